/-
  OpenS25, OpenW25, ItClone, SymShP, SymShQ, SymShD, SortGen, CmpRow, LaySort, SortRow, SymRow0, SymShR, SymRSh3, SymLw0, SymDr0, SymDr1, SymDr2, SymDr3: put together by a program of mine (a claim may have 60 files at most). Conditions: none.
-/
import Derived.WalkKit
import Derived.WalkLawsBesides
import Derived.WalkSpells
import Derived.Lib.Hide
import Derived.Deep.QuietTactic
import Derived.BigQuiet
import Derived.Deep.LoopGhost
import Derived.Deep.DeepCutAuto
import Derived.Deep.RegionLaw
import Derived.Lib.Overlaps
import Derived.Laws.CopyOwn
import Derived.IntWalk
import Derived.ProofKit
import Derived.OpenShut
import Derived.ShutString
import Derived.ChangeOld
import Derived.Deep.Slices
import Derived.Test.YtikkeibmjppboaaGreatProg
import Derived.Orders
import Derived.OrdersHeld
import Derived.Defers
import Derived.Recover
import Derived.Lib.BitFns
import Derived.ChangeKeysEq
import Derived.Test.YtikkeibmjppboaaGreatChecked
import Derived.Lib.BufferWrite
import Derived.Maps.OwnSet
import Derived.Maps.RangeWalk
import Derived.Maps.Ext
import Derived.DeepKeys4
import Derived.LoopN
import Derived.Shelf.SlSortCmp.WholeK
import Derived.Shelf.SlSortCmp.NoneTotal
import Derived.Deep.RegionHeld3
import Derived.Ground.SlsfProg
import Derived.Shelf.SlGeneric
import Derived.Test.YtikkeibmjppboaaGreatMgY1
import Derived.Test.YtikkeibmjppboaaGreatMgY2
import Derived.Test.YtikkeibmjppboaaGreatMgY3
import Derived.Test.YtikkeibmjppboaaGreatMgY4
set_option linter.unusedVariables false
set_option linter.unusedSimpArgs false
set_option maxRecDepth 100000
set_option maxHeartbeats 1600000
namespace Go.Proofs.YtikkeibmjppboaaGreat.Sym
open Go Go.ChangeShapes Go.WideShapes Go.ChangeAt Go.RowKit Go.Deep
def OkL (w : World) (l : List AV) : Prop := ∀ v ∈ l, v.one = true ∧ Ok m0 w v
theorem OkL.nil {w : World} : OkL w [] := fun v hv => by cases hv
theorem OkL.cons {w : World} {v : AV} {l : List AV} (h1 : v.one = true) (h2 : Ok m0 w v) (h : OkL w l) : OkL w (v :: l) := by
 intro u hu
 rcases List.mem_cons.1 hu with rfl | hu
 ·exact ⟨h1, h2⟩
 exact h u hu
theorem OkL.int {w : World} {k : IntKind} {x : Int} {l : List AV} (h : OkL w l) : OkL w (.int k x :: l) := .cons rfl (.int _ _) h
theorem OkL.bool {w : World} {b : BE} {l : List AV} (h : OkL w l) : OkL w (.bool b :: l) := .cons rfl (.bool _) h
theorem OkL.append {w : World} {l l' : List AV} (h : OkL w l) (h' : OkL w l') : OkL w (l ++ l') := by
 intro u hu
 rcases List.mem_append.1 hu with hu | hu
 ·exact h u hu
 exact h' u hu
theorem OkL.agg {w : World} {l : List AV} (h : OkL w l) : Ok m0 w (.agg l) := .agg _ (fun v hv => (h v hv).1) fun v hv => (h v hv).2
def RowWf (w : World) (x : RowA) : Prop := OkL w (rowC x) ∧ x.x.r.n ≤ maxLen ∧ LabOk x.lab ∧ LabOk x.x.r.nx ∧ U64 x.ver ∧ ∀ i, i < x.x.r.n → U64 (x.x.r.f i).key
theorem LabOk.u64 {l : Lab} (h : LabOk l) : U64 l.bits := u64_wf h.2
theorem rows_okg {α : Type} [Inhabited α] {k : Nat} {cells : α → List AV} {w : World} {A : Option Addr} {c : Nat} {l : List α} (hk : ∀ x, (cells x).length = k) (hl : l.length ≤ c) (hc : c ≤ maxLen) (ho : ∀ x ∈ l, OkL w (cells x))
  (h : 0 < (l.flatMap fun x => (cells x).map AV.den).length → ∃ b off, A = some ⟨b, off, none⟩ ∧ ∀ j u, (l.flatMap fun x => (cells x).map AV.den)[j]? = some u → w.cell? ⟨b, off + j, none⟩ = some u) (hk0 : 0 < k) : Ok m0 w (.sl none A l.length c k (fun i => cells (l.getD i default))) := by
 have hg : ∀ i (hi : i < l.length), l.getD i default = l[i] := fun i hi => by simp [List.getD, hi]
 have hkm : ∀ x, ((cells x).map AV.den).length = k := fun x => by rw [List.length_map, hk]
 have hpos : ∀ i, i < l.length → 0 < (l.flatMap fun x => (cells x).map AV.den).length := fun i hi => by rw [flat_length hkm]; exact Nat.mul_pos (by omega) hk0
 refine .sl _ _ _ _ _ _ hl hc (fun i _ => hk _) (fun i hi => ?_) (fun i hi j u hu => ?_) (fun i hi v hv => ?_) (fun i hi v hv => ?_)
 ·obtain ⟨b, off, hA, _⟩ := h (hpos i hi); exact ⟨b, off, hA⟩
 ·obtain ⟨b, off, hA, hcl⟩ := h (hpos i hi)
  rw [hg i hi] at hu
  exact ⟨b, off, hA, hcl _ u (flat_get hkm (List.getElem?_eq_getElem hi) hu), id⟩
 ·rw [hg i hi] at hv; exact (ho _ (List.getElem_mem hi) v hv).1
 rw [hg i hi] at hv; exact (ho _ (List.getElem_mem hi) v hv).2
section
variable {H : Type} {enc : TypeId × Value → H} {w : World} {base : Nat} {spare : Nat → Bool} {held : Bool}
theorem dec_labk (n : Nat) (cs : List Value) (y : DataW H × List MemPlace) (h : DataW.trod enc Tryz.prog w base spare held n 41 cs = some y) : ∃ x : Lab, cs = [.int .i64 x.len, .int .u64 x.bits] ∧ LabOk x := by
 obtain ⟨xs, m, rfl, rfl, hlen, hxl, hf⟩ := DataW.trod_struct Tryz.underlying41 h
 have hC : Tryz.prog.cellsOf 41 = 2 := by kernel_rfl
 have h0 : DataW.trod enc Tryz.prog w base spare held m 3 ((cs.drop 0).take (Tryz.prog.cellsOf 3)) = xs[0]? := hf 0 _ rfl
 have h1 : DataW.trod enc Tryz.prog w base spare held m 39 ((cs.drop 1).take (Tryz.prog.cellsOf 39)) = xs[1]? := hf 1 _ rfl
 rw [hC] at hlen
 rw [show Tryz.prog.cellsOf 3 = 1 by kernel_rfl] at h0
 rw [show Tryz.prog.cellsOf 39 = 1 by kernel_rfl] at h1
 match cs, hlen with
 | [c0, c1], _ =>
  match xs, hxl with
  | [y0, y1], _ =>
   obtain ⟨a, e0, _, wa⟩ := DataW.trod_int Tryz.underlying3 h0
   obtain ⟨b, e1, _, wb⟩ := DataW.trod_int Tryz.underlying39 h1
   simp at e0 e1
   subst e0; subst e1
   exact ⟨⟨a, b⟩, rfl, wa, wb⟩
theorem dec_its (n : Nat) (cs : List Value) (y : DataW H × List MemPlace) (h : DataW.trod enc Tryz.prog w base spare held n 24 cs = some y) : ∃ (A : Option Addr) (c k : Nat) (f : Nat → Itm), cs = [(AV.sl none A k c 2 (fun i => itC (f i))).den] ∧ Ok m0 w (.sl none A k c 2 (fun i => itC (f i))) ∧ k ≤ maxLen ∧ ∀ i, i < k → U64 (f i).key := by
 obtain ⟨A, c, l, e1, hr, hl, hm, hwf⟩ := trod_list (en := itmE) Tryz.underlying24 (k := 2) (by kernel_rfl) itmE_len (by decide) dec_itm h
 have hrow : Ok m0 w (rowI A l.length c (itF l)) := rows_ok hl hm (fun x hx => (hwf x hx).1) fun hp => by
  obtain ⟨b, off, hA, _, hc⟩ := hr hp
  exact ⟨b, off, hA, fun j u hu => ⟨hc j u hu, id⟩⟩
 exact ⟨A, c, l.length, itF l, e1, hrow, by omega, fun i hi => by simp only [itF, List.getD, List.getElem?_eq_getElem hi]; exact (hwf _ (List.getElem_mem hi)).2⟩
theorem dec_recx (n : Nat) (cs : List Value) (y : DataW H × List MemPlace) (h : DataW.trod enc Tryz.prog w base spare held n 54 cs = some y) : ∃ x : RA, cs = (recC x).map AV.den ∧ OkL w (recC x) ∧ x.r.n ≤ maxLen ∧ LabOk x.r.nx ∧ ∀ i, i < x.r.n → U64 (x.r.f i).key := by
 obtain ⟨xs, m, rfl, rfl, hlen, hxl, hf⟩ := DataW.trod_struct Tryz.underlying54 h
 have hC : Tryz.prog.cellsOf 54 = 5 := by kernel_rfl
 have h0 : DataW.trod enc Tryz.prog w base spare held m 3 ((cs.drop 0).take (Tryz.prog.cellsOf 3)) = xs[0]? := hf 0 _ rfl
 have h1 : DataW.trod enc Tryz.prog w base spare held m 24 ((cs.drop 1).take (Tryz.prog.cellsOf 24)) = xs[1]? := hf 1 _ rfl
 have h2 : DataW.trod enc Tryz.prog w base spare held m 41 ((cs.drop 2).take (Tryz.prog.cellsOf 41)) = xs[2]? := hf 2 _ rfl
 have h3 : DataW.trod enc Tryz.prog w base spare held m 39 ((cs.drop 4).take (Tryz.prog.cellsOf 39)) = xs[3]? := hf 3 _ rfl
 rw [hC] at hlen
 rw [show Tryz.prog.cellsOf 3 = 1 by kernel_rfl] at h0
 rw [show Tryz.prog.cellsOf 24 = 1 by kernel_rfl] at h1
 rw [show Tryz.prog.cellsOf 41 = 2 by kernel_rfl] at h2
 rw [show Tryz.prog.cellsOf 39 = 1 by kernel_rfl] at h3
 match cs, hlen with
 | [c0, c1, c2, c3, c4], _ =>
  match xs, hxl with
  | [y0, y1, y2, y3], _ =>
   obtain ⟨kd, e0, _, _⟩ := DataW.trod_int Tryz.underlying3 h0
   obtain ⟨A, c, k, f, e1, hrow, hk, hky⟩ := dec_its _ _ _ h1
   obtain ⟨nx, e2, hb⟩ := dec_labk _ _ _ h2
   obtain ⟨mk, e3, _, wm⟩ := DataW.trod_int Tryz.underlying39 h3
   simp only [List.drop_zero, List.drop_succ_cons, List.take_succ_cons, List.take_zero, List.cons.injEq, and_true] at e0 e1 e2 e3
   obtain ⟨e2, e4⟩ := e2
   subst e0; subst e1; subst e2; subst e3; subst e4
   exact ⟨⟨A, c, ⟨k, f, kd, nx, mk⟩⟩, rfl, .int (.cons rfl hrow (.int (.int (.int .nil)))), hk, hb, hky⟩
theorem dec_row (n : Nat) (cs : List Value) (y : DataW H × List MemPlace) (h : DataW.trod enc Tryz.prog w base spare held n 73 cs = some y) : ∃ x : RowA, cs = (rowC x).map AV.den ∧ RowWf w x := by
 obtain ⟨xs, m, rfl, rfl, hlen, hxl, hf⟩ := DataW.trod_struct Tryz.underlying73 h
 have hC : Tryz.prog.cellsOf 73 = 8 := by kernel_rfl
 have h0 : DataW.trod enc Tryz.prog w base spare held m 41 ((cs.drop 0).take (Tryz.prog.cellsOf 41)) = xs[0]? := hf 0 _ rfl
 have h1 : DataW.trod enc Tryz.prog w base spare held m 39 ((cs.drop 2).take (Tryz.prog.cellsOf 39)) = xs[1]? := hf 1 _ rfl
 have h2 : DataW.trod enc Tryz.prog w base spare held m 54 ((cs.drop 3).take (Tryz.prog.cellsOf 54)) = xs[2]? := hf 2 _ rfl
 rw [hC] at hlen
 rw [show Tryz.prog.cellsOf 41 = 2 by kernel_rfl] at h0
 rw [show Tryz.prog.cellsOf 39 = 1 by kernel_rfl] at h1
 rw [show Tryz.prog.cellsOf 54 = 5 by kernel_rfl] at h2
 match cs, hlen with
 | [c0, c1, c2, c3, c4, c5, c6, c7], _ =>
  match xs, hxl with
  | [y0, y1, y2], _ =>
   obtain ⟨l, e0, hl⟩ := dec_labk _ _ _ h0
   obtain ⟨v, e1, _, wv⟩ := DataW.trod_int Tryz.underlying39 h1
   obtain ⟨x, e2, hx, hn, hnx, hky⟩ := dec_recx _ _ _ h2
   simp only [List.drop_zero, List.drop_succ_cons, List.take_succ_cons, List.take_zero, List.cons.injEq, and_true, recC, List.map_cons, List.map_nil] at e0 e1 e2
   obtain ⟨e0, e3⟩ := e0
   obtain ⟨e4, e5, e6, e7, e8⟩ := e2
   subst e0; subst e1; subst e3; subst e4; subst e5; subst e6; subst e7; subst e8
   exact ⟨⟨l, v, x⟩, rfl, .int (.int (.int hx)), hn, hl, hnx, u64_wf wv, hky⟩
theorem dec_int1 (n : Nat) (cs : List Value) (y : DataW H × List MemPlace) (h : DataW.trod enc Tryz.prog w base spare held n 3 cs = some y) : ∃ x : Int, cs = [Value.int .i64 x] ∧ True := by
 obtain ⟨a, e0, _, _⟩ := DataW.trod_int Tryz.underlying3 h
 exact ⟨a, e0, trivial⟩
theorem dec_ints (n : Nat) (cs : List Value) (y : DataW H × List MemPlace) (h : DataW.trod enc Tryz.prog w base spare held n 42 cs = some y) : ∃ (A : Option Addr) (c k : Nat) (f : Nat → Int), cs = [(AV.sl none A k c 1 (fun i => [.int .i64 (f i)])).den] ∧ Ok m0 w (.sl none A k c 1 (fun i => [.int .i64 (f i)])) := by
 obtain ⟨A, c, l, e1, hr, hl, hm, hwf⟩ := trod_list (en := fun x : Int => [Value.int .i64 x]) Tryz.underlying42 (k := 1) (by kernel_rfl) (fun _ => rfl) (by decide) dec_int1 h
 have hrow : Ok m0 w (.sl none A l.length c 1 (fun i => [.int .i64 (l.getD i default)])) := rows_okg (cells := fun x : Int => [AV.int .i64 x]) (fun _ => rfl) hl hm (fun x _ => .int .nil) (fun hp => by
  obtain ⟨b, off, hA, _, hc⟩ := hr hp
  exact ⟨b, off, hA, fun j u hu => hc j u hu⟩) (by decide)
 exact ⟨A, c, l.length, fun i => l.getD i default, e1, hrow⟩
theorem dec_rect (n : Nat) (cs : List Value) (y : DataW H × List MemPlace) (h : DataW.trod enc Tryz.prog w base spare held n 45 cs = some y) : ∃ x1 x2 y1 y2 : Int, cs = [.int .u32 x1, .int .u32 x2, .int .u32 y1, .int .u32 y2] := by
 obtain ⟨xs, m, rfl, rfl, hlen, hxl, hf⟩ := DataW.trod_struct Tryz.underlying45 h
 have hC : Tryz.prog.cellsOf 45 = 4 := by kernel_rfl
 have h0 : DataW.trod enc Tryz.prog w base spare held m 43 ((cs.drop 0).take (Tryz.prog.cellsOf 43)) = xs[0]? := hf 0 _ rfl
 have h1 : DataW.trod enc Tryz.prog w base spare held m 43 ((cs.drop 1).take (Tryz.prog.cellsOf 43)) = xs[1]? := hf 1 _ rfl
 have h2 : DataW.trod enc Tryz.prog w base spare held m 43 ((cs.drop 2).take (Tryz.prog.cellsOf 43)) = xs[2]? := hf 2 _ rfl
 have h3 : DataW.trod enc Tryz.prog w base spare held m 43 ((cs.drop 3).take (Tryz.prog.cellsOf 43)) = xs[3]? := hf 3 _ rfl
 rw [hC] at hlen
 rw [show Tryz.prog.cellsOf 43 = 1 by kernel_rfl] at h0 h1 h2 h3
 match cs, hlen with
 | [c0, c1, c2, c3], _ =>
  match xs, hxl with
  | [y0, y1, y2, y3], _ =>
   obtain ⟨a0, e0, _, _⟩ := DataW.trod_int Tryz.underlying43 h0
   obtain ⟨a1, e1, _, _⟩ := DataW.trod_int Tryz.underlying43 h1
   obtain ⟨a2, e2, _, _⟩ := DataW.trod_int Tryz.underlying43 h2
   obtain ⟨a3, e3, _, _⟩ := DataW.trod_int Tryz.underlying43 h3
   simp at e0 e1 e2 e3
   subst e0; subst e1; subst e2; subst e3
   exact ⟨_, _, _, _, rfl⟩
theorem dec_job (n : Nat) (cs : List Value) (y : DataW H × List MemPlace) (h : DataW.trod enc Tryz.prog w base spare held n 47 cs = some y) : ∃ x : JobA, cs = (jobC x).map AV.den ∧ OkL w (jobC x) ∧ JobIn x := by
 obtain ⟨xs, m, rfl, rfl, hlen, hxl, hf⟩ := DataW.trod_struct Tryz.underlying47 h
 have hC : Tryz.prog.cellsOf 47 = 15 := by kernel_rfl
 have h0 : DataW.trod enc Tryz.prog w base spare held m 3 ((cs.drop 0).take (Tryz.prog.cellsOf 3)) = xs[0]? := hf 0 _ rfl
 have h1 : DataW.trod enc Tryz.prog w base spare held m 41 ((cs.drop 1).take (Tryz.prog.cellsOf 41)) = xs[1]? := hf 1 _ rfl
 have h2 : DataW.trod enc Tryz.prog w base spare held m 39 ((cs.drop 3).take (Tryz.prog.cellsOf 39)) = xs[2]? := hf 2 _ rfl
 have h3 : DataW.trod enc Tryz.prog w base spare held m 39 ((cs.drop 4).take (Tryz.prog.cellsOf 39)) = xs[3]? := hf 3 _ rfl
 have h4 : DataW.trod enc Tryz.prog w base spare held m 9 ((cs.drop 5).take (Tryz.prog.cellsOf 9)) = xs[4]? := hf 4 _ rfl
 have h5 : DataW.trod enc Tryz.prog w base spare held m 3 ((cs.drop 6).take (Tryz.prog.cellsOf 3)) = xs[5]? := hf 5 _ rfl
 have h6 : DataW.trod enc Tryz.prog w base spare held m 42 ((cs.drop 7).take (Tryz.prog.cellsOf 42)) = xs[6]? := hf 6 _ rfl
 have h7 : DataW.trod enc Tryz.prog w base spare held m 45 ((cs.drop 8).take (Tryz.prog.cellsOf 45)) = xs[7]? := hf 7 _ rfl
 have h8 : DataW.trod enc Tryz.prog w base spare held m 3 ((cs.drop 12).take (Tryz.prog.cellsOf 3)) = xs[8]? := hf 8 _ rfl
 have h9 : DataW.trod enc Tryz.prog w base spare held m 3 ((cs.drop 13).take (Tryz.prog.cellsOf 3)) = xs[9]? := hf 9 _ rfl
 have h10 : DataW.trod enc Tryz.prog w base spare held m 3 ((cs.drop 14).take (Tryz.prog.cellsOf 3)) = xs[10]? := hf 10 _ rfl
 rw [hC] at hlen
 rw [show Tryz.prog.cellsOf 3 = 1 by kernel_rfl] at h0 h5 h8 h9 h10
 rw [show Tryz.prog.cellsOf 41 = 2 by kernel_rfl] at h1
 rw [show Tryz.prog.cellsOf 39 = 1 by kernel_rfl] at h2 h3
 rw [show Tryz.prog.cellsOf 9 = 1 by kernel_rfl] at h4
 rw [show Tryz.prog.cellsOf 42 = 1 by kernel_rfl] at h6
 rw [show Tryz.prog.cellsOf 45 = 4 by kernel_rfl] at h7
 match cs, hlen with
 | [c0, c1, c2, c3, c4, c5, c6, c7, c8, c9, c10, c11, c12, c13, c14], _ =>
  match xs, hxl with
  | [y0, y1, y2, y3, y4, y5, y6, y7, y8, y9, y10], _ =>
   obtain ⟨kd, e0, _, _⟩ := DataW.trod_int Tryz.underlying3 h0
   obtain ⟨l, e1, hl⟩ := dec_labk _ _ _ h1
   obtain ⟨ky, e2, _, wk⟩ := DataW.trod_int Tryz.underlying39 h2
   obtain ⟨hi, e3, _, wh⟩ := DataW.trod_int Tryz.underlying39 h3
   obtain ⟨vl, e4, _, ws⟩ := DataW.trod_string Tryz.underlying9 h4
   obtain ⟨ms, e5, _, _⟩ := DataW.trod_int Tryz.underlying3 h5
   obtain ⟨pA, pc, pn, pf, e6, hp⟩ := dec_ints _ _ _ h6
   obtain ⟨x1, x2, y1, y2, e7⟩ := dec_rect _ _ _ h7
   obtain ⟨hw, e8, _, _⟩ := DataW.trod_int Tryz.underlying3 h8
   obtain ⟨bk, e9, _, _⟩ := DataW.trod_int Tryz.underlying3 h9
   obtain ⟨bg, e10, _, _⟩ := DataW.trod_int Tryz.underlying3 h10
   simp only [List.drop_zero, List.drop_succ_cons, List.take_succ_cons, List.take_zero, List.cons.injEq, and_true] at e0 e1 e2 e3 e4 e5 e6 e7 e8 e9 e10
   obtain ⟨e1, f1⟩ := e1
   obtain ⟨g0, g1, g2, g3⟩ := e7
   subst e0; subst e1; subst f1; subst e2; subst e3; subst e4; subst e5; subst e6; subst g0; subst g1; subst g2; subst g3; subst e8; subst e9; subst e10
   exact ⟨⟨kd, l, ky, hi, vl, ms, pA, pn, pc, pf, x1, x2, y1, y2, hw, bk, bg⟩, rfl, .int (.int (.int (.int (.int (.cons rfl (.str _ ws) (.int (.cons rfl hp (.int (.int (.int (.int (.int (.int (.int .nil)))))))))))))), hl.u64, u64_wf wk, u64_wf wh⟩
variable {r : Reach} {b0 : Nat} {v : Value} {d : DataW H} {p : List MemPlace}
def InJob (w : World) (v : Value) : Prop := ∃ J : JobA, v = (jobV J).den ∧ Ok m0 w (jobV J) ∧ JobIn J
def InRow (w : World) (v : Value) : Prop := ∃ (A : Option Addr) (n c : Nat) (f : Nat → RowA), v = (rowsV A n c f).den ∧ Ok m0 w (rowsV A n c f) ∧ n ≤ maxLen ∧ ∀ i, i < n → RowWf w (f i)
instance inhGot25 : Inhabited GotA := ⟨zGot⟩
instance inhRow25 : Inhabited RowA := ⟨zRow⟩
theorem in_rows (hv : Value.okWide Tryz.prog w r b0 22 v) (h : DataW.Trod enc Tryz.prog w base spare held 22 v d p) : InRow w v := by
 obtain ⟨a, len, cap, rfl⟩ := okWide_slice Tryz.underlying22 hv
 obtain ⟨fuel, hf⟩ := h
 obtain ⟨A, c, l, e1, hr, hl, hm, hwf⟩ := trod_list (en := fun x => (rowC x).map AV.den) (wf := RowWf w) Tryz.underlying22 (k := 8) (by kernel_rfl) (fun _ => rfl) (by decide) dec_row hf
 simp only [Value.cells, List.cons.injEq, and_true] at e1
 rw [e1]
 refine ⟨A, l.length, c, fun i => l.getD i default, rfl, rows_okg (fun _ => rfl) hl hm (fun x hx => (hwf x hx).1) (fun hp => ?_) (by decide), by omega, fun i hi => ?_⟩
 ·obtain ⟨b, off, hA, _, hc⟩ := hr hp
  exact ⟨b, off, hA, fun j u hu => hc j u hu⟩
 have : l.getD i default = l[i] := by simp [List.getD, hi]
 simp only [this]; exact hwf _ (List.getElem_mem hi)
theorem in_job (hv : Value.okWide Tryz.prog w r b0 47 v) (h : DataW.Trod enc Tryz.prog w base spare held 47 v d p) : InJob w v := by
 obtain ⟨cs, rfl, _⟩ := okWide_struct Tryz.underlying47 hv
 obtain ⟨fuel, hf⟩ := h
 obtain ⟨x, hx, hw⟩ := dec_job _ _ _ hf
 simp only [Value.cells] at hx
 obtain ⟨l, rfl⟩ : ∃ l : List Value, cs = l.toArray := ⟨cs.toList, by simp⟩
 simp only [List.toList_toArray] at hx
 subst hx
 exact ⟨x, by simp [AV.den, AV.denL], hw.1.agg, hw.2⟩
end
abbrev wntsV (A : Option Addr) (n c : Nat) (f : Nat → WntA) : AV := .sl none A n c 15 (fun i => wntC (f i))
def WntWf (w : World) (x : WntA) : Prop := OkL w (wntC x) ∧ x.x.r.n ≤ maxLen ∧ LabOk x.lab ∧ LabOk x.x.r.nx ∧ ∀ i, i < x.x.r.n → U64 (x.x.r.f i).key
section
variable {H : Type} {enc : TypeId × Value → H} {w : World} {base : Nat} {spare : Nat → Bool} {held : Bool}
abbrev resC (s : ResA) : List AV := [.int .i64 s.code, .bool (.v s.had), .str s.val, .sl none s.A s.n s.c 2 (fun i => itC (s.f i)), .int .u64 s.key, .bool (.v s.more)]
theorem dec_res (n : Nat) (cs : List Value) (y : DataW H × List MemPlace) (h : DataW.trod enc Tryz.prog w base spare held n 56 cs = some y) : ∃ x : ResA, cs = (resC x).map AV.den ∧ OkL w (resC x) := by
 obtain ⟨xs, m, rfl, rfl, hlen, hxl, hf⟩ := DataW.trod_struct Tryz.underlying56 h
 have hC : Tryz.prog.cellsOf 56 = 6 := by kernel_rfl
 have h0 : DataW.trod enc Tryz.prog w base spare held m 25 ((cs.drop 0).take (Tryz.prog.cellsOf 25)) = xs[0]? := hf 0 _ rfl
 have h1 : DataW.trod enc Tryz.prog w base spare held m 4 ((cs.drop 1).take (Tryz.prog.cellsOf 4)) = xs[1]? := hf 1 _ rfl
 have h2 : DataW.trod enc Tryz.prog w base spare held m 9 ((cs.drop 2).take (Tryz.prog.cellsOf 9)) = xs[2]? := hf 2 _ rfl
 have h3 : DataW.trod enc Tryz.prog w base spare held m 24 ((cs.drop 3).take (Tryz.prog.cellsOf 24)) = xs[3]? := hf 3 _ rfl
 have h4 : DataW.trod enc Tryz.prog w base spare held m 39 ((cs.drop 4).take (Tryz.prog.cellsOf 39)) = xs[4]? := hf 4 _ rfl
 have h5 : DataW.trod enc Tryz.prog w base spare held m 4 ((cs.drop 5).take (Tryz.prog.cellsOf 4)) = xs[5]? := hf 5 _ rfl
 rw [hC] at hlen
 rw [show Tryz.prog.cellsOf 25 = 1 by kernel_rfl] at h0
 rw [show Tryz.prog.cellsOf 4 = 1 by kernel_rfl] at h1 h5
 rw [show Tryz.prog.cellsOf 9 = 1 by kernel_rfl] at h2
 rw [show Tryz.prog.cellsOf 24 = 1 by kernel_rfl] at h3
 rw [show Tryz.prog.cellsOf 39 = 1 by kernel_rfl] at h4
 match cs, hlen with
 | [c0, c1, c2, c3, c4, c5], _ =>
  match xs, hxl with
  | [y0, y1, y2, y3, y4, y5], _ =>
   obtain ⟨a, e0, _, _⟩ := DataW.trod_int Tryz.underlying25 h0
   obtain ⟨b, e1, _⟩ := DataW.trod_bool Tryz.underlying4 h1
   obtain ⟨s, e2, _, ws⟩ := DataW.trod_string Tryz.underlying9 h2
   obtain ⟨A, c, k, f, e3, hrow, hk, _⟩ := dec_its _ _ _ h3
   obtain ⟨kk, e4, _, _⟩ := DataW.trod_int Tryz.underlying39 h4
   obtain ⟨mo, e5, _⟩ := DataW.trod_bool Tryz.underlying4 h5
   simp only [List.drop_zero, List.drop_succ_cons, List.take_succ_cons, List.take_zero, List.cons.injEq, and_true] at e0 e1 e2 e3 e4 e5
   subst e0; subst e1; subst e2; subst e3; subst e4; subst e5
   exact ⟨⟨a, b, s, A, k, c, f, kk, mo⟩, rfl, .int (.bool (.cons rfl (.str _ ws) (.cons rfl hrow (.int (.bool .nil)))))⟩
theorem dec_wnt (n : Nat) (cs : List Value) (y : DataW H × List MemPlace) (h : DataW.trod enc Tryz.prog w base spare held n 58 cs = some y) : ∃ x : WntA, cs = (wntC x).map AV.den ∧ WntWf w x := by
 obtain ⟨xs, m, rfl, rfl, hlen, hxl, hf⟩ := DataW.trod_struct Tryz.underlying58 h
 have hC : Tryz.prog.cellsOf 58 = 15 := by kernel_rfl
 have h0 : DataW.trod enc Tryz.prog w base spare held m 3 ((cs.drop 0).take (Tryz.prog.cellsOf 3)) = xs[0]? := hf 0 _ rfl
 have h1 : DataW.trod enc Tryz.prog w base spare held m 41 ((cs.drop 1).take (Tryz.prog.cellsOf 41)) = xs[1]? := hf 1 _ rfl
 have h2 : DataW.trod enc Tryz.prog w base spare held m 39 ((cs.drop 3).take (Tryz.prog.cellsOf 39)) = xs[2]? := hf 2 _ rfl
 have h3 : DataW.trod enc Tryz.prog w base spare held m 54 ((cs.drop 4).take (Tryz.prog.cellsOf 54)) = xs[3]? := hf 3 _ rfl
 have h4 : DataW.trod enc Tryz.prog w base spare held m 56 ((cs.drop 9).take (Tryz.prog.cellsOf 56)) = xs[4]? := hf 4 _ rfl
 rw [hC] at hlen
 rw [show Tryz.prog.cellsOf 3 = 1 by kernel_rfl] at h0
 rw [show Tryz.prog.cellsOf 41 = 2 by kernel_rfl] at h1
 rw [show Tryz.prog.cellsOf 39 = 1 by kernel_rfl] at h2
 rw [show Tryz.prog.cellsOf 54 = 5 by kernel_rfl] at h3
 rw [show Tryz.prog.cellsOf 56 = 6 by kernel_rfl] at h4
 match cs, hlen with
 | [c0, c1, c2, c3, c4, c5, c6, c7, c8, c9, c10, c11, c12, c13, c14], _ =>
  match xs, hxl with
  | [y0, y1, y2, y3, y4], _ =>
   obtain ⟨k, e0, _, _⟩ := DataW.trod_int Tryz.underlying3 h0
   obtain ⟨l, e1, hl⟩ := dec_labk _ _ _ h1
   obtain ⟨v, e2, _, wv⟩ := DataW.trod_int Tryz.underlying39 h2
   obtain ⟨x, e3, hx, hn, hnx, hky⟩ := dec_recx _ _ _ h3
   obtain ⟨s, e4, hs⟩ := dec_res _ _ _ h4
   simp only [List.drop_zero, List.drop_succ_cons, List.take_succ_cons, List.take_zero, List.cons.injEq, and_true, recC, resC, List.map_cons, List.map_nil] at e0 e1 e2 e3 e4
   obtain ⟨e1, e5⟩ := e1
   obtain ⟨e6, e7, e8, e9, e10⟩ := e3
   obtain ⟨e11, e12, e13, e14, e15, e16⟩ := e4
   subst e0; subst e1; subst e2; subst e5; subst e6; subst e7; subst e8; subst e9; subst e10; subst e11; subst e12; subst e13; subst e14; subst e15; subst e16
   exact ⟨⟨k, l, v, x, s⟩, rfl, .int (.int (.int (.int (hx.append hs)))), hn, hl, hnx, hky⟩
variable {r : Reach} {b0 : Nat} {v : Value} {d : DataW H} {p : List MemPlace}
def InWnts (w : World) (v : Value) : Prop := ∃ (A : Option Addr) (n c : Nat) (f : Nat → WntA), v = (wntsV A n c f).den ∧ Ok m0 w (wntsV A n c f) ∧ n ≤ maxLen ∧ ∀ i, i < n → WntWf w (f i)
instance inhWnt25 : Inhabited WntA := ⟨⟨0, ⟨0, 0⟩, 0, zRA, ⟨0, false, .empty, none, 0, 0, fun _ => zeroItm, 0, false⟩⟩⟩
theorem in_wnts (hv : Value.okWide Tryz.prog w r b0 48 v) (h : DataW.Trod enc Tryz.prog w base spare held 48 v d p) : InWnts w v := by
 obtain ⟨a, len, cap, rfl⟩ := okWide_slice Tryz.underlying48 hv
 obtain ⟨fuel, hf⟩ := h
 obtain ⟨A, c, l, e1, hr, hl, hm, hwf⟩ := trod_list (en := fun x => (wntC x).map AV.den) (wf := WntWf w) Tryz.underlying48 (k := 15) (by kernel_rfl) (fun _ => rfl) (by decide) dec_wnt hf
 simp only [Value.cells, List.cons.injEq, and_true] at e1
 rw [e1]
 refine ⟨A, l.length, c, fun i => l.getD i default, rfl, rows_okg (fun _ => rfl) hl hm (fun x hx => (hwf x hx).1) (fun hp => ?_) (by decide), by omega, fun i hi => ?_⟩
 ·obtain ⟨b, off, hA, _, hc⟩ := hr hp
  exact ⟨b, off, hA, fun j u hu => hc j u hu⟩
 have : l.getD i default = l[i] := by simp [List.getD, hi]
 simp only [this]; exact hwf _ (List.getElem_mem hi)
end
end Go.Proofs.YtikkeibmjppboaaGreat.Sym
namespace Go.Proofs.YtikkeibmjppboaaGreat.Sym
open Go Go.RowKit
namespace Cl
theorem etyI : ElemTy Tryz.prog 24 85 2 24 (.agg #[.int .u64 0, .string ⟨#[]⟩]) := ⟨by kernel_rfl, by kernel_rfl, rfl, by decide⟩
def itmE (x : Itm) : List Value := [.int .u64 x.key, .string x.val]
theorem itmE_len (x : Itm) : (itmE x).length = 2 := rfl
theorem rows_ok {m : Nat → Nat → Prop} {w : World} {A : Option Addr} {k : Nat} {l : List Itm} (hl : l.length ≤ k) (hk : k ≤ maxLen) (hs : ∀ x ∈ l, x.val.size ≤ maxLen)
  (h : 0 < (l.flatMap itmE).length → ∃ b off, A = some ⟨b, off, none⟩ ∧ ∀ j u, (l.flatMap itmE)[j]? = some u → w.cell? ⟨b, off + j, none⟩ = some u ∧ ¬ m b (off + j)) : Ok m w (rowI A l.length k (itF l)) := by
 have hg : ∀ i (hi : i < l.length), itF l i = l[i] := fun i hi => by simp [itF, List.getD, hi]
 have hpos : ∀ i, i < l.length → 0 < (l.flatMap itmE).length := fun i hi => by rw [flat_length itmE_len]; omega
 refine .sl _ _ _ _ _ _ hl hk (fun i _ => rfl) (fun i hi => ?_) (fun i hi j u hu => ?_) (fun i hi v hv => ?_) (fun i hi v hv => ?_)
 ·obtain ⟨b, off, hA, _⟩ := h (hpos i hi); exact ⟨b, off, hA⟩
 ·obtain ⟨b, off, hA, hc⟩ := h (hpos i hi)
  have hu' : (itmE (itF l i))[j]? = some u := hu
  rw [hg i hi] at hu'
  exact ⟨b, off, hA, hc _ u (flat_get itmE_len (List.getElem?_eq_getElem hi) hu')⟩
 ·simp only [itC, List.mem_cons, List.not_mem_nil, or_false] at hv
  rcases hv with rfl | rfl <;> rfl
 simp only [itC, List.mem_cons, List.not_mem_nil, or_false] at hv
 rcases hv with rfl | rfl
 ·exact .int _ _
 exact .str _ (by rw [hg i hi]; exact hs _ (List.getElem_mem hi))
variable {H : Type} {enc : TypeId × Value → H} {w : World} {base : Nat} {spare : Nat → Bool} {held : Bool}
theorem itmE_one (x : Itm) : ∀ v ∈ itmE x, v.oneCell' = true := by
 intro v hv
 simp only [itmE, List.mem_cons, List.not_mem_nil, or_false] at hv
 rcases hv with rfl | rfl <;> rfl
theorem rowFlat_its (l : List Itm) : rowFlat (fun i => itC (itF l i)) l.length = l.flatMap itmE := by
 have key : ∀ n, n ≤ l.length → rowFlat (fun i => itC (itF l i)) n = (l.take n).flatMap itmE := by
  intro n
  induction n with
  | zero => intro _; simp [rowFlat]
  | succ n ih =>
   intro h
   rw [rowFlat_succ, ih (by omega), List.take_succ_eq_append_getElem (by omega), List.flatMap_append]
   simp [itF, List.getD, List.getElem?_eq_getElem (show n < l.length by omega)]
   rfl
 have := key l.length (Nat.le_refl _)
 rwa [List.take_length] at this
theorem its_reads {m : Nat → Nat → Prop} {w : World} {A : Option Addr} {c : Nat} {l : List Itm} (h : Ok m w (rowI A l.length c (itF l))) : ReadsL itmE w w.heap.size A l := by
 have := row_of_ok h
 rw [rowFlat_its] at this
 exact this
theorem its_vals {m : Nat → Nat → Prop} {w : World} {A : Option Addr} {c : Nat} {l : List Itm} (h : Ok m w (rowI A l.length c (itF l))) : ∀ x ∈ l, x.val.size ≤ maxLen := by
 intro x hx
 obtain ⟨i, hi, rfl⟩ := List.mem_iff_getElem.1 hx
 cases h with
 | sl _ _ _ _ _ _ h1 h2 h3 h4 h5 h6 h7 =>
  have := h7 i hi (.str (itF l i).val) (by simp [itC])
  cases this with | str _ h => simpa [itF, List.getD, hi] using h
theorem own_its {m : Nat → Nat → Prop} {w : World} {B : Nat} {e : TypeId} {A : Option Addr} {n c : Nat} {l : List Itm} (h : OwnL itmE 2 w B e (.slice A n c) l) (hm : ∀ b o, m b o → b < B) (hs : ∀ x ∈ l, x.val.size ≤ maxLen) : Ok m w (rowI A l.length c (itF l)) := by
 obtain ⟨A', c', he, h1, h2⟩ := Own.isSlice h
 injection he with e1 e2 e3; subst e3; subst e2
 refine rows_ok h1 h2 hs fun hp => ?_
 rw [flat_length itmE_len] at hp
 obtain ⟨b, hA, hb⟩ := own_head h (by omega)
 refine ⟨b, 0, hA, fun j u hu => ⟨by rw [Nat.zero_add]; exact own_cells h hb j u hu, fun hmm => ?_⟩⟩
 have := (Own.lt h b hb).1
 have := hm _ _ hmm
 omega
theorem clone_c (w : World) (A : Option Addr) (k : Nat) (l : List Itm) (hr : ReadsL itmE w w.heap.size A l) (hl : l.length < 2147483000) :
  Calls Tryz.prog 52 #[.slice A l.length k] w fun e w' => ∃ v', e = .returned v' ∧ OwnL itmE 2 w' w.heap.size 85 v' l ∧ Below w.heap.size w w' := by
 have hq : ∀ (A : Option Addr) (n k : Nat) (w : World), (binOp .eql 24 (.slice A n k) (.slice none 0 0)).run Tryz.prog w = .ok (.bool A.isNone) w := fun A n k w => Go.Lib.run_eql_slice_nil w _ _ A n k 0 0 Tryz.underlying24
 cases A with
 | none =>
  obtain rfl : l = [] := by
   refine List.eq_nil_of_length_eq_zero (Nat.eq_zero_of_not_pos fun h => ?_)
   obtain ⟨b, off, he, _⟩ := hr.at_ (k := 2) itmE_len (by decide) h
   cases he
  clear hr
  go_enter Tryz.func52, Tryz.ntmps52
  go_wp2_with fail
  go_ret
  exact ⟨_, rfl, Own.nil _ _ _ _ _, Below.refl _ _⟩
 | some a =>
  obtain ⟨W1, hW1⟩ := eqv (w.alloc (.cells #[] 85))
  have hb1 : Below w.heap.size w W1 := by rw [hW1]; exact (Below.refl _ _).alloc (Nat.le_refl _) _
  obtain ⟨v', w', hr', hO, hG, hv⟩ := run_append_Own (P := Tryz.prog) etyI 24 (Own.nil W1 w.heap.size 85 2 (some ⟨w.heap.size, 0, none⟩)) (some a) l.length k (l.flatMap itmE) (flat_length itmE_len l) (hr.below hb1) (flat_one itmE_one l) (by simp only [maxLen]; omega) (by omega) hb1.size
  rw [Nat.zero_add, List.nil_append] at hO
  have HO : Hid (OwnL itmE 2 w' w.heap.size 85 v' l ∧ Below w.heap.size w w') := ⟨hO, hb1.grown hG hb1.size fun g hg => by simp [ownB] at hg⟩
  rw [hW1] at hr'
  clear hO hG hv hb1 hW1
  go_enter Tryz.func52, Tryz.ntmps52
  go_wp2_with (at_builtin; refine wpList_append_run hr' rfl (.tmp 5) (.tmp 6) rfl rfl rfl rfl ?_)
  go_ret
  exact ⟨_, rfl, HO.out⟩
theorem clone_s (A : Option Addr) (c : Nat) (l : List Itm) (hs : l.length < 2147483000) : Spec Tryz.prog 52 [rowI A l.length c (itF l)] (fun y => rowI (y.A 0) l.length (y.c 0) (itF l)) := by
 intro m w hm ha
 have h1 := ha (rowI A l.length c (itF l)) (by simp)
 refine (clone_c w A c l (its_reads h1) hs).mono ?_
 rintro e w' ⟨v', rfl, ho, hb⟩
 obtain ⟨A', c', rfl, _, _⟩ := Own.isSlice ho
 exact ⟨⟨0, fun _ => A', fun _ => c', fun _ => ⟨#[]⟩⟩, rfl, own_its ho hm (its_vals h1), hb⟩
theorem clone_sf (A : Option Addr) (n c : Nat) (f : Nat → Itm) (hs : n < 2147483000) : Spec Tryz.prog 52 [rowI A n c f] (fun y => rowI (y.A 0) n (y.c 0) f) := by
 have h := clone_s A c (firsts f n) (by rw [firsts_len]; exact hs)
 have e : ∀ A c, Sim (rowI A (firsts f n).length c (itF (firsts f n))) (rowI A n c f) := fun A c => Sim.resl (firsts_len f n) fun t ht => by rw [firsts_get f n t ht]
 have e' : ∀ A c, Sim (rowI A n c f) (rowI A (firsts f n).length c (itF (firsts f n))) := fun A c => Sim.resl (firsts_len f n).symm fun t ht => by rw [firsts_len] at ht; rw [firsts_get f n t ht]
 intro m w hm ha
 have h2 : Spec Tryz.prog 52 [rowI A n c f] (fun y => rowI (y.A 0) (firsts f n).length (y.c 0) (itF (firsts f n))) := h.sim ⟨e' A c, trivial⟩
 refine (h2 m w hm ha).mono ?_
 rintro en w' ⟨x, rfl, hok, hb⟩
 exact ⟨x, by rw [(e (x.A 0) (x.c 0)).1], (e (x.A 0) (x.c 0)).2.2 _ _ hok, hb⟩
end Cl
end Go.Proofs.YtikkeibmjppboaaGreat.Sym
namespace Go.Proofs.YtikkeibmjppboaaGreat.Sym
open Go Go.RowKit
theorem enters67 : Enters Tryz.prog 67 := fun _ _ => by kernel_rfl
theorem own_s (x : RA) (hn : x.r.n ≤ 1000000) : Spec Tryz.prog 67 [recV x] (fun y => recV ⟨y.A 0, y.c 0, x.r⟩) := by
 intro m w hm hargs
 have S := Cl.clone_sf x.A x.r.n x.c x.r.f (by omega)
 simp only [rowI] at S
 refine enter hm hargs Tryz.func67 rfl (by simp [Tryz.ntmps67]) fun a0 hF => ?_
 simp only [Tryz.ntmps67, startT] at hF
 obtain ⟨B, hB⟩ := eqv (std)
 apply wp_seq
 apply rgB hB TA_ok [1, 2] [1, 2] [] hF
 ·intro A X; conv => lhs; cbv
 ·intro X; subst hB; simp [AO, Ob.holds, BE.den, std, sC, sAr] <;> omega
 intro X0 a0 w1 hF
 apply wp_seq
 apply rgB hB TA_ok [1, 2] [1, 2] [(2, .r fun y => .sl none (y.A 0) x.r.n (y.c 0) 2 (fun t => itC (x.r.f t)))] hF
 ·intro A X; conv => lhs; cbv
 ·intro X; subst hB; simp only [AO, Ob.holds, BE.den] <;> (and_intros <;> repeat first | trivial | rfl | exact enters52 | exact S | refine ⟨?_, ?_⟩ | intro h)
 intro X1 a0 w1 hF
 apply wp_seq
 apply rgB hB TA_ok [2] [2] [] hF
 ·intro A X; conv => lhs; cbv
 ·intro X; subst hB; simp only [AO, Ob.holds, BE.den] <;> and_intros <;> intros <;> trivial
 intro X2 a0 w1 hF
 refine wp_ret ?_
 refine ret_sim (fn := Tryz.f67) TA_ok hF (rs := [.cell 2 54]) rfl (by conv => lhs; cbv) ?_ (⟨0, fun _ => (X1 2).A 0, fun _ => (X1 2).c 0, fun _ => ⟨#[]⟩⟩) ?_
 ·simp [AO, Ob.holds]
 subst hB
 exact zr
theorem enters71 : Enters Tryz.prog 71 := fun _ _ => by kernel_rfl
theorem writes_x0 (b bM : Nat) (k : Int) : SpecX Tryz.prog 71 [.ptr 0 b 0] [(0, ⟨b, 119, [.raw (.map (some bM)), .int .i64 k]⟩)] (fun _ => ⟨.int .i64 k, [(0, [.raw (.map (some bM)), .int .i64 k])], []⟩) := by
 intro m w hm hargs hpre
 refine enterX hm hpre hargs Tryz.func71 rfl (by simp [Tryz.ntmps71]) fun a0 hF => ?_
 simp only [Tryz.ntmps71, startT] at hF
 obtain ⟨B, hB⟩ := eqv (std)
 apply wp_seq
 apply rgB hB TA_ok [0] [0] [] hF
 ·intro A X; conv => lhs; cbv
 ·intro X; subst hB; simp only [AO, Ob.holds, BE.den] <;> and_intros <;> intros <;> trivial
 intro X0 a0 w1 hF
 refine wp_seq (wp_seq ?_)
 apply rgB hB TA_ok [4, 0] [0] [] hF
 ·intro A X; conv => lhs; cbv
 ·intro X; subst hB; simp only [AO, Ob.holds, BE.den] <;> and_intros <;> intros <;> trivial
 intro X1 a0 w1 hF
 refine test_ff hF rfl (fun hF => ?_)
 refine wp_skip ?_
 apply wp_seq
 apply rgB hB TA_ok [2] [0] [] hF
 ·intro A X; conv => lhs; cbv
 ·intro X; subst hB; simp only [AO, Ob.holds, BE.den] <;> and_intros <;> intros <;> trivial
 intro X3 a0 w1 hF
 refine wp_ret ?_
 refine (ret_x (fn := Tryz.f71) TA_ok hF (rs := [.tmp 2]) rfl (rfl) ?_ nAt [] ?_ ?_ ?_).1
 ·subst hB; simp [AO, Ob.holds]
 ·subst hB; exact zr
 ·subst hB; first | exact trivial | exact ⟨rfl, ⟨_, rfl, zl⟩, trivial⟩
 exact trivial
theorem writes_x (k0 : Nat) (b bM : Nat) (k : Int) : SpecX Tryz.prog 71 [.ptr k0 b 0] [(k0, ⟨b, 119, [.raw (.map (some bM)), .int .i64 k]⟩)] (fun _ => ⟨.int .i64 k, [(k0, [.raw (.map (some bM)), .int .i64 k])], []⟩) :=
 (writes_x0 b bM k).re (by repeat (first | exact trivial | refine ⟨Sim.ptr, ?_⟩ | refine ⟨Sim.fn ⟨Sim.ptr, trivial⟩ trivial, ?_⟩ | refine ⟨Sim.fn trivial ⟨Sim.ptr, trivial⟩, ?_⟩ | refine ⟨zr, ?_⟩)) rfl (fun x => ⟨rfl, rfl, zr, rfl⟩)
theorem enters23 : Enters Tryz.prog 23 := fun _ _ => by kernel_rfl
theorem new_m (A : Option Addr) (n c : Nat) (f : Nat → RowA) (hn : n ≤ maxLen) (hN : ∀ i, i < n → (f i).x.r.n ≤ 1000000 ∧ LabOk (f i).lab ∧ U64 (f i).lab.bits ∧ U64 (f i).x.r.nx.bits) : SpecM Tryz.prog 23 [rowsV A n c f] [] none noK (fun y => (match newS (rwsA f n) with | none => ⟨.tup [.nilp, .int .i64 1], [], []⟩ | some L => ⟨.tup [.ptr 14 y.b 0, .int .i64 0], [], [(14, ⟨y.b, 119, [.raw (.map (some (y.c 0))), .int .i64 0]⟩)]⟩)) (fun N y => (match newS (rwsA f n) with | none => noK | some L => shF N (y.c 0) L)) := by
 intro m w hm hargs hpre hI
 have hmx : maxLen = 9223372036854775807 := rfl
 refine enterM (bo := none) hm hpre hI hargs Tryz.func23 rfl (by simp [Tryz.ntmps23]) fun a0 hF => ?_
 simp only [Tryz.ntmps23, startT] at hF
 obtain ⟨B, hB⟩ := eqv (std)
 apply wp_seq
 apply rgB hB TA_ok [0] [] [] hF
 ·intro A X; conv => lhs; cbv
 ·intro X; subst hB; simp [AO, Ob.holds, BE.den, std, sC, sAr] <;> omega
 intro X0 a0 w1 hF
 refine wp_seq (wp_seq ?_)
 apply rgB hB TA_ok [11, 0] [] [] hF
 ·intro A X; conv => lhs; cbv
 ·intro X; subst hB; simp [AO, Ob.holds, BE.den, std, sC, sAr] <;> omega
 intro X1 a0 w1 hF
 apply test_ok hF rfl <;> intro hb hF
 ·have hbig : 2000 < n := by
   have : (2000 : Int) < (n : Int) := by subst hB; simpa [std, sC] using hb
   omega
  have hW : newS (rwsA f n) = none := by unfold newS; rw [if_pos (by rw [listA_len]; exact hbig)]
  apply wp_seq
  apply rgB hB TA_ok [2, 3] [14] [] hF
  ·intro A X; conv => lhs; cbv
  ·intro X; subst hB; simp [AO, Ob.holds, BE.den, std, sC, sAr] <;> omega
  intro X2 a0 w1 hF
  refine wp_ret ?_
  refine (ret_m (fn := Tryz.f23) TA_ok hF (rs := [.tmp 2, .tmp 3]) rfl (rfl) ?_ (⟨0, fun _ => none, fun _ => 0, fun _ => ⟨#[]⟩⟩) [] ?_ ?_ ?_ ?_ ?_).1
  ·subst hB; simp [AO, Ob.holds]
  ·intro b hb; cases hb
  ·subst hB; simp only [hW]; exact zr
  ·simp only [hW]; exact trivial
  ·simp only [hW]; exact trivial
  simp only [hW]; exact fun _ _ _ => trivial
 have hbig : n ≤ 2000 := by
  have : ¬ (2000 : Int) < (n : Int) := by subst hB; simpa [std, sC] using hb
  omega
 have hS : newS (rwsA f n) = newL (rwsA f n) [] := by unfold newS; rw [if_neg (by rw [listA_len]; omega)]
 refine wp_skip ?_
 apply wp_seq
 refine wp_region_lit ?_
 refine man_makeMap (k := 41) (e := 0) rfl rfl rfl rfl hF (Nat.le_of_ble_eq_true rfl) (shK w1.heap.size []) (fun m w' _ _ hM => ⟨_, fun _ => (none, 0), ShD.empty hM _⟩) ?_
 obtain ⟨bM, hbM⟩ := eqv (w1.heap.size)
 rw [← hbM]
 intro a0 w1 hfresh hF
 have hbfr : w.heap.size ≤ bM := hfresh
 apply leB 1 hB TA_ok [4, 0] [14] [] hF
 ·intro A X; conv => lhs; cbv
 ·intro X; subst hB; simp only [AO, Ob.holds, BE.den] <;> and_intros <;> intros <;> trivial
 intro X3 a0 w1 hF
 refine wp_seq (wp_seq ?_)
 apply rgB hB TA_ok [17, 16, 15, 4] [14] [] hF
 ·intro A X; conv => lhs; cbv
 ·intro X; subst hB; simp [AO, Ob.holds, BE.den, std, sC, sAr] <;> omega
 intro X4 a0 w1 hF
 refine wp_block ?_
 refine loop_preK (ι := Nat × Shf) (fun p => shK bM p.2) (fun p => [(17, .int .i64 (p.1 : Int))]) (fun p => []) (fun p => []) (fun p => p.1 ≤ n ∧ p.2.length ≤ p.1 ∧ newL (rwsA f n) [] = newL ((rwsA f n).drop p.1) p.2) (fun p => n - p.1) (0, []) ⟨Nat.zero_le _, Nat.le_refl _, rfl⟩ hF ?_
 rintro ⟨i, L⟩ ⟨hi, hk, hnew⟩ a0 w1 hF
 try dsimp only at hi
 try dsimp only at hk
 try dsimp only at hnew
 replace hF := hF.withK (K' := shK bM L) hF.kept
 apply wp_seq
 apply rgB hB TA_ok [18, 17, 16, 15, 4] [14] [] hF
 ·intro A X; conv => lhs; cbv
 ·intro X; subst hB; simp [AO, Ob.holds, BE.den, std, sC, sAr] <;> omega
 intro X5 a0 w1 hF
 apply wp_seq
 apply test_ok hF rfl <;> intro hb hF
 ·have hin : i < n := by
   have : (i : Int) < (n : Int) := by subst hB; simpa [std, sC] using hb
   omega
  obtain ⟨hN1, hN2, hN3, hN4⟩ := hN i hin
  have S2 := isL_s (f i).lab hN3
  have S3 := isR_s (f i).x.A (f i).x.r.n (f i).x.c (f i).x.r.f (by omega) (f i).x.r.kd (f i).x.r.nx (f i).x.r.mrk hN4
  rw [← isR_abs] at S3
  simp only [labAV, recI, rowI] at S2 S3
  obtain ⟨il, hil⟩ := eqv (isL (f i).lab)
  obtain ⟨ir, hir⟩ := eqv (isR (f i).x.r.abs)
  rw [← hil] at S2
  rw [← hir] at S3
  have hstep := newL_step (f := f) (L := L) hin
  rw [← hil, ← hir] at hstep
  refine wp_skip ?_
  apply wp_seq
  refine wp_block ?_
  apply wp_seq
  apply rgB hB TA_ok [6, 17, 16, 15, 4] [6, 14] [] hF
  ·intro A X; conv => lhs; cbv
  ·intro X; subst hB; simp only [AO, Ob.holds, BE.den] <;> (and_intros <;> repeat first | trivial | rfl | exact (show (0 : Int) ≤ (i : Int) by omega) | exact (show (i : Int) < (n : Int) by omega) | intro h)
  intro X6 a0 w1 hF
  replace hF := hF.memS (cells' := rowC (f i)) (by subst hB; exact zl)
  refine wp_seq (wp_seq ?_)
  obtain ⟨D, E, hSh⟩ := hF.kept
  replace hF := hF.withK (K' := shD D E bM L) hSh
  have hlab : LabOk (f i).lab := hN2
  obtain ⟨el, hel⟩ := eqv (elA (adr E L) (f i).lab (spotOf L (f i).lab))
  obtain ⟨hh, hhh⟩ := eqv ((findL (f i).lab L).isSome)
  apply drawn2_okB hB 13 (some (6, [.tmp 25, .tmp 27], [.raw (.map (some bM)), .agg [.int .i64 (f i).lab.len, .int .u64 (f i).lab.bits]], .tup [.agg [.int .u64 el.w.ver, .bool (.v el.has), .int .i64 el.w.x.r.kd, .sl none el.w.x.A el.w.x.r.n el.w.x.c 2 (fun i => itC (el.w.x.r.f i)), .int .i64 el.w.x.r.nx.len, .int .u64 el.w.x.r.nx.bits, .int .u64 el.w.x.r.mrk], .bool (.v hh)])) ?hH (by kernel_rfl) TA_ok [8, 6, 17, 16, 15, 4] [6, 14] [] hF rfl
  case hH => exact hand_look hlab hel hhh (fun o h => by cases h; rfl)
  case hex => intro A X; conv => lhs; cbv
  case hD => kernel_rfl
  case hZ => kernel_rfl
  case hlen => rfl
  case hob =>
   intro X
   subst hB
   simp only [AO, Ob.holds, BE.den] <;> and_intros <;> intros <;> trivial
  case hQ =>
  intro X7 a0 w1 hF
  refine wpList_nil ?_
  replace hF := hF.withK (K' := shK bM L) ⟨D, E, hF.kept⟩
  apply wp_seq
  apply rgB hB TA_ok [43, 6, 17, 16, 15, 4] [6, 14] [(4, .r fun _ => .bool (.v il)), (10, .r fun _ => .bool (.v ir))] hF
  ·intro A X; conv => lhs; cbv
  ·intro X; subst hB; simp only [AO, Ob.holds, BE.den] <;> (and_intros <;> repeat first | trivial | rfl | exact enters65 | exact S2 | exact enters66 | exact S3 | refine ⟨?_, ?_⟩ | intro h)
  intro X8 a0 w1 hF
  apply test_ok hF rfl <;> intro hb hF
  ·have h9 : (if (if hh = true then true else !il) = true then true else !ir) = true := by subst hB; exact hb
   have hW : newS (rwsA f n) = none := by
    rw [hS, hnew, hstep, ← hhh]
    cases hh <;> cases il <;> cases ir <;> first | rfl | (simp at h9)
   apply wp_seq
   apply rgB hB TA_ok [2, 3] [14] [] hF
   ·intro A X; conv => lhs; cbv
   ·intro X; subst hB; simp [AO, Ob.holds, BE.den, std, sC, sAr] <;> omega
   intro X9 a0 w1 hF
   refine wp_ret ?_
   refine (ret_m (fn := Tryz.f23) TA_ok hF (rs := [.tmp 2, .tmp 3]) rfl (rfl) ?_ (⟨0, fun _ => none, fun _ => 0, fun _ => ⟨#[]⟩⟩) [] ?_ ?_ ?_ ?_ ?_).1
   ·subst hB; simp [AO, Ob.holds]
   ·intro b hb; cases hb
   ·subst hB; simp only [hW]; exact zr
   ·simp only [hW]; exact trivial
   ·simp only [hW]; exact trivial
   simp only [hW]; exact fun _ _ _ => trivial
  have h9 : (if (if hh = true then true else !il) = true then true else !ir) = false := by subst hB; exact hb
  have h10 : (hh || !il || !ir) = false := by cases hh <;> cases il <;> cases ir <;> first | rfl | (simp at h9)
  rw [← hhh, h10] at hstep
  obtain ⟨L2, hL2⟩ := eqv (putL (f i).lab ⟨(f i).ver, true, (f i).x.r.abs⟩ L)
  have hstep : newL ((rwsA f n).drop i) L = newL ((rwsA f n).drop (i + 1)) L2 := by rw [hL2]; exact hstep
  have SO := own_s (f i).x hN1
  have hL2n : L2.length ≤ i + 1 := by rw [hL2, put_len _ _ hSh.ris]; split <;> omega
  refine wp_skip ?_
  apply drawn2_okB hB 12 none ?hH (by kernel_rfl) TA_ok [47, 49, 55, 17, 16, 15, 4] [14] [(10, .r fun y => .agg [.int .i64 (f i).x.r.kd, .sl none (y.A 0) (f i).x.r.n (y.c 0) 2 (fun t => itC ((f i).x.r.f t)), .int .i64 (f i).x.r.nx.len, .int .u64 (f i).x.r.nx.bits, .int .u64 (f i).x.r.mrk])] hF rfl
  case hH => exact handOK_none
  case hex => intro A X; conv => lhs; cbv
  case hD => kernel_rfl
  case hZ => kernel_rfl
  case hlen => rfl
  case hob =>
   intro X
   subst hB
   simp only [AO, Ob.holds, BE.den] <;> (and_intros <;> repeat first | trivial | rfl | exact enters67 | exact SO | refine ⟨?_, ?_⟩ | intro h)
  case hQ =>
  intro X10 a0 w1 hF
  obtain ⟨D2, E2, hSh2⟩ := hF.kept
  refine man_mapUpdate (k := 41) (e := 121) rfl rfl rfl rfl hF rfl rfl rfl rfl rfl labK map_und' hSh2.map (by omega) (key_lab hlab) (fun h => absurd h (by omega)) (shK bM L2) (fun m w' hk hkb hv hM => ?_) ?_
  ·rw [hL2]
   refine shK_put hSh2.map hlab hk hkb (x := ⟨⟨(f i).lab, (f i).ver, ⟨(X10 10).A 0, (X10 10).c 0, (f i).x.r⟩⟩, true⟩) ?_ hv hM
   exact Sim.agg ⟨zr, Sim.tt, zr, zr, zr, zr, zr, trivial⟩
  intro w1 hF
  refine wpList_nil ?_
  replace hF := hF.keep [17,16,15,4] [14]
  apply rgB hB TA_ok [17, 16, 15, 4] [14] [] hF
  ·intro A X; conv => lhs; cbv
  ·intro X; subst hB; simp [AO, Ob.holds, BE.den, std, sC, sAr] <;> omega
  intro X11 a0 w1 hF
  have e : B.arith .add .i64 (i : Int) 1 = ((i + 1 : Nat) : Int) := by subst hB; exact wrap_succ (n := n) hin (by omega)
  refine ⟨(i + 1, L2), ⟨by simp only; omega, hL2n, hnew.trans hstep⟩, by simp only; omega, by rw [← e]; exact hF⟩
 have hout : i = n := by
  have : ¬ (i : Int) < (n : Int) := by subst hB; simpa [std, sC] using hb
  omega
 have hW : newS (rwsA f n) = some L := by rw [hS, hnew, List.drop_eq_nil_of_le (by rw [listA_len]; omega)]; rfl
 refine wp_exit ?_
 apply wp_seq
 apply rgB hB TA_ok [2, 3] [14] [] hF
 ·intro A X; conv => lhs; cbv
 ·intro X; subst hB; simp [AO, Ob.holds, BE.den, std, sC, sAr] <;> omega
 intro X12 a0 w1 hF
 refine wp_ret ?_
 refine (ret_m (fn := Tryz.f23) TA_ok hF (rs := [.tmp 2, .tmp 3]) rfl (rfl) ?_ (⟨(X3 2).b, fun _ => none, fun _ => bM, fun _ => ⟨#[]⟩⟩) [14] ?_ ?_ ?_ ?_ ?_).1
 ·subst hB; simp [AO, Ob.holds]
 ·intro b hb; cases hb
 ·subst hB; simp only [hW]; exact zr
 ·simp only [hW]; exact trivial
 ·simp only [hW]
  exact ⟨⟨_, rfl, zl⟩, fun e he => (by cases he), (by simp), trivial⟩
 simp only [hW]; exact fun _ _ h => ⟨hbfr, h⟩
theorem enters84 : Enters Tryz.prog 84 := fun _ _ => by kernel_rfl
theorem chg_tt0 (b bM : Nat) (L : Shf) (hL : L.length ≤ 100000) (k : Int) (q : WntA) (hl : LabOk q.lab) (x z : SpA) : SpecM Tryz.prog 84 [.ptr 0 b 0, wntV q, .agg (elC x), .agg (elC z), .bool .tt] [(0, ⟨b, 119, [.raw (.map (some bM)), .int .i64 k]⟩)] (some bM) (shK bM L) (fun y => ⟨.tup [gotV (gotA y (chgL L q.lab q.ver x.w.ver true ⟨z.w.ver, z.has, z.w.x.r.abs⟩).got), .int .i64 (chgL L q.lab q.ver x.w.ver true ⟨z.w.ver, z.has, z.w.x.r.abs⟩).err], [(0, [.raw (.map (some bM)), .int .i64 (if (chgL L q.lab q.ver x.w.ver true ⟨z.w.ver, z.has, z.w.x.r.abs⟩).wrote then IntKind.i64.wrap (k + 1) else k)])], []⟩) (fun _ _ => shK bM (chgL L q.lab q.ver x.w.ver true ⟨z.w.ver, z.has, z.w.x.r.abs⟩).L) := by
 intro m w hm hargs hpre hI
 have hmx : maxLen = 9223372036854775807 := rfl
 have hmp := shK_map hI
 obtain ⟨CD, hCD⟩ := eqv ((chgL L q.lab q.ver x.w.ver true ⟨z.w.ver, z.has, z.w.x.r.abs⟩))
 rw [← hCD]
 refine enterM (bo := some bM) hm hpre hI hargs Tryz.func84 rfl (by simp [Tryz.ntmps84]) fun a0 hF => ?_
 simp only [Tryz.ntmps84, startT] at hF
 obtain ⟨B, hB⟩ := eqv (std)
 apply wp_seq
 apply rgB hB TA_ok [0, 4, 6, 7, 8, 10] [0, 6, 7, 8, 10] [] hF
 ·intro A X; conv => lhs; cbv
 ·intro X; subst hB; simp only [AO, Ob.holds, BE.den] <;> and_intros <;> intros <;> trivial
 intro X0 a0 w1 hF
 apply wp_seq
 refine wp_block ?_
 apply wp_seq
 apply rgB hB TA_ok [12, 0, 4, 6, 7, 8, 10] [0, 6, 7, 8, 10] [] hF
 ·intro A X; conv => lhs; cbv
 ·intro X; subst hB; simp only [AO, Ob.holds, BE.den] <;> and_intros <;> intros <;> trivial
 intro X1 a0 w1 hF
 apply test_ok hF rfl <;> intro hb hF
 ·have hv : q.ver ≠ x.w.ver := by subst hB; simpa [std, sC] using hb
  have hW : CD = ⟨L, false, ⟨8, x.w.ver, false, zeroRec⟩, 0⟩ := by rw [hCD]; unfold chgL; rw [if_pos hv]
  apply wp_seq
  apply rgB hB TA_ok [10, 11] [0, 10] [] hF
  ·intro A X; conv => lhs; cbv
  ·intro X; subst hB; simp only [AO, Ob.holds, BE.den] <;> and_intros <;> intros <;> trivial
  intro X2 a0 w1 hF
  refine wp_ret ?_
  refine (ret_m (fn := Tryz.f84) TA_ok hF (rs := [.cell 10 63, .tmp 11]) rfl (by conv => lhs; cbv) ?_ (⟨0, fun _ => none, fun _ => 0, fun _ => ⟨#[]⟩⟩) [] ?_ ?_ ?_ ?_ ?_).1
  ·subst hB; simp [AO, Ob.holds]
  ·intro b hb; cases hb; exact ⟨hmp, fun m h => shK_map h⟩
  ·subst hB; simp only [hW]
   exact Sim.tup ⟨Sim.agg ⟨zr, zr, zr, zr, zq0, zr, zr, zr, trivial⟩, zr, trivial⟩
  ·subst hB; simp only [hW]
   exact ⟨rfl, ⟨_, rfl, zl⟩, trivial⟩
  ·exact trivial
  simp only [hW]; exact fun _ _ h => h
 have hv : ¬ q.ver ≠ x.w.ver := by subst hB; simpa [std, sC] using hb
 apply wp_seq
 apply rgB hB TA_ok [21, 0, 6, 8, 10] [0, 6, 8, 10] [] hF
 ·intro A X; conv => lhs; cbv
 ·intro X; subst hB; simp only [AO, Ob.holds, BE.den] <;> and_intros <;> intros <;> trivial
 intro X3 a0 w1 hF
 obtain ⟨L2, hL2⟩ := eqv (putL q.lab ⟨z.w.ver, z.has, z.w.x.r.abs⟩ L)
 have hW : CD = ⟨L2, true, ⟨0, z.w.ver, false, zeroRec⟩, 0⟩ := by rw [hCD, hL2]; unfold chgL; rw [if_neg hv, if_neg (fun h => by cases h.1)]
 refine test_ff hF rfl (fun hF => ?_)
 refine wp_skip ?_
 apply wp_seq
 apply drawn2_okB hB 7 none ?hH (by kernel_rfl) TA_ok [36, 38, 39, 0, 8, 10] [0, 8, 10] [] hF rfl
 case hH => exact handOK_none
 case hex => intro A X; conv => lhs; cbv
 case hD => kernel_rfl
 case hZ => kernel_rfl
 case hlen => rfl
 case hob =>
  intro X
  subst hB
  simp only [AO, Ob.holds, BE.den] <;> and_intros <;> intros <;> trivial
 case hQ =>
 intro X5 a0 w1 hF
 obtain ⟨D2, E2, hSh2⟩ := hF.kept
 refine man_mapUpdate (k := 41) (e := 121) rfl rfl rfl rfl hF rfl rfl rfl rfl rfl labK map_und' hSh2.map (by omega) (key_lab hl) (fun _ => .inr rfl) (shK bM L2) (fun m w' hk hkb hv hM => ?_) ?_
 ·rw [hL2]; exact shK_put hSh2.map hl hk hkb (x := ⟨⟨q.lab, z.w.ver, z.w.x⟩, z.has⟩) (zr) hv hM
 intro w1 hF
 refine wpList_nil ?_
 replace hF := hF.keep [0,8,10] [0,8,10]
 apply wp_seq
 apply rgB hB TA_ok [8, 10] [0, 8, 10] [] hF
 ·intro A X; conv => lhs; cbv
 ·intro X; subst hB; simp only [AO, Ob.holds, BE.den] <;> and_intros <;> intros <;> trivial
 intro X6 a0 w1 hF
 apply wp_seq
 apply rgB hB TA_ok [10, 11] [0, 10] [] hF
 ·intro A X; conv => lhs; cbv
 ·intro X; subst hB; simp only [AO, Ob.holds, BE.den] <;> and_intros <;> intros <;> trivial
 intro X7 a0 w1 hF
 refine wp_ret ?_
 refine (ret_m (fn := Tryz.f84) TA_ok hF (rs := [.cell 10 63, .tmp 11]) rfl (by conv => lhs; cbv) ?_ (⟨0, fun _ => none, fun _ => 0, fun _ => ⟨#[]⟩⟩) [] ?_ ?_ ?_ ?_ ?_).1
 ·subst hB; simp [AO, Ob.holds]
 ·intro b hb; cases hb; exact ⟨hmp, fun m h => shK_map h⟩
 ·subst hB; simp only [hW]
  exact Sim.tup ⟨Sim.agg ⟨zr, zr, zr, zr, zq0, zr, zr, zr, trivial⟩, zr, trivial⟩
 ·subst hB; simp only [hW]
  exact ⟨rfl, ⟨_, rfl, zl⟩, trivial⟩
 ·exact trivial
 simp only [hW]; exact fun _ _ h => h
theorem chg_tt (k0 : Nat) (b bM : Nat) (L : Shf) (hL : L.length ≤ 100000) (k : Int) (q : WntA) (hl : LabOk q.lab) (x z : SpA) : SpecM Tryz.prog 84 [.ptr k0 b 0, wntV q, .agg (elC x), .agg (elC z), .bool .tt] [(k0, ⟨b, 119, [.raw (.map (some bM)), .int .i64 k]⟩)] (some bM) (shK bM L) (fun y => ⟨.tup [gotV (gotA y (chgL L q.lab q.ver x.w.ver true ⟨z.w.ver, z.has, z.w.x.r.abs⟩).got), .int .i64 (chgL L q.lab q.ver x.w.ver true ⟨z.w.ver, z.has, z.w.x.r.abs⟩).err], [(k0, [.raw (.map (some bM)), .int .i64 (if (chgL L q.lab q.ver x.w.ver true ⟨z.w.ver, z.has, z.w.x.r.abs⟩).wrote then IntKind.i64.wrap (k + 1) else k)])], []⟩) (fun _ _ => shK bM (chgL L q.lab q.ver x.w.ver true ⟨z.w.ver, z.has, z.w.x.r.abs⟩).L) :=
 (chg_tt0 b bM L hL k q hl x z).re (by repeat (first | exact trivial | refine ⟨Sim.ptr, ?_⟩ | refine ⟨Sim.fn ⟨Sim.ptr, trivial⟩ trivial, ?_⟩ | refine ⟨Sim.fn trivial ⟨Sim.ptr, trivial⟩, ?_⟩ | refine ⟨zr, ?_⟩)) rfl (fun x => ⟨rfl, rfl, zr, rfl⟩)
theorem chg_ff0 (b bM : Nat) (L : Shf) (hL : L.length ≤ 100000) (k : Int) (q : WntA) (hl : LabOk q.lab) (x z : SpA) : SpecM Tryz.prog 84 [.ptr 0 b 0, wntV q, .agg (elC x), .agg (elC z), .bool .ff] [(0, ⟨b, 119, [.raw (.map (some bM)), .int .i64 k]⟩)] (some bM) (shK bM L) (fun y => ⟨.tup [gotV (gotA y (chgL L q.lab q.ver x.w.ver false ⟨z.w.ver, z.has, z.w.x.r.abs⟩).got), .int .i64 (chgL L q.lab q.ver x.w.ver false ⟨z.w.ver, z.has, z.w.x.r.abs⟩).err], [(0, [.raw (.map (some bM)), .int .i64 (if (chgL L q.lab q.ver x.w.ver false ⟨z.w.ver, z.has, z.w.x.r.abs⟩).wrote then IntKind.i64.wrap (k + 1) else k)])], []⟩) (fun _ _ => shK bM (chgL L q.lab q.ver x.w.ver false ⟨z.w.ver, z.has, z.w.x.r.abs⟩).L) := by
 intro m w hm hargs hpre hI
 have hmx : maxLen = 9223372036854775807 := rfl
 have hmp := shK_map hI
 obtain ⟨CD, hCD⟩ := eqv ((chgL L q.lab q.ver x.w.ver false ⟨z.w.ver, z.has, z.w.x.r.abs⟩))
 rw [← hCD]
 refine enterM (bo := some bM) hm hpre hI hargs Tryz.func84 rfl (by simp [Tryz.ntmps84]) fun a0 hF => ?_
 simp only [Tryz.ntmps84, startT] at hF
 obtain ⟨B, hB⟩ := eqv (std)
 apply wp_seq
 apply rgB hB TA_ok [0, 4, 6, 7, 8, 10] [0, 6, 7, 8, 10] [] hF
 ·intro A X; conv => lhs; cbv
 ·intro X; subst hB; simp only [AO, Ob.holds, BE.den] <;> and_intros <;> intros <;> trivial
 intro X0 a0 w1 hF
 apply wp_seq
 refine wp_block ?_
 apply wp_seq
 apply rgB hB TA_ok [12, 0, 4, 6, 7, 8, 10] [0, 6, 7, 8, 10] [] hF
 ·intro A X; conv => lhs; cbv
 ·intro X; subst hB; simp only [AO, Ob.holds, BE.den] <;> and_intros <;> intros <;> trivial
 intro X1 a0 w1 hF
 apply test_ok hF rfl <;> intro hb hF
 ·have hv : q.ver ≠ x.w.ver := by subst hB; simpa [std, sC] using hb
  have hW : CD = ⟨L, false, ⟨8, x.w.ver, false, zeroRec⟩, 0⟩ := by rw [hCD]; unfold chgL; rw [if_pos hv]
  apply wp_seq
  apply rgB hB TA_ok [10, 11] [0, 10] [] hF
  ·intro A X; conv => lhs; cbv
  ·intro X; subst hB; simp only [AO, Ob.holds, BE.den] <;> and_intros <;> intros <;> trivial
  intro X2 a0 w1 hF
  refine wp_ret ?_
  refine (ret_m (fn := Tryz.f84) TA_ok hF (rs := [.cell 10 63, .tmp 11]) rfl (by conv => lhs; cbv) ?_ (⟨0, fun _ => none, fun _ => 0, fun _ => ⟨#[]⟩⟩) [] ?_ ?_ ?_ ?_ ?_).1
  ·subst hB; simp [AO, Ob.holds]
  ·intro b hb; cases hb; exact ⟨hmp, fun m h => shK_map h⟩
  ·subst hB; simp only [hW]
   exact Sim.tup ⟨Sim.agg ⟨zr, zr, zr, zr, zq0, zr, zr, zr, trivial⟩, zr, trivial⟩
  ·subst hB; simp only [hW]
   exact ⟨rfl, ⟨_, rfl, zl⟩, trivial⟩
  ·exact trivial
  simp only [hW]; exact fun _ _ h => h
 have hv : ¬ q.ver ≠ x.w.ver := by subst hB; simpa [std, sC] using hb
 apply wp_seq
 refine wp_region_lit ?_
 apply list_preB 0 7 hB TA_ok [24, 28, 0, 6, 8, 10] [0, 6, 8, 10] [] hF
 ·intro A X; conv => lhs; cbv
 ·intro X; subst hB; simp [AO, Ob.holds, BE.den, std, sC, sAr] <;> omega
 intro X3_0 a0 w1 hF
 obtain ⟨D, E, hSh⟩ := hF.kept
 obtain ⟨zz, hzz⟩ := eqv (Maps.size D)
 have hzl : zz = L.length := hzz.trans hSh.size
 refine unguard (wanted_tt hF rfl rfl rfl) ?_
 refine man_mlen rfl rfl rfl rfl rfl rfl rfl hF (Nat.le_of_ble_eq_true rfl) rfl map_und' hSh.map ?_
 rw [← hzz]
 intro a0 hF
 apply leB 8 hB TA_ok [21, 0, 6, 8, 10] [0, 6, 8, 10] [] hF
 ·intro A X; conv => lhs; cbv
 ·intro X; subst hB; simp only [AO, Ob.holds, BE.den] <;> and_intros <;> intros <;> trivial
 intro X3 a0 w1 hF
 apply test_ok hF rfl <;> intro hb hF
 ·have hfull : 2000 ≤ L.length := by
   have : (2000 : Int) ≤ (zz : Int) := by subst hB; simpa [std, sC] using hb
   omega
  have hW : CD = ⟨L, false, zeroGot, 12⟩ := by rw [hCD]; unfold chgL; rw [if_neg hv, if_pos ⟨rfl, hfull⟩]
  apply wp_seq
  apply rgB hB TA_ok [10, 11] [0, 10] [] hF
  ·intro A X; conv => lhs; cbv
  ·intro X; subst hB; simp only [AO, Ob.holds, BE.den] <;> and_intros <;> intros <;> trivial
  intro X4 a0 w1 hF
  refine wp_ret ?_
  refine (ret_m (fn := Tryz.f84) TA_ok hF (rs := [.cell 10 63, .tmp 11]) rfl (by conv => lhs; cbv) ?_ (⟨0, fun _ => none, fun _ => 0, fun _ => ⟨#[]⟩⟩) [] ?_ ?_ ?_ ?_ ?_).1
  ·subst hB; simp [AO, Ob.holds]
  ·intro b hb; cases hb; exact ⟨hmp, fun m h => shK_map h⟩
  ·subst hB; simp only [hW]
   exact Sim.tup ⟨Sim.agg ⟨zr, zr, zr, zr, zq0, zr, zr, zr, trivial⟩, zr, trivial⟩
  ·subst hB; simp only [hW]
   exact ⟨rfl, ⟨_, rfl, zl⟩, trivial⟩
  ·exact trivial
  simp only [hW]; exact fun _ _ h => h
 have hfull : ¬ 2000 ≤ L.length := by
  have : ¬ (2000 : Int) ≤ (zz : Int) := by subst hB; simpa [std, sC] using hb
  omega
 obtain ⟨L2, hL2⟩ := eqv (putL q.lab ⟨z.w.ver, z.has, z.w.x.r.abs⟩ L)
 have hW : CD = ⟨L2, true, ⟨0, z.w.ver, false, zeroRec⟩, 0⟩ := by rw [hCD, hL2]; unfold chgL; rw [if_neg hv, if_neg (fun h => hfull h.2)]
 refine wp_skip ?_
 apply wp_seq
 apply drawn2_okB hB 7 none ?hH (by kernel_rfl) TA_ok [36, 38, 39, 0, 8, 10] [0, 8, 10] [] hF rfl
 case hH => exact handOK_none
 case hex => intro A X; conv => lhs; cbv
 case hD => kernel_rfl
 case hZ => kernel_rfl
 case hlen => rfl
 case hob =>
  intro X
  subst hB
  simp only [AO, Ob.holds, BE.den] <;> and_intros <;> intros <;> trivial
 case hQ =>
 intro X5 a0 w1 hF
 obtain ⟨D2, E2, hSh2⟩ := hF.kept
 refine man_mapUpdate (k := 41) (e := 121) rfl rfl rfl rfl hF rfl rfl rfl rfl rfl labK map_und' hSh2.map (by omega) (key_lab hl) (fun _ => .inr rfl) (shK bM L2) (fun m w' hk hkb hv hM => ?_) ?_
 ·rw [hL2]; exact shK_put hSh2.map hl hk hkb (x := ⟨⟨q.lab, z.w.ver, z.w.x⟩, z.has⟩) (zr) hv hM
 intro w1 hF
 refine wpList_nil ?_
 replace hF := hF.keep [0,8,10] [0,8,10]
 apply wp_seq
 apply rgB hB TA_ok [8, 10] [0, 8, 10] [] hF
 ·intro A X; conv => lhs; cbv
 ·intro X; subst hB; simp only [AO, Ob.holds, BE.den] <;> and_intros <;> intros <;> trivial
 intro X6 a0 w1 hF
 apply wp_seq
 apply rgB hB TA_ok [10, 11] [0, 10] [] hF
 ·intro A X; conv => lhs; cbv
 ·intro X; subst hB; simp only [AO, Ob.holds, BE.den] <;> and_intros <;> intros <;> trivial
 intro X7 a0 w1 hF
 refine wp_ret ?_
 refine (ret_m (fn := Tryz.f84) TA_ok hF (rs := [.cell 10 63, .tmp 11]) rfl (by conv => lhs; cbv) ?_ (⟨0, fun _ => none, fun _ => 0, fun _ => ⟨#[]⟩⟩) [] ?_ ?_ ?_ ?_ ?_).1
 ·subst hB; simp [AO, Ob.holds]
 ·intro b hb; cases hb; exact ⟨hmp, fun m h => shK_map h⟩
 ·subst hB; simp only [hW]
  exact Sim.tup ⟨Sim.agg ⟨zr, zr, zr, zr, zq0, zr, zr, zr, trivial⟩, zr, trivial⟩
 ·subst hB; simp only [hW]
  exact ⟨rfl, ⟨_, rfl, zl⟩, trivial⟩
 ·exact trivial
 simp only [hW]; exact fun _ _ h => h
theorem chg_ff (k0 : Nat) (b bM : Nat) (L : Shf) (hL : L.length ≤ 100000) (k : Int) (q : WntA) (hl : LabOk q.lab) (x z : SpA) : SpecM Tryz.prog 84 [.ptr k0 b 0, wntV q, .agg (elC x), .agg (elC z), .bool .ff] [(k0, ⟨b, 119, [.raw (.map (some bM)), .int .i64 k]⟩)] (some bM) (shK bM L) (fun y => ⟨.tup [gotV (gotA y (chgL L q.lab q.ver x.w.ver false ⟨z.w.ver, z.has, z.w.x.r.abs⟩).got), .int .i64 (chgL L q.lab q.ver x.w.ver false ⟨z.w.ver, z.has, z.w.x.r.abs⟩).err], [(k0, [.raw (.map (some bM)), .int .i64 (if (chgL L q.lab q.ver x.w.ver false ⟨z.w.ver, z.has, z.w.x.r.abs⟩).wrote then IntKind.i64.wrap (k + 1) else k)])], []⟩) (fun _ _ => shK bM (chgL L q.lab q.ver x.w.ver false ⟨z.w.ver, z.has, z.w.x.r.abs⟩).L) :=
 (chg_ff0 b bM L hL k q hl x z).re (by repeat (first | exact trivial | refine ⟨Sim.ptr, ?_⟩ | refine ⟨Sim.fn ⟨Sim.ptr, trivial⟩ trivial, ?_⟩ | refine ⟨Sim.fn trivial ⟨Sim.ptr, trivial⟩, ?_⟩ | refine ⟨zr, ?_⟩)) rfl (fun x => ⟨rfl, rfl, zr, rfl⟩)
theorem chg_m (k0 : Nat) (b bM : Nat) (L : Shf) (hL : L.length ≤ 100000) (k : Int) (q : WntA) (hl : LabOk q.lab) (x z : SpA) (hh : Bool) : SpecM Tryz.prog 84 [.ptr k0 b 0, wntV q, .agg (elC x), .agg (elC z), .bool (.v hh)] [(k0, ⟨b, 119, [.raw (.map (some bM)), .int .i64 k]⟩)] (some bM) (shK bM L) (fun y => ⟨.tup [gotV (gotA y (chgL L q.lab q.ver x.w.ver hh ⟨z.w.ver, z.has, z.w.x.r.abs⟩).got), .int .i64 (chgL L q.lab q.ver x.w.ver hh ⟨z.w.ver, z.has, z.w.x.r.abs⟩).err], [(k0, [.raw (.map (some bM)), .int .i64 (if (chgL L q.lab q.ver x.w.ver hh ⟨z.w.ver, z.has, z.w.x.r.abs⟩).wrote then IntKind.i64.wrap (k + 1) else k)])], []⟩) (fun _ _ => shK bM (chgL L q.lab q.ver x.w.ver hh ⟨z.w.ver, z.has, z.w.x.r.abs⟩).L) := by
 cases hh with
 | true => exact (chg_tt k0 b bM L hL k q hl x z).args ⟨zr, zr, zr, zr, Sim.bool rfl, trivial⟩
 | false => exact (chg_ff k0 b bM L hL k q hl x z).args ⟨zr, zr, zr, zr, Sim.bool rfl, trivial⟩
theorem doL_chg {L : Shf} {w : Wnt} (hg : (w.kind = 1 ∨ w.kind = 2 ∨ w.kind = 3) ∧ isL w.lab = true ∧ (w.kind = 2 → isR w.r = true)) (hk : ¬ w.kind = 1) : doL L w = chgL L w.lab w.ver (spotOf L w.lab).ver (findL w.lab L).isSome ⟨inc (spotOf L w.lab).ver, decide (w.kind = 2), if w.kind = 2 then w.r else zeroRec⟩ := by
 refine (if_pos hg).trans ((if_neg hk).trans ?_)
 unfold chgL
 by_cases hv : w.ver = (spotOf L w.lab).ver
 ·have h1 : ¬ w.ver ≠ (spotOf L w.lab).ver := fun h => h hv
  have e : ((findL w.lab L).isNone = true ∧ 2000 ≤ L.length) = ((findL w.lab L).isSome = false ∧ 2000 ≤ L.length) := by
   cases findL w.lab L <;> simp
  refine (if_neg h1).trans (Eq.symm ((if_neg h1).trans ?_))
  rw [← hv]
  simp only [← e]
  rfl
 exact (if_pos hv).trans (if_pos hv).symm
theorem enters28 : Enters Tryz.prog 28 := fun _ _ => by kernel_rfl
theorem do_m0 (b bM : Nat) (L : Shf) (hL : L.length ≤ 100000) (k : Int) (q : WntA) (hwn : q.x.r.n ≤ maxLen) (hl : LabOk q.lab) (hwb : U64 q.lab.bits) (hwx : U64 q.x.r.nx.bits) : SpecM Tryz.prog 28 [.ptr 0 b 0, wntV q] [(0, ⟨b, 119, [.raw (.map (some bM)), .int .i64 k]⟩)] (some bM) (shK bM L) (fun y => ⟨.tup [gotV (gotA y (doL L q.abs).got), .int .i64 (doL L q.abs).err], [(0, [.raw (.map (some bM)), .int .i64 (if (doL L q.abs).wrote then IntKind.i64.wrap (k + 1) else k)])], []⟩) (fun _ _ => shK bM (doL L q.abs).L) := by
 intro m w hm hargs hpre hI
 have hmx : maxLen = 9223372036854775807 := rfl
 have hmp := shK_map hI
 have S1 := isL_s q.lab hwb
 have S2 := isR_s q.x.A q.x.r.n q.x.c q.x.r.f (by omega) q.x.r.kd q.x.r.nx q.x.r.mrk hwx
 rw [← isR_abs] at S2
 simp only [labAV, recI, rowI] at S1 S2
 obtain ⟨il, hil⟩ := eqv (isL q.lab)
 obtain ⟨ir, hir⟩ := eqv (isR q.x.r.abs)
 rw [← hil] at S1
 rw [← hir] at S2
 obtain ⟨D0, hD⟩ := eqv ((doL L q.abs))
 rw [← hD]
 skip
 refine enterM (bo := some bM) hm hpre hI hargs Tryz.func28 rfl (by simp [Tryz.ntmps28]) fun a0 hF => ?_
 simp only [Tryz.ntmps28, startT] at hF
 obtain ⟨B, hB⟩ := eqv (std)
 apply wp_seq
 apply rgB hB TA_ok [0, 3, 4] [0, 3, 4] [] hF
 ·intro A X; conv => lhs; cbv
 ·intro X; subst hB; simp only [AO, Ob.holds, BE.den] <;> and_intros <;> intros <;> trivial
 intro X0 a0 w1 hF
 refine wp_seq (wp_seq ?_)
 apply rgB hB TA_ok [10, 0, 3, 4] [0, 3, 4] [] hF
 ·intro A X; conv => lhs; cbv
 ·intro X; subst hB; simp only [AO, Ob.holds, BE.den] <;> and_intros <;> intros <;> trivial
 intro X1 a0 w1 hF
 refine test_ff hF rfl (fun hF => ?_)
 refine wp_skip ?_
 apply wp_seq
 obtain ⟨DM, E, hSh⟩ := hF.kept
 replace hF := hF.withK (K' := shD DM E bM L) hSh
 obtain ⟨el, hel⟩ := eqv (elA (adr E L) q.lab (spotOf L q.lab))
 obtain ⟨hh, hhh⟩ := eqv ((findL q.lab L).isSome)
 apply drawn2_okB hB 13 (some (6, [.tmp 16, .tmp 18], [.raw (.map (some bM)), .agg [.int .i64 q.lab.len, .int .u64 q.lab.bits]], .tup [.agg [.int .u64 el.w.ver, .bool (.v el.has), .int .i64 el.w.x.r.kd, .sl none el.w.x.A el.w.x.r.n el.w.x.c 2 (fun i => itC (el.w.x.r.f i)), .int .i64 el.w.x.r.nx.len, .int .u64 el.w.x.r.nx.bits, .int .u64 el.w.x.r.mrk], .bool (.v hh)])) ?hH (by kernel_rfl) TA_ok [0, 3, 4, 6, 7] [0, 3, 4, 6] [] hF rfl
 case hH => exact hand_look hl hel hhh (fun o h => by cases h; rfl)
 case hex => intro A X; conv => lhs; cbv
 case hD => kernel_rfl
 case hZ => kernel_rfl
 case hlen => rfl
 case hob =>
  intro X
  subst hB
  simp only [AO, Ob.holds, BE.den] <;> and_intros <;> intros <;> trivial
 case hQ =>
 intro X3 a0 w1 hF
 refine wpList_nil ?_
 replace hF := hF.withK (K' := shK bM L) ⟨DM, E, hF.kept⟩
 have hev : el.w.ver = (spotOf L q.lab).ver := by rw [hel]
 have heh : el.has = (spotOf L q.lab).has := by rw [hel]
 have her : el.w.x.r.abs = (spotOf L q.lab).r := by rw [hel]; exact abs_rn _
 apply wp_seq
 apply rgB hB TA_ok [0, 3, 4, 6, 7, 8] [8, 0, 3, 4, 6] [] hF
 ·intro A X; conv => lhs; cbv
 ·intro X; subst hB; simp only [AO, Ob.holds, BE.den] <;> and_intros <;> intros <;> trivial
 intro X4 a0 w1 hF
 obtain ⟨vi, hvi⟩ := eqv (inc (spotOf L q.lab).ver)
 replace hF := hF.memS (cells' := [.int .u64 vi, .bool .ff, .int .i64 0, .sl none none 0 0 2 (fun _ => []), .int .i64 0, .int .u64 0, .int .u64 0]) ⟨(by subst hB; rw [hvi, ← hev]; exact zr), zr, zr, zr, zr, zr, zr, trivial⟩
 apply wp_seq
 refine wp_block ?_
 apply wp_seq
 refine cut_one (ι := SpA) (S0 := []) (M0 := [(8, _)]) (G0 := []) (fun z => []) (fun z => [(8, ⟨(X4 4).b, 121, elC z⟩)]) (fun z => []) (fun z => ¬ q.kind = 1 ∧ z.w.ver = vi ∧ ((q.kind = 1 ∨ q.kind = 2 ∨ q.kind = 3) ∧ isL q.lab = true ∧ (q.kind = 2 → isR q.x.r.abs = true)) ∧ z.has = decide (q.kind = 2) ∧ z.w.x.r.abs = (if q.kind = 2 then q.x.r.abs else zeroRec)) hF ?_ ?_
 ·refine wp_block ?_
  apply wp_seq
  refine wp_block ?_
  apply wp_seq
  refine wp_block ?_
  apply wp_seq
  refine wp_block ?_
  refine wp_seq (wp_seq ?_)
  apply wp_seq
  apply rgB hB TA_ok [26, 0, 3, 4, 6, 7, 8] [8, 0, 3, 4, 6] [(2, .r fun _ => .bool (.v il))] hF
  ·intro A X; conv => lhs; cbv
  ·intro X; subst hB; simp only [AO, Ob.holds, BE.den] <;> (and_intros <;> repeat first | trivial | rfl | exact enters65 | exact S1 | refine ⟨?_, ?_⟩ | intro h)
  intro X5 a0 w1 hF
  apply test_ok hF rfl <;> intro hb hF
  ·have h9 : (!il) = true := by subst hB; exact hb
   have hbad : ¬ ((q.kind = 1 ∨ q.kind = 2 ∨ q.kind = 3) ∧ isL q.lab = true ∧ (q.kind = 2 → isR q.x.r.abs = true)) := by rw [← hil]; intro h; rw [h.2.1] at h9; cases h9
   have hW : D0 = ⟨L, false, zeroGot, 1⟩ := by rw [hD]; exact if_neg hbad
   refine wp_exit ?_
   refine wp_seq (wp_seq ?_)
   apply rgB hB TA_ok [4, 5] [0, 4] [] hF
   ·intro A X; conv => lhs; cbv
   ·intro X; subst hB; simp only [AO, Ob.holds, BE.den] <;> and_intros <;> intros <;> trivial
   intro X9 a0 w1 hF
   refine wp_ret ?_
   refine (ret_m (fn := Tryz.f28) TA_ok hF (rs := [.cell 4 63, .tmp 5]) rfl (by conv => lhs; cbv) ?_ (⟨0, fun _ => none, fun _ => 0, fun _ => ⟨#[]⟩⟩) [] ?_ ?_ ?_ ?_ ?_).1
   ·subst hB; simp [AO, Ob.holds]
   ·intro b hb; cases hb; exact ⟨hmp, fun m h => shK_map h⟩
   ·subst hB; simp only [hW]
    exact Sim.tup ⟨Sim.agg ⟨zr, zr, zr, zr, zq0, zr, zr, zr, trivial⟩, zr, trivial⟩
   ·subst hB; simp only [hW]
    exact ⟨rfl, ⟨_, rfl, zl⟩, trivial⟩
   ·exact trivial
   simp only [hW]; exact fun _ _ h => h
  have hl1 : isL q.lab = true := by
   have h9 : (!il) = false := by subst hB; exact hb
   rw [← hil]; simpa using h9
  refine wp_skip ?_
  refine wp_seq (wp_seq ?_)
  apply rgB hB TA_ok [31, 0, 3, 4, 6, 7, 8] [8, 0, 3, 4, 6] [] hF
  ·intro A X; conv => lhs; cbv
  ·intro X; subst hB; simp only [AO, Ob.holds, BE.den] <;> and_intros <;> intros <;> trivial
  intro X6 a0 w1 hF
  apply test_ok hF rfl <;> intro hb hF
  ·have hk1 : q.kind = 1 := by subst hB; simpa [std, sC] using hb
   have hgd : ((q.kind = 1 ∨ q.kind = 2 ∨ q.kind = 3) ∧ isL q.lab = true ∧ (q.kind = 2 → isR q.x.r.abs = true)) := ⟨.inl hk1, hl1, fun h => by omega⟩
   have hW : D0 = ⟨L, false, ⟨0, el.w.ver, el.has, el.w.x.r.abs⟩, 0⟩ := by rw [hD, hev, heh, her]; refine (if_pos hgd).trans ?_; exact if_pos hk1
   refine wp_exit ?_
   refine wp_seq (wp_seq ?_)
   apply rgB hB TA_ok [4, 5] [0, 4] [] hF
   ·intro A X; conv => lhs; cbv
   ·intro X; subst hB; simp only [AO, Ob.holds, BE.den] <;> and_intros <;> intros <;> trivial
   intro X10 a0 w1 hF
   refine wp_ret ?_
   refine (ret_m (fn := Tryz.f28) TA_ok hF (rs := [.cell 4 63, .tmp 5]) rfl (by conv => lhs; cbv) ?_ (spY none 0 (fun _ => zSp) el.w.x.A el.w.x.c 0) [] ?_ ?_ ?_ ?_ ?_).1
   ·subst hB; simp [AO, Ob.holds]
   ·intro b hb; cases hb; exact ⟨hmp, fun m h => shK_map h⟩
   ·subst hB; simp only [hW]
    exact Sim.tup ⟨Sim.agg (got_sim (v := ⟨0, el.w.ver, el.has, el.w.x⟩) rfl rfl rfl), zr, trivial⟩
   ·subst hB; simp only [hW]
    exact ⟨rfl, ⟨_, rfl, zl⟩, trivial⟩
   ·exact trivial
   simp only [hW]; exact fun _ _ h => h
  have hk1 : ¬ q.kind = 1 := by subst hB; simpa [std, sC] using hb
  refine wp_skip ?_
  refine wp_seq (wp_seq ?_)
  apply rgB hB TA_ok [35, 0, 3, 4, 6, 7, 8] [8, 0, 3, 4, 6] [] hF
  ·intro A X; conv => lhs; cbv
  ·intro X; subst hB; simp only [AO, Ob.holds, BE.den] <;> and_intros <;> intros <;> trivial
  intro X7 a0 w1 hF
  apply test_ok hF rfl <;> intro hb hF
  ·have hk2 : q.kind = 2 := by subst hB; simpa [std, sC] using hb
   refine wp_exit ?_
   refine wp_seq (wp_seq ?_)
   apply rgB hB TA_ok [54, 0, 3, 4, 6, 7, 8] [8, 0, 3, 4, 6] [(2, .r fun _ => .bool (.v ir))] hF
   ·intro A X; conv => lhs; cbv
   ·intro X; subst hB; simp only [AO, Ob.holds, BE.den] <;> (and_intros <;> repeat first | trivial | rfl | exact enters66 | exact S2 | refine ⟨?_, ?_⟩ | intro h)
   intro X11 a0 w1 hF
   apply test_ok hF rfl <;> intro hb hF
   ·have h9 : (!ir) = true := by subst hB; exact hb
    have hbad : ¬ ((q.kind = 1 ∨ q.kind = 2 ∨ q.kind = 3) ∧ isL q.lab = true ∧ (q.kind = 2 → isR q.x.r.abs = true)) := by rw [← hir]; intro h; rw [h.2.2 hk2] at h9; cases h9
    have hW : D0 = ⟨L, false, zeroGot, 1⟩ := by rw [hD]; exact if_neg hbad
    apply wp_seq
    apply rgB hB TA_ok [4, 5] [0, 4] [] hF
    ·intro A X; conv => lhs; cbv
    ·intro X; subst hB; simp only [AO, Ob.holds, BE.den] <;> and_intros <;> intros <;> trivial
    intro X12 a0 w1 hF
    refine wp_ret ?_
    refine (ret_m (fn := Tryz.f28) TA_ok hF (rs := [.cell 4 63, .tmp 5]) rfl (by conv => lhs; cbv) ?_ (⟨0, fun _ => none, fun _ => 0, fun _ => ⟨#[]⟩⟩) [] ?_ ?_ ?_ ?_ ?_).1
    ·subst hB; simp [AO, Ob.holds]
    ·intro b hb; cases hb; exact ⟨hmp, fun m h => shK_map h⟩
    ·subst hB; simp only [hW]
     exact Sim.tup ⟨Sim.agg ⟨zr, zr, zr, zr, zq0, zr, zr, zr, trivial⟩, zr, trivial⟩
    ·subst hB; simp only [hW]
     exact ⟨rfl, ⟨_, rfl, zl⟩, trivial⟩
    ·exact trivial
    simp only [hW]; exact fun _ _ h => h
   have hr1 : isR q.x.r.abs = true := by
    have h9 : (!ir) = false := by subst hB; exact hb
    rw [← hir]; simpa using h9
   have S3 := own_s q.x (by have h8 := hr1; rw [isR_abs] at h8; have := (isRF_kind h8).2.2.1; omega)
   refine wp_skip ?_
   apply rgB hB TA_ok [0, 3, 4, 6, 7, 8] [8, 0, 3, 4, 6] [(2, .r fun y => .agg [.int .i64 q.x.r.kd, .sl none (y.A 0) q.x.r.n (y.c 0) 2 (fun t => itC (q.x.r.f t)), .int .i64 q.x.r.nx.len, .int .u64 q.x.r.nx.bits, .int .u64 q.x.r.mrk])] hF
   ·intro A X; conv => lhs; cbv
   ·intro X; subst hB; simp only [AO, Ob.holds, BE.den] <;> (and_intros <;> repeat first | trivial | rfl | exact enters67 | exact S3 | refine ⟨?_, ?_⟩ | intro h)
   intro X13 a0 w1 hF
   refine ⟨⟨⟨q.lab, vi, ⟨(X13 2).A 0, (X13 2).c 0, q.x.r⟩⟩, true⟩, ⟨hk1, rfl, ⟨.inr (.inl hk2), hl1, fun _ => hr1⟩, ?_, ?_⟩, hF.memS (cells' := elC ⟨⟨q.lab, vi, ⟨(X13 2).A 0, (X13 2).c 0, q.x.r⟩⟩, true⟩) ⟨zr, Sim.tt, zr, zr, zr, zr, zr, trivial⟩⟩
   ·rw [decide_eq_true hk2]
   rw [if_pos hk2]
  have hk2 : ¬ q.kind = 2 := by subst hB; simpa [std, sC] using hb
  refine wp_skip ?_
  apply wp_seq
  apply rgB hB TA_ok [39, 0, 3, 4, 6, 7, 8] [8, 0, 3, 4, 6] [] hF
  ·intro A X; conv => lhs; cbv
  ·intro X; subst hB; simp only [AO, Ob.holds, BE.den] <;> and_intros <;> intros <;> trivial
  intro X8 a0 w1 hF
  apply test_ok hF rfl <;> intro hb hF
  ·have hk3 : q.kind = 3 := by subst hB; simpa [std, sC] using hb
   refine wp_exit ?_
   refine ⟨⟨⟨q.lab, vi, zRA⟩, false⟩, ⟨hk1, rfl, ⟨.inr (.inr hk3), hl1, fun h => by omega⟩, ?_, ?_⟩, hF.memS (cells' := elC ⟨⟨q.lab, vi, zRA⟩, false⟩) ⟨zr, Sim.ff, zr, zq0, zr, zr, zr, trivial⟩⟩
   ·rw [decide_eq_false (by omega)]
   rw [if_neg (by omega)]; rfl
  have hk3 : ¬ q.kind = 3 := by subst hB; simpa [std, sC] using hb
  have hbad : ¬ ((q.kind = 1 ∨ q.kind = 2 ∨ q.kind = 3) ∧ isL q.lab = true ∧ (q.kind = 2 → isR q.x.r.abs = true)) := fun h => by rcases h.1 with h | h | h; exact hk1 h; exact hk2 h; exact hk3 h
  have hW : D0 = ⟨L, false, zeroGot, 1⟩ := by rw [hD]; exact if_neg hbad
  refine wp_skip ?_
  refine wp_exit ?_
  apply wp_seq
  apply rgB hB TA_ok [4, 5] [0, 4] [] hF
  ·intro A X; conv => lhs; cbv
  ·intro X; subst hB; simp only [AO, Ob.holds, BE.den] <;> and_intros <;> intros <;> trivial
  intro X15 a0 w1 hF
  refine wp_ret ?_
  refine (ret_m (fn := Tryz.f28) TA_ok hF (rs := [.cell 4 63, .tmp 5]) rfl (by conv => lhs; cbv) ?_ (⟨0, fun _ => none, fun _ => 0, fun _ => ⟨#[]⟩⟩) [] ?_ ?_ ?_ ?_ ?_).1
  ·subst hB; simp [AO, Ob.holds]
  ·intro b hb; cases hb; exact ⟨hmp, fun m h => shK_map h⟩
  ·subst hB; simp only [hW]
   exact Sim.tup ⟨Sim.agg ⟨zr, zr, zr, zr, zq0, zr, zr, zr, trivial⟩, zr, trivial⟩
  ·subst hB; simp only [hW]
   exact ⟨rfl, ⟨_, rfl, zl⟩, trivial⟩
  ·exact trivial
  simp only [hW]; exact fun _ _ h => h
 rintro z ⟨hk1, hz1, hgd, hz2, hz3⟩ a0 w1 hF
 try dsimp only at hk1
 try dsimp only at hz1
 try dsimp only at hgd
 try dsimp only at hz2
 try dsimp only at hz3
 have SC := chg_m 0 b bM L hL k q hl el z hh
 obtain ⟨CD, hCD⟩ := eqv (chgL L q.lab q.ver el.w.ver hh ⟨z.w.ver, z.has, z.w.x.r.abs⟩)
 rw [← hCD] at SC
 have hDC : D0 = CD := by
  rw [hD, hCD, doL_chg (w := q.abs) hgd hk1, hz1, hz2, hz3, hvi, hev, hhh]; rfl
 obtain ⟨G, hG⟩ : ∃ G : Atom → GotA, G = fun y => gotA y CD.got := ⟨_, rfl⟩
 have hGG : ∀ y, gotA y CD.got = G y := fun y => by rw [hG]
 simp only [hGG] at SC
 obtain ⟨k2, hk2⟩ := eqv ((if CD.wrote then IntKind.i64.wrap (k + 1) else k))
 rw [← hk2] at SC
 refine wp_seq (wp_seq ?_)
 refine wp_region_lit ?_
 apply list_preB 0 5 hB TA_ok [61, 62, 63, 64, 65, 4] [0, 4] [] hF
 ·intro A X; conv => lhs; cbv
 ·intro X; subst hB; simp [AO, Ob.holds, BE.den, std, sC, sAr] <;> omega
 intro X14_0 a0 w1 hF
 refine man_callM rfl rfl rfl rfl hF rfl rfl enters84 SC (fun _ _ h => h) (fun b hb => by cases hb; exact fun _ => .inr rfl) (zl) (by intro e he; simp only [List.mem_singleton] at he; subst he; rfl) rfl rfl (fun _ => shK bM CD.L) (fun _ _ _ _ _ _ _ _ _ h => h) ?_
 intro y a0 w1 hF
 apply leB 6 hB TA_ok [4, 5] [0, 4] [] hF
 ·intro A X; conv => lhs; cbv
 ·intro X; subst hB; simp only [AO, Ob.holds, BE.den] <;> and_intros <;> intros <;> trivial
 intro X14 a0 w1 hF
 refine wp_ret ?_
 refine (ret_m (fn := Tryz.f28) TA_ok hF (rs := [.cell 4 63, .tmp 5]) rfl (by conv => lhs; cbv) ?_ (y) [] ?_ ?_ ?_ ?_ ?_).1
 ·subst hB; simp [AO, Ob.holds]
 ·intro b hb; cases hb; exact ⟨hmp, fun m h => shK_map h⟩
 ·subst hB; rw [hDC, hGG]; exact zr
 ·rw [hDC, ← hk2]
  exact ⟨rfl, ⟨_, rfl, zl⟩, trivial⟩
 ·exact trivial
 rw [hDC]; exact fun _ _ h => h
theorem do_m (k0 : Nat) (b bM : Nat) (L : Shf) (hL : L.length ≤ 100000) (k : Int) (q : WntA) (hwn : q.x.r.n ≤ maxLen) (hl : LabOk q.lab) (hwb : U64 q.lab.bits) (hwx : U64 q.x.r.nx.bits) : SpecM Tryz.prog 28 [.ptr k0 b 0, wntV q] [(k0, ⟨b, 119, [.raw (.map (some bM)), .int .i64 k]⟩)] (some bM) (shK bM L) (fun y => ⟨.tup [gotV (gotA y (doL L q.abs).got), .int .i64 (doL L q.abs).err], [(k0, [.raw (.map (some bM)), .int .i64 (if (doL L q.abs).wrote then IntKind.i64.wrap (k + 1) else k)])], []⟩) (fun _ _ => shK bM (doL L q.abs).L) :=
 (do_m0 b bM L hL k q hwn hl hwb hwx).re (by repeat (first | exact trivial | refine ⟨Sim.ptr, ?_⟩ | refine ⟨Sim.fn ⟨Sim.ptr, trivial⟩ trivial, ?_⟩ | refine ⟨Sim.fn trivial ⟨Sim.ptr, trivial⟩, ?_⟩ | refine ⟨zr, ?_⟩)) rfl (fun x => ⟨rfl, rfl, zr, rfl⟩)
end Go.Proofs.YtikkeibmjppboaaGreat.Sym
namespace Go.Proofs.YtikkeibmjppboaaGreat.Sym
open Go Go.RowKit
open Go.Sort (flatK HoldsK putRowK get_flatK size_flatK)
section
variable {α : Type} [Inhabited α] {k : Nat} {cells : α → List AV} {w w' : World} {B e : Nat} {A : Option Addr} {n c : Nat} {h : Nat → α}
abbrev encV (cells : α → List AV) : α → List Value := fun x => (cells x).map AV.den
theorem flat_at (hk : ∀ x, (cells x).length = k) (d : Array α) (i j : Nat) (hi : i < d.size) (hj : j < k) : (flatK (encV cells) k d)[i * k + j]! = ((cells d[i]!).map AV.den)[j]! := by
 have hlt : i * k + j < d.size * k := by
  have : (i + 1) * k ≤ d.size * k := Nat.mul_le_mul_right k hi
  rw [Nat.add_mul, Nat.one_mul] at this
  omega
 rw [get_flatK _ _ _ _ hlt]
 have h1 : (i * k + j) / k = i := by rw [Nat.mul_comm, Nat.mul_add_div (by omega), Nat.div_eq_of_lt hj, Nat.add_zero]
 have h2 : (i * k + j) % k = j := by rw [Nat.mul_comm, Nat.mul_add_mod, Nat.mod_eq_of_lt hj]
 rw [h1, h2]
theorem holds_of_own (hk : ∀ x, (cells x).length = k) (hO : Own w B e k (.slice A n c) n (rowFlat (fun t => cells (h t)) n)) (hn : 0 < n) : ∃ b, A = some ⟨b, 0, none⟩ ∧ B ≤ b ∧ b < w.heap.size ∧ HoldsK (encV cells) k w b 0 ((List.range n).map h).toArray := by
 obtain ⟨b, hA, hb⟩ := own_head hO hn
 obtain ⟨h1, h2⟩ := hO.lt b hb
 refine ⟨b, hA, h1, h2, fun t ht => ?_⟩
 have hsz : ((List.range n).map h).toArray.size = n := by simp
 rw [size_flatK, hsz] at ht
 have hk0 : 0 < k := by rcases Nat.eq_zero_or_pos k with h0 | h0; rw [h0] at ht; omega; exact h0
 obtain ⟨i, j, hj, rfl⟩ : ∃ i j, j < k ∧ t = i * k + j := ⟨t / k, t % k, Nat.mod_lt _ hk0, by rw [Nat.mul_comm]; exact (Nat.div_add_mod t k).symm⟩
 have hi : i < n := by
  refine Nat.lt_of_not_le fun hle => ?_
  have := Nat.mul_le_mul_right k hle
  omega
 have hd : ((List.range n).map h).toArray[i]! = h i := by
  rw [getElem!_pos _ i (by rw [hsz]; exact hi)]; simp
 rw [flat_at hk _ i j (by rw [hsz]; exact hi) hj, hd, Nat.zero_add]
 have hg := rowFlat_get (cells := fun t => cells (h t)) (n := n) (fun i _ => hk _) hi hj
 have hjl : j < ((cells (h i)).map AV.den).length := by rw [List.length_map, hk]; exact hj
 rw [List.getElem?_eq_getElem hjl] at hg
 refine ⟨?_, ?_⟩
 ·rw [own_cells hO hb _ _ hg, getElem!_pos _ j hjl]; rfl
 obtain ⟨_, h2 | ⟨g, cap, cur, hv, _, hcur, _⟩⟩ := hO
 ·obtain ⟨h0, _⟩ := h2; omega
 injection hv with e1
 rw [hA] at e1
 injection e1 with e1
 injection e1 with e1
 subst e1
 simp [World.frozen?, hcur]
theorem heap_sort (d' : Array α) (m : Nat) (os : Array Obj) {b : Nat} (hb : b < w.heap.size) : (sortWorldK (encV cells) k w b 0 m d' os).heap[b]? = (w.heap[b]?).map (Go.Sort.onCells (Go.Sort.putCells id 0 (flatK (encV cells) k d'))) ∧ ∀ x, x < w.heap.size → x ≠ b → (sortWorldK (encV cells) k w b 0 m d' os).heap[x]? = w.heap[x]? := by
 have hsz : (putRowK (encV cells) k (Go.Sort.ahead w m) b 0 d').heap.size = w.heap.size := by simp [putRowK, Go.Sort.putRow, Go.Sort.mapBlock, Go.Sort.ahead]
 refine ⟨?_, fun x hx hne => ?_⟩
 ·unfold sortWorldK Go.Sort.grow
  simp only
  rw [Array.getElem?_append_left (by rw [hsz]; exact hb)]
  simp [putRowK, Go.Sort.putRow, Go.Sort.mapBlock, Go.Sort.ahead, Array.getElem?_modify]
 unfold sortWorldK Go.Sort.grow
 simp only
 rw [Array.getElem?_append_left (by rw [hsz]; exact hx)]
 simp [putRowK, Go.Sort.putRow, Go.Sort.mapBlock, Go.Sort.ahead, Array.getElem?_modify]
 intro e; exact absurd e.symm hne
theorem own_sort (hk : ∀ x, (cells x).length = k) (hO : Own w B e k (.slice A n c) n (rowFlat (fun t => cells (h t)) n)) (hn : 0 < n) {b : Nat} (hA : A = some ⟨b, 0, none⟩) (hb : b < w.heap.size) (d' : Array α) (hd : d'.size = n) (m : Nat) (os : Array Obj) :
  Own (sortWorldK (encV cells) k w b 0 m d' os) B e k (.slice A n c) n (rowFlat (fun t => cells d'[t]!) n) := by
 have hlen : (rowFlat (fun t => cells d'[t]!) n).length = n * k := rowFlat_len fun i _ => hk _
 refine ⟨hlen, ?_⟩
 rcases hO.2 with ⟨h0, _⟩ | ⟨g, cap, cur, hv, h1, h2, h3, h4, h5, h6, h7⟩
 ·omega
 injection hv with e1 e2 e3
 subst e3
 have : g = b := by rw [hA] at e1; injection e1 with e1; injection e1 with e1; exact e1.symm
 subst this
 subst e1
 right
 refine ⟨g, c, Go.Sort.putCells id 0 (flatK (encV cells) k d') cur, rfl, h1, ?_, h3, h4, h5, ?_, ?_⟩
 ·rw [(heap_sort d' m os hb).1, h2]; rfl
 ·simp [Go.Sort.putCells, h6]
 apply List.ext_getElem?
 intro t
 by_cases ht : t < n * k
 ·have hcs : t < cur.size := by
   rw [h6]; have := Nat.mul_le_mul_right k h3; omega
  rw [List.getElem?_take_of_lt ht]
  have hk0 : 0 < k := by rcases Nat.eq_zero_or_pos k with h0 | h0; rw [h0] at ht; omega; exact h0
  obtain ⟨i, j, hj, rfl⟩ : ∃ i j, j < k ∧ t = i * k + j := ⟨t / k, t % k, Nat.mod_lt _ hk0, by rw [Nat.mul_comm]; exact (Nat.div_add_mod t k).symm⟩
  have hi : i < n := by
   refine Nat.lt_of_not_le fun hle => ?_
   have := Nat.mul_le_mul_right k hle
   omega
  rw [rowFlat_get (cells := fun t => cells d'[t]!) (n := n) (fun i _ => hk _) hi hj]
  have hf := flat_at hk d' i j (by rw [hd]; exact hi) hj
  have hjl : j < ((cells d'[i]!).map AV.den).length := by rw [List.length_map, hk]; exact hj
  rw [getElem!_pos _ j hjl] at hf
  simp only [Array.getElem?_toList, Go.Sort.putCells, Array.getElem?_mapIdx, Array.getElem?_eq_getElem hcs, Option.map_some, Nat.zero_le, true_and, Nat.zero_add, Nat.sub_zero, size_flatK, hd, ht, if_true, id]
  rw [hf, List.getElem?_eq_getElem hjl]
 rw [List.getElem?_eq_none (by rw [List.length_take]; omega), List.getElem?_eq_none (by rw [hlen]; omega)]
theorem sorted_c {P : Program} {f : Nat} {fv : Value} {lt : α → α → Bool} (hk : ∀ x, (cells x).length = k) (hO : Own w B e k (.slice A n c) n (rowFlat (fun t => cells (h t)) n))
  (hc : ∀ b (d : Array α), d.size = n → HoldsK (encV cells) k w b 0 d → b < w.heap.size → Calls P f #[.slice (some ⟨b, 0, none⟩) d.size c, fv] w fun e w' => e = .returned (.tuple #[]) ∧ ∃ d' m os, Go.Sort.PermIn 0 d.size d d' ∧ Go.Sort.SortedIn lt 0 d.size d' ∧ w' = sortWorldK (encV cells) k w b 0 m d' os)
  (h0 : n = 0 → Calls P f #[.slice A 0 c, fv] w fun e w' => e = .returned (.tuple #[]) ∧ w' = w) :
  Calls P f #[.slice A n c, fv] w fun e' w' => e' = .returned (.tuple #[]) ∧ ∃ h' : Nat → α, ((List.range n).map h').Perm ((List.range n).map h) ∧ (∀ i j, i < j → j < n → lt (h' j) (h' i) = false) ∧ Own w' B e k (.slice A n c) n (rowFlat (fun t => cells (h' t)) n) ∧ Chg (fun x => ownB (.slice A n c) = some x) w w' := by
 rcases Nat.eq_zero_or_pos n with hn | hn
 ·subst hn
  refine (h0 rfl).mono ?_
  rintro e' w' ⟨rfl, rfl⟩
  exact ⟨rfl, h, .refl _, fun i j _ hj => absurd hj (Nat.not_lt_zero _), hO, Chg.refl _ _⟩
 obtain ⟨b, hA, hB, hb, hH⟩ := holds_of_own hk hO hn
 have hsz : ((List.range n).map h).toArray.size = n := by simp
 have := hc b _ hsz hH hb
 rw [hsz, ← hA] at this
 refine this.mono ?_
 rintro e' w' ⟨rfl, d', m, os, hp, hs, rfl⟩
 have hd : d'.size = n := by rw [hp.1, hsz]
 refine ⟨rfl, fun i => d'[i]!, ?_, fun i j hij hj => hs i j (Nat.zero_le _) hij hj, own_sort hk hO hn hA hb d' hd m os, ?_⟩
 ·have h3 := hp.2.2
  have e1 : (d'.extract 0 n).toList = (List.range n).map fun i => d'[i]! := by
   apply List.ext_getElem
   ·simp [hd]
   intro i g1 g2
   have hi : i < n := by simpa using g2
   simp [getElem!_pos d' i (by rw [hd]; exact hi)]
  have e2 : (((List.range n).map h).toArray.extract 0 n).toList = (List.range n).map h := by
   simp [List.take_of_length_le]
  rw [e1, e2] at h3
  exact h3
 have hown : ownB (.slice A n c) = some b := by
  obtain ⟨b', hA', hb'⟩ := own_head hO hn
  rw [hA] at hA'
  injection hA' with hA'; injection hA' with hA'
  rw [hA']; exact hb'
 refine ⟨rfl, rfl, rfl, ?_, fun x hx hne => (heap_sort d' m os hb).2 x hx (fun e => hne (by rw [e]; exact hown))⟩
 exact size_sortWorldK_c (encV cells) k w b 0 m d' os
end
theorem own_known {m : Nat → Nat → Prop} {w : World} {B e k : Nat} {A : Option Addr} {n c : Nat} {f : Nat → List AV} (hO : Own w B e k (.slice A n c) n (rowFlat f n)) (hk : ∀ i, i < n → (f i).length = k) (hm : ∀ b, ownB (.slice A n c) = some b → ∀ o, ¬ m b o) (h1 : ∀ i, i < n → ∀ v ∈ f i, v.one = true ∧ Ok m w v) (g : Option Nat) : Ok m w (.sl g A n c k f) := by
 obtain ⟨A', c', he, h2, h3⟩ := hO.isSlice
 injection he with e1 e2 e3; subst e3
 refine .sl _ _ _ _ _ _ h2 h3 hk (fun i hi => ?_) (fun i hi => ?_) (fun i hi v hv => (h1 i hi v hv).1) (fun i hi v hv => (h1 i hi v hv).2)
 ·obtain ⟨b, hA, _⟩ := own_head hO (by omega)
  exact ⟨b, 0, hA⟩
 obtain ⟨b, hA, hb⟩ := own_head hO (by omega)
 intro j u hu
 have hj : j < k := by
  have := (List.getElem?_eq_some_iff.1 hu).1
  rwa [List.length_map, hk i hi] at this
 have hget := rowFlat_get (cells := f) hk hi hj
 rw [hu] at hget
 exact ⟨b, 0, hA, by rw [Nat.zero_add]; exact own_cells hO hb _ u hget, hm b hb _⟩
theorem Fits.sorted {m0 : Nat → Nat → Prop} {w0 : World} {S : Nat → Prop} {ds : List Deferred} {K : Kn} {nt key : Nat} {t : Gr} {l l' : List (Nat × AV)} {mem : List (Nat × Blk)} {a : Act} {w w' : World} (h : Fits ⟨m0, w0, S, ds, K⟩ ⟨nt, l, [], mem, [(key, t)]⟩ a w) (hc : Chg (fun x => ownB t.v = some x) w w')
  (hl : ∀ x, (look l' x).known = true → a.tmps[x]? = some (look l' x).den ∧ Ok (St.m ⟨nt, l', [], mem, []⟩ ⟨m0, w0, S, ds, noK⟩) w' (look l' x)) (hm : ∀ k e, lookM mem k = some e → ∀ v ∈ e.cells, Ok (St.m ⟨nt, l', [], mem, []⟩ ⟨m0, w0, S, ds, noK⟩) w' v) : Fits ⟨m0, w0, S, ds, noK⟩ ⟨nt, l', [], mem, []⟩ a w' := by
 have hlt : ∀ b, ownB t.v = some b → w0.heap.size ≤ b := fun b hb => by
  obtain ⟨_, xs, ho⟩ := h.gr key t (by simp [lookM])
  exact (ho.lt b hb).1
 refine ⟨h.size, h.defers, hl, (fun t p v hg => by cases hg), fun k e he => ?_, h.nodup, (fun k t ht => by cases ht), (fun k t k' e ht => by cases ht), (fun k t k' t' b ht => by cases ht), ?_, h.m0, trivial⟩
 ·obtain ⟨h1, h2, h3⟩ := h.mem k e he
  refine ⟨?_, fun v hv => ⟨(h2 v hv).1, hm k e he v hv⟩, h3⟩
  rw [hc.block _ (lt_heap h1) (fun hb => h.sepm key t k e (by simp [lookM]) he hb)]
  exact h1
 exact h.chg.trans hc fun k hk hb => absurd hk (Nat.not_lt.2 (hlt k hb))
theorem Fits.notM {m0 : Nat → Nat → Prop} {w0 : World} {S : Nat → Prop} {ds : List Deferred} {K : Kn} {nt key : Nat} {t : Gr} {l l' : List (Nat × AV)} {mem : List (Nat × Blk)} {a : Act} {w : World} (h : Fits ⟨m0, w0, S, ds, K⟩ ⟨nt, l, [], mem, [(key, t)]⟩ a w) : ∀ b, ownB t.v = some b → ∀ o, ¬ St.m ⟨nt, l', [], mem, []⟩ ⟨m0, w0, S, ds, noK⟩ b o := by
 intro b hb o hm
 obtain ⟨_, xs, ho⟩ := h.gr key t (by simp [lookM])
 have h1 := (ho.lt b hb).1
 rcases hm with hm | ⟨k, e, he, hm⟩ | ⟨k, t', ht, _⟩
 ·exact absurd (h.m0 _ _ hm) (Nat.not_lt.2 h1)
 ·subst hm
  exact h.sepm key t k e (by simp [lookM]) he hb
 cases ht
end Go.Proofs.YtikkeibmjppboaaGreat.Sym
namespace Go.Proofs.YtikkeibmjppboaaGreat.Sym
open Go Go.RowKit
def cmpI (x y : Int) : Int := if x < y then -1 else if y < x then 1 else 0
theorem cmpU_c (x y : Int) (w : World) : Calls Tryz.prog 50 #[.int .u64 x, .int .u64 y] w fun e w' => e = .returned (.int .i64 (cmpI x y)) ∧ w' = w := by
 have hn : ∀ (x : Int) (w : World), Calls Tryz.prog 106 #[.int .u64 x] w fun e w' => e = .returned (.bool false) ∧ w' = w := by
  intro x w
  go_enter Tryz.func106, Tryz.ntmps106
  go_wp2_with fail
  go_ret
  simp
 unfold cmpI
 go_enter Tryz.func50, Tryz.ntmps50
 go_wp2_with (go_at_call 106; refine (hn _ _).mono ?_; rintro e w' ⟨rfl, rfl⟩)
 all_goals (go_ret; exact ⟨rfl, rfl⟩)
theorem cmpN_c (x y : Int) (w : World) : Calls Tryz.prog 105 #[.int .i64 x, .int .i64 y] w fun e w' => e = .returned (.int .i64 (cmpI x y)) ∧ w' = w := by
 have hn : ∀ (x : Int) (w : World), Calls Tryz.prog 143 #[.int .i64 x] w fun e w' => e = .returned (.bool false) ∧ w' = w := by
  intro x w
  go_enter Tryz.func143, Tryz.ntmps143
  go_wp2_with fail
  go_ret
  simp
 unfold cmpI
 go_enter Tryz.func105, Tryz.ntmps105
 go_wp2_with (go_at_call 143; refine (hn _ _).mono ?_; rintro e w' ⟨rfl, rfl⟩)
 all_goals (go_ret; exact ⟨rfl, rfl⟩)
theorem or_c (b : Nat) (x y : Int) (w : World) (h0 : w.cell? ⟨b, 0, none⟩ = some (.int .i64 x)) (h1 : w.cell? ⟨b, 1, none⟩ = some (.int .i64 y)) : Calls Tryz.prog 104 #[.slice (some ⟨b, 0, none⟩) 2 2] w fun e w' => e = .returned (.int .i64 (if x ≠ 0 then x else y)) ∧ w' = w := by
 go_enter Tryz.func104, Tryz.ntmps104
 go_wp2_with fail
 refine wp_loop_rounds 3 ?_
 simp only [Code.rounds]
 go_wp2_with fail
 all_goals (go_ret; first | exact ⟨rfl, rfl⟩ | (exfalso; simp_all; done) | (refine ⟨?_, rfl⟩; simp_all; done))
def GrF (W w : World) : Prop := ∃ q os, w = Go.Sort.grow (W.drewN q) os
theorem GrF.refl (W : World) : GrF W W := ⟨0, #[], by simp [Go.Sort.grow, World.drewN]⟩
theorem GrF.drew {W w : World} (h : GrF W w) : GrF W w.drew := by
 obtain ⟨q, os, rfl⟩ := h
 exact ⟨q + 1, os, rfl⟩
theorem GrF.alloc {W w : World} (h : GrF W w) (o : Obj) : GrF W (w.alloc o) := by
 obtain ⟨q, os, rfl⟩ := h
 exact ⟨q, os.push o, by simp [Go.Sort.grow, World.alloc, World.drewN]⟩
theorem GrF.size {W w : World} (h : GrF W w) : W.heap.size ≤ w.heap.size := by
 obtain ⟨q, os, rfl⟩ := h
 simp [Go.Sort.grow, World.drewN]
theorem cell_alloc {w : World} {a : Addr} {u : Value} (h : w.cell? a = some u) (o : Obj) : (w.alloc o).cell? a = some u := by
 have hl := World.block_lt_of_cell? w _ h
 unfold World.cell? at h ⊢
 rw [Below.heap_alloc _ _ _ hl]; exact h
theorem cell_drew {w : World} {a : Addr} {u : Value} (h : w.cell? a = some u) : w.drew.cell? a = some u := h
theorem new2_0 (w : World) (x y : Value) (t : TypeId) : (w.alloc (.cells #[x, y] t)).cell? ⟨w.heap.size, 0, none⟩ = some x := cell_of_row _ _ 0 _ _ _ (heap_alloc_new w _)
theorem new2_1 (w : World) (x y : Value) (t : TypeId) : (w.alloc (.cells #[x, y] t)).cell? ⟨w.heap.size, 1, none⟩ = some y := cell_of_row _ _ 1 _ _ _ (heap_alloc_new w _)
theorem size_alloc {n : Nat} {w : World} (h : n ≤ w.heap.size) (o : Obj) : n ≤ (w.alloc o).heap.size := by simp; omega
def cmpLab (a b : Lab) : Int := if cmpI a.bits b.bits ≠ 0 then cmpI a.bits b.bits else cmpI a.len b.len
theorem rowCmp_c (a b : RowA) (W : World) : Calls Tryz.prog 111 #[.agg ((rowC a).map AV.den).toArray, .agg ((rowC b).map AV.den).toArray] W fun e w' => e = .returned (.int .i64 (cmpLab a.lab b.lab)) ∧ GrF W w' := by
 obtain ⟨⟨al, ab⟩, av, ⟨aA, ac, ⟨an, af, ak, ⟨anl, anb⟩, am⟩⟩⟩ := a
 obtain ⟨⟨bl, bb⟩, bv, ⟨bA, bc, ⟨bn, bf, bk, ⟨bnl, bnb⟩, bm⟩⟩⟩ := b
 simp only [rowC, List.map_cons, List.map_nil, AV.den, cmpLab]
 have hU := fun w => cmpU_c ab bb w
 have hN := fun w => cmpN_c al bl w
 generalize cmpI ab bb = x at hU ⊢
 generalize cmpI al bl = y at hN ⊢
 have hO := fun b w h0 h1 => or_c b x y w h0 h1
 generalize (if x ≠ 0 then x else y) = r at hO ⊢
 go_enter Tryz.func111, Tryz.ntmps111
 go_wp2_with fail
 obtain ⟨W5, hW5⟩ := eqv ((W.alloc (.cells #[.int .i64 al, .int .u64 ab, .int .u64 av, .int .i64 ak, .slice aA an ac, .int .i64 anl, .int .u64 anb, .int .u64 am] 73)).alloc (.cells #[.int .i64 bl, .int .u64 bb, .int .u64 bv, .int .i64 bk, .slice bA bn bc, .int .i64 bnl, .int .u64 bnb, .int .u64 bm] 73))
 have hG : GrF W W5 := by rw [hW5]; exact ((GrF.refl W).alloc _).alloc _
 have hs : W5.heap.size = W.heap.size + 1 + 1 := by rw [hW5]; simp
 have z0 : W5.heap[W.heap.size]? = some (.cells #[.int .i64 al, .int .u64 ab, .int .u64 av, .int .i64 ak, .slice aA an ac, .int .i64 anl, .int .u64 anb, .int .u64 am] 73 (0, 0)) := by
  rw [hW5, Below.heap_alloc _ _ _ (by simp)]; exact heap_alloc_new W _
 have z1 : W5.heap[W.heap.size + 1]? = some (.cells #[.int .i64 bl, .int .u64 bb, .int .u64 bv, .int .i64 bk, .slice bA bn bc, .int .i64 bnl, .int .u64 bnb, .int .u64 bm] 73 (0, 0)) := by
  have := heap_alloc_new (W.alloc (.cells #[.int .i64 al, .int .u64 ab, .int .u64 av, .int .i64 ak, .slice aA an ac, .int .i64 anl, .int .u64 anb, .int .u64 am] 73)) (.cells #[.int .i64 bl, .int .u64 bb, .int .u64 bv, .int .i64 bk, .slice bA bn bc, .int .i64 bnl, .int .u64 bnb, .int .u64 bm] 73)
  rw [hW5]; simpa using this
 have c0 : W5.cell? ⟨W.heap.size, 0, none⟩ = some (.int .i64 al) := cell_of_row W5 _ 0 _ _ _ z0
 have c1 : W5.cell? ⟨W.heap.size, 1, none⟩ = some (.int .u64 ab) := cell_of_row W5 _ 1 _ _ _ z0
 have c2 : W5.cell? ⟨W.heap.size + 1, 0, none⟩ = some (.int .i64 bl) := cell_of_row W5 _ 0 _ _ _ z1
 have c3 : W5.cell? ⟨W.heap.size + 1, 1, none⟩ = some (.int .u64 bb) := cell_of_row W5 _ 1 _ _ _ z1
 clear z0 z1
 rw [← hW5]
 clear hW5
 clear hs
 go_region_held3 (fun w' => w'.cell? ⟨W.heap.size, 0, none⟩ = some (.int .i64 al) ∧ w'.cell? ⟨W.heap.size, 1, none⟩ = some (.int .u64 ab) ∧ w'.cell? ⟨W.heap.size + 1, 0, none⟩ = some (.int .i64 bl) ∧ w'.cell? ⟨W.heap.size + 1, 1, none⟩ = some (.int .u64 bb) ∧ W5.heap.size ≤ w'.heap.size ∧ GrF W w')
  ((go_split_ands; (repeat' apply And.intro) <;> first | with_reducible assumption | with_reducible exact GrF.drew (by assumption) | with_reducible exact GrF.alloc (by assumption) _ | with_reducible exact GrF.drew (GrF.alloc (by assumption) _) | with_reducible exact cell_alloc (by assumption) _ | with_reducible exact size_alloc (by assumption) _ | go_keep))
  (first | (go_at_call 50; refine (hU _).mono ?_; rintro e w' ⟨rfl, rfl⟩) | (go_at_call 105; refine (hN _).mono ?_; rintro e w' ⟨rfl, rfl⟩) | (go_at_call 104; refine (hO _ _ (by first | exact new2_0 _ _ _ _ | exact cell_drew (new2_0 _ _ _ _)) (by first | exact new2_1 _ _ _ _ | exact cell_drew (new2_1 _ _ _ _))).mono ?_; rintro e w' ⟨rfl, rfl⟩))
 all_goals (go_wp2_with fail; go_ret; exact ⟨rfl, by first | exact (hG.alloc _).drew | exact hG.alloc _⟩)
end Go.Proofs.YtikkeibmjppboaaGreat.Sym
namespace Go.Proofs
open Go.Shelf
def Tryz.sortRow_ren : Go.Shelf.Ren := ⟨fun | 6 => 57 | 15 => 103 | 14 => 108 | 28 => 141 | 29 => 142 | 20 => 144 | 21 => 145 | 22 => 146 | 23 => 147 | 24 => 148 | 25 => 149 | 26 => 150 | 27 => 151 | 46 => 173 | 47 => 169 | 48 => 170 | 49 => 174 | 50 => 175 | 57 => 184 | n => n, fun | 22 => 22 | 24 => 73 | 25 => 108 | 3 => 3 | 39 => 155 | 0 => 0 | 53 => 43 | 55 => 39 | 4 => 4 | 46 => 180 | 45 => 179 | 50 => 145 | 5 => 5 | 9 => 9 | 66 => 208 | 70 => 212 | 76 => 218 | 77 => 219 | n => n, fun | n => n⟩
theorem Tryz.sortRow : Go.Proofs.SlLaysF0.n6 Tryz.prog Tryz.sortRow_ren := {
 mixed := by kernel_rfl
 f6 := ⟨Tryz.f57.name, by decide, Tryz.func57.trans (congrArg some (by kernel_rfl))⟩
 f14 := ⟨Tryz.f108.name, by decide, Tryz.func108.trans (congrArg some (by kernel_rfl))⟩
 f15 := Tryz.func103.trans (congrArg some (by kernel_rfl))
 f20 := ⟨Tryz.f144.name, by decide, Tryz.func144.trans (congrArg some (by kernel_rfl))⟩
 f21 := ⟨Tryz.f145.name, by decide, Tryz.func145.trans (congrArg some (by kernel_rfl))⟩
 f22 := ⟨Tryz.f146.name, by decide, Tryz.func146.trans (congrArg some (by kernel_rfl))⟩
 f23 := ⟨Tryz.f147.name, by decide, Tryz.func147.trans (congrArg some (by kernel_rfl))⟩
 f24 := ⟨Tryz.f148.name, by decide, Tryz.func148.trans (congrArg some (by kernel_rfl))⟩
 f25 := ⟨Tryz.f149.name, by decide, Tryz.func149.trans (congrArg some (by kernel_rfl))⟩
 f26 := ⟨Tryz.f150.name, by decide, Tryz.func150.trans (congrArg some (by kernel_rfl))⟩
 f27 := ⟨Tryz.f151.name, by decide, Tryz.func151.trans (congrArg some (by kernel_rfl))⟩
 f28 := Tryz.func141.trans (congrArg some (by kernel_rfl))
 f29 := Tryz.func142.trans (congrArg some (by kernel_rfl))
 f46 := ⟨Tryz.f173.name, by decide, Tryz.func173.trans (congrArg some (by kernel_rfl))⟩
 f47 := Tryz.func169.trans (congrArg some (by kernel_rfl))
 f48 := Tryz.func170.trans (congrArg some (by kernel_rfl))
 f49 := ⟨Tryz.f174.name, by decide, Tryz.func174.trans (congrArg some (by kernel_rfl))⟩
 f50 := ⟨Tryz.f175.name, by decide, Tryz.func175.trans (congrArg some (by kernel_rfl))⟩
 f57 := ⟨Tryz.f184.name, by decide, Tryz.func184.trans (congrArg some (by kernel_rfl))⟩
 t0 := Tryz.underlying0
 a0 := Tryz.isAgg0
 z0 := Tryz.sizeOf0
 v0 := Tryz.zeroValue0
 t3 := Tryz.underlying3
 a3 := Tryz.isAgg3
 z3 := Tryz.sizeOf3
 v3 := Tryz.zeroValue3
 t4 := Tryz.underlying4
 a4 := Tryz.isAgg4
 z4 := Tryz.sizeOf4
 v4 := Tryz.zeroValue4
 t5 := Tryz.underlying5
 a5 := Tryz.isAgg5
 z5 := Tryz.sizeOf5
 v5 := Tryz.zeroValue5
 t9 := Tryz.underlying9
 a9 := Tryz.isAgg9
 z9 := Tryz.sizeOf9
 v9 := Tryz.zeroValue9
 t22 := Tryz.underlying22
 a22 := Tryz.isAgg22
 z22 := Tryz.sizeOf22
 v22 := Tryz.zeroValue22
 t25 := Tryz.underlying108
 a25 := Tryz.isAgg108
 z25 := Tryz.sizeOf108
 v25 := Tryz.zeroValue108
 t39 := Tryz.underlying155
 a39 := Tryz.isAgg155
 z39 := Tryz.sizeOf155
 v39 := Tryz.zeroValue155
 t45 := Tryz.underlying179
 a45 := Tryz.isAgg179
 z45 := Tryz.sizeOf179
 v45 := Tryz.zeroValue179
 t46 := Tryz.underlying180
 a46 := Tryz.isAgg180
 z46 := Tryz.sizeOf180
 v46 := Tryz.zeroValue180
 t50 := Tryz.underlying145
 a50 := Tryz.isAgg145
 z50 := Tryz.sizeOf145
 v50 := Tryz.zeroValue145
 t53 := Tryz.underlying43
 a53 := Tryz.isAgg43
 z53 := Tryz.sizeOf43
 v53 := Tryz.zeroValue43
 t55 := Tryz.underlying39
 a55 := Tryz.isAgg39
 z55 := Tryz.sizeOf39
 v55 := Tryz.zeroValue39
 t66 := Tryz.underlying208
 a66 := Tryz.isAgg208
 z66 := Tryz.sizeOf208
 v66 := Tryz.zeroValue208
 t70 := Tryz.underlying212
 a70 := Tryz.isAgg212
 z70 := Tryz.sizeOf212
 v70 := Tryz.zeroValue212
 t76 := Tryz.underlying218
 a76 := Tryz.isAgg218
 z76 := Tryz.sizeOf218
 v76 := Tryz.zeroValue218
 t77 := Tryz.underlying219
 a77 := Tryz.isAgg219
 z77 := Tryz.sizeOf219
 v77 := Tryz.zeroValue219 }
end Go.Proofs
namespace Go.Proofs.YtikkeibmjppboaaGreat.Sym
open Go Go.RowKit Go.Sort
instance : Inhabited RowA := ⟨zRow⟩
def labLt (a b : Lab) : Bool := decide (cmpLab a b < 0)
theorem labLt_iff (a b : Lab) : labLt a b = true ↔ a.bits < b.bits ∨ (a.bits = b.bits ∧ a.len < b.len) := by
 unfold labLt cmpLab cmpI
 rw [decide_eq_true_iff]
 split <;> rename_i h <;> (repeat' split at h) <;> (repeat' split) <;> omega
theorem labLt_not (a b : Lab) : labLt a b = false ↔ ¬ (a.bits < b.bits ∨ (a.bits = b.bits ∧ a.len < b.len)) := by
 rw [← labLt_iff]; simp
def cfRow (x y : RowA) : Int := cmpLab x.lab y.lab
theorem cfRow_lt (x y : RowA) : ltOf cfRow x y = labLt x.lab y.lab := rfl
theorem swoRow : SWO (ltOf cfRow) := by
 refine ⟨fun x => ?_, fun x y z h1 h2 => ?_, fun x y z h1 h2 => ?_⟩
 ·rw [cfRow_lt, labLt_not]; omega
 ·rw [cfRow_lt, labLt_iff] at *; omega
 rw [cfRow_lt, labLt_not] at *; omega
theorem sortRow_c {n B e : Nat} {A : Option Addr} {c : Nat} {h : Nat → RowA} {w : World} (hO : Own w B e 8 (.slice A n c) n (rowFlat (fun t => rowC (h t)) n)) (hn : n < 4611686018427387904) :
  Calls Tryz.prog 57 #[.slice A n c, .func (.func 111) #[] #[]] w fun e' w' => e' = .returned (.tuple #[]) ∧ ∃ h' : Nat → RowA, ((List.range n).map h').Perm ((List.range n).map h) ∧ (∀ i j, i < j → j < n → labLt (h' j).lab (h' i).lab = false) ∧ Own w' B e 8 (.slice A n c) n (rowFlat (fun t => rowC (h' t)) n) ∧ Chg (fun x => ownB (.slice A n c) = some x) w w' := by
 refine sorted_c (cells := rowC) (lt := ltOf cfRow) (k := 8) (fun _ => rfl) hO (fun b d hd hH hb => ?_) (fun h0 => ?_)
 ·have eg : ∀ args w, (callFunc 111 args).run Tryz.prog w = .ok (.enter 111 args) w := enters_of Tryz.func111 (by kernel_rfl) rfl
  have hcmp : CmpLays Tryz.prog 111 #[] (encV rowC) 8 cfRow b 0 d.size w := by
   intro m os dk hdk x y
   refine (rowCmp_c x y _).mono ?_
   rintro e w' ⟨rfl, q, os', rfl⟩
   exact ⟨rfl, q, os', rfl⟩
  have := AnyQ.slices_SortFunc Tryz.sortRow 8 (fun _ => by kernel_rfl) (fun _ => by kernel_rfl) (encV rowC) (fun _ => rfl) (fun x v hv => by
   simp only [encV, rowC, List.map_cons, List.map_nil, AV.den, List.mem_cons, List.not_mem_nil, or_false] at hv
   rcases hv with rfl | rfl | rfl | rfl | rfl | rfl | rfl | rfl <;> rfl) cfRow swoRow 111 #[] b 0 c d w eg hcmp hH hb (by omega)
  exact this
 exact AnyF.slices_SortFunc_none (P := Tryz.prog) (ρ := Tryz.sortRow_ren) { Tryz.sortRow with } A c _ w
end Go.Proofs.YtikkeibmjppboaaGreat.Sym
namespace Go.Proofs.YtikkeibmjppboaaGreat.Sym
open Go Go.RowKit
section
variable {m0 : Nat → Nat → Prop} {w0 : World} {S : Nat → Prop} {ds : List Deferred} {K : Kn} {P : Program} {Q : Exit → Act → World → Prop} {ops : Array Oper} {s : St} {a : Act} {w : World} {L rest : List Oper} {o : Oper}
open Go.Maps in
theorem man_next1 {it : Operand} {k : TypeId} {d b r n cnt : Nat} {D : DataW Value} {left : Lit → Bool} (hL : L = o :: rest) (hg : o.guard = none) (hop : o.op = .next it false) (hdst : o.dst = some d) (h : Fits ⟨m0, w0, S, ds, K⟩ s a w) (hd : d < s.nt) (hit : val s [] it = .raw (.pointer (some ⟨r, 0, none⟩)))
  (Kd : Keyed P k) (hM : w.ranges P k hR b r n D left cnt) (hC : r < w0.heap.size → S r)
  (K1 : Bool → Value → Value → Lit → Nat → Kn) (hK0 : ∀ m, K.p m w → (∀ kl, left kl = false) → (K1 false (.bool false) (.bool false) (.bool false) 0).p m w) (hK1 : ∀ key v kl cnt' m w', K.p m w → KeepB (some r) w m w' m → w'.ranges P k hR b r n D (fun x => left x && !x.sameKey kl) cnt' → EntryAt P w' r key v → (K1 true key v kl cnt').p m w')
  (K' : ∀ a' w' bb rest' key v kl cnt', (bb = false → ∀ kl, left kl = false) → (bb = true → Go.keyOf P k key = some kl ∧ left kl = true ∧ (∀ zd, D.atKey kl zd = .held v) ∧ cnt' < cnt) → Fits ⟨m0, w0, S, ds, K1 bb key v kl cnt'⟩ (s.put (some d) (.tup (.bool (.v bb) :: rest'))) a' w' → wpList P ops Q rest a' w') : wpList P ops Q L a w := by
 have hiv := (val_ok h (q := []) (fun _ h => by cases h) (x := it) (by rw [hit]; rfl)).1
 rw [hit] at hiv
 have hr0 : ∃ o', w.heap[r]? = some o' ∧ ∀ c t f, o' ≠ Obj.cells c t f := by
  obtain ⟨es, clock, since, seen, c0, _, _, _, _, hr, _⟩ := hM
  exact ⟨_, hr, fun c t f e => by cases e⟩
 obtain ⟨o', hr, hro⟩ := hr0
 refine man_op hL hg ?_
 unfold Oper.wp
 rcases hM.next Kd o.type with ⟨h0, hl, hrun⟩ | ⟨key, v, kl, y, w', cnt', hkey, hlk, hv, hat, hrun, hrg, hlt, hgr, hsz, hen⟩
 ·have e1 : (execOp a.eval o).run P w = .ok (.value (.tuple #[.bool false])) w := by simp [execOp, hop, hiv, hrun, Result.andThen, AV.den]
  rw [e1]
  simp only [Oper.upon]
  rw [hdst]
  exact K' _ _ false [] (.bool false) (.bool false) (.bool false) 0 (fun _ => hl) (fun h => by cases h) ((h.withK (hK0 _ h.kept hl)).put (some d) (fun t ht => by injection ht with ht; subst ht; exact hd) (.tup [.bool (.v false)]) (fun _ => .tup _ fun u hu => by simp at hu; subst hu; exact .bool _) _ fun _ => rfl)
 have e1 : (execOp a.eval o).run P w = .ok (.value (.tuple #[.bool true, key, v])) w' := by simp [execOp, hop, hiv, hrun, Result.andThen, AV.den]
 rw [e1]
 simp only [Oper.upon]
 rw [hdst]
 have hv' : y.1 = .held v := by unfold hR at hv; injection hv with hv; rw [← hv]
 have hea : EntryAt P w' r key v := by
  obtain ⟨es, clock, since, seen, c0, hb', _, _, _, hr', _⟩ := hrg
  exact ⟨⟨_, _, _, _, _, _, hr', hb'⟩, hen⟩
 have h2 := h.turn hr hro hgr hC (hK1 key v kl cnt' _ _ h.kept (turn_keepB hr hro hgr) hrg hea)
 refine K' _ _ true [.raw key, .raw v] key v kl cnt' (fun h => by cases h) (fun _ => ⟨hkey, hlk, fun zd => (hat zd).trans hv', hlt⟩) (h2.put (some d) (fun t ht => by injection ht with ht; subst ht; exact hd) (.tup [.bool (.v true), .raw key, .raw v]) (fun _ => .tup _ fun u hu => ?_) _ fun _ => rfl)
 simp only [List.mem_cons, List.not_mem_nil, or_false] at hu
 rcases hu with rfl | rfl | rfl
 ·exact .bool _
 ·exact .raw _
 exact .raw _
theorem own_flat {m : Nat → Nat → Prop} {w : World} {B e k : Nat} {g : Option Nat} {A : Option Addr} {n c : Nat} {f : Nat → List AV} {xs : List Value} (hO : Own w B e k (.slice A n c) n xs) (hk : Ok m w (.sl g A n c k f)) : xs = rowFlat f n := by
 cases hk with
 | sl _ _ _ _ _ _ h1 h2 h3 h4 h5 h6 h7 =>
  have hl1 := hO.1
  have hl2 := rowFlat_len (cells := f) (k := k) (n := n) h3
  apply List.ext_getElem
  ·rw [hl1, hl2]
  intro t g1 g2
  have ht : t < n * k := by rw [hl1] at g1; exact g1
  have hk0 : 0 < k := by rcases Nat.eq_zero_or_pos k with h0 | h0; rw [h0] at ht; omega; exact h0
  obtain ⟨i, j, hj, rfl⟩ : ∃ i j, j < k ∧ t = i * k + j := ⟨t / k, t % k, Nat.mod_lt _ hk0, by rw [Nat.mul_comm]; exact (Nat.div_add_mod t k).symm⟩
  have hi : i < n := by
   refine Nat.lt_of_not_le fun hle => ?_
   have := Nat.mul_le_mul_right k hle
   omega
  obtain ⟨b, hA, hb⟩ := own_head hO (by omega)
  have e1 := own_cells hO hb (i * k + j) _ (List.getElem?_eq_getElem g1)
  have hjl : j < ((f i).map AV.den).length := by rw [List.length_map, h3 i hi]; exact hj
  obtain ⟨b', off, hA', e2, _⟩ := h5 i hi j _ (List.getElem?_eq_getElem hjl)
  have hg := rowFlat_get (cells := f) h3 hi hj
  rw [List.getElem?_eq_getElem g2, List.getElem?_eq_getElem hjl] at hg
  rw [hA] at hA'
  injection hA' with hA'; injection hA' with q1 q2
  subst q1; subst q2
  rw [Nat.zero_add] at e2
  rw [e1] at e2
  injection e2 with e2
  injection hg with hg
  rw [e2, hg]
theorem man_sorted {nt key d : Nat} {t : Gr} {l : List (Nat × AV)} {mem : List (Nat × Blk)} {c : Call} {g : Operand} {f : FuncId} {args : List AV} (hL : L = o :: rest) (hg : o.guard = none) (hop : o.op = .call c) (hcal : c.callee = .value g) (hdst : o.dst = some d) (h : Fits ⟨m0, w0, S, ds, K⟩ ⟨nt, l, [], mem, [(key, t)]⟩ a w) (hgv : val ⟨nt, l, [], mem, [(key, t)]⟩ [] g = .fn f [] []) (hl : vals ⟨nt, l, [], mem, [(key, t)]⟩ [] c.args.toList = some args) (hen : Enters P f)
  (R : World → Prop) (hc : Calls P f (args.map AV.den).toArray w fun e w' => e = .returned (.tuple #[]) ∧ R w' ∧ Chg (fun x => ownB t.v = some x) w w')
  (K' : ∀ w', R w' → Chg (fun x => ownB t.v = some x) w w' → wpList P ops Q rest (a.put (some d) (.tuple #[])) w') : wpList P ops Q L a w := by
 refine man_op hL hg ?_
 obtain ⟨hrun, _⟩ := call_run hop hcal h hgv hl hen
 unfold Oper.wp
 rw [hrun]
 simp only [Oper.upon]
 simp only [List.nil_append, List.append_nil]
 refine hc.mono ?_
 rintro e w' ⟨rfl, h1, h2⟩
 rw [hdst]
 exact K' w' h1 h2
end
def rngK (D : DataW Value) (E : Adr) (b r : Nat) (L : Shf) (left : Lit → Bool) (cnt : Nat) : Kn := ⟨fun m w => ShD D E b L m w ∧ w.ranges Tryz.prog 41 hR b r L.length D left cnt, fun k h => ⟨h.1.keep k, ranges_keep k h.2⟩⟩
def stpK (D : DataW Value) (E : Adr) (b r : Nat) (L : Shf) (left : Lit → Bool) (bb : Bool) (key v : Value) (kl : Lit) (cnt : Nat) : Kn := ⟨fun m w => ShD D E b L m w ∧ (bb = true → w.ranges Tryz.prog 41 hR b r L.length D (fun x => left x && !x.sameKey kl) cnt ∧ EntryAt Tryz.prog w r key v), fun k h => ⟨h.1.keep k, fun hb => ⟨ranges_keep k (h.2 hb).1, entry_keep k (h.2 hb).2⟩⟩⟩
def entK (D : DataW Value) (E : Adr) (b r : Nat) (L : Shf) (left : Lit → Bool) (key v : Value) (cnt : Nat) : Kn := ⟨fun m w => ShD D E b L m w ∧ w.ranges Tryz.prog 41 hR b r L.length D left cnt ∧ EntryAt Tryz.prog w r key v, fun k h => ⟨h.1.keep k, ranges_keep k h.2.1, entry_keep k h.2.2⟩⟩
theorem ShD.entry {D : DataW Value} {E : Adr} {b : Nat} {L : Shf} {m : Nat → Nat → Prop} {w : World} (h : ShD D E b L m w) {key v : Value} {kl : Lit} (hk : Go.keyOf Tryz.prog 41 key = some kl) (hh : Maps.has D kl = true) (ha : ∀ zd, D.atKey kl zd = .held v) : ∃ p ∈ L, keyL p.1 = kl ∧ key = (labAV p.1).den ∧ v = (AV.agg (elC (elA E p.1 p.2))).den := by
 obtain ⟨p, hp, he⟩ := (h.has kl).1 hh
 refine ⟨p, hp, he, ?_, ?_⟩
 ·exact labK.inj hk (he ▸ key_lab (h.labs p hp))
 have h1 := h.at_ p hp (.held v)
 rw [he, ha] at h1
 injection h1
def rowOf (p : Lab × Spo) : Rw := ⟨p.1, p.2.ver, p.2.r⟩
theorem rowsL_eq (L : Shf) : rowsL L = (L.filter (fun p => p.2.has)).map rowOf := rfl
theorem rowsL_cons (p : Lab × Spo) (L : Shf) : rowsL (p :: L) = (if p.2.has then [rowOf p] else []) ++ rowsL L := by
 unfold rowsL
 rw [List.filter_cons]
 split <;> rfl
theorem rowsL_perm {L M : Shf} (h : L.Perm M) : (rowsL L).Perm (rowsL M) := (h.filter _).map _
theorem rowsL_len (L : Shf) : (rowsL L).length ≤ L.length := by
 rw [rowsL_eq, List.length_map]; exact List.length_filter_le _ _
theorem same_refl (l : Lab) : (keyL l).sameKey (keyL l) = true := by simp [keyL, Lit.sameKey]
theorem same_iff {l l' : Lab} (h : LabOk l) (h' : LabOk l') : (keyL l).sameKey (keyL l') = decide (l = l') := by
 by_cases he : l = l'
 ·subst he; rw [same_refl, decide_eq_true rfl]
 rw [decide_eq_false he]
 have : keyL l ≠ keyL l' := fun e => he (keyL_inj h h' e)
 unfold keyL at this ⊢
 simp only [Lit.sameKey]
 simpa using this
theorem left_step {left : Lit → Bool} {p : Lab × Spo} : ∀ {L : Shf}, Rises L → (∀ q ∈ L, LabOk q.1) → p ∈ L → left (keyL p.1) = true →
  (L.filter fun q => left (keyL q.1)).Perm (p :: L.filter fun q => left (keyL q.1) && !(keyL q.1).sameKey (keyL p.1))
 | q :: L, hr, hl, hp, h1 => by
  have hr' := List.pairwise_cons.1 hr
  rcases List.mem_cons.1 hp with rfl | hp
  ·rw [List.filter_cons, if_pos h1, List.filter_cons, same_refl]
   simp only [Bool.not_true, Bool.and_false, Bool.false_eq_true, if_false]
   refine List.Perm.cons _ ?_
   have : ∀ q ∈ L, (left (keyL q.1)) = (left (keyL q.1) && !(keyL q.1).sameKey (keyL p.1)) := by
    intro q hq
    rw [same_iff (hl q (by simp [hq])) (hl p (by simp)), decide_eq_false (fun e => less_ne (hr'.1 q hq) e.symm)]
    simp
   rw [List.filter_congr this]
  have hne : q.1 ≠ p.1 := less_ne (hr'.1 p hp)
  have ih := left_step hr'.2 (fun q hq => hl q (by simp [hq])) hp h1
  rw [List.filter_cons, List.filter_cons, same_iff (hl q (by simp)) (hl p (by simp [hp])), decide_eq_false hne]
  simp only [Bool.not_false, Bool.and_true]
  split
  ·exact (List.Perm.cons _ ih).trans (List.Perm.swap _ _ _)
  exact ih
theorem rows_step {left : Lit → Bool} {p : Lab × Spo} {L : Shf} (hr : Rises L) (hl : ∀ q ∈ L, LabOk q.1) (hp : p ∈ L) (h1 : left (keyL p.1) = true) {R : List Rw} (h : (R ++ rowsL (L.filter fun q => left (keyL q.1))).Perm (rowsL L)) :
  ((R ++ if p.2.has = true then [rowOf p] else []) ++ rowsL (L.filter fun q => left (keyL q.1) && !(keyL q.1).sameKey (keyL p.1))).Perm (rowsL L) := by
 refine List.Perm.trans ?_ h
 rw [List.append_assoc]
 refine List.Perm.append_left _ ?_
 have := rowsL_perm (left_step hr hl hp h1)
 rw [rowsL_cons] at this
 exact this.symm
theorem rowsL_mem {L : Shf} {x : Rw} (h : x ∈ rowsL L) : ∃ p ∈ L, p.2.has = true ∧ rowOf p = x := by
 rw [rowsL_eq] at h
 obtain ⟨p, hp, he⟩ := List.mem_map.1 h
 have := List.mem_filter.1 hp
 exact ⟨p, this.1, this.2, he⟩
theorem rowsL_rises {L : Shf} (h : Rises L) : (rowsL L).Pairwise fun a b => lessL a.lab b.lab = true := by
 rw [rowsL_eq, List.pairwise_map]
 exact (List.Pairwise.filter _ h)
theorem labLt_less (a b : Lab) : labLt a b = lessL a b := by
 rw [Bool.eq_iff_iff, labLt_iff]
 simp [lessL]
def leRw (a b : Rw) : Prop := labLt b.lab a.lab = false
theorem rows_sorted {L : Shf} (hr : Rises L) {R : List Rw} (hp : R.Perm (rowsL L)) (hs : R.Pairwise leRw) : R = rowsL L := by
 refine List.Perm.eq_of_pairwise (le := leRw) ?_ hs ?_ hp
 ·intro a b ha hb h1 h2
  have hl : a.lab = b.lab := by
   unfold leRw at h1 h2
   rw [labLt_less] at h1 h2
   rcases less_total a.lab b.lab with h | h | h
   ·rw [h] at h2; cases h2
   ·exact h
   rw [h] at h1; cases h1
  obtain ⟨p, hp1, _, rfl⟩ := rowsL_mem (hp.mem_iff.1 ha)
  obtain ⟨q, hq1, _, rfl⟩ := rowsL_mem hb
  have e1 := mem_find hr hp1
  have e2 := mem_find hr hq1
  have hl' : p.1 = q.1 := hl
  rw [hl', e2] at e1
  injection e1 with e1
  have : p = q := Prod.ext hl' e1.symm
  rw [this]
 refine (rowsL_rises hr).imp ?_
 intro a b h
 unfold leRw
 rw [labLt_less]
 rcases hx : lessL b.lab a.lab with _ | _
 ·rfl
 have := less_trans h hx
 rw [less_irr] at this; cases this
theorem rows_fin {L : Shf} (hr : Rises L) {h h' : Nat → RowA} {k : Nat} (hp : (rwsA h k).Perm (rowsL L)) (hp' : ((List.range k).map h').Perm ((List.range k).map h)) (hs : ∀ i j, i < j → j < k → labLt (h' j).lab (h' i).lab = false) : rwsA h' k = rowsL L := by
 refine rows_sorted hr ?_ ?_
 ·refine List.Perm.trans ?_ hp
  have := hp'.map RowA.abs
  simp only [List.map_map] at this
  exact this
 rw [List.pairwise_iff_getElem]
 intro i j hi hj hij
 have hj' : j < k := by rw [listA_len] at hj; exact hj
 have hi' : i < k := by omega
 have e : ∀ t (g : t < (rwsA h' k).length), t < k → (rwsA h' k)[t] = (h' t).abs := by
  intro t g ht
  have := listA_get RowA.abs h' ht
  rw [List.getElem?_eq_getElem g] at this
  exact Option.some.inj this
 rw [e i hi hi', e j hj hj']
 exact hs i j hij hj'
theorem one_of_el {m : Nat → Nat → Prop} {w : World} {el : SpA} (h : Ok m w (.agg (elC el))) : ∀ v ∈ rowC el.w, v.one = true ∧ Ok m w v := by
 cases h with
 | agg _ h1 h2 =>
  intro v hv
  simp only [rowC, List.mem_cons, List.not_mem_nil, or_false] at hv
  rcases hv with rfl | rfl | rfl | rfl | rfl | rfl | rfl | rfl
  ·exact ⟨rfl, .int _ _⟩
  ·exact ⟨rfl, .int _ _⟩
  ·exact ⟨rfl, .int _ _⟩
  ·exact ⟨rfl, .int _ _⟩
  ·exact ⟨h1 _ (by simp [elC]), h2 _ (by simp [elC])⟩
  ·exact ⟨rfl, .int _ _⟩
  ·exact ⟨rfl, .int _ _⟩
  exact ⟨rfl, .int _ _⟩
theorem sorted_ok {m : Nat → Nat → Prop} {w w1 w' : World} {pre : List (Nat × Blk)} {ds : List Deferred} {K : Kn} {nt key : Nat} {t : Gr} {l l' : List (Nat × AV)} {mem : List (Nat × Blk)} {a : Act} (h : Fits ⟨m, w, ats pre, ds, K⟩ ⟨nt, l, [], mem, [(key, t)]⟩ a w1) (hp : PreOk m w pre) (hc : Chg (fun x => ownB t.v = some x) w1 w') {v : AV} (hv : Ok m w v) : Ok (St.m ⟨nt, l', [], mem, []⟩ ⟨m, w, ats pre, ds, noK⟩) w' v := by
 refine hv.mono fun b o u hcell hn => ?_
 have hlt := World.block_lt_of_cell? w _ hcell
 have hna : ¬ ats pre b := by
  rintro ⟨e, he, rfl⟩
  exact hn (hp.free e he o)
 have hown : ownB t.v ≠ some b := by
  intro hb
  obtain ⟨_, xs, ho⟩ := h.gr key t (by simp [lookM])
  exact absurd hlt (Nat.not_lt.2 (ho.lt b hb).1)
 refine ⟨?_, ?_⟩
 ·have e1 := h.chg.block b hlt hna
  have e2 := hc.block b (Nat.lt_of_lt_of_le hlt h.chg.size) hown
  unfold World.cell? at hcell ⊢
  rw [e2, e1]; exact hcell
 rintro (h1 | ⟨k, e, he, h1⟩ | ⟨k, t', ht, _⟩)
 ·exact hn h1
 ·subst h1
  rcases (h.mem k e he).2.2 with h2 | h2
  ·exact absurd hlt (Nat.not_lt.2 h2)
  exact hna h2
 cases ht
theorem SpecR.re {P : Program} {K : Kn} {f : FuncId} {args args' : List AV} {pre pre' : List (Nat × Blk)} {res res' : Atom → AV} (h : SpecR P K f args pre res) (ha : SimL args' args) (hp : pre'.map (·.2) = pre.map (·.2)) (hr : ∀ x, Sim (res x) (res' x)) : SpecR P K f args' pre' res' := by
 intro m w h1 h2 h3 hI
 rw [ha.map]
 refine (h m w h1 (ha.ok h2) (h3.re hp.symm) hI).mono ?_
 rintro e w' ⟨x, rfl, hok, hl⟩
 exact ⟨x, by rw [(hr x).1], (hr x).2.2 _ _ hok, hl⟩
theorem lab_ok' {m : Nat → Nat → Prop} {w : World} (x y : Int) : Ok m w (.agg [.int .i64 x, .int .u64 y]) := by
 refine .agg _ (fun v hv => ?_) fun v hv => ?_
 ·simp only [List.mem_cons, List.not_mem_nil, or_false] at hv
  rcases hv with rfl | rfl <;> rfl
 simp only [List.mem_cons, List.not_mem_nil, or_false] at hv
 rcases hv with rfl | rfl <;> exact .int _ _
theorem elA_abs (E : Adr) (p : Lab × Spo) : (elA E p.1 p.2).w.abs = rowOf p := by
 unfold elA RowA.abs rowOf
 simp only [rn_abs]
theorem enters57 : Enters Tryz.prog 57 := fun _ _ => by kernel_rfl
theorem rows_start {D : DataW Value} {E : Adr} {b : Nat} {L : Shf} {m : Nat → Nat → Prop} {w : World} (h : ShD D E b L m w) : (rwsA (fun _ => zRow) 0 ++ rowsL (L.filter fun q => Maps.has D (keyL q.1))).Perm (rowsL L) := by
 have : L.filter (fun q => Maps.has D (keyL q.1)) = L := List.filter_eq_self.2 fun q hq => (h.has _).2 ⟨q, hq, rfl⟩
 rw [this]
 exact List.Perm.refl _
theorem enters70 : Enters Tryz.prog 70 := fun _ _ => by kernel_rfl
theorem rows_r0 (b bM : Nat) (L : Shf) (hL : L.length ≤ 100000) (k : Int) : SpecR Tryz.prog (shK bM L) 70 [.ptr 0 b 0] [(0, ⟨b, 119, [.raw (.map (some bM)), .int .i64 k]⟩)] (fun y => rowsV (y.A 0) (rowsL L).length (y.c 0) (rwAt y (rowsL L))) := by
 refine SpecR.of ?_
 intro m w hm hargs hpre hI
 have hmx : maxLen = 9223372036854775807 := rfl
 obtain ⟨D, E, hI1⟩ := hI
 obtain ⟨es0, cl0, hmap0, _⟩ := hI1.map
 have hlt : bM < w.heap.size := lt_heap hmap0
 have hI : (shD D E bM L).p m w := hI1
 refine enterR hm hpre hI hargs Tryz.func70 rfl (by simp [Tryz.ntmps70]) fun a0 hF => ?_
 simp only [Tryz.ntmps70, startT] at hF
 obtain ⟨B, hB⟩ := eqv (std)
 apply wp_seq
 apply rgB hB TA_ok [0] [0] [] hF
 ·intro A X; conv => lhs; cbv
 ·intro X; subst hB; simp only [AO, Ob.holds, BE.den] <;> and_intros <;> intros <;> trivial
 intro X0 a0 w1 hF
 refine wp_seq (wp_seq ?_)
 apply rgB hB TA_ok [7, 0] [0] [] hF
 ·intro A X; conv => lhs; cbv
 ·intro X; subst hB; simp only [AO, Ob.holds, BE.den] <;> and_intros <;> intros <;> trivial
 intro X1 a0 w1 hF
 refine test_ff hF rfl (fun hF => ?_)
 refine wp_skip ?_
 apply wp_seq
 apply rgB hB TA_ok [3, 0] [0, 3] [] hF
 ·intro A X; conv => lhs; cbv
 ·intro X; subst hB; simp only [AO, Ob.holds, BE.den] <;> and_intros <;> intros <;> trivial
 intro X3 a0 w1 hF
 refine wp_seq (wp_seq ?_)
 refine wp_region_lit ?_
 apply list_preB 0 4 hB TA_ok [11, 3] [0, 3] [] hF
 ·intro A X; conv => lhs; cbv
 ·intro X; subst hB; simp only [AO, Ob.holds, BE.den] <;> and_intros <;> intros <;> trivial
 intro X4_0 a0 w1 hF
 have hSh : ShD D E bM L _ _ := hF.kept
 obtain ⟨rr, hrr⟩ := eqv (w1.heap.size)
 refine man_range rfl rfl rfl rfl hF (Nat.le_of_ble_eq_true rfl) rfl labK map_und' hSh.map (rngK D E bM rr L (Maps.has D) (Maps.size D)) (fun m w' h1 h2 h3 => ⟨h1.keep h2, by rw [hrr]; exact h3⟩) ?_
 rw [← hrr]
 intro a0 w1 hfr hF
 have hne : some rr ≠ some bM := by
  intro e; injection e with e
  have : w.heap.size ≤ rr := hfr
  omega
 refine wpList_nil ?_
 have hF : Fits ⟨m, w, ats [(0, ⟨b, 119, [.raw (.map (some bM)), .int .i64 k]⟩)], [], rngK D E bM rr L (Maps.has D) (Maps.size D)⟩ ⟨32, [(3, .sl (some 3) none 0 0 8 (fun _ => [])), (12, .raw (.pointer (some ⟨rr, 0, none⟩)))], [], [(0, ⟨b, 119, [.raw (.map (some bM)), .int .i64 k]⟩)], [(3, ⟨none, 0, 0, 8, 73⟩)]⟩ a0 w1 := hF.keep [3,12] [0,3]
 refine wp_block ?_
 replace hF := hF.headS (v' := .sl (some 3) none 0 0 8 (fun t => rowC zRow)) (zq0) rfl
 refine loop_preK (ι := Nat × (Nat → RowA) × Option Addr × Nat × (Lit → Bool) × Nat) (fun p => rngK D E bM rr L p.2.2.2.2.1 p.2.2.2.2.2) (fun p => [(3, .sl (some 3) p.2.2.1 p.1 p.2.2.2.1 8 (fun t => rowC (p.2.1 t)))]) (fun p => []) (fun p => [(3, ⟨p.2.2.1, p.1, p.2.2.2.1, 8, 73⟩)]) (fun p => (∀ kl, p.2.2.2.2.1 kl = true → Maps.has D kl = true) ∧ (rwsA p.2.1 p.1 ++ rowsL (L.filter fun q => p.2.2.2.2.1 (keyL q.1))).Perm (rowsL L) ∧ ∀ t, t < p.1 → ∃ q ∈ L, p.2.1 t = (elA E q.1 q.2).w) (fun p => p.2.2.2.2.2) (0, fun _ => zRow, none, 0, Maps.has D, Maps.size D) ⟨fun _ h => h, rows_start hI, fun t ht => absurd ht (Nat.not_lt_zero _)⟩ hF ?_
 rintro ⟨k1, h, A1, c1, left, cnt⟩ ⟨hlft, hprm, hels⟩ a0 w1 hF
 try dsimp only at hlft
 try dsimp only at hprm
 try dsimp only at hels
 replace hF := hF.withK (K' := rngK D E bM rr L left cnt) hF.kept
 apply wp_seq
 refine wp_region_lit ?_
 refine man_next1 rfl rfl rfl rfl hF (Nat.le_of_ble_eq_true rfl) rfl labK hF.kept.2 (fun h => absurd h (Nat.not_lt.2 hfr)) (stpK D E bM rr L left) (fun m h _ => ⟨h.1, fun h => by cases h⟩) (fun key v kl cnt' m w' h1 h2 h3 h4 => ⟨h1.1.keepB h2 hne, fun _ => ⟨h3, h4⟩⟩) ?_
 intro a0 w1 bb rest' key v kl cnt' hn0 hn1 hF
 apply leB 1 hB TA_ok [14, 3, 12] [0, 3] [] hF
 ·intro A X; conv => lhs; cbv
 ·intro X; subst hB; simp only [AO, Ob.holds, BE.den] <;> and_intros <;> intros <;> trivial
 intro X5 a0 w1 hF
 apply wp_seq
 apply test_ok hF rfl <;> intro hb hF
 ·have hbb : bb = true := by subst hB; exact hb
  obtain ⟨hnx1, hnx2, hnx3, hnx4⟩ := hn1 hbb
  replace hF := hF.withK (K' := entK D E bM rr L (fun x => left x && !x.sameKey kl) key v cnt') ⟨hF.kept.1, hF.kept.2 hbb⟩
  refine wp_skip ?_
  refine wp_block ?_
  apply wp_seq
  refine wp_region_lit ?_
  obtain ⟨hSh, hrg, hent⟩ := hF.kept
  obtain ⟨p, hp, hpk, hpkey, hpv⟩ := hSh.entry hnx1 (hlft _ hnx2) hnx3
  have hok := hSh.ok p hp
  obtain ⟨el, hel⟩ := eqv (elA E p.1 p.2)
  rw [← hel] at hok hpv
  have hel_has : el.has = p.2.has := by rw [hel]
  have hkd : key = (AV.agg [.int .i64 el.w.lab.len, .int .u64 el.w.lab.bits]).den := by rw [hel]; exact hpkey
  rw [hkd, hpv] at hent
  refine man_entry rfl rfl rfl rfl hF (Nat.le_of_ble_eq_true rfl) rfl hent (lab_ok' _ _) hok ?_
  intro a0 hF
  apply leB 1 hB TA_ok [3, 12, 4, 5] [0, 4, 5, 3] [] hF
  ·intro A X; conv => lhs; cbv
  ·intro X; subst hB; simp only [AO, Ob.holds, BE.den] <;> and_intros <;> intros <;> trivial
  intro X6 a0 w1 hF
  replace hF := hF.withK (K' := rngK D E bM rr L (fun x => left x && !x.sameKey kl) cnt') ⟨hF.kept.1, hF.kept.2.1⟩
  apply wp_seq
  apply rgB hB TA_ok [19, 3, 12, 4, 5] [0, 4, 5, 3] [] hF
  ·intro A X; conv => lhs; cbv
  ·intro X; subst hB; simp only [AO, Ob.holds, BE.den] <;> and_intros <;> intros <;> trivial
  intro X7 a0 w1 hF
  apply test_ok hF rfl <;> intro hb hF
  ·have hhas : el.has = true := by subst hB; exact hb
   apply rgB hB TA_ok [3, 12] [0, 3] [] hF
   ·intro A X; conv => lhs; cbv
   ·intro X
    have hkL : k1 ≤ L.length := by
     have h9 := hprm.length_eq
     rw [List.length_append, listA_len] at h9
     have := rowsL_len L
     omega
    subst hB
    repeat (first | exact trivial | refine ⟨⟨rfl, rfl, rfl⟩, ?_⟩ | refine ⟨rfl, ?_⟩ | refine ⟨⟨show k1 + 1 ≤ maxLen by omega, show (k1 + 1) * _ ≤ _ by omega⟩, ?_⟩)
   intro X8 a0 w1 hF
   replace hF := hF.headS (v' := .sl (some 3) ((X8 8).A 0) (B.nadd k1 1) ((X8 8).c 0) 8 (fun t => rowC (if t = k1 then el.w else h t))) (Sim.resl rfl (fun t ht => by
    subst hB
    have ht2 : t < k1 + 1 := ht
    show appC k1 (fun t => rowC (h t)) (chunk 8 (rowC el.w)) t = _
    unfold appC
    split
    ·rw [if_neg (by omega)]
    have : t = k1 := by omega
    subst this
    rw [if_pos rfl]
    simp [chunk])) rfl
   refine ⟨(k1 + 1, fun t => if t = k1 then el.w else h t, _, _, (fun x => left x && !x.sameKey kl), cnt'), ⟨?_, ?_, ?_⟩, hnx4, by rw [show k1 + 1 = B.nadd k1 1 by subst hB; rfl]; exact hF⟩
   ·intro x hx
    simp only [Bool.and_eq_true] at hx
    exact hlft _ hx.1
   ·have h9 := rows_step hSh.ris hSh.labs hp (hpk ▸ hnx2) hprm
    rw [hpk, if_pos (by rw [← hel_has]; exact hhas)] at h9
    have e9 : rwsA (fun t => if t = k1 then el.w else h t) (k1 + 1) = rwsA h k1 ++ [rowOf p] := by
     show listA RowA.abs _ (k1 + 1) = listA RowA.abs h k1 ++ _
     rw [listA_succ]
     simp only [if_true]
     congr 1
     ·unfold listA
      apply List.map_congr_left
      intro t ht
      have h5 := List.mem_range.1 ht
      show RowA.abs (if t = k1 then el.w else h t) = _
      rw [if_neg (by omega)]
     rw [hel, elA_abs]
    simp only
    rw [e9]
    exact h9
   intro t ht
   simp only at ht ⊢
   by_cases he : t = k1
   ·rw [if_pos he]; exact ⟨p, hp, by rw [hel]⟩
   rw [if_neg he]; exact hels t (by omega)
  have hhas : ¬ el.has = true := by subst hB; rw [show el.has = false from hb]; simp
  refine wp_skip ?_
  refine ⟨(k1, h, A1, c1, (fun x => left x && !x.sameKey kl), cnt'), ⟨?_, ?_, hels⟩, hnx4, hF.keep [3,12] [0,3]⟩
  ·intro x hx
   simp only [Bool.and_eq_true] at hx
   exact hlft _ hx.1
  have h9 := rows_step hSh.ris hSh.labs hp (hpk ▸ hnx2) hprm
  rw [hpk, if_neg (by rw [← hel_has]; exact hhas), List.append_nil] at h9
  exact h9
 have hbb : bb = false := by subst hB; exact hb
 have hall := hn0 hbb
 replace hF := hF.withK (K' := shD D E bM L) hF.kept.1
 refine wp_exit ?_
 apply wp_seq
 refine wp_region_lit ?_
 apply list_preB 0 1 hB TA_ok [29, 3] [0, 3] [] hF
 ·intro A X; conv => lhs; cbv
 ·intro X; subst hB; simp only [AO, Ob.holds, BE.den] <;> and_intros <;> intros <;> trivial
 intro X9_0 a0 w1 hF
 have hSh : ShD D E bM L _ _ := hF.kept
 have hprm2 : (rwsA h k1).Perm (rowsL L) := by
  have e9 : (L.filter fun q => left (keyL q.1)) = [] := List.filter_eq_nil_iff.2 fun q _ => by rw [hall]; simp
  rw [e9] at hprm
  simpa [rowsL] using hprm
 have hkL : k1 ≤ L.length := by
  have h9 := hprm2.length_eq
  rw [listA_len] at h9
  have := rowsL_len L
  omega
 obtain ⟨_, xs, hO⟩ := hF.gr 3 ⟨A1, k1, c1, 8, 73⟩ rfl
 have hs3 := hF.slot 3 rfl
 have hk3 : Ok _ w1 (.sl (some 3) A1 k1 c1 8 (fun t => rowC (h t))) := hs3.2
 have hd3 : a0.tmps[3]? = some (AV.sl (some 3) A1 k1 c1 8 (fun t => rowC (h t))).den := hs3.1
 have hfl := own_flat hO hk3
 rw [hfl] at hO
 have hO : Own w1 w.heap.size 73 8 (.slice A1 k1 c1) k1 (rowFlat (fun t => rowC (h t)) k1) := hO
 refine man_sorted rfl rfl rfl rfl rfl hF rfl rfl enters57 (fun w' => ∃ h' : Nat → RowA, ((List.range k1).map h').Perm ((List.range k1).map h) ∧ (∀ i j, i < j → j < k1 → labLt (h' j).lab (h' i).lab = false) ∧ Own w' w.heap.size 73 8 (.slice A1 k1 c1) k1 (rowFlat (fun t => rowC (h' t)) k1)) ((sortRow_c hO (by omega)).mono ?_) ?_
 ·rintro e w2 ⟨he, h', g1, g2, g3, g4⟩
  exact ⟨he, ⟨h', g1, g2, g3⟩, g4⟩
 rintro w2 ⟨h', g1, g2, g3⟩ g4
 have hfin := rows_fin hSh.ris hprm2 g1 g2
 have hF2 := Fits.sorted hF g4 (l' := [(3, .sl none A1 k1 c1 8 (fun t => rowC (h' t)))]) (fun x hx => ?hl) (fun x e he v hv => ?hm)
 case hl =>
  by_cases hx3 : x = 3
  ·subst hx3
   refine ⟨hd3, own_known g3 (fun _ _ => rfl) (Fits.notM hF) (fun i hi => ?_) none⟩
   have hmem := g1.mem_iff.1 (List.mem_map.2 ⟨i, List.mem_range.2 hi, rfl⟩)
   obtain ⟨j, hj, hje⟩ := List.mem_map.1 hmem
   obtain ⟨q, hq, hqe⟩ := hels j (List.mem_range.1 hj)
   rw [← hje, hqe]
   exact one_of_el (sorted_ok hF hpre g4 (hI.ok q hq))
  have : look [(3, AV.sl none A1 k1 c1 8 (fun t => rowC (h' t)))] x = .undef := by rw [look_cons, if_neg (fun e => hx3 e.symm)]; rfl
  rw [this] at hx; cases hx
 case hm =>
  by_cases hx3 : 0 = x
  ·subst hx3
   simp only [lookM, List.lookup, List.find?] at he
   simp at he
   subst he
   simp only [List.mem_cons, List.not_mem_nil, or_false] at hv
   rcases hv with rfl | rfl
   ·exact .raw _
   exact .int _ _
  rw [lookM_cons, if_neg hx3] at he; cases he
 have hF : Fits _ _ (a0.put (some 30) (.tuple #[])) w2 := hF2.put (some 30) (fun t ht => by injection ht with ht; subst ht; exact Nat.le_of_ble_eq_true rfl) (.tup []) (fun _ => .tup _ fun u hu => by cases hu) _ fun _ => rfl
 refine wpList_nil ?_
 apply wp_seq
 apply rgB hB TA_ok [2] [0] [] hF
 ·intro A X; conv => lhs; cbv
 ·intro X; subst hB; simp only [AO, Ob.holds, BE.den] <;> and_intros <;> intros <;> trivial
 intro X10 a0 w1 hF
 refine wp_ret ?_
 refine (ret_x (fn := Tryz.f70) TA_ok hF (rs := [.tmp 2]) rfl (rfl) ?_ (rwY A1 c1 h' 0) [] ?_ ?_ ?_).1
 ·subst hB; simp [AO, Ob.holds]
 ·subst hB; exact rws_sim hfin
 ·exact ⟨rfl, ⟨_, rfl, zl⟩, trivial⟩
 exact trivial
theorem rows_r (k0 : Nat) (b bM : Nat) (L : Shf) (hL : L.length ≤ 100000) (k : Int) : SpecR Tryz.prog (shK bM L) 70 [.ptr k0 b 0] [(k0, ⟨b, 119, [.raw (.map (some bM)), .int .i64 k]⟩)] (fun y => rowsV (y.A 0) (rowsL L).length (y.c 0) (rwAt y (rowsL L))) :=
 (rows_r0 b bM L hL k).re (by repeat (first | exact trivial | refine ⟨Sim.ptr, ?_⟩ | refine ⟨Sim.fn ⟨Sim.ptr, trivial⟩ trivial, ?_⟩ | refine ⟨Sim.fn trivial ⟨Sim.ptr, trivial⟩, ?_⟩ | refine ⟨zr, ?_⟩)) rfl (fun x => zr)
theorem Fits.swap {C : Cx} {nt i j : Nat} {u v : AV} {l : List (Nat × AV)} {mem : List (Nat × Blk)} {gr : List (Nat × Gr)} {a : Act} {w : World} (h : Fits C ⟨nt, (i, u) :: (j, v) :: l, [], mem, gr⟩ a w) (hne : i ≠ j := by decide) : Fits C ⟨nt, (j, v) :: (i, u) :: l, [], mem, gr⟩ a w :=
 h.alike ⟨rfl, fun k => by
  simp only [look_cons]
  by_cases h1 : i = k
  ·by_cases h2 : j = k
   ·exact absurd (h1.trans h2.symm) hne
   simp [h1, h2]
  simp [h1], fun _ => rfl, fun _ => rfl, fun _ => rfl⟩
theorem enters7 : Enters Tryz.prog 7 := fun _ _ => by kernel_rfl
theorem bigs_s (A : Option Addr) (n c : Nat) (f : Nat → RowA) (hn : n ≤ maxLen) : Spec Tryz.prog 7 [rowsV A n c f] (fun _ => .bool (.v (if n ≤ 300 then bigS n f else true))) := by
 intro m w hm hargs
 have hmx : maxLen = 9223372036854775807 := rfl
 have hln := rows_len (hargs (rowsV A n c f) (by simp))
 refine enter hm hargs Tryz.func7 rfl (by simp [Tryz.ntmps7]) fun a0 hF => ?_
 simp only [Tryz.ntmps7, startT] at hF
 obtain ⟨B, hB⟩ := eqv (std)
 apply wp_seq
 apply rgB hB TA_ok [0] [] [] hF
 ·intro A X; conv => lhs; cbv
 ·intro X; subst hB; simp [AO, Ob.holds, BE.den, std, sC, sAr] <;> omega
 intro X0 a0 w1 hF
 apply wp_seq
 apply rgB hB TA_ok [3, 0] [] [] hF
 ·intro A X; conv => lhs; cbv
 ·intro X; subst hB; simp [AO, Ob.holds, BE.den, std, sC, sAr] <;> omega
 intro X1 a0 w1 hF
 refine wp_seq (wp_seq ?_)
 apply rgB hB TA_ok [3, 4, 0] [] [] hF
 ·intro A X; conv => lhs; cbv
 ·intro X; subst hB; simp [AO, Ob.holds, BE.den, std, sC, sAr] <;> omega
 intro X2 a0 w1 hF
 refine wp_block ?_
 refine loop_pre (ι := Nat × Int) (fun p => [(3, .int .i64 p.2), (4, .int .i64 (p.1 : Int))]) (fun p => []) (fun p => []) (fun p => p.1 ≤ n ∧ p.2 = sumW f p.1 ∧ ∀ i, i < p.1 → bigF (f i).x.r.n (f i).x.r.f = false) (fun p => n - p.1) (0, 0) ⟨Nat.zero_le _, rfl, fun i hi => absurd hi (Nat.not_lt_zero _)⟩ hF ?_
 rintro ⟨i, s⟩ ⟨hi, hs, hal⟩ a0 w1 hF
 try dsimp only at hi
 try dsimp only at hs
 try dsimp only at hal
 refine wp_seq (wp_seq ?_)
 apply rgB hB TA_ok [13, 3, 4, 0] [] [] hF
 ·intro A X; conv => lhs; cbv
 ·intro X; subst hB; simp only [AO, Ob.holds, BE.den] <;> and_intros <;> intros <;> trivial
 intro X3 a0 w1 hF
 apply test_ok hF rfl <;> intro hb hF
 ·have h9 : (if decide ((i : Int) < (n : Int)) = true then decide ((n : Int) ≤ 300) else false) = true := by subst hB; exact hb
  rw [ite_and, Bool.and_eq_true, decide_eq_true_eq, decide_eq_true_eq] at h9
  have hin : i < n := by omega
  have hsm : n ≤ 300 := by omega
  have S := big_s (f i).x.A (f i).x.r.n (f i).x.c (f i).x.r.f (hln i hin) (f i).x.r.kd (f i).x.r.nx (f i).x.r.mrk
  simp only [recI, rowI] at S
  obtain ⟨q, hq⟩ := eqv (bigF (f i).x.r.n (f i).x.r.f)
  rw [← hq] at S
  refine wp_skip ?_
  apply wp_seq
  refine wp_block ?_
  refine wp_seq (wp_seq ?_)
  apply rgB hB TA_ok [21, 3, 4, 0] [] [(5, .r fun _ => .bool (.v q))] hF
  ·intro A X; conv => lhs; cbv
  ·intro X; subst hB; simp only [AO, Ob.holds, BE.den] <;> (and_intros <;> repeat first | trivial | rfl | exact (show (0 : Int) ≤ (i : Int) by omega) | exact (show (i : Int) < (n : Int) by omega) | exact enters34 | exact S | refine ⟨?_, ?_⟩ | intro h)
  intro X5 a0 w1 hF
  apply test_ok hF rfl <;> intro hb hF
  ·have hbt : bigF (f i).x.r.n (f i).x.r.f = true := by rw [← hq]; exact hb
   apply wp_seq
   apply rgB hB TA_ok [2] [] [] hF
   ·intro A X; conv => lhs; cbv
   ·intro X; subst hB; simp [AO, Ob.holds, BE.den, std, sC, sAr] <;> omega
   intro X6 a0 w1 hF
   refine wp_ret ?_
   refine ret_sim (fn := Tryz.f7) TA_ok hF (rs := [.tmp 2]) rfl (rfl) ?_ nAt ?_
   ·simp [AO, Ob.holds]
   subst hB
   refine Sim.bool ?_
   show true = (if n ≤ 300 then bigS n f else true)
   rw [if_pos hsm]
   unfold bigS
   rw [anyB_true hin hbt]; simp
  have hbf : bigF (f i).x.r.n (f i).x.r.f = false := by rw [← hq]; exact hb
  refine wp_skip ?_
  apply rgB hB TA_ok [3, 4, 0] [] [] hF
  ·intro A X; conv => lhs; cbv
  ·intro X; subst hB; simp only [AO, Ob.holds, BE.den] <;> (and_intros <;> repeat first | trivial | rfl | exact (show (0 : Int) ≤ (i : Int) by omega) | exact (show (i : Int) < (n : Int) by omega) | intro h)
  intro X7 a0 w1 hF
  apply rgB hB TA_ok [4, 3, 0] [] [] hF
  ·intro A X; conv => lhs; cbv
  ·intro X; subst hB; simp [AO, Ob.holds, BE.den, std, sC, sAr] <;> omega
  intro X4 a0 w1 hF
  have e : B.arith .add .i64 (i : Int) 1 = ((i + 1 : Nat) : Int) := by subst hB; exact wrap_succ (n := n) hin (by omega)
  refine ⟨(i + 1, B.arith .add .i64 s (B.ofNat (f (B.toNat (i : Int))).x.r.n)), ⟨by simp only; omega, by subst hB; rw [hs]; rfl, fun j hj => ?_⟩, by simp only; omega, by rw [← e]; exact hF.swap⟩
  by_cases hij : j = i
  ·rw [hij]; exact hbf
  exact hal j (by simp only at hj; omega)
 have h9 : (if decide ((i : Int) < (n : Int)) = true then decide ((n : Int) ≤ 300) else false) = false := by subst hB; exact hb
 rw [ite_and] at h9
 have hend : n ≤ 300 → i = n := fun h3 => by
  rw [decide_eq_true (show (n : Int) ≤ 300 by omega), Bool.and_true] at h9
  have := of_decide_eq_false h9
  omega
 refine wp_exit ?_
 apply wp_seq
 apply rgB hB TA_ok [2] [] [] hF
 ·intro A X; conv => lhs; cbv
 ·intro X; subst hB; simp only [AO, Ob.holds, BE.den] <;> and_intros <;> intros <;> trivial
 intro X8 a0 w1 hF
 refine wp_ret ?_
 refine ret_sim (fn := Tryz.f7) TA_ok hF (rs := [.tmp 2]) rfl (rfl) ?_ nAt ?_
 ·simp [AO, Ob.holds]
 subst hB
 refine Sim.bool ?_
 show (if decide ((300 : Int) < (n : Int)) = true then true else decide (3000 < s)) = _
 rw [ite_or]
 by_cases h3 : n ≤ 300
 ·rw [if_pos h3]
  unfold bigS
  rw [hend h3] at hs hal
  rw [anyB_none hal, hs, decide_eq_false (show ¬ (300 : Int) < (n : Int) by omega), decide_eq_false (show ¬ 300 < n by omega)]; rfl
 rw [if_neg h3, decide_eq_true (show (300 : Int) < (n : Int) by omega)]; rfl
theorem Sim.nils {g g' : Option Nat} {k k' : Nat} {f f' : Nat → List AV} : Sim (.sl g none 0 0 k f) (.sl g' none 0 0 k' f') :=
 ⟨rfl, fun _ => rfl, fun _ _ _ => .sl _ _ _ _ _ _ (Nat.le_refl _) (Nat.zero_le _) (fun i hi => absurd hi (Nat.not_lt_zero _)) (fun i hi => absurd hi (Nat.not_lt_zero _)) (fun i hi => absurd hi (Nat.not_lt_zero _)) (fun i hi => absurd hi (Nat.not_lt_zero _)) (fun i hi => absurd hi (Nat.not_lt_zero _))⟩
theorem gotA_abs (y : Atom) (g : Got) : (gotA y g).abs = g := by
 unfold gotA GotA.abs
 simp only [rn_abs]
theorem writes_r (K : Kn) (k0 : Nat) (b bM : Nat) (k : Int) : SpecR Tryz.prog K 71 [.ptr k0 b 0] [(k0, ⟨b, 119, [.raw (.map (some bM)), .int .i64 k]⟩)] (fun _ => .int .i64 k) :=
 SpecR.of fun m w h1 h2 h3 _ => writes_x k0 b bM k m w h1 h2 h3
section
variable (A : Option Addr) (n c : Nat) (f : Nat → RowA) (hn : n ≤ maxLen) (hN : ∀ i, i < n → (f i).x.r.n ≤ 1000000 ∧ LabOk (f i).lab ∧ U64 (f i).lab.bits ∧ U64 (f i).x.r.nx.bits)
include hn hN
theorem new_no (h : newS (rwsA f n) = none) : SpecM Tryz.prog 23 [rowsV A n c f] [] none noK (fun y => ⟨.tup [.nilp, .int .i64 1], [], []⟩) (fun _ _ => noK) := by
 have := new_m A n c f hn hN
 rw [h] at this
 exact this
theorem new_yes (k0 : Nat) {L : Shf} (h : newS (rwsA f n) = some L) : SpecM Tryz.prog 23 [rowsV A n c f] [] none noK (fun y => ⟨.tup [.ptr k0 y.b 0, .int .i64 0], [], [(k0, ⟨y.b, 119, [.raw (.map (some (y.c 0))), .int .i64 0]⟩)]⟩) (fun N y => shF N (y.c 0) L) := by
 have := new_m A n c f hn hN
 rw [h] at this
 exact this.re ⟨zr, trivial⟩ rfl fun x => ⟨rfl, rfl, Sim.tup ⟨Sim.ptr, zr, trivial⟩, rfl⟩
end
section
variable (A : Option Addr) (n c : Nat) (f : Nat → RowA) (hn : n ≤ maxLen) (hN : ∀ i, i < n → (f i).x.r.n ≤ 1000000 ∧ U64 (f i).lab.bits ∧ U64 (f i).x.r.nx.bits)
include hn hN
end
structure ShfOk (L : Shf) : Prop where
 ris : Rises L
 len : L.length ≤ 2000
 lab : ∀ p ∈ L, LabOk p.1
theorem doL_ok {L : Shf} (h : ShfOk L) {w : Wnt} (hl : LabOk w.lab) : ShfOk (doL L w).L := by
 unfold doL
 split
 ·split
  ·exact h
  split
  ·exact h
  split
  ·exact h
  rename_i hf
  refine ⟨put_rises h.ris, ?_, fun p hp => ?_⟩
  ·simp only
   rw [put_len _ _ h.ris]
   split
   ·exact h.len
   rename_i h1
   have : (findL w.lab L).isNone = true := by
    cases hx : findL w.lab L with
    | none => rfl
    | some x => rw [hx] at h1; exact absurd rfl h1
   have := fun h2 => hf ⟨this, h2⟩
   have h3 := h.len
   by_cases h4 : 2000 ≤ L.length
   ·exact absurd h4 this
   omega
  rcases put_mem hp with rfl | hp
  ·exact hl
  exact h.lab p hp
 exact h
theorem newL_ok : ∀ {l : List Rw} {L L' : Shf}, (∀ r ∈ l, LabOk r.lab) → Rises L → (∀ p ∈ L, LabOk p.1) → L.length + l.length ≤ 2000 → newL l L = some L' → ShfOk L'
 | [], L, L', _, h1, h2, h3, h => by
  simp only [newL, Option.some.injEq] at h
  subst h
  exact ⟨h1, by simp at h3; omega, h2⟩
 | r :: l, L, L', hr, h1, h2, h3, h => by
  unfold newL at h
  split at h
  ·cases h
  refine newL_ok (fun r hr' => hr r (by simp [hr'])) (put_rises h1) (fun p hp => ?_) ?_ h
  ·rcases put_mem hp with rfl | hp
   ·exact hr r (by simp)
   exact h2 p hp
  rw [put_len _ _ h1]
  simp only [List.length_cons] at h3
  split <;> omega
theorem newS_ok {l : List Rw} {L : Shf} (hr : ∀ r ∈ l, LabOk r.lab) (h : newS l = some L) : ShfOk L := by
 unfold newS at h
 split at h
 ·cases h
 exact newL_ok hr List.Pairwise.nil (fun p hp => by cases hp) (by simp; omega) h
structure EnvA where
 A : Option Addr
 n : Nat
 c : Nat
 f : Nat → GotA
structure Rel (E : EnvA) (N : Nat) (p : Pst) : Prop where
 n : p.n + N = E.n
 g : ∀ j, p.g j = E.f (N + j)
theorem Rel.suf {E : EnvA} {N : Nat} {p q : Pst} (h : Rel E N p) (hs : Suf p q) : Rel E (E.n - q.n) q := by
 obtain ⟨d, h1, h2⟩ := hs
 have h3 := h.n
 refine ⟨by omega, fun j => ?_⟩
 rw [h2, h.g]
 congr 1
 omega
abbrev drunL (J : JobA) (E : EnvA) (N : Nat) (t : Nt) : List AV := [.int .i64 J.kind, .int .i64 J.lab.len, .int .u64 J.lab.bits, .int .u64 J.key, .int .u64 J.hi, .str J.val, .int .i64 J.most, .sl none J.pA J.pn J.pc 1 (fun i => [.int .i64 (J.pf i)]), .int .u32 J.x1, .int .u32 J.x2, .int .u32 J.y1, .int .u32 J.y2, .int .i64 J.how, .int .i64 J.bucket, .int .i64 J.budget,
 .sl none E.A E.n E.c 8 (fun j => gotC (E.f j)), .int .i64 (N : Int), .bool .ff,
 .int .i64 0, .int .i64 0, .int .u64 0, .int .u64 0, .int .i64 0, .sl none none 0 0 2 (fun _ => []), .int .i64 0, .int .u64 0, .int .u64 0, .int .i64 0, .bool .ff, .str ⟨#[]⟩, .sl none none 0 0 2 (fun _ => []), .int .u64 0, .bool .ff,
 .int .i64 t.code, .bool (.v t.had), .str t.val, .sl none none 0 0 2 (fun _ => []), .int .u64 0, .bool .ff]
abbrev drunS (J : JobA) (E : EnvA) (N : Nat) (w : WntA) (t : Nt) : List AV := [.int .i64 J.kind, .int .i64 J.lab.len, .int .u64 J.lab.bits, .int .u64 J.key, .int .u64 J.hi, .str J.val, .int .i64 J.most, .sl none J.pA J.pn J.pc 1 (fun i => [.int .i64 (J.pf i)]), .int .u32 J.x1, .int .u32 J.x2, .int .u32 J.y1, .int .u32 J.y2, .int .i64 J.how, .int .i64 J.bucket, .int .i64 J.budget,
 .sl none E.A E.n E.c 8 (fun j => gotC (E.f j)), .int .i64 (N : Int), .bool .tt,
 .int .i64 w.kind, .int .i64 w.lab.len, .int .u64 w.lab.bits, .int .u64 w.ver, .int .i64 w.x.r.kd, .sl none w.x.A w.x.r.n w.x.c 2 (fun i => itC (w.x.r.f i)), .int .i64 w.x.r.nx.len, .int .u64 w.x.r.nx.bits, .int .u64 w.x.r.mrk, .int .i64 w.s.code, .bool (.v w.s.had), .str w.s.val, .sl none w.s.A w.s.n w.s.c 2 (fun i => itC (w.s.f i)), .int .u64 w.s.key, .bool (.v w.s.more),
 .int .i64 t.code, .bool (.v t.had), .str t.val, .sl none none 0 0 2 (fun _ => []), .int .u64 0, .bool .ff]
abbrev drunV (b : Bool) (J : JobA) (E : EnvA) (N : Nat) (w : WntA) (t : Nt) : List AV := [.int .i64 J.kind, .int .i64 J.lab.len, .int .u64 J.lab.bits, .int .u64 J.key, .int .u64 J.hi, .str J.val, .int .i64 J.most, .sl none J.pA J.pn J.pc 1 (fun i => [.int .i64 (J.pf i)]), .int .u32 J.x1, .int .u32 J.x2, .int .u32 J.y1, .int .u32 J.y2, .int .i64 J.how, .int .i64 J.bucket, .int .i64 J.budget,
 .sl none E.A E.n E.c 8 (fun j => gotC (E.f j)), .int .i64 (N : Int), .bool (.v b),
 .int .i64 w.kind, .int .i64 w.lab.len, .int .u64 w.lab.bits, .int .u64 w.ver, .int .i64 w.x.r.kd, .sl none w.x.A w.x.r.n w.x.c 2 (fun i => itC (w.x.r.f i)), .int .i64 w.x.r.nx.len, .int .u64 w.x.r.nx.bits, .int .u64 w.x.r.mrk, .int .i64 w.s.code, .bool (.v w.s.had), .str w.s.val, .sl none w.s.A w.s.n w.s.c 2 (fun i => itC (w.s.f i)), .int .u64 w.s.key, .bool (.v w.s.more),
 .int .i64 t.code, .bool (.v t.had), .str t.val, .sl none none 0 0 2 (fun _ => []), .int .u64 0, .bool .ff]
theorem drunV_to {b : Bool} (h : b = true) (J : JobA) (E : EnvA) (N : Nat) (w : WntA) (t : Nt) : SimL (drunS J E N w t) (drunV b J E N w t) := by
 subst h
 exact ⟨zr, zr, zr, zr, zr, zr, zr, zr, zr, zr, zr, zr, zr, zr, zr, zr, zr, Sim.bool rfl, zr, zr, zr, zr, zr, zr, zr, zr, zr, zr, zr, zr, zr, zr, zr, zr, zr, zr, zr, zr, zr, trivial⟩
theorem drunV_of {b : Bool} (h : b = true) (J : JobA) (E : EnvA) (N : Nat) (w : WntA) (t : Nt) : SimL (drunV b J E N w t) (drunS J E N w t) := by
 subst h
 exact ⟨zr, zr, zr, zr, zr, zr, zr, zr, zr, zr, zr, zr, zr, zr, zr, zr, zr, Sim.bool rfl, zr, zr, zr, zr, zr, zr, zr, zr, zr, zr, zr, zr, zr, zr, zr, zr, zr, zr, zr, zr, zr, trivial⟩
def dout {α : Type} (k0 : Nat) (J : JobA) (E : EnvA) (enc : α → AV) (dfl : AV) (r : Rs α) (x : Atom) : CR := match r with
 | .ok a p => ⟨enc a, [(k0, drunL J E (E.n - p.n) p.note)], []⟩
 | .stop w p => ⟨dfl, [(k0, drunS J E (E.n - p.n) (wqA x w) p.note)], []⟩
def DocS {α : Type} (f : FuncId) (k0 b : Nat) (J : JobA) (E : EnvA) (N : Nat) (p : Pst) (args : List AV) (enc : α → AV) (dfl : AV) (r : Rs α) : Prop :=
 SpecX Tryz.prog f (.ptr k0 b 0 :: args) [(k0, ⟨b, 136, drunL J E N p.note⟩)] (fun x => dout k0 J E enc dfl r x)
theorem DocS.ok {α : Type} {f : FuncId} {k0 b : Nat} {J : JobA} {E : EnvA} {N M : Nat} {p q : Pst} {args : List AV} {enc : α → AV} {dfl : AV} {r : Rs α} {a : α} (h : DocS f k0 b J E N p args enc dfl r) (e : r = .ok a q) (hM : M = E.n - q.n) :
  SpecX Tryz.prog f (.ptr k0 b 0 :: args) [(k0, ⟨b, 136, drunL J E N p.note⟩)] (fun x => ⟨enc a, [(k0, drunL J E M q.note)], []⟩) := by
 subst e; subst hM
 exact h
theorem DocS.stop {α : Type} {f : FuncId} {k0 b : Nat} {J : JobA} {E : EnvA} {N M : Nat} {p q : Pst} {args : List AV} {enc : α → AV} {dfl : AV} {r : Rs α} {w : Wq} (h : DocS f k0 b J E N p args enc dfl r) (e : r = .stop w q) (hM : M = E.n - q.n)
  {rr : RN} {nn : Nat} {ff : Nat → Itm} (h1 : rr = w.r.rn) (h2 : nn = w.res.items.length) (h3 : ff = itF w.res.items) :
  SpecX Tryz.prog f (.ptr k0 b 0 :: args) [(k0, ⟨b, 136, drunL J E N p.note⟩)] (fun x => ⟨dfl, [(k0, drunS J E M ⟨w.kind, w.lab, w.ver, ⟨x.A 1, x.c 1, rr⟩, ⟨w.res.code, w.res.had, w.res.val, x.A 2, nn, x.c 2, ff, w.res.key, w.res.more⟩⟩ q.note)], []⟩) := by
 subst e; subst hM; subst h1; subst h2; subst h3
 exact h
theorem DocS.re {α : Type} {f : FuncId} {k0 b : Nat} {J : JobA} {E : EnvA} {N : Nat} {p : Pst} {args args' : List AV} {enc : α → AV} {dfl : AV} {r : Rs α} (h : DocS f 0 b J E N p args enc dfl r) (ha : SimL args' args) : DocS f k0 b J E N p args' enc dfl r :=
 SpecX.re h ⟨Sim.ptr, ha⟩ rfl fun x => by
  cases r with
  | ok a p => exact ⟨rfl, rfl, zr, rfl⟩
  | stop w p => exact ⟨rfl, rfl, zr, rfl⟩
def DeadS (f : FuncId) (k0 b : Nat) (J : JobA) (E : EnvA) (N : Nat) (q : WntA) (t : Nt) (args : List AV) (dfl : AV) : Prop :=
 SpecX Tryz.prog f (.ptr k0 b 0 :: args) [(k0, ⟨b, 136, drunS J E N q t⟩)] (fun _ => ⟨dfl, [(k0, drunS J E N q t)], []⟩)
theorem DeadS.re {f : FuncId} {k0 b : Nat} {J : JobA} {E : EnvA} {N : Nat} {q : WntA} {t : Nt} {args args' : List AV} {dfl : AV} (h : DeadS f 0 b J E N q t args dfl) (ha : SimL args' args) : DeadS f k0 b J E N q t args' dfl :=
 SpecX.re h ⟨Sim.ptr, ha⟩ rfl fun x => ⟨rfl, rfl, zr, rfl⟩
section
variable {P : Program} {T : List (Nat × TI)} {s : St} {a : Act} {w : World} {α : Type} {Kk : Kn} {m : Nat → Nat → Prop} {w0 : World} {b k0 ty : Nat} {cs : List AV} {fn : Func} {enc : α → AV} {dfl : AV} {J : JobA} {E : EnvA} {r : Rs α}
theorem ret_go (hT : TabOK P T) (h : Fits ⟨m, w0, ats [(k0, ⟨b, ty, cs⟩)], [], Kk⟩ s a w) {rs : List ResultVar} (hfn : fn.results = rs.toArray) {rr : List AV × List Ob} (hrr : resL T s rs = some rr) (ho : AO P Kk rr.2)
  {v : α} {q : Pst} {M : Nat} (hr : r = .ok v q) (hM : M = E.n - q.n) (he : Sim (can (resA rr.1)) (can (enc v))) (hs : SetsOk s [(k0, ⟨b, ty, cs⟩)] [(k0, drunL J E M q.note)]) :
  bodyPost P fn (XPost m w0 [(k0, ⟨b, ty, cs⟩)] (fun x => dout k0 J E enc dfl r x)) .ret a w ∧ bodyPost P fn (XPost m w0 [(k0, ⟨b, ty, cs⟩)] (fun x => dout k0 J E enc dfl r x)) .normal a w := by
 subst hr; subst hM
 exact ret_x (res := fun x => dout k0 J E enc dfl (.ok v q) x) hT h hfn hrr ho ⟨0, fun _ => none, fun _ => 0, fun _ => .empty⟩ [] he hs trivial
theorem ret_st (hT : TabOK P T) (h : Fits ⟨m, w0, ats [(k0, ⟨b, ty, cs⟩)], [], Kk⟩ s a w) {rs : List ResultVar} (hfn : fn.results = rs.toArray) {rr : List AV × List Ob} (hrr : resL T s rs = some rr) (ho : AO P Kk rr.2)
  {q : Pst} {wq : Wq} {Q : WntA} {M : Nat} (x : Atom) (hr : r = .stop wq q) (hM : M = E.n - q.n) (hq : Q = wqA x wq) (he : Sim (can (resA rr.1)) (can dfl)) (hs : SetsOk s [(k0, ⟨b, ty, cs⟩)] [(k0, drunS J E M Q q.note)]) :
  bodyPost P fn (XPost m w0 [(k0, ⟨b, ty, cs⟩)] (fun x => dout k0 J E enc dfl r x)) .ret a w ∧ bodyPost P fn (XPost m w0 [(k0, ⟨b, ty, cs⟩)] (fun x => dout k0 J E enc dfl r x)) .normal a w := by
 subst hr; subst hM; subst hq
 exact ret_x (res := fun x => dout k0 J E enc dfl (.stop wq q) x) hT h hfn hrr ho x [] he hs trivial
theorem ret_dead (hT : TabOK P T) (h : Fits ⟨m, w0, ats [(k0, ⟨b, ty, cs⟩)], [], Kk⟩ s a w) {rs : List ResultVar} (hfn : fn.results = rs.toArray) {rr : List AV × List Ob} (hrr : resL T s rs = some rr) (ho : AO P Kk rr.2)
  {sets : List (Nat × List AV)} (he : Sim (can (resA rr.1)) (can dfl)) (hs : SetsOk s [(k0, ⟨b, ty, cs⟩)] sets) :
  bodyPost P fn (XPost m w0 [(k0, ⟨b, ty, cs⟩)] (fun _ => ⟨dfl, sets, []⟩)) .ret a w ∧ bodyPost P fn (XPost m w0 [(k0, ⟨b, ty, cs⟩)] (fun _ => ⟨dfl, sets, []⟩)) .normal a w :=
 ret_x (res := fun _ => ⟨dfl, sets, []⟩) hT h hfn hrr ho ⟨0, fun _ => none, fun _ => 0, fun _ => .empty⟩ [] he hs trivial
end
abbrev zGotV : AV := .agg [.int .i64 0, .int .u64 0, .bool .ff, .int .i64 0, .sl none none 0 0 2 (fun _ => []), .int .i64 0, .int .u64 0, .int .u64 0]
theorem rel_ask {J : JobA} {E : EnvA} {N : Nat} {p : Pst} (h : Rel E N p) : ((p.n : Int) + (J.budget - E.n) ≤ 0 ↔ J.budget ≤ (N : Int)) ∧ (0 < p.n ↔ N < E.n) := by
 have := h.n
 omega
inductive LSt where
 | go (n : Nat) (p : Pst) (N : Nat)
 | dn (p : Pst) (N : Nat)
 | sp (N : Nat) (Q : WntA) (t : Nt)
abbrev lsC (J : JobA) (E : EnvA) : LSt → List AV
 | .go _ p N => drunL J E N p.note
 | .dn p N => drunL J E N p.note
 | .sp N Q t => drunS J E N Q t
abbrev lsB : LSt → BE
 | .dn .. => .tt
 | _ => .ff
def lsM : LSt → Nat
 | .go n _ _ => n + 1
 | _ => 0
abbrev rsAV (x : ResA) : AV := .agg [.int .i64 x.code, .bool (.v x.had), .str x.val, .sl none x.A x.n x.c 2 (fun i => itC (x.f i)), .int .u64 x.key, .bool (.v x.more)]
theorem enters81 : Enters Tryz.prog 81 := fun _ _ => by kernel_rfl
theorem over_m0 (b : Nat) (J : JobA) (E : EnvA) (hE : E.n ≤ 1000000) (N : Nat) (q : WntA) (t : Nt) (x : ResA) : SpecX Tryz.prog 81 [.ptr 0 b 0, rsAV x] [(0, ⟨b, 136, drunL J E N t⟩)] (fun _ => ⟨unitV, [(0, drunS J E N ⟨4, ⟨0, 0⟩, 0, zRA, x⟩ t)], []⟩) := by
 intro m w hm hargs hpre
 refine enterX hm hpre hargs Tryz.func81 rfl (by simp [Tryz.ntmps81]) fun a0 hF => ?_
 simp only [Tryz.ntmps81, startT] at hF
 obtain ⟨B, hB⟩ := eqv (std)
 apply wp_seq
 apply rgB hB TA_ok [0, 3] [0, 3] [] hF
 ·intro A X; conv => lhs; cbv
 ·intro X; subst hB; simp [AO, Ob.holds, BE.den, std, sC, sAr] <;> omega
 intro X0 a0 w1 hF
 apply wp_seq
 apply rgB hB TA_ok [8, 0, 3] [0, 3] [] hF
 ·intro A X; conv => lhs; cbv
 ·intro X; subst hB; simp only [AO, Ob.holds, BE.den] <;> and_intros <;> intros <;> trivial
 intro X1 a0 w1 hF
 refine test_tt hF rfl (fun hF => ?_)
 apply wp_seq
 apply rgB hB TA_ok [0, 3] [0, 3] [] hF
 ·intro A X; conv => lhs; cbv
 ·intro X; subst hB; simp only [AO, Ob.holds, BE.den] <;> and_intros <;> intros <;> trivial
 intro X2 a0 w1 hF
 apply rgB hB TA_ok [] [0] [] hF
 ·intro A X; conv => lhs; cbv
 ·intro X; subst hB; simp only [AO, Ob.holds, BE.den] <;> and_intros <;> intros <;> trivial
 intro X3 a0 w1 hF
 refine (ret_x (fn := Tryz.f81) TA_ok hF (rs := []) rfl (rfl) ?_ nAt [] ?_ ?_ ?_).2
 ·subst hB; simp [AO, Ob.holds]
 ·subst hB; exact zr
 ·subst hB; exact ⟨rfl, ⟨_, rfl, ⟨zr, zr, zr, zr, zr, zr, zr, zr, zr, zr, zr, zr, zr, zr, zr, zr, zr, zr, zr, zr, zr, zr, zr, zq0, zr, zr, zr, zr, zr, zr, zr, zr, zr, zr, zr, zr, zr, zr, zr, trivial⟩⟩, trivial⟩
 exact trivial
theorem over_m (k0 b : Nat) (J : JobA) (E : EnvA) (hE : E.n ≤ 1000000) (N : Nat) (q : WntA) (t : Nt) (x : ResA) : SpecX Tryz.prog 81 [.ptr k0 b 0, rsAV x] [(k0, ⟨b, 136, drunL J E N t⟩)] (fun _ => ⟨unitV, [(k0, drunS J E N ⟨4, ⟨0, 0⟩, 0, zRA, x⟩ t)], []⟩) :=
 SpecX.re (over_m0 b J E hE N q t x) ⟨Sim.ptr, zr, trivial⟩ rfl fun x => ⟨rfl, rfl, zr, rfl⟩
theorem over_d0 (b : Nat) (J : JobA) (E : EnvA) (hE : E.n ≤ 1000000) (N : Nat) (q : WntA) (t : Nt) (x : ResA) : DeadS 81 0 b J E N q t [rsAV x] (unitV) := by
 intro m w hm hargs hpre
 refine enterX hm hpre hargs Tryz.func81 rfl (by simp [Tryz.ntmps81]) fun a0 hF => ?_
 simp only [Tryz.ntmps81, startT] at hF
 obtain ⟨B, hB⟩ := eqv (std)
 apply wp_seq
 apply rgB hB TA_ok [0, 3] [0, 3] [] hF
 ·intro A X; conv => lhs; cbv
 ·intro X; subst hB; simp [AO, Ob.holds, BE.den, std, sC, sAr] <;> omega
 intro X0 a0 w1 hF
 apply wp_seq
 apply rgB hB TA_ok [8, 0, 3] [0, 3] [] hF
 ·intro A X; conv => lhs; cbv
 ·intro X; subst hB; simp only [AO, Ob.holds, BE.den] <;> and_intros <;> intros <;> trivial
 intro X1 a0 w1 hF
 refine test_ff hF rfl (fun hF => ?_)
 refine wp_skip ?_
 refine (ret_dead (fn := Tryz.f81) TA_ok hF (rs := []) rfl (rfl) ?_ ?_ ?_).2
 ·subst hB; simp [AO, Ob.holds]
 ·subst hB; exact zr
 subst hB; exact ⟨rfl, ⟨_, rfl, zl⟩, trivial⟩
theorem enters122 : Enters Tryz.prog 122 := fun _ _ => by kernel_rfl
theorem dask_m0 (b : Nat) (J : JobA) (hJ : JobOk J) (E : EnvA) (hE : E.n ≤ 1000000) (N : Nat) (p : Pst) (hR : Rel E N p) (hp : PstOk p) (hn : p.n ≤ 1000000) (q : WntA) : DocS 122 0 b J E N p [wntV q] (gotV) (zGotV) (askM (J.budget - E.n) q.absQ p) := by
 intro m w hm hargs hpre
 have hN0 : N = E.n - p.n := by have := hR.n; omega
 obtain ⟨ha, hbu, _, _, _⟩ := hJ
 have hmx : maxLen = 9223372036854775807 := rfl
 obtain ⟨hq1, hq2⟩ := rel_ask (J := J) hR
 have hrn := hR.n
 have e1 : IntKind.i64.wrap ((N : Int) + 1) = ((N + 1 : Nat) : Int) := by rw [wrap_in (by omega) (by omega)]; omega
 have e2 : IntKind.i64.wrap (((N + 1 : Nat) : Int) - 1) = (N : Int) := by rw [wrap_in (by omega) (by omega)]; omega
 refine enterX hm hpre hargs Tryz.func122 rfl (by simp [Tryz.ntmps122]) fun a0 hF => ?_
 simp only [Tryz.ntmps122, startT] at hF
 obtain ⟨B, hB⟩ := eqv (std)
 apply wp_seq
 apply rgB hB TA_ok [0, 3, 4] [0, 3, 4] [] hF
 ·intro A X; conv => lhs; cbv
 ·intro X; subst hB; simp [AO, Ob.holds, BE.den, std, sC, sAr] <;> omega
 intro X0 a0 w1 hF
 refine wp_seq (wp_seq ?_)
 apply rgB hB TA_ok [8, 0, 3, 4] [0, 3, 4] [] hF
 ·intro A X; conv => lhs; cbv
 ·intro X; subst hB; simp only [AO, Ob.holds, BE.den] <;> and_intros <;> intros <;> trivial
 intro X1 a0 w1 hF
 refine test_ff hF rfl (fun hF => ?_)
 refine wp_skip ?_
 refine wp_seq (wp_seq ?_)
 apply drB hB (by kernel_rfl) TA_ok [19, 0, 3, 4] [0, 3, 4] [] hF rfl
 case hex => intro A X; conv => lhs; cbv
 case hD => kernel_rfl
 case hlen => rfl
 case hob =>
  intro X
  subst hB
  simp only [AO, Ob.holds, BE.den] <;> and_intros <;> intros <;> trivial
 case hQ =>
 intro X3 a0 w1 hF
 apply test_ok hF rfl <;> intro hb hF
 ·have ho : J.budget ≤ (N : Int) := by subst hB; simpa [std, sC] using hb
  apply wp_seq
  have SO : SpecX Tryz.prog 81 [.ptr 0 b 0, .agg [.int .i64 p.note.code, .bool (.v p.note.had), .str p.note.val, .sl none none 0 0 2 (fun _ => []), .int .u64 0, .bool .ff]] [(0, ⟨b, 136, drunL J E N p.note⟩)] (fun _ => ⟨unitV, [(0, drunS J E N ⟨4, ⟨0, 0⟩, 0, zRA, ⟨p.note.code, p.note.had, p.note.val, none, 0, 0, fun _ => zeroItm, 0, false⟩⟩ p.note)], []⟩) := SpecX.re (over_m 0 b J E hE N q p.note ⟨p.note.code, p.note.had, p.note.val, none, 0, 0, fun _ => zeroItm, 0, false⟩) ⟨zr, Sim.agg ⟨zr, zr, zr, zq0, zr, Sim.ff, trivial⟩, trivial⟩ rfl fun x => ⟨rfl, rfl, zr, rfl⟩
  apply rgB hB TA_ok [4] [0, 4] [(5, .x fun _ => ⟨unitV, [(0, drunS J E N ⟨4, ⟨0, 0⟩, 0, zRA, ⟨p.note.code, p.note.had, p.note.val, none, 0, 0, fun _ => zeroItm, 0, false⟩⟩ p.note)], []⟩)] hF
  ·intro A X; conv => lhs; cbv
  ·intro X; subst hB; simp only [AO, Ob.holds, BE.den] <;> (and_intros <;> repeat first | trivial | rfl | exact enters81 | exact SO | refine ⟨?_, ?_⟩ | intro h)
  intro X4 a0 w1 hF
  apply wp_seq
  apply rgB hB TA_ok [4] [0, 4] [] hF
  ·intro A X; conv => lhs; cbv
  ·intro X; subst hB; simp [AO, Ob.holds, BE.den, std, sC, sAr] <;> omega
  intro X5 a0 w1 hF
  refine wp_ret ?_
  refine (ret_st (fn := Tryz.f122) TA_ok hF (rs := [.cell 4 63]) rfl (by conv => lhs; cbv) ?_ (q := p) (wq := (overW p)) (Q := (wqA ⟨0, fun _ => none, fun _ => 0, fun _ => .empty⟩ (overW p))) (M := N) ⟨0, fun _ => none, fun _ => 0, fun _ => .empty⟩ (by unfold askM; rw [if_neg (by omega), if_pos (hq1.2 ho)]) hN0 rfl ?_ ?_).1
  ·subst hB; simp [AO, Ob.holds]
  ·subst hB; exact zr
  subst hB; exact ⟨rfl, ⟨_, rfl, ⟨zr, zr, zr, zr, zr, zr, zr, zr, zr, zr, zr, zr, zr, zr, zr, zr, zr, zr, zr, zr, zr, zr, zr, zq0, zr, zr, zr, zr, zr, zr, zq0, zr, zr, zr, zr, zr, zr, zr, zr, trivial⟩⟩, trivial⟩
 have ho : ¬ J.budget ≤ (N : Int) := by subst hB; simpa [std, sC] using hb
 refine wp_skip ?_
 refine wp_seq (wp_seq ?_)
 apply drB hB (by kernel_rfl) TA_ok [36, 0, 3, 4] [0, 3, 4] [] hF rfl
 case hex => intro A X; conv => lhs; cbv
 case hD => kernel_rfl
 case hlen => rfl
 case hob =>
  intro X
  subst hB
  simp only [AO, Ob.holds, BE.den] <;> and_intros <;> intros <;> trivial
 case hQ =>
 intro X6 a0 w1 hF
 apply test_ok hF rfl <;> intro hb hF
 ·have hl : ¬ 0 < p.n := by
   have : (N : Int) ≥ (E.n : Int) := by subst hB; simpa [std, sC] using hb
   omega
  apply wp_seq
  apply rgB hB TA_ok [0, 3, 4] [0, 3, 4] [] hF
  ·intro A X; conv => lhs; cbv
  ·intro X; subst hB; simp only [AO, Ob.holds, BE.den] <;> and_intros <;> intros <;> trivial
  intro X7 a0 w1 hF
  apply wp_seq
  apply rgB hB TA_ok [4] [0, 4] [] hF
  ·intro A X; conv => lhs; cbv
  ·intro X; subst hB; simp only [AO, Ob.holds, BE.den] <;> and_intros <;> intros <;> trivial
  intro X8 a0 w1 hF
  apply wp_seq
  apply rgB hB TA_ok [4] [0, 4] [] hF
  ·intro A X; conv => lhs; cbv
  ·intro X; subst hB; simp [AO, Ob.holds, BE.den, std, sC, sAr] <;> omega
  intro X9 a0 w1 hF
  refine wp_ret ?_
  refine (ret_st (fn := Tryz.f122) TA_ok hF (rs := [.cell 4 63]) rfl (by conv => lhs; cbv) ?_ (q := p) (wq := q.absQ) (Q := (wqA ⟨0, fun i => if i = 1 then q.x.A else q.s.A, fun i => if i = 1 then q.x.c else q.s.c, fun _ => .empty⟩ q.absQ)) (M := N) ⟨0, fun i => if i = 1 then q.x.A else q.s.A, fun i => if i = 1 then q.x.c else q.s.c, fun _ => .empty⟩ (by unfold askM; rw [if_neg (by omega), if_neg (fun h => ho (hq1.1 h))]) hN0 rfl ?_ ?_).1
  ·subst hB; simp [AO, Ob.holds]
  ·subst hB; exact zr
  subst hB; exact ⟨rfl, ⟨_, rfl, ⟨zr, zr, zr, zr, zr, zr, zr, zr, zr, zr, zr, zr, zr, zr, zr, zr, zr, zr, zr, zr, zr, zr, zr, row_sim _ _ _ _, zr, zr, zr, zr, zr, zr, row_sim _ _ _ _, zr, zr, zr, zr, zr, zr, zr, zr, trivial⟩⟩, trivial⟩
 have hl : 0 < p.n := by
  have : ¬ (N : Int) ≥ (E.n : Int) := by subst hB; simpa [std, sC] using hb
  omega
 refine wp_skip ?_
 apply wp_seq
 apply rgB hB TA_ok [0, 4] [0, 4] [] hF
 ·intro A X; conv => lhs; cbv
 ·intro X; subst hB; simp only [AO, Ob.holds, BE.den] <;> and_intros <;> intros <;> trivial
 intro X10 a0 w1 hF
 apply wp_seq
 apply drB hB (by kernel_rfl) TA_ok [4] [0, 4] [] hF rfl
 case hex => intro A X; conv => lhs; cbv
 case hD => kernel_rfl
 case hlen => rfl
 case hob =>
  intro X
  subst hB
  simp only [AO, Ob.holds, BE.den] <;> (and_intros <;> repeat first | trivial | rfl | exact ⟨(show (0 : Int) ≤ IntKind.i64.wrap (IntKind.i64.wrap ((N : Int) + 1) - 1) by rw [e1, e2]; omega), (show IntKind.i64.wrap (IntKind.i64.wrap ((N : Int) + 1) - 1) < (E.n : Int) by rw [e1, e2]; omega)⟩ | exact (show (0 : Int) ≤ IntKind.i64.wrap (IntKind.i64.wrap ((N : Int) + 1) - 1) by rw [e1, e2]; omega) | exact (show IntKind.i64.wrap (IntKind.i64.wrap ((N : Int) + 1) - 1) < (E.n : Int) by rw [e1, e2]; omega) | intro h)
 case hQ =>
 intro X11 a0 w1 hF
 refine wp_ret ?_
 refine (ret_go (fn := Tryz.f122) TA_ok hF (rs := [.cell 4 63]) rfl (by conv => lhs; cbv) ?_ (v := (p.g 0)) (q := p.tl) (M := (N + 1)) (by unfold askM; rw [if_pos (by omega)]) (by show N + 1 = E.n - (p.n - 1); omega) ?_ ?_).1
 ·subst hB; simp [AO, Ob.holds]
 ·subst hB
  rw [hR.g 0]
  show Sim (.agg (gotC (E.f (IntKind.i64.wrap (IntKind.i64.wrap ((N : Int) + 1) - 1)).toNat))) (gotV (E.f (N + 0)))
  rw [e1, e2]
  exact zr
 subst hB
 refine ⟨rfl, ⟨_, rfl, ⟨zr, zr, zr, zr, zr, zr, zr, zr, zr, zr, zr, zr, zr, zr, zr, zr, ?_, zr, zr, zr, zr, zr, zr, zr, zr, zr, zr, zr, zr, zr, zr, zr, zr, zr, zr, zr, zr, zr, zr, trivial⟩⟩, trivial⟩
 show Sim (.int .i64 (IntKind.i64.wrap ((N : Int) + 1))) _
 rw [e1]; exact zr
theorem dask_m (k0 b : Nat) (J : JobA) (hJ : JobOk J) (E : EnvA) (hE : E.n ≤ 1000000) (N : Nat) (p : Pst) (hR : Rel E N p) (hp : PstOk p) (hn : p.n ≤ 1000000) (q : WntA) : DocS 122 k0 b J E N p [wntV q] (gotV) (zGotV) (askM (J.budget - E.n) q.absQ p) := DocS.re (dask_m0 b J hJ E hE N p hR hp hn q) (by repeat (first | exact trivial | refine ⟨zr, ?_⟩))
theorem dask_d0 (b : Nat) (J : JobA) (E : EnvA) (hE : E.n ≤ 1000000) (N : Nat) (q : WntA) (t : Nt) (r : WntA) : DeadS 122 0 b J E N q t [wntV r] (zGotV) := by
 intro m w hm hargs hpre
 refine enterX hm hpre hargs Tryz.func122 rfl (by simp [Tryz.ntmps122]) fun a0 hF => ?_
 simp only [Tryz.ntmps122, startT] at hF
 obtain ⟨B, hB⟩ := eqv (std)
 apply wp_seq
 apply rgB hB TA_ok [0, 3, 4] [0, 3, 4] [] hF
 ·intro A X; conv => lhs; cbv
 ·intro X; subst hB; simp [AO, Ob.holds, BE.den, std, sC, sAr] <;> omega
 intro X0 a0 w1 hF
 refine wp_seq (wp_seq ?_)
 apply rgB hB TA_ok [8, 0, 3, 4] [0, 3, 4] [] hF
 ·intro A X; conv => lhs; cbv
 ·intro X; subst hB; simp only [AO, Ob.holds, BE.den] <;> and_intros <;> intros <;> trivial
 intro X1 a0 w1 hF
 refine test_tt hF rfl (fun hF => ?_)
 apply wp_seq
 apply rgB hB TA_ok [4] [0, 4] [] hF
 ·intro A X; conv => lhs; cbv
 ·intro X; subst hB; simp [AO, Ob.holds, BE.den, std, sC, sAr] <;> omega
 intro X2 a0 w1 hF
 refine wp_ret ?_
 refine (ret_dead (fn := Tryz.f122) TA_ok hF (rs := [.cell 4 63]) rfl (by conv => lhs; cbv) ?_ ?_ ?_).1
 ·subst hB; simp [AO, Ob.holds]
 ·subst hB; exact zr
 subst hB; exact ⟨rfl, ⟨_, rfl, zl⟩, trivial⟩
theorem dask_d (k0 b : Nat) (J : JobA) (E : EnvA) (hE : E.n ≤ 1000000) (N : Nat) (q : WntA) (t : Nt) (r : WntA) : DeadS 122 k0 b J E N q t [wntV r] (zGotV) := DeadS.re (dask_d0 b J E hE N q t r) (by repeat (first | exact trivial | refine ⟨zr, ?_⟩))
theorem daskg_m (k0 b : Nat) (J : JobA) (hJ : JobOk J) (E : EnvA) (hE : E.n ≤ 1000000) (N : Nat) (p : Pst) (hR : Rel E N p) (hp : PstOk p) (hn : p.n ≤ 1000000) (l : Lab) : DocS 122 k0 b J E N p [.agg [.int .i64 1, .int .i64 l.len, .int .u64 l.bits, .int .u64 0, .int .i64 0, .sl none none 0 0 2 (fun _ => []), .int .i64 0, .int .u64 0, .int .u64 0, .int .i64 0, .bool .ff, .str ⟨#[]⟩, .sl none none 0 0 2 (fun _ => []), .int .u64 0, .bool .ff]] gotV zGotV (getM (J.budget - E.n) l p) :=
 DocS.re (dask_m 0 b J hJ E hE N p hR hp hn ⟨1, l, 0, zRA, zRes⟩) ⟨Sim.agg ⟨zr, zr, zr, zr, zr, zq0, zr, zr, zr, zr, Sim.ff, zr, zq0, zr, Sim.ff, trivial⟩, trivial⟩
theorem daskg_d (k0 b : Nat) (J : JobA) (E : EnvA) (hE : E.n ≤ 1000000) (N : Nat) (q : WntA) (t : Nt) (l : Lab) : DeadS 122 k0 b J E N q t [.agg [.int .i64 1, .int .i64 l.len, .int .u64 l.bits, .int .u64 0, .int .i64 0, .sl none none 0 0 2 (fun _ => []), .int .i64 0, .int .u64 0, .int .u64 0, .int .i64 0, .bool .ff, .str ⟨#[]⟩, .sl none none 0 0 2 (fun _ => []), .int .u64 0, .bool .ff]] zGotV :=
 DeadS.re (dask_d 0 b J E hE N q t ⟨1, l, 0, zRA, zRes⟩) ⟨Sim.agg ⟨zr, zr, zr, zr, zr, zq0, zr, zr, zr, zr, Sim.ff, zr, zq0, zr, Sim.ff, trivial⟩, trivial⟩
theorem daskc_m (k0 b : Nat) (J : JobA) (hJ : JobOk J) (E : EnvA) (hE : E.n ≤ 1000000) (N : Nat) (p : Pst) (hR : Rel E N p) (hp : PstOk p) (hn : p.n ≤ 1000000) (l : Lab) (v : Int) (x : RA) : DocS 122 k0 b J E N p [.agg [.int .i64 2, .int .i64 l.len, .int .u64 l.bits, .int .u64 v, .int .i64 x.r.kd, .sl none x.A x.r.n x.c 2 (fun i => itC (x.r.f i)), .int .i64 x.r.nx.len, .int .u64 x.r.nx.bits, .int .u64 x.r.mrk, .int .i64 0, .bool .ff, .str ⟨#[]⟩, .sl none none 0 0 2 (fun _ => []), .int .u64 0, .bool .ff]] gotV zGotV (askM (J.budget - E.n) ⟨2, l, v, x.r.abs, zRsl⟩ p) :=
 DocS.re (dask_m 0 b J hJ E hE N p hR hp hn ⟨2, l, v, x, zRes⟩) ⟨Sim.agg ⟨zr, zr, zr, zr, zr, zr, zr, zr, zr, zr, Sim.ff, zr, zq0, zr, Sim.ff, trivial⟩, trivial⟩
theorem daskc_d (k0 b : Nat) (J : JobA) (E : EnvA) (hE : E.n ≤ 1000000) (N : Nat) (q : WntA) (t : Nt) (l : Lab) (v : Int) (x : RA) : DeadS 122 k0 b J E N q t [.agg [.int .i64 2, .int .i64 l.len, .int .u64 l.bits, .int .u64 v, .int .i64 x.r.kd, .sl none x.A x.r.n x.c 2 (fun i => itC (x.r.f i)), .int .i64 x.r.nx.len, .int .u64 x.r.nx.bits, .int .u64 x.r.mrk, .int .i64 0, .bool .ff, .str ⟨#[]⟩, .sl none none 0 0 2 (fun _ => []), .int .u64 0, .bool .ff]] zGotV :=
 DeadS.re (dask_d 0 b J E hE N q t ⟨2, l, v, x, zRes⟩) ⟨Sim.agg ⟨zr, zr, zr, zr, zr, zr, zr, zr, zr, zr, Sim.ff, zr, zq0, zr, Sim.ff, trivial⟩, trivial⟩
theorem daskd_m (k0 b : Nat) (J : JobA) (hJ : JobOk J) (E : EnvA) (hE : E.n ≤ 1000000) (N : Nat) (p : Pst) (hR : Rel E N p) (hp : PstOk p) (hn : p.n ≤ 1000000) (l : Lab) (v : Int) : DocS 122 k0 b J E N p [.agg [.int .i64 3, .int .i64 l.len, .int .u64 l.bits, .int .u64 v, .int .i64 0, .sl none none 0 0 2 (fun _ => []), .int .i64 0, .int .u64 0, .int .u64 0, .int .i64 0, .bool .ff, .str ⟨#[]⟩, .sl none none 0 0 2 (fun _ => []), .int .u64 0, .bool .ff]] gotV zGotV (askM (J.budget - E.n) ⟨3, l, v, zeroRec, zRsl⟩ p) :=
 DocS.re (dask_m 0 b J hJ E hE N p hR hp hn ⟨3, l, v, zRA, zRes⟩) ⟨Sim.agg ⟨zr, zr, zr, zr, zr, zq0, zr, zr, zr, zr, Sim.ff, zr, zq0, zr, Sim.ff, trivial⟩, trivial⟩
theorem enters77 : Enters Tryz.prog 77 := fun _ _ => by kernel_rfl
abbrev wqD (x : Atom) (w : Wq) (rr : RN) (nn : Nat) (ff : Nat → Itm) : WntA := ⟨w.kind, w.lab, w.ver, ⟨x.A 1, x.c 1, rr⟩, ⟨w.res.code, w.res.had, w.res.val, x.A 2, nn, x.c 2, ff, w.res.key, w.res.more⟩⟩
theorem dget_m0 (b : Nat) (J : JobA) (hJ : JobOk J) (E : EnvA) (hE : E.n ≤ 1000000) (N : Nat) (p : Pst) (hR : Rel E N p) (hp : PstOk p) (hn : p.n ≤ 1000000) (l : Lab) : DocS 77 0 b J E N p [labAV l] (gotV) (zGotV) (getM (J.budget - E.n) l p) := by
 intro m w hm hargs hpre
 have hN0 : N = E.n - p.n := by have := hR.n; omega
 refine enterX hm hpre hargs Tryz.func77 rfl (by simp [Tryz.ntmps77]) fun a0 hF => ?_
 simp only [Tryz.ntmps77, startT] at hF
 obtain ⟨B, hB⟩ := eqv (std)
 apply wp_seq
 apply rgB hB TA_ok [0, 3, 4] [0, 3, 4] [] hF
 ·intro A X; conv => lhs; cbv
 ·intro X; subst hB; simp [AO, Ob.holds, BE.den, std, sC, sAr] <;> omega
 intro X0 a0 w1 hF
 apply wp_seq
 have S1 := daskg_m 0 b J hJ E hE N p hR hp hn l
 rcases hm1 : getM (J.budget - E.n) l p with ⟨g1, p1⟩ | ⟨wq1, p1⟩
 ·have hs1 := (fro_ask _ _ _).of hm1
  have hp1 := hp.suf hs1
  have hn1 := Nat.le_trans hs1.le hn
  have hR1 := hR.suf hs1
  obtain ⟨N1, hN1⟩ := eqv (E.n - p1.n)
  rw [← hN1] at hR1
  apply rgB hB TA_ok [4] [0, 4] [(3, .x fun x => ⟨gotV g1, [(0, drunL J E N1 p1.note)], []⟩)] hF
  ·intro A X; conv => lhs; cbv
  ·intro X; subst hB; simp only [AO, Ob.holds, BE.den] <;> (and_intros <;> repeat first | trivial | rfl | exact enters122 | exact S1.ok hm1 hN1 | refine ⟨?_, ?_⟩ | intro h)
  intro X1 a0 w1 hF
  refine wp_ret ?_
  refine (ret_go (fn := Tryz.f77) TA_ok hF (rs := [.cell 4 63]) rfl (by conv => lhs; cbv) ?_ (v := g1) (q := p1) (M := N1) (by simp [Rs.bind, hm1]) hN1 ?_ ?_).1
  ·subst hB; simp [AO, Ob.holds]
  ·subst hB; exact zr
  subst hB; exact ⟨rfl, ⟨_, rfl, zl⟩, trivial⟩
 have hs1 := (fro_ask _ _ _).ofs hm1
 obtain ⟨N1, hN1⟩ := eqv (E.n - p1.n)
 obtain ⟨rr1, hrr1⟩ := eqv (wq1.r.rn)
 obtain ⟨nn1, hnn1⟩ := eqv (wq1.res.items.length)
 obtain ⟨ff1, hff1⟩ := eqv (itF wq1.res.items)
 apply rgB hB TA_ok [4] [0, 4] [(3, .x fun x => ⟨.agg [.int .i64 0, .int .u64 0, .bool .ff, .int .i64 0, .sl none none 0 0 2 (fun _ => []), .int .i64 0, .int .u64 0, .int .u64 0], [(0, drunS J E N1 ⟨wq1.kind, wq1.lab, wq1.ver, ⟨x.A 1, x.c 1, rr1⟩, ⟨wq1.res.code, wq1.res.had, wq1.res.val, x.A 2, nn1, x.c 2, ff1, wq1.res.key, wq1.res.more⟩⟩ p1.note)], []⟩)] hF
 ·intro A X; conv => lhs; cbv
 ·intro X; subst hB; simp only [AO, Ob.holds, BE.den] <;> (and_intros <;> repeat first | trivial | rfl | exact enters122 | exact S1.stop hm1 hN1 hrr1 hnn1 hff1 | refine ⟨?_, ?_⟩ | intro h)
 intro X1 a0 w1 hF
 obtain ⟨Q1, hQ1⟩ := eqv ((wqD (X1 3) wq1 rr1 nn1 ff1))
 have hW1 : Q1 = wqA (X1 3) wq1 := by rw [hQ1, hrr1, hnn1, hff1]; rfl
 replace hF := hF.memS (cells' := drunS J E N1 Q1 p1.note) (by rw [hQ1]; exact zl)
 refine wp_ret ?_
 refine (ret_st (fn := Tryz.f77) TA_ok hF (rs := [.cell 4 63]) rfl (by conv => lhs; cbv) ?_ (q := p1) (wq := wq1) (Q := Q1) (M := N1) (X1 3) (by simp [Rs.bind, hm1]) hN1 hW1 ?_ ?_).1
 ·subst hB; simp [AO, Ob.holds]
 ·subst hB; exact zr
 subst hB; exact ⟨rfl, ⟨_, rfl, zl⟩, trivial⟩
theorem dget_m (k0 b : Nat) (J : JobA) (hJ : JobOk J) (E : EnvA) (hE : E.n ≤ 1000000) (N : Nat) (p : Pst) (hR : Rel E N p) (hp : PstOk p) (hn : p.n ≤ 1000000) (l : Lab) : DocS 77 k0 b J E N p [labAV l] (gotV) (zGotV) (getM (J.budget - E.n) l p) := DocS.re (dget_m0 b J hJ E hE N p hR hp hn l) (by repeat (first | exact trivial | refine ⟨zr, ?_⟩))
theorem dget_d0 (b : Nat) (J : JobA) (E : EnvA) (hE : E.n ≤ 1000000) (N : Nat) (q : WntA) (t : Nt) (l : Lab) : DeadS 77 0 b J E N q t [labAV l] (zGotV) := by
 intro m w hm hargs hpre
 refine enterX hm hpre hargs Tryz.func77 rfl (by simp [Tryz.ntmps77]) fun a0 hF => ?_
 simp only [Tryz.ntmps77, startT] at hF
 obtain ⟨B, hB⟩ := eqv (std)
 apply wp_seq
 apply rgB hB TA_ok [0, 3, 4] [0, 3, 4] [] hF
 ·intro A X; conv => lhs; cbv
 ·intro X; subst hB; simp [AO, Ob.holds, BE.den, std, sC, sAr] <;> omega
 intro X0 a0 w1 hF
 apply wp_seq
 apply rgB hB TA_ok [4] [0, 4] [(3, .x fun _ => ⟨.agg [.int .i64 0, .int .u64 0, .bool .ff, .int .i64 0, .sl none none 0 0 2 (fun _ => []), .int .i64 0, .int .u64 0, .int .u64 0], [(0, drunS J E N q t)], []⟩)] hF
 ·intro A X; conv => lhs; cbv
 ·intro X; subst hB; simp only [AO, Ob.holds, BE.den] <;> (and_intros <;> repeat first | trivial | rfl | exact enters122 | exact daskg_d 0 b J E hE N q t l | refine ⟨?_, ?_⟩ | intro h)
 intro X1 a0 w1 hF
 refine wp_ret ?_
 refine (ret_dead (fn := Tryz.f77) TA_ok hF (rs := [.cell 4 63]) rfl (by conv => lhs; cbv) ?_ ?_ ?_).1
 ·subst hB; simp [AO, Ob.holds]
 ·subst hB; exact zr
 subst hB; exact ⟨rfl, ⟨_, rfl, zl⟩, trivial⟩
theorem dget_d (k0 b : Nat) (J : JobA) (E : EnvA) (hE : E.n ≤ 1000000) (N : Nat) (q : WntA) (t : Nt) (l : Lab) : DeadS 77 k0 b J E N q t [labAV l] (zGotV) := DeadS.re (dget_d0 b J E hE N q t l) (by repeat (first | exact trivial | refine ⟨zr, ?_⟩))
theorem enters125 : Enters Tryz.prog 125 := fun _ _ => by kernel_rfl
theorem dcas_m0 (b : Nat) (J : JobA) (hJ : JobOk J) (E : EnvA) (hE : E.n ≤ 1000000) (N : Nat) (p : Pst) (hR : Rel E N p) (hp : PstOk p) (hn : p.n ≤ 1000000) (l : Lab) (v : Int) (x : RA) : DocS 125 0 b J E N p [labAV l, .int .u64 v, recV x] (fun d => .bool (.v d)) (.bool .ff) (casM (J.budget - E.n) l v x.r.abs p) := by
 intro m w hm hargs hpre
 have hN0 : N = E.n - p.n := by have := hR.n; omega
 refine enterX hm hpre hargs Tryz.func125 rfl (by simp [Tryz.ntmps125]) fun a0 hF => ?_
 simp only [Tryz.ntmps125, startT] at hF
 obtain ⟨B, hB⟩ := eqv (std)
 apply wp_seq
 apply rgB hB TA_ok [0, 2, 5, 7] [0, 5, 7] [] hF
 ·intro A X; conv => lhs; cbv
 ·intro X; subst hB; simp [AO, Ob.holds, BE.den, std, sC, sAr] <;> omega
 intro X0 a0 w1 hF
 apply wp_seq
 have S1 := daskc_m 0 b J hJ E hE N p hR hp hn l v x
 rcases hm1 : askM (J.budget - E.n) ⟨2, l, v, x.r.abs, zRsl⟩ p with ⟨g1, p1⟩ | ⟨wq1, p1⟩
 ·have hs1 := (fro_ask _ _ _).of hm1
  have hp1 := hp.suf hs1
  have hn1 := Nat.le_trans hs1.le hn
  have hR1 := hR.suf hs1
  obtain ⟨N1, hN1⟩ := eqv (E.n - p1.n)
  rw [← hN1] at hR1
  apply rgB hB TA_ok [0, 9] [0, 9] [(5, .x fun x => ⟨gotV g1, [(0, drunL J E N1 p1.note)], []⟩)] hF
  ·intro A X; conv => lhs; cbv
  ·intro X; subst hB; simp only [AO, Ob.holds, BE.den] <;> (and_intros <;> repeat first | trivial | rfl | exact enters122 | exact S1.ok hm1 hN1 | refine ⟨?_, ?_⟩ | intro h)
  intro X1 a0 w1 hF
  apply wp_seq
  apply rgB hB TA_ok [8] [0] [] hF
  ·intro A X; conv => lhs; cbv
  ·intro X; subst hB; simp only [AO, Ob.holds, BE.den] <;> and_intros <;> intros <;> trivial
  intro X2 a0 w1 hF
  refine wp_ret ?_
  refine (ret_go (fn := Tryz.f125) TA_ok hF (rs := [.tmp 8]) rfl (rfl) ?_ (v := decide (g1.code = 0)) (q := p1) (M := N1) (by simp [casM, Rs.bind, hm1]) hN1 ?_ ?_).1
  ·subst hB; simp [AO, Ob.holds]
  ·subst hB; exact zr
  subst hB; exact ⟨rfl, ⟨_, rfl, zl⟩, trivial⟩
 have hs1 := (fro_ask _ _ _).ofs hm1
 obtain ⟨N1, hN1⟩ := eqv (E.n - p1.n)
 obtain ⟨rr1, hrr1⟩ := eqv (wq1.r.rn)
 obtain ⟨nn1, hnn1⟩ := eqv (wq1.res.items.length)
 obtain ⟨ff1, hff1⟩ := eqv (itF wq1.res.items)
 apply rgB hB TA_ok [0, 9] [0, 9] [(5, .x fun x => ⟨.agg [.int .i64 0, .int .u64 0, .bool .ff, .int .i64 0, .sl none none 0 0 2 (fun _ => []), .int .i64 0, .int .u64 0, .int .u64 0], [(0, drunS J E N1 ⟨wq1.kind, wq1.lab, wq1.ver, ⟨x.A 1, x.c 1, rr1⟩, ⟨wq1.res.code, wq1.res.had, wq1.res.val, x.A 2, nn1, x.c 2, ff1, wq1.res.key, wq1.res.more⟩⟩ p1.note)], []⟩)] hF
 ·intro A X; conv => lhs; cbv
 ·intro X; subst hB; simp only [AO, Ob.holds, BE.den] <;> (and_intros <;> repeat first | trivial | rfl | exact enters122 | exact S1.stop hm1 hN1 hrr1 hnn1 hff1 | refine ⟨?_, ?_⟩ | intro h)
 intro X1 a0 w1 hF
 obtain ⟨Q1, hQ1⟩ := eqv ((wqD (X1 5) wq1 rr1 nn1 ff1))
 have hW1 : Q1 = wqA (X1 5) wq1 := by rw [hQ1, hrr1, hnn1, hff1]; rfl
 replace hF := hF.memS (cells' := drunS J E N1 Q1 p1.note) (by rw [hQ1]; exact zl)
 apply wp_seq
 apply rgB hB TA_ok [8] [0] [] hF
 ·intro A X; conv => lhs; cbv
 ·intro X; subst hB; simp only [AO, Ob.holds, BE.den] <;> and_intros <;> intros <;> trivial
 intro X2 a0 w1 hF
 refine wp_ret ?_
 refine (ret_st (fn := Tryz.f125) TA_ok hF (rs := [.tmp 8]) rfl (rfl) ?_ (q := p1) (wq := wq1) (Q := Q1) (M := N1) (X1 5) (by simp [casM, Rs.bind, hm1]) hN1 hW1 ?_ ?_).1
 ·subst hB; simp [AO, Ob.holds]
 ·subst hB; exact zr
 subst hB; exact ⟨rfl, ⟨_, rfl, zl⟩, trivial⟩
theorem dcas_m (k0 b : Nat) (J : JobA) (hJ : JobOk J) (E : EnvA) (hE : E.n ≤ 1000000) (N : Nat) (p : Pst) (hR : Rel E N p) (hp : PstOk p) (hn : p.n ≤ 1000000) (l : Lab) (v : Int) (x : RA) : DocS 125 k0 b J E N p [labAV l, .int .u64 v, recV x] (fun d => .bool (.v d)) (.bool .ff) (casM (J.budget - E.n) l v x.r.abs p) := DocS.re (dcas_m0 b J hJ E hE N p hR hp hn l v x) (by repeat (first | exact trivial | refine ⟨zr, ?_⟩))
theorem dcas_d0 (b : Nat) (J : JobA) (E : EnvA) (hE : E.n ≤ 1000000) (N : Nat) (q : WntA) (t : Nt) (l : Lab) (v : Int) (x : RA) : DeadS 125 0 b J E N q t [labAV l, .int .u64 v, recV x] (.bool .ff) := by
 intro m w hm hargs hpre
 refine enterX hm hpre hargs Tryz.func125 rfl (by simp [Tryz.ntmps125]) fun a0 hF => ?_
 simp only [Tryz.ntmps125, startT] at hF
 obtain ⟨B, hB⟩ := eqv (std)
 apply wp_seq
 apply rgB hB TA_ok [0, 2, 5, 7] [0, 5, 7] [] hF
 ·intro A X; conv => lhs; cbv
 ·intro X; subst hB; simp [AO, Ob.holds, BE.den, std, sC, sAr] <;> omega
 intro X0 a0 w1 hF
 apply wp_seq
 apply rgB hB TA_ok [0, 9] [0, 9] [(5, .x fun _ => ⟨.agg [.int .i64 0, .int .u64 0, .bool .ff, .int .i64 0, .sl none none 0 0 2 (fun _ => []), .int .i64 0, .int .u64 0, .int .u64 0], [(0, drunS J E N q t)], []⟩)] hF
 ·intro A X; conv => lhs; cbv
 ·intro X; subst hB; simp only [AO, Ob.holds, BE.den] <;> (and_intros <;> repeat first | trivial | rfl | exact enters122 | exact daskc_d 0 b J E hE N q t l v x | refine ⟨?_, ?_⟩ | intro h)
 intro X1 a0 w1 hF
 apply wp_seq
 apply rgB hB TA_ok [8] [0] [] hF
 ·intro A X; conv => lhs; cbv
 ·intro X; subst hB; simp only [AO, Ob.holds, BE.den] <;> and_intros <;> intros <;> trivial
 intro X2 a0 w1 hF
 refine wp_ret ?_
 refine (ret_dead (fn := Tryz.f125) TA_ok hF (rs := [.tmp 8]) rfl (rfl) ?_ ?_ ?_).1
 ·subst hB; simp [AO, Ob.holds]
 ·subst hB; exact zr
 subst hB; exact ⟨rfl, ⟨_, rfl, zl⟩, trivial⟩
theorem dcas_d (k0 b : Nat) (J : JobA) (E : EnvA) (hE : E.n ≤ 1000000) (N : Nat) (q : WntA) (t : Nt) (l : Lab) (v : Int) (x : RA) : DeadS 125 k0 b J E N q t [labAV l, .int .u64 v, recV x] (.bool .ff) := DeadS.re (dcas_d0 b J E hE N q t l v x) (by repeat (first | exact trivial | refine ⟨zr, ?_⟩))
theorem enters121 : Enters Tryz.prog 121 := fun _ _ => by kernel_rfl
theorem ddel_m0 (b : Nat) (J : JobA) (hJ : JobOk J) (E : EnvA) (hE : E.n ≤ 1000000) (N : Nat) (p : Pst) (hR : Rel E N p) (hp : PstOk p) (hn : p.n ≤ 1000000) (l : Lab) (v : Int) : DocS 121 0 b J E N p [labAV l, .int .u64 v] (fun d => .bool (.v d)) (.bool .ff) (drpM (J.budget - E.n) l v p) := by
 intro m w hm hargs hpre
 have hN0 : N = E.n - p.n := by have := hR.n; omega
 refine enterX hm hpre hargs Tryz.func121 rfl (by simp [Tryz.ntmps121]) fun a0 hF => ?_
 simp only [Tryz.ntmps121, startT] at hF
 obtain ⟨B, hB⟩ := eqv (std)
 apply wp_seq
 apply rgB hB TA_ok [0, 2, 4] [0, 4] [] hF
 ·intro A X; conv => lhs; cbv
 ·intro X; subst hB; simp [AO, Ob.holds, BE.den, std, sC, sAr] <;> omega
 intro X0 a0 w1 hF
 apply wp_seq
 have S1 := daskd_m 0 b J hJ E hE N p hR hp hn l v
 rcases hm1 : askM (J.budget - E.n) ⟨3, l, v, zeroRec, zRsl⟩ p with ⟨g1, p1⟩ | ⟨wq1, p1⟩
 ·have hs1 := (fro_ask _ _ _).of hm1
  have hp1 := hp.suf hs1
  have hn1 := Nat.le_trans hs1.le hn
  have hR1 := hR.suf hs1
  obtain ⟨N1, hN1⟩ := eqv (E.n - p1.n)
  rw [← hN1] at hR1
  apply rgB hB TA_ok [0, 7] [0, 7] [(4, .x fun x => ⟨gotV g1, [(0, drunL J E N1 p1.note)], []⟩)] hF
  ·intro A X; conv => lhs; cbv
  ·intro X; subst hB; simp only [AO, Ob.holds, BE.den] <;> (and_intros <;> repeat first | trivial | rfl | exact enters122 | exact S1.ok hm1 hN1 | refine ⟨?_, ?_⟩ | intro h)
  intro X1 a0 w1 hF
  apply wp_seq
  apply rgB hB TA_ok [6] [0] [] hF
  ·intro A X; conv => lhs; cbv
  ·intro X; subst hB; simp only [AO, Ob.holds, BE.den] <;> and_intros <;> intros <;> trivial
  intro X2 a0 w1 hF
  refine wp_ret ?_
  refine (ret_go (fn := Tryz.f121) TA_ok hF (rs := [.tmp 6]) rfl (rfl) ?_ (v := decide (g1.code = 0)) (q := p1) (M := N1) (by simp [drpM, Rs.bind, hm1]) hN1 ?_ ?_).1
  ·subst hB; simp [AO, Ob.holds]
  ·subst hB; exact zr
  subst hB; exact ⟨rfl, ⟨_, rfl, zl⟩, trivial⟩
 have hs1 := (fro_ask _ _ _).ofs hm1
 obtain ⟨N1, hN1⟩ := eqv (E.n - p1.n)
 obtain ⟨rr1, hrr1⟩ := eqv (wq1.r.rn)
 obtain ⟨nn1, hnn1⟩ := eqv (wq1.res.items.length)
 obtain ⟨ff1, hff1⟩ := eqv (itF wq1.res.items)
 apply rgB hB TA_ok [0, 7] [0, 7] [(4, .x fun x => ⟨.agg [.int .i64 0, .int .u64 0, .bool .ff, .int .i64 0, .sl none none 0 0 2 (fun _ => []), .int .i64 0, .int .u64 0, .int .u64 0], [(0, drunS J E N1 ⟨wq1.kind, wq1.lab, wq1.ver, ⟨x.A 1, x.c 1, rr1⟩, ⟨wq1.res.code, wq1.res.had, wq1.res.val, x.A 2, nn1, x.c 2, ff1, wq1.res.key, wq1.res.more⟩⟩ p1.note)], []⟩)] hF
 ·intro A X; conv => lhs; cbv
 ·intro X; subst hB; simp only [AO, Ob.holds, BE.den] <;> (and_intros <;> repeat first | trivial | rfl | exact enters122 | exact S1.stop hm1 hN1 hrr1 hnn1 hff1 | refine ⟨?_, ?_⟩ | intro h)
 intro X1 a0 w1 hF
 obtain ⟨Q1, hQ1⟩ := eqv ((wqD (X1 4) wq1 rr1 nn1 ff1))
 have hW1 : Q1 = wqA (X1 4) wq1 := by rw [hQ1, hrr1, hnn1, hff1]; rfl
 replace hF := hF.memS (cells' := drunS J E N1 Q1 p1.note) (by rw [hQ1]; exact zl)
 apply wp_seq
 apply rgB hB TA_ok [6] [0] [] hF
 ·intro A X; conv => lhs; cbv
 ·intro X; subst hB; simp only [AO, Ob.holds, BE.den] <;> and_intros <;> intros <;> trivial
 intro X2 a0 w1 hF
 refine wp_ret ?_
 refine (ret_st (fn := Tryz.f121) TA_ok hF (rs := [.tmp 6]) rfl (rfl) ?_ (q := p1) (wq := wq1) (Q := Q1) (M := N1) (X1 4) (by simp [drpM, Rs.bind, hm1]) hN1 hW1 ?_ ?_).1
 ·subst hB; simp [AO, Ob.holds]
 ·subst hB; exact zr
 subst hB; exact ⟨rfl, ⟨_, rfl, zl⟩, trivial⟩
theorem ddel_m (k0 b : Nat) (J : JobA) (hJ : JobOk J) (E : EnvA) (hE : E.n ≤ 1000000) (N : Nat) (p : Pst) (hR : Rel E N p) (hp : PstOk p) (hn : p.n ≤ 1000000) (l : Lab) (v : Int) : DocS 121 k0 b J E N p [labAV l, .int .u64 v] (fun d => .bool (.v d)) (.bool .ff) (drpM (J.budget - E.n) l v p) := DocS.re (ddel_m0 b J hJ E hE N p hR hp hn l v) (by repeat (first | exact trivial | refine ⟨zr, ?_⟩))
theorem enters78 : Enters Tryz.prog 78 := fun _ _ => by kernel_rfl
theorem dis_s (g : GotA) (k : Int) : Spec Tryz.prog 78 [gotV g, .int .i64 k] (fun _ => .bool (.v (gk g k))) := by
 intro m w hm hargs
 refine enter hm hargs Tryz.func78 rfl (by simp [Tryz.ntmps78]) fun a0 hF => ?_
 simp only [Tryz.ntmps78, startT] at hF
 obtain ⟨B, hB⟩ := eqv (std)
 apply wp_seq
 apply rgB hB TA_ok [1, 2] [2] [] hF
 ·intro A X; conv => lhs; cbv
 ·intro X; subst hB; simp [AO, Ob.holds, BE.den, std, sC, sAr] <;> omega
 intro X0 a0 w1 hF
 apply wp_seq
 apply rgB hB TA_ok [4] [] [] hF
 ·intro A X; conv => lhs; cbv
 ·intro X; subst hB; simp only [AO, Ob.holds, BE.den] <;> and_intros <;> intros <;> trivial
 intro X1 a0 w1 hF
 refine wp_ret ?_
 refine ret_sim (fn := Tryz.f78) TA_ok hF (rs := [.tmp 4]) rfl (rfl) ?_ nAt ?_
 ·simp [AO, Ob.holds]
 subst hB
 refine Sim.bool ?_
 show (if g.has = true then decide (g.x.r.kd = k) else false) = _
 unfold gk; cases g.has <;> rfl
theorem enters162 : Enters Tryz.prog 162 := fun _ _ => by kernel_rfl
theorem dinn_s : Spec Tryz.prog 162 [] (fun _ => innV) := by
 intro m w hm hargs
 have SN := rnone_s
 simp only [labAV, noneL] at SN
 refine enter hm hargs Tryz.func162 rfl (by simp [Tryz.ntmps162]) fun a0 hF => ?_
 simp only [Tryz.ntmps162, startT] at hF
 obtain ⟨B, hB⟩ := eqv (std)
 apply wp_seq
 apply rgB hB TA_ok [0] [0] [] hF
 ·intro A X; conv => lhs; cbv
 ·intro X; subst hB; simp [AO, Ob.holds, BE.den, std, sC, sAr] <;> omega
 intro X0 a0 w1 hF
 apply wp_seq
 apply rgB hB TA_ok [0] [0] [(0, .r fun _ => .agg [.int .i64 (-1), .int .u64 0])] hF
 ·intro A X; conv => lhs; cbv
 ·intro X; subst hB; simp only [AO, Ob.holds, BE.den] <;> (and_intros <;> repeat first | trivial | rfl | exact enters61 | exact SN | refine ⟨?_, ?_⟩ | intro h)
 intro X1 a0 w1 hF
 refine wp_ret ?_
 refine ret_spec (fn := Tryz.f162) TA_ok hF (rs := [.cell 0 54]) rfl (by conv => lhs; cbv) ?_ nAt ?_
 ·subst hB; simp [AO, Ob.holds]
 subst hB; rfl
theorem disz_s (k : Int) : Spec Tryz.prog 78 [zGotV, .int .i64 k] (fun _ => .bool .ff) :=
 have h : Spec Tryz.prog 78 [zGotV, .int .i64 k] (fun _ => .bool (.v (gk zGot k))) := (dis_s zGot k).sim ⟨Sim.agg ⟨zr, zr, Sim.ff, zr, zq0, zr, zr, zr, trivial⟩, zr, trivial⟩
 h.res fun _ => Sim.bool rfl
theorem dcasi_m (k0 b : Nat) (J : JobA) (hJ : JobOk J) (E : EnvA) (hE : E.n ≤ 1000000) (N : Nat) (p : Pst) (hR : Rel E N p) (hp : PstOk p) (hn : p.n ≤ 1000000) (l : Lab) (v : Int) : DocS 125 k0 b J E N p [labAV l, .int .u64 v, innV] (fun d => .bool (.v d)) (.bool .ff) (casM (J.budget - E.n) l v innerR p) :=
 DocS.re (dcas_m 0 b J hJ E hE N p hR hp hn l v ⟨none, 0, innerR.rn⟩) ⟨zr, zr, Sim.agg ⟨zr, rowz_sim, zr, zr, zr, trivial⟩, trivial⟩
theorem dcasi_d (k0 b : Nat) (J : JobA) (E : EnvA) (hE : E.n ≤ 1000000) (N : Nat) (q : WntA) (t : Nt) (l : Lab) (v : Int) : DeadS 125 k0 b J E N q t [labAV l, .int .u64 v, innV] (.bool .ff) :=
 DeadS.re (dcas_d 0 b J E hE N q t l v ⟨none, 0, innerR.rn⟩) ⟨zr, zr, Sim.agg ⟨zr, rowz_sim, zr, zr, zr, trivial⟩, trivial⟩
def fzJ : Fz → Int
 | .over => -1
 | .unfit => 0
 | .fr _ => 1
def encDz (z : Fz) : AV := .tup [recV (fzR z), .int .i64 (fzJ z)]
theorem dz_0 {z : Fz} (h : fzJ z < 0) : z = .over := by cases z <;> first | rfl | (simp [fzJ] at h)
theorem dz_1 {z : Fz} (h : fzJ z = 0) : z = .unfit := by cases z <;> first | rfl | (simp [fzJ] at h)
theorem dz_2 {z : Fz} (h0 : ¬ fzJ z < 0) (h1 : ¬ fzJ z = 0) : z = .fr (fzR z) := by cases z <;> first | rfl | exact absurd rfl h1 | exact absurd (by decide) h0
theorem zra_ok : RaOk zRA := ⟨⟨by decide, by decide⟩, fun i hi => absurd hi (Nat.not_lt_zero _), by decide⟩
theorem enters163 : Enters Tryz.prog 163 := fun _ _ => by kernel_rfl
theorem dfrz_m0 (b : Nat) (J : JobA) (hJ : JobOk J) (E : EnvA) (hE : E.n ≤ 1000000) (N : Nat) (p : Pst) (hR : Rel E N p) (hp : PstOk p) (hn : p.n ≤ 1000000) (l : Lab) (v : Int) (d : Lab) (n : Nat) (hf : p.n < n) : DocS 163 0 b J E N p [labAV l, .int .u64 v, labAV d] (encDz) (.tup [.agg [.int .i64 0, .sl none none 0 0 2 (fun _ => []), .int .i64 0, .int .u64 0, .int .u64 0], .int .i64 (-1)]) (frzM (J.budget - E.n) l v d n p) := by
 intro m w hm hargs hpre
 have hN0 : N = E.n - p.n := by have := hR.n; omega
 refine enterX hm hpre hargs Tryz.func163 rfl (by simp [Tryz.ntmps163]) fun a0 hF => ?_
 simp only [Tryz.ntmps163, startT] at hF
 obtain ⟨B, hB⟩ := eqv (std)
 apply wp_seq
 apply rgB hB TA_ok [0, 2, 5, 7, 8] [0, 5, 7, 8] [] hF
 ·intro A X; conv => lhs; cbv
 ·intro X; subst hB; simp [AO, Ob.holds, BE.den, std, sC, sAr] <;> omega
 intro X0 a0 w1 hF
 apply wp_seq
 refine wp_block ?_
 refine loop_pre (ι := LSt) (fun q => []) (fun q => [(0, ⟨b, 136, lsC J E q⟩)]) (fun q => []) (fun q => match q with | .go a r M => frzM (J.budget - E.n) l v d n p = frzM (J.budget - E.n) l v d a r ∧ PstOk r ∧ r.n ≤ 1000000 ∧ Rel E M r ∧ r.n < a ∧ r.n ≤ p.n | .dn r M => False | .sp M Q u => ∃ (X : Atom) (wq : Wq) (pp : Pst), frzM (J.budget - E.n) l v d n p = .stop wq pp ∧ M = E.n - pp.n ∧ Q = wqA X wq ∧ u = pp.note) (fun q => lsM q) (.go n p N) ⟨rfl, hp, hn, hR, (by skip; omega), (by skip; omega)⟩ hF ?_
 rintro q hJ a0 w1 hF
 rcases q with ⟨nn0, p0, N0⟩ | ⟨p9, N9⟩ | ⟨N0, Q0, t0⟩
 ·dsimp only [lsC, lsB] at hJ hF
  obtain ⟨hrun0, hp0, hn0, hR0, hf0, hle0⟩ := hJ
  obtain ⟨m0, rfl⟩ : ∃ n2, nn0 = n2 + 1 := ⟨nn0 - 1, by omega⟩
  have hN0 : N0 = E.n - p0.n := by have := hR0.n; omega
  refine wp_seq (wp_seq ?_)
  apply rgB hB TA_ok [17, 0, 2, 5, 7, 8] [0, 5, 7, 8] [] hF
  ·intro A X; conv => lhs; cbv
  ·intro X; subst hB; simp only [AO, Ob.holds, BE.den] <;> and_intros <;> intros <;> trivial
  intro X1 a0 w1 hF
  refine test_tt hF rfl (fun hF => ?_)
  refine wp_skip ?_
  refine wp_block ?_
  apply wp_seq
  have S2 := dget_m 0 b J hJ E hE N0 p0 hR0 hp0 hn0 d
  rcases hm2 : getM (J.budget - E.n) d p0 with ⟨g1, p2⟩ | ⟨wq2, p2⟩
  ·have hs2 := (fro_get _ _ _).of hm2
   have hp2 := hp0.suf hs2
   have hn2 := Nat.le_trans hs2.le hn0
   have hR2 := hR0.suf hs2
   obtain ⟨N2, hN2⟩ := eqv (E.n - p2.n)
   rw [← hN2] at hR2
   have hl2 := get_lt hm2
   have hg2 := hp0.get hm2
   apply rgB hB TA_ok [0, 2, 5, 7, 8, 10] [0, 5, 7, 8, 10] [(2, .x fun x => ⟨gotV g1, [(0, drunL J E N2 p2.note)], []⟩)] hF
   ·intro A X; conv => lhs; cbv
   ·intro X; subst hB; simp only [AO, Ob.holds, BE.den] <;> (and_intros <;> repeat first | trivial | rfl | exact enters77 | exact S2.ok hm2 hN2 | refine ⟨?_, ?_⟩ | intro h)
   intro X2 a0 w1 hF
   refine wp_seq (wp_seq ?_)
   apply rgB hB TA_ok [24, 0, 2, 5, 7, 8, 10] [0, 5, 7, 8, 10] [] hF
   ·intro A X; conv => lhs; cbv
   ·intro X; subst hB; simp only [AO, Ob.holds, BE.den] <;> and_intros <;> intros <;> trivial
   intro X3 a0 w1 hF
   refine test_ff hF rfl (fun hF => ?_)
   refine wp_skip ?_
   refine wp_seq (wp_seq ?_)
   obtain ⟨q5, hq5⟩ := eqv (gk g1 1)
   obtain ⟨r5, hr5⟩ := eqv (gk g1 5)
   apply rgB hB TA_ok [33, 0, 2, 5, 7, 8, 10] [0, 5, 7, 8, 10] [(1, .r fun _ => .bool (.v q5)), (5, .r fun _ => .bool (.v r5))] hF
   ·intro A X; conv => lhs; cbv
   ·intro X; subst hB; simp only [AO, Ob.holds, BE.den] <;> (and_intros <;> repeat first | trivial | rfl | exact enters78 | exact (by rw [hq5]; exact dis_s g1 1) | exact by rw [hq5]; exact dis_s g1 1 | exact (by rw [hr5]; exact dis_s g1 5) | exact by rw [hr5]; exact dis_s g1 5 | refine ⟨?_, ?_⟩ | intro h)
   intro X5 a0 w1 hF
   apply test_ok hF rfl <;> intro hb hF
   ·have t5 : (gk g1 1 || gk g1 5) = false := by subst hB; rw [← hq5, ← hr5]; revert hb; cases q5 <;> cases r5 <;> simp [std]
    apply wp_seq
    apply rgB hB TA_ok [8, 9] [0, 8] [] hF
    ·intro A X; conv => lhs; cbv
    ·intro X; subst hB; simp [AO, Ob.holds, BE.den, std, sC, sAr] <;> omega
    intro X6 a0 w1 hF
    refine wp_ret ?_
    refine (ret_go (fn := Tryz.f163) TA_ok hF (rs := [.cell 8 54, .tmp 9]) rfl (by conv => lhs; cbv) ?_ (v := Fz.unfit) (q := p2) (M := N2) (by simp [Rs.bind, hrun0, frzM, hm2, t5]) hN2 ?_ ?_).1
    ·subst hB; simp [AO, Ob.holds]
    ·subst hB; exact Sim.tup ⟨Sim.agg ⟨zr, rowz_sim, zr, zr, zr, trivial⟩, zr, trivial⟩
    subst hB; exact ⟨rfl, ⟨_, rfl, zl⟩, trivial⟩
   have t5 : (gk g1 1 || gk g1 5) = true := by subst hB; rw [← hq5, ← hr5]; revert hb; cases q5 <;> cases r5 <;> simp [std]
   refine wp_skip ?_
   refine wp_seq (wp_seq ?_)
   obtain ⟨q7, hq7⟩ := eqv (gk g1 5)
   apply rgB hB TA_ok [43, 0, 2, 5, 7, 8, 10] [0, 5, 7, 8, 10] [(1, .r fun _ => .bool (.v q7))] hF
   ·intro A X; conv => lhs; cbv
   ·intro X; subst hB; simp only [AO, Ob.holds, BE.den] <;> (and_intros <;> repeat first | trivial | rfl | exact enters78 | exact (by rw [hq7]; exact dis_s g1 5) | exact by rw [hq7]; exact dis_s g1 5 | refine ⟨?_, ?_⟩ | intro h)
   intro X7 a0 w1 hF
   apply test_ok hF rfl <;> intro hb hF
   ·have t7 : (gk g1 5 && decide (g1.x.r.mrk = v)) = true := by subst hB; rw [← hq7]; revert hb; cases q7 <;> simp [std, sC]
    apply wp_seq
    apply rgB hB TA_ok [8, 9] [0, 8] [] hF
    ·intro A X; conv => lhs; cbv
    ·intro X; subst hB; simp [AO, Ob.holds, BE.den, std, sC, sAr] <;> omega
    intro X8 a0 w1 hF
    refine wp_ret ?_
    refine (ret_go (fn := Tryz.f163) TA_ok hF (rs := [.cell 8 54, .tmp 9]) rfl (by conv => lhs; cbv) ?_ (v := (Fz.fr g1.x)) (q := p2) (M := N2) (by simp [Rs.bind, hrun0, frzM, hm2, t5, t7]) hN2 ?_ ?_).1
    ·subst hB; simp [AO, Ob.holds]
    ·subst hB; exact zr
    subst hB; exact ⟨rfl, ⟨_, rfl, zl⟩, trivial⟩
   have t7 : (gk g1 5 && decide (g1.x.r.mrk = v)) = false := by subst hB; rw [← hq7]; revert hb; cases q7 <;> simp [std, sC]
   refine wp_skip ?_
   apply wp_seq
   have S9 := dget_m 0 b J hJ E hE N2 p2 hR2 hp2 hn2 l
   rcases hm9 : getM (J.budget - E.n) l p2 with ⟨g9, p9⟩ | ⟨wq9, p9⟩
   ·have hs9 := (fro_get _ _ _).of hm9
    have hp9 := hp2.suf hs9
    have hn9 := Nat.le_trans hs9.le hn2
    have hR9 := hR2.suf hs9
    obtain ⟨N9, hN9⟩ := eqv (E.n - p9.n)
    rw [← hN9] at hR9
    have hl9 := get_lt hm9
    have hg9 := hp2.get hm9
    apply rgB hB TA_ok [0, 2, 5, 7, 8, 10, 11] [0, 5, 7, 8, 10, 11] [(2, .x fun x => ⟨gotV g9, [(0, drunL J E N9 p9.note)], []⟩)] hF
    ·intro A X; conv => lhs; cbv
    ·intro X; subst hB; simp only [AO, Ob.holds, BE.den] <;> (and_intros <;> repeat first | trivial | rfl | exact enters77 | exact S9.ok hm9 hN9 | refine ⟨?_, ?_⟩ | intro h)
    intro X9 a0 w1 hF
    refine wp_seq (wp_seq ?_)
    apply rgB hB TA_ok [58, 0, 2, 5, 7, 8, 10] [0, 5, 7, 8, 10] [] hF
    ·intro A X; conv => lhs; cbv
    ·intro X; subst hB; simp only [AO, Ob.holds, BE.den] <;> and_intros <;> intros <;> trivial
    intro X10 a0 w1 hF
    apply test_ok hF rfl <;> intro hb hF
    ·have t10 : ¬ g9.ver = v := by
      have h9 : (g9.ver != v) = true := by subst hB; exact hb
      simpa using h9
     apply wp_seq
     apply rgB hB TA_ok [8, 9] [0, 8] [] hF
     ·intro A X; conv => lhs; cbv
     ·intro X; subst hB; simp [AO, Ob.holds, BE.den, std, sC, sAr] <;> omega
     intro X11 a0 w1 hF
     refine wp_ret ?_
     refine (ret_go (fn := Tryz.f163) TA_ok hF (rs := [.cell 8 54, .tmp 9]) rfl (by conv => lhs; cbv) ?_ (v := Fz.over) (q := p9) (M := N9) (by simp [Rs.bind, hrun0, frzM, hm2, t5, t7, hm9, t10]) hN9 ?_ ?_).1
     ·subst hB; simp [AO, Ob.holds]
     ·subst hB; exact Sim.tup ⟨Sim.agg ⟨zr, rowz_sim, zr, zr, zr, trivial⟩, zr, trivial⟩
     subst hB; exact ⟨rfl, ⟨_, rfl, zl⟩, trivial⟩
    have t10 : g9.ver = v := by
     have h9 : (g9.ver != v) = false := by subst hB; exact hb
     simpa using h9
    refine wp_skip ?_
    apply wp_seq
    apply rgB hB TA_ok [0, 2, 5, 7, 8, 10, 12] [0, 5, 7, 8, 10, 12] [] hF
    ·intro A X; conv => lhs; cbv
    ·intro X; subst hB; simp only [AO, Ob.holds, BE.den] <;> and_intros <;> intros <;> trivial
    intro X12 a0 w1 hF
    apply wp_seq
    have S13 := dcas_m 0 b J hJ E hE N9 p9 hR9 hp9 hn9 d g1.ver (asR 5 g1.x v)
    rcases hm13 : casM (J.budget - E.n) d g1.ver (asR 5 g1.x v).r.abs p9 with ⟨d9, p13⟩ | ⟨wq13, p13⟩
    ·have hs13 := (fro_cas _ _ _ _ _).of hm13
     have hp13 := hp9.suf hs13
     have hn13 := Nat.le_trans hs13.le hn9
     have hR13 := hR9.suf hs13
     obtain ⟨N13, hN13⟩ := eqv (E.n - p13.n)
     rw [← hN13] at hR13
     apply rgB hB TA_ok [73, 0, 2, 5, 7, 8, 12] [0, 5, 7, 8, 12] [(5, .x fun x => ⟨.bool (.v d9), [(0, drunL J E N13 p13.note)], []⟩)] hF
     ·intro A X; conv => lhs; cbv
     ·intro X; subst hB; simp only [AO, Ob.holds, BE.den] <;> (and_intros <;> repeat first | trivial | rfl | exact enters125 | exact S13.ok hm13 hN13 | refine ⟨?_, ?_⟩ | intro h)
     intro X13 a0 w1 hF
     apply test_ok hF rfl <;> intro hb hF
     ·have t13 : d9 = true := by exact hb
      apply wp_seq
      apply rgB hB TA_ok [8, 9] [0, 8] [] hF
      ·intro A X; conv => lhs; cbv
      ·intro X; subst hB; simp [AO, Ob.holds, BE.den, std, sC, sAr] <;> omega
      intro X14 a0 w1 hF
      refine wp_ret ?_
      refine (ret_go (fn := Tryz.f163) TA_ok hF (rs := [.cell 8 54, .tmp 9]) rfl (by conv => lhs; cbv) ?_ (v := (Fz.fr (asR 5 g1.x v))) (q := p13) (M := N13) (by simp [Rs.bind, hrun0, frzM, hm2, t5, t7, hm9, t10, hm13, t13]) hN13 ?_ ?_).1
      ·subst hB; simp [AO, Ob.holds]
      ·subst hB; exact zr
      subst hB; exact ⟨rfl, ⟨_, rfl, zl⟩, trivial⟩
     have t13 : d9 = false := by exact hb
     refine wp_skip ?_
     replace hF := hF.keep [0, 2, 5, 7, 8] [0, 5, 7, 8]
     exact ⟨.go m0 p13 N13, ⟨by rw [hrun0]; simp [frzM, Rs.bind, hrun0, frzM, hm2, t5, t7, hm9, t10, hm13, t13], hp13, hn13, hR13, by have := hl2; have := hs9.le; have := hs13.le; have := hf0; omega, by have := hl2; have := hs9.le; have := hs13.le; have := hle0; omega⟩, by simp [lsM], hF⟩
    have hs13 := (fro_cas _ _ _ _ _).ofs hm13
    obtain ⟨N13, hN13⟩ := eqv (E.n - p13.n)
    obtain ⟨rr13, hrr13⟩ := eqv (wq13.r.rn)
    obtain ⟨nn13, hnn13⟩ := eqv (wq13.res.items.length)
    obtain ⟨ff13, hff13⟩ := eqv (itF wq13.res.items)
    apply rgB hB TA_ok [73, 0, 2, 5, 7, 8, 12] [0, 5, 7, 8, 12] [(5, .x fun x => ⟨.bool .ff, [(0, drunS J E N13 ⟨wq13.kind, wq13.lab, wq13.ver, ⟨x.A 1, x.c 1, rr13⟩, ⟨wq13.res.code, wq13.res.had, wq13.res.val, x.A 2, nn13, x.c 2, ff13, wq13.res.key, wq13.res.more⟩⟩ p13.note)], []⟩)] hF
    ·intro A X; conv => lhs; cbv
    ·intro X; subst hB; simp only [AO, Ob.holds, BE.den] <;> (and_intros <;> repeat first | trivial | rfl | exact enters125 | exact S13.stop hm13 hN13 hrr13 hnn13 hff13 | refine ⟨?_, ?_⟩ | intro h)
    intro X13 a0 w1 hF
    obtain ⟨Q13, hQ13⟩ := eqv ((wqD (X13 5) wq13 rr13 nn13 ff13))
    have hW13 : Q13 = wqA (X13 5) wq13 := by rw [hQ13, hrr13, hnn13, hff13]; rfl
    replace hF := hF.memS (cells' := drunS J E N13 Q13 p13.note) (by rw [hQ13]; exact zl)
    refine test_ff hF rfl (fun hF => ?_)
    refine wp_skip ?_
    replace hF := hF.keep [0, 2, 5, 7, 8] [0, 5, 7, 8]
    exact ⟨.sp N13 Q13 p13.note, ⟨(X13 5), wq13, p13, by simp [Rs.bind, hrun0, frzM, hm2, t5, t7, hm9, t10, hm13], hN13, hW13, rfl⟩, by simp [lsM], hF⟩
   have hs9 := (fro_get _ _ _).ofs hm9
   obtain ⟨N9, hN9⟩ := eqv (E.n - p9.n)
   obtain ⟨rr9, hrr9⟩ := eqv (wq9.r.rn)
   obtain ⟨nn9, hnn9⟩ := eqv (wq9.res.items.length)
   obtain ⟨ff9, hff9⟩ := eqv (itF wq9.res.items)
   apply rgB hB TA_ok [0, 2, 5, 7, 8, 10, 11] [0, 5, 7, 8, 10, 11] [(2, .x fun x => ⟨.agg [.int .i64 0, .int .u64 0, .bool .ff, .int .i64 0, .sl none none 0 0 2 (fun _ => []), .int .i64 0, .int .u64 0, .int .u64 0], [(0, drunS J E N9 ⟨wq9.kind, wq9.lab, wq9.ver, ⟨x.A 1, x.c 1, rr9⟩, ⟨wq9.res.code, wq9.res.had, wq9.res.val, x.A 2, nn9, x.c 2, ff9, wq9.res.key, wq9.res.more⟩⟩ p9.note)], []⟩)] hF
   ·intro A X; conv => lhs; cbv
   ·intro X; subst hB; simp only [AO, Ob.holds, BE.den] <;> (and_intros <;> repeat first | trivial | rfl | exact enters77 | exact S9.stop hm9 hN9 hrr9 hnn9 hff9 | refine ⟨?_, ?_⟩ | intro h)
   intro X9 a0 w1 hF
   obtain ⟨Q9, hQ9⟩ := eqv ((wqD (X9 2) wq9 rr9 nn9 ff9))
   have hW9 : Q9 = wqA (X9 2) wq9 := by rw [hQ9, hrr9, hnn9, hff9]; rfl
   replace hF := hF.memS (cells' := drunS J E N9 Q9 p9.note) (by rw [hQ9]; exact zl)
   refine wp_seq (wp_seq ?_)
   apply rgB hB TA_ok [58, 0, 2, 5, 7, 8, 10] [0, 5, 7, 8, 10] [] hF
   ·intro A X; conv => lhs; cbv
   ·intro X; subst hB; simp only [AO, Ob.holds, BE.den] <;> and_intros <;> intros <;> trivial
   intro X10 a0 w1 hF
   refine test_tt hF rfl (fun hF => ?_)
   apply wp_seq
   apply rgB hB TA_ok [8, 9] [0, 8] [] hF
   ·intro A X; conv => lhs; cbv
   ·intro X; subst hB; simp [AO, Ob.holds, BE.den, std, sC, sAr] <;> omega
   intro X11 a0 w1 hF
   refine wp_ret ?_
   refine (ret_st (fn := Tryz.f163) TA_ok hF (rs := [.cell 8 54, .tmp 9]) rfl (by conv => lhs; cbv) ?_ (q := p9) (wq := wq9) (Q := Q9) (M := N9) (X9 2) (by simp [Rs.bind, hrun0, frzM, hm2, t5, t7, hm9]) hN9 hW9 ?_ ?_).1
   ·subst hB; simp [AO, Ob.holds]
   ·subst hB; exact zr
   subst hB; exact ⟨rfl, ⟨_, rfl, zl⟩, trivial⟩
  have hs2 := (fro_get _ _ _).ofs hm2
  obtain ⟨N2, hN2⟩ := eqv (E.n - p2.n)
  obtain ⟨rr2, hrr2⟩ := eqv (wq2.r.rn)
  obtain ⟨nn2, hnn2⟩ := eqv (wq2.res.items.length)
  obtain ⟨ff2, hff2⟩ := eqv (itF wq2.res.items)
  apply rgB hB TA_ok [0, 2, 5, 7, 8, 10] [0, 5, 7, 8, 10] [(2, .x fun x => ⟨.agg [.int .i64 0, .int .u64 0, .bool .ff, .int .i64 0, .sl none none 0 0 2 (fun _ => []), .int .i64 0, .int .u64 0, .int .u64 0], [(0, drunS J E N2 ⟨wq2.kind, wq2.lab, wq2.ver, ⟨x.A 1, x.c 1, rr2⟩, ⟨wq2.res.code, wq2.res.had, wq2.res.val, x.A 2, nn2, x.c 2, ff2, wq2.res.key, wq2.res.more⟩⟩ p2.note)], []⟩)] hF
  ·intro A X; conv => lhs; cbv
  ·intro X; subst hB; simp only [AO, Ob.holds, BE.den] <;> (and_intros <;> repeat first | trivial | rfl | exact enters77 | exact S2.stop hm2 hN2 hrr2 hnn2 hff2 | refine ⟨?_, ?_⟩ | intro h)
  intro X2 a0 w1 hF
  obtain ⟨Q2, hQ2⟩ := eqv ((wqD (X2 2) wq2 rr2 nn2 ff2))
  have hW2 : Q2 = wqA (X2 2) wq2 := by rw [hQ2, hrr2, hnn2, hff2]; rfl
  replace hF := hF.memS (cells' := drunS J E N2 Q2 p2.note) (by rw [hQ2]; exact zl)
  refine wp_seq (wp_seq ?_)
  apply rgB hB TA_ok [24, 0, 2, 5, 7, 8, 10] [0, 5, 7, 8, 10] [] hF
  ·intro A X; conv => lhs; cbv
  ·intro X; subst hB; simp only [AO, Ob.holds, BE.den] <;> and_intros <;> intros <;> trivial
  intro X3 a0 w1 hF
  refine test_tt hF rfl (fun hF => ?_)
  apply wp_seq
  apply rgB hB TA_ok [8, 9] [0, 8] [] hF
  ·intro A X; conv => lhs; cbv
  ·intro X; subst hB; simp [AO, Ob.holds, BE.den, std, sC, sAr] <;> omega
  intro X4 a0 w1 hF
  refine wp_ret ?_
  refine (ret_st (fn := Tryz.f163) TA_ok hF (rs := [.cell 8 54, .tmp 9]) rfl (by conv => lhs; cbv) ?_ (q := p2) (wq := wq2) (Q := Q2) (M := N2) (X2 2) (by simp [Rs.bind, hrun0, frzM, hm2]) hN2 hW2 ?_ ?_).1
  ·subst hB; simp [AO, Ob.holds]
  ·subst hB; exact zr
  subst hB; exact ⟨rfl, ⟨_, rfl, zl⟩, trivial⟩
 ·exact (hJ : False).elim
 dsimp only [lsC, lsB] at hJ hF
 obtain ⟨X0, wq0, pp0, hsp0, hN0, hW0, ht0⟩ := hJ
 subst ht0
 refine wp_seq (wp_seq ?_)
 apply rgB hB TA_ok [17, 0, 2, 5, 7, 8] [0, 5, 7, 8] [] hF
 ·intro A X; conv => lhs; cbv
 ·intro X; subst hB; simp only [AO, Ob.holds, BE.den] <;> and_intros <;> intros <;> trivial
 intro X1 a0 w1 hF
 refine test_ff hF rfl (fun hF => ?_)
 refine wp_exit ?_
 apply wp_seq
 apply rgB hB TA_ok [8, 9] [0, 8] [] hF
 ·intro A X; conv => lhs; cbv
 ·intro X; subst hB; simp [AO, Ob.holds, BE.den, std, sC, sAr] <;> omega
 intro X15 a0 w1 hF
 refine wp_ret ?_
 refine (ret_st (fn := Tryz.f163) TA_ok hF (rs := [.cell 8 54, .tmp 9]) rfl (by conv => lhs; cbv) ?_ (q := pp0) (wq := wq0) (Q := Q0) (M := N0) X0 (hsp0) hN0 hW0 ?_ ?_).1
 ·subst hB; simp [AO, Ob.holds]
 ·subst hB; exact zr
 subst hB; exact ⟨rfl, ⟨_, rfl, zl⟩, trivial⟩
theorem dfrz_m (k0 b : Nat) (J : JobA) (hJ : JobOk J) (E : EnvA) (hE : E.n ≤ 1000000) (N : Nat) (p : Pst) (hR : Rel E N p) (hp : PstOk p) (hn : p.n ≤ 1000000) (l : Lab) (v : Int) (d : Lab) (n : Nat) (hf : p.n < n) : DocS 163 k0 b J E N p [labAV l, .int .u64 v, labAV d] (encDz) (.tup [.agg [.int .i64 0, .sl none none 0 0 2 (fun _ => []), .int .i64 0, .int .u64 0, .int .u64 0], .int .i64 (-1)]) (frzM (J.budget - E.n) l v d n p) := DocS.re (dfrz_m0 b J hJ E hE N p hR hp hn l v d n hf) (by repeat (first | exact trivial | refine ⟨zr, ?_⟩))
def DThC (n : Nat) : Prop := ∀ (k0 b : Nat) (J : JobA) (hJ : JobOk J) (E : EnvA) (hE : E.n ≤ 1000000) (N : Nat) (p : Pst) (hR : Rel E N p) (hp : PstOk p) (hn : p.n ≤ 1000000) (l : Lab) (hl : LOk l), p.n < n → DocS 80 k0 b J E N p [labAV l] (fun _ => unitV) unitV (thwM J.bucket (J.budget - E.n) n l p)
def DClC (n : Nat) : Prop := ∀ (k0 b : Nat) (J : JobA) (hJ : JobOk J) (E : EnvA) (hE : E.n ≤ 1000000) (N : Nat) (p : Pst) (hR : Rel E N p) (hp : PstOk p) (hn : p.n ≤ 1000000) (l : Lab) (hl : LOk l), p.n < n → DocS 76 k0 b J E N p [labAV l] (fun _ => unitV) unitV (clnM (J.budget - E.n) n l p)
def DFinC (n : Nat) : Prop := ∀ (k0 b : Nat) (J : JobA) (hJ : JobOk J) (E : EnvA) (hE : E.n ≤ 1000000) (N : Nat) (p : Pst) (hR : Rel E N p) (hp : PstOk p) (hn : p.n ≤ 1000000) (l : Lab) (hl : LOk l) (g : GotA) (hg : GotOk g) (hgh : g.has = true), p.n < n → DocS 79 k0 b J E N p [labAV l, gotV g] (fun _ => unitV) unitV (fnsM J.bucket (J.budget - E.n) n l g p)
theorem enters79 : Enters Tryz.prog 79 := fun _ _ => by kernel_rfl
theorem enters76 : Enters Tryz.prog 76 := fun _ _ => by kernel_rfl
theorem enters80 : Enters Tryz.prog 80 := fun _ _ => by kernel_rfl
theorem dthw_d0 (b : Nat) (J : JobA) (E : EnvA) (hE : E.n ≤ 1000000) (N : Nat) (q : WntA) (t : Nt) (l : Lab) (hl : LOk l) : DeadS 80 0 b J E N q t [labAV l] (unitV) := by
 intro m w hm hargs hpre
 have SP := rpar_s l hl.u
 simp only [labAV] at SP
 obtain ⟨up, hup⟩ := eqv (parV l)
 rw [← hup] at SP
 obtain ⟨ue, hue⟩ := eqv (parE l)
 rw [← hue] at SP
 refine enterX hm hpre hargs Tryz.func80 rfl (by simp [Tryz.ntmps80]) fun a0 hF => ?_
 simp only [Tryz.ntmps80, startT] at hF
 obtain ⟨B, hB⟩ := eqv (std)
 apply wp_seq
 apply rgB hB TA_ok [0, 3] [0, 3] [] hF
 ·intro A X; conv => lhs; cbv
 ·intro X; subst hB; simp [AO, Ob.holds, BE.den, std, sC, sAr] <;> omega
 intro X0 a0 w1 hF
 apply wp_seq
 apply rgB hB TA_ok [0, 3, 4, 5] [0, 3, 4] [(1, .r fun _ => .tup [.agg [.int .i64 up.len, .int .u64 up.bits], .int .i64 ue])] hF
 ·intro A X; conv => lhs; cbv
 ·intro X; subst hB; simp only [AO, Ob.holds, BE.den] <;> (and_intros <;> repeat first | trivial | rfl | exact enters100 | exact SP | refine ⟨?_, ?_⟩ | intro h)
 intro X1 a0 w1 hF
 refine wp_seq (wp_seq ?_)
 apply rgB hB TA_ok [14, 0, 3, 4] [0, 3, 4] [] hF
 ·intro A X; conv => lhs; cbv
 ·intro X; subst hB; simp [AO, Ob.holds, BE.den, std, sC, sAr] <;> omega
 intro X2 a0 w1 hF
 apply test_ok hF rfl <;> intro hb hF
 ·have t0 : ¬ ue = 0 := by subst hB; simpa [std, sC] using hb
  refine wp_ret ?_
  refine (ret_dead (fn := Tryz.f80) TA_ok hF (rs := []) rfl (rfl) ?_ ?_ ?_).1
  ·subst hB; simp [AO, Ob.holds]
  ·subst hB; exact zr
  subst hB; exact ⟨rfl, ⟨_, rfl, zl⟩, trivial⟩
 have t0 : ue = 0 := by subst hB; simpa [std, sC] using hb
 refine wp_skip ?_
 refine wp_block ?_
 refine wp_loop_rounds 2 ?_
 refine rounds_first ?_
 refine wp_seq (wp_seq ?_)
 apply rgB hB TA_ok [19, 0, 3, 4] [0, 3, 4] [] hF
 ·intro A X; conv => lhs; cbv
 ·intro X; subst hB; simp only [AO, Ob.holds, BE.den] <;> and_intros <;> intros <;> trivial
 intro X3 a0 w1 hF
 refine test_ff hF rfl (fun hF => ?_)
 refine wp_exit ?_
 refine (ret_dead (fn := Tryz.f80) TA_ok hF (rs := []) rfl (rfl) ?_ ?_ ?_).2
 ·subst hB; simp [AO, Ob.holds]
 ·subst hB; exact zr
 subst hB; exact ⟨rfl, ⟨_, rfl, zl⟩, trivial⟩
theorem dthw_d (k0 b : Nat) (J : JobA) (E : EnvA) (hE : E.n ≤ 1000000) (N : Nat) (q : WntA) (t : Nt) (l : Lab) (hl : LOk l) : DeadS 80 k0 b J E N q t [labAV l] (unitV) := DeadS.re (dthw_d0 b J E hE N q t l hl) (by repeat (first | exact trivial | refine ⟨zr, ?_⟩))
theorem enters164 : Enters Tryz.prog 164 := fun _ _ => by kernel_rfl
theorem dbck_m0 (b : Nat) (J : JobA) (hJ : JobOk J) (E : EnvA) (hE : E.n ≤ 1000000) (N : Nat) (p : Pst) (hR : Rel E N p) (hp : PstOk p) (hn : p.n ≤ 1000000) (l : Lab) (hl : LOk l) (v : Int) (x0 x1 : Lab) (hx0 : x0 = chV l 0) (hx1 : x1 = chV l 1) (n : Nat) (hth : DThC n) (hf : p.n < n) : DocS 164 0 b J E N p [labAV l, .int .u64 v, labAV x0, labAV x1] (fun _ => unitV) (unitV) (bckM (J.budget - E.n) (thwM J.bucket (J.budget - E.n) n) l v p) := by
 intro m w hm hargs hpre
 have hN0 : N = E.n - p.n := by have := hR.n; omega
 have hk0 : LOk x0 := by rw [hx0]; exact hl.ch 0
 have hk1 : LOk x1 := by rw [hx1]; exact hl.ch 1
 refine enterX hm hpre hargs Tryz.func164 rfl (by simp [Tryz.ntmps164]) fun a0 hF => ?_
 simp only [Tryz.ntmps164, startT] at hF
 obtain ⟨B, hB⟩ := eqv (std)
 apply wp_seq
 apply rgB hB TA_ok [0, 2, 6, 8, 9] [0, 6, 8, 9] [] hF
 ·intro A X; conv => lhs; cbv
 ·intro X; subst hB; simp [AO, Ob.holds, BE.den, std, sC, sAr] <;> omega
 intro X0 a0 w1 hF
 apply wp_seq
 have S1 := dcasi_m 0 b J hJ E hE N p hR hp hn l v
 rcases hm1 : casM (J.budget - E.n) l v innerR p with ⟨d1, p1⟩ | ⟨wq1, p1⟩
 ·have hs1 := (fro_cas _ _ _ _ _).of hm1
  have hp1 := hp.suf hs1
  have hn1 := Nat.le_trans hs1.le hn
  have hR1 := hR.suf hs1
  obtain ⟨N1, hN1⟩ := eqv (E.n - p1.n)
  rw [← hN1] at hR1
  apply drB hB (by kernel_rfl) TA_ok [14, 0, 8, 9] [0, 8, 9] [(3, .r fun _ => .agg [.int .i64 2, .sl none none 0 0 2 (fun _ => []), .int .i64 (-1), .int .u64 0, .int .u64 0]), (4, .x fun x => ⟨.bool (.v d1), [(0, drunL J E N1 p1.note)], []⟩)] hF rfl
  case hex => intro A X; conv => lhs; cbv
  case hD => kernel_rfl
  case hlen => rfl
  case hob =>
   intro X
   subst hB
   simp only [AO, Ob.holds, BE.den] <;> (and_intros <;> repeat first | trivial | rfl | exact enters162 | exact dinn_s | exact enters125 | exact S1.ok hm1 hN1 | refine ⟨?_, ?_⟩ | intro h)
  case hQ =>
  intro X1 a0 w1 hF
  apply test_ok hF rfl <;> intro hb hF
  ·have t1 : d1 = true := by exact hb
   apply wp_seq
   have S2 := hth 0 b J hJ E hE N1 p1 hR1 hp1 hn1 x0 hk0 (by have := hs1.le; omega)
   rcases hm2 : thwM J.bucket (J.budget - E.n) n x0 p1 with ⟨v2, p2⟩ | ⟨wq2, p2⟩
   ·have hs2 := (fro_thw _ _ _ _ _).of hm2
    have hp2 := hp1.suf hs2
    have hn2 := Nat.le_trans hs2.le hn1
    have hR2 := hR1.suf hs2
    obtain ⟨N2, hN2⟩ := eqv (E.n - p2.n)
    rw [← hN2] at hR2
    apply rgB hB TA_ok [0, 9] [0, 9] [(2, .x fun x => ⟨unitV, [(0, drunL J E N2 p2.note)], []⟩)] hF
    ·intro A X; conv => lhs; cbv
    ·intro X; subst hB; simp only [AO, Ob.holds, BE.den] <;> (and_intros <;> repeat first | trivial | rfl | exact enters80 | exact S2.ok hm2 hN2 | refine ⟨?_, ?_⟩ | intro h)
    intro X2 a0 w1 hF
    have S3 := hth 0 b J hJ E hE N2 p2 hR2 hp2 hn2 x1 hk1 (by have := hs1.le; have := hs2.le; omega)
    rcases hm3 : thwM J.bucket (J.budget - E.n) n x1 p2 with ⟨v3, p3⟩ | ⟨wq3, p3⟩
    ·have hs3 := (fro_thw _ _ _ _ _).of hm3
     have hp3 := hp2.suf hs3
     have hn3 := Nat.le_trans hs3.le hn2
     have hR3 := hR2.suf hs3
     obtain ⟨N3, hN3⟩ := eqv (E.n - p3.n)
     rw [← hN3] at hR3
     apply rgB hB TA_ok [] [0] [(2, .x fun x => ⟨unitV, [(0, drunL J E N3 p3.note)], []⟩)] hF
     ·intro A X; conv => lhs; cbv
     ·intro X; subst hB; simp only [AO, Ob.holds, BE.den] <;> (and_intros <;> repeat first | trivial | rfl | exact enters80 | exact S3.ok hm3 hN3 | refine ⟨?_, ?_⟩ | intro h)
     intro X3 a0 w1 hF
     refine (ret_go (fn := Tryz.f164) TA_ok hF (rs := []) rfl (rfl) ?_ (v := ()) (q := p3) (M := N3) (by simp [bckM, ← hx0, ← hx1, Rs.bind, hm1, t1, hm2, hm3]) hN3 ?_ ?_).2
     ·subst hB; simp [AO, Ob.holds]
     ·subst hB; exact zr
     subst hB; exact ⟨rfl, ⟨_, rfl, zl⟩, trivial⟩
    have hs3 := (fro_thw _ _ _ _ _).ofs hm3
    obtain ⟨N3, hN3⟩ := eqv (E.n - p3.n)
    obtain ⟨rr3, hrr3⟩ := eqv (wq3.r.rn)
    obtain ⟨nn3, hnn3⟩ := eqv (wq3.res.items.length)
    obtain ⟨ff3, hff3⟩ := eqv (itF wq3.res.items)
    apply rgB hB TA_ok [] [0] [(2, .x fun x => ⟨unitV, [(0, drunS J E N3 ⟨wq3.kind, wq3.lab, wq3.ver, ⟨x.A 1, x.c 1, rr3⟩, ⟨wq3.res.code, wq3.res.had, wq3.res.val, x.A 2, nn3, x.c 2, ff3, wq3.res.key, wq3.res.more⟩⟩ p3.note)], []⟩)] hF
    ·intro A X; conv => lhs; cbv
    ·intro X; subst hB; simp only [AO, Ob.holds, BE.den] <;> (and_intros <;> repeat first | trivial | rfl | exact enters80 | exact S3.stop hm3 hN3 hrr3 hnn3 hff3 | refine ⟨?_, ?_⟩ | intro h)
    intro X3 a0 w1 hF
    obtain ⟨Q3, hQ3⟩ := eqv ((wqD (X3 2) wq3 rr3 nn3 ff3))
    have hW3 : Q3 = wqA (X3 2) wq3 := by rw [hQ3, hrr3, hnn3, hff3]; rfl
    replace hF := hF.memS (cells' := drunS J E N3 Q3 p3.note) (by rw [hQ3]; exact zl)
    refine (ret_st (fn := Tryz.f164) TA_ok hF (rs := []) rfl (rfl) ?_ (q := p3) (wq := wq3) (Q := Q3) (M := N3) (X3 2) (by simp [bckM, ← hx0, ← hx1, Rs.bind, hm1, t1, hm2, hm3]) hN3 hW3 ?_ ?_).2
    ·subst hB; simp [AO, Ob.holds]
    ·subst hB; exact zr
    subst hB; exact ⟨rfl, ⟨_, rfl, zl⟩, trivial⟩
   have hs2 := (fro_thw _ _ _ _ _).ofs hm2
   obtain ⟨N2, hN2⟩ := eqv (E.n - p2.n)
   obtain ⟨rr2, hrr2⟩ := eqv (wq2.r.rn)
   obtain ⟨nn2, hnn2⟩ := eqv (wq2.res.items.length)
   obtain ⟨ff2, hff2⟩ := eqv (itF wq2.res.items)
   apply rgB hB TA_ok [0, 9] [0, 9] [(2, .x fun x => ⟨unitV, [(0, drunS J E N2 ⟨wq2.kind, wq2.lab, wq2.ver, ⟨x.A 1, x.c 1, rr2⟩, ⟨wq2.res.code, wq2.res.had, wq2.res.val, x.A 2, nn2, x.c 2, ff2, wq2.res.key, wq2.res.more⟩⟩ p2.note)], []⟩)] hF
   ·intro A X; conv => lhs; cbv
   ·intro X; subst hB; simp only [AO, Ob.holds, BE.den] <;> (and_intros <;> repeat first | trivial | rfl | exact enters80 | exact S2.stop hm2 hN2 hrr2 hnn2 hff2 | refine ⟨?_, ?_⟩ | intro h)
   intro X2 a0 w1 hF
   obtain ⟨Q2, hQ2⟩ := eqv ((wqD (X2 2) wq2 rr2 nn2 ff2))
   have hW2 : Q2 = wqA (X2 2) wq2 := by rw [hQ2, hrr2, hnn2, hff2]; rfl
   replace hF := hF.memS (cells' := drunS J E N2 Q2 p2.note) (by rw [hQ2]; exact zl)
   apply rgB hB TA_ok [] [0] [(2, .x fun _ => ⟨unitV, [(0, drunS J E N2 Q2 p2.note)], []⟩)] hF
   ·intro A X; conv => lhs; cbv
   ·intro X; subst hB; simp only [AO, Ob.holds, BE.den] <;> (and_intros <;> repeat first | trivial | rfl | exact enters80 | exact dthw_d 0 b J E hE N2 Q2 p2.note x1 hk1 | refine ⟨?_, ?_⟩ | intro h)
   intro X3 a0 w1 hF
   refine (ret_st (fn := Tryz.f164) TA_ok hF (rs := []) rfl (rfl) ?_ (q := p2) (wq := wq2) (Q := Q2) (M := N2) (X2 2) (by simp [bckM, ← hx0, ← hx1, Rs.bind, hm1, t1, hm2]) hN2 hW2 ?_ ?_).2
   ·subst hB; simp [AO, Ob.holds]
   ·subst hB; exact zr
   subst hB; exact ⟨rfl, ⟨_, rfl, zl⟩, trivial⟩
  have t1 : d1 = false := by exact hb
  refine wp_skip ?_
  refine (ret_go (fn := Tryz.f164) TA_ok hF (rs := []) rfl (rfl) ?_ (v := ()) (q := p1) (M := N1) (by simp [bckM, ← hx0, ← hx1, Rs.bind, hm1, t1]) hN1 ?_ ?_).2
  ·subst hB; simp [AO, Ob.holds]
  ·subst hB; exact zr
  subst hB; exact ⟨rfl, ⟨_, rfl, zl⟩, trivial⟩
 have hs1 := (fro_cas _ _ _ _ _).ofs hm1
 obtain ⟨N1, hN1⟩ := eqv (E.n - p1.n)
 obtain ⟨rr1, hrr1⟩ := eqv (wq1.r.rn)
 obtain ⟨nn1, hnn1⟩ := eqv (wq1.res.items.length)
 obtain ⟨ff1, hff1⟩ := eqv (itF wq1.res.items)
 apply drB hB (by kernel_rfl) TA_ok [14, 0, 8, 9] [0, 8, 9] [(3, .r fun _ => .agg [.int .i64 2, .sl none none 0 0 2 (fun _ => []), .int .i64 (-1), .int .u64 0, .int .u64 0]), (4, .x fun x => ⟨.bool .ff, [(0, drunS J E N1 ⟨wq1.kind, wq1.lab, wq1.ver, ⟨x.A 1, x.c 1, rr1⟩, ⟨wq1.res.code, wq1.res.had, wq1.res.val, x.A 2, nn1, x.c 2, ff1, wq1.res.key, wq1.res.more⟩⟩ p1.note)], []⟩)] hF rfl
 case hex => intro A X; conv => lhs; cbv
 case hD => kernel_rfl
 case hlen => rfl
 case hob =>
  intro X
  subst hB
  simp only [AO, Ob.holds, BE.den] <;> (and_intros <;> repeat first | trivial | rfl | exact enters162 | exact dinn_s | exact enters125 | exact S1.stop hm1 hN1 hrr1 hnn1 hff1 | refine ⟨?_, ?_⟩ | intro h)
 case hQ =>
 intro X1 a0 w1 hF
 obtain ⟨Q1, hQ1⟩ := eqv ((wqD (X1 4) wq1 rr1 nn1 ff1))
 have hW1 : Q1 = wqA (X1 4) wq1 := by rw [hQ1, hrr1, hnn1, hff1]; rfl
 replace hF := hF.memS (cells' := drunS J E N1 Q1 p1.note) (by rw [hQ1]; exact zl)
 refine test_ff hF rfl (fun hF => ?_)
 refine wp_skip ?_
 refine (ret_st (fn := Tryz.f164) TA_ok hF (rs := []) rfl (rfl) ?_ (q := p1) (wq := wq1) (Q := Q1) (M := N1) (X1 4) (by simp [bckM, ← hx0, ← hx1, Rs.bind, hm1]) hN1 hW1 ?_ ?_).2
 ·subst hB; simp [AO, Ob.holds]
 ·subst hB; exact zr
 subst hB; exact ⟨rfl, ⟨_, rfl, zl⟩, trivial⟩
theorem dbck_m (k0 b : Nat) (J : JobA) (hJ : JobOk J) (E : EnvA) (hE : E.n ≤ 1000000) (N : Nat) (p : Pst) (hR : Rel E N p) (hp : PstOk p) (hn : p.n ≤ 1000000) (l : Lab) (hl : LOk l) (v : Int) (x0 x1 : Lab) (hx0 : x0 = chV l 0) (hx1 : x1 = chV l 1) (n : Nat) (hth : DThC n) (hf : p.n < n) : DocS 164 k0 b J E N p [labAV l, .int .u64 v, labAV x0, labAV x1] (fun _ => unitV) (unitV) (bckM (J.budget - E.n) (thwM J.bucket (J.budget - E.n) n) l v p) := DocS.re (dbck_m0 b J hJ E hE N p hR hp hn l hl v x0 x1 hx0 hx1 n hth hf) (by repeat (first | exact trivial | refine ⟨zr, ?_⟩))
end Go.Proofs.YtikkeibmjppboaaGreat.Sym
