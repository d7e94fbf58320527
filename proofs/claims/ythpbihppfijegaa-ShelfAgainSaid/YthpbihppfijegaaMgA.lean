/-
  OpenS23: put together by a program of mine (a claim may have 60 files at most). Conditions: none.
-/
import Derived.Test.YthpbihppfijegaaChecked
import Derived.Test.YthpbihppfijegaaMgA1
import Derived.Test.YthpbihppfijegaaMgA2
import Derived.Test.YthpbihppfijegaaMgA3
import Derived.Test.YthpbihppfijegaaMgA4
namespace Go.Proofs.Ythpbihppfijegaa.Sym
open Go Go.ChangeShapes Go.WideShapes Go.ChangeAt Go.RowKit Go.Deep
set_option linter.unusedVariables false
set_option linter.unusedSimpArgs false
set_option maxRecDepth 100000

abbrev m0 : Nat → Nat → Prop := fun _ _ => False
theorem u64_wf {n : Int} (h : (Lit.int .u64 n).wf = true) : U64 n := by
  simp [Lit.wf, IntKind.min, IntKind.max, IntKind.signed, IntKind.bits] at h
  exact ⟨by omega, by omega⟩
def OkL (w : World) (l : List AV) : Prop := ∀ v ∈ l, v.one = true ∧ Ok m0 w v
theorem OkL.nil {w : World} : OkL w [] := fun v hv => by cases hv
theorem OkL.cons {w : World} {v : AV} {l : List AV} (h1 : v.one = true) (h2 : Ok m0 w v) (h : OkL w l) : OkL w (v :: l) := by
  intro u hu
  rcases List.mem_cons.1 hu with rfl | hu
  · exact ⟨h1, h2⟩
  · exact h u hu
theorem OkL.int {w : World} {k : IntKind} {x : Int} {l : List AV} (h : OkL w l) : OkL w (.int k x :: l) := .cons rfl (.int _ _) h
theorem OkL.bool {w : World} {b : BE} {l : List AV} (h : OkL w l) : OkL w (.bool b :: l) := .cons rfl (.bool _) h
theorem OkL.append {w : World} {l l' : List AV} (h : OkL w l) (h' : OkL w l') : OkL w (l ++ l') := by
  intro u hu
  rcases List.mem_append.1 hu with hu | hu
  · exact h u hu
  · exact h' u hu
theorem OkL.agg {w : World} {l : List AV} (h : OkL w l) : Ok m0 w (.agg l) := .agg _ (fun v hv => (h v hv).1) fun v hv => (h v hv).2
def RowWf (w : World) (x : RowA) : Prop := OkL w (rowC x) ∧ x.x.r.n ≤ maxLen ∧ LabOk x.lab ∧ LabOk x.x.r.nx
def WntWf (w : World) (x : WntA) : Prop := OkL w (wntC x) ∧ x.x.r.n ≤ maxLen ∧ LabOk x.lab ∧ LabOk x.x.r.nx
theorem LabOk.u64 {l : Lab} (h : LabOk l) : U64 l.bits := u64_wf h.2
theorem rows_okg {α : Type} [Inhabited α] {k : Nat} {cells : α → List AV} {w : World} {A : Option Addr} {c : Nat} {l : List α} (hk : ∀ x, (cells x).length = k) (hl : l.length ≤ c) (hc : c ≤ maxLen) (ho : ∀ x ∈ l, OkL w (cells x))
    (h : 0 < (l.flatMap fun x => (cells x).map AV.den).length → ∃ b off, A = some ⟨b, off, none⟩ ∧ ∀ j u, (l.flatMap fun x => (cells x).map AV.den)[j]? = some u → w.cell? ⟨b, off + j, none⟩ = some u) (hk0 : 0 < k) : Ok m0 w (.sl none A l.length c k (fun i => cells (l.getD i default))) := by
  have hg : ∀ i (hi : i < l.length), l.getD i default = l[i] := fun i hi => by simp [List.getD, hi]
  have hkm : ∀ x, ((cells x).map AV.den).length = k := fun x => by rw [List.length_map, hk]
  have hpos : ∀ i, i < l.length → 0 < (l.flatMap fun x => (cells x).map AV.den).length := fun i hi => by rw [flat_length hkm]; exact Nat.mul_pos (by omega) hk0
  refine .sl _ _ _ _ _ _ hl hc (fun i _ => hk _) (fun i hi => ?_) (fun i hi j u hu => ?_) (fun i hi v hv => ?_) (fun i hi v hv => ?_)
  · obtain ⟨b, off, hA, _⟩ := h (hpos i hi); exact ⟨b, off, hA⟩
  · obtain ⟨b, off, hA, hcl⟩ := h (hpos i hi)
    rw [hg i hi] at hu
    exact ⟨b, off, hA, hcl _ u (flat_get hkm (List.getElem?_eq_getElem hi) hu), id⟩
  · rw [hg i hi] at hv; exact (ho _ (List.getElem_mem hi) v hv).1
  · rw [hg i hi] at hv; exact (ho _ (List.getElem_mem hi) v hv).2
section
variable {H : Type} {enc : TypeId × Value → H} {w : World} {base : Nat} {spare : Nat → Bool} {held : Bool}
theorem dec_itm (n : Nat) (cs : List Value) (y : DataW H × List MemPlace) (h : DataW.trod enc Try.prog w base spare held n 87 cs = some y) : ∃ x : Itm, cs = itmE x ∧ (x.val.size ≤ maxLen ∧ U64 x.key) := by
  obtain ⟨xs, m, rfl, rfl, hlen, hxl, hf⟩ := DataW.trod_struct Try.underlying87 h
  have hC : Try.prog.cellsOf 87 = 2 := by kernel_rfl
  have h0 : DataW.trod enc Try.prog w base spare held m 33 ((cs.drop 0).take (Try.prog.cellsOf 33)) = xs[0]? := hf 0 _ rfl
  have h1 : DataW.trod enc Try.prog w base spare held m 9 ((cs.drop 1).take (Try.prog.cellsOf 9)) = xs[1]? := hf 1 _ rfl
  rw [hC] at hlen
  rw [show Try.prog.cellsOf 33 = 1 by kernel_rfl] at h0
  rw [show Try.prog.cellsOf 9 = 1 by kernel_rfl] at h1
  match cs, hlen with
  | [c0, c1], _ =>
    match xs, hxl with
    | [y0, y1], _ =>
      obtain ⟨a, e0, _, wa⟩ := DataW.trod_int Try.underlying33 h0
      obtain ⟨s, e1, _, ws⟩ := DataW.trod_string Try.underlying9 h1
      simp at e0 e1
      subst e0; subst e1
      exact ⟨⟨a, s⟩, rfl, ws, u64_wf wa⟩
theorem dec_labk (n : Nat) (cs : List Value) (y : DataW H × List MemPlace) (h : DataW.trod enc Try.prog w base spare held n 36 cs = some y) : ∃ x : Lab, cs = [.int .i64 x.len, .int .u64 x.bits] ∧ LabOk x := by
  obtain ⟨xs, m, rfl, rfl, hlen, hxl, hf⟩ := DataW.trod_struct Try.underlying36 h
  have hC : Try.prog.cellsOf 36 = 2 := by kernel_rfl
  have h0 : DataW.trod enc Try.prog w base spare held m 3 ((cs.drop 0).take (Try.prog.cellsOf 3)) = xs[0]? := hf 0 _ rfl
  have h1 : DataW.trod enc Try.prog w base spare held m 33 ((cs.drop 1).take (Try.prog.cellsOf 33)) = xs[1]? := hf 1 _ rfl
  rw [hC] at hlen
  rw [show Try.prog.cellsOf 3 = 1 by kernel_rfl] at h0
  rw [show Try.prog.cellsOf 33 = 1 by kernel_rfl] at h1
  match cs, hlen with
  | [c0, c1], _ =>
    match xs, hxl with
    | [y0, y1], _ =>
      obtain ⟨a, e0, _, wa⟩ := DataW.trod_int Try.underlying3 h0
      obtain ⟨b, e1, _, wb⟩ := DataW.trod_int Try.underlying33 h1
      simp at e0 e1
      subst e0; subst e1
      exact ⟨⟨a, b⟩, rfl, wa, wb⟩
theorem dec_its (n : Nat) (cs : List Value) (y : DataW H × List MemPlace) (h : DataW.trod enc Try.prog w base spare held n 34 cs = some y) : ∃ (A : Option Addr) (c k : Nat) (f : Nat → Itm), cs = [(AV.sl none A k c 2 (fun i => itC (f i))).den] ∧ Ok m0 w (.sl none A k c 2 (fun i => itC (f i))) ∧ k ≤ maxLen := by
  obtain ⟨A, c, l, e1, hr, hl, hm, hwf⟩ := trod_list (en := itmE) Try.underlying34 (k := 2) (by kernel_rfl) itmE_len (by decide) dec_itm h
  have hrow : Ok m0 w (rowI A l.length c (itF l)) := rows_ok hl hm (fun x hx => (hwf x hx).1) fun hp => by
    obtain ⟨b, off, hA, _, hc⟩ := hr hp
    exact ⟨b, off, hA, fun j u hu => ⟨hc j u hu, id⟩⟩
  exact ⟨A, c, l.length, itF l, e1, hrow, by omega⟩
theorem dec_recx (n : Nat) (cs : List Value) (y : DataW H × List MemPlace) (h : DataW.trod enc Try.prog w base spare held n 38 cs = some y) : ∃ x : RA, cs = (recC x).map AV.den ∧ OkL w (recC x) ∧ x.r.n ≤ maxLen ∧ LabOk x.r.nx := by
  obtain ⟨xs, m, rfl, rfl, hlen, hxl, hf⟩ := DataW.trod_struct Try.underlying38 h
  have hC : Try.prog.cellsOf 38 = 5 := by kernel_rfl
  have h0 : DataW.trod enc Try.prog w base spare held m 3 ((cs.drop 0).take (Try.prog.cellsOf 3)) = xs[0]? := hf 0 _ rfl
  have h1 : DataW.trod enc Try.prog w base spare held m 34 ((cs.drop 1).take (Try.prog.cellsOf 34)) = xs[1]? := hf 1 _ rfl
  have h2 : DataW.trod enc Try.prog w base spare held m 36 ((cs.drop 2).take (Try.prog.cellsOf 36)) = xs[2]? := hf 2 _ rfl
  have h3 : DataW.trod enc Try.prog w base spare held m 33 ((cs.drop 4).take (Try.prog.cellsOf 33)) = xs[3]? := hf 3 _ rfl
  rw [hC] at hlen
  rw [show Try.prog.cellsOf 3 = 1 by kernel_rfl] at h0
  rw [show Try.prog.cellsOf 34 = 1 by kernel_rfl] at h1
  rw [show Try.prog.cellsOf 36 = 2 by kernel_rfl] at h2
  rw [show Try.prog.cellsOf 33 = 1 by kernel_rfl] at h3
  match cs, hlen with
  | [c0, c1, c2, c3, c4], _ =>
    match xs, hxl with
    | [y0, y1, y2, y3], _ =>
      obtain ⟨kd, e0, _, _⟩ := DataW.trod_int Try.underlying3 h0
      obtain ⟨A, c, k, f, e1, hrow, hk⟩ := dec_its _ _ _ h1
      obtain ⟨nx, e2, hb⟩ := dec_labk _ _ _ h2
      obtain ⟨mk, e3, _, wm⟩ := DataW.trod_int Try.underlying33 h3
      simp only [List.drop_zero, List.drop_succ_cons, List.take_succ_cons, List.take_zero, List.cons.injEq, and_true] at e0 e1 e2 e3
      obtain ⟨e2, e4⟩ := e2
      subst e0; subst e1; subst e2; subst e3; subst e4
      exact ⟨⟨A, c, ⟨k, f, kd, nx, mk⟩⟩, rfl, .int (.cons rfl hrow (.int (.int (.int .nil)))), hk, hb⟩
theorem dec_row (n : Nat) (cs : List Value) (y : DataW H × List MemPlace) (h : DataW.trod enc Try.prog w base spare held n 61 cs = some y) : ∃ x : RowA, cs = (rowC x).map AV.den ∧ RowWf w x := by
  obtain ⟨xs, m, rfl, rfl, hlen, hxl, hf⟩ := DataW.trod_struct Try.underlying61 h
  have hC : Try.prog.cellsOf 61 = 8 := by kernel_rfl
  have h0 : DataW.trod enc Try.prog w base spare held m 36 ((cs.drop 0).take (Try.prog.cellsOf 36)) = xs[0]? := hf 0 _ rfl
  have h1 : DataW.trod enc Try.prog w base spare held m 33 ((cs.drop 2).take (Try.prog.cellsOf 33)) = xs[1]? := hf 1 _ rfl
  have h2 : DataW.trod enc Try.prog w base spare held m 38 ((cs.drop 3).take (Try.prog.cellsOf 38)) = xs[2]? := hf 2 _ rfl
  rw [hC] at hlen
  rw [show Try.prog.cellsOf 36 = 2 by kernel_rfl] at h0
  rw [show Try.prog.cellsOf 33 = 1 by kernel_rfl] at h1
  rw [show Try.prog.cellsOf 38 = 5 by kernel_rfl] at h2
  match cs, hlen with
  | [c0, c1, c2, c3, c4, c5, c6, c7], _ =>
    match xs, hxl with
    | [y0, y1, y2], _ =>
      obtain ⟨l, e0, hl⟩ := dec_labk _ _ _ h0
      obtain ⟨v, e1, _, wv⟩ := DataW.trod_int Try.underlying33 h1
      obtain ⟨x, e2, hx, hn, hnx⟩ := dec_recx _ _ _ h2
      simp only [List.drop_zero, List.drop_succ_cons, List.take_succ_cons, List.take_zero, List.cons.injEq, and_true, recC, List.map_cons, List.map_nil] at e0 e1 e2
      obtain ⟨e0, e3⟩ := e0
      obtain ⟨e4, e5, e6, e7, e8⟩ := e2
      subst e0; subst e1; subst e3; subst e4; subst e5; subst e6; subst e7; subst e8
      exact ⟨⟨l, v, x⟩, rfl, .int (.int (.int hx)), hn, hl, hnx⟩
abbrev resC (s : ResA) : List AV := [.int .i64 s.code, .bool (.v s.had), .str s.val, .sl none s.A s.n s.c 2 (fun i => itC (s.f i)), .int .u64 s.key, .bool (.v s.more)]
theorem dec_res (n : Nat) (cs : List Value) (y : DataW H × List MemPlace) (h : DataW.trod enc Try.prog w base spare held n 44 cs = some y) : ∃ x : ResA, cs = (resC x).map AV.den ∧ OkL w (resC x) := by
  obtain ⟨xs, m, rfl, rfl, hlen, hxl, hf⟩ := DataW.trod_struct Try.underlying44 h
  have hC : Try.prog.cellsOf 44 = 6 := by kernel_rfl
  have h0 : DataW.trod enc Try.prog w base spare held m 27 ((cs.drop 0).take (Try.prog.cellsOf 27)) = xs[0]? := hf 0 _ rfl
  have h1 : DataW.trod enc Try.prog w base spare held m 4 ((cs.drop 1).take (Try.prog.cellsOf 4)) = xs[1]? := hf 1 _ rfl
  have h2 : DataW.trod enc Try.prog w base spare held m 9 ((cs.drop 2).take (Try.prog.cellsOf 9)) = xs[2]? := hf 2 _ rfl
  have h3 : DataW.trod enc Try.prog w base spare held m 34 ((cs.drop 3).take (Try.prog.cellsOf 34)) = xs[3]? := hf 3 _ rfl
  have h4 : DataW.trod enc Try.prog w base spare held m 33 ((cs.drop 4).take (Try.prog.cellsOf 33)) = xs[4]? := hf 4 _ rfl
  have h5 : DataW.trod enc Try.prog w base spare held m 4 ((cs.drop 5).take (Try.prog.cellsOf 4)) = xs[5]? := hf 5 _ rfl
  rw [hC] at hlen
  rw [show Try.prog.cellsOf 27 = 1 by kernel_rfl] at h0
  rw [show Try.prog.cellsOf 4 = 1 by kernel_rfl] at h1 h5
  rw [show Try.prog.cellsOf 9 = 1 by kernel_rfl] at h2
  rw [show Try.prog.cellsOf 34 = 1 by kernel_rfl] at h3
  rw [show Try.prog.cellsOf 33 = 1 by kernel_rfl] at h4
  match cs, hlen with
  | [c0, c1, c2, c3, c4, c5], _ =>
    match xs, hxl with
    | [y0, y1, y2, y3, y4, y5], _ =>
      obtain ⟨a, e0, _, _⟩ := DataW.trod_int Try.underlying27 h0
      obtain ⟨b, e1, _⟩ := DataW.trod_bool Try.underlying4 h1
      obtain ⟨s, e2, _, ws⟩ := DataW.trod_string Try.underlying9 h2
      obtain ⟨A, c, k, f, e3, hrow, hk⟩ := dec_its _ _ _ h3
      obtain ⟨kk, e4, _, _⟩ := DataW.trod_int Try.underlying33 h4
      obtain ⟨mo, e5, _⟩ := DataW.trod_bool Try.underlying4 h5
      simp only [List.drop_zero, List.drop_succ_cons, List.take_succ_cons, List.take_zero, List.cons.injEq, and_true] at e0 e1 e2 e3 e4 e5
      subst e0; subst e1; subst e2; subst e3; subst e4; subst e5
      exact ⟨⟨a, b, s, A, k, c, f, kk, mo⟩, rfl, .int (.bool (.cons rfl (.str _ ws) (.cons rfl hrow (.int (.bool .nil)))))⟩
theorem dec_wnt (n : Nat) (cs : List Value) (y : DataW H × List MemPlace) (h : DataW.trod enc Try.prog w base spare held n 46 cs = some y) : ∃ x : WntA, cs = (wntC x).map AV.den ∧ WntWf w x := by
  obtain ⟨xs, m, rfl, rfl, hlen, hxl, hf⟩ := DataW.trod_struct Try.underlying46 h
  have hC : Try.prog.cellsOf 46 = 15 := by kernel_rfl
  have h0 : DataW.trod enc Try.prog w base spare held m 3 ((cs.drop 0).take (Try.prog.cellsOf 3)) = xs[0]? := hf 0 _ rfl
  have h1 : DataW.trod enc Try.prog w base spare held m 36 ((cs.drop 1).take (Try.prog.cellsOf 36)) = xs[1]? := hf 1 _ rfl
  have h2 : DataW.trod enc Try.prog w base spare held m 33 ((cs.drop 3).take (Try.prog.cellsOf 33)) = xs[2]? := hf 2 _ rfl
  have h3 : DataW.trod enc Try.prog w base spare held m 38 ((cs.drop 4).take (Try.prog.cellsOf 38)) = xs[3]? := hf 3 _ rfl
  have h4 : DataW.trod enc Try.prog w base spare held m 44 ((cs.drop 9).take (Try.prog.cellsOf 44)) = xs[4]? := hf 4 _ rfl
  rw [hC] at hlen
  rw [show Try.prog.cellsOf 3 = 1 by kernel_rfl] at h0
  rw [show Try.prog.cellsOf 36 = 2 by kernel_rfl] at h1
  rw [show Try.prog.cellsOf 33 = 1 by kernel_rfl] at h2
  rw [show Try.prog.cellsOf 38 = 5 by kernel_rfl] at h3
  rw [show Try.prog.cellsOf 44 = 6 by kernel_rfl] at h4
  match cs, hlen with
  | [c0, c1, c2, c3, c4, c5, c6, c7, c8, c9, c10, c11, c12, c13, c14], _ =>
    match xs, hxl with
    | [y0, y1, y2, y3, y4], _ =>
      obtain ⟨k, e0, _, _⟩ := DataW.trod_int Try.underlying3 h0
      obtain ⟨l, e1, hl⟩ := dec_labk _ _ _ h1
      obtain ⟨v, e2, _, wv⟩ := DataW.trod_int Try.underlying33 h2
      obtain ⟨x, e3, hx, hn, hnx⟩ := dec_recx _ _ _ h3
      obtain ⟨s, e4, hs⟩ := dec_res _ _ _ h4
      simp only [List.drop_zero, List.drop_succ_cons, List.take_succ_cons, List.take_zero, List.cons.injEq, and_true, recC, resC, List.map_cons, List.map_nil] at e0 e1 e2 e3 e4
      obtain ⟨e1, e5⟩ := e1
      obtain ⟨e6, e7, e8, e9, e10⟩ := e3
      obtain ⟨e11, e12, e13, e14, e15, e16⟩ := e4
      subst e0; subst e1; subst e2; subst e5; subst e6; subst e7; subst e8; subst e9; subst e10; subst e11; subst e12; subst e13; subst e14; subst e15; subst e16
      exact ⟨⟨k, l, v, x, s⟩, rfl, .int (.int (.int (.int (hx.append hs)))), hn, hl, hnx⟩
variable {r : Reach} {b0 : Nat} {v : Value} {d : DataW H} {p : List MemPlace}
def InRow (w : World) (v : Value) : Prop := ∃ (A : Option Addr) (n c : Nat) (f : Nat → RowA), v = (rowsV A n c f).den ∧ Ok m0 w (rowsV A n c f) ∧ n ≤ maxLen ∧ ∀ i, i < n → RowWf w (f i)
def InWnts (w : World) (v : Value) : Prop := ∃ (A : Option Addr) (n c : Nat) (f : Nat → WntA), v = (wntsV A n c f).den ∧ Ok m0 w (wntsV A n c f) ∧ n ≤ maxLen ∧ ∀ i, i < n → WntWf w (f i)
def InWnt (w : World) (v : Value) : Prop := ∃ x : WntA, v = (wntV x).den ∧ Ok m0 w (wntV x) ∧ WntWf w x
def InRc (w : World) (v : Value) : Prop := ∃ x : RA, v = (recV x).den ∧ Ok m0 w (recV x) ∧ x.r.n ≤ maxLen ∧ LabOk x.r.nx
def InLb (w : World) (v : Value) : Prop := ∃ l : Lab, v = (labAV l).den ∧ Ok m0 w (labAV l) ∧ LabOk l
instance : Inhabited WntA := ⟨⟨0, ⟨0, 0⟩, 0, zRA, ⟨0, false, .empty, none, 0, 0, fun _ => zeroItm, 0, false⟩⟩⟩
theorem in_rows (hv : Value.okWide Try.prog w r b0 22 v) (h : DataW.Trod enc Try.prog w base spare held 22 v d p) : InRow w v := by
  obtain ⟨a, len, cap, rfl⟩ := okWide_slice Try.underlying22 hv
  obtain ⟨fuel, hf⟩ := h
  obtain ⟨A, c, l, e1, hr, hl, hm, hwf⟩ := trod_list (en := fun x => (rowC x).map AV.den) (wf := RowWf w) Try.underlying22 (k := 8) (by kernel_rfl) (fun _ => rfl) (by decide) dec_row hf
  simp only [Value.cells, List.cons.injEq, and_true] at e1
  rw [e1]
  refine ⟨A, l.length, c, fun i => l.getD i default, rfl, rows_okg (fun _ => rfl) hl hm (fun x hx => (hwf x hx).1) (fun hp => ?_) (by decide), by omega, fun i hi => ?_⟩
  · obtain ⟨b, off, hA, _, hc⟩ := hr hp
    exact ⟨b, off, hA, fun j u hu => hc j u hu⟩
  · have : l.getD i default = l[i] := by simp [List.getD, hi]
    simp only [this]; exact hwf _ (List.getElem_mem hi)
theorem in_wnts (hv : Value.okWide Try.prog w r b0 23 v) (h : DataW.Trod enc Try.prog w base spare held 23 v d p) : InWnts w v := by
  obtain ⟨a, len, cap, rfl⟩ := okWide_slice Try.underlying23 hv
  obtain ⟨fuel, hf⟩ := h
  obtain ⟨A, c, l, e1, hr, hl, hm, hwf⟩ := trod_list (en := fun x => (wntC x).map AV.den) (wf := WntWf w) Try.underlying23 (k := 15) (by kernel_rfl) (fun _ => rfl) (by decide) dec_wnt hf
  simp only [Value.cells, List.cons.injEq, and_true] at e1
  rw [e1]
  refine ⟨A, l.length, c, fun i => l.getD i default, rfl, rows_okg (fun _ => rfl) hl hm (fun x hx => (hwf x hx).1) (fun hp => ?_) (by decide), by omega, fun i hi => ?_⟩
  · obtain ⟨b, off, hA, _, hc⟩ := hr hp
    exact ⟨b, off, hA, fun j u hu => hc j u hu⟩
  · have : l.getD i default = l[i] := by simp [List.getD, hi]
    simp only [this]; exact hwf _ (List.getElem_mem hi)
theorem in_wnt (hv : Value.okWide Try.prog w r b0 46 v) (h : DataW.Trod enc Try.prog w base spare held 46 v d p) : InWnt w v := by
  obtain ⟨cs, rfl, _⟩ := okWide_struct Try.underlying46 hv
  obtain ⟨fuel, hf⟩ := h
  obtain ⟨x, hx, hw⟩ := dec_wnt _ _ _ hf
  simp only [Value.cells] at hx
  obtain ⟨l, rfl⟩ : ∃ l : List Value, cs = l.toArray := ⟨cs.toList, by simp⟩
  simp only [List.toList_toArray] at hx
  subst hx
  exact ⟨x, by simp [AV.den, AV.denL], hw.1.agg, hw⟩
theorem in_rc (hv : Value.okWide Try.prog w r b0 38 v) (h : DataW.Trod enc Try.prog w base spare held 38 v d p) : InRc w v := by
  obtain ⟨cs, rfl, _⟩ := okWide_struct Try.underlying38 hv
  obtain ⟨fuel, hf⟩ := h
  obtain ⟨x, hx, hw, hn, hl⟩ := dec_recx _ _ _ hf
  simp only [Value.cells] at hx
  obtain ⟨l, rfl⟩ : ∃ l : List Value, cs = l.toArray := ⟨cs.toList, by simp⟩
  simp only [List.toList_toArray] at hx
  subst hx
  exact ⟨x, by simp [AV.den, AV.denL], hw.agg, hn, hl⟩
theorem in_lb (hv : Value.okWide Try.prog w r b0 36 v) (h : DataW.Trod enc Try.prog w base spare held 36 v d p) : InLb w v := by
  obtain ⟨cs, rfl, _⟩ := okWide_struct Try.underlying36 hv
  obtain ⟨fuel, hf⟩ := h
  obtain ⟨x, hx, hw⟩ := dec_labk _ _ _ hf
  simp only [Value.cells] at hx
  obtain ⟨l, rfl⟩ : ∃ l : List Value, cs = l.toArray := ⟨cs.toList, by simp⟩
  simp only [List.toList_toArray] at hx
  subst hx
  exact ⟨x, by simp [labAV, AV.den, AV.denL], lab_ok' _ _, hw⟩
end
end Go.Proofs.Ythpbihppfijegaa.Sym
