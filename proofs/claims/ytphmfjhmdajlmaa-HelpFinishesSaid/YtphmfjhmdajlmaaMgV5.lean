/-
  SymRun25, PlTree, PlDir, PlEnds, PlFin, PlFinish, SymL25G, WalkHelpFinishes: put together by a program of mine (a claim may have 60 files at most). Conditions: none.
-/
import Derived.WalkKit
import Derived.WalkLawsBesides
import Derived.WalkSpells
import Derived.Lib.Hide
import Derived.Deep.QuietTactic
import Derived.BigQuiet
import Derived.Deep.LoopGhost
import Derived.Deep.DeepCutAuto
import Derived.Deep.RegionLaw
import Derived.Lib.Overlaps
import Derived.Laws.CopyOwn
import Derived.IntWalk
import Derived.ProofKit
import Derived.OpenShut
import Derived.ShutString
import Derived.ChangeOld
import Derived.Deep.Slices
import Derived.Test.YtphmfjhmdajlmaaProg
import Derived.Orders
import Derived.OrdersHeld
import Derived.Defers
import Derived.Recover
import Derived.Lib.BitFns
import Derived.ChangeKeysEq
import Derived.Test.YtphmfjhmdajlmaaChecked
import Derived.Lib.BufferWrite
import Derived.Maps.OwnSet
import Derived.Maps.RangeWalk
import Derived.Maps.Ext
import Derived.DeepKeys4
import Derived.LoopN
import Derived.Shelf.SlSortCmp.WholeK
import Derived.Shelf.SlSortCmp.NoneTotal
import Derived.Deep.RegionHeld3
import Derived.Ground.SlsfProg
import Derived.Shelf.SlGeneric
import Derived.Test.YtphmfjhmdajlmaaMgV1
import Derived.Test.YtphmfjhmdajlmaaMgV2
import Derived.Test.YtphmfjhmdajlmaaMgV3
import Derived.Test.YtphmfjhmdajlmaaMgV4
set_option linter.unusedVariables false
set_option linter.unusedSimpArgs false
set_option maxRecDepth 100000
set_option maxHeartbeats 1600000
namespace Go.Proofs.Ytphmfjhmdajlmaa.Sym
open Go Go.RowKit
theorem run25_m0 (b bM : Nat) (J : JobA) (hJ : JobIn J) (L : Shf) (hL : ShfG L) (k : Int) : SpecM Try.prog 12 [.ptr 0 b 0, jobV J] [(0, ⟨b, 78, [.raw (.map (some bM)), .int .i64 k]⟩)] (some bM) (shK bM L) (fun y => ⟨.tup [rslV y (runQ (helpN J) 3000 2001 [] L k).res, .bool (.v (decide ((runQ (helpN J) 3000 2001 [] L k).st = 2)))], [(0, [.raw (.map (some bM)), .int .i64 (runQ (helpN J) 3000 2001 [] L k).k])], []⟩) (fun _ _ => shK bM (runQ (helpN J) 3000 2001 [] L k).L) := by
 intro m w hm hargs hpre hI
 have hmx : maxLen = 9223372036854775807 := rfl
 have hmp := shK_map hI
 have hNx : NxOk (helpN J) := help_ok hJ
 obtain ⟨RQ, hRQ⟩ := eqv (runQ (helpN J) 3000 2001 [] L k)
 rw [← hRQ] at ⊢
 refine enM (bo := some bM) 44 hm hpre hI hargs Try.func12 fun B hB a0 hF => ?_
 refine wp_seq (rg hB TA_ok [0, 3, 4] [0, 3, 4] [] hF fun X0 a0 w1 hF => ?_)
 refine wp_seq (rg hB TA_ok [0, 3, 4, 6] [0, 3, 4, 6, 42] [] hF fun X1 a0 w1 hF => ?_)
 refine wp_seq (wp_seq (rg hB TA_ok [6, 7, 0, 3, 4] [0, 3, 4, 6, 42] [] hF fun X2 a0 w1 hF => ?_))
 replace hF := hF.headS (v' := .sl (some 6) none 0 0 8 (fun t => gotC (gotOf zeroGot))) (zq0) rfl
 refine wp_block (loop_preK (ι := Nat × (Nat → GotA) × Option Addr × Nat × Shf × Int × List Got) (fun q => shK bM q.2.2.2.2.1) (fun q => [(6, .sl (some 6) q.2.2.1 q.1 q.2.2.2.1 8 (fun t => gotC (q.2.1 t))), (7, .int .i64 (q.1 : Int))]) (fun q => [(0, ⟨b, 78, [.raw (.map (some bM)), .int .i64 q.2.2.2.2.2.1]⟩)]) (fun q => [(6, ⟨q.2.2.1, q.1, q.2.2.2.1, 8, 37⟩)]) (fun q => q.1 ≤ 2001 ∧ ShfG q.2.2.2.2.1 ∧ (∀ j, j < q.1 → InG (q.2.1 j)) ∧ q.2.2.2.2.2.2.length = q.1 ∧ Lies q.2.2.2.2.2.2 q.2.1 ∧ RQ = runQ (helpN J) 3000 (2001 - q.1) q.2.2.2.2.2.2 q.2.2.2.2.1 q.2.2.2.2.2.1) (fun q => 2001 - q.1) (0, fun _ => gotOf zeroGot, none, 0, L, k, []) ⟨Nat.zero_le _, hL, fun j hj => absurd hj (Nat.not_lt_zero _), rfl, Lies.nil, hRQ⟩ hF ?_)
 rintro ⟨i, fz, A1, c1, Lc, kc, gs⟩ ⟨hi, hg, hal, hgl, hlie, hrun⟩ a0 w1 hF
 try dsimp only at hi
 try dsimp only at hg
 try dsimp only at hal
 try dsimp only at hgl
 try dsimp only at hlie
 try dsimp only at hrun
 replace hF := hF.withK (K' := shK bM Lc) hF.kept
 refine wp_seq (wp_seq (rg hB TA_ok [13, 0, 3, 4, 6, 7] [0, 3, 4, 6, 42] [] hF fun X3 a0 w1 hF => ?_))
 apply test_ok hF rfl <;> intro hb hF
 ·have hi0 : i < 2001 := by
   have : (i : Int) ≤ 2000 := by subst hB; simpa [std, sC] using hb
   omega
  obtain ⟨m0, hm0⟩ : ∃ m, 2001 - i = m + 1 := ⟨2000 - i, by omega⟩
  rw [hm0] at hrun
  have hwo := hNx.ok i fz hal
  obtain ⟨W9, hW9⟩ := eqv ((helpN J i fz).1)
  obtain ⟨E9, hE9⟩ := eqv ((helpN J i fz).2)
  obtain ⟨rr9, hrr9⟩ := eqv (W9.r.rn)
  obtain ⟨nn9, hnn9⟩ := eqv (W9.res.items.length)
  obtain ⟨ff9, hff9⟩ := eqv (itF W9.res.items)
  have T9 := Spec.wq (hnext_s J hJ A1 i c1 fz (by omega) hal) hW9 hE9 hrr9 hnn9 hff9
  rw [← hW9] at hwo
  have S9 : Spec Try.prog 17 [jobV J, .sl (some 6) A1 i c1 8 (fun t => gotC (fz t))] (fun x => .tup [wntV (wqB x W9 rr9 nn9 ff9), .int .i64 E9]) := T9.sim ⟨zr, Sim.recell (fun _ _ => rfl), trivial⟩
  have hq9 : helpN J gs.length (ansF gs) = (W9, E9) := by
   rw [← hlie.next hNx.er, hgl, hW9, hE9]
  have O1 := S9
  refine wp_skip (wp_seq (wp_block (wp_seq (rg hB TA_ok [0, 3, 4, 6, 7, 8, 9] [0, 3, 4, 6, 8, 42] [(2, .r fun x => .tup [.agg [.int .i64 W9.kind, .int .i64 W9.lab.len, .int .u64 W9.lab.bits, .int .u64 W9.ver, .int .i64 rr9.kd, .sl none (x.A 1) rr9.n (x.c 1) 2 (fun i => itC (rr9.f i)), .int .i64 rr9.nx.len, .int .u64 rr9.nx.bits, .int .u64 rr9.mrk, .int .i64 W9.res.code, .bool (.v W9.res.had), .str W9.res.val, .sl none (x.A 2) nn9 (x.c 2) 2 (fun i => itC (ff9 i)), .int .u64 W9.res.key, .bool (.v W9.res.more)], .int .i64 E9])] hF fun X5 a0 w1 hF => ?_))))
  refine wp_seq (wp_seq (rg hB TA_ok [23, 0, 3, 4, 6, 7, 8] [0, 3, 4, 6, 8, 42] [] hF fun X6 a0 w1 hF => ?_))
  apply test_ok hF rfl <;> intro hb hF
  ·have he : E9 ≠ 0 := by subst hB; simpa [std, sC] using hb
   have hq : RQ = ⟨1, zRsl, gs.length, 0, Lc, kc⟩ := by rw [hrun]; exact run_no hq9 he
   refine wp_seq (rg hB TA_ok [4, 5] [0, 4] [] hF fun X7 a0 w1 hF => ?_)
   refine wp_ret ((rm hB TA_ok hF (⟨0, fun _ => none, fun _ => 0, fun _ => .empty⟩) [] (hmap := ?_) (he := ?_) (hs := ?_) (hJ := ?_)).1)
   ·intro b hb; cases hb; exact ⟨hmp, fun m h => shK_map h⟩
   ·rw [hq]; subst hB
    exact Sim.tup ⟨Sim.agg ⟨zr, zr, zr, zq0, zr, zr, trivial⟩, zr, trivial⟩
   ·rw [hq]; subst hB; exact ⟨rfl, ⟨_, rfl, zl⟩, trivial⟩
   rw [hq]; exact fun _ _ h => h
  have he : E9 = 0 := by subst hB; simpa [std, sC] using hb
  rw [he] at hq9
  refine wp_skip (wp_seq (wp_seq (rg hB TA_ok [27, 0, 3, 4, 6, 7, 8] [0, 3, 4, 6, 8, 42] [] hF fun X8 a0 w1 hF => ?_)))
  apply test_ok hF rfl <;> intro hb hF
  ·have hk4 : W9.kind = 4 := by subst hB; simpa [std, sC] using hb
   have hq : RQ = ⟨2, W9.res, gs.length, 0, Lc, kc⟩ := by rw [hrun]; exact run_end hq9 hk4
   refine wp_seq (rg hB TA_ok [4, 5] [0, 4] [] hF fun X9 a0 w1 hF => ?_)
   refine wp_ret ((rm hB TA_ok hF ((X5 2)) [] (hmap := ?_) (he := ?_) (hs := ?_) (hJ := ?_)).1)
   ·intro b hb; cases hb; exact ⟨hmp, fun m h => shK_map h⟩
   ·rw [hq]; subst hB
    rw [show nn9 = W9.res.items.length from hnn9, show ff9 = itF W9.res.items from hff9]
    exact Sim.tup ⟨zr, zr, trivial⟩
   ·rw [hq]; subst hB; exact ⟨rfl, ⟨_, rfl, zl⟩, trivial⟩
   rw [hq]; exact fun _ _ h => h
  have hk4 : ¬ W9.kind = 4 := by subst hB; simpa [std, sC] using hb
  refine wp_skip (wp_seq (wp_region_lit (lpr 0 2 hB TA_ok [31, 32, 6, 0, 7, 3, 4] [0, 4, 3, 6] [] hF fun X10_0 a0 w1 hF => ?_)))
  have SD := do_m 0 b bM Lc (by have := hg.ok.len; omega) kc (wqB (X5 2) W9 rr9 nn9 ff9) (by show rr9.n ≤ _; rw [hrr9]; have := hwo.r.few; show W9.r.items.length ≤ _; omega) hwo.lab.wf hwo.lab.u (by show U64 rr9.nx.bits; rw [hrr9]; exact hwo.r.nx)
  obtain ⟨D1, hD1⟩ := eqv (doL Lc (WntA.abs (wqB (X5 2) W9 rr9 nn9 ff9)))
  rw [← hD1] at SD
  obtain ⟨GG1, hGG1⟩ : ∃ G : Atom → GotA, G = fun y => gotA y D1.got := ⟨_, rfl⟩
  have hGf1 : ∀ y, gotA y D1.got = GG1 y := fun y => by rw [hGG1]
  simp only [hGf1] at SD
  obtain ⟨k1, hk1⟩ := eqv ((if D1.wrote then IntKind.i64.wrap (kc + 1) else kc))
  rw [← hk1] at SD
  obtain ⟨er1, her1⟩ := eqv (D1.err)
  rw [← her1] at SD
  obtain ⟨L1, hL1⟩ := eqv (D1.L)
  rw [← hL1] at SD
  refine man_callM rfl rfl rfl rfl hF rfl rfl enters10 SD (fun _ _ h => h) (fun b hb => by cases hb; exact fun _ => .inr rfl) ⟨zr, Sim.agg (by repeat (first | exact trivial | refine ⟨zr, ?_⟩ | refine ⟨Sim.ff, ?_⟩ | refine ⟨zq0, ?_⟩)), trivial⟩ (by intro e he; simp only [List.mem_singleton] at he; subst he; rfl) rfl rfl (fun _ => shK bM L1) (fun _ _ _ _ _ _ _ _ _ h => h) ?_
  intro y a0 w1 hF
  obtain ⟨g1, hg1⟩ := eqv (GG1 y)
  rw [← hg1] at hF
  replace hF := hF.withK (K' := shK bM L1) hF.kept
  have hga1 : g1.abs = D1.got := by rw [hg1, ← hGf1, gotA_abs]
  have hra : rr9.abs = W9.r := by rw [hrr9, rn_abs]
  have hD1w : D1 = doL Lc (wntOf W9) := by
   rw [hD1]
   unfold WntA.abs wqB wntOf
   simp only [hra]
  have hgd : ShfG D1.L ∧ U64 D1.got.ver ∧ RecOk D1.got.r := by
   rw [hD1w]
   exact doL_good hg ⟨hwo.lab.wf, hwo.r.nx, hwo.r.key⟩
  have hgi : InG g1 := got_in hga1 hgd.2.1 hgd.2.2
  have hg1s : ShfG L1 := by rw [hL1]; exact hgd.1
  have hge : g1.er = gotOf D1.got := by rw [hg1, ← hGf1]; rfl
  refine lnd 3 hB TA_ok [0, 3, 4, 6, 7, 10, 11] [0, 3, 4, 6, 10, 42] [] hF fun X10 a0 w1 hF => ?_
  refine wp_seq (wp_seq (rg hB TA_ok [37, 0, 3, 4, 6, 7, 10] [0, 3, 4, 6, 10, 42] [] hF fun X11 a0 w1 hF => ?_))
  apply test_ok hF rfl <;> intro hb hF
  ·have he1 : er1 ≠ 0 := by subst hB; simpa [std, sC] using hb
   have hq : RQ = ⟨4, zRsl, gs.length, D1.err, L1, k1⟩ := by rw [hrun, hL1, hk1]; exact run_err hq9 hk4 (by omega) hD1w (by rw [← her1]; exact he1)
   refine wp_seq (rg hB TA_ok [4, 5] [0, 4] [] hF fun X12 a0 w1 hF => ?_)
   refine wp_ret ((rm hB TA_ok hF (⟨0, fun _ => none, fun _ => 0, fun _ => .empty⟩) [] (hmap := ?_) (he := ?_) (hs := ?_) (hJ := ?_)).1)
   ·intro b hb; cases hb; exact ⟨hmp, fun m h => shK_map h⟩
   ·rw [hq]; subst hB
    exact Sim.tup ⟨Sim.agg ⟨zr, zr, zr, zq0, zr, zr, trivial⟩, zr, trivial⟩
   ·rw [hq]; subst hB; exact ⟨rfl, ⟨_, rfl, zl⟩, trivial⟩
   rw [hq]; exact fun _ _ h => h
  have he1 : er1 = 0 := by subst hB; simpa [std, sC] using hb
  refine wp_skip ?_
  refine rg hB TA_ok [6, 7, 0, 3, 4] [0, 3, 4, 6, 42] [] hF (hob := by intro X; subst hB; simp only [AO, Ob.holds, BE.den] <;> and_intros <;> repeat first | trivial | rfl | exact (show i + 1 ≤ maxLen by omega) | exact (show (i + 1) * 80 ≤ 140737488355328 by omega) | exact (fun _ _ => by kernel_rfl) | refine ⟨?_, ?_⟩ | intro h | exact Int.le_refl _ | decide | omega) fun X13 a0 w1 hF => ?_
  replace hF := hF.headS (v' := .sl (some 6) ((X13 3).A 0) (B.nadd i 1) ((X13 3).c 0) 8 (fun t => gotC (if t = i then g1 else fz t))) (Sim.resl rfl (fun t ht => by
   subst hB
   have ht2 : t < i + 1 := ht
   show appC i (fun t => gotC (fz t)) (chunk 8 (gotC g1)) t = _
   unfold appC
   split
   ·rw [if_neg (by omega)]
   have : t = i := by omega
   subst this
   rw [if_pos rfl]
   simp [chunk])) rfl
  refine rg hB TA_ok [6, 7, 0, 3, 4] [0, 3, 4, 6, 42] [] hF fun X4 a0 w1 hF => ?_
  have e : B.arith .add .i64 (i : Int) 1 = ((i + 1 : Nat) : Int) := by subst hB; exact wrap_succ (n := 2001) (by omega) (by omega)
  refine ⟨(i + 1, fun t => if t = i then g1 else fz t, _, _, L1, k1, gs ++ [D1.got]), ⟨by simp only; omega, hg1s, fun j hj => ?_, by simp [hgl], ?_, ?_⟩, by simp only; omega, by rw [← e, show i + 1 = B.nadd i 1 by subst hB; rfl]; exact hF⟩
  ·by_cases hji : j = i
   ·simp only [if_pos hji]; exact hgi
   simp only [if_neg hji]; exact hal j (by have h9 : j < i + 1 := hj; omega)
  ·have := hlie.add hge
   rw [hgl] at this; exact this
  rw [hrun, run_go hq9 hk4 (by omega) hD1w (by rw [← her1]; exact he1), hL1, hk1, show 2001 - (i + 1) = m0 by omega]
 have hi0 : i = 2001 := by
  have : ¬ (i : Int) ≤ 2000 := by subst hB; simpa [std, sC] using hb
  omega
 have hq : RQ = ⟨0, zRsl, gs.length, 0, Lc, kc⟩ := by rw [hrun, hi0]; rfl
 refine wp_exit (wp_seq (rg hB TA_ok [4, 5] [0, 4] [] hF fun X14 a0 w1 hF => ?_))
 refine wp_ret ((rm hB TA_ok hF (⟨0, fun _ => none, fun _ => 0, fun _ => .empty⟩) [] (hmap := ?_) (he := ?_) (hs := ?_) (hJ := ?_)).1)
 ·intro b hb; cases hb; exact ⟨hmp, fun m h => shK_map h⟩
 ·rw [hq]; subst hB
  exact Sim.tup ⟨Sim.agg ⟨zr, zr, zr, zq0, zr, zr, trivial⟩, zr, trivial⟩
 ·rw [hq]; subst hB; exact ⟨rfl, ⟨_, rfl, zl⟩, trivial⟩
 rw [hq]; exact fun _ _ h => h
theorem run25_m (k0 : Nat) (b bM : Nat) (J : JobA) (hJ : JobIn J) (L : Shf) (hL : ShfG L) (k : Int) : SpecM Try.prog 12 [.ptr k0 b 0, jobV J] [(k0, ⟨b, 78, [.raw (.map (some bM)), .int .i64 k]⟩)] (some bM) (shK bM L) (fun y => ⟨.tup [rslV y (runQ (helpN J) 3000 2001 [] L k).res, .bool (.v (decide ((runQ (helpN J) 3000 2001 [] L k).st = 2)))], [(k0, [.raw (.map (some bM)), .int .i64 (runQ (helpN J) 3000 2001 [] L k).k])], []⟩) (fun _ _ => shK bM (runQ (helpN J) 3000 2001 [] L k).L) :=
 (run25_m0 b bM J hJ L hL k).re (by repeat (first | exact trivial | refine ⟨Sim.ptr, ?_⟩ | refine ⟨Sim.fn ⟨Sim.ptr, trivial⟩ trivial, ?_⟩ | refine ⟨Sim.fn trivial ⟨Sim.ptr, trivial⟩, ?_⟩ | refine ⟨zr, ?_⟩)) rfl (fun x => ⟨rfl, rfl, zr, rfl⟩)
inductive Tr (α : Type) where
 | ret (a : α)
 | dead
 | note (x : Nt) (t : Tr α)
 | ask (w : Wq) (f : GotA → Tr α)
def Tr.bind {α β : Type} : Tr α → (α → Tr β) → Tr β
 | .ret a, f => f a
 | .dead, _ => .dead
 | .note x t, f => .note x (t.bind f)
 | .ask w g, f => .ask w fun a => (g a).bind f
def Tr.run {α : Type} (k : Int) : Tr α → Pst → Rs α
 | .ret a, p => .ok a p
 | .dead, p => .stop zWq p
 | .note x t, p => t.run k ⟨p.n, p.g, x⟩
 | .ask w f, p => (askM k w p).bind fun g p => (f g).run k p
theorem Rs.assoc {α β γ : Type} (m : Rs α) (f : α → Pst → Rs β) (g : β → Pst → Rs γ) : (m.bind f).bind g = m.bind fun a p => (f a p).bind g := by cases m <;> rfl
theorem run_bind {α β : Type} {k : Int} : ∀ (t : Tr α) (f : α → Tr β) (p : Pst), (t.bind f).run k p = (t.run k p).bind fun a q => (f a).run k q
 | .ret a, f, p => rfl
 | .dead, f, p => rfl
 | .note x t, f, p => run_bind t f _
 | .ask w g, f, p => by
  show (askM k w p).bind (fun a q => ((g a).bind f).run k q) = ((askM k w p).bind fun a q => (g a).run k q).bind _
  rw [Rs.assoc]
  congr 1
  funext a q
  exact run_bind (g a) f q
section
variable {α β : Type} {k : Int} {p : Pst}
theorem rb {t : Tr α} {m : Rs α} {f : α → Tr β} {f' : α → Pst → Rs β} (h : t.run k p = m) (hf : ∀ a q, (f a).run k q = f' a q) : (t.bind f).run k p = m.bind f' := by
 subst h
 rw [run_bind]
 congr 1
 funext a q
 exact hf a q
theorem ri {c : Prop} [Decidable c] {x y : Tr α} {x' y' : Rs α} (hx : x.run k p = x') (hy : y.run k p = y') : (if c then x else y).run k p = if c then x' else y' := by
 by_cases h : c
 ·rw [if_pos h, if_pos h]; exact hx
 rw [if_neg h, if_neg h]; exact hy
end
def askT (w : Wq) : Tr GotA := .ask w .ret
def getT (l : Lab) : Tr GotA := askT ⟨1, l, 0, zeroRec, zRsl⟩
def casT (l : Lab) (v : Int) (r : Rec) : Tr Bool := (askT ⟨2, l, v, r, zRsl⟩).bind fun g => .ret (decide (g.code = 0))
def drpT (l : Lab) (v : Int) : Tr Bool := (askT ⟨3, l, v, zeroRec, zRsl⟩).bind fun g => .ret (decide (g.code = 0))
def splCT (l : Lab) (v : Int) (c : Lab) (x : Rec) : Nat → Tr Bool
 | 0 => .dead
 | n + 1 => (getT c).bind fun g => if (g.has && !decide (g.x.r.kd = 5)) = true then .ret true else (getT l).bind fun q => if q.ver = v then (casT c g.ver x).bind fun d => if d = true then .ret true else splCT l v c x n else .ret false
def splitT (n : Nat) (l : Lab) (v : Int) (x : RA) : Tr Unit :=
 if (halvA x l).2.2 = 0 then
  (splCT l v (chV l 0) (halvA x l).1 n).bind fun go => if go = true then (splCT l v (chV l 1) (halvA x l).2.1 n).bind fun go => if go = true then (casT l v innerR).bind fun _ => .ret () else .ret () else .ret ()
 else .ret ()
def frzT (l : Lab) (v : Int) (c : Lab) : Nat → Tr Fz
 | 0 => .dead
 | n + 1 => (getT c).bind fun g => if (gk g 1 || gk g 5) = true then (if (gk g 5 && decide (g.x.r.mrk = v)) = true then .ret (.fr g.x) else (getT l).bind fun q => if q.ver = v then (casT c g.ver (asR 5 g.x v).r.abs).bind fun d => if d = true then .ret (.fr (asR 5 g.x v)) else frzT l v c n else .ret .over) else .ret .unfit
def clnCT (l : Lab) (cl : Lab → Tr Unit) (c : Lab) : Tr Bool :=
 (getT c).bind fun g => if gk g 5 = true then (cl c).bind fun _ => (getT l).bind fun q => if (gk q 1 || gk q 5) = true then (drpT c g.ver).bind fun _ => .ret true else .ret false else .ret true
def clnT : Nat → Lab → Tr Unit
 | 0, _ => .dead
 | n + 1, l => if l.len = 64 then .ret () else (clnCT l (clnT n) (chV l 0)).bind fun go => if go = true then (clnCT l (clnT n) (chV l 1)).bind fun _ => .ret () else .ret ()
def bckT (th : Lab → Tr Unit) (l : Lab) (v : Int) : Tr Unit := (casT l v innerR).bind fun d => if d = true then (th (chV l 0)).bind fun _ => th (chV l 1) else .ret ()
def mrgT (bk : Int) (n : Nat) (th : Lab → Tr Unit) (l : Lab) (v : Int) : Tr Unit :=
 (frzT l v (chV l 0) n).bind fun a => match a with
  | .over => .ret ()
  | .unfit => bckT th l v
  | .fr a => (frzT l v (chV l 1) n).bind fun b => match b with
   | .over => .ret ()
   | .unfit => bckT th l v
   | .fr b => if (uniA a b).2 = 0 ∧ ((uniA a b).1.items.length : Int) ≤ bk then (casT l v (uniA a b).1).bind fun d => if d = true then clnT n l else .ret () else bckT th l v
def finT (bk : Int) (n : Nat) (th : Lab → Tr Unit) (l : Lab) (g : GotA) : Tr Unit :=
 if gk g 3 = true then splitT n l g.ver g.x else if l.len < 64 then mrgT bk n th l g.ver else .ret ()
def thwLT (bk : Int) : Nat → Lab → Lab → Tr Unit
 | 0, _, _ => .dead
 | n + 1, l, up => (getT l).bind fun g => if gk g 5 = true then (getT up).bind fun q =>
   (if (gk q 3 || gk q 4) = true then finT bk n (fun c => if parE c = 0 then thwLT bk n c (parV c) else .ret ()) up q else .ret ()).bind fun _ =>
    if gk q 2 = true then (casT l g.ver (asR 1 g.x 0).r.abs).bind fun d => if d = true then .ret () else thwLT bk n l up else .ret () else .ret ()
def thwT (bk : Int) (n : Nat) (l : Lab) : Tr Unit := if parE l = 0 then thwLT bk n l (parV l) else .ret ()
def fnsT (bk : Int) (n : Nat) (l : Lab) (g : GotA) : Tr Unit := finT bk n (thwT bk n) l g
section
variable {k bk key : Int}
theorem run_ask (w : Wq) (p : Pst) : (askT w).run k p = askM k w p := by
 show (askM k w p).bind (fun g p => .ok g p) = _
 cases askM k w p <;> rfl
theorem run_get (l : Lab) (p : Pst) : (getT l).run k p = getM k l p := run_ask _ _
theorem run_cas (l : Lab) (v : Int) (r : Rec) (p : Pst) : (casT l v r).run k p = casM k l v r p := rb (run_ask _ _) fun _ _ => rfl
theorem run_drp (l : Lab) (v : Int) (p : Pst) : (drpT l v).run k p = drpM k l v p := rb (run_ask _ _) fun _ _ => rfl
theorem run_splC (l : Lab) (v : Int) (c : Lab) (x : Rec) : ∀ n p, (splCT l v c x n).run k p = splC k l v c x n p
 | 0, p => rfl
 | n + 1, p => rb (run_get _ _) fun _ _ => ri rfl (rb (run_get _ _) fun _ _ => ri (rb (run_cas _ _ _ _) fun _ _ => ri rfl (run_splC l v c x n _)) rfl)
theorem run_split (n : Nat) (l : Lab) (v : Int) (x : RA) (p : Pst) : (splitT n l v x).run k p = splitM k n l v x p :=
 ri (rb (run_splC _ _ _ _ _ _) fun _ _ => ri (rb (run_splC _ _ _ _ _ _) fun _ _ => ri (rb (run_cas _ _ _ _) fun _ _ => rfl) rfl) rfl) rfl
theorem run_frz (l : Lab) (v : Int) (c : Lab) : ∀ n p, (frzT l v c n).run k p = frzM k l v c n p
 | 0, p => rfl
 | n + 1, p => rb (run_get _ _) fun _ _ => ri (ri rfl (rb (run_get _ _) fun _ _ => ri (rb (run_cas _ _ _ _) fun _ _ => ri rfl (run_frz l v c n _)) rfl)) rfl
theorem run_clnC (l : Lab) {cl : Lab → Tr Unit} {cl' : Lab → Pst → Rs Unit} (h : ∀ c p, (cl c).run k p = cl' c p) (c : Lab) (p : Pst) : (clnCT l cl c).run k p = clnC k l cl' c p :=
 rb (run_get _ _) fun _ _ => ri (rb (h _ _) fun _ _ => rb (run_get _ _) fun _ _ => ri (rb (run_drp _ _ _) fun _ _ => rfl) rfl) rfl
theorem run_cln : ∀ n l p, (clnT n l).run k p = clnM k n l p
 | 0, l, p => rfl
 | n + 1, l, p => ri rfl (rb (run_clnC _ (run_cln n) _ _) fun _ _ => ri (rb (run_clnC _ (run_cln n) _ _) fun _ _ => rfl) rfl)
theorem run_bck {th : Lab → Tr Unit} {th' : Lab → Pst → Rs Unit} (h : ∀ c p, (th c).run k p = th' c p) (l : Lab) (v : Int) (p : Pst) : (bckT th l v).run k p = bckM k th' l v p :=
 rb (run_cas _ _ _ _) fun _ _ => ri (rb (h _ _) fun _ _ => h _ _) rfl
theorem run_mrg (n : Nat) {th : Lab → Tr Unit} {th' : Lab → Pst → Rs Unit} (h : ∀ c p, (th c).run k p = th' c p) (l : Lab) (v : Int) (p : Pst) : (mrgT bk n th l v).run k p = mrgM bk k n th' l v p :=
 rb (run_frz _ _ _ _ _) fun a _ => match a with
  | .over => rfl
  | .unfit => run_bck h _ _ _
  | .fr a => rb (run_frz _ _ _ _ _) fun b _ => match b with
   | .over => rfl
   | .unfit => run_bck h _ _ _
   | .fr b => ri (rb (run_cas _ _ _ _) fun _ _ => ri (run_cln _ _ _) rfl) (run_bck h _ _ _)
theorem run_fin (n : Nat) {th : Lab → Tr Unit} {th' : Lab → Pst → Rs Unit} (h : ∀ c p, (th c).run k p = th' c p) (l : Lab) (g : GotA) (p : Pst) : (finT bk n th l g).run k p = finM bk k n th' l g p :=
 ri (run_split _ _ _ _ _) (ri (run_mrg _ h _ _ _) rfl)
theorem run_thwL : ∀ n l up p, (thwLT bk n l up).run k p = thwL bk k n l up p
 | 0, l, up, p => rfl
 | n + 1, l, up, p => rb (run_get _ _) fun _ _ => ri (rb (run_get _ _) fun _ _ => rb (ri (run_fin _ (fun c p => ri (run_thwL n _ _ _) rfl) _ _ _) rfl) fun _ _ => ri (rb (run_cas _ _ _ _) fun _ _ => ri rfl (run_thwL n _ _ _)) rfl) rfl
theorem run_thw (n : Nat) (l : Lab) (p : Pst) : (thwT bk n l).run k p = thwM bk k n l p := ri (run_thwL _ _ _ _) rfl
theorem run_fns (n : Nat) (l : Lab) (g : GotA) (p : Pst) : (fnsT bk n l g).run k p = fnsM bk k n l g p := run_fin _ (run_thw n) _ _ _
end
inductive App {α : Type} : Nat → Tr α → Tr α → Prop
 | zero {t t' : Tr α} : App 0 t t'
 | ret {d : Nat} (a : α) : App d (.ret a) (.ret a)
 | note {d : Nat} {x : Nt} {t t' : Tr α} (h : App d t t') : App d (.note x t) (.note x t')
 | ask {d : Nat} {w : Wq} {f f' : GotA → Tr α} (h : ∀ g, App d (f g) (f' g)) : App (d + 1) (.ask w f) (.ask w f')
section
variable {α β : Type} {d e : Nat}
theorem App.mono {t t' : Tr α} (h : App d t t') : ∀ {e : Nat}, e ≤ d → App e t t' := by
  induction h with
  | zero => intro e he; have : e = 0 := by omega
            subst this; exact .zero
  | ret a => intro e he; exact .ret a
  | note h ih => intro e he; exact .note (ih he)
  | ask h ih =>
    intro e he
    cases e with
    | zero => exact .zero
    | succ e => exact .ask fun g => ih g (by omega)
theorem App.bind {t t' : Tr α} (h : App d t t') : ∀ {f f' : α → Tr β}, (∀ a, App d (f a) (f' a)) → App d (t.bind f) (t'.bind f') := by
 induction h with
 | zero => intro f f' hf; exact .zero
 | ret a => intro f f' hf; exact hf a
 | note h ih => intro f f' hf; exact .note (ih hf)
 | ask h ih => intro f f' hf; exact .ask fun g => ih g fun a => (hf a).mono (by omega)
theorem app_ite {c : Prop} [Decidable c] {x y x' y' : Tr α} (hx : App d x x') (hy : App d y y') : App d (if c then x else y) (if c then x' else y') := by split <;> assumption
theorem run_app {k : Int} {t t' : Tr α} (h : App d t t') : ∀ {p : Pst}, p.n < d → t.run k p = t'.run k p := by
 induction h with
 | zero => intro p hp; omega
 | ret a => intro p _; rfl
 | note h ih => intro p hp; exact ih hp
 | @ask d w f f' h ih =>
  intro p hp
  show (askM k w p).bind _ = (askM k w p).bind _
  unfold askM
  split
  ·rename_i h0
   refine ih _ ?_
   show p.n - 1 < d
   omega
  rfl
end
theorem app_ask {d : Nat} (w : Wq) : App d (askT w) (askT w) := by
 cases d with
 | zero => exact .zero
 | succ d => exact .ask fun g => .ret g
theorem app_get {d : Nat} (l : Lab) : App d (getT l) (getT l) := app_ask _
theorem app_cas {d : Nat} (l : Lab) (v : Int) (r : Rec) : App d (casT l v r) (casT l v r) := (app_ask _).bind fun _ => .ret _
theorem app_drp {d : Nat} (l : Lab) (v : Int) : App d (drpT l v) (drpT l v) := (app_ask _).bind fun _ => .ret _
theorem app_get1 {α : Type} {d : Nat} {l : Lab} {f f' : GotA → Tr α} (h : ∀ g, App d (f g) (f' g)) : App (d + 1) ((getT l).bind f) ((getT l).bind f') := .ask h
section
variable {bk key : Int}
theorem app_splC (l : Lab) (v : Int) (c : Lab) (x : Rec) : ∀ {d n n' : Nat}, d ≤ n → d ≤ n' → App d (splCT l v c x n) (splCT l v c x n')
 | 0, _, _, _, _ => .zero
 | d + 1, n + 1, n' + 1, h, h' => app_get1 fun _ => app_ite (.ret _) ((app_get _).bind fun _ => app_ite ((app_cas _ _ _).bind fun _ => app_ite (.ret _) (app_splC l v c x (by omega) (by omega))) (.ret _))
theorem app_split {d n n' : Nat} (l : Lab) (v : Int) (x : RA) (h : d ≤ n) (h' : d ≤ n') : App d (splitT n l v x) (splitT n' l v x) :=
 app_ite ((app_splC _ _ _ _ h h').bind fun _ => app_ite ((app_splC _ _ _ _ h h').bind fun _ => app_ite ((app_cas _ _ _).bind fun _ => .ret _) (.ret _)) (.ret _)) (.ret _)
theorem app_frz (l : Lab) (v : Int) (c : Lab) : ∀ {d n n' : Nat}, d ≤ n → d ≤ n' → App d (frzT l v c n) (frzT l v c n')
 | 0, _, _, _, _ => .zero
 | d + 1, n + 1, n' + 1, h, h' => app_get1 fun _ => app_ite (app_ite (.ret _) ((app_get _).bind fun _ => app_ite ((app_cas _ _ _).bind fun _ => app_ite (.ret _) (app_frz l v c (by omega) (by omega))) (.ret _))) (.ret _)
theorem app_clnC (l : Lab) {d : Nat} {cl cl' : Lab → Tr Unit} (h : ∀ c, App d (cl c) (cl' c)) (c : Lab) : App (d + 1) (clnCT l cl c) (clnCT l cl' c) :=
 app_get1 fun _ => app_ite ((h _).bind fun _ => (app_get _).bind fun _ => app_ite ((app_drp _ _).bind fun _ => .ret _) (.ret _)) (.ret _)
theorem app_cln : ∀ {d n n' : Nat} (l : Lab), d ≤ n → d ≤ n' → App d (clnT n l) (clnT n' l)
 | 0, _, _, _, _, _ => .zero
 | d + 1, n + 1, n' + 1, l, h, h' => app_ite (.ret _) ((app_clnC _ (fun c => app_cln c (by omega) (by omega)) _).bind fun _ => app_ite ((app_clnC _ (fun c => app_cln c (by omega) (by omega)) _).bind fun _ => .ret _) (.ret _))
theorem app_bck {d : Nat} {th th' : Lab → Tr Unit} (h : ∀ c, App d (th c) (th' c)) (l : Lab) (v : Int) : App d (bckT th l v) (bckT th' l v) :=
 (app_cas _ _ _).bind fun _ => app_ite ((h _).bind fun _ => h _) (.ret _)
theorem app_mrg {d n n' : Nat} {th th' : Lab → Tr Unit} (hn : d ≤ n) (hn' : d ≤ n') (h : ∀ c, App d (th c) (th' c)) (l : Lab) (v : Int) : App d (mrgT bk n th l v) (mrgT bk n' th' l v) :=
 (app_frz _ _ _ hn hn').bind fun a => match a with
  | .over => .ret _
  | .unfit => app_bck h _ _
  | .fr a => (app_frz _ _ _ hn hn').bind fun b => match b with
   | .over => .ret _
   | .unfit => app_bck h _ _
   | .fr b => app_ite ((app_cas _ _ _).bind fun _ => app_ite (app_cln _ hn hn') (.ret _)) (app_bck h _ _)
theorem app_fin {d n n' : Nat} {th th' : Lab → Tr Unit} (hn : d ≤ n) (hn' : d ≤ n') (h : ∀ c, App d (th c) (th' c)) (l : Lab) (g : GotA) : App d (finT bk n th l g) (finT bk n' th' l g) :=
 app_ite (app_split _ _ _ hn hn') (app_ite (app_mrg hn hn' h _ _) (.ret _))
theorem app_thwL : ∀ {d n n' : Nat} (l up : Lab), d ≤ n → d ≤ n' → App d (thwLT bk n l up) (thwLT bk n' l up)
 | 0, _, _, _, _, _, _ => .zero
 | d + 1, n + 1, n' + 1, l, up, h, h' => app_get1 fun _ => app_ite ((app_get _).bind fun _ => (app_ite (app_fin (by omega) (by omega) (fun c => app_ite (app_thwL _ _ (by omega) (by omega)) (.ret _)) _ _) (.ret _)).bind fun _ => app_ite ((app_cas _ _ _).bind fun _ => app_ite (.ret _) (app_thwL _ _ (by omega) (by omega))) (.ret _)) (.ret _)
theorem app_thw {d n n' : Nat} (l : Lab) (h : d ≤ n) (h' : d ≤ n') : App d (thwT bk n l) (thwT bk n' l) := app_ite (app_thwL _ _ h h') (.ret _)
theorem app_fns {d n n' : Nat} (l : Lab) (g : GotA) (h : d ≤ n) (h' : d ≤ n') : App d (fnsT bk n l g) (fnsT bk n' l g) := app_fin h h' (fun c => app_thw c h h') _ _
end
def Tr.All {α : Type} (A : GotA → Prop) (W : Wq → Prop) (X : Nt → Prop) (Q : α → Prop) : Tr α → Prop
 | .ret a => Q a
 | .dead => True
 | .note x t => X x ∧ t.All A W X Q
 | .ask w f => W w ∧ ∀ g, A g → (f g).All A W X Q
section
variable {α β : Type} {A : GotA → Prop} {W : Wq → Prop} {X : Nt → Prop}
theorem all_bind {Q : α → Prop} {R : β → Prop} : ∀ {t : Tr α} {f : α → Tr β}, t.All A W X Q → (∀ a, Q a → (f a).All A W X R) → (t.bind f).All A W X R
 | .ret a, f, h, hf => hf a h
 | .dead, f, h, hf => trivial
 | .note x t, f, h, hf => ⟨h.1, all_bind (t := t) h.2 hf⟩
 | .ask w g, f, h, hf => ⟨h.1, fun a ha => all_bind (t := g a) (h.2 a ha) hf⟩
theorem all_ite {Q : α → Prop} {c : Prop} [Decidable c] {x y : Tr α} (hx : c → x.All A W X Q) (hy : ¬ c → y.All A W X Q) : (if c then x else y).All A W X Q := by
 by_cases h : c
 ·rw [if_pos h]; exact hx h
 rw [if_neg h]; exact hy h
theorem all_ask {w : Wq} (h : W w) : (askT w).All A W X A := ⟨h, fun _ h => h⟩
theorem Tr.All.mono {Q R : α → Prop} : ∀ {t : Tr α}, t.All A W X Q → (∀ a, Q a → R a) → t.All A W X R
 | .ret a, h, hq => hq a h
 | .dead, h, hq => trivial
 | .note x t, h, hq => ⟨h.1, Tr.All.mono (t := t) h.2 hq⟩
 | .ask w g, h, hq => ⟨h.1, fun a ha => Tr.All.mono (t := g a) (h.2 a ha) hq⟩
end
def ntR (x : Nt) : Rsl := ⟨x.code, x.had, x.val, [], 0, false⟩
def Tr.dir (most b : Int) : Tr Rsl → Nt → Nat → Shf → Int → RunR
 | .ret a, x, n, L, k => ⟨2, a, n, 0, L, k⟩
 | .dead, x, n, L, k => ⟨5, zRsl, n, 0, L, k⟩
 | .note y t, x, n, L, k => t.dir most b y n L k
 | .ask w f, x, n, L, k =>
  if b ≤ n then ⟨2, ntR x, n, 0, L, k⟩
  else if most ≤ n then ⟨3, zRsl, n, 0, L, k⟩
  else if (doL L (wntOf w)).err ≠ 0 then ⟨4, zRsl, n, (doL L (wntOf w)).err, (doL L (wntOf w)).L, if (doL L (wntOf w)).wrote then IntKind.i64.wrap (k + 1) else k⟩
  else (f (gotOf (doL L (wntOf w)).got)).dir most b x (n + 1) (doL L (wntOf w)).L (if (doL L (wntOf w)).wrote then IntKind.i64.wrap (k + 1) else k)
def Tr.feed {α : Type} : Tr α → Nt → List Got → Option (Tr α × Nt)
 | .note y t, _, gs => t.feed y gs
 | .ret a, x, [] => some (.ret a, x)
 | .ret _, _, _ :: _ => none
 | .dead, x, [] => some (.dead, x)
 | .dead, _, _ :: _ => none
 | .ask w f, x, [] => some (.ask w f, x)
 | .ask w f, x, g :: gs => (f (gotOf g)).feed x gs
def Tr.noNote {α : Type} : Tr α → Prop
 | .note _ _ => False
 | _ => True
theorem feed_add {α : Type} {w : Wq} {f : GotA → Tr α} {y : Nt} {g : Got} : ∀ (t : Tr α) (x : Nt) (gs : List Got), t.feed x gs = some (.ask w f, y) → t.feed x (gs ++ [g]) = (f (gotOf g)).feed y []
 | .note z t, x, gs, h => by
  show t.feed z (gs ++ [g]) = _
  exact feed_add t z gs (by simpa [Tr.feed] using h)
 | .ret a, x, [], h => by simp [Tr.feed] at h
 | .ret a, x, _ :: _, h => by simp [Tr.feed] at h
 | .dead, x, [], h => by simp [Tr.feed] at h
 | .dead, x, _ :: _, h => by simp [Tr.feed] at h
 | .ask w' f', x, [], h => by
  simp only [Tr.feed, Option.some.injEq, Prod.mk.injEq, Tr.ask.injEq] at h
  obtain ⟨⟨h1, h2⟩, h3⟩ := h
  subst h1; subst h2; subst h3
  rfl
 | .ask w' f', x, g' :: gs, h => by
  show (f' (gotOf g')).feed x (gs ++ [g]) = _
  exact feed_add _ x gs (by simpa [Tr.feed] using h)
theorem feed_nil {α : Type} {A : GotA → Prop} {W : Wq → Prop} {X : Nt → Prop} {Q : α → Prop} : ∀ (t : Tr α) (x : Nt), ∃ t' x', t.feed x [] = some (t', x') ∧ t'.noNote ∧ (∀ d, App d t t → App d t' t') ∧ (t.All A W X Q → t'.All A W X Q)
 | .note z t, x => by
  obtain ⟨t', x', h1, h2, h3, h4⟩ := feed_nil t z
  refine ⟨t', x', by simpa [Tr.feed] using h1, h2, fun d hd => h3 d ?_, fun h => h4 h.2⟩
  cases hd with
  | zero => exact .zero
  | note h => exact h
 | .ret a, x => ⟨.ret a, x, by simp [Tr.feed], trivial, fun _ h => h, fun h => h⟩
 | .dead, x => ⟨.dead, x, by simp [Tr.feed], trivial, fun _ h => h, fun h => h⟩
 | .ask w f, x => ⟨.ask w f, x, by simp [Tr.feed], trivial, fun _ h => h, fun h => h⟩
theorem feed_dir {most b : Int} : ∀ (t : Tr Rsl) (x : Nt) {t' : Tr Rsl} {x' : Nt} (n : Nat) (L : Shf) (k : Int), t.feed x [] = some (t', x') → t'.dir most b x' n L k = t.dir most b x n L k
 | .note z t, x, t', x', n, L, k, h => feed_dir t z n L k (by simpa [Tr.feed] using h)
 | .ret a, x, t', x', n, L, k, h => by simp [Tr.feed] at h; obtain ⟨rfl, rfl⟩ := h; rfl
 | .dead, x, t', x', n, L, k, h => by simp [Tr.feed] at h; obtain ⟨rfl, rfl⟩ := h; rfl
 | .ask w f, x, t', x', n, L, k, h => by simp [Tr.feed] at h; obtain ⟨rfl, rfl⟩ := h; rfl
theorem run_feed {α : Type} {k : Int} (hk : 0 ≤ k) {t' : Tr α} {x' : Nt} : ∀ (t : Tr α) (x : Nt) (gs : List Got), t.feed x gs = some (t', x') → ∀ p : Pst, p.n = gs.length → (∀ j, j < gs.length → p.g j = gotOf (gs.getD j zeroGot)) → p.note = x → ∃ q : Pst, q.n = 0 ∧ q.note = x' ∧ t.run k p = t'.run k q
 | .note z t, x, gs, h, p, hn, hg, hx => run_feed hk t z gs (by simpa [Tr.feed] using h) ⟨p.n, p.g, z⟩ hn hg rfl
 | .ret a, x, [], h, p, hn, hg, hx => by simp [Tr.feed] at h; obtain ⟨rfl, rfl⟩ := h; exact ⟨p, hn, hx, rfl⟩
 | .ret a, x, _ :: _, h, p, hn, hg, hx => by simp [Tr.feed] at h
 | .dead, x, [], h, p, hn, hg, hx => by simp [Tr.feed] at h; obtain ⟨rfl, rfl⟩ := h; exact ⟨p, hn, hx, rfl⟩
 | .dead, x, _ :: _, h, p, hn, hg, hx => by simp [Tr.feed] at h
 | .ask w f, x, [], h, p, hn, hg, hx => by simp [Tr.feed] at h; obtain ⟨rfl, rfl⟩ := h; exact ⟨p, hn, hx, rfl⟩
 | .ask w f, x, g :: gs, h, p, hn, hg, hx => by
  have hn2 : p.n = gs.length + 1 := hn
  have h0 : p.g 0 = gotOf g := hg 0 (by simp)
  obtain ⟨q, h1, h2, h3⟩ := run_feed hk (f (gotOf g)) x gs (by simpa [Tr.feed] using h) p.tl (by show p.n - 1 = _; omega) (fun j hj => by show p.g (j + 1) = _; rw [hg (j + 1) (by simp; omega)]; rfl) hx
  refine ⟨q, h1, h2, ?_⟩
  rw [← h3]
  show (askM k w p).bind _ = _
  unfold askM
  rw [if_pos ⟨by omega, by omega⟩]
  show (f (p.g 0)).run k p.tl = _
  rw [h0]
structure TrN (N : NextF) (b : Int) (T : Nat → Tr Rsl) : Prop where
 nxt : ∀ n f, allGot n f = true → N n f = toldM ((T (n + 1)).run (b - n) (pst0 n f))
 app : ∀ {d n n' : Nat}, d ≤ n → d ≤ n' → App d (T n) (T n')
section
variable {N : NextF} {b : Int} {T : Nat → Tr Rsl} {most : Int} {A : GotA → Prop} {W : Wq → Prop} {X : Nt → Prop} {Q : Rsl → Prop} {R : Shf → Prop}
theorem next_at (hN : TrN N b T) {m : Nat} {gs : List Got} {t : Tr Rsl} {x : Nt} (hf : (T m).feed nt0 gs = some (t, x)) (hg : ∀ j, j < gs.length → isGotB (gotOf (gs.getD j zeroGot)) = true) (hb : (gs.length : Int) ≤ b) (hm : gs.length < m) : ∃ q : Pst, q.n = 0 ∧ q.note = x ∧ N gs.length (ansF gs) = toldM (t.run (b - gs.length) q) := by
 have h1 := hN.nxt gs.length (ansF gs) (allGot_yes hg)
 obtain ⟨q, h2, h3, h4⟩ := run_feed (k := b - gs.length) (by omega) (T m) nt0 gs hf (pst0 gs.length (ansF gs)) rfl (fun j hj => rfl) rfl
 refine ⟨q, h2, h3, ?_⟩
 rw [h1, ← h4]
 congr 1
 exact run_app (hN.app (d := gs.length + 1) (Nat.le_refl _) (by omega)) (by show gs.length < _; omega)
theorem told_ret {a : Rsl} {q : Pst} (h : q.n = 0) : toldM (.ok a q) = (⟨4, ⟨0, 0⟩, 0, zeroRec, a⟩, 0) := by
 unfold toldM; dsimp only; rw [if_neg (by omega)]
theorem told_stop {w : Wq} {q : Pst} (h : q.n = 0) : toldM (.stop w q) = (w, 0) := by
 unfold toldM; dsimp only; rw [if_neg (by omega)]
theorem ask_none {k : Int} {w : Wq} {q : Pst} {f : GotA → Tr Rsl} (h : q.n = 0) : (Tr.ask w f).run k q = .stop (if k ≤ 0 then overW q else w) q := by
 show (askM k w q).bind _ = _
 unfold askM
 rw [if_neg (by omega), h]
 simp only [Int.natCast_zero, Int.zero_add]
 rfl
theorem dir_go (hN : TrN N b T) {m : Nat} (hm : b < m) (hWk : ∀ w, W w → w.kind ≠ 4) (hR : ∀ L w, R L → W w → (doL L (wntOf w)).err = 0 → R (doL L (wntOf w)).L ∧ isGotB (gotOf (doL L (wntOf w)).got) = true ∧ A (gotOf (doL L (wntOf w)).got)) :
  ∀ (fuel : Nat) (t : Tr Rsl) (x : Nt) (gs : List Got) (L : Shf) (k : Int) (d : Nat), (T m).feed nt0 gs = some (t, x) → t.noNote → App d t t → t.All A W X Q → R L → (∀ j, j < gs.length → isGotB (gotOf (gs.getD j zeroGot)) = true) → (gs.length : Int) ≤ b → b - gs.length < d → b - gs.length < fuel →
   runQ N most fuel gs L k = t.dir most b x gs.length L k
 | 0, t, x, gs, L, k, d, hf, hnn, ha, hall, hL, hg, hb, hd, hfu => by omega
 | fuel + 1, t, x, gs, L, k, d, hf, hnn, ha, hall, hL, hg, hb, hd, hfu => by
  obtain ⟨q, h1, h2, h3⟩ := next_at hN hf hg hb (by omega)
  cases t with
  | note y t => exact absurd hnn (fun h => h)
  | ret a => exact run_end (h3.trans (told_ret h1)) rfl
  | dead =>
   cases ha with
   | zero => omega
  | ask w f =>
   rw [ask_none h1] at h3
   have h4 := h3.trans (told_stop h1)
   by_cases hov : b ≤ (gs.length : Int)
   ·rw [if_pos (by omega)] at h4
    rw [run_end h4 rfl]
    unfold Tr.dir
    rw [if_pos hov]
    unfold overW ntR
    rw [h2]
   rw [if_neg (by omega)] at h4
   have hk := hWk w hall.1
   unfold Tr.dir
   rw [if_neg hov]
   by_cases hmo : most ≤ (gs.length : Int)
   ·rw [if_pos hmo, run_cut h4 hk hmo]
   rw [if_neg hmo]
   by_cases he : (doL L (wntOf w)).err = 0
   ·rw [if_neg (fun h => h he), run_go h4 hk hmo rfl he]
    obtain ⟨r1, r2, r3⟩ := hR L w hL hall.1 he
    cases ha with
    | zero => omega
    | @ask d' _ _ _ ha =>
     obtain ⟨t', x', f1, f2, f3, f4⟩ := feed_nil (A := A) (W := W) (X := X) (Q := Q) (f (gotOf (doL L (wntOf w)).got)) x
     have hfe : (T m).feed nt0 (gs ++ [(doL L (wntOf w)).got]) = some (t', x') := by rw [feed_add _ _ _ hf, f1]
     have hlen : (gs ++ [(doL L (wntOf w)).got]).length = gs.length + 1 := by simp
     rw [dir_go hN hm hWk hR fuel t' x' _ _ _ d' hfe f2 (f3 _ (ha _)) (f4 (hall.2 _ r3)) r1 ?_ (by rw [hlen]; omega) (by rw [hlen]; omega) (by rw [hlen]; omega), hlen]
     ·exact feed_dir _ _ _ _ _ f1
     intro j hj
     rw [hlen] at hj
     by_cases hjl : j < gs.length
     ·have := hg j hjl
      rw [List.getD_eq_getElem?_getD, List.getElem?_append_left hjl, ← List.getD_eq_getElem?_getD]
      exact this
     have : j = gs.length := by omega
     subst this
     simpa [List.getD] using r2
   rw [if_pos he, run_err h4 hk hmo rfl he]
theorem dir_run (hN : TrN N b T) {m : Nat} (hm : b < m) (h0 : 0 ≤ b) (hWk : ∀ w, W w → w.kind ≠ 4) (hR : ∀ L w, R L → W w → (doL L (wntOf w)).err = 0 → R (doL L (wntOf w)).L ∧ isGotB (gotOf (doL L (wntOf w)).got) = true ∧ A (gotOf (doL L (wntOf w)).got))
  (hall : (T m).All A W X Q) {fuel : Nat} (hfu : b < fuel) {L : Shf} (hL : R L) (k : Int) : runQ N most fuel [] L k = (T m).dir most b nt0 0 L k := by
 obtain ⟨t', x', f1, f2, f3, f4⟩ := feed_nil (A := A) (W := W) (X := X) (Q := Q) (T m) nt0
 rw [dir_go hN hm hWk hR fuel t' x' [] L k m f1 f2 (f3 _ (hN.app (Nat.le_refl _) (Nat.le_refl _))) (f4 hall) hL (fun j hj => absurd hj (Nat.not_lt_zero _)) (by simpa using h0) (by simp; omega) (by simp; omega)]
 exact feed_dir _ _ _ _ _ f1
theorem dir_ends (hR : ∀ L w, R L → W w → (L.length : Int) < 2000 → (doL L (wntOf w)).err = 0 ∧ (doL L (wntOf w)).L.length ≤ L.length + 1 ∧ R (doL L (wntOf w)).L ∧ A (gotOf (doL L (wntOf w)).got)) :
  ∀ (t : Tr Rsl) (x : Nt) (n : Nat) (L : Shf) (k : Int) (d : Nat), t.All A W X Q → X x → App d t t → R L → (n : Int) ≤ b → b - n < d → b < most → (L.length : Int) + (b - n) ≤ 2000 →
   (t.dir most b x n L k).st = 2 ∧ ((t.dir most b x n L k).n : Int) ≤ b ∧ (Q (t.dir most b x n L k).res ∨ (((t.dir most b x n L k).n : Int) = b ∧ ∃ y, X y ∧ (t.dir most b x n L k).res = ntR y))
 | .ret a, x, n, L, k, d, hall, hx, ha, hL, hn, hd, hmo, hl => ⟨rfl, hn, .inl hall⟩
 | .dead, x, n, L, k, d, hall, hx, ha, hL, hn, hd, hmo, hl => by
  cases ha with
  | zero => omega
 | .note y t, x, n, L, k, d, hall, hx, ha, hL, hn, hd, hmo, hl => by
  have ha2 : App d t t := by
   cases ha with
   | zero => omega
   | note h => exact h
  exact dir_ends hR t y n L k d hall.2 hall.1 ha2 hL hn hd hmo hl
 | .ask w f, x, n, L, k, d, hall, hx, ha, hL, hn, hd, hmo, hl => by
  unfold Tr.dir
  by_cases hov : b ≤ (n : Int)
  ·rw [if_pos hov]; exact ⟨rfl, hn, .inr ⟨by show (n : Int) = b; omega, _, hx, rfl⟩⟩
  rw [if_neg hov, if_neg (by omega)]
  obtain ⟨r1, r2, r3, r4⟩ := hR L w hL hall.1 (by omega)
  rw [if_neg (fun h => h r1)]
  cases ha with
  | zero => omega
  | @ask d' _ _ _ ha => exact dir_ends hR (f (gotOf (doL L (wntOf w)).got)) x (n + 1) _ _ d' (hall.2 _ r4) hx (ha _) r3 (by omega) (by omega) hmo (by omega)
end
theorem rises_ok {l : List Itm} (hs : Srt l) (hv : ∀ x ∈ l, x.val.size ≤ 64) : okF (itF l) l.length = true := by
 unfold okF
 rw [List.all_eq_true]
 intro i hi
 have hi := List.mem_range.1 hi
 have e : ∀ t (h : t < l.length), itF l t = l[t] := fun t h => by simp [itF, List.getD, h]
 unfold okAt
 rw [e i hi]
 cases i with
 | zero => simpa using hv _ (List.getElem_mem hi)
 | succ i =>
  have h2 : l[i].key < l[i + 1].key := (List.pairwise_iff_getElem.1 hs) i (i + 1) (by omega) hi (by omega)
  simp
  refine ⟨hv _ (List.getElem_mem hi), ?_⟩
  rw [e i (by omega)]
  exact h2
theorem rf_of {kd : Int} {n : Nat} {f : Nat → Itm} {nx : Lab} {mk : Int} (hok : okF f n = true) (hn : n ≤ 16) (hx : nx = noneL ∨ isL nx = true) (hk : (kd = 1 ∧ mk = 0) ∨ kd = 5) : isRF kd n f nx mk = true := by
 unfold isRF rowF bareK
 rcases hk with ⟨rfl, rfl⟩ | rfl
 ·rcases hx with hx | hx <;> simp [hok, hn, hx]
 rcases hx with hx | hx <;> simp [hok, hn, hx]
theorem short_items {f : Nat → Itm} {n : Nat} (h : okF f n = true) : ∀ x ∈ firsts f n, x.val.size ≤ 64 := by
 intro x hx
 obtain ⟨i, hi, rfl⟩ := List.mem_map.1 hx
 have := okF_at (List.mem_range.1 hi) h
 unfold okAt at this
 simp only [Bool.and_eq_true, decide_eq_true_eq] at this
 exact this.1
theorem r_inner : isR innerR = true := by decide
theorem gk_at {g : GotA} {k : Int} (h : gk g k = true) : g.has = true ∧ g.x.r.kd = k := by
 unfold gk at h
 simp only [Bool.and_eq_true, decide_eq_true_eq] at h
 exact h
theorem r_as {g : GotA} (h : GotR g) {kd mk k : Int} (hg : gk g k = true) (hk : (kd = 1 ∧ mk = 0) ∨ kd = 5) : isR (asR kd g.x mk).r.abs = true := by
 rw [isR_abs]
 obtain ⟨_, _, h3, h4, h5⟩ := isRF_kind (h.rf (gk_at hg).1)
 exact rf_of h5 h3 h4 hk
theorem halv_r {x : RA} {l : Lab} (hl : LOk l) (h : (halvA x l).2.2 = 0) : isR (halvA x l).1 = true ∧ isR (halvA x l).2.1 = true := by
 unfold halvA halvR at h ⊢
 split at h
 ·cases h
 rename_i h1
 rw [if_neg h1]
 split at h
 ·cases h
 rename_i h2
 rw [if_neg h2]
 split at h
 ·cases h
 rename_i h3
 rw [if_neg h3]
 have h4 : isRF x.r.kd x.r.n x.r.f x.r.nx x.r.mrk = true := by
  simp only [Bool.not_eq_false, Bool.and_eq_true] at h1
  exact h1.1.1
 obtain ⟨_, _, k3, k4, k5⟩ := isRF_kind h4
 have hc : ∀ c, okF (itF (covL c (firsts x.r.f x.r.n))) (covL c (firsts x.r.f x.r.n)).length = true ∧ (covL c (firsts x.r.f x.r.n)).length ≤ 16 := fun c => by
  refine ⟨rises_ok (List.Pairwise.filter _ (okF_Srt k5)) fun y hy => short_items k5 y (cov_sub hy), Nat.le_trans (cov_le _ _) ?_⟩
  rw [firsts_len]; exact k3
 exact ⟨rf_of (hc _).1 (hc _).2 (.inr (child_isL hl.isl hl.u h3 1)) (.inl ⟨rfl, rfl⟩), rf_of (hc _).1 (hc _).2 k4 (.inl ⟨rfl, rfl⟩)⟩
theorem uni_r {x y : RA} (h : (uniA x y).2 = 0) : isR (uniA x y).1 = true := by
 unfold uniA uniR at h ⊢
 split at h
 ·cases h
 rename_i h1
 rw [if_neg h1]
 split at h
 ·cases h
 rename_i h2
 rw [if_neg h2]
 split at h
 ·cases h
 rename_i h3
 rw [if_neg h3]
 split at h
 ·cases h
 rename_i h4
 rw [if_neg h4]
 simp only [Bool.not_eq_false, Bool.and_eq_true] at h1
 obtain ⟨_, _, a3, a4, a5⟩ := isRF_kind h1.1
 obtain ⟨_, _, b3, b4, b5⟩ := isRF_kind h1.2
 refine rf_of (rises_ok ?_ fun z hz => ?_) ?_ b4 (.inl ⟨rfl, rfl⟩)
 ·refine List.pairwise_append.2 ⟨okF_Srt a5, okF_Srt b5, fun u hu v hv => ?_⟩
  obtain ⟨i, hi, rfl⟩ := List.mem_map.1 hu
  obtain ⟨j, hj, rfl⟩ := List.mem_map.1 hv
  have hi := List.mem_range.1 hi
  have hj := List.mem_range.1 hj
  have h5 : (x.r.f (x.r.n - 1)).key < (y.r.f 0).key := by
   unfold ovl at h2
   simp only [Bool.and_eq_true, decide_eq_true_eq, not_and] at h2
   have := h2 (by omega) (by omega)
   omega
  have h6 : (x.r.f i).key ≤ (x.r.f (x.r.n - 1)).key := by
   by_cases he : i = x.r.n - 1
   ·rw [he]; exact Int.le_refl _
   exact Int.le_of_lt (okF_srt a5 _ _ (by omega) (by omega))
  have h7 : (y.r.f 0).key ≤ (y.r.f j).key := by
   by_cases he : j = 0
   ·rw [he]; exact Int.le_refl _
   exact Int.le_of_lt (okF_srt b5 _ _ (by omega) (by omega))
  omega
 ·rcases List.mem_append.1 hz with hz | hz
  ·exact short_items a5 z hz
  exact short_items b5 z hz
 show (firsts x.r.f x.r.n ++ firsts y.r.f y.r.n).length ≤ 16
 rw [List.length_append, firsts_len, firsts_len]; omega
structure WqR (w : Wq) : Prop where
 ok : WqOk w
 kd : w.kind = 1 ∨ w.kind = 2 ∨ w.kind = 3
 put : w.kind = 2 → isR w.r = true
def GA (g : GotA) : Prop := GotOk g ∧ GotR g
section
variable {X : Nt → Prop} {bk key : Int}
abbrev AllA {α : Type} (X : Nt → Prop) (Q : α → Prop) (t : Tr α) : Prop := t.All GA WqR X Q
abbrev Any {α : Type} : α → Prop := fun _ => True
theorem all_get {l : Lab} (h : LOk l) : AllA X GA (getT l) := all_ask ⟨⟨h, rec_z⟩, .inl rfl, fun h => absurd h (by show ¬ (1 : Int) = 2; decide)⟩
theorem all_cas {l : Lab} {v : Int} {r : Rec} (h : LOk l) (hr : RecOk r) (h2 : isR r = true) : AllA X Any (casT l v r) := all_bind (all_ask (w := ⟨2, l, v, r, zRsl⟩) ⟨⟨h, hr⟩, .inr (.inl rfl), fun _ => h2⟩) fun _ _ => trivial
theorem all_drp {l : Lab} {v : Int} (h : LOk l) : AllA X Any (drpT l v) := all_bind (all_ask (w := ⟨3, l, v, zeroRec, zRsl⟩) ⟨⟨h, rec_z⟩, .inr (.inr rfl), fun h => absurd h (by show ¬ (3 : Int) = 2; decide)⟩) fun _ _ => trivial
theorem all_splC {l : Lab} {v : Int} {c : Lab} {x : Rec} (hl : LOk l) (hc : LOk c) (hx : RecOk x) (hr : isR x = true) : ∀ n, AllA X Any (splCT l v c x n)
 | 0 => trivial
 | n + 1 => all_bind (all_get hc) fun _ _ => all_ite (fun _ => trivial) fun _ => all_bind (all_get hl) fun _ _ => all_ite (fun _ => all_bind (all_cas hc hx hr) fun _ _ => all_ite (fun _ => trivial) fun _ => all_splC hl hc hx hr n) fun _ => trivial
theorem all_split {n : Nat} {l : Lab} {v : Int} {x : RA} (hl : LOk l) (hx : RaOk x) : AllA X Any (splitT n l v x) :=
 all_ite (fun h => all_bind (all_splC hl (hl.ch 0) (halv_ok hx hl).1 (halv_r hl h).1 n) fun _ _ => all_ite (fun _ => all_bind (all_splC hl (hl.ch 1) (halv_ok hx hl).2 (halv_r hl h).2 n) fun _ _ => all_ite (fun _ => all_bind (all_cas hl rec_in r_inner) fun _ _ => trivial) fun _ => trivial) fun _ => trivial) fun _ => trivial
def FzOk : Fz → Prop
 | .fr x => RaOk x
 | _ => True
theorem all_frz {l : Lab} {v : Int} {c : Lab} (hl : LOk l) (hc : LOk c) : ∀ n, AllA X FzOk (frzT l v c n)
 | 0 => trivial
 | n + 1 => all_bind (all_get hc) fun g hg => all_ite (fun hk => all_ite (fun _ => hg.1.ra) fun _ => all_bind (all_get hl) fun _ _ => all_ite (fun _ => all_bind (all_cas hc (hg.1.ra.as 5 v).ro (by
   rcases Bool.or_eq_true _ _ ▸ hk with h | h
   ·exact r_as hg.2 h (.inr rfl)
   exact r_as hg.2 h (.inr rfl))) fun _ _ => all_ite (fun _ => hg.1.ra.as 5 v) fun _ => all_frz hl hc n) fun _ => trivial) fun _ => trivial
theorem all_clnC {l : Lab} {cl : Lab → Tr Unit} {c : Lab} (hl : LOk l) (hc : LOk c) (h : ∀ c, LOk c → AllA X Any (cl c)) : AllA X Any (clnCT l cl c) :=
 all_bind (all_get hc) fun _ _ => all_ite (fun _ => all_bind (h c hc) fun _ _ => all_bind (all_get hl) fun _ _ => all_ite (fun _ => all_bind (all_drp hc) fun _ _ => trivial) fun _ => trivial) fun _ => trivial
theorem all_cln : ∀ (n : Nat) (l : Lab), LOk l → AllA X Any (clnT n l)
 | 0, l, _ => trivial
 | n + 1, l, hl => all_ite (fun _ => trivial) fun _ => all_bind (all_clnC hl (hl.ch 0) fun c hc => all_cln n c hc) fun _ _ => all_ite (fun _ => all_bind (all_clnC hl (hl.ch 1) fun c hc => all_cln n c hc) fun _ _ => trivial) fun _ => trivial
theorem all_bck {th : Lab → Tr Unit} {l : Lab} {v : Int} (hl : LOk l) (h : ∀ c, LOk c → AllA X Any (th c)) : AllA X Any (bckT th l v) :=
 all_bind (all_cas hl rec_in r_inner) fun _ _ => all_ite (fun _ => all_bind (h _ (hl.ch 0)) fun _ _ => h _ (hl.ch 1)) fun _ => trivial
theorem all_mrg {n : Nat} {th : Lab → Tr Unit} {l : Lab} {v : Int} (hl : LOk l) (h : ∀ c, LOk c → AllA X Any (th c)) : AllA X Any (mrgT bk n th l v) :=
 all_bind (all_frz hl (hl.ch 0) n) fun a ha => match a, ha with
  | .over, _ => trivial
  | .unfit, _ => all_bck hl h
  | .fr a, ha => all_bind (all_frz hl (hl.ch 1) n) fun b hb => match b, hb with
   | .over, _ => trivial
   | .unfit, _ => all_bck hl h
   | .fr b, hb => all_ite (fun hu => all_bind (all_cas hl (uni_ok ha hb) (uni_r hu.1)) fun _ _ => all_ite (fun _ => all_cln n l hl) fun _ => trivial) fun _ => all_bck hl h
theorem all_fin {n : Nat} {th : Lab → Tr Unit} {l : Lab} {g : GotA} (hl : LOk l) (hg : GA g) (h : ∀ c, LOk c → AllA X Any (th c)) : AllA X Any (finT bk n th l g) :=
 all_ite (fun _ => all_split hl hg.1.ra) fun _ => all_ite (fun _ => all_mrg hl h) fun _ => trivial
theorem all_thwL : ∀ (n : Nat) (l up : Lab), LOk l → LOk up → AllA X Any (thwLT bk n l up)
 | 0, l, up, _, _ => trivial
 | n + 1, l, up, hl, hu => all_bind (all_get hl) fun g hg => all_ite (fun hk => all_bind (all_get hu) fun q hq => all_bind (Q := Any) (all_ite (fun _ => all_fin hu hq fun c hc => all_ite (fun _ => all_thwL n c (parV c) hc hc.par) fun _ => trivial) fun _ => trivial) fun _ _ => all_ite (fun _ => all_bind (all_cas hl (hg.1.ra.as 1 0).ro (r_as hg.2 hk (.inl ⟨rfl, rfl⟩))) fun _ _ => all_ite (fun _ => trivial) fun _ => all_thwL n l up hl hu) fun _ => trivial) fun _ => trivial
theorem all_thw {n : Nat} {l : Lab} (hl : LOk l) : AllA X Any (thwT bk n l) := all_ite (fun _ => all_thwL n l _ hl hl.par) fun _ => trivial
theorem all_fns {n : Nat} {l : Lab} {g : GotA} (hl : LOk l) (hg : GA g) : AllA X Any (fnsT bk n l g) := all_fin hl hg fun _ hc => all_thw hc
end
def SpoR (p : Lab × Spo) : Prop := (p.2.has = true → isR p.2.r = true) ∧ (p.2.has = false → p.2.r = zeroRec)
structure ShfR (L : Shf) : Prop where
 good : ShfG L
 sp : ∀ p ∈ L, SpoR p
theorem find_spo {L : Shf} (h : ∀ p ∈ L, SpoR p) (l : Lab) : ((spotOf L l).has = true → isR (spotOf L l).r = true) ∧ ((spotOf L l).has = false → (spotOf L l).r = zeroRec) := by
 unfold spotOf
 cases e : findL l L with
 | none => exact ⟨fun h => (by cases h), fun _ => rfl⟩
 | some x =>
  obtain ⟨p, hp, rfl⟩ := find_memL e
  exact h p hp
theorem newL_right : ∀ {l : List Rw} {L L' : Shf}, (∀ p ∈ L, SpoR p) → newL l L = some L' → ∀ p ∈ L', SpoR p
 | [], L, L', h2, h => by
  simp only [newL, Option.some.injEq] at h
  subst h; exact h2
 | r :: l, L, L', h2, h => by
  unfold newL at h
  split at h
  ·cases h
  rename_i hc
  have hc2 : isR r.r = true := by
   simp only [Bool.or_eq_true, Bool.not_eq_true', not_or] at hc
   simpa using hc.2
  refine newL_right (fun p hp => ?_) h
  rcases put_mem hp with rfl | hp
  ·exact ⟨fun _ => hc2, fun h => (by cases h)⟩
  exact h2 p hp
theorem newS_right {l : List Rw} {L : Shf} (hr : ∀ r ∈ l, RwG r) (h : newS l = some L) : ShfR L := by
 refine ⟨newS_good hr h, ?_⟩
 unfold newS at h
 split at h
 ·cases h
 exact newL_right (fun p hp => by cases hp) h
theorem newL_len : ∀ {l : List Rw} {L L' : Shf}, Rises L → newL l L = some L' → L'.length = L.length + l.length
 | [], L, L', hr, h => by
  simp only [newL, Option.some.injEq] at h
  subst h; rfl
 | r :: l, L, L', hr, h => by
  unfold newL at h
  split at h
  ·cases h
  rename_i hc
  have hn : (findL r.lab L).isSome = false := by
   simp only [Bool.or_eq_true, Bool.not_eq_true', not_or] at hc
   simpa using hc.1.1
  rw [newL_len (put_rises hr) h, put_len _ _ hr, hn]
  simp; omega
theorem newS_len {l : List Rw} {L : Shf} (h : newS l = some L) : L.length = l.length := by
 unfold newS at h
 split at h
 ·cases h
 have := newL_len .nil h
 simpa using this
theorem gotB_of {G : Got} (hc : G.code = 0 ∨ G.code = 8) (h : (G.has = true → isR G.r = true) ∧ (G.has = false → G.r = zeroRec)) : isGotB (gotOf G) = true := by
 unfold isGotB gotOf
 simp only [Bool.and_eq_true, Bool.or_eq_true, decide_eq_true_eq]
 refine ⟨hc, ?_⟩
 by_cases hh : G.has = true
 ·rw [if_pos hh]
  have := h.1 hh
  rw [← rn_abs G.r, isR_abs] at this
  exact this
 rw [if_neg hh, h.2 (by simpa using hh)]
 rfl
theorem do_right {L : Shf} (hL : ShfR L) {w : Wq} (hw : WqR w) :
  ((L.length : Int) < 2000 → (doL L (wntOf w)).err = 0) ∧ (doL L (wntOf w)).L.length ≤ L.length + 1 ∧ ShfR (doL L (wntOf w)).L ∧ isGotB (gotOf (doL L (wntOf w)).got) = true ∧ GA (gotOf (doL L (wntOf w)).got) := by
 obtain ⟨hgd, hv, hr⟩ := doL_good hL.good (w := wntOf w) ⟨hw.ok.lab.wf, hw.ok.r.nx, hw.ok.r.key⟩
 have hs := find_spo hL.sp w.lab
 have hcond : ((wntOf w).kind = 1 ∨ (wntOf w).kind = 2 ∨ (wntOf w).kind = 3) ∧ isL (wntOf w).lab = true ∧ ((wntOf w).kind = 2 → isR (wntOf w).r = true) := ⟨hw.kd, hw.ok.lab.isl, hw.put⟩
 have H : ((L.length : Int) < 2000 → (doL L (wntOf w)).err = 0) ∧ (doL L (wntOf w)).L.length ≤ L.length + 1 ∧ (∀ p ∈ (doL L (wntOf w)).L, SpoR p) ∧ isGotB (gotOf (doL L (wntOf w)).got) = true := by
  unfold doL
  rw [if_pos hcond]
  split
  ·exact ⟨fun _ => rfl, Nat.le_succ _, hL.sp, gotB_of (.inl rfl) hs⟩
  split
  ·exact ⟨fun _ => rfl, Nat.le_succ _, hL.sp, gotB_of (.inr rfl) ⟨fun h => (by cases h), fun _ => rfl⟩⟩
  split
  ·rename_i hfull
   exact ⟨fun h => by omega, Nat.le_succ _, hL.sp, gotB_of (.inl rfl) ⟨fun h => (by cases h), fun _ => rfl⟩⟩
  refine ⟨fun _ => rfl, ?_, fun p hp => ?_, gotB_of (.inl rfl) ⟨fun h => (by cases h), fun _ => rfl⟩⟩
  ·show (putL _ _ L).length ≤ _
   rw [put_len _ _ hL.good.ok.ris]
   split <;> omega
  rcases put_mem hp with rfl | hp
  ·refine ⟨fun h => ?_, fun h => ?_⟩
   ·have h2 : (wntOf w).kind = 2 := of_decide_eq_true h
    show isR (if (wntOf w).kind = 2 then (wntOf w).r else zeroRec) = true
    rw [if_pos h2]; exact hw.put h2
   have h2 : ¬ (wntOf w).kind = 2 := of_decide_eq_false h
   show (if (wntOf w).kind = 2 then (wntOf w).r else zeroRec) = zeroRec
   rw [if_neg h2]
  exact hL.sp p hp
 obtain ⟨h1, h2, h3, h4⟩ := H
 have hi : InG (gotOf (doL L (wntOf w)).got) := by
  refine got_in (G := (doL L (wntOf w)).got) ?_ hv hr
  unfold gotOf GotA.abs
  simp only [rn_abs]
 exact ⟨h1, h2, ⟨hgd, h3⟩, h4, got_ok hi h4, got_r h4⟩
abbrev TQ (α : Type) := α → Nt → Nat → Shf → Int → Prop
def Tr.wp {α : Type} (most b : Int) (Q : TQ α) (E : RunR → Prop) : Tr α → Nt → Nat → Shf → Int → Prop
 | .ret a, x, n, L, k => Q a x n L k
 | .dead, x, n, L, k => E ⟨5, zRsl, n, 0, L, k⟩
 | .note y t, x, n, L, k => t.wp most b Q E y n L k
 | .ask w f, x, n, L, k =>
  if b ≤ n then E ⟨2, ntR x, n, 0, L, k⟩
  else if most ≤ n then E ⟨3, zRsl, n, 0, L, k⟩
  else if (doL L (wntOf w)).err ≠ 0 then E ⟨4, zRsl, n, (doL L (wntOf w)).err, (doL L (wntOf w)).L, if (doL L (wntOf w)).wrote then IntKind.i64.wrap (k + 1) else k⟩
  else (f (gotOf (doL L (wntOf w)).got)).wp most b Q E x (n + 1) (doL L (wntOf w)).L (if (doL L (wntOf w)).wrote then IntKind.i64.wrap (k + 1) else k)
section
variable {α β : Type} {most b : Int} {E : RunR → Prop}
theorem wp_bind {Q : TQ β} : ∀ {t : Tr α} {f : α → Tr β} {x : Nt} {n : Nat} {L : Shf} {k : Int}, t.wp most b (fun a x n L k => (f a).wp most b Q E x n L k) E x n L k → (t.bind f).wp most b Q E x n L k
 | .ret a, f, x, n, L, k, h => h
 | .dead, f, x, n, L, k, h => h
 | .note y t, f, x, n, L, k, h => wp_bind (t := t) h
 | .ask w g, f, x, n, L, k, h => by
  unfold Tr.wp at h
  show (Tr.ask w fun a => (g a).bind f).wp most b Q E x n L k
  unfold Tr.wp
  by_cases h1 : b ≤ n
  ·rw [if_pos h1] at h ⊢; exact h
  rw [if_neg h1] at h ⊢
  by_cases h2 : most ≤ n
  ·rw [if_pos h2] at h ⊢; exact h
  rw [if_neg h2] at h ⊢
  by_cases h3 : (doL L (wntOf w)).err ≠ 0
  ·rw [if_pos h3] at h ⊢; exact h
  rw [if_neg h3] at h ⊢; exact wp_bind (t := g _) h
theorem wp_mono {Q R : TQ α} {F : RunR → Prop} (hE : ∀ r, E r → F r) : ∀ {t : Tr α} {x : Nt} {n : Nat} {L : Shf} {k : Int}, t.wp most b Q E x n L k → (∀ a x n L k, Q a x n L k → R a x n L k) → t.wp most b R F x n L k
 | .ret a, x, n, L, k, h, hq => hq _ _ _ _ _ h
 | .dead, x, n, L, k, h, hq => hE _ h
 | .note y t, x, n, L, k, h, hq => wp_mono hE (t := t) h hq
 | .ask w g, x, n, L, k, h, hq => by
  unfold Tr.wp at h ⊢
  by_cases h1 : b ≤ n
  ·rw [if_pos h1] at h ⊢; exact hE _ h
  rw [if_neg h1] at h ⊢
  by_cases h2 : most ≤ n
  ·rw [if_pos h2] at h ⊢; exact hE _ h
  rw [if_neg h2] at h ⊢
  by_cases h3 : (doL L (wntOf w)).err ≠ 0
  ·rw [if_pos h3] at h ⊢; exact hE _ h
  rw [if_neg h3] at h ⊢; exact wp_mono hE (t := g _) h hq
theorem wp_true : ∀ (t : Tr α) (x : Nt) {n : Nat} {L : Shf} {k : Int}, t.wp most b (fun _ _ _ _ _ => True) (fun _ => True) x n L k
 | .ret a, x, n, L, k => trivial
 | .dead, x, n, L, k => trivial
 | .note y t, x, n, L, k => wp_true t y
 | .ask w g, x, n, L, k => by
  unfold Tr.wp
  split
  ·trivial
  split
  ·trivial
  split
  ·trivial
  exact wp_true _ x
theorem wp_ite {Q : TQ α} {c : Prop} [Decidable c] {t u : Tr α} {x : Nt} {n : Nat} {L : Shf} {k : Int} (ht : c → t.wp most b Q E x n L k) (hu : ¬ c → u.wp most b Q E x n L k) : (if c then t else u).wp most b Q E x n L k := by
 by_cases h : c
 ·rw [if_pos h]; exact ht h
 rw [if_neg h]; exact hu h
end
theorem wp_dir {most b : Int} {P : RunR → Prop} : ∀ {t : Tr Rsl} {x : Nt} {n : Nat} {L : Shf} {k : Int}, t.wp most b (fun a x n L k => P ⟨2, a, n, 0, L, k⟩) P x n L k → P (t.dir most b x n L k)
 | .ret a, x, n, L, k, h => h
 | .dead, x, n, L, k, h => h
 | .note y t, x, n, L, k, h => wp_dir (t := t) h
 | .ask w g, x, n, L, k, h => by
  unfold Tr.wp at h
  unfold Tr.dir
  by_cases h1 : b ≤ n
  ·rw [if_pos h1] at h ⊢; exact h
  rw [if_neg h1] at h ⊢
  by_cases h2 : most ≤ n
  ·rw [if_pos h2] at h ⊢; exact h
  rw [if_neg h2] at h ⊢
  by_cases h3 : (doL L (wntOf w)).err ≠ 0
  ·rw [if_pos h3] at h ⊢; exact h
  rw [if_neg h3] at h ⊢; exact wp_dir (t := g _) h
abbrev gotAtL (L : Shf) (l : Lab) : GotA := gotOf ⟨0, (spotOf L l).ver, (spotOf L l).has, (spotOf L l).r⟩
theorem doL_get {L : Shf} {l : Lab} (hl : isL l = true) : doL L (wntOf ⟨1, l, 0, zeroRec, zRsl⟩) = ⟨L, false, ⟨0, (spotOf L l).ver, (spotOf L l).has, (spotOf L l).r⟩, 0⟩ := by
 unfold doL wntOf
 rw [if_pos ⟨.inl rfl, hl, fun h => absurd h (by show ¬ (1 : Int) = 2; decide)⟩, if_pos rfl]
theorem doL_cas {L : Shf} {l : Lab} {r : Rec} (hl : isL l = true) (hr : isR r = true) (hf : L.length < 2000) : doL L (wntOf ⟨2, l, (spotOf L l).ver, r, zRsl⟩) = ⟨putL l ⟨inc (spotOf L l).ver, true, r⟩ L, true, ⟨0, inc (spotOf L l).ver, false, zeroRec⟩, 0⟩ := by
 unfold doL wntOf
 rw [if_pos ⟨.inr (.inl rfl), hl, fun _ => hr⟩, if_neg (by show ¬ (2 : Int) = 1; decide), if_neg (fun h => h rfl), if_neg (by omega)]
 rfl
theorem spot_put' (L : Shf) (l : Lab) (x : Spo) (l' : Lab) : spotOf (putL l x L) l' = if l = l' then x else spotOf L l' := by
 unfold spotOf
 rw [find_put]
 split <;> rfl
section
variable {α : Type} {most b : Int} {E : RunR → Prop} {x : Nt} {n : Nat} {L : Shf} {k : Int}
theorem wp_get {Q : TQ GotA} {l : Lab} (hl : LOk l) (h1 : (n : Int) < b) (h2 : b ≤ most) (h : Q (gotAtL L l) x (n + 1) L k) : (getT l).wp most b Q E x n L k := by
 unfold getT askT Tr.wp
 rw [if_neg (by omega), if_neg (by omega), doL_get hl.isl, if_neg (fun h => h rfl)]
 exact h
theorem wp_cas {Q : TQ Bool} {l : Lab} {r : Rec} {v : Int} (hl : LOk l) (hr : isR r = true) (hv : v = (spotOf L l).ver) (hf : L.length < 2000) (h1 : (n : Int) < b) (h2 : b ≤ most) (h : Q true x (n + 1) (putL l ⟨inc v, true, r⟩ L) (IntKind.i64.wrap (k + 1))) : (casT l v r).wp most b Q E x n L k := by
 subst hv
 refine wp_bind ?_
 unfold askT Tr.wp
 rw [if_neg (by omega), if_neg (by omega), doL_cas hl.isl hr hf, if_neg (fun h => h rfl)]
 exact h
end
theorem ch_val {l : Lab} (hl : LOk l) (h64 : l.len ≠ 64) (b : Int) : chV l b = childL l b := by
 unfold chV chE
 rw [hl.isl]
 simp [h64]
theorem ch_len {l : Lab} (hl : LOk l) (h64 : l.len ≠ 64) (b : Int) : (chV l b).len = l.len + 1 := by rw [ch_val hl h64]; rfl
theorem ch_ne {l : Lab} (hl : LOk l) (h64 : l.len ≠ 64) (b : Int) : chV l b ≠ l := fun h => by
 have := ch_len hl h64 b
 rw [h] at this; omega
theorem ch_two {l : Lab} (hl : LOk l) (h64 : l.len ≠ 64) : chV l 0 ≠ chV l 1 := by
 rw [ch_val hl h64, ch_val hl h64]
 intro h
 have h2 : l.bits = l.bits + ((2 ^ (63 - l.len.toNat) : Nat) : Int) := by
  have := congrArg Lab.bits h
  simpa [childL] using this
 have : 0 < 2 ^ (63 - l.len.toNat) := Nat.pow_pos (by decide)
 omega
theorem ch_par {l : Lab} (hl : LOk l) (h64 : l.len ≠ 64) (b : Int) : parE (chV l b) = 0 ∧ parV (chV l b) = l := by
 have hlen := ch_len hl h64 b
 obtain ⟨h0, h1, h2⟩ := lab_parts hl.isl
 have hE : parE (chV l b) = 0 := by
  unfold parE
  rw [(hl.ch b).isl, if_neg (by decide), if_neg (by omega)]
 refine ⟨hE, ?_⟩
 unfold parV
 rw [if_pos hE, ch_val hl h64]
 obtain ⟨q, hq, hq2⟩ := lab_mul hl.isl hl.u h64
 have hpos : 0 < 2 ^ (63 - l.len.toNat) := Nat.pow_pos (by decide)
 unfold parL
 refine lab_ext (by show l.len + 1 - 1 = l.len; omega) ?_
 show ((headN (childL l b).bits.toNat ((l.len + 1).toNat - 1) : Nat) : Int) = l.bits
 have hn : (l.len + 1).toNat - 1 = l.len.toNat := by omega
 rw [hn]
 have hb : (childL l b).bits.toNat = (if b = 1 then 2 ^ (63 - l.len.toNat) else 0) + (2 * 2 ^ (63 - l.len.toNat)) * q := by
  unfold childL
  simp only
  split
  ·rw [hq, Nat.mul_comm q]; omega
  rw [hq, Nat.mul_comm q]; omega
 unfold headN
 have hn64 : l.len.toNat < 64 := by omega
 rw [half_pow hn64, hb, Nat.add_mul_div_left _ _ (Nat.mul_pos (by decide) hpos), hq]
 have hz : (if b = 1 then 2 ^ (63 - l.len.toNat) else 0) / (2 * 2 ^ (63 - l.len.toNat)) = 0 := by
  apply Nat.div_eq_of_lt
  split <;> omega
 rw [hz, Nat.zero_add]
theorem gotAt_ga {L : Shf} (hR : ShfR L) {l : Lab} (hl : LOk l) : GA (gotAtL L l) := by
 have h := (do_right hR (w := ⟨1, l, 0, zeroRec, zRsl⟩) ⟨⟨hl, rec_z⟩, .inl rfl, fun h => absurd h (by show ¬ (1 : Int) = 2; decide)⟩).2.2.2.2
 rw [doL_get hl.isl] at h
 exact h
theorem put_right {L : Shf} (hR : ShfR L) (hf : L.length < 2000) {l : Lab} {r : Rec} (hl : LOk l) (hro : RecOk r) (hr : isR r = true) : ShfR (putL l ⟨inc (spotOf L l).ver, true, r⟩ L) ∧ (putL l ⟨inc (spotOf L l).ver, true, r⟩ L).length ≤ L.length + 1 := by
 have h := do_right hR (w := ⟨2, l, (spotOf L l).ver, r, zRsl⟩) ⟨⟨hl, hro⟩, .inr (.inl rfl), fun _ => hr⟩
 rw [doL_cas hl.isl hr hf] at h
 exact ⟨h.2.2.1, h.2.1⟩
theorem gk_iff (L : Shf) (l : Lab) (kd : Int) : gk (gotAtL L l) kd = true ↔ (spotOf L l).has = true ∧ (spotOf L l).r.kind = kd := by
 unfold gk gotAtL gotOf
 simp only [Bool.and_eq_true, decide_eq_true_eq]
 rfl
structure Beh (c : Lab) (d : Nat) (L L' : Shf) : Prop where
 right : ShfR L'
 len : L'.length ≤ L.length + d
 else_ : ∀ l, l ≠ c → spotOf L' l = spotOf L l
theorem Beh.refl {c : Lab} {L : Shf} (h : ShfR L) (d : Nat) : Beh c d L L := ⟨h, by omega, fun _ _ => rfl⟩
theorem beh_put {L : Shf} (hR : ShfR L) (hf : L.length < 2000) {l : Lab} {r : Rec} (hl : LOk l) (hro : RecOk r) (hr : isR r = true) : Beh l 1 L (putL l ⟨inc (spotOf L l).ver, true, r⟩ L) := by
 obtain ⟨h1, h2⟩ := put_right hR hf hl hro hr
 exact ⟨h1, h2, fun l' h => by rw [spot_put', if_neg (fun e => h e.symm)]⟩
section
variable {most b : Int} {E : RunR → Prop} {x : Nt} {n : Nat} {L : Shf} {k : Int} {bk : Int}
theorem wp_splC {Q : TQ Bool} {l c : Lab} {r : Rec} {v : Int} {m : Nat} (hl : LOk l) (hc : LOk c) (hne : c ≠ l) (hro : RecOk r) (hr : isR r = true) (hrk : r.kind = 1) (hR : ShfR L) (hf : L.length < 2000) (hv : (spotOf L l).ver = v) (h1 : (n : Int) + 3 ≤ b) (h2 : b ≤ most)
  (h : ∀ n' L' k', n' ≤ n + 3 → Beh c 1 L L' → (spotOf L' c).has = true → (spotOf L' c).r.kind ≠ 5 → Q true x n' L' k') : (splCT l v c r (m + 1)).wp most b Q E x n L k := by
 unfold splCT
 refine wp_bind (wp_get hc (by omega) h2 (wp_ite (fun hg => ?_) fun _ => wp_bind (wp_get hl (by omega) h2 (wp_ite (fun _ => ?_) fun hne => absurd hv hne))))
 ·simp only [Bool.and_eq_true, Bool.not_eq_true', decide_eq_false_iff_not] at hg
  exact h _ _ _ (by omega) (Beh.refl hR 1) hg.1 hg.2
 refine wp_bind (wp_cas hc hr rfl hf (by omega) h2 (wp_ite (fun _ => ?_) fun hf => absurd rfl hf))
 refine h _ _ _ (by omega) (beh_put hR hf hc hro hr) (by rw [spot_put', if_pos rfl]) ?_
 rw [spot_put', if_pos rfl]
 show r.kind ≠ 5
 rw [hrk]; decide
theorem wp_frz {Q : TQ Fz} {l c : Lab} {v : Int} {m : Nat} (hl : LOk l) (hc : LOk c) (hne : c ≠ l) (hR : ShfR L) (hf : L.length < 2000) (hv : (spotOf L l).ver = v) (h1 : (n : Int) + 3 ≤ b) (h2 : b ≤ most)
  (h : ∀ z n' L' k', n' ≤ n + 3 → Beh c 1 L L' → (z = .unfit ∨ ∃ y, z = .fr y ∧ RaOk y) → Q z x n' L' k') : (frzT l v c (m + 1)).wp most b Q E x n L k := by
 have hga := gotAt_ga hR hc
 unfold frzT
 refine wp_bind (wp_get hc (by omega) h2 (wp_ite (fun hg => wp_ite (fun _ => ?_) fun _ => wp_bind (wp_get hl (by omega) h2 (wp_ite (fun _ => ?_) fun hne => absurd hv hne))) fun _ => ?_))
 ·exact h _ _ _ _ (by omega) (Beh.refl hR 1) (.inr ⟨_, rfl, hga.1.ra⟩)
 ·have hr : isR (asR 5 (gotAtL L c).x v).r.abs = true := by
   rcases Bool.or_eq_true _ _ ▸ hg with h | h
   ·exact r_as hga.2 h (.inr rfl)
   exact r_as hga.2 h (.inr rfl)
  refine wp_bind (wp_cas hc hr rfl hf (by omega) h2 (wp_ite (fun _ => ?_) fun hf => absurd rfl hf))
  exact h _ _ _ _ (by omega) (beh_put hR hf hc (hga.1.ra.as 5 v).ro hr) (.inr ⟨_, rfl, hga.1.ra.as 5 v⟩)
 exact h _ _ _ _ (by omega) (Beh.refl hR 1) (.inl rfl)
theorem wp_thw {Q : TQ Unit} {l c : Lab} {m : Nat} (hl : LOk l) (hc : LOk c) (hp : parE c = 0 ∧ parV c = l) (hR : ShfR L) (hf : L.length < 2000) (hin : (spotOf L l).has = true ∧ (spotOf L l).r.kind = 2) (h1 : (n : Int) + 3 ≤ b) (h2 : b ≤ most)
  (h : ∀ n' L' k', n' ≤ n + 3 → Beh c 1 L L' → Q () x n' L' k') : (thwT bk (m + 1) c).wp most b Q E x n L k := by
 have hga := gotAt_ga hR hc
 unfold thwT
 rw [if_pos hp.1, hp.2]
 unfold thwLT
 have hk : ∀ kd, kd ≠ 2 → gk (gotAtL L l) kd = false := fun kd hkd => by
  cases hh : gk (gotAtL L l) kd with
  | false => rfl
  | true => rw [gk_iff] at hh; exact absurd (hh.2.symm.trans hin.2) hkd
 refine wp_bind (wp_get hc (by omega) h2 (wp_ite (fun hg => wp_bind (wp_get hl (by omega) h2 (wp_bind (wp_ite (fun h34 => ?_) fun _ => ?_)))) fun _ => ?_))
 ·rw [hk 3 (by decide), hk 4 (by decide)] at h34; cases h34
 ·refine wp_ite (fun _ => ?_) fun hn => absurd ((gk_iff L l 2).2 hin) hn
  have hr : isR (asR 1 (gotAtL L c).x 0).r.abs = true := r_as hga.2 hg (.inl ⟨rfl, rfl⟩)
  refine wp_bind (wp_cas hc hr rfl hf (by omega) h2 (wp_ite (fun _ => ?_) fun hf => absurd rfl hf))
  exact h _ _ _ (by omega) (beh_put hR hf hc (hga.1.ra.as 1 0).ro hr)
 exact h _ _ _ (by omega) (Beh.refl hR 1)
theorem wp_bck {Q : TQ Unit} {l : Lab} {v : Int} {m : Nat} (hl : LOk l) (h64 : l.len ≠ 64) (hR : ShfR L) (hf : L.length + 4 ≤ 2000) (hv : (spotOf L l).ver = v) (h1 : (n : Int) + 7 ≤ b) (h2 : b ≤ most)
  (h : ∀ n' L' k', (spotOf L' l).has = true → (spotOf L' l).r.kind = 2 → Q () x n' L' k') : (bckT (thwT bk (m + 1)) l v).wp most b Q E x n L k := by
 unfold bckT
 refine wp_bind (wp_cas hl r_inner hv.symm (by omega) (by omega) h2 (wp_ite (fun _ => ?_) fun hf => absurd rfl hf))
 have hb := beh_put hR (by omega) hl rec_in r_inner
 rw [hv] at hb
 have hi : spotOf (putL l ⟨inc v, true, innerR⟩ L) l = ⟨inc v, true, innerR⟩ := by rw [spot_put', if_pos rfl]
 refine wp_bind (wp_thw (l := l) hl (hl.ch 0) (ch_par hl h64 0) hb.right (by have := hb.len; omega) (by rw [hi]; exact ⟨rfl, rfl⟩) (by omega) h2 fun n2 L2 k2 hn2 hb2 => ?_)
 have hi2 := (hb2.else_ l (ch_ne hl h64 0).symm).trans hi
 refine wp_thw (l := l) hl (hl.ch 1) (ch_par hl h64 1) hb2.right (by have := hb.len; have := hb2.len; omega) (by rw [hi2]; exact ⟨rfl, rfl⟩) (by omega) h2 fun n3 L3 k3 hn3 hb3 => ?_
 have hi3 := (hb3.else_ l (ch_ne hl h64 1).symm).trans hi2
 exact h _ _ _ (by rw [hi3]) (by rw [hi3]; rfl)
end
theorem doL_keep {L : Shf} {w : Wq} {l : Lab} (h : w.kind ≠ 1 → w.lab ≠ l) : spotOf (doL L (wntOf w)).L l = spotOf L l := by
 unfold doL
 split
 ·split
  ·rfl
  rename_i h1
  split
  ·rfl
  split
  ·rfl
  show spotOf (putL _ _ L) l = _
  rw [spot_put']; exact if_neg (h h1)
 rfl
theorem wp_keep {α : Type} {X : Nt → Prop} {Y : α → Prop} {most b : Int} {l : Lab} : ∀ {t : Tr α} {x : Nt} {n : Nat} {L : Shf} {k : Int}, t.All (fun _ => True) (fun w => w.kind ≠ 1 → w.lab ≠ l) X Y → t.wp most b (fun _ _ _ L' _ => spotOf L' l = spotOf L l) (fun r => spotOf r.L l = spotOf L l) x n L k
 | .ret a, x, n, L, k, h => rfl
 | .dead, x, n, L, k, h => rfl
 | .note y t, x, n, L, k, h => wp_keep (t := t) h.2
 | .ask w f, x, n, L, k, h => by
  have hd := doL_keep (L := L) h.1
  unfold Tr.wp
  split
  ·rfl
  split
  ·rfl
  split
  ·exact hd
  have h3 := wp_keep (most := most) (b := b) (l := l) (t := f (gotOf (doL L (wntOf w)).got)) (x := x) (n := n + 1) (L := (doL L (wntOf w)).L) (k := if (doL L (wntOf w)).wrote then IntKind.i64.wrap (k + 1) else k) (h.2 _ trivial)
  rw [hd] at h3
  exact h3
section
variable {X : Nt → Prop} {l : Lab}
abbrev Lng (l : Lab) (w : Wq) : Prop := w.kind ≠ 1 → w.lab ≠ l
theorem lng_get (c : Lab) : (getT c).All (fun _ => True) (Lng l) X (fun _ => True) := all_ask fun h => absurd rfl h
theorem lng_drp {c : Lab} {v : Int} (h : c ≠ l) : (drpT c v).All (fun _ => True) (Lng l) X (fun _ => True) := all_bind (all_ask (w := ⟨3, c, v, zeroRec, zRsl⟩) fun _ => h) fun _ _ => trivial
theorem lng_cln : ∀ (n : Nat) (d : Lab), LOk d → l.len ≤ d.len → (clnT n d).All (fun _ => True) (Lng l) X (fun _ => True)
 | 0, d, _, _ => trivial
 | n + 1, d, hd, hle => all_ite (fun _ => trivial) fun h64 => by
  have hc : ∀ b, (clnCT d (clnT n) (chV d b)).All (fun _ => True) (Lng l) X (fun _ => True) := fun b => by
   have h1 := ch_len hd h64 b
   have hne : chV d b ≠ l := fun h => by rw [h] at h1; omega
   exact all_bind (lng_get _) fun _ _ => all_ite (fun _ => all_bind (lng_cln n _ (hd.ch b) (by omega)) fun _ _ => all_bind (lng_get _) fun _ _ => all_ite (fun _ => all_bind (lng_drp hne) fun _ _ => trivial) fun _ => trivial) fun _ => trivial
  exact all_bind (hc 0) fun _ _ => all_ite (fun _ => all_bind (hc 1) fun _ _ => trivial) fun _ => trivial
end
def Mrgd (bk : Int) (s : Spo) : Prop := s.has = true ∧ (s.r.kind = 2 ∨ (s.r.kind = 1 ∧ (s.r.items.length : Int) ≤ bk))
section
variable {most b : Int} {x : Nt} {n : Nat} {L : Shf} {k : Int} {bk : Int}
theorem uni_kind {y z : RA} (h : (uniA y z).2 = 0) : (uniA y z).1.kind = 1 := by
 unfold uniA uniR at h ⊢
 split at h
 ·cases h
 rename_i h1
 rw [if_neg h1]
 split at h
 ·cases h
 rename_i h2
 rw [if_neg h2]
 split at h
 ·cases h
 rename_i h3
 rw [if_neg h3]
 split at h
 ·cases h
 rename_i h4
 rw [if_neg h4]
theorem wp_mrg {l : Lab} {v : Int} {m : Nat} (hl : LOk l) (h64 : l.len ≠ 64) (hR : ShfR L) (hf : L.length + 8 ≤ 2000) (hv : (spotOf L l).ver = v) (h1 : (n : Int) + 20 ≤ b) (h2 : b ≤ most) :
  (mrgT bk (m + 1) (thwT bk (m + 1)) l v).wp most b (fun _ _ _ L' _ => Mrgd bk (spotOf L' l)) (fun r => Mrgd bk (spotOf r.L l)) x n L k := by
 unfold mrgT
 refine wp_bind (wp_frz hl (hl.ch 0) (ch_ne hl h64 0) hR (by omega) hv (by omega) h2 fun z n1 L1 k1 hn1 hb1 hz => ?_)
 have e1 := hb1.else_ l (ch_ne hl h64 0).symm
 have l1 := hb1.len
 rcases hz with rfl | ⟨y, rfl, hy⟩
 ·exact wp_bck hl h64 hb1.right (by omega) (by rw [e1]; exact hv) (by omega) h2 fun n' L' k' a1 a2 => ⟨a1, .inl a2⟩
 refine wp_bind (wp_frz hl (hl.ch 1) (ch_ne hl h64 1) hb1.right (by omega) (by rw [e1]; exact hv) (by omega) h2 fun z2 n2 L2 k2 hn2 hb2 hz2 => ?_)
 have e2 := (hb2.else_ l (ch_ne hl h64 1).symm).trans e1
 have l2 := hb2.len
 rcases hz2 with rfl | ⟨y2, rfl, hy2⟩
 ·exact wp_bck hl h64 hb2.right (by omega) (by rw [e2]; exact hv) (by omega) h2 fun n' L' k' a1 a2 => ⟨a1, .inl a2⟩
 refine wp_ite (fun hu => ?_) fun _ => wp_bck hl h64 hb2.right (by omega) (by rw [e2]; exact hv) (by omega) h2 fun n' L' k' a1 a2 => ⟨a1, .inl a2⟩
 refine wp_bind (wp_cas hl (uni_r hu.1) (by rw [e2]; exact hv.symm) (by omega) (by omega) h2 (wp_ite (fun _ => ?_) fun hf => absurd rfl hf))
 have hM : Mrgd bk (spotOf (putL l ⟨inc v, true, (uniA y y2).1⟩ L2) l) := by
  rw [spot_put', if_pos rfl]
  exact ⟨rfl, .inr ⟨uni_kind hu.1, hu.2⟩⟩
 refine wp_mono (E := fun r => spotOf r.L l = spotOf (putL l ⟨inc v, true, (uniA y y2).1⟩ L2) l) (fun r h => by rw [h]; exact hM) (wp_keep (X := fun _ => True) (Y := fun _ => True) (lng_cln _ l hl (Int.le_refl _))) fun _ _ _ _ _ h => by rw [h]; exact hM
structure Splt (l : Lab) (L : Shf) : Prop where
 inn : (spotOf L l).has = true ∧ (spotOf L l).r.kind = 2
 ch : ∀ c, c = chV l 0 ∨ c = chV l 1 → (spotOf L c).has = true ∧ (spotOf L c).r.kind ≠ 5
theorem halv_kind {y : RA} {l : Lab} (h : (halvA y l).2.2 = 0) : (halvA y l).1.kind = 1 ∧ (halvA y l).2.1.kind = 1 := by
 unfold halvA halvR at h ⊢
 split at h
 ·cases h
 rename_i h1
 rw [if_neg h1]
 split at h
 ·cases h
 rename_i h2
 rw [if_neg h2]
 split at h
 ·cases h
 rename_i h3
 rw [if_neg h3]
 exact ⟨rfl, rfl⟩
theorem wp_split {l : Lab} {v : Int} {m : Nat} {y : RA} (hy : RaOk y) (hl : LOk l) (h64 : l.len ≠ 64) (hR : ShfR L) (hf : L.length + 8 ≤ 2000) (hv : (spotOf L l).ver = v) (h1 : (n : Int) + 20 ≤ b) (h2 : b ≤ most) {E : RunR → Prop} (hh : (halvA y l).2.2 = 0) :
  (splitT (m + 1) l v y).wp most b (fun _ _ _ L' _ => Splt l L') E x n L k := by
 unfold splitT
 rw [if_pos hh]
 refine wp_bind (wp_splC hl (hl.ch 0) (ch_ne hl h64 0) (halv_ok hy hl).1 (halv_r hl hh).1 (halv_kind hh).1 hR (by omega) hv (by omega) h2 fun n1 L1 k1 hn1 hb1 p1 p2 => ?_)
 have e1 := hb1.else_ l (ch_ne hl h64 0).symm
 have l1 := hb1.len
 refine wp_ite (fun _ => ?_) fun hf => absurd rfl hf
 refine wp_bind (wp_splC hl (hl.ch 1) (ch_ne hl h64 1) (halv_ok hy hl).2 (halv_r hl hh).2 (halv_kind hh).2 hb1.right (by omega) (by rw [e1]; exact hv) (by omega) h2 fun n2 L2 k2 hn2 hb2 q1 q2 => ?_)
 have e2 := (hb2.else_ l (ch_ne hl h64 1).symm).trans e1
 have l2 := hb2.len
 have e3 := hb2.else_ (chV l 0) (ch_two hl h64)
 refine wp_ite (fun _ => ?_) fun hf => absurd rfl hf
 refine wp_bind (wp_cas hl r_inner (by rw [e2]; exact hv.symm) (by omega) (by omega) h2 ?_)
 refine ⟨by rw [spot_put', if_pos rfl]; exact ⟨rfl, rfl⟩, fun c hc => ?_⟩
 rcases hc with rfl | rfl
 ·rw [spot_put', if_neg (fun h => ch_ne hl h64 0 h.symm), e3]; exact ⟨p1, p2⟩
 rw [spot_put', if_neg (fun h => ch_ne hl h64 1 h.symm)]; exact ⟨q1, q2⟩
end
def helpT (J : JobA) (n : Nat) : Tr Rsl :=
 if J.kind = 2 then (clnT n J.lab).bind fun _ => .ret zRsl
 else if J.kind = 1 then (getT J.lab).bind fun g => (if (gk g 3 || gk g 4) = true then fnsT J.bucket n J.lab g else if gk g 5 = true then thwT J.bucket n J.lab else .ret ()).bind fun _ => .ret zRsl
 else .ret zRsl
theorem run_help (J : JobA) (k : Int) (p : Pst) : (helpT J (p.n + 1)).run k p = helpM J.bucket k J p := by
 unfold helpT helpM
 exact ri (rb (run_cln _ _ _) fun _ _ => rfl) (ri (rb (run_get _ _) fun g q => rb (ri (run_fns _ _ _ _) (ri (run_thw _ _ _) rfl)) fun _ _ => rfl) rfl)
theorem app_help (J : JobA) {d n n' : Nat} (h : d ≤ n) (h' : d ≤ n') : App d (helpT J n) (helpT J n') :=
 app_ite ((app_cln _ h h').bind fun _ => .ret _) (app_ite ((app_get _).bind fun _ => (app_ite (app_fns _ _ h h') (app_ite (app_thw _ h h') (.ret _))).bind fun _ => .ret _) (.ret _))
theorem all_help {X : Nt → Prop} {J : JobA} (hl : LOk J.lab) (n : Nat) : AllA X (fun a => a = zRsl) (helpT J n) :=
 all_ite (fun _ => all_bind (all_cln _ _ hl) fun _ _ => rfl) fun _ => all_ite (fun _ => all_bind (all_get hl) fun g hg => all_bind (Q := Any) (all_ite (fun _ => all_fns hl hg) fun _ => all_ite (fun _ => all_thw hl) fun _ => trivial) fun _ _ => rfl) fun _ => rfl
theorem help_tr {J : JobA} (hj : isJobB J = true) (hk : J.kind = 1 ∨ J.kind = 2) : TrN (helpN J) J.budget (helpT J) where
 nxt := fun n f hg => by
  unfold helpN nextR
  rw [if_pos (by simp [hj, hk, hg])]
  exact congrArg _ (run_help J (J.budget - n) (pst0 n f)).symm
 app := fun h h' => app_help J h h'
theorem budget_of {J : JobA} (hj : isJobB J = true) : 0 ≤ J.budget ∧ J.budget ≤ 2000 := by
 unfold isJobB btw at hj
 simp only [Bool.and_eq_true, decide_eq_true_eq] at hj
 omega
theorem help_dir {J : JobA} (hJ : JobIn J) (hj : isJobB J = true) (hk : J.kind = 1 ∨ J.kind = 2) {L : Shf} (hL : ShfR L) (k : Int) : runQ (helpN J) 3000 2001 [] L k = (helpT J 2001).dir 3000 J.budget nt0 0 L k := by
 have hb := budget_of hj
 exact dir_run (A := GA) (W := WqR) (X := fun _ => True) (Q := fun a => a = zRsl) (R := ShfR) (help_tr hj hk) (m := 2001) (by omega) hb.1 (fun w hw => by rcases hw.kd with h | h | h <;> omega) (fun L w hL hw he => by
  obtain ⟨_, _, h3, h4, h5⟩ := do_right hL hw
  exact ⟨h3, h4, h5⟩) (all_help (job_lab hJ hj) _) (by omega) hL k
theorem help_ends {J : JobA} (hJ : JobIn J) (hj : isJobB J = true) (hk : J.kind = 1 ∨ J.kind = 2) {L : Shf} (hL : ShfR L) (hn : (L.length : Int) + J.budget ≤ 2000) (k : Int) : (runQ (helpN J) 3000 2001 [] L k).st = 2 := by
 have hb0 := budget_of hj
 rw [help_dir hJ hj hk hL k]
 exact (dir_ends (A := GA) (W := WqR) (X := fun x => x = nt0) (Q := fun a => a = zRsl) (R := ShfR) (b := J.budget) (most := 3000) (fun L w hL hw hlen => by
  obtain ⟨h1, h2, h3, h4, h5⟩ := do_right hL hw
  exact ⟨h1 hlen, h2, h3, h5⟩) (helpT J 2001) nt0 0 L k 2001 (all_help (job_lab hJ hj) _) rfl (app_help J (Nat.le_refl _) (Nat.le_refl _)) hL (by simpa using hb0.1) (by simp; omega) (by omega) (by simp; omega)).1
theorem wp_shf : ∀ {t : Tr Rsl} {X : Nt → Prop} {Q : Rsl → Prop} {most b : Int} {x : Nt} {n : Nat} {L : Shf} {k : Int}, AllA X Q t → ShfR L → t.wp most b (fun _ _ _ L' _ => ShfR L') (fun r => ShfR r.L) x n L k
 | .ret a, X, Q, most, b, x, n, L, k, h, hL => hL
 | .dead, X, Q, most, b, x, n, L, k, h, hL => hL
 | .note y t, X, Q, most, b, x, n, L, k, h, hL => wp_shf (t := t) h.2 hL
 | .ask w f, X, Q, most, b, x, n, L, k, h, hL => by
  obtain ⟨h1, h2, h3, h4, h5⟩ := do_right hL h.1
  unfold Tr.wp
  split
  ·exact hL
  split
  ·exact hL
  split
  ·exact h3
  exact wp_shf (t := f _) (h.2 _ h5) h3
theorem help_right {J : JobA} (hJ : JobIn J) (hj : isJobB J = true) (hk : J.kind = 1 ∨ J.kind = 2) {L : Shf} (hL : ShfR L) (k : Int) : ShfR (runQ (helpN J) 3000 2001 [] L k).L := by
 rw [help_dir hJ hj hk hL k]
 exact wp_dir (P := fun r => ShfR r.L) (wp_shf (X := fun _ => True) (all_help (job_lab hJ hj) _) hL)
structure Fin (J : JobA) (L L' : Shf) : Prop where
 else_ : ((spotOf L J.lab).has = true ∧ ((spotOf L J.lab).r.kind = 3 ∨ (spotOf L J.lab).r.kind = 4 ∨ (spotOf L J.lab).r.kind = 5)) ∨ spotOf L' J.lab = spotOf L J.lab
 mrg : (spotOf L J.lab).has = true → (spotOf L J.lab).r.kind = 4 → Mrgd J.bucket (spotOf L' J.lab)
 odd : (spotOf L J.lab).has = true → (spotOf L J.lab).r.kind = 3 → (halvA (gotAtL L J.lab).x J.lab).2.2 ≠ 0 → spotOf L' J.lab = spotOf L J.lab
 spl : (spotOf L J.lab).has = true → (spotOf L J.lab).r.kind = 3 → (halvA (gotAtL L J.lab).x J.lab).2.2 = 0 → Splt J.lab L'
theorem help_fin {J : JobA} (hJ : JobIn J) (hj : isJobB J = true) (hk : J.kind = 1) (h64 : J.lab.len ≠ 64) (hbu : 100 ≤ J.budget) {L : Shf} (hL : ShfR L) (hn : L.length ≤ 60) (k : Int) : Fin J L (runQ (helpN J) 3000 2001 [] L k).L := by
 have hl := job_lab hJ hj
 have hb0 := budget_of hj
 rw [help_dir hJ hj (.inl hk) hL k]
 have hlt : J.lab.len < 64 := by
  have := (lab_parts hl.isl).2.1
  omega
 refine wp_dir (P := fun r => Fin J L r.L) ?_
 unfold helpT
 rw [if_neg (by omega), if_pos hk]
 refine wp_bind (wp_get hl (by simp; omega) (by omega) (wp_bind ?_))
 have hga := gotAt_ga hL hl
 refine wp_ite (fun hg => ?_) fun hg => wp_ite (fun hg5 => ?_) fun hg5 => ?_
 ·have hhas : (spotOf L J.lab).has = true ∧ ((spotOf L J.lab).r.kind = 3 ∨ (spotOf L J.lab).r.kind = 4) := by
   rcases Bool.or_eq_true _ _ ▸ hg with h | h
   ·rw [gk_iff] at h; exact ⟨h.1, .inl h.2⟩
   rw [gk_iff] at h; exact ⟨h.1, .inr h.2⟩
  unfold fnsT finT
  refine wp_ite (fun h3 => ?_) fun h3 => ?_
  ·have hk3 := ((gk_iff _ _ _).1 h3).2
   by_cases hh : (halvA (gotAtL L J.lab).x J.lab).2.2 = 0
   ·refine wp_mono (E := fun r => False) (fun r h => h.elim) (wp_split (m := 2000) hga.1.ra hl h64 hL (by omega) rfl (by simp; omega) (by omega) hh) fun _ _ _ L' _ h => ?_
    exact ⟨.inl ⟨hhas.1, .inl hk3⟩, fun _ h4 => by omega, fun _ _ h => absurd hh h, fun _ _ _ => h⟩
   unfold splitT
   rw [if_neg hh]
   exact ⟨.inr rfl, fun _ h4 => by omega, fun _ _ _ => rfl, fun _ _ h => absurd h hh⟩
  have hk4 : (spotOf L J.lab).r.kind = 4 := by
   rcases hhas.2 with h | h
   ·exact absurd ((gk_iff _ _ _).2 ⟨hhas.1, h⟩) h3
   exact h
  rw [if_pos hlt]
  have F : ∀ L', Mrgd J.bucket (spotOf L' J.lab) → Fin J L L' := fun L' h => ⟨.inl ⟨hhas.1, .inr (.inl hk4)⟩, fun _ _ => h, fun _ h4 => by omega, fun _ h4 => by omega⟩
  exact wp_mono (fun r h => F _ h) (wp_mrg (m := 2000) hl h64 hL (by omega) rfl (by simp; omega) (by omega)) fun _ _ _ L' _ h => F _ h
 ·have h5 := (gk_iff _ _ _).1 hg5
  have F : ∀ L', Fin J L L' := fun L' => ⟨.inl ⟨h5.1, .inr (.inr h5.2)⟩, fun _ h4 => by omega, fun _ h4 => by omega, fun _ h4 => by omega⟩
  exact wp_mono (E := fun _ => True) (Q := fun _ _ _ _ _ => True) (fun r _ => F _) (wp_true _ _) fun _ _ _ L' _ _ => F _
 have hno : ¬ ((spotOf L J.lab).has = true ∧ ((spotOf L J.lab).r.kind = 3 ∨ (spotOf L J.lab).r.kind = 4)) := fun h => hg (by
  rw [Bool.or_eq_true, gk_iff, gk_iff]
  rcases h with ⟨h1, h2 | h2⟩
  ·exact .inl ⟨h1, h2⟩
  exact .inr ⟨h1, h2⟩)
 exact ⟨.inr rfl, fun h1 h4 => absurd ⟨h1, .inr h4⟩ hno, fun _ _ _ => rfl, fun h1 h4 _ => absurd ⟨h1, .inl h4⟩ hno⟩
theorem bigs_ff {n : Nat} {f : Nat → RowA} (h : (if n ≤ 300 then bigS n f else true) = false) : n ≤ 300 ∧ ∀ i, i < n → (f i).x.r.n ≤ 40 := by
 by_cases hn : n ≤ 300
 ·rw [if_pos hn] at h
  refine ⟨hn, fun i hi => ?_⟩
  unfold bigS at h
  simp only [Bool.or_eq_false_iff] at h
  exact bigF_len (anyB_false h.1.2 i hi)
 rw [if_neg hn] at h; cases h
theorem new_wf {n : Nat} {f : Nat → RowA} (hb : n ≤ 300 ∧ ∀ i, i < n → (f i).x.r.n ≤ 40) (hwf : ∀ i, i < n → LabOk (f i).lab ∧ U64 (f i).x.r.nx.bits) (hu : ∀ l, LabOk l → U64 l.bits) : ∀ i, i < n → (f i).x.r.n ≤ 1000000 ∧ LabOk (f i).lab ∧ U64 (f i).lab.bits ∧ U64 (f i).x.r.nx.bits := fun i hi => ⟨by have := hb.2 i hi; omega, (hwf i hi).1, hu _ (hwf i hi).1, (hwf i hi).2⟩
theorem lab_u64 (l : Lab) (h : LabOk l) : U64 l.bits := by
 have := h.2
 simp [Lit.wf, IntKind.min, IntKind.max, IntKind.signed, IntKind.bits] at this
 exact ⟨by omega, by omega⟩
theorem rws_good {n : Nat} {f : Nat → RowA} (hr : ∀ i, i < n → LabOk (f i).lab ∧ U64 (f i).ver ∧ U64 (f i).x.r.nx.bits ∧ ∀ t, t < (f i).x.r.n → U64 ((f i).x.r.f t).key) : ∀ r ∈ rwsA f n, RwG r := by
 intro r hr'
 obtain ⟨i, hi, rfl⟩ := List.mem_map.1 hr'
 obtain ⟨h1, h2, h3, h4⟩ := hr i (List.mem_range.1 hi)
 refine ⟨h1, h2, h3, fun x hx => ?_⟩
 obtain ⟨t, ht, rfl⟩ := List.mem_map.1 hx
 exact h4 t (List.mem_range.1 ht)
def bgJ (l : Lab) (b : Int) : JobA := ⟨1, l, 0, 0, ⟨#[]⟩, 0, none, 0, 0, fun _ => 0, 0, 0, 0, 0, 1, b, 1000⟩
theorem bgJ_in {l : Lab} (hl : U64 l.bits) (b : Int) : JobIn (bgJ l b) := ⟨hl, u64_0, u64_0⟩
theorem bgJ_job {l : Lab} (hl : isL l = true) {b : Int} (h1 : 1 ≤ b) (h2 : b ≤ 16) : isJobB (bgJ l b) = true := by
 unfold isJobB btw bgJ
 simp [hl, h1, h2]
def getL (L : Shf) (l : Lab) : Got := ⟨0, (spotOf L l).ver, (spotOf L l).has, (spotOf L l).r⟩
theorem gsh_m (k0 b bM : Nat) (L : Shf) (hL : ShfR L) (k : Int) (l : Lab) (hl : LOk l) {res : AV} (hres : Sim res (wntV ⟨1, l, 0, ⟨none, 0, zeroRec.rn⟩, ⟨0, false, ⟨#[]⟩, none, 0, 0, fun _ => zeroItm, 0, false⟩⟩)) : SpecM Try.prog 10 [.ptr k0 b 0, res] [(k0, ⟨b, 78, [.raw (.map (some bM)), .int .i64 k]⟩)] (some bM) (shK bM L) (fun y => ⟨.tup [gotV (gotA y (getL L l)), .int .i64 0], [(k0, [.raw (.map (some bM)), .int .i64 k])], []⟩) (fun _ _ => shK bM L) := by
 have h := do_m k0 b bM L (by have := hL.good.ok.len; omega) k ⟨1, l, 0, ⟨none, 0, zeroRec.rn⟩, ⟨0, false, ⟨#[]⟩, none, 0, 0, fun _ => zeroItm, 0, false⟩⟩ (Nat.zero_le _) hl.wf hl.u u64_0
 have e : doL L (WntA.abs ⟨1, l, 0, ⟨none, 0, zeroRec.rn⟩, ⟨0, false, ⟨#[]⟩, none, 0, 0, fun _ => zeroItm, 0, false⟩⟩) = ⟨L, false, getL L l, 0⟩ := by
  have h2 := doL_get (L := L) hl.isl
  unfold WntA.abs
  simp only [rn_abs]
  exact h2
 rw [e] at h
 exact h.args ⟨zr, hres, trivial⟩
theorem lawFin_no (A : Option Addr) (n c : Nat) (f : Nat → RowA) (hn : n ≤ maxLen) (hrw : ∀ i, i < n → LabOk (f i).lab ∧ U64 (f i).ver ∧ U64 (f i).x.r.nx.bits ∧ ∀ t, t < (f i).x.r.n → U64 ((f i).x.r.f t).key) (l : Lab) (hl : U64 l.bits) (bu : Int) (hnew : newS (rwsA f n) = none) : Spec Try.prog 3 [rowsV A n c f, labAV l, .int .i64 bu] (fun _ => .bool .tt) := by
 intro m w hm hargs
 have hmx : maxLen = 9223372036854775807 := rfl
 have hwf : ∀ i, i < n → LabOk (f i).lab ∧ U64 (f i).x.r.nx.bits := fun i hi => ⟨(hrw i hi).1, (hrw i hi).2.2.1⟩
 have S1 := bigs_s A n c f hn
 obtain ⟨bl, hbl⟩ := eqv (if n ≤ 300 then bigS n f else true)
 rw [← hbl] at S1
 have SI := isL_s l hl
 obtain ⟨li, hli⟩ := eqv (isL l)
 rw [← hli] at SI
 simp only [labAV] at SI hargs ⊢
 refine en 214 hm hargs Try.func3 fun B hB a0 hF => ?_
 refine wp_seq (rg hB TA_ok [0, 2, 4] [4] [] hF fun X0 a0 w1 hF => ?_)
 have O1 := S1
 have O2 := SI
 refine wp_seq (wp_seq (rg hB TA_ok [47, 0, 2, 4] [4] [(1, .r fun _ => .bool (.v bl)), (17, .r fun _ => .bool (.v li))] hF fun X1 a0 w1 hF => ?_))
 apply test_ok hF rfl <;> intro hb hF
 ·skip
  have O1 := helped_s
  refine wp_seq (rg hB TA_ok [6] [] [(0, .r fun _ => .bool .tt)] hF fun X2 a0 w1 hF => ?_)
  refine wp_ret ((rsi hB TA_ok hF nAt (he := ?_)))
  subst hB
  exact Sim.bool rfl
 have hb0 : bl = false ∧ n ≤ 60 ∧ 1 ≤ bu ∧ bu ≤ 16 ∧ li = true ∧ l.len ≠ 64 := by
  have h9 : (if (if (if (if (if bl = true then true else decide ((60 : Int) < (n : Int))) = true then true else decide (bu < 1)) = true then true else decide (16 < bu)) = true then true else !li) = true then true else decide (l.len = 64)) = false := by subst hB; exact hb
  revert h9
  cases bl <;> cases li <;> simp <;> omega
 obtain ⟨hbl0, hn60, hbu1, hbu2, hli1, h64⟩ := hb0
 have hlo : LOk l := ⟨hli ▸ hli1, hl⟩
 have hb1 := bigs_ff (hbl ▸ hbl0)
 have hN := new_wf hb1 hwf lab_u64
 refine wp_skip (wp_seq (wp_region_lit (lpr 0 1 hB TA_ok [50, 2] [4] [] hF fun X3_0 a0 w1 hF => ?_)))
 have SN := new_no A n c f hn hN hnew
 refine man_callM rfl rfl rfl rfl hF rfl rfl enters9 SN (fun _ _ _ => trivial) (fun b hb => by cases hb) (zl) (by intro e he; cases he) rfl rfl (fun y => noK) (fun _ _ _ _ _ _ _ _ _ _ => trivial) ?_
 intro y a0 w1 hF
 refine lnd 2 hB TA_ok [2, 4, 7, 8] [4] [] hF fun X3 a0 w1 hF => ?_
 refine wp_seq (wp_seq (rg hB TA_ok [55, 2, 4, 7, 8] [4] [] hF fun X4 a0 w1 hF => ?_))
 refine test_tt hF rfl (fun hF => ?_)
 have O1 := helped_s
 refine wp_seq (rg hB TA_ok [6] [] [(0, .r fun _ => .bool .tt)] hF fun X5 a0 w1 hF => ?_)
 refine wp_ret ((rsi hB TA_ok hF nAt (he := ?_)))
 subst hB
 refine Sim.bool ?_
 simp [std, sC, BE.den, canB]
theorem lawFin_yes (A : Option Addr) (n c : Nat) (f : Nat → RowA) (hn : n ≤ maxLen) (hrw : ∀ i, i < n → LabOk (f i).lab ∧ U64 (f i).ver ∧ U64 (f i).x.r.nx.bits ∧ ∀ t, t < (f i).x.r.n → U64 ((f i).x.r.f t).key) (l : Lab) (hl : U64 l.bits) (bu : Int) {L : Shf} (hnew : newS (rwsA f n) = some L) : Spec Try.prog 3 [rowsV A n c f, labAV l, .int .i64 bu] (fun _ => .bool .tt) := by
 intro m w hm hargs
 have hmx : maxLen = 9223372036854775807 := rfl
 have hwf : ∀ i, i < n → LabOk (f i).lab ∧ U64 (f i).x.r.nx.bits := fun i hi => ⟨(hrw i hi).1, (hrw i hi).2.2.1⟩
 have S1 := bigs_s A n c f hn
 obtain ⟨bl, hbl⟩ := eqv (if n ≤ 300 then bigS n f else true)
 rw [← hbl] at S1
 have SI := isL_s l hl
 obtain ⟨li, hli⟩ := eqv (isL l)
 rw [← hli] at SI
 simp only [labAV] at SI hargs ⊢
 refine en 214 hm hargs Try.func3 fun B hB a0 hF => ?_
 refine wp_seq (rg hB TA_ok [0, 2, 4] [4] [] hF fun X0 a0 w1 hF => ?_)
 have O1 := S1
 have O2 := SI
 refine wp_seq (wp_seq (rg hB TA_ok [47, 0, 2, 4] [4] [(1, .r fun _ => .bool (.v bl)), (17, .r fun _ => .bool (.v li))] hF fun X1 a0 w1 hF => ?_))
 apply test_ok hF rfl <;> intro hb hF
 ·skip
  have O1 := helped_s
  refine wp_seq (rg hB TA_ok [6] [] [(0, .r fun _ => .bool .tt)] hF fun X2 a0 w1 hF => ?_)
  refine wp_ret ((rsi hB TA_ok hF nAt (he := ?_)))
  subst hB
  exact Sim.bool rfl
 have hb0 : bl = false ∧ n ≤ 60 ∧ 1 ≤ bu ∧ bu ≤ 16 ∧ li = true ∧ l.len ≠ 64 := by
  have h9 : (if (if (if (if (if bl = true then true else decide ((60 : Int) < (n : Int))) = true then true else decide (bu < 1)) = true then true else decide (16 < bu)) = true then true else !li) = true then true else decide (l.len = 64)) = false := by subst hB; exact hb
  revert h9
  cases bl <;> cases li <;> simp <;> omega
 obtain ⟨hbl0, hn60, hbu1, hbu2, hli1, h64⟩ := hb0
 have hlo : LOk l := ⟨hli ▸ hli1, hl⟩
 have hb1 := bigs_ff (hbl ▸ hbl0)
 have hN := new_wf hb1 hwf lab_u64
 refine wp_skip (wp_seq (wp_region_lit (lpr 0 1 hB TA_ok [50, 2, 4] [4] [] hF fun X3_0 a0 w1 hF => ?_)))
 have SN := new_yes A n c f hn hN 900 hnew
 have hR0 : ShfR L := newS_right (rws_good hrw) hnew
 have hlen0 : L.length ≤ 60 := by rw [newS_len hnew]; show ((List.range n).map _).length ≤ _; simp; exact hn60
 refine man_callM rfl rfl rfl rfl hF rfl rfl enters9 (SN) (fun _ _ _ => trivial) (fun b hb => by cases hb) (zl) (by intro e he; cases he) rfl rfl (fun y => shF w.heap.size (y.c 0) L) (fun n x m w m' w' hn _ _ h => ⟨Nat.le_trans hn h.1, h.2⟩) ?_
 intro y a0 w1 hF
 obtain ⟨sb, hsb⟩ := eqv (y.b)
 obtain ⟨bM, hbM⟩ := eqv (y.c 0)
 rw [← hsb, ← hbM] at hF
 have hbfr : w.heap.size ≤ bM := hF.kept.1
 replace hF := hF.withK (K' := shK bM L) hF.kept.2
 refine lnd 2 hB TA_ok [2, 4, 7, 8] [900, 4] [] hF fun X3 a0 w1 hF => ?_
 refine wp_seq (wp_seq (rg hB TA_ok [55, 2, 4, 7, 8] [900, 4] [] hF fun X4 a0 w1 hF => ?_))
 refine test_ff hF rfl (fun hF => ?_)
 refine wp_skip (wp_seq (wp_region_lit (lpr 0 3 hB TA_ok [62, 64, 2, 4, 7] [900, 4] [] hF fun X6_0 a0 w1 hF => ?_)))
 have SD := gsh_m 900 sb bM L hR0 0 l hlo (zr)
 refine man_callM rfl rfl rfl rfl hF rfl rfl enters10 SD (fun _ _ h => h) (fun b hb => by cases hb; exact fun h => absurd h (Nat.not_lt.2 hbfr)) ⟨zr, Sim.agg (by repeat (first | exact trivial | refine ⟨zr, ?_⟩ | refine ⟨Sim.ff, ?_⟩ | refine ⟨zq0, ?_⟩)), trivial⟩ (by intro e he; simp only [List.mem_singleton] at he; subst he; rfl) rfl rfl (fun _ => shK bM L) (fun _ _ _ _ _ _ _ _ _ h => h) ?_
 intro y a0 w1 hF
 obtain ⟨g1, hg1⟩ := eqv (gotA y (getL L l))
 rw [← hg1] at hF
 replace hF := hF.withK (K' := shK bM L) hF.kept
 refine lnd 4 hB TA_ok [2, 4, 7, 9, 10] [900, 4, 9] [] hF fun X6 a0 w1 hF => ?_
 have hg1x : g1.x.r = (spotOf L l).r.rn := by rw [hg1]; rfl
 have hg1h : g1.has = (spotOf L l).has := by rw [hg1]; rfl
 have hk1 : g1.x.r.kd = (spotOf L l).r.kind := by rw [hg1x]; rfl
 have hgo := gotAt_ga hR0 hlo
 have hra1 : RaOk g1.x := by
  have h := hgo.1.ra
  have e : (gotAtL L l).x.r = g1.x.r := by rw [hg1x]; rfl
  refine ⟨?_, ?_, ?_⟩
  ·rw [← e]; exact h.nx
  ·rw [← e]; exact h.key
  rw [← e]; exact h.few
 have hhe : (halvA g1.x l).2.2 = (halvA (gotAtL L l).x l).2.2 := by unfold halvA; rw [hg1x]; rfl
 have SH := halv_c g1.x hra1 l hl
 obtain ⟨r0, hr0⟩ := eqv ((halvA g1.x l).1.rn)
 rw [← hr0] at SH
 obtain ⟨r1, hr1⟩ := eqv ((halvA g1.x l).2.1.rn)
 rw [← hr1] at SH
 obtain ⟨ho, hho⟩ := eqv ((halvA g1.x l).2.2)
 rw [← hho] at SH hhe
 simp only [labAV] at SH
 have O1 := SH
 refine wp_seq (rg hB TA_ok [2, 4, 7, 9, 10, 13] [900, 4, 9] [(3, .r fun y => .tup [recV ⟨y.A 0, y.c 0, r0⟩, recV ⟨y.A 1, y.c 1, r1⟩, .int .i64 ho])] hF fun X7 a0 w1 hF => ?_)
 have hfin := help_fin (J := bgJ l bu) (bgJ_in hl bu) (bgJ_job hlo.isl hbu1 hbu2) rfl h64 (by show (100 : Int) ≤ 1000; omega) hR0 hlen0 0
 have hst := help_ends (J := bgJ l bu) (bgJ_in hl bu) (bgJ_job hlo.isl hbu1 hbu2) (.inl rfl) hR0 (by show (L.length : Int) + 1000 ≤ 2000; omega) 0
 have hR1 := help_right (J := bgJ l bu) (bgJ_in hl bu) (bgJ_job hlo.isl hbu1 hbu2) (.inl rfl) hR0 0
 have SD := run25_m 900 sb bM (bgJ l bu) (bgJ_in hl bu) L hR0.good 0
 obtain ⟨RQ, hRQ⟩ := eqv (runQ (helpN (bgJ l bu)) 3000 2001 [] L 0)
 rw [← hRQ] at SD hst hfin hR1
 rw [hst] at SD
 obtain ⟨nr, hnr⟩ := eqv (RQ.res.items.length)
 obtain ⟨fr, hfr⟩ := eqv (itF RQ.res.items)
 obtain ⟨RL, hRL⟩ := eqv (RQ.L)
 rw [← hRL] at SD hfin hR1
 obtain ⟨RK, hRK⟩ := eqv (RQ.k)
 rw [← hRK] at SD
 have SB : Spec Try.prog 13 [.int .i64 1, .agg [.int .i64 l.len, .int .u64 l.bits], .int .i64 bu] (fun _ => jobV (bgJ l bu)) := begun_s 1 l bu
 have SE : SpecM Try.prog 12 [.ptr 900 sb 0, jobV (bgJ l bu)] [(900, ⟨sb, 78, [.raw (.map (some bM)), .int .i64 0]⟩)] (some bM) (shK bM L) (fun y => ⟨.tup [.agg [.int .i64 RQ.res.code, .bool (.v RQ.res.had), .str RQ.res.val, .sl none (y.A 2) nr (y.c 2) 2 (fun i => itC (fr i)), .int .u64 RQ.res.key, .bool (.v RQ.res.more)], .bool (.v true)], [(900, [.raw (.map (some bM)), .int .i64 RK])], []⟩) (fun _ _ => shK bM RL) := by rw [hnr, hfr]; exact SD
 have O1 := SB
 refine wp_seq (wp_region_lit (lpr 0 4 hB TA_ok [77, 80, 2, 4, 7, 9, 10, 13] [900, 4, 9] [(3, .r fun _ => jobV (bgJ l bu))] hF fun X8_0 a0 w1 hF => ?_))
 refine man_callM rfl rfl rfl rfl hF rfl rfl enters12 SE (fun _ _ h => h) (fun b hb => by cases hb; exact fun h => absurd h (Nat.not_lt.2 hbfr)) ⟨zr, zr, trivial⟩ (by intro e he; simp only [List.mem_singleton] at he; subst he; rfl) rfl rfl (fun _ => shK bM RL) (fun _ _ _ _ _ _ _ _ _ h => h) ?_
 intro y a0 w1 hF
 replace hF := hF.withK (K' := shK bM RL) hF.kept
 refine lnd 5 hB TA_ok [2, 4, 7, 9, 10, 13, 15] [900, 4, 9] [(3, .r fun _ => jobV (bgJ l bu))] hF fun X8 a0 w1 hF => ?_
 refine wp_seq (wp_region_lit (lpr 0 3 hB TA_ok [85, 87, 2, 4, 7, 9, 10, 13, 15] [900, 4, 9] [] hF fun X9_0 a0 w1 hF => ?_))
 have SD := gsh_m 900 sb bM RL hR1 RK l hlo (zr)
 refine man_callM rfl rfl rfl rfl hF rfl rfl enters10 SD (fun _ _ h => h) (fun b hb => by cases hb; exact fun h => absurd h (Nat.not_lt.2 hbfr)) ⟨zr, Sim.agg (by repeat (first | exact trivial | refine ⟨zr, ?_⟩ | refine ⟨Sim.ff, ?_⟩ | refine ⟨zq0, ?_⟩)), trivial⟩ (by intro e he; simp only [List.mem_singleton] at he; subst he; rfl) rfl rfl (fun _ => shK bM RL) (fun _ _ _ _ _ _ _ _ _ h => h) ?_
 intro y a0 w1 hF
 obtain ⟨g2, hg2⟩ := eqv (gotA y (getL RL l))
 rw [← hg2] at hF
 replace hF := hF.withK (K' := shK bM RL) hF.kept
 refine lnd 4 hB TA_ok [2, 4, 7, 9, 10, 13, 15, 16, 17] [900, 4, 9, 16] [] hF fun X9 a0 w1 hF => ?_
 have hg2x : g2.x.r = (spotOf RL l).r.rn := by rw [hg2]; rfl
 have hg2h : g2.has = (spotOf RL l).has := by rw [hg2]; rfl
 have hk2 : g2.x.r.kd = (spotOf RL l).r.kind := by rw [hg2x]; rfl
 have hn2 : (g2.x.r.n : Int) = ((spotOf RL l).r.items.length : Int) := by rw [hg2x]; rfl
 have hsame : spotOf RL l = spotOf L l → g1.abs = g2.abs := fun h => by rw [hg1, hg2, gotA_abs, gotA_abs]; unfold getL; rw [h]
 have SS := sameg_s g1 g2 (by have := hra1.few; omega)
 obtain ⟨sm, hsm⟩ := eqv (decide (g1.abs = g2.abs))
 rw [← hsm] at SS
 refine wp_seq (wp_seq (rg hB TA_ok [100, 2, 4, 7, 9, 13, 16] [900, 4, 9, 16] [] hF fun X10 a0 w1 hF => ?_))
 apply test_ok hF rfl <;> intro hb hF
 ·exfalso
  subst hB; simp [std, sC, BE.den] at hb
 skip
 refine wp_skip (wp_seq (wp_seq (rg hB TA_ok [115, 2, 4, 7, 9, 13, 16] [900, 4, 9, 16] [] hF fun X12 a0 w1 hF => ?_)))
 apply test_ok hF rfl <;> intro hb hF
 ·have h9 : (if (!g1.has) = true then true else if (!decide (g1.x.r.kd = 3)) = true then !decide (g1.x.r.kd = 4) else false) = true := by subst hB; exact hb
  have h115 : ¬ (g1.has = true ∧ (g1.x.r.kd = 3 ∨ g1.x.r.kd = 4)) := by
   revert h9
   cases g1.has <;> by_cases a3 : g1.x.r.kd = 3 <;> by_cases a4 : g1.x.r.kd = 4 <;> simp [a3, a4]
  have h13 : (g1.has = true ∧ g1.x.r.kd = 5) ∨ sm = true := by
   have hE := hfin.else_
   change ((spotOf L l).has = true ∧ ((spotOf L l).r.kind = 3 ∨ (spotOf L l).r.kind = 4 ∨ (spotOf L l).r.kind = 5)) ∨ spotOf RL l = spotOf L l at hE
   rw [← hg1h, ← hk1] at hE
   rcases hE with ⟨a, b | b | b⟩ | h
   ·exact absurd ⟨a, .inl b⟩ h115
   ·exact absurd ⟨a, .inr b⟩ h115
   ·exact .inl ⟨a, b⟩
   exact .inr (by rw [hsm]; exact decide_eq_true (hsame h))
  have O1 := helped_s
  have O2 := SS
  refine wp_seq (rg hB TA_ok [6] [] [(0, .r fun _ => .bool .tt), (13, .r fun _ => .bool (.v sm))] hF fun X13 a0 w1 hF => ?_)
  refine wp_ret ((rsi hB TA_ok hF nAt (he := ?_)))
  subst hB
  refine Sim.bool ?_
  rcases h13 with ⟨a, b⟩ | a
  ·simp [std, sC, BE.den, canB, a, b]
  simp [std, sC, BE.den, canB, a]
 have h9 : (if (!g1.has) = true then true else if (!decide (g1.x.r.kd = 3)) = true then !decide (g1.x.r.kd = 4) else false) = false := by subst hB; exact hb
 have h115 : g1.has = true ∧ (g1.x.r.kd = 3 ∨ g1.x.r.kd = 4) := by
  revert h9
  cases g1.has <;> by_cases a3 : g1.x.r.kd = 3 <;> by_cases a4 : g1.x.r.kd = 4 <;> simp [a3, a4]
 obtain ⟨hh1, hk34⟩ := h115
 refine wp_skip (wp_seq (wp_seq (rg hB TA_ok [135, 2, 4, 7, 9, 13, 16] [900, 4, 9, 16] [] hF fun X14 a0 w1 hF => ?_)))
 apply test_ok hF rfl <;> intro hb hF
 ·have hk4 : g1.x.r.kd = 4 := by subst hB; simpa [std, sC] using hb
  have hM := hfin.mrg (hg1h ▸ hh1) (hk1 ▸ hk4)
  change (spotOf RL l).has = true ∧ ((spotOf RL l).r.kind = 2 ∨ ((spotOf RL l).r.kind = 1 ∧ ((spotOf RL l).r.items.length : Int) ≤ bu)) at hM
  rw [← hg2h, ← hk2, ← hn2] at hM
  have O1 := helped_s
  refine wp_seq (rg hB TA_ok [6] [] [(0, .r fun _ => .bool .tt)] hF fun X15 a0 w1 hF => ?_)
  refine wp_ret ((rsi hB TA_ok hF nAt (he := ?_)))
  subst hB
  refine Sim.bool ?_
  rcases hM with ⟨m1, m2 | ⟨m2, m3⟩⟩
  ·simp [std, sC, BE.den, canB, m1, m2]
  simp [std, sC, BE.den, canB, m1, m2, m3]
 have hk4 : ¬ g1.x.r.kd = 4 := by subst hB; simpa [std, sC] using hb
 have hk3 : g1.x.r.kd = 3 := by rcases hk34 with h | h; exact h; exact absurd h hk4
 refine wp_skip (wp_seq (wp_seq (rg hB TA_ok [162, 4, 7, 9, 16] [900, 4, 9, 16] [] hF fun X16 a0 w1 hF => ?_)))
 apply test_ok hF rfl <;> intro hb hF
 ·have hoo : ho ≠ 0 := by subst hB; simpa [std, sC] using hb
  have hsm1 : sm = true := by rw [hsm]; exact decide_eq_true (hsame (hfin.odd (hg1h ▸ hh1) (hk1 ▸ hk3) (by show (halvA (gotAtL L l).x l).2.2 ≠ 0; rw [← hhe]; exact hoo)))
  have O1 := helped_s
  have O2 := SS
  refine wp_seq (rg hB TA_ok [6] [] [(0, .r fun _ => .bool .tt), (4, .r fun _ => .bool (.v sm))] hF fun X17 a0 w1 hF => ?_)
  refine wp_ret ((rsi hB TA_ok hF nAt (he := ?_)))
  subst hB
  refine Sim.bool ?_
  simp [std, sC, BE.den, canB, hsm1]
 have hoo : ho = 0 := by subst hB; simpa [std, sC] using hb
 have hsp := hfin.spl (hg1h ▸ hh1) (hk1 ▸ hk3) (by show (halvA (gotAtL L l).x l).2.2 = 0; rw [← hhe]; exact hoo)
 have hin := hsp.inn
 change (spotOf RL l).has = true ∧ (spotOf RL l).r.kind = 2 at hin
 rw [← hg2h, ← hk2] at hin
 refine wp_skip (wp_seq (wp_seq (rg hB TA_ok [18, 4, 7, 16] [900, 4, 16] [] hF fun X18 a0 w1 hF => ?_)))
 refine wp_block (loop_preK (ι := Nat) (fun p => shK bM RL) (fun p => [(18, .int .i64 (p : Int))]) (fun p => [(900, ⟨sb, 78, [.raw (.map (some bM)), .int .i64 RK]⟩)]) (fun p => []) (fun p => p ≤ 2) (fun p => 2 - p) 0 (Nat.zero_le _) hF ?_)
 rintro i hi a0 w1 hF
 try dsimp only at hi
 refine wp_seq (wp_seq (rg hB TA_ok [170, 4, 7, 16, 18] [900, 4, 16] [] hF fun X19 a0 w1 hF => ?_))
 apply test_ok hF rfl <;> intro hb hF
 ·have hi2 : i < 2 := by
   have : (i : Int) < 2 := by subst hB; simpa [std, sC] using hb
   omega
  have hi01 : (i : Int) = 0 ∨ (i : Int) = 1 := by omega
  have hcc := hsp.ch (chV l i) (by rcases hi01 with h | h <;> rw [h]; exact .inl rfl; exact .inr rfl)
  have hco := hlo.ch (i : Int)
  have hce0 : chE l i = 0 := by unfold chE; rw [hlo.isl]; simp [h64]
  have SC := child_s l hl i hi01
  obtain ⟨cl, hcl⟩ := eqv (chV l i)
  rw [← hcl] at SC hcc hco
  obtain ⟨ce, hce⟩ := eqv (chE l i)
  rw [← hce] at SC hce0
  simp only [labAV] at SC
  have O1 := SC
  refine wp_skip (wp_seq (wp_block (wp_seq (rg hB TA_ok [4, 7, 16, 18, 19, 20] [900, 4, 16, 19] [(2, .r fun _ => .tup [.agg [.int .i64 cl.len, .int .u64 cl.bits], .int .i64 ce])] hF fun X21 a0 w1 hF => ?_))))
  refine wp_seq (wp_region_lit (lpr 0 3 hB TA_ok [180, 182, 4, 7, 16, 18, 20] [900, 4, 16] [] hF fun X22_0 a0 w1 hF => ?_))
  have SD := gsh_m 900 sb bM RL hR1 RK cl hco (zr)
  refine man_callM rfl rfl rfl rfl hF rfl rfl enters10 SD (fun _ _ h => h) (fun b hb => by cases hb; exact fun h => absurd h (Nat.not_lt.2 hbfr)) ⟨zr, Sim.agg (by repeat (first | exact trivial | refine ⟨zr, ?_⟩ | refine ⟨Sim.ff, ?_⟩ | refine ⟨zq0, ?_⟩)), trivial⟩ (by intro e he; simp only [List.mem_singleton] at he; subst he; rfl) rfl rfl (fun _ => shK bM RL) (fun _ _ _ _ _ _ _ _ _ h => h) ?_
  intro y a0 w1 hF
  obtain ⟨g3, hg3⟩ := eqv (gotA y (getL RL cl))
  rw [← hg3] at hF
  replace hF := hF.withK (K' := shK bM RL) hF.kept
  refine lnd 4 hB TA_ok [4, 7, 16, 18, 20, 21, 22] [900, 4, 16, 21] [] hF fun X22 a0 w1 hF => ?_
  have hg3h : g3.has = true := by rw [hg3]; exact hcc.1
  have hg3k : ¬ g3.x.r.kd = 5 := by rw [hg3]; exact hcc.2
  refine wp_seq (rg hB TA_ok [202, 4, 7, 16, 18] [900, 4, 16] [] hF fun X23 a0 w1 hF => ?_)
  apply test_ok hF rfl <;> intro hb hF
  ·exfalso
   subst hB; simp [std, sC, BE.den, hce0, hg3h, hg3k] at hb
  skip
  refine wp_skip (rg hB TA_ok [18, 4, 7, 16] [900, 4, 16] [] hF fun X20 a0 w1 hF => ?_)
  have e : B.arith .add .i64 (i : Int) 1 = ((i + 1 : Nat) : Int) := by subst hB; exact wrap_succ (n := 2000) (by omega) (by omega)
  exact ⟨i + 1, by omega, by omega, by rw [← e]; exact hF⟩
 skip
 have O1 := helped_s
 refine wp_exit (wp_seq (rg hB TA_ok [6] [] [(0, .r fun _ => .bool .tt)] hF fun X25 a0 w1 hF => ?_))
 refine wp_ret ((rsi hB TA_ok hF nAt (he := ?_)))
 subst hB
 refine Sim.bool ?_
 simp [std, sC, BE.den, canB, hin.1, hin.2]
end Go.Proofs.Ytphmfjhmdajlmaa.Sym
namespace Go.Proofs.Ytphmfjhmdajlmaa
open Go Go.RowKit
theorem walkHelpFinishes (W : World) (v0 v1 v2 : Value) (i0 : Sym.InRow W v0) (i1 : Sym.InLb W v1) (i2 : Sym.InI W v2) : Calls Try.prog 3 #[v0, v1, v2] W fun e w' => e = .returned (.bool true) ∧ Below W.heap.size W w' := by
 obtain ⟨A, n, c, f, rfl, h0, hn, hf⟩ := i0
 obtain ⟨l, rfl, h1, hl⟩ := i1
 obtain ⟨k, rfl, _⟩ := i2
 have hrw : ∀ i, i < n → Sym.LabOk (f i).lab ∧ U64 (f i).ver ∧ U64 (f i).x.r.nx.bits ∧ ∀ t, t < (f i).x.r.n → U64 ((f i).x.r.f t).key := fun i hi => by
  obtain ⟨_, _, a, b, c, d⟩ := hf i hi
  exact ⟨a, c, b.u64, d⟩
 have S : Sym.Spec Try.prog 3 [Sym.rowsV A n c f, Sym.labAV l, .int .i64 k] (fun _ => .bool .tt) := by
  cases hnew : newS (Sym.rwsA f n) with
  | none => exact Sym.lawFin_no A n c f hn hrw l hl.u64 k hnew
  | some L => exact Sym.lawFin_yes A n c f hn hrw l hl.u64 k hnew
 refine (S (fun _ _ => False) W (fun _ _ h => h.elim) (fun v hv => ?_)).mono ?_
 ·simp only [List.mem_cons, List.not_mem_nil, or_false] at hv
  rcases hv with rfl | rfl | rfl
  ·exact h0
  ·exact h1
  exact .int _ _
 rintro e w' ⟨x, rfl, _, hb⟩
 exact ⟨rfl, hb⟩
end Go.Proofs.Ytphmfjhmdajlmaa
