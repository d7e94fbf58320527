/-
  SymRun25, PlTree, PlDir, PlEnds, PlFin, PlFinish, PlTrie, PlMean, PlMk, SymRng, SymRng2, SymRng3, SymInl, SymInl2, SymKid, SymLm, SymTr1, SymTr2: put together by a program of mine (a claim may have 60 files at most). Conditions: none.
-/
import Derived.WalkKit
import Derived.WalkLawsBesides
import Derived.WalkSpells
import Derived.Lib.Hide
import Derived.Deep.QuietTactic
import Derived.BigQuiet
import Derived.Deep.LoopGhost
import Derived.Deep.DeepCutAuto
import Derived.Deep.RegionLaw
import Derived.Lib.Overlaps
import Derived.Laws.CopyOwn
import Derived.IntWalk
import Derived.ProofKit
import Derived.OpenShut
import Derived.ShutString
import Derived.ChangeOld
import Derived.Deep.Slices
import Derived.Test.YtjgnoldondblaaaProg
import Derived.Orders
import Derived.OrdersHeld
import Derived.Defers
import Derived.Recover
import Derived.Lib.BitFns
import Derived.ChangeKeysEq
import Derived.Test.YtjgnoldondblaaaChecked
import Derived.Lib.BufferWrite
import Derived.Maps.OwnSet
import Derived.Maps.RangeWalk
import Derived.Maps.Ext
import Derived.DeepKeys4
import Derived.LoopN
import Derived.Shelf.SlSortCmp.WholeK
import Derived.Shelf.SlSortCmp.NoneTotal
import Derived.Deep.RegionHeld3
import Derived.Ground.SlsfProg
import Derived.Shelf.SlGeneric
import Derived.RangeFuncLeaves
import Derived.RangeFuncCalls
import Derived.OrdersIn
import Derived.Test.YtjgnoldondblaaaMgK1
import Derived.Test.YtjgnoldondblaaaMgK2
import Derived.Test.YtjgnoldondblaaaMgK3
import Derived.Test.YtjgnoldondblaaaMgK4
set_option linter.unusedVariables false
set_option linter.unusedSimpArgs false
set_option maxRecDepth 100000
set_option maxHeartbeats 1600000
namespace Go.Proofs.Ytjgnoldondblaaa.Sym
open Go Go.RowKit
theorem run25_m0 (b bM : Nat) (J : JobA) (hJ : JobIn J) (L : Shf) (hL : ShfG L) (k : Int) : SpecM Try.prog 9 [.ptr 0 b 0, jobV J] [(0, ⟨b, 66, [.raw (.map (some bM)), .int .i64 k]⟩)] (some bM) (shK bM L) (fun y => ⟨.tup [rslV y (runQ (helpN J) 3000 2001 [] L k).res, .bool (.v (decide ((runQ (helpN J) 3000 2001 [] L k).st = 2)))], [(0, [.raw (.map (some bM)), .int .i64 (runQ (helpN J) 3000 2001 [] L k).k])], []⟩) (fun _ _ => shK bM (runQ (helpN J) 3000 2001 [] L k).L) := by
 intro m w hm hargs hpre hI
 have hmx : maxLen = 9223372036854775807 := rfl
 have hmp := shK_map hI
 have hNx : NxOk (helpN J) := help_ok hJ
 obtain ⟨RQ, hRQ⟩ := eqv (runQ (helpN J) 3000 2001 [] L k)
 rw [← hRQ] at ⊢
 refine enM (bo := some bM) 44 hm hpre hI hargs Try.func9 fun B hB a0 hF => ?_
 refine wp_seq (rg hB TA_ok [0, 3, 4] [0, 3, 4] [] hF fun X0 a0 w1 hF => ?_)
 refine wp_seq (rg hB TA_ok [0, 3, 4, 6] [0, 3, 4, 6, 42] [] hF fun X1 a0 w1 hF => ?_)
 refine wp_seq (wp_seq (rg hB TA_ok [6, 7, 0, 3, 4] [0, 3, 4, 6, 42] [] hF fun X2 a0 w1 hF => ?_))
 replace hF := hF.headS (v' := .sl (some 6) none 0 0 8 (fun t => gotC (gotOf zeroGot))) (zq0) rfl
 refine wp_block (loop_preK (ι := Nat × (Nat → GotA) × Option Addr × Nat × Shf × Int × List Got) (fun q => shK bM q.2.2.2.2.1) (fun q => [(6, .sl (some 6) q.2.2.1 q.1 q.2.2.2.1 8 (fun t => gotC (q.2.1 t))), (7, .int .i64 (q.1 : Int))]) (fun q => [(0, ⟨b, 66, [.raw (.map (some bM)), .int .i64 q.2.2.2.2.2.1]⟩)]) (fun q => [(6, ⟨q.2.2.1, q.1, q.2.2.2.1, 8, 82⟩)]) (fun q => q.1 ≤ 2001 ∧ ShfG q.2.2.2.2.1 ∧ (∀ j, j < q.1 → InG (q.2.1 j)) ∧ q.2.2.2.2.2.2.length = q.1 ∧ Lies q.2.2.2.2.2.2 q.2.1 ∧ RQ = runQ (helpN J) 3000 (2001 - q.1) q.2.2.2.2.2.2 q.2.2.2.2.1 q.2.2.2.2.2.1) (fun q => 2001 - q.1) (0, fun _ => gotOf zeroGot, none, 0, L, k, []) ⟨Nat.zero_le _, hL, fun j hj => absurd hj (Nat.not_lt_zero _), rfl, Lies.nil, hRQ⟩ hF ?_)
 rintro ⟨i, fz, A1, c1, Lc, kc, gs⟩ ⟨hi, hg, hal, hgl, hlie, hrun⟩ a0 w1 hF
 try dsimp only at hi
 try dsimp only at hg
 try dsimp only at hal
 try dsimp only at hgl
 try dsimp only at hlie
 try dsimp only at hrun
 replace hF := hF.withK (K' := shK bM Lc) hF.kept
 refine wp_seq (wp_seq (rg hB TA_ok [13, 0, 3, 4, 6, 7] [0, 3, 4, 6, 42] [] hF fun X3 a0 w1 hF => ?_))
 apply test_ok hF rfl <;> intro hb hF
 ·have hi0 : i < 2001 := by
   have : (i : Int) ≤ 2000 := by subst hB; simpa [std, sC] using hb
   omega
  obtain ⟨m0, hm0⟩ : ∃ m, 2001 - i = m + 1 := ⟨2000 - i, by omega⟩
  rw [hm0] at hrun
  have hwo := hNx.ok i fz hal
  obtain ⟨W9, hW9⟩ := eqv ((helpN J i fz).1)
  obtain ⟨E9, hE9⟩ := eqv ((helpN J i fz).2)
  obtain ⟨rr9, hrr9⟩ := eqv (W9.r.rn)
  obtain ⟨nn9, hnn9⟩ := eqv (W9.res.items.length)
  obtain ⟨ff9, hff9⟩ := eqv (itF W9.res.items)
  have T9 := Spec.wq (hnext_s J hJ A1 i c1 fz (by omega) hal) hW9 hE9 hrr9 hnn9 hff9
  rw [← hW9] at hwo
  have S9 : Spec Try.prog 16 [jobV J, .sl (some 6) A1 i c1 8 (fun t => gotC (fz t))] (fun x => .tup [wntV (wqB x W9 rr9 nn9 ff9), .int .i64 E9]) := T9.sim ⟨zr, Sim.recell (fun _ _ => rfl), trivial⟩
  have hq9 : helpN J gs.length (ansF gs) = (W9, E9) := by
   rw [← hlie.next hNx.er, hgl, hW9, hE9]
  have O1 := S9
  refine wp_skip (wp_seq (wp_block (wp_seq (rg hB TA_ok [0, 3, 4, 6, 7, 8, 9] [0, 3, 4, 6, 8, 42] [(2, .r fun x => .tup [.agg [.int .i64 W9.kind, .int .i64 W9.lab.len, .int .u64 W9.lab.bits, .int .u64 W9.ver, .int .i64 rr9.kd, .sl none (x.A 1) rr9.n (x.c 1) 2 (fun i => itC (rr9.f i)), .int .i64 rr9.nx.len, .int .u64 rr9.nx.bits, .int .u64 rr9.mrk, .int .i64 W9.res.code, .bool (.v W9.res.had), .str W9.res.val, .sl none (x.A 2) nn9 (x.c 2) 2 (fun i => itC (ff9 i)), .int .u64 W9.res.key, .bool (.v W9.res.more)], .int .i64 E9])] hF fun X5 a0 w1 hF => ?_))))
  refine wp_seq (wp_seq (rg hB TA_ok [23, 0, 3, 4, 6, 7, 8] [0, 3, 4, 6, 8, 42] [] hF fun X6 a0 w1 hF => ?_))
  apply test_ok hF rfl <;> intro hb hF
  ·have he : E9 ≠ 0 := by subst hB; simpa [std, sC] using hb
   have hq : RQ = ⟨1, zRsl, gs.length, 0, Lc, kc⟩ := by rw [hrun]; exact run_no hq9 he
   refine wp_seq (rg hB TA_ok [4, 5] [0, 4] [] hF fun X7 a0 w1 hF => ?_)
   refine wp_ret ((rm hB TA_ok hF (⟨0, fun _ => none, fun _ => 0, fun _ => .empty⟩) [] (hmap := ?_) (he := ?_) (hs := ?_) (hJ := ?_)).1)
   ·intro b hb; cases hb; exact ⟨hmp, fun m h => shK_map h⟩
   ·rw [hq]; subst hB
    exact Sim.tup ⟨Sim.agg ⟨zr, zr, zr, zq0, zr, zr, trivial⟩, zr, trivial⟩
   ·rw [hq]; subst hB; exact ⟨rfl, ⟨_, rfl, zl⟩, trivial⟩
   rw [hq]; exact fun _ _ h => h
  have he : E9 = 0 := by subst hB; simpa [std, sC] using hb
  rw [he] at hq9
  refine wp_skip (wp_seq (wp_seq (rg hB TA_ok [27, 0, 3, 4, 6, 7, 8] [0, 3, 4, 6, 8, 42] [] hF fun X8 a0 w1 hF => ?_)))
  apply test_ok hF rfl <;> intro hb hF
  ·have hk4 : W9.kind = 4 := by subst hB; simpa [std, sC] using hb
   have hq : RQ = ⟨2, W9.res, gs.length, 0, Lc, kc⟩ := by rw [hrun]; exact run_end hq9 hk4
   refine wp_seq (rg hB TA_ok [4, 5] [0, 4] [] hF fun X9 a0 w1 hF => ?_)
   refine wp_ret ((rm hB TA_ok hF ((X5 2)) [] (hmap := ?_) (he := ?_) (hs := ?_) (hJ := ?_)).1)
   ·intro b hb; cases hb; exact ⟨hmp, fun m h => shK_map h⟩
   ·rw [hq]; subst hB
    rw [show nn9 = W9.res.items.length from hnn9, show ff9 = itF W9.res.items from hff9]
    exact Sim.tup ⟨zr, zr, trivial⟩
   ·rw [hq]; subst hB; exact ⟨rfl, ⟨_, rfl, zl⟩, trivial⟩
   rw [hq]; exact fun _ _ h => h
  have hk4 : ¬ W9.kind = 4 := by subst hB; simpa [std, sC] using hb
  refine wp_skip (wp_seq (wp_region_lit (lpr 0 2 hB TA_ok [31, 32, 6, 0, 7, 3, 4] [0, 4, 3, 6] [] hF fun X10_0 a0 w1 hF => ?_)))
  have SD := do_m 0 b bM Lc (by have := hg.ok.len; omega) kc (wqB (X5 2) W9 rr9 nn9 ff9) (by show rr9.n ≤ _; rw [hrr9]; have := hwo.r.few; show W9.r.items.length ≤ _; omega) hwo.lab.wf hwo.lab.u (by show U64 rr9.nx.bits; rw [hrr9]; exact hwo.r.nx)
  obtain ⟨D1, hD1⟩ := eqv (doL Lc (WntA.abs (wqB (X5 2) W9 rr9 nn9 ff9)))
  rw [← hD1] at SD
  obtain ⟨GG1, hGG1⟩ : ∃ G : Atom → GotA, G = fun y => gotA y D1.got := ⟨_, rfl⟩
  have hGf1 : ∀ y, gotA y D1.got = GG1 y := fun y => by rw [hGG1]
  simp only [hGf1] at SD
  obtain ⟨k1, hk1⟩ := eqv ((if D1.wrote then IntKind.i64.wrap (kc + 1) else kc))
  rw [← hk1] at SD
  obtain ⟨er1, her1⟩ := eqv (D1.err)
  rw [← her1] at SD
  obtain ⟨L1, hL1⟩ := eqv (D1.L)
  rw [← hL1] at SD
  refine man_callM rfl rfl rfl rfl hF rfl rfl enters25 SD (fun _ _ h => h) (fun b hb => by cases hb; exact fun _ => .inr rfl) ⟨zr, Sim.agg (by repeat (first | exact trivial | refine ⟨zr, ?_⟩ | refine ⟨Sim.ff, ?_⟩ | refine ⟨zq0, ?_⟩)), trivial⟩ (by intro e he; simp only [List.mem_singleton] at he; subst he; rfl) rfl rfl (fun _ => shK bM L1) (fun _ _ _ _ _ _ _ _ _ h => h) ?_
  intro y a0 w1 hF
  obtain ⟨g1, hg1⟩ := eqv (GG1 y)
  rw [← hg1] at hF
  replace hF := hF.withK (K' := shK bM L1) hF.kept
  have hga1 : g1.abs = D1.got := by rw [hg1, ← hGf1, gotA_abs]
  have hra : rr9.abs = W9.r := by rw [hrr9, rn_abs]
  have hD1w : D1 = doL Lc (wntOf W9) := by
   rw [hD1]
   unfold WntA.abs wqB wntOf
   simp only [hra]
  have hgd : ShfG D1.L ∧ U64 D1.got.ver ∧ RecOk D1.got.r := by
   rw [hD1w]
   exact doL_good hg ⟨hwo.lab.wf, hwo.r.nx, hwo.r.key⟩
  have hgi : InG g1 := got_in hga1 hgd.2.1 hgd.2.2
  have hg1s : ShfG L1 := by rw [hL1]; exact hgd.1
  have hge : g1.er = gotOf D1.got := by rw [hg1, ← hGf1]; rfl
  refine lnd 3 hB TA_ok [0, 3, 4, 6, 7, 10, 11] [0, 3, 4, 6, 10, 42] [] hF fun X10 a0 w1 hF => ?_
  refine wp_seq (wp_seq (rg hB TA_ok [37, 0, 3, 4, 6, 7, 10] [0, 3, 4, 6, 10, 42] [] hF fun X11 a0 w1 hF => ?_))
  apply test_ok hF rfl <;> intro hb hF
  ·have he1 : er1 ≠ 0 := by subst hB; simpa [std, sC] using hb
   have hq : RQ = ⟨4, zRsl, gs.length, D1.err, L1, k1⟩ := by rw [hrun, hL1, hk1]; exact run_err hq9 hk4 (by omega) hD1w (by rw [← her1]; exact he1)
   refine wp_seq (rg hB TA_ok [4, 5] [0, 4] [] hF fun X12 a0 w1 hF => ?_)
   refine wp_ret ((rm hB TA_ok hF (⟨0, fun _ => none, fun _ => 0, fun _ => .empty⟩) [] (hmap := ?_) (he := ?_) (hs := ?_) (hJ := ?_)).1)
   ·intro b hb; cases hb; exact ⟨hmp, fun m h => shK_map h⟩
   ·rw [hq]; subst hB
    exact Sim.tup ⟨Sim.agg ⟨zr, zr, zr, zq0, zr, zr, trivial⟩, zr, trivial⟩
   ·rw [hq]; subst hB; exact ⟨rfl, ⟨_, rfl, zl⟩, trivial⟩
   rw [hq]; exact fun _ _ h => h
  have he1 : er1 = 0 := by subst hB; simpa [std, sC] using hb
  refine wp_skip ?_
  refine rg hB TA_ok [6, 7, 0, 3, 4] [0, 3, 4, 6, 42] [] hF (hob := by intro X; subst hB; simp only [AO, Ob.holds, BE.den] <;> and_intros <;> repeat first | trivial | rfl | exact (show i + 1 ≤ maxLen by omega) | exact (show (i + 1) * 80 ≤ 140737488355328 by omega) | exact (fun _ _ => by kernel_rfl) | refine ⟨?_, ?_⟩ | intro h | exact Int.le_refl _ | decide | omega) fun X13 a0 w1 hF => ?_
  replace hF := hF.headS (v' := .sl (some 6) ((X13 3).A 0) (B.nadd i 1) ((X13 3).c 0) 8 (fun t => gotC (if t = i then g1 else fz t))) (Sim.resl rfl (fun t ht => by
   subst hB
   have ht2 : t < i + 1 := ht
   show appC i (fun t => gotC (fz t)) (chunk 8 (gotC g1)) t = _
   unfold appC
   split
   ·rw [if_neg (by omega)]
   have : t = i := by omega
   subst this
   rw [if_pos rfl]
   simp [chunk])) rfl
  refine rg hB TA_ok [6, 7, 0, 3, 4] [0, 3, 4, 6, 42] [] hF fun X4 a0 w1 hF => ?_
  have e : B.arith .add .i64 (i : Int) 1 = ((i + 1 : Nat) : Int) := by subst hB; exact wrap_succ (n := 2001) (by omega) (by omega)
  refine ⟨(i + 1, fun t => if t = i then g1 else fz t, _, _, L1, k1, gs ++ [D1.got]), ⟨by simp only; omega, hg1s, fun j hj => ?_, by simp [hgl], ?_, ?_⟩, by simp only; omega, by rw [← e, show i + 1 = B.nadd i 1 by subst hB; rfl]; exact hF⟩
  ·by_cases hji : j = i
   ·simp only [if_pos hji]; exact hgi
   simp only [if_neg hji]; exact hal j (by have h9 : j < i + 1 := hj; omega)
  ·have := hlie.add hge
   rw [hgl] at this; exact this
  rw [hrun, run_go hq9 hk4 (by omega) hD1w (by rw [← her1]; exact he1), hL1, hk1, show 2001 - (i + 1) = m0 by omega]
 have hi0 : i = 2001 := by
  have : ¬ (i : Int) ≤ 2000 := by subst hB; simpa [std, sC] using hb
  omega
 have hq : RQ = ⟨0, zRsl, gs.length, 0, Lc, kc⟩ := by rw [hrun, hi0]; rfl
 refine wp_exit (wp_seq (rg hB TA_ok [4, 5] [0, 4] [] hF fun X14 a0 w1 hF => ?_))
 refine wp_ret ((rm hB TA_ok hF (⟨0, fun _ => none, fun _ => 0, fun _ => .empty⟩) [] (hmap := ?_) (he := ?_) (hs := ?_) (hJ := ?_)).1)
 ·intro b hb; cases hb; exact ⟨hmp, fun m h => shK_map h⟩
 ·rw [hq]; subst hB
  exact Sim.tup ⟨Sim.agg ⟨zr, zr, zr, zq0, zr, zr, trivial⟩, zr, trivial⟩
 ·rw [hq]; subst hB; exact ⟨rfl, ⟨_, rfl, zl⟩, trivial⟩
 rw [hq]; exact fun _ _ h => h
theorem run25_m (k0 : Nat) (b bM : Nat) (J : JobA) (hJ : JobIn J) (L : Shf) (hL : ShfG L) (k : Int) : SpecM Try.prog 9 [.ptr k0 b 0, jobV J] [(k0, ⟨b, 66, [.raw (.map (some bM)), .int .i64 k]⟩)] (some bM) (shK bM L) (fun y => ⟨.tup [rslV y (runQ (helpN J) 3000 2001 [] L k).res, .bool (.v (decide ((runQ (helpN J) 3000 2001 [] L k).st = 2)))], [(k0, [.raw (.map (some bM)), .int .i64 (runQ (helpN J) 3000 2001 [] L k).k])], []⟩) (fun _ _ => shK bM (runQ (helpN J) 3000 2001 [] L k).L) :=
 (run25_m0 b bM J hJ L hL k).re (by repeat (first | exact trivial | refine ⟨Sim.ptr, ?_⟩ | refine ⟨Sim.fn ⟨Sim.ptr, trivial⟩ trivial, ?_⟩ | refine ⟨Sim.fn trivial ⟨Sim.ptr, trivial⟩, ?_⟩ | refine ⟨zr, ?_⟩)) rfl (fun x => ⟨rfl, rfl, zr, rfl⟩)
inductive Tr (α : Type) where
 | ret (a : α)
 | dead
 | note (x : Nt) (t : Tr α)
 | ask (w : Wq) (f : GotA → Tr α)
def Tr.bind {α β : Type} : Tr α → (α → Tr β) → Tr β
 | .ret a, f => f a
 | .dead, _ => .dead
 | .note x t, f => .note x (t.bind f)
 | .ask w g, f => .ask w fun a => (g a).bind f
def Tr.run {α : Type} (k : Int) : Tr α → Pst → Rs α
 | .ret a, p => .ok a p
 | .dead, p => .stop zWq p
 | .note x t, p => t.run k ⟨p.n, p.g, x⟩
 | .ask w f, p => (askM k w p).bind fun g p => (f g).run k p
theorem Rs.assoc {α β γ : Type} (m : Rs α) (f : α → Pst → Rs β) (g : β → Pst → Rs γ) : (m.bind f).bind g = m.bind fun a p => (f a p).bind g := by cases m <;> rfl
theorem run_bind {α β : Type} {k : Int} : ∀ (t : Tr α) (f : α → Tr β) (p : Pst), (t.bind f).run k p = (t.run k p).bind fun a q => (f a).run k q
 | .ret a, f, p => rfl
 | .dead, f, p => rfl
 | .note x t, f, p => run_bind t f _
 | .ask w g, f, p => by
  show (askM k w p).bind (fun a q => ((g a).bind f).run k q) = ((askM k w p).bind fun a q => (g a).run k q).bind _
  rw [Rs.assoc]
  congr 1
  funext a q
  exact run_bind (g a) f q
section
variable {α β : Type} {k : Int} {p : Pst}
theorem rb {t : Tr α} {m : Rs α} {f : α → Tr β} {f' : α → Pst → Rs β} (h : t.run k p = m) (hf : ∀ a q, (f a).run k q = f' a q) : (t.bind f).run k p = m.bind f' := by
 subst h
 rw [run_bind]
 congr 1
 funext a q
 exact hf a q
theorem ri {c : Prop} [Decidable c] {x y : Tr α} {x' y' : Rs α} (hx : x.run k p = x') (hy : y.run k p = y') : (if c then x else y).run k p = if c then x' else y' := by
 by_cases h : c
 ·rw [if_pos h, if_pos h]; exact hx
 rw [if_neg h, if_neg h]; exact hy
end
def askT (w : Wq) : Tr GotA := .ask w .ret
def getT (l : Lab) : Tr GotA := askT ⟨1, l, 0, zeroRec, zRsl⟩
def casT (l : Lab) (v : Int) (r : Rec) : Tr Bool := (askT ⟨2, l, v, r, zRsl⟩).bind fun g => .ret (decide (g.code = 0))
def drpT (l : Lab) (v : Int) : Tr Bool := (askT ⟨3, l, v, zeroRec, zRsl⟩).bind fun g => .ret (decide (g.code = 0))
def splCT (l : Lab) (v : Int) (c : Lab) (x : Rec) : Nat → Tr Bool
 | 0 => .dead
 | n + 1 => (getT c).bind fun g => if (g.has && !decide (g.x.r.kd = 5)) = true then .ret true else (getT l).bind fun q => if q.ver = v then (casT c g.ver x).bind fun d => if d = true then .ret true else splCT l v c x n else .ret false
def splitT (n : Nat) (l : Lab) (v : Int) (x : RA) : Tr Unit :=
 if (halvA x l).2.2 = 0 then
  (splCT l v (chV l 0) (halvA x l).1 n).bind fun go => if go = true then (splCT l v (chV l 1) (halvA x l).2.1 n).bind fun go => if go = true then (casT l v innerR).bind fun _ => .ret () else .ret () else .ret ()
 else .ret ()
def frzT (l : Lab) (v : Int) (c : Lab) : Nat → Tr Fz
 | 0 => .dead
 | n + 1 => (getT c).bind fun g => if (gk g 1 || gk g 5) = true then (if (gk g 5 && decide (g.x.r.mrk = v)) = true then .ret (.fr g.x) else (getT l).bind fun q => if q.ver = v then (casT c g.ver (asR 5 g.x v).r.abs).bind fun d => if d = true then .ret (.fr (asR 5 g.x v)) else frzT l v c n else .ret .over) else .ret .unfit
def clnCT (l : Lab) (cl : Lab → Tr Unit) (c : Lab) : Tr Bool :=
 (getT c).bind fun g => if gk g 5 = true then (cl c).bind fun _ => (getT l).bind fun q => if (gk q 1 || gk q 5) = true then (drpT c g.ver).bind fun _ => .ret true else .ret false else .ret true
def clnT : Nat → Lab → Tr Unit
 | 0, _ => .dead
 | n + 1, l => if l.len = 64 then .ret () else (clnCT l (clnT n) (chV l 0)).bind fun go => if go = true then (clnCT l (clnT n) (chV l 1)).bind fun _ => .ret () else .ret ()
def bckT (th : Lab → Tr Unit) (l : Lab) (v : Int) : Tr Unit := (casT l v innerR).bind fun d => if d = true then (th (chV l 0)).bind fun _ => th (chV l 1) else .ret ()
def mrgT (bk : Int) (n : Nat) (th : Lab → Tr Unit) (l : Lab) (v : Int) : Tr Unit :=
 (frzT l v (chV l 0) n).bind fun a => match a with
  | .over => .ret ()
  | .unfit => bckT th l v
  | .fr a => (frzT l v (chV l 1) n).bind fun b => match b with
   | .over => .ret ()
   | .unfit => bckT th l v
   | .fr b => if (uniA a b).2 = 0 ∧ ((uniA a b).1.items.length : Int) ≤ bk then (casT l v (uniA a b).1).bind fun d => if d = true then clnT n l else .ret () else bckT th l v
def finT (bk : Int) (n : Nat) (th : Lab → Tr Unit) (l : Lab) (g : GotA) : Tr Unit :=
 if gk g 3 = true then splitT n l g.ver g.x else if l.len < 64 then mrgT bk n th l g.ver else .ret ()
def thwLT (bk : Int) : Nat → Lab → Lab → Tr Unit
 | 0, _, _ => .dead
 | n + 1, l, up => (getT l).bind fun g => if gk g 5 = true then (getT up).bind fun q =>
   (if (gk q 3 || gk q 4) = true then finT bk n (fun c => if parE c = 0 then thwLT bk n c (parV c) else .ret ()) up q else .ret ()).bind fun _ =>
    if gk q 2 = true then (casT l g.ver (asR 1 g.x 0).r.abs).bind fun d => if d = true then .ret () else thwLT bk n l up else .ret () else .ret ()
def thwT (bk : Int) (n : Nat) (l : Lab) : Tr Unit := if parE l = 0 then thwLT bk n l (parV l) else .ret ()
def fnsT (bk : Int) (n : Nat) (l : Lab) (g : GotA) : Tr Unit := finT bk n (thwT bk n) l g
section
variable {k bk key : Int}
theorem run_ask (w : Wq) (p : Pst) : (askT w).run k p = askM k w p := by
 show (askM k w p).bind (fun g p => .ok g p) = _
 cases askM k w p <;> rfl
theorem run_get (l : Lab) (p : Pst) : (getT l).run k p = getM k l p := run_ask _ _
theorem run_cas (l : Lab) (v : Int) (r : Rec) (p : Pst) : (casT l v r).run k p = casM k l v r p := rb (run_ask _ _) fun _ _ => rfl
theorem run_drp (l : Lab) (v : Int) (p : Pst) : (drpT l v).run k p = drpM k l v p := rb (run_ask _ _) fun _ _ => rfl
theorem run_splC (l : Lab) (v : Int) (c : Lab) (x : Rec) : ∀ n p, (splCT l v c x n).run k p = splC k l v c x n p
 | 0, p => rfl
 | n + 1, p => rb (run_get _ _) fun _ _ => ri rfl (rb (run_get _ _) fun _ _ => ri (rb (run_cas _ _ _ _) fun _ _ => ri rfl (run_splC l v c x n _)) rfl)
theorem run_split (n : Nat) (l : Lab) (v : Int) (x : RA) (p : Pst) : (splitT n l v x).run k p = splitM k n l v x p :=
 ri (rb (run_splC _ _ _ _ _ _) fun _ _ => ri (rb (run_splC _ _ _ _ _ _) fun _ _ => ri (rb (run_cas _ _ _ _) fun _ _ => rfl) rfl) rfl) rfl
theorem run_frz (l : Lab) (v : Int) (c : Lab) : ∀ n p, (frzT l v c n).run k p = frzM k l v c n p
 | 0, p => rfl
 | n + 1, p => rb (run_get _ _) fun _ _ => ri (ri rfl (rb (run_get _ _) fun _ _ => ri (rb (run_cas _ _ _ _) fun _ _ => ri rfl (run_frz l v c n _)) rfl)) rfl
theorem run_clnC (l : Lab) {cl : Lab → Tr Unit} {cl' : Lab → Pst → Rs Unit} (h : ∀ c p, (cl c).run k p = cl' c p) (c : Lab) (p : Pst) : (clnCT l cl c).run k p = clnC k l cl' c p :=
 rb (run_get _ _) fun _ _ => ri (rb (h _ _) fun _ _ => rb (run_get _ _) fun _ _ => ri (rb (run_drp _ _ _) fun _ _ => rfl) rfl) rfl
theorem run_cln : ∀ n l p, (clnT n l).run k p = clnM k n l p
 | 0, l, p => rfl
 | n + 1, l, p => ri rfl (rb (run_clnC _ (run_cln n) _ _) fun _ _ => ri (rb (run_clnC _ (run_cln n) _ _) fun _ _ => rfl) rfl)
theorem run_bck {th : Lab → Tr Unit} {th' : Lab → Pst → Rs Unit} (h : ∀ c p, (th c).run k p = th' c p) (l : Lab) (v : Int) (p : Pst) : (bckT th l v).run k p = bckM k th' l v p :=
 rb (run_cas _ _ _ _) fun _ _ => ri (rb (h _ _) fun _ _ => h _ _) rfl
theorem run_mrg (n : Nat) {th : Lab → Tr Unit} {th' : Lab → Pst → Rs Unit} (h : ∀ c p, (th c).run k p = th' c p) (l : Lab) (v : Int) (p : Pst) : (mrgT bk n th l v).run k p = mrgM bk k n th' l v p :=
 rb (run_frz _ _ _ _ _) fun a _ => match a with
  | .over => rfl
  | .unfit => run_bck h _ _ _
  | .fr a => rb (run_frz _ _ _ _ _) fun b _ => match b with
   | .over => rfl
   | .unfit => run_bck h _ _ _
   | .fr b => ri (rb (run_cas _ _ _ _) fun _ _ => ri (run_cln _ _ _) rfl) (run_bck h _ _ _)
theorem run_fin (n : Nat) {th : Lab → Tr Unit} {th' : Lab → Pst → Rs Unit} (h : ∀ c p, (th c).run k p = th' c p) (l : Lab) (g : GotA) (p : Pst) : (finT bk n th l g).run k p = finM bk k n th' l g p :=
 ri (run_split _ _ _ _ _) (ri (run_mrg _ h _ _ _) rfl)
theorem run_thwL : ∀ n l up p, (thwLT bk n l up).run k p = thwL bk k n l up p
 | 0, l, up, p => rfl
 | n + 1, l, up, p => rb (run_get _ _) fun _ _ => ri (rb (run_get _ _) fun _ _ => rb (ri (run_fin _ (fun c p => ri (run_thwL n _ _ _) rfl) _ _ _) rfl) fun _ _ => ri (rb (run_cas _ _ _ _) fun _ _ => ri rfl (run_thwL n _ _ _)) rfl) rfl
theorem run_thw (n : Nat) (l : Lab) (p : Pst) : (thwT bk n l).run k p = thwM bk k n l p := ri (run_thwL _ _ _ _) rfl
theorem run_fns (n : Nat) (l : Lab) (g : GotA) (p : Pst) : (fnsT bk n l g).run k p = fnsM bk k n l g p := run_fin _ (run_thw n) _ _ _
end
inductive App {α : Type} : Nat → Tr α → Tr α → Prop
 | zero {t t' : Tr α} : App 0 t t'
 | ret {d : Nat} (a : α) : App d (.ret a) (.ret a)
 | note {d : Nat} {x : Nt} {t t' : Tr α} (h : App d t t') : App d (.note x t) (.note x t')
 | ask {d : Nat} {w : Wq} {f f' : GotA → Tr α} (h : ∀ g, App d (f g) (f' g)) : App (d + 1) (.ask w f) (.ask w f')
section
variable {α β : Type} {d e : Nat}
theorem App.mono {t t' : Tr α} (h : App d t t') : ∀ {e : Nat}, e ≤ d → App e t t' := by
  induction h with
  | zero => intro e he; have : e = 0 := by omega
            subst this; exact .zero
  | ret a => intro e he; exact .ret a
  | note h ih => intro e he; exact .note (ih he)
  | ask h ih =>
    intro e he
    cases e with
    | zero => exact .zero
    | succ e => exact .ask fun g => ih g (by omega)
theorem App.bind {t t' : Tr α} (h : App d t t') : ∀ {f f' : α → Tr β}, (∀ a, App d (f a) (f' a)) → App d (t.bind f) (t'.bind f') := by
 induction h with
 | zero => intro f f' hf; exact .zero
 | ret a => intro f f' hf; exact hf a
 | note h ih => intro f f' hf; exact .note (ih hf)
 | ask h ih => intro f f' hf; exact .ask fun g => ih g fun a => (hf a).mono (by omega)
theorem app_ite {c : Prop} [Decidable c] {x y x' y' : Tr α} (hx : App d x x') (hy : App d y y') : App d (if c then x else y) (if c then x' else y') := by split <;> assumption
theorem run_app {k : Int} {t t' : Tr α} (h : App d t t') : ∀ {p : Pst}, p.n < d → t.run k p = t'.run k p := by
 induction h with
 | zero => intro p hp; omega
 | ret a => intro p _; rfl
 | note h ih => intro p hp; exact ih hp
 | @ask d w f f' h ih =>
  intro p hp
  show (askM k w p).bind _ = (askM k w p).bind _
  unfold askM
  split
  ·rename_i h0
   refine ih _ ?_
   show p.n - 1 < d
   omega
  rfl
end
theorem app_ask {d : Nat} (w : Wq) : App d (askT w) (askT w) := by
 cases d with
 | zero => exact .zero
 | succ d => exact .ask fun g => .ret g
theorem app_get {d : Nat} (l : Lab) : App d (getT l) (getT l) := app_ask _
theorem app_cas {d : Nat} (l : Lab) (v : Int) (r : Rec) : App d (casT l v r) (casT l v r) := (app_ask _).bind fun _ => .ret _
theorem app_drp {d : Nat} (l : Lab) (v : Int) : App d (drpT l v) (drpT l v) := (app_ask _).bind fun _ => .ret _
theorem app_get1 {α : Type} {d : Nat} {l : Lab} {f f' : GotA → Tr α} (h : ∀ g, App d (f g) (f' g)) : App (d + 1) ((getT l).bind f) ((getT l).bind f') := .ask h
section
variable {bk key : Int}
theorem app_splC (l : Lab) (v : Int) (c : Lab) (x : Rec) : ∀ {d n n' : Nat}, d ≤ n → d ≤ n' → App d (splCT l v c x n) (splCT l v c x n')
 | 0, _, _, _, _ => .zero
 | d + 1, n + 1, n' + 1, h, h' => app_get1 fun _ => app_ite (.ret _) ((app_get _).bind fun _ => app_ite ((app_cas _ _ _).bind fun _ => app_ite (.ret _) (app_splC l v c x (by omega) (by omega))) (.ret _))
theorem app_split {d n n' : Nat} (l : Lab) (v : Int) (x : RA) (h : d ≤ n) (h' : d ≤ n') : App d (splitT n l v x) (splitT n' l v x) :=
 app_ite ((app_splC _ _ _ _ h h').bind fun _ => app_ite ((app_splC _ _ _ _ h h').bind fun _ => app_ite ((app_cas _ _ _).bind fun _ => .ret _) (.ret _)) (.ret _)) (.ret _)
theorem app_frz (l : Lab) (v : Int) (c : Lab) : ∀ {d n n' : Nat}, d ≤ n → d ≤ n' → App d (frzT l v c n) (frzT l v c n')
 | 0, _, _, _, _ => .zero
 | d + 1, n + 1, n' + 1, h, h' => app_get1 fun _ => app_ite (app_ite (.ret _) ((app_get _).bind fun _ => app_ite ((app_cas _ _ _).bind fun _ => app_ite (.ret _) (app_frz l v c (by omega) (by omega))) (.ret _))) (.ret _)
theorem app_clnC (l : Lab) {d : Nat} {cl cl' : Lab → Tr Unit} (h : ∀ c, App d (cl c) (cl' c)) (c : Lab) : App (d + 1) (clnCT l cl c) (clnCT l cl' c) :=
 app_get1 fun _ => app_ite ((h _).bind fun _ => (app_get _).bind fun _ => app_ite ((app_drp _ _).bind fun _ => .ret _) (.ret _)) (.ret _)
theorem app_cln : ∀ {d n n' : Nat} (l : Lab), d ≤ n → d ≤ n' → App d (clnT n l) (clnT n' l)
 | 0, _, _, _, _, _ => .zero
 | d + 1, n + 1, n' + 1, l, h, h' => app_ite (.ret _) ((app_clnC _ (fun c => app_cln c (by omega) (by omega)) _).bind fun _ => app_ite ((app_clnC _ (fun c => app_cln c (by omega) (by omega)) _).bind fun _ => .ret _) (.ret _))
theorem app_bck {d : Nat} {th th' : Lab → Tr Unit} (h : ∀ c, App d (th c) (th' c)) (l : Lab) (v : Int) : App d (bckT th l v) (bckT th' l v) :=
 (app_cas _ _ _).bind fun _ => app_ite ((h _).bind fun _ => h _) (.ret _)
theorem app_mrg {d n n' : Nat} {th th' : Lab → Tr Unit} (hn : d ≤ n) (hn' : d ≤ n') (h : ∀ c, App d (th c) (th' c)) (l : Lab) (v : Int) : App d (mrgT bk n th l v) (mrgT bk n' th' l v) :=
 (app_frz _ _ _ hn hn').bind fun a => match a with
  | .over => .ret _
  | .unfit => app_bck h _ _
  | .fr a => (app_frz _ _ _ hn hn').bind fun b => match b with
   | .over => .ret _
   | .unfit => app_bck h _ _
   | .fr b => app_ite ((app_cas _ _ _).bind fun _ => app_ite (app_cln _ hn hn') (.ret _)) (app_bck h _ _)
theorem app_fin {d n n' : Nat} {th th' : Lab → Tr Unit} (hn : d ≤ n) (hn' : d ≤ n') (h : ∀ c, App d (th c) (th' c)) (l : Lab) (g : GotA) : App d (finT bk n th l g) (finT bk n' th' l g) :=
 app_ite (app_split _ _ _ hn hn') (app_ite (app_mrg hn hn' h _ _) (.ret _))
theorem app_thwL : ∀ {d n n' : Nat} (l up : Lab), d ≤ n → d ≤ n' → App d (thwLT bk n l up) (thwLT bk n' l up)
 | 0, _, _, _, _, _, _ => .zero
 | d + 1, n + 1, n' + 1, l, up, h, h' => app_get1 fun _ => app_ite ((app_get _).bind fun _ => (app_ite (app_fin (by omega) (by omega) (fun c => app_ite (app_thwL _ _ (by omega) (by omega)) (.ret _)) _ _) (.ret _)).bind fun _ => app_ite ((app_cas _ _ _).bind fun _ => app_ite (.ret _) (app_thwL _ _ (by omega) (by omega))) (.ret _)) (.ret _)
theorem app_thw {d n n' : Nat} (l : Lab) (h : d ≤ n) (h' : d ≤ n') : App d (thwT bk n l) (thwT bk n' l) := app_ite (app_thwL _ _ h h') (.ret _)
theorem app_fns {d n n' : Nat} (l : Lab) (g : GotA) (h : d ≤ n) (h' : d ≤ n') : App d (fnsT bk n l g) (fnsT bk n' l g) := app_fin h h' (fun c => app_thw c h h') _ _
end
def Tr.All {α : Type} (A : GotA → Prop) (W : Wq → Prop) (X : Nt → Prop) (Q : α → Prop) : Tr α → Prop
 | .ret a => Q a
 | .dead => True
 | .note x t => X x ∧ t.All A W X Q
 | .ask w f => W w ∧ ∀ g, A g → (f g).All A W X Q
section
variable {α β : Type} {A : GotA → Prop} {W : Wq → Prop} {X : Nt → Prop}
theorem all_bind {Q : α → Prop} {R : β → Prop} : ∀ {t : Tr α} {f : α → Tr β}, t.All A W X Q → (∀ a, Q a → (f a).All A W X R) → (t.bind f).All A W X R
 | .ret a, f, h, hf => hf a h
 | .dead, f, h, hf => trivial
 | .note x t, f, h, hf => ⟨h.1, all_bind (t := t) h.2 hf⟩
 | .ask w g, f, h, hf => ⟨h.1, fun a ha => all_bind (t := g a) (h.2 a ha) hf⟩
theorem all_ite {Q : α → Prop} {c : Prop} [Decidable c] {x y : Tr α} (hx : c → x.All A W X Q) (hy : ¬ c → y.All A W X Q) : (if c then x else y).All A W X Q := by
 by_cases h : c
 ·rw [if_pos h]; exact hx h
 rw [if_neg h]; exact hy h
theorem all_ask {w : Wq} (h : W w) : (askT w).All A W X A := ⟨h, fun _ h => h⟩
theorem Tr.All.mono {Q R : α → Prop} : ∀ {t : Tr α}, t.All A W X Q → (∀ a, Q a → R a) → t.All A W X R
 | .ret a, h, hq => hq a h
 | .dead, h, hq => trivial
 | .note x t, h, hq => ⟨h.1, Tr.All.mono (t := t) h.2 hq⟩
 | .ask w g, h, hq => ⟨h.1, fun a ha => Tr.All.mono (t := g a) (h.2 a ha) hq⟩
end
def ntR (x : Nt) : Rsl := ⟨x.code, x.had, x.val, [], 0, false⟩
def Tr.dir (most b : Int) : Tr Rsl → Nt → Nat → Shf → Int → RunR
 | .ret a, x, n, L, k => ⟨2, a, n, 0, L, k⟩
 | .dead, x, n, L, k => ⟨5, zRsl, n, 0, L, k⟩
 | .note y t, x, n, L, k => t.dir most b y n L k
 | .ask w f, x, n, L, k =>
  if b ≤ n then ⟨2, ntR x, n, 0, L, k⟩
  else if most ≤ n then ⟨3, zRsl, n, 0, L, k⟩
  else if (doL L (wntOf w)).err ≠ 0 then ⟨4, zRsl, n, (doL L (wntOf w)).err, (doL L (wntOf w)).L, if (doL L (wntOf w)).wrote then IntKind.i64.wrap (k + 1) else k⟩
  else (f (gotOf (doL L (wntOf w)).got)).dir most b x (n + 1) (doL L (wntOf w)).L (if (doL L (wntOf w)).wrote then IntKind.i64.wrap (k + 1) else k)
def Tr.feed {α : Type} : Tr α → Nt → List Got → Option (Tr α × Nt)
 | .note y t, _, gs => t.feed y gs
 | .ret a, x, [] => some (.ret a, x)
 | .ret _, _, _ :: _ => none
 | .dead, x, [] => some (.dead, x)
 | .dead, _, _ :: _ => none
 | .ask w f, x, [] => some (.ask w f, x)
 | .ask w f, x, g :: gs => (f (gotOf g)).feed x gs
def Tr.noNote {α : Type} : Tr α → Prop
 | .note _ _ => False
 | _ => True
theorem feed_add {α : Type} {w : Wq} {f : GotA → Tr α} {y : Nt} {g : Got} : ∀ (t : Tr α) (x : Nt) (gs : List Got), t.feed x gs = some (.ask w f, y) → t.feed x (gs ++ [g]) = (f (gotOf g)).feed y []
 | .note z t, x, gs, h => by
  show t.feed z (gs ++ [g]) = _
  exact feed_add t z gs (by simpa [Tr.feed] using h)
 | .ret a, x, [], h => by simp [Tr.feed] at h
 | .ret a, x, _ :: _, h => by simp [Tr.feed] at h
 | .dead, x, [], h => by simp [Tr.feed] at h
 | .dead, x, _ :: _, h => by simp [Tr.feed] at h
 | .ask w' f', x, [], h => by
  simp only [Tr.feed, Option.some.injEq, Prod.mk.injEq, Tr.ask.injEq] at h
  obtain ⟨⟨h1, h2⟩, h3⟩ := h
  subst h1; subst h2; subst h3
  rfl
 | .ask w' f', x, g' :: gs, h => by
  show (f' (gotOf g')).feed x (gs ++ [g]) = _
  exact feed_add _ x gs (by simpa [Tr.feed] using h)
theorem feed_nil {α : Type} {A : GotA → Prop} {W : Wq → Prop} {X : Nt → Prop} {Q : α → Prop} : ∀ (t : Tr α) (x : Nt), ∃ t' x', t.feed x [] = some (t', x') ∧ t'.noNote ∧ (∀ d, App d t t → App d t' t') ∧ (t.All A W X Q → t'.All A W X Q)
 | .note z t, x => by
  obtain ⟨t', x', h1, h2, h3, h4⟩ := feed_nil t z
  refine ⟨t', x', by simpa [Tr.feed] using h1, h2, fun d hd => h3 d ?_, fun h => h4 h.2⟩
  cases hd with
  | zero => exact .zero
  | note h => exact h
 | .ret a, x => ⟨.ret a, x, by simp [Tr.feed], trivial, fun _ h => h, fun h => h⟩
 | .dead, x => ⟨.dead, x, by simp [Tr.feed], trivial, fun _ h => h, fun h => h⟩
 | .ask w f, x => ⟨.ask w f, x, by simp [Tr.feed], trivial, fun _ h => h, fun h => h⟩
theorem feed_dir {most b : Int} : ∀ (t : Tr Rsl) (x : Nt) {t' : Tr Rsl} {x' : Nt} (n : Nat) (L : Shf) (k : Int), t.feed x [] = some (t', x') → t'.dir most b x' n L k = t.dir most b x n L k
 | .note z t, x, t', x', n, L, k, h => feed_dir t z n L k (by simpa [Tr.feed] using h)
 | .ret a, x, t', x', n, L, k, h => by simp [Tr.feed] at h; obtain ⟨rfl, rfl⟩ := h; rfl
 | .dead, x, t', x', n, L, k, h => by simp [Tr.feed] at h; obtain ⟨rfl, rfl⟩ := h; rfl
 | .ask w f, x, t', x', n, L, k, h => by simp [Tr.feed] at h; obtain ⟨rfl, rfl⟩ := h; rfl
theorem run_feed {α : Type} {k : Int} (hk : 0 ≤ k) {t' : Tr α} {x' : Nt} : ∀ (t : Tr α) (x : Nt) (gs : List Got), t.feed x gs = some (t', x') → ∀ p : Pst, p.n = gs.length → (∀ j, j < gs.length → p.g j = gotOf (gs.getD j zeroGot)) → p.note = x → ∃ q : Pst, q.n = 0 ∧ q.note = x' ∧ t.run k p = t'.run k q
 | .note z t, x, gs, h, p, hn, hg, hx => run_feed hk t z gs (by simpa [Tr.feed] using h) ⟨p.n, p.g, z⟩ hn hg rfl
 | .ret a, x, [], h, p, hn, hg, hx => by simp [Tr.feed] at h; obtain ⟨rfl, rfl⟩ := h; exact ⟨p, hn, hx, rfl⟩
 | .ret a, x, _ :: _, h, p, hn, hg, hx => by simp [Tr.feed] at h
 | .dead, x, [], h, p, hn, hg, hx => by simp [Tr.feed] at h; obtain ⟨rfl, rfl⟩ := h; exact ⟨p, hn, hx, rfl⟩
 | .dead, x, _ :: _, h, p, hn, hg, hx => by simp [Tr.feed] at h
 | .ask w f, x, [], h, p, hn, hg, hx => by simp [Tr.feed] at h; obtain ⟨rfl, rfl⟩ := h; exact ⟨p, hn, hx, rfl⟩
 | .ask w f, x, g :: gs, h, p, hn, hg, hx => by
  have hn2 : p.n = gs.length + 1 := hn
  have h0 : p.g 0 = gotOf g := hg 0 (by simp)
  obtain ⟨q, h1, h2, h3⟩ := run_feed hk (f (gotOf g)) x gs (by simpa [Tr.feed] using h) p.tl (by show p.n - 1 = _; omega) (fun j hj => by show p.g (j + 1) = _; rw [hg (j + 1) (by simp; omega)]; rfl) hx
  refine ⟨q, h1, h2, ?_⟩
  rw [← h3]
  show (askM k w p).bind _ = _
  unfold askM
  rw [if_pos ⟨by omega, by omega⟩]
  show (f (p.g 0)).run k p.tl = _
  rw [h0]
structure TrN (N : NextF) (b : Int) (T : Nat → Tr Rsl) : Prop where
 nxt : ∀ n f, allGot n f = true → N n f = toldM ((T (n + 1)).run (b - n) (pst0 n f))
 app : ∀ {d n n' : Nat}, d ≤ n → d ≤ n' → App d (T n) (T n')
section
variable {N : NextF} {b : Int} {T : Nat → Tr Rsl} {most : Int} {A : GotA → Prop} {W : Wq → Prop} {X : Nt → Prop} {Q : Rsl → Prop} {R : Shf → Prop}
theorem next_at (hN : TrN N b T) {m : Nat} {gs : List Got} {t : Tr Rsl} {x : Nt} (hf : (T m).feed nt0 gs = some (t, x)) (hg : ∀ j, j < gs.length → isGotB (gotOf (gs.getD j zeroGot)) = true) (hb : (gs.length : Int) ≤ b) (hm : gs.length < m) : ∃ q : Pst, q.n = 0 ∧ q.note = x ∧ N gs.length (ansF gs) = toldM (t.run (b - gs.length) q) := by
 have h1 := hN.nxt gs.length (ansF gs) (allGot_yes hg)
 obtain ⟨q, h2, h3, h4⟩ := run_feed (k := b - gs.length) (by omega) (T m) nt0 gs hf (pst0 gs.length (ansF gs)) rfl (fun j hj => rfl) rfl
 refine ⟨q, h2, h3, ?_⟩
 rw [h1, ← h4]
 congr 1
 exact run_app (hN.app (d := gs.length + 1) (Nat.le_refl _) (by omega)) (by show gs.length < _; omega)
theorem told_ret {a : Rsl} {q : Pst} (h : q.n = 0) : toldM (.ok a q) = (⟨4, ⟨0, 0⟩, 0, zeroRec, a⟩, 0) := by
 unfold toldM; dsimp only; rw [if_neg (by omega)]
theorem told_stop {w : Wq} {q : Pst} (h : q.n = 0) : toldM (.stop w q) = (w, 0) := by
 unfold toldM; dsimp only; rw [if_neg (by omega)]
theorem ask_none {k : Int} {w : Wq} {q : Pst} {f : GotA → Tr Rsl} (h : q.n = 0) : (Tr.ask w f).run k q = .stop (if k ≤ 0 then overW q else w) q := by
 show (askM k w q).bind _ = _
 unfold askM
 rw [if_neg (by omega), h]
 simp only [Int.natCast_zero, Int.zero_add]
 rfl
theorem dir_go (hN : TrN N b T) {m : Nat} (hm : b < m) (hWk : ∀ w, W w → w.kind ≠ 4) (hR : ∀ L w, R L → W w → (doL L (wntOf w)).err = 0 → R (doL L (wntOf w)).L ∧ isGotB (gotOf (doL L (wntOf w)).got) = true ∧ A (gotOf (doL L (wntOf w)).got)) :
  ∀ (fuel : Nat) (t : Tr Rsl) (x : Nt) (gs : List Got) (L : Shf) (k : Int) (d : Nat), (T m).feed nt0 gs = some (t, x) → t.noNote → App d t t → t.All A W X Q → R L → (∀ j, j < gs.length → isGotB (gotOf (gs.getD j zeroGot)) = true) → (gs.length : Int) ≤ b → b - gs.length < d → b - gs.length < fuel →
   runQ N most fuel gs L k = t.dir most b x gs.length L k
 | 0, t, x, gs, L, k, d, hf, hnn, ha, hall, hL, hg, hb, hd, hfu => by omega
 | fuel + 1, t, x, gs, L, k, d, hf, hnn, ha, hall, hL, hg, hb, hd, hfu => by
  obtain ⟨q, h1, h2, h3⟩ := next_at hN hf hg hb (by omega)
  cases t with
  | note y t => exact absurd hnn (fun h => h)
  | ret a => exact run_end (h3.trans (told_ret h1)) rfl
  | dead =>
   cases ha with
   | zero => omega
  | ask w f =>
   rw [ask_none h1] at h3
   have h4 := h3.trans (told_stop h1)
   by_cases hov : b ≤ (gs.length : Int)
   ·rw [if_pos (by omega)] at h4
    rw [run_end h4 rfl]
    unfold Tr.dir
    rw [if_pos hov]
    unfold overW ntR
    rw [h2]
   rw [if_neg (by omega)] at h4
   have hk := hWk w hall.1
   unfold Tr.dir
   rw [if_neg hov]
   by_cases hmo : most ≤ (gs.length : Int)
   ·rw [if_pos hmo, run_cut h4 hk hmo]
   rw [if_neg hmo]
   by_cases he : (doL L (wntOf w)).err = 0
   ·rw [if_neg (fun h => h he), run_go h4 hk hmo rfl he]
    obtain ⟨r1, r2, r3⟩ := hR L w hL hall.1 he
    cases ha with
    | zero => omega
    | @ask d' _ _ _ ha =>
     obtain ⟨t', x', f1, f2, f3, f4⟩ := feed_nil (A := A) (W := W) (X := X) (Q := Q) (f (gotOf (doL L (wntOf w)).got)) x
     have hfe : (T m).feed nt0 (gs ++ [(doL L (wntOf w)).got]) = some (t', x') := by rw [feed_add _ _ _ hf, f1]
     have hlen : (gs ++ [(doL L (wntOf w)).got]).length = gs.length + 1 := by simp
     rw [dir_go hN hm hWk hR fuel t' x' _ _ _ d' hfe f2 (f3 _ (ha _)) (f4 (hall.2 _ r3)) r1 ?_ (by rw [hlen]; omega) (by rw [hlen]; omega) (by rw [hlen]; omega), hlen]
     ·exact feed_dir _ _ _ _ _ f1
     intro j hj
     rw [hlen] at hj
     by_cases hjl : j < gs.length
     ·have := hg j hjl
      rw [List.getD_eq_getElem?_getD, List.getElem?_append_left hjl, ← List.getD_eq_getElem?_getD]
      exact this
     have : j = gs.length := by omega
     subst this
     simpa [List.getD] using r2
   rw [if_pos he, run_err h4 hk hmo rfl he]
theorem dir_run (hN : TrN N b T) {m : Nat} (hm : b < m) (h0 : 0 ≤ b) (hWk : ∀ w, W w → w.kind ≠ 4) (hR : ∀ L w, R L → W w → (doL L (wntOf w)).err = 0 → R (doL L (wntOf w)).L ∧ isGotB (gotOf (doL L (wntOf w)).got) = true ∧ A (gotOf (doL L (wntOf w)).got))
  (hall : (T m).All A W X Q) {fuel : Nat} (hfu : b < fuel) {L : Shf} (hL : R L) (k : Int) : runQ N most fuel [] L k = (T m).dir most b nt0 0 L k := by
 obtain ⟨t', x', f1, f2, f3, f4⟩ := feed_nil (A := A) (W := W) (X := X) (Q := Q) (T m) nt0
 rw [dir_go hN hm hWk hR fuel t' x' [] L k m f1 f2 (f3 _ (hN.app (Nat.le_refl _) (Nat.le_refl _))) (f4 hall) hL (fun j hj => absurd hj (Nat.not_lt_zero _)) (by simpa using h0) (by simp; omega) (by simp; omega)]
 exact feed_dir _ _ _ _ _ f1
end
theorem rises_ok {l : List Itm} (hs : Srt l) (hv : ∀ x ∈ l, x.val.size ≤ 64) : okF (itF l) l.length = true := by
 unfold okF
 rw [List.all_eq_true]
 intro i hi
 have hi := List.mem_range.1 hi
 have e : ∀ t (h : t < l.length), itF l t = l[t] := fun t h => by simp [itF, List.getD, h]
 unfold okAt
 rw [e i hi]
 cases i with
 | zero => simpa using hv _ (List.getElem_mem hi)
 | succ i =>
  have h2 : l[i].key < l[i + 1].key := (List.pairwise_iff_getElem.1 hs) i (i + 1) (by omega) hi (by omega)
  simp
  refine ⟨hv _ (List.getElem_mem hi), ?_⟩
  rw [e i (by omega)]
  exact h2
theorem rf_of {kd : Int} {n : Nat} {f : Nat → Itm} {nx : Lab} {mk : Int} (hok : okF f n = true) (hn : n ≤ 16) (hx : nx = noneL ∨ isL nx = true) (hk : (kd = 1 ∧ mk = 0) ∨ kd = 5) : isRF kd n f nx mk = true := by
 unfold isRF rowF bareK
 rcases hk with ⟨rfl, rfl⟩ | rfl
 ·rcases hx with hx | hx <;> simp [hok, hn, hx]
 rcases hx with hx | hx <;> simp [hok, hn, hx]
theorem short_items {f : Nat → Itm} {n : Nat} (h : okF f n = true) : ∀ x ∈ firsts f n, x.val.size ≤ 64 := by
 intro x hx
 obtain ⟨i, hi, rfl⟩ := List.mem_map.1 hx
 have := okF_at (List.mem_range.1 hi) h
 unfold okAt at this
 simp only [Bool.and_eq_true, decide_eq_true_eq] at this
 exact this.1
theorem r_inner : isR innerR = true := by decide
theorem gk_at {g : GotA} {k : Int} (h : gk g k = true) : g.has = true ∧ g.x.r.kd = k := by
 unfold gk at h
 simp only [Bool.and_eq_true, decide_eq_true_eq] at h
 exact h
theorem r_as {g : GotA} (h : GotR g) {kd mk k : Int} (hg : gk g k = true) (hk : (kd = 1 ∧ mk = 0) ∨ kd = 5) : isR (asR kd g.x mk).r.abs = true := by
 rw [isR_abs]
 obtain ⟨_, _, h3, h4, h5⟩ := isRF_kind (h.rf (gk_at hg).1)
 exact rf_of h5 h3 h4 hk
theorem halv_r {x : RA} {l : Lab} (hl : LOk l) (h : (halvA x l).2.2 = 0) : isR (halvA x l).1 = true ∧ isR (halvA x l).2.1 = true := by
 unfold halvA halvR at h ⊢
 split at h
 ·cases h
 rename_i h1
 rw [if_neg h1]
 split at h
 ·cases h
 rename_i h2
 rw [if_neg h2]
 split at h
 ·cases h
 rename_i h3
 rw [if_neg h3]
 have h4 : isRF x.r.kd x.r.n x.r.f x.r.nx x.r.mrk = true := by
  simp only [Bool.not_eq_false, Bool.and_eq_true] at h1
  exact h1.1.1
 obtain ⟨_, _, k3, k4, k5⟩ := isRF_kind h4
 have hc : ∀ c, okF (itF (covL c (firsts x.r.f x.r.n))) (covL c (firsts x.r.f x.r.n)).length = true ∧ (covL c (firsts x.r.f x.r.n)).length ≤ 16 := fun c => by
  refine ⟨rises_ok (List.Pairwise.filter _ (okF_Srt k5)) fun y hy => short_items k5 y (cov_sub hy), Nat.le_trans (cov_le _ _) ?_⟩
  rw [firsts_len]; exact k3
 exact ⟨rf_of (hc _).1 (hc _).2 (.inr (child_isL hl.isl hl.u h3 1)) (.inl ⟨rfl, rfl⟩), rf_of (hc _).1 (hc _).2 k4 (.inl ⟨rfl, rfl⟩)⟩
theorem uni_r {x y : RA} (h : (uniA x y).2 = 0) : isR (uniA x y).1 = true := by
 unfold uniA uniR at h ⊢
 split at h
 ·cases h
 rename_i h1
 rw [if_neg h1]
 split at h
 ·cases h
 rename_i h2
 rw [if_neg h2]
 split at h
 ·cases h
 rename_i h3
 rw [if_neg h3]
 split at h
 ·cases h
 rename_i h4
 rw [if_neg h4]
 simp only [Bool.not_eq_false, Bool.and_eq_true] at h1
 obtain ⟨_, _, a3, a4, a5⟩ := isRF_kind h1.1
 obtain ⟨_, _, b3, b4, b5⟩ := isRF_kind h1.2
 refine rf_of (rises_ok ?_ fun z hz => ?_) ?_ b4 (.inl ⟨rfl, rfl⟩)
 ·refine List.pairwise_append.2 ⟨okF_Srt a5, okF_Srt b5, fun u hu v hv => ?_⟩
  obtain ⟨i, hi, rfl⟩ := List.mem_map.1 hu
  obtain ⟨j, hj, rfl⟩ := List.mem_map.1 hv
  have hi := List.mem_range.1 hi
  have hj := List.mem_range.1 hj
  have h5 : (x.r.f (x.r.n - 1)).key < (y.r.f 0).key := by
   unfold ovl at h2
   simp only [Bool.and_eq_true, decide_eq_true_eq, not_and] at h2
   have := h2 (by omega) (by omega)
   omega
  have h6 : (x.r.f i).key ≤ (x.r.f (x.r.n - 1)).key := by
   by_cases he : i = x.r.n - 1
   ·rw [he]; exact Int.le_refl _
   exact Int.le_of_lt (okF_srt a5 _ _ (by omega) (by omega))
  have h7 : (y.r.f 0).key ≤ (y.r.f j).key := by
   by_cases he : j = 0
   ·rw [he]; exact Int.le_refl _
   exact Int.le_of_lt (okF_srt b5 _ _ (by omega) (by omega))
  omega
 ·rcases List.mem_append.1 hz with hz | hz
  ·exact short_items a5 z hz
  exact short_items b5 z hz
 show (firsts x.r.f x.r.n ++ firsts y.r.f y.r.n).length ≤ 16
 rw [List.length_append, firsts_len, firsts_len]; omega
structure WqR (w : Wq) : Prop where
 ok : WqOk w
 kd : w.kind = 1 ∨ w.kind = 2 ∨ w.kind = 3
 put : w.kind = 2 → isR w.r = true
def GA (g : GotA) : Prop := GotOk g ∧ GotR g
section
variable {X : Nt → Prop} {bk key : Int}
abbrev AllA {α : Type} (X : Nt → Prop) (Q : α → Prop) (t : Tr α) : Prop := t.All GA WqR X Q
abbrev Any {α : Type} : α → Prop := fun _ => True
theorem all_get {l : Lab} (h : LOk l) : AllA X GA (getT l) := all_ask ⟨⟨h, rec_z⟩, .inl rfl, fun h => absurd h (by show ¬ (1 : Int) = 2; decide)⟩
theorem all_cas {l : Lab} {v : Int} {r : Rec} (h : LOk l) (hr : RecOk r) (h2 : isR r = true) : AllA X Any (casT l v r) := all_bind (all_ask (w := ⟨2, l, v, r, zRsl⟩) ⟨⟨h, hr⟩, .inr (.inl rfl), fun _ => h2⟩) fun _ _ => trivial
theorem all_drp {l : Lab} {v : Int} (h : LOk l) : AllA X Any (drpT l v) := all_bind (all_ask (w := ⟨3, l, v, zeroRec, zRsl⟩) ⟨⟨h, rec_z⟩, .inr (.inr rfl), fun h => absurd h (by show ¬ (3 : Int) = 2; decide)⟩) fun _ _ => trivial
theorem all_splC {l : Lab} {v : Int} {c : Lab} {x : Rec} (hl : LOk l) (hc : LOk c) (hx : RecOk x) (hr : isR x = true) : ∀ n, AllA X Any (splCT l v c x n)
 | 0 => trivial
 | n + 1 => all_bind (all_get hc) fun _ _ => all_ite (fun _ => trivial) fun _ => all_bind (all_get hl) fun _ _ => all_ite (fun _ => all_bind (all_cas hc hx hr) fun _ _ => all_ite (fun _ => trivial) fun _ => all_splC hl hc hx hr n) fun _ => trivial
theorem all_split {n : Nat} {l : Lab} {v : Int} {x : RA} (hl : LOk l) (hx : RaOk x) : AllA X Any (splitT n l v x) :=
 all_ite (fun h => all_bind (all_splC hl (hl.ch 0) (halv_ok hx hl).1 (halv_r hl h).1 n) fun _ _ => all_ite (fun _ => all_bind (all_splC hl (hl.ch 1) (halv_ok hx hl).2 (halv_r hl h).2 n) fun _ _ => all_ite (fun _ => all_bind (all_cas hl rec_in r_inner) fun _ _ => trivial) fun _ => trivial) fun _ => trivial) fun _ => trivial
def FzOk : Fz → Prop
 | .fr x => RaOk x
 | _ => True
theorem all_frz {l : Lab} {v : Int} {c : Lab} (hl : LOk l) (hc : LOk c) : ∀ n, AllA X FzOk (frzT l v c n)
 | 0 => trivial
 | n + 1 => all_bind (all_get hc) fun g hg => all_ite (fun hk => all_ite (fun _ => hg.1.ra) fun _ => all_bind (all_get hl) fun _ _ => all_ite (fun _ => all_bind (all_cas hc (hg.1.ra.as 5 v).ro (by
   rcases Bool.or_eq_true _ _ ▸ hk with h | h
   ·exact r_as hg.2 h (.inr rfl)
   exact r_as hg.2 h (.inr rfl))) fun _ _ => all_ite (fun _ => hg.1.ra.as 5 v) fun _ => all_frz hl hc n) fun _ => trivial) fun _ => trivial
theorem all_clnC {l : Lab} {cl : Lab → Tr Unit} {c : Lab} (hl : LOk l) (hc : LOk c) (h : ∀ c, LOk c → AllA X Any (cl c)) : AllA X Any (clnCT l cl c) :=
 all_bind (all_get hc) fun _ _ => all_ite (fun _ => all_bind (h c hc) fun _ _ => all_bind (all_get hl) fun _ _ => all_ite (fun _ => all_bind (all_drp hc) fun _ _ => trivial) fun _ => trivial) fun _ => trivial
theorem all_cln : ∀ (n : Nat) (l : Lab), LOk l → AllA X Any (clnT n l)
 | 0, l, _ => trivial
 | n + 1, l, hl => all_ite (fun _ => trivial) fun _ => all_bind (all_clnC hl (hl.ch 0) fun c hc => all_cln n c hc) fun _ _ => all_ite (fun _ => all_bind (all_clnC hl (hl.ch 1) fun c hc => all_cln n c hc) fun _ _ => trivial) fun _ => trivial
theorem all_bck {th : Lab → Tr Unit} {l : Lab} {v : Int} (hl : LOk l) (h : ∀ c, LOk c → AllA X Any (th c)) : AllA X Any (bckT th l v) :=
 all_bind (all_cas hl rec_in r_inner) fun _ _ => all_ite (fun _ => all_bind (h _ (hl.ch 0)) fun _ _ => h _ (hl.ch 1)) fun _ => trivial
theorem all_mrg {n : Nat} {th : Lab → Tr Unit} {l : Lab} {v : Int} (hl : LOk l) (h : ∀ c, LOk c → AllA X Any (th c)) : AllA X Any (mrgT bk n th l v) :=
 all_bind (all_frz hl (hl.ch 0) n) fun a ha => match a, ha with
  | .over, _ => trivial
  | .unfit, _ => all_bck hl h
  | .fr a, ha => all_bind (all_frz hl (hl.ch 1) n) fun b hb => match b, hb with
   | .over, _ => trivial
   | .unfit, _ => all_bck hl h
   | .fr b, hb => all_ite (fun hu => all_bind (all_cas hl (uni_ok ha hb) (uni_r hu.1)) fun _ _ => all_ite (fun _ => all_cln n l hl) fun _ => trivial) fun _ => all_bck hl h
theorem all_fin {n : Nat} {th : Lab → Tr Unit} {l : Lab} {g : GotA} (hl : LOk l) (hg : GA g) (h : ∀ c, LOk c → AllA X Any (th c)) : AllA X Any (finT bk n th l g) :=
 all_ite (fun _ => all_split hl hg.1.ra) fun _ => all_ite (fun _ => all_mrg hl h) fun _ => trivial
theorem all_thwL : ∀ (n : Nat) (l up : Lab), LOk l → LOk up → AllA X Any (thwLT bk n l up)
 | 0, l, up, _, _ => trivial
 | n + 1, l, up, hl, hu => all_bind (all_get hl) fun g hg => all_ite (fun hk => all_bind (all_get hu) fun q hq => all_bind (Q := Any) (all_ite (fun _ => all_fin hu hq fun c hc => all_ite (fun _ => all_thwL n c (parV c) hc hc.par) fun _ => trivial) fun _ => trivial) fun _ _ => all_ite (fun _ => all_bind (all_cas hl (hg.1.ra.as 1 0).ro (r_as hg.2 hk (.inl ⟨rfl, rfl⟩))) fun _ _ => all_ite (fun _ => trivial) fun _ => all_thwL n l up hl hu) fun _ => trivial) fun _ => trivial
theorem all_thw {n : Nat} {l : Lab} (hl : LOk l) : AllA X Any (thwT bk n l) := all_ite (fun _ => all_thwL n l _ hl hl.par) fun _ => trivial
theorem all_fns {n : Nat} {l : Lab} {g : GotA} (hl : LOk l) (hg : GA g) : AllA X Any (fnsT bk n l g) := all_fin hl hg fun _ hc => all_thw hc
end
def SpoR (p : Lab × Spo) : Prop := (p.2.has = true → isR p.2.r = true) ∧ (p.2.has = false → p.2.r = zeroRec)
structure ShfR (L : Shf) : Prop where
 good : ShfG L
 sp : ∀ p ∈ L, SpoR p
theorem find_spo {L : Shf} (h : ∀ p ∈ L, SpoR p) (l : Lab) : ((spotOf L l).has = true → isR (spotOf L l).r = true) ∧ ((spotOf L l).has = false → (spotOf L l).r = zeroRec) := by
 unfold spotOf
 cases e : findL l L with
 | none => exact ⟨fun h => (by cases h), fun _ => rfl⟩
 | some x =>
  obtain ⟨p, hp, rfl⟩ := find_memL e
  exact h p hp
theorem newL_right : ∀ {l : List Rw} {L L' : Shf}, (∀ p ∈ L, SpoR p) → newL l L = some L' → ∀ p ∈ L', SpoR p
 | [], L, L', h2, h => by
  simp only [newL, Option.some.injEq] at h
  subst h; exact h2
 | r :: l, L, L', h2, h => by
  unfold newL at h
  split at h
  ·cases h
  rename_i hc
  have hc2 : isR r.r = true := by
   simp only [Bool.or_eq_true, Bool.not_eq_true', not_or] at hc
   simpa using hc.2
  refine newL_right (fun p hp => ?_) h
  rcases put_mem hp with rfl | hp
  ·exact ⟨fun _ => hc2, fun h => (by cases h)⟩
  exact h2 p hp
theorem newS_right {l : List Rw} {L : Shf} (hr : ∀ r ∈ l, RwG r) (h : newS l = some L) : ShfR L := by
 refine ⟨newS_good hr h, ?_⟩
 unfold newS at h
 split at h
 ·cases h
 exact newL_right (fun p hp => by cases hp) h
theorem newL_len : ∀ {l : List Rw} {L L' : Shf}, Rises L → newL l L = some L' → L'.length = L.length + l.length
 | [], L, L', hr, h => by
  simp only [newL, Option.some.injEq] at h
  subst h; rfl
 | r :: l, L, L', hr, h => by
  unfold newL at h
  split at h
  ·cases h
  rename_i hc
  have hn : (findL r.lab L).isSome = false := by
   simp only [Bool.or_eq_true, Bool.not_eq_true', not_or] at hc
   simpa using hc.1.1
  rw [newL_len (put_rises hr) h, put_len _ _ hr, hn]
  simp; omega
theorem newS_len {l : List Rw} {L : Shf} (h : newS l = some L) : L.length = l.length := by
 unfold newS at h
 split at h
 ·cases h
 have := newL_len .nil h
 simpa using this
theorem gotB_of {G : Got} (hc : G.code = 0 ∨ G.code = 8) (h : (G.has = true → isR G.r = true) ∧ (G.has = false → G.r = zeroRec)) : isGotB (gotOf G) = true := by
 unfold isGotB gotOf
 simp only [Bool.and_eq_true, Bool.or_eq_true, decide_eq_true_eq]
 refine ⟨hc, ?_⟩
 by_cases hh : G.has = true
 ·rw [if_pos hh]
  have := h.1 hh
  rw [← rn_abs G.r, isR_abs] at this
  exact this
 rw [if_neg hh, h.2 (by simpa using hh)]
 rfl
theorem do_right {L : Shf} (hL : ShfR L) {w : Wq} (hw : WqR w) :
  ((L.length : Int) < 2000 → (doL L (wntOf w)).err = 0) ∧ (doL L (wntOf w)).L.length ≤ L.length + 1 ∧ ShfR (doL L (wntOf w)).L ∧ isGotB (gotOf (doL L (wntOf w)).got) = true ∧ GA (gotOf (doL L (wntOf w)).got) := by
 obtain ⟨hgd, hv, hr⟩ := doL_good hL.good (w := wntOf w) ⟨hw.ok.lab.wf, hw.ok.r.nx, hw.ok.r.key⟩
 have hs := find_spo hL.sp w.lab
 have hcond : ((wntOf w).kind = 1 ∨ (wntOf w).kind = 2 ∨ (wntOf w).kind = 3) ∧ isL (wntOf w).lab = true ∧ ((wntOf w).kind = 2 → isR (wntOf w).r = true) := ⟨hw.kd, hw.ok.lab.isl, hw.put⟩
 have H : ((L.length : Int) < 2000 → (doL L (wntOf w)).err = 0) ∧ (doL L (wntOf w)).L.length ≤ L.length + 1 ∧ (∀ p ∈ (doL L (wntOf w)).L, SpoR p) ∧ isGotB (gotOf (doL L (wntOf w)).got) = true := by
  unfold doL
  rw [if_pos hcond]
  split
  ·exact ⟨fun _ => rfl, Nat.le_succ _, hL.sp, gotB_of (.inl rfl) hs⟩
  split
  ·exact ⟨fun _ => rfl, Nat.le_succ _, hL.sp, gotB_of (.inr rfl) ⟨fun h => (by cases h), fun _ => rfl⟩⟩
  split
  ·rename_i hfull
   exact ⟨fun h => by omega, Nat.le_succ _, hL.sp, gotB_of (.inl rfl) ⟨fun h => (by cases h), fun _ => rfl⟩⟩
  refine ⟨fun _ => rfl, ?_, fun p hp => ?_, gotB_of (.inl rfl) ⟨fun h => (by cases h), fun _ => rfl⟩⟩
  ·show (putL _ _ L).length ≤ _
   rw [put_len _ _ hL.good.ok.ris]
   split <;> omega
  rcases put_mem hp with rfl | hp
  ·refine ⟨fun h => ?_, fun h => ?_⟩
   ·have h2 : (wntOf w).kind = 2 := of_decide_eq_true h
    show isR (if (wntOf w).kind = 2 then (wntOf w).r else zeroRec) = true
    rw [if_pos h2]; exact hw.put h2
   have h2 : ¬ (wntOf w).kind = 2 := of_decide_eq_false h
   show (if (wntOf w).kind = 2 then (wntOf w).r else zeroRec) = zeroRec
   rw [if_neg h2]
  exact hL.sp p hp
 obtain ⟨h1, h2, h3, h4⟩ := H
 have hi : InG (gotOf (doL L (wntOf w)).got) := by
  refine got_in (G := (doL L (wntOf w)).got) ?_ hv hr
  unfold gotOf GotA.abs
  simp only [rn_abs]
 exact ⟨h1, h2, ⟨hgd, h3⟩, h4, got_ok hi h4, got_r h4⟩
abbrev TQ (α : Type) := α → Nt → Nat → Shf → Int → Prop
def Tr.wp {α : Type} (most b : Int) (Q : TQ α) (E : RunR → Prop) : Tr α → Nt → Nat → Shf → Int → Prop
 | .ret a, x, n, L, k => Q a x n L k
 | .dead, x, n, L, k => E ⟨5, zRsl, n, 0, L, k⟩
 | .note y t, x, n, L, k => t.wp most b Q E y n L k
 | .ask w f, x, n, L, k =>
  if b ≤ n then E ⟨2, ntR x, n, 0, L, k⟩
  else if most ≤ n then E ⟨3, zRsl, n, 0, L, k⟩
  else if (doL L (wntOf w)).err ≠ 0 then E ⟨4, zRsl, n, (doL L (wntOf w)).err, (doL L (wntOf w)).L, if (doL L (wntOf w)).wrote then IntKind.i64.wrap (k + 1) else k⟩
  else (f (gotOf (doL L (wntOf w)).got)).wp most b Q E x (n + 1) (doL L (wntOf w)).L (if (doL L (wntOf w)).wrote then IntKind.i64.wrap (k + 1) else k)
section
variable {α β : Type} {most b : Int} {E : RunR → Prop}
theorem wp_bind {Q : TQ β} : ∀ {t : Tr α} {f : α → Tr β} {x : Nt} {n : Nat} {L : Shf} {k : Int}, t.wp most b (fun a x n L k => (f a).wp most b Q E x n L k) E x n L k → (t.bind f).wp most b Q E x n L k
 | .ret a, f, x, n, L, k, h => h
 | .dead, f, x, n, L, k, h => h
 | .note y t, f, x, n, L, k, h => wp_bind (t := t) h
 | .ask w g, f, x, n, L, k, h => by
  unfold Tr.wp at h
  show (Tr.ask w fun a => (g a).bind f).wp most b Q E x n L k
  unfold Tr.wp
  by_cases h1 : b ≤ n
  ·rw [if_pos h1] at h ⊢; exact h
  rw [if_neg h1] at h ⊢
  by_cases h2 : most ≤ n
  ·rw [if_pos h2] at h ⊢; exact h
  rw [if_neg h2] at h ⊢
  by_cases h3 : (doL L (wntOf w)).err ≠ 0
  ·rw [if_pos h3] at h ⊢; exact h
  rw [if_neg h3] at h ⊢; exact wp_bind (t := g _) h
theorem wp_mono {Q R : TQ α} {F : RunR → Prop} (hE : ∀ r, E r → F r) : ∀ {t : Tr α} {x : Nt} {n : Nat} {L : Shf} {k : Int}, t.wp most b Q E x n L k → (∀ a x n L k, Q a x n L k → R a x n L k) → t.wp most b R F x n L k
 | .ret a, x, n, L, k, h, hq => hq _ _ _ _ _ h
 | .dead, x, n, L, k, h, hq => hE _ h
 | .note y t, x, n, L, k, h, hq => wp_mono hE (t := t) h hq
 | .ask w g, x, n, L, k, h, hq => by
  unfold Tr.wp at h ⊢
  by_cases h1 : b ≤ n
  ·rw [if_pos h1] at h ⊢; exact hE _ h
  rw [if_neg h1] at h ⊢
  by_cases h2 : most ≤ n
  ·rw [if_pos h2] at h ⊢; exact hE _ h
  rw [if_neg h2] at h ⊢
  by_cases h3 : (doL L (wntOf w)).err ≠ 0
  ·rw [if_pos h3] at h ⊢; exact hE _ h
  rw [if_neg h3] at h ⊢; exact wp_mono hE (t := g _) h hq
theorem wp_ite {Q : TQ α} {c : Prop} [Decidable c] {t u : Tr α} {x : Nt} {n : Nat} {L : Shf} {k : Int} (ht : c → t.wp most b Q E x n L k) (hu : ¬ c → u.wp most b Q E x n L k) : (if c then t else u).wp most b Q E x n L k := by
 by_cases h : c
 ·rw [if_pos h]; exact ht h
 rw [if_neg h]; exact hu h
end
theorem wp_dir {most b : Int} {P : RunR → Prop} : ∀ {t : Tr Rsl} {x : Nt} {n : Nat} {L : Shf} {k : Int}, t.wp most b (fun a x n L k => P ⟨2, a, n, 0, L, k⟩) P x n L k → P (t.dir most b x n L k)
 | .ret a, x, n, L, k, h => h
 | .dead, x, n, L, k, h => h
 | .note y t, x, n, L, k, h => wp_dir (t := t) h
 | .ask w g, x, n, L, k, h => by
  unfold Tr.wp at h
  unfold Tr.dir
  by_cases h1 : b ≤ n
  ·rw [if_pos h1] at h ⊢; exact h
  rw [if_neg h1] at h ⊢
  by_cases h2 : most ≤ n
  ·rw [if_pos h2] at h ⊢; exact h
  rw [if_neg h2] at h ⊢
  by_cases h3 : (doL L (wntOf w)).err ≠ 0
  ·rw [if_pos h3] at h ⊢; exact h
  rw [if_neg h3] at h ⊢; exact wp_dir (t := g _) h
abbrev gotAtL (L : Shf) (l : Lab) : GotA := gotOf ⟨0, (spotOf L l).ver, (spotOf L l).has, (spotOf L l).r⟩
theorem doL_get {L : Shf} {l : Lab} (hl : isL l = true) : doL L (wntOf ⟨1, l, 0, zeroRec, zRsl⟩) = ⟨L, false, ⟨0, (spotOf L l).ver, (spotOf L l).has, (spotOf L l).r⟩, 0⟩ := by
 unfold doL wntOf
 rw [if_pos ⟨.inl rfl, hl, fun h => absurd h (by show ¬ (1 : Int) = 2; decide)⟩, if_pos rfl]
theorem doL_cas {L : Shf} {l : Lab} {r : Rec} (hl : isL l = true) (hr : isR r = true) (hf : L.length < 2000) : doL L (wntOf ⟨2, l, (spotOf L l).ver, r, zRsl⟩) = ⟨putL l ⟨inc (spotOf L l).ver, true, r⟩ L, true, ⟨0, inc (spotOf L l).ver, false, zeroRec⟩, 0⟩ := by
 unfold doL wntOf
 rw [if_pos ⟨.inr (.inl rfl), hl, fun _ => hr⟩, if_neg (by show ¬ (2 : Int) = 1; decide), if_neg (fun h => h rfl), if_neg (by omega)]
 rfl
theorem spot_put' (L : Shf) (l : Lab) (x : Spo) (l' : Lab) : spotOf (putL l x L) l' = if l = l' then x else spotOf L l' := by
 unfold spotOf
 rw [find_put]
 split <;> rfl
section
variable {α : Type} {most b : Int} {E : RunR → Prop} {x : Nt} {n : Nat} {L : Shf} {k : Int}
theorem wp_get {Q : TQ GotA} {l : Lab} (hl : LOk l) (h1 : (n : Int) < b) (h2 : b ≤ most) (h : Q (gotAtL L l) x (n + 1) L k) : (getT l).wp most b Q E x n L k := by
 unfold getT askT Tr.wp
 rw [if_neg (by omega), if_neg (by omega), doL_get hl.isl, if_neg (fun h => h rfl)]
 exact h
theorem wp_cas {Q : TQ Bool} {l : Lab} {r : Rec} {v : Int} (hl : LOk l) (hr : isR r = true) (hv : v = (spotOf L l).ver) (hf : L.length < 2000) (h1 : (n : Int) < b) (h2 : b ≤ most) (h : Q true x (n + 1) (putL l ⟨inc v, true, r⟩ L) (IntKind.i64.wrap (k + 1))) : (casT l v r).wp most b Q E x n L k := by
 subst hv
 refine wp_bind ?_
 unfold askT Tr.wp
 rw [if_neg (by omega), if_neg (by omega), doL_cas hl.isl hr hf, if_neg (fun h => h rfl)]
 exact h
end
theorem ch_val {l : Lab} (hl : LOk l) (h64 : l.len ≠ 64) (b : Int) : chV l b = childL l b := by
 unfold chV chE
 rw [hl.isl]
 simp [h64]
theorem ch_len {l : Lab} (hl : LOk l) (h64 : l.len ≠ 64) (b : Int) : (chV l b).len = l.len + 1 := by rw [ch_val hl h64]; rfl
theorem ch_ne {l : Lab} (hl : LOk l) (h64 : l.len ≠ 64) (b : Int) : chV l b ≠ l := fun h => by
 have := ch_len hl h64 b
 rw [h] at this; omega
theorem ch_two {l : Lab} (hl : LOk l) (h64 : l.len ≠ 64) : chV l 0 ≠ chV l 1 := by
 rw [ch_val hl h64, ch_val hl h64]
 intro h
 have h2 : l.bits = l.bits + ((2 ^ (63 - l.len.toNat) : Nat) : Int) := by
  have := congrArg Lab.bits h
  simpa [childL] using this
 have : 0 < 2 ^ (63 - l.len.toNat) := Nat.pow_pos (by decide)
 omega
theorem ch_par {l : Lab} (hl : LOk l) (h64 : l.len ≠ 64) (b : Int) : parE (chV l b) = 0 ∧ parV (chV l b) = l := by
 have hlen := ch_len hl h64 b
 obtain ⟨h0, h1, h2⟩ := lab_parts hl.isl
 have hE : parE (chV l b) = 0 := by
  unfold parE
  rw [(hl.ch b).isl, if_neg (by decide), if_neg (by omega)]
 refine ⟨hE, ?_⟩
 unfold parV
 rw [if_pos hE, ch_val hl h64]
 obtain ⟨q, hq, hq2⟩ := lab_mul hl.isl hl.u h64
 have hpos : 0 < 2 ^ (63 - l.len.toNat) := Nat.pow_pos (by decide)
 unfold parL
 refine lab_ext (by show l.len + 1 - 1 = l.len; omega) ?_
 show ((headN (childL l b).bits.toNat ((l.len + 1).toNat - 1) : Nat) : Int) = l.bits
 have hn : (l.len + 1).toNat - 1 = l.len.toNat := by omega
 rw [hn]
 have hb : (childL l b).bits.toNat = (if b = 1 then 2 ^ (63 - l.len.toNat) else 0) + (2 * 2 ^ (63 - l.len.toNat)) * q := by
  unfold childL
  simp only
  split
  ·rw [hq, Nat.mul_comm q]; omega
  rw [hq, Nat.mul_comm q]; omega
 unfold headN
 have hn64 : l.len.toNat < 64 := by omega
 rw [half_pow hn64, hb, Nat.add_mul_div_left _ _ (Nat.mul_pos (by decide) hpos), hq]
 have hz : (if b = 1 then 2 ^ (63 - l.len.toNat) else 0) / (2 * 2 ^ (63 - l.len.toNat)) = 0 := by
  apply Nat.div_eq_of_lt
  split <;> omega
 rw [hz, Nat.zero_add]
theorem gotAt_ga {L : Shf} (hR : ShfR L) {l : Lab} (hl : LOk l) : GA (gotAtL L l) := by
 have h := (do_right hR (w := ⟨1, l, 0, zeroRec, zRsl⟩) ⟨⟨hl, rec_z⟩, .inl rfl, fun h => absurd h (by show ¬ (1 : Int) = 2; decide)⟩).2.2.2.2
 rw [doL_get hl.isl] at h
 exact h
theorem put_right {L : Shf} (hR : ShfR L) (hf : L.length < 2000) {l : Lab} {r : Rec} (hl : LOk l) (hro : RecOk r) (hr : isR r = true) : ShfR (putL l ⟨inc (spotOf L l).ver, true, r⟩ L) ∧ (putL l ⟨inc (spotOf L l).ver, true, r⟩ L).length ≤ L.length + 1 := by
 have h := do_right hR (w := ⟨2, l, (spotOf L l).ver, r, zRsl⟩) ⟨⟨hl, hro⟩, .inr (.inl rfl), fun _ => hr⟩
 rw [doL_cas hl.isl hr hf] at h
 exact ⟨h.2.2.1, h.2.1⟩
theorem gk_iff (L : Shf) (l : Lab) (kd : Int) : gk (gotAtL L l) kd = true ↔ (spotOf L l).has = true ∧ (spotOf L l).r.kind = kd := by
 unfold gk gotAtL gotOf
 simp only [Bool.and_eq_true, decide_eq_true_eq]
 rfl
structure Beh (c : Lab) (d : Nat) (L L' : Shf) : Prop where
 right : ShfR L'
 len : L'.length ≤ L.length + d
 else_ : ∀ l, l ≠ c → spotOf L' l = spotOf L l
theorem Beh.refl {c : Lab} {L : Shf} (h : ShfR L) (d : Nat) : Beh c d L L := ⟨h, by omega, fun _ _ => rfl⟩
theorem beh_put {L : Shf} (hR : ShfR L) (hf : L.length < 2000) {l : Lab} {r : Rec} (hl : LOk l) (hro : RecOk r) (hr : isR r = true) : Beh l 1 L (putL l ⟨inc (spotOf L l).ver, true, r⟩ L) := by
 obtain ⟨h1, h2⟩ := put_right hR hf hl hro hr
 exact ⟨h1, h2, fun l' h => by rw [spot_put', if_neg (fun e => h e.symm)]⟩
section
variable {most b : Int} {E : RunR → Prop} {x : Nt} {n : Nat} {L : Shf} {k : Int} {bk : Int}
end
section
variable {X : Nt → Prop} {l : Lab}
end
section
variable {most b : Int} {x : Nt} {n : Nat} {L : Shf} {k : Int} {bk : Int}
theorem uni_kind {y z : RA} (h : (uniA y z).2 = 0) : (uniA y z).1.kind = 1 := by
 unfold uniA uniR at h ⊢
 split at h
 ·cases h
 rename_i h1
 rw [if_neg h1]
 split at h
 ·cases h
 rename_i h2
 rw [if_neg h2]
 split at h
 ·cases h
 rename_i h3
 rw [if_neg h3]
 split at h
 ·cases h
 rename_i h4
 rw [if_neg h4]
theorem halv_kind {y : RA} {l : Lab} (h : (halvA y l).2.2 = 0) : (halvA y l).1.kind = 1 ∧ (halvA y l).2.1.kind = 1 := by
 unfold halvA halvR at h ⊢
 split at h
 ·cases h
 rename_i h1
 rw [if_neg h1]
 split at h
 ·cases h
 rename_i h2
 rw [if_neg h2]
 split at h
 ·cases h
 rename_i h3
 rw [if_neg h3]
 exact ⟨rfl, rfl⟩
end
def helpT (J : JobA) (n : Nat) : Tr Rsl :=
 if J.kind = 2 then (clnT n J.lab).bind fun _ => .ret zRsl
 else if J.kind = 1 then (getT J.lab).bind fun g => (if (gk g 3 || gk g 4) = true then fnsT J.bucket n J.lab g else if gk g 5 = true then thwT J.bucket n J.lab else .ret ()).bind fun _ => .ret zRsl
 else .ret zRsl
theorem run_help (J : JobA) (k : Int) (p : Pst) : (helpT J (p.n + 1)).run k p = helpM J.bucket k J p := by
 unfold helpT helpM
 exact ri (rb (run_cln _ _ _) fun _ _ => rfl) (ri (rb (run_get _ _) fun g q => rb (ri (run_fns _ _ _ _) (ri (run_thw _ _ _) rfl)) fun _ _ => rfl) rfl)
theorem app_help (J : JobA) {d n n' : Nat} (h : d ≤ n) (h' : d ≤ n') : App d (helpT J n) (helpT J n') :=
 app_ite ((app_cln _ h h').bind fun _ => .ret _) (app_ite ((app_get _).bind fun _ => (app_ite (app_fns _ _ h h') (app_ite (app_thw _ h h') (.ret _))).bind fun _ => .ret _) (.ret _))
theorem all_help {X : Nt → Prop} {J : JobA} (hl : LOk J.lab) (n : Nat) : AllA X (fun a => a = zRsl) (helpT J n) :=
 all_ite (fun _ => all_bind (all_cln _ _ hl) fun _ _ => rfl) fun _ => all_ite (fun _ => all_bind (all_get hl) fun g hg => all_bind (Q := Any) (all_ite (fun _ => all_fns hl hg) fun _ => all_ite (fun _ => all_thw hl) fun _ => trivial) fun _ _ => rfl) fun _ => rfl
theorem help_tr {J : JobA} (hj : isJobB J = true) (hk : J.kind = 1 ∨ J.kind = 2) : TrN (helpN J) J.budget (helpT J) where
 nxt := fun n f hg => by
  unfold helpN nextR
  rw [if_pos (by simp [hj, hk, hg])]
  exact congrArg _ (run_help J (J.budget - n) (pst0 n f)).symm
 app := fun h h' => app_help J h h'
theorem budget_of {J : JobA} (hj : isJobB J = true) : 0 ≤ J.budget ∧ J.budget ≤ 2000 := by
 unfold isJobB btw at hj
 simp only [Bool.and_eq_true, decide_eq_true_eq] at hj
 omega
theorem help_dir {J : JobA} (hJ : JobIn J) (hj : isJobB J = true) (hk : J.kind = 1 ∨ J.kind = 2) {L : Shf} (hL : ShfR L) (k : Int) : runQ (helpN J) 3000 2001 [] L k = (helpT J 2001).dir 3000 J.budget nt0 0 L k := by
 have hb := budget_of hj
 exact dir_run (A := GA) (W := WqR) (X := fun _ => True) (Q := fun a => a = zRsl) (R := ShfR) (help_tr hj hk) (m := 2001) (by omega) hb.1 (fun w hw => by rcases hw.kd with h | h | h <;> omega) (fun L w hL hw he => by
  obtain ⟨_, _, h3, h4, h5⟩ := do_right hL hw
  exact ⟨h3, h4, h5⟩) (all_help (job_lab hJ hj) _) (by omega) hL k
abbrev Tre := Lab → Option Rec
def frozP (T : Tre) (c : Lab) : Bool := match T c with
 | none => true
 | some x => decide (x.kind = 5)
def kidP (T : Tre) (f : Lab → List Itm) (r : Rec) (c : Lab) : List Itm := if r.kind = 3 ∧ frozP T c = true then covL c r.items else f c
def meansP (T : Tre) : Nat → Lab → List Itm
 | 0, _ => []
 | n + 1, l => match T l with
  | none => []
  | some r => if r.kind = 1 ∨ r.kind = 5 then r.items else if chE l 0 = 0 then kidP T (meansP T n) r (chV l 0) ++ kidP T (meansP T n) r (chV l 1) else []
def cntB (ks : List Lab) (l : Lab) : Nat := ks.countP fun k => coverB l k.bits && decide (l.len ≤ k.len)
theorem cov_self {l : Lab} (hl : isL l = true) (hb : U64 l.bits) : coverB l l.bits = true := by
 unfold coverB
 simp only [Bool.and_eq_true, decide_eq_true_eq]
 exact ⟨hl, (lab_parts hl).2.2⟩
theorem headN_down {v n : Nat} (hn : n < 64) : headN (headN v (n + 1)) n = headN v n := by
 apply Nat.eq_of_testBit_eq
 intro i
 rw [testBit_head, testBit_head, testBit_head]
 by_cases h : 64 - n ≤ i
 ·have : 64 - (n + 1) ≤ i := by omega
  rw [decide_eq_true h, decide_eq_true this]; simp
 rw [decide_eq_false h]; simp
theorem cov_up {l : Lab} (hl : isL l = true) (hb : U64 l.bits) (h64 : l.len ≠ 64) (b : Int) {key : Int} (hc : coverB (childL l b) key = true) : coverB l key = true := by
 obtain ⟨q, h1, h2⟩ := lab_mul hl hb h64
 obtain ⟨h3, h4, h5⟩ := lab_parts hl
 unfold coverB at hc ⊢
 simp only [Bool.and_eq_true, decide_eq_true_eq] at hc ⊢
 refine ⟨hl, ?_⟩
 have hlen : (childL l b).len.toNat = l.len.toNat + 1 := by unfold childL; simp only; omega
 have e := hc.2
 rw [hlen] at e
 have hn : l.len.toNat < 64 := by omega
 have e2 : headN (headN key.toNat (l.len.toNat + 1)) l.len.toNat = headN key.toNat l.len.toNat := headN_down hn
 have e3 : headN key.toNat (l.len.toNat + 1) = (childL l b).bits.toNat := by omega
 rw [e3] at e2
 rw [← e2, h1]
 have hp : 0 < 2 ^ (63 - l.len.toNat) := Nat.pow_pos (by decide)
 have hpow := half_pow hn
 have hpp : 0 < 2 * 2 ^ (63 - l.len.toNat) := by omega
 unfold headN childL
 simp only
 rw [hpow]
 congr 1
 split
 ·have : (l.bits + ((2 ^ (63 - l.len.toNat) : Nat) : Int)).toNat = 2 ^ (63 - l.len.toNat) + q * (2 * 2 ^ (63 - l.len.toNat)) := by rw [h1]; omega
  rw [this, Nat.add_mul_div_right _ _ hpp, Nat.div_eq_of_lt (by omega), Nat.zero_add]
 have : l.bits.toNat = q * (2 * 2 ^ (63 - l.len.toNat)) := by rw [h1]; omega
 rw [this, Nat.mul_div_cancel _ hpp]
theorem ch_okT {l : Lab} (h : chE l 0 = 0) : isL l = true ∧ l.len ≠ 64 ∧ ∀ b, chV l b = childL l b := by
 have hc : ∀ b, chE l b = 0 := fun b => h
 refine ⟨?_, ?_, fun b => by unfold chV; rw [if_pos (hc b)]⟩
 ·cases hl : isL l with
  | true => rfl
  | false => unfold chE at h; rw [hl, if_pos rfl] at h; cases h
 intro h64
 unfold chE at h
 simp only [h64, if_true] at h
 split at h <;> simp at h
theorem ch_is {l : Lab} (hb : U64 l.bits) (h : chE l 0 = 0) (b : Int) : isL (chV l b) = true ∧ U64 (chV l b).bits ∧ (chV l b).len = l.len + 1 := by
 obtain ⟨h1, h2, h3⟩ := ch_okT h
 rw [h3]
 exact ⟨child_isL h1 hb h2 b, child_u h1 hb h2 b, rfl⟩
theorem cnt_kids {l : Lab} (hl : isL l = true) (hb : U64 l.bits) (h64 : l.len ≠ 64) : ∀ {ks : List Lab}, (∀ k ∈ ks, U64 k.bits) → cntB ks (childL l 0) + cntB ks (childL l 1) + ks.countP (fun k => decide (k = l)) ≤ cntB ks l
 | [], _ => Nat.le_refl _
 | k :: ks, hk => by
  have ih := cnt_kids hl hb h64 (ks := ks) fun k' h => hk k' (by simp [h])
  unfold cntB at ih ⊢
  simp only [List.countP_cons]
  have hku := hk k (by simp)
  have hlen : ∀ b, (childL l b).len = l.len + 1 := fun b => rfl
  have key : (if (coverB (childL l 0) k.bits && decide ((childL l 0).len ≤ k.len)) = true then 1 else 0) + (if (coverB (childL l 1) k.bits && decide ((childL l 1).len ≤ k.len)) = true then 1 else 0) + (if decide (k = l) = true then 1 else 0) ≤ (if (coverB l k.bits && decide (l.len ≤ k.len)) = true then 1 else 0) := by
   by_cases e : k = l
   ·subst e
    have n0 : ¬ ((coverB (childL k 0) k.bits && decide ((childL k 0).len ≤ k.len)) = true) := by
     simp only [hlen, Bool.and_eq_true, decide_eq_true_eq]
     rintro ⟨_, h⟩
     omega
    have n1 : ¬ ((coverB (childL k 1) k.bits && decide ((childL k 1).len ≤ k.len)) = true) := by
     simp only [hlen, Bool.and_eq_true, decide_eq_true_eq]
     rintro ⟨_, h⟩
     omega
    rw [if_neg n0, if_neg n1, if_pos (by simp), if_pos (by simp [cov_self hl hb])]
    omega
   rw [if_neg (show ¬ decide (k = l) = true by simpa using e)]
   by_cases c : coverB l k.bits = true
   ·obtain ⟨a0, a1⟩ := child_cov hl hb h64 hku c
    rw [a0, a1, c]
    generalize (childL l 1).bits = z
    rw [hlen, hlen]
    by_cases hlt : k.bits < z
    ·rw [decide_eq_true hlt, decide_eq_false (show ¬ z ≤ k.bits by omega)]
     simp only [Bool.true_and, Bool.false_and, decide_eq_true_eq]
     by_cases g1 : l.len ≤ k.len
     ·rw [if_pos g1]; by_cases g2 : l.len + 1 ≤ k.len <;> simp [g2]
     rw [if_neg g1, if_neg (by omega)]; simp
    rw [decide_eq_false hlt, decide_eq_true (show z ≤ k.bits by omega)]
    simp only [Bool.true_and, Bool.false_and, decide_eq_true_eq]
    by_cases g1 : l.len ≤ k.len
    ·rw [if_pos g1]; by_cases g2 : l.len + 1 ≤ k.len <;> simp [g2]
    rw [if_neg g1, if_neg (show ¬ l.len + 1 ≤ k.len by omega)]; simp
   have c0 : coverB (childL l 0) k.bits = false := by
    cases h : coverB (childL l 0) k.bits with
    | false => rfl
    | true => exact absurd (cov_up hl hb h64 0 h) c
   have c1 : coverB (childL l 1) k.bits = false := by
    cases h : coverB (childL l 1) k.bits with
    | false => rfl
    | true => exact absurd (cov_up hl hb h64 1 h) c
   rw [c0, c1]
   simp
  omega
theorem cov_len (l : Lab) (its : List Itm) : (covL l its).length ≤ its.length := List.length_filter_le _ _
structure TreOk (T : Tre) (ks : List Lab) : Prop where
 us : ∀ k ∈ ks, U64 k.bits
 at_ : ∀ l r, T l = some r → l ∈ ks ∧ r.items.length ≤ 16
theorem cnt_pos {T : Tre} {ks : List Lab} (h : TreOk T ks) {l : Lab} {r : Rec} (hb : U64 l.bits) (hr : T l = some r) (hc : chE l 0 = 0) : cntB ks (chV l 0) + cntB ks (chV l 1) + 1 ≤ cntB ks l := by
 obtain ⟨h1, h2, h3⟩ := ch_okT hc
 have := cnt_kids h1 hb h2 h.us
 rw [h3, h3]
 have hp : 0 < ks.countP (fun k => decide (k = l)) := List.countP_pos_iff.2 ⟨l, (h.at_ _ _ hr).1, by simp⟩
 omega
theorem cnt_in {ks : List Lab} {l : Lab} (hl : isL l = true) (hb : U64 l.bits) (h : l ∈ ks) : 1 ≤ cntB ks l :=
 List.countP_pos_iff.2 ⟨l, h, by simp [cov_self hl hb]⟩
theorem kid_len {T : Tre} {ks : List Lab} (h : TreOk T ks) {n : Nat} {l : Lab} {r : Rec} (hr : T l = some r) {c : Lab} (hf : (meansP T n c).length ≤ 32 * cntB ks c) : (kidP T (meansP T n) r c).length ≤ 16 + 32 * cntB ks c := by
 unfold kidP
 split
 ·have := cov_len c r.items
  have := (h.at_ _ _ hr).2
  omega
 omega
theorem means_len {T : Tre} {ks : List Lab} (h : TreOk T ks) : ∀ (n : Nat) (l : Lab), isL l = true → U64 l.bits → (meansP T n l).length ≤ 32 * cntB ks l
 | 0, l, _, _ => by simp [meansP]
 | n + 1, l, hl, hb => by
  unfold meansP
  cases hr : T l with
  | none => simp
  | some r =>
   simp only
   have h1 := cnt_in hl hb (h.at_ _ _ hr).1
   have h2 := (h.at_ _ _ hr).2
   split
   ·omega
   split
   ·rename_i hc
    have h3 := cnt_pos h hb hr hc
    obtain ⟨a1, a2, _⟩ := ch_is hb hc 0
    obtain ⟨b1, b2, _⟩ := ch_is hb hc 1
    have k0 := kid_len h hr (means_len h n (chV l 0) a1 a2)
    have k1 := kid_len h hr (means_len h n (chV l 1) b1 b2)
    rw [List.length_append]
    omega
   simp
theorem cnt_le (ks : List Lab) (l : Lab) : cntB ks l ≤ ks.length := List.countP_le_length
def TL (L : Shf) : Tre := fun q => if (spotOf L q).has = true then some (spotOf L q).r else none
def Mean (L : Shf) : List Itm := meansP (TL L) 65 ⟨0, 0⟩
theorem TL_put (L : Shf) (l : Lab) (x : Spo) (q : Lab) : TL (putL l x L) q = if l = q then (if x.has = true then some x.r else none) else TL L q := by
 unfold TL
 rw [spot_put']
 split <;> rfl
theorem kidP_congr {T T' : Tre} {F F' : Lab → List Itm} {r : Rec} {c : Lab} (h1 : frozP T' c = frozP T c) (h2 : F' c = F c) : kidP T' F' r c = kidP T F r c := by
 unfold kidP
 rw [h1, h2]
theorem frozP_congr {T T' : Tre} {c : Lab} (h : T' c = T c) : frozP T' c = frozP T c := by unfold frozP; rw [h]
theorem means_deep {T T' : Tre} {c : Lab} (hT : ∀ q, q ≠ c → T' q = T q) : ∀ (f : Nat) (q : Lab), LOk q → c.len < q.len → meansP T' f q = meansP T f q
 | 0, q, _, _ => rfl
 | f + 1, q, hq, hl => by
  unfold meansP
  rw [hT q (fun e => by rw [e] at hl; omega)]
  cases hr : T q with
  | none => rfl
  | some r =>
   simp only
   split
   ·rfl
   split
   ·rename_i hce
    obtain ⟨h1, h2, h3⟩ := ch_okT hce
    have hlen : ∀ b, (chV q b).len = q.len + 1 := fun b => by rw [h3]; rfl
    have k : ∀ b, kidP T' (meansP T' f) r (chV q b) = kidP T (meansP T f) r (chV q b) := fun b =>
     kidP_congr (frozP_congr (hT _ fun e => by have := hlen b; rw [e] at this; omega)) (means_deep hT f _ (hq.ch b) (by rw [hlen]; omega))
    rw [k, k]
   rfl
theorem means_chg {T T' : Tre} {c : Lab} (hT : ∀ q, q ≠ c → T' q = T q) (hk : ∀ q r, LOk q → T q = some r → ¬ (r.kind = 1 ∨ r.kind = 5) → chE q 0 = 0 → (c = chV q 0 ∨ c = chV q 1) → ∀ f : Nat, 65 ≤ f + c.len → kidP T' (meansP T' f) r c = kidP T (meansP T f) r c) :
  ∀ (f : Nat) (q : Lab), LOk q → q ≠ c → 65 ≤ f + q.len → meansP T' f q = meansP T f q
 | 0, q, hq, _, h65 => by have := (lab_parts hq.isl).2.1; omega
 | f + 1, q, hq, hne, h65 => by
  unfold meansP
  rw [hT q hne]
  cases hr : T q with
  | none => rfl
  | some r =>
   simp only
   split
   ·rfl
   rename_i hkd
   split
   ·rename_i hce
    obtain ⟨h1, h2, h3⟩ := ch_okT hce
    have hlen : ∀ b, (chV q b).len = q.len + 1 := fun b => by rw [h3]; rfl
    have k : ∀ b, (b = 0 ∨ b = 1) → kidP T' (meansP T' f) r (chV q b) = kidP T (meansP T f) r (chV q b) := fun b hb => by
     by_cases e : chV q b = c
     ·rw [e]
      refine hk q r hq hr hkd hce ?_ f (by rw [← e, hlen]; omega)
      rcases hb with rfl | rfl
      ·exact .inl e.symm
      exact .inr e.symm
     exact kidP_congr (frozP_congr (hT _ e)) (means_chg hT hk f _ (hq.ch b) e (by rw [hlen]; omega))
    rw [k 0 (.inl rfl), k 1 (.inr rfl)]
   rfl
theorem lok_root : LOk ⟨0, 0⟩ := ⟨by decide, ⟨by decide, by decide⟩⟩
theorem ch_inj {q q' : Lab} (hq : LOk q) (hq' : LOk q') (h : chE q 0 = 0) (h' : chE q' 0 = 0) {b b' : Int} (e : chV q b = chV q' b') : q = q' := by
 have h1 := (ch_par hq (ch_okT h).2.1 b).2
 have h2 := (ch_par hq' (ch_okT h').2.1 b').2
 rw [← h1, ← h2, e]
theorem mean_kid {L : Shf} {l : Lab} {i : Int} {x : Spo} {r : Rec} (hl : LOk l) (h64 : l.len ≠ 64) (hr : TL L l = some r)
  (hk : ¬ (r.kind = 1 ∨ r.kind = 5) → ∀ f : Nat, 65 ≤ f + (chV l i).len → kidP (TL (putL (chV l i) x L)) (meansP (TL (putL (chV l i) x L)) f) r (chV l i) = kidP (TL L) (meansP (TL L) f) r (chV l i)) : Mean (putL (chV l i) x L) = Mean L := by
 have hlen := ch_len hl h64 i
 have h0 := (lab_parts hl.isl).1
 refine means_chg (c := chV l i) (fun q hq => by rw [TL_put, if_neg fun e => hq e.symm]) (fun q r' hq hr' hkd hce hc f hf => ?_) 65 ⟨0, 0⟩ lok_root (fun e => by have := congrArg Lab.len e; rw [hlen] at this; have : (0 : Int) = l.len + 1 := this; omega) (by decide)
 have hce' : chE l 0 = 0 := by unfold chE; rw [hl.isl]; simp [h64]
 have e : q = l := by
  rcases hc with hc | hc
  ·exact (ch_inj hl hq hce' hce hc).symm
  exact (ch_inj hl hq hce' hce hc).symm
 subst e
 rw [hr] at hr'
 injection hr' with hr'
 subst hr'
 exact hk hkd f hf
theorem mean_self {L : Shf} {l : Lab} {x : Spo} (hl : LOk l) (h1 : frozP (TL (putL l x L)) l = frozP (TL L) l) (h2 : ∀ f : Nat, 65 ≤ f + l.len → meansP (TL (putL l x L)) f l = meansP (TL L) f l) : Mean (putL l x L) = Mean L := by
 by_cases e : l = ⟨0, 0⟩
 ·subst e
  exact h2 65 (by decide)
 refine means_chg (c := l) (fun q hq => by rw [TL_put, if_neg fun e => hq e.symm]) (fun q r' hq hr' hkd hce hc f hf => ?_) 65 ⟨0, 0⟩ lok_root (fun e' => e e'.symm) (by decide)
 exact kidP_congr h1 (h2 f hf)
theorem TL_some {L : Shf} {l : Lab} (h : (spotOf L l).has = true) : TL L l = some (spotOf L l).r := by unfold TL; rw [if_pos h]
theorem froz_of {L : Shf} {l : Lab} (h : (spotOf L l).has = true) : frozP (TL L) l = decide ((spotOf L l).r.kind = 5) := by unfold frozP; rw [TL_some h]
theorem means_leafK {T : Tre} {l : Lab} {r : Rec} (h : T l = some r) (hk : r.kind = 1 ∨ r.kind = 5) {f : Nat} (hf : 0 < f) : meansP T f l = r.items := by
 obtain ⟨f, rfl⟩ : ∃ g, f = g + 1 := ⟨f - 1, by omega⟩
 unfold meansP
 rw [h]
 exact if_pos hk
theorem means_inK {T : Tre} {l : Lab} {r : Rec} (hl : LOk l) (h64 : l.len ≠ 64) (h : T l = some r) (hk : ¬ (r.kind = 1 ∨ r.kind = 5)) (f : Nat) : meansP T (f + 1) l = kidP T (meansP T f) r (chV l 0) ++ kidP T (meansP T f) r (chV l 1) := by
 have hce : chE l 0 = 0 := by unfold chE; rw [hl.isl]; simp [h64]
 unfold meansP
 rw [h]
 simp only [if_neg hk, if_pos hce]
theorem kid_not3 {T : Tre} {F : Lab → List Itm} {r : Rec} {c : Lab} (h : r.kind ≠ 3) : kidP T F r c = F c := by
 unfold kidP; rw [if_neg fun h' => h h'.1]
theorem kid_notF {T : Tre} {F : Lab → List Itm} {r : Rec} {c : Lab} (h : frozP T c = false) : kidP T F r c = F c := by
 unfold kidP; rw [if_neg fun h' => by rw [h] at h'; cases h'.2]
theorem fuel_pos {f : Nat} {l : Lab} (hl : LOk l) (h : 65 ≤ f + l.len) : 0 < f := by have := (lab_parts hl.isl).2.1; omega
theorem mean_thaw {L : Shf} {l : Lab} {i : Int} {v : Int} {y : Rec} (hl : LOk l) (h64 : l.len ≠ 64) (hp : (spotOf L l).has = true) (hp3 : (spotOf L l).r.kind ≠ 3) (hc : (spotOf L (chV l i)).has = true) (hck : (spotOf L (chV l i)).r.kind = 1 ∨ (spotOf L (chV l i)).r.kind = 5) (hy : y.kind = 1 ∨ y.kind = 5) (hi : y.items = (spotOf L (chV l i)).r.items) : Mean (putL (chV l i) ⟨v, true, y⟩ L) = Mean L := by
 refine mean_kid hl h64 (TL_some hp) fun _ f hf => ?_
 have hfp := fuel_pos (hl.ch i) hf
 rw [kid_not3 hp3, kid_not3 hp3, means_leafK (r := y) (by rw [TL_put, if_pos rfl]; rfl) hy hfp, means_leafK (TL_some hc) hck hfp, hi]
theorem mean_half {L : Shf} {l : Lab} {i : Int} {v : Int} {y : Rec} (hl : LOk l) (h64 : l.len ≠ 64) (hp : (spotOf L l).has = true) (hp3 : (spotOf L l).r.kind = 3) (hc : (spotOf L (chV l i)).has = true → (spotOf L (chV l i)).r.kind = 5) (hy : y.kind = 1) (hi : y.items = covL (chV l i) (spotOf L l).r.items) : Mean (putL (chV l i) ⟨v, true, y⟩ L) = Mean L := by
 refine mean_kid hl h64 (TL_some hp) fun _ f hf => ?_
 have hfp := fuel_pos (hl.ch i) hf
 have hT' : TL (putL (chV l i) ⟨v, true, y⟩ L) (chV l i) = some y := by rw [TL_put, if_pos rfl]; rfl
 have f1 : frozP (TL (putL (chV l i) ⟨v, true, y⟩ L)) (chV l i) = false := by
  unfold frozP; rw [hT']; simp [hy]
 have f0 : frozP (TL L) (chV l i) = true := by
  cases hh : (spotOf L (chV l i)).has with
  | true => rw [froz_of hh, hc hh]; rfl
  | false => unfold frozP TL; rw [hh]; rfl
 rw [kid_notF f1, means_leafK hT' (.inl hy) hfp, hi]
 unfold kidP
 rw [if_pos ⟨hp3, f0⟩]
theorem mean_inner {L : Shf} {l : Lab} {v : Int} (hl : LOk l) (h64 : l.len ≠ 64) (hp : (spotOf L l).has = true) (hk : (spotOf L l).r.kind ≠ 1 ∧ (spotOf L l).r.kind ≠ 5) (h3 : (spotOf L l).r.kind = 3 → frozP (TL L) (chV l 0) = false ∧ frozP (TL L) (chV l 1) = false) : Mean (putL l ⟨v, true, innerR⟩ L) = Mean L := by
 have hT' : TL (putL l ⟨v, true, innerR⟩ L) l = some innerR := by rw [TL_put, if_pos rfl]; rfl
 refine mean_self hl ?_ fun f hf => ?_
 ·rw [froz_of hp, decide_eq_false hk.2]
  unfold frozP; rw [hT']; rfl
 obtain ⟨f, rfl⟩ : ∃ g, f = g + 1 := ⟨f - 1, by have := fuel_pos hl hf; omega⟩
 rw [means_inK hl h64 hT' (by show ¬ ((2 : Int) = 1 ∨ (2 : Int) = 5); decide), means_inK hl h64 (TL_some hp) (fun h => by rcases h with h | h; exact hk.1 h; exact hk.2 h)]
 have hd : ∀ i, meansP (TL (putL l ⟨v, true, innerR⟩ L)) f (chV l i) = meansP (TL L) f (chV l i) := fun i => means_deep (c := l) (fun q hq => by rw [TL_put, if_neg fun e => hq e.symm]) f _ (hl.ch i) (by rw [ch_len hl h64]; omega)
 rw [kid_not3 (by decide), kid_not3 (by decide), hd, hd]
 by_cases e : (spotOf L l).r.kind = 3
 ·rw [kid_notF (h3 e).1, kid_notF (h3 e).2]
 rw [kid_not3 e, kid_not3 e]
theorem mean_union {L : Shf} {l : Lab} {v : Int} {y : Rec} (hl : LOk l) (h64 : l.len ≠ 64) (hp : (spotOf L l).has = true) (hk : (spotOf L l).r.kind = 2 ∨ (spotOf L l).r.kind = 4) (h0 : (spotOf L (chV l 0)).has = true ∧ (spotOf L (chV l 0)).r.kind = 5) (h1 : (spotOf L (chV l 1)).has = true ∧ (spotOf L (chV l 1)).r.kind = 5) (hy : y.kind = 1) (hi : y.items = (spotOf L (chV l 0)).r.items ++ (spotOf L (chV l 1)).r.items) : Mean (putL l ⟨v, true, y⟩ L) = Mean L := by
 have hT' : TL (putL l ⟨v, true, y⟩ L) l = some y := by rw [TL_put, if_pos rfl]; rfl
 refine mean_self hl ?_ fun f hf => ?_
 ·rw [froz_of hp, decide_eq_false (by rcases hk with h | h <;> rw [h] <;> decide)]
  unfold frozP; rw [hT']; simp [hy]
 have h64' := (lab_parts hl.isl).2.1
 obtain ⟨f, rfl⟩ : ∃ g, f = g + 2 := ⟨f - 2, by omega⟩
 rw [means_leafK hT' (.inl hy) (by omega), means_inK hl h64 (TL_some hp) (by rcases hk with h | h <;> rw [h] <;> decide) (f + 1)]
 have h3 : (spotOf L l).r.kind ≠ 3 := by rcases hk with h | h <;> rw [h] <;> decide
 rw [kid_not3 h3, kid_not3 h3, means_leafK (TL_some h0.1) (.inr h0.2) (by omega), means_leafK (TL_some h1.1) (.inr h1.2) (by omega), hi]
theorem mean_drop {L : Shf} {l : Lab} {i : Int} {x : Spo} (hl : LOk l) (h64 : l.len ≠ 64) (hp : (spotOf L l).has = true) (hk : (spotOf L l).r.kind = 1 ∨ (spotOf L l).r.kind = 5) : Mean (putL (chV l i) x L) = Mean L :=
 mean_kid hl h64 (TL_some hp) fun h => absurd hk h
def isFz (s : Spo) : Bool := s.has && decide (s.r.kind = 5)
def fzN (L : Shf) : Nat := L.countP fun p => isFz p.2
theorem spot_cons {p : Lab × Spo} {L : Shf} {l : Lab} (h : p.1 ≠ l) : spotOf (p :: L) l = spotOf L l := by
 unfold spotOf
 rw [show findL l (p :: L) = findL l L from if_neg h]
theorem spot_head {p : Lab × Spo} {L : Shf} {l : Lab} (h : p.1 = l) : spotOf (p :: L) l = p.2 := by
 unfold spotOf
 rw [show findL l (p :: L) = some p.2 from if_pos h]
 rfl
theorem spot_none {L : Shf} {l : Lab} (h : findL l L = none) : spotOf L l = zeroSpo := by
 unfold spotOf; rw [h]; rfl
theorem fz_cons (p : Lab × Spo) (L : Shf) : fzN (p :: L) = fzN L + (isFz p.2).toNat := by
 unfold fzN
 rw [List.countP_cons]
 cases isFz p.2 <;> rfl
theorem fz_put {l : Lab} {x : Spo} : ∀ {L : Shf}, Rises L → fzN (putL l x L) + (isFz (spotOf L l)).toNat = fzN L + (isFz x).toNat
 | [], _ => by
  show fzN [(l, x)] + 0 = _
  rw [fz_cons]
  show 0 + (isFz x).toNat + 0 = 0 + _
  omega
 | p :: L, h => by
  have h' := List.pairwise_cons.1 h
  unfold putL
  by_cases hp : lessL p.1 l = true
  ·rw [if_pos hp, fz_cons, fz_cons, spot_cons (less_ne hp)]
   have := fz_put (l := l) (x := x) h'.2
   omega
  rw [if_neg hp]
  by_cases he : p.1 = l
  ·rw [if_pos he, fz_cons, fz_cons, spot_head he]
   show fzN L + (isFz x).toNat + _ = _
   omega
  rw [if_neg he, fz_cons]
  have hn : findL l (p :: L) = none := by
   unfold findL
   rw [if_neg he]
   refine find_of_less fun q hq => ?_
   rcases less_total p.1 l with h1 | h1 | h1
   ·exact absurd h1 hp
   ·exact absurd h1 he
   exact less_trans h1 (h'.1 q hq)
  rw [spot_none hn]
  show fzN (p :: L) + (isFz x).toNat + 0 = _
  omega
theorem fz_le (L : Shf) : fzN L ≤ L.length := List.countP_le_length
theorem spot_mem : ∀ {L : Shf} {p : Lab × Spo}, Rises L → p ∈ L → spotOf L p.1 = p.2
 | q :: L, p, h, hp => by
  have h' := List.pairwise_cons.1 h
  rcases List.mem_cons.1 hp with rfl | hp
  ·exact spot_head rfl
  rw [spot_cons (less_ne (h'.1 p hp))]
  exact spot_mem h'.2 hp
theorem ShfR.ris {L : Shf} (h : ShfR L) : Rises L := h.good.ok.ris
theorem fz_pos {L : Shf} (hr : Rises L) {l : Lab} (h : isFz (spotOf L l) = true) : 1 ≤ fzN L := by
 have := fz_put (l := l) (x := zeroSpo) hr
 rw [h] at this
 have e : (isFz zeroSpo).toNat = 0 := rfl
 rw [e] at this
 have e2 : true.toNat = 1 := rfl
 omega
theorem gk5 (L : Shf) (l : Lab) : gk (gotAtL L l) 5 = isFz (spotOf L l) := rfl
theorem isFz_iff {s : Spo} : isFz s = true ↔ s.has = true ∧ s.r.kind = 5 := by
 unfold isFz
 simp only [Bool.and_eq_true, decide_eq_true_eq]
theorem uni_items {y z : RA} (h : (uniA y z).2 = 0) : (uniA y z).1.items = y.r.abs.items ++ z.r.abs.items := by
 unfold uniA uniR at h ⊢
 split at h
 ·cases h
 rename_i h1
 rw [if_neg h1]
 split at h
 ·cases h
 rename_i h2
 rw [if_neg h2]
 split at h
 ·cases h
 rename_i h3
 rw [if_neg h3]
 split at h
 ·cases h
 rename_i h4
 rw [if_neg h4]
 rfl
theorem halv_is {y : RA} {l : Lab} (h : (halvA y l).2.2 = 0) : l.len ≠ 64 ∧ (halvA y l).1.items = covL (childL l 0) y.r.abs.items ∧ (halvA y l).2.1.items = covL (childL l 1) y.r.abs.items := by
 unfold halvA halvR at h ⊢
 split at h
 ·cases h
 rename_i h1
 rw [if_neg h1]
 split at h
 ·cases h
 rename_i h2
 rw [if_neg h2]
 split at h
 ·cases h
 rename_i h3
 rw [if_neg h3]
 exact ⟨h3, rfl, rfl⟩
theorem doL_drp {L : Shf} {l : Lab} (hl : isL l = true) (hs : (spotOf L l).has = true) : doL L (wntOf ⟨3, l, (spotOf L l).ver, zeroRec, zRsl⟩) = ⟨putL l ⟨inc (spotOf L l).ver, false, zeroRec⟩ L, true, ⟨0, inc (spotOf L l).ver, false, zeroRec⟩, 0⟩ := by
 have hn : (findL l L).isNone = false := by
  cases e : findL l L with
  | none => rw [spot_none e] at hs; cases hs
  | some y => rfl
 unfold doL wntOf
 rw [if_pos ⟨.inr (.inr rfl), hl, fun h => absurd h (by show ¬ (3 : Int) = 2; decide)⟩, if_neg (by show ¬ (3 : Int) = 1; decide), if_neg (fun h => h rfl), if_neg (by show ¬ ((findL l L).isNone = true ∧ _); rw [hn]; rintro ⟨h, _⟩; cases h)]
 rfl
section
variable {most b : Int} {E : RunR → Prop} {x : Nt} {n : Nat} {L : Shf} {k : Int} {bk : Int}
theorem wp_drp {Q : TQ Bool} {l : Lab} {v : Int} (hl : LOk l) (hv : v = (spotOf L l).ver) (hs : (spotOf L l).has = true) (h1 : (n : Int) < b) (h2 : b ≤ most) (h : Q true x (n + 1) (putL l ⟨inc v, false, zeroRec⟩ L) (IntKind.i64.wrap (k + 1))) : (drpT l v).wp most b Q E x n L k := by
 subst hv
 refine wp_bind ?_
 unfold askT Tr.wp
 rw [if_neg (by omega), if_neg (by omega), doL_drp hl.isl hs, if_neg (fun h => h rfl)]
 exact h
theorem drp_right (hR : ShfR L) {l : Lab} (hl : LOk l) (hs : (spotOf L l).has = true) : ShfR (putL l ⟨inc (spotOf L l).ver, false, zeroRec⟩ L) ∧ (putL l ⟨inc (spotOf L l).ver, false, zeroRec⟩ L).length ≤ L.length := by
 have h := do_right hR (w := ⟨3, l, (spotOf L l).ver, zeroRec, zRsl⟩) ⟨⟨hl, rec_z⟩, .inr (.inr rfl), fun h => absurd h (by show ¬ (3 : Int) = 2; decide)⟩
 rw [doL_drp hl.isl hs] at h
 refine ⟨h.2.2.1, ?_⟩
 rw [put_len _ _ hR.ris]
 have hn : (findL l L).isSome = true := by
  cases e : findL l L with
  | none => rw [spot_none e] at hs; cases hs
  | some y => rfl
 rw [if_pos hn]
 exact Nat.le_refl _
structure Cl (l : Lab) (L L' : Shf) : Prop where
 right : ShfR L'
 len : L'.length ≤ L.length
 mean : Mean L' = Mean L
 drp : ∀ q, spotOf L' q = spotOf L q ∨ (l.len < q.len ∧ isFz (spotOf L q) = true ∧ (spotOf L' q).has = false)
theorem Cl.refl {l : Lab} (h : ShfR L) : Cl l L L := ⟨h, Nat.le_refl _, rfl, fun _ => .inl rfl⟩
theorem Cl.trans {l l' : Lab} {L' L'' : Shf} (h : Cl l L L') (h' : Cl l' L' L'') (hl : l.len ≤ l'.len) : Cl l L L'' := by
 refine ⟨h'.right, Nat.le_trans h'.len h.len, h'.mean.trans h.mean, fun q => ?_⟩
 rcases h'.drp q with e | ⟨a1, a2, a3⟩
 ·rcases h.drp q with e2 | ⟨c1, c2, c3⟩
  ·exact .inl (e.trans e2)
  exact .inr ⟨c1, c2, by rw [e]; exact c3⟩
 rcases h.drp q with e2 | ⟨c1, c2, c3⟩
 ·exact .inr ⟨by omega, by rw [← e2]; exact a2, a3⟩
 rw [isFz_iff] at a2
 rw [c3] at a2
 cases a2.1
theorem Cl.same {l : Lab} {L' : Shf} (h : Cl l L L') {q : Lab} (hq : q.len ≤ l.len) : spotOf L' q = spotOf L q := by
 rcases h.drp q with e | ⟨h1, _⟩
 ·exact e
 omega
theorem Cl.fz {l : Lab} {L' : Shf} (h : Cl l L L') {q : Lab} (hq : isFz (spotOf L q) = false) : spotOf L' q = spotOf L q := by
 rcases h.drp q with e | ⟨_, h1, _⟩
 ·exact e
 rw [hq] at h1; cases h1
abbrev Lfy (s : Spo) : Prop := s.has = true ∧ (s.r.kind = 1 ∨ s.r.kind = 5)
theorem gk15 (l : Lab) : (gk (gotAtL L l) 1 || gk (gotAtL L l) 5) = true ↔ Lfy (spotOf L l) := by
 rw [Bool.or_eq_true, gk_iff, gk_iff]
 constructor
 ·rintro (⟨a, c⟩ | ⟨a, c⟩)
  ·exact ⟨a, .inl c⟩
  exact ⟨a, .inr c⟩
 rintro ⟨a, c | c⟩
 ·exact .inl ⟨a, c⟩
 exact .inr ⟨a, c⟩
theorem wp_clnC2 {Q : TQ Bool} {l : Lab} {i : Int} {m : Nat} (hl : LOk l) (h64 : l.len ≠ 64) (hR : ShfR L) (hk : Lfy (spotOf L l)) (h1 : (n : Int) + 3 * (65 - l.len) + 4 * (fzN L : Int) ≤ b + 1) (h2 : b ≤ most)
  (ih : ∀ {Q : TQ Unit} {n : Nat} {L : Shf} {k : Int}, ShfR L → Lfy (spotOf L (chV l i)) → (n : Int) + 3 * (65 - (chV l i).len) + 4 * (fzN L : Int) ≤ b → (∀ n' L' k', Cl (chV l i) L L' → n' + 4 * fzN L' ≤ n + 2 + 4 * fzN L → Q () x n' L' k') → (clnT m (chV l i)).wp most b Q E x n L k)
  (h : ∀ n' L' k', Cl l L L' → n' + 4 * fzN L' ≤ n + 1 + 4 * fzN L → isFz (spotOf L' (chV l i)) = false → Q true x n' L' k') : (clnCT l (clnT m) (chV l i)).wp most b Q E x n L k := by
 have hc := hl.ch i
 have hlen := ch_len hl h64 i
 have hl64 := (lab_parts hl.isl).2.1
 unfold clnCT
 refine wp_bind (wp_get hc (by omega) h2 (wp_ite (fun hg => ?_) fun hg => ?_))
 ·rw [gk5] at hg
  have hf0 := fz_pos hR.ris hg
  refine wp_bind (ih hR ⟨(isFz_iff.1 hg).1, .inr (isFz_iff.1 hg).2⟩ (by omega) fun n1 L1 k1 hc1 hn1 => ?_)
  have e1 : spotOf L1 (chV l i) = spotOf L (chV l i) := hc1.same (Int.le_refl _)
  have e2 : spotOf L1 l = spotOf L l := hc1.same (by omega)
  have hf1 := fz_pos hc1.right.ris (l := chV l i) (by rw [e1]; exact hg)
  refine wp_bind (wp_get hl (by omega) h2 (wp_ite (fun _ => ?_) fun hn => absurd ((gk15 l).2 (by rw [e2]; exact hk)) hn))
  have hs1 : (spotOf L1 (chV l i)).has = true := by rw [e1]; exact (isFz_iff.1 hg).1
  have hv : (gotAtL L (chV l i)).ver = (spotOf L1 (chV l i)).ver := by rw [e1]; rfl
  refine wp_bind (wp_drp hc hv hs1 (by omega) h2 ?_)
  rw [hv]
  obtain ⟨r1, r2⟩ := drp_right hc1.right hc hs1
  have hp := fz_put (l := chV l i) (x := ⟨inc (spotOf L1 (chV l i)).ver, false, zeroRec⟩) hc1.right.ris
  have t1 : (isFz (spotOf L1 (chV l i))).toNat = 1 := by rw [e1, hg]; rfl
  have t2 : (isFz ⟨inc (spotOf L1 (chV l i)).ver, false, zeroRec⟩).toNat = 0 := rfl
  rw [t1, t2] at hp
  refine h _ _ _ ⟨r1, Nat.le_trans r2 hc1.len, (mean_drop hl h64 (by rw [e2]; exact hk.1) (by rw [e2]; exact hk.2)).trans hc1.mean, fun q => ?_⟩ (by omega) (by rw [spot_put', if_pos rfl]; rfl)
  rw [spot_put']
  split
  ·rename_i e
   subst e
   exact .inr ⟨by omega, hg, rfl⟩
  rcases hc1.drp q with e | ⟨a1, a2, a3⟩
  ·exact .inl e
  exact .inr ⟨by omega, a2, a3⟩
 rw [gk5, Bool.not_eq_true] at hg
 exact h _ _ _ (Cl.refl hR) (by omega) hg
end
theorem wp_cln2 {most b : Int} {E : RunR → Prop} {x : Nt} (h2 : b ≤ most) : ∀ {Q : TQ Unit} {m : Nat} {l : Lab} {n : Nat} {L : Shf} {k : Int}, LOk l → 65 ≤ m + l.len → ShfR L → Lfy (spotOf L l) → (n : Int) + 3 * (65 - l.len) + 4 * (fzN L : Int) ≤ b →
  (∀ n' L' k', Cl l L L' → n' + 4 * fzN L' ≤ n + 2 + 4 * fzN L → (l.len ≠ 64 → isFz (spotOf L' (chV l 0)) = false ∧ isFz (spotOf L' (chV l 1)) = false) → Q () x n' L' k') → (clnT m l).wp most b Q E x n L k
 | Q, 0, l, n, L, k, hl, hm, hR, hk, h1, h => by have := (lab_parts hl.isl).2.1; omega
 | Q, m + 1, l, n, L, k, hl, hm, hR, hk, h1, h => by
  unfold clnT
  refine wp_ite (fun h64 => h _ _ _ (Cl.refl hR) (by omega) fun hn => absurd h64 hn) fun h64 => ?_
  have hlen := ch_len hl h64
  have hl64 := (lab_parts hl.isl).2.1
  refine wp_bind (wp_clnC2 hl h64 hR hk (by omega) h2 (fun hR' hk' h1' h' => wp_cln2 h2 (hl.ch 0) (by rw [hlen]; omega) hR' hk' h1' fun n' L' k' a c _ => h' n' L' k' a c) fun n1 L1 k1 hc1 hn1 hz1 => wp_ite (fun _ => ?_) fun hf => absurd rfl hf)
  have e1 : spotOf L1 l = spotOf L l := hc1.same (Int.le_refl _)
  refine wp_bind (wp_clnC2 hl h64 hc1.right (by rw [e1]; exact hk) (by omega) h2 (fun hR' hk' h1' h' => wp_cln2 h2 (hl.ch 1) (by rw [hlen]; omega) hR' hk' h1' fun n' L' k' a c _ => h' n' L' k' a c) fun n2 L2 k2 hc2 hn2 hz2 => ?_)
  exact h _ _ _ (hc1.trans hc2 (Int.le_refl _)) (by omega) fun _ => ⟨by rw [hc2.fz hz1]; exact hz1, hz2⟩
section
variable {most b : Int} {E : RunR → Prop} {x : Nt} {n : Nat} {L : Shf} {k : Int} {bk : Int}
theorem got_items (L : Shf) (l : Lab) : (gotAtL L l).x.r.abs.items = (spotOf L l).r.items := firsts_itF' _
structure Stp (c : Lab) (d : Nat) (L L' : Shf) : Prop where
 beh : Beh c d L L'
 mean : Mean L' = Mean L
theorem wp_frz2 {Q : TQ Fz} {l : Lab} {i v : Int} {m : Nat} (hl : LOk l) (h64 : l.len ≠ 64) (hR : ShfR L) (hf : L.length < 2000) (hv : (spotOf L l).ver = v) (hk : (spotOf L l).has = true ∧ (spotOf L l).r.kind = 4) (h1 : (n : Int) + 3 ≤ b) (h2 : b ≤ most)
  (hu : ¬ Lfy (spotOf L (chV l i)) → Q .unfit x (n + 1) L k)
  (h : ∀ y n' L' k', n' ≤ n + 3 → Stp (chV l i) 1 L L' → fzN L' ≤ fzN L + 1 → RaOk y → Lfy (spotOf L (chV l i)) → isFz (spotOf L' (chV l i)) = true → (spotOf L' (chV l i)).r.items = y.r.abs.items → y.r.abs.items = (spotOf L (chV l i)).r.items → Q (.fr y) x n' L' k') : (frzT l v (chV l i) (m + 1)).wp most b Q E x n L k := by
 have hc := hl.ch i
 have hga := gotAt_ga hR hc
 unfold frzT
 refine wp_bind (wp_get hc (by omega) h2 (wp_ite (fun hg => wp_ite (fun h5 => ?_) fun _ => wp_bind (wp_get hl (by omega) h2 (wp_ite (fun _ => ?_) fun hne => absurd hv hne))) fun hg => ?_))
 ·simp only [Bool.and_eq_true] at h5
  exact h _ _ _ _ (by omega) ⟨Beh.refl hR 1, rfl⟩ (by omega) hga.1.ra ((gk15 _).1 hg) h5.1 (got_items L _).symm (got_items L _)
 ·have hr : isR (asR 5 (gotAtL L (chV l i)).x v).r.abs = true := by
   rcases Bool.or_eq_true _ _ ▸ hg with h | h
   ·exact r_as hga.2 h (.inr rfl)
   exact r_as hga.2 h (.inr rfl)
  have hy := (gk15 _).1 hg
  refine wp_bind (wp_cas hc hr rfl hf (by omega) h2 (wp_ite (fun _ => ?_) fun hf => absurd rfl hf))
  have hp := fz_put (l := chV l i) (x := ⟨inc (spotOf L (chV l i)).ver, true, (asR 5 (gotAtL L (chV l i)).x v).r.abs⟩) hR.ris
  have hz : (isFz ⟨inc (spotOf L (chV l i)).ver, true, (asR 5 (gotAtL L (chV l i)).x v).r.abs⟩).toNat = 1 := rfl
  rw [hz] at hp
  refine h _ _ _ _ (by omega) ⟨beh_put hR hf hc (hga.1.ra.as 5 v).ro hr, ?_⟩ (by show fzN (putL _ ⟨inc (spotOf L (chV l i)).ver, true, _⟩ L) ≤ _; omega) (hga.1.ra.as 5 v) hy (by rw [spot_put', if_pos rfl]; rfl) (by rw [spot_put', if_pos rfl]) (got_items L _)
  exact mean_thaw hl h64 hk.1 (by rw [hk.2]; decide) hy.1 hy.2 (.inr rfl) (got_items L _)
 exact hu fun h' => hg ((gk15 _).2 h')
structure Thd (s s' : Spo) : Prop where
 yes : isFz s = true → s'.has = true ∧ s'.r.kind = 1 ∧ s'.r.items = s.r.items
 no : isFz s = false → s' = s
theorem Thd.fz {s s' : Spo} (h : Thd s s') : isFz s' = false := by
 cases e : isFz s with
 | true =>
  obtain ⟨a, c, d⟩ := h.yes e
  cases e2 : isFz s' with
  | false => rfl
  | true => rw [isFz_iff] at e2; rw [c] at e2; exact absurd e2.2 (by decide)
 | false => rw [h.no e]; exact e
theorem wp_thw2 {Q : TQ Unit} {l : Lab} {i : Int} {m : Nat} (hl : LOk l) (h64 : l.len ≠ 64) (hR : ShfR L) (hf : L.length < 2000) (hin : (spotOf L l).has = true ∧ (spotOf L l).r.kind = 2) (h1 : (n : Int) + 3 ≤ b) (h2 : b ≤ most)
  (h : ∀ n' L' k', n' ≤ n + 3 → Stp (chV l i) 1 L L' → fzN L' ≤ fzN L → Thd (spotOf L (chV l i)) (spotOf L' (chV l i)) → Q () x n' L' k') : (thwT bk (m + 1) (chV l i)).wp most b Q E x n L k := by
 have hc := hl.ch i
 have hp := ch_par hl h64 i
 have hga := gotAt_ga hR hc
 unfold thwT
 rw [if_pos hp.1, hp.2]
 unfold thwLT
 have hk : ∀ kd, kd ≠ 2 → gk (gotAtL L l) kd = false := fun kd hkd => by
  cases hh : gk (gotAtL L l) kd with
  | false => rfl
  | true => rw [gk_iff] at hh; exact absurd (hh.2.symm.trans hin.2) hkd
 refine wp_bind (wp_get hc (by omega) h2 (wp_ite (fun hg => wp_bind (wp_get hl (by omega) h2 (wp_bind (wp_ite (fun h34 => ?_) fun _ => ?_)))) fun hg => ?_))
 ·rw [hk 3 (by decide), hk 4 (by decide)] at h34; cases h34
 ·refine wp_ite (fun _ => ?_) fun hn => absurd ((gk_iff L l 2).2 hin) hn
  have hr : isR (asR 1 (gotAtL L (chV l i)).x 0).r.abs = true := r_as hga.2 hg (.inl ⟨rfl, rfl⟩)
  rw [gk5] at hg
  have h5 := isFz_iff.1 hg
  refine wp_bind (wp_cas hc hr rfl hf (by omega) h2 (wp_ite (fun _ => ?_) fun hf => absurd rfl hf))
  have hpz := fz_put (l := chV l i) (x := ⟨inc (spotOf L (chV l i)).ver, true, (asR 1 (gotAtL L (chV l i)).x 0).r.abs⟩) hR.ris
  have hz : (isFz ⟨inc (spotOf L (chV l i)).ver, true, (asR 1 (gotAtL L (chV l i)).x 0).r.abs⟩).toNat = 0 := rfl
  rw [hz] at hpz
  refine h _ _ _ (by omega) ⟨beh_put hR hf hc (hga.1.ra.as 1 0).ro hr, ?_⟩ (by show fzN (putL _ ⟨inc (spotOf L (chV l i)).ver, true, _⟩ L) ≤ _; omega) ⟨fun _ => ?_, fun h => by rw [hg] at h; cases h⟩
  ·exact mean_thaw hl h64 hin.1 (by rw [hin.2]; decide) h5.1 (.inr h5.2) (.inl rfl) (got_items L _)
  rw [spot_put', if_pos rfl]
  exact ⟨rfl, rfl, got_items L _⟩
 rw [gk5, Bool.not_eq_true] at hg
 exact h _ _ _ (by omega) ⟨Beh.refl hR 1, rfl⟩ (Nat.le_refl _) ⟨fun h => (by rw [hg] at h; cases h), fun _ => rfl⟩
structure Lfd (s s' : Spo) : Prop where
 yes : Lfy s → s'.has = true ∧ s'.r.kind = 1 ∧ s'.r.items = s.r.items
 no : ¬ Lfy s → s' = s
theorem Lfd.of {s s' : Spo} (h : Thd s s') : Lfd s s' := by
 refine ⟨fun hy => ?_, fun hn => h.no ?_⟩
 ·rcases hy.2 with h1 | h5
  ·rw [h.no (by unfold isFz; rw [h1]; simp)]; exact ⟨hy.1, h1, rfl⟩
  exact h.yes (isFz_iff.2 ⟨hy.1, h5⟩)
 cases e : isFz s with
 | false => rfl
 | true => rw [isFz_iff] at e; exact absurd ⟨e.1, .inr e.2⟩ hn
theorem Lfd.frz {s s1 s' : Spo} (hs : Lfy s) (h1 : isFz s1 = true) (hi : s1.r.items = s.r.items) (h : Thd s1 s') : Lfd s s' := by
 obtain ⟨a, c, d⟩ := h.yes h1
 exact ⟨fun _ => ⟨a, c, d.trans hi⟩, fun hn => absurd hs hn⟩
structure MkI (l : Lab) (L L' : Shf) : Prop where
 inn : (spotOf L' l).has = true ∧ (spotOf L' l).r.kind = 2
 k0 : Lfd (spotOf L (chV l 0)) (spotOf L' (chV l 0))
 k1 : Lfd (spotOf L (chV l 1)) (spotOf L' (chV l 1))
 else_ : ∀ q, q ≠ l → q ≠ chV l 0 → q ≠ chV l 1 → spotOf L' q = spotOf L q
structure MkL (bk : Int) (l : Lab) (L L' : Shf) : Prop where
 lf : (spotOf L' l).has = true ∧ (spotOf L' l).r.kind = 1
 its : (spotOf L' l).r.items = (spotOf L (chV l 0)).r.items ++ (spotOf L (chV l 1)).r.items
 few : ((spotOf L' l).r.items.length : Int) ≤ bk
 k0 : Lfy (spotOf L (chV l 0)) ∧ (spotOf L' (chV l 0)).has = false
 k1 : Lfy (spotOf L (chV l 1)) ∧ (spotOf L' (chV l 1)).has = false
 else_ : ∀ q, q ≠ l → q ≠ chV l 0 → q ≠ chV l 1 → spotOf L' q = spotOf L q ∨ (l.len < q.len ∧ isFz (spotOf L q) = true ∧ (spotOf L' q).has = false)
structure MkS (l : Lab) (L L' : Shf) : Prop where
 inn : (spotOf L' l).has = true ∧ (spotOf L' l).r.kind = 2
 kid : ∀ i, i = 0 ∨ i = 1 → (((spotOf L (chV l i)).has = true ∧ (spotOf L (chV l i)).r.kind ≠ 5) ∧ spotOf L' (chV l i) = spotOf L (chV l i)) ∨ ((spotOf L' (chV l i)).has = true ∧ (spotOf L' (chV l i)).r.kind = 1 ∧ (spotOf L' (chV l i)).r.items = covL (chV l i) (spotOf L l).r.items)
 else_ : ∀ q, q ≠ l → q ≠ chV l 0 → q ≠ chV l 1 → spotOf L' q = spotOf L q
structure Kp (d : Nat) (L L' : Shf) : Prop where
 right : ShfR L'
 len : L'.length ≤ L.length + d
 mean : Mean L' = Mean L
theorem Kp.refl (h : ShfR L) (d : Nat) : Kp d L L := ⟨h, by omega, rfl⟩
theorem Kp.trans {d e : Nat} {L' L'' : Shf} (h : Kp d L L') (h' : Kp e L' L'') : Kp (d + e) L L'' := ⟨h'.right, by have := h.len; have := h'.len; omega, h'.mean.trans h.mean⟩
theorem Stp.kp {c : Lab} {d : Nat} {L' : Shf} (h : Stp c d L L') : Kp d L L' := ⟨h.beh.right, h.beh.len, h.mean⟩
theorem fz_put_no {l : Lab} {y : Spo} (hR : ShfR L) (hy : isFz y = false) : fzN (putL l y L) ≤ fzN L := by
 have h := fz_put (l := l) (x := y) hR.ris
 rw [hy] at h
 have e : false.toNat = 0 := rfl
 omega
theorem wp_bck2 {Q : TQ Unit} {l : Lab} {v : Int} {m : Nat} (hl : LOk l) (h64 : l.len ≠ 64) (hR : ShfR L) (hf : L.length + 4 ≤ 2000) (hv : (spotOf L l).ver = v) (hk : (spotOf L l).has = true ∧ (spotOf L l).r.kind = 4) (h1 : (n : Int) + 7 ≤ b) (h2 : b ≤ most)
  (h : ∀ n' L' k', n' ≤ n + 7 → Kp 3 L L' → (spotOf L' l).has = true ∧ (spotOf L' l).r.kind = 2 → (∀ i, i = 0 ∨ i = 1 → Thd (spotOf L (chV l i)) (spotOf L' (chV l i))) → (∀ q, q ≠ l → q ≠ chV l 0 → q ≠ chV l 1 → spotOf L' q = spotOf L q) → Q () x n' L' k') : (bckT (thwT bk (m + 1)) l v).wp most b Q E x n L k := by
 unfold bckT
 refine wp_bind (wp_cas hl r_inner hv.symm (by omega) (by omega) h2 (wp_ite (fun _ => ?_) fun hf => absurd rfl hf))
 have hb := beh_put hR (by omega) hl rec_in r_inner
 rw [hv] at hb
 have hi : spotOf (putL l ⟨inc v, true, innerR⟩ L) l = ⟨inc v, true, innerR⟩ := by rw [spot_put', if_pos rfl]
 have hm : Mean (putL l ⟨inc v, true, innerR⟩ L) = Mean L := mean_inner hl h64 hk.1 (by rw [hk.2]; decide) fun h3 => by rw [hk.2] at h3; exact absurd h3 (by decide)
 have n0 := ch_ne hl h64 0
 have n1 := ch_ne hl h64 1
 have n2 := ch_two hl h64
 refine wp_bind (wp_thw2 hl h64 hb.right (by have := hb.len; omega) (by rw [hi]; exact ⟨rfl, rfl⟩) (by omega) h2 fun na La ka hna ha hfa hta => ?_)
 have hia := (ha.beh.else_ l n0.symm).trans hi
 refine wp_thw2 hl h64 ha.beh.right (by have := hb.len; have := ha.beh.len; omega) (by rw [hia]; exact ⟨rfl, rfl⟩) (by omega) h2 fun nb Lb kb hnb hbb hfb htb => ?_
 have hib := (hbb.beh.else_ l n1.symm).trans hia
 refine h _ _ _ (by omega) ⟨hbb.beh.right, by have := hb.len; have := ha.beh.len; have := hbb.beh.len; omega, hbb.mean.trans (ha.mean.trans hm)⟩ (by rw [hib]; exact ⟨rfl, rfl⟩) (fun i hi' => ?_) fun q q0 q1 q2 => ?_
 ·rcases hi' with rfl | rfl
  ·rw [hbb.beh.else_ _ n2, ← hb.else_ _ n0]; exact hta
  rw [← hb.else_ _ n1, ← ha.beh.else_ _ n2.symm]; exact htb
 rw [hbb.beh.else_ _ q2, ha.beh.else_ _ q1, hb.else_ _ q0]
theorem wp_mrg2 {Q : TQ Unit} {l : Lab} {v : Int} {m : Nat} (hl : LOk l) (h64 : l.len ≠ 64) (hR : ShfR L) (hf : L.length + 8 ≤ 2000) (hv : (spotOf L l).ver = v) (hk : (spotOf L l).has = true ∧ (spotOf L l).r.kind = 4) (hm : 64 ≤ m) (h1 : (n : Int) + 230 + 4 * (fzN L : Int) ≤ b) (h2 : b ≤ most)
  (hI : ∀ n' L' k', n' ≤ n + 13 → Kp 6 L L' → MkI l L L' → Q () x n' L' k')
  (hL : ∀ n' L' k', n' + 4 * fzN L' ≤ n + 17 + 4 * fzN L → Kp 6 L L' → MkL bk l L L' → Q () x n' L' k') : (mrgT bk (m + 1) (thwT bk (m + 1)) l v).wp most b Q E x n L k := by
 have n0 := ch_ne hl h64 0
 have n1 := ch_ne hl h64 1
 have n2 := ch_two hl h64
 unfold mrgT
 refine wp_bind (wp_frz2 hl h64 hR (by omega) hv hk (by omega) h2 (fun hu => ?_) fun y n1' L1 k1 hn1 hb1 hf1 hy hs1 hz1 hi1 hj1 => ?_)
 ·refine wp_bck2 hl h64 hR (by omega) hv hk (by omega) h2 fun n' L' k' a1 a2 a3 a4 a5 => hI _ _ _ (by omega) ⟨a2.right, by have := a2.len; omega, a2.mean⟩ ⟨a3, .of (a4 0 (.inl rfl)), .of (a4 1 (.inr rfl)), a5⟩
 have e1 := hb1.beh.else_ l n0.symm
 have l1 := hb1.beh.len
 have f1 := hb1.beh.else_ _ n2.symm
 refine wp_bind (wp_frz2 hl h64 hb1.beh.right (by omega) (by rw [e1]; exact hv) (by rw [e1]; exact hk) (by omega) h2 (fun hu => ?_) fun y2 n2' L2 k2 hn2 hb2 hf2 hy2 hs2 hz2 hi2 hj2 => ?_)
 ·refine wp_bck2 hl h64 hb1.beh.right (by omega) (by rw [e1]; exact hv) (by rw [e1]; exact hk) (by omega) h2 fun n' L' k' a1 a2 a3 a4 a5 => hI _ _ _ (by omega) ⟨a2.right, by have := a2.len; omega, a2.mean.trans hb1.mean⟩ ⟨a3, .frz hs1 hz1 (hi1.trans hj1) (a4 0 (.inl rfl)), ?_, fun q q0 q1 q2 => (a5 q q0 q1 q2).trans (hb1.beh.else_ _ q1)⟩
  have := a4 1 (.inr rfl)
  rw [f1] at this
  exact .of this
 have e2 := (hb2.beh.else_ l n1.symm).trans e1
 have l2 := hb2.beh.len
 have f2 := hb2.beh.else_ _ n2
 rw [f1] at hs2 hj2
 refine wp_ite (fun hu => ?_) fun _ => ?_
 ·refine wp_bind (wp_cas hl (uni_r hu.1) (by rw [e2]; exact hv.symm) (by omega) (by omega) h2 (wp_ite (fun _ => ?_) fun hf => absurd rfl hf))
  have hro : RecOk (uniA y y2).1 := uni_ok hy hy2
  have hb3 := beh_put hb2.beh.right (by omega) hl hro (uni_r hu.1)
  rw [e2, hv] at hb3
  have hkd := uni_kind hu.1
  have hits : (uniA y y2).1.items = y.r.abs.items ++ y2.r.abs.items := uni_items hu.1
  have i1 : (spotOf L2 (chV l 0)).r.items = y.r.abs.items := by rw [f2]; exact hi1
  have hm3 : Mean (putL l ⟨inc v, true, (uniA y y2).1⟩ L2) = Mean L2 := by
   refine mean_union hl h64 (by rw [e2]; exact hk.1) (by rw [e2]; exact .inr hk.2) (isFz_iff.1 (by rw [f2]; exact hz1)) (isFz_iff.1 hz2) hkd ?_
   rw [i1, hi2]; exact hits
  have s3 : spotOf (putL l ⟨inc v, true, (uniA y y2).1⟩ L2) l = ⟨inc v, true, (uniA y y2).1⟩ := by rw [spot_put', if_pos rfl]
  have hfz3 : fzN (putL l ⟨inc v, true, (uniA y y2).1⟩ L2) ≤ fzN L2 := fz_put_no hb2.beh.right (by unfold isFz; rw [hkd]; rfl)
  have g0 := hb3.else_ _ n0
  have g1 := hb3.else_ _ n1
  have := (lab_parts hl.isl).1
  refine wp_cln2 h2 hl (by omega) hb3.right (by rw [s3]; exact ⟨rfl, .inl hkd⟩) (by omega) fun n' L' k' hc hn' hzk => ?_
  have hzk := hzk h64
  have sl : spotOf L' l = ⟨inc v, true, (uniA y y2).1⟩ := (hc.same (Int.le_refl _)).trans s3
  refine hL _ _ _ (by omega) ⟨hc.right, by have := hc.len; have := hb3.len; omega, hc.mean.trans (hm3.trans (hb2.mean.trans hb1.mean))⟩ ⟨by rw [sl]; exact ⟨rfl, hkd⟩, by rw [sl]; show (uniA y y2).1.items = _; rw [hits, hj1, hj2], by rw [sl]; exact hu.2, ⟨hs1, ?_⟩, ⟨hs2, ?_⟩, fun q q0 q1 q2 => ?_⟩
  ·rcases hc.drp (chV l 0) with h | ⟨_, _, h⟩
   ·rw [h, g0, f2, hz1] at hzk; cases hzk.1
   exact h
  ·rcases hc.drp (chV l 1) with h | ⟨_, _, h⟩
   ·rw [h, g1, hz2] at hzk; cases hzk.2
   exact h
  have hq : spotOf (putL l ⟨inc v, true, (uniA y y2).1⟩ L2) q = spotOf L q := by rw [hb3.else_ _ q0, hb2.beh.else_ _ q2, hb1.beh.else_ _ q1]
  have := hc.drp q
  rw [hq] at this
  exact this
 refine wp_bck2 hl h64 hb2.beh.right (by omega) (by rw [e2]; exact hv) (by rw [e2]; exact hk) (by omega) h2 fun n' L' k' a1 a2 a3 a4 a5 => hI _ _ _ (by omega) ⟨a2.right, by have := a2.len; omega, a2.mean.trans (hb2.mean.trans hb1.mean)⟩ ⟨a3, .frz hs1 (by rw [f2]; exact hz1) (by rw [f2]; exact hi1.trans hj1) (a4 0 (.inl rfl)), .frz hs2 hz2 (hi2.trans hj2) (a4 1 (.inr rfl)), fun q q0 q1 q2 => by rw [a5 q q0 q1 q2, hb2.beh.else_ _ q2, hb1.beh.else_ _ q1]⟩
theorem wp_splC2 {Q : TQ Bool} {l : Lab} {i v : Int} {r : Rec} {m : Nat} (hl : LOk l) (h64 : l.len ≠ 64) (hro : RecOk r) (hr : isR r = true) (hrk : r.kind = 1) (hri : r.items = covL (chV l i) (spotOf L l).r.items) (hR : ShfR L) (hf : L.length < 2000) (hv : (spotOf L l).ver = v) (hk : (spotOf L l).has = true ∧ (spotOf L l).r.kind = 3) (h1 : (n : Int) + 3 ≤ b) (h2 : b ≤ most)
  (h : ∀ n' L' k', n' ≤ n + 3 → Stp (chV l i) 1 L L' → (((spotOf L (chV l i)).has = true ∧ (spotOf L (chV l i)).r.kind ≠ 5) ∧ spotOf L' (chV l i) = spotOf L (chV l i)) ∨ ((spotOf L' (chV l i)).has = true ∧ (spotOf L' (chV l i)).r.kind = 1 ∧ (spotOf L' (chV l i)).r.items = covL (chV l i) (spotOf L l).r.items) → Q true x n' L' k') : (splCT l v (chV l i) r (m + 1)).wp most b Q E x n L k := by
 have hc := hl.ch i
 unfold splCT
 refine wp_bind (wp_get hc (by omega) h2 (wp_ite (fun hg => ?_) fun hg => wp_bind (wp_get hl (by omega) h2 (wp_ite (fun _ => ?_) fun hne => absurd hv hne))))
 ·simp only [Bool.and_eq_true, Bool.not_eq_true', decide_eq_false_iff_not] at hg
  exact h _ _ _ (by omega) ⟨Beh.refl hR 1, rfl⟩ (.inl ⟨hg, rfl⟩)
 refine wp_bind (wp_cas hc hr rfl hf (by omega) h2 (wp_ite (fun _ => ?_) fun hf => absurd rfl hf))
 refine h _ _ _ (by omega) ⟨beh_put hR hf hc hro hr, mean_half hl h64 hk.1 hk.2 (fun hh => ?_) hrk hri⟩ (.inr (by rw [spot_put', if_pos rfl]; exact ⟨rfl, hrk, hri⟩))
 have hg' : ¬ ((spotOf L (chV l i)).has && !decide ((spotOf L (chV l i)).r.kind = 5)) = true := hg
 rw [hh] at hg'
 simpa using hg'
theorem wp_split2 {Q : TQ Unit} {l : Lab} {m : Nat} (hl : LOk l) (hR : ShfR L) (hf : L.length + 8 ≤ 2000) (hk : (spotOf L l).has = true ∧ (spotOf L l).r.kind = 3) (h1 : (n : Int) + 7 ≤ b) (h2 : b ≤ most) (hh : (halvA (gotAtL L l).x l).2.2 = 0)
  (h : ∀ n' L' k', n' ≤ n + 7 → Kp 6 L L' → MkS l L L' → Q () x n' L' k') : (splitT (m + 1) l (gotAtL L l).ver (gotAtL L l).x).wp most b Q E x n L k := by
 have hga := gotAt_ga hR hl
 obtain ⟨h64, i0, i1⟩ := halv_is hh
 rw [got_items, ← ch_val hl h64] at i0 i1
 have n0 := ch_ne hl h64 0
 have n1 := ch_ne hl h64 1
 have n2 := ch_two hl h64
 unfold splitT
 rw [if_pos hh]
 refine wp_bind (wp_splC2 hl h64 (halv_ok hga.1.ra hl).1 (halv_r hl hh).1 (halv_kind hh).1 i0 hR (by omega) rfl hk (by omega) h2 fun n1' L1 k1 hn1 hb1 p1 => ?_)
 have e1 := hb1.beh.else_ l n0.symm
 have l1 := hb1.beh.len
 refine wp_ite (fun _ => ?_) fun hf => absurd rfl hf
 refine wp_bind (wp_splC2 hl h64 (halv_ok hga.1.ra hl).2 (halv_r hl hh).2 (halv_kind hh).2 (by rw [e1]; exact i1) hb1.beh.right (by omega) (by rw [e1]; rfl) (by rw [e1]; exact hk) (by omega) h2 fun n2' L2 k2 hn2 hb2 q1 => ?_)
 have e2 := (hb2.beh.else_ l n1.symm).trans e1
 have l2 := hb2.beh.len
 have e3 := hb2.beh.else_ _ n2
 have e4 := hb1.beh.else_ _ n2.symm
 rw [e1, e4] at q1
 refine wp_ite (fun _ => ?_) fun hf => absurd rfl hf
 have hv : (gotAtL L l).ver = (spotOf L2 l).ver := by rw [e2]; rfl
 refine wp_bind (wp_cas hl r_inner hv (by omega) (by omega) h2 ?_)
 have hb3 := beh_put hb2.beh.right (by omega) hl rec_in r_inner
 rw [← hv] at hb3
 have K : ∀ i, i = 0 ∨ i = 1 → (((spotOf L (chV l i)).has = true ∧ (spotOf L (chV l i)).r.kind ≠ 5) ∧ spotOf L2 (chV l i) = spotOf L (chV l i)) ∨ ((spotOf L2 (chV l i)).has = true ∧ (spotOf L2 (chV l i)).r.kind = 1 ∧ (spotOf L2 (chV l i)).r.items = covL (chV l i) (spotOf L l).r.items) := fun i hi => by
  rcases hi with rfl | rfl
  ·rw [e3]; exact p1
  exact q1
 have F : ∀ i, i = 0 ∨ i = 1 → frozP (TL L2) (chV l i) = false := fun i hi => by
  rcases K i hi with ⟨⟨a, c⟩, e⟩ | ⟨a, c, _⟩
  ·rw [froz_of (by rw [e]; exact a), e]; exact decide_eq_false c
  rw [froz_of a, c]; rfl
 have hm3 : Mean (putL l ⟨inc (gotAtL L l).ver, true, innerR⟩ L2) = Mean L2 := mean_inner hl h64 (by rw [e2]; exact hk.1) (by rw [e2, hk.2]; decide) fun _ => ⟨F 0 (.inl rfl), F 1 (.inr rfl)⟩
 refine h _ _ _ (by omega) ⟨hb3.right, by have := hb3.len; omega, hm3.trans (hb2.mean.trans hb1.mean)⟩ ⟨by rw [spot_put', if_pos rfl]; exact ⟨rfl, rfl⟩, fun i hi => ?_, fun q q0 q1 q2 => by rw [hb3.else_ _ q0, hb2.beh.else_ _ q2, hb1.beh.else_ _ q1]⟩
 have hne : chV l i ≠ l := ch_ne hl h64 i
 rw [hb3.else_ _ hne]
 exact K i hi
theorem wp_fin2 {Q : TQ Unit} {l : Lab} {m : Nat} (hl : LOk l) (hR : ShfR L) (hf : L.length + 8 ≤ 2000) (hk : (spotOf L l).has = true ∧ ((spotOf L l).r.kind = 3 ∨ (spotOf L l).r.kind = 4)) (hm : 64 ≤ m) (h1 : (n : Int) + 230 + 4 * (fzN L : Int) ≤ b) (h2 : b ≤ most)
  (h0 : (l.len = 64 ∨ ((spotOf L l).r.kind = 3 ∧ (halvA (gotAtL L l).x l).2.2 ≠ 0)) → Q () x n L k)
  (hS : ∀ n' L' k', (spotOf L l).r.kind = 3 → n' ≤ n + 7 → Kp 6 L L' → MkS l L L' → Q () x n' L' k')
  (hI : ∀ n' L' k', (spotOf L l).r.kind = 4 → n' ≤ n + 13 → Kp 6 L L' → MkI l L L' → Q () x n' L' k')
  (hL : ∀ n' L' k', (spotOf L l).r.kind = 4 → n' + 4 * fzN L' ≤ n + 17 + 4 * fzN L → Kp 6 L L' → MkL bk l L L' → Q () x n' L' k') : (finT bk (m + 1) (thwT bk (m + 1)) l (gotAtL L l)).wp most b Q E x n L k := by
 unfold finT
 refine wp_ite (fun h3 => ?_) fun h3 => wp_ite (fun hlt => ?_) fun hge => ?_
 ·rw [gk_iff] at h3
  by_cases hh : (halvA (gotAtL L l).x l).2.2 = 0
  ·exact wp_split2 hl hR hf h3 (by omega) h2 hh fun n' L' k' => hS n' L' k' h3.2
  unfold splitT
  rw [if_neg hh]
  exact h0 (.inr ⟨h3.2, hh⟩)
 ·rw [gk_iff] at h3
  have hk4 : (spotOf L l).r.kind = 4 := by
   rcases hk.2 with h | h
   ·exact absurd ⟨hk.1, h⟩ h3
   exact h
  exact wp_mrg2 hl (by omega) hR hf rfl ⟨hk.1, hk4⟩ hm h1 h2 (fun n' L' k' => hI n' L' k' hk4) fun n' L' k' => hL n' L' k' hk4
 exact h0 (.inl (by have := (lab_parts hl.isl).2.1; omega))
theorem wp_fin3 {Q : TQ Unit} {l : Lab} {m : Nat} (hl : LOk l) (hR : ShfR L) (hf : L.length + 8 ≤ 2000) (hk : (spotOf L l).has = true ∧ ((spotOf L l).r.kind = 3 ∨ (spotOf L l).r.kind = 4)) (hm : 64 ≤ m) (h1 : (n : Int) + 230 + 4 * (fzN L : Int) ≤ b) (h2 : b ≤ most)
  (h : ∀ n' L' k', Kp 6 L L' → Q () x n' L' k') : (finT bk (m + 1) (thwT bk (m + 1)) l (gotAtL L l)).wp most b Q E x n L k :=
 wp_fin2 hl hR hf hk hm h1 h2 (fun _ => h _ _ _ (Kp.refl hR 6)) (fun _ _ _ _ _ a _ => h _ _ _ a) (fun _ _ _ _ _ a _ => h _ _ _ a) fun _ _ _ _ _ a _ => h _ _ _ a
theorem par_ch {c : Lab} (hc : LOk c) (h : parE c = 0) : (parV c).len ≠ 64 ∧ ∃ i, (i = 0 ∨ i = 1) ∧ chV (parV c) i = c := by
 have hE := h
 unfold parE at h
 rw [hc.isl, if_neg (by decide)] at h
 have h0 : c.len ≠ 0 := fun e => by rw [if_pos e] at h; exact absurd h (by decide)
 obtain ⟨p0, p1, p2⟩ := lab_parts hc.isl
 have hp := hc.par
 have e : parV c = parL c := by unfold parV; rw [if_pos hE]
 have hl : (parV c).len = c.len - 1 := by rw [e]; rfl
 have h64 : (parV c).len ≠ 64 := by omega
 refine ⟨h64, ?_⟩
 have hcov : coverB (parV c) c.bits = true := by
  unfold coverB
  rw [hp.isl, Bool.true_and, e]
  refine decide_eq_true ?_
  show ((headN c.bits.toNat (c.len - 1).toNat : Nat) : Int) = ((headN c.bits.toNat (c.len.toNat - 1) : Nat) : Int)
  rw [show (c.len - 1).toNat = c.len.toNat - 1 by omega]
 obtain ⟨a0, a1⟩ := child_cov hp.isl hp.u h64 hc.u hcov
 have fin : ∀ i, coverB (childL (parV c) i) c.bits = true → childL (parV c) i = c := fun i hi => by
  have hlen : (childL (parV c) i).len = c.len := by show (parV c).len + 1 = _; omega
  refine lab_ext hlen ?_
  unfold coverB at hi
  simp only [Bool.and_eq_true, decide_eq_true_eq] at hi
  rw [← hi.2, hlen]
  exact p2
 by_cases hz : c.bits < (childL (parV c) 1).bits
 ·exact ⟨0, .inl rfl, by rw [ch_val hp h64]; exact fin 0 (by rw [a0]; exact decide_eq_true hz)⟩
 exact ⟨1, .inr rfl, by rw [ch_val hp h64]; exact fin 1 (by rw [a1]; exact decide_eq_true (by omega))⟩
theorem wp_thw3 {Q : TQ Unit} {l : Lab} {m : Nat} (hl : LOk l) (hR : ShfR L) (hf : L.length + 9 ≤ 2000) (hm : 64 ≤ m) (h1 : (n : Int) + 240 + 4 * (fzN L : Int) ≤ b) (h2 : b ≤ most)
  (h : ∀ n' L' k', Kp 6 L L' → Q () x n' L' k') : (thwT bk (m + 2) l).wp most b Q E x n L k := by
 have hga := gotAt_ga hR hl
 unfold thwT
 refine wp_ite (fun hE => ?_) fun _ => h _ _ _ (Kp.refl hR 6)
 have hp := hl.par
 obtain ⟨h64, i, hi, hci⟩ := par_ch hl hE
 unfold thwLT
 refine wp_bind (wp_get hl (by omega) h2 (wp_ite (fun hg => wp_bind (wp_get hp (by omega) h2 (wp_bind (wp_ite (fun h34 => ?_) fun h34 => ?_)))) fun hg => h _ _ _ (Kp.refl hR 6)))
 ·have hk : (spotOf L (parV l)).has = true ∧ ((spotOf L (parV l)).r.kind = 3 ∨ (spotOf L (parV l)).r.kind = 4) := by
   rcases Bool.or_eq_true _ _ ▸ h34 with h | h
   ·rw [gk_iff] at h; exact ⟨h.1, .inl h.2⟩
   rw [gk_iff] at h; exact ⟨h.1, .inr h.2⟩
  refine wp_fin3 hp hR (by omega) hk hm (by omega) h2 fun n' L' k' hkp => wp_ite (fun h22 => ?_) fun _ => h _ _ _ hkp
  rw [gk_iff] at h22
  rcases hk.2 with e | e
  ·rw [e] at h22; exact absurd h22.2 (by decide)
  rw [e] at h22; exact absurd h22.2 (by decide)
 refine wp_ite (fun h22 => ?_) fun _ => h _ _ _ (Kp.refl hR 6)
 have h22 := (gk_iff _ _ _).1 h22
 have hr : isR (asR 1 (gotAtL L l).x 0).r.abs = true := r_as hga.2 hg (.inl ⟨rfl, rfl⟩)
 rw [gk5] at hg
 have h5 := isFz_iff.1 hg
 refine wp_bind (wp_cas hl hr rfl (by omega) (by omega) h2 (wp_ite (fun _ => ?_) fun hf => absurd rfl hf))
 have hb := beh_put hR (by omega) hl (hga.1.ra.as 1 0).ro hr
 refine h _ _ _ ⟨hb.right, Nat.le_trans hb.len (by omega), ?_⟩
 have := mean_thaw (L := L) (i := i) (v := inc (spotOf L l).ver) (y := (asR 1 (gotAtL L l).x 0).r.abs) hp h64 h22.1 (by rw [h22.2]; decide) (by rw [hci]; exact h5.1) (by rw [hci]; exact .inr h5.2) (.inl rfl) (by rw [hci]; exact got_items L l)
 rw [hci] at this
 exact this
theorem wp_cln3 {Q : TQ Unit} {l : Lab} {m : Nat} (hl : LOk l) (hR : ShfR L) (hm : 65 ≤ m) (h1 : (n : Int) + 210 + 4 * (fzN L : Int) ≤ b) (h2 : b ≤ most)
  (h : ∀ n' L' k', Kp 0 L L' → Q () x n' L' k') : (clnT (m + 1) l).wp most b Q E x n L k := by
 have h0 := (lab_parts hl.isl).1
 by_cases hy : Lfy (spotOf L l)
 ·exact wp_cln2 h2 hl (by omega) hR hy (by omega) fun n' L' k' a _ _ => h _ _ _ ⟨a.right, by have := a.len; omega, a.mean⟩
 unfold clnT
 refine wp_ite (fun _ => h _ _ _ (Kp.refl hR 0)) fun h64 => ?_
 have one : ∀ {Q : TQ Bool} {i : Int} {n : Nat} {k : Int}, (n : Int) + 208 + 4 * (fzN L : Int) ≤ b → (∀ n' L' k', Kp 0 L L' → Q false x n' L' k') → (∀ k', Q true x (n + 1) L k) → (clnCT l (clnT m) (chV l i)).wp most b Q E x n L k := fun {Q i n k} h1 hn hyes => by
  have hc := hl.ch i
  have hlen := ch_len hl h64 i
  unfold clnCT
  refine wp_bind (wp_get hc (by omega) h2 (wp_ite (fun hg => ?_) fun hg => hyes k))
  rw [gk5] at hg
  refine wp_bind (wp_cln2 h2 hc (by omega) hR ⟨(isFz_iff.1 hg).1, .inr (isFz_iff.1 hg).2⟩ (by omega) fun n' L' k' a hn' _ => ?_)
  refine wp_bind (wp_get hl (by omega) h2 (wp_ite (fun hl' => ?_) fun _ => hn _ _ _ ⟨a.right, by have := a.len; omega, a.mean⟩))
  rw [gk15, a.same (by omega)] at hl'
  exact absurd hl' hy
 refine wp_bind (one (by omega) (fun n' L' k' hkp => wp_ite (fun hf => absurd hf (by decide)) fun _ => h _ _ _ hkp) fun _ => wp_ite (fun _ => ?_) fun hf => absurd rfl hf)
 exact wp_bind (one (by omega) (fun n' L' k' hkp => h _ _ _ hkp) fun _ => h _ _ _ (Kp.refl hR 0))
end
abbrev KpR (L : Shf) (r : RunR) : Prop := r.st = 2 ∧ r.res = zRsl ∧ ShfR r.L ∧ Mean r.L = Mean L ∧ r.L.length ≤ 70
theorem kpR_of {d n' : Nat} {L L' : Shf} {k' : Int} (hn : L.length ≤ 60) (hd : d ≤ 10) (h : Kp d L L') : KpR L ⟨2, zRsl, n', 0, L', k'⟩ := ⟨rfl, rfl, h.right, h.mean, Nat.le_trans h.len (by omega)⟩
theorem help_keeps {J : JobA} (hJ : JobIn J) (hj : isJobB J = true) (hk : J.kind = 1 ∨ J.kind = 2) (hbu : 1000 ≤ J.budget) {L : Shf} (hL : ShfR L) (hn : L.length ≤ 60) (k : Int) :
  KpR L (runQ (helpN J) 3000 2001 [] L k) := by
 have hl := job_lab hJ hj
 have hb0 := budget_of hj
 have hfz := fz_le L
 rw [help_dir hJ hj hk hL k]
 refine wp_dir (P := KpR L) ?_
 unfold helpT
 refine wp_ite (fun h2 => ?_) fun h2 => wp_ite (fun h1 => ?_) fun h1 => ?_
 ·exact wp_bind (wp_cln3 (m := 2000) hl hL (by omega) (by simp; omega) (by omega) fun n' L' k' a => kpR_of hn (by omega) a)
 ·refine wp_bind (wp_get hl (by simp; omega) (by omega) (wp_bind ?_))
  refine wp_ite (fun hg => ?_) fun hg => wp_ite (fun hg5 => ?_) fun hg5 => kpR_of hn (by omega) (Kp.refl hL 0)
  ·have hk : (spotOf L J.lab).has = true ∧ ((spotOf L J.lab).r.kind = 3 ∨ (spotOf L J.lab).r.kind = 4) := by
    rcases Bool.or_eq_true _ _ ▸ hg with h | h
    ·rw [gk_iff] at h; exact ⟨h.1, .inl h.2⟩
    rw [gk_iff] at h; exact ⟨h.1, .inr h.2⟩
   exact wp_fin3 (m := 2000) hl hL (by omega) hk (by omega) (by simp; omega) (by omega) fun n' L' k' a => kpR_of hn (by omega) a
  exact wp_thw3 (m := 1999) hl hL (by omega) (by omega) (by simp; omega) (by omega) fun n' L' k' a => kpR_of hn (by omega) a
 rcases hk with h | h
 ·exact absurd h h1
 exact absurd h h2
def rF (r : Option Nat) : Fence := { Fence.wide with round := r }
@[simp] theorem rF_round (r : Option Nat) : (rF r).round = r := rfl
theorem rF_room (r : Option Nat) (n : Nat) : (rF r).room n := fun d hd => by cases hd
theorem rF_fn (r : Option Nat) (f : FuncId) : (rF r).fn f := trivial
theorem rF_depth (r : Option Nat) (n : Nat) : (rF r).depth.isSome = true → 1 ≤ n := fun h => by cases h
section
variable {P : Program} {n : Nat} {r : Option Nat}
theorem calls_r {f : FuncId} {args : Array Value} {w : World} {R : Ending → World → Prop} (h : Calls P f args w R) : CallsIn (rF r) n P f args w R := callsIn_wide (n := n).2 h
theorem rowsR_r {row : String} {args : Array Value} {w : World} {R : Value → World → Prop} (h : Rows P row args w R) : RowsIn (rF r) n P row args w R := fun c cs _ => by
 obtain ⟨v, w', hr, hs⟩ := h c cs
 exact ⟨v, w', hr, stepsIn_wide.2 hs⟩
def noDefer (l : List Oper) : Bool := l.all fun o => match o.op with | .defer _ => false | _ => true
theorem oper_r {o : Oper} (hd : ∀ c, o.op ≠ .defer c) {a : Act} {w : World} {next next' : Act → World → Prop} {Q Q' : Exit → Act → World → Prop} (hN : ∀ a w, next a w → next' a w) (hQ : ∀ e a w, Q e a w → Q' e a w) (h : o.wp P a w next Q) : o.wpIn (rF r) n P a w next' Q' := by
 refine ⟨fun f _ => rF_fn r f, ?_⟩
 rw [Oper.semAt_eq _ _ _ hd]
 unfold Oper.wp at h
 generalize (execOp a.eval o).run P w = res at h
 have hmap : ∀ f args w', Calls P f args w' (fun | .returned v, w'' => next (a.put o.dst v) w'' | .panicked chain, w'' => Q (.panic chain) a w'' | .outgrown, _ => LetsOut Q) →
   Calls P f args w' (fun | .returned v, w'' => next' (a.put o.dst v) w'' | .panicked chain, w'' => Q' (.panic chain) a w'' | .outgrown, _ => LetsOut Q') := fun f args w' h => by
  refine h.mono ?_
  intro e w'' he
  cases e with
  | returned v => exact hN _ _ he
  | panicked chain => exact hQ _ _ _ he
  | outgrown => obtain ⟨a, w, he⟩ := he; exact ⟨a, w, hQ _ _ _ he⟩
 cases res with
 | ok nx w' =>
  cases nx with
  | value v => exact hN _ _ h
  | skip => exact hN _ _ h
  | defer d => exact hN _ _ h
  | enter f args => exact ⟨rF_depth r n, calls_r (hmap _ _ _ h)⟩
  | row row args => exact ⟨rF_depth r n, rowsR_r (h.mono fun v w' hv => hN _ _ hv)⟩
  | _ => exact h.elim
 | halt hh w' =>
  cases hh with
  | panic v => exact hQ _ _ _ h
  | _ => exact h.elim
theorem list_r {ops : Array Oper} {Q Q' : Exit → Act → World → Prop} {rest : List Oper} (hO : ∀ a w, ¬ Q .outgrown a w) (hQ : ∀ e a w, e ≠ .normal → Q e a w → Q' e a w) (hN : ∀ a w, Q .normal a w → wpListIn (rF r) n P ops Q' rest a w) :
  ∀ (L : List Oper) (a : Act) (w : World), noDefer L = true → wpList P ops Q L a w → wpListIn (rF r) n P ops Q' (L ++ rest) a w
 | [], a, w, _, h => hN a w h
 | o :: L, a, w, hd, h => by
  have hd1 : ∀ c, o.op ≠ .defer c := fun c e => by unfold noDefer at hd; simp [e] at hd
  have hd2 : noDefer L = true := by unfold noDefer at hd ⊢; rw [List.all_cons, Bool.and_eq_true] at hd; exact hd.2
  show (if Region.wanted o (yielded ops a.tmps) then o.wpIn (rF r) n P a w (wpListIn (rF r) n P ops Q' (L ++ rest)) Q' else (∀ f, o.about P w a.eval = some f → (rF r).fn f) ∧ wpListIn (rF r) n P ops Q' (L ++ rest) (a.put o.dst undef) w)
  unfold wpList at h
  by_cases hw : Region.wanted o (yielded ops a.tmps) = true
  ·rw [if_pos hw] at h ⊢
   rcases h with h | ⟨_, a', w', h⟩
   ·-- Q may be met at .normal by the list's end only
    have H : o.wp P a w (wpListIn (rF r) n P ops Q' (L ++ rest)) Q := by
     unfold Oper.wp at h ⊢
     generalize (execOp a.eval o).run P w = res at h
     cases res with
     | ok nx w' =>
      cases nx with
      | value v => exact list_r hO hQ hN L _ _ hd2 h
      | skip => exact list_r hO hQ hN L _ _ hd2 h
      | defer d => exact list_r hO hQ hN L _ _ hd2 h
      | enter f args =>
       refine Calls.mono h ?_
       intro e w'' he
       cases e with
       | returned v => exact list_r hO hQ hN L _ _ hd2 he
       | panicked chain => exact he
       | outgrown => exact he
      | row row args => exact Rows.mono h fun v w' hv => list_r hO hQ hN L _ _ hd2 hv
      | _ => exact h.elim
     | halt hh w' =>
      cases hh with
      | panic v => exact h
      | _ => exact h.elim
    have H2 : o.wp P a w (wpListIn (rF r) n P ops Q' (L ++ rest)) (fun e a w => e ≠ .normal ∧ Q e a w) := by
     unfold Oper.wp at H ⊢
     generalize (execOp a.eval o).run P w = res at H
     cases res with
     | ok nx w' =>
      cases nx with
      | value v => exact H
      | skip => exact H
      | defer d => exact H
      | enter f args =>
       refine Calls.mono H ?_
       intro e w'' he
       cases e with
       | returned v => exact he
       | panicked chain => exact ⟨by simp, he⟩
       | outgrown => obtain ⟨a, w, he⟩ := he; exact absurd he (hO a w)
      | row row args => exact H
      | _ => exact H.elim
     | halt hh w' =>
      cases hh with
      | panic v => exact ⟨by simp, H⟩
      | _ => exact H.elim
    exact oper_r hd1 (fun _ _ h => h) (fun e a w h => hQ e a w h.1 h.2) H2
   exact absurd h (hO _ _)
  rw [if_neg hw] at h ⊢
  exact ⟨fun f _ => rF_fn r f, list_r hO hQ hN L _ _ hd2 h⟩
theorem region_r {id : Nat} {l : List Oper} {Q : Exit → Act → World → Prop} {a : Act} {w : World} (hO : ∀ a w, ¬ Q .outgrown a w) (hd : noDefer l = true) (h : wpList P l.toArray Q l a w) : (Code.region id l.toArray false).wpIn (rF r) n P Q a w := by
 refine wpIn_region_lit ?_
 have := list_r (r := r) (n := n) (Q' := Q) (rest := []) hO (fun _ _ _ _ h => h) (fun _ _ h => h) l a w hd h
 rwa [List.append_nil] at this
def roundPostP (P : Program) (l : Nat) (R : Ending → World → Prop) : Exit → Act → World → Prop
 | .normal, _, w => ∃ v w', (Instr.endRound l none).run P w = .ok v w' ∧ R (.returned v) w'
 | .ret, _, w => ∃ v w', (Instr.endRound l (some .ret)).run P w = .ok v w' ∧ R (.returned v) w'
 | .exit id, _, w => ∃ v w', (Instr.endRound l (some (.exit id))).run P w = .ok v w' ∧ R (.returned v) w'
 | .goto t, _, w => ∃ v w', (Instr.endRound l (some (.goto t))).run P w = .ok v w' ∧ R (.returned v) w'
 | .panic chain, a, w => a.defers = [] ∧ R (.panicked chain) w
 | .outgrown, _, _ => False
theorem round_p {l : Nat} {f : FuncId} {fn : Func} (hfn : P.funcs[f]? = some fn) {tmps : Array Value} {assign body : Code} {w : World} {R : Ending → World → Prop}
  (h : assign.wpIn (rF (some l)) n P (Exit.then (fun a₁ w₁ => ∃ w₂, (Instr.beginRound l).run P w₁ = .ok () w₂ ∧ body.wpIn (rF (some l)) n P (roundPostP P l R) a₁ w₂) (fun _ _ _ => False)) { tmps := tmps, defers := [] } w) :
  RoundIn (rF none) n P l f tmps assign body w R := by
 refine ⟨rF_fn none f, fun c cs hr => ?_⟩
 let b : Frame := { (default : Frame) with fn := f, kind := .normal, roundOf := some l }
 have hb0 : Frame.round l f tmps assign body .normal = b.atR { tmps := tmps, defers := [] } [.code assign, .beginRound, .code body] := by
  simp [Frame.round, Frame.atR, b]
 have hro : b.roundOf = (rF (some l)).round := rfl
 obtain ⟨e, a₁, w₁, hq, harr⟩ := h b [.beginRound, .code body] (c :: cs) hro (rF_fn _ _) (rF_room _ _)
 rw [← hb0] at harr
 cases e with
 | normal =>
  obtain ⟨w₂, hbr, hbody⟩ := hq
  have s1 : StepsIn (Machine.fenced P (rF (some l))) P (lone (b.atR a₁ [.beginRound, .code body]) (c :: cs) w₁) (lone (b.atR a₁ [.code body]) (c :: cs) w₂) :=
   .one (fenced_wide P _) (stepR_beginRound rfl hbr)
  obtain ⟨e₂, a₂, w₃, hq₂, harr₂⟩ := hbody b [] (c :: cs) hro (rF_fn _ _) (rF_room _ _)
  cases e₂ with
  | normal =>
   obtain ⟨v, w₄, hend, hR⟩ := hq₂
   exact ⟨.returned v, w₄, hR, (StepsIn.trans harr s1).trans (StepsIn.trans harr₂ (.one (fenced_wide P _) (stepR_round_end rfl rfl hend)))⟩
  | ret =>
   obtain ⟨v, w₄, hend, hR⟩ := hq₂
   obtain ⟨k₁, hs⟩ := harr₂.2 rfl
   exact ⟨.returned v, w₄, hR, (StepsIn.trans harr s1).trans (StepsIn.trans hs (.one (fenced_wide P _) (stepR_round_ret rfl rfl hend)))⟩
  | exit id =>
   obtain ⟨v, w₄, hend, hR⟩ := hq₂
   obtain ⟨k₁, hk, hs⟩ := harr₂.2 rfl rfl
   exact ⟨.returned v, w₄, hR, (StepsIn.trans harr s1).trans (StepsIn.trans hs (.one (fenced_wide P _) (stepR_round_exit rfl rfl hk hend)))⟩
  | goto t =>
   obtain ⟨v, w₄, hend, hR⟩ := hq₂
   obtain ⟨k₁, hk, hs⟩ := harr₂.2 rfl rfl
   exact ⟨.returned v, w₄, hR, (StepsIn.trans harr s1).trans (StepsIn.trans hs (.one (fenced_wide P _) (stepR_round_goto rfl rfl hk hend)))⟩
  | panic chain =>
   obtain ⟨hd, hR⟩ := hq₂
   obtain ⟨todo, hs⟩ := harr₂
   exact ⟨.panicked chain, w₃, hR, (StepsIn.trans harr s1).trans (StepsIn.trans hs (.one (fenced_wide P _) (step_leave_panicked (fr := { b.atR a₂ todo with mode := .panicking chain }) ⟨rfl, hd, fn, hfn⟩)))⟩
  | outgrown => exact hq₂.elim
 | exit id => exact hq.elim
 | goto t => exact hq.elim
 | ret => exact hq.elim
 | panic chain => exact hq.elim
 | outgrown => exact hq.elim
end
def wpN (fn : FuncId) (P : Program) (c : Code) (Q : Exit → Act → World → Prop) (a : Act) (w : World) : Prop :=
 ∀ (b : Frame) (k : List Item) (cs : List Frame), b.fn = fn → ∃ e a' w', Q e a' w' ∧ Arrives P (lone (b.at a (.code c :: k)) cs w) b k cs e a' w'
section
variable {P : Program} {fn : FuncId} {Q : Exit → Act → World → Prop} {a : Act} {w : World}
theorem wpN_of {c : Code} (h : c.wp P Q a w) : wpN fn P c Q a w := fun b k cs _ => h b k cs
theorem wpN_seq {x y : Code} (h : wpN fn P x (Exit.then (wpN fn P y Q) Q) a w) : wpN fn P (Code.seq x y) Q a w := by
 intro b k cs hb
 obtain ⟨e, a₁, w₁, hq, harr⟩ := h b (.code y :: k) cs hb
 cases e with
 | normal =>
  obtain ⟨e₂, a₂, w₂, hq₂, harr₂⟩ := hq b k cs hb
  exact ⟨e₂, a₂, w₂, hq₂, .of_steps (.head step_seq harr) harr₂⟩
 | exit id => exact ⟨_, a₁, w₁, hq, .of_steps (.one step_seq) (.pass (x := .code y) rfl (fun _ _ => .inl (by simp)) harr)⟩
 | goto l => exact ⟨_, a₁, w₁, hq, .of_steps (.one step_seq) (.pass (x := .code y) rfl (fun _ _ => .inl (by simp)) harr)⟩
 | ret => exact ⟨_, a₁, w₁, hq, .of_steps (.one step_seq) (.pass (x := .code y) rfl (fun _ _ => .inl (by simp)) harr)⟩
 | panic ch => exact ⟨_, a₁, w₁, hq, .of_steps (.one step_seq) (.pass (x := .code y) rfl (fun _ _ => .inl (by simp)) harr)⟩
 | outgrown => exact ⟨_, a₁, w₁, hq, .of_steps (.one step_seq) (.pass (x := .code y) rfl (fun _ _ => .inl (by simp)) harr)⟩
def rangeN (P : Program) (l : Nat) (Q : Exit → Act → World → Prop) (a' : Act) : Ending → World → Prop
 | .returned _, w₃ => ∃ jump w₄, (Instr.endLoop l).run P w₃ = .ok jump w₄ ∧ (match jump with
   | none => Q .normal a' w₄
   | some c => c.wp P Q a' w₄)
 | .panicked chain, w₃ => Q (.panic chain) a' w₃
 | .outgrown, _ => LetsOut Q
def loopRec (fn : FuncId) (a : Act) (ps : Array Tmp) (assign body : Code) (D : Nat) (st : LoopState) (pe : Option Code) : Loop := { state := st, pending := pe, fn, tmps := a.tmps, params := ps, assign, body, defers := D }
def loopW (fn : FuncId) (a : Act) (ps : Array Tmp) (assign body : Code) (w : World) : World := (w.alloc (.deferred (some []))).alloc (.loop (loopRec fn a ps assign body w.heap.size .ready none))
theorem wpN_range {g : Operand} {ps : Array Tmp} {assign body : Code} {gf : Nat} {lb : Array Value} (hg : a.eval g = .func (.func gf) #[] lb) (eg : ∀ args w, (callFunc gf args).run P w = .ok (.enter gf args) w)
  (h : Calls P gf (#[.func (.yield (w.heap.size + 1)) #[] #[]] ++ lb) (loopW fn a ps assign body w) (rangeN P (w.heap.size + 1) Q { a with defers := { target := .collected w.heap.size, args := #[] } :: a.defers })) :
  wpN fn P (Code.rangeFunc g ps assign body) Q a w := by
 intro b0 k cs hb
 have hat : ∀ a k, b0.at a k = ({ b0 with roundOf := none } : Frame).atR a k := fun a k => (Frame.atR_of_none (b := { b0 with roundOf := none }) rfl a k).symm
 obtain ⟨b, hbd⟩ := eqv (({ b0 with roundOf := none } : Frame))
 have hro : b.roundOf = none := by rw [hbd]
 have hbf : b.fn = fn := by rw [hbd]; exact hb
 have he : (Instr.enterLoop b.fn a.tmps ps assign body b.roundOf).run P w = .ok (w.heap.size + 1, [{ target := .collected w.heap.size, args := #[] }]) (loopW fn a ps assign body w) := by
  rw [hro, hbf]; exact run_enterLoop_outer _ _ _ _ _
 have hres : (resolve a.eval (rangeCall g (w.heap.size + 1)) 0).run P (loopW fn a ps assign body w) = .ok { target := .fn (.func gf) lb, args := #[.func (.yield (w.heap.size + 1)) #[] #[]] } (loopW fn a ps assign body w) := by
  simp only [resolve, hg]
  simp [go_sem]
 have hinv : (invoke (.fn (.func gf) lb) #[.func (.yield (w.heap.size + 1)) #[] #[]]).run P (loopW fn a ps assign body w) = .ok (.enter gf (#[.func (.yield (w.heap.size + 1)) #[] #[]] ++ lb)) (loopW fn a ps assign body w) := by
  simp [invoke, go_sem, eg]
 have henter := stepR_rangeFunc (P := P) (b := b) (a := a) (k := k) (cs := cs) (w := w) he hres hinv
 obtain ⟨e, w₃, fr, hR, hsteps, hfn, hleave⟩ := h (b.atR { a with defers := [{ target := .collected w.heap.size, args := #[] }] ++ a.defers } (.inRangeFunc (w.heap.size + 1) :: k) :: cs)
 have hbk : ∀ a k, b.atR a k = b0.at a k := fun a k => by rw [hbd, hat]
 rw [← hbk]
 cases e with
 | outgrown =>
  obtain ⟨a₀, w₀, hq⟩ := hR
  exact ⟨.outgrown, a₀, w₀, hq, .inr (Outgrown.of_steps (.one henter) hsteps)⟩
 | returned v =>
  obtain ⟨jump, w₄, hend, hj⟩ := hR
  have sback : Steps P (lone (b.atR a (.code (.rangeFunc g ps assign body) :: k)) cs w) (lone (b.atR { a with defers := [{ target := .collected w.heap.size, args := #[] }] ++ a.defers } ((jump.map Item.code).toList ++ k)) cs w₄) := by
   refine .head henter (Steps.trans hsteps (.head ?_ (.one (stepR_endRangeFunc hend))))
   rw [← finish_atR_inRangeFunc (w.heap.size + 1) v]; exact step_leave_returned hleave
  cases jump with
  | none => exact ⟨.normal, _, w₄, hj, by rw [hbk] at sback ⊢; rw [hbk] at sback; exact sback⟩
  | some c =>
   obtain ⟨e', a'', w₅, hq, harr⟩ := hj b0 k cs
   refine ⟨e', a'', w₅, hq, .of_steps sback ?_⟩
   rw [hbk]; exact harr
 | panicked chain =>
  refine ⟨.panic chain, _, w₃, hR, .inRangeFunc (w.heap.size + 1) :: k, .head henter (Steps.trans hsteps (.one ?_))⟩
  rw [← hbk, ← Frame.raise_atR]; exact step_leave_panicked hleave
theorem calls_marks {f : FuncId} {fd : Func} {c : Code} {args : Array Value} {R : Ending → World → Prop} (hf : P.funcs[f]? = some fd) (hb : fd.body = some c)
  (h : wpN f P c (bodyPostM Fence.wide 0 P fd R) { tmps := args ++ Array.replicate (fd.ntmps - args.size) undef, defers := [] } w) : Calls P f args w R := by
 intro cs
 let b : Frame := { (default : Frame) with fn := f, kind := .normal }
 have henter : Frame.enter P f args .normal = b.at { tmps := args ++ Array.replicate (fd.ntmps - args.size) undef, defers := [] } [.code c] := by
  simp [Frame.enter, Frame.at, hf, hb, b]
 obtain ⟨e, a', w', hq, harr⟩ := h b [] cs rfl
 rw [← henter] at harr
 cases e with
 | normal =>
  obtain ⟨e', w'', fr', hR, hs, hfn, hl⟩ := leaves_stepsInM (F := Fence.wide) a'.defers .returning w' { b.at a' [] with mode := .returning } cs rfl rfl rfl hf rfl trivial (room_wide _) hq
  exact ⟨e', w'', fr', hR, Comes.of_steps (Steps.trans harr (.one step_end)) (comesIn_wide.1 hs), hfn, hl⟩
 | ret =>
  obtain ⟨todo, hs₀⟩ := harr
  obtain ⟨e', w'', fr', hR, hs, hfn, hl⟩ := leaves_stepsInM (F := Fence.wide) a'.defers .returning w' { b.at a' todo with mode := .returning } cs rfl rfl rfl hf rfl trivial (room_wide _) hq
  exact ⟨e', w'', fr', hR, Comes.of_steps hs₀ (comesIn_wide.1 hs), hfn, hl⟩
 | panic chain =>
  obtain ⟨todo, hs₀⟩ := harr
  obtain ⟨e', w'', fr', hR, hs, hfn, hl⟩ := leaves_stepsInM (F := Fence.wide) a'.defers (.panicking chain) w' { b.at a' todo with mode := .panicking chain } cs rfl rfl rfl hf rfl trivial (room_wide _) hq
  exact ⟨e', w'', fr', hR, Comes.of_steps hs₀ (comesIn_wide.1 hs), hfn, hl⟩
 | exit id => exact hq.elim
 | goto l => exact hq.elim
 | outgrown => exact ⟨.outgrown, w', b, hq, harr.resolve_left (by simp [b]), rfl, trivial⟩
end
section
variable {m0 : Nat → Nat → Prop} {w0 w w' : World} {S : Nat → Prop} {ds : List Deferred} {K : Kn} {s : St} {a : Act} {P : Program}
theorem Fits.redefer (h : Fits ⟨m0, w0, S, ds, K⟩ s a w) (ds' : List Deferred) : Fits ⟨m0, w0, S, ds', K⟩ s { a with defers := ds' } w :=
 ⟨h.size, rfl, h.slot, h.gs, h.mem, h.nodup, h.gr, h.sepm, h.sepg, h.chg, h.m0, h.kept⟩
abbrev markD (D : Nat) : Deferred := { target := .collected D, args := #[] }
theorem loopW_below (fn : FuncId) (a : Act) (ps : Array Tmp) (assign body : Code) (w : World) : Below w.heap.size w (loopW fn a ps assign body w) :=
 ((Below.refl _ w).alloc (Nat.le_refl _) _).alloc (by simp) _
theorem loopW_rec (fn : FuncId) (a : Act) (ps : Array Tmp) (assign body : Code) (w : World) : (loopW fn a ps assign body w).heap[w.heap.size + 1]? = some (.loop (loopRec fn a ps assign body w.heap.size .ready none)) := by
 have := World.alloc_heap_new (w.alloc (.deferred (some []))) (.loop (loopRec fn a ps assign body w.heap.size .ready none))
 rwa [World.size_alloc] at this
theorem loopW_mark (fn : FuncId) (a : Act) (ps : Array Tmp) (assign body : Code) (w : World) : (loopW fn a ps assign body w).heap[w.heap.size]? = some (.deferred (some [])) :=
 (Below.heap_alloc _ _ _ (by simp)).trans (World.alloc_heap_new w _)
theorem Fits.loop (h : Fits ⟨m0, w0, S, [], K⟩ s a w) (fn : FuncId) (ps : Array Tmp) (assign body : Code) : Fits ⟨m0, w0, S, [markD w.heap.size], K⟩ s { a with defers := [markD w.heap.size] } (loopW fn a ps assign body w) :=
 (h.below (loopW_below fn a ps assign body w)).redefer _
end
section
variable {m0 : Nat → Nat → Prop} {w0 wi w : World} {S : Nat → Prop} {ds di : List Deferred} {K : Kn} {s si : St} {a ai : Act}
def recK (l : Nat) (r : Loop) (D : Nat) : Kn := ⟨fun _ w => w.heap[l]? = some (.loop r) ∧ w.heap[D]? = some (.deferred (some [])), fun k h => ⟨k.obj _ _ h.1 (fun _ _ _ e => by cases e), k.obj _ _ h.2 (fun _ _ _ e => by cases e)⟩⟩
theorem over (hc : Fits ⟨m0, w0, S, ds, K⟩ s a wi) {pre : List (Nat × Blk)} (hi : Fits ⟨s.m ⟨m0, w0, S, ds, K⟩, wi, ats pre, di, noK⟩ si ai w) (hdist : pre.Pairwise fun e f => e.2.at_ ≠ f.2.at_) (hp : ∀ e ∈ pre, lookM s.mem e.1 = some e.2) {sets : List (Nat × List AV)} {news : List (Nat × Blk)} {ks : List Nat} (hs : SetsOk si pre sets) (hn : NewsOk si pre ks news) :
  Fits ⟨m0, w0, S, ds, K⟩ (s.eff (.sets (upd pre sets ++ news))) a w ∧ ∀ v, Ok (si.m ⟨s.m ⟨m0, w0, S, ds, K⟩, wi, ats pre, di, noK⟩) w v → Ok ((s.eff (.sets (upd pre sets ++ news))).m ⟨m0, w0, S, ds, K⟩) w v := by
 obtain ⟨hl, hok⟩ := left_ok hi hs hn
 obtain ⟨f1, f2⟩ := hc.called hdist hp hl
 exact ⟨f1, fun v hv => f2 v (hok v hv)⟩
end
section
variable {C : Cx} {P : Program} {Q : Exit → Act → World → Prop} {ops : Array Oper} {s : St} {a : Act} {w : World} {L rest : List Oper} {o : Oper}
abbrev yV (l : Nat) : AV := .raw (.func (.yield l) #[] #[])
theorem yield_run {c : Call} {g : Operand} {l : Nat} {args : List AV} (hop : o.op = .call c) (hcal : c.callee = .value g) (h : Fits C s a w) (hgv : val s [] g = yV l) (hl : vals s [] c.args.toList = some args) {rc : Loop} (hr : w.heap[l]? = some (.loop rc)) (hsz : args.length = rc.params.size) :
  (execOp a.eval o).run P w = .ok (.round l rc.fn ((rc.params.zip (args.map AV.den).toArray).foldl (fun tmps (t, a) => tmps.setIfInBounds t a) rc.tmps) rc.assign rc.body) w ∧ ∀ v ∈ args, Ok (s.m C) w v := by
 obtain ⟨h1, h2⟩ := vals_ok h (fun _ h => by cases h) hl
 have hg := val_ok h (q := []) (fun _ h => by cases h) (x := g) (by rw [hgv]; rfl)
 rw [hgv] at hg
 have hargs : c.args.map a.eval = (args.map AV.den).toArray := by
  apply Array.ext'
  simpa using h1
 have e1 : a.eval g = .func (.yield l) #[] #[] := hg.1
 refine ⟨?_, h2⟩
 have hy := run_yield (P := P) (args := (args.map AV.den).toArray) hr (by simpa using hsz)
 simp [execOp, hop, resolve, hcal, e1, Deferred.ofValue, invoke, hargs]
 simpa using hy
theorem wanted_of {i g : Nat} {want : Bool} (hg : o.guard = some (i, want)) (hd : (ops[i]?).bind (·.dst) = some g) (h : Fits C s a w) (hv : look s.tmps g = .bool (if want then .tt else .ff)) : Region.wanted o (yielded ops a.tmps) = true := by
 have h1 := (h.slot g (by rw [hv]; cases want <;> rfl)).1
 rw [hv] at h1
 simp only [Region.wanted, hg, yielded, hd, Option.bind_some]
 cases want <;> simp [h1, AV.den, BE.den]
theorem man_yieldW {c : Call} {g : Operand} {l : Nat} {args : List AV} (hL : L = o :: rest) (hw : Region.wanted o (yielded ops a.tmps) = true) (hop : o.op = .call c) (hcal : c.callee = .value g) (h : Fits C s a w) (hgv : val s [] g = yV l) (hl : vals s [] c.args.toList = some args) {rc : Loop} (hr : w.heap[l]? = some (.loop rc)) (hsz : args.length = rc.params.size)
  (K : (∀ v ∈ args, Ok (s.m C) w v) → RoundIn (rF none) 0 P l rc.fn ((rc.params.zip (args.map AV.den).toArray).foldl (fun tmps (t, a) => tmps.setIfInBounds t a) rc.tmps) rc.assign rc.body w fun
   | .returned v, w'' => wpListIn (rF none) 0 P ops Q rest (a.put o.dst v) w''
   | .panicked chain, w'' => Q (.panic chain) a w''
   | .outgrown, _ => LetsOut Q) : wpListIn (rF none) 0 P ops Q L a w := by
 subst hL
 obtain ⟨hrun, hok⟩ := yield_run (P := P) hop hcal h hgv hl hr hsz
 show (if Region.wanted o (yielded ops a.tmps) then o.wpIn (rF none) 0 P a w (wpListIn (rF none) 0 P ops Q rest) Q else _)
 rw [if_pos hw]
 refine ⟨fun f _ => rF_fn none f, ?_⟩
 rw [Oper.semAt_eq _ _ _ (fun c' e => by rw [hop] at e; cases e), hrun]
 exact ⟨rF_depth none 0, K hok⟩
end
section
variable {P : Program} {w : World}
def roundEnd (l : Nat) (r : Loop) (R : Ending → World → Prop) : Exit → Act → World → Prop
 | .normal, _, w => w.heap[l]? = some (.loop { r with state := .busy }) ∧ R (.returned (.bool true)) (w.putObj l (.loop { r with state := .ready, pending := none }))
 | .ret, _, w => w.heap[l]? = some (.loop { r with state := .busy }) ∧ R (.returned (.bool false)) (w.putObj l (.loop { r with state := .done, pending := some .ret }))
 | .exit id, _, w => w.heap[l]? = some (.loop { r with state := .busy }) ∧ R (.returned (.bool false)) (w.putObj l (.loop { r with state := .done, pending := some (.exit id) }))
 | .goto t, _, w => w.heap[l]? = some (.loop { r with state := .busy }) ∧ R (.returned (.bool false)) (w.putObj l (.loop { r with state := .done, pending := some (.goto t) }))
 | .panic chain, a, w => a.defers = [] ∧ R (.panicked chain) w
 | .outgrown, _, _ => False
theorem round_of {l : Nat} {r : Loop} {fd : Func} (hfn : P.funcs[r.fn]? = some fd) (hst : r.state = .ready) {tmps : Array Value} {R : Ending → World → Prop}
  (h : r.assign.wpIn (rF (some l)) 0 P (Exit.then (fun a₁ w₁ => w₁.heap[l]? = some (.loop r) ∧ r.body.wpIn (rF (some l)) 0 P (roundEnd l r R) a₁ (w₁.putObj l (.loop { r with state := .busy }))) (fun _ _ _ => False)) { tmps := tmps, defers := [] } w) :
  RoundIn (rF none) 0 P l r.fn tmps r.assign r.body w R := by
 refine round_p hfn (wpIn_mono h ?_)
 intro e a₁ w₁ he
 cases e with
 | normal =>
  obtain ⟨hl, hb⟩ := he
  refine ⟨_, run_beginRound hl hst, wpIn_mono hb ?_⟩
  intro e a w he
  cases e with
  | normal => exact ⟨_, _, run_endRound none he.1, he.2⟩
  | ret => exact ⟨_, _, run_endRound (some .ret) he.1, he.2⟩
  | exit id => exact ⟨_, _, run_endRound (some (.exit id)) he.1, he.2⟩
  | goto t => exact ⟨_, _, run_endRound (some (.goto t)) he.1, he.2⟩
  | panic chain => exact he
  | outgrown => exact he
 | exit id => exact he
 | goto t => exact he
 | ret => exact he
 | panic chain => exact he
 | outgrown => exact he
def St.puts (s : St) : List (Nat × AV) → St
 | [] => s
 | e :: l => (s.put (some e.1) e.2).puts l
theorem Fits.puts {C : Cx} : ∀ {l : List (Nat × AV)} {s : St} {a : Act}, Fits C s a w → (∀ e ∈ l, e.1 < s.nt ∧ Ok (s.m C) w e.2) → Fits C (s.puts l) { a with tmps := l.foldl (fun t e => t.setIfInBounds e.1 e.2.den) a.tmps } w
 | [], s, a, h, _ => h
 | e :: l, s, a, h, hl => by
  obtain ⟨h1, h2⟩ := hl e (by simp)
  have hp := h.put (some e.1) (fun t ht => by injection ht with ht; subst ht; exact h1) e.2 (fun _ => h2) e.2.den (fun _ => rfl)
  exact Fits.puts (l := l) hp fun e' he' => hl e' (by simp [he'])
end
section
variable {C : Cx} {P : Program} {Q : Exit → Act → World → Prop} {T : List (Nat × TI)} {s : St} {a : Act} {w : World} {B : Alg} {r : Option Nat}
theorem rpre {all L : List Oper} {R : Alg → (Nat → Atom) → St × List Ob} (i n : Nat) (hB : B = std) (hT : TabOK P T) (kp km : List Nat) (cs : List (Nat × CS)) (h : Fits C s a w) (hO : ∀ a w, ¬ Q .outgrown a w) (hQ : ∀ X a' w', Fits C (R B X).1 a' w' → wpListIn (rF r) 0 P all.toArray Q (L.drop n) a' w')
  (hex : ∀ A X, (exec A T cs X all (number i (L.take n)) s).map (fun r => (r.1.keep kp km, r.2.1)) = some (R A X)) (hob : ∀ X, AO P C.K (R B X).2) (hd : noDefer (L.take n) = true) : wpListIn (rF r) 0 P all.toArray Q L a w := by
 have h1 : wpList P all.toArray (Exit.then (fun a w => wpListIn (rF r) 0 P all.toArray Q (L.drop n) a w) Q) (L.take n) a w := leB i hB hT kp km cs h hex hob fun X a' w' hf => hQ X a' w' hf
 have h2 := list_r (r := r) (n := 0) (ops := all.toArray) (Q := Exit.then (fun a w => wpListIn (rF r) 0 P all.toArray Q (L.drop n) a w) Q) (Q' := Q) (rest := L.drop n) (fun a w h => hO a w h) (fun e a w hne h => by cases e <;> first | exact absurd rfl hne | exact h) (fun a w h => h) (L.take n) a w hd h1
 rwa [List.take_append_drop] at h2
theorem rlpr {all L : List Oper} {R : Alg → (Nat → Atom) → St × List Ob} (i n : Nat) (hB : B = std) (hT : TabOK P T) (kp km : List Nat) (cs : List (Nat × CS)) (h : Fits C s a w) (hQ : ∀ X a' w', Fits C (R B X).1 a' w' → wpListIn (rF r) 0 P all.toArray Q (L.drop n) a' w')
  (hO : ∀ a w, ¬ Q .outgrown a w := by first | exact fun _ _ h => h | (intro a w h; obtain ⟨x, h, _⟩ := h; cases h))
  (hex : ∀ A X, (exec A T cs X all (number i (L.take n)) s).map (fun r => (r.1.keep kp km, r.2.1)) = some (R A X) := by intro A X; conv => lhs; cbv) (hob : ∀ X, AO P C.K (R B X).2 := by
   intro X; subst hB
   first
   | exact trivial
   | (simp only [AO, Ob.holds, BE.den] <;> and_intros <;> (repeat first | trivial | rfl | exact O1 | exact O2 | exact O3 | exact (fun _ _ => by kernel_rfl) | exact O1 _ _ _ rfl | exact O2 _ _ _ rfl | refine ⟨?_, ?_⟩ | intro h | decide | omega) <;> done)
   | (simp [AO, Ob.holds, BE.den, std, sC, sAr] <;> omega)) (hd : noDefer (L.take n) = true := by rfl) : wpListIn (rF r) 0 P all.toArray Q L a w := rpre i n hB hT kp km cs h hO hQ hex hob hd
theorem rlnd {all L : List Oper} {R : Alg → (Nat → Atom) → St × List Ob} (i : Nat) (hB : B = std) (hT : TabOK P T) (kp km : List Nat) (cs : List (Nat × CS)) (h : Fits C s a w) (hQ : ∀ X a' w', Fits C (R B X).1 a' w' → Q .normal a' w')
  (hO : ∀ a w, ¬ Q .outgrown a w := by first | exact fun _ _ h => h | (intro a w h; obtain ⟨x, h, _⟩ := h; cases h))
  (hex : ∀ A X, (exec A T cs X all (number i L) s).map (fun r => (r.1.keep kp km, r.2.1)) = some (R A X) := by intro A X; conv => lhs; cbv) (hob : ∀ X, AO P C.K (R B X).2 := by
   intro X; subst hB
   first
   | exact trivial
   | (simp only [AO, Ob.holds, BE.den] <;> and_intros <;> (repeat first | trivial | rfl | exact O1 | exact O2 | exact O3 | exact (fun _ _ => by kernel_rfl) | exact O1 _ _ _ rfl | exact O2 _ _ _ rfl | refine ⟨?_, ?_⟩ | intro h | decide | omega) <;> done)
   | (simp [AO, Ob.holds, BE.den, std, sC, sAr] <;> omega)) (hd : noDefer L = true := by rfl) : wpListIn (rF r) 0 P all.toArray Q L a w := by
 have h1 := list_r (r := r) (n := 0) (Q' := Q) (rest := []) (fun a w h => hO a w h) (fun e a w hne h => h) (fun a w h => h) L a w hd (leB (Q := Q) i hB hT kp km cs h hex hob hQ)
 rwa [List.append_nil] at h1
theorem rrg {id : Nat} {l : List Oper} {R : Alg → (Nat → Atom) → St × List Ob} (hB : B = std) (hT : TabOK P T) (kp km : List Nat) (cs : List (Nat × CS)) (h : Fits C s a w) (hQ : ∀ X a' w', Fits C (R B X).1 a' w' → Q .normal a' w')
  (hO : ∀ a w, ¬ Q .outgrown a w := by first | exact fun _ _ h => h | (intro a w h; obtain ⟨x, h, _⟩ := h; cases h))
  (hex : ∀ A X, (exec A T cs X l (number 0 l) s).map (fun r => (r.1.keep kp km, r.2.1)) = some (R A X) := by intro A X; conv => lhs; cbv) (hob : ∀ X, AO P C.K (R B X).2 := by
   intro X; subst hB
   first
   | exact trivial
   | (simp only [AO, Ob.holds, BE.den] <;> and_intros <;> (repeat first | trivial | rfl | exact O1 | exact O2 | exact O3 | exact (fun _ _ => by kernel_rfl) | exact O1 _ _ _ rfl | exact O2 _ _ _ rfl | refine ⟨?_, ?_⟩ | intro h | decide | omega) <;> done)
   | (simp [AO, Ob.holds, BE.den, std, sC, sAr] <;> omega)) (hd : noDefer l = true := by rfl) : (Code.region id l.toArray false).wpIn (rF r) 0 P Q a w :=
 region_r hO hd (leB (all := l) 0 hB hT kp km cs h hex hob hQ)
end
section
variable {P : Program} {Q : Exit → Act → World → Prop} {C : Cx} {nt t : Nat} {b : Bool} {l : List (Nat × AV)} {mem : List (Nat × Blk)} {gr : List (Nat × Gr)} {a : Act} {w : World} {x y : Code} {r : Option Nat}
theorem rcond {s : St} (h : Fits C s a w) (hv : look s.tmps t = .bool (.v b)) (h1 : b = true → x.wpIn (rF r) 0 P Q a w) (h2 : b = false → y.wpIn (rF r) 0 P Q a w) : (Code.cond (.tmp t) x y).wpIn (rF r) 0 P Q a w := by
 have := (h.slot t (by rw [hv]; rfl)).1
 rw [hv] at this
 refine wpIn_cond_split (t := b) ?_ h1 h2
 simp [Act.eval, this, AV.den, BE.den]
theorem rcond_tt {s : St} (h : Fits C s a w) (hv : look s.tmps t = .bool .tt) (h1 : x.wpIn (rF r) 0 P Q a w) : (Code.cond (.tmp t) x y).wpIn (rF r) 0 P Q a w := by
 have := (h.slot t (by rw [hv]; rfl)).1
 rw [hv] at this
 exact wpIn_cond_true (by simp [Act.eval, this, AV.den, BE.den]) h1
theorem rcond_ff {s : St} (h : Fits C s a w) (hv : look s.tmps t = .bool .ff) (h1 : y.wpIn (rF r) 0 P Q a w) : (Code.cond (.tmp t) x y).wpIn (rF r) 0 P Q a w := by
 have := (h.slot t (by rw [hv]; rfl)).1
 rw [hv] at this
 exact wpIn_cond_false (by simp [Act.eval, this, AV.den, BE.den]) h1
theorem rtest_ok (h : Fits C ⟨nt, (t, .bool (.v b)) :: l, [], mem, gr⟩ a w) (hd : (look l t).known = false) (h1 : b = true → Fits C ⟨nt, l, [], mem, gr⟩ a w → x.wpIn (rF r) 0 P Q a w) (h2 : b = false → Fits C ⟨nt, l, [], mem, gr⟩ a w → y.wpIn (rF r) 0 P Q a w) : (Code.cond (.tmp t) x y).wpIn (rF r) 0 P Q a w :=
 rcond h (by show look ((t, _) :: l) t = _; rw [look_cons, if_pos rfl]) (fun hb => h1 hb (h.tail hd)) (fun hb => h2 hb (h.tail hd))
theorem rtest_tt (h : Fits C ⟨nt, (t, .bool .tt) :: l, [], mem, gr⟩ a w) (hd : (look l t).known = false) (h1 : Fits C ⟨nt, l, [], mem, gr⟩ a w → x.wpIn (rF r) 0 P Q a w) : (Code.cond (.tmp t) x y).wpIn (rF r) 0 P Q a w :=
 rcond_tt h (by show look ((t, _) :: l) t = _; rw [look_cons, if_pos rfl]) (h1 (h.tail hd))
theorem rtest_ff (h : Fits C ⟨nt, (t, .bool .ff) :: l, [], mem, gr⟩ a w) (hd : (look l t).known = false) (h1 : Fits C ⟨nt, l, [], mem, gr⟩ a w → y.wpIn (rF r) 0 P Q a w) : (Code.cond (.tmp t) x y).wpIn (rF r) 0 P Q a w :=
 rcond_ff h (by show look ((t, _) :: l) t = _; rw [look_cons, if_pos rfl]) (h1 (h.tail hd))
end
section
variable {P : Program} {Q : Exit → Act → World → Prop} {r : Option Nat} {m0 : Nat → Nat → Prop} {w0 : World} {S : Nat → Prop} {ds : List Deferred}
theorem rloop_any {ι : Type} (I : ι → Act → World → Prop) (J : ι → Prop) (μ : ι → Nat) {c : Code} {a : Act} {w : World} (p₀ : ι) (h₀ : J p₀) (hf : I p₀ a w)
  (round : ∀ p, J p → ∀ a w, I p a w → c.wpIn (rF r) 0 P (Exit.then (fun a' w' => ∃ p', J p' ∧ μ p' < μ p ∧ I p' a' w') Q) a w) : (Code.loop c).wpIn (rF r) 0 P Q a w := by
 intro b k fs hro hb hr
 have key : ∀ n p a w, μ p = n → J p → I p a w →
   ∃ e a' w', Q e a' w' ∧ ArrivesIn (Machine.fenced P (rF r)) P (lone (b.atR a (.code c :: .inLoop c :: k)) fs w) b k fs e a' w' := by
  intro n
  induction n using Nat.strongRecOn with
  | _ n ih =>
   intro p a w hn hJ hF
   obtain ⟨e, a₁, w₁, hq, harr⟩ := round p hJ a w hF b (.inLoop c :: k) fs hro hb hr
   cases e with
   | normal =>
    obtain ⟨p', hJ', hlt, hF'⟩ := hq
    obtain ⟨e₂, a₂, w₂, hq₂, harr₂⟩ := ih (μ p') (hn ▸ hlt) p' a₁ w₁ rfl hJ' hF'
    exact ⟨e₂, a₂, w₂, hq₂, .of_steps (StepsIn.trans harr (.one (fenced_wide P _) stepR_inLoop)) harr₂⟩
   | exit id => exact ⟨_, a₁, w₁, hq, .pass (x := .inLoop c) rfl (fun _ _ => .inl (by simp)) harr⟩
   | goto l => exact ⟨_, a₁, w₁, hq, .pass (x := .inLoop c) rfl (fun _ _ => .inl (by simp)) harr⟩
   | ret => exact ⟨_, a₁, w₁, hq, .pass (x := .inLoop c) rfl (fun _ _ => .inl (by simp)) harr⟩
   | panic ch => exact ⟨_, a₁, w₁, hq, .pass (x := .inLoop c) rfl (fun _ _ => .inl (by simp)) harr⟩
   | outgrown => exact ⟨_, a₁, w₁, hq, .pass (x := .inLoop c) rfl (fun _ _ => .inl (by simp)) harr⟩
 obtain ⟨e, a', w', hq, harr⟩ := key _ p₀ a w rfl h₀ hf
 exact ⟨e, a', w', hq, .of_steps (.one (fenced_wide P _) stepR_loop) harr⟩
end
section
variable {P : Program} {f : FuncId} {fn : Func} {c : Code} {R : Ending → World → Prop} {m : Nat → Nat → Prop} {w : World} {pre : List (Nat × Blk)} {args : List AV}
theorem enY (nt : Nat) (hm : ∀ b o, m b o → b < w.heap.size) (hp : PreOk m w pre) (hargs : ∀ v ∈ args, Ok m w v) (hf : P.funcs[f]? = some fn) (h : ∀ B, B = std → ∀ a, Fits ⟨m, w, ats pre, [], noK⟩ ⟨nt, startT 0 args, [], pre, []⟩ a w → c.wpIn (rF none) 0 P (bodyPost P fn R) a w) (hb : fn.body = some c := by rfl) (hnt : fn.ntmps = nt := by rfl) (hn : args.length ≤ nt := by exact Nat.le_of_ble_eq_true rfl) : Calls P f (args.map AV.den).toArray w R :=
 enX nt hm hp hargs hf (fun B hB a hF => (wpIn_wide (n := 0)).1 (h B hB a hF)) hb hnt hn
end
section
variable {C : Cx} {P : Program} {Q : Exit → Act → World → Prop} {T : List (Nat × TI)} {B : Alg} {r : Option Nat} {ops : Array Oper}
theorem nd_at {l : List Oper} (h : noDefer l = true) {o : Oper} (ho : o ∈ l) : ∀ c, o.op ≠ .defer c := fun c e => by
 have := List.all_eq_true.1 h o ho
 rw [e] at this; cases this
theorem any_r (hO : ∀ a w, ¬ Q .outgrown a w) (hd : ∀ o ∈ ops, ∀ c, o.op ≠ .defer c) {md : Region.Mode} : ∀ (fuel : Nat) (listed : Array Bool) (a : Act) (w : World), wpAny P md ops Q fuel listed a w → wpAnyIn (rF r) 0 P md ops Q fuel listed a w
 | 0, listed, a, w, h => h
 | fuel + 1, listed, a, w, h => by
  refine ⟨h.1, fun i hi => ?_⟩
  have h2 := h.2 i hi
  unfold wpOp at h2
  unfold wpOpIn
  cases ho : ops[i]? with
  | none => rw [ho] at h2; exact any_r hO hd fuel _ _ _ h2
  | some o =>
   rw [ho] at h2
   simp only at h2 ⊢
   by_cases hw : Region.wanted o (yielded ops a.tmps) = true
   ·rw [if_pos hw] at h2 ⊢
    rcases h2 with h2 | ⟨_, a', w', h2⟩
    ·exact oper_r (hd o (Array.mem_of_getElem? ho)) (fun a w h => any_r hO hd fuel _ a w h) (fun _ _ _ h => h) h2
    exact absurd h2 (hO _ _)
   rw [if_neg hw] at h2 ⊢
   exact ⟨fun f _ => rF_fn r f, any_r hO hd fuel _ _ _ h2⟩
theorem rdrawn_ok {s : St} {a : Act} {w : World} {id : Nat} {l : List Oper} (hm : P.follows .mixedOrders = true) (hT : TabOK P T) (kp km : List Nat) (cs : List (Nat × CS)) (h : Fits C s a w) (hgs : s.gs = []) (fs : List Foot) (hD : drawB l fs = true) (hlen : l.length = fs.length)
  {R : Alg → (Nat → Atom) → St × List Ob}
  (hex : ∀ A X, (exec A T cs X l (number 0 l) s).map (fun r => ((r.1.keep kp km, r.2.1), r.2.2)) = some (R A X, fs)) (hO : ∀ a w, ¬ Q .outgrown a w) (hnd : noDefer l = true) (hob : ∀ X, AO P C.K (R std X).2) (hQ : ∀ X a' w', Fits C (R std X).1 a' w' → Q .normal a' w') : (Code.region id l.toArray true).wpIn (rF r) 0 P Q a w := by
 simp only [drawB, Bool.and_eq_true] at hD
 obtain ⟨⟨d1, d2⟩, d3⟩ := hD
 refine wpIn_region_any hm (any_r hO (fun o ho => nd_at hnd (by simpa using ho)) _ _ _ _ ?_)
 have hf : Fits C s a { w with drawn := w.drawn + 1 } := h.world (fun _ _ _ => rfl) (fun _ _ _ _ _ => rfl) ⟨h.chg.os, h.chg.tape, h.chg.output, h.chg.size, h.chg.block⟩ (fun _ _ _ hc _ => hc) (fun _ _ h _ => h)
 have hnl : ∀ (l : List Oper) (i : Nat), (number i l).length = l.length := by
  intro l
  induction l with
  | nil => intro i; rfl
  | cons o l ih => intro i; simp [number, ih]
 have hsz : l.toArray.size = (number 0 l).length := by simp [hnl]
 rw [hsz]
 refine any_ok (cs := cs) (all := l) (tb := masks l []) hT rfl (masks_ok (l := l) (tb := []) rfl (fun i j h => by simp at h)) _ (number 0 l) fs _ s a _ rfl hf (fun t p v hl => by rw [hgs] at hl; cases hl) ?_ ⟨by rw [hnl]; exact hlen, d1⟩ ?_ (number_sorted l 0) ?_ ?_ (by simp [hnl]) ?_ ?_
 ·exact ordB_ok d3
 ·intro k o hk hu
  exfalso
  by_cases hk' : k < (number 0 l).length
  ·simp [Array.getD_eq_getD_getElem?, hk'] at hu
  simp [Array.getD_eq_getD_getElem?, hk'] at hu
 ·intro x hx
  obtain ⟨h1, h2⟩ := number_get hx
  rw [Nat.sub_zero] at h2
  refine ⟨by simpa using h2, ?_⟩
  have hlt := (List.getElem?_eq_some_iff.1 h2).1
  simp [Array.getD_eq_getD_getElem?, hnl, hlt]
 ·intro k o hk _
  have := number_mem (i := 0) (l := l) (k := k) (o := o) (by simpa using hk)
  rwa [Nat.zero_add] at this
 ·have ed : ∀ (L : List (Nat × Oper)), edgesB L = true → ∀ x ∈ L, ∀ e ∈ x.2.after.toList, Region.binds .any e = true → e.on < x.1 := by
   intro L
   induction L with
   | nil => intro _ x hx; cases hx
   | cons y L ih =>
    obtain ⟨i, o⟩ := y
    intro hL x hx e he hb
    simp only [edgesB, Bool.and_eq_true] at hL
    rcases List.mem_cons.1 hx with rfl | hx
    ·have := List.all_eq_true.1 hL.1 e he
     simpa [hb] using this
    exact ih hL.2 x hx e he hb
  exact ed _ d2
 intro X
 obtain ⟨r, hr, e⟩ := Option.map_eq_some_iff.1 (hex std X)
 obtain ⟨τ, obs, fs'⟩ := r
 simp only [Prod.mk.injEq] at e
 obtain ⟨e1, rfl⟩ := e
 refine ⟨τ, obs, hr, ?_, fun a' w' hf' => hQ X a' w' ?_⟩
 ·have := hob X; rw [← e1] at this; exact this
 rw [← e1]; exact hf'.keep kp km
theorem rdrg {s : St} {a : Act} {w : World} {id : Nat} {l : List Oper} {R : Alg → (Nat → Atom) → St × List Ob} {fs : List Foot} (hB : B = std) (hT : TabOK P T) (kp km : List Nat) (cs : List (Nat × CS)) (h : Fits C s a w) (hQ : ∀ X a' w', Fits C (R B X).1 a' w' → Q .normal a' w')
  (hO : ∀ a w, ¬ Q .outgrown a w := by first | exact fun _ _ h => h | (intro a w h; obtain ⟨x, h, _⟩ := h; cases h)) (hm : P.follows .mixedOrders = true := by kernel_rfl) (hgs : s.gs = [] := by rfl)
  (hex : ∀ A X, (exec A T cs X l (number 0 l) s).map (fun r => ((r.1.keep kp km, r.2.1), r.2.2)) = some (R A X, fs) := by intro A X; conv => lhs; cbv) (hD : drawB l fs = true := by kernel_rfl) (hlen : l.length = fs.length := by rfl) (hob : ∀ X, AO P C.K (R B X).2 := by
   intro X; subst hB
   first
   | exact trivial
   | (simp only [AO, Ob.holds, BE.den] <;> and_intros <;> (repeat first | trivial | rfl | exact O1 | exact O2 | exact O3 | exact (fun _ _ => by kernel_rfl) | exact O1 _ _ _ rfl | exact O2 _ _ _ rfl | refine ⟨?_, ?_⟩ | intro h | decide | omega) <;> done)
   | (simp [AO, Ob.holds, BE.den, std, sC, sAr] <;> omega)) (hd : noDefer l = true := by rfl) : (Code.region id l.toArray true).wpIn (rF r) 0 P Q a w := by
 subst hB
 exact rdrawn_ok hm hT kp km cs h hgs fs hD hlen hex hO hd hob hQ
theorem rreg {a : Act} {w : World} {id : Nat} {l : List Oper} (h : wpList P l.toArray Q l a w) (hO : ∀ a w, ¬ Q .outgrown a w := by first | exact fun _ _ h => h | (intro a w h; obtain ⟨x, h, _⟩ := h; cases h)) (hd : noDefer l = true := by rfl) : (Code.region id l.toArray false).wpIn (rF r) 0 P Q a w := region_r hO hd h
end
def okT (tm : List (Nat × AV)) : Kn := ⟨fun m w => ∀ t, (look tm t).known = true → Ok m w (look tm t), fun k h t ht => k.ok (h t ht)⟩
def SlotsA (nt : Nat) (tm : List (Nat × AV)) (ds : List Deferred) (a : Act) : Prop := a.tmps.size = nt ∧ a.defers = ds ∧ ∀ t, (look tm t).known = true → a.tmps[t]? = some (look tm t).den
def Kn.under (K : Kn) (n : Nat) : Prop := ∀ l, n ≤ l → ∀ {w m w' m'}, KeepB (some l) w m w' m' → K.p m w → K.p m' w'
def Kn.off (K : Kn) (l : Nat) : Prop := ∀ {w m w' m'}, KeepB (some l) w m w' m' → K.p m w → K.p m' w'
theorem Kn.under.off {K : Kn} {n l : Nat} (h : K.under n) (hl : n ≤ l) : K.off l := h l hl
theorem Kn.under.mono {K : Kn} {n n' : Nat} (h : K.under n) (hl : n ≤ n') : K.under n' := fun l h' => h l (Nat.le_trans hl h')
theorem okT_under (tm : List (Nat × AV)) (n : Nat) : (okT tm).under n := fun _ _ _ _ _ _ k h t ht => k.ok (h t ht)
theorem and_under {K K' : Kn} {n : Nat} (h : K.under n) (h' : K'.under n) : (K.and K').under n := fun l hl _ _ _ _ k x => ⟨h l hl k x.1, h' l hl k x.2⟩
theorem okT_off (tm : List (Nat × AV)) (n : Nat) : (okT tm).off n := fun k h t ht => k.ok (h t ht)
theorem and_off {K K' : Kn} {n : Nat} (h : K.off n) (h' : K'.off n) : (K.and K').off n := fun k x => ⟨h k x.1, h' k x.2⟩
theorem recK_under {l D n : Nat} {r : Loop} (h1 : l < n) (h2 : D < n) : (recK l r D).under n := fun b hb _ _ _ _ k x => ⟨k.obj _ _ (by intro e; injection e with e; omega) x.1 (fun _ _ _ e => by cases e), k.obj _ _ (by intro e; injection e with e; omega) x.2 (fun _ _ _ e => by cases e)⟩
def Kn.self (K : Kn) : Prop := ∀ m w, K.p m w → K.under w.heap.size
theorem okT_self (tm : List (Nat × AV)) : (okT tm).self := fun _ _ _ => okT_under _ _
theorem and_self' {K K' : Kn} (h : K.self) (h' : K'.self) : (K.and K').self := fun m w x => and_under (h m w x.1) (h' m w x.2)
theorem recK_self {l D : Nat} {r : Loop} : (recK l r D).self := fun m w x => recK_under (Array.getElem?_eq_some_iff.1 x.1).1 (Array.getElem?_eq_some_iff.1 x.2).1
def marksK (Ds : List Nat) : Kn := ⟨fun _ w => (∀ D ∈ Ds, w.heap[D]? = some (.deferred (some []))) ∧ Ds.Nodup, fun k h => ⟨fun D hD => k.obj _ _ (h.1 D hD) (fun _ _ _ e => by cases e), h.2⟩⟩
section
variable {m0 : Nat → Nat → Prop} {w0 w w' : World} {S : Nat → Prop} {ds : List Deferred} {K : Kn} {nt : Nat} {tm : List (Nat × AV)} {gs : List (Nat × List (Nat × Bool) × AV)} {mem : List (Nat × Blk)} {gr : List (Nat × Gr)} {a : Act} {P : Program}
abbrev Mem (m0 : Nat → Nat → Prop) (w0 : World) (S : Nat → Prop) (K : Kn) (mem : List (Nat × Blk)) (gr : List (Nat × Gr)) (w : World) : Prop := Fits ⟨m0, w0, S, [], K⟩ ⟨0, [], [], mem, gr⟩ ⟨#[], []⟩ w
abbrev mT (m0 : Nat → Nat → Prop) (mem : List (Nat × Blk)) (gr : List (Nat × Gr)) : Nat → Nat → Prop := St.m ⟨0, [], [], mem, gr⟩ ⟨m0, default, fun _ => False, [], noK⟩
theorem Fits.leave (h : Fits ⟨m0, w0, S, ds, K⟩ ⟨nt, tm, gs, mem, gr⟩ a w) : Mem m0 w0 S (K.and (okT tm)) mem gr w ∧ SlotsA nt tm ds a :=
 ⟨⟨rfl, rfl, (fun t ht => by cases ht), (fun t p v he => by cases he), h.mem, h.nodup, h.gr, h.sepm, h.sepg, h.chg, h.m0, ⟨h.kept, fun t ht => (h.slot t ht).2⟩⟩, h.size, h.defers, fun t ht => (h.slot t ht).1⟩
theorem Fits.bare (h : Fits ⟨m0, w0, S, ds, K⟩ ⟨nt, tm, gs, mem, gr⟩ a w) : Mem m0 w0 S K mem gr w :=
 ⟨rfl, rfl, (fun t ht => by cases ht), (fun t p v he => by cases he), h.mem, h.nodup, h.gr, h.sepm, h.sepg, h.chg, h.m0, h.kept⟩
theorem mem_act (h : Mem m0 w0 S K mem gr w) (ha : SlotsA nt tm ds a) (hok : (okT tm).p (mT m0 mem gr) w) : Fits ⟨m0, w0, S, ds, K⟩ ⟨nt, tm, [], mem, gr⟩ a w :=
 ⟨ha.1, ha.2.1, fun t ht => ⟨ha.2.2 t ht, hok t ht⟩, (fun t p v he => by cases he), h.mem, h.nodup, h.gr, h.sepm, h.sepg, h.chg, h.m0, h.kept⟩
theorem mem_enter (h : Mem m0 w0 S (K.and (okT tm)) mem gr w) (ha : SlotsA nt tm ds a) : Fits ⟨m0, w0, S, ds, K⟩ ⟨nt, tm, [], mem, gr⟩ a w :=
 mem_act (K := K) (Fits.withK (K := K.and (okT tm)) h h.kept.1) ha h.kept.2
theorem mem_K {K' : Kn} (h : Mem m0 w0 S K mem gr w) (hK : K'.p (mT m0 mem gr) w) : Mem m0 w0 S K' mem gr w := Fits.withK (K := K) h hK
theorem mem_turn {b : Nat} {o : Obj} (h : Mem m0 w0 S K mem gr w) (hb : w.heap[b]? = some o) (ho : ∀ c t f, o ≠ Obj.cells c t f) (hg : w.grownBy w' (some b)) (hC : b < w0.heap.size → S b) {K' : Kn} (hK : KeepB (some b) w (mT m0 mem gr) w' (mT m0 mem gr) → K'.p (mT m0 mem gr) w') : Mem m0 w0 S K' mem gr w' :=
 Fits.turn (K := K) h hb ho hg hC (hK (turn_keepB hb ho hg))
end
section
variable {m0 : Nat → Nat → Prop} {w0 w : World} {S : Nat → Prop} {ds : List Deferred} {K : Kn} {mem : List (Nat × Blk)} {gr : List (Nat × Gr)} {a : Act} {P : Program} {f : FuncId} {fn : Func} {c : Code} {R : Ending → World → Prop} {args : List AV} {B : Alg} {T : List (Nat × TI)} {s : St} {rs : List ResultVar} {r : List AV × List Ob} {Q : Exit → Act → World → Prop} {ops : Array Oper}
theorem startA (hargs : ∀ v ∈ args, Ok (mT m0 mem gr) w v) {n : Nat} (hn : args.length ≤ n) : SlotsA n (startT 0 args) [] { tmps := (args.map AV.den).toArray ++ Array.replicate (n - args.length) Go.undef, defers := [] } ∧ (okT (startT 0 args)).p (mT m0 mem gr) w := by
 have key : ∀ t, (look (startT 0 args) t).known = true → args[t]? = some (look (startT 0 args) t) := fun t ht => by
  have := (startT_look args 0 t ht).2
  rwa [Nat.sub_zero] at this
 refine ⟨⟨by simp; omega, rfl, fun t ht => ?_⟩, fun t ht => hargs _ (List.mem_of_getElem? (key t ht))⟩
 have h1 := key t ht
 have hlt := (List.getElem?_eq_some_iff.1 h1).1
 rw [Array.getElem?_append_left (by simpa using hlt)]
 simp [h1]
theorem enIN (nt : Nat) (h : Mem m0 w0 S K mem gr w) (hargs : ∀ v ∈ args, Ok (mT m0 mem gr) w v) (hf : P.funcs[f]? = some fn) (body : ∀ B, B = std → ∀ a, Fits ⟨m0, w0, S, [], K⟩ ⟨nt, startT 0 args, [], mem, gr⟩ a w → wpN f P c (bodyPostM Fence.wide 0 P fn R) a w) (hb : fn.body = some c := by rfl) (hnt : fn.ntmps = nt := by rfl) (hn : args.length ≤ nt := by exact Nat.le_of_ble_eq_true rfl) : Calls P f (args.map AV.den).toArray w R := by
 refine calls_marks hf hb ?_
 obtain ⟨h1, h2⟩ := startA hargs hn
 have := body std rfl _ (mem_act h h1 h2)
 simpa [hnt] using this
theorem man_inl {nt : Nat} {tm : List (Nat × AV)} {L rest : List Oper} {o : Oper} {cl : Call} {g : Operand} {l r args : List AV} (hL : L = o :: rest) (hg : o.guard = none) (hop : o.op = .call cl) (hcal : cl.callee = .value g) (h : Fits ⟨m0, w0, S, ds, K⟩ ⟨nt, tm, [], mem, gr⟩ a w) (hgv : val ⟨nt, tm, [], mem, gr⟩ [] g = .fn f l r) (hl : vals ⟨nt, tm, [], mem, gr⟩ [] cl.args.toList = some args) (hen : Enters P f) (hd : ∀ t, o.dst = some t → t < nt)
  (Kc : Mem m0 w0 S (K.and (okT tm)) mem gr w → SlotsA nt tm ds a → (∀ v ∈ l ++ args ++ r, Ok (mT m0 mem gr) w v) → Calls P f ((l ++ args ++ r).map AV.den).toArray w fun e w' => ∃ v, e = .returned v.den ∧ ∃ mem' gr' K', Ok (mT m0 mem' gr') w' v ∧ Mem m0 w0 S (K'.and (okT tm)) mem' gr' w' ∧
   ∀ a' , Fits ⟨m0, w0, S, ds, K'⟩ (St.put ⟨nt, tm, [], mem', gr'⟩ o.dst v) a' w' → wpList P ops Q rest a' w') : wpList P ops Q L a w := by
 refine man_op hL hg ?_
 obtain ⟨hrun, hok⟩ := call_run hop hcal h hgv hl hen
 obtain ⟨h1, h2⟩ := h.leave
 unfold Oper.wp
 rw [hrun]
 simp only [Oper.upon]
 refine (Kc h1 h2 hok).mono ?_
 rintro e w' ⟨v, rfl, mem', gr', K', hv, hm, k⟩
 have hf := mem_enter hm h2
 exact k _ (hf.put o.dst hd v (fun _ => hv) _ fun _ => rfl)
end
section
variable {m0 : Nat → Nat → Prop} {w0 w : World} {S : Nat → Prop} {ds : List Deferred} {K : Kn} {mem : List (Nat × Blk)} {gr : List (Nat × Gr)} {a : Act} {P : Program} {fn : FuncId}
def recS (rc : Loop) (st : LoopState) (pe : Option Code) : Loop := { rc with state := st, pending := pe }
def KL (K : Kn) (tm : List (Nat × AV)) (l : Nat) (rc : Loop) (D : Nat) (st : LoopState) (pe : Option Code) : Kn := (K.and (okT tm)).and (recK l (recS rc st pe) D)
theorem KL_self {K : Kn} (h : K.self) (tm : List (Nat × AV)) (l : Nat) (rc : Loop) (D : Nat) (st : LoopState) (pe : Option Code) : (KL K tm l rc D st pe).self := and_self' (and_self' h (okT_self tm)) recK_self
theorem KL_turn {K : Kn} {tm : List (Nat × AV)} {l D : Nat} {rc : Loop} {st st' : LoopState} {pe pe' : Option Code} {w w' : World} {m : Nat → Nat → Prop} (hD : D ≠ l) (hK : K.off l) (hk : KeepB (some l) w m w' m) (hl : w'.heap[l]? = some (.loop (recS rc st' pe'))) (h : (KL K tm l rc D st pe).p m w) : (KL K tm l rc D st' pe').p m w' :=
 ⟨⟨hK hk h.1.1, okT_off tm l hk h.1.2⟩, hl, hk.obj _ _ (by intro e; injection e with e; exact hD e.symm) h.2.2 (fun _ _ _ e => by cases e)⟩
theorem putObj_at {w : World} {l : Nat} {o o' : Obj} (h : w.heap[l]? = some o) : (w.putObj l o').heap[l]? = some o' := by
 have := (Array.getElem?_eq_some_iff.1 h).1
 simp [World.putObj, this]
theorem rec_turn {K E : Kn} {tm : List (Nat × AV)} {l D : Nat} {rc : Loop} {st st' : LoopState} {pe pe' : Option Code} {nt : Nat} {tm' : List (Nat × AV)} (hl0 : w0.heap.size ≤ l) (hD : D ≠ l) (hK : K.off l) (hE : E.off l) (h : Fits ⟨m0, w0, S, ds, (KL K tm l rc D st pe).and E⟩ ⟨nt, tm', [], mem, gr⟩ a w) : Fits ⟨m0, w0, S, ds, (KL K tm l rc D st' pe').and E⟩ ⟨nt, tm', [], mem, gr⟩ a (w.putObj l (.loop (recS rc st' pe'))) := by
 obtain ⟨h1, h2⟩ := h.leave
 have hk := h1.kept
 have hl : w.heap[l]? = some (.loop (recS rc st pe)) := hk.1.1.2.1
 have := mem_turn (K' := (((KL K tm l rc D st' pe').and E).and (okT tm'))) h1 hl (fun _ _ _ e => by cases e) (grownBy_putObj' w l (.loop (recS rc st' pe'))) (fun h => by omega) (fun kb => ⟨⟨KL_turn hD hK kb (putObj_at hl) hk.1.1, hE kb hk.1.2⟩, okT_off tm' l kb hk.2⟩)
 exact mem_enter this h2
def RoundQ (m0 : Nat → Nat → Prop) (w0 : World) (S : Nat → Prop) (tm : List (Nat × AV)) (l : Nat) (rc : Loop) (D : Nat) (E : Kn) (N : Kn → List (Nat × Blk) → List (Nat × Gr) → Prop) (X : Code → Kn → List (Nat × Blk) → List (Nat × Gr) → Prop) : Exit → Act → World → Prop
 | .normal, _, w => ∃ K mem gr, N K mem gr ∧ K.off l ∧ Mem m0 w0 S ((KL K tm l rc D .busy none).and E) mem gr w
 | .ret, _, w => ∃ K mem gr, X .ret K mem gr ∧ K.off l ∧ Mem m0 w0 S ((KL K tm l rc D .busy none).and E) mem gr w
 | .exit id, _, w => ∃ K mem gr, X (.exit id) K mem gr ∧ K.off l ∧ Mem m0 w0 S ((KL K tm l rc D .busy none).and E) mem gr w
 | .goto t, _, w => ∃ K mem gr, X (.goto t) K mem gr ∧ K.off l ∧ Mem m0 w0 S ((KL K tm l rc D .busy none).and E) mem gr w
 | _, _, _ => False
theorem roundI {fd : Func} {rc : Loop} (hfn : P.funcs[rc.fn]? = some fd) {l D ntc nti : Nat} {tmc tmi : List (Nat × AV)} {ac ai : Act} (hl0 : w0.heap.size ≤ l) (hD : D ≠ l) (hK : K.off l) (hst : rc.pending = none) (htm : rc.tmps = ac.tmps)
  (hi : Fits ⟨m0, w0, S, [], KL K tmc l rc D .ready none⟩ ⟨nti, tmi, [], mem, gr⟩ ai w) (hc : ∃ d, SlotsA ntc tmc d ac) {ps : List (Nat × AV)} (hps : ∀ e ∈ ps, e.1 < ntc ∧ Ok (mT m0 mem gr) w e.2) {R : Ending → World → Prop}
  (N : Kn → List (Nat × Blk) → List (Nat × Gr) → Prop) (X : Code → Kn → List (Nat × Blk) → List (Nat × Gr) → Prop)
  (hN : ∀ K' mem' gr' w', N K' mem' gr' → K'.off l → Fits ⟨m0, w0, S, [], KL K' tmc l rc D .ready none⟩ ⟨nti, tmi, [], mem', gr'⟩ ai w' → R (.returned (.bool true)) w')
  (hX : ∀ c K' mem' gr' w', X c K' mem' gr' → K'.off l → Fits ⟨m0, w0, S, [], KL K' tmc l rc D .done (some c)⟩ ⟨nti, tmi, [], mem', gr'⟩ ai w' → R (.returned (.bool false)) w')
  (hbody : ∀ a, Fits ⟨m0, w0, S, [], (KL K tmc l rc D .ready none).and (okT tmi)⟩ (St.puts ⟨ntc, tmc, [], mem, gr⟩ ps) a w → rc.assign.wpIn (rF (some l)) 0 P (Exit.then (fun a₁ w₁ => ∃ nt1 tm1 mem1 gr1, Fits ⟨m0, w0, S, [], (KL K tmc l rc D .ready none).and (okT tmi)⟩ ⟨nt1, tm1, [], mem1, gr1⟩ a₁ w₁ ∧
   ∀ w₂, Fits ⟨m0, w0, S, [], (KL K tmc l rc D .busy none).and (okT tmi)⟩ ⟨nt1, tm1, [], mem1, gr1⟩ a₁ w₂ → rc.body.wpIn (rF (some l)) 0 P (RoundQ m0 w0 S tmc l rc D (okT tmi) N X) a₁ w₂) (fun _ _ _ => False)) a w) :
  RoundIn (rF none) 0 P l rc.fn (ps.foldl (fun t e => t.setIfInBounds e.1 e.2.den) rc.tmps) rc.assign rc.body w R := by
 obtain ⟨hm, hai⟩ := hi.leave
 have hk := hm.kept
 obtain ⟨dc, hac⟩ := hc
 have hact : SlotsA ntc tmc [] { tmps := ac.tmps, defers := [] } := ⟨hac.1, rfl, hac.2.2⟩
 have hF0 : Fits ⟨m0, w0, S, [], (KL K tmc l rc D .ready none).and (okT tmi)⟩ ⟨ntc, tmc, [], mem, gr⟩ { tmps := ac.tmps, defers := [] } w := mem_act hm hact hk.1.1.2
 have hF1 := hF0.puts (l := ps) hps
 have hb := hbody _ hF1
 have key := round_of (P := P) (l := l) (r := recS rc .ready none) (fd := fd) hfn rfl (tmps := ps.foldl (fun t e => t.setIfInBounds e.1 e.2.den) rc.tmps) (R := R) (w := w) ?_
 ·exact key
 rw [htm]
 refine wpIn_mono hb ?_
 intro e a₁ w₁ he
 cases e with
 | normal =>
  obtain ⟨nt1, tm1, mem1, gr1, hf1, hb1⟩ := he
  refine ⟨hf1.kept.1.2.1, ?_⟩
  have hf2 := rec_turn (st' := .busy) (pe' := none) hl0 hD hK (okT_off tmi l) hf1
  refine wpIn_mono (hb1 _ hf2) ?_
  have fin : ∀ {K' : Kn} {mem' : List (Nat × Blk)} {gr' : List (Nat × Gr)} {w' : World} (st : LoopState) (pe : Option Code), K'.off l → Mem m0 w0 S ((KL K' tmc l rc D .busy none).and (okT tmi)) mem' gr' w' → w'.heap[l]? = some (.loop { recS rc .ready none with state := .busy }) ∧ Fits ⟨m0, w0, S, [], KL K' tmc l rc D st pe⟩ ⟨nti, tmi, [], mem', gr'⟩ ai (w'.putObj l (.loop (recS rc st pe))) := fun {K' mem' gr' w'} st pe ho hm' => by
   refine ⟨hm'.kept.1.2.1, ?_⟩
   have h3 := rec_turn (st' := st) (pe' := pe) (nt := 0) (tm' := []) hl0 hD ho (okT_off tmi l) hm'
   exact mem_enter h3 hai
  intro e a₂ w₂ he
  cases e with
  | normal =>
   obtain ⟨K', mem', gr', hn, ho, hm'⟩ := he
   obtain ⟨g1, g2⟩ := fin .ready none ho hm'
   exact ⟨g1, hN _ _ _ _ hn ho g2⟩
  | ret =>
   obtain ⟨K', mem', gr', hn, ho, hm'⟩ := he
   obtain ⟨g1, g2⟩ := fin .done (some .ret) ho hm'
   exact ⟨g1, hX _ _ _ _ _ hn ho g2⟩
  | exit id =>
   obtain ⟨K', mem', gr', hn, ho, hm'⟩ := he
   obtain ⟨g1, g2⟩ := fin .done (some (.exit id)) ho hm'
   exact ⟨g1, hX _ _ _ _ _ hn ho g2⟩
  | goto t =>
   obtain ⟨K', mem', gr', hn, ho, hm'⟩ := he
   obtain ⟨g1, g2⟩ := fin .done (some (.goto t)) ho hm'
   exact ⟨g1, hX _ _ _ _ _ hn ho g2⟩
  | panic chain => exact he.elim
  | outgrown => exact he.elim
 | _ => exact he
theorem rangeI {Q : Exit → Act → World → Prop} {g : Operand} {ps : Array Tmp} {assign body : Code} {gf nt : Nat} {tm : List (Nat × AV)} {lb : List AV} (h : Fits ⟨m0, w0, S, ds, K⟩ ⟨nt, tm, [], mem, gr⟩ a w) (hgv : val ⟨nt, tm, [], mem, gr⟩ [] g = .fn gf [] lb) (hen : Enters P gf) (hK : K.under w.heap.size)
  (hc : ∀ l D rc w1, l = D + 1 → D = w.heap.size → rc = loopRec fn a ps assign body D .ready none → w0.heap.size ≤ D → w1.heap.size = D + 2 → SlotsA nt tm ds a → Mem m0 w0 S (KL K tm l rc D .ready none) mem gr w1 → (∀ v ∈ lb, Ok (mT m0 mem gr) w1 v) →
   Calls P gf ((yV l :: lb).map AV.den).toArray w1 fun e w3 => ∃ v, e = .returned v ∧ ∃ K' mem' gr', K'.off l ∧
    ((Mem m0 w0 S (KL K' tm l rc D .ready none) mem' gr' w3 ∧ ∀ a' w', Fits ⟨m0, w0, S, markD D :: ds, K'.and (marksK [D])⟩ ⟨nt, tm, [], mem', gr'⟩ a' w' → Q .normal a' w') ∨
     ∃ c, Mem m0 w0 S (KL K' tm l rc D .done (some c)) mem' gr' w3 ∧ ∀ a' w', Fits ⟨m0, w0, S, markD D :: ds, K'.and (marksK [D])⟩ ⟨nt, tm, [], mem', gr'⟩ a' w' → c.wp P Q a' w')) :
  wpN fn P (Code.rangeFunc g ps assign body) Q a w := by
 obtain ⟨hm, ha⟩ := h.leave
 have hgd := val_ok h (q := []) (fun _ h => by cases h) (x := g) (by rw [hgv]; rfl)
 rw [hgv] at hgd
 have hg1 : a.eval g = .func (.func gf) #[] (lb.map AV.den).toArray := by
  have := hgd.1
  simpa [AV.den, denL_map, AV.denL] using this
 have hlb : ∀ v ∈ lb, Ok (mT m0 mem gr) w v := by
  cases hgd.2 with
  | fn _ _ _ k1 k2 => exact k2
 have hbl := loopW_below fn a ps assign body w
 have hsz : (loopW fn a ps assign body w).heap.size = w.heap.size + 2 := by simp [loopW]
 have hm1 : Mem m0 w0 S (KL K tm (w.heap.size + 1) (loopRec fn a ps assign body w.heap.size .ready none) w.heap.size .ready none) mem gr (loopW fn a ps assign body w) :=
  mem_K (hm.below hbl) ⟨(hm.below hbl).kept, loopW_rec fn a ps assign body w, loopW_mark fn a ps assign body w⟩
 have hlb1 : ∀ v ∈ lb, Ok (mT m0 mem gr) (loopW fn a ps assign body w) v := fun v hv => (below_keep hbl (mT m0 mem gr)).ok (hlb v hv)
 refine wpN_range (gf := gf) (lb := (lb.map AV.den).toArray) hg1 (fun args w => hen args w) ?_
 have hcall := hc _ _ _ _ rfl rfl rfl h.chg.size hsz ha hm1 hlb1
 have eargs : ((yV (w.heap.size + 1) :: lb).map AV.den).toArray = #[.func (.yield (w.heap.size + 1)) #[] #[]] ++ (lb.map AV.den).toArray := by
  simp [AV.den]
 rw [eargs] at hcall
 refine hcall.mono ?_
 rintro e w3 ⟨v, rfl, K', mem', gr', ho, hh⟩
 have ha' : SlotsA nt tm (markD w.heap.size :: ds) { a with defers := { target := .collected w.heap.size, args := #[] } :: a.defers } := ⟨ha.1, by rw [ha.2.1], ha.2.2⟩
 have fin : ∀ {st : LoopState} {pe : Option Code}, st ≠ .busy → Mem m0 w0 S (KL K' tm (w.heap.size + 1) (loopRec fn a ps assign body w.heap.size .ready none) w.heap.size st pe) mem' gr' w3 →
   ∃ w4, (Instr.endLoop (w.heap.size + 1)).run P w3 = .ok pe w4 ∧ Fits ⟨m0, w0, S, markD w.heap.size :: ds, K'.and (marksK [w.heap.size])⟩ ⟨nt, tm, [], mem', gr'⟩ { a with defers := { target := .collected w.heap.size, args := #[] } :: a.defers } w4 := fun {st pe} hst h3 => by
  have hk := h3.kept
  have hl := hk.2.1
  refine ⟨_, run_endLoop hl hst, ?_⟩
  have h4 := mem_turn (K' := (K'.and (marksK [w.heap.size])).and (okT tm)) h3 hl (fun _ _ _ e => by cases e) (grownBy_putObj' w3 _ (.loop { recS (loopRec fn a ps assign body w.heap.size .ready none) st pe with state := .exhausted })) (fun hh => absurd h.chg.size (by simp only at hh ⊢; omega))
   (fun kb => ⟨⟨ho kb hk.1.1, ⟨fun D hD => by
    simp only [List.mem_singleton] at hD
    subst hD
    exact kb.obj _ _ (by intro e; injection e with e; omega) hk.2.2 (fun _ _ _ e => by cases e), by simp⟩⟩, okT_off tm _ kb hk.1.2⟩)
  exact mem_enter h4 ha'
 rcases hh with ⟨h3, hq⟩ | ⟨c, h3, hq⟩
 ·obtain ⟨w4, e4, h4⟩ := fin (by simp) h3
  exact ⟨none, w4, e4, hq _ _ h4⟩
 obtain ⟨w4, e4, h4⟩ := fin (by simp) h3
 exact ⟨some c, w4, e4, hq _ _ h4⟩
end
section
variable {m0 : Nat → Nat → Prop} {w0 w : World} {S : Nat → Prop} {K : Kn} {mem : List (Nat × Blk)} {gr : List (Nat × Gr)} {a : Act} {P : Program} {fn : Func} {R : Ending → World → Prop} {B : Alg} {T : List (Nat × TI)} {rs : List ResultVar} {r : List AV × List Ob} {nt : Nat} {tm : List (Nat × AV)}
theorem marks_leave {tmps : Array Value} : ∀ (Ds : List Nat) (w : World), Mem m0 w0 S (K.and (marksK Ds)) mem gr w → (∀ D ∈ Ds, K.off D ∧ w0.heap.size ≤ D) → (∀ w', Mem m0 w0 S K mem gr w' → ∃ v, (results fn tmps).run P w' = .ok v w' ∧ R (.returned v) w') → LeavesInM Fence.wide 0 P fn tmps R (Ds.map markD) .returning w
 | [], w, h, _, hR => hR w (mem_K h h.kept.1)
 | D :: Ds, w, h, ho, hR => by
  have hk := h.kept.2
  have hD : w.heap[D]? = some (.deferred (some [])) := hk.1 D (by simp)
  have hnd := List.nodup_cons.1 hk.2
  refine ⟨by simp, .inl ⟨D, _, rfl, run_takeDeferred hD, marks_leave Ds _ ?_ (fun E hE => ho E (by simp [hE])) hR⟩⟩
  refine mem_turn h hD (fun _ _ _ e => by cases e) (grownBy_putObj' w D _) (fun hh => absurd (ho D (by simp)).2 (by omega)) fun kb => ⟨(ho D (by simp)).1 kb h.kept.1, fun E hE => ?_, hnd.2⟩
  exact kb.obj _ _ (by intro e; injection e with e; subst e; exact hnd.1 hE) (hk.1 E (by simp [hE])) (fun _ _ _ e => by cases e)
theorem retIM (hB : B = std) (hT : TabOK P T) (Ds : List Nat) (h : Fits ⟨m0, w0, S, Ds.map markD, K.and (marksK Ds)⟩ ⟨nt, tm, [], mem, gr⟩ a w) (hof : ∀ D ∈ Ds, K.off D ∧ w0.heap.size ≤ D) (hR : ∀ w', Mem m0 w0 S K mem gr w' → Ok (mT m0 mem gr) w' (resA r.1) → R (.returned (resA r.1).den) w') (hfn : fn.results = rs.toArray := by rfl) (hr : resL T ⟨nt, tm, [], mem, gr⟩ rs = some r := by first | rfl | (conv => lhs; cbv)) (ho : AO P (K.and (okT tm)) r.2 := by first | exact trivial | (subst hB; simp [AO, Ob.holds])) : bodyPostM Fence.wide 0 P fn R .ret a w ∧ bodyPostM Fence.wide 0 P fn R .normal a w := by
 obtain ⟨h1, h2⟩ := h.leave
 have key : LeavesInM Fence.wide 0 P fn a.tmps R a.defers .returning w := by
  rw [h2.2.1]
  refine marks_leave (K := K.and (okT tm)) Ds w (mem_K h1 ⟨⟨h1.kept.1.1, h1.kept.2⟩, h1.kept.1.2⟩) (fun D hD => ⟨and_off (hof D hD).1 (okT_off tm D), (hof D hD).2⟩) fun w' hm => ?_
  have hf := mem_act (ds := Ds.map markD) hm h2 hm.kept.2
  obtain ⟨g1, g2⟩ := results_ok hT hf hfn hr ho
  exact ⟨_, g1, hR w' (mem_K hm hm.kept.1) g2⟩
 exact ⟨key, key⟩
theorem retI0 (hB : B = std) (hT : TabOK P T) (h : Fits ⟨m0, w0, S, [], K⟩ ⟨nt, tm, [], mem, gr⟩ a w) (hR : ∀ w', Mem m0 w0 S K mem gr w' → Ok (mT m0 mem gr) w' (resA r.1) → R (.returned (resA r.1).den) w') (hfn : fn.results = rs.toArray := by rfl) (hr : resL T ⟨nt, tm, [], mem, gr⟩ rs = some r := by first | rfl | (conv => lhs; cbv)) (ho : AO P (K.and (okT tm)) r.2 := by first | exact trivial | (subst hB; simp [AO, Ob.holds])) : bodyPostM Fence.wide 0 P fn R .ret a w ∧ bodyPostM Fence.wide 0 P fn R .normal a w :=
 retIM hB hT [] (h.withK (K' := K.and (marksK [])) ⟨h.kept, (⟨fun D hD => (by cases hD), List.nodup_nil⟩ : (∀ D ∈ ([] : List Nat), w.heap[D]? = some (.deferred (some []))) ∧ ([] : List Nat).Nodup)⟩) (fun D hD => by cases hD) hR hfn hr ho
end
section
variable {m0 : Nat → Nat → Prop} {w0 wi w : World} {S : Nat → Prop} {ds : List Deferred} {K : Kn} {nt : Nat} {tm tm' : List (Nat × AV)} {gs : List (Nat × List (Nat × Bool) × AV)} {mem memi : List (Nat × Blk)} {gr gri : List (Nat × Gr)} {a : Act} {P : Program}
def FzV (b : Nat) (cells : List AV) (v v' : AV) : Prop := v'.den = v.den ∧ (v'.known = true → v.known = true) ∧ (v'.one = v.one) ∧ ∀ m w, Ok m w (.ep (some ⟨b, 0, none⟩) 0 0 0 cells) → Ok m w v → Ok m w v'
theorem fz_id {b : Nat} {cells : List AV} {v : AV} : FzV b cells v v := ⟨rfl, id, rfl, fun _ _ _ h => h⟩
theorem ep_off {m : Nat → Nat → Prop} {w : World} {A : Option Addr} {i k off off' : Nat} {cells : List AV} (h : Ok m w (.ep A i k off cells)) : Ok m w (.ep A i k off' cells) := by
 cases h with | ep _ _ _ _ _ h1 h2 h3 h4 => exact .ep _ _ _ _ _ h1 h2 h3 h4
theorem fz_ptr {b key off : Nat} {cells : List AV} : FzV b cells (.ptr key b off) (.ep (some ⟨b, 0, none⟩) 0 0 off cells) :=
 ⟨by simp [AV.den], fun _ => rfl, rfl, fun _ _ h _ => ep_off h⟩
theorem fz_key {b b' key key' off : Nat} {cells : List AV} : FzV b cells (.ptr key b' off) (.ptr key' b' off) := ⟨rfl, id, rfl, fun _ _ _ _ => .ptr _ _ _⟩
def FzVs (b : Nat) (cells : List AV) : List AV → List AV → Prop
 | [], [] => True
 | v :: l, v' :: l' => FzV b cells v v' ∧ FzVs b cells l l'
 | _, _ => False
theorem fzVs_den {b : Nat} {cells : List AV} : ∀ {l l' : List AV}, FzVs b cells l l' → l'.map AV.den = l.map AV.den ∧ ∀ m w, Ok m w (.ep (some ⟨b, 0, none⟩) 0 0 0 cells) → (∀ v ∈ l, Ok m w v) → ∀ v ∈ l', Ok m w v
 | [], [], _ => ⟨rfl, fun _ _ _ h => h⟩
 | v :: l, v' :: l', ⟨h1, h2⟩ => by
  obtain ⟨g1, g2⟩ := fzVs_den h2
  refine ⟨by simp [h1.1, g1], fun m w he h u hu => ?_⟩
  rcases List.mem_cons.1 hu with rfl | hu
  ·exact h1.2.2.2 m w he (h v (by simp))
  exact g2 m w he (fun x hx => h x (by simp [hx])) u hu
theorem fz_fn {b f : Nat} {cells l l' r r' : List AV} (hl : FzVs b cells l l') (hr : FzVs b cells r r') : FzV b cells (.fn f l r) (.fn f l' r') := by
 refine ⟨by simp [AV.den, denL_map, (fzVs_den hl).1, (fzVs_den hr).1], fun _ => rfl, rfl, fun m w he h => ?_⟩
 cases h with
 | fn _ _ _ h1 h2 => exact .fn _ _ _ ((fzVs_den hl).2 m w he h1) ((fzVs_den hr).2 m w he h2)
def FzT (b : Nat) (cells : List AV) : List (Nat × AV) → List (Nat × AV) → Prop
 | [], [] => True
 | e :: l, e' :: l' => e.1 = e'.1 ∧ FzV b cells e.2 e'.2 ∧ FzT b cells l l'
 | _, _ => False
theorem fzT_look {b : Nat} {cells : List AV} : ∀ {l l' : List (Nat × AV)}, FzT b cells l l' → ∀ t, FzV b cells (look l t) (look l' t)
 | [], [], _, t => fz_id
 | (k, v) :: l, (k', v') :: l', ⟨h1, h2, h3⟩, t => by
  simp only at h1 h2
  subst h1
  simp only [look_cons]
  by_cases h : k = t
  ·rw [if_pos h, if_pos h]; exact h2
  rw [if_neg h, if_neg h]; exact fzT_look h3 t
theorem Fits.fz {key b ty : Nat} {cells : List AV} (h : Fits ⟨m0, w0, S, ds, K⟩ ⟨nt, tm, [], (key, ⟨b, ty, cells⟩) :: mem, gr⟩ a w) (hf : FzT b cells tm tm') (hn : lookM mem key = none := by rfl) (hS : S b → w0.heap.size ≤ b := by first | exact fun h => h.elim | (rintro ⟨_, h, _⟩; cases h)) : Fits ⟨m0, w0, S, ds, K⟩ ⟨nt, tm', [], mem, gr⟩ a w := by
 have hk : lookM ((key, (⟨b, ty, cells⟩ : Blk)) :: mem) key = some ⟨b, ty, cells⟩ := by simp [lookM]
 have hup : ∀ {k e}, lookM mem k = some e → lookM ((key, (⟨b, ty, cells⟩ : Blk)) :: mem) k = some e ∧ k ≠ key := fun {k e} he => by
  have hne : k ≠ key := fun e' => by rw [e', hn] at he; cases he
  exact ⟨by rw [lookM_cons, if_neg (fun e => hne e.symm)]; exact he, hne⟩
 obtain ⟨h1, h2, h3⟩ := h.mem _ _ hk
 have hb0 : w0.heap.size ≤ b := h3.elim id hS
 have hnm : ∀ o, ¬ St.m ⟨nt, tm', [], mem, gr⟩ ⟨m0, w0, S, ds, K⟩ b o := by
  intro o hm
  rcases hm with hm | ⟨k, e, he, hat⟩ | ⟨k, t, ht, hv, _⟩
  ·exact Nat.lt_irrefl _ (Nat.lt_of_lt_of_le (h.m0 _ _ hm) hb0)
  ·exact h.nodup _ _ _ _ (hup he).1 hk (hup he).2 hat
  exact h.sepm _ _ _ _ ht hk hv
 have hle : ∀ b o, St.m ⟨nt, tm', [], mem, gr⟩ ⟨m0, w0, S, ds, K⟩ b o → St.m ⟨nt, tm, [], (key, ⟨b, ty, cells⟩) :: mem, gr⟩ ⟨m0, w0, S, ds, K⟩ b o := by
  intro b o hm
  rcases hm with hm | ⟨k, e, he, hat⟩ | hm
  ·exact .inl hm
  ·rcases Classical.em (k = key) with rfl | hne
   ·rw [hn] at he; cases he
   exact .inr (.inl ⟨k, e, by rw [lookM_cons, if_neg (fun e => hne e.symm)]; exact he, hat⟩)
  exact .inr (.inr hm)
 have hle' : ∀ b' o, St.m ⟨nt, tm', [], mem, gr⟩ ⟨m0, w0, S, ds, K⟩ b' o → St.m ⟨nt, tm, [], (key, ⟨b, ty, cells⟩) :: mem, gr⟩ ⟨m0, w0, S, ds, K⟩ b' o := by
  intro b' o hm
  rcases hm with hm | ⟨k, e, he, hat⟩ | hm
  ·exact .inl hm
  ·exact .inr (.inl ⟨k, e, (hup he).1, hat⟩)
  exact .inr (.inr hm)
 have kp : Keep w (St.m ⟨nt, tm, [], (key, ⟨b, ty, cells⟩) :: mem, gr⟩ ⟨m0, w0, S, ds, K⟩) w (St.m ⟨nt, tm', [], mem, gr⟩ ⟨m0, w0, S, ds, K⟩) := ⟨fun b' o u g1 g2 => ⟨g1, fun hm => g2 (hle' b' o hm)⟩, fun _ _ h _ => h⟩
 have hep : Ok (St.m ⟨nt, tm', [], mem, gr⟩ ⟨m0, w0, S, ds, K⟩) w (.ep (some ⟨b, 0, none⟩) 0 0 0 cells) := by
  refine .ep _ _ _ _ _ ⟨_, _, rfl⟩ (fun j u hj => ⟨b, 0, rfl, ?_, hnm _⟩) (fun v hv => (h2 v hv).1) (fun v hv => kp.ok (h2 v hv).2)
  rw [cell_of_row w _ _ _ _ _ h1, List.getElem?_toArray, Nat.zero_mul, Nat.zero_add, Nat.zero_add]
  exact hj
 refine ⟨h.size, h.defers, fun t ht => ?_, (fun t p v he => by cases he), fun k e he => ⟨(h.mem _ _ (hup he).1).1, fun v hv => ⟨((h.mem _ _ (hup he).1).2.1 v hv).1, kp.ok ((h.mem _ _ (hup he).1).2.1 v hv).2⟩, (h.mem _ _ (hup he).1).2.2⟩, fun k k' e e' he he' hne => h.nodup _ _ _ _ (hup he).1 (hup he').1 hne, h.gr, fun k t k' e ht he => h.sepm _ _ _ _ ht (hup he).1, h.sepg, h.chg, h.m0, K.st kp h.kept⟩
 have hz := fzT_look hf t
 obtain ⟨g1, g2⟩ := h.slot t (hz.2.1 ht)
 exact ⟨by rw [g1]; exact congrArg some hz.1.symm, hz.2.2.2 _ _ hep (kp.ok g2)⟩
theorem Fits.rekey {key key' b ty : Nat} {cells : List AV} (h : Fits ⟨m0, w0, S, ds, K⟩ ⟨nt, tm, [], (key, ⟨b, ty, cells⟩) :: mem, gr⟩ a w) (hf : FzT b [] tm tm') (hn : lookM mem key = none := by rfl) (hn' : lookM mem key' = none := by rfl) : Fits ⟨m0, w0, S, ds, K⟩ ⟨nt, tm', [], (key', ⟨b, ty, cells⟩) :: mem, gr⟩ a w := by
 have hup : ∀ {k e}, lookM ((key', (⟨b, ty, cells⟩ : Blk)) :: mem) k = some e → ∃ k0, lookM ((key, (⟨b, ty, cells⟩ : Blk)) :: mem) k0 = some e ∧ ((k = key' ∧ k0 = key) ∨ (k0 = k ∧ k ≠ key' ∧ k ≠ key)) := fun {k e} he => by
  rw [lookM_cons] at he
  split at he
  ·rename_i hk; injection he with he; subst he
   exact ⟨key, by simp [lookM], .inl ⟨hk.symm, rfl⟩⟩
  rename_i hk
  have hne : k ≠ key := fun e' => by rw [e', hn] at he; cases he
  exact ⟨k, by rw [lookM_cons, if_neg (fun e => hne e.symm)]; exact he, .inr ⟨rfl, fun e => hk e.symm, hne⟩⟩
 have hdn : ∀ {k e}, lookM ((key, (⟨b, ty, cells⟩ : Blk)) :: mem) k = some e → ∃ k0, lookM ((key', (⟨b, ty, cells⟩ : Blk)) :: mem) k0 = some e := fun {k e} he => by
  rw [lookM_cons] at he
  split at he
  ·injection he with he; subst he
   exact ⟨key', by simp [lookM]⟩
  have hne : k ≠ key' := fun e' => by rw [e', hn'] at he; cases he
  exact ⟨k, by rw [lookM_cons, if_neg (fun e => hne e.symm)]; exact he⟩
 have em : St.m ⟨nt, tm', [], (key', ⟨b, ty, cells⟩) :: mem, gr⟩ ⟨m0, w0, S, ds, K⟩ = St.m ⟨nt, tm, [], (key, ⟨b, ty, cells⟩) :: mem, gr⟩ ⟨m0, w0, S, ds, K⟩ := by
  funext b' o
  apply propext
  constructor
  ·rintro (hm | ⟨k, e, he, hat⟩ | hm)
   ·exact .inl hm
   ·obtain ⟨k0, h1, _⟩ := hup he; exact .inr (.inl ⟨k0, e, h1, hat⟩)
   exact .inr (.inr hm)
  rintro (hm | ⟨k, e, he, hat⟩ | hm)
  ·exact .inl hm
  ·obtain ⟨k0, h1⟩ := hdn he; exact .inr (.inl ⟨k0, e, h1, hat⟩)
  exact .inr (.inr hm)
 have hnil : ∀ m w, Ok m w (.ep (some ⟨b, 0, none⟩) 0 0 0 ([] : List AV)) := fun m w => .ep _ _ _ _ _ ⟨_, _, rfl⟩ (fun j u hj => by simp at hj) (fun v hv => by cases hv) (fun v hv => by cases hv)
 refine ⟨h.size, h.defers, fun t ht => ?_, (fun t p v he => by cases he), fun k e he => ?_, fun k k' e e' he he' hne => ?_, h.gr, fun k t k' e ht he => ?_, h.sepg, h.chg, h.m0, ?_⟩
 ·have hz := fzT_look hf t
  obtain ⟨g1, g2⟩ := h.slot t (hz.2.1 ht)
  exact ⟨by rw [g1]; exact congrArg some hz.1.symm, by rw [em]; exact hz.2.2.2 _ _ (hnil _ _) g2⟩
 ·obtain ⟨k0, h1, _⟩ := hup he
  rw [em]; exact h.mem _ _ h1
 ·obtain ⟨k0, h1, g1⟩ := hup he
  obtain ⟨k1, h2, g2⟩ := hup he'
  refine h.nodup _ _ _ _ h1 h2 ?_
  rcases g1 with ⟨rfl, rfl⟩ | ⟨rfl, a1, a2⟩ <;> rcases g2 with ⟨rfl, rfl⟩ | ⟨rfl, b1, b2⟩
  ·exact absurd rfl hne
  ·exact fun e => b2 e.symm
  ·exact a2
  exact hne
 ·obtain ⟨k0, h1, _⟩ := hup he
  exact h.sepm _ _ _ _ ht h1
 rw [em]; exact h.kept
theorem Fits.rem {mem' : List (Nat × Blk)} (h : Fits ⟨m0, w0, S, ds, K⟩ ⟨nt, tm, [], mem, gr⟩ a w) (hl : ∀ k e, lookM mem' k = some e → lookM mem k = some e) : Fits ⟨m0, w0, S, ds, K⟩ ⟨nt, tm, [], mem', gr⟩ a w := by
 have kp : Keep w (St.m ⟨nt, tm, [], mem, gr⟩ ⟨m0, w0, S, ds, K⟩) w (St.m ⟨nt, tm, [], mem', gr⟩ ⟨m0, w0, S, ds, K⟩) := ⟨fun b' o u g1 g2 => ⟨g1, fun hm => by
  rcases hm with hm | ⟨k, e, he, hat⟩ | hm
  ·exact g2 (.inl hm)
  ·exact g2 (.inr (.inl ⟨k, e, hl k e he, hat⟩))
  exact g2 (.inr (.inr hm))⟩, fun _ _ h _ => h⟩
 exact ⟨h.size, h.defers, fun t ht => ⟨(h.slot t ht).1, kp.ok (h.slot t ht).2⟩, (fun t p v he => by cases he), fun k e he => ⟨(h.mem _ _ (hl k e he)).1, fun v hv => ⟨((h.mem _ _ (hl k e he)).2.1 v hv).1, kp.ok ((h.mem _ _ (hl k e he)).2.1 v hv).2⟩, (h.mem _ _ (hl k e he)).2.2⟩, fun k k' e e' he he' hne => h.nodup _ _ _ _ (hl _ _ he) (hl _ _ he') hne, h.gr, fun k t k' e ht he => h.sepm _ _ _ _ ht (hl _ _ he), h.sepg, h.chg, h.m0, K.st kp h.kept⟩
theorem seg_of (h : Fits ⟨m0, w0, S, ds, K⟩ ⟨nt, tm, [], mem, gr⟩ a w) : Fits ⟨mT m0 mem gr, w, ats [], ds, noK⟩ ⟨nt, tm, [], [], []⟩ a w := by
 have mono : ∀ v, Ok (mT m0 mem gr) w v → Ok (St.m ⟨nt, tm, [], [], []⟩ ⟨mT m0 mem gr, w, ats [], ds, noK⟩) w v := fun v hv => hv.mono fun b' o u h1 h2 => ⟨h1, fun h => by
  rcases h with h | ⟨k, e, he, hat⟩ | ⟨k, e, he, _⟩
  ·exact h2 h
  ·cases he
  cases he⟩
 exact ⟨h.size, h.defers, fun t ht => ⟨(h.slot t ht).1, mono _ (h.slot t ht).2⟩, (fun t p v he => by cases he), (fun k e he => by cases he), (fun k k' e e' he => by cases he), (fun k t ht => by cases ht), (fun k t k' e ht => by cases ht), (fun k t k' t' b ht => by cases ht), Chg.refl _ _, fun b o hb => m_lt h b o hb, trivial⟩
theorem seg_end (h : Mem m0 w0 S K mem gr wi) (hi : Fits ⟨mT m0 mem gr, wi, ats [], ds, noK⟩ ⟨nt, tm, gs, memi, gri⟩ a w) : Fits ⟨m0, w0, S, ds, K⟩ ⟨nt, tm, [], mem, gr⟩ a w := by
 have hb : Below wi.heap.size wi w := hi.chg.below (Nat.le_refl _) fun k ⟨e, he, _⟩ => (by cases he)
 exact mem_act (h.below hb) ⟨hi.size, hi.defers, fun t ht => (hi.slot t ht).1⟩ fun t ht => (hi.slot t ht).2.mono fun b o u h1 h2 => ⟨h1, fun hm => h2 (.inl hm)⟩
end
theorem kids_s (q : Lab) : Spec Try.prog 23 [labAV q] (fun y => .fn 36 [] [.ep (some ⟨y.b, 0, none⟩) 0 0 0 [.int .i64 q.len, .int .u64 q.bits]]) := by
 intro m w hm hargs
 simp only [labAV] at hargs ⊢
 refine en 4 hm hargs Try.func23 fun B hB a0 hF => ?_
 refine wp_seq (rg hB TA_ok [1] [1] [] hF fun X0 a0 w1 hF => ?_)
 refine wp_seq (rg hB TA_ok [2] [1] [] hF fun X1 a0 w1 hF => ?_)
 have hF := hF.fz (tm' := [(2, .fn 36 [] [.ep (some ⟨(X0 0).b, 0, none⟩) 0 0 0 [.int .i64 q.len, .int .u64 q.bits]])]) ⟨rfl, fz_fn trivial ⟨fz_ptr, trivial⟩, trivial⟩
 exact wp_ret (rsp hB TA_ok hF ⟨(X0 0).b, fun _ => none, fun _ => 0, fun _ => .empty⟩).1
theorem enters36 : Enters Try.prog 36 := fun _ _ => by kernel_rfl
theorem cast_round {F : Fence} {P : Program} {l : Nat} {f : FuncId} {T T' : Array Value} {c c' : Code} {w : World} {R : Ending → World → Prop} (h : T = T') (h2 : RoundIn F 0 P l f T' c c' w R) : RoundIn F 0 P l f T c c' w R := h ▸ h2
theorem ret_nil {P : Program} {C : Cx} {s : St} {a : Act} {w : World} {fn : Func} {R : Ending → World → Prop} (h : Fits C s a w) (hds : C.ds = []) (hR : R (.returned (.tuple #[])) w) (hfn : fn.results = #[] := by rfl) : bodyPost P fn R .ret a w ∧ bodyPost P fn R .normal a w := by
 have e : (results fn a.tmps).run P w = .ok (.tuple #[]) w := by simp [results, hfn]
 exact ⟨⟨h.defers.trans hds, _, e, hR⟩, ⟨h.defers.trans hds, _, e, hR⟩⟩
def EndsI (m0 : Nat → Nat → Prop) (w0 : World) (S : Nat → Prop) (tmc : List (Nat × AV)) (l : Nat) (rc : Loop) (D : Nat) (N : Kn → List (Nat × Blk) → List (Nat × Gr) → Prop) (X : Code → Kn → List (Nat × Blk) → List (Nat × Gr) → Prop) (e : Ending) (w3 : World) : Prop :=
 ∃ v, e = .returned v ∧ ∃ K' mem' gr', K'.off l ∧ ((Mem m0 w0 S (KL K' tmc l rc D .ready none) mem' gr' w3 ∧ N K' mem' gr') ∨ ∃ c, X c K' mem' gr' ∧ Mem m0 w0 S (KL K' tmc l rc D .done (some c)) mem' gr' w3)
theorem kids_c {m0 : Nat → Nat → Prop} {w0 : World} {S : Nat → Prop} {l D ntc p : Nat} {tmc : List (Nat × AV)} {ac : Act} {rc : Loop} {fd : Func} (hfn : Try.prog.funcs[rc.fn]? = some fd) (hl0 : w0.heap.size ≤ l) (hD : D ≠ l) (hst : rc.pending = none) (htm : rc.tmps = ac.tmps) (hps : rc.params = #[p]) (hpn : p < ntc) (hac : ∃ d, SlotsA ntc tmc d ac)
  (q : Lab) (hb0 : U64 q.bits) (J : Nat → Kn → List (Nat × Blk) → List (Nat × Gr) → Prop) (X : Code → Kn → List (Nat × Blk) → List (Nat × Gr) → Prop)
  (hbody : ∀ i : Nat, i < 2 → chE q 0 = 0 → ∀ (E : Kn), E.self → (∀ n, E.off n) → ∀ K mem gr a w, J i K mem gr → K.off l → Fits ⟨m0, w0, S, [], (KL K tmc l rc D .ready none).and E⟩ ⟨ntc, (p, labAV (chV q i)) :: tmc, [], mem, gr⟩ a w → rc.assign.wpIn (rF (some l)) 0 Try.prog (Exit.then (fun a₁ w₁ => ∃ nt1 tm1 mem1 gr1, Fits ⟨m0, w0, S, [], (KL K tmc l rc D .ready none).and E⟩ ⟨nt1, tm1, [], mem1, gr1⟩ a₁ w₁ ∧
   ∀ w₂, Fits ⟨m0, w0, S, [], (KL K tmc l rc D .busy none).and E⟩ ⟨nt1, tm1, [], mem1, gr1⟩ a₁ w₂ → rc.body.wpIn (rF (some l)) 0 Try.prog (RoundQ m0 w0 S tmc l rc D E (J (i + 1)) X) a₁ w₂) (fun _ _ _ => False)) a w)
  {K : Kn} {mem : List (Nat × Blk)} {gr : List (Nat × Gr)} {w : World} {A : Option Addr} (hJ : J 0 K mem gr) (hK : K.off l) (hm : Mem m0 w0 S (KL K tmc l rc D .ready none) mem gr w) (hA : Ok (mT m0 mem gr) w (.ep A 0 0 0 [.int .i64 q.len, .int .u64 q.bits])) :
  Calls Try.prog 36 ([yV l, .ep A 0 0 0 [.int .i64 q.len, .int .u64 q.bits]].map AV.den).toArray w (EndsI m0 w0 S tmc l rc D (J (if chE q 0 = 0 then 2 else 0)) X) := by
 have hargs : ∀ v ∈ [yV l, .ep A 0 0 0 [.int .i64 q.len, .int .u64 q.bits]], Ok (mT m0 mem gr) w v := by
  intro v hv
  simp only [List.mem_cons, List.not_mem_nil, or_false] at hv
  rcases hv with rfl | rfl
  ·exact .raw _
  exact hA
 refine enY 24 (pre := []) (fun b o hb => m_lt hm b o hb) ⟨fun e he => (by cases he), fun e he => (by cases he), fun e he => (by cases he), .nil⟩ hargs Try.func36 fun B hB a0 hF => ?_
 refine wpIn_seq (rrg hB TA_ok [6, 0, 1] [] [] hF fun X0 a0 w1 hF => ?_)
 refine wpIn_block (rloop_any (ι := Nat) (fun i a w => ∃ K mem gr wi, J i K mem gr ∧ K.off l ∧ Mem m0 w0 S (KL K tmc l rc D .ready none) mem gr wi ∧ Fits ⟨mT m0 mem gr, wi, ats [], [], noK⟩ ⟨24, [(6, .int .i64 (i : Int)), (0, yV l), (1, .ep A 0 0 0 [.int .i64 q.len, .int .u64 q.bits])], [], [], []⟩ a w) (fun i => i ≤ 2 ∧ (i = 0 ∨ chE q 0 = 0)) (fun i => 2 - i) 0 ⟨by omega, .inl rfl⟩ ⟨K, mem, gr, w, hJ, hK, hm, hF⟩ ?_)
 rintro i ⟨hi2, hi0⟩ a w ⟨K, mem, gr, wi, hJ, hK, hm, hF⟩
 refine wpIn_seq (rrg hB TA_ok [7, 6, 0, 1] [] [] hF fun X1 a0 w1 hF => ?_)
 refine wpIn_seq (rtest_ok hF rfl (fun hb hF => ?_) (fun hb hF => ?_))
 ·have hin : i < 2 := by
   have : (i : Int) < (2 : Int) := by subst hB; simpa [std, sC] using hb
   omega
  refine wpIn_skip (wpIn_seq (wpIn_block (wpIn_seq (rrg hB TA_ok [3, 6, 0, 1] [] [] hF fun X2 a0 w1 hF => ?_))))
  have SC := child_s q hb0 i (by omega)
  have hCE : chE q i = chE q 0 := rfl
  rw [hCE] at SC
  obtain ⟨e, he⟩ := eqv (chE q 0)
  obtain ⟨c, hc⟩ := eqv (chV q i)
  simp only [labAV, ← hc, ← he] at SC
  have O1 := SC
  refine wpIn_seq (rrg hB TA_ok [5, 4, 6, 0, 1] [4] [(2, .r fun _ => .tup [.agg [.int .i64 c.len, .int .u64 c.bits], .int .i64 e])] hF fun X3 a0 w1 hF => ?_)
  have hF := hF.fz (tm' := [(5, .int .i64 e), (4, .ep (some ⟨(X3 6).b, 0, none⟩) 0 0 0 [.int .i64 c.len, .int .u64 c.bits]), (6, .int .i64 (i : Int)), (0, yV l), (1, .ep A 0 0 0 [.int .i64 q.len, .int .u64 q.bits])]) ⟨rfl, fz_id, rfl, fz_ptr, rfl, fz_id, rfl, fz_id, rfl, fz_id, trivial⟩
  refine wpIn_seq (wpIn_region_lit ?_)
  refine rlpr 0 3 hB TA_ok [17, 4, 6, 0, 1] [] [] hF (fun X4 a0 w1 hF => ?_)
  by_cases he0 : e = 0
  ·have hF := hF.headS (v' := .bool .ff) (by subst hB; subst he0; exact Sim.bool rfl) rfl
   refine rlpr 3 2 hB TA_ok [19, 18, 17, 6, 0, 1] [] [] hF (fun X5 a0 w1 hF => ?_)
   have hfit := seg_end hm hF
   refine man_yieldW rfl (wanted_of rfl rfl hfit rfl) rfl rfl hfit rfl rfl (rc := recS rc .ready none) hfit.kept.2.1 (by simp [recS, hps]) (fun _ => ?_)
   refine cast_round (T' := ([(p, labAV c)] : List (Nat × AV)).foldl (fun t e => t.setIfInBounds e.1 e.2.den) rc.tmps) (by simp [recS, hps, labAV]; rfl) ?_
   refine roundI (P := Try.prog) hfn hl0 hD hK hst htm hfit hac (by
     intro x hx
     simp only [List.mem_singleton] at hx
     subst hx
     exact ⟨hpn, .agg _ (by intro v hv; simp only [List.mem_cons, List.not_mem_nil, or_false] at hv; rcases hv with rfl | rfl <;> rfl) (by intro v hv; simp only [List.mem_cons, List.not_mem_nil, or_false] at hv; rcases hv with rfl | rfl <;> exact .int _ _)⟩) (J (i + 1)) X ?_ ?_ ?_
   ·intro K' mem' gr' w' hj' ho' hf'
    have hF := seg_of (hf'.put (some 20) (fun t ht => by injection ht with ht; subst ht; exact Nat.le_of_ble_eq_true rfl) (.bool .tt) (fun _ => .bool _) (.bool true) fun _ => rfl)
    refine rlnd 6 hB TA_ok [22, 6, 0, 1] [] [] hF (fun X6 a0 w1 hF => ?_)
    refine rtest_ff hF rfl (fun hF => ?_)
    refine wpIn_skip (rrg hB TA_ok [6, 0, 1] [] [] hF fun X7 a0 w1 hF => ?_)
    have e : B.arith .add .i64 (i : Int) 1 = ((i + 1 : Nat) : Int) := by subst hB; exact wrap_succ (n := 2) hin (by simp only [maxLen]; omega)
    exact ⟨i + 1, ⟨by omega, .inr (he.symm.trans he0)⟩, by omega, K', mem', gr', w', hj', ho', hf'.bare, by rw [← e]; exact hF⟩
   ·intro cc K' mem' gr' w' hx' ho' hf'
    have hF := seg_of (hf'.put (some 20) (fun t ht => by injection ht with ht; subst ht; exact Nat.le_of_ble_eq_true rfl) (.bool .ff) (fun _ => .bool _) (.bool false) fun _ => rfl)
    refine rlnd 6 hB TA_ok [22, 6, 0, 1] [] [] hF (fun X6 a0 w1 hF => ?_)
    refine rtest_tt hF rfl (fun hF => ?_)
    exact wpIn_ret (ret_nil (P := Try.prog) (R := EndsI m0 w0 S tmc l rc D (J (if chE q 0 = 0 then 2 else 0)) X) hF rfl (⟨_, rfl, K', mem', gr', ho', .inr ⟨cc, hx', (seg_end hf'.bare hF).bare⟩⟩)).1
   intro a hFa
   have := hbody i hin (he.symm.trans he0) (okT _) (okT_self _) (okT_off _) K mem gr a _ hJ hK (by rw [← hc]; exact hFa)
   exact this
  have hF := hF.headS (v' := .bool .tt) (by subst hB; exact Sim.bool (by simp [std, sC, he0, BE.den])) rfl
  refine rlnd 3 hB TA_ok [22, 6, 0, 1] [] [] hF (fun X5 a0 w1 hF => ?_)
  refine rtest_tt hF rfl (fun hF => ?_)
  have hne : ¬ chE q 0 = 0 := fun h => he0 (he.trans h)
  have hi : i = 0 := hi0.resolve_right hne
  exact wpIn_ret (ret_nil (P := Try.prog) (R := EndsI m0 w0 S tmc l rc D (J (if chE q 0 = 0 then 2 else 0)) X) hF rfl (⟨_, rfl, K, mem, gr, hK, .inl ⟨(seg_end hm hF).bare, by rw [if_neg hne, ← hi]; exact hJ⟩⟩)).1
 have hi : i = 2 := by
  have : ¬ (i : Int) < (2 : Int) := by subst hB; simpa [std, sC] using hb
  omega
 refine wpIn_exit ?_
 have h0 : chE q 0 = 0 := hi0.resolve_left (by omega)
 exact (ret_nil (P := Try.prog) (R := EndsI m0 w0 S tmc l rc D (J (if chE q 0 = 0 then 2 else 0)) X) hF rfl (⟨_, rfl, K, mem, gr, hK, .inl ⟨(seg_end hm hF).bare, by rw [if_pos h0, ← hi]; exact hJ⟩⟩)).2
section
variable {α : Type}
def getA (l : Lab) : List (Lab × α) → Option α
 | [] => none
 | p :: L => if p.1 = l then some p.2 else getA l L
def setA (l : Lab) (x : α) : List (Lab × α) → List (Lab × α)
 | [] => [(l, x)]
 | p :: L => if p.1 = l then (l, x) :: L else p :: setA l x L
theorem getA_mem {l : Lab} {x : α} : ∀ {L : List (Lab × α)}, getA l L = some x → (l, x) ∈ L
 | p :: L, h => by
  unfold getA at h
  split at h
  ·rename_i he; injection h with h; subst h; subst he; exact List.mem_cons_self ..
  exact List.mem_cons_of_mem _ (getA_mem h)
theorem mem_getA {p : Lab × α} : ∀ {L : List (Lab × α)}, (L.map (·.1)).Nodup → p ∈ L → getA p.1 L = some p.2
 | q :: L, h, hp => by
  have h' := List.nodup_cons.1 h
  unfold getA
  rcases List.mem_cons.1 hp with rfl | hp
  ·rw [if_pos rfl]
  rw [if_neg (fun e => h'.1 (List.mem_map.2 ⟨p, hp, e.symm⟩))]
  exact mem_getA h'.2 hp
theorem getA_set {l k : Lab} {x : α} : ∀ {L : List (Lab × α)}, getA k (setA l x L) = if l = k then some x else getA k L
 | [] => by simp [setA, getA]
 | p :: L => by
  unfold setA
  by_cases h : p.1 = l
  ·rw [if_pos h]
   unfold getA
   by_cases hk : l = k
   ·simp [hk]
   simp [hk, h]
  rw [if_neg h]
  unfold getA
  rw [getA_set]
  by_cases hk : l = k
  ·subst hk; simp [h]
  simp [hk]
theorem set_keys {l : Lab} {x : α} : ∀ {L : List (Lab × α)}, (setA l x L).map (·.1) = if (getA l L).isSome then L.map (·.1) else L.map (·.1) ++ [l]
 | [] => by simp [setA, getA]
 | p :: L => by
  unfold setA getA
  by_cases h : p.1 = l
  ·simp [h]
  simp only [if_neg h, List.map_cons, set_keys]
  split <;> simp
theorem set_len {l : Lab} {x : α} (L : List (Lab × α)) : (setA l x L).length = if (getA l L).isSome then L.length else L.length + 1 := by
 have := congrArg List.length (set_keys (l := l) (x := x) (L := L))
 rw [List.length_map] at this
 rw [this]
 split <;> simp
theorem getA_none {l : Lab} : ∀ {L : List (Lab × α)}, getA l L = none → l ∉ L.map (·.1)
 | [], _ => by simp
 | p :: L, h => by
  unfold getA at h
  split at h
  ·cases h
  rename_i hn
  simp only [List.map_cons, List.mem_cons, not_or]
  exact ⟨fun e => hn e.symm, getA_none h⟩
theorem set_nodup {l : Lab} {x : α} {L : List (Lab × α)} (h : (L.map (·.1)).Nodup) : ((setA l x L).map (·.1)).Nodup := by
 rw [set_keys]
 split
 ·exact h
 rename_i hn
 have := getA_none (by simpa using hn : getA l L = none)
 exact List.nodup_append.2 ⟨h, by simp, fun a ha b hb => by simp at hb; subst hb; exact fun e => this (e ▸ ha)⟩
theorem set_mem {l : Lab} {x : α} {L : List (Lab × α)} (h : (L.map (·.1)).Nodup) (p : Lab × α) : p ∈ setA l x L ↔ p = (l, x) ∨ (p ∈ L ∧ p.1 ≠ l) := by
 constructor
 ·intro hp
  have h1 := mem_getA (set_nodup (l := l) (x := x) h) hp
  rw [getA_set] at h1
  by_cases he : l = p.1
  ·rw [if_pos he] at h1
   injection h1 with h1
   obtain ⟨p1, p2⟩ := p
   simp only at he h1
   subst he; subst h1
   exact .inl rfl
  rw [if_neg he] at h1
  exact .inr ⟨getA_mem h1, fun e => he e.symm⟩
 rintro (rfl | ⟨hp, hne⟩)
 ·exact getA_mem (by rw [getA_set, if_pos rfl])
 exact getA_mem (x := p.2) (l := p.1) (by rw [getA_set, if_neg (fun e => hne e.symm)]; exact mem_getA h hp)
structure LmD (el : α → AV) (D : DataW Value) (b : Nat) (L : List (Lab × α)) (m : Nat → Nat → Prop) (w : World) : Prop where
 map : MapW Try.prog 25 w b L.length D
 nd : (L.map (·.1)).Nodup
 labs : ∀ p ∈ L, LabOk p.1
 has : ∀ kl, Maps.has D kl = true ↔ ∃ p ∈ L, keyL p.1 = kl
 size : Maps.size D = L.length
 at_ : ∀ p ∈ L, ∀ zd, D.atKey (keyL p.1) zd = .held (el p.2).den
 ok : ∀ p ∈ L, Ok m w (el p.2)
variable {el : α → AV} {D : DataW Value} {b : Nat} {L : List (Lab × α)} {m m' : Nat → Nat → Prop} {w w' : World} {l : Lab}
theorem LmD.keepB {bo : Option Nat} (h : LmD el D b L m w) (k : KeepB bo w m w' m') (hb : bo ≠ some b) : LmD el D b L m' w' :=
 ⟨mapW_keepB k hb h.map, h.nd, h.labs, h.has, h.size, h.at_, fun p hp => k.ok (h.ok p hp)⟩
theorem LmD.keep (h : LmD el D b L m w) (k : Keep w m w' m') : LmD el D b L m' w' :=
 ⟨mapW_keep k h.map, h.nd, h.labs, h.has, h.size, h.at_, fun p hp => k.ok (h.ok p hp)⟩
def lmK (el : α → AV) (b : Nat) (L : List (Lab × α)) : Kn := ⟨fun m w => ∃ D, LmD el D b L m w, fun k ⟨D, h⟩ => ⟨D, h.keep k⟩⟩
def lmF (el : α → AV) (n b : Nat) (L : List (Lab × α)) : Kn := ⟨fun m w => n ≤ b ∧ (lmK el b L).p m w, fun k h => ⟨h.1, (lmK el b L).st k h.2⟩⟩
theorem lmK_off {n : Nat} (h : b ≠ n) : (lmK el b L).off n := fun k ⟨D, x⟩ => ⟨D, x.keepB k (fun e => h (by injection e with e; exact e.symm))⟩
theorem lmK_under {n : Nat} (h : b < n) : (lmK el b L).under n := fun l hl => lmK_off (by omega)
theorem lmK_map (h : (lmK el b L).p m w) : ∃ es cl, w.heap[b]? = some (.map es cl) := by
 obtain ⟨D, h⟩ := h
 obtain ⟨es, cl, hb, _⟩ := h.map
 exact ⟨es, cl, hb⟩
theorem lmK_lt (h : (lmK el b L).p m w) : b < w.heap.size := by
 obtain ⟨es, cl, hb⟩ := lmK_map h
 exact lt_heap hb
theorem lmK_self : (lmK el b L).self := fun _ _ h => lmK_under (lmK_lt h)
theorem LmD.empty (h : MapW Try.prog 25 w b 0 (.map [])) : LmD el (.map []) b [] m w :=
 ⟨h, .nil, fun p hp => (by cases hp), fun kl => ⟨fun h => (by cases h), fun ⟨p, hp, _⟩ => (by cases hp)⟩, rfl, fun p hp => (by cases hp), fun p hp => (by cases hp)⟩
theorem LmD.hasL (h : LmD el D b L m w) (hl : LabOk l) : Maps.has D (keyL l) = (getA l L).isSome := by
 cases hf : getA l L with
 | some x => exact (h.has _).2 ⟨(l, x), getA_mem hf, rfl⟩
 | none =>
  rw [Option.isSome_none, Bool.eq_false_iff]
  intro hh
  obtain ⟨p, hp, he⟩ := (h.has _).1 hh
  have : p.1 = l := keyL_inj (h.labs p hp) hl he
  rw [← this, mem_getA h.nd hp] at hf
  cases hf
theorem LmD.look (h : LmD el D b L m w) (hl : LabOk l) {mt e : TypeId} (ht : Try.prog.underlying mt = some (.map 25 e)) {z : α} (hz : (zeroValue e).run Try.prog w = .ok (el z).den w) (hzo : Ok m w (el z)) (c : Bool) :
  (Instr.lookup mt (.map (some b)) (labAV l).den c).run Try.prog w = .ok (if c then .tuple #[(el ((getA l L).getD z)).den, .bool (getA l L).isSome] else (el ((getA l L).getD z)).den) w ∧ Ok m w (el ((getA l L).getD z)) := by
 have hh := h.hasL hl
 obtain ⟨es, clock, hb, F, _, hD⟩ := h.map
 rcases Maps.fit_look c labK ht hz hb F (key_lab hl) with ⟨hrun, _, hat⟩ | ⟨e0, y, _, _, hrun, hRv, hat, _⟩
 ·rw [← hD] at hat
  have hf := Maps.has_false_of_atKey hat
  rw [hh] at hf
  have hn : getA l L = none := by cases hg : getA l L with
   | none => rfl
   | some x => rw [hg] at hf; cases hf
  rw [hn]
  exact ⟨hrun, hzo⟩
 rw [← hD] at hat
 have hf := Maps.has_true_of_atKey hat
 rw [hh] at hf
 obtain ⟨x, hx⟩ := Option.isSome_iff_exists.1 hf
 have hm := getA_mem hx
 have e1 := h.at_ _ hm (.held Go.undef)
 rw [hat] at e1
 have e2 : y.1 = .held e0.val := by unfold hR at hRv; injection hRv with hRv; rw [← hRv]
 rw [e2] at e1
 injection e1 with e1
 rw [hx]
 simp only at e1
 simp only [Option.getD_some, Option.isSome_some]
 exact ⟨by rw [← e1]; exact hrun, h.ok _ hm⟩
theorem look_tt {K : Kn} (hK : ∀ m w, K.p m w → (lmK el b L).p m w) (hl : LabOk l) {mt e : TypeId} (ht : Try.prog.underlying mt = some (.map 25 e)) {z : α} (hz : ∀ w, (zeroValue e).run Try.prog w = .ok (el z).den w) (hzo : ∀ m w, Ok m w (el z)) {v : AV} (hv : el ((getA l L).getD z) = v) {h : Bool} (hh : (getA l L).isSome = h) : Ob.holds Try.prog K (.look mt true (.raw (.map (some b))) (labAV l) (.tup [v, .bool (.v h)])) := by
 intro m w hk
 obtain ⟨D, hD⟩ := hK m w hk
 obtain ⟨h1, h2⟩ := hD.look hl ht (hz w) (hzo m w) true
 rw [hv] at h1 h2
 rw [hh] at h1
 refine ⟨by rw [show AV.den (.raw (.map (some b))) = Value.map (some b) from rfl, h1]; simp [AV.den, AV.denL, BE.den], .tup _ fun u hu => ?_⟩
 simp only [List.mem_cons, List.not_mem_nil, or_false] at hu
 rcases hu with rfl | rfl
 ·exact h2
 exact .bool _
theorem LmD.put (h : LmD el D b L m w) (hl : LabOk l) (k : KeepB (some b) w m w' m) {x : α} (hv : Ok m w (el x)) (hM : MapW Try.prog 25 w' b (L.length + 1) (D.put (keyL l) (.held (el x).den))) : ∃ D', LmD el D' b (setA l x L) m w' := by
 have hkey : WideAt.IsKeyLit (keyL l) := labK.key (key_lab hl)
 have hmp : Maps.IsMap D := (h.map.tidy labK).isMap
 have hsz := mapW_size hM
 have hlen : Maps.size (D.put (keyL l) (.held (el x).den)) = (setA l x L).length := by
  rw [Maps.size_put (h.map.tidy labK), h.hasL hl, set_len]
  rw [h.size]
 have hin := set_mem (l := l) (x := x) h.nd
 refine ⟨_, ?_, set_nodup h.nd, fun p hp => ?_, fun kl => ?_, hlen, fun p hp zd => ?_, fun p hp => ?_⟩
 ·rw [hlen] at hsz; exact hsz
 ·rcases (hin p).1 hp with rfl | ⟨hp, _⟩
  ·exact hl
  exact h.labs p hp
 ·by_cases he : kl = keyL l
  ·subst he
   rw [Maps.has_put_same hmp hkey]
   exact ⟨fun _ => ⟨_, (hin _).2 (.inl rfl), rfl⟩, fun _ => rfl⟩
  rw [Maps.has_put_other he, h.has]
  constructor
  ·rintro ⟨p, hp, hk⟩
   exact ⟨p, (hin p).2 (.inr ⟨hp, fun e => he (by rw [← hk, e])⟩), hk⟩
  rintro ⟨p, hp, hk⟩
  rcases (hin p).1 hp with rfl | ⟨hp, _⟩
  ·exact absurd hk.symm he
  exact ⟨p, hp, hk⟩
 ·rcases (hin p).1 hp with rfl | ⟨hp, hne⟩
  ·rw [Maps.atKey_put_same hmp hkey]
  rw [Maps.atKey_put_other (fun e => hne (keyL_inj (h.labs p hp) hl e))]
  exact h.at_ p hp zd
 rcases (hin p).1 hp with rfl | ⟨hp, hne⟩
 ·exact k.ok hv
 exact k.ok (h.ok p hp)
theorem lmK_put {n : Nat} (h0 : MapW Try.prog 25 w b n D) (hl : LabOk l) (h : (lmK el b L).p m w) (k : KeepB (some b) w m w' m) {v : AV} {x : α} (hs : Sim v (el x)) (hv : Ok m w v) (hM : MapW Try.prog 25 w' b (L.length + 1) (D.put (keyL l) (.held v.den))) : (lmK el b (setA l x L)).p m w' := by
 obtain ⟨D1, h1⟩ := h
 have := mapW_fun h0 h1.map
 subst this
 rw [hs.1] at hM
 exact h1.put hl k (hs.2.2 _ _ hv) hM
end
theorem mapr_und : Try.prog.underlying 72 = some (.map 25 52) := by kernel_rfl
theorem cov_stp (l : Lab) (f : Nat → Itm) (i : Nat) : covL l (firsts f (i + 1)) = covL l (firsts f i) ++ (if coverB l (f i).key = true then [f i] else []) := by
 unfold firsts covL
 rw [List.range_succ, List.map_append, List.filter_append]
 congr 1
 by_cases h : coverB l (f i).key = true <;> simp [h]
def treeA (f : Nat → RowA) : Nat → List (Lab × RA)
 | 0 => []
 | n + 1 => setA (f n).lab (f n).x (treeA f n)
theorem treeA_len (f : Nat → RowA) : ∀ n, (treeA f n).length ≤ n
 | 0 => Nat.le_refl _
 | n + 1 => by
  have := treeA_len f n
  unfold treeA
  rw [set_len]
  split <;> omega
theorem tcov_s (A : Option Addr) (n c : Nat) (f : Nat → Itm) (hn : n ≤ 1000000) (l : Lab) (hb0 : U64 l.bits) (hki : ∀ i, i < n → U64 (f i).key) : Spec Try.prog 24 [rowI A n c f, labAV l] (fun x => rowI (x.A 0) (covL l (firsts f n)).length (x.c 0) (itF (covL l (firsts f n)))) := by
 intro m w hm hargs
 have hmx : maxLen = 9223372036854775807 := rfl
 unfold rowI at hargs ⊢
 simp only [labAV] at hargs ⊢
 refine en 24 hm hargs Try.func24 fun B hB a0 hF => ?_
 refine wp_seq (rg hB TA_ok [0, 3] [3] [] hF fun X0 a0 w1 hF => ?_)
 refine wp_seq (rg hB TA_ok [5, 3, 0] [3, 5] [] hF fun X1 a0 w1 hF => ?_)
 refine wp_seq (wp_seq (rg hB TA_ok [5, 10, 3, 8, 9] [3, 5] [] hF fun X2 a0 w1 hF => ?_))
 replace hF := hF.headS (v' := .sl (some 5) none 0 0 2 (fun t => itC zeroItm)) (zq0) rfl
 refine wp_block (loop_pre (ι := Nat × Nat × (Nat → Itm) × Option Addr × Nat) (fun p => [(5, .sl (some 5) p.2.2.2.1 p.2.1 p.2.2.2.2 2 (fun t => itC (p.2.2.1 t))), (10, .int .i64 (p.1 : Int))]) (fun p => []) (fun p => [(5, ⟨p.2.2.2.1, p.2.1, p.2.2.2.2, 2, 57⟩)]) (fun p => p.1 ≤ n ∧ p.2.1 ≤ p.1 ∧ firsts p.2.2.1 p.2.1 = covL l (firsts f p.1)) (fun p => n - p.1) (0, 0, fun _ => zeroItm, none, 0) ⟨Nat.zero_le _, Nat.le_refl _, rfl⟩ hF ?_)
 rintro ⟨i, q, g, A1, c1⟩ ⟨hi, hq, hg⟩ a0 w1 hF
 try dsimp only at hi
 try dsimp only at hq
 try dsimp only at hg
 refine wp_seq (rg hB TA_ok [11, 5, 10, 3, 8, 9] [3, 5] [] hF fun X3 a0 w1 hF => ?_)
 refine wp_seq (test_ok hF rfl (fun hb hF => ?_) (fun hb hF => ?_))
 ·have hin : i < n := by
   have : (i : Int) < (n : Int) := by subst hB; simpa [std, sC] using hb
   omega
  have S := cov_s l hb0 (f i).key (hki i hin)
  simp only [labAV] at S
  obtain ⟨cq, hcq⟩ := eqv (coverB l (f i).key)
  rw [← hcq] at S
  refine wp_skip (wp_seq (wp_block (wp_seq ?_)))
  refine rg hB TA_ok [7, 5, 10, 3, 8, 9] [7, 3, 5] [] hF (hob := by intro X; subst hB; simp only [AO, Ob.holds, BE.den] <;> and_intros <;> repeat first | trivial | rfl | exact (show (0 : Int) ≤ (i : Int) by omega) | exact (show (i : Int) < (n : Int) by omega) | exact (fun _ _ => by kernel_rfl) | refine ⟨?_, ?_⟩ | intro h | exact Int.le_refl _ | decide | omega) fun X4 a0 w1 hF => ?_
  replace hF := hF.memS (cells' := itC (f i)) (by subst hB; exact zl)
  have O1 := S
  refine wp_seq (rg hB TA_ok [17, 7, 5, 10, 3, 8, 9] [7, 3, 5] [(3, .r fun _ => .bool (.v cq))] hF fun X5 a0 w1 hF => ?_)
  apply test_ok hF rfl <;> intro hb hF
  ·have hct : cq = true := hb
   rw [hct] at hcq
   refine rg hB TA_ok [5, 10, 3, 8, 9] [3, 5] [] hF (hob := ?hob) fun X6 a0 w1 hF => ?_
   case hob =>
    intro X
    subst hB
    repeat (first | exact trivial | refine ⟨⟨rfl, rfl, rfl⟩, ?_⟩ | refine ⟨rfl, ?_⟩ | refine ⟨⟨show q + 1 ≤ maxLen by omega, show (q + 1) * _ ≤ _ by omega⟩, ?_⟩)
   replace hF := hF.headS (v' := .sl (some 5) ((X6 3).A 0) (B.nadd q 1) ((X6 3).c 0) 2 (fun t => itC (fSet g q (f i) t))) (Sim.resl rfl (fun t ht => by
    subst hB
    have ht2 : t < q + 1 := ht
    show appC q (fun t => itC (g t)) (chunk 2 [.int .u64 (f i).key, .str (f i).val]) t = _
    unfold appC fSet
    split
    ·rw [if_neg (by omega)]
    have : t = q := by omega
    subst this
    simp [chunk, itC])) rfl
   refine rg hB TA_ok [5, 10, 3, 8, 9] [3, 5] [] hF fun X7 a0 w1 hF => ?_
   have e : B.arith .add .i64 (i : Int) 1 = ((i + 1 : Nat) : Int) := by subst hB; exact wrap_succ (n := n) hin (by omega)
   refine ⟨(i + 1, q + 1, fSet g q (f i), _, _), ⟨by simp only; omega, by simp only; omega, ?_⟩, by simp only; omega, by rw [← e, show q + 1 = B.nadd q 1 by subst hB; rfl]; exact hF⟩
   simp only
   rw [firsts_set, hg, cov_stp, if_pos hcq.symm]
  have hcf : cq = false := hb
  rw [hcf] at hcq
  refine wp_skip (rg hB TA_ok [5, 10, 3, 8, 9] [3, 5] [] hF fun X7 a0 w1 hF => ?_)
  have e : B.arith .add .i64 (i : Int) 1 = ((i + 1 : Nat) : Int) := by subst hB; exact wrap_succ (n := n) hin (by omega)
  refine ⟨(i + 1, q, g, _, _), ⟨by simp only; omega, by simp only; omega, ?_⟩, by simp only; omega, by rw [← e]; exact hF⟩
  simp only
  rw [hg, cov_stp, if_neg (by rw [← hcq]; decide), List.append_nil]
 have hout : i = n := by
  have : ¬ (i : Int) < (n : Int) := by subst hB; simpa [std, sC] using hb
  omega
 rw [hout] at hg
 refine wp_exit (wp_seq (rg hB TA_ok [4] [5] [] hF fun X8 a0 w1 hF => ?_))
 refine wp_ret ((rsi hB TA_ok hF (⟨0, fun _ => A1, fun _ => c1, fun _ => ⟨#[]⟩⟩) (he := ?_)))
 subst hB
 exact Sim.resl (by rw [← hg, firsts_len]) (fun t ht => by rw [← hg, firsts_len] at ht; rw [← hg, firsts_get _ _ t ht])
theorem enters21 : Enters Try.prog 21 := fun _ _ => by kernel_rfl
theorem tof_m (A : Option Addr) (n c : Nat) (f : Nat → RowA) (hn : n ≤ 100000) (hN : ∀ i, i < n → LabOk (f i).lab) : SpecM Try.prog 21 [rowsV A n c f] [] none noK (fun y => ⟨.raw (.map (some (y.c 0))), [], []⟩) (fun N y => lmF recV N (y.c 0) (treeA f n)) := by
 intro m w hm hargs hpre hI
 have hmx : maxLen = 9223372036854775807 := rfl
 refine enM (bo := none) 20 hm hpre hI hargs Try.func21 fun B hB a0 hF => ?_
 refine wp_seq (rg hB TA_ok [0] [] [] hF fun X0 a0 w1 hF => ?_)
 refine wp_seq (wp_region_lit (man_makeMap (k := 25) (e := 0) rfl rfl rfl rfl hF (Nat.le_of_ble_eq_true rfl) (lmK recV w1.heap.size []) (fun m w' _ _ hM => ⟨_, LmD.empty hM⟩) ?_))
 obtain ⟨bM, hbM⟩ := eqv (w1.heap.size)
 rw [← hbM]
 intro a0 w1 hfresh hF
 have hbfr : w.heap.size ≤ bM := hfresh
 refine lnd 1 hB TA_ok [3, 0] [] [] hF fun X1 a0 w1 hF => ?_
 refine wp_seq (wp_seq (rg hB TA_ok [9, 3, 7, 8] [] [] hF fun X2 a0 w1 hF => ?_))
 refine wp_block (loop_preK (ι := Nat) (fun p => lmK recV bM (treeA f p)) (fun p => [(9, .int .i64 (p : Int))]) (fun p => []) (fun p => []) (fun p => p ≤ n) (fun p => n - p) 0 (Nat.zero_le _) hF ?_)
 rintro i hi a0 w1 hF
 try dsimp only at hi
 replace hF := hF.withK (K' := lmK recV bM (treeA f i)) hF.kept
 have hLn := treeA_len f i
 refine wp_seq (rg hB TA_ok [10, 9, 3, 7, 8] [] [] hF fun X3 a0 w1 hF => ?_)
 refine wp_seq (test_ok hF rfl (fun hb hF => ?_) (fun hb hF => ?_))
 ·have hin : i < n := by
   have : (i : Int) < (n : Int) := by subst hB; simpa [std, sC] using hb
   omega
  have hlab := hN i hin
  refine wp_skip (wp_seq (wp_block (wp_seq ?_)))
  refine rg hB TA_ok [5, 9, 3, 7, 8] [5] [] hF (hob := by intro X; subst hB; simp only [AO, Ob.holds, BE.den] <;> and_intros <;> repeat first | trivial | rfl | exact (show (0 : Int) ≤ (i : Int) by omega) | exact (show (i : Int) < (n : Int) by omega) | exact (fun _ _ => by kernel_rfl) | refine ⟨?_, ?_⟩ | intro h | exact Int.le_refl _ | decide | omega) fun X4 a0 w1 hF => ?_
  replace hF := hF.memS (cells' := rowC (f i)) (by subst hB; exact zl)
  refine wp_region_lit (lpr 0 5 hB TA_ok [13, 15, 17, 9, 3, 7, 8] [5] [] hF fun X5_0 a0 w1 hF => ?_)
  obtain ⟨D2, hD2⟩ := hF.kept
  refine man_mapUpdate (k := 25) (e := 52) rfl rfl rfl rfl hF rfl rfl rfl rfl rfl labK mapr_und hD2.map (by omega) (key_lab hlab) (fun h => absurd h (by omega)) (lmK recV bM (treeA f (i + 1))) (fun m w' hk hkb hv hM => ?_) ?_
  ·exact lmK_put (x := (f i).x) hD2.map hlab hk hkb (zr) hv hM
  intro w1 hF
  refine wpList_nil (rg hB TA_ok [9, 3, 7, 8] [] [] hF fun X6 a0 w1 hF => ?_)
  have e : B.arith .add .i64 (i : Int) 1 = ((i + 1 : Nat) : Int) := by subst hB; exact wrap_succ (n := n) hin (by omega)
  refine ⟨i + 1, by omega, by omega, by rw [← e]; exact hF⟩
 have hout : i = n := by
  have : ¬ (i : Int) < (n : Int) := by subst hB; simpa [std, sC] using hb
  omega
 subst hout
 refine wp_exit (wp_seq (rg hB TA_ok [2] [] [] hF fun X7 a0 w1 hF => ?_))
 refine wp_ret ((rm hB TA_ok hF (⟨0, fun _ => none, fun _ => bM, fun _ => ⟨#[]⟩⟩) [] (hJ := ?_)).1)
 exact fun _ _ h => ⟨hbfr, h⟩
theorem wpN_block {P : Program} {fn : FuncId} {Q : Exit → Act → World → Prop} {a : Act} {w : World} {id : Nat} {c : Code} (h : wpN fn P c (Exit.inBlock id Q) a w) : wpN fn P (Code.block id c) Q a w := by
 intro b k cs hb
 obtain ⟨e, a₁, w₁, hq, harr⟩ := h b (.inBlock id :: k) cs hb
 cases e with
 | normal => exact ⟨.normal, a₁, w₁, hq, .head step_block (Steps.trans harr (.one step_inBlock))⟩
 | exit id' =>
  by_cases hid : id' = id
  ·simp only [Exit.inBlock, hid, if_true] at hq
   exact ⟨.normal, a₁, w₁, hq, .head step_block (harr k (by simp [exitTo, hid]))⟩
  simp only [Exit.inBlock, hid, if_false] at hq
  refine ⟨.exit id', a₁, w₁, hq, fun k' hk => .head step_block (harr k' ?_)⟩
  have : (id == id') = false := by simp; exact fun h => hid h.symm
  simp [exitTo, this, hk]
 | goto l => exact ⟨_, a₁, w₁, hq, fun k' hk => .head step_block (harr k' (by simp [gotoIn, hk]))⟩
 | ret => exact ⟨_, a₁, w₁, hq, .of_steps (.one step_block) harr⟩
 | panic ch => exact ⟨_, a₁, w₁, hq, .of_steps (.one step_block) harr⟩
 | outgrown => exact ⟨_, a₁, w₁, hq, .of_steps (b := b) (k := k) (cs := cs) (e := .outgrown) (.one step_block) harr⟩
theorem enters22 : Enters Try.prog 22 := fun _ _ => by kernel_rfl
theorem zRA_run (w : World) : (zeroValue 52).run Try.prog w = .ok (recV zRA).den w := by kernel_rfl
theorem zRA_ok (m : Nat → Nat → Prop) (w : World) : Ok m w (recV zRA) := by
 refine .agg _ (fun v hv => ?_) fun v hv => ?_
 ·simp only [recC, List.mem_cons, List.not_mem_nil, or_false] at hv
  rcases hv with rfl | rfl | rfl | rfl | rfl <;> rfl
 simp only [recC, List.mem_cons, List.not_mem_nil, or_false] at hv
 rcases hv with rfl | rfl | rfl | rfl | rfl
 ·exact .int _ _
 ·exact .sl _ _ _ _ _ _ (Nat.le_refl _) (Nat.zero_le _) (fun i hi => absurd hi (Nat.not_lt_zero _)) (fun i hi => absurd hi (Nat.not_lt_zero _)) (fun i hi => absurd hi (Nat.not_lt_zero _)) (fun i hi => absurd hi (Nat.not_lt_zero _)) (fun i hi => absurd hi (Nat.not_lt_zero _))
 ·exact .int _ _
 ·exact .int _ _
 exact .int _ _
theorem labOk_is {q : Lab} (hl : isL q = true) (hb : U64 q.bits) : LabOk q := by
 obtain ⟨h1, h2, _⟩ := lab_parts hl
 obtain ⟨h3, h4⟩ := hb
 constructor
 ·simp [Lit.wf, IntKind.min, IntKind.max, IntKind.signed, IntKind.bits]; omega
 simp [Lit.wf, IntKind.min, IntKind.max, IntKind.signed, IntKind.bits]; omega
def treF (T : List (Lab × RA)) : Tre := fun l => (getA l T).map fun x => x.r.abs
structure TreA (T : List (Lab × RA)) : Prop where
 labs : ∀ p ∈ T, LabOk p.1 ∧ U64 p.1.bits
 recs : ∀ p ∈ T, p.2.r.n ≤ 16 ∧ ∀ i, i < p.2.r.n → U64 (p.2.r.f i).key
theorem TreA.ok {T : List (Lab × RA)} (h : TreA T) : TreOk (treF T) (T.map (·.1)) := by
 refine ⟨fun k hk => ?_, fun l r hr => ?_⟩
 ·obtain ⟨p, hp, rfl⟩ := List.mem_map.1 hk
  exact (h.labs p hp).2
 obtain ⟨x, hx, rfl⟩ := Option.map_eq_some_iff.1 hr
 have hm := getA_mem hx
 refine ⟨List.mem_map.2 ⟨_, hm, rfl⟩, ?_⟩
 have := (h.recs _ hm).1
 unfold RN.abs
 rw [firsts_len]
 exact this
theorem TreA.el {T : List (Lab × RA)} (h : TreA T) (q : Lab) : ((getA q T).getD zRA).r.n ≤ 16 ∧ ∀ i, i < ((getA q T).getD zRA).r.n → U64 (((getA q T).getD zRA).r.f i).key := by
 cases hx : getA q T with
 | none => exact ⟨Nat.zero_le _, fun i hi => absurd hi (Nat.not_lt_zero _)⟩
 | some x => exact h.recs _ (getA_mem hx)
def appG (n : Nat) (g f : Nat → Itm) : Nat → Itm := fun i => if i < n then g i else f (i - n)
theorem firsts_app (g f : Nat → Itm) (n k : Nat) : firsts (appG n g f) (n + k) = firsts g n ++ firsts f k := by
 apply List.ext_getElem?
 intro i
 unfold firsts appG
 by_cases h : i < n
 ·rw [List.getElem?_append_left (by simpa using h)]
  simp [h, show i < n + k by omega]
 rw [List.getElem?_append_right (by simpa using h)]
 by_cases h2 : i < n + k
 ·simp [h, h2, show i - n < k by omega]
 simp [show ¬ i < n + k from h2, show ¬ i - n < k by omega]
abbrev tEp (bt bT : Nat) : AV := .ep (some ⟨bt, 0, none⟩) 0 0 0 [.raw (.map (some bT))]
abbrev outMT (bt bT bO bM n c : Nat) (A : Option Addr) (g : Nat → Itm) : List (Nat × Blk) := [(901, ⟨bO, 33, [.sl (some 77) A n c 2 (fun i => itC (g i))]⟩), (900, ⟨bM, 74, [.fn 22 [] [tEp bt bT, .ptr 901 bO 0, .ptr 900 bM 0]]⟩)]
abbrev outG (n c : Nat) (A : Option Addr) : List (Nat × Gr) := [(77, ⟨A, n, c, 2, 57⟩)]
def OutS (bt bT bO bM : Nat) (xs : List Itm) (mem : List (Nat × Blk)) (gr : List (Nat × Gr)) : Prop := ∃ A n c g, firsts g n = xs ∧ mem = outMT bt bT bO bM n c A g ∧ gr = outG n c A
def MeansE (m0 : Nat → Nat → Prop) (w0 : World) (K : Kn) (bt bT bO bM : Nat) (xs : List Itm) (e : Ending) (w' : World) : Prop := ∃ v, e = .returned v ∧ v = .tuple #[] ∧ ∃ mem' gr', OutS bt bT bO bM xs mem' gr' ∧ Mem m0 w0 (fun _ => False) K mem' gr' w'
theorem app_sim {A : Option Addr} {n k c : Nat} {g f : Nat → Itm} {d : Option Nat} : Sim (.sl d A (std.nadd n k) c 2 (std.app n (fun i => itC (g i)) (fun i => itC (f i)))) (.sl d A (n + k) c 2 (fun i => itC (appG n g f i))) :=
 Sim.resl rfl fun t ht => by
  show appC n (fun i => itC (g i)) (fun i => itC (f i)) t = itC (appG n g f t)
  unfold appC appG
  split <;> rfl
def partP (T : Tre) (n : Nat) (r : Rec) (q : Lab) : Nat → List Itm
 | 0 => []
 | 1 => kidP T (meansP T n) r (chV q 0)
 | _ => kidP T (meansP T n) r (chV q 0) ++ kidP T (meansP T n) r (chV q 1)
theorem means_leaf {T : Tre} {n : Nat} {r : Rec} {q : Lab} (h : T q = some r) (hk : r.kind = 1 ∨ r.kind = 5) : meansP T (n + 1) q = r.items := by
 unfold meansP
 rw [h]
 exact if_pos hk
theorem means_in {T : Tre} {n : Nat} {r : Rec} {q : Lab} (h : T q = some r) (hk : ¬ (r.kind = 1 ∨ r.kind = 5)) : meansP T (n + 1) q = partP T n r q (if chE q 0 = 0 then 2 else 0) := by
 unfold meansP
 rw [h]
 refine (if_neg hk).trans ?_
 by_cases hc : chE q 0 = 0
 ·rw [if_pos hc, if_pos hc]; rfl
 rw [if_neg hc, if_neg hc]; rfl
theorem part_succ {T : Tre} {n : Nat} {r : Rec} {q : Lab} {i : Nat} (hi : i < 2) : partP T n r q (i + 1) = partP T n r q i ++ kidP T (meansP T n) r (chV q (i : Nat)) := by
 rcases i with _ | _ | i
 ·rfl
 ·rfl
 omega
theorem part_len {T : Tre} {ks : List Lab} (h : TreOk T ks) {n : Nat} {q : Lab} {r : Rec} (hb : U64 q.bits) (hr : T q = some r) (hc : chE q 0 = 0) {i : Nat} (hi : i < 2) : (partP T n r q i).length + 16 + 32 * cntB ks (chV q (i : Nat)) ≤ 32 * cntB ks q := by
 have h3 := cnt_pos h hb hr hc
 rcases i with _ | _ | i
 ·simp only [partP, List.length_nil, Int.ofNat_zero]
  have : ((0 : Nat) : Int) = 0 := rfl
  omega
 ·obtain ⟨a1, a2, _⟩ := ch_is hb hc 0
  have k0 := kid_len h hr (means_len h n (chV q 0) a1 a2)
  simp only [partP]
  have : (((0 + 1 : Nat)) : Int) = 1 := rfl
  rw [this]
  omega
 omega
theorem means_c {m0 : Nat → Nat → Prop} {w0 : World} {bt bT bO bM : Nat} (T : List (Lab × RA)) (hT : TreA T) (hT2 : T.length ≤ 2000) : ∀ (n : Nat) (q : Lab), U64 q.bits → isL q = true → 65 ≤ q.len + n → ∀ (K : Kn), (∀ m w, K.p m w → (lmK recV bT T).p m w) → K.self → ∀ w xs mem gr, OutS bt bT bO bM xs mem gr → xs.length + 32 * cntB (T.map (·.1)) q ≤ 1000000 → Mem m0 w0 (fun _ => False) K mem gr w → Ok (mT m0 mem gr) w (tEp bt bT) →
  Calls Try.prog 22 ([labAV q, tEp bt bT, .ptr 901 bO 0, .ptr 900 bM 0].map AV.den).toArray w (MeansE m0 w0 K bt bT bO bM (xs ++ meansP (treF T) n q)) := by
 intro n
 induction n with
 | zero =>
  intro q hb0 hl hn
  have := (lab_parts hl).2.1
  exact absurd hn (by omega)
 | succ n ih =>
  intro q hb0 hl hn K hKT hKs w xs mem gr hO hlen hm htE
  have hmx : maxLen = 9223372036854775807 := rfl
  obtain ⟨Ao, no, co, g, hg, rfl, rfl⟩ := hO
  have hargs : ∀ v ∈ [labAV q, tEp bt bT, .ptr 901 bO 0, .ptr 900 bM 0], Ok (mT m0 (outMT bt bT bO bM no co Ao g) (outG no co Ao)) w v := by
   intro v hv
   simp only [List.mem_cons, List.not_mem_nil, or_false] at hv
   rcases hv with rfl | rfl | rfl | rfl
   ·exact .agg _ (by intro v hv; simp only [List.mem_cons, List.not_mem_nil, or_false] at hv; rcases hv with rfl | rfl <;> rfl) (by intro v hv; simp only [List.mem_cons, List.not_mem_nil, or_false] at hv; rcases hv with rfl | rfl <;> exact .int _ _)
   ·exact htE
   ·exact .ptr _ _ _
   exact .ptr _ _ _
  have hlq : LabOk q := labOk_is hl hb0
  obtain ⟨el, hel⟩ := eqv ((getA q T).getD zRA)
  obtain ⟨hh, hhh⟩ := eqv ((getA q T).isSome)
  obtain ⟨he1, he2⟩ := hT.el q
  rw [← hel] at he1 he2
  have O1 := look_tt (el := recV) hKT hlq mapr_und zRA_run zRA_ok (v := recV el) (by rw [← hel]) hhh.symm
  simp only [labAV] at O1
  refine enIN 60 hm hargs Try.func22 fun B hB a0 hF => ?_
  refine wpN_seq (wpN_of (rg hB TA_ok [4, 1, 2, 3] [4, 901, 900, 77] [] hF fun X0 a0 w1 hF => ?_))
  refine wpN_seq (wpN_of (rg hB TA_ok [6, 5, 4, 1, 2, 3] [5, 4, 901, 900, 77] [(2, .r fun _ => .tup [recV el, .bool (.v hh)])] hF fun X1 a0 w1 hF => ?_))
  obtain ⟨qE, hqE⟩ := eqv (AV.ep (some ⟨(X0 0).b, 0, none⟩) 0 0 0 [.int .i64 q.len, .int .u64 q.bits])
  have hF := hF.fz (tm' := [(6, .bool (.v hh)), (5, .ep (some ⟨(X1 6).b, 0, none⟩) 0 0 0 (recC el)), (4, .ptr 4 (X0 0).b 0), (1, tEp bt bT), (2, .ptr 901 bO 0), (3, .ptr 900 bM 0)]) ⟨rfl, fz_id, rfl, fz_ptr, rfl, fz_id, rfl, fz_id, rfl, fz_id, rfl, fz_id, trivial⟩
  have hF := hF.fz (tm' := [(6, .bool (.v hh)), (5, .ep (some ⟨(X1 6).b, 0, none⟩) 0 0 0 (recC el)), (4, .ep (some ⟨(X0 0).b, 0, none⟩) 0 0 0 [.int .i64 q.len, .int .u64 q.bits]), (1, tEp bt bT), (2, .ptr 901 bO 0), (3, .ptr 900 bM 0)]) ⟨rfl, fz_id, rfl, fz_id, rfl, fz_ptr, rfl, fz_id, rfl, fz_id, rfl, fz_id, trivial⟩
  refine wpN_seq (wpN_of (wp_seq (rg hB TA_ok [17, 6, 5, 4, 1, 2, 3] [901, 900, 77] [] hF fun X2 a0 w1 hF => ?_)))
  apply test_ok hF rfl <;> intro hb hF
  ·have hno : treF T q = none := by
    have : hh = false := by subst hB; cases hh <;> first | rfl | cases hb
    rw [this] at hhh
    unfold treF
    cases hg2 : getA q T with
    | none => rfl
    | some x => rw [hg2] at hhh; cases hhh
   refine wp_ret (retI0 hB TA_ok hF (fun w' hm' _ => ⟨_, rfl, rfl, _, _, ⟨Ao, no, co, g, ?_, rfl, rfl⟩, hm'⟩)).1
   unfold meansP
   rw [hno, hg, List.append_nil]
  have hso : treF T q = some el.r.abs := by
   have : hh = true := by subst hB; cases hh <;> first | rfl | cases hb
   rw [this] at hhh
   obtain ⟨x, hx⟩ := Option.isSome_iff_exists.1 hhh.symm
   unfold treF
   rw [hx] at hel ⊢
   rw [hel]; rfl
  refine wp_skip ?_
  refine wpN_seq (wpN_of (wp_seq (rg hB TA_ok [25, 5, 4, 1, 2, 3] [901, 900, 77] [] hF fun X3 a0 w1 hF => ?_)))
  apply test_ok hF rfl <;> intro hb hF
  ·have hk : el.r.kd = 1 ∨ el.r.kd = 5 := by
    have h9 : (if decide (el.r.kd = 1) = true then true else decide (el.r.kd = 5)) = true := by subst hB; exact hb
    by_cases h1 : el.r.kd = 1
    ·exact .inl h1
    rw [decide_eq_false h1] at h9; exact .inr (by simpa using h9)
   have hli : no ≤ 1000000 := by rw [← hg, firsts_len] at hlen; omega
   refine wp_seq (rg hB TA_ok [] [901, 900, 77] [] hF (fun X4 a0 w1 hF => ?_) (hob := ?hob))
   case hob =>
    intro X; subst hB
    repeat (first | exact trivial | refine ⟨⟨rfl, rfl, rfl⟩, ?_⟩ | refine ⟨rfl, ?_⟩ | refine ⟨⟨show no + el.r.n ≤ maxLen by omega, show (no + el.r.n) * _ ≤ _ by omega⟩, ?_⟩)
   have hF := hF.memS (cells' := [.sl (some 77) ((X4 3).A 0) (no + el.r.n) ((X4 3).c 0) 2 (fun i => itC (appG no g el.r.f i))]) (by subst hB; exact ⟨app_sim, trivial⟩)
   have hF := hF.regr (n' := no + el.r.n) (by subst hB; rfl)
   refine wp_ret (retI0 hB TA_ok hF (fun w' hm' _ => ⟨_, rfl, rfl, _, _, ⟨_, no + el.r.n, _, appG no g el.r.f, ?_, rfl, rfl⟩, hm'⟩)).1
   rw [means_leaf hso hk, firsts_app, hg]
   rfl
  have hnk : ¬ (el.r.kd = 1 ∨ el.r.kd = 5) := by
   have h9 : (if decide (el.r.kd = 1) = true then true else decide (el.r.kd = 5)) = false := by subst hB; exact hb
   rintro (h1 | h1) <;> simp [h1] at h9
  refine wp_skip ?_
  have SK := kids_s q
  simp only [labAV] at SK
  have O1 := SK
  refine wpN_seq (wpN_of (rg hB TA_ok [31, 5, 1, 2, 3] [901, 900, 77] [(1, .r fun y => .fn 36 [] [.ep (some ⟨y.b, 0, none⟩) 0 0 0 [.int .i64 q.len, .int .u64 q.bits]])] hF fun X5 a0 w1 hF => ?_))
  refine wpN_block ?_
  have hKu := hKs _ _ hF.kept
  have hTk := hT.ok
  refine rangeI hF rfl enters36 hKu (fun l D rc w1 hl hD hrc hD0 hsz ha hm1 hlb => ?_)
  subst hrc
  refine (kids_c (l := l) (D := D) (ntc := 60) (p := 32) Try.func22 (by omega) (by omega) rfl rfl rfl (by decide) ⟨_, ha⟩ q hb0 (fun i K' mem gr => K' = K ∧ OutS bt bT bO bM (xs ++ partP (treF T) n el.r.abs q i) mem gr) (fun _ _ _ _ => False) ?_ ⟨rfl, Ao, no, co, g, by rw [hg]; simp [partP], rfl, rfl⟩ (hKu.off (by omega)) hm1 (hlb _ (by simp))).mono ?_
  ·intro i hi hce E hE hE2 K' mem gr a w ⟨hK', hO⟩ hoff hF
   subst hK'
   obtain ⟨A1, n1, c1, g1, hg1, rfl, rfl⟩ := hO
   obtain ⟨hc1, hc2, hc3⟩ := ch_is hb0 hce (i : Nat)
   have hpl := part_len (n := n) hTk hb0 hso hce hi
   obtain ⟨c, hc⟩ := eqv (chV q (i : Nat))
   rw [← hc] at hc1 hc2 hc3 hF hpl
   simp only [labAV] at hF
   have hn1 : n1 ≤ 1000000 := by
    have := congrArg List.length hg1
    rw [firsts_len, List.length_append] at this
    omega
   refine rrg hB TA_ok [7, 5, 1, 2, 3] [7, 901, 900, 77] [] hF fun X6 a0 w1 hF => ?_
   have hF := hF.fz (tm' := [(7, .ep (some ⟨(X6 0).b, 0, none⟩) 0 0 0 [.int .i64 c.len, .int .u64 c.bits]), (5, .ep (some ⟨(X1 6).b, 0, none⟩) 0 0 0 (recC el)), (1, tEp bt bT), (2, .ptr 901 bO 0), (3, .ptr 900 bM 0)]) ⟨rfl, fz_ptr, rfl, fz_id, rfl, fz_id, rfl, fz_id, rfl, fz_id, trivial⟩
   refine ⟨60, _, _, _, hF, fun w2 hF => ?_⟩
   obtain ⟨ei, hei⟩ := eqv ((getA c T).getD zRA)
   obtain ⟨hi2, hhi2⟩ := eqv ((getA c T).isSome)
   have OL := fun (Kx : Kn) (hx : ∀ m w, Kx.p m w → K'.p m w) => look_tt (K := Kx) (el := recV) (b := bT) (L := T) (l := c) (fun m w h => hKT m w (hx m w h)) (labOk_is hc1 hc2) mapr_und zRA_run zRA_ok (v := recV ei) (by rw [← hei]) hhi2.symm
   simp only [labAV] at OL
   refine wpIn_block (wpIn_seq (wpIn_seq (rrg hB TA_ok [9, 8, 7, 5, 1, 2, 3] [8, 901, 900, 77] [(2, .r fun _ => .tup [recV ei, .bool (.v hi2)])] hF (fun X7 a0 w1 hF => ?_) (hob := ?hob7))))
   case hob7 =>
    intro X; subst hB
    repeat (first | exact trivial | refine ⟨rfl, ?_⟩ | refine ⟨OL _ (fun m w h => h.1.1.1), ?_⟩)
   have hF := hF.fz (tm' := [(9, .bool (.v hi2)), (8, .ep (some ⟨(X7 6).b, 0, none⟩) 0 0 0 (recC ei)), (7, .ep (some ⟨(X6 0).b, 0, none⟩) 0 0 0 [.int .i64 c.len, .int .u64 c.bits]), (5, .ep (some ⟨(X1 6).b, 0, none⟩) 0 0 0 (recC el)), (1, tEp bt bT), (2, .ptr 901 bO 0), (3, .ptr 900 bM 0)]) ⟨rfl, fz_id, rfl, fz_ptr, rfl, fz_id, rfl, fz_id, rfl, fz_id, rfl, fz_id, rfl, fz_id, trivial⟩
   have hfz : frozP (treF T) c = (if (!hi2) = true then true else decide (ei.r.kd = 5)) := by
    unfold frozP treF
    cases hg2 : getA c T with
    | none => rw [hg2] at hhi2; rw [hhi2]; rfl
    | some x => rw [hg2] at hhi2 hei; rw [hhi2, hei]; rfl
   refine wpIn_seq (rrg hB TA_ok [50, 7, 5, 1, 2, 3] [901, 900, 77] [] hF fun X8 a0 w1 hF => ?_)
   refine rtest_ok hF rfl (fun hb hF => ?_) (fun hb hF => ?_)
   ·have h9 : (if decide (el.r.kd = 3) = true then (if (!hi2) = true then true else decide (ei.r.kd = 5)) else false) = true := by subst hB; exact hb
    rw [← hfz] at h9
    have hkid : kidP (treF T) (meansP (treF T) n) el.r.abs c = covL c (firsts el.r.f el.r.n) := by
     unfold kidP
     refine if_pos ⟨?_, ?_⟩
     ·show el.r.kd = 3
      by_cases h3 : el.r.kd = 3
      ·exact h3
      rw [decide_eq_false h3] at h9; cases h9
     split at h9
     ·exact h9
     cases h9
    have SCV := tcov_s el.A el.r.n el.c el.r.f (by omega) c hc2 he2
    have hcl := cov_len c (firsts el.r.f el.r.n)
    rw [firsts_len] at hcl
    obtain ⟨CV, hCV⟩ := eqv (covL c (firsts el.r.f el.r.n))
    rw [← hCV] at SCV hkid hcl
    obtain ⟨cf, hcf⟩ := eqv (itF CV)
    obtain ⟨cn, hcn⟩ := eqv (CV.length)
    rw [← hcf, ← hcn] at SCV
    rw [← hcn] at hcl
    simp only [rowI, labAV] at SCV
    refine wpIn_seq (rdrg hB TA_ok [] [901, 900, 77] [(4, .r fun x => .sl none (x.A 0) cn (x.c 0) 2 (fun i => itC (cf i)))] hF (fun X9 a0 w1 hF => ?_) (hob := ?hob))
    case hob =>
     intro X; subst hB
     repeat (first | exact trivial | refine ⟨⟨fun _ _ => by kernel_rfl, SCV⟩, ?_⟩ | refine ⟨⟨rfl, rfl, rfl⟩, ?_⟩ | refine ⟨rfl, ?_⟩ | refine ⟨⟨show n1 + cn ≤ maxLen by omega, show (n1 + cn) * _ ≤ _ by omega⟩, ?_⟩)
    have hF := hF.memS (cells' := [.sl (some 77) ((X9 5).A 0) (n1 + cn) ((X9 5).c 0) 2 (fun i => itC (appG n1 g1 cf i))]) (by subst hB; exact ⟨app_sim, trivial⟩)
    have hF := hF.regr (n' := n1 + cn) (by subst hB; rfl)
    refine wpIn_exit ?_
    refine ⟨K', _, _, ⟨rfl, _, n1 + cn, _, appG n1 g1 cf, ?_, rfl, rfl⟩, hoff, hF.bare⟩
    rw [firsts_app, hg1, part_succ hi, ← hc, hkid, List.append_assoc, hcn, hcf, firsts_itF']
   have h9 : (if decide (el.r.kd = 3) = true then (if (!hi2) = true then true else decide (ei.r.kd = 5)) else false) = false := by subst hB; exact hb
   rw [← hfz] at h9
   have hkid : kidP (treF T) (meansP (treF T) n) el.r.abs c = meansP (treF T) n c := by
    unfold kidP
    refine if_neg ?_
    rintro ⟨h1, h2⟩
    rw [decide_eq_true (show el.r.kd = 3 from h1), h2] at h9
    cases h9
   have hst := hF.slot 1 rfl
   refine wpIn_skip (rreg ?_)
   refine lpr 0 2 hB TA_ok [57, 58, 7, 5, 1, 2, 3] [901, 900, 77] [] hF (fun X10 a0 w1 hF => ?_)
   have hst := hF.slot 1 rfl
   refine man_inl rfl rfl rfl rfl hF rfl rfl enters22 (fun t ht => by injection ht with ht; subst ht; decide) (fun hmm haa hargs => ?_)
   have hself : ∀ tmX rcX tmY, (((KL K' tmX l rcX D .busy none).and E).and (okT tmY)).self := fun tmX rcX tmY => and_self' (and_self' (KL_self hKs tmX l rcX D .busy none) hE) (okT_self tmY)
   refine Calls.mono (ih c hc2 hc1 (by omega) _ ?hx ?hs w1 (xs ++ partP (treF T) n el.r.abs q i) _ _ ⟨A1, n1, c1, g1, hg1, rfl, rfl⟩ (by rw [List.length_append]; omega) hmm hst.2) ?_
   case hx => exact fun m w h => hKT m w h.1.1.1.1
   case hs => exact hself _ _ _
   rintro e w' ⟨v, rfl, rfl, mem', gr', hO', hm'⟩
   refine ⟨.tup [], rfl, mem', gr', _, .tup _ (fun u hu => by cases hu), hm', fun a' hF' => wpList_nil ?_⟩
   obtain ⟨A2, n2, c2, g2, hg2, rfl, rfl⟩ := hO'
   exact ⟨K', _, _, ⟨rfl, A2, n2, c2, g2, by rw [hg2, part_succ hi, ← hc, hkid, List.append_assoc], rfl, rfl⟩, hoff, hF'.bare⟩
  rintro e w3 ⟨v, rfl, K', mem', gr', ho, hh⟩
  rcases hh with ⟨hm', rfl, hO'⟩ | ⟨c, hx, _⟩
  ·refine ⟨v, rfl, K', mem', gr', ho, .inl ⟨hm', fun a' w' hF' => ?_⟩⟩
   obtain ⟨A', n', c', g', hg', rfl, rfl⟩ := hO'
   refine (retIM hB TA_ok [D] hF' (fun D' hD' => ?_) (fun w'' hm'' _ => ⟨_, rfl, rfl, _, _, ⟨A', n', c', g', ?_, rfl, rfl⟩, hm''⟩)).2
   ·simp only [List.mem_singleton] at hD'
    subst hD'
    exact ⟨hKu.off (by omega), hD0⟩
   rw [hg', means_in hso hnk]
  exact hx.elim
end Go.Proofs.Ytjgnoldondblaaa.Sym
