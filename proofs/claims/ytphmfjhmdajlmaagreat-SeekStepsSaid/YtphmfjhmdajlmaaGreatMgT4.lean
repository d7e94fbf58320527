/-
  SymHalf, SymUni, SymPr2, SymPr3, SymPr4, SymPr5, SymPr6, SymPr7, SymPr8, SymRcv, SymNx0, OpenS25, OpenW25, PlSeek, PlEr, PlWok, ItClone, SymShP, SymShQ: put together by a program of mine (a claim may have 60 files at most). Conditions: none.
-/
import Derived.WalkKit
import Derived.WalkLawsBesides
import Derived.WalkSpells
import Derived.Lib.Hide
import Derived.Deep.QuietTactic
import Derived.BigQuiet
import Derived.Deep.LoopGhost
import Derived.Deep.DeepCutAuto
import Derived.Deep.RegionLaw
import Derived.Lib.Overlaps
import Derived.Laws.CopyOwn
import Derived.IntWalk
import Derived.ProofKit
import Derived.OpenShut
import Derived.ShutString
import Derived.ChangeOld
import Derived.Deep.Slices
import Derived.Test.YtphmfjhmdajlmaaGreatProg
import Derived.Orders
import Derived.OrdersHeld
import Derived.Defers
import Derived.Recover
import Derived.Lib.BitFns
import Derived.ChangeKeysEq
import Derived.Test.YtphmfjhmdajlmaaGreatChecked
import Derived.Lib.BufferWrite
import Derived.Maps.OwnSet
import Derived.Maps.RangeWalk
import Derived.Maps.Ext
import Derived.DeepKeys4
import Derived.LoopN
import Derived.Test.YtphmfjhmdajlmaaGreatMgT1
import Derived.Test.YtphmfjhmdajlmaaGreatMgT2
import Derived.Test.YtphmfjhmdajlmaaGreatMgT3
set_option linter.unusedVariables false
set_option linter.unusedSimpArgs false
set_option maxRecDepth 100000
set_option maxHeartbeats 1600000
namespace Go.Proofs.YtphmfjhmdajlmaaGreat.Sym
open Go Go.RowKit
theorem ch_ok {l : Lab} {b : Int} (hl : isL l = true) (h64 : l.len ≠ 64) : chE l b = 0 ∧ chV l b = childL l b := by
 have h : chE l b = 0 := by
  unfold chE
  rw [hl, if_neg (by decide), if_neg h64]
 exact ⟨h, by unfold chV; rw [if_pos h]⟩
theorem enters90 : Enters Tryz.prog 90 := fun _ _ => by kernel_rfl
theorem enters254 : Enters Tryz.prog 254 := fun _ _ => by kernel_rfl
theorem covd_s (A : Option Addr) (n c : Nat) (f : Nat → Itm) (hn : n ≤ 1000000) (kd : Int) (nx : Lab) (mk : Int) (l : Lab) (hb0 : U64 l.bits) (hki : ∀ i, i < n → U64 (f i).key) : Spec Tryz.prog 254 [recI A n c f kd nx mk, labAV l] (fun x => rowI (x.A 0) (covL l (firsts f n)).length (x.c 0) (itF (covL l (firsts f n)))) := by
 intro m w hm hargs
 have hmx : maxLen = 9223372036854775807 := rfl
 unfold recI rowI at hargs
 simp only [labAV] at hargs
 refine en 31 hm hargs Tryz.func254 fun B hB a0 hF => ?_
 refine wp_seq (rg hB TA_ok [2, 3] [2, 3] [] hF fun X0 a0 w1 hF => ?_)
 refine wp_seq (rg hB TA_ok [5, 2, 3] [2, 3, 5, 29] [] hF fun X1 a0 w1 hF => ?_)
 refine wp_seq (wp_seq (rg hB TA_ok [5, 6, 2, 3] [2, 3, 5, 29] [] hF fun X2 a0 w1 hF => ?_))
 replace hF := hF.headS (v' := .sl (some 5) none 0 0 2 (fun t => itC zeroItm)) (zq0) rfl
 refine wp_block (loop_pre (ι := Nat × Nat × (Nat → Itm) × Option Addr × Nat) (fun p => [(5, .sl (some 5) p.2.2.2.1 p.2.1 p.2.2.2.2 2 (fun t => itC (p.2.2.1 t))), (6, .int .i64 (p.1 : Int))]) (fun p => []) (fun p => [(5, ⟨p.2.2.2.1, p.2.1, p.2.2.2.2, 2, 60⟩)]) (fun p => p.1 ≤ n ∧ p.2.1 ≤ p.1 ∧ firsts p.2.2.1 p.2.1 = covL l (firsts f p.1)) (fun p => n - p.1) (0, 0, fun _ => zeroItm, none, 0) ⟨Nat.zero_le _, Nat.le_refl _, rfl⟩ hF ?_)
 rintro ⟨i, q, g, A1, c1⟩ ⟨hi, hq, hg⟩ a0 w1 hF
 try dsimp only at hi
 try dsimp only at hq
 try dsimp only at hg
 refine wp_seq (wp_seq (rg hB TA_ok [11, 5, 6, 2, 3] [2, 3, 5, 29] [] hF (hob := ?hob) fun X3 a0 w1 hF => ?_))
 case hob =>
  intro X
  subst hB
  repeat (first | exact trivial | refine ⟨rfl, ?_⟩ | refine ⟨⟨show (0 : Int) ≤ (i : Int) by omega, show (i : Int) < (n : Int) by omega⟩, ?_⟩)
 apply test_ok hF rfl <;> intro hb hF
 ·have hin : i < n := by
   have : (i : Int) < (n : Int) := by subst hB; simpa [std, sC] using hb
   omega
  have S := rcov_s l hb0 (f i).key (hki i hin)
  simp only [labAV] at S
  obtain ⟨cq, hcq⟩ := eqv (coverB l (f i).key)
  rw [← hcq] at S
  refine wp_skip (wp_seq (wp_block (wp_seq (drg hB TA_ok [21, 5, 6, 2, 3] [2, 3, 5, 29] [(7, .r fun _ => .bool (.v cq))] hF (hob := ?hob) fun X5 a0 w1 hF => ?_))))
  case hob =>
   intro X
   subst hB
   repeat (first | exact trivial | refine ⟨rfl, ?_⟩ | refine ⟨⟨show (0 : Int) ≤ (i : Int) by omega, show (i : Int) < (n : Int) by omega⟩, ?_⟩ | refine ⟨⟨enters183, S⟩, ?_⟩)
  apply test_ok hF rfl <;> intro hb hF
  ·have hct : cq = true := hb
   rw [hct] at hcq
   refine rg hB TA_ok [5, 6, 2, 3] [2, 3, 5, 29] [] hF (hob := ?hob) fun X6 a0 w1 hF => ?_
   case hob =>
    intro X
    subst hB
    repeat (first | exact trivial | refine ⟨⟨rfl, rfl, rfl⟩, ?_⟩ | refine ⟨rfl, ?_⟩ | refine ⟨⟨show (0 : Int) ≤ (i : Int) by omega, show (i : Int) < (n : Int) by omega⟩, ?_⟩ | refine ⟨⟨show q + 1 ≤ maxLen by omega, show (q + 1) * _ ≤ _ by omega⟩, ?_⟩)
   replace hF := hF.headS (v' := .sl (some 5) ((X6 7).A 0) (B.nadd q 1) ((X6 7).c 0) 2 (fun t => itC (fSet g q (f i) t))) (Sim.resl rfl (fun t ht => by
    subst hB
    have ht2 : t < q + 1 := ht
    show appC q (fun t => itC (g t)) (chunk 2 [.int .u64 (f i).key, .str (f i).val]) t = _
    unfold appC fSet
    split
    ·rw [if_neg (by omega)]
    have : t = q := by omega
    subst this
    simp [chunk, itC])) rfl
   refine rg hB TA_ok [5, 6, 2, 3] [2, 3, 5, 29] [] hF fun X4 a0 w1 hF => ?_
   have e : B.arith .add .i64 (i : Int) 1 = ((i + 1 : Nat) : Int) := by subst hB; exact wrap_succ (n := n) hin (by omega)
   refine ⟨(i + 1, q + 1, fSet g q (f i), _, _), ⟨by simp only; omega, by simp only; omega, ?_⟩, by simp only; omega, by rw [← e, show q + 1 = B.nadd q 1 by subst hB; rfl]; exact hF⟩
   simp only
   rw [firsts_set, hg, cov_step, if_pos hcq.symm]
  have hcf : cq = false := hb
  rw [hcf] at hcq
  refine wp_skip (rg hB TA_ok [5, 6, 2, 3] [2, 3, 5, 29] [] hF fun X4 a0 w1 hF => ?_)
  have e : B.arith .add .i64 (i : Int) 1 = ((i + 1 : Nat) : Int) := by subst hB; exact wrap_succ (n := n) hin (by omega)
  refine ⟨(i + 1, q, g, _, _), ⟨by simp only; omega, by simp only; omega, ?_⟩, by simp only; omega, by rw [← e]; exact hF⟩
  simp only
  rw [hg, cov_step, if_neg (by rw [← hcq]; decide), List.append_nil]
 have hout : i = n := by
  have : ¬ (i : Int) < (n : Int) := by subst hB; simpa [std, sC] using hb
  omega
 rw [hout] at hg
 refine wp_exit (wp_seq (rg hB TA_ok [4] [4, 5, 29] [] hF fun X7 a0 w1 hF => ?_))
 refine wp_ret ((rsi hB TA_ok hF (⟨0, fun _ => A1, fun _ => c1, fun _ => ⟨#[]⟩⟩) (he := ?_)))
 subst hB
 exact Sim.resl (by rw [← hg, firsts_len]) (fun t ht => by rw [← hg, firsts_len] at ht; rw [← hg, firsts_get _ _ t ht])
theorem enters274 : Enters Tryz.prog 274 := fun _ _ => by kernel_rfl
theorem hv1_m0 (b : Nat) (l : Lab) (hb0 : U64 l.bits) (k : Int) (v : ByteArray) (hk : U64 k) : SpecX Tryz.prog 274 [.agg [.int .u64 k, .str v], .ptr 0 b 0] [(0, ⟨b, 24, [.int .i64 l.len, .int .u64 l.bits]⟩)] (fun _ => ⟨.bool (.v (!coverB l k)), [(0, [.int .i64 l.len, .int .u64 l.bits])], []⟩) := by
 intro m w hm hargs hpre
 have S := cov_s l hb0 k hk
 simp only [labAV] at S
 generalize coverB l k = cq at S ⊢
 refine enX 9 hm hpre hargs Tryz.func274 fun B hB a0 hF => ?_
 refine wp_seq (rg hB TA_ok [1, 2] [0, 2] [] hF fun X0 a0 w1 hF => ?_)
 refine wp_seq (rg hB TA_ok [3] [0] [(3, .r fun _ => .bool (.v cq))] hF (hob := ?hob) fun X1 a0 w1 hF => ?_)
 case hob =>
  intro X
  subst hB
  repeat (first | exact trivial | refine ⟨rfl, ?_⟩ | refine ⟨fun _ => rfl, ?_⟩ | refine ⟨ob_lab (Kk := noK) _ _ _ _, ?_⟩ | refine ⟨fun _ => ob_lab (Kk := noK) _ _ _ _, ?_⟩ | refine ⟨⟨enters171, S⟩, ?_⟩ | refine ⟨fun _ => ⟨enters171, S⟩, ?_⟩)
 refine wp_ret ((rx hB TA_ok hF nAt [] (he := ?_)).1)
 subst hB; exact Sim.bool rfl
theorem enters145 : Enters Tryz.prog 145 := fun _ _ => by kernel_rfl
theorem idxh_m0 (b : Nat) (A : Option Addr) (n c : Nat) (f : Nat → Itm) (hn : n ≤ 1000000) (l : Lab) (hb0 : U64 l.bits) (hki : ∀ i, i < n → U64 (f i).key) : SpecX Tryz.prog 145 [rowI A n c f, .fn 274 [] [.ptr 0 b 0]] [(0, ⟨b, 24, [.int .i64 l.len, .int .u64 l.bits]⟩)] (fun _ => ⟨.int .i64 (idxF (fun t => !coverB l (f t).key) n), [(0, [.int .i64 l.len, .int .u64 l.bits])], []⟩) := by
 intro m w hm hargs hpre
 have hmx : maxLen = 9223372036854775807 := rfl
 unfold rowI at hargs
 refine enX 19 hm hpre hargs Tryz.func145 fun B hB a0 hF => ?_
 refine wp_seq (rg hB TA_ok [0, 1] [0] [] hF fun X0 a0 w1 hF => ?_)
 refine wp_seq (wp_seq (rg hB TA_ok [8, 0, 1, 7] [0] [] hF fun X1 a0 w1 hF => ?_))
 refine wp_block (loop_pre (ι := Nat) (fun p => [(8, .int .i64 (p : Int))]) (fun p => []) (fun p => []) (fun p => p ≤ n ∧ ∀ t, t < p → (!coverB l (f t).key) = false) (fun p => n - p) 0 ⟨Nat.zero_le _, fun t ht => absurd ht (Nat.not_lt_zero _)⟩ hF ?_)
 rintro i ⟨hi, hlt⟩ a0 w1 hF
 try dsimp only at hi
 try dsimp only at hlt
 refine wp_seq (rg hB TA_ok [9, 8, 0, 1, 7] [0] [] hF fun X2 a0 w1 hF => ?_)
 refine wp_seq (test_ok hF rfl (fun hb hF => ?_) (fun hb hF => ?_))
 ·have hin : i < n := by
   have : (i : Int) < (n : Int) := by subst hB; simpa [std, sC] using hb
   omega
  have S := hv1_m0 b l hb0 (f i).key (f i).val (hki i hin)
  obtain ⟨q, hq⟩ := eqv (!coverB l (f i).key)
  rw [← hq] at S
  refine wp_skip (wp_seq (wp_block (wp_seq (rg hB TA_ok [5, 8, 0, 1, 7] [0] [] hF fun X3 a0 w1 hF => ?_))))
  refine wp_seq (rg hB TA_ok [16, 5, 8, 0, 1, 7] [0] [(5, .x fun _ => ⟨.bool (.v q), [(0, [.int .i64 l.len, .int .u64 l.bits])], []⟩)] hF (hob := ?hob) fun X4 a0 w1 hF => ?_)
  case hob =>
   intro X
   subst hB
   repeat (first | exact trivial | refine ⟨rfl, ?_⟩ | refine ⟨⟨show (0 : Int) ≤ (i : Int) by omega, show (i : Int) < (n : Int) by omega⟩, ?_⟩ | refine ⟨⟨enters274, S⟩, ?_⟩)
  apply test_ok hF rfl <;> intro hb hF
  ·have hqt : q = true := hb
   refine wp_seq (rg hB TA_ok [4] [0] [] hF fun X5 a0 w1 hF => ?_)
   refine wp_ret ((rx hB TA_ok hF nAt [] (he := ?_)).1)
   subst hB
   rw [idx_hit (p := fun t => !coverB l (f t).key) hin hlt (by show (!coverB l (f i).key) = true; rw [← hq]; exact hqt)]
   exact zr
  have hqf : q = false := hb
  refine wp_skip (rg hB TA_ok [8, 0, 1, 7] [0] [] hF fun X6 a0 w1 hF => ?_)
  have e : B.arith .add .i64 (i : Int) 1 = ((i + 1 : Nat) : Int) := by subst hB; exact wrap_succ (n := n) hin (by omega)
  refine ⟨i + 1, ⟨by omega, fun t ht => ?_⟩, by omega, by rw [← e]; exact hF⟩
  by_cases h : t = i
  ·rw [h, ← hq]; exact hqf
  exact hlt t (by omega)
 have hout : i = n := by
  have : ¬ (i : Int) < (n : Int) := by subst hB; simpa [std, sC] using hb
  omega
 rw [hout] at hlt
 refine wp_exit (wp_seq (rg hB TA_ok [4] [0] [] hF fun X7 a0 w1 hF => ?_))
 refine wp_ret ((rx hB TA_ok hF nAt [] (he := ?_)).1)
 subst hB
 rw [idx_miss (p := fun t => !coverB l (f t).key) hlt]
 exact zr
theorem enters124 : Enters Tryz.prog 124 := fun _ _ => by kernel_rfl
theorem hash_m0 (b : Nat) (A : Option Addr) (n c : Nat) (f : Nat → Itm) (hn : n ≤ 1000000) (l : Lab) (hb0 : U64 l.bits) (hki : ∀ i, i < n → U64 (f i).key) : SpecX Tryz.prog 124 [rowI A n c f, .fn 274 [] [.ptr 0 b 0]] [(0, ⟨b, 24, [.int .i64 l.len, .int .u64 l.bits]⟩)] (fun _ => ⟨.bool (.v (!decide ((covL l (firsts f n)).length = n))), [(0, [.int .i64 l.len, .int .u64 l.bits])], []⟩) := by
 intro m w hm hargs hpre
 have S := idxh_m0 b A n c f hn l hb0 hki
 have HC := idx_cases (fun t => !coverB l (f t).key) n
 generalize (idxF (fun t => !coverB l (f t).key) n) = ix at S HC
 unfold rowI at S hargs
 refine enX 9 hm hpre hargs Tryz.func124 fun B hB a0 hF => ?_
 refine wp_seq (rg hB TA_ok [0, 1] [0] [] hF fun X0 a0 w1 hF => ?_)
 refine wp_seq (rg hB TA_ok [4] [0] [(2, .x fun _ => ⟨.int .i64 ix, [(0, [.int .i64 l.len, .int .u64 l.bits])], []⟩)] hF (hob := ?hob) fun X1 a0 w1 hF => ?_)
 case hob =>
  intro X
  subst hB
  repeat (first | exact trivial | refine ⟨rfl, ?_⟩ | refine ⟨⟨show (0 : Int) ≤ (i : Int) by omega, show (i : Int) < (n : Int) by omega⟩, ?_⟩ | refine ⟨⟨enters145, S⟩, ?_⟩)
 refine wp_ret ((rx hB TA_ok hF nAt [] (he := ?_)).1)
 subst hB
 refine Sim.bool ?_
 show decide (ix ≥ 0) = !decide ((covL l (firsts f n)).length = n)
 rw [decide_eq_decide.2 (cov_firsts (l := l) (f := f) (n := n))]
 rcases HC with ⟨i, h1, h2, h3, h4⟩ | ⟨h1, h2⟩
 ·have h5 : ¬ ∀ i, i < n → coverB l (f i).key = true := fun h => by have := h i h1; simp [this] at h3
  rw [decide_eq_false h5, h2]; simp
 have h5 : ∀ i, i < n → coverB l (f i).key = true := fun i hi => by simpa using h2 i hi
 rw [decide_eq_true h5, h1]; rfl
theorem hash_m (k0 : Nat) (b : Nat) (A : Option Addr) (n c : Nat) (f : Nat → Itm) (hn : n ≤ 1000000) (l : Lab) (hb0 : U64 l.bits) (hki : ∀ i, i < n → U64 (f i).key) : SpecX Tryz.prog 124 [rowI A n c f, .fn 274 [] [.ptr k0 b 0]] [(k0, ⟨b, 24, [.int .i64 l.len, .int .u64 l.bits]⟩)] (fun _ => ⟨.bool (.v (!decide ((covL l (firsts f n)).length = n))), [(k0, [.int .i64 l.len, .int .u64 l.bits])], []⟩) :=
 (hash_m0 b A n c f hn l hb0 hki).re (by repeat (first | exact trivial | refine ⟨Sim.ptr, ?_⟩ | refine ⟨Sim.fn ⟨Sim.ptr, trivial⟩ trivial, ?_⟩ | refine ⟨Sim.fn trivial ⟨Sim.ptr, trivial⟩, ?_⟩ | refine ⟨zr, ?_⟩)) rfl (fun x => ⟨rfl, rfl, zr, rfl⟩)
theorem halves_no (A : Option Addr) (n c : Nat) (f : Nat → Itm) (hn : n ≤ 1000000) (kd : Int) (nx : Lab) (mk : Int) (hv : U64 nx.bits) (hki : ∀ i, i < n → U64 (f i).key) (l : Lab) (hb0 : U64 l.bits) (hil : (isRF kd n f nx mk && isL l) = false) : Spec Tryz.prog 246 [recI A n c f kd nx mk, labAV l] (fun x => .tup [recAV (x.A 0) (x.c 0) (halvR kd n f nx mk l).1, recAV (x.A 1) (x.c 1) (halvR kd n f nx mk l).2.1, .int .i64 (halvR kd n f nx mk l).2.2]) := by
 intro m w hm hargs
 have hmx : maxLen = 9223372036854775807 := rfl
 have SI := isR_s A n c f (by omega) kd nx mk hv
 have SL := isL_s l hb0
 unfold recI rowI at SI hargs
 simp only [labAV] at SL hargs
 obtain ⟨ir, hir⟩ := eqv (isRF kd n f nx mk)
 obtain ⟨il, hll⟩ := eqv (isL l)
 rw [← hir] at SI hil
 rw [← hll] at SL hil
 have hW : (halvR kd n f nx mk l) = (zeroRec, zeroRec, 1) := by unfold halvR; rw [← hir, ← hll, hil]; rfl
 refine en 79 hm hargs Tryz.func246 fun B hB a0 hF => ?_
 refine wp_seq (rg hB TA_ok [2, 3, 4, 5] [2, 3, 4, 5] [] hF fun X0 a0 w1 hF => ?_)
 refine wp_seq (rg hB TA_ok [7, 2, 3, 4, 5] [2, 3, 4, 5] [] hF fun X1 a0 w1 hF => ?_)
 refine wp_seq (wp_block (wp_seq (wp_region_lit (lpr 0 9 hB TA_ok [24, 7, 2, 3, 4, 5] [2, 3, 4, 5] [(1, .r fun _ => .bool (.v ir)), (5, .r fun _ => .bool (.v il))] hF (hob := ?hob) fun X2_0 a0 w1 hF => ?_))))
 case hob =>
  intro X
  subst hB
  repeat (first | exact trivial | refine ⟨rfl, ?_⟩ | refine ⟨fun _ => rfl, ?_⟩ | refine ⟨ob_lab (Kk := noK) _ _ _ _, ?_⟩ | refine ⟨fun _ => ob_lab (Kk := noK) _ _ _ _, ?_⟩ | refine ⟨⟨enters45, SI⟩, ?_⟩ | refine ⟨fun _ => ⟨enters45, SI⟩, ?_⟩ | refine ⟨⟨enters44, SL⟩, ?_⟩ | refine ⟨fun _ => ⟨enters44, SL⟩, ?_⟩)
 replace hF := hF.headS (v' := .bool .tt) (Sim.bool (by subst hB; show (if (!ir) = true then true else !il) = true; cases ir <;> cases il <;> first | rfl | (cases hil))) rfl
 refine lnd 9 hB TA_ok [15, 2, 3, 4, 5] [2, 3, 4, 5] [(1, .r fun _ => .bool (.v ir)), (5, .r fun _ => .bool (.v il))] hF (hob := ?hob) fun X2 a0 w1 hF => ?_
 case hob =>
  intro X
  subst hB
  repeat (first | exact trivial | refine ⟨rfl, ?_⟩ | refine ⟨fun _ => rfl, ?_⟩ | refine ⟨ob_lab (Kk := noK) _ _ _ _, ?_⟩ | refine ⟨fun _ => ob_lab (Kk := noK) _ _ _ _, ?_⟩)
 refine test_tt hF rfl (fun hF => ?_)
 refine wp_seq (rg hB TA_ok [4, 5, 6] [2, 3, 4, 5] [] hF (hob := ?hob) fun X3 a0 w1 hF => ?_)
 case hob =>
  intro X
  subst hB
  repeat (first | exact trivial | refine ⟨rfl, ?_⟩ | refine ⟨fun _ => rfl, ?_⟩ | refine ⟨ob_lab (Kk := noK) _ _ _ _, ?_⟩ | refine ⟨fun _ => ob_lab (Kk := noK) _ _ _ _, ?_⟩)
 refine wp_ret ((rsi hB TA_ok hF (⟨0, fun _ => none, fun _ => 0, fun _ => ⟨#[]⟩⟩) (he := ?_)))
 subst hB
 rw [hW]
 exact Sim.tup ⟨Sim.agg ⟨zr, zq0, zr, zr, zr, trivial⟩, Sim.agg ⟨zr, zq0, zr, zr, zr, trivial⟩, zr, trivial⟩
theorem halves_yes (A : Option Addr) (n c : Nat) (f : Nat → Itm) (hn : n ≤ 1000000) (kd : Int) (nx : Lab) (mk : Int) (hv : U64 nx.bits) (hki : ∀ i, i < n → U64 (f i).key) (l : Lab) (hb0 : U64 l.bits) (hil : (isRF kd n f nx mk && isL l) = true) : Spec Tryz.prog 246 [recI A n c f kd nx mk, labAV l] (fun x => .tup [recAV (x.A 0) (x.c 0) (halvR kd n f nx mk l).1, recAV (x.A 1) (x.c 1) (halvR kd n f nx mk l).2.1, .int .i64 (halvR kd n f nx mk l).2.2]) := by
 intro m w hm hargs
 have hmx : maxLen = 9223372036854775807 := rfl
 have SI := isR_s A n c f (by omega) kd nx mk hv
 have SL := isL_s l hb0
 unfold recI rowI at SI hargs
 simp only [labAV] at SL hargs
 obtain ⟨ir, hir⟩ := eqv (isRF kd n f nx mk)
 obtain ⟨il, hll⟩ := eqv (isL l)
 rw [← hir] at SI hil
 rw [← hll] at SL hil
 rw [Bool.and_eq_true] at hil
 have hLt : isL l = true := by rw [← hll]; exact hil.2
 obtain ⟨hl0, hl1, hl2⟩ := lab_parts hLt
 obtain ⟨hkd1, hkd5, hn16, hnl, hok⟩ := isRF_kind (hir.symm.trans hil.1)
 refine en 79 hm hargs Tryz.func246 fun B hB a0 hF => ?_
 refine wp_seq (rg hB TA_ok [2, 3, 4, 5] [2, 3, 4, 5] [] hF fun X0 a0 w1 hF => ?_)
 refine wp_seq (rg hB TA_ok [7, 2, 3, 4, 5] [2, 3, 4, 5] [] hF fun X1 a0 w1 hF => ?_)
 have SC := hash_m 3 (X0 1).b A n c f hn l hb0 hki
 obtain ⟨ca, hca⟩ := eqv (decide ((covL l (firsts f n)).length = n))
 rw [← hca] at SC
 unfold rowI at SC
 refine wp_seq (wp_block (wp_seq (wp_region_lit (lpr 0 9 hB TA_ok [24, 7, 2, 3, 4, 5] [2, 3, 4, 5] [(1, .r fun _ => .bool (.v ir)), (5, .r fun _ => .bool (.v il)), (12, .x fun _ => ⟨.bool (.v (!ca)), [(3, [.int .i64 l.len, .int .u64 l.bits])], []⟩)] hF (hob := ?hob) fun X2_0 a0 w1 hF => ?_))))
 case hob =>
  intro X
  subst hB
  repeat (first | exact trivial | refine ⟨rfl, ?_⟩ | refine ⟨fun _ => rfl, ?_⟩ | refine ⟨ob_lab (Kk := noK) _ _ _ _, ?_⟩ | refine ⟨fun _ => ob_lab (Kk := noK) _ _ _ _, ?_⟩ | refine ⟨⟨enters45, SI⟩, ?_⟩ | refine ⟨fun _ => ⟨enters45, SI⟩, ?_⟩ | refine ⟨⟨enters44, SL⟩, ?_⟩ | refine ⟨fun _ => ⟨enters44, SL⟩, ?_⟩)
 replace hF := hF.headS (v' := .bool .ff) (Sim.bool (by subst hB; show (if (!ir) = true then true else !il) = false; rw [hil.1, hil.2]; rfl)) rfl
 refine lnd 9 hB TA_ok [15, 2, 3, 4, 5] [2, 3, 4, 5] [(1, .r fun _ => .bool (.v ir)), (5, .r fun _ => .bool (.v il)), (12, .x fun _ => ⟨.bool (.v (!ca)), [(3, [.int .i64 l.len, .int .u64 l.bits])], []⟩)] hF (hob := ?hob) fun X2 a0 w1 hF => ?_
 case hob =>
  intro X
  subst hB
  repeat (first | exact trivial | refine ⟨rfl, ?_⟩ | refine ⟨fun _ => rfl, ?_⟩ | refine ⟨ob_lab (Kk := noK) _ _ _ _, ?_⟩ | refine ⟨fun _ => ob_lab (Kk := noK) _ _ _ _, ?_⟩ | refine ⟨⟨enters124, SC⟩, ?_⟩ | refine ⟨fun _ => ⟨enters124, SC⟩, ?_⟩)
 apply test_ok hF rfl <;> intro hb hF
 ·have hcf : ca = false := by
   have h9 : (!ca) = true := by subst hB; exact hb
   cases ca <;> first | rfl | (cases h9)
  have hW : (halvR kd n f nx mk l) = (zeroRec, zeroRec, 1) := by unfold halvR; rw [← hir, ← hll, ← hca, hil.1, hil.2, hcf]; rfl
  refine wp_seq (rg hB TA_ok [4, 5, 6] [2, 3, 4, 5] [] hF (hob := ?hob) fun X3 a0 w1 hF => ?_)
  case hob =>
   intro X
   subst hB
   repeat (first | exact trivial | refine ⟨rfl, ?_⟩ | refine ⟨fun _ => rfl, ?_⟩ | refine ⟨ob_lab (Kk := noK) _ _ _ _, ?_⟩ | refine ⟨fun _ => ob_lab (Kk := noK) _ _ _ _, ?_⟩)
  refine wp_ret ((rsi hB TA_ok hF (⟨0, fun _ => none, fun _ => 0, fun _ => ⟨#[]⟩⟩) (he := ?_)))
  subst hB
  rw [hW]
  exact Sim.tup ⟨Sim.agg ⟨zr, zq0, zr, zr, zr, trivial⟩, Sim.agg ⟨zr, zq0, zr, zr, zr, trivial⟩, zr, trivial⟩
 have hct : ca = true := by
  have h9 : (!ca) = false := by subst hB; exact hb
  cases ca <;> first | rfl | (cases h9)
 have hcn := of_decide_eq_true (hca.symm.trans hct)
 have hcc := cov_firsts.1 hcn
 refine wp_seq (rg hB TA_ok [32, 2, 3, 4, 5] [2, 3, 4, 5] [] hF fun X4 a0 w1 hF => ?_)
 apply test_ok hF rfl <;> intro hb hF
 ·have h9 : (if (!decide (kd = 1)) = true then !decide (kd = 3) else false) = true := by subst hB; exact hb
  have hk : kd ≠ 1 ∧ kd ≠ 3 := by
   rw [ite_and] at h9
   simpa using h9
  have hW : (halvR kd n f nx mk l) = (zeroRec, zeroRec, 13) := by unfold halvR; rw [← hir, ← hll, ← hca, hil.1, hil.2, hct, if_neg (by decide), if_pos hk]
  refine wp_seq (rg hB TA_ok [4, 5, 6] [2, 3, 4, 5] [] hF (hob := ?hob) fun X5 a0 w1 hF => ?_)
  case hob =>
   intro X
   subst hB
   repeat (first | exact trivial | refine ⟨rfl, ?_⟩ | refine ⟨fun _ => rfl, ?_⟩ | refine ⟨ob_lab (Kk := noK) _ _ _ _, ?_⟩ | refine ⟨fun _ => ob_lab (Kk := noK) _ _ _ _, ?_⟩)
  refine wp_ret ((rsi hB TA_ok hF (⟨0, fun _ => none, fun _ => 0, fun _ => ⟨#[]⟩⟩) (he := ?_)))
  subst hB
  rw [hW]
  exact Sim.tup ⟨Sim.agg ⟨zr, zq0, zr, zr, zr, trivial⟩, Sim.agg ⟨zr, zq0, zr, zr, zr, trivial⟩, zr, trivial⟩
 have h9 : (if (!decide (kd = 1)) = true then !decide (kd = 3) else false) = false := by subst hB; exact hb
 have hk : ¬ (kd ≠ 1 ∧ kd ≠ 3) := by
  intro h
  rw [ite_and] at h9
  simp [h.1, h.2] at h9
 refine wp_seq (rg hB TA_ok [43, 2, 3, 4, 5] [2, 3, 4, 5] [] hF (hob := ?hob) fun X6 a0 w1 hF => ?_)
 case hob =>
  intro X
  subst hB
  repeat (first | exact trivial | refine ⟨rfl, ?_⟩ | refine ⟨fun _ => rfl, ?_⟩ | refine ⟨ob_lab (Kk := noK) _ _ _ _, ?_⟩ | refine ⟨fun _ => ob_lab (Kk := noK) _ _ _ _, ?_⟩)
 apply test_ok hF rfl <;> intro hb hF
 ·have h64 : l.len = 64 := by subst hB; simpa [std, sC] using hb
  have hW : (halvR kd n f nx mk l) = (zeroRec, zeroRec, 5) := by unfold halvR; rw [← hir, ← hll, ← hca, hil.1, hil.2, hct, if_neg (by decide), if_neg hk, if_pos h64]
  refine wp_seq (rg hB TA_ok [4, 5, 6] [2, 3, 4, 5] [] hF (hob := ?hob) fun X7 a0 w1 hF => ?_)
  case hob =>
   intro X
   subst hB
   repeat (first | exact trivial | refine ⟨rfl, ?_⟩ | refine ⟨fun _ => rfl, ?_⟩ | refine ⟨ob_lab (Kk := noK) _ _ _ _, ?_⟩ | refine ⟨fun _ => ob_lab (Kk := noK) _ _ _ _, ?_⟩)
  refine wp_ret ((rsi hB TA_ok hF (⟨0, fun _ => none, fun _ => 0, fun _ => ⟨#[]⟩⟩) (he := ?_)))
  subst hB
  rw [hW]
  exact Sim.tup ⟨Sim.agg ⟨zr, zq0, zr, zr, zr, trivial⟩, Sim.agg ⟨zr, zq0, zr, zr, zr, trivial⟩, zr, trivial⟩
 have h64 : l.len ≠ 64 := by subst hB; simpa [std, sC] using hb
 obtain ⟨k, hk1⟩ := eqv (childL l 1)
 have SCH := child_s l hb0 1 (.inr rfl)
 rw [(ch_ok (b := 1) hLt h64).1, (ch_ok (b := 1) hLt h64).2, ← hk1] at SCH
 simp only [labAV] at SCH
 have SA := at_s A n c f hn k.bits
 obtain ⟨p, hp⟩ := eqv (bsF f k.bits 0 n)
 rw [← hp] at SA
 rw [hk1] at hp
 obtain ⟨hpn, hc0, hc1⟩ := half_lists hok hki hLt hb0 h64 hcc hp
 generalize hitF f k.bits n p = hh at SA
 unfold rowI at SA
 have hW : (halvR kd n f nx mk l) = (⟨1, covL (childL l 0) (firsts f n), childL l 1, 0⟩, ⟨1, covL (childL l 1) (firsts f n), nx, 0⟩, 0) := by unfold halvR; rw [← hir, ← hll, ← hca, hil.1, hil.2, hct, if_neg (by decide), if_neg hk, if_neg h64]
 rw [hc0, hc1, ← hk1] at hW
 have SC0 := fun A c => clone_sf A p c f (by omega)
 obtain ⟨r, hr⟩ := eqv (n - p)
 rw [← hr] at hW
 have SC1 := fun A c => clone_sf A r c (fun j => f (p + j)) (by omega)
 unfold rowI at SC0 SC1
 refine wp_skip (wp_seq (rg hB TA_ok [2, 4, 5, 8] [2, 8, 4, 5] [(1, .r fun _ => .tup [.agg [.int .i64 k.len, .int .u64 k.bits], .int .i64 0])] hF (hob := ?hob) fun X8 a0 w1 hF => ?_))
 case hob =>
  intro X
  subst hB
  repeat (first | exact trivial | refine ⟨rfl, ?_⟩ | refine ⟨fun _ => rfl, ?_⟩ | refine ⟨ob_lab (Kk := noK) _ _ _ _, ?_⟩ | refine ⟨fun _ => ob_lab (Kk := noK) _ _ _ _, ?_⟩ | refine ⟨⟨enters170, SCH⟩, ?_⟩ | refine ⟨fun _ => ⟨enters170, SCH⟩, ?_⟩)
 refine wp_seq (rg hB TA_ok [2, 4, 5, 8, 10] [2, 8, 4, 5] [(4, .r fun _ => .tup [.int .i64 (p : Int), .bool (.v hh)])] hF (hob := ?hob) fun X9 a0 w1 hF => ?_)
 case hob =>
  intro X
  subst hB
  repeat (first | exact trivial | refine ⟨rfl, ?_⟩ | refine ⟨fun _ => rfl, ?_⟩ | refine ⟨ob_lab (Kk := noK) _ _ _ _, ?_⟩ | refine ⟨fun _ => ob_lab (Kk := noK) _ _ _ _, ?_⟩ | refine ⟨⟨enters213, SA⟩, ?_⟩ | refine ⟨fun _ => ⟨enters213, SA⟩, ?_⟩)
 refine wp_seq (drg hB TA_ok [2, 4, 5, 8, 10, 12] [2, 8, 12, 4, 5] [(4, .r fun x => .sl none (x.A 0) p (x.c 0) 2 (fun i => itC (f i)))] hF (hob := ?hob) fun X10 a0 w1 hF => ?_)
 case hob =>
  intro X
  subst hB
  refine ⟨rfl, ?_⟩
  refine ⟨⟨Int.le_refl _, show (0 : Int) ≤ (p : Int) by omega, show (p : Int) ≤ (n : Int) by omega⟩, ?_⟩
  refine ⟨⟨enters90, (SC0 _ _).sim ⟨Sim.resl (Nat.sub_zero p) (fun i hi => by show itC (f (0 + i)) = itC (f i); rw [Nat.zero_add]), trivial⟩⟩, ?_⟩
  repeat (first | exact trivial | refine ⟨rfl, ?_⟩ | refine ⟨⟨enters90, (SC0 _ _).sim ⟨Sim.resl (Nat.sub_zero p) (fun i hi => by show itC (f (0 + i)) = itC (f i); rw [Nat.zero_add]), trivial⟩⟩, ?_⟩ | refine ⟨⟨Int.le_refl _, show (0 : Int) ≤ (p : Int) by omega, show (p : Int) ≤ (n : Int) by omega⟩, ?_⟩ | refine ⟨⟨show (0 : Int) ≤ 0 by omega, show (0 : Int) ≤ (p : Int) by omega, show (p : Int) ≤ (c : Int) by omega⟩, ?_⟩)
 refine wp_seq (drg hB TA_ok [4, 5, 12, 13] [12, 13, 4, 5] [(4, .r fun x => .sl none (x.A 0) r (x.c 0) 2 (fun i => itC (f (p + i))))] hF (hob := ?hob) fun X11 a0 w1 hF => ?_)
 case hob =>
  intro X
  subst hB
  repeat (first | exact trivial | refine ⟨rfl, ?_⟩ | refine ⟨⟨enters90, (SC1 _ _).sim ⟨Sim.resl (show _ = r by rw [hr]; rfl) (fun i hi => rfl), trivial⟩⟩, ?_⟩ | refine ⟨⟨show (0 : Int) ≤ (p : Int) by omega, show (p : Int) ≤ (n : Int) by omega, Int.le_refl _⟩, ?_⟩)
 refine wp_seq (drg hB TA_ok [4, 5, 6] [4, 5] [] hF (hob := ?hob) fun X12 a0 w1 hF => ?_)
 case hob =>
  intro X
  subst hB
  repeat (first | exact trivial | refine ⟨rfl, ?_⟩ | refine ⟨fun _ => rfl, ?_⟩ | refine ⟨ob_lab (Kk := noK) _ _ _ _, ?_⟩ | refine ⟨fun _ => ob_lab (Kk := noK) _ _ _ _, ?_⟩)
 refine wp_ret ((rsi hB TA_ok hF (⟨0, fun i => if i = 0 then (X10 4).A 0 else (X11 4).A 0, fun i => if i = 0 then (X10 4).c 0 else (X11 4).c 0, fun _ => ⟨#[]⟩⟩) (he := ?_)))
 subst hB
 rw [hW]
 exact Sim.tup ⟨Sim.agg ⟨zr, Sim.resl (firsts_len f p).symm (fun t ht => by rw [firsts_len] at ht; rw [firsts_get f p t ht]), zr, zr, zr, trivial⟩, Sim.agg ⟨zr, Sim.resl (firsts_len _ r).symm (fun t ht => by rw [firsts_len] at ht; rw [firsts_get _ r t ht]), zr, zr, zr, trivial⟩, zr, trivial⟩
theorem rhalves_s (A : Option Addr) (n c : Nat) (f : Nat → Itm) (hn : n ≤ 1000000) (kd : Int) (nx : Lab) (mk : Int) (hv : U64 nx.bits) (hki : ∀ i, i < n → U64 (f i).key) (l : Lab) (hb0 : U64 l.bits) : Spec Tryz.prog 220 [recI A n c f kd nx mk, labAV l] (fun x => .tup [recAV (x.A 0) (x.c 0) (halvR kd n f nx mk l).1, recAV (x.A 1) (x.c 1) (halvR kd n f nx mk l).2.1, .int .i64 (halvR kd n f nx mk l).2.2]) := by
 intro m w hm hargs
 have hmx : maxLen = 9223372036854775807 := rfl
 have SI := risR_s A n c f (by omega) kd nx mk hv
 have SL := risL_s l hb0
 have SV := covd_s A n c f hn kd nx mk l hb0 hki
 unfold recI rowI at SI SV hargs
 simp only [labAV] at SL SV hargs
 obtain ⟨ir, hir⟩ := eqv (isRF kd n f nx mk)
 obtain ⟨il, hll⟩ := eqv (isL l)
 rw [← hir] at SI
 rw [← hll] at SL
 obtain ⟨n1, hn1⟩ := eqv ((covL l (firsts f n)).length)
 obtain ⟨g1, hg1⟩ := eqv (itF (covL l (firsts f n)))
 rw [← hn1, ← hg1] at SV
 refine en 71 hm hargs Tryz.func220 fun B hB a0 hF => ?_
 refine wp_seq (rg hB TA_ok [2, 3, 4, 5] [2, 3, 4, 5] [] hF fun X0 a0 w1 hF => ?_)
 refine wp_seq (wp_seq (drg hB TA_ok [30, 2, 3, 4, 5] [2, 3, 4, 5] [(1, .r fun _ => .bool (.v ir)), (5, .r fun _ => .bool (.v il)), (11, .r fun x => .sl none (x.A 0) n1 (x.c 0) 2 (fun i => itC (g1 i)))] hF (hob := ?hob) fun X1 a0 w1 hF => ?_))
 case hob =>
  intro X
  subst hB
  repeat (first | exact trivial | refine ⟨rfl, ?_⟩ | refine ⟨fun _ => rfl, ?_⟩ | refine ⟨ob_lab (Kk := noK) _ _ _ _, ?_⟩ | refine ⟨fun _ => ob_lab (Kk := noK) _ _ _ _, ?_⟩ | refine ⟨⟨enters147, SI⟩, ?_⟩ | refine ⟨fun _ => ⟨enters147, SI⟩, ?_⟩ | refine ⟨⟨enters148, SL⟩, ?_⟩ | refine ⟨fun _ => ⟨enters148, SL⟩, ?_⟩ | refine ⟨⟨enters254, SV⟩, ?_⟩ | refine ⟨fun _ => ⟨enters254, SV⟩, ?_⟩)
 apply test_ok hF rfl <;> intro hb hF
 ·have h9 : (if (if (!ir) = true then true else !il) = true then true else !decide ((n1 : Int) = (n : Int))) = true := by subst hB; exact hb
  have hW : (halvR kd n f nx mk l) = (zeroRec, zeroRec, 1) := by
   unfold halvR; rw [← hir, ← hll, ← hn1]
   have : (ir && il && decide (n1 = n)) = false := by
    cases ir <;> cases il <;> first | rfl | (simp at h9 ⊢; omega)
   rw [this]; rfl
  refine wp_seq (rg hB TA_ok [4, 5, 6] [4, 5] [] hF (hob := ?hob) fun X2 a0 w1 hF => ?_)
  case hob =>
   intro X
   subst hB
   repeat (first | exact trivial | refine ⟨rfl, ?_⟩ | refine ⟨fun _ => rfl, ?_⟩ | refine ⟨ob_lab (Kk := noK) _ _ _ _, ?_⟩ | refine ⟨fun _ => ob_lab (Kk := noK) _ _ _ _, ?_⟩)
  refine wp_ret ((rsi hB TA_ok hF (⟨0, fun _ => none, fun _ => 0, fun _ => ⟨#[]⟩⟩) (he := ?_)))
  subst hB
  rw [hW]
  exact Sim.tup ⟨Sim.agg ⟨zr, zq0, zr, zr, zr, trivial⟩, Sim.agg ⟨zr, zq0, zr, zr, zr, trivial⟩, zr, trivial⟩
 have h9 : (if (if (!ir) = true then true else !il) = true then true else !decide ((n1 : Int) = (n : Int))) = false := by subst hB; exact hb
 have hirt : ir = true := by cases ir <;> first | rfl | (simp at h9)
 have hilt : il = true := by rw [hirt] at h9; cases il <;> first | rfl | (simp at h9)
 have hnn : n1 = n := by
  rw [hirt, hilt] at h9
  simp at h9
  omega
 have hLt : isL l = true := by rw [← hll]; exact hilt
 obtain ⟨hl0, hl1, hl2⟩ := lab_parts hLt
 obtain ⟨hkd1, hkd5, hn16, hnl, hok⟩ := isRF_kind (hir.symm.trans hirt)
 have hcn : (covL l (firsts f n)).length = n := by rw [← hn1]; exact hnn
 refine wp_skip (wp_seq (wp_seq (rg hB TA_ok [40, 2, 3, 4, 5] [2, 3, 4, 5] [] hF fun X3 a0 w1 hF => ?_)))
 apply test_ok hF rfl <;> intro hb hF
 ·have h9 : (if (!decide (kd = 1)) = true then !decide (kd = 3) else false) = true := by subst hB; exact hb
  have hk : kd ≠ 1 ∧ kd ≠ 3 := by
   rw [ite_and] at h9
   simpa using h9
  have hW : (halvR kd n f nx mk l) = (zeroRec, zeroRec, 13) := by unfold halvR; rw [← hir, ← hll, hcn, hirt, hilt, decide_eq_true rfl, if_neg (by decide), if_pos hk]
  refine wp_seq (rg hB TA_ok [4, 5, 6] [4, 5] [] hF (hob := ?hob) fun X4 a0 w1 hF => ?_)
  case hob =>
   intro X
   subst hB
   repeat (first | exact trivial | refine ⟨rfl, ?_⟩ | refine ⟨fun _ => rfl, ?_⟩ | refine ⟨ob_lab (Kk := noK) _ _ _ _, ?_⟩ | refine ⟨fun _ => ob_lab (Kk := noK) _ _ _ _, ?_⟩)
  refine wp_ret ((rsi hB TA_ok hF (⟨0, fun _ => none, fun _ => 0, fun _ => ⟨#[]⟩⟩) (he := ?_)))
  subst hB
  rw [hW]
  exact Sim.tup ⟨Sim.agg ⟨zr, zq0, zr, zr, zr, trivial⟩, Sim.agg ⟨zr, zq0, zr, zr, zr, trivial⟩, zr, trivial⟩
 have h9 : (if (!decide (kd = 1)) = true then !decide (kd = 3) else false) = false := by subst hB; exact hb
 have hk : ¬ (kd ≠ 1 ∧ kd ≠ 3) := by
  intro h
  rw [ite_and] at h9
  simp [h.1, h.2] at h9
 refine wp_skip (wp_seq (wp_seq (rg hB TA_ok [45, 2, 3, 4, 5] [2, 3, 4, 5] [] hF (hob := ?hob) fun X5 a0 w1 hF => ?_)))
 case hob =>
  intro X
  subst hB
  repeat (first | exact trivial | refine ⟨rfl, ?_⟩ | refine ⟨fun _ => rfl, ?_⟩ | refine ⟨ob_lab (Kk := noK) _ _ _ _, ?_⟩ | refine ⟨fun _ => ob_lab (Kk := noK) _ _ _ _, ?_⟩)
 apply test_ok hF rfl <;> intro hb hF
 ·have h64 : l.len = 64 := by subst hB; simpa [std, sC] using hb
  have hW : (halvR kd n f nx mk l) = (zeroRec, zeroRec, 5) := by unfold halvR; rw [← hir, ← hll, hcn, hirt, hilt, decide_eq_true rfl, if_neg (by decide), if_neg hk, if_pos h64]
  refine wp_seq (rg hB TA_ok [4, 5, 6] [4, 5] [] hF (hob := ?hob) fun X6 a0 w1 hF => ?_)
  case hob =>
   intro X
   subst hB
   repeat (first | exact trivial | refine ⟨rfl, ?_⟩ | refine ⟨fun _ => rfl, ?_⟩ | refine ⟨ob_lab (Kk := noK) _ _ _ _, ?_⟩ | refine ⟨fun _ => ob_lab (Kk := noK) _ _ _ _, ?_⟩)
  refine wp_ret ((rsi hB TA_ok hF (⟨0, fun _ => none, fun _ => 0, fun _ => ⟨#[]⟩⟩) (he := ?_)))
  subst hB
  rw [hW]
  exact Sim.tup ⟨Sim.agg ⟨zr, zq0, zr, zr, zr, trivial⟩, Sim.agg ⟨zr, zq0, zr, zr, zr, trivial⟩, zr, trivial⟩
 have h64 : l.len ≠ 64 := by subst hB; simpa [std, sC] using hb
 obtain ⟨k0, hk0⟩ := eqv (childL l 0)
 have SCH0 := rchild_s l hb0 0 (by decide)
 rw [(ch_ok (b := 0) hLt h64).1, (ch_ok (b := 0) hLt h64).2, ← hk0] at SCH0
 have SV0 := covd_s A n c f hn kd nx mk k0 (by rw [hk0]; exact child_u hLt hb0 h64 0) hki
 obtain ⟨m0, hm0⟩ := eqv ((covL k0 (firsts f n)).length)
 obtain ⟨h0, hh0⟩ := eqv (itF (covL k0 (firsts f n)))
 rw [← hm0, ← hh0] at SV0
 unfold recI rowI at SV0
 simp only [labAV] at SCH0 SV0
 obtain ⟨k1, hk1⟩ := eqv (childL l 1)
 have SCH1 := rchild_s l hb0 1 (by decide)
 rw [(ch_ok (b := 1) hLt h64).1, (ch_ok (b := 1) hLt h64).2, ← hk1] at SCH1
 have SV1 := covd_s A n c f hn kd nx mk k1 (by rw [hk1]; exact child_u hLt hb0 h64 1) hki
 obtain ⟨m1, hm1⟩ := eqv ((covL k1 (firsts f n)).length)
 obtain ⟨h1, hh1⟩ := eqv (itF (covL k1 (firsts f n)))
 rw [← hm1, ← hh1] at SV1
 unfold recI rowI at SV1
 simp only [labAV] at SCH1 SV1
 have hW : (halvR kd n f nx mk l) = (⟨1, covL k0 (firsts f n), k1, 0⟩, ⟨1, covL k1 (firsts f n), nx, 0⟩, 0) := by unfold halvR; rw [← hir, ← hll, hcn, hirt, hilt, decide_eq_true rfl, if_neg (by decide), if_neg hk, if_neg h64, hk0, hk1]
 refine wp_skip (wp_seq (rg hB TA_ok [2, 3, 4, 5, 7] [2, 3, 4, 5, 7] [(1, .r fun _ => .tup [.agg [.int .i64 k0.len, .int .u64 k0.bits], .int .i64 0])] hF (hob := ?hob) fun X7 a0 w1 hF => ?_))
 case hob =>
  intro X
  subst hB
  repeat (first | exact trivial | refine ⟨rfl, ?_⟩ | refine ⟨fun _ => rfl, ?_⟩ | refine ⟨ob_lab (Kk := noK) _ _ _ _, ?_⟩ | refine ⟨fun _ => ob_lab (Kk := noK) _ _ _ _, ?_⟩ | refine ⟨⟨enters136, SCH0⟩, ?_⟩ | refine ⟨fun _ => ⟨enters136, SCH0⟩, ?_⟩)
 refine wp_seq (rg hB TA_ok [2, 4, 5, 7, 9] [2, 4, 5, 7, 9] [(1, .r fun _ => .tup [.agg [.int .i64 k1.len, .int .u64 k1.bits], .int .i64 0])] hF (hob := ?hob) fun X8 a0 w1 hF => ?_)
 case hob =>
  intro X
  subst hB
  repeat (first | exact trivial | refine ⟨rfl, ?_⟩ | refine ⟨fun _ => rfl, ?_⟩ | refine ⟨ob_lab (Kk := noK) _ _ _ _, ?_⟩ | refine ⟨fun _ => ob_lab (Kk := noK) _ _ _ _, ?_⟩ | refine ⟨⟨enters136, SCH1⟩, ?_⟩ | refine ⟨fun _ => ⟨enters136, SCH1⟩, ?_⟩)
 refine wp_seq (drg hB TA_ok [2, 4, 5, 9, 11] [2, 4, 5, 9, 11] [(2, .r fun x => .sl none (x.A 0) m0 (x.c 0) 2 (fun i => itC (h0 i)))] hF (hob := ?hob) fun X9 a0 w1 hF => ?_)
 case hob =>
  intro X
  subst hB
  repeat (first | exact trivial | refine ⟨rfl, ?_⟩ | refine ⟨fun _ => rfl, ?_⟩ | refine ⟨ob_lab (Kk := noK) _ _ _ _, ?_⟩ | refine ⟨fun _ => ob_lab (Kk := noK) _ _ _ _, ?_⟩ | refine ⟨⟨enters254, SV0⟩, ?_⟩ | refine ⟨fun _ => ⟨enters254, SV0⟩, ?_⟩)
 refine wp_seq (drg hB TA_ok [4, 5, 11, 12] [4, 5, 11, 12] [(2, .r fun x => .sl none (x.A 0) m1 (x.c 0) 2 (fun i => itC (h1 i)))] hF (hob := ?hob) fun X10 a0 w1 hF => ?_)
 case hob =>
  intro X
  subst hB
  repeat (first | exact trivial | refine ⟨rfl, ?_⟩ | refine ⟨fun _ => rfl, ?_⟩ | refine ⟨ob_lab (Kk := noK) _ _ _ _, ?_⟩ | refine ⟨fun _ => ob_lab (Kk := noK) _ _ _ _, ?_⟩ | refine ⟨⟨enters254, SV1⟩, ?_⟩ | refine ⟨fun _ => ⟨enters254, SV1⟩, ?_⟩)
 refine wp_seq (drg hB TA_ok [4, 5, 6] [4, 5] [] hF (hob := ?hob) fun X11 a0 w1 hF => ?_)
 case hob =>
  intro X
  subst hB
  repeat (first | exact trivial | refine ⟨rfl, ?_⟩ | refine ⟨fun _ => rfl, ?_⟩ | refine ⟨ob_lab (Kk := noK) _ _ _ _, ?_⟩ | refine ⟨fun _ => ob_lab (Kk := noK) _ _ _ _, ?_⟩)
 refine wp_ret ((rsi hB TA_ok hF (⟨0, fun i => if i = 0 then (X9 2).A 0 else (X10 2).A 0, fun i => if i = 0 then (X9 2).c 0 else (X10 2).c 0, fun _ => ⟨#[]⟩⟩) (he := ?_)))
 subst hB
 rw [hW]
 exact Sim.tup ⟨Sim.agg ⟨zr, Sim.resl hm0 (fun t ht => by rw [hh0]), zr, zr, zr, trivial⟩, Sim.agg ⟨zr, Sim.resl hm1 (fun t ht => by rw [hh1]), zr, zr, zr, trivial⟩, zr, trivial⟩
theorem two_pos {n : Nat} {m : Bool} (h : (if decide ((n : Int) > 0) = true then m else false) = true) : 0 < n ∧ m = true := by
 rw [ite_and, Bool.and_eq_true, decide_eq_true_eq] at h
 exact ⟨by omega, h.2⟩
theorem uni_ixA {n N : Nat} (hn : n ≤ 1000) (h : (if decide ((n : Int) > 0) = true then decide ((n : Int) < (N : Int)) else false) = true) : 0 ≤ IntKind.i64.wrap ((n : Int) - 1) ∧ IntKind.i64.wrap ((n : Int) - 1) < (N : Int) := by
 obtain ⟨h1, h2⟩ := two_pos h
 have h2 := of_decide_eq_true h2
 rw [wrap_in (by omega) (by omega)]
 omega
theorem uni_ixB {n N : Nat} (h : (if decide ((n : Int) > 0) = true then decide ((n : Int) < (N : Int)) else false) = true) : 0 ≤ (n : Int) ∧ (n : Int) < (N : Int) := by
 obtain ⟨h1, h2⟩ := two_pos h
 have h2 := of_decide_eq_true h2
 omega
theorem uni_ixC {n n2 : Nat} (hn : n ≤ 1000) (h : (if decide ((n : Int) > 0) = true then decide ((n2 : Int) > 0) else false) = true) : 0 ≤ IntKind.i64.wrap ((n : Int) - 1) ∧ IntKind.i64.wrap ((n : Int) - 1) < (n : Int) := by
 obtain ⟨h1, h2⟩ := two_pos h
 rw [wrap_in (by omega) (by omega)]
 omega
theorem uni_ixD {n n2 : Nat} (h : (if decide ((n : Int) > 0) = true then decide ((n2 : Int) > 0) else false) = true) : 0 ≤ (0 : Int) ∧ (0 : Int) < (n2 : Int) := by
 obtain ⟨h1, h2⟩ := two_pos h
 have h2 := of_decide_eq_true h2
 omega
def catF (n : Nat) (f f2 : Nat → Itm) : Nat → Itm := fun t => if t < n then f t else f2 (t - n)
def catL (NN : Nat → Nat) (FF : Nat → Nat → Itm) (k : Nat) : List Itm := (List.range k).flatMap fun i => firsts (FF i) (NN i)
theorem catL_succ (NN : Nat → Nat) (FF : Nat → Nat → Itm) (k : Nat) : catL NN FF (k + 1) = catL NN FF k ++ firsts (FF k) (NN k) := by simp [catL, List.range_succ]
theorem catL_two (n n2 : Nat) (f f2 : Nat → Itm) : catL (fun i => if i = 0 then n else n2) (fun i => if i = 0 then f else f2) 2 = firsts f n ++ firsts f2 n2 := by simp [catL, List.range_succ]
theorem catF_firsts (q m : Nat) (g h : Nat → Itm) : firsts (catF q g h) (q + m) = firsts g q ++ firsts h m := by
 rw [firsts_add]
 congr 1
 ·unfold firsts catF
  apply List.map_congr_left
  intro t ht
  rw [if_pos (List.mem_range.1 ht)]
 unfold firsts catF
 apply List.map_congr_left
 intro t ht
 rw [if_neg (by omega)]
 congr 1
 omega
theorem cat_at (f : Nat → Itm) (n : Nat) (f2 : Nat → Itm) (n2 t : Nat) (h : t < n + n2) : itF (firsts f n ++ firsts f2 n2) t = catF n f f2 t := by
 rw [← catF_firsts, firsts_get _ _ t h]
theorem ov_test (f : Nat → Itm) (n : Nat) (f2 : Nat → Itm) (n2 : Nat) (hn : n ≤ 1000) (hn2 : n2 ≤ 1000) {b : Bool} : (if b = true then true else (if (if decide ((n : Int) > 0) = true then decide ((n : Int) < ((n + n2 : Nat) : Int)) else false) = true then decide ((itF (firsts f n ++ firsts f2 n2) (IntKind.i64.wrap ((n : Int) - 1)).toNat).key ≥ (itF (firsts f n ++ firsts f2 n2) (n : Int).toNat).key) else false)) = (if b = true then true else ovl n f n2 f2) := by
 congr 1
 unfold ovl
 by_cases h1 : 0 < n
 ·by_cases h2 : 0 < n2
  ·have e1 : IntKind.i64.wrap ((n : Int) - 1) = (n : Int) - 1 := wrap_in (by omega) (by omega)
   rw [e1, Int.toNat_natCast, show ((n : Int) - 1).toNat = n - 1 by omega, cat_at _ _ _ _ _ (show n - 1 < n + n2 by omega), cat_at _ _ _ _ _ (show n < n + n2 by omega)]
   have c1 : catF n f f2 (n - 1) = f (n - 1) := by unfold catF; rw [if_pos (by omega)]
   have c2 : catF n f f2 n = f2 0 := by unfold catF; rw [if_neg (by omega), Nat.sub_self]
   rw [c1, c2]
   have a : decide ((n : Int) > 0) = true := by simp; omega
   have b : decide ((n : Int) < ((n + n2 : Nat) : Int)) = true := by simp; omega
   rw [a, b, decide_eq_true h1, decide_eq_true h2]
   simp
  have b : decide ((n : Int) < ((n + n2 : Nat) : Int)) = false := by simp; omega
  rw [b, decide_eq_false h2]
  simp
 have a : decide ((n : Int) > 0) = false := by simp; omega
 rw [a, decide_eq_false h1]
 simp
theorem ov_test2 (f : Nat → Itm) (n : Nat) (f2 : Nat → Itm) (n2 : Nat) (hn : n ≤ 1000) : (if (if decide ((n : Int) > 0) = true then decide ((n2 : Int) > 0) else false) = true then decide ((f (IntKind.i64.wrap ((n : Int) - 1)).toNat).key ≥ (f2 (0 : Int).toNat).key) else false) = ovl n f n2 f2 := by
 unfold ovl
 by_cases h1 : 0 < n
 ·have e1 : IntKind.i64.wrap ((n : Int) - 1) = (n : Int) - 1 := wrap_in (by omega) (by omega)
  have a : decide ((n : Int) > 0) = true := by simp; omega
  rw [e1, show ((n : Int) - 1).toNat = n - 1 by omega, a, decide_eq_true h1]
  by_cases h2 : 0 < n2
  ·have b : decide ((n2 : Int) > 0) = true := by simp; omega
   rw [b, decide_eq_true h2]
   simp
  have b : decide ((n2 : Int) > 0) = false := by simp; omega
  rw [b, decide_eq_false h2]
  simp
 have a : decide ((n : Int) > 0) = false := by simp; omega
 rw [a, decide_eq_false h1]
 simp
theorem kind_test (kd kd2 : Int) : ((if (if (!decide (kd = 1)) = true then !decide (kd = 5) else false) = true then true else (if (!decide (kd2 = 1)) = true then !decide (kd2 = 5) else false)) = true → ¬ (kd = 1 ∨ kd = 5) ∨ ¬ (kd2 = 1 ∨ kd2 = 5)) ∧
  ((if (if (!decide (kd = 1)) = true then !decide (kd = 5) else false) = true then true else (if (!decide (kd2 = 1)) = true then !decide (kd2 = 5) else false)) = false → ¬ (¬ (kd = 1 ∨ kd = 5) ∨ ¬ (kd2 = 1 ∨ kd2 = 5))) := by
 rw [ite_and, ite_and, ite_or]
 constructor
 ·intro h
  simp at h
  omega
 intro h
 simp at h
 omega
theorem enters285 : Enters Tryz.prog 285 := fun _ _ => by kernel_rfl
theorem enters275 : Enters Tryz.prog 275 := fun _ _ => by kernel_rfl
theorem concat_s (A0 : Option Addr) (k c0 : Nat) (AA : Nat → Option Addr) (NN CC : Nat → Nat) (FF : Nat → Nat → Itm) (hk : k ≤ 10) (hN : ∀ i, i < k → NN i ≤ 1000) : Spec Tryz.prog 275 [.sl none A0 k c0 1 (fun i => [.sl none (AA i) (NN i) (CC i) 2 (fun t => itC (FF i t))])] (fun x => rowI (x.A 0) (catL NN FF k).length (x.c 0) (itF (catL NN FF k))) := by
 intro m w hm hargs
 have hmx : maxLen = 9223372036854775807 := rfl
 refine en 36 hm hargs Tryz.func275 fun B hB a0 hF => ?_
 refine wp_seq (rg hB TA_ok [0] [] [] hF fun X0 a0 w1 hF => ?_)
 refine wp_seq (rg hB TA_ok [3, 0] [] [] hF fun X1 a0 w1 hF => ?_)
 refine wp_seq (wp_seq (rg hB TA_ok [3, 11, 0, 9, 10] [] [] hF fun X2 a0 w1 hF => ?_))
 refine wp_block (loop_pre (ι := Nat × Nat) (fun p => [(3, .int .i64 (p.2 : Int)), (11, .int .i64 (p.1 : Int))]) (fun p => []) (fun p => []) (fun p => p.1 ≤ k ∧ p.2 = (catL NN FF p.1).length ∧ p.2 ≤ 1000 * p.1) (fun p => k - p.1) (0, 0) ⟨Nat.zero_le _, rfl, Nat.le_refl _⟩ hF ?_)
 rintro ⟨i, z⟩ ⟨hi, hz, hzb⟩ a0 w1 hF
 try dsimp only at hi
 try dsimp only at hz
 try dsimp only at hzb
 refine wp_seq (rg hB TA_ok [12, 3, 11, 0, 9, 10] [] [] hF fun X3 a0 w1 hF => ?_)
 refine wp_seq (test_ok hF rfl (fun hb hF => ?_) (fun hb hF => ?_))
 ·have hin : i < k := by
   have : (i : Int) < (k : Int) := by subst hB; simpa [std, sC] using hb
   omega
  have hNi := hN i hin
  refine wp_skip (wp_seq (wp_block (wp_seq (rg hB TA_ok [5, 3, 11, 0, 9, 10] [] [] hF (hob := ?hob) fun X4 a0 w1 hF => ?_))))
  case hob =>
   intro X
   subst hB
   repeat (first | exact trivial | refine ⟨rfl, ?_⟩ | refine ⟨⟨show (0 : Int) ≤ (i : Int) by omega, show (i : Int) < (k : Int) by omega⟩, ?_⟩)
  refine wp_seq (rg hB TA_ok [3, 11, 0, 9, 10] [] [] hF fun X5 a0 w1 hF => ?_)
  obtain ⟨z2, hz2⟩ := eqv (z + NN i)
  replace hF := hF.head (v' := .int .i64 (z2 : Int)) (by
   subst hB
   show AV.int .i64 (IntKind.i64.wrap ((z : Int) + (NN i : Int))) = _
   rw [wrap_in (by omega) (by omega), hz2]; rfl)
  refine wp_seq (rg hB TA_ok [20, 3, 11, 0, 9, 10] [] [] hF fun X6 a0 w1 hF => ?_)
  apply test_ok hF rfl <;> intro hb hF
  ·exfalso
   have : (z2 : Int) < 0 := by subst hB; simpa [std, sC] using hb
   omega
  skip
  refine wp_skip (rg hB TA_ok [3, 11, 0, 9, 10] [] [] hF fun X8 a0 w1 hF => ?_)
  have e : B.arith .add .i64 (i : Int) 1 = ((i + 1 : Nat) : Int) := by subst hB; exact wrap_succ (n := k) hin (by omega)
  refine ⟨(i + 1, z2), ⟨by simp only; omega, ?_, by simp only; omega⟩, by simp only; omega, by rw [← e]; exact hF⟩
  simp only
  rw [hz2, catL_succ, List.length_append, firsts_len, ← hz]
 have hout : i = k := by
  have : ¬ (i : Int) < (k : Int) := by subst hB; simpa [std, sC] using hb
  omega
 rw [hout] at hz hzb
 refine wp_exit (wp_seq (wp_region_lit (lpr 0 1 hB TA_ok [23, 0] [] [] hF fun X9_0 a0 w1 hF => ?_)))
 have ev := eval_int hF (t := 23) (k := .i64) (n := (z : Int)) rfl
 refine man_fresh2 (argv := #[.slice none 0 0, .int .i64 (z : Int)]) rfl rfl rfl rfl rfl hF (by have e2 := ev; simp [Act.eval] at e2 ⊢; exact e2) enters285 (by show 24 < 36; decide) (e := 60) (k := 2) (by decide) (fun t => itC zeroItm) (grow_c w1 z (by omega)) ?_
 intro A9 c9 a0 w1 hF
 refine lnd 2 hB TA_ok [6, 0] [24] [] hF fun X9 a0 w1 hF => ?_
 refine wp_seq (wp_seq (rg hB TA_ok [6, 27, 25, 26] [24] [] hF fun X10 a0 w1 hF => ?_))
 refine wp_block (loop_pre (ι := Nat × Nat × (Nat → Itm) × Option Addr × Nat) (fun p => [(6, .sl (some 24) p.2.2.2.1 p.2.1 p.2.2.2.2 2 (fun t => itC (p.2.2.1 t))), (27, .int .i64 (p.1 : Int))]) (fun p => []) (fun p => [(24, ⟨p.2.2.2.1, p.2.1, p.2.2.2.2, 2, 60⟩)]) (fun p => p.1 ≤ k ∧ firsts p.2.2.1 p.2.1 = catL NN FF p.1 ∧ p.2.1 ≤ 1000 * p.1) (fun p => k - p.1) (0, 0, fun _ => zeroItm, A9, c9) ⟨Nat.zero_le _, rfl, Nat.le_refl _⟩ hF ?_)
 rintro ⟨i, q, g, A1, c1⟩ ⟨hi, hg, hqb⟩ a0 w1 hF
 try dsimp only at hi
 try dsimp only at hg
 try dsimp only at hqb
 refine wp_seq (rg hB TA_ok [28, 6, 27, 25, 26] [24] [] hF fun X11 a0 w1 hF => ?_)
 refine wp_seq (test_ok hF rfl (fun hb hF => ?_) (fun hb hF => ?_))
 ·have hin : i < k := by
   have : (i : Int) < (k : Int) := by subst hB; simpa [std, sC] using hb
   omega
  have hNi := hN i hin
  refine wp_skip (wp_seq (wp_block (wp_seq (rg hB TA_ok [8, 6, 27, 25, 26] [24] [] hF (hob := ?hob) fun X12 a0 w1 hF => ?_))))
  case hob =>
   intro X
   subst hB
   repeat (first | exact trivial | refine ⟨rfl, ?_⟩ | refine ⟨⟨show (0 : Int) ≤ (i : Int) by omega, show (i : Int) < (k : Int) by omega⟩, ?_⟩)
  refine rg hB TA_ok [6, 27, 25, 26] [24] [] hF (hob := ?hob) fun X13 a0 w1 hF => ?_
  case hob =>
   intro X
   subst hB
   repeat (first | exact trivial | refine ⟨⟨rfl, rfl, rfl⟩, ?_⟩ | refine ⟨⟨show q + NN i ≤ maxLen by omega, show (q + NN i) * _ ≤ _ by omega⟩, ?_⟩ | refine ⟨rfl, ?_⟩)
  replace hF := hF.headS (v' := .sl (some 24) ((X13 2).A 0) (B.nadd q (NN (B.toNat (i : Int)))) ((X13 2).c 0) 2 (fun t => itC (catF q g (FF i) t))) (Sim.resl rfl (fun t ht => by
   subst hB
   show appC q (fun t => itC (g t)) (fun t => itC (FF i t)) t = _
   unfold appC catF
   split <;> rfl)) rfl
  refine rg hB TA_ok [6, 27, 25, 26] [24] [] hF fun X14 a0 w1 hF => ?_
  have e : B.arith .add .i64 (i : Int) 1 = ((i + 1 : Nat) : Int) := by subst hB; exact wrap_succ (n := k) hin (by omega)
  refine ⟨(i + 1, q + NN i, catF q g (FF i), _, _), ⟨by simp only; omega, ?_, by simp only; omega⟩, by simp only; omega, by rw [← e, show q + NN i = B.nadd q (NN (B.toNat (i : Int))) by subst hB; rfl]; exact hF⟩
  simp only
  rw [catL_succ, catF_firsts, hg]
 have hout : i = k := by
  have : ¬ (i : Int) < (k : Int) := by subst hB; simpa [std, sC] using hb
  omega
 rw [hout] at hg
 refine wp_exit (wp_seq (rg hB TA_ok [2] [2, 33] [] hF fun X15 a0 w1 hF => ?_))
 refine wp_ret ((rsi hB TA_ok hF (⟨0, fun _ => A1, fun _ => c1, fun _ => ⟨#[]⟩⟩) (he := ?_)))
 subst hB
 exact Sim.resl (by rw [← hg, firsts_len]) (fun t ht => by rw [← hg, firsts_len] at ht; rw [← hg, firsts_get _ _ t ht])
theorem enters276 : Enters Tryz.prog 276 := fun _ _ => by kernel_rfl
theorem fixed_s (A : Option Addr) (n c : Nat) (f : Nat → Itm) (hn : n ≤ 1000000) (kd : Int) (nx : Lab) (mk : Int) : Spec Tryz.prog 276 [recI A n c f kd nx mk] (fun _ => .bool (.v (decide (kd = 1) || decide (kd = 5)))) := by
 intro m w hm hargs
 unfold recI rowI at hargs
 refine en 11 hm hargs Tryz.func276 fun B hB a0 hF => ?_
 refine wp_seq (rg hB TA_ok [1] [1] [] hF fun X0 a0 w1 hF => ?_)
 refine wp_seq (rg hB TA_ok [2] [] [] hF fun X1 a0 w1 hF => ?_)
 refine wp_ret ((rsi hB TA_ok hF nAt (he := ?_)))
 subst hB
 exact Sim.bool (by show (if decide (kd = 1) = true then true else decide (kd = 5)) = _; rw [ite_or]; rfl)
theorem union_s (A : Option Addr) (n c : Nat) (f : Nat → Itm) (hn : n ≤ 1000) (kd : Int) (nx : Lab) (mk : Int) (hv : U64 nx.bits) (A2 : Option Addr) (n2 c2 : Nat) (f2 : Nat → Itm) (hn2 : n2 ≤ 1000) (kd2 : Int) (nx2 : Lab) (mk2 : Int) (hv2 : U64 nx2.bits) : Spec Tryz.prog 251 [recI A n c f kd nx mk, recI A2 n2 c2 f2 kd2 nx2 mk2] (fun x => .tup [recAV (x.A 0) (x.c 0) (uniR kd n f nx mk kd2 n2 f2 nx2 mk2).1, .int .i64 (uniR kd n f nx mk kd2 n2 f2 nx2 mk2).2]) := by
 intro m w hm hargs
 have hmx : maxLen = 9223372036854775807 := rfl
 have SI := isR_s A n c f (by omega) kd nx mk hv
 have SI2 := isR_s A2 n2 c2 f2 (by omega) kd2 nx2 mk2 hv2
 obtain ⟨i1, hi1⟩ := eqv (isRF kd n f nx mk)
 obtain ⟨i2, hi2⟩ := eqv (isRF kd2 n2 f2 nx2 mk2)
 obtain ⟨ov, hov⟩ := eqv (ovl n f n2 f2)
 rw [← hi1] at SI
 rw [← hi2] at SI2
 unfold recI rowI at SI SI2 hargs
 have SF := fixed_s A n c f (by omega) kd nx mk
 have SF2 := fixed_s A2 n2 c2 f2 (by omega) kd2 nx2 mk2
 unfold recI rowI at SF SF2
 obtain ⟨x1, hx1⟩ := eqv ((decide (kd = 1) || decide (kd = 5)))
 obtain ⟨x2, hx2⟩ := eqv ((decide (kd2 = 1) || decide (kd2 = 5)))
 rw [← hx1] at SF
 rw [← hx2] at SF2
 have SC := fun A0 => concat_s A0 2 2 (fun i => if i = 0 then A else A2) (fun i => if i = 0 then n else n2) (fun i => if i = 0 then c else c2) (fun i => if i = 0 then f else f2) (by decide) (fun i hi => by show (if i = 0 then n else n2) ≤ 1000; split <;> omega)
 rw [catL_two] at SC
 obtain ⟨N, hN⟩ := eqv ((firsts f n ++ firsts f2 n2).length)
 obtain ⟨g, hg⟩ := eqv (itF (firsts f n ++ firsts f2 n2))
 rw [← hN, ← hg] at SC
 have hNn : N = n + n2 := by rw [hN, List.length_append, firsts_len, firsts_len]
 have hot := ov_test (b := (if (!i1) = true then true else !i2)) f n f2 n2 (by omega) (by omega)
 rw [← hg, ← hNn, ← hov] at hot
 unfold rowI at SC
 refine en 70 hm hargs Tryz.func251 fun B hB a0 hF => ?_
 refine wp_seq (rg hB TA_ok [2, 3, 4] [2, 3, 4] [] hF fun X0 a0 w1 hF => ?_)
 refine wp_seq (rg hB TA_ok [6, 2, 3, 4] [2, 3, 4] [(5, .r fun x => .sl none (x.A 0) N (x.c 0) 2 (fun i => itC (g i)))] hF (hob := ?hob) fun X1 a0 w1 hF => ?_)
 case hob =>
  intro X
  subst hB
  repeat (first | exact trivial | refine ⟨rfl, ?_⟩ | refine ⟨⟨enters275, (SC _).sim ⟨Sim.resl rfl (fun i hi => by have h2 : i = 0 ∨ i = 1 := (by omega); rcases h2 with rfl | rfl <;> rfl), trivial⟩⟩, ?_⟩)
 refine wp_seq (rg hB TA_ok [7, 6, 2, 3, 4] [2, 3, 4] [] hF fun X2 a0 w1 hF => ?_)
 replace hF := hF.head (v' := .int .i64 (n : Int)) (by subst hB; rfl)
 refine wp_seq (wp_block (wp_seq (drg hB TA_ok [17, 6, 7, 2, 3, 4] [2, 3, 4] [(1, .r fun _ => .bool (.v i1)), (5, .r fun _ => .bool (.v i2))] hF (hob := ?hob) fun X3 a0 w1 hF => ?_)))
 case hob =>
  intro X
  subst hB
  simp only [AO, Ob.holds, BE.den, List.mem_cons, List.not_mem_nil, or_false, forall_eq_or_imp, forall_eq]
  and_intros <;> first | trivial | exact enters45 | exact SI | exact SI2 | (intros; first | trivial | exact enters45 | exact SI2 | exact ⟨enters45, SI2⟩) | (intro h; first | exact uni_ixA hn h.1 | exact uni_ixB h.1)
 apply test_ok hF rfl <;> intro hb hF
 ·have h9 : (if (if (!i1) = true then true else !i2) = true then true else (if (if decide ((n : Int) > 0) = true then decide ((n : Int) < (N : Int)) else false) = true then decide ((g (IntKind.i64.wrap ((n : Int) - 1)).toNat).key ≥ (g (n : Int).toNat).key) else false)) = true := by subst hB; exact hb
  rw [hot] at h9
  have hW : (uniR kd n f nx mk kd2 n2 f2 nx2 mk2) = (zeroRec, 1) := by unfold uniR; rw [← hi1, ← hi2, ← hov]; cases i1 <;> cases i2 <;> cases ov <;> first | rfl | (simp at h9)
  refine wp_seq (rg hB TA_ok [4, 5] [4] [] hF (hob := ?hob) fun X4 a0 w1 hF => ?_)
  case hob =>
   intro X
   subst hB
   repeat (first | exact trivial | refine ⟨rfl, ?_⟩ | refine ⟨fun _ => rfl, ?_⟩ | refine ⟨ob_lab (Kk := noK) _ _ _ _, ?_⟩ | refine ⟨fun _ => ob_lab (Kk := noK) _ _ _ _, ?_⟩)
  refine wp_ret ((rsi hB TA_ok hF (⟨0, fun _ => none, fun _ => 0, fun _ => ⟨#[]⟩⟩) (he := ?_)))
  subst hB
  rw [hW]
  exact Sim.tup ⟨Sim.agg ⟨zr, zq0, zr, zr, zr, trivial⟩, zr, trivial⟩
 have h9 : (if (if (!i1) = true then true else !i2) = true then true else (if (if decide ((n : Int) > 0) = true then decide ((n : Int) < (N : Int)) else false) = true then decide ((g (IntKind.i64.wrap ((n : Int) - 1)).toNat).key ≥ (g (n : Int).toNat).key) else false)) = false := by subst hB; exact hb
 rw [hot] at h9
 have h12 : i1 = true ∧ i2 = true ∧ ov = false := by cases i1 <;> cases i2 <;> cases ov <;> first | exact ⟨rfl, rfl, rfl⟩ | (simp at h9)
 obtain ⟨h1t, h2t, hovf⟩ := h12
 have hU : (uniR kd n f nx mk kd2 n2 f2 nx2 mk2) = (if ¬ (kd = 1 ∨ kd = 5) ∨ ¬ (kd2 = 1 ∨ kd2 = 5) then (zeroRec, 13) else if 16 < n + n2 then (zeroRec, 12) else (⟨1, firsts f n ++ firsts f2 n2, nx2, 0⟩, 0)) := by unfold uniR; rw [← hi1, ← hi2, ← hov, h1t, h2t, hovf]; rfl
 refine wp_seq (rg hB TA_ok [51, 6, 3, 4] [3, 4] [(1, .r fun _ => .bool (.v x1)), (5, .r fun _ => .bool (.v x2))] hF (hob := ?hob) fun X5 a0 w1 hF => ?_)
 case hob =>
  intro X
  subst hB
  repeat (first | exact trivial | refine ⟨rfl, ?_⟩ | refine ⟨fun _ => rfl, ?_⟩ | refine ⟨ob_lab (Kk := noK) _ _ _ _, ?_⟩ | refine ⟨fun _ => ob_lab (Kk := noK) _ _ _ _, ?_⟩ | refine ⟨⟨enters276, SF⟩, ?_⟩ | refine ⟨fun _ => ⟨enters276, SF⟩, ?_⟩ | refine ⟨⟨enters276, SF2⟩, ?_⟩ | refine ⟨fun _ => ⟨enters276, SF2⟩, ?_⟩)
 apply test_ok hF rfl <;> intro hb hF
 ·have h9 : (if (!x1) = true then true else !x2) = true := by subst hB; exact hb
  have hfx : ¬ (kd = 1 ∨ kd = 5) ∨ ¬ (kd2 = 1 ∨ kd2 = 5) := by
   cases h1 : x1 with
   | false => left; rw [h1] at hx1; simpa using hx1.symm
   | true =>
    right
    rw [h1] at h9
    have h2 : x2 = false := by cases x2 <;> first | rfl | (simp at h9)
    rw [h2] at hx2; simpa using hx2.symm
  have hW : (uniR kd n f nx mk kd2 n2 f2 nx2 mk2) = (zeroRec, 13) := by rw [hU, if_pos hfx]
  refine wp_seq (rg hB TA_ok [4, 5] [4] [] hF (hob := ?hob) fun X6 a0 w1 hF => ?_)
  case hob =>
   intro X
   subst hB
   repeat (first | exact trivial | refine ⟨rfl, ?_⟩ | refine ⟨fun _ => rfl, ?_⟩ | refine ⟨ob_lab (Kk := noK) _ _ _ _, ?_⟩ | refine ⟨fun _ => ob_lab (Kk := noK) _ _ _ _, ?_⟩)
  refine wp_ret ((rsi hB TA_ok hF (⟨0, fun _ => none, fun _ => 0, fun _ => ⟨#[]⟩⟩) (he := ?_)))
  subst hB
  rw [hW]
  exact Sim.tup ⟨Sim.agg ⟨zr, zq0, zr, zr, zr, trivial⟩, zr, trivial⟩
 have h9 : (if (!x1) = true then true else !x2) = false := by subst hB; exact hb
 have hfx : ¬ (¬ (kd = 1 ∨ kd = 5) ∨ ¬ (kd2 = 1 ∨ kd2 = 5)) := by
  have h1 : x1 = true ∧ x2 = true := by cases x1 <;> cases x2 <;> first | exact ⟨rfl, rfl⟩ | (simp at h9)
  rw [h1.1] at hx1; rw [h1.2] at hx2
  have a := hx1.symm; have b := hx2.symm
  simp only [Bool.or_eq_true, decide_eq_true_eq] at a b
  intro h
  rcases h with h | h
  ·exact h a
  exact h b
 refine wp_seq (rg hB TA_ok [61, 6, 3, 4] [3, 4] [] hF fun X7 a0 w1 hF => ?_)
 apply test_ok hF rfl <;> intro hb hF
 ·have hf16 : 16 < n + n2 := by
   have : (16 : Int) < (N : Int) := by subst hB; simpa [std, sC] using hb
   omega
  have hW : (uniR kd n f nx mk kd2 n2 f2 nx2 mk2) = (zeroRec, 12) := by rw [hU, if_neg hfx, if_pos hf16]
  refine wp_seq (rg hB TA_ok [4, 5] [4] [] hF (hob := ?hob) fun X8 a0 w1 hF => ?_)
  case hob =>
   intro X
   subst hB
   repeat (first | exact trivial | refine ⟨rfl, ?_⟩ | refine ⟨fun _ => rfl, ?_⟩ | refine ⟨ob_lab (Kk := noK) _ _ _ _, ?_⟩ | refine ⟨fun _ => ob_lab (Kk := noK) _ _ _ _, ?_⟩)
  refine wp_ret ((rsi hB TA_ok hF (⟨0, fun _ => none, fun _ => 0, fun _ => ⟨#[]⟩⟩) (he := ?_)))
  subst hB
  rw [hW]
  exact Sim.tup ⟨Sim.agg ⟨zr, zq0, zr, zr, zr, trivial⟩, zr, trivial⟩
 have hf16 : ¬ 16 < n + n2 := by
  have : ¬ (16 : Int) < (N : Int) := by subst hB; simpa [std, sC] using hb
  omega
 have hW : (uniR kd n f nx mk kd2 n2 f2 nx2 mk2) = (⟨1, firsts f n ++ firsts f2 n2, nx2, 0⟩, 0) := by rw [hU, if_neg hfx, if_neg hf16]
 refine wp_skip (wp_seq (rg hB TA_ok [4, 5] [4] [] hF (hob := ?hob) fun X9 a0 w1 hF => ?_))
 case hob =>
  intro X
  subst hB
  repeat (first | exact trivial | refine ⟨rfl, ?_⟩ | refine ⟨fun _ => rfl, ?_⟩ | refine ⟨ob_lab (Kk := noK) _ _ _ _, ?_⟩ | refine ⟨fun _ => ob_lab (Kk := noK) _ _ _ _, ?_⟩)
 refine wp_ret ((rsi hB TA_ok hF (⟨0, fun _ => (X1 5).A 0, fun _ => (X1 5).c 0, fun _ => ⟨#[]⟩⟩) (he := ?_)))
 subst hB
 rw [hW]
 exact Sim.tup ⟨Sim.agg ⟨zr, Sim.resl hN (fun t ht => by rw [hg]), zr, zr, zr, trivial⟩, zr, trivial⟩
theorem runion_s (A : Option Addr) (n c : Nat) (f : Nat → Itm) (hn : n ≤ 1000) (kd : Int) (nx : Lab) (mk : Int) (hv : U64 nx.bits) (A2 : Option Addr) (n2 c2 : Nat) (f2 : Nat → Itm) (hn2 : n2 ≤ 1000) (kd2 : Int) (nx2 : Lab) (mk2 : Int) (hv2 : U64 nx2.bits) : Spec Tryz.prog 224 [recI A n c f kd nx mk, recI A2 n2 c2 f2 kd2 nx2 mk2] (fun x => .tup [recAV (x.A 0) (x.c 0) (uniR kd n f nx mk kd2 n2 f2 nx2 mk2).1, .int .i64 (uniR kd n f nx mk kd2 n2 f2 nx2 mk2).2]) := by
 intro m w hm hargs
 have hmx : maxLen = 9223372036854775807 := rfl
 have SI := risR_s A n c f (by omega) kd nx mk hv
 have SI2 := risR_s A2 n2 c2 f2 (by omega) kd2 nx2 mk2 hv2
 obtain ⟨i1, hi1⟩ := eqv (isRF kd n f nx mk)
 obtain ⟨i2, hi2⟩ := eqv (isRF kd2 n2 f2 nx2 mk2)
 obtain ⟨ov, hov⟩ := eqv (ovl n f n2 f2)
 rw [← hi1] at SI
 rw [← hi2] at SI2
 unfold recI rowI at SI SI2 hargs
 have hot := ov_test2 f n f2 n2 (by omega)
 rw [← hov] at hot
 refine en 82 hm hargs Tryz.func224 fun B hB a0 hF => ?_
 refine wp_seq (rg hB TA_ok [2, 3, 4] [2, 3, 4] [] hF fun X0 a0 w1 hF => ?_)
 refine wp_seq (wp_seq (rg hB TA_ok [15, 2, 3, 4] [2, 3, 4] [(1, .r fun _ => .bool (.v i1)), (5, .r fun _ => .bool (.v i2))] hF (hob := ?hob) fun X1 a0 w1 hF => ?_))
 case hob =>
  intro X
  subst hB
  repeat (first | exact trivial | refine ⟨rfl, ?_⟩ | refine ⟨fun _ => rfl, ?_⟩ | refine ⟨ob_lab (Kk := noK) _ _ _ _, ?_⟩ | refine ⟨fun _ => ob_lab (Kk := noK) _ _ _ _, ?_⟩ | refine ⟨⟨enters147, SI⟩, ?_⟩ | refine ⟨fun _ => ⟨enters147, SI⟩, ?_⟩ | refine ⟨⟨enters147, SI2⟩, ?_⟩ | refine ⟨fun _ => ⟨enters147, SI2⟩, ?_⟩)
 apply test_ok hF rfl <;> intro hb hF
 ·have h9 : (if (!i1) = true then true else !i2) = true := by subst hB; exact hb
  have hW : (uniR kd n f nx mk kd2 n2 f2 nx2 mk2) = (zeroRec, 1) := by unfold uniR; rw [← hi1, ← hi2, ← hov]; cases i1 <;> cases i2 <;> cases ov <;> first | rfl | (simp at h9)
  refine wp_seq (rg hB TA_ok [4, 5] [4] [] hF (hob := ?hob) fun X2 a0 w1 hF => ?_)
  case hob =>
   intro X
   subst hB
   repeat (first | exact trivial | refine ⟨rfl, ?_⟩ | refine ⟨fun _ => rfl, ?_⟩ | refine ⟨ob_lab (Kk := noK) _ _ _ _, ?_⟩ | refine ⟨fun _ => ob_lab (Kk := noK) _ _ _ _, ?_⟩)
  refine wp_ret ((rsi hB TA_ok hF (⟨0, fun _ => none, fun _ => 0, fun _ => ⟨#[]⟩⟩) (he := ?_)))
  subst hB
  rw [hW]
  exact Sim.tup ⟨Sim.agg ⟨zr, zq0, zr, zr, zr, trivial⟩, zr, trivial⟩
 have h9 : (if (!i1) = true then true else !i2) = false := by subst hB; exact hb
 have h12 : i1 = true ∧ i2 = true := by cases i1 <;> cases i2 <;> first | exact ⟨rfl, rfl⟩ | (simp at h9)
 obtain ⟨h1t, h2t⟩ := h12
 refine wp_skip (wp_seq (rg hB TA_ok [6, 2, 3, 4] [2, 3, 4] [] hF (hob := ?hob) fun X3 a0 w1 hF => ?_))
 case hob =>
  intro X
  subst hB
  repeat (first | exact trivial | refine ⟨rfl, ?_⟩ | refine ⟨fun _ => rfl, ?_⟩ | refine ⟨ob_lab (Kk := noK) _ _ _ _, ?_⟩ | refine ⟨fun _ => ob_lab (Kk := noK) _ _ _ _, ?_⟩)
 replace hF := hF.head (v' := .int .i64 (n : Int)) (by subst hB; rfl)
 refine wp_seq (wp_seq (drg hB TA_ok [42, 6, 2, 3, 4] [2, 3, 4] [] hF (hob := ?hob) fun X4 a0 w1 hF => ?_))
 case hob =>
  intro X
  subst hB
  simp only [AO, Ob.holds, BE.den, List.mem_cons, List.not_mem_nil, or_false, forall_eq_or_imp, forall_eq]
  and_intros <;> first | trivial | (intro h; first | trivial | exact uni_ixC hn h | exact uni_ixD h)
 apply test_ok hF rfl <;> intro hb hF
 ·have h8 : (if (if decide ((n : Int) > 0) = true then decide ((n2 : Int) > 0) else false) = true then decide ((f (IntKind.i64.wrap ((n : Int) - 1)).toNat).key ≥ (f2 (0 : Int).toNat).key) else false) = true := by subst hB; exact hb
  rw [hot] at h8
  have hW : (uniR kd n f nx mk kd2 n2 f2 nx2 mk2) = (zeroRec, 1) := by unfold uniR; rw [← hi1, ← hi2, ← hov, h1t, h2t, h8]; rfl
  refine wp_seq (rg hB TA_ok [4, 5] [4] [] hF (hob := ?hob) fun X5 a0 w1 hF => ?_)
  case hob =>
   intro X
   subst hB
   repeat (first | exact trivial | refine ⟨rfl, ?_⟩ | refine ⟨fun _ => rfl, ?_⟩ | refine ⟨ob_lab (Kk := noK) _ _ _ _, ?_⟩ | refine ⟨fun _ => ob_lab (Kk := noK) _ _ _ _, ?_⟩)
  refine wp_ret ((rsi hB TA_ok hF (⟨0, fun _ => none, fun _ => 0, fun _ => ⟨#[]⟩⟩) (he := ?_)))
  subst hB
  rw [hW]
  exact Sim.tup ⟨Sim.agg ⟨zr, zq0, zr, zr, zr, trivial⟩, zr, trivial⟩
 have h8 : (if (if decide ((n : Int) > 0) = true then decide ((n2 : Int) > 0) else false) = true then decide ((f (IntKind.i64.wrap ((n : Int) - 1)).toNat).key ≥ (f2 (0 : Int).toNat).key) else false) = false := by subst hB; exact hb
 rw [hot] at h8
 have hU : (uniR kd n f nx mk kd2 n2 f2 nx2 mk2) = (if ¬ (kd = 1 ∨ kd = 5) ∨ ¬ (kd2 = 1 ∨ kd2 = 5) then (zeroRec, 13) else if 16 < n + n2 then (zeroRec, 12) else (⟨1, firsts f n ++ firsts f2 n2, nx2, 0⟩, 0)) := by unfold uniR; rw [← hi1, ← hi2, ← hov, h1t, h2t, h8]; rfl
 refine wp_skip (wp_seq (wp_seq (rg hB TA_ok [61, 6, 2, 3, 4] [2, 3, 4] [] hF fun X6 a0 w1 hF => ?_)))
 apply test_ok hF rfl <;> intro hb hF
 ·have h7 : (if (if (!decide (kd = 1)) = true then !decide (kd = 5) else false) = true then true else (if (!decide (kd2 = 1)) = true then !decide (kd2 = 5) else false)) = true := by subst hB; exact hb
  have hfx := (kind_test kd kd2).1 h7
  have hW : (uniR kd n f nx mk kd2 n2 f2 nx2 mk2) = (zeroRec, 13) := by rw [hU, if_pos hfx]
  refine wp_seq (rg hB TA_ok [4, 5] [4] [] hF (hob := ?hob) fun X7 a0 w1 hF => ?_)
  case hob =>
   intro X
   subst hB
   repeat (first | exact trivial | refine ⟨rfl, ?_⟩ | refine ⟨fun _ => rfl, ?_⟩ | refine ⟨ob_lab (Kk := noK) _ _ _ _, ?_⟩ | refine ⟨fun _ => ob_lab (Kk := noK) _ _ _ _, ?_⟩)
  refine wp_ret ((rsi hB TA_ok hF (⟨0, fun _ => none, fun _ => 0, fun _ => ⟨#[]⟩⟩) (he := ?_)))
  subst hB
  rw [hW]
  exact Sim.tup ⟨Sim.agg ⟨zr, zq0, zr, zr, zr, trivial⟩, zr, trivial⟩
 have h7 : (if (if (!decide (kd = 1)) = true then !decide (kd = 5) else false) = true then true else (if (!decide (kd2 = 1)) = true then !decide (kd2 = 5) else false)) = false := by subst hB; exact hb
 have hfx := (kind_test kd kd2).2 h7
 refine wp_skip (wp_seq (wp_seq (rg hB TA_ok [68, 2, 3, 4] [2, 3, 4] [] hF (hob := ?hob) fun X8 a0 w1 hF => ?_)))
 case hob =>
  intro X
  subst hB
  repeat (first | exact trivial | refine ⟨rfl, ?_⟩ | refine ⟨fun _ => rfl, ?_⟩ | refine ⟨ob_lab (Kk := noK) _ _ _ _, ?_⟩ | refine ⟨fun _ => ob_lab (Kk := noK) _ _ _ _, ?_⟩)
 apply test_ok hF rfl <;> intro hb hF
 ·have hf16 : 16 < n + n2 := by
   have : (16 : Int) < IntKind.i64.wrap ((n : Int) + (n2 : Int)) := by subst hB; simpa [std, sC, sAr] using hb
   rw [wrap_in (by omega) (by omega)] at this
   omega
  have hW : (uniR kd n f nx mk kd2 n2 f2 nx2 mk2) = (zeroRec, 12) := by rw [hU, if_neg hfx, if_pos hf16]
  refine wp_seq (rg hB TA_ok [4, 5] [4] [] hF (hob := ?hob) fun X9 a0 w1 hF => ?_)
  case hob =>
   intro X
   subst hB
   repeat (first | exact trivial | refine ⟨rfl, ?_⟩ | refine ⟨fun _ => rfl, ?_⟩ | refine ⟨ob_lab (Kk := noK) _ _ _ _, ?_⟩ | refine ⟨fun _ => ob_lab (Kk := noK) _ _ _ _, ?_⟩)
  refine wp_ret ((rsi hB TA_ok hF (⟨0, fun _ => none, fun _ => 0, fun _ => ⟨#[]⟩⟩) (he := ?_)))
  subst hB
  rw [hW]
  exact Sim.tup ⟨Sim.agg ⟨zr, zq0, zr, zr, zr, trivial⟩, zr, trivial⟩
 have hf16 : ¬ 16 < n + n2 := by
  have : ¬ (16 : Int) < IntKind.i64.wrap ((n : Int) + (n2 : Int)) := by subst hB; simpa [std, sC, sAr] using hb
  rw [wrap_in (by omega) (by omega)] at this
  omega
 have hW : (uniR kd n f nx mk kd2 n2 f2 nx2 mk2) = (⟨1, firsts f n ++ firsts f2 n2, nx2, 0⟩, 0) := by rw [hU, if_neg hfx, if_neg hf16]
 refine wp_skip (wp_seq (rg hB TA_ok [7, 2, 3, 4] [2, 3, 4, 7] [] hF fun X10 a0 w1 hF => ?_))
 refine wp_seq (rg hB TA_ok [7, 3, 4] [3, 4, 7] [] hF (hob := ?hob) fun X11 a0 w1 hF => ?_)
 case hob =>
  intro X
  subst hB
  repeat (first | exact trivial | refine ⟨⟨rfl, rfl, rfl⟩, ?_⟩ | refine ⟨⟨show 0 + n ≤ maxLen by omega, show (0 + n) * _ ≤ _ by omega⟩, ?_⟩ | refine ⟨rfl, ?_⟩)
 refine wp_seq (rg hB TA_ok [7, 3, 4] [3, 4, 7] [] hF (hob := ?hob) fun X12 a0 w1 hF => ?_)
 case hob =>
  intro X
  subst hB
  repeat (first | exact trivial | refine ⟨⟨rfl, rfl, rfl⟩, ?_⟩ | refine ⟨⟨show 0 + n + n2 ≤ maxLen by omega, show (0 + n + n2) * _ ≤ _ by omega⟩, ?_⟩ | refine ⟨rfl, ?_⟩)
 refine wp_seq (rg hB TA_ok [4, 5] [4] [] hF (hob := ?hob) fun X13 a0 w1 hF => ?_)
 case hob =>
  intro X
  subst hB
  repeat (first | exact trivial | refine ⟨rfl, ?_⟩ | refine ⟨fun _ => rfl, ?_⟩ | refine ⟨ob_lab (Kk := noK) _ _ _ _, ?_⟩ | refine ⟨fun _ => ob_lab (Kk := noK) _ _ _ _, ?_⟩)
 refine wp_ret ((rsi hB TA_ok hF (⟨0, fun _ => (X12 3).A 0, fun _ => (X12 3).c 0, fun _ => ⟨#[]⟩⟩) (he := ?_)))
 subst hB
 rw [hW]
 refine Sim.tup ⟨Sim.agg ⟨zr, Sim.resl (show 0 + n + n2 = (firsts f n ++ firsts f2 n2).length by rw [List.length_append, firsts_len, firsts_len]; omega) (fun t ht => ?_), zr, zr, zr, trivial⟩, zr, trivial⟩
 show appC (0 + n) (appC 0 _ (fun t => itC (f t))) (fun t => itC (f2 t)) t = itC (itF (firsts f n ++ firsts f2 n2) t)
 rw [cat_at f n f2 n2 t (by have h : t < (firsts f n ++ firsts f2 n2).length := ht; rw [List.length_append, firsts_len, firsts_len] at h; exact h)]
 unfold appC catF
 rw [Nat.zero_add]
 by_cases h : t < n
 ·rw [if_pos h, if_neg (Nat.not_lt_zero _), if_pos h]; rfl
 rw [if_neg h, if_neg h]
structure LOk (l : Lab) : Prop where
 isl : isL l = true
 u : U64 l.bits
theorem lok_z : LOk ⟨0, 0⟩ := ⟨by decide, by decide, by decide⟩
theorem LOk.ch {l : Lab} (h : LOk l) (b : Int) : LOk (chV l b) := by
 unfold chV
 split
 ·rename_i he
  have h64 : l.len ≠ 64 := by
   intro h64
   unfold chE at he
   rw [h.isl] at he
   simp [h64] at he
  exact ⟨child_isL h.isl h.u h64 b, child_u h.isl h.u h64 b⟩
 exact lok_z
theorem LOk.par {l : Lab} (h : LOk l) : LOk (parV l) := by
 unfold parV
 split
 ·rename_i he
  have h0 : l.len ≠ 0 := by
   intro h0
   unfold parE at he
   rw [h.isl] at he
   simp [h0] at he
  exact ⟨par_isL h.isl h.u h0, par_u h.u⟩
 exact lok_z
theorem rowz_sim {f : Nat → Itm} {c : Nat} {A : Option Addr} : Sim (.sl none A 0 c 2 (fun _ => [])) (.sl none A 0 c 2 (fun i => itC (f i))) := Sim.recell fun i hi => absurd hi (Nat.not_lt_zero _)
theorem halv_c (x : RA) (h : RaOk x) (l : Lab) (hl : U64 l.bits) : Spec Tryz.prog 246 [recV x, labAV l] (fun y => .tup [recV ⟨y.A 0, y.c 0, (halvA x l).1.rn⟩, recV ⟨y.A 1, y.c 1, (halvA x l).2.1.rn⟩, .int .i64 (halvA x l).2.2]) := by
 have hf := h.few
 cases hb : (isRF x.r.kd x.r.n x.r.f x.r.nx x.r.mrk && isL l) with
 | false => exact halves_no x.A x.r.n x.c x.r.f (by omega) x.r.kd x.r.nx x.r.mrk h.nx h.key l hl hb
 | true => exact halves_yes x.A x.r.n x.c x.r.f (by omega) x.r.kd x.r.nx x.r.mrk h.nx h.key l hl hb
theorem uni_c (x y : RA) (h : RaOk x) (h' : RaOk y) : Spec Tryz.prog 251 [recV x, recV y] (fun z => .tup [recV ⟨z.A 0, z.c 0, (uniA x y).1.rn⟩, .int .i64 (uniA x y).2]) := by
 have hf := h.few
 have hf' := h'.few
 exact union_s x.A x.r.n x.c x.r.f (by omega) x.r.kd x.r.nx x.r.mrk h.nx y.A y.r.n y.c y.r.f (by omega) y.r.kd y.r.nx y.r.mrk h'.nx
def fzR : Fz → RA
 | .fr x => x
 | _ => zRA
def fzI : Fz → Int
 | .over => 0
 | .unfit => 1
 | .fr _ => 2
def encFz (z : Fz) : AV := .tup [recV (fzR z), .int .i64 (fzI z)]
theorem fz_0 {z : Fz} (h : fzI z = 0) : z = .over := by cases z <;> first | rfl | (simp [fzI] at h)
theorem fz_1 {z : Fz} (h : fzI z = 1) : z = .unfit := by cases z <;> first | rfl | (simp [fzI] at h)
theorem fz_2 {z : Fz} (h0 : fzI z ≠ 0) (h1 : fzI z ≠ 1) : z = .fr (fzR z) := by cases z <;> first | rfl | exact absurd rfl h0 | exact absurd rfl h1
theorem thwL_succ (bk k : Int) (n : Nat) (l up : Lab) (p : Pst) : thwL bk k (n + 1) l up p = (getM k l p).bind fun g p => if gk g 5 = true then (getM k up p).bind fun q p =>
      (if (gk q 3 || gk q 4) = true then fnsM bk k n up q p else .ok () p).bind fun _ p =>
        if gk q 2 = true then (casM k l g.ver (asR 1 g.x 0).r.abs p).bind fun d p => if d = true then .ok () p else thwL bk k n l up p else .ok () p else .ok () p := rfl
section
def ClC (n : Nat) : Prop := ∀ (k0 b : Nat) (J : JobA) (hJ : JobOk J) (A : Option Addr) (c : Nat) (p : Pst) (hp : PstOk p) (hn : p.n ≤ 1000000) (l : Lab) (hl : LOk l), p.n < n → RunS 191 k0 b J A c p [labAV l] (fun _ => unitV) (clnM J.budget n l p)
def ThC (n : Nat) : Prop := ∀ (k0 b : Nat) (J : JobA) (hJ : JobOk J) (A : Option Addr) (c : Nat) (p : Pst) (hp : PstOk p) (hn : p.n ≤ 1000000) (l : Lab) (hl : LOk l), p.n < n → RunS 192 k0 b J A c p [labAV l] (fun _ => unitV) (thwM J.bucket J.budget n l p)
def FinC (n : Nat) : Prop := ∀ (k0 b : Nat) (J : JobA) (hJ : JobOk J) (A : Option Addr) (c : Nat) (p : Pst) (hp : PstOk p) (hn : p.n ≤ 1000000) (l : Lab) (hl : LOk l) (g : GotA) (hg : GotOk g), p.n < n → RunS 157 k0 b J A c p [labAV l, gotV g] (fun _ => unitV) (fnsM J.bucket J.budget n l g p)
end
theorem frz_m0 (b : Nat) (J : JobA) (hJ : JobOk J) (A : Option Addr) (c : Nat) (p : Pst) (hp : PstOk p) (hn : p.n ≤ 1000000) (l : Lab) (v : Int) (d : Lab) (n : Nat) (hf : p.n < n) : RunS 249 0 b J A c p [labAV l, .int .u64 v, labAV d] (encFz) (frzM J.budget l v d n p) := by
 intro m w hm hargs hpre
 refine enX 52 hm hpre hargs Tryz.func249 fun B hB a0 hF => ?_
 refine wp_seq (rg hB TA_ok [0, 2, 5, 7, 8] [0, 5, 7, 8] [] hF fun X0 a0 w1 hF => ?_)
 refine wp_block (loop_pre (ι := Nat × Pst × Option Addr × Nat) (fun q => []) (fun q => [(0, ⟨b, 114, runC J q.2.2.1 q.2.2.2 q.2.1⟩)]) (fun q => []) (fun q => frzM J.budget l v d n p = frzM J.budget l v d q.1 q.2.1 ∧ PstOk q.2.1 ∧ q.2.1.n ≤ 1000000 ∧ q.2.1.n < q.1) (fun q => q.1) (n, p, A, c) ⟨rfl, hp, hn, hf⟩ hF ?_)
 rintro ⟨nn, p0, A0, c0⟩ ⟨hrun, hp0, hn0, hf0⟩ a0 w1 hF
 try dsimp only at hrun
 try dsimp only at hp0
 try dsimp only at hn0
 try dsimp only at hf0
 obtain ⟨n2, rfl⟩ : ∃ n2, nn = n2 + 1 := ⟨nn - 1, by omega⟩
 refine wp_block (wp_seq ?_)
 rcases (get_m 0 b J hJ A0 c0 p0 hp0 hn0 d).two (fro_get _ _ _) hp0 hn0 with ⟨w1, p1, hm1, O1⟩ | ⟨g1, p1, hm1, hs1, hp1, hn1, S1⟩
 ·refine stp 2 hB TA_ok [12, 13] [0] [] hF O1 fun _ _ _ _ hF hk => ?_
  exact thm (P := Tryz.prog) (fn := Tryz.f249) (q := p1) hF hk (by simp [hrun, frzM, Rs.bind, hm1])
 have hl1 := get_lt hm1
 have hg1 := hp0.get hm1
 have O1 := S1
 refine rg hB TA_ok [0, 2, 5, 7, 8, 10] [0, 5, 7, 8, 10] [(2, rc J (gotV g1) p1)] hF fun X1 a0 w1 hF => ?_
 obtain ⟨q2, hq2⟩ := eqv ((gk g1 1 || gk g1 5))
 refine wp_seq (wp_block (wp_seq ?_))
 refine rg hB TA_ok [15, 0, 2, 5, 7, 8, 10] [0, 5, 7, 8, 10] [(2, .r fun _ => .bool (.v q2))] hF (hob := by intro X; subst hB; simp only [AO, Ob.holds, BE.den] <;> and_intros <;> repeat first | trivial | rfl | exact (by rw [hq2]; exact is2_s g1 _ _ 1 5 _ rfl rfl) | exact by rw [hq2]; exact is2_s g1 _ _ 1 5 _ rfl rfl | exact (fun _ _ => by kernel_rfl) | refine ⟨?_, ?_⟩ | intro h | exact Int.le_refl _ | decide | omega) fun X2 a0 w1 hF => ?_
 apply test_ok hF rfl <;> intro hb hF
 ·have tq2 : (gk g1 1 || gk g1 5) = false := by subst hB; rw [← hq2]; revert hb; cases q2 <;> simp [std]
  refine wp_seq (rg hB TA_ok [8, 9] [0, 8] [] hF fun X3 a0 w1 hF => ?_)
  refine wp_ret ((rmm hB TA_ok hF (v := Fz.unfit) (q := p1) ((X1 2).A 0) ((X1 2).c 0) (by simp [hrun, frzM, Rs.bind, hm1, tq2]) (he := ?_)).1)
  subst hB; exact Sim.tup ⟨Sim.agg ⟨zr, rowz_sim, zr, zr, zr, trivial⟩, zr, trivial⟩
 have tq2 : (gk g1 1 || gk g1 5) = true := by subst hB; rw [← hq2]; revert hb; cases q2 <;> simp [std]
 obtain ⟨q4, hq4⟩ := eqv (gk g1 5)
 apply wp_seq
 refine rg hB TA_ok [21, 0, 2, 5, 7, 8, 10] [0, 5, 7, 8, 10] [(2, .r fun _ => .bool (.v q4))] hF (hob := by intro X; subst hB; simp only [AO, Ob.holds, BE.den] <;> and_intros <;> repeat first | trivial | rfl | exact (by rw [hq4]; exact is1_s g1 _ _ 5 _ rfl) | exact by rw [hq4]; exact is1_s g1 _ _ 5 _ rfl | exact (fun _ _ => by kernel_rfl) | refine ⟨?_, ?_⟩ | intro h | exact Int.le_refl _ | decide | omega) fun X4 a0 w1 hF => ?_
 apply test_ok hF rfl <;> intro hb hF
 ·have t4 : (gk g1 5 && decide (g1.x.r.mrk = v)) = true := by subst hB; rw [← hq4]; revert hb; cases q4 <;> simp [std, sC]
  refine wp_seq (rg hB TA_ok [8, 9] [0, 8] [] hF fun X5 a0 w1 hF => ?_)
  exact wp_ret ((rmm hB TA_ok hF (v := (Fz.fr g1.x)) (q := p1) ((X1 2).A 0) ((X1 2).c 0) (by simp [hrun, frzM, Rs.bind, hm1, tq2, t4])).1)
 have t4 : (gk g1 5 && decide (g1.x.r.mrk = v)) = false := by subst hB; rw [← hq4]; revert hb; cases q4 <;> simp [std, sC]
 apply wp_seq
 rcases (still_m 0 b J hJ ((X1 2).A 0) ((X1 2).c 0) p1 hp1 hn1 l v).two (fro_get _ _ _) hp1 hn1 with ⟨w6, p6, hm6, O1⟩ | ⟨g6, p6, hm6, hs6, hp6, hn6, S6⟩
 ·refine stp 3 hB TA_ok [35, 36, 37] [0] [] hF O1 fun _ _ _ _ hF hk => ?_
  exact thm (P := Tryz.prog) (fn := Tryz.f249) (q := p6) hF hk (by simp [hrun, frzM, Rs.bind, hm1, tq2, t4, hm6])
 have hl6 := get_lt hm6
 have hg6 := hp1.get hm6
 try dsimp only at S6
 obtain ⟨d6, hd6⟩ := eqv (decide (g6.ver = v))
 rw [← hd6] at S6
 have O1 := S6
 refine rg hB TA_ok [34, 0, 2, 5, 7, 8, 10] [0, 5, 7, 8, 10] [(3, rc J (.bool (.v d6)) p6)] hF fun X6 a0 w1 hF => ?_
 apply test_ok hF rfl <;> intro hb hF
 ·have t6 : ¬ g6.ver = v := by
   have h9 : (!d6) = true := by subst hB; exact hb
   rw [hd6] at h9; simpa using h9
  refine wp_seq (rg hB TA_ok [8, 9] [0, 8] [] hF fun X7 a0 w1 hF => ?_)
  refine wp_ret ((rmm hB TA_ok hF (v := Fz.over) (q := p6) ((X6 3).A 0) ((X6 3).c 0) (by simp [hrun, frzM, Rs.bind, hm1, tq2, t4, hm6, t6]) (he := ?_)).1)
  subst hB; exact Sim.tup ⟨Sim.agg ⟨zr, rowz_sim, zr, zr, zr, trivial⟩, zr, trivial⟩
 have t6 : g6.ver = v := by
  have h9 : (!d6) = false := by subst hB; exact hb
  rw [hd6] at h9; simpa using h9
 have O1 := as_s 5 g1.x v
 refine wp_skip (wp_seq (rg hB TA_ok [0, 2, 5, 7, 8, 10, 11] [0, 5, 7, 8, 10, 11] [(3, .r fun _ => recV (asR 5 g1.x v))] hF fun X8 a0 w1 hF => ?_))
 apply wp_seq
 rcases (cas_m 0 b J hJ ((X6 3).A 0) ((X6 3).c 0) p6 hp6 hn6 d g1.ver (asR 5 g1.x v)).two (fro_cas _ _ _ _ _) hp6 hn6 with ⟨w9, p9, hm9, O1⟩ | ⟨d9, p9, hm9, hs9, hp9, hn9, S9⟩
 ·refine stp 5 hB TA_ok [45, 46, 48, 49] [0] [] hF O1 fun _ _ _ _ hF hk => ?_
  exact thm (P := Tryz.prog) (fn := Tryz.f249) (q := p9) hF hk (by simp [hrun, frzM, Rs.bind, hm1, tq2, t4, hm6, t6, hm9])
 have O1 := S9
 refine rg hB TA_ok [50, 0, 2, 5, 7, 8, 11] [0, 5, 7, 8, 11] [(5, rc J (.bool (.v d9)) p9)] hF fun X9 a0 w1 hF => ?_
 apply test_ok hF rfl <;> intro hb hF
 ·have t9 : d9 = true := by exact hb
  refine wp_seq (rg hB TA_ok [8, 9] [0, 8] [] hF fun X10 a0 w1 hF => ?_)
  exact wp_ret ((rmm hB TA_ok hF (v := (Fz.fr (asR 5 g1.x v))) (q := p9) ((X9 5).A 0) ((X9 5).c 0) (by simp [hrun, frzM, Rs.bind, hm1, tq2, t4, hm6, t6, hm9, t9])).1)
 have t9 : d9 = false := by exact hb
 replace hF := hF.keep [0, 2, 5, 7, 8] [0, 5, 7, 8]
 exact wp_skip (⟨(n2, p9, _, _), ⟨by rw [hrun]; simp [frzM, Rs.bind, hm1, tq2, t4, hm6, t6, hm9, t9], hp9, hn9, by dsimp only; have := hl1; have := hs6.le; have := hs9.le; have := hf0; omega⟩, by simp only; omega, hF⟩)
theorem frz_m (k0 b : Nat) (J : JobA) (hJ : JobOk J) (A : Option Addr) (c : Nat) (p : Pst) (hp : PstOk p) (hn : p.n ≤ 1000000) (l : Lab) (v : Int) (d : Lab) (n : Nat) (hf : p.n < n) : RunS 249 k0 b J A c p [labAV l, .int .u64 v, labAV d] (encFz) (frzM J.budget l v d n p) := RunS.re (frz_m0 b J hJ A c p hp hn l v d n hf) (by repeat (first | exact trivial | refine ⟨zr, ?_⟩))
theorem casi_m (k0 b : Nat) (J : JobA) (hJ : JobOk J) (A : Option Addr) (c : Nat) (p : Pst) (hp : PstOk p) (hn : p.n ≤ 1000000) (l : Lab) (v : Int) : RunS 134 k0 b J A c p [labAV l, .int .u64 v, innV] (fun d => .bool (.v d)) (casM J.budget l v innerR p) :=
 RunS.re (cas_m 0 b J hJ A c p hp hn l v ⟨none, 0, innerR.rn⟩) ⟨zr, zr, Sim.agg ⟨zr, rowz_sim, zr, zr, zr, trivial⟩, trivial⟩
theorem bck_m0 (b : Nat) (J : JobA) (hJ : JobOk J) (A : Option Addr) (c : Nat) (p : Pst) (hp : PstOk p) (hn : p.n ≤ 1000000) (l : Lab) (hl : LOk l) (v : Int) (n : Nat) (hth : ThC n) (hf : p.n < n) : RunS 250 0 b J A c p [labAV l, .int .u64 v] (fun _ => unitV) (bckM J.budget (thwM J.bucket J.budget n) l v p) := by
 intro m w hm hargs hpre
 have SC := chi_s l hl.u
 have hk0 := hl.ch 0
 have hk1 := hl.ch 1
 simp only [labAV] at SC
 obtain ⟨x0, hx0⟩ := eqv (chV l 0)
 rw [← hx0] at SC hk0
 obtain ⟨x1, hx1⟩ := eqv (chV l 1)
 rw [← hx1] at SC hk1
 refine enX 23 hm hpre hargs Tryz.func250 fun B hB a0 hF => ?_
 refine wp_seq (rg hB TA_ok [0, 2, 4] [0, 4] [] hF fun X0 a0 w1 hF => ?_)
 refine wp_seq (wp_seq ?_)
 rcases (casi_m 0 b J hJ A c p hp hn l v).two (fro_cas _ _ _ _ _) hp hn with ⟨w1, p1, hm1, O1⟩ | ⟨d1, p1, hm1, hs1, hp1, hn1, S1⟩
 ·have O2 := inn_s
  refine stpD 4 hB TA_ok [8, 9, 10, 11] [0] [(3, .r fun _ => .agg [.int .i64 2, .sl none none 0 0 2 (fun _ => []), .int .i64 (-1), .int .u64 0, .int .u64 0])] hF O1 fun _ _ _ _ hF hk => ?_
  exact thm (P := Tryz.prog) (fn := Tryz.f250) (q := p1) hF hk (by simp [bckM, ← hx0, ← hx1, Rs.bind, hm1])
 have O1 := inn_s
 have O2 := S1
 refine drg hB TA_ok [13, 0, 4] [0, 4] [(3, .r fun _ => .agg [.int .i64 2, .sl none none 0 0 2 (fun _ => []), .int .i64 (-1), .int .u64 0, .int .u64 0]), (4, rc J (.bool (.v d1)) p1)] hF fun X1 a0 w1 hF => ?_
 apply test_ok hF rfl <;> intro hb hF
 ·have t1 : d1 = false := by subst hB; revert hb; cases d1 <;> simp [std]
  exact wp_ret ((rmm hB TA_ok hF (v := ()) (q := p1) ((X1 4).A 0) ((X1 4).c 0) (by simp [bckM, ← hx0, ← hx1, Rs.bind, hm1, t1])).1)
 have t1 : d1 = true := by subst hB; revert hb; cases d1 <;> simp [std]
 have O1 := SC
 refine wp_skip (wp_seq (rg hB TA_ok [16, 0, 15] [0] [(1, .r fun _ => .agg [.int .i64 x0.len, .int .u64 x0.bits, .int .i64 x1.len, .int .u64 x1.bits])] hF fun X2 a0 w1 hF => ?_))
 refine wp_block (wp_loop_rounds 3 (rounds_first (wp_seq (rg hB TA_ok [17, 0, 15, 16] [0] [] hF fun X3 a0 w1 hF => ?_))))
 replace hF := hF.headS (v' := .bool .tt) (Sim.bool (by subst hB; rfl)) rfl
 refine wp_seq (test_tt hF rfl (fun hF => ?_))
 refine wp_skip (wp_seq (wp_block (wp_seq (rg hB TA_ok [0, 7, 15, 16] [0, 7] [] hF fun X4 a0 w1 hF => ?_))))
 rcases (hth 0 b J hJ ((X1 4).A 0) ((X1 4).c 0) p1 hp1 hn1 x0 hk0 (by have := Nat.lt_of_le_of_lt hs1.le hf; omega)).two (fro_thw _ _ _ _ _) hp1 hn1 with ⟨w50, p50, hm50, O1⟩ | ⟨_u50, p50, hm50, hs50, hp50, hn50, S50⟩
 ·refine stp 2 hB TA_ok [19, 20] [0] [] hF O1 fun _ _ _ _ hF hk => ?_
  exact thm (P := Tryz.prog) (fn := Tryz.f250) (q := p50) hF hk (by simp [bckM, ← hx0, ← hx1, Rs.bind, hm1, t1, hm50])
 have O1 := S50
 refine rg hB TA_ok [0, 15, 16] [0] [(2, rc J (unitV) p50)] hF fun X5 a0 w1 hF => ?_
 refine rg hB TA_ok [16, 0, 15] [0] [] hF fun X6 a0 w1 hF => ?_
 replace hF := hF.headS (v' := .int .i64 1) (by subst hB; exact zr) rfl
 refine rounds_next (wp_seq (rg hB TA_ok [17, 0, 15, 16] [0] [] hF fun X3 a0 w1 hF => ?_))
 replace hF := hF.headS (v' := .bool .tt) (Sim.bool (by subst hB; rfl)) rfl
 refine wp_seq (test_tt hF rfl (fun hF => ?_))
 refine wp_skip (wp_seq (wp_block (wp_seq (rg hB TA_ok [0, 7, 15, 16] [0, 7] [] hF fun X4 a0 w1 hF => ?_))))
 rcases (hth 0 b J hJ ((X5 2).A 0) ((X5 2).c 0) p50 hp50 hn50 x1 hk1 (by have := Nat.lt_of_le_of_lt (Suf.trans hs1 hs50).le hf; omega)).two (fro_thw _ _ _ _ _) hp50 hn50 with ⟨w51, p51, hm51, O1⟩ | ⟨_u51, p51, hm51, hs51, hp51, hn51, S51⟩
 ·refine stp 2 hB TA_ok [19, 20] [0] [] hF O1 fun _ _ _ _ hF hk => ?_
  exact thm (P := Tryz.prog) (fn := Tryz.f250) (q := p51) hF hk (by simp [bckM, ← hx0, ← hx1, Rs.bind, hm1, t1, hm50, hm51])
 have O1 := S51
 refine rg hB TA_ok [0, 15, 16] [0] [(2, rc J (unitV) p51)] hF fun X5 a0 w1 hF => ?_
 refine rg hB TA_ok [16, 0, 15] [0] [] hF fun X6 a0 w1 hF => ?_
 replace hF := hF.headS (v' := .int .i64 2) (by subst hB; exact zr) rfl
 refine rounds_next (wp_seq (rg hB TA_ok [17, 0, 15, 16] [0] [] hF fun X3 a0 w1 hF => ?_))
 replace hF := hF.headS (v' := .bool .ff) (Sim.bool (by subst hB; rfl)) rfl
 refine wp_seq (test_ff hF rfl (fun hF => ?_))
 exact wp_exit ((rmm hB TA_ok hF (v := ()) (q := p51) ((X5 2).A 0) ((X5 2).c 0) (by simp [bckM, ← hx0, ← hx1, Rs.bind, hm1, t1, hm50, hm51])).2)
theorem bck_m (k0 b : Nat) (J : JobA) (hJ : JobOk J) (A : Option Addr) (c : Nat) (p : Pst) (hp : PstOk p) (hn : p.n ≤ 1000000) (l : Lab) (hl : LOk l) (v : Int) (n : Nat) (hth : ThC n) (hf : p.n < n) : RunS 250 k0 b J A c p [labAV l, .int .u64 v] (fun _ => unitV) (bckM J.budget (thwM J.bucket J.budget n) l v p) := RunS.re (bck_m0 b J hJ A c p hp hn l hl v n hth hf) (by repeat (first | exact trivial | refine ⟨zr, ?_⟩))
theorem clns_m0 (b : Nat) (J : JobA) (hJ : JobOk J) (A : Option Addr) (c : Nat) (p : Pst) (hp : PstOk p) (hn : p.n ≤ 1000000) (l : Lab) (hl : LOk l) (n : Nat) (ih : ClC n) (hf : p.n < n + 1) : RunS 191 0 b J A c p [labAV l] (fun _ => unitV) (clnM J.budget (n + 1) l p) := by
 intro m w hm hargs hpre
 have SC := chi_s l hl.u
 have hk0 := hl.ch 0
 have hk1 := hl.ch 1
 simp only [labAV] at SC
 obtain ⟨x0, hx0⟩ := eqv (chV l 0)
 rw [← hx0] at SC hk0
 obtain ⟨x1, hx1⟩ := eqv (chV l 1)
 rw [← hx1] at SC hk1
 refine enX 37 hm hpre hargs Tryz.func191 fun B hB a0 hF => ?_
 refine wp_seq (rg hB TA_ok [0, 3] [0, 3] [] hF fun X0 a0 w1 hF => ?_)
 refine wp_seq (wp_seq (rg hB TA_ok [9, 0, 3] [0, 3] [] hF fun X1 a0 w1 hF => ?_))
 apply test_ok hF rfl <;> intro hb hF
 ·have t0 : l.len = 64 := by subst hB; simpa [std, sC] using hb
  exact wp_ret ((rmm hB TA_ok hF (v := ()) (q := p) A c (by simp [clnM, clnC, ← hx0, ← hx1, Rs.bind, t0])).1)
 have t0 : ¬ l.len = 64 := by subst hB; simpa [std, sC] using hb
 have O1 := SC
 refine wp_skip (wp_seq (rg hB TA_ok [12, 0, 3, 11] [0, 3] [(1, .r fun _ => .agg [.int .i64 x0.len, .int .u64 x0.bits, .int .i64 x1.len, .int .u64 x1.bits])] hF fun X2 a0 w1 hF => ?_))
 refine wp_block (wp_loop_rounds 3 (rounds_first (wp_seq (rg hB TA_ok [13, 0, 3, 11, 12] [0, 3] [] hF fun X3 a0 w1 hF => ?_))))
 replace hF := hF.headS (v' := .bool .tt) (Sim.bool (by subst hB; rfl)) rfl
 refine wp_seq (test_tt hF rfl (fun hF => ?_))
 refine wp_skip (wp_seq (wp_block (wp_seq (rg hB TA_ok [0, 3, 5, 11, 12] [0, 3, 5] [] hF fun X4 a0 w1 hF => ?_))))
 apply wp_seq
 rcases (get_m 0 b J hJ A c p hp hn x0).two (fro_get _ _ _) hp hn with ⟨w50, p50, hm50, O1⟩ | ⟨g0, p50, hm50, hs50, hp50, hn50, S50⟩
 ·refine stp 2 hB TA_ok [15, 16] [0] [] hF O1 fun _ _ _ _ hF hk => ?_
  exact thm (P := Tryz.prog) (fn := Tryz.f191) (q := p50) hF hk (by simp [clnM, clnC, ← hx0, ← hx1, Rs.bind, t0, hm50])
 have hl50 := get_lt hm50
 have hg50 := hp.get hm50
 have O1 := S50
 refine rg hB TA_ok [0, 3, 5, 6, 11, 12] [0, 3, 5, 6] [(2, rc J (gotV g0) p50)] hF fun X5 a0 w1 hF => ?_
 obtain ⟨q0, hq0⟩ := eqv (gk g0 5)
 refine wp_seq (wp_seq ?_)
 refine rg hB TA_ok [21, 0, 3, 5, 6, 11, 12] [0, 3, 5, 6] [(2, .r fun _ => .bool (.v q0))] hF (hob := by intro X; subst hB; simp only [AO, Ob.holds, BE.den] <;> and_intros <;> repeat first | trivial | rfl | exact (by rw [hq0]; exact is1_s g0 _ _ 5 _ rfl) | exact by rw [hq0]; exact is1_s g0 _ _ 5 _ rfl | exact (fun _ _ => by kernel_rfl) | refine ⟨?_, ?_⟩ | intro h | exact Int.le_refl _ | decide | omega) fun X6 a0 w1 hF => ?_
 apply test_ok hF rfl <;> intro hb hF
 ·have tq0 : gk g0 5 = false := by subst hB; rw [← hq0]; revert hb; cases q0 <;> simp [std]
  refine wp_exit (rg hB TA_ok [12, 0, 3, 11] [0, 3] [] hF fun X10 a0 w1 hF => ?_)
  replace hF := hF.headS (v' := .int .i64 1) (by subst hB; exact zr) rfl
  refine rounds_next (wp_seq (rg hB TA_ok [13, 0, 3, 11, 12] [0, 3] [] hF fun X3 a0 w1 hF => ?_))
  replace hF := hF.headS (v' := .bool .tt) (Sim.bool (by subst hB; rfl)) rfl
  refine wp_seq (test_tt hF rfl (fun hF => ?_))
  refine wp_skip (wp_seq (wp_block (wp_seq (rg hB TA_ok [0, 3, 5, 11, 12] [0, 3, 5] [] hF fun X4 a0 w1 hF => ?_))))
  apply wp_seq
  rcases (get_m 0 b J hJ ((X5 2).A 0) ((X5 2).c 0) p50 hp50 hn50 x1).two (fro_get _ _ _) hp50 hn50 with ⟨w51, p51, hm51, O1⟩ | ⟨g1, p51, hm51, hs51, hp51, hn51, S51⟩
  ·refine stp 2 hB TA_ok [15, 16] [0] [] hF O1 fun _ _ _ _ hF hk => ?_
   exact thm (P := Tryz.prog) (fn := Tryz.f191) (q := p51) hF hk (by simp [clnM, clnC, ← hx0, ← hx1, Rs.bind, t0, hm50, tq0, hm51])
  have hl51 := get_lt hm51
  have hg51 := hp50.get hm51
  have O1 := S51
  refine rg hB TA_ok [0, 3, 5, 6, 11, 12] [0, 3, 5, 6] [(2, rc J (gotV g1) p51)] hF fun X5 a0 w1 hF => ?_
  obtain ⟨q1, hq1⟩ := eqv (gk g1 5)
  refine wp_seq (wp_seq ?_)
  refine rg hB TA_ok [21, 0, 3, 5, 6, 11, 12] [0, 3, 5, 6] [(2, .r fun _ => .bool (.v q1))] hF (hob := by intro X; subst hB; simp only [AO, Ob.holds, BE.den] <;> and_intros <;> repeat first | trivial | rfl | exact (by rw [hq1]; exact is1_s g1 _ _ 5 _ rfl) | exact by rw [hq1]; exact is1_s g1 _ _ 5 _ rfl | exact (fun _ _ => by kernel_rfl) | refine ⟨?_, ?_⟩ | intro h | exact Int.le_refl _ | decide | omega) fun X6 a0 w1 hF => ?_
  apply test_ok hF rfl <;> intro hb hF
  ·have tq1 : gk g1 5 = false := by subst hB; rw [← hq1]; revert hb; cases q1 <;> simp [std]
   refine wp_exit (rg hB TA_ok [12, 0, 3, 11] [0, 3] [] hF fun X10 a0 w1 hF => ?_)
   replace hF := hF.headS (v' := .int .i64 2) (by subst hB; exact zr) rfl
   refine rounds_next (wp_seq (rg hB TA_ok [13, 0, 3, 11, 12] [0, 3] [] hF fun X3 a0 w1 hF => ?_))
   replace hF := hF.headS (v' := .bool .ff) (Sim.bool (by subst hB; rfl)) rfl
   refine wp_seq (test_ff hF rfl (fun hF => ?_))
   exact wp_exit ((rmm hB TA_ok hF (v := ()) (q := p51) ((X5 2).A 0) ((X5 2).c 0) (by simp [clnM, clnC, ← hx0, ← hx1, Rs.bind, t0, hm50, tq0, hm51, tq1])).2)
  have tq1 : gk g1 5 = true := by subst hB; rw [← hq1]; revert hb; cases q1 <;> simp [std]
  refine wp_skip (wp_seq ?_)
  rcases (ih 0 b J hJ ((X5 2).A 0) ((X5 2).c 0) p51 hp51 hn51 x1 hk1 (by have := hs51.le; have := hl51; have := (Suf.trans (Suf.refl p) hs50).le; omega)).two (fro_cln _ _ _ _) hp51 hn51 with ⟨w71, p71, hm71, O1⟩ | ⟨v71, p71, hm71, hs71, hp71, hn71, S71⟩
  ·refine stp 2 hB TA_ok [22, 23] [0] [] hF O1 fun _ _ _ _ hF hk => ?_
   exact thm (P := Tryz.prog) (fn := Tryz.f191) (q := p71) hF hk (by simp [clnM, clnC, ← hx0, ← hx1, Rs.bind, t0, hm50, tq0, hm51, tq1, hm71])
  have O1 := S71
  refine rg hB TA_ok [0, 3, 5, 6, 11, 12] [0, 3, 5, 6] [(2, rc J (unitV) p71)] hF fun X7 a0 w1 hF => ?_
  refine wp_seq (wp_seq ?_)
  rcases (get_m 0 b J hJ ((X7 2).A 0) ((X7 2).c 0) p71 hp71 hn71 l).two (fro_get _ _ _) hp71 hn71 with ⟨w81, p81, hm81, O1⟩ | ⟨h1, p81, hm81, hs81, hp81, hn81, S81⟩
  ·refine stp 2 hB TA_ok [25, 26] [0] [] hF O1 fun _ _ _ _ hF hk => ?_
   exact thm (P := Tryz.prog) (fn := Tryz.f191) (q := p81) hF hk (by simp [clnM, clnC, ← hx0, ← hx1, Rs.bind, t0, hm50, tq0, hm51, tq1, hm71, hm81])
  have hl81 := get_lt hm81
  have hg81 := hp71.get hm81
  obtain ⟨r1, hr1⟩ := eqv ((gk h1 1 || gk h1 5))
  refine rg hB TA_ok [30, 0, 3, 5, 6, 11, 12] [0, 3, 5, 6] [(4, .r fun _ => .bool (.v r1)), (2, rc J (gotV h1) p81)] hF (hob := by intro X; subst hB; simp only [AO, Ob.holds, BE.den] <;> and_intros <;> repeat first | trivial | rfl | exact S81 | exact (by rw [hr1]; exact is2_s h1 _ _ 1 5 _ rfl rfl) | exact by rw [hr1]; exact is2_s h1 _ _ 1 5 _ rfl rfl | exact (fun _ _ => by kernel_rfl) | refine ⟨?_, ?_⟩ | intro h | exact Int.le_refl _ | decide | omega) fun X8 a0 w1 hF => ?_
  apply test_ok hF rfl <;> intro hb hF
  ·have tr1 : (gk h1 1 || gk h1 5) = false := by subst hB; rw [← hr1]; revert hb; cases r1 <;> simp [std]
   exact wp_ret ((rmm hB TA_ok hF (v := ()) (q := p81) ((X8 2).A 0) ((X8 2).c 0) (by simp [clnM, clnC, ← hx0, ← hx1, Rs.bind, t0, hm50, tq0, hm51, tq1, hm71, hm81, tr1])).1)
  have tr1 : (gk h1 1 || gk h1 5) = true := by subst hB; rw [← hr1]; revert hb; cases r1 <;> simp [std]
  refine wp_skip ?_
  rcases (del_m 0 b J hJ ((X8 2).A 0) ((X8 2).c 0) p81 hp81 hn81 x1 g1.ver).two (fro_del _ _ _ _) hp81 hn81 with ⟨w91, p91, hm91, O1⟩ | ⟨d1, p91, hm91, hs91, hp91, hn91, S91⟩
  ·refine stp 4 hB TA_ok [31, 32, 34] [0] [] hF O1 fun _ _ _ _ hF hk => ?_
   exact thm (P := Tryz.prog) (fn := Tryz.f191) (q := p91) hF hk (by simp [clnM, clnC, ← hx0, ← hx1, Rs.bind, t0, hm50, tq0, hm51, tq1, hm71, hm81, tr1, hm91])
  have O1 := S91
  refine rg hB TA_ok [0, 3, 11, 12] [0, 3] [(4, rc J (.bool (.v d1)) p91)] hF fun X9 a0 w1 hF => ?_
  refine rg hB TA_ok [12, 0, 3, 11] [0, 3] [] hF fun X10 a0 w1 hF => ?_
  replace hF := hF.headS (v' := .int .i64 2) (by subst hB; exact zr) rfl
  refine rounds_next (wp_seq (rg hB TA_ok [13, 0, 3, 11, 12] [0, 3] [] hF fun X3 a0 w1 hF => ?_))
  replace hF := hF.headS (v' := .bool .ff) (Sim.bool (by subst hB; rfl)) rfl
  refine wp_seq (test_ff hF rfl (fun hF => ?_))
  exact wp_exit ((rmm hB TA_ok hF (v := ()) (q := p91) ((X9 4).A 0) ((X9 4).c 0) (by simp [clnM, clnC, ← hx0, ← hx1, Rs.bind, t0, hm50, tq0, hm51, tq1, hm71, hm81, tr1, hm91])).2)
 have tq0 : gk g0 5 = true := by subst hB; rw [← hq0]; revert hb; cases q0 <;> simp [std]
 refine wp_skip (wp_seq ?_)
 rcases (ih 0 b J hJ ((X5 2).A 0) ((X5 2).c 0) p50 hp50 hn50 x0 hk0 (by have := hs50.le; have := hl50; have := (Suf.refl p).le; omega)).two (fro_cln _ _ _ _) hp50 hn50 with ⟨w70, p70, hm70, O1⟩ | ⟨v70, p70, hm70, hs70, hp70, hn70, S70⟩
 ·refine stp 2 hB TA_ok [22, 23] [0] [] hF O1 fun _ _ _ _ hF hk => ?_
  exact thm (P := Tryz.prog) (fn := Tryz.f191) (q := p70) hF hk (by simp [clnM, clnC, ← hx0, ← hx1, Rs.bind, t0, hm50, tq0, hm70])
 have O1 := S70
 refine rg hB TA_ok [0, 3, 5, 6, 11, 12] [0, 3, 5, 6] [(2, rc J (unitV) p70)] hF fun X7 a0 w1 hF => ?_
 refine wp_seq (wp_seq ?_)
 rcases (get_m 0 b J hJ ((X7 2).A 0) ((X7 2).c 0) p70 hp70 hn70 l).two (fro_get _ _ _) hp70 hn70 with ⟨w80, p80, hm80, O1⟩ | ⟨h0, p80, hm80, hs80, hp80, hn80, S80⟩
 ·refine stp 2 hB TA_ok [25, 26] [0] [] hF O1 fun _ _ _ _ hF hk => ?_
  exact thm (P := Tryz.prog) (fn := Tryz.f191) (q := p80) hF hk (by simp [clnM, clnC, ← hx0, ← hx1, Rs.bind, t0, hm50, tq0, hm70, hm80])
 have hl80 := get_lt hm80
 have hg80 := hp70.get hm80
 obtain ⟨r0, hr0⟩ := eqv ((gk h0 1 || gk h0 5))
 refine rg hB TA_ok [30, 0, 3, 5, 6, 11, 12] [0, 3, 5, 6] [(4, .r fun _ => .bool (.v r0)), (2, rc J (gotV h0) p80)] hF (hob := by intro X; subst hB; simp only [AO, Ob.holds, BE.den] <;> and_intros <;> repeat first | trivial | rfl | exact S80 | exact (by rw [hr0]; exact is2_s h0 _ _ 1 5 _ rfl rfl) | exact by rw [hr0]; exact is2_s h0 _ _ 1 5 _ rfl rfl | exact (fun _ _ => by kernel_rfl) | refine ⟨?_, ?_⟩ | intro h | exact Int.le_refl _ | decide | omega) fun X8 a0 w1 hF => ?_
 apply test_ok hF rfl <;> intro hb hF
 ·have tr0 : (gk h0 1 || gk h0 5) = false := by subst hB; rw [← hr0]; revert hb; cases r0 <;> simp [std]
  exact wp_ret ((rmm hB TA_ok hF (v := ()) (q := p80) ((X8 2).A 0) ((X8 2).c 0) (by simp [clnM, clnC, ← hx0, ← hx1, Rs.bind, t0, hm50, tq0, hm70, hm80, tr0])).1)
 have tr0 : (gk h0 1 || gk h0 5) = true := by subst hB; rw [← hr0]; revert hb; cases r0 <;> simp [std]
 refine wp_skip ?_
 rcases (del_m 0 b J hJ ((X8 2).A 0) ((X8 2).c 0) p80 hp80 hn80 x0 g0.ver).two (fro_del _ _ _ _) hp80 hn80 with ⟨w90, p90, hm90, O1⟩ | ⟨d0, p90, hm90, hs90, hp90, hn90, S90⟩
 ·refine stp 4 hB TA_ok [31, 32, 34] [0] [] hF O1 fun _ _ _ _ hF hk => ?_
  exact thm (P := Tryz.prog) (fn := Tryz.f191) (q := p90) hF hk (by simp [clnM, clnC, ← hx0, ← hx1, Rs.bind, t0, hm50, tq0, hm70, hm80, tr0, hm90])
 have O1 := S90
 refine rg hB TA_ok [0, 3, 11, 12] [0, 3] [(4, rc J (.bool (.v d0)) p90)] hF fun X9 a0 w1 hF => ?_
 refine rg hB TA_ok [12, 0, 3, 11] [0, 3] [] hF fun X10 a0 w1 hF => ?_
 replace hF := hF.headS (v' := .int .i64 1) (by subst hB; exact zr) rfl
 refine rounds_next (wp_seq (rg hB TA_ok [13, 0, 3, 11, 12] [0, 3] [] hF fun X3 a0 w1 hF => ?_))
 replace hF := hF.headS (v' := .bool .tt) (Sim.bool (by subst hB; rfl)) rfl
 refine wp_seq (test_tt hF rfl (fun hF => ?_))
 refine wp_skip (wp_seq (wp_block (wp_seq (rg hB TA_ok [0, 3, 5, 11, 12] [0, 3, 5] [] hF fun X4 a0 w1 hF => ?_))))
 apply wp_seq
 rcases (get_m 0 b J hJ ((X9 4).A 0) ((X9 4).c 0) p90 hp90 hn90 x1).two (fro_get _ _ _) hp90 hn90 with ⟨w51, p51, hm51, O1⟩ | ⟨g1, p51, hm51, hs51, hp51, hn51, S51⟩
 ·refine stp 2 hB TA_ok [15, 16] [0] [] hF O1 fun _ _ _ _ hF hk => ?_
  exact thm (P := Tryz.prog) (fn := Tryz.f191) (q := p51) hF hk (by simp [clnM, clnC, ← hx0, ← hx1, Rs.bind, t0, hm50, tq0, hm70, hm80, tr0, hm90, hm51])
 have hl51 := get_lt hm51
 have hg51 := hp90.get hm51
 have O1 := S51
 refine rg hB TA_ok [0, 3, 5, 6, 11, 12] [0, 3, 5, 6] [(2, rc J (gotV g1) p51)] hF fun X5 a0 w1 hF => ?_
 obtain ⟨q1, hq1⟩ := eqv (gk g1 5)
 refine wp_seq (wp_seq ?_)
 refine rg hB TA_ok [21, 0, 3, 5, 6, 11, 12] [0, 3, 5, 6] [(2, .r fun _ => .bool (.v q1))] hF (hob := by intro X; subst hB; simp only [AO, Ob.holds, BE.den] <;> and_intros <;> repeat first | trivial | rfl | exact (by rw [hq1]; exact is1_s g1 _ _ 5 _ rfl) | exact by rw [hq1]; exact is1_s g1 _ _ 5 _ rfl | exact (fun _ _ => by kernel_rfl) | refine ⟨?_, ?_⟩ | intro h | exact Int.le_refl _ | decide | omega) fun X6 a0 w1 hF => ?_
 apply test_ok hF rfl <;> intro hb hF
 ·have tq1 : gk g1 5 = false := by subst hB; rw [← hq1]; revert hb; cases q1 <;> simp [std]
  refine wp_exit (rg hB TA_ok [12, 0, 3, 11] [0, 3] [] hF fun X10 a0 w1 hF => ?_)
  replace hF := hF.headS (v' := .int .i64 2) (by subst hB; exact zr) rfl
  refine rounds_next (wp_seq (rg hB TA_ok [13, 0, 3, 11, 12] [0, 3] [] hF fun X3 a0 w1 hF => ?_))
  replace hF := hF.headS (v' := .bool .ff) (Sim.bool (by subst hB; rfl)) rfl
  refine wp_seq (test_ff hF rfl (fun hF => ?_))
  exact wp_exit ((rmm hB TA_ok hF (v := ()) (q := p51) ((X5 2).A 0) ((X5 2).c 0) (by simp [clnM, clnC, ← hx0, ← hx1, Rs.bind, t0, hm50, tq0, hm70, hm80, tr0, hm90, hm51, tq1])).2)
 have tq1 : gk g1 5 = true := by subst hB; rw [← hq1]; revert hb; cases q1 <;> simp [std]
 refine wp_skip (wp_seq ?_)
 rcases (ih 0 b J hJ ((X5 2).A 0) ((X5 2).c 0) p51 hp51 hn51 x1 hk1 (by have := hs51.le; have := hl51; have := (Suf.trans (Suf.trans (Suf.trans (Suf.trans (Suf.refl p) hs50) hs70) hs80) hs90).le; omega)).two (fro_cln _ _ _ _) hp51 hn51 with ⟨w71, p71, hm71, O1⟩ | ⟨v71, p71, hm71, hs71, hp71, hn71, S71⟩
 ·refine stp 2 hB TA_ok [22, 23] [0] [] hF O1 fun _ _ _ _ hF hk => ?_
  exact thm (P := Tryz.prog) (fn := Tryz.f191) (q := p71) hF hk (by simp [clnM, clnC, ← hx0, ← hx1, Rs.bind, t0, hm50, tq0, hm70, hm80, tr0, hm90, hm51, tq1, hm71])
 have O1 := S71
 refine rg hB TA_ok [0, 3, 5, 6, 11, 12] [0, 3, 5, 6] [(2, rc J (unitV) p71)] hF fun X7 a0 w1 hF => ?_
 refine wp_seq (wp_seq ?_)
 rcases (get_m 0 b J hJ ((X7 2).A 0) ((X7 2).c 0) p71 hp71 hn71 l).two (fro_get _ _ _) hp71 hn71 with ⟨w81, p81, hm81, O1⟩ | ⟨h1, p81, hm81, hs81, hp81, hn81, S81⟩
 ·refine stp 2 hB TA_ok [25, 26] [0] [] hF O1 fun _ _ _ _ hF hk => ?_
  exact thm (P := Tryz.prog) (fn := Tryz.f191) (q := p81) hF hk (by simp [clnM, clnC, ← hx0, ← hx1, Rs.bind, t0, hm50, tq0, hm70, hm80, tr0, hm90, hm51, tq1, hm71, hm81])
 have hl81 := get_lt hm81
 have hg81 := hp71.get hm81
 obtain ⟨r1, hr1⟩ := eqv ((gk h1 1 || gk h1 5))
 refine rg hB TA_ok [30, 0, 3, 5, 6, 11, 12] [0, 3, 5, 6] [(4, .r fun _ => .bool (.v r1)), (2, rc J (gotV h1) p81)] hF (hob := by intro X; subst hB; simp only [AO, Ob.holds, BE.den] <;> and_intros <;> repeat first | trivial | rfl | exact S81 | exact (by rw [hr1]; exact is2_s h1 _ _ 1 5 _ rfl rfl) | exact by rw [hr1]; exact is2_s h1 _ _ 1 5 _ rfl rfl | exact (fun _ _ => by kernel_rfl) | refine ⟨?_, ?_⟩ | intro h | exact Int.le_refl _ | decide | omega) fun X8 a0 w1 hF => ?_
 apply test_ok hF rfl <;> intro hb hF
 ·have tr1 : (gk h1 1 || gk h1 5) = false := by subst hB; rw [← hr1]; revert hb; cases r1 <;> simp [std]
  exact wp_ret ((rmm hB TA_ok hF (v := ()) (q := p81) ((X8 2).A 0) ((X8 2).c 0) (by simp [clnM, clnC, ← hx0, ← hx1, Rs.bind, t0, hm50, tq0, hm70, hm80, tr0, hm90, hm51, tq1, hm71, hm81, tr1])).1)
 have tr1 : (gk h1 1 || gk h1 5) = true := by subst hB; rw [← hr1]; revert hb; cases r1 <;> simp [std]
 refine wp_skip ?_
 rcases (del_m 0 b J hJ ((X8 2).A 0) ((X8 2).c 0) p81 hp81 hn81 x1 g1.ver).two (fro_del _ _ _ _) hp81 hn81 with ⟨w91, p91, hm91, O1⟩ | ⟨d1, p91, hm91, hs91, hp91, hn91, S91⟩
 ·refine stp 4 hB TA_ok [31, 32, 34] [0] [] hF O1 fun _ _ _ _ hF hk => ?_
  exact thm (P := Tryz.prog) (fn := Tryz.f191) (q := p91) hF hk (by simp [clnM, clnC, ← hx0, ← hx1, Rs.bind, t0, hm50, tq0, hm70, hm80, tr0, hm90, hm51, tq1, hm71, hm81, tr1, hm91])
 have O1 := S91
 refine rg hB TA_ok [0, 3, 11, 12] [0, 3] [(4, rc J (.bool (.v d1)) p91)] hF fun X9 a0 w1 hF => ?_
 refine rg hB TA_ok [12, 0, 3, 11] [0, 3] [] hF fun X10 a0 w1 hF => ?_
 replace hF := hF.headS (v' := .int .i64 2) (by subst hB; exact zr) rfl
 refine rounds_next (wp_seq (rg hB TA_ok [13, 0, 3, 11, 12] [0, 3] [] hF fun X3 a0 w1 hF => ?_))
 replace hF := hF.headS (v' := .bool .ff) (Sim.bool (by subst hB; rfl)) rfl
 refine wp_seq (test_ff hF rfl (fun hF => ?_))
 exact wp_exit ((rmm hB TA_ok hF (v := ()) (q := p91) ((X9 4).A 0) ((X9 4).c 0) (by simp [clnM, clnC, ← hx0, ← hx1, Rs.bind, t0, hm50, tq0, hm70, hm80, tr0, hm90, hm51, tq1, hm71, hm81, tr1, hm91])).2)
theorem clns_m (k0 b : Nat) (J : JobA) (hJ : JobOk J) (A : Option Addr) (c : Nat) (p : Pst) (hp : PstOk p) (hn : p.n ≤ 1000000) (l : Lab) (hl : LOk l) (n : Nat) (ih : ClC n) (hf : p.n < n + 1) : RunS 191 k0 b J A c p [labAV l] (fun _ => unitV) (clnM J.budget (n + 1) l p) := RunS.re (clns_m0 b J hJ A c p hp hn l hl n ih hf) (by repeat (first | exact trivial | refine ⟨zr, ?_⟩))
theorem cln_c : ∀ n, ClC n
 | 0 => fun _ _ _ _ _ _ _ _ _ _ _ h => absurd h (Nat.not_lt_zero _)
 | n + 1 => fun k0 b J hJ A c p hp hn l hl hf => clns_m k0 b J hJ A c p hp hn l hl n (cln_c n) hf
theorem spl_m0 (b : Nat) (J : JobA) (hJ : JobOk J) (A : Option Addr) (c : Nat) (p : Pst) (hp : PstOk p) (hn : p.n ≤ 1000000) (l : Lab) (hl : LOk l) (v : Int) (x : RA) (hx : RaOk x) (n : Nat) (hf : p.n < n) : RunS 215 0 b J A c p [labAV l, .int .u64 v, recV x] (fun _ => unitV) (splitM J.budget n l v x p) := by
 intro m w hm hargs hpre
 have SC := chi_s l hl.u
 have hk0 := hl.ch 0
 have hk1 := hl.ch 1
 simp only [labAV] at SC
 obtain ⟨x0, hx0⟩ := eqv (chV l 0)
 rw [← hx0] at SC hk0
 obtain ⟨x1, hx1⟩ := eqv (chV l 1)
 rw [← hx1] at SC hk1
 have SH := halv_c x hx l hl.u
 obtain ⟨e, he⟩ := eqv ((halvA x l).2.2)
 rw [← he] at SH
 obtain ⟨r0, hr0⟩ := eqv ((halvA x l).1.rn)
 rw [← hr0] at SH
 obtain ⟨r1, hr1⟩ := eqv ((halvA x l).2.1.rn)
 rw [← hr1] at SH
 have ha0 : r0.abs = (halvA x l).1 := by rw [hr0]; exact rn_abs _
 have ha1 : r1.abs = (halvA x l).2.1 := by rw [hr1]; exact rn_abs _
 simp only [labAV] at SH
 refine enX 63 hm hpre hargs Tryz.func215 fun B hB a0 hF => ?_
 refine wp_seq (rg hB TA_ok [0, 2, 5, 7] [0, 5, 7] [] hF fun X0 a0 w1 hF => ?_)
 have O1 := SH
 refine wp_seq (rg hB TA_ok [0, 2, 5, 8, 9, 10] [0, 5, 8, 9] [(2, .r fun y => .tup [.agg [.int .i64 r0.kd, .sl none (y.A 0) r0.n (y.c 0) 2 (fun i => itC (r0.f i)), .int .i64 r0.nx.len, .int .u64 r0.nx.bits, .int .u64 r0.mrk], .agg [.int .i64 r1.kd, .sl none (y.A 1) r1.n (y.c 1) 2 (fun i => itC (r1.f i)), .int .i64 r1.nx.len, .int .u64 r1.nx.bits, .int .u64 r1.mrk], .int .i64 e])] hF fun X1 a0 w1 hF => ?_)
 refine wp_seq (wp_seq (rg hB TA_ok [23, 0, 2, 5, 8, 9] [0, 5, 8, 9] [] hF fun X2 a0 w1 hF => ?_))
 apply test_ok hF rfl <;> intro hb hF
 ·have t0 : ¬ e = 0 := by subst hB; simpa [std, sC] using hb
  exact wp_ret ((rmm hB TA_ok hF (v := ()) (q := p) A c (by simp [splitM, splC, ← hx0, ← hx1, ← ha0, ← ha1, ← he, Rs.bind, t0])).1)
 have t0 : e = 0 := by subst hB; simpa [std, sC] using hb
 refine wp_skip (wp_seq (rg hB TA_ok [0, 2, 5, 11] [0, 5, 11] [] hF fun X3 a0 w1 hF => ?_))
 have O1 := SC
 refine wp_seq (wp_seq (rg hB TA_ok [29, 0, 2, 5, 11, 28] [0, 5, 11] [(1, .r fun _ => .agg [.int .i64 x0.len, .int .u64 x0.bits, .int .i64 x1.len, .int .u64 x1.bits])] hF fun X4 a0 w1 hF => ?_))
 refine wp_block (wp_loop_rounds 3 (rounds_first (wp_seq (rg hB TA_ok [30, 0, 2, 5, 11, 28, 29] [0, 5, 11] [] hF fun X5 a0 w1 hF => ?_))))
 replace hF := hF.headS (v' := .bool .tt) (Sim.bool (by subst hB; rfl)) rfl
 refine wp_seq (test_tt hF rfl (fun hF => ?_))
 refine wp_skip (wp_seq (wp_block (wp_seq (rg hB TA_ok [0, 2, 5, 11, 12, 13, 28, 29] [0, 5, 11, 13] [] hF fun X6 a0 w1 hF => ?_))))
 refine wp_block (loop_pre (ι := Nat × Pst × Option Addr × Nat) (fun q => []) (fun q => [(0, ⟨b, 114, runC J q.2.2.1 q.2.2.2 q.2.1⟩)]) (fun q => []) (fun q => splC J.budget l v x0 r0.abs n p = splC J.budget l v x0 r0.abs q.1 q.2.1 ∧ PstOk q.2.1 ∧ q.2.1.n ≤ 1000000 ∧ q.2.1.n < q.1 ∧ q.2.1.n ≤ p.n) (fun q => q.1) (n, p, A, c) ⟨rfl, hp, hn, (by dsimp only; skip; omega), (by dsimp only; skip; omega)⟩ hF ?_)
 rintro ⟨nn0, p0, A0, c0⟩ ⟨hrun0, hp0, hn0, hf0, hle0⟩ a0 w1 hF
 try dsimp only at hrun0
 try dsimp only at hp0
 try dsimp only at hn0
 try dsimp only at hf0
 try dsimp only at hle0
 obtain ⟨m0, rfl⟩ : ∃ n2, nn0 = n2 + 1 := ⟨nn0 - 1, by omega⟩
 refine wp_block (wp_seq ?_)
 rcases (get_m 0 b J hJ A0 c0 p0 hp0 hn0 x0).two (fro_get _ _ _) hp0 hn0 with ⟨w70, p70, hm70, O1⟩ | ⟨g0, p70, hm70, hs70, hp70, hn70, S70⟩
 ·refine stp 2 hB TA_ok [33, 34] [0] [] hF O1 fun _ _ _ _ hF hk => ?_
  exact thm (P := Tryz.prog) (fn := Tryz.f215) (q := p70) hF hk (by simp [splitM, splC, ← hx0, ← hx1, ← ha0, ← ha1, ← he, Rs.bind, t0, hrun0, hm70])
 have hl70 := get_lt hm70
 have hg70 := hp0.get hm70
 have O1 := S70
 refine rg hB TA_ok [0, 2, 5, 11, 12, 13, 14, 28, 29] [0, 5, 11, 13, 14] [(2, rc J (gotV g0) p70)] hF fun X7 a0 w1 hF => ?_
 refine wp_seq (wp_seq (rg hB TA_ok [43, 0, 2, 5, 11, 12, 13, 14, 28, 29] [0, 5, 11, 13, 14] [] hF fun X8 a0 w1 hF => ?_))
 apply test_ok hF rfl <;> intro hb hF
 ·have tq0 : (g0.has && !decide (g0.x.r.kd = 5)) = true := by
   have h9 : (if g0.has = true then !decide (g0.x.r.kd = 5) else false) = true := by
    have h8 : (if g0.has = true then (g0.x.r.kd != 5) else false) = true := by subst hB; exact hb
    exact h8
   rw [← h9]; cases g0.has <;> rfl
  refine wp_exit (rg hB TA_ok [29, 0, 2, 5, 11, 28] [0, 5, 11] [] hF fun X11 a0 w1 hF => ?_)
  replace hF := hF.headS (v' := .int .i64 1) (by subst hB; exact zr) rfl
  refine rounds_next (wp_seq (rg hB TA_ok [30, 0, 2, 5, 11, 28, 29] [0, 5, 11] [] hF fun X5 a0 w1 hF => ?_))
  replace hF := hF.headS (v' := .bool .tt) (Sim.bool (by subst hB; rfl)) rfl
  refine wp_seq (test_tt hF rfl (fun hF => ?_))
  refine wp_skip (wp_seq (wp_block (wp_seq (rg hB TA_ok [0, 2, 5, 11, 12, 13, 28, 29] [0, 5, 11, 13] [] hF fun X6 a0 w1 hF => ?_))))
  refine wp_block (loop_pre (ι := Nat × Pst × Option Addr × Nat) (fun q => []) (fun q => [(0, ⟨b, 114, runC J q.2.2.1 q.2.2.2 q.2.1⟩)]) (fun q => []) (fun q => splC J.budget l v x1 r1.abs n p70 = splC J.budget l v x1 r1.abs q.1 q.2.1 ∧ PstOk q.2.1 ∧ q.2.1.n ≤ 1000000 ∧ q.2.1.n < q.1 ∧ q.2.1.n ≤ p.n) (fun q => q.1) (n, p70, ((X7 2).A 0), ((X7 2).c 0)) ⟨rfl, hp70, hn70, (by dsimp only; have := hle0; have := hs70.le; omega), (by dsimp only; have := hle0; have := hs70.le; omega)⟩ hF ?_)
  rintro ⟨nn1, p1, A1, c1⟩ ⟨hrun1, hp1, hn1, hf1, hle1⟩ a0 w1 hF
  try dsimp only at hrun1
  try dsimp only at hp1
  try dsimp only at hn1
  try dsimp only at hf1
  try dsimp only at hle1
  obtain ⟨m1, rfl⟩ : ∃ n2, nn1 = n2 + 1 := ⟨nn1 - 1, by omega⟩
  refine wp_block (wp_seq ?_)
  rcases (get_m 0 b J hJ A1 c1 p1 hp1 hn1 x1).two (fro_get _ _ _) hp1 hn1 with ⟨w71, p71, hm71, O1⟩ | ⟨g1, p71, hm71, hs71, hp71, hn71, S71⟩
  ·refine stp 2 hB TA_ok [33, 34] [0] [] hF O1 fun _ _ _ _ hF hk => ?_
   exact thm (P := Tryz.prog) (fn := Tryz.f215) (q := p71) hF hk (by simp [splitM, splC, ← hx0, ← hx1, ← ha0, ← ha1, ← he, Rs.bind, t0, hrun0, hm70, tq0, hrun1, hm71])
  have hl71 := get_lt hm71
  have hg71 := hp1.get hm71
  have O1 := S71
  refine rg hB TA_ok [0, 2, 5, 11, 12, 13, 14, 28, 29] [0, 5, 11, 13, 14] [(2, rc J (gotV g1) p71)] hF fun X7 a0 w1 hF => ?_
  refine wp_seq (wp_seq (rg hB TA_ok [43, 0, 2, 5, 11, 12, 13, 14, 28, 29] [0, 5, 11, 13, 14] [] hF fun X8 a0 w1 hF => ?_))
  apply test_ok hF rfl <;> intro hb hF
  ·have tq1 : (g1.has && !decide (g1.x.r.kd = 5)) = true := by
    have h9 : (if g1.has = true then !decide (g1.x.r.kd = 5) else false) = true := by
     have h8 : (if g1.has = true then (g1.x.r.kd != 5) else false) = true := by subst hB; exact hb
     exact h8
    rw [← h9]; cases g1.has <;> rfl
   refine wp_exit (rg hB TA_ok [29, 0, 2, 5, 11, 28] [0, 5, 11] [] hF fun X11 a0 w1 hF => ?_)
   replace hF := hF.headS (v' := .int .i64 2) (by subst hB; exact zr) rfl
   refine rounds_next (wp_seq (rg hB TA_ok [30, 0, 2, 5, 11, 28, 29] [0, 5, 11] [] hF fun X5 a0 w1 hF => ?_))
   replace hF := hF.headS (v' := .bool .ff) (Sim.bool (by subst hB; rfl)) rfl
   refine wp_seq (test_ff hF rfl (fun hF => ?_))
   refine wp_exit ?_
   rcases (casi_m 0 b J hJ ((X7 2).A 0) ((X7 2).c 0) p71 hp71 hn71 l v).two (fro_cas _ _ _ _ _) hp71 hn71 with ⟨w12, p12, hm12, O1⟩ | ⟨d2, p12, hm12, hs12, hp12, hn12, S12⟩
   ·have O2 := inn_s
    refine stpD 4 hB TA_ok [58, 59, 60, 61] [0] [(3, .r fun _ => .agg [.int .i64 2, .sl none none 0 0 2 (fun _ => []), .int .i64 (-1), .int .u64 0, .int .u64 0])] hF O1 fun _ _ _ _ hF hk => ?_
    exact thm (P := Tryz.prog) (fn := Tryz.f215) (q := p12) hF hk (by simp [splitM, splC, ← hx0, ← hx1, ← ha0, ← ha1, ← he, Rs.bind, t0, hrun0, hm70, tq0, hrun1, hm71, tq1, hm12])
   have O1 := inn_s
   have O2 := S12
   refine drg hB TA_ok [] [0] [(3, .r fun _ => .agg [.int .i64 2, .sl none none 0 0 2 (fun _ => []), .int .i64 (-1), .int .u64 0, .int .u64 0]), (4, rc J (.bool (.v d2)) p12)] hF fun X12 a0 w1 hF => ?_
   exact (rmm hB TA_ok hF (v := ()) (q := p12) ((X12 4).A 0) ((X12 4).c 0) (by simp [splitM, splC, ← hx0, ← hx1, ← ha0, ← ha1, ← he, Rs.bind, t0, hrun0, hm70, tq0, hrun1, hm71, tq1, hm12])).2
  have tq1 : (g1.has && !decide (g1.x.r.kd = 5)) = false := by
   have h9 : (if g1.has = true then !decide (g1.x.r.kd = 5) else false) = false := by
    have h8 : (if g1.has = true then (g1.x.r.kd != 5) else false) = false := by subst hB; exact hb
    exact h8
   rw [← h9]; cases g1.has <;> rfl
  refine wp_skip (wp_seq (wp_seq ?_))
  rcases (still_m 0 b J hJ ((X7 2).A 0) ((X7 2).c 0) p71 hp71 hn71 l v).two (fro_get _ _ _) hp71 hn71 with ⟨w91, p91, hm91, O1⟩ | ⟨h1, p91, hm91, hs91, hp91, hn91, S91⟩
  ·refine stp 3 hB TA_ok [44, 45, 46] [0] [] hF O1 fun _ _ _ _ hF hk => ?_
   exact thm (P := Tryz.prog) (fn := Tryz.f215) (q := p91) hF hk (by simp [splitM, splC, ← hx0, ← hx1, ← ha0, ← ha1, ← he, Rs.bind, t0, hrun0, hm70, tq0, hrun1, hm71, tq1, hm91])
  have hl91 := get_lt hm91
  have hg91 := hp71.get hm91
  try dsimp only at S91
  obtain ⟨e1, he1⟩ := eqv (decide (h1.ver = v))
  rw [← he1] at S91
  have O1 := S91
  refine rg hB TA_ok [48, 0, 2, 5, 11, 12, 13, 14, 28, 29] [0, 5, 11, 13, 14] [(3, rc J (.bool (.v e1)) p91)] hF fun X9 a0 w1 hF => ?_
  apply test_ok hF rfl <;> intro hb hF
  ·have t91 : ¬ h1.ver = v := by
    have h9 : (!e1) = true := by subst hB; exact hb
    rw [he1] at h9; simpa using h9
   exact wp_ret ((rmm hB TA_ok hF (v := ()) (q := p91) ((X9 3).A 0) ((X9 3).c 0) (by simp [splitM, splC, ← hx0, ← hx1, ← ha0, ← ha1, ← he, Rs.bind, t0, hrun0, hm70, tq0, hrun1, hm71, tq1, hm91, t91])).1)
  have t91 : h1.ver = v := by
   have h9 : (!e1) = false := by subst hB; exact hb
   rw [he1] at h9; simpa using h9
  refine wp_skip (wp_seq ?_)
  rcases (cas_m 0 b J hJ ((X9 3).A 0) ((X9 3).c 0) p91 hp91 hn91 x1 g1.ver ⟨(X1 2).A 1, (X1 2).c 1, r1⟩).two (fro_cas _ _ _ _ _) hp91 hn91 with ⟨w101, p101, hm101, O1⟩ | ⟨d1, p101, hm101, hs101, hp101, hn101, S101⟩
  ·refine stpD 7 hB TA_ok [49, 50, 52, 55] [0] [] hF O1 fun _ _ _ _ hF hk => ?_
   exact thm (P := Tryz.prog) (fn := Tryz.f215) (q := p101) hF hk (by simp [splitM, splC, ← hx0, ← hx1, ← ha0, ← ha1, ← he, Rs.bind, t0, hrun0, hm70, tq0, hrun1, hm71, tq1, hm91, t91, hm101])
  have O1 := S101
  refine drg hB TA_ok [56, 0, 2, 5, 11, 12, 13, 28, 29] [0, 5, 11, 13] [(7, rc J (.bool (.v d1)) p101)] hF fun X10 a0 w1 hF => ?_
  apply test_ok hF rfl <;> intro hb hF
  ·have td1 : d1 = true := by exact hb
   refine wp_exit (rg hB TA_ok [29, 0, 2, 5, 11, 28] [0, 5, 11] [] hF fun X11 a0 w1 hF => ?_)
   replace hF := hF.headS (v' := .int .i64 2) (by subst hB; exact zr) rfl
   refine rounds_next (wp_seq (rg hB TA_ok [30, 0, 2, 5, 11, 28, 29] [0, 5, 11] [] hF fun X5 a0 w1 hF => ?_))
   replace hF := hF.headS (v' := .bool .ff) (Sim.bool (by subst hB; rfl)) rfl
   refine wp_seq (test_ff hF rfl (fun hF => ?_))
   refine wp_exit ?_
   rcases (casi_m 0 b J hJ ((X10 7).A 0) ((X10 7).c 0) p101 hp101 hn101 l v).two (fro_cas _ _ _ _ _) hp101 hn101 with ⟨w12, p12, hm12, O1⟩ | ⟨d2, p12, hm12, hs12, hp12, hn12, S12⟩
   ·have O2 := inn_s
    refine stpD 4 hB TA_ok [58, 59, 60, 61] [0] [(3, .r fun _ => .agg [.int .i64 2, .sl none none 0 0 2 (fun _ => []), .int .i64 (-1), .int .u64 0, .int .u64 0])] hF O1 fun _ _ _ _ hF hk => ?_
    exact thm (P := Tryz.prog) (fn := Tryz.f215) (q := p12) hF hk (by simp [splitM, splC, ← hx0, ← hx1, ← ha0, ← ha1, ← he, Rs.bind, t0, hrun0, hm70, tq0, hrun1, hm71, tq1, hm91, t91, hm101, td1, hm12])
   have O1 := inn_s
   have O2 := S12
   refine drg hB TA_ok [] [0] [(3, .r fun _ => .agg [.int .i64 2, .sl none none 0 0 2 (fun _ => []), .int .i64 (-1), .int .u64 0, .int .u64 0]), (4, rc J (.bool (.v d2)) p12)] hF fun X12 a0 w1 hF => ?_
   exact (rmm hB TA_ok hF (v := ()) (q := p12) ((X12 4).A 0) ((X12 4).c 0) (by simp [splitM, splC, ← hx0, ← hx1, ← ha0, ← ha1, ← he, Rs.bind, t0, hrun0, hm70, tq0, hrun1, hm71, tq1, hm91, t91, hm101, td1, hm12])).2
  have td1 : d1 = false := by exact hb
  replace hF := hF.keep [0, 2, 5, 11, 12, 13, 28, 29] [0, 5, 11, 13]
  exact wp_skip (⟨(m1, p101, _, _), ⟨by rw [hrun1]; simp [splC, Rs.bind, t0, hrun0, hm70, tq0, hrun1, hm71, tq1, hm91, t91, hm101, td1], hp101, hn101, by dsimp only; have := hl71; have := hs91.le; have := hs101.le; have := hf1; omega, by dsimp only; have := hl71; have := hs91.le; have := hs101.le; have := hle1; omega⟩, by simp only; omega, hF⟩)
 have tq0 : (g0.has && !decide (g0.x.r.kd = 5)) = false := by
  have h9 : (if g0.has = true then !decide (g0.x.r.kd = 5) else false) = false := by
   have h8 : (if g0.has = true then (g0.x.r.kd != 5) else false) = false := by subst hB; exact hb
   exact h8
  rw [← h9]; cases g0.has <;> rfl
 refine wp_skip (wp_seq (wp_seq ?_))
 rcases (still_m 0 b J hJ ((X7 2).A 0) ((X7 2).c 0) p70 hp70 hn70 l v).two (fro_get _ _ _) hp70 hn70 with ⟨w90, p90, hm90, O1⟩ | ⟨h0, p90, hm90, hs90, hp90, hn90, S90⟩
 ·refine stp 3 hB TA_ok [44, 45, 46] [0] [] hF O1 fun _ _ _ _ hF hk => ?_
  exact thm (P := Tryz.prog) (fn := Tryz.f215) (q := p90) hF hk (by simp [splitM, splC, ← hx0, ← hx1, ← ha0, ← ha1, ← he, Rs.bind, t0, hrun0, hm70, tq0, hm90])
 have hl90 := get_lt hm90
 have hg90 := hp70.get hm90
 try dsimp only at S90
 obtain ⟨e0, he0⟩ := eqv (decide (h0.ver = v))
 rw [← he0] at S90
 have O1 := S90
 refine rg hB TA_ok [48, 0, 2, 5, 11, 12, 13, 14, 28, 29] [0, 5, 11, 13, 14] [(3, rc J (.bool (.v e0)) p90)] hF fun X9 a0 w1 hF => ?_
 apply test_ok hF rfl <;> intro hb hF
 ·have t90 : ¬ h0.ver = v := by
   have h9 : (!e0) = true := by subst hB; exact hb
   rw [he0] at h9; simpa using h9
  exact wp_ret ((rmm hB TA_ok hF (v := ()) (q := p90) ((X9 3).A 0) ((X9 3).c 0) (by simp [splitM, splC, ← hx0, ← hx1, ← ha0, ← ha1, ← he, Rs.bind, t0, hrun0, hm70, tq0, hm90, t90])).1)
 have t90 : h0.ver = v := by
  have h9 : (!e0) = false := by subst hB; exact hb
  rw [he0] at h9; simpa using h9
 refine wp_skip (wp_seq ?_)
 rcases (cas_m 0 b J hJ ((X9 3).A 0) ((X9 3).c 0) p90 hp90 hn90 x0 g0.ver ⟨(X1 2).A 0, (X1 2).c 0, r0⟩).two (fro_cas _ _ _ _ _) hp90 hn90 with ⟨w100, p100, hm100, O1⟩ | ⟨d0, p100, hm100, hs100, hp100, hn100, S100⟩
 ·refine stpD 7 hB TA_ok [49, 50, 52, 55] [0] [] hF O1 fun _ _ _ _ hF hk => ?_
  exact thm (P := Tryz.prog) (fn := Tryz.f215) (q := p100) hF hk (by simp [splitM, splC, ← hx0, ← hx1, ← ha0, ← ha1, ← he, Rs.bind, t0, hrun0, hm70, tq0, hm90, t90, hm100])
 have O1 := S100
 refine drg hB TA_ok [56, 0, 2, 5, 11, 12, 13, 28, 29] [0, 5, 11, 13] [(7, rc J (.bool (.v d0)) p100)] hF fun X10 a0 w1 hF => ?_
 apply test_ok hF rfl <;> intro hb hF
 ·have td0 : d0 = true := by exact hb
  refine wp_exit (rg hB TA_ok [29, 0, 2, 5, 11, 28] [0, 5, 11] [] hF fun X11 a0 w1 hF => ?_)
  replace hF := hF.headS (v' := .int .i64 1) (by subst hB; exact zr) rfl
  refine rounds_next (wp_seq (rg hB TA_ok [30, 0, 2, 5, 11, 28, 29] [0, 5, 11] [] hF fun X5 a0 w1 hF => ?_))
  replace hF := hF.headS (v' := .bool .tt) (Sim.bool (by subst hB; rfl)) rfl
  refine wp_seq (test_tt hF rfl (fun hF => ?_))
  refine wp_skip (wp_seq (wp_block (wp_seq (rg hB TA_ok [0, 2, 5, 11, 12, 13, 28, 29] [0, 5, 11, 13] [] hF fun X6 a0 w1 hF => ?_))))
  refine wp_block (loop_pre (ι := Nat × Pst × Option Addr × Nat) (fun q => []) (fun q => [(0, ⟨b, 114, runC J q.2.2.1 q.2.2.2 q.2.1⟩)]) (fun q => []) (fun q => splC J.budget l v x1 r1.abs n p100 = splC J.budget l v x1 r1.abs q.1 q.2.1 ∧ PstOk q.2.1 ∧ q.2.1.n ≤ 1000000 ∧ q.2.1.n < q.1 ∧ q.2.1.n ≤ p.n) (fun q => q.1) (n, p100, ((X10 7).A 0), ((X10 7).c 0)) ⟨rfl, hp100, hn100, (by dsimp only; have := hle0; have := hs70.le; have := hs90.le; have := hs100.le; omega), (by dsimp only; have := hle0; have := hs70.le; have := hs90.le; have := hs100.le; omega)⟩ hF ?_)
  rintro ⟨nn1, p1, A1, c1⟩ ⟨hrun1, hp1, hn1, hf1, hle1⟩ a0 w1 hF
  try dsimp only at hrun1
  try dsimp only at hp1
  try dsimp only at hn1
  try dsimp only at hf1
  try dsimp only at hle1
  obtain ⟨m1, rfl⟩ : ∃ n2, nn1 = n2 + 1 := ⟨nn1 - 1, by omega⟩
  refine wp_block (wp_seq ?_)
  rcases (get_m 0 b J hJ A1 c1 p1 hp1 hn1 x1).two (fro_get _ _ _) hp1 hn1 with ⟨w71, p71, hm71, O1⟩ | ⟨g1, p71, hm71, hs71, hp71, hn71, S71⟩
  ·refine stp 2 hB TA_ok [33, 34] [0] [] hF O1 fun _ _ _ _ hF hk => ?_
   exact thm (P := Tryz.prog) (fn := Tryz.f215) (q := p71) hF hk (by simp [splitM, splC, ← hx0, ← hx1, ← ha0, ← ha1, ← he, Rs.bind, t0, hrun0, hm70, tq0, hm90, t90, hm100, td0, hrun1, hm71])
  have hl71 := get_lt hm71
  have hg71 := hp1.get hm71
  have O1 := S71
  refine rg hB TA_ok [0, 2, 5, 11, 12, 13, 14, 28, 29] [0, 5, 11, 13, 14] [(2, rc J (gotV g1) p71)] hF fun X7 a0 w1 hF => ?_
  refine wp_seq (wp_seq (rg hB TA_ok [43, 0, 2, 5, 11, 12, 13, 14, 28, 29] [0, 5, 11, 13, 14] [] hF fun X8 a0 w1 hF => ?_))
  apply test_ok hF rfl <;> intro hb hF
  ·have tq1 : (g1.has && !decide (g1.x.r.kd = 5)) = true := by
    have h9 : (if g1.has = true then !decide (g1.x.r.kd = 5) else false) = true := by
     have h8 : (if g1.has = true then (g1.x.r.kd != 5) else false) = true := by subst hB; exact hb
     exact h8
    rw [← h9]; cases g1.has <;> rfl
   refine wp_exit (rg hB TA_ok [29, 0, 2, 5, 11, 28] [0, 5, 11] [] hF fun X11 a0 w1 hF => ?_)
   replace hF := hF.headS (v' := .int .i64 2) (by subst hB; exact zr) rfl
   refine rounds_next (wp_seq (rg hB TA_ok [30, 0, 2, 5, 11, 28, 29] [0, 5, 11] [] hF fun X5 a0 w1 hF => ?_))
   replace hF := hF.headS (v' := .bool .ff) (Sim.bool (by subst hB; rfl)) rfl
   refine wp_seq (test_ff hF rfl (fun hF => ?_))
   refine wp_exit ?_
   rcases (casi_m 0 b J hJ ((X7 2).A 0) ((X7 2).c 0) p71 hp71 hn71 l v).two (fro_cas _ _ _ _ _) hp71 hn71 with ⟨w12, p12, hm12, O1⟩ | ⟨d2, p12, hm12, hs12, hp12, hn12, S12⟩
   ·have O2 := inn_s
    refine stpD 4 hB TA_ok [58, 59, 60, 61] [0] [(3, .r fun _ => .agg [.int .i64 2, .sl none none 0 0 2 (fun _ => []), .int .i64 (-1), .int .u64 0, .int .u64 0])] hF O1 fun _ _ _ _ hF hk => ?_
    exact thm (P := Tryz.prog) (fn := Tryz.f215) (q := p12) hF hk (by simp [splitM, splC, ← hx0, ← hx1, ← ha0, ← ha1, ← he, Rs.bind, t0, hrun0, hm70, tq0, hm90, t90, hm100, td0, hrun1, hm71, tq1, hm12])
   have O1 := inn_s
   have O2 := S12
   refine drg hB TA_ok [] [0] [(3, .r fun _ => .agg [.int .i64 2, .sl none none 0 0 2 (fun _ => []), .int .i64 (-1), .int .u64 0, .int .u64 0]), (4, rc J (.bool (.v d2)) p12)] hF fun X12 a0 w1 hF => ?_
   exact (rmm hB TA_ok hF (v := ()) (q := p12) ((X12 4).A 0) ((X12 4).c 0) (by simp [splitM, splC, ← hx0, ← hx1, ← ha0, ← ha1, ← he, Rs.bind, t0, hrun0, hm70, tq0, hm90, t90, hm100, td0, hrun1, hm71, tq1, hm12])).2
  have tq1 : (g1.has && !decide (g1.x.r.kd = 5)) = false := by
   have h9 : (if g1.has = true then !decide (g1.x.r.kd = 5) else false) = false := by
    have h8 : (if g1.has = true then (g1.x.r.kd != 5) else false) = false := by subst hB; exact hb
    exact h8
   rw [← h9]; cases g1.has <;> rfl
  refine wp_skip (wp_seq (wp_seq ?_))
  rcases (still_m 0 b J hJ ((X7 2).A 0) ((X7 2).c 0) p71 hp71 hn71 l v).two (fro_get _ _ _) hp71 hn71 with ⟨w91, p91, hm91, O1⟩ | ⟨h1, p91, hm91, hs91, hp91, hn91, S91⟩
  ·refine stp 3 hB TA_ok [44, 45, 46] [0] [] hF O1 fun _ _ _ _ hF hk => ?_
   exact thm (P := Tryz.prog) (fn := Tryz.f215) (q := p91) hF hk (by simp [splitM, splC, ← hx0, ← hx1, ← ha0, ← ha1, ← he, Rs.bind, t0, hrun0, hm70, tq0, hm90, t90, hm100, td0, hrun1, hm71, tq1, hm91])
  have hl91 := get_lt hm91
  have hg91 := hp71.get hm91
  try dsimp only at S91
  obtain ⟨e1, he1⟩ := eqv (decide (h1.ver = v))
  rw [← he1] at S91
  have O1 := S91
  refine rg hB TA_ok [48, 0, 2, 5, 11, 12, 13, 14, 28, 29] [0, 5, 11, 13, 14] [(3, rc J (.bool (.v e1)) p91)] hF fun X9 a0 w1 hF => ?_
  apply test_ok hF rfl <;> intro hb hF
  ·have t91 : ¬ h1.ver = v := by
    have h9 : (!e1) = true := by subst hB; exact hb
    rw [he1] at h9; simpa using h9
   exact wp_ret ((rmm hB TA_ok hF (v := ()) (q := p91) ((X9 3).A 0) ((X9 3).c 0) (by simp [splitM, splC, ← hx0, ← hx1, ← ha0, ← ha1, ← he, Rs.bind, t0, hrun0, hm70, tq0, hm90, t90, hm100, td0, hrun1, hm71, tq1, hm91, t91])).1)
  have t91 : h1.ver = v := by
   have h9 : (!e1) = false := by subst hB; exact hb
   rw [he1] at h9; simpa using h9
  refine wp_skip (wp_seq ?_)
  rcases (cas_m 0 b J hJ ((X9 3).A 0) ((X9 3).c 0) p91 hp91 hn91 x1 g1.ver ⟨(X1 2).A 1, (X1 2).c 1, r1⟩).two (fro_cas _ _ _ _ _) hp91 hn91 with ⟨w101, p101, hm101, O1⟩ | ⟨d1, p101, hm101, hs101, hp101, hn101, S101⟩
  ·refine stpD 7 hB TA_ok [49, 50, 52, 55] [0] [] hF O1 fun _ _ _ _ hF hk => ?_
   exact thm (P := Tryz.prog) (fn := Tryz.f215) (q := p101) hF hk (by simp [splitM, splC, ← hx0, ← hx1, ← ha0, ← ha1, ← he, Rs.bind, t0, hrun0, hm70, tq0, hm90, t90, hm100, td0, hrun1, hm71, tq1, hm91, t91, hm101])
  have O1 := S101
  refine drg hB TA_ok [56, 0, 2, 5, 11, 12, 13, 28, 29] [0, 5, 11, 13] [(7, rc J (.bool (.v d1)) p101)] hF fun X10 a0 w1 hF => ?_
  apply test_ok hF rfl <;> intro hb hF
  ·have td1 : d1 = true := by exact hb
   refine wp_exit (rg hB TA_ok [29, 0, 2, 5, 11, 28] [0, 5, 11] [] hF fun X11 a0 w1 hF => ?_)
   replace hF := hF.headS (v' := .int .i64 2) (by subst hB; exact zr) rfl
   refine rounds_next (wp_seq (rg hB TA_ok [30, 0, 2, 5, 11, 28, 29] [0, 5, 11] [] hF fun X5 a0 w1 hF => ?_))
   replace hF := hF.headS (v' := .bool .ff) (Sim.bool (by subst hB; rfl)) rfl
   refine wp_seq (test_ff hF rfl (fun hF => ?_))
   refine wp_exit ?_
   rcases (casi_m 0 b J hJ ((X10 7).A 0) ((X10 7).c 0) p101 hp101 hn101 l v).two (fro_cas _ _ _ _ _) hp101 hn101 with ⟨w12, p12, hm12, O1⟩ | ⟨d2, p12, hm12, hs12, hp12, hn12, S12⟩
   ·have O2 := inn_s
    refine stpD 4 hB TA_ok [58, 59, 60, 61] [0] [(3, .r fun _ => .agg [.int .i64 2, .sl none none 0 0 2 (fun _ => []), .int .i64 (-1), .int .u64 0, .int .u64 0])] hF O1 fun _ _ _ _ hF hk => ?_
    exact thm (P := Tryz.prog) (fn := Tryz.f215) (q := p12) hF hk (by simp [splitM, splC, ← hx0, ← hx1, ← ha0, ← ha1, ← he, Rs.bind, t0, hrun0, hm70, tq0, hm90, t90, hm100, td0, hrun1, hm71, tq1, hm91, t91, hm101, td1, hm12])
   have O1 := inn_s
   have O2 := S12
   refine drg hB TA_ok [] [0] [(3, .r fun _ => .agg [.int .i64 2, .sl none none 0 0 2 (fun _ => []), .int .i64 (-1), .int .u64 0, .int .u64 0]), (4, rc J (.bool (.v d2)) p12)] hF fun X12 a0 w1 hF => ?_
   exact (rmm hB TA_ok hF (v := ()) (q := p12) ((X12 4).A 0) ((X12 4).c 0) (by simp [splitM, splC, ← hx0, ← hx1, ← ha0, ← ha1, ← he, Rs.bind, t0, hrun0, hm70, tq0, hm90, t90, hm100, td0, hrun1, hm71, tq1, hm91, t91, hm101, td1, hm12])).2
  have td1 : d1 = false := by exact hb
  replace hF := hF.keep [0, 2, 5, 11, 12, 13, 28, 29] [0, 5, 11, 13]
  exact wp_skip (⟨(m1, p101, _, _), ⟨by rw [hrun1]; simp [splC, Rs.bind, t0, hrun0, hm70, tq0, hm90, t90, hm100, td0, hrun1, hm71, tq1, hm91, t91, hm101, td1], hp101, hn101, by dsimp only; have := hl71; have := hs91.le; have := hs101.le; have := hf1; omega, by dsimp only; have := hl71; have := hs91.le; have := hs101.le; have := hle1; omega⟩, by simp only; omega, hF⟩)
 have td0 : d0 = false := by exact hb
 replace hF := hF.keep [0, 2, 5, 11, 12, 13, 28, 29] [0, 5, 11, 13]
 exact wp_skip (⟨(m0, p100, _, _), ⟨by rw [hrun0]; simp [splC, Rs.bind, t0, hrun0, hm70, tq0, hm90, t90, hm100, td0], hp100, hn100, by dsimp only; have := hl70; have := hs90.le; have := hs100.le; have := hf0; omega, by dsimp only; have := hl70; have := hs90.le; have := hs100.le; have := hle0; omega⟩, by simp only; omega, hF⟩)
theorem spl_m (k0 b : Nat) (J : JobA) (hJ : JobOk J) (A : Option Addr) (c : Nat) (p : Pst) (hp : PstOk p) (hn : p.n ≤ 1000000) (l : Lab) (hl : LOk l) (v : Int) (x : RA) (hx : RaOk x) (n : Nat) (hf : p.n < n) : RunS 215 k0 b J A c p [labAV l, .int .u64 v, recV x] (fun _ => unitV) (splitM J.budget n l v x p) := RunS.re (spl_m0 b J hJ A c p hp hn l hl v x hx n hf) (by repeat (first | exact trivial | refine ⟨zr, ?_⟩))
theorem mrg_m0 (b : Nat) (J : JobA) (hJ : JobOk J) (A : Option Addr) (c : Nat) (p : Pst) (hp : PstOk p) (hn : p.n ≤ 1000000) (l : Lab) (hl : LOk l) (v : Int) (n : Nat) (hth : ThC n) (hf : p.n < n) : RunS 216 0 b J A c p [labAV l, .int .u64 v] (fun _ => unitV) (mrgM J.bucket J.budget n (thwM J.bucket J.budget n) l v p) := by
 intro m w hm hargs hpre
 have SC := chi_s l hl.u
 have hk0 := hl.ch 0
 have hk1 := hl.ch 1
 simp only [labAV] at SC
 obtain ⟨x0, hx0⟩ := eqv (chV l 0)
 rw [← hx0] at SC hk0
 obtain ⟨x1, hx1⟩ := eqv (chV l 1)
 rw [← hx1] at SC hk1
 refine enX 73 hm hpre hargs Tryz.func216 fun B hB a0 hF => ?_
 refine wp_seq (rg hB TA_ok [0, 2, 4] [0, 4] [] hF fun X0 a0 w1 hF => ?_)
 refine wp_seq (rg hB TA_ok [0, 2, 4, 6] [0, 4, 6] [] hF fun X1 a0 w1 hF => ?_)
 have O1 := SC
 refine wp_seq (wp_seq (rg hB TA_ok [15, 0, 2, 4, 6, 14] [0, 4, 6] [(1, .r fun _ => .agg [.int .i64 x0.len, .int .u64 x0.bits, .int .i64 x1.len, .int .u64 x1.bits])] hF fun X2 a0 w1 hF => ?_))
 refine wp_block (wp_loop_rounds 3 (rounds_first (wp_seq (rg hB TA_ok [16, 0, 2, 4, 6, 14, 15] [0, 4, 6] [] hF fun X3 a0 w1 hF => ?_))))
 replace hF := hF.headS (v' := .bool .tt) (Sim.bool (by subst hB; rfl)) rfl
 refine wp_seq (test_tt hF rfl (fun hF => ?_))
 refine wp_skip (wp_seq (wp_block (wp_seq (rg hB TA_ok [0, 2, 4, 6, 7, 8, 14, 15] [0, 4, 6, 8] [] hF fun X4 a0 w1 hF => ?_))))
 apply wp_seq
 rcases (frz_m 0 b J hJ A c p hp hn l v x0 n (by have := (Suf.refl p).le; omega)).two (fro_frz _ _ _ _ _ _) hp hn with ⟨w50, p50, hm50, O1⟩ | ⟨z0, p50, hm50, hs50, hp50, hn50, S50⟩
 ·refine stp 4 hB TA_ok [20, 21, 22, 23] [0] [] hF O1 fun _ _ _ _ hF hk => ?_
  exact thm (P := Tryz.prog) (fn := Tryz.f216) (q := p50) hF hk (by simp [mrgM, ← hx0, ← hx1, Rs.bind, hm50])
 have hz0 : ∀ y, z0 = .fr y → RaOk y := fun y hy => frz_ok hp (by rw [hm50, hy])
 have T50 := S50
 unfold encFz at T50
 obtain ⟨y0, hy0⟩ := eqv (fzR z0)
 rw [← hy0] at T50
 obtain ⟨i0, hi0⟩ := eqv (fzI z0)
 rw [← hi0] at T50
 have O1 := T50
 refine rg hB TA_ok [0, 2, 4, 6, 7, 9, 10, 14, 15] [0, 4, 6, 9] [(4, rc J (.tup [.agg [.int .i64 y0.r.kd, .sl none y0.A y0.r.n y0.c 2 (fun i => itC (y0.r.f i)), .int .i64 y0.r.nx.len, .int .u64 y0.r.nx.bits, .int .u64 y0.r.mrk], .int .i64 i0]) p50)] hF fun X5 a0 w1 hF => ?_
 refine wp_seq (wp_seq (rg hB TA_ok [0, 2, 4, 6, 7, 9, 14, 15, 27] [0, 4, 6, 9] [] hF fun X6 a0 w1 hF => ?_))
 refine wp_block (wp_seq (wp_block (wp_seq (wp_block (wp_seq (wp_seq (wp_seq (rg hB TA_ok [28, 0, 2, 4, 6, 7, 9, 14, 15, 27] [0, 4, 6, 9] [] hF fun X7 a0 w1 hF => ?_))))))))
 apply test_ok hF rfl <;> intro hb hF
 ·have tz0 : z0 = .unfit := fz_1 (by rw [← hi0]; subst hB; simpa [std, sC] using hb)
  refine wp_exit ?_
  rcases (bck_m 0 b J hJ ((X5 4).A 0) ((X5 4).c 0) p50 hp50 hn50 l hl v n hth (by have := (Suf.trans (Suf.refl p) hs50).le; omega)).two (fro_bck _ _ (fro_thw _ _ _) _ _ _) hp50 hn50 with ⟨w90, p90, hm90, O1⟩ | ⟨v90, p90, hm90, hs90, hp90, hn90, S90⟩
  ·refine stp 3 hB TA_ok [32, 33, 34] [0] [] hF O1 fun _ _ _ _ hF hk => ?_
   exact thm (P := Tryz.prog) (fn := Tryz.f216) (q := p90) hF hk (by simp [mrgM, ← hx0, ← hx1, Rs.bind, hm50, tz0, hm90])
  have O1 := S90
  refine rg hB TA_ok [] [0] [(3, rc J (unitV) p90)] hF fun X9 a0 w1 hF => ?_
  exact wp_seq (wp_ret ((rmm hB TA_ok hF (v := ()) (q := p90) ((X9 3).A 0) ((X9 3).c 0) (by simp [mrgM, ← hx0, ← hx1, Rs.bind, hm50, tz0, hm90])).1))
 have ta0 : fzI z0 ≠ 1 := by
  have : ¬ i0 = 1 := by subst hB; simpa [std, sC] using hb
  rw [← hi0]; exact this
 refine wp_skip (wp_seq (rg hB TA_ok [30, 0, 2, 4, 6, 7, 9, 14, 15] [0, 4, 6, 9] [] hF fun X8 a0 w1 hF => ?_))
 apply test_ok hF rfl <;> intro hb hF
 ·have tz0 : z0 = .over := fz_0 (by rw [← hi0]; subst hB; simpa [std, sC] using hb)
  exact wp_exit (wp_seq (wp_ret ((rmm hB TA_ok hF (v := ()) (q := p50) ((X5 4).A 0) ((X5 4).c 0) (by simp [mrgM, ← hx0, ← hx1, Rs.bind, hm50, tz0])).1)))
 have tz0 : z0 = .fr y0 := by
  rw [hy0]
  refine fz_2 ?_ ta0
  have : ¬ i0 = 0 := by subst hB; simpa [std, sC] using hb
  rw [← hi0]; exact this
 have ty0 := hz0 _ tz0
 refine wp_skip (wp_exit (rg hB TA_ok [0, 2, 4, 6, 14, 15] [0, 4, 6] [] hF fun X10 a0 w1 hF => ?_))
 refine rg hB TA_ok [15, 0, 2, 4, 6, 14] [0, 4, 6] [] hF fun X11 a0 w1 hF => ?_
 replace hF := hF.headS (v' := .int .i64 1) (by subst hB; exact zr) rfl
 refine rounds_next (wp_seq (rg hB TA_ok [16, 0, 2, 4, 6, 14, 15] [0, 4, 6] [] hF fun X3 a0 w1 hF => ?_))
 replace hF := hF.headS (v' := .bool .tt) (Sim.bool (by subst hB; rfl)) rfl
 refine wp_seq (test_tt hF rfl (fun hF => ?_))
 refine wp_skip (wp_seq (wp_block (wp_seq (rg hB TA_ok [0, 2, 4, 6, 7, 8, 14, 15] [0, 4, 6, 8] [] hF fun X4 a0 w1 hF => ?_))))
 apply wp_seq
 rcases (frz_m 0 b J hJ ((X5 4).A 0) ((X5 4).c 0) p50 hp50 hn50 l v x1 n (by have := (Suf.trans (Suf.refl p) hs50).le; omega)).two (fro_frz _ _ _ _ _ _) hp50 hn50 with ⟨w51, p51, hm51, O1⟩ | ⟨z1, p51, hm51, hs51, hp51, hn51, S51⟩
 ·refine stp 4 hB TA_ok [20, 21, 22, 23] [0] [] hF O1 fun _ _ _ _ hF hk => ?_
  exact thm (P := Tryz.prog) (fn := Tryz.f216) (q := p51) hF hk (by simp [mrgM, ← hx0, ← hx1, Rs.bind, hm50, tz0, hm51])
 have hz1 : ∀ y, z1 = .fr y → RaOk y := fun y hy => frz_ok hp50 (by rw [hm51, hy])
 have T51 := S51
 unfold encFz at T51
 obtain ⟨y1, hy1⟩ := eqv (fzR z1)
 rw [← hy1] at T51
 obtain ⟨i1, hi1⟩ := eqv (fzI z1)
 rw [← hi1] at T51
 have O1 := T51
 refine rg hB TA_ok [0, 2, 4, 6, 7, 9, 10, 14, 15] [0, 4, 6, 9] [(4, rc J (.tup [.agg [.int .i64 y1.r.kd, .sl none y1.A y1.r.n y1.c 2 (fun i => itC (y1.r.f i)), .int .i64 y1.r.nx.len, .int .u64 y1.r.nx.bits, .int .u64 y1.r.mrk], .int .i64 i1]) p51)] hF fun X5 a0 w1 hF => ?_
 refine wp_seq (wp_seq (rg hB TA_ok [0, 2, 4, 6, 7, 9, 14, 15, 27] [0, 4, 6, 9] [] hF fun X6 a0 w1 hF => ?_))
 refine wp_block (wp_seq (wp_block (wp_seq (wp_block (wp_seq (wp_seq (wp_seq (rg hB TA_ok [28, 0, 2, 4, 6, 7, 9, 14, 15, 27] [0, 4, 6, 9] [] hF fun X7 a0 w1 hF => ?_))))))))
 apply test_ok hF rfl <;> intro hb hF
 ·have tz1 : z1 = .unfit := fz_1 (by rw [← hi1]; subst hB; simpa [std, sC] using hb)
  refine wp_exit ?_
  rcases (bck_m 0 b J hJ ((X5 4).A 0) ((X5 4).c 0) p51 hp51 hn51 l hl v n hth (by have := (Suf.trans (Suf.trans (Suf.refl p) hs50) hs51).le; omega)).two (fro_bck _ _ (fro_thw _ _ _) _ _ _) hp51 hn51 with ⟨w91, p91, hm91, O1⟩ | ⟨v91, p91, hm91, hs91, hp91, hn91, S91⟩
  ·refine stp 3 hB TA_ok [32, 33, 34] [0] [] hF O1 fun _ _ _ _ hF hk => ?_
   exact thm (P := Tryz.prog) (fn := Tryz.f216) (q := p91) hF hk (by simp [mrgM, ← hx0, ← hx1, Rs.bind, hm50, tz0, hm51, tz1, hm91])
  have O1 := S91
  refine rg hB TA_ok [] [0] [(3, rc J (unitV) p91)] hF fun X9 a0 w1 hF => ?_
  exact wp_seq (wp_ret ((rmm hB TA_ok hF (v := ()) (q := p91) ((X9 3).A 0) ((X9 3).c 0) (by simp [mrgM, ← hx0, ← hx1, Rs.bind, hm50, tz0, hm51, tz1, hm91])).1))
 have ta1 : fzI z1 ≠ 1 := by
  have : ¬ i1 = 1 := by subst hB; simpa [std, sC] using hb
  rw [← hi1]; exact this
 refine wp_skip (wp_seq (rg hB TA_ok [30, 0, 2, 4, 6, 7, 9, 14, 15] [0, 4, 6, 9] [] hF fun X8 a0 w1 hF => ?_))
 apply test_ok hF rfl <;> intro hb hF
 ·have tz1 : z1 = .over := fz_0 (by rw [← hi1]; subst hB; simpa [std, sC] using hb)
  exact wp_exit (wp_seq (wp_ret ((rmm hB TA_ok hF (v := ()) (q := p51) ((X5 4).A 0) ((X5 4).c 0) (by simp [mrgM, ← hx0, ← hx1, Rs.bind, hm50, tz0, hm51, tz1])).1)))
 have tz1 : z1 = .fr y1 := by
  rw [hy1]
  refine fz_2 ?_ ta1
  have : ¬ i1 = 0 := by subst hB; simpa [std, sC] using hb
  rw [← hi1]; exact this
 have ty1 := hz1 _ tz1
 refine wp_skip (wp_exit (rg hB TA_ok [0, 2, 4, 6, 14, 15] [0, 4, 6] [] hF fun X10 a0 w1 hF => ?_))
 refine rg hB TA_ok [15, 0, 2, 4, 6, 14] [0, 4, 6] [] hF fun X11 a0 w1 hF => ?_
 replace hF := hF.headS (v' := .int .i64 2) (by subst hB; exact zr) rfl
 refine rounds_next (wp_seq (rg hB TA_ok [16, 0, 2, 4, 6, 14, 15] [0, 4, 6] [] hF fun X3 a0 w1 hF => ?_))
 replace hF := hF.headS (v' := .bool .ff) (Sim.bool (by subst hB; rfl)) rfl
 refine wp_seq (test_ff hF rfl (fun hF => ?_))
 have SU := uni_c y0 y1 ty0 ty1
 obtain ⟨r2, hr2⟩ := eqv ((uniA y0 y1).1.rn)
 rw [← hr2] at SU
 obtain ⟨e2, he2⟩ := eqv ((uniA y0 y1).2)
 rw [← he2] at SU
 have ha2 : r2.abs = (uniA y0 y1).1 := by rw [hr2]; exact rn_abs _
 have hl2 : r2.abs.items.length = r2.n := by rw [ha2, hr2]; rfl
 have O1 := SU
 refine wp_exit (wp_seq (rg hB TA_ok [0, 2, 4, 11, 12] [0, 4, 11] [(4, .r fun z => .tup [.agg [.int .i64 r2.kd, .sl none (z.A 0) r2.n (z.c 0) 2 (fun i => itC (r2.f i)), .int .i64 r2.nx.len, .int .u64 r2.nx.bits, .int .u64 r2.mrk], .int .i64 e2])] hF fun X12 a0 w1 hF => ?_))
 refine wp_seq (wp_seq (drg hB TA_ok [60, 0, 2, 4, 11] [0, 4, 11] [] hF fun X13 a0 w1 hF => ?_))
 apply test_ok hF rfl <;> intro hb hF
 ·have tu : ¬ ((uniA y0 y1).2 = 0 ∧ (r2.abs.items.length : Int) ≤ J.bucket) := by
   have h9 : (if (!decide (e2 = 0)) = true then true else decide ((r2.n : Int) > J.bucket)) = true := by subst hB; exact hb
   rw [← he2, hl2]
   intro h; simp [h.1] at h9; omega
  apply wp_seq
  rcases (bck_m 0 b J hJ ((X5 4).A 0) ((X5 4).c 0) p51 hp51 hn51 l hl v n hth (by have := (Suf.trans (Suf.trans (Suf.refl p) hs50) hs51).le; omega)).two (fro_bck _ _ (fro_thw _ _ _) _ _ _) hp51 hn51 with ⟨w14, p14, hm14, O1⟩ | ⟨v14, p14, hm14, hs14, hp14, hn14, S14⟩
  ·refine stp 3 hB TA_ok [61, 62, 63] [0] [] hF O1 fun _ _ _ _ hF hk => ?_
   exact thm (P := Tryz.prog) (fn := Tryz.f216) (q := p14) hF hk (by simp [mrgM, ← hx0, ← hx1, Rs.bind, hm50, tz0, hm51, tz1, ← ha2, if_neg tu, hm14])
  have O1 := S14
  refine rg hB TA_ok [] [0] [(3, rc J (unitV) p14)] hF fun X14 a0 w1 hF => ?_
  exact wp_ret ((rmm hB TA_ok hF (v := ()) (q := p14) ((X14 3).A 0) ((X14 3).c 0) (by simp [mrgM, ← hx0, ← hx1, Rs.bind, hm50, tz0, hm51, tz1, ← ha2, if_neg tu, hm14])).1)
 have tu : (uniA y0 y1).2 = 0 ∧ (r2.abs.items.length : Int) ≤ J.bucket := by
  have h9 : (if (!decide (e2 = 0)) = true then true else decide ((r2.n : Int) > J.bucket)) = false := by subst hB; exact hb
  rw [← he2, hl2]
  simp at h9; exact ⟨h9.1, by omega⟩
 refine wp_skip (wp_seq ?_)
 rcases (cas_m 0 b J hJ ((X5 4).A 0) ((X5 4).c 0) p51 hp51 hn51 l v ⟨(X12 4).A 0, (X12 4).c 0, r2⟩).two (fro_cas _ _ _ _ _) hp51 hn51 with ⟨w15, p15, hm15, O1⟩ | ⟨d5, p15, hm15, hs15, hp15, hn15, S15⟩
 ·refine stp 4 hB TA_ok [65, 66, 67, 68] [0] [] hF O1 fun _ _ _ _ hF hk => ?_
  exact thm (P := Tryz.prog) (fn := Tryz.f216) (q := p15) hF hk (by simp [mrgM, ← hx0, ← hx1, Rs.bind, hm50, tz0, hm51, tz1, ← ha2, if_pos tu, hm15])
 have O1 := S15
 refine rg hB TA_ok [69, 0, 4] [0, 4] [(4, rc J (.bool (.v d5)) p15)] hF fun X15 a0 w1 hF => ?_
 apply test_ok hF rfl <;> intro hb hF
 ·have t5 : d5 = true := by exact hb
  rcases (cln_c n 0 b J hJ ((X15 4).A 0) ((X15 4).c 0) p15 hp15 hn15 l hl (by have := (Suf.trans (Suf.trans (Suf.trans (Suf.refl p) hs50) hs51) hs15).le; omega)).two (fro_cln _ _ _ _) hp15 hn15 with ⟨w16, p16, hm16, O1⟩ | ⟨v16, p16, hm16, hs16, hp16, hn16, S16⟩
  ·refine stp 2 hB TA_ok [70, 71] [0] [] hF O1 fun _ _ _ _ hF hk => ?_
   exact thm (P := Tryz.prog) (fn := Tryz.f216) (q := p16) hF hk (by simp [mrgM, ← hx0, ← hx1, Rs.bind, hm50, tz0, hm51, tz1, ← ha2, if_pos tu, hm15, t5, hm16])
  have O1 := S16
  refine rg hB TA_ok [] [0] [(2, rc J (unitV) p16)] hF fun X16 a0 w1 hF => ?_
  exact (rmm hB TA_ok hF (v := ()) (q := p16) ((X16 2).A 0) ((X16 2).c 0) (by simp [mrgM, ← hx0, ← hx1, Rs.bind, hm50, tz0, hm51, tz1, ← ha2, if_pos tu, hm15, t5, hm16])).2
 have t5 : d5 = false := by exact hb
 exact wp_skip ((rmm hB TA_ok hF (v := ()) (q := p15) ((X15 4).A 0) ((X15 4).c 0) (by simp [mrgM, ← hx0, ← hx1, Rs.bind, hm50, tz0, hm51, tz1, ← ha2, if_pos tu, hm15, t5])).2)
theorem mrg_m (k0 b : Nat) (J : JobA) (hJ : JobOk J) (A : Option Addr) (c : Nat) (p : Pst) (hp : PstOk p) (hn : p.n ≤ 1000000) (l : Lab) (hl : LOk l) (v : Int) (n : Nat) (hth : ThC n) (hf : p.n < n) : RunS 216 k0 b J A c p [labAV l, .int .u64 v] (fun _ => unitV) (mrgM J.bucket J.budget n (thwM J.bucket J.budget n) l v p) := RunS.re (mrg_m0 b J hJ A c p hp hn l hl v n hth hf) (by repeat (first | exact trivial | refine ⟨zr, ?_⟩))
theorem fin_m0 (b : Nat) (J : JobA) (hJ : JobOk J) (A : Option Addr) (c : Nat) (p : Pst) (hp : PstOk p) (hn : p.n ≤ 1000000) (l : Lab) (hl : LOk l) (g : GotA) (hg : GotOk g) (n : Nat) (hth : ThC n) (hf : p.n < n) : RunS 157 0 b J A c p [labAV l, gotV g] (fun _ => unitV) (fnsM J.bucket J.budget n l g p) := by
 intro m w hm hargs hpre
 refine enX 26 hm hpre hargs Tryz.func157 fun B hB a0 hF => ?_
 refine wp_seq (rg hB TA_ok [0, 4, 5] [0, 4, 5] [] hF fun X0 a0 w1 hF => ?_)
 obtain ⟨q1, hq1⟩ := eqv (gk g 3)
 refine wp_block (wp_seq ?_)
 refine rg hB TA_ok [6, 0, 4, 5] [0, 4, 5, 8] [(2, .r fun _ => .bool (.v q1))] hF (hob := by intro X; subst hB; simp only [AO, Ob.holds, BE.den] <;> and_intros <;> repeat first | trivial | rfl | exact (by rw [hq1]; exact is1_s g _ _ 3 _ rfl) | exact by rw [hq1]; exact is1_s g _ _ 3 _ rfl | exact (fun _ _ => by kernel_rfl) | refine ⟨?_, ?_⟩ | intro h | exact Int.le_refl _ | decide | omega) fun X1 a0 w1 hF => ?_
 apply test_ok hF rfl <;> intro hb hF
 ·have tq1 : gk g 3 = true := by rw [← hq1]; exact hb
  rcases (spl_m 0 b J hJ A c p hp hn l hl g.ver g.x hg.ra n hf).two (fro_split _ _ _ _ _ _) hp hn with ⟨w2, p2, hm2, O1⟩ | ⟨v2, p2, hm2, hs2, hp2, hn2, S2⟩
  ·refine stp 6 hB TA_ok [10, 11, 13, 15] [0] [] hF O1 fun _ _ _ _ hF hk => ?_
   exact thm (P := Tryz.prog) (fn := Tryz.f157) (q := p2) hF hk (by simp [fnsM, finM, Rs.bind, tq1, hm2])
  have O1 := S2
  refine rg hB TA_ok [] [0] [(6, rc J (unitV) p2)] hF fun X2 a0 w1 hF => ?_
  exact (rmm hB TA_ok hF (v := ()) (q := p2) ((X2 6).A 0) ((X2 6).c 0) (by simp [fnsM, finM, Rs.bind, tq1, hm2])).2
 have tq1 : gk g 3 = false := by rw [← hq1]; exact hb
 refine wp_seq (rg hB TA_ok [17, 0, 4, 5] [0, 4, 5] [] hF fun X3 a0 w1 hF => ?_)
 apply test_ok hF rfl <;> intro hb hF
 ·have t2 : l.len < 64 := by subst hB; simpa [std, sC] using hb
  rcases (mrg_m 0 b J hJ A c p hp hn l hl g.ver n hth hf).two (fro_mrg _ _ _ _ (fro_thw _ _ _) _ _ _) hp hn with ⟨w4, p4, hm4, O1⟩ | ⟨v4, p4, hm4, hs4, hp4, hn4, S4⟩
  ·refine stp 4 hB TA_ok [21, 22, 24] [0] [] hF O1 fun _ _ _ _ hF hk => ?_
   exact thm (P := Tryz.prog) (fn := Tryz.f157) (q := p4) hF hk (by simp [fnsM, finM, Rs.bind, tq1, t2, hm4])
  have O1 := S4
  refine rg hB TA_ok [] [0] [(4, rc J (unitV) p4)] hF fun X4 a0 w1 hF => ?_
  exact (rmm hB TA_ok hF (v := ()) (q := p4) ((X4 4).A 0) ((X4 4).c 0) (by simp [fnsM, finM, Rs.bind, tq1, t2, hm4])).2
 have t2 : ¬ l.len < 64 := by subst hB; simpa [std, sC] using hb
 exact wp_skip ((rmm hB TA_ok hF (v := ()) (q := p) A c (by simp [fnsM, finM, Rs.bind, tq1, t2])).2)
theorem fin_m (k0 b : Nat) (J : JobA) (hJ : JobOk J) (A : Option Addr) (c : Nat) (p : Pst) (hp : PstOk p) (hn : p.n ≤ 1000000) (l : Lab) (hl : LOk l) (g : GotA) (hg : GotOk g) (n : Nat) (hth : ThC n) (hf : p.n < n) : RunS 157 k0 b J A c p [labAV l, gotV g] (fun _ => unitV) (fnsM J.bucket J.budget n l g p) := RunS.re (fin_m0 b J hJ A c p hp hn l hl g hg n hth hf) (by repeat (first | exact trivial | refine ⟨zr, ?_⟩))
theorem thw_m0 (b : Nat) (J : JobA) (hJ : JobOk J) (A : Option Addr) (c : Nat) (p : Pst) (hp : PstOk p) (hn : p.n ≤ 1000000) (l : Lab) (hl : LOk l) (n : Nat) (hfin : ∀ j, j < n → FinC j) (hf : p.n < n) : RunS 192 0 b J A c p [labAV l] (fun _ => unitV) (thwM J.bucket J.budget n l p) := by
 intro m w hm hargs hpre
 have SP := par_s l hl.u
 have hpar := hl.par
 simp only [labAV] at SP
 obtain ⟨up, hup⟩ := eqv (parV l)
 rw [← hup] at SP hpar
 obtain ⟨ue, hue⟩ := eqv (parE l)
 rw [← hue] at SP
 refine enX 46 hm hpre hargs Tryz.func192 fun B hB a0 hF => ?_
 refine wp_seq (rg hB TA_ok [0, 3] [0, 3] [] hF fun X0 a0 w1 hF => ?_)
 have O1 := SP
 refine wp_seq (rg hB TA_ok [0, 3, 4, 5] [0, 3, 4] [(1, .r fun _ => .tup [.agg [.int .i64 up.len, .int .u64 up.bits], .int .i64 ue])] hF fun X1 a0 w1 hF => ?_)
 refine wp_seq (wp_seq (rg hB TA_ok [14, 0, 3, 4] [0, 3, 4] [] hF fun X2 a0 w1 hF => ?_))
 apply test_ok hF rfl <;> intro hb hF
 ·have t0 : ¬ ue = 0 := by subst hB; simpa [std, sC] using hb
  exact wp_ret ((rmm hB TA_ok hF (v := ()) (q := p) A c (by simp [thwM, ← hup, ← hue, Rs.bind, t0])).1)
 have t0 : ue = 0 := by subst hB; simpa [std, sC] using hb
 refine wp_skip (wp_block (loop_pre (ι := Nat × Pst × Option Addr × Nat) (fun q => []) (fun q => [(0, ⟨b, 114, runC J q.2.2.1 q.2.2.2 q.2.1⟩)]) (fun q => []) (fun q => thwL J.bucket J.budget n l up p = thwL J.bucket J.budget q.1 l up q.2.1 ∧ PstOk q.2.1 ∧ q.2.1.n ≤ 1000000 ∧ q.2.1.n < q.1 ∧ q.1 ≤ n) (fun q => q.1) (n, p, A, c) ⟨rfl, hp, hn, hf, Nat.le_refl _⟩ hF ?_))
 rintro ⟨nn, p0, A0, c0⟩ ⟨hrun, hp0, hn0, hf0, hnn⟩ a0 w1 hF
 try dsimp only at hrun
 try dsimp only at hp0
 try dsimp only at hn0
 try dsimp only at hf0
 try dsimp only at hnn
 obtain ⟨n2, rfl⟩ : ∃ n2, nn = n2 + 1 := ⟨nn - 1, by omega⟩
 refine wp_block (wp_seq ?_)
 rcases (get_m 0 b J hJ A0 c0 p0 hp0 hn0 l).two (fro_get _ _ _) hp0 hn0 with ⟨w3, p3, hm3, O1⟩ | ⟨g3, p3, hm3, hs3, hp3, hn3, S3⟩
 ·refine stp 2 hB TA_ok [15, 16] [0] [] hF O1 fun _ _ _ _ hF hk => ?_
  exact thm (P := Tryz.prog) (fn := Tryz.f192) (q := p3) hF hk (by simp [thwM, ← hup, ← hue, Rs.bind, t0, hrun, thwL_succ, hm3])
 have hl3 := get_lt hm3
 have hg3 := hp0.get hm3
 have O1 := S3
 refine rg hB TA_ok [0, 3, 4, 6] [0, 3, 4, 6] [(2, rc J (gotV g3) p3)] hF fun X3 a0 w1 hF => ?_
 obtain ⟨q4, hq4⟩ := eqv (gk g3 5)
 refine wp_seq (wp_seq ?_)
 refine rg hB TA_ok [21, 0, 3, 4, 6] [0, 3, 4, 6] [(2, .r fun _ => .bool (.v q4))] hF (hob := by intro X; subst hB; simp only [AO, Ob.holds, BE.den] <;> and_intros <;> repeat first | trivial | rfl | exact (by rw [hq4]; exact is1_s g3 _ _ 5 _ rfl) | exact by rw [hq4]; exact is1_s g3 _ _ 5 _ rfl | exact (fun _ _ => by kernel_rfl) | refine ⟨?_, ?_⟩ | intro h | exact Int.le_refl _ | decide | omega) fun X4 a0 w1 hF => ?_
 apply test_ok hF rfl <;> intro hb hF
 ·have tq4 : gk g3 5 = false := by subst hB; rw [← hq4]; revert hb; cases q4 <;> simp [std]
  exact wp_ret ((rmm hB TA_ok hF (v := ()) (q := p3) ((X3 2).A 0) ((X3 2).c 0) (by simp [thwM, ← hup, ← hue, Rs.bind, t0, hrun, thwL_succ, hm3, tq4])).1)
 have tq4 : gk g3 5 = true := by subst hB; rw [← hq4]; revert hb; cases q4 <;> simp [std]
 refine wp_skip (wp_seq ?_)
 rcases (get_m 0 b J hJ ((X3 2).A 0) ((X3 2).c 0) p3 hp3 hn3 up).two (fro_get _ _ _) hp3 hn3 with ⟨w5, p5, hm5, O1⟩ | ⟨g5, p5, hm5, hs5, hp5, hn5, S5⟩
 ·refine stp 2 hB TA_ok [22, 23] [0] [] hF O1 fun _ _ _ _ hF hk => ?_
  exact thm (P := Tryz.prog) (fn := Tryz.f192) (q := p5) hF hk (by simp [thwM, ← hup, ← hue, Rs.bind, t0, hrun, thwL_succ, hm3, tq4, hm5])
 have hl5 := get_lt hm5
 have hg5 := hp3.get hm5
 have O1 := S5
 refine rg hB TA_ok [0, 3, 4, 6, 7] [0, 3, 4, 6, 7] [(2, rc J (gotV g5) p5)] hF fun X5 a0 w1 hF => ?_
 obtain ⟨q6, hq6⟩ := eqv ((gk g5 3 || gk g5 4))
 refine wp_seq (wp_seq ?_)
 refine rg hB TA_ok [27, 0, 3, 4, 6, 7] [0, 3, 4, 6, 7, 26] [(2, .r fun _ => .bool (.v q6))] hF (hob := by intro X; subst hB; simp only [AO, Ob.holds, BE.den] <;> and_intros <;> repeat first | trivial | rfl | exact (by rw [hq6]; exact is2_s g5 _ _ 3 4 _ rfl rfl) | exact by rw [hq6]; exact is2_s g5 _ _ 3 4 _ rfl rfl | exact (fun _ _ => by kernel_rfl) | refine ⟨?_, ?_⟩ | intro h | exact Int.le_refl _ | decide | omega) fun X6 a0 w1 hF => ?_
 apply test_ok hF rfl <;> intro hb hF
 ·have tq6 : (gk g5 3 || gk g5 4) = true := by rw [← hq6]; exact hb
  rcases (hfin n2 (by omega) 0 b J hJ ((X5 2).A 0) ((X5 2).c 0) p5 hp5 hn5 up hpar g5 hg5 (by have := hl3; have := hl5; omega)).two (fro_fns _ _ _ _ _ _) hp5 hn5 with ⟨w7, p7, hm7, O1⟩ | ⟨v7, p7, hm7, hs7, hp7, hn7, S7⟩
  ·refine stp 3 hB TA_ok [28, 29, 30] [0] [] hF O1 fun _ _ _ _ hF hk => ?_
   exact thm (P := Tryz.prog) (fn := Tryz.f192) (q := p7) hF hk (by simp [thwM, ← hup, ← hue, Rs.bind, t0, hrun, thwL_succ, hm3, tq4, hm5, tq6, hm7])
  have O1 := S7
  refine rg hB TA_ok [0, 3, 4, 6, 7] [0, 3, 4, 6, 7] [(3, rc J (unitV) p7)] hF fun X7 a0 w1 hF => ?_
  apply wp_seq
  rcases Bool.eq_false_or_eq_true (gk g5 2) with t8 | t8
  ·rcases (cas_m 0 b J hJ ((X7 3).A 0) ((X7 3).c 0) p7 hp7 hn7 l g3.ver (asR 1 g3.x 0)).two (fro_cas _ _ _ _ _) hp7 hn7 with ⟨w8, p8, hm8, O1⟩ | ⟨d8, p8, hm8, hs8, hp8, hn8, S8⟩
   ·refine stpD 12 hB TA_ok [36, 37, 38, 40, 43] [0] [(2, .r fun _ => .bool .tt), (11, .r fun _ => recV (asR 1 g3.x 0))] hF O1 (hob := by intro X; subst hB; simp only [AO, Ob.holds, BE.den] <;> and_intros <;> repeat first | trivial | rfl | exact ((is1_s g5 _ _ 2 _ rfl).res fun _ => Sim.bool (by rw [t8]; rfl)) | exact as_s 1 g3.x 0 | exact (fun _ _ => by kernel_rfl) | refine ⟨?_, ?_⟩ | intro h | exact Int.le_refl _ | decide | omega) fun _ _ _ _ hF hk => ?_
    exact thm (P := Tryz.prog) (fn := Tryz.f192) (q := p8) hF hk (by simp [thwM, ← hup, ← hue, Rs.bind, t0, hrun, thwL_succ, hm3, tq4, hm5, tq6, hm7, t8, hm8])
   refine drg hB TA_ok [45, 0, 3, 4] [0, 3, 4] [(2, .r fun _ => .bool .tt), (11, .r fun _ => recV (asR 1 g3.x 0)), (12, rc J (.bool (.v d8)) p8)] hF (hob := by intro X; subst hB; simp only [AO, Ob.holds, BE.den] <;> and_intros <;> repeat first | trivial | rfl | exact ((is1_s g5 _ _ 2 _ rfl).res fun _ => Sim.bool (by rw [t8]; rfl)) | exact as_s 1 g3.x 0 | exact S8 | exact (fun _ _ => by kernel_rfl) | refine ⟨?_, ?_⟩ | intro h | exact Int.le_refl _ | decide | omega) fun X8 a0 w1 hF => ?_
   apply test_ok hF rfl <;> intro hb hF
   ·have t9 : d8 = true := by exact hb
    exact wp_ret ((rmm hB TA_ok hF (v := ()) (q := p8) ((X8 12).A 0) ((X8 12).c 0) (by simp [thwM, ← hup, ← hue, Rs.bind, t0, hrun, thwL_succ, hm3, tq4, hm5, tq6, hm7, t8, hm8, t9])).1)
   have t9 : d8 = false := by exact hb
   replace hF := hF.keep [0, 3, 4] [0, 3, 4]
   exact wp_skip (⟨(n2, p8, _, _), ⟨by rw [hrun]; simp [thwL_succ, Rs.bind, t0, hrun, thwL_succ, hm3, tq4, hm5, tq6, hm7, t8, hm8, t9], hp8, hn8, by dsimp only; have := hl3; have := hs5.le; have := hs7.le; have := hs8.le; have := hf0; omega, by dsimp only; omega⟩, by simp only; omega, hF⟩)
  refine drg hB TA_ok [45, 0, 3, 4] [0, 3, 4] [(2, .r fun _ => .bool .ff)] hF (hob := by intro X; subst hB; simp only [AO, Ob.holds, BE.den] <;> and_intros <;> repeat first | trivial | rfl | exact ((is1_s g5 _ _ 2 _ rfl).res fun _ => Sim.bool (by rw [t8]; rfl)) | exact as_s 1 g3.x 0 | exact (fun _ _ => by kernel_rfl) | refine ⟨?_, ?_⟩ | intro h | exact Int.le_refl _ | decide | omega) fun X8 a0 w1 hF => ?_
  refine test_tt hF rfl (fun hF => ?_)
  exact wp_ret ((rmm hB TA_ok hF (v := ()) (q := p7) ((X7 3).A 0) ((X7 3).c 0) (by simp [thwM, ← hup, ← hue, Rs.bind, t0, hrun, thwL_succ, hm3, tq4, hm5, tq6, hm7, t8])).1)
 have tq6 : (gk g5 3 || gk g5 4) = false := by rw [← hq6]; exact hb
 refine wp_skip (wp_seq ?_)
 rcases Bool.eq_false_or_eq_true (gk g5 2) with t8 | t8
 ·rcases (cas_m 0 b J hJ ((X5 2).A 0) ((X5 2).c 0) p5 hp5 hn5 l g3.ver (asR 1 g3.x 0)).two (fro_cas _ _ _ _ _) hp5 hn5 with ⟨w8, p8, hm8, O1⟩ | ⟨d8, p8, hm8, hs8, hp8, hn8, S8⟩
  ·refine stpD 12 hB TA_ok [36, 37, 38, 40, 43] [0] [(2, .r fun _ => .bool .tt), (11, .r fun _ => recV (asR 1 g3.x 0))] hF O1 (hob := by intro X; subst hB; simp only [AO, Ob.holds, BE.den] <;> and_intros <;> repeat first | trivial | rfl | exact ((is1_s g5 _ _ 2 _ rfl).res fun _ => Sim.bool (by rw [t8]; rfl)) | exact as_s 1 g3.x 0 | exact (fun _ _ => by kernel_rfl) | refine ⟨?_, ?_⟩ | intro h | exact Int.le_refl _ | decide | omega) fun _ _ _ _ hF hk => ?_
   exact thm (P := Tryz.prog) (fn := Tryz.f192) (q := p8) hF hk (by simp [thwM, ← hup, ← hue, Rs.bind, t0, hrun, thwL_succ, hm3, tq4, hm5, tq6, t8, hm8])
  refine drg hB TA_ok [45, 0, 3, 4] [0, 3, 4] [(2, .r fun _ => .bool .tt), (11, .r fun _ => recV (asR 1 g3.x 0)), (12, rc J (.bool (.v d8)) p8)] hF (hob := by intro X; subst hB; simp only [AO, Ob.holds, BE.den] <;> and_intros <;> repeat first | trivial | rfl | exact ((is1_s g5 _ _ 2 _ rfl).res fun _ => Sim.bool (by rw [t8]; rfl)) | exact as_s 1 g3.x 0 | exact S8 | exact (fun _ _ => by kernel_rfl) | refine ⟨?_, ?_⟩ | intro h | exact Int.le_refl _ | decide | omega) fun X8 a0 w1 hF => ?_
  apply test_ok hF rfl <;> intro hb hF
  ·have t9 : d8 = true := by exact hb
   exact wp_ret ((rmm hB TA_ok hF (v := ()) (q := p8) ((X8 12).A 0) ((X8 12).c 0) (by simp [thwM, ← hup, ← hue, Rs.bind, t0, hrun, thwL_succ, hm3, tq4, hm5, tq6, t8, hm8, t9])).1)
  have t9 : d8 = false := by exact hb
  replace hF := hF.keep [0, 3, 4] [0, 3, 4]
  exact wp_skip (⟨(n2, p8, _, _), ⟨by rw [hrun]; simp [thwL_succ, Rs.bind, t0, hrun, thwL_succ, hm3, tq4, hm5, tq6, t8, hm8, t9], hp8, hn8, by dsimp only; have := hl3; have := hs5.le; have := (Suf.refl p5).le; have := hs8.le; have := hf0; omega, by dsimp only; omega⟩, by simp only; omega, hF⟩)
 refine drg hB TA_ok [45, 0, 3, 4] [0, 3, 4] [(2, .r fun _ => .bool .ff)] hF (hob := by intro X; subst hB; simp only [AO, Ob.holds, BE.den] <;> and_intros <;> repeat first | trivial | rfl | exact ((is1_s g5 _ _ 2 _ rfl).res fun _ => Sim.bool (by rw [t8]; rfl)) | exact as_s 1 g3.x 0 | exact (fun _ _ => by kernel_rfl) | refine ⟨?_, ?_⟩ | intro h | exact Int.le_refl _ | decide | omega) fun X8 a0 w1 hF => ?_
 refine test_tt hF rfl (fun hF => ?_)
 exact wp_ret ((rmm hB TA_ok hF (v := ()) (q := p5) ((X5 2).A 0) ((X5 2).c 0) (by simp [thwM, ← hup, ← hue, Rs.bind, t0, hrun, thwL_succ, hm3, tq4, hm5, tq6, t8])).1)
theorem thw_m (k0 b : Nat) (J : JobA) (hJ : JobOk J) (A : Option Addr) (c : Nat) (p : Pst) (hp : PstOk p) (hn : p.n ≤ 1000000) (l : Lab) (hl : LOk l) (n : Nat) (hfin : ∀ j, j < n → FinC j) (hf : p.n < n) : RunS 192 k0 b J A c p [labAV l] (fun _ => unitV) (thwM J.bucket J.budget n l p) := RunS.re (thw_m0 b J hJ A c p hp hn l hl n hfin hf) (by repeat (first | exact trivial | refine ⟨zr, ?_⟩))
theorem th_fin : ∀ n, ThC n ∧ FinC n := by
 intro n
 induction n using Nat.strongRecOn with
 | _ n ih =>
  have h1 : ThC n := fun k0 b J hJ A c p hp hn l hl hf => thw_m k0 b J hJ A c p hp hn l hl n (fun j hj => (ih j hj).2) hf
  exact ⟨h1, fun k0 b J hJ A c p hp hn l hl g hg hf => fin_m k0 b J hJ A c p hp hn l hl g hg n h1 hf⟩
theorem thw_c (n : Nat) : ThC n := (th_fin n).1
theorem fin_c (n : Nat) : FinC n := (th_fin n).2
end Go.Proofs.YtphmfjhmdajlmaaGreat.Sym
namespace Go.Proofs.YtphmfjhmdajlmaaGreat.Sym
open Go.RowKit
theorem Sim.of_eq {v v' : AV} (h : v = v') : Sim v v' := h ▸ Sim.refl v
inductive Rcv : FrameMode → FrameMode → AV → Prop
 | no : Rcv .returning .returning .nili
 | yes (t : Nat) (v : AV) : Rcv (.panicking [{ v := .iface t v.den, recovered := false }]) (.panicking [{ v := .iface t v.den, recovered := true }]) (.ifc t v)
def SpecU (P : Program) (f : FuncId) (u u' : FrameMode) (x : AV) (args : List AV) (pre : List (Nat × Blk)) (res : Atom → CR) : Prop :=
 ∀ (m : Nat → Nat → Prop) (w : World), (∀ b o, m b o → b < w.heap.size) → (∀ v ∈ args, Ok m w v) → PreOk m w pre → Ok m w x → CallsD P f (args.map AV.den).toArray u w fun e um w' => um = u' ∧ XPost m w pre res e w'
section
variable {P : Program}
theorem body_mono {fn : Func} {c₀ : Frame} {cs : List Frame} {U : FrameMode} {R : Ending → World → Prop} {e : Exit} {a : Act} {w : World} (h : bodyPost P fn R e a w) : bodyPostS P fn c₀ cs (fun e u w => u = U ∧ R e w) e a ({ c₀ with mode := U } :: cs) w := by
 cases e with
 | normal => obtain ⟨h1, v, h2, h3⟩ := h; exact ⟨h1, U, rfl, v, h2, rfl, h3⟩
 | ret => obtain ⟨h1, v, h2, h3⟩ := h; exact ⟨h1, U, rfl, v, h2, rfl, h3⟩
 | panic ch => obtain ⟨h1, h2⟩ := h; exact ⟨h1, U, rfl, rfl, h2⟩
 | outgrown => exact ⟨U, rfl, h⟩
 | exit id => exact h.elim
 | goto l => exact h.elim
theorem enterRec {u u' : FrameMode} {x : AV} (hr : Rcv u u' x) {m : Nat → Nat → Prop} {w : World} {pre : List (Nat × Blk)} (hm : ∀ b o, m b o → b < w.heap.size) (hp : PreOk m w pre) {args : List AV} (hargs : ∀ v ∈ args, Ok m w v) (hx : Ok m w x) {f : FuncId} {fn : Func} {id : Nat} {o : Oper} {rest after : Code} {ts : Array TypeId} {d : Nat} {R : Ending → World → Prop}
  (hf : P.funcs[f]? = some fn) {ops : Array Oper} (hbd : fn.body = some (.seq (.seq (.region id ops false) rest) after)) (hops : ops = #[o]) (ho : o.op = .call (Call.mk (.builtin .recover) #[] ts)) (hg : o.guard = none) (hd : o.dst = some d) (hn : args.length ≤ fn.ntmps) (hdn : d < fn.ntmps)
  (h : ∀ a, Fits ⟨m, w, ats pre, [], noK⟩ (St.put ⟨fn.ntmps, startT 0 args, [], pre, []⟩ (some d) x) a w → rest.wp P (Exit.then (after.wp P (bodyPost P fn R)) (bodyPost P fn R)) a w) : CallsD P f (args.map AV.den).toArray u w fun e um w' => um = u' ∧ R e w' := by
 subst hops
 refine callsD_of_wpS hf hbd fun c₀ cs hu => ?_
 apply wpS_seq
 apply wpS_seq
 apply wpS_region
 have h0 := enterFits hm hp hargs hn
 have mono : Ok (St.m ⟨fn.ntmps, startT 0 args, [], pre, []⟩ ⟨m, w, ats pre, [], noK⟩) w x := hx.mono fun b' o u h1 h2 => ⟨h1, fun h => by
  rcases h with h | ⟨k, e, he, hat⟩ | ⟨k, e, he, _⟩
  ·exact h2 h
  ·exact h2 (hat ▸ hp.free _ (lookM_mem he) o)
  cases he⟩
 have h1 := h0.put (some d) (fun t ht => by injection ht with ht; subst ht; exact hdn) x (fun _ => mono) x.den (fun _ => rfl)
 have h2 := h _ h1
 have hrun : ∀ a : Act, (execOp a.eval o).run P w = .ok .recover w := by
  intro a
  simp [execOp, ho, resolve, invoke, builtin]
 have hrg : List.range (#[o] : Array Oper).size = [0] := rfl
 rw [hrg]
 have hw : ∀ tm : Array Value, Region.wanted o (yielded #[o] tm) = true := by intro tm; simp [Region.wanted, hg]
 have fin1 : ∀ a w, after.wp P (bodyPost P fn R) a w → after.wpS P (bodyPostS P fn c₀ cs (fun e um w' => um = u' ∧ R e w')) a ({ c₀ with mode := u' } :: cs) w := fun a w ha => wpS_of_wp (Code.wp_mono (fun e a w hb => body_mono hb) ha)
 have fin : ∀ a, rest.wp P (Exit.then (after.wp P (bodyPost P fn R)) (bodyPost P fn R)) a w → rest.wpS P (Exit.thenS (after.wpS P (bodyPostS P fn c₀ cs (fun e um w' => um = u' ∧ R e w'))) (bodyPostS P fn c₀ cs (fun e um w' => um = u' ∧ R e w'))) a ({ c₀ with mode := u' } :: cs) w := fun a ha => wpS_of_wp (Code.wp_mono (fun e a w hb => by
  cases e with
  | normal => exact fin1 a w hb
  | ret => exact body_mono (P := P) (fn := fn) (c₀ := c₀) (cs := cs) (a := a) (w := w) (U := u') (R := R) (e := .ret) hb
  | panic ch => exact body_mono (P := P) (fn := fn) (c₀ := c₀) (cs := cs) (a := a) (w := w) (U := u') (R := R) (e := .panic ch) hb
  | outgrown => exact body_mono (P := P) (fn := fn) (c₀ := c₀) (cs := cs) (a := a) (w := w) (U := u') (R := R) (e := .outgrown) hb
  | exit id => exact body_mono (P := P) (fn := fn) (c₀ := c₀) (cs := cs) (a := a) (w := w) (U := u') (R := R) (e := .exit id) hb
  | goto l => exact body_mono (P := P) (fn := fn) (c₀ := c₀) (cs := cs) (a := a) (w := w) (U := u') (R := R) (e := .goto l) hb) ha)
 have hsz : (args.map AV.den).toArray.size = args.length := by simp
 have hact : ({ tmps := (args.map AV.den).toArray ++ Array.replicate (fn.ntmps - (args.map AV.den).toArray.size) undef, defers := [] } : Act) = { tmps := (args.map AV.den).toArray ++ Array.replicate (fn.ntmps - args.length) undef, defers := [] } := by rw [hsz]
 rw [hact]
 cases hr with
 | no =>
  have hrec : recoverD (c₀ :: cs) = none := by simp [recoverD, hu]
  have hc : ({ c₀ with mode := .returning } : Frame) = c₀ := by rw [← hu]
  have := fin _ h2
  rw [hc] at this
  simpa [wpOpsS, hw, hrun, hrec, hd, Exit.thenS, AV.den] using this
 | yes t v =>
  have hrec : recoverD (c₀ :: cs) = some (.iface t v.den, { c₀ with mode := .panicking [{ v := .iface t v.den, recovered := true }] } :: cs) := by simp [recoverD, hu]
  have := fin _ h2
  simpa [wpOpsS, hw, hrun, hrec, hd, Exit.thenS, AV.den] using this
variable {C : Cx}
theorem leave_u {s : St} {a : Act} {w : World} {fn : Func} {R : Ending → World → Prop} {u u1 : FrameMode} {f : FuncId} {l r : List AV} {ds : List Deferred} {x : AV} (h : Fits ⟨C.m0, C.w0, C.S, { target := .fn (.func f) (AV.denL r).toArray, args := (AV.denL l).toArray } :: ds, C.K⟩ s a w) (hu : u ≠ .run) (hen : Enters P f)
  {pre : List (Nat × Blk)} {sets : List (Nat × List AV)} {v : AV} (hsp : SpecU P f u u1 x (l ++ r) pre (fun _ => ⟨v, sets, []⟩)) (hok : ∀ v ∈ l ++ r, Ok (s.m C) w v) (hx : Ok (s.m C) w x) (hpre : ∀ e ∈ pre, lookM s.mem e.1 = some e.2) (hnd : nodupB pre = true)
  (K : ∀ w', Fits ⟨C.m0, C.w0, C.S, ds, C.K⟩ (s.eff (.sets (upd pre sets))) { tmps := a.tmps, defers := ds } w' → Leaves P fn a.tmps R ds (settle u1) w') : Leaves P fn a.tmps R a.defers u w := by
 have hlt : ∀ b o, s.m C b o → b < w.heap.size := m_lt (C := ⟨C.m0, C.w0, C.S, { target := .fn (.func f) (AV.denL r).toArray, args := (AV.denL l).toArray } :: ds, C.K⟩) h
 refine leave_step h hu hen hpre hnd (fun hp => (hsp (s.m C) w hlt hok hp hx).mono ?_) K
 rintro e u' w' ⟨rfl, x, rfl, _, hl⟩
 exact ⟨⟨_, rfl⟩, rfl, hl⟩
end
section
variable {C : Cx} {P : Program} {Q : Exit → Act → World → Prop} {ops : Array Oper}
theorem man_tassert {s : St} {a : Act} {w : World} {L rest : List Oper} {o : Oper} {x : Operand} {ti t d : Nat} {v : AV} {dd : TypeDesc} (hL : L = o :: rest) (hg : o.guard = none) (hop : o.op = .typeAssert x ti t true) (hdst : o.dst = some d) (h : Fits C s a w) (hd : d < s.nt) (hx : val s [] x = .ifc t v) (hu : P.underlying t = some dd) (hni : ∀ ms, dd ≠ .interface ms)
  (K : ∀ a', Fits C (s.put (some d) (.tup [v, .bool .tt])) a' w → wpList P ops Q rest a' w) : wpList P ops Q L a w := by
 have hxv := val_ok h (q := []) (fun _ h => by cases h) (x := x) (by rw [hx]; rfl)
 rw [hx] at hxv
 have hok : Ok (s.m C) w v := by cases hxv.2 with | ifc _ _ h => exact h
 refine man_val hL hg hdst h hd (v := .tup [v, .bool .tt]) ?_ (.tup _ (fun y hy => ?_)) K
 ·have e : a.eval x = .iface t v.den := hxv.1
  simp only [execOp, hop, e, AV.den, AV.denL, BE.den]
  cases dd <;> first | exact absurd rfl (hni _) | simp [Instr.typeAssert, run_underlying hu]
 simp only [List.mem_cons, List.not_mem_nil, or_false] at hy
 rcases hy with rfl | rfl
 ·exact hok
 exact .bool _
end
end Go.Proofs.YtphmfjhmdajlmaaGreat.Sym
namespace Go.Proofs.YtphmfjhmdajlmaaGreat.Sym
open Go Go.RowKit
def btw (v lo hi : Int) : Bool := decide (lo ≤ v) && decide (v ≤ hi)
def isJobB (J : JobA) : Bool := btw J.bucket 1 16 && btw J.budget 0 2000 && btw J.how 1 2 && btw J.most 0 500 && decide ((J.pn : Int) ≤ 500) && isL J.lab
def isGotB (g : GotA) : Bool := (decide (g.code = 0) || decide (g.code = 8)) && (if g.has = true then isRF g.x.r.kd g.x.r.n g.x.r.f g.x.r.nx g.x.r.mrk else decide (g.x.r.kd = 0) && decide (g.x.r.n = 0) && decide (g.x.r.nx = ⟨0, 0⟩) && decide (g.x.r.mrk = 0))
def allGot (n : Nat) (f : Nat → GotA) : Bool := (List.range n).all fun j => isGotB (f j)
theorem allGot_no {n j : Nat} {f : Nat → GotA} (hj : j < n) (h : isGotB (f j) = false) : allGot n f = false := by
 rw [Bool.eq_false_iff]
 intro h2
 have := List.all_eq_true.1 h2 j (List.mem_range.2 hj)
 rw [h] at this; cases this
theorem allGot_yes {n : Nat} {f : Nat → GotA} (h : ∀ j, j < n → isGotB (f j) = true) : allGot n f = true := List.all_eq_true.2 fun j hj => h j (List.mem_range.1 hj)
theorem allGot_at {n j : Nat} {f : Nat → GotA} (h : allGot n f = true) (hj : j < n) : isGotB (f j) = true := List.all_eq_true.1 h j (List.mem_range.2 hj)
structure InG (g : GotA) : Prop where
 nx : U64 g.x.r.nx.bits
 ver : U64 g.ver
 len : g.x.r.n ≤ maxLen
 key : ∀ i, i < g.x.r.n → U64 (g.x.r.f i).key
theorem got_ok {g : GotA} (h : InG g) (hg : isGotB g = true) : GotOk g := by
 refine ⟨⟨h.nx, h.key, ?_⟩, h.ver⟩
 unfold isGotB at hg
 rw [Bool.and_eq_true] at hg
 obtain ⟨_, h2⟩ := hg
 by_cases hh : g.has = true
 ·rw [if_pos hh] at h2
  exact (isRF_kind h2).2.2.1
 rw [if_neg hh] at h2
 simp only [Bool.and_eq_true, decide_eq_true_eq] at h2
 omega
abbrev gotsV (A : Option Addr) (n c : Nat) (f : Nat → GotA) : AV := .sl none A n c 8 (fun j => gotC (f j))
def nt0 : Nt := ⟨11, false, ⟨#[]⟩⟩
def pst0 (n : Nat) (f : Nat → GotA) : Pst := ⟨n, f, nt0⟩
def JobA.less (J : JobA) (n : Nat) : JobA := { J with budget := J.budget - n }
structure JobIn (J : JobA) : Prop where
 lab : U64 J.lab.bits
 key : U64 J.key
 hi : U64 J.hi
theorem job_ok {J : JobA} {n : Nat} (hJ : JobIn J) (h : isJobB J = true) (hn : n ≤ 900000) : JobOk (J.less n) := by
 unfold isJobB btw at h
 simp only [Bool.and_eq_true, decide_eq_true_eq] at h
 refine ⟨?_, ?_, hJ.lab, hJ.key, hJ.hi⟩
 ·show -1000000 ≤ J.budget - n; omega
 show J.budget - n ≤ 1000000; omega
theorem got_r {g : GotA} (hg : isGotB g = true) : GotR g := by
 unfold isGotB at hg
 simp only [Bool.and_eq_true, Bool.or_eq_true, decide_eq_true_eq] at hg
 obtain ⟨h1, h2⟩ := hg
 refine ⟨h1, fun hh => ?_, fun hh => ?_⟩
 ·rw [if_pos hh] at h2; exact h2
 rw [if_neg (by rw [hh]; decide)] at h2
 simp only [Bool.and_eq_true, decide_eq_true_eq] at h2
 exact ⟨h2.1.1.1, h2.1.1.2, h2.1.2, h2.2⟩
theorem pst_ok {n : Nat} {f : Nat → GotA} (hin : ∀ j, j < n → InG (f j)) (h : allGot n f = true) : PstOk (pst0 n f) := fun j hj => ⟨got_ok (hin j hj) (allGot_at h hj), got_r (allGot_at h hj)⟩
abbrev rslV (x : Atom) (r : Rsl) : AV := .agg [.int .i64 r.code, .bool (.v r.had), .str r.val, .sl none (x.A 2) r.items.length (x.c 2) 2 (fun i => itC (itF r.items i)), .int .u64 r.key, .bool (.v r.more)]
abbrev rslZ (r : Rsl) : AV := .agg [.int .i64 r.code, .bool (.v r.had), .str r.val, .sl none none 0 0 2 (fun _ => []), .int .u64 r.key, .bool (.v r.more)]
def RunA (f : FuncId) (k0 b : Nat) (J : JobA) (A : Option Addr) (c : Nat) (p : Pst) (args : List AV) (r : Rs Rsl) : Prop :=
 SpecT Tryz.prog f (.ptr k0 b 0 :: args) [(k0, ⟨b, 114, runC J A c p⟩)] (fun x => match r with
  | .ok a p => .ret ⟨rslV x a, [(k0, runC J (x.A 0) (x.c 0) p)], []⟩
  | .stop w p => .thr 40 (wntV (wqA x w)) [(k0, runC J (x.A 0) (x.c 0) p)])
theorem RunS.a {f : FuncId} {k0 b : Nat} {J : JobA} {A : Option Addr} {c : Nat} {p : Pst} {args : List AV} {r : Rs Rsl} (h : RunS f k0 b J A c p args rslZ r) (hr : ∀ a q, r = .ok a q → a.items = []) : RunA f k0 b J A c p args r := by
 intro m w h1 h2 h3
 refine (h m w h1 h2 h3).mono ?_
 rintro e w' ⟨x, hx⟩
 cases r with
 | stop wq q => exact ⟨x, hx⟩
 | ok a q =>
  refine ⟨⟨x.b, fun i => if i = 2 then none else x.A i, fun i => if i = 2 then 0 else x.c i, x.s⟩, ?_⟩
  have hi := hr a q rfl
  obtain ⟨he, hok, hl⟩ := hx
  have hs : Sim (rslZ a) (rslV ⟨x.b, fun i => if i = 2 then none else x.A i, fun i => if i = 2 then 0 else x.c i, x.s⟩ a) := by
   obtain ⟨c1, h1, v1, it, k1, m1⟩ := a
   simp only at hi
   subst hi
   exact Sim.agg ⟨zr, zr, zr, zq0, zr, zr, trivial⟩
  exact ⟨by rw [he]; exact congrArg _ hs.1, hs.2.2 _ _ hok, hl⟩
theorem RunA.ok {f : FuncId} {k0 b : Nat} {J : JobA} {A : Option Addr} {c : Nat} {p q : Pst} {args : List AV} {r : Rs Rsl} {a : Rsl} (h : RunA f k0 b J A c p args r) (e : r = .ok a q) :
  SpecT Tryz.prog f (.ptr k0 b 0 :: args) [(k0, ⟨b, 114, runC J A c p⟩)] (fun x => .ret ⟨rslV x a, [(k0, runC J (x.A 0) (x.c 0) q)], []⟩) := by
 subst e; exact h
theorem RunA.stop {f : FuncId} {k0 b : Nat} {J : JobA} {A : Option Addr} {c : Nat} {p q : Pst} {args : List AV} {r : Rs Rsl} {w : Wq} (h : RunA f k0 b J A c p args r) (e : r = .stop w q) :
  SpecT Tryz.prog f (.ptr k0 b 0 :: args) [(k0, ⟨b, 114, runC J A c p⟩)] (fun x => .thr 40 (wntV (wqA x w)) [(k0, runC J (x.A 0) (x.c 0) q)]) := by
 subst e; exact h
theorem m_sub {s s' : St} {C C' : Cx} (h0 : ∀ b o, C'.m0 b o → C.m0 b o) (h : ∀ x ∈ s'.mem, ∃ k' e', lookM s.mem k' = some e' ∧ e'.at_ = x.2.at_) (hg : s'.gr = []) {b o : Nat} (hh : s'.m C' b o) : s.m C b o := by
 rcases hh with hh | ⟨k, e, he, hat⟩ | ⟨k, t, ht, _⟩
 ·exact .inl (h0 b o hh)
 ·obtain ⟨k', e', h1, h2⟩ := h _ (lookM_mem he)
  exact .inr (.inl ⟨k', e', h1, h2.trans hat⟩)
 rw [hg] at ht; cases ht
theorem RunA.ok' {f : FuncId} {k0 b : Nat} {J : JobA} {A : Option Addr} {c : Nat} {p q : Pst} {args : List AV} {r : Rs Rsl} {a : Rsl} (h : RunA f k0 b J A c p args r) (e : r = .ok a q) {nn : Nat} {ff : Nat → Itm} (h1 : nn = a.items.length) (h2 : ff = itF a.items) :
  SpecT Tryz.prog f (.ptr k0 b 0 :: args) [(k0, ⟨b, 114, runC J A c p⟩)] (fun x => .ret ⟨.agg [.int .i64 a.code, .bool (.v a.had), .str a.val, .sl none (x.A 2) nn (x.c 2) 2 (fun i => itC (ff i)), .int .u64 a.key, .bool (.v a.more)], [(k0, runC J (x.A 0) (x.c 0) q)], []⟩) := by
 subst h1; subst h2; exact h.ok e
def nextR (ok : Bool) (r : Rs Rsl) : Wq × Int := if ok = true then toldM r else (zWq, 1)
abbrev wqB (x : Atom) (w : Wq) (rr : RN) (nn : Nat) (ff : Nat → Itm) : WntA := ⟨w.kind, w.lab, w.ver, ⟨x.A 1, x.c 1, rr⟩, ⟨w.res.code, w.res.had, w.res.val, x.A 2, nn, x.c 2, ff, w.res.key, w.res.more⟩⟩
theorem Spec.wq {P : Program} {f : Nat} {args : List AV} {r : Wq × Int} (h : Spec P f args (fun x => .tup [wntV (wqA x r.1), .int .i64 r.2])) {w : Wq} {e : Int} {rr : RN} {nn : Nat} {ff : Nat → Itm} (h1 : w = r.1) (h2 : e = r.2) (h3 : rr = w.r.rn) (h4 : nn = w.res.items.length) (h5 : ff = itF w.res.items) :
  Spec P f args (fun x => .tup [wntV (wqB x w rr nn ff), .int .i64 e]) := by
 subst h1; subst h2; subst h3; subst h4; subst h5; exact h
end Go.Proofs.YtphmfjhmdajlmaaGreat.Sym
namespace Go.Proofs.YtphmfjhmdajlmaaGreat.Sym
open Go Go.ChangeShapes Go.WideShapes Go.ChangeAt Go.RowKit Go.Deep
def OkL (w : World) (l : List AV) : Prop := ∀ v ∈ l, v.one = true ∧ Ok m0 w v
theorem OkL.nil {w : World} : OkL w [] := fun v hv => by cases hv
theorem OkL.cons {w : World} {v : AV} {l : List AV} (h1 : v.one = true) (h2 : Ok m0 w v) (h : OkL w l) : OkL w (v :: l) := by
 intro u hu
 rcases List.mem_cons.1 hu with rfl | hu
 ·exact ⟨h1, h2⟩
 exact h u hu
theorem OkL.int {w : World} {k : IntKind} {x : Int} {l : List AV} (h : OkL w l) : OkL w (.int k x :: l) := .cons rfl (.int _ _) h
theorem OkL.bool {w : World} {b : BE} {l : List AV} (h : OkL w l) : OkL w (.bool b :: l) := .cons rfl (.bool _) h
theorem OkL.append {w : World} {l l' : List AV} (h : OkL w l) (h' : OkL w l') : OkL w (l ++ l') := by
 intro u hu
 rcases List.mem_append.1 hu with hu | hu
 ·exact h u hu
 exact h' u hu
theorem OkL.agg {w : World} {l : List AV} (h : OkL w l) : Ok m0 w (.agg l) := .agg _ (fun v hv => (h v hv).1) fun v hv => (h v hv).2
def RowWf (w : World) (x : RowA) : Prop := OkL w (rowC x) ∧ x.x.r.n ≤ maxLen ∧ LabOk x.lab ∧ LabOk x.x.r.nx ∧ U64 x.ver ∧ ∀ i, i < x.x.r.n → U64 (x.x.r.f i).key
theorem LabOk.u64 {l : Lab} (h : LabOk l) : U64 l.bits := u64_wf h.2
theorem rows_okg {α : Type} [Inhabited α] {k : Nat} {cells : α → List AV} {w : World} {A : Option Addr} {c : Nat} {l : List α} (hk : ∀ x, (cells x).length = k) (hl : l.length ≤ c) (hc : c ≤ maxLen) (ho : ∀ x ∈ l, OkL w (cells x))
  (h : 0 < (l.flatMap fun x => (cells x).map AV.den).length → ∃ b off, A = some ⟨b, off, none⟩ ∧ ∀ j u, (l.flatMap fun x => (cells x).map AV.den)[j]? = some u → w.cell? ⟨b, off + j, none⟩ = some u) (hk0 : 0 < k) : Ok m0 w (.sl none A l.length c k (fun i => cells (l.getD i default))) := by
 have hg : ∀ i (hi : i < l.length), l.getD i default = l[i] := fun i hi => by simp [List.getD, hi]
 have hkm : ∀ x, ((cells x).map AV.den).length = k := fun x => by rw [List.length_map, hk]
 have hpos : ∀ i, i < l.length → 0 < (l.flatMap fun x => (cells x).map AV.den).length := fun i hi => by rw [flat_length hkm]; exact Nat.mul_pos (by omega) hk0
 refine .sl _ _ _ _ _ _ hl hc (fun i _ => hk _) (fun i hi => ?_) (fun i hi j u hu => ?_) (fun i hi v hv => ?_) (fun i hi v hv => ?_)
 ·obtain ⟨b, off, hA, _⟩ := h (hpos i hi); exact ⟨b, off, hA⟩
 ·obtain ⟨b, off, hA, hcl⟩ := h (hpos i hi)
  rw [hg i hi] at hu
  exact ⟨b, off, hA, hcl _ u (flat_get hkm (List.getElem?_eq_getElem hi) hu), id⟩
 ·rw [hg i hi] at hv; exact (ho _ (List.getElem_mem hi) v hv).1
 rw [hg i hi] at hv; exact (ho _ (List.getElem_mem hi) v hv).2
section
variable {H : Type} {enc : TypeId × Value → H} {w : World} {base : Nat} {spare : Nat → Bool} {held : Bool}
theorem dec_labk (n : Nat) (cs : List Value) (y : DataW H × List MemPlace) (h : DataW.trod enc Tryz.prog w base spare held n 24 cs = some y) : ∃ x : Lab, cs = [.int .i64 x.len, .int .u64 x.bits] ∧ LabOk x := by
 obtain ⟨xs, m, rfl, rfl, hlen, hxl, hf⟩ := DataW.trod_struct Tryz.underlying24 h
 have hC : Tryz.prog.cellsOf 24 = 2 := by kernel_rfl
 have h0 : DataW.trod enc Tryz.prog w base spare held m 3 ((cs.drop 0).take (Tryz.prog.cellsOf 3)) = xs[0]? := hf 0 _ rfl
 have h1 : DataW.trod enc Tryz.prog w base spare held m 22 ((cs.drop 1).take (Tryz.prog.cellsOf 22)) = xs[1]? := hf 1 _ rfl
 rw [hC] at hlen
 rw [show Tryz.prog.cellsOf 3 = 1 by kernel_rfl] at h0
 rw [show Tryz.prog.cellsOf 22 = 1 by kernel_rfl] at h1
 match cs, hlen with
 | [c0, c1], _ =>
  match xs, hxl with
  | [y0, y1], _ =>
   obtain ⟨a, e0, _, wa⟩ := DataW.trod_int Tryz.underlying3 h0
   obtain ⟨b, e1, _, wb⟩ := DataW.trod_int Tryz.underlying22 h1
   simp at e0 e1
   subst e0; subst e1
   exact ⟨⟨a, b⟩, rfl, wa, wb⟩
theorem dec_its (n : Nat) (cs : List Value) (y : DataW H × List MemPlace) (h : DataW.trod enc Tryz.prog w base spare held n 33 cs = some y) : ∃ (A : Option Addr) (c k : Nat) (f : Nat → Itm), cs = [(AV.sl none A k c 2 (fun i => itC (f i))).den] ∧ Ok m0 w (.sl none A k c 2 (fun i => itC (f i))) ∧ k ≤ maxLen ∧ ∀ i, i < k → U64 (f i).key := by
 obtain ⟨A, c, l, e1, hr, hl, hm, hwf⟩ := trod_list (en := itmE) Tryz.underlying33 (k := 2) (by kernel_rfl) itmE_len (by decide) dec_itm h
 have hrow : Ok m0 w (rowI A l.length c (itF l)) := rows_ok hl hm (fun x hx => (hwf x hx).1) fun hp => by
  obtain ⟨b, off, hA, _, hc⟩ := hr hp
  exact ⟨b, off, hA, fun j u hu => ⟨hc j u hu, id⟩⟩
 exact ⟨A, c, l.length, itF l, e1, hrow, by omega, fun i hi => by simp only [itF, List.getD, List.getElem?_eq_getElem hi]; exact (hwf _ (List.getElem_mem hi)).2⟩
theorem dec_recx (n : Nat) (cs : List Value) (y : DataW H × List MemPlace) (h : DataW.trod enc Tryz.prog w base spare held n 35 cs = some y) : ∃ x : RA, cs = (recC x).map AV.den ∧ OkL w (recC x) ∧ x.r.n ≤ maxLen ∧ LabOk x.r.nx ∧ ∀ i, i < x.r.n → U64 (x.r.f i).key := by
 obtain ⟨xs, m, rfl, rfl, hlen, hxl, hf⟩ := DataW.trod_struct Tryz.underlying35 h
 have hC : Tryz.prog.cellsOf 35 = 5 := by kernel_rfl
 have h0 : DataW.trod enc Tryz.prog w base spare held m 3 ((cs.drop 0).take (Tryz.prog.cellsOf 3)) = xs[0]? := hf 0 _ rfl
 have h1 : DataW.trod enc Tryz.prog w base spare held m 33 ((cs.drop 1).take (Tryz.prog.cellsOf 33)) = xs[1]? := hf 1 _ rfl
 have h2 : DataW.trod enc Tryz.prog w base spare held m 24 ((cs.drop 2).take (Tryz.prog.cellsOf 24)) = xs[2]? := hf 2 _ rfl
 have h3 : DataW.trod enc Tryz.prog w base spare held m 22 ((cs.drop 4).take (Tryz.prog.cellsOf 22)) = xs[3]? := hf 3 _ rfl
 rw [hC] at hlen
 rw [show Tryz.prog.cellsOf 3 = 1 by kernel_rfl] at h0
 rw [show Tryz.prog.cellsOf 33 = 1 by kernel_rfl] at h1
 rw [show Tryz.prog.cellsOf 24 = 2 by kernel_rfl] at h2
 rw [show Tryz.prog.cellsOf 22 = 1 by kernel_rfl] at h3
 match cs, hlen with
 | [c0, c1, c2, c3, c4], _ =>
  match xs, hxl with
  | [y0, y1, y2, y3], _ =>
   obtain ⟨kd, e0, _, _⟩ := DataW.trod_int Tryz.underlying3 h0
   obtain ⟨A, c, k, f, e1, hrow, hk, hky⟩ := dec_its _ _ _ h1
   obtain ⟨nx, e2, hb⟩ := dec_labk _ _ _ h2
   obtain ⟨mk, e3, _, wm⟩ := DataW.trod_int Tryz.underlying22 h3
   simp only [List.drop_zero, List.drop_succ_cons, List.take_succ_cons, List.take_zero, List.cons.injEq, and_true] at e0 e1 e2 e3
   obtain ⟨e2, e4⟩ := e2
   subst e0; subst e1; subst e2; subst e3; subst e4
   exact ⟨⟨A, c, ⟨k, f, kd, nx, mk⟩⟩, rfl, .int (.cons rfl hrow (.int (.int (.int .nil)))), hk, hb, hky⟩
theorem dec_row (n : Nat) (cs : List Value) (y : DataW H × List MemPlace) (h : DataW.trod enc Tryz.prog w base spare held n 77 cs = some y) : ∃ x : RowA, cs = (rowC x).map AV.den ∧ RowWf w x := by
 obtain ⟨xs, m, rfl, rfl, hlen, hxl, hf⟩ := DataW.trod_struct Tryz.underlying77 h
 have hC : Tryz.prog.cellsOf 77 = 8 := by kernel_rfl
 have h0 : DataW.trod enc Tryz.prog w base spare held m 24 ((cs.drop 0).take (Tryz.prog.cellsOf 24)) = xs[0]? := hf 0 _ rfl
 have h1 : DataW.trod enc Tryz.prog w base spare held m 22 ((cs.drop 2).take (Tryz.prog.cellsOf 22)) = xs[1]? := hf 1 _ rfl
 have h2 : DataW.trod enc Tryz.prog w base spare held m 35 ((cs.drop 3).take (Tryz.prog.cellsOf 35)) = xs[2]? := hf 2 _ rfl
 rw [hC] at hlen
 rw [show Tryz.prog.cellsOf 24 = 2 by kernel_rfl] at h0
 rw [show Tryz.prog.cellsOf 22 = 1 by kernel_rfl] at h1
 rw [show Tryz.prog.cellsOf 35 = 5 by kernel_rfl] at h2
 match cs, hlen with
 | [c0, c1, c2, c3, c4, c5, c6, c7], _ =>
  match xs, hxl with
  | [y0, y1, y2], _ =>
   obtain ⟨l, e0, hl⟩ := dec_labk _ _ _ h0
   obtain ⟨v, e1, _, wv⟩ := DataW.trod_int Tryz.underlying22 h1
   obtain ⟨x, e2, hx, hn, hnx, hky⟩ := dec_recx _ _ _ h2
   simp only [List.drop_zero, List.drop_succ_cons, List.take_succ_cons, List.take_zero, List.cons.injEq, and_true, recC, List.map_cons, List.map_nil] at e0 e1 e2
   obtain ⟨e0, e3⟩ := e0
   obtain ⟨e4, e5, e6, e7, e8⟩ := e2
   subst e0; subst e1; subst e3; subst e4; subst e5; subst e6; subst e7; subst e8
   exact ⟨⟨l, v, x⟩, rfl, .int (.int (.int hx)), hn, hl, hnx, u64_wf wv, hky⟩
theorem dec_int1 (n : Nat) (cs : List Value) (y : DataW H × List MemPlace) (h : DataW.trod enc Tryz.prog w base spare held n 3 cs = some y) : ∃ x : Int, cs = [Value.int .i64 x] ∧ True := by
 obtain ⟨a, e0, _, _⟩ := DataW.trod_int Tryz.underlying3 h
 exact ⟨a, e0, trivial⟩
theorem dec_ints (n : Nat) (cs : List Value) (y : DataW H × List MemPlace) (h : DataW.trod enc Tryz.prog w base spare held n 25 cs = some y) : ∃ (A : Option Addr) (c k : Nat) (f : Nat → Int), cs = [(AV.sl none A k c 1 (fun i => [.int .i64 (f i)])).den] ∧ Ok m0 w (.sl none A k c 1 (fun i => [.int .i64 (f i)])) := by
 obtain ⟨A, c, l, e1, hr, hl, hm, hwf⟩ := trod_list (en := fun x : Int => [Value.int .i64 x]) Tryz.underlying25 (k := 1) (by kernel_rfl) (fun _ => rfl) (by decide) dec_int1 h
 have hrow : Ok m0 w (.sl none A l.length c 1 (fun i => [.int .i64 (l.getD i default)])) := rows_okg (cells := fun x : Int => [AV.int .i64 x]) (fun _ => rfl) hl hm (fun x _ => .int .nil) (fun hp => by
  obtain ⟨b, off, hA, _, hc⟩ := hr hp
  exact ⟨b, off, hA, fun j u hu => hc j u hu⟩) (by decide)
 exact ⟨A, c, l.length, fun i => l.getD i default, e1, hrow⟩
theorem dec_rect (n : Nat) (cs : List Value) (y : DataW H × List MemPlace) (h : DataW.trod enc Tryz.prog w base spare held n 28 cs = some y) : ∃ x1 x2 y1 y2 : Int, cs = [.int .u32 x1, .int .u32 x2, .int .u32 y1, .int .u32 y2] := by
 obtain ⟨xs, m, rfl, rfl, hlen, hxl, hf⟩ := DataW.trod_struct Tryz.underlying28 h
 have hC : Tryz.prog.cellsOf 28 = 4 := by kernel_rfl
 have h0 : DataW.trod enc Tryz.prog w base spare held m 26 ((cs.drop 0).take (Tryz.prog.cellsOf 26)) = xs[0]? := hf 0 _ rfl
 have h1 : DataW.trod enc Tryz.prog w base spare held m 26 ((cs.drop 1).take (Tryz.prog.cellsOf 26)) = xs[1]? := hf 1 _ rfl
 have h2 : DataW.trod enc Tryz.prog w base spare held m 26 ((cs.drop 2).take (Tryz.prog.cellsOf 26)) = xs[2]? := hf 2 _ rfl
 have h3 : DataW.trod enc Tryz.prog w base spare held m 26 ((cs.drop 3).take (Tryz.prog.cellsOf 26)) = xs[3]? := hf 3 _ rfl
 rw [hC] at hlen
 rw [show Tryz.prog.cellsOf 26 = 1 by kernel_rfl] at h0 h1 h2 h3
 match cs, hlen with
 | [c0, c1, c2, c3], _ =>
  match xs, hxl with
  | [y0, y1, y2, y3], _ =>
   obtain ⟨a0, e0, _, _⟩ := DataW.trod_int Tryz.underlying26 h0
   obtain ⟨a1, e1, _, _⟩ := DataW.trod_int Tryz.underlying26 h1
   obtain ⟨a2, e2, _, _⟩ := DataW.trod_int Tryz.underlying26 h2
   obtain ⟨a3, e3, _, _⟩ := DataW.trod_int Tryz.underlying26 h3
   simp at e0 e1 e2 e3
   subst e0; subst e1; subst e2; subst e3
   exact ⟨_, _, _, _, rfl⟩
theorem dec_job (n : Nat) (cs : List Value) (y : DataW H × List MemPlace) (h : DataW.trod enc Tryz.prog w base spare held n 30 cs = some y) : ∃ x : JobA, cs = (jobC x).map AV.den ∧ OkL w (jobC x) ∧ JobIn x := by
 obtain ⟨xs, m, rfl, rfl, hlen, hxl, hf⟩ := DataW.trod_struct Tryz.underlying30 h
 have hC : Tryz.prog.cellsOf 30 = 15 := by kernel_rfl
 have h0 : DataW.trod enc Tryz.prog w base spare held m 3 ((cs.drop 0).take (Tryz.prog.cellsOf 3)) = xs[0]? := hf 0 _ rfl
 have h1 : DataW.trod enc Tryz.prog w base spare held m 24 ((cs.drop 1).take (Tryz.prog.cellsOf 24)) = xs[1]? := hf 1 _ rfl
 have h2 : DataW.trod enc Tryz.prog w base spare held m 22 ((cs.drop 3).take (Tryz.prog.cellsOf 22)) = xs[2]? := hf 2 _ rfl
 have h3 : DataW.trod enc Tryz.prog w base spare held m 22 ((cs.drop 4).take (Tryz.prog.cellsOf 22)) = xs[3]? := hf 3 _ rfl
 have h4 : DataW.trod enc Tryz.prog w base spare held m 9 ((cs.drop 5).take (Tryz.prog.cellsOf 9)) = xs[4]? := hf 4 _ rfl
 have h5 : DataW.trod enc Tryz.prog w base spare held m 3 ((cs.drop 6).take (Tryz.prog.cellsOf 3)) = xs[5]? := hf 5 _ rfl
 have h6 : DataW.trod enc Tryz.prog w base spare held m 25 ((cs.drop 7).take (Tryz.prog.cellsOf 25)) = xs[6]? := hf 6 _ rfl
 have h7 : DataW.trod enc Tryz.prog w base spare held m 28 ((cs.drop 8).take (Tryz.prog.cellsOf 28)) = xs[7]? := hf 7 _ rfl
 have h8 : DataW.trod enc Tryz.prog w base spare held m 3 ((cs.drop 12).take (Tryz.prog.cellsOf 3)) = xs[8]? := hf 8 _ rfl
 have h9 : DataW.trod enc Tryz.prog w base spare held m 3 ((cs.drop 13).take (Tryz.prog.cellsOf 3)) = xs[9]? := hf 9 _ rfl
 have h10 : DataW.trod enc Tryz.prog w base spare held m 3 ((cs.drop 14).take (Tryz.prog.cellsOf 3)) = xs[10]? := hf 10 _ rfl
 rw [hC] at hlen
 rw [show Tryz.prog.cellsOf 3 = 1 by kernel_rfl] at h0 h5 h8 h9 h10
 rw [show Tryz.prog.cellsOf 24 = 2 by kernel_rfl] at h1
 rw [show Tryz.prog.cellsOf 22 = 1 by kernel_rfl] at h2 h3
 rw [show Tryz.prog.cellsOf 9 = 1 by kernel_rfl] at h4
 rw [show Tryz.prog.cellsOf 25 = 1 by kernel_rfl] at h6
 rw [show Tryz.prog.cellsOf 28 = 4 by kernel_rfl] at h7
 match cs, hlen with
 | [c0, c1, c2, c3, c4, c5, c6, c7, c8, c9, c10, c11, c12, c13, c14], _ =>
  match xs, hxl with
  | [y0, y1, y2, y3, y4, y5, y6, y7, y8, y9, y10], _ =>
   obtain ⟨kd, e0, _, _⟩ := DataW.trod_int Tryz.underlying3 h0
   obtain ⟨l, e1, hl⟩ := dec_labk _ _ _ h1
   obtain ⟨ky, e2, _, wk⟩ := DataW.trod_int Tryz.underlying22 h2
   obtain ⟨hi, e3, _, wh⟩ := DataW.trod_int Tryz.underlying22 h3
   obtain ⟨vl, e4, _, ws⟩ := DataW.trod_string Tryz.underlying9 h4
   obtain ⟨ms, e5, _, _⟩ := DataW.trod_int Tryz.underlying3 h5
   obtain ⟨pA, pc, pn, pf, e6, hp⟩ := dec_ints _ _ _ h6
   obtain ⟨x1, x2, y1, y2, e7⟩ := dec_rect _ _ _ h7
   obtain ⟨hw, e8, _, _⟩ := DataW.trod_int Tryz.underlying3 h8
   obtain ⟨bk, e9, _, _⟩ := DataW.trod_int Tryz.underlying3 h9
   obtain ⟨bg, e10, _, _⟩ := DataW.trod_int Tryz.underlying3 h10
   simp only [List.drop_zero, List.drop_succ_cons, List.take_succ_cons, List.take_zero, List.cons.injEq, and_true] at e0 e1 e2 e3 e4 e5 e6 e7 e8 e9 e10
   obtain ⟨e1, f1⟩ := e1
   obtain ⟨g0, g1, g2, g3⟩ := e7
   subst e0; subst e1; subst f1; subst e2; subst e3; subst e4; subst e5; subst e6; subst g0; subst g1; subst g2; subst g3; subst e8; subst e9; subst e10
   exact ⟨⟨kd, l, ky, hi, vl, ms, pA, pn, pc, pf, x1, x2, y1, y2, hw, bk, bg⟩, rfl, .int (.int (.int (.int (.int (.cons rfl (.str _ ws) (.int (.cons rfl hp (.int (.int (.int (.int (.int (.int (.int .nil)))))))))))))), hl.u64, u64_wf wk, u64_wf wh⟩
variable {r : Reach} {b0 : Nat} {v : Value} {d : DataW H} {p : List MemPlace}
def InJob (w : World) (v : Value) : Prop := ∃ J : JobA, v = (jobV J).den ∧ Ok m0 w (jobV J) ∧ JobIn J
def InRow (w : World) (v : Value) : Prop := ∃ (A : Option Addr) (n c : Nat) (f : Nat → RowA), v = (rowsV A n c f).den ∧ Ok m0 w (rowsV A n c f) ∧ n ≤ maxLen ∧ ∀ i, i < n → RowWf w (f i)
instance inhGot25 : Inhabited GotA := ⟨zGot⟩
instance inhRow25 : Inhabited RowA := ⟨zRow⟩
theorem in_rows (hv : Value.okWide Tryz.prog w r b0 46 v) (h : DataW.Trod enc Tryz.prog w base spare held 46 v d p) : InRow w v := by
 obtain ⟨a, len, cap, rfl⟩ := okWide_slice Tryz.underlying46 hv
 obtain ⟨fuel, hf⟩ := h
 obtain ⟨A, c, l, e1, hr, hl, hm, hwf⟩ := trod_list (en := fun x => (rowC x).map AV.den) (wf := RowWf w) Tryz.underlying46 (k := 8) (by kernel_rfl) (fun _ => rfl) (by decide) dec_row hf
 simp only [Value.cells, List.cons.injEq, and_true] at e1
 rw [e1]
 refine ⟨A, l.length, c, fun i => l.getD i default, rfl, rows_okg (fun _ => rfl) hl hm (fun x hx => (hwf x hx).1) (fun hp => ?_) (by decide), by omega, fun i hi => ?_⟩
 ·obtain ⟨b, off, hA, _, hc⟩ := hr hp
  exact ⟨b, off, hA, fun j u hu => hc j u hu⟩
 have : l.getD i default = l[i] := by simp [List.getD, hi]
 simp only [this]; exact hwf _ (List.getElem_mem hi)
theorem in_job (hv : Value.okWide Tryz.prog w r b0 30 v) (h : DataW.Trod enc Tryz.prog w base spare held 30 v d p) : InJob w v := by
 obtain ⟨cs, rfl, _⟩ := okWide_struct Tryz.underlying30 hv
 obtain ⟨fuel, hf⟩ := h
 obtain ⟨x, hx, hw⟩ := dec_job _ _ _ hf
 simp only [Value.cells] at hx
 obtain ⟨l, rfl⟩ : ∃ l : List Value, cs = l.toArray := ⟨cs.toList, by simp⟩
 simp only [List.toList_toArray] at hx
 subst hx
 exact ⟨x, by simp [AV.den, AV.denL], hw.1.agg, hw.2⟩
end
abbrev wntsV (A : Option Addr) (n c : Nat) (f : Nat → WntA) : AV := .sl none A n c 15 (fun i => wntC (f i))
def WntWf (w : World) (x : WntA) : Prop := OkL w (wntC x) ∧ x.x.r.n ≤ maxLen ∧ LabOk x.lab ∧ LabOk x.x.r.nx ∧ ∀ i, i < x.x.r.n → U64 (x.x.r.f i).key
section
variable {H : Type} {enc : TypeId × Value → H} {w : World} {base : Nat} {spare : Nat → Bool} {held : Bool}
abbrev resC (s : ResA) : List AV := [.int .i64 s.code, .bool (.v s.had), .str s.val, .sl none s.A s.n s.c 2 (fun i => itC (s.f i)), .int .u64 s.key, .bool (.v s.more)]
theorem dec_res (n : Nat) (cs : List Value) (y : DataW H × List MemPlace) (h : DataW.trod enc Tryz.prog w base spare held n 38 cs = some y) : ∃ x : ResA, cs = (resC x).map AV.den ∧ OkL w (resC x) := by
 obtain ⟨xs, m, rfl, rfl, hlen, hxl, hf⟩ := DataW.trod_struct Tryz.underlying38 h
 have hC : Tryz.prog.cellsOf 38 = 6 := by kernel_rfl
 have h0 : DataW.trod enc Tryz.prog w base spare held m 36 ((cs.drop 0).take (Tryz.prog.cellsOf 36)) = xs[0]? := hf 0 _ rfl
 have h1 : DataW.trod enc Tryz.prog w base spare held m 4 ((cs.drop 1).take (Tryz.prog.cellsOf 4)) = xs[1]? := hf 1 _ rfl
 have h2 : DataW.trod enc Tryz.prog w base spare held m 9 ((cs.drop 2).take (Tryz.prog.cellsOf 9)) = xs[2]? := hf 2 _ rfl
 have h3 : DataW.trod enc Tryz.prog w base spare held m 33 ((cs.drop 3).take (Tryz.prog.cellsOf 33)) = xs[3]? := hf 3 _ rfl
 have h4 : DataW.trod enc Tryz.prog w base spare held m 22 ((cs.drop 4).take (Tryz.prog.cellsOf 22)) = xs[4]? := hf 4 _ rfl
 have h5 : DataW.trod enc Tryz.prog w base spare held m 4 ((cs.drop 5).take (Tryz.prog.cellsOf 4)) = xs[5]? := hf 5 _ rfl
 rw [hC] at hlen
 rw [show Tryz.prog.cellsOf 36 = 1 by kernel_rfl] at h0
 rw [show Tryz.prog.cellsOf 4 = 1 by kernel_rfl] at h1 h5
 rw [show Tryz.prog.cellsOf 9 = 1 by kernel_rfl] at h2
 rw [show Tryz.prog.cellsOf 33 = 1 by kernel_rfl] at h3
 rw [show Tryz.prog.cellsOf 22 = 1 by kernel_rfl] at h4
 match cs, hlen with
 | [c0, c1, c2, c3, c4, c5], _ =>
  match xs, hxl with
  | [y0, y1, y2, y3, y4, y5], _ =>
   obtain ⟨a, e0, _, _⟩ := DataW.trod_int Tryz.underlying36 h0
   obtain ⟨b, e1, _⟩ := DataW.trod_bool Tryz.underlying4 h1
   obtain ⟨s, e2, _, ws⟩ := DataW.trod_string Tryz.underlying9 h2
   obtain ⟨A, c, k, f, e3, hrow, hk, _⟩ := dec_its _ _ _ h3
   obtain ⟨kk, e4, _, _⟩ := DataW.trod_int Tryz.underlying22 h4
   obtain ⟨mo, e5, _⟩ := DataW.trod_bool Tryz.underlying4 h5
   simp only [List.drop_zero, List.drop_succ_cons, List.take_succ_cons, List.take_zero, List.cons.injEq, and_true] at e0 e1 e2 e3 e4 e5
   subst e0; subst e1; subst e2; subst e3; subst e4; subst e5
   exact ⟨⟨a, b, s, A, k, c, f, kk, mo⟩, rfl, .int (.bool (.cons rfl (.str _ ws) (.cons rfl hrow (.int (.bool .nil)))))⟩
theorem dec_wnt (n : Nat) (cs : List Value) (y : DataW H × List MemPlace) (h : DataW.trod enc Tryz.prog w base spare held n 40 cs = some y) : ∃ x : WntA, cs = (wntC x).map AV.den ∧ WntWf w x := by
 obtain ⟨xs, m, rfl, rfl, hlen, hxl, hf⟩ := DataW.trod_struct Tryz.underlying40 h
 have hC : Tryz.prog.cellsOf 40 = 15 := by kernel_rfl
 have h0 : DataW.trod enc Tryz.prog w base spare held m 3 ((cs.drop 0).take (Tryz.prog.cellsOf 3)) = xs[0]? := hf 0 _ rfl
 have h1 : DataW.trod enc Tryz.prog w base spare held m 24 ((cs.drop 1).take (Tryz.prog.cellsOf 24)) = xs[1]? := hf 1 _ rfl
 have h2 : DataW.trod enc Tryz.prog w base spare held m 22 ((cs.drop 3).take (Tryz.prog.cellsOf 22)) = xs[2]? := hf 2 _ rfl
 have h3 : DataW.trod enc Tryz.prog w base spare held m 35 ((cs.drop 4).take (Tryz.prog.cellsOf 35)) = xs[3]? := hf 3 _ rfl
 have h4 : DataW.trod enc Tryz.prog w base spare held m 38 ((cs.drop 9).take (Tryz.prog.cellsOf 38)) = xs[4]? := hf 4 _ rfl
 rw [hC] at hlen
 rw [show Tryz.prog.cellsOf 3 = 1 by kernel_rfl] at h0
 rw [show Tryz.prog.cellsOf 24 = 2 by kernel_rfl] at h1
 rw [show Tryz.prog.cellsOf 22 = 1 by kernel_rfl] at h2
 rw [show Tryz.prog.cellsOf 35 = 5 by kernel_rfl] at h3
 rw [show Tryz.prog.cellsOf 38 = 6 by kernel_rfl] at h4
 match cs, hlen with
 | [c0, c1, c2, c3, c4, c5, c6, c7, c8, c9, c10, c11, c12, c13, c14], _ =>
  match xs, hxl with
  | [y0, y1, y2, y3, y4], _ =>
   obtain ⟨k, e0, _, _⟩ := DataW.trod_int Tryz.underlying3 h0
   obtain ⟨l, e1, hl⟩ := dec_labk _ _ _ h1
   obtain ⟨v, e2, _, wv⟩ := DataW.trod_int Tryz.underlying22 h2
   obtain ⟨x, e3, hx, hn, hnx, hky⟩ := dec_recx _ _ _ h3
   obtain ⟨s, e4, hs⟩ := dec_res _ _ _ h4
   simp only [List.drop_zero, List.drop_succ_cons, List.take_succ_cons, List.take_zero, List.cons.injEq, and_true, recC, resC, List.map_cons, List.map_nil] at e0 e1 e2 e3 e4
   obtain ⟨e1, e5⟩ := e1
   obtain ⟨e6, e7, e8, e9, e10⟩ := e3
   obtain ⟨e11, e12, e13, e14, e15, e16⟩ := e4
   subst e0; subst e1; subst e2; subst e5; subst e6; subst e7; subst e8; subst e9; subst e10; subst e11; subst e12; subst e13; subst e14; subst e15; subst e16
   exact ⟨⟨k, l, v, x, s⟩, rfl, .int (.int (.int (.int (hx.append hs)))), hn, hl, hnx, hky⟩
variable {r : Reach} {b0 : Nat} {v : Value} {d : DataW H} {p : List MemPlace}
def InWnts (w : World) (v : Value) : Prop := ∃ (A : Option Addr) (n c : Nat) (f : Nat → WntA), v = (wntsV A n c f).den ∧ Ok m0 w (wntsV A n c f) ∧ n ≤ maxLen ∧ ∀ i, i < n → WntWf w (f i)
instance inhWnt25 : Inhabited WntA := ⟨⟨0, ⟨0, 0⟩, 0, zRA, ⟨0, false, .empty, none, 0, 0, fun _ => zeroItm, 0, false⟩⟩⟩
theorem in_wnts (hv : Value.okWide Tryz.prog w r b0 47 v) (h : DataW.Trod enc Tryz.prog w base spare held 47 v d p) : InWnts w v := by
 obtain ⟨a, len, cap, rfl⟩ := okWide_slice Tryz.underlying47 hv
 obtain ⟨fuel, hf⟩ := h
 obtain ⟨A, c, l, e1, hr, hl, hm, hwf⟩ := trod_list (en := fun x => (wntC x).map AV.den) (wf := WntWf w) Tryz.underlying47 (k := 15) (by kernel_rfl) (fun _ => rfl) (by decide) dec_wnt hf
 simp only [Value.cells, List.cons.injEq, and_true] at e1
 rw [e1]
 refine ⟨A, l.length, c, fun i => l.getD i default, rfl, rows_okg (fun _ => rfl) hl hm (fun x hx => (hwf x hx).1) (fun hp => ?_) (by decide), by omega, fun i hi => ?_⟩
 ·obtain ⟨b, off, hA, _, hc⟩ := hr hp
  exact ⟨b, off, hA, fun j u hu => hc j u hu⟩
 have : l.getD i default = l[i] := by simp [List.getD, hi]
 simp only [this]; exact hwf _ (List.getElem_mem hi)
end
end Go.Proofs.YtphmfjhmdajlmaaGreat.Sym
namespace Go.Proofs.YtphmfjhmdajlmaaGreat.Sym
open Go Go.RowKit
def ofE (n : Int) : Int := if n < 0 ∨ 64 < n then 1 else 0
def ofV (key n : Int) : Lab := if n < 0 ∨ 64 < n then ⟨0, 0⟩ else ⟨n, (headN key.toNat n.toNat : Nat)⟩
theorem ofV_u {key : Int} (hk : U64 key) (n : Int) : U64 (ofV key n).bits := by
 unfold ofV
 split
 ·exact ⟨by decide, by decide⟩
 exact headN_u hk _
theorem ofV_isL {key : Int} (n : Int) : isL (ofV key n) = true := by
 unfold ofV
 split
 ·decide
 rename_i h
 rw [isL_iff]
 refine ⟨⟨by show 0 ≤ n; omega, by show n ≤ 64; omega⟩, ?_⟩
 show ((headN ((headN key.toNat n.toNat : Nat) : Int).toNat n.toNat : Nat) : Int) = _
 rw [Int.toNat_natCast, headN_head]
abbrev rootL : Lab := ⟨0, 0⟩
structure Spt where
 lab : Lab
 g : GotA
def leafR : Rec := ⟨1, [], noneL, 0⟩
def linM (bk k key : Int) : Nat → Lab → Pst → Rs Spt
 | 0, _, p => .stop zWq p
 | n + 1, l, p => (getM k l p).bind fun g p =>
   if gk g 1 = true then .ok ⟨l, g⟩ p
   else if (gk g 3 || gk g 4) = true then (fnsM bk k n l g p).bind fun _ p => linM bk k key n l p
   else if (gk g 2 && decide (l.len < 64)) = true then linM bk k key n (ofV key (l.len + 1)) p
   else if gk g 5 = true then (thwM bk k n l p).bind fun _ p => linM bk k key n rootL p
   else if (!g.has && decide (l = rootL)) = true then (casM k rootL g.ver leafR p).bind fun _ p => linM bk k key n rootL p
   else linM bk k key n rootL p
def lftM (bk k : Int) (n : Nat) (l : Lab) (p : Pst) : Rs Bool :=
 if parE l = 0 then (getM k (parV l) p).bind fun q p => if (gk q 2 || gk q 3 || gk q 4) = true then (thwM bk k n l p).bind fun _ p => .ok false p else .ok true p else .ok true p
def binM (bk k key : Int) : Nat → Int → Int → Pst → Rs Spt
 | 0, _, _, p => .stop zWq p
 | n + 1, lo, hi, p =>
   if lo ≤ hi then (getM k (ofV key ((lo + hi) / 2)) p).bind fun g p =>
    if gk g 1 = true then .ok ⟨ofV key ((lo + hi) / 2), g⟩ p
    else if gk g 2 = true then binM bk k key n ((lo + hi) / 2 + 1) hi p
    else if (gk g 3 || gk g 4) = true then (fnsM bk k n (ofV key ((lo + hi) / 2)) g p).bind fun _ p => binM bk k key n lo hi p
    else if gk g 5 = true then (lftM bk k n (ofV key ((lo + hi) / 2)) p).bind fun b p => if b = true then binM bk k key n lo ((lo + hi) / 2 - 1) p else binM bk k key n lo hi p
    else binM bk k key n lo ((lo + hi) / 2 - 1) p
   else linM bk k key (n + 1) rootL p
def sekM (bk k how key : Int) (n : Nat) (p : Pst) : Rs Spt := if how = 1 then linM bk k key n rootL p else binM bk k key n 0 64 p
def finI (x : RA) (key : Int) : Int := idxF (fun t => decide ((x.r.f t).key = key)) x.r.n
def finB (x : RA) (key : Int) : Bool := decide (0 ≤ finI x key)
def finV (x : RA) (key : Int) : ByteArray := if 0 ≤ finI x key then (x.r.f (finI x key).toNat).val else ⟨#[]⟩
def lokM (bk k how key : Int) (n : Nat) (p : Pst) : Rs Rsl := (sekM bk k how key n p).bind fun s p => .ok ⟨0, finB s.g.x key, finV s.g.x key, [], 0, false⟩ p
theorem fro_lin (bk k key : Int) : ∀ n l p, Fro p (linM bk k key n l p)
 | 0, l, p => fro_stop _ _
 | n + 1, l, p => (fro_get _ _ _).bind fun _ _ _ => fro_ite (fro_ok _ _) (fro_ite ((fro_fns _ _ _ _ _ _).bind fun _ _ _ => fro_lin bk k key n _ _) (fro_ite (fro_lin bk k key n _ _) (fro_ite ((fro_thw _ _ _ _ _).bind fun _ _ _ => fro_lin bk k key n _ _) (fro_ite ((fro_cas _ _ _ _ _).bind fun _ _ _ => fro_lin bk k key n _ _) (fro_lin bk k key n _ _)))))
theorem fro_lft (bk k : Int) (n : Nat) (l : Lab) (p : Pst) : Fro p (lftM bk k n l p) :=
 fro_ite ((fro_get _ _ _).bind fun _ _ _ => fro_ite ((fro_thw _ _ _ _ _).bind fun _ _ _ => fro_ok _ _) (fro_ok _ _)) (fro_ok _ _)
theorem fro_bin (bk k key : Int) : ∀ n lo hi p, Fro p (binM bk k key n lo hi p)
 | 0, lo, hi, p => fro_stop _ _
 | n + 1, lo, hi, p => fro_ite ((fro_get _ _ _).bind fun _ _ _ => fro_ite (fro_ok _ _) (fro_ite (fro_bin bk k key n _ _ _) (fro_ite ((fro_fns _ _ _ _ _ _).bind fun _ _ _ => fro_bin bk k key n _ _ _) (fro_ite ((fro_lft _ _ _ _ _).bind fun _ _ _ => fro_ite (fro_bin bk k key n _ _ _) (fro_bin bk k key n _ _ _)) (fro_bin bk k key n _ _ _))))) (fro_lin _ _ _ _ _ _)
theorem fro_sek (bk k how key : Int) (n : Nat) (p : Pst) : Fro p (sekM bk k how key n p) := fro_ite (fro_lin _ _ _ _ _ _) (fro_bin _ _ _ _ _ _ _)
structure SptOk (s : Spt) : Prop where
 ok : GotOk s.g
 r : GotR s.g
 leaf : gk s.g 1 = true
 lab : isL s.lab = true ∧ U64 s.lab.bits
theorem lin_ok {bk k key : Int} (hk : U64 key) : ∀ {n : Nat} {l : Lab} {p q : Pst} {s : Spt}, PstOk p → (isL l = true ∧ U64 l.bits) → linM bk k key n l p = .ok s q → SptOk s
 | 0, l, p, q, s, _, _, h => by cases h
 | n + 1, l, p, q, s, hp, hl, h => by
  have hz : isL rootL = true ∧ U64 rootL.bits := ⟨by decide, by decide, by decide⟩
  unfold linM at h
  cases h1 : getM k l p with
  | stop w p1 => rw [h1] at h; cases h
  | ok g p1 =>
   rw [h1] at h
   have hp1 := hp.suf ((fro_get k l p).of h1)
   simp only [Rs.bind] at h
   split at h
   ·rename_i hg
    injection h with h _
    subst h
    exact ⟨hp.get h1, hp.getR h1, hg, hl⟩
   split at h
   ·cases h2 : fnsM bk k n l g p1 with
    | stop w p2 => rw [h2] at h; cases h
    | ok u p2 => rw [h2] at h; exact lin_ok hk (hp1.suf ((fro_fns _ _ _ _ _ _).of h2)) hl h
   split at h
   ·exact lin_ok hk hp1 ⟨ofV_isL _, ofV_u hk _⟩ h
   split at h
   ·cases h2 : thwM bk k n l p1 with
    | stop w p2 => rw [h2] at h; cases h
    | ok u p2 => rw [h2] at h; exact lin_ok hk (hp1.suf ((fro_thw _ _ _ _ _).of h2)) hz h
   split at h
   ·cases h2 : casM k rootL g.ver leafR p1 with
    | stop w p2 => rw [h2] at h; cases h
    | ok u p2 => rw [h2] at h; exact lin_ok hk (hp1.suf ((fro_cas _ _ _ _ _).of h2)) hz h
   exact lin_ok hk hp1 hz h
theorem bin_ok {bk k key : Int} (hk : U64 key) : ∀ {n : Nat} {lo hi : Int} {p q : Pst} {s : Spt}, PstOk p → binM bk k key n lo hi p = .ok s q → SptOk s
 | 0, lo, hi, p, q, s, _, h => by cases h
 | n + 1, lo, hi, p, q, s, hp, h => by
  unfold binM at h
  split at h
  ·cases h1 : getM k (ofV key ((lo + hi) / 2)) p with
   | stop w p1 => rw [h1] at h; cases h
   | ok g p1 =>
    rw [h1] at h
    have hp1 := hp.suf ((fro_get _ _ _).of h1)
    simp only [Rs.bind] at h
    split at h
    ·rename_i hg
     injection h with h _
     subst h
     exact ⟨hp.get h1, hp.getR h1, hg, ofV_isL _, ofV_u hk _⟩
    split at h
    ·exact bin_ok hk hp1 h
    split at h
    ·cases h2 : fnsM bk k n (ofV key ((lo + hi) / 2)) g p1 with
     | stop w p2 => rw [h2] at h; cases h
     | ok u p2 => rw [h2] at h; exact bin_ok hk (hp1.suf ((fro_fns _ _ _ _ _ _).of h2)) h
    split at h
    ·cases h2 : lftM bk k n (ofV key ((lo + hi) / 2)) p1 with
     | stop w p2 => rw [h2] at h; cases h
     | ok u p2 =>
      rw [h2] at h
      have hp2 := hp1.suf ((fro_lft _ _ _ _ _).of h2)
      simp only [Rs.bind] at h
      split at h
      ·exact bin_ok hk hp2 h
      exact bin_ok hk hp2 h
    exact bin_ok hk hp1 h
  exact lin_ok hk hp ⟨by decide, by decide, by decide⟩ h
theorem sek_ok {bk k how key : Int} (hk : U64 key) {n : Nat} {p q : Pst} {s : Spt} (hp : PstOk p) (h : sekM bk k how key n p = .ok s q) : SptOk s := by
 unfold sekM at h
 split at h
 ·exact lin_ok hk hp ⟨by decide, by decide, by decide⟩ h
 exact bin_ok hk hp h
def RA.er (x : RA) : RA := ⟨none, 0, x.r⟩
def GotA.er (g : GotA) : GotA := ⟨g.code, g.ver, g.has, g.x.er⟩
def Pst.er (p : Pst) : Pst := ⟨p.n, fun j => (p.g j).er, p.note⟩
def Rs.er {α : Type} (e : α → α) : Rs α → Rs α
 | .ok a p => .ok (e a) p.er
 | .stop w p => .stop w p.er
def Fz.er : Fz → Fz
 | .over => .over
 | .unfit => .unfit
 | .fr x => .fr x.er
def Spt.er (s : Spt) : Spt := ⟨s.lab, s.g.er⟩
section
variable {α β : Type} {e : α → α} {e2 : β → β}
theorem er_bind {m m' : Rs α} {f f' : α → Pst → Rs β} (h : m.er e = m') (hf : ∀ a q, (f a q).er e2 = f' (e a) q.er) : (m.bind f).er e2 = m'.bind f' := by
 subst h
 cases m with
 | ok a p => exact hf a p
 | stop w p => rfl
theorem er_ite {c : Prop} [Decidable c] {x y x' y' : Rs α} (hx : x.er e = x') (hy : y.er e = y') : (if c then x else y).er e = if c then x' else y' := by
 split <;> assumption
end
theorem er_ask (k : Int) (w : Wq) (p : Pst) : (askM k w p).er GotA.er = askM k w p.er := by
 unfold askM
 by_cases h : 0 < p.n ∧ 0 < (p.n : Int) + k
 ·rw [if_pos h, if_pos (show 0 < p.er.n ∧ 0 < (p.er.n : Int) + k from h)]; rfl
 rw [if_neg h, if_neg (show ¬ (0 < p.er.n ∧ 0 < (p.er.n : Int) + k) from h)]; rfl
theorem er_get (k : Int) (l : Lab) (p : Pst) : (getM k l p).er GotA.er = getM k l p.er := er_ask _ _ _
theorem er_cas (k : Int) (l : Lab) (v : Int) (r : Rec) (p : Pst) : (casM k l v r p).er id = casM k l v r p.er := er_bind (er_ask _ _ _) fun _ _ => rfl
theorem er_del (k : Int) (l : Lab) (v : Int) (p : Pst) : (drpM k l v p).er id = drpM k l v p.er := er_bind (er_ask _ _ _) fun _ _ => rfl
theorem er_splC (k : Int) (l : Lab) (v : Int) (c : Lab) (x : Rec) : ∀ n p, (splC k l v c x n p).er id = splC k l v c x n p.er
 | 0, p => rfl
 | n + 1, p => er_bind (er_get _ _ _) fun _ _ => er_ite rfl (er_bind (er_get _ _ _) fun _ _ => er_ite (er_bind (er_cas _ _ _ _ _) fun _ _ => er_ite rfl (er_splC k l v c x n _)) rfl)
theorem er_split (k : Int) (n : Nat) (l : Lab) (v : Int) (x : RA) (p : Pst) : (splitM k n l v x p).er id = splitM k n l v x.er p.er :=
 er_ite (er_bind (er_splC _ _ _ _ _ _ _) fun _ _ => er_ite (er_bind (er_splC _ _ _ _ _ _ _) fun _ _ => er_ite (er_bind (er_cas _ _ _ _ _) fun _ _ => rfl) rfl) rfl) rfl
theorem er_frz (k : Int) (l : Lab) (v : Int) (c : Lab) : ∀ n p, (frzM k l v c n p).er Fz.er = frzM k l v c n p.er
 | 0, p => rfl
 | n + 1, p => er_bind (er_get _ _ _) fun _ _ => er_ite (er_ite rfl (er_bind (er_get _ _ _) fun _ _ => er_ite (er_bind (er_cas _ _ _ _ _) fun _ _ => er_ite rfl (er_frz k l v c n _)) rfl)) rfl
theorem er_clnC (k : Int) (l : Lab) (cl : Lab → Pst → Rs Unit) (h : ∀ c p, (cl c p).er id = cl c p.er) (c : Lab) (p : Pst) : (clnC k l cl c p).er id = clnC k l cl c p.er :=
 er_bind (er_get _ _ _) fun _ _ => er_ite (er_bind (h _ _) fun _ _ => er_bind (er_get _ _ _) fun _ _ => er_ite (er_bind (er_del _ _ _ _) fun _ _ => rfl) rfl) rfl
theorem er_cln (k : Int) : ∀ n l p, (clnM k n l p).er id = clnM k n l p.er
 | 0, l, p => rfl
 | n + 1, l, p => er_ite rfl (er_bind (er_clnC _ _ _ (er_cln k n) _ _) fun _ _ => er_ite (er_bind (er_clnC _ _ _ (er_cln k n) _ _) fun _ _ => rfl) rfl)
theorem er_bck (k : Int) (th : Lab → Pst → Rs Unit) (h : ∀ c p, (th c p).er id = th c p.er) (l : Lab) (v : Int) (p : Pst) : (bckM k th l v p).er id = bckM k th l v p.er :=
 er_bind (er_cas _ _ _ _ _) fun _ _ => er_ite (er_bind (h _ _) fun _ _ => h _ _) rfl
theorem er_mrg (bk k : Int) (n : Nat) (th : Lab → Pst → Rs Unit) (h : ∀ c p, (th c p).er id = th c p.er) (l : Lab) (v : Int) (p : Pst) : (mrgM bk k n th l v p).er id = mrgM bk k n th l v p.er :=
 er_bind (er_frz _ _ _ _ _ _) fun a _ => match a with
  | .over => rfl
  | .unfit => er_bck _ _ h _ _ _
  | .fr a => er_bind (er_frz _ _ _ _ _ _) fun b _ => match b with
   | .over => rfl
   | .unfit => er_bck _ _ h _ _ _
   | .fr b => er_ite (er_bind (er_cas _ _ _ _ _) fun _ _ => er_ite (er_cln _ _ _ _) rfl) (er_bck _ _ h _ _ _)
theorem er_fin (bk k : Int) (n : Nat) (th : Lab → Pst → Rs Unit) (h : ∀ c p, (th c p).er id = th c p.er) (l : Lab) (g : GotA) (p : Pst) : (finM bk k n th l g p).er id = finM bk k n th l g.er p.er :=
 er_ite (er_split _ _ _ _ _ _) (er_ite (er_mrg _ _ _ _ h _ _ _) rfl)
theorem er_thwL (bk k : Int) : ∀ n l up p, (thwL bk k n l up p).er id = thwL bk k n l up p.er
 | 0, l, up, p => rfl
 | n + 1, l, up, p => by
  unfold thwL
  refine er_bind (er_get _ _ _) fun g q => er_ite (er_bind (er_get _ _ _) fun q2 p2 => ?_) rfl
  have H := er_fin bk k n (fun c p => if parE c = 0 then thwL bk k n c (parV c) p else .ok () p) (fun c p => er_ite (er_thwL bk k n c (parV c) p) rfl) up q2 p2
  refine er_bind (e := id) (er_ite H rfl) fun _ p3 => ?_
  exact er_ite (er_bind (er_cas _ _ _ _ _) fun _ _ => er_ite rfl (er_thwL bk k n _ _ _)) rfl
theorem er_thw (bk k : Int) (n : Nat) (l : Lab) (p : Pst) : (thwM bk k n l p).er id = thwM bk k n l p.er := er_ite (er_thwL _ _ _ _ _ _) rfl
theorem er_fns (bk k : Int) (n : Nat) (l : Lab) (g : GotA) (p : Pst) : (fnsM bk k n l g p).er id = fnsM bk k n l g.er p.er := er_fin _ _ _ _ (er_thw _ _ _) _ _ _
theorem er_lin (bk k key : Int) : ∀ n l p, (linM bk k key n l p).er Spt.er = linM bk k key n l p.er
 | 0, l, p => rfl
 | n + 1, l, p => er_bind (er_get _ _ _) fun _ _ => er_ite rfl (er_ite (er_bind (er_fns _ _ _ _ _ _) fun _ _ => er_lin bk k key n _ _) (er_ite (er_lin bk k key n _ _) (er_ite (er_bind (er_thw _ _ _ _ _) fun _ _ => er_lin bk k key n _ _) (er_ite (er_bind (er_cas _ _ _ _ _) fun _ _ => er_lin bk k key n _ _) (er_lin bk k key n _ _)))))
theorem er_lft (bk k : Int) (n : Nat) (l : Lab) (p : Pst) : (lftM bk k n l p).er id = lftM bk k n l p.er :=
 er_ite (er_bind (er_get _ _ _) fun _ _ => er_ite (er_bind (er_thw _ _ _ _ _) fun _ _ => rfl) rfl) rfl
theorem er_bin (bk k key : Int) : ∀ n lo hi p, (binM bk k key n lo hi p).er Spt.er = binM bk k key n lo hi p.er
 | 0, lo, hi, p => rfl
 | n + 1, lo, hi, p => er_ite (er_bind (er_get _ _ _) fun _ _ => er_ite rfl (er_ite (er_bin bk k key n _ _ _) (er_ite (er_bind (er_fns _ _ _ _ _ _) fun _ _ => er_bin bk k key n _ _ _) (er_ite (er_bind (er_lft _ _ _ _ _) fun _ _ => er_ite (er_bin bk k key n _ _ _) (er_bin bk k key n _ _ _)) (er_bin bk k key n _ _ _))))) (er_lin _ _ _ _ _ _)
theorem er_sek (bk k how key : Int) (n : Nat) (p : Pst) : (sekM bk k how key n p).er Spt.er = sekM bk k how key n p.er := er_ite (er_lin _ _ _ _ _ _) (er_bin _ _ _ _ _ _ _)
theorem er_lok (bk k how key : Int) (n : Nat) (p : Pst) : (lokM bk k how key n p).er id = lokM bk k how key n p.er := er_bind (er_sek _ _ _ _ _ _) fun _ _ => rfl
theorem told_er (r : Rs Rsl) : toldM (r.er id) = toldM r := by cases r <;> rfl
structure RecOk (r : Rec) : Prop where
 nx : U64 r.next.bits
 few : r.items.length ≤ 16
 key : ∀ x ∈ r.items, U64 x.key
structure WqOk (w : Wq) : Prop where
 lab : LOk w.lab
 r : RecOk w.r
def WOkR {α : Type} (r : Rs α) : Prop := match r with
 | .ok _ _ => True
 | .stop w _ => WqOk w
theorem rec_z : RecOk zeroRec := ⟨⟨by decide, by decide⟩, by decide, fun x hx => by cases hx⟩
theorem rec_in : RecOk innerR := ⟨⟨by decide, by decide⟩, by decide, fun x hx => by cases hx⟩
theorem RaOk.ro {x : RA} (h : RaOk x) : RecOk x.r.abs := by
 refine ⟨h.nx, ?_, fun y hy => ?_⟩
 ·show (firsts x.r.f x.r.n).length ≤ 16
  rw [firsts_len]; exact h.few
 obtain ⟨i, hi, rfl⟩ := List.mem_map.1 hy
 exact h.key i (List.mem_range.1 hi)
theorem wok_z : WqOk zWq := ⟨lok_z, rec_z⟩
theorem wok_bind {α β : Type} {m : Rs α} {f : α → Pst → Rs β} (h : WOkR m) (hf : ∀ a q, m = .ok a q → WOkR (f a q)) : WOkR (m.bind f) := by
 cases m with
 | ok a q => exact hf a q rfl
 | stop w q => exact h
theorem wok_ite {α : Type} {c : Prop} [Decidable c] {x y : Rs α} (hx : c → WOkR x) (hy : ¬ c → WOkR y) : WOkR (if c then x else y) := by
 by_cases h : c
 ·rw [if_pos h]; exact hx h
 rw [if_neg h]; exact hy h
theorem wok_ask {k : Int} {w : Wq} {p : Pst} (h : WqOk w) : WOkR (askM k w p) := by
 unfold askM
 refine wok_ite (fun _ => trivial) (fun _ => ?_)
 show WqOk _
 split
 ·exact ⟨lok_z, rec_z⟩
 exact h
theorem wok_get {k : Int} {l : Lab} {p : Pst} (h : LOk l) : WOkR (getM k l p) := wok_ask ⟨h, rec_z⟩
theorem wok_cas {k : Int} {l : Lab} {v : Int} {r : Rec} {p : Pst} (h : LOk l) (hr : RecOk r) : WOkR (casM k l v r p) := wok_bind (wok_ask ⟨h, hr⟩) fun _ _ _ => trivial
theorem wok_del {k : Int} {l : Lab} {v : Int} {p : Pst} (h : LOk l) : WOkR (drpM k l v p) := wok_bind (wok_ask ⟨h, rec_z⟩) fun _ _ _ => trivial
theorem wok_splC {k : Int} {l : Lab} {v : Int} {c : Lab} {x : Rec} (hl : LOk l) (hc : LOk c) (hx : RecOk x) : ∀ n p, WOkR (splC k l v c x n p)
 | 0, p => wok_z
 | n + 1, p => by
  unfold splC
  refine wok_bind (wok_get hc) fun g p1 _ => wok_ite (fun _ => trivial) fun _ => wok_bind (wok_get hl) fun q p2 _ => wok_ite (fun _ => ?_) fun _ => trivial
  exact wok_bind (wok_cas hc hx) fun d p3 _ => wok_ite (fun _ => trivial) fun _ => wok_splC hl hc hx n p3
theorem cov_sub {l : Lab} {its : List Itm} {x : Itm} (h : x ∈ covL l its) : x ∈ its := (List.mem_filter.1 h).1
theorem cov_le (l : Lab) (its : List Itm) : (covL l its).length ≤ its.length := List.length_filter_le _ _
theorem halv_ok {x : RA} {l : Lab} (h : RaOk x) (hl : LOk l) : RecOk (halvA x l).1 ∧ RecOk (halvA x l).2.1 := by
 have hr := h.ro
 unfold halvA halvR
 split
 ·exact ⟨rec_z, rec_z⟩
 split
 ·exact ⟨rec_z, rec_z⟩
 split
 ·exact ⟨rec_z, rec_z⟩
 rename_i h64
 refine ⟨⟨child_u hl.isl hl.u h64 1, Nat.le_trans (cov_le _ _) hr.few, fun y hy => hr.key y (cov_sub hy)⟩, ⟨h.nx, Nat.le_trans (cov_le _ _) hr.few, fun y hy => hr.key y (cov_sub hy)⟩⟩
theorem uni_ok {x y : RA} (h : RaOk x) (h' : RaOk y) : RecOk (uniA x y).1 := by
 have hr := h.ro
 have hr' := h'.ro
 unfold uniA uniR
 split
 ·exact rec_z
 split
 ·exact rec_z
 split
 ·exact rec_z
 split
 ·exact rec_z
 rename_i h16
 refine ⟨h'.nx, ?_, fun z hz => ?_⟩
 ·show (firsts x.r.f x.r.n ++ firsts y.r.f y.r.n).length ≤ 16
  rw [List.length_append, firsts_len, firsts_len]; omega
 rcases List.mem_append.1 hz with hz | hz
 ·exact hr.key z hz
 exact hr'.key z hz
theorem wok_split {k : Int} {n : Nat} {l : Lab} {v : Int} {x : RA} {p : Pst} (hl : LOk l) (hx : RaOk x) : WOkR (splitM k n l v x p) := by
 unfold splitM
 refine wok_ite (fun _ => ?_) fun _ => trivial
 refine wok_bind (wok_splC hl (hl.ch 0) (halv_ok hx hl).1 n p) fun go p1 _ => wok_ite (fun _ => ?_) fun _ => trivial
 refine wok_bind (wok_splC hl (hl.ch 1) (halv_ok hx hl).2 n p1) fun go p2 _ => wok_ite (fun _ => ?_) fun _ => trivial
 exact wok_bind (wok_cas hl rec_in) fun _ _ _ => trivial
theorem wok_frz {k : Int} {l : Lab} {v : Int} {c : Lab} (hl : LOk l) (hc : LOk c) : ∀ n p, PstOk p → WOkR (frzM k l v c n p)
 | 0, p, _ => wok_z
 | n + 1, p, hp => by
  unfold frzM
  refine wok_bind (wok_get hc) fun g p1 e1 => wok_ite (fun _ => wok_ite (fun _ => trivial) fun _ => ?_) fun _ => trivial
  have hp1 := hp.suf ((fro_get k c p).of e1)
  refine wok_bind (wok_get hl) fun q p2 e2 => wok_ite (fun _ => ?_) fun _ => trivial
  have hp2 := hp1.suf ((fro_get k l p1).of e2)
  refine wok_bind (wok_cas hc ((hp.get e1).ra.as 5 v).ro) fun d p3 e3 => wok_ite (fun _ => trivial) fun _ => ?_
  exact wok_frz hl hc n p3 (hp2.suf ((fro_cas _ _ _ _ _).of e3))
theorem wok_clnC {k : Int} {l : Lab} {cl : Lab → Pst → Rs Unit} {c : Lab} (hl : LOk l) (hc : LOk c) (hcl : ∀ c p, LOk c → WOkR (cl c p)) (p : Pst) : WOkR (clnC k l cl c p) := by
 unfold clnC
 refine wok_bind (wok_get hc) fun g p1 _ => wok_ite (fun _ => ?_) fun _ => trivial
 refine wok_bind (hcl c p1 hc) fun _ p2 _ => wok_bind (wok_get hl) fun q p3 _ => wok_ite (fun _ => ?_) fun _ => trivial
 exact wok_bind (wok_del hc) fun _ _ _ => trivial
theorem wok_cln {k : Int} : ∀ (n : Nat) (l : Lab) (p : Pst), LOk l → WOkR (clnM k n l p)
 | 0, l, p, _ => wok_z
 | n + 1, l, p, hl => by
  unfold clnM
  refine wok_ite (fun _ => trivial) fun _ => wok_bind (wok_clnC hl (hl.ch 0) (fun c p hc => wok_cln n c p hc) p) fun go p1 _ => wok_ite (fun _ => ?_) fun _ => trivial
  exact wok_bind (wok_clnC hl (hl.ch 1) (fun c p hc => wok_cln n c p hc) p1) fun _ _ _ => trivial
theorem wok_bck {k : Int} {th : Lab → Pst → Rs Unit} {l : Lab} {v : Int} (hl : LOk l) (hth : ∀ c p, LOk c → PstOk p → WOkR (th c p)) (hfr : ∀ c p, Fro p (th c p)) {p : Pst} (hp : PstOk p) : WOkR (bckM k th l v p) := by
 unfold bckM
 refine wok_bind (wok_cas hl rec_in) fun d p1 e1 => wok_ite (fun _ => ?_) fun _ => trivial
 have hp1 := hp.suf ((fro_cas _ _ _ _ _).of e1)
 exact wok_bind (hth _ _ (hl.ch 0) hp1) fun _ p2 e2 => hth _ _ (hl.ch 1) (hp1.suf ((hfr _ _).of e2))
theorem wok_mrg {bk k : Int} {n : Nat} {th : Lab → Pst → Rs Unit} {l : Lab} {v : Int} (hl : LOk l) (hth : ∀ c p, LOk c → PstOk p → WOkR (th c p)) (hfr : ∀ c p, Fro p (th c p)) {p : Pst} (hp : PstOk p) : WOkR (mrgM bk k n th l v p) := by
 unfold mrgM
 refine wok_bind (wok_frz hl (hl.ch 0) n p hp) fun a p1 e1 => ?_
 have hp1 := hp.suf ((fro_frz _ _ _ _ _ _).of e1)
 cases a with
 | over => trivial
 | unfit => exact wok_bck hl hth hfr hp1
 | fr a =>
  refine wok_bind (wok_frz hl (hl.ch 1) n p1 hp1) fun b p2 e2 => ?_
  have hp2 := hp1.suf ((fro_frz _ _ _ _ _ _).of e2)
  cases b with
  | over => trivial
  | unfit => exact wok_bck hl hth hfr hp2
  | fr b =>
   refine wok_ite (fun _ => ?_) fun _ => wok_bck hl hth hfr hp2
   exact wok_bind (wok_cas hl (uni_ok (frz_ok hp e1) (frz_ok hp1 e2))) fun d p3 _ => wok_ite (fun _ => wok_cln n l p3 hl) fun _ => trivial
theorem wok_fin {bk k : Int} {n : Nat} {th : Lab → Pst → Rs Unit} {l : Lab} {g : GotA} (hl : LOk l) (hg : GotOk g) (hth : ∀ c p, LOk c → PstOk p → WOkR (th c p)) (hfr : ∀ c p, Fro p (th c p)) {p : Pst} (hp : PstOk p) : WOkR (finM bk k n th l g p) := by
 unfold finM
 exact wok_ite (fun _ => wok_split hl hg.ra) fun _ => wok_ite (fun _ => wok_mrg hl hth hfr hp) fun _ => trivial
theorem fro_thwI (bk k : Int) (n : Nat) (c : Lab) (p : Pst) : Fro p (if parE c = 0 then thwL bk k n c (parV c) p else .ok () p : Rs Unit) := fro_ite (fro_thwL _ _ _ _ _ _) (fro_ok _ _)
theorem wok_thwL {bk k : Int} : ∀ (n : Nat) (l up : Lab) (p : Pst), LOk l → LOk up → PstOk p → WOkR (thwL bk k n l up p)
 | 0, l, up, p, _, _, _ => wok_z
 | n + 1, l, up, p, hl, hu, hp => by
  unfold thwL
  refine wok_bind (wok_get hl) fun g p1 e1 => wok_ite (fun _ => ?_) fun _ => trivial
  have hp1 := hp.suf ((fro_get _ _ _).of e1)
  refine wok_bind (wok_get hu) fun q p2 e2 => ?_
  have hp2 := hp1.suf ((fro_get _ _ _).of e2)
  refine wok_bind (wok_ite (fun _ => wok_fin hu (hp1.get e2) (fun c p hc hp => show WOkR (if parE c = 0 then thwL bk k n c (parV c) p else .ok () p : Rs Unit) from wok_ite (fun _ => wok_thwL n c (parV c) p hc hc.par hp) fun _ => trivial) (fro_thwI bk k n) hp2) fun _ => trivial) fun _ p3 e3 => wok_ite (fun _ => ?_) fun _ => trivial
  have hp3 := hp2.suf (Fro.of (fro_ite (fro_fin _ _ _ _ (fro_thwI bk k n) _ _ _) (fro_ok _ _)) e3)
  refine wok_bind (wok_cas hl ((hp.get e1).ra.as 1 0).ro) fun d p4 e4 => wok_ite (fun _ => trivial) fun _ => ?_
  exact wok_thwL n l up p4 hl hu (hp3.suf ((fro_cas _ _ _ _ _).of e4))
theorem wok_thw {bk k : Int} {n : Nat} {l : Lab} {p : Pst} (hl : LOk l) (hp : PstOk p) : WOkR (thwM bk k n l p) := wok_ite (fun _ => wok_thwL n l _ p hl hl.par hp) fun _ => trivial
theorem wok_fns {bk k : Int} {n : Nat} {l : Lab} {g : GotA} {p : Pst} (hl : LOk l) (hg : GotOk g) (hp : PstOk p) : WOkR (fnsM bk k n l g p) := wok_fin hl hg (fun c p hc hp => wok_thw hc hp) (fro_thw _ _ _) hp
theorem wok_told {r : Rs Rsl} (h : WOkR r) : WqOk (toldM r).1 := by
 cases r with
 | ok a p =>
  unfold toldM
  simp only
  split
  ·exact wok_z
  exact ⟨lok_z, rec_z⟩
 | stop w p =>
  unfold toldM
  simp only
  split
  ·exact wok_z
  exact h
end Go.Proofs.YtphmfjhmdajlmaaGreat.Sym
namespace Go.Proofs.YtphmfjhmdajlmaaGreat.Sym
open Go Go.RowKit
namespace Cl
theorem etyI : ElemTy Tryz.prog 33 60 2 24 (.agg #[.int .u64 0, .string ⟨#[]⟩]) := ⟨by kernel_rfl, by kernel_rfl, rfl, by decide⟩
def itmE (x : Itm) : List Value := [.int .u64 x.key, .string x.val]
theorem itmE_len (x : Itm) : (itmE x).length = 2 := rfl
theorem rows_ok {m : Nat → Nat → Prop} {w : World} {A : Option Addr} {k : Nat} {l : List Itm} (hl : l.length ≤ k) (hk : k ≤ maxLen) (hs : ∀ x ∈ l, x.val.size ≤ maxLen)
  (h : 0 < (l.flatMap itmE).length → ∃ b off, A = some ⟨b, off, none⟩ ∧ ∀ j u, (l.flatMap itmE)[j]? = some u → w.cell? ⟨b, off + j, none⟩ = some u ∧ ¬ m b (off + j)) : Ok m w (rowI A l.length k (itF l)) := by
 have hg : ∀ i (hi : i < l.length), itF l i = l[i] := fun i hi => by simp [itF, List.getD, hi]
 have hpos : ∀ i, i < l.length → 0 < (l.flatMap itmE).length := fun i hi => by rw [flat_length itmE_len]; omega
 refine .sl _ _ _ _ _ _ hl hk (fun i _ => rfl) (fun i hi => ?_) (fun i hi j u hu => ?_) (fun i hi v hv => ?_) (fun i hi v hv => ?_)
 ·obtain ⟨b, off, hA, _⟩ := h (hpos i hi); exact ⟨b, off, hA⟩
 ·obtain ⟨b, off, hA, hc⟩ := h (hpos i hi)
  have hu' : (itmE (itF l i))[j]? = some u := hu
  rw [hg i hi] at hu'
  exact ⟨b, off, hA, hc _ u (flat_get itmE_len (List.getElem?_eq_getElem hi) hu')⟩
 ·simp only [itC, List.mem_cons, List.not_mem_nil, or_false] at hv
  rcases hv with rfl | rfl <;> rfl
 simp only [itC, List.mem_cons, List.not_mem_nil, or_false] at hv
 rcases hv with rfl | rfl
 ·exact .int _ _
 exact .str _ (by rw [hg i hi]; exact hs _ (List.getElem_mem hi))
variable {H : Type} {enc : TypeId × Value → H} {w : World} {base : Nat} {spare : Nat → Bool} {held : Bool}
theorem itmE_one (x : Itm) : ∀ v ∈ itmE x, v.oneCell' = true := by
 intro v hv
 simp only [itmE, List.mem_cons, List.not_mem_nil, or_false] at hv
 rcases hv with rfl | rfl <;> rfl
theorem rowFlat_its (l : List Itm) : rowFlat (fun i => itC (itF l i)) l.length = l.flatMap itmE := by
 have key : ∀ n, n ≤ l.length → rowFlat (fun i => itC (itF l i)) n = (l.take n).flatMap itmE := by
  intro n
  induction n with
  | zero => intro _; simp [rowFlat]
  | succ n ih =>
   intro h
   rw [rowFlat_succ, ih (by omega), List.take_succ_eq_append_getElem (by omega), List.flatMap_append]
   simp [itF, List.getD, List.getElem?_eq_getElem (show n < l.length by omega)]
   rfl
 have := key l.length (Nat.le_refl _)
 rwa [List.take_length] at this
theorem its_reads {m : Nat → Nat → Prop} {w : World} {A : Option Addr} {c : Nat} {l : List Itm} (h : Ok m w (rowI A l.length c (itF l))) : ReadsL itmE w w.heap.size A l := by
 have := row_of_ok h
 rw [rowFlat_its] at this
 exact this
theorem its_vals {m : Nat → Nat → Prop} {w : World} {A : Option Addr} {c : Nat} {l : List Itm} (h : Ok m w (rowI A l.length c (itF l))) : ∀ x ∈ l, x.val.size ≤ maxLen := by
 intro x hx
 obtain ⟨i, hi, rfl⟩ := List.mem_iff_getElem.1 hx
 cases h with
 | sl _ _ _ _ _ _ h1 h2 h3 h4 h5 h6 h7 =>
  have := h7 i hi (.str (itF l i).val) (by simp [itC])
  cases this with | str _ h => simpa [itF, List.getD, hi] using h
theorem own_its {m : Nat → Nat → Prop} {w : World} {B : Nat} {e : TypeId} {A : Option Addr} {n c : Nat} {l : List Itm} (h : OwnL itmE 2 w B e (.slice A n c) l) (hm : ∀ b o, m b o → b < B) (hs : ∀ x ∈ l, x.val.size ≤ maxLen) : Ok m w (rowI A l.length c (itF l)) := by
 obtain ⟨A', c', he, h1, h2⟩ := Own.isSlice h
 injection he with e1 e2 e3; subst e3; subst e2
 refine rows_ok h1 h2 hs fun hp => ?_
 rw [flat_length itmE_len] at hp
 obtain ⟨b, hA, hb⟩ := own_head h (by omega)
 refine ⟨b, 0, hA, fun j u hu => ⟨by rw [Nat.zero_add]; exact own_cells h hb j u hu, fun hmm => ?_⟩⟩
 have := (Own.lt h b hb).1
 have := hm _ _ hmm
 omega
theorem clone_c (w : World) (A : Option Addr) (k : Nat) (l : List Itm) (hr : ReadsL itmE w w.heap.size A l) (hl : l.length < 2147483000) :
  Calls Tryz.prog 90 #[.slice A l.length k] w fun e w' => ∃ v', e = .returned v' ∧ OwnL itmE 2 w' w.heap.size 60 v' l ∧ Below w.heap.size w w' := by
 have hq : ∀ (A : Option Addr) (n k : Nat) (w : World), (binOp .eql 33 (.slice A n k) (.slice none 0 0)).run Tryz.prog w = .ok (.bool A.isNone) w := fun A n k w => Go.Lib.run_eql_slice_nil w _ _ A n k 0 0 Tryz.underlying33
 cases A with
 | none =>
  obtain rfl : l = [] := by
   refine List.eq_nil_of_length_eq_zero (Nat.eq_zero_of_not_pos fun h => ?_)
   obtain ⟨b, off, he, _⟩ := hr.at_ (k := 2) itmE_len (by decide) h
   cases he
  clear hr
  go_enter Tryz.func90, Tryz.ntmps90
  go_wp2_with fail
  go_ret
  exact ⟨_, rfl, Own.nil _ _ _ _ _, Below.refl _ _⟩
 | some a =>
  obtain ⟨W1, hW1⟩ := eqv (w.alloc (.cells #[] 60))
  have hb1 : Below w.heap.size w W1 := by rw [hW1]; exact (Below.refl _ _).alloc (Nat.le_refl _) _
  obtain ⟨v', w', hr', hO, hG, hv⟩ := run_append_Own (P := Tryz.prog) etyI 33 (Own.nil W1 w.heap.size 60 2 (some ⟨w.heap.size, 0, none⟩)) (some a) l.length k (l.flatMap itmE) (flat_length itmE_len l) (hr.below hb1) (flat_one itmE_one l) (by simp only [maxLen]; omega) (by omega) hb1.size
  rw [Nat.zero_add, List.nil_append] at hO
  have HO : Hid (OwnL itmE 2 w' w.heap.size 60 v' l ∧ Below w.heap.size w w') := ⟨hO, hb1.grown hG hb1.size fun g hg => by simp [ownB] at hg⟩
  rw [hW1] at hr'
  clear hO hG hv hb1 hW1
  go_enter Tryz.func90, Tryz.ntmps90
  go_wp2_with (at_builtin; refine wpList_append_run hr' rfl (.tmp 5) (.tmp 6) rfl rfl rfl rfl ?_)
  go_ret
  exact ⟨_, rfl, HO.out⟩
theorem clone_s (A : Option Addr) (c : Nat) (l : List Itm) (hs : l.length < 2147483000) : Spec Tryz.prog 90 [rowI A l.length c (itF l)] (fun y => rowI (y.A 0) l.length (y.c 0) (itF l)) := by
 intro m w hm ha
 have h1 := ha (rowI A l.length c (itF l)) (by simp)
 refine (clone_c w A c l (its_reads h1) hs).mono ?_
 rintro e w' ⟨v', rfl, ho, hb⟩
 obtain ⟨A', c', rfl, _, _⟩ := Own.isSlice ho
 exact ⟨⟨0, fun _ => A', fun _ => c', fun _ => ⟨#[]⟩⟩, rfl, own_its ho hm (its_vals h1), hb⟩
theorem clone_sf (A : Option Addr) (n c : Nat) (f : Nat → Itm) (hs : n < 2147483000) : Spec Tryz.prog 90 [rowI A n c f] (fun y => rowI (y.A 0) n (y.c 0) f) := by
 have h := clone_s A c (firsts f n) (by rw [firsts_len]; exact hs)
 have e : ∀ A c, Sim (rowI A (firsts f n).length c (itF (firsts f n))) (rowI A n c f) := fun A c => Sim.resl (firsts_len f n) fun t ht => by rw [firsts_get f n t ht]
 have e' : ∀ A c, Sim (rowI A n c f) (rowI A (firsts f n).length c (itF (firsts f n))) := fun A c => Sim.resl (firsts_len f n).symm fun t ht => by rw [firsts_len] at ht; rw [firsts_get f n t ht]
 intro m w hm ha
 have h2 : Spec Tryz.prog 90 [rowI A n c f] (fun y => rowI (y.A 0) (firsts f n).length (y.c 0) (itF (firsts f n))) := h.sim ⟨e' A c, trivial⟩
 refine (h2 m w hm ha).mono ?_
 rintro en w' ⟨x, rfl, hok, hb⟩
 exact ⟨x, by rw [(e (x.A 0) (x.c 0)).1], (e (x.A 0) (x.c 0)).2.2 _ _ hok, hb⟩
end Cl
end Go.Proofs.YtphmfjhmdajlmaaGreat.Sym
namespace Go.Proofs.YtphmfjhmdajlmaaGreat.Sym
open Go Go.RowKit
theorem enters46 : Enters Tryz.prog 46 := fun _ _ => by kernel_rfl
theorem own_s (x : RA) (hn : x.r.n ≤ 1000000) : Spec Tryz.prog 46 [recV x] (fun y => recV ⟨y.A 0, y.c 0, x.r⟩) := by
 intro m w hm hargs
 have S := Cl.clone_sf x.A x.r.n x.c x.r.f (by omega)
 simp only [rowI] at S
 refine en 8 hm hargs Tryz.func46 fun B hB a0 hF => ?_
 refine wp_seq (rg hB TA_ok [1, 2] [1, 2] [] hF fun X0 a0 w1 hF => ?_)
 have O1 := S
 refine wp_seq (rg hB TA_ok [1, 2] [1, 2] [(2, .r fun y => .sl none (y.A 0) x.r.n (y.c 0) 2 (fun t => itC (x.r.f t)))] hF fun X1 a0 w1 hF => ?_)
 refine wp_seq (rg hB TA_ok [2] [2] [] hF fun X2 a0 w1 hF => ?_)
 refine wp_ret ((rsi hB TA_ok hF (⟨0, fun _ => (X1 2).A 0, fun _ => (X1 2).c 0, fun _ => ⟨#[]⟩⟩) (he := ?_)))
 subst hB
 exact zr
theorem enters18 : Enters Tryz.prog 18 := fun _ _ => by kernel_rfl
theorem new_m (A : Option Addr) (n c : Nat) (f : Nat → RowA) (hn : n ≤ maxLen) (hN : ∀ i, i < n → (f i).x.r.n ≤ 1000000 ∧ LabOk (f i).lab ∧ U64 (f i).lab.bits ∧ U64 (f i).x.r.nx.bits) : SpecM Tryz.prog 18 [rowsV A n c f] [] none noK (fun y => (match newS (rwsA f n) with | none => ⟨.tup [.nilp, .int .i64 1], [], []⟩ | some L => ⟨.tup [.ptr 14 y.b 0, .int .i64 0], [], [(14, ⟨y.b, 82, [.raw (.map (some (y.c 0))), .int .i64 0]⟩)]⟩)) (fun N y => (match newS (rwsA f n) with | none => noK | some L => shF N (y.c 0) L)) := by
 intro m w hm hargs hpre hI
 have hmx : maxLen = 9223372036854775807 := rfl
 refine enM (bo := none) 58 hm hpre hI hargs Tryz.func18 fun B hB a0 hF => ?_
 refine wp_seq (rg hB TA_ok [0] [] [] hF fun X0 a0 w1 hF => ?_)
 refine wp_seq (wp_seq (rg hB TA_ok [11, 0] [] [] hF fun X1 a0 w1 hF => ?_))
 apply test_ok hF rfl <;> intro hb hF
 ·have hbig : 2000 < n := by
   have : (2000 : Int) < (n : Int) := by subst hB; simpa [std, sC] using hb
   omega
  have hW : newS (rwsA f n) = none := by unfold newS; rw [if_pos (by rw [listA_len]; exact hbig)]
  refine wp_seq (rg hB TA_ok [2, 3] [14] [] hF fun X2 a0 w1 hF => ?_)
  refine wp_ret ((rm hB TA_ok hF (⟨0, fun _ => none, fun _ => 0, fun _ => ⟨#[]⟩⟩) [] (he := ?_) (hs := ?_) (hn := ?_) (hJ := ?_)).1)
  ·subst hB; simp only [hW]; exact zr
  ·simp only [hW]; exact trivial
  ·simp only [hW]; exact trivial
  simp only [hW]; exact fun _ _ _ => trivial
 have hbig : n ≤ 2000 := by
  have : ¬ (2000 : Int) < (n : Int) := by subst hB; simpa [std, sC] using hb
  omega
 have hS : newS (rwsA f n) = newL (rwsA f n) [] := by unfold newS; rw [if_neg (by rw [listA_len]; omega)]
 refine wp_skip (wp_seq (wp_region_lit (man_makeMap (k := 24) (e := 0) rfl rfl rfl rfl hF (Nat.le_of_ble_eq_true rfl) (shK w1.heap.size []) (fun m w' _ _ hM => ⟨_, fun _ => (none, 0), ShD.empty hM _⟩) ?_)))
 obtain ⟨bM, hbM⟩ := eqv (w1.heap.size)
 rw [← hbM]
 intro a0 w1 hfresh hF
 have hbfr : w.heap.size ≤ bM := hfresh
 refine lnd 1 hB TA_ok [4, 0] [14] [] hF fun X3 a0 w1 hF => ?_
 refine wp_seq (wp_seq (rg hB TA_ok [17, 16, 15, 4] [14] [] hF fun X4 a0 w1 hF => ?_))
 refine wp_block (loop_preK (ι := Nat × Shf) (fun p => shK bM p.2) (fun p => [(17, .int .i64 (p.1 : Int))]) (fun p => []) (fun p => []) (fun p => p.1 ≤ n ∧ p.2.length ≤ p.1 ∧ newL (rwsA f n) [] = newL ((rwsA f n).drop p.1) p.2) (fun p => n - p.1) (0, []) ⟨Nat.zero_le _, Nat.le_refl _, rfl⟩ hF ?_)
 rintro ⟨i, L⟩ ⟨hi, hk, hnew⟩ a0 w1 hF
 try dsimp only at hi
 try dsimp only at hk
 try dsimp only at hnew
 replace hF := hF.withK (K' := shK bM L) hF.kept
 refine wp_seq (rg hB TA_ok [18, 17, 16, 15, 4] [14] [] hF fun X5 a0 w1 hF => ?_)
 refine wp_seq (test_ok hF rfl (fun hb hF => ?_) (fun hb hF => ?_))
 ·have hin : i < n := by
   have : (i : Int) < (n : Int) := by subst hB; simpa [std, sC] using hb
   omega
  obtain ⟨hN1, hN2, hN3, hN4⟩ := hN i hin
  have S2 := isL_s (f i).lab hN3
  have S3 := isR_s (f i).x.A (f i).x.r.n (f i).x.c (f i).x.r.f (by omega) (f i).x.r.kd (f i).x.r.nx (f i).x.r.mrk hN4
  rw [← isR_abs] at S3
  simp only [labAV, recI, rowI] at S2 S3
  obtain ⟨il, hil⟩ := eqv (isL (f i).lab)
  obtain ⟨ir, hir⟩ := eqv (isR (f i).x.r.abs)
  rw [← hil] at S2
  rw [← hir] at S3
  have hstep := newL_step (f := f) (L := L) hin
  rw [← hil, ← hir] at hstep
  refine wp_skip (wp_seq (wp_block (wp_seq ?_)))
  refine rg hB TA_ok [6, 17, 16, 15, 4] [6, 14] [] hF (hob := by intro X; subst hB; simp only [AO, Ob.holds, BE.den] <;> and_intros <;> repeat first | trivial | rfl | exact (show (0 : Int) ≤ (i : Int) by omega) | exact (show (i : Int) < (n : Int) by omega) | exact (fun _ _ => by kernel_rfl) | refine ⟨?_, ?_⟩ | intro h | decide) fun X6 a0 w1 hF => ?_
  replace hF := hF.memS (cells' := rowC (f i)) (by subst hB; exact zl)
  obtain ⟨D, E, hSh⟩ := hF.kept
  replace hF := hF.withK (K' := shD D E bM L) hSh
  have hlab : LabOk (f i).lab := hN2
  obtain ⟨el, hel⟩ := eqv (elA (adr E L) (f i).lab (spotOf L (f i).lab))
  obtain ⟨hh, hhh⟩ := eqv ((findL (f i).lab L).isSome)
  refine wp_seq (wp_seq ?_)
  apply drawn2_okB hB 13 (some (6, [.tmp 25, .tmp 27], [.raw (.map (some bM)), .agg [.int .i64 (f i).lab.len, .int .u64 (f i).lab.bits]], .tup [.agg [.int .u64 el.w.ver, .bool (.v el.has), .int .i64 el.w.x.r.kd, .sl none el.w.x.A el.w.x.r.n el.w.x.c 2 (fun i => itC (el.w.x.r.f i)), .int .i64 el.w.x.r.nx.len, .int .u64 el.w.x.r.nx.bits, .int .u64 el.w.x.r.mrk], .bool (.v hh)])) ?hH (by kernel_rfl) TA_ok [8, 6, 17, 16, 15, 4] [6, 14] [] hF rfl
  case hH => exact hand_look hlab hel hhh (fun o h => by cases h; rfl)
  case hex => intro A X; conv => lhs; cbv
  case hD => kernel_rfl
  case hZ => kernel_rfl
  case hlen => rfl
  case hob =>
   intro X
   subst hB
   simp only [AO, Ob.holds, BE.den] <;> and_intros <;> intros <;> trivial
  case hQ =>
  intro X7 a0 w1 hF
  replace hF := hF.withK (K' := shK bM L) ⟨D, E, hF.kept⟩
  refine wpList_nil (wp_seq (rg hB TA_ok [43, 6, 17, 16, 15, 4] [6, 14] [(4, .r fun _ => .bool (.v il)), (10, .r fun _ => .bool (.v ir))] hF fun X8 a0 w1 hF => ?_))
  apply test_ok hF rfl <;> intro hb hF
  ·have h9 : (if (if hh = true then true else !il) = true then true else !ir) = true := by subst hB; exact hb
   have hW : newS (rwsA f n) = none := by
    rw [hS, hnew, hstep, ← hhh]
    cases hh <;> cases il <;> cases ir <;> first | rfl | (simp at h9)
   refine wp_seq (rg hB TA_ok [2, 3] [14] [] hF fun X9 a0 w1 hF => ?_)
   refine wp_ret ((rm hB TA_ok hF (⟨0, fun _ => none, fun _ => 0, fun _ => ⟨#[]⟩⟩) [] (he := ?_) (hs := ?_) (hn := ?_) (hJ := ?_)).1)
   ·subst hB; simp only [hW]; exact zr
   ·simp only [hW]; exact trivial
   ·simp only [hW]; exact trivial
   simp only [hW]; exact fun _ _ _ => trivial
  have h9 : (if (if hh = true then true else !il) = true then true else !ir) = false := by subst hB; exact hb
  have h10 : (hh || !il || !ir) = false := by cases hh <;> cases il <;> cases ir <;> first | rfl | (simp at h9)
  rw [← hhh, h10] at hstep
  obtain ⟨L2, hL2⟩ := eqv (putL (f i).lab ⟨(f i).ver, true, (f i).x.r.abs⟩ L)
  have hstep : newL ((rwsA f n).drop i) L = newL ((rwsA f n).drop (i + 1)) L2 := by rw [hL2]; exact hstep
  have SO := own_s (f i).x hN1
  have hL2n : L2.length ≤ i + 1 := by rw [hL2, put_len _ _ hSh.ris]; split <;> omega
  refine wp_skip ?_
  apply drawn2_okB hB 12 none ?hH (by kernel_rfl) TA_ok [47, 49, 55, 17, 16, 15, 4] [14] [(10, .r fun y => .agg [.int .i64 (f i).x.r.kd, .sl none (y.A 0) (f i).x.r.n (y.c 0) 2 (fun t => itC ((f i).x.r.f t)), .int .i64 (f i).x.r.nx.len, .int .u64 (f i).x.r.nx.bits, .int .u64 (f i).x.r.mrk])] hF rfl
  case hH => exact handOK_none
  case hex => intro A X; conv => lhs; cbv
  case hD => kernel_rfl
  case hZ => kernel_rfl
  case hlen => rfl
  case hob =>
   intro X
   subst hB
   simp only [AO, Ob.holds, BE.den] <;> (and_intros <;> repeat first | trivial | rfl | exact enters46 | exact SO | refine ⟨?_, ?_⟩ | intro h)
  case hQ =>
  intro X10 a0 w1 hF
  obtain ⟨D2, E2, hSh2⟩ := hF.kept
  refine man_mapUpdate (k := 24) (e := 84) rfl rfl rfl rfl hF rfl rfl rfl rfl rfl labK map_und' hSh2.map (by omega) (key_lab hlab) (fun h => absurd h (by omega)) (shK bM L2) (fun m w' hk hkb hv hM => ?_) ?_
  ·rw [hL2]
   refine shK_put hSh2.map hlab hk hkb (x := ⟨⟨(f i).lab, (f i).ver, ⟨(X10 10).A 0, (X10 10).c 0, (f i).x.r⟩⟩, true⟩) ?_ hv hM
   exact Sim.agg ⟨zr, Sim.tt, zr, zr, zr, zr, zr, trivial⟩
  intro w1 hF
  replace hF := hF.keep [17,16,15,4] [14]
  refine wpList_nil (rg hB TA_ok [17, 16, 15, 4] [14] [] hF fun X11 a0 w1 hF => ?_)
  have e : B.arith .add .i64 (i : Int) 1 = ((i + 1 : Nat) : Int) := by subst hB; exact wrap_succ (n := n) hin (by omega)
  refine ⟨(i + 1, L2), ⟨by simp only; omega, hL2n, hnew.trans hstep⟩, by simp only; omega, by rw [← e]; exact hF⟩
 have hout : i = n := by
  have : ¬ (i : Int) < (n : Int) := by subst hB; simpa [std, sC] using hb
  omega
 have hW : newS (rwsA f n) = some L := by rw [hS, hnew, List.drop_eq_nil_of_le (by rw [listA_len]; omega)]; rfl
 refine wp_exit (wp_seq (rg hB TA_ok [2, 3] [14] [] hF fun X12 a0 w1 hF => ?_))
 refine wp_ret ((rm hB TA_ok hF (⟨(X3 2).b, fun _ => none, fun _ => bM, fun _ => ⟨#[]⟩⟩) [14] (he := ?_) (hs := ?_) (hn := ?_) (hJ := ?_)).1)
 ·subst hB; simp only [hW]; exact zr
 ·simp only [hW]; exact trivial
 ·simp only [hW]
  exact ⟨⟨_, rfl, zl⟩, fun e he => (by cases he), (by simp), trivial⟩
 simp only [hW]; exact fun _ _ h => ⟨hbfr, h⟩
theorem enters47 : Enters Tryz.prog 47 := fun _ _ => by kernel_rfl
theorem chg_tt0 (b bM : Nat) (L : Shf) (hL : L.length ≤ 100000) (k : Int) (q : WntA) (hl : LabOk q.lab) (x z : SpA) : SpecM Tryz.prog 47 [.ptr 0 b 0, wntV q, .agg (elC x), .agg (elC z), .bool .tt] [(0, ⟨b, 82, [.raw (.map (some bM)), .int .i64 k]⟩)] (some bM) (shK bM L) (fun y => ⟨.tup [gotV (gotA y (chgL L q.lab q.ver x.w.ver true ⟨z.w.ver, z.has, z.w.x.r.abs⟩).got), .int .i64 (chgL L q.lab q.ver x.w.ver true ⟨z.w.ver, z.has, z.w.x.r.abs⟩).err], [(0, [.raw (.map (some bM)), .int .i64 (if (chgL L q.lab q.ver x.w.ver true ⟨z.w.ver, z.has, z.w.x.r.abs⟩).wrote then IntKind.i64.wrap (k + 1) else k)])], []⟩) (fun _ _ => shK bM (chgL L q.lab q.ver x.w.ver true ⟨z.w.ver, z.has, z.w.x.r.abs⟩).L) := by
 intro m w hm hargs hpre hI
 have hmx : maxLen = 9223372036854775807 := rfl
 have hmp := shK_map hI
 obtain ⟨CD, hCD⟩ := eqv ((chgL L q.lab q.ver x.w.ver true ⟨z.w.ver, z.has, z.w.x.r.abs⟩))
 rw [← hCD]
 refine enM (bo := some bM) 50 hm hpre hI hargs Tryz.func47 fun B hB a0 hF => ?_
 refine wp_seq (rg hB TA_ok [0, 4, 6, 7, 8, 10] [0, 6, 7, 8, 10] [] hF fun X0 a0 w1 hF => ?_)
 refine wp_seq (wp_block (wp_seq (rg hB TA_ok [12, 0, 4, 6, 7, 8, 10] [0, 6, 7, 8, 10] [] hF fun X1 a0 w1 hF => ?_)))
 apply test_ok hF rfl <;> intro hb hF
 ·have hv : q.ver ≠ x.w.ver := by subst hB; simpa [std, sC] using hb
  have hW : CD = ⟨L, false, ⟨8, x.w.ver, false, zeroRec⟩, 0⟩ := by rw [hCD]; unfold chgL; rw [if_pos hv]
  refine wp_seq (rg hB TA_ok [10, 11] [0, 10] [] hF fun X2 a0 w1 hF => ?_)
  refine wp_ret ((rm hB TA_ok hF (⟨0, fun _ => none, fun _ => 0, fun _ => ⟨#[]⟩⟩) [] (hmap := ?_) (he := ?_) (hs := ?_) (hJ := ?_)).1)
  ·intro b hb; cases hb; exact ⟨hmp, fun m h => shK_map h⟩
  ·subst hB; simp only [hW]
   exact Sim.tup ⟨Sim.agg ⟨zr, zr, zr, zr, zq0, zr, zr, zr, trivial⟩, zr, trivial⟩
  ·subst hB; simp only [hW]
   exact ⟨rfl, ⟨_, rfl, zl⟩, trivial⟩
  simp only [hW]; exact fun _ _ h => h
 have hv : ¬ q.ver ≠ x.w.ver := by subst hB; simpa [std, sC] using hb
 refine wp_seq (rg hB TA_ok [21, 0, 6, 8, 10] [0, 6, 8, 10] [] hF fun X3 a0 w1 hF => ?_)
 obtain ⟨L2, hL2⟩ := eqv (putL q.lab ⟨z.w.ver, z.has, z.w.x.r.abs⟩ L)
 have hW : CD = ⟨L2, true, ⟨0, z.w.ver, false, zeroRec⟩, 0⟩ := by rw [hCD, hL2]; unfold chgL; rw [if_neg hv, if_neg (fun h => by cases h.1)]
 refine test_ff hF rfl (fun hF => ?_)
 refine wp_skip (wp_seq ?_)
 apply drawn2_okB hB 7 none ?hH (by kernel_rfl) TA_ok [36, 38, 39, 0, 8, 10] [0, 8, 10] [] hF rfl
 case hH => exact handOK_none
 case hex => intro A X; conv => lhs; cbv
 case hD => kernel_rfl
 case hZ => kernel_rfl
 case hlen => rfl
 case hob =>
  intro X
  subst hB
  simp only [AO, Ob.holds, BE.den] <;> and_intros <;> intros <;> trivial
 case hQ =>
 intro X5 a0 w1 hF
 obtain ⟨D2, E2, hSh2⟩ := hF.kept
 refine man_mapUpdate (k := 24) (e := 84) rfl rfl rfl rfl hF rfl rfl rfl rfl rfl labK map_und' hSh2.map (by omega) (key_lab hl) (fun _ => .inr rfl) (shK bM L2) (fun m w' hk hkb hv hM => ?_) ?_
 ·rw [hL2]; exact shK_put hSh2.map hl hk hkb (x := ⟨⟨q.lab, z.w.ver, z.w.x⟩, z.has⟩) (zr) hv hM
 intro w1 hF
 replace hF := hF.keep [0,8,10] [0,8,10]
 refine wpList_nil (wp_seq (rg hB TA_ok [8, 10] [0, 8, 10] [] hF fun X6 a0 w1 hF => ?_))
 refine wp_seq (rg hB TA_ok [10, 11] [0, 10] [] hF fun X7 a0 w1 hF => ?_)
 refine wp_ret ((rm hB TA_ok hF (⟨0, fun _ => none, fun _ => 0, fun _ => ⟨#[]⟩⟩) [] (hmap := ?_) (he := ?_) (hs := ?_) (hJ := ?_)).1)
 ·intro b hb; cases hb; exact ⟨hmp, fun m h => shK_map h⟩
 ·subst hB; simp only [hW]
  exact Sim.tup ⟨Sim.agg ⟨zr, zr, zr, zr, zq0, zr, zr, zr, trivial⟩, zr, trivial⟩
 ·subst hB; simp only [hW]
  exact ⟨rfl, ⟨_, rfl, zl⟩, trivial⟩
 simp only [hW]; exact fun _ _ h => h
theorem chg_tt (k0 : Nat) (b bM : Nat) (L : Shf) (hL : L.length ≤ 100000) (k : Int) (q : WntA) (hl : LabOk q.lab) (x z : SpA) : SpecM Tryz.prog 47 [.ptr k0 b 0, wntV q, .agg (elC x), .agg (elC z), .bool .tt] [(k0, ⟨b, 82, [.raw (.map (some bM)), .int .i64 k]⟩)] (some bM) (shK bM L) (fun y => ⟨.tup [gotV (gotA y (chgL L q.lab q.ver x.w.ver true ⟨z.w.ver, z.has, z.w.x.r.abs⟩).got), .int .i64 (chgL L q.lab q.ver x.w.ver true ⟨z.w.ver, z.has, z.w.x.r.abs⟩).err], [(k0, [.raw (.map (some bM)), .int .i64 (if (chgL L q.lab q.ver x.w.ver true ⟨z.w.ver, z.has, z.w.x.r.abs⟩).wrote then IntKind.i64.wrap (k + 1) else k)])], []⟩) (fun _ _ => shK bM (chgL L q.lab q.ver x.w.ver true ⟨z.w.ver, z.has, z.w.x.r.abs⟩).L) :=
 (chg_tt0 b bM L hL k q hl x z).re (by repeat (first | exact trivial | refine ⟨Sim.ptr, ?_⟩ | refine ⟨Sim.fn ⟨Sim.ptr, trivial⟩ trivial, ?_⟩ | refine ⟨Sim.fn trivial ⟨Sim.ptr, trivial⟩, ?_⟩ | refine ⟨zr, ?_⟩)) rfl (fun x => ⟨rfl, rfl, zr, rfl⟩)
theorem chg_ff0 (b bM : Nat) (L : Shf) (hL : L.length ≤ 100000) (k : Int) (q : WntA) (hl : LabOk q.lab) (x z : SpA) : SpecM Tryz.prog 47 [.ptr 0 b 0, wntV q, .agg (elC x), .agg (elC z), .bool .ff] [(0, ⟨b, 82, [.raw (.map (some bM)), .int .i64 k]⟩)] (some bM) (shK bM L) (fun y => ⟨.tup [gotV (gotA y (chgL L q.lab q.ver x.w.ver false ⟨z.w.ver, z.has, z.w.x.r.abs⟩).got), .int .i64 (chgL L q.lab q.ver x.w.ver false ⟨z.w.ver, z.has, z.w.x.r.abs⟩).err], [(0, [.raw (.map (some bM)), .int .i64 (if (chgL L q.lab q.ver x.w.ver false ⟨z.w.ver, z.has, z.w.x.r.abs⟩).wrote then IntKind.i64.wrap (k + 1) else k)])], []⟩) (fun _ _ => shK bM (chgL L q.lab q.ver x.w.ver false ⟨z.w.ver, z.has, z.w.x.r.abs⟩).L) := by
 intro m w hm hargs hpre hI
 have hmx : maxLen = 9223372036854775807 := rfl
 have hmp := shK_map hI
 obtain ⟨CD, hCD⟩ := eqv ((chgL L q.lab q.ver x.w.ver false ⟨z.w.ver, z.has, z.w.x.r.abs⟩))
 rw [← hCD]
 refine enM (bo := some bM) 50 hm hpre hI hargs Tryz.func47 fun B hB a0 hF => ?_
 refine wp_seq (rg hB TA_ok [0, 4, 6, 7, 8, 10] [0, 6, 7, 8, 10] [] hF fun X0 a0 w1 hF => ?_)
 refine wp_seq (wp_block (wp_seq (rg hB TA_ok [12, 0, 4, 6, 7, 8, 10] [0, 6, 7, 8, 10] [] hF fun X1 a0 w1 hF => ?_)))
 apply test_ok hF rfl <;> intro hb hF
 ·have hv : q.ver ≠ x.w.ver := by subst hB; simpa [std, sC] using hb
  have hW : CD = ⟨L, false, ⟨8, x.w.ver, false, zeroRec⟩, 0⟩ := by rw [hCD]; unfold chgL; rw [if_pos hv]
  refine wp_seq (rg hB TA_ok [10, 11] [0, 10] [] hF fun X2 a0 w1 hF => ?_)
  refine wp_ret ((rm hB TA_ok hF (⟨0, fun _ => none, fun _ => 0, fun _ => ⟨#[]⟩⟩) [] (hmap := ?_) (he := ?_) (hs := ?_) (hJ := ?_)).1)
  ·intro b hb; cases hb; exact ⟨hmp, fun m h => shK_map h⟩
  ·subst hB; simp only [hW]
   exact Sim.tup ⟨Sim.agg ⟨zr, zr, zr, zr, zq0, zr, zr, zr, trivial⟩, zr, trivial⟩
  ·subst hB; simp only [hW]
   exact ⟨rfl, ⟨_, rfl, zl⟩, trivial⟩
  simp only [hW]; exact fun _ _ h => h
 have hv : ¬ q.ver ≠ x.w.ver := by subst hB; simpa [std, sC] using hb
 refine wp_seq (wp_region_lit (lpr 0 7 hB TA_ok [24, 28, 0, 6, 8, 10] [0, 6, 8, 10] [] hF fun X3_0 a0 w1 hF => ?_))
 obtain ⟨D, E, hSh⟩ := hF.kept
 obtain ⟨zz, hzz⟩ := eqv (Maps.size D)
 have hzl : zz = L.length := hzz.trans hSh.size
 refine unguard (wanted_tt hF rfl rfl rfl) (man_mlen rfl rfl rfl rfl rfl rfl rfl hF (Nat.le_of_ble_eq_true rfl) rfl map_und' hSh.map ?_)
 rw [← hzz]
 intro a0 hF
 refine lnd 8 hB TA_ok [21, 0, 6, 8, 10] [0, 6, 8, 10] [] hF fun X3 a0 w1 hF => ?_
 apply test_ok hF rfl <;> intro hb hF
 ·have hfull : 2000 ≤ L.length := by
   have : (2000 : Int) ≤ (zz : Int) := by subst hB; simpa [std, sC] using hb
   omega
  have hW : CD = ⟨L, false, zeroGot, 12⟩ := by rw [hCD]; unfold chgL; rw [if_neg hv, if_pos ⟨rfl, hfull⟩]
  refine wp_seq (rg hB TA_ok [10, 11] [0, 10] [] hF fun X4 a0 w1 hF => ?_)
  refine wp_ret ((rm hB TA_ok hF (⟨0, fun _ => none, fun _ => 0, fun _ => ⟨#[]⟩⟩) [] (hmap := ?_) (he := ?_) (hs := ?_) (hJ := ?_)).1)
  ·intro b hb; cases hb; exact ⟨hmp, fun m h => shK_map h⟩
  ·subst hB; simp only [hW]
   exact Sim.tup ⟨Sim.agg ⟨zr, zr, zr, zr, zq0, zr, zr, zr, trivial⟩, zr, trivial⟩
  ·subst hB; simp only [hW]
   exact ⟨rfl, ⟨_, rfl, zl⟩, trivial⟩
  simp only [hW]; exact fun _ _ h => h
 have hfull : ¬ 2000 ≤ L.length := by
  have : ¬ (2000 : Int) ≤ (zz : Int) := by subst hB; simpa [std, sC] using hb
  omega
 obtain ⟨L2, hL2⟩ := eqv (putL q.lab ⟨z.w.ver, z.has, z.w.x.r.abs⟩ L)
 have hW : CD = ⟨L2, true, ⟨0, z.w.ver, false, zeroRec⟩, 0⟩ := by rw [hCD, hL2]; unfold chgL; rw [if_neg hv, if_neg (fun h => hfull h.2)]
 refine wp_skip (wp_seq ?_)
 apply drawn2_okB hB 7 none ?hH (by kernel_rfl) TA_ok [36, 38, 39, 0, 8, 10] [0, 8, 10] [] hF rfl
 case hH => exact handOK_none
 case hex => intro A X; conv => lhs; cbv
 case hD => kernel_rfl
 case hZ => kernel_rfl
 case hlen => rfl
 case hob =>
  intro X
  subst hB
  simp only [AO, Ob.holds, BE.den] <;> and_intros <;> intros <;> trivial
 case hQ =>
 intro X5 a0 w1 hF
 obtain ⟨D2, E2, hSh2⟩ := hF.kept
 refine man_mapUpdate (k := 24) (e := 84) rfl rfl rfl rfl hF rfl rfl rfl rfl rfl labK map_und' hSh2.map (by omega) (key_lab hl) (fun _ => .inr rfl) (shK bM L2) (fun m w' hk hkb hv hM => ?_) ?_
 ·rw [hL2]; exact shK_put hSh2.map hl hk hkb (x := ⟨⟨q.lab, z.w.ver, z.w.x⟩, z.has⟩) (zr) hv hM
 intro w1 hF
 replace hF := hF.keep [0,8,10] [0,8,10]
 refine wpList_nil (wp_seq (rg hB TA_ok [8, 10] [0, 8, 10] [] hF fun X6 a0 w1 hF => ?_))
 refine wp_seq (rg hB TA_ok [10, 11] [0, 10] [] hF fun X7 a0 w1 hF => ?_)
 refine wp_ret ((rm hB TA_ok hF (⟨0, fun _ => none, fun _ => 0, fun _ => ⟨#[]⟩⟩) [] (hmap := ?_) (he := ?_) (hs := ?_) (hJ := ?_)).1)
 ·intro b hb; cases hb; exact ⟨hmp, fun m h => shK_map h⟩
 ·subst hB; simp only [hW]
  exact Sim.tup ⟨Sim.agg ⟨zr, zr, zr, zr, zq0, zr, zr, zr, trivial⟩, zr, trivial⟩
 ·subst hB; simp only [hW]
  exact ⟨rfl, ⟨_, rfl, zl⟩, trivial⟩
 simp only [hW]; exact fun _ _ h => h
theorem chg_ff (k0 : Nat) (b bM : Nat) (L : Shf) (hL : L.length ≤ 100000) (k : Int) (q : WntA) (hl : LabOk q.lab) (x z : SpA) : SpecM Tryz.prog 47 [.ptr k0 b 0, wntV q, .agg (elC x), .agg (elC z), .bool .ff] [(k0, ⟨b, 82, [.raw (.map (some bM)), .int .i64 k]⟩)] (some bM) (shK bM L) (fun y => ⟨.tup [gotV (gotA y (chgL L q.lab q.ver x.w.ver false ⟨z.w.ver, z.has, z.w.x.r.abs⟩).got), .int .i64 (chgL L q.lab q.ver x.w.ver false ⟨z.w.ver, z.has, z.w.x.r.abs⟩).err], [(k0, [.raw (.map (some bM)), .int .i64 (if (chgL L q.lab q.ver x.w.ver false ⟨z.w.ver, z.has, z.w.x.r.abs⟩).wrote then IntKind.i64.wrap (k + 1) else k)])], []⟩) (fun _ _ => shK bM (chgL L q.lab q.ver x.w.ver false ⟨z.w.ver, z.has, z.w.x.r.abs⟩).L) :=
 (chg_ff0 b bM L hL k q hl x z).re (by repeat (first | exact trivial | refine ⟨Sim.ptr, ?_⟩ | refine ⟨Sim.fn ⟨Sim.ptr, trivial⟩ trivial, ?_⟩ | refine ⟨Sim.fn trivial ⟨Sim.ptr, trivial⟩, ?_⟩ | refine ⟨zr, ?_⟩)) rfl (fun x => ⟨rfl, rfl, zr, rfl⟩)
end Go.Proofs.YtphmfjhmdajlmaaGreat.Sym
