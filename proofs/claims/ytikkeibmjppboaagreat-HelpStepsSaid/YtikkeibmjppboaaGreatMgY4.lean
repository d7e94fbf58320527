/-
  SymHalf, SymUni, SymPr2, SymPr3, SymPr4, SymPr5, SymPr6, SymPr7, SymPr8, SymRcv, SymNx0: put together by a program of mine (a claim may have 60 files at most). Conditions: none.
-/
import Derived.WalkKit
import Derived.WalkLawsBesides
import Derived.WalkSpells
import Derived.Lib.Hide
import Derived.Deep.QuietTactic
import Derived.BigQuiet
import Derived.Deep.LoopGhost
import Derived.Deep.DeepCutAuto
import Derived.Deep.RegionLaw
import Derived.Lib.Overlaps
import Derived.Laws.CopyOwn
import Derived.IntWalk
import Derived.ProofKit
import Derived.OpenShut
import Derived.ShutString
import Derived.ChangeOld
import Derived.Deep.Slices
import Derived.Test.YtikkeibmjppboaaGreatProg
import Derived.Orders
import Derived.OrdersHeld
import Derived.Defers
import Derived.Recover
import Derived.Lib.BitFns
import Derived.ChangeKeysEq
import Derived.Test.YtikkeibmjppboaaGreatChecked
import Derived.Lib.BufferWrite
import Derived.Maps.OwnSet
import Derived.Maps.RangeWalk
import Derived.Maps.Ext
import Derived.DeepKeys4
import Derived.LoopN
import Derived.Test.YtikkeibmjppboaaGreatMgY1
import Derived.Test.YtikkeibmjppboaaGreatMgY2
import Derived.Test.YtikkeibmjppboaaGreatMgY3
set_option linter.unusedVariables false
set_option linter.unusedSimpArgs false
set_option maxRecDepth 100000
set_option maxHeartbeats 1600000
namespace Go.Proofs.YtikkeibmjppboaaGreat.Sym
open Go Go.RowKit
theorem ch_ok {l : Lab} {b : Int} (hl : isL l = true) (h64 : l.len ≠ 64) : chE l b = 0 ∧ chV l b = childL l b := by
 have h : chE l b = 0 := by
  unfold chE
  rw [hl, if_neg (by decide), if_neg h64]
 exact ⟨h, by unfold chV; rw [if_pos h]⟩
theorem enters52 : Enters Tryz.prog 52 := fun _ _ => by kernel_rfl
theorem enters182 : Enters Tryz.prog 182 := fun _ _ => by kernel_rfl
theorem covd_s (A : Option Addr) (n c : Nat) (f : Nat → Itm) (hn : n ≤ 1000000) (kd : Int) (nx : Lab) (mk : Int) (l : Lab) (hb0 : U64 l.bits) (hki : ∀ i, i < n → U64 (f i).key) : Spec Tryz.prog 182 [recI A n c f kd nx mk, labAV l] (fun x => rowI (x.A 0) (covL l (firsts f n)).length (x.c 0) (itF (covL l (firsts f n)))) := by
 intro m w hm hargs
 have hmx : maxLen = 9223372036854775807 := rfl
 unfold recI rowI at hargs
 simp only [labAV] at hargs
 refine enter hm hargs Tryz.func182 rfl (by simp [Tryz.ntmps182]) fun a0 hF => ?_
 simp only [Tryz.ntmps182, startT] at hF
 obtain ⟨B, hB⟩ := eqv (std)
 apply wp_seq
 apply rgB hB TA_ok [2, 3] [2, 3] [] hF
 ·intro A X; conv => lhs; cbv
 ·intro X; subst hB; simp [AO, Ob.holds, BE.den, std, sC, sAr] <;> omega
 intro X0 a0 w1 hF
 apply wp_seq
 apply rgB hB TA_ok [5, 2, 3] [2, 3, 5, 29] [] hF
 ·intro A X; conv => lhs; cbv
 ·intro X; subst hB; simp [AO, Ob.holds, BE.den, std, sC, sAr] <;> omega
 intro X1 a0 w1 hF
 refine wp_seq (wp_seq ?_)
 apply rgB hB TA_ok [5, 6, 2, 3] [2, 3, 5, 29] [] hF
 ·intro A X; conv => lhs; cbv
 ·intro X; subst hB; simp [AO, Ob.holds, BE.den, std, sC, sAr] <;> omega
 intro X2 a0 w1 hF
 refine wp_block ?_
 replace hF := hF.headS (v' := .sl (some 5) none 0 0 2 (fun t => itC zeroItm)) (zq0) rfl
 refine loop_pre (ι := Nat × Nat × (Nat → Itm) × Option Addr × Nat) (fun p => [(5, .sl (some 5) p.2.2.2.1 p.2.1 p.2.2.2.2 2 (fun t => itC (p.2.2.1 t))), (6, .int .i64 (p.1 : Int))]) (fun p => []) (fun p => [(5, ⟨p.2.2.2.1, p.2.1, p.2.2.2.2, 2, 85⟩)]) (fun p => p.1 ≤ n ∧ p.2.1 ≤ p.1 ∧ firsts p.2.2.1 p.2.1 = covL l (firsts f p.1)) (fun p => n - p.1) (0, 0, fun _ => zeroItm, none, 0) ⟨Nat.zero_le _, Nat.le_refl _, rfl⟩ hF ?_
 rintro ⟨i, q, g, A1, c1⟩ ⟨hi, hq, hg⟩ a0 w1 hF
 try dsimp only at hi
 try dsimp only at hq
 try dsimp only at hg
 refine wp_seq (wp_seq ?_)
 apply rgB hB TA_ok [11, 5, 6, 2, 3] [2, 3, 5, 29] [] hF
 ·intro A X; conv => lhs; cbv
 ·intro X; subst hB; repeat (first | exact trivial | refine ⟨rfl, ?_⟩ | refine ⟨⟨show (0 : Int) ≤ (i : Int) by omega, show (i : Int) < (n : Int) by omega⟩, ?_⟩)
 intro X3 a0 w1 hF
 apply test_ok hF rfl <;> intro hb hF
 ·have hin : i < n := by
   have : (i : Int) < (n : Int) := by subst hB; simpa [std, sC] using hb
   omega
  have S := rcov_s l hb0 (f i).key (hki i hin)
  simp only [labAV] at S
  obtain ⟨cq, hcq⟩ := eqv (coverB l (f i).key)
  rw [← hcq] at S
  refine wp_skip ?_
  apply wp_seq
  refine wp_block ?_
  apply wp_seq
  apply drB hB (by kernel_rfl) TA_ok [21, 5, 6, 2, 3] [2, 3, 5, 29] [(7, .r fun _ => .bool (.v cq))] hF rfl
  case hex => intro A X; conv => lhs; cbv
  case hD => kernel_rfl
  case hlen => rfl
  case hob =>
   intro X
   subst hB
   repeat (first | exact trivial | refine ⟨rfl, ?_⟩ | refine ⟨⟨show (0 : Int) ≤ (i : Int) by omega, show (i : Int) < (n : Int) by omega⟩, ?_⟩ | refine ⟨⟨enters132, S⟩, ?_⟩)
  case hQ =>
  intro X5 a0 w1 hF
  apply test_ok hF rfl <;> intro hb hF
  ·have hct : cq = true := hb
   rw [hct] at hcq
   apply rgB hB TA_ok [5, 6, 2, 3] [2, 3, 5, 29] [] hF
   ·intro A X; conv => lhs; cbv
   ·intro X; subst hB; repeat (first | exact trivial | refine ⟨⟨rfl, rfl, rfl⟩, ?_⟩ | refine ⟨rfl, ?_⟩ | refine ⟨⟨show (0 : Int) ≤ (i : Int) by omega, show (i : Int) < (n : Int) by omega⟩, ?_⟩ | refine ⟨⟨show q + 1 ≤ maxLen by omega, show (q + 1) * _ ≤ _ by omega⟩, ?_⟩)
   intro X6 a0 w1 hF
   replace hF := hF.headS (v' := .sl (some 5) ((X6 7).A 0) (B.nadd q 1) ((X6 7).c 0) 2 (fun t => itC (fSet g q (f i) t))) (Sim.resl rfl (fun t ht => by
    subst hB
    have ht2 : t < q + 1 := ht
    show appC q (fun t => itC (g t)) (chunk 2 [.int .u64 (f i).key, .str (f i).val]) t = _
    unfold appC fSet
    split
    ·rw [if_neg (by omega)]
    have : t = q := by omega
    subst this
    simp [chunk, itC])) rfl
   apply rgB hB TA_ok [5, 6, 2, 3] [2, 3, 5, 29] [] hF
   ·intro A X; conv => lhs; cbv
   ·intro X; subst hB; simp [AO, Ob.holds, BE.den, std, sC, sAr] <;> omega
   intro X4 a0 w1 hF
   have e : B.arith .add .i64 (i : Int) 1 = ((i + 1 : Nat) : Int) := by subst hB; exact wrap_succ (n := n) hin (by omega)
   refine ⟨(i + 1, q + 1, fSet g q (f i), _, _), ⟨by simp only; omega, by simp only; omega, ?_⟩, by simp only; omega, by rw [← e, show q + 1 = B.nadd q 1 by subst hB; rfl]; exact hF⟩
   simp only
   rw [firsts_set, hg, cov_step, if_pos hcq.symm]
  have hcf : cq = false := hb
  rw [hcf] at hcq
  refine wp_skip ?_
  apply rgB hB TA_ok [5, 6, 2, 3] [2, 3, 5, 29] [] hF
  ·intro A X; conv => lhs; cbv
  ·intro X; subst hB; simp [AO, Ob.holds, BE.den, std, sC, sAr] <;> omega
  intro X4 a0 w1 hF
  have e : B.arith .add .i64 (i : Int) 1 = ((i + 1 : Nat) : Int) := by subst hB; exact wrap_succ (n := n) hin (by omega)
  refine ⟨(i + 1, q, g, _, _), ⟨by simp only; omega, by simp only; omega, ?_⟩, by simp only; omega, by rw [← e]; exact hF⟩
  simp only
  rw [hg, cov_step, if_neg (by rw [← hcq]; decide), List.append_nil]
 have hout : i = n := by
  have : ¬ (i : Int) < (n : Int) := by subst hB; simpa [std, sC] using hb
  omega
 rw [hout] at hg
 refine wp_exit ?_
 apply wp_seq
 apply rgB hB TA_ok [4] [4, 5, 29] [] hF
 ·intro A X; conv => lhs; cbv
 ·intro X; subst hB; simp [AO, Ob.holds, BE.den, std, sC, sAr] <;> omega
 intro X7 a0 w1 hF
 refine wp_ret ?_
 refine ret_sim (fn := Tryz.f182) TA_ok hF (rs := [.tmp 4]) rfl (rfl) ?_ (⟨0, fun _ => A1, fun _ => c1, fun _ => ⟨#[]⟩⟩) ?_
 ·simp [AO, Ob.holds]
 subst hB
 exact Sim.resl (by rw [← hg, firsts_len]) (fun t ht => by rw [← hg, firsts_len] at ht; rw [← hg, firsts_get _ _ t ht])
theorem enters185 : Enters Tryz.prog 185 := fun _ _ => by kernel_rfl
theorem hv1_m0 (b : Nat) (l : Lab) (hb0 : U64 l.bits) (k : Int) (v : ByteArray) (hk : U64 k) : SpecX Tryz.prog 185 [.agg [.int .u64 k, .str v], .ptr 0 b 0] [(0, ⟨b, 41, [.int .i64 l.len, .int .u64 l.bits]⟩)] (fun _ => ⟨.bool (.v (!coverB l k)), [(0, [.int .i64 l.len, .int .u64 l.bits])], []⟩) := by
 intro m w hm hargs hpre
 have S := cov_s l hb0 k hk
 simp only [labAV] at S
 generalize coverB l k = cq at S ⊢
 refine enterX hm hpre hargs Tryz.func185 rfl (by simp [Tryz.ntmps185]) fun a0 hF => ?_
 simp only [Tryz.ntmps185, startT] at hF
 obtain ⟨B, hB⟩ := eqv (std)
 apply wp_seq
 apply rgB hB TA_ok [1, 2] [0, 2] [] hF
 ·intro A X; conv => lhs; cbv
 ·intro X; subst hB; simp [AO, Ob.holds, BE.den, std, sC, sAr] <;> omega
 intro X0 a0 w1 hF
 apply wp_seq
 apply rgB hB TA_ok [3] [0] [(3, .r fun _ => .bool (.v cq))] hF
 ·intro A X; conv => lhs; cbv
 ·intro X; subst hB; repeat (first | exact trivial | refine ⟨rfl, ?_⟩ | refine ⟨fun _ => rfl, ?_⟩ | refine ⟨ob_lab (Kk := noK) _ _ _ _, ?_⟩ | refine ⟨fun _ => ob_lab (Kk := noK) _ _ _ _, ?_⟩ | refine ⟨⟨enters91, S⟩, ?_⟩ | refine ⟨fun _ => ⟨enters91, S⟩, ?_⟩)
 intro X1 a0 w1 hF
 refine wp_ret ?_
 refine (ret_x (fn := Tryz.f185) TA_ok hF (rs := [.tmp 3]) rfl (rfl) ?_ nAt [] ?_ ?_ ?_).1
 ·subst hB; simp [AO, Ob.holds]
 ·subst hB; exact Sim.bool rfl
 ·subst hB; first | exact trivial | exact ⟨rfl, ⟨_, rfl, zl⟩, trivial⟩
 exact trivial
theorem enters107 : Enters Tryz.prog 107 := fun _ _ => by kernel_rfl
theorem idxh_m0 (b : Nat) (A : Option Addr) (n c : Nat) (f : Nat → Itm) (hn : n ≤ 1000000) (l : Lab) (hb0 : U64 l.bits) (hki : ∀ i, i < n → U64 (f i).key) : SpecX Tryz.prog 107 [rowI A n c f, .fn 185 [] [.ptr 0 b 0]] [(0, ⟨b, 41, [.int .i64 l.len, .int .u64 l.bits]⟩)] (fun _ => ⟨.int .i64 (idxF (fun t => !coverB l (f t).key) n), [(0, [.int .i64 l.len, .int .u64 l.bits])], []⟩) := by
 intro m w hm hargs hpre
 have hmx : maxLen = 9223372036854775807 := rfl
 unfold rowI at hargs
 refine enterX hm hpre hargs Tryz.func107 rfl (by simp [Tryz.ntmps107]) fun a0 hF => ?_
 simp only [Tryz.ntmps107, startT] at hF
 obtain ⟨B, hB⟩ := eqv (std)
 apply wp_seq
 apply rgB hB TA_ok [0, 1] [0] [] hF
 ·intro A X; conv => lhs; cbv
 ·intro X; subst hB; simp [AO, Ob.holds, BE.den, std, sC, sAr] <;> omega
 intro X0 a0 w1 hF
 refine wp_seq (wp_seq ?_)
 apply rgB hB TA_ok [8, 0, 1, 7] [0] [] hF
 ·intro A X; conv => lhs; cbv
 ·intro X; subst hB; simp [AO, Ob.holds, BE.den, std, sC, sAr] <;> omega
 intro X1 a0 w1 hF
 refine wp_block ?_
 refine loop_pre (ι := Nat) (fun p => [(8, .int .i64 (p : Int))]) (fun p => []) (fun p => []) (fun p => p ≤ n ∧ ∀ t, t < p → (!coverB l (f t).key) = false) (fun p => n - p) 0 ⟨Nat.zero_le _, fun t ht => absurd ht (Nat.not_lt_zero _)⟩ hF ?_
 rintro i ⟨hi, hlt⟩ a0 w1 hF
 try dsimp only at hi
 try dsimp only at hlt
 apply wp_seq
 apply rgB hB TA_ok [9, 8, 0, 1, 7] [0] [] hF
 ·intro A X; conv => lhs; cbv
 ·intro X; subst hB; simp [AO, Ob.holds, BE.den, std, sC, sAr] <;> omega
 intro X2 a0 w1 hF
 apply wp_seq
 apply test_ok hF rfl <;> intro hb hF
 ·have hin : i < n := by
   have : (i : Int) < (n : Int) := by subst hB; simpa [std, sC] using hb
   omega
  have S := hv1_m0 b l hb0 (f i).key (f i).val (hki i hin)
  obtain ⟨q, hq⟩ := eqv (!coverB l (f i).key)
  rw [← hq] at S
  refine wp_skip ?_
  apply wp_seq
  refine wp_block ?_
  apply wp_seq
  apply rgB hB TA_ok [5, 8, 0, 1, 7] [0] [] hF
  ·intro A X; conv => lhs; cbv
  ·intro X; subst hB; simp [AO, Ob.holds, BE.den, std, sC, sAr] <;> omega
  intro X3 a0 w1 hF
  apply wp_seq
  apply rgB hB TA_ok [16, 5, 8, 0, 1, 7] [0] [(5, .x fun _ => ⟨.bool (.v q), [(0, [.int .i64 l.len, .int .u64 l.bits])], []⟩)] hF
  ·intro A X; conv => lhs; cbv
  ·intro X; subst hB; repeat (first | exact trivial | refine ⟨rfl, ?_⟩ | refine ⟨⟨show (0 : Int) ≤ (i : Int) by omega, show (i : Int) < (n : Int) by omega⟩, ?_⟩ | refine ⟨⟨enters185, S⟩, ?_⟩)
  intro X4 a0 w1 hF
  apply test_ok hF rfl <;> intro hb hF
  ·have hqt : q = true := hb
   apply wp_seq
   apply rgB hB TA_ok [4] [0] [] hF
   ·intro A X; conv => lhs; cbv
   ·intro X; subst hB; simp [AO, Ob.holds, BE.den, std, sC, sAr] <;> omega
   intro X5 a0 w1 hF
   refine wp_ret ?_
   refine (ret_x (fn := Tryz.f107) TA_ok hF (rs := [.tmp 4]) rfl (rfl) ?_ nAt [] ?_ ?_ ?_).1
   ·subst hB; simp [AO, Ob.holds]
   ·subst hB
    rw [idx_hit (p := fun t => !coverB l (f t).key) hin hlt (by show (!coverB l (f i).key) = true; rw [← hq]; exact hqt)]
    exact zr
   ·subst hB; first | exact trivial | exact ⟨rfl, ⟨_, rfl, zl⟩, trivial⟩
   exact trivial
  have hqf : q = false := hb
  refine wp_skip ?_
  apply rgB hB TA_ok [8, 0, 1, 7] [0] [] hF
  ·intro A X; conv => lhs; cbv
  ·intro X; subst hB; simp [AO, Ob.holds, BE.den, std, sC, sAr] <;> omega
  intro X6 a0 w1 hF
  have e : B.arith .add .i64 (i : Int) 1 = ((i + 1 : Nat) : Int) := by subst hB; exact wrap_succ (n := n) hin (by omega)
  refine ⟨i + 1, ⟨by omega, fun t ht => ?_⟩, by omega, by rw [← e]; exact hF⟩
  by_cases h : t = i
  ·rw [h, ← hq]; exact hqf
  exact hlt t (by omega)
 have hout : i = n := by
  have : ¬ (i : Int) < (n : Int) := by subst hB; simpa [std, sC] using hb
  omega
 rw [hout] at hlt
 refine wp_exit ?_
 apply wp_seq
 apply rgB hB TA_ok [4] [0] [] hF
 ·intro A X; conv => lhs; cbv
 ·intro X; subst hB; simp [AO, Ob.holds, BE.den, std, sC, sAr] <;> omega
 intro X7 a0 w1 hF
 refine wp_ret ?_
 refine (ret_x (fn := Tryz.f107) TA_ok hF (rs := [.tmp 4]) rfl (rfl) ?_ nAt [] ?_ ?_ ?_).1
 ·subst hB; simp [AO, Ob.holds]
 ·subst hB
  rw [idx_miss (p := fun t => !coverB l (f t).key) hlt]
  exact zr
 ·subst hB; first | exact trivial | exact ⟨rfl, ⟨_, rfl, zl⟩, trivial⟩
 exact trivial
theorem enters54 : Enters Tryz.prog 54 := fun _ _ => by kernel_rfl
theorem hash_m0 (b : Nat) (A : Option Addr) (n c : Nat) (f : Nat → Itm) (hn : n ≤ 1000000) (l : Lab) (hb0 : U64 l.bits) (hki : ∀ i, i < n → U64 (f i).key) : SpecX Tryz.prog 54 [rowI A n c f, .fn 185 [] [.ptr 0 b 0]] [(0, ⟨b, 41, [.int .i64 l.len, .int .u64 l.bits]⟩)] (fun _ => ⟨.bool (.v (!decide ((covL l (firsts f n)).length = n))), [(0, [.int .i64 l.len, .int .u64 l.bits])], []⟩) := by
 intro m w hm hargs hpre
 have S := idxh_m0 b A n c f hn l hb0 hki
 have HC := idx_cases (fun t => !coverB l (f t).key) n
 generalize (idxF (fun t => !coverB l (f t).key) n) = ix at S HC
 unfold rowI at S hargs
 refine enterX hm hpre hargs Tryz.func54 rfl (by simp [Tryz.ntmps54]) fun a0 hF => ?_
 simp only [Tryz.ntmps54, startT] at hF
 obtain ⟨B, hB⟩ := eqv (std)
 apply wp_seq
 apply rgB hB TA_ok [0, 1] [0] [] hF
 ·intro A X; conv => lhs; cbv
 ·intro X; subst hB; simp [AO, Ob.holds, BE.den, std, sC, sAr] <;> omega
 intro X0 a0 w1 hF
 apply wp_seq
 apply rgB hB TA_ok [4] [0] [(2, .x fun _ => ⟨.int .i64 ix, [(0, [.int .i64 l.len, .int .u64 l.bits])], []⟩)] hF
 ·intro A X; conv => lhs; cbv
 ·intro X; subst hB; repeat (first | exact trivial | refine ⟨rfl, ?_⟩ | refine ⟨⟨show (0 : Int) ≤ (i : Int) by omega, show (i : Int) < (n : Int) by omega⟩, ?_⟩ | refine ⟨⟨enters107, S⟩, ?_⟩)
 intro X1 a0 w1 hF
 refine wp_ret ?_
 refine (ret_x (fn := Tryz.f54) TA_ok hF (rs := [.tmp 4]) rfl (rfl) ?_ nAt [] ?_ ?_ ?_).1
 ·subst hB; simp [AO, Ob.holds]
 ·subst hB
  refine Sim.bool ?_
  show decide (ix ≥ 0) = !decide ((covL l (firsts f n)).length = n)
  rw [decide_eq_decide.2 (cov_firsts (l := l) (f := f) (n := n))]
  rcases HC with ⟨i, h1, h2, h3, h4⟩ | ⟨h1, h2⟩
  ·have h5 : ¬ ∀ i, i < n → coverB l (f i).key = true := fun h => by have := h i h1; simp [this] at h3
   rw [decide_eq_false h5, h2]; simp
  have h5 : ∀ i, i < n → coverB l (f i).key = true := fun i hi => by simpa using h2 i hi
  rw [decide_eq_true h5, h1]; rfl
 ·subst hB; first | exact trivial | exact ⟨rfl, ⟨_, rfl, zl⟩, trivial⟩
 exact trivial
theorem hash_m (k0 : Nat) (b : Nat) (A : Option Addr) (n c : Nat) (f : Nat → Itm) (hn : n ≤ 1000000) (l : Lab) (hb0 : U64 l.bits) (hki : ∀ i, i < n → U64 (f i).key) : SpecX Tryz.prog 54 [rowI A n c f, .fn 185 [] [.ptr k0 b 0]] [(k0, ⟨b, 41, [.int .i64 l.len, .int .u64 l.bits]⟩)] (fun _ => ⟨.bool (.v (!decide ((covL l (firsts f n)).length = n))), [(k0, [.int .i64 l.len, .int .u64 l.bits])], []⟩) :=
 (hash_m0 b A n c f hn l hb0 hki).re (by repeat (first | exact trivial | refine ⟨Sim.ptr, ?_⟩ | refine ⟨Sim.fn ⟨Sim.ptr, trivial⟩ trivial, ?_⟩ | refine ⟨Sim.fn trivial ⟨Sim.ptr, trivial⟩, ?_⟩ | refine ⟨zr, ?_⟩)) rfl (fun x => ⟨rfl, rfl, zr, rfl⟩)
theorem enters176 : Enters Tryz.prog 176 := fun _ _ => by kernel_rfl
theorem halves_no (A : Option Addr) (n c : Nat) (f : Nat → Itm) (hn : n ≤ 1000000) (kd : Int) (nx : Lab) (mk : Int) (hv : U64 nx.bits) (hki : ∀ i, i < n → U64 (f i).key) (l : Lab) (hb0 : U64 l.bits) (hil : (isRF kd n f nx mk && isL l) = false) : Spec Tryz.prog 176 [recI A n c f kd nx mk, labAV l] (fun x => .tup [recAV (x.A 0) (x.c 0) (halvR kd n f nx mk l).1, recAV (x.A 1) (x.c 1) (halvR kd n f nx mk l).2.1, .int .i64 (halvR kd n f nx mk l).2.2]) := by
 intro m w hm hargs
 have hmx : maxLen = 9223372036854775807 := rfl
 have SI := isR_s A n c f (by omega) kd nx mk hv
 have SL := isL_s l hb0
 unfold recI rowI at SI hargs
 simp only [labAV] at SL hargs
 obtain ⟨ir, hir⟩ := eqv (isRF kd n f nx mk)
 obtain ⟨il, hll⟩ := eqv (isL l)
 rw [← hir] at SI hil
 rw [← hll] at SL hil
 have hW : (halvR kd n f nx mk l) = (zeroRec, zeroRec, 1) := by unfold halvR; rw [← hir, ← hll, hil]; rfl
 refine enter hm hargs Tryz.func176 rfl (by simp [Tryz.ntmps176]) fun a0 hF => ?_
 simp only [Tryz.ntmps176, startT] at hF
 obtain ⟨B, hB⟩ := eqv (std)
 apply wp_seq
 apply rgB hB TA_ok [2, 3, 4, 5] [2, 3, 4, 5] [] hF
 ·intro A X; conv => lhs; cbv
 ·intro X; subst hB; simp [AO, Ob.holds, BE.den, std, sC, sAr] <;> omega
 intro X0 a0 w1 hF
 apply wp_seq
 apply rgB hB TA_ok [7, 2, 3, 4, 5] [2, 3, 4, 5] [] hF
 ·intro A X; conv => lhs; cbv
 ·intro X; subst hB; simp [AO, Ob.holds, BE.den, std, sC, sAr] <;> omega
 intro X1 a0 w1 hF
 apply wp_seq
 refine wp_block ?_
 apply wp_seq
 refine wp_region_lit ?_
 apply list_preB 0 9 hB TA_ok [24, 7, 2, 3, 4, 5] [2, 3, 4, 5] [(1, .r fun _ => .bool (.v ir)), (5, .r fun _ => .bool (.v il))] hF
 ·intro A X; conv => lhs; cbv
 ·intro X; subst hB; repeat (first | exact trivial | refine ⟨rfl, ?_⟩ | refine ⟨fun _ => rfl, ?_⟩ | refine ⟨ob_lab (Kk := noK) _ _ _ _, ?_⟩ | refine ⟨fun _ => ob_lab (Kk := noK) _ _ _ _, ?_⟩ | refine ⟨⟨enters66, SI⟩, ?_⟩ | refine ⟨fun _ => ⟨enters66, SI⟩, ?_⟩ | refine ⟨⟨enters65, SL⟩, ?_⟩ | refine ⟨fun _ => ⟨enters65, SL⟩, ?_⟩)
 intro X2_0 a0 w1 hF
 replace hF := hF.headS (v' := .bool .tt) (Sim.bool (by subst hB; show (if (!ir) = true then true else !il) = true; cases ir <;> cases il <;> first | rfl | (cases hil))) rfl
 apply leB 9 hB TA_ok [15, 2, 3, 4, 5] [2, 3, 4, 5] [(1, .r fun _ => .bool (.v ir)), (5, .r fun _ => .bool (.v il))] hF
 ·intro A X; conv => lhs; cbv
 ·intro X; subst hB; repeat (first | exact trivial | refine ⟨rfl, ?_⟩ | refine ⟨fun _ => rfl, ?_⟩ | refine ⟨ob_lab (Kk := noK) _ _ _ _, ?_⟩ | refine ⟨fun _ => ob_lab (Kk := noK) _ _ _ _, ?_⟩)
 intro X2 a0 w1 hF
 refine test_tt hF rfl (fun hF => ?_)
 apply wp_seq
 apply rgB hB TA_ok [4, 5, 6] [2, 3, 4, 5] [] hF
 ·intro A X; conv => lhs; cbv
 ·intro X; subst hB; repeat (first | exact trivial | refine ⟨rfl, ?_⟩ | refine ⟨fun _ => rfl, ?_⟩ | refine ⟨ob_lab (Kk := noK) _ _ _ _, ?_⟩ | refine ⟨fun _ => ob_lab (Kk := noK) _ _ _ _, ?_⟩)
 intro X3 a0 w1 hF
 refine wp_ret ?_
 refine ret_sim (fn := Tryz.f176) TA_ok hF (rs := [.cell 4 54, .cell 5 54, .tmp 6]) rfl (by conv => lhs; cbv) ?_ (⟨0, fun _ => none, fun _ => 0, fun _ => ⟨#[]⟩⟩) ?_
 ·simp [AO, Ob.holds]
 subst hB
 rw [hW]
 exact Sim.tup ⟨Sim.agg ⟨zr, zq0, zr, zr, zr, trivial⟩, Sim.agg ⟨zr, zq0, zr, zr, zr, trivial⟩, zr, trivial⟩
theorem halves_yes (A : Option Addr) (n c : Nat) (f : Nat → Itm) (hn : n ≤ 1000000) (kd : Int) (nx : Lab) (mk : Int) (hv : U64 nx.bits) (hki : ∀ i, i < n → U64 (f i).key) (l : Lab) (hb0 : U64 l.bits) (hil : (isRF kd n f nx mk && isL l) = true) : Spec Tryz.prog 176 [recI A n c f kd nx mk, labAV l] (fun x => .tup [recAV (x.A 0) (x.c 0) (halvR kd n f nx mk l).1, recAV (x.A 1) (x.c 1) (halvR kd n f nx mk l).2.1, .int .i64 (halvR kd n f nx mk l).2.2]) := by
 intro m w hm hargs
 have hmx : maxLen = 9223372036854775807 := rfl
 have SI := isR_s A n c f (by omega) kd nx mk hv
 have SL := isL_s l hb0
 unfold recI rowI at SI hargs
 simp only [labAV] at SL hargs
 obtain ⟨ir, hir⟩ := eqv (isRF kd n f nx mk)
 obtain ⟨il, hll⟩ := eqv (isL l)
 rw [← hir] at SI hil
 rw [← hll] at SL hil
 rw [Bool.and_eq_true] at hil
 have hLt : isL l = true := by rw [← hll]; exact hil.2
 obtain ⟨hl0, hl1, hl2⟩ := lab_parts hLt
 obtain ⟨hkd1, hkd5, hn16, hnl, hok⟩ := isRF_kind (hir.symm.trans hil.1)
 refine enter hm hargs Tryz.func176 rfl (by simp [Tryz.ntmps176]) fun a0 hF => ?_
 simp only [Tryz.ntmps176, startT] at hF
 obtain ⟨B, hB⟩ := eqv (std)
 apply wp_seq
 apply rgB hB TA_ok [2, 3, 4, 5] [2, 3, 4, 5] [] hF
 ·intro A X; conv => lhs; cbv
 ·intro X; subst hB; simp [AO, Ob.holds, BE.den, std, sC, sAr] <;> omega
 intro X0 a0 w1 hF
 apply wp_seq
 apply rgB hB TA_ok [7, 2, 3, 4, 5] [2, 3, 4, 5] [] hF
 ·intro A X; conv => lhs; cbv
 ·intro X; subst hB; simp [AO, Ob.holds, BE.den, std, sC, sAr] <;> omega
 intro X1 a0 w1 hF
 have SC := hash_m 3 (X0 1).b A n c f hn l hb0 hki
 obtain ⟨ca, hca⟩ := eqv (decide ((covL l (firsts f n)).length = n))
 rw [← hca] at SC
 unfold rowI at SC
 apply wp_seq
 refine wp_block ?_
 apply wp_seq
 refine wp_region_lit ?_
 apply list_preB 0 9 hB TA_ok [24, 7, 2, 3, 4, 5] [2, 3, 4, 5] [(1, .r fun _ => .bool (.v ir)), (5, .r fun _ => .bool (.v il)), (12, .x fun _ => ⟨.bool (.v (!ca)), [(3, [.int .i64 l.len, .int .u64 l.bits])], []⟩)] hF
 ·intro A X; conv => lhs; cbv
 ·intro X; subst hB; repeat (first | exact trivial | refine ⟨rfl, ?_⟩ | refine ⟨fun _ => rfl, ?_⟩ | refine ⟨ob_lab (Kk := noK) _ _ _ _, ?_⟩ | refine ⟨fun _ => ob_lab (Kk := noK) _ _ _ _, ?_⟩ | refine ⟨⟨enters66, SI⟩, ?_⟩ | refine ⟨fun _ => ⟨enters66, SI⟩, ?_⟩ | refine ⟨⟨enters65, SL⟩, ?_⟩ | refine ⟨fun _ => ⟨enters65, SL⟩, ?_⟩)
 intro X2_0 a0 w1 hF
 replace hF := hF.headS (v' := .bool .ff) (Sim.bool (by subst hB; show (if (!ir) = true then true else !il) = false; rw [hil.1, hil.2]; rfl)) rfl
 apply leB 9 hB TA_ok [15, 2, 3, 4, 5] [2, 3, 4, 5] [(1, .r fun _ => .bool (.v ir)), (5, .r fun _ => .bool (.v il)), (12, .x fun _ => ⟨.bool (.v (!ca)), [(3, [.int .i64 l.len, .int .u64 l.bits])], []⟩)] hF
 ·intro A X; conv => lhs; cbv
 ·intro X; subst hB; repeat (first | exact trivial | refine ⟨rfl, ?_⟩ | refine ⟨fun _ => rfl, ?_⟩ | refine ⟨ob_lab (Kk := noK) _ _ _ _, ?_⟩ | refine ⟨fun _ => ob_lab (Kk := noK) _ _ _ _, ?_⟩ | refine ⟨⟨enters54, SC⟩, ?_⟩ | refine ⟨fun _ => ⟨enters54, SC⟩, ?_⟩)
 intro X2 a0 w1 hF
 apply test_ok hF rfl <;> intro hb hF
 ·have hcf : ca = false := by
   have h9 : (!ca) = true := by subst hB; exact hb
   cases ca <;> first | rfl | (cases h9)
  have hW : (halvR kd n f nx mk l) = (zeroRec, zeroRec, 1) := by unfold halvR; rw [← hir, ← hll, ← hca, hil.1, hil.2, hcf]; rfl
  apply wp_seq
  apply rgB hB TA_ok [4, 5, 6] [2, 3, 4, 5] [] hF
  ·intro A X; conv => lhs; cbv
  ·intro X; subst hB; repeat (first | exact trivial | refine ⟨rfl, ?_⟩ | refine ⟨fun _ => rfl, ?_⟩ | refine ⟨ob_lab (Kk := noK) _ _ _ _, ?_⟩ | refine ⟨fun _ => ob_lab (Kk := noK) _ _ _ _, ?_⟩)
  intro X3 a0 w1 hF
  refine wp_ret ?_
  refine ret_sim (fn := Tryz.f176) TA_ok hF (rs := [.cell 4 54, .cell 5 54, .tmp 6]) rfl (by conv => lhs; cbv) ?_ (⟨0, fun _ => none, fun _ => 0, fun _ => ⟨#[]⟩⟩) ?_
  ·simp [AO, Ob.holds]
  subst hB
  rw [hW]
  exact Sim.tup ⟨Sim.agg ⟨zr, zq0, zr, zr, zr, trivial⟩, Sim.agg ⟨zr, zq0, zr, zr, zr, trivial⟩, zr, trivial⟩
 have hct : ca = true := by
  have h9 : (!ca) = false := by subst hB; exact hb
  cases ca <;> first | rfl | (cases h9)
 have hcn := of_decide_eq_true (hca.symm.trans hct)
 have hcc := cov_firsts.1 hcn
 apply wp_seq
 apply rgB hB TA_ok [32, 2, 3, 4, 5] [2, 3, 4, 5] [] hF
 ·intro A X; conv => lhs; cbv
 ·intro X; subst hB; simp [AO, Ob.holds, BE.den, std, sC, sAr] <;> omega
 intro X4 a0 w1 hF
 apply test_ok hF rfl <;> intro hb hF
 ·have h9 : (if (!decide (kd = 1)) = true then !decide (kd = 3) else false) = true := by subst hB; exact hb
  have hk : kd ≠ 1 ∧ kd ≠ 3 := by
   rw [ite_and] at h9
   simpa using h9
  have hW : (halvR kd n f nx mk l) = (zeroRec, zeroRec, 13) := by unfold halvR; rw [← hir, ← hll, ← hca, hil.1, hil.2, hct, if_neg (by decide), if_pos hk]
  apply wp_seq
  apply rgB hB TA_ok [4, 5, 6] [2, 3, 4, 5] [] hF
  ·intro A X; conv => lhs; cbv
  ·intro X; subst hB; repeat (first | exact trivial | refine ⟨rfl, ?_⟩ | refine ⟨fun _ => rfl, ?_⟩ | refine ⟨ob_lab (Kk := noK) _ _ _ _, ?_⟩ | refine ⟨fun _ => ob_lab (Kk := noK) _ _ _ _, ?_⟩)
  intro X5 a0 w1 hF
  refine wp_ret ?_
  refine ret_sim (fn := Tryz.f176) TA_ok hF (rs := [.cell 4 54, .cell 5 54, .tmp 6]) rfl (by conv => lhs; cbv) ?_ (⟨0, fun _ => none, fun _ => 0, fun _ => ⟨#[]⟩⟩) ?_
  ·simp [AO, Ob.holds]
  subst hB
  rw [hW]
  exact Sim.tup ⟨Sim.agg ⟨zr, zq0, zr, zr, zr, trivial⟩, Sim.agg ⟨zr, zq0, zr, zr, zr, trivial⟩, zr, trivial⟩
 have h9 : (if (!decide (kd = 1)) = true then !decide (kd = 3) else false) = false := by subst hB; exact hb
 have hk : ¬ (kd ≠ 1 ∧ kd ≠ 3) := by
  intro h
  rw [ite_and] at h9
  simp [h.1, h.2] at h9
 apply wp_seq
 apply rgB hB TA_ok [43, 2, 3, 4, 5] [2, 3, 4, 5] [] hF
 ·intro A X; conv => lhs; cbv
 ·intro X; subst hB; repeat (first | exact trivial | refine ⟨rfl, ?_⟩ | refine ⟨fun _ => rfl, ?_⟩ | refine ⟨ob_lab (Kk := noK) _ _ _ _, ?_⟩ | refine ⟨fun _ => ob_lab (Kk := noK) _ _ _ _, ?_⟩)
 intro X6 a0 w1 hF
 apply test_ok hF rfl <;> intro hb hF
 ·have h64 : l.len = 64 := by subst hB; simpa [std, sC] using hb
  have hW : (halvR kd n f nx mk l) = (zeroRec, zeroRec, 5) := by unfold halvR; rw [← hir, ← hll, ← hca, hil.1, hil.2, hct, if_neg (by decide), if_neg hk, if_pos h64]
  apply wp_seq
  apply rgB hB TA_ok [4, 5, 6] [2, 3, 4, 5] [] hF
  ·intro A X; conv => lhs; cbv
  ·intro X; subst hB; repeat (first | exact trivial | refine ⟨rfl, ?_⟩ | refine ⟨fun _ => rfl, ?_⟩ | refine ⟨ob_lab (Kk := noK) _ _ _ _, ?_⟩ | refine ⟨fun _ => ob_lab (Kk := noK) _ _ _ _, ?_⟩)
  intro X7 a0 w1 hF
  refine wp_ret ?_
  refine ret_sim (fn := Tryz.f176) TA_ok hF (rs := [.cell 4 54, .cell 5 54, .tmp 6]) rfl (by conv => lhs; cbv) ?_ (⟨0, fun _ => none, fun _ => 0, fun _ => ⟨#[]⟩⟩) ?_
  ·simp [AO, Ob.holds]
  subst hB
  rw [hW]
  exact Sim.tup ⟨Sim.agg ⟨zr, zq0, zr, zr, zr, trivial⟩, Sim.agg ⟨zr, zq0, zr, zr, zr, trivial⟩, zr, trivial⟩
 have h64 : l.len ≠ 64 := by subst hB; simpa [std, sC] using hb
 obtain ⟨k, hk1⟩ := eqv (childL l 1)
 have SCH := child_s l hb0 1 (.inr rfl)
 rw [(ch_ok (b := 1) hLt h64).1, (ch_ok (b := 1) hLt h64).2, ← hk1] at SCH
 simp only [labAV] at SCH
 have SA := at_s A n c f hn k.bits
 obtain ⟨p, hp⟩ := eqv (bsF f k.bits 0 n)
 rw [← hp] at SA
 rw [hk1] at hp
 obtain ⟨hpn, hc0, hc1⟩ := half_lists hok hki hLt hb0 h64 hcc hp
 generalize hitF f k.bits n p = hh at SA
 unfold rowI at SA
 have hW : (halvR kd n f nx mk l) = (⟨1, covL (childL l 0) (firsts f n), childL l 1, 0⟩, ⟨1, covL (childL l 1) (firsts f n), nx, 0⟩, 0) := by unfold halvR; rw [← hir, ← hll, ← hca, hil.1, hil.2, hct, if_neg (by decide), if_neg hk, if_neg h64]
 rw [hc0, hc1, ← hk1] at hW
 have SC0 := fun A c => clone_sf A p c f (by omega)
 obtain ⟨r, hr⟩ := eqv (n - p)
 rw [← hr] at hW
 have SC1 := fun A c => clone_sf A r c (fun j => f (p + j)) (by omega)
 unfold rowI at SC0 SC1
 refine wp_skip ?_
 apply wp_seq
 apply rgB hB TA_ok [2, 4, 5, 8] [2, 8, 4, 5] [(1, .r fun _ => .tup [.agg [.int .i64 k.len, .int .u64 k.bits], .int .i64 0])] hF
 ·intro A X; conv => lhs; cbv
 ·intro X; subst hB; repeat (first | exact trivial | refine ⟨rfl, ?_⟩ | refine ⟨fun _ => rfl, ?_⟩ | refine ⟨ob_lab (Kk := noK) _ _ _ _, ?_⟩ | refine ⟨fun _ => ob_lab (Kk := noK) _ _ _ _, ?_⟩ | refine ⟨⟨enters90, SCH⟩, ?_⟩ | refine ⟨fun _ => ⟨enters90, SCH⟩, ?_⟩)
 intro X8 a0 w1 hF
 apply wp_seq
 apply rgB hB TA_ok [2, 4, 5, 8, 10] [2, 8, 4, 5] [(4, .r fun _ => .tup [.int .i64 (p : Int), .bool (.v hh)])] hF
 ·intro A X; conv => lhs; cbv
 ·intro X; subst hB; repeat (first | exact trivial | refine ⟨rfl, ?_⟩ | refine ⟨fun _ => rfl, ?_⟩ | refine ⟨ob_lab (Kk := noK) _ _ _ _, ?_⟩ | refine ⟨fun _ => ob_lab (Kk := noK) _ _ _ _, ?_⟩ | refine ⟨⟨enters186, SA⟩, ?_⟩ | refine ⟨fun _ => ⟨enters186, SA⟩, ?_⟩)
 intro X9 a0 w1 hF
 apply wp_seq
 apply drB hB (by kernel_rfl) TA_ok [2, 4, 5, 8, 10, 12] [2, 8, 12, 4, 5] [(4, .r fun x => .sl none (x.A 0) p (x.c 0) 2 (fun i => itC (f i)))] hF rfl
 case hex => intro A X; conv => lhs; cbv
 case hD => kernel_rfl
 case hlen => rfl
 case hob =>
  intro X
  subst hB
  refine ⟨rfl, ?_⟩
  refine ⟨⟨Int.le_refl _, show (0 : Int) ≤ (p : Int) by omega, show (p : Int) ≤ (n : Int) by omega⟩, ?_⟩
  refine ⟨⟨enters52, (SC0 _ _).sim ⟨Sim.resl (Nat.sub_zero p) (fun i hi => by show itC (f (0 + i)) = itC (f i); rw [Nat.zero_add]), trivial⟩⟩, ?_⟩
  repeat (first | exact trivial | refine ⟨rfl, ?_⟩ | refine ⟨⟨enters52, (SC0 _ _).sim ⟨Sim.resl (Nat.sub_zero p) (fun i hi => by show itC (f (0 + i)) = itC (f i); rw [Nat.zero_add]), trivial⟩⟩, ?_⟩ | refine ⟨⟨Int.le_refl _, show (0 : Int) ≤ (p : Int) by omega, show (p : Int) ≤ (n : Int) by omega⟩, ?_⟩ | refine ⟨⟨show (0 : Int) ≤ 0 by omega, show (0 : Int) ≤ (p : Int) by omega, show (p : Int) ≤ (c : Int) by omega⟩, ?_⟩)
 case hQ =>
 intro X10 a0 w1 hF
 apply wp_seq
 apply drB hB (by kernel_rfl) TA_ok [4, 5, 12, 13] [12, 13, 4, 5] [(4, .r fun x => .sl none (x.A 0) r (x.c 0) 2 (fun i => itC (f (p + i))))] hF rfl
 case hex => intro A X; conv => lhs; cbv
 case hD => kernel_rfl
 case hlen => rfl
 case hob =>
  intro X
  subst hB
  repeat (first | exact trivial | refine ⟨rfl, ?_⟩ | refine ⟨⟨enters52, (SC1 _ _).sim ⟨Sim.resl (show _ = r by rw [hr]; rfl) (fun i hi => rfl), trivial⟩⟩, ?_⟩ | refine ⟨⟨show (0 : Int) ≤ (p : Int) by omega, show (p : Int) ≤ (n : Int) by omega, Int.le_refl _⟩, ?_⟩)
 case hQ =>
 intro X11 a0 w1 hF
 apply wp_seq
 apply drB hB (by kernel_rfl) TA_ok [4, 5, 6] [4, 5] [] hF rfl
 case hex => intro A X; conv => lhs; cbv
 case hD => kernel_rfl
 case hlen => rfl
 case hob =>
  intro X
  subst hB
  repeat (first | exact trivial | refine ⟨rfl, ?_⟩ | refine ⟨fun _ => rfl, ?_⟩ | refine ⟨ob_lab (Kk := noK) _ _ _ _, ?_⟩ | refine ⟨fun _ => ob_lab (Kk := noK) _ _ _ _, ?_⟩)
 case hQ =>
 intro X12 a0 w1 hF
 refine wp_ret ?_
 refine ret_sim (fn := Tryz.f176) TA_ok hF (rs := [.cell 4 54, .cell 5 54, .tmp 6]) rfl (by conv => lhs; cbv) ?_ (⟨0, fun i => if i = 0 then (X10 4).A 0 else (X11 4).A 0, fun i => if i = 0 then (X10 4).c 0 else (X11 4).c 0, fun _ => ⟨#[]⟩⟩) ?_
 ·simp [AO, Ob.holds]
 subst hB
 rw [hW]
 exact Sim.tup ⟨Sim.agg ⟨zr, Sim.resl (firsts_len f p).symm (fun t ht => by rw [firsts_len] at ht; rw [firsts_get f p t ht]), zr, zr, zr, trivial⟩, Sim.agg ⟨zr, Sim.resl (firsts_len _ r).symm (fun t ht => by rw [firsts_len] at ht; rw [firsts_get _ r t ht]), zr, zr, zr, trivial⟩, zr, trivial⟩
theorem enters161 : Enters Tryz.prog 161 := fun _ _ => by kernel_rfl
theorem rhalves_s (A : Option Addr) (n c : Nat) (f : Nat → Itm) (hn : n ≤ 1000000) (kd : Int) (nx : Lab) (mk : Int) (hv : U64 nx.bits) (hki : ∀ i, i < n → U64 (f i).key) (l : Lab) (hb0 : U64 l.bits) : Spec Tryz.prog 161 [recI A n c f kd nx mk, labAV l] (fun x => .tup [recAV (x.A 0) (x.c 0) (halvR kd n f nx mk l).1, recAV (x.A 1) (x.c 1) (halvR kd n f nx mk l).2.1, .int .i64 (halvR kd n f nx mk l).2.2]) := by
 intro m w hm hargs
 have hmx : maxLen = 9223372036854775807 := rfl
 have SI := risR_s A n c f (by omega) kd nx mk hv
 have SL := risL_s l hb0
 have SV := covd_s A n c f hn kd nx mk l hb0 hki
 unfold recI rowI at SI SV hargs
 simp only [labAV] at SL SV hargs
 obtain ⟨ir, hir⟩ := eqv (isRF kd n f nx mk)
 obtain ⟨il, hll⟩ := eqv (isL l)
 rw [← hir] at SI
 rw [← hll] at SL
 obtain ⟨n1, hn1⟩ := eqv ((covL l (firsts f n)).length)
 obtain ⟨g1, hg1⟩ := eqv (itF (covL l (firsts f n)))
 rw [← hn1, ← hg1] at SV
 refine enter hm hargs Tryz.func161 rfl (by simp [Tryz.ntmps161]) fun a0 hF => ?_
 simp only [Tryz.ntmps161, startT] at hF
 obtain ⟨B, hB⟩ := eqv (std)
 apply wp_seq
 apply rgB hB TA_ok [2, 3, 4, 5] [2, 3, 4, 5] [] hF
 ·intro A X; conv => lhs; cbv
 ·intro X; subst hB; simp [AO, Ob.holds, BE.den, std, sC, sAr] <;> omega
 intro X0 a0 w1 hF
 refine wp_seq (wp_seq ?_)
 apply drB hB (by kernel_rfl) TA_ok [30, 2, 3, 4, 5] [2, 3, 4, 5] [(1, .r fun _ => .bool (.v ir)), (5, .r fun _ => .bool (.v il)), (11, .r fun x => .sl none (x.A 0) n1 (x.c 0) 2 (fun i => itC (g1 i)))] hF rfl
 case hex => intro A X; conv => lhs; cbv
 case hD => kernel_rfl
 case hlen => rfl
 case hob =>
  intro X
  subst hB
  repeat (first | exact trivial | refine ⟨rfl, ?_⟩ | refine ⟨fun _ => rfl, ?_⟩ | refine ⟨ob_lab (Kk := noK) _ _ _ _, ?_⟩ | refine ⟨fun _ => ob_lab (Kk := noK) _ _ _ _, ?_⟩ | refine ⟨⟨enters88, SI⟩, ?_⟩ | refine ⟨fun _ => ⟨enters88, SI⟩, ?_⟩ | refine ⟨⟨enters86, SL⟩, ?_⟩ | refine ⟨fun _ => ⟨enters86, SL⟩, ?_⟩ | refine ⟨⟨enters182, SV⟩, ?_⟩ | refine ⟨fun _ => ⟨enters182, SV⟩, ?_⟩)
 case hQ =>
 intro X1 a0 w1 hF
 apply test_ok hF rfl <;> intro hb hF
 ·have h9 : (if (if (!ir) = true then true else !il) = true then true else !decide ((n1 : Int) = (n : Int))) = true := by subst hB; exact hb
  have hW : (halvR kd n f nx mk l) = (zeroRec, zeroRec, 1) := by
   unfold halvR; rw [← hir, ← hll, ← hn1]
   have : (ir && il && decide (n1 = n)) = false := by
    cases ir <;> cases il <;> first | rfl | (simp at h9 ⊢; omega)
   rw [this]; rfl
  apply wp_seq
  apply rgB hB TA_ok [4, 5, 6] [4, 5] [] hF
  ·intro A X; conv => lhs; cbv
  ·intro X; subst hB; repeat (first | exact trivial | refine ⟨rfl, ?_⟩ | refine ⟨fun _ => rfl, ?_⟩ | refine ⟨ob_lab (Kk := noK) _ _ _ _, ?_⟩ | refine ⟨fun _ => ob_lab (Kk := noK) _ _ _ _, ?_⟩)
  intro X2 a0 w1 hF
  refine wp_ret ?_
  refine ret_sim (fn := Tryz.f161) TA_ok hF (rs := [.cell 4 54, .cell 5 54, .tmp 6]) rfl (by conv => lhs; cbv) ?_ (⟨0, fun _ => none, fun _ => 0, fun _ => ⟨#[]⟩⟩) ?_
  ·simp [AO, Ob.holds]
  subst hB
  rw [hW]
  exact Sim.tup ⟨Sim.agg ⟨zr, zq0, zr, zr, zr, trivial⟩, Sim.agg ⟨zr, zq0, zr, zr, zr, trivial⟩, zr, trivial⟩
 have h9 : (if (if (!ir) = true then true else !il) = true then true else !decide ((n1 : Int) = (n : Int))) = false := by subst hB; exact hb
 have hirt : ir = true := by cases ir <;> first | rfl | (simp at h9)
 have hilt : il = true := by rw [hirt] at h9; cases il <;> first | rfl | (simp at h9)
 have hnn : n1 = n := by
  rw [hirt, hilt] at h9
  simp at h9
  omega
 have hLt : isL l = true := by rw [← hll]; exact hilt
 obtain ⟨hl0, hl1, hl2⟩ := lab_parts hLt
 obtain ⟨hkd1, hkd5, hn16, hnl, hok⟩ := isRF_kind (hir.symm.trans hirt)
 have hcn : (covL l (firsts f n)).length = n := by rw [← hn1]; exact hnn
 refine wp_skip ?_
 refine wp_seq (wp_seq ?_)
 apply rgB hB TA_ok [40, 2, 3, 4, 5] [2, 3, 4, 5] [] hF
 ·intro A X; conv => lhs; cbv
 ·intro X; subst hB; simp [AO, Ob.holds, BE.den, std, sC, sAr] <;> omega
 intro X3 a0 w1 hF
 apply test_ok hF rfl <;> intro hb hF
 ·have h9 : (if (!decide (kd = 1)) = true then !decide (kd = 3) else false) = true := by subst hB; exact hb
  have hk : kd ≠ 1 ∧ kd ≠ 3 := by
   rw [ite_and] at h9
   simpa using h9
  have hW : (halvR kd n f nx mk l) = (zeroRec, zeroRec, 13) := by unfold halvR; rw [← hir, ← hll, hcn, hirt, hilt, decide_eq_true rfl, if_neg (by decide), if_pos hk]
  apply wp_seq
  apply rgB hB TA_ok [4, 5, 6] [4, 5] [] hF
  ·intro A X; conv => lhs; cbv
  ·intro X; subst hB; repeat (first | exact trivial | refine ⟨rfl, ?_⟩ | refine ⟨fun _ => rfl, ?_⟩ | refine ⟨ob_lab (Kk := noK) _ _ _ _, ?_⟩ | refine ⟨fun _ => ob_lab (Kk := noK) _ _ _ _, ?_⟩)
  intro X4 a0 w1 hF
  refine wp_ret ?_
  refine ret_sim (fn := Tryz.f161) TA_ok hF (rs := [.cell 4 54, .cell 5 54, .tmp 6]) rfl (by conv => lhs; cbv) ?_ (⟨0, fun _ => none, fun _ => 0, fun _ => ⟨#[]⟩⟩) ?_
  ·simp [AO, Ob.holds]
  subst hB
  rw [hW]
  exact Sim.tup ⟨Sim.agg ⟨zr, zq0, zr, zr, zr, trivial⟩, Sim.agg ⟨zr, zq0, zr, zr, zr, trivial⟩, zr, trivial⟩
 have h9 : (if (!decide (kd = 1)) = true then !decide (kd = 3) else false) = false := by subst hB; exact hb
 have hk : ¬ (kd ≠ 1 ∧ kd ≠ 3) := by
  intro h
  rw [ite_and] at h9
  simp [h.1, h.2] at h9
 refine wp_skip ?_
 refine wp_seq (wp_seq ?_)
 apply rgB hB TA_ok [45, 2, 3, 4, 5] [2, 3, 4, 5] [] hF
 ·intro A X; conv => lhs; cbv
 ·intro X; subst hB; repeat (first | exact trivial | refine ⟨rfl, ?_⟩ | refine ⟨fun _ => rfl, ?_⟩ | refine ⟨ob_lab (Kk := noK) _ _ _ _, ?_⟩ | refine ⟨fun _ => ob_lab (Kk := noK) _ _ _ _, ?_⟩)
 intro X5 a0 w1 hF
 apply test_ok hF rfl <;> intro hb hF
 ·have h64 : l.len = 64 := by subst hB; simpa [std, sC] using hb
  have hW : (halvR kd n f nx mk l) = (zeroRec, zeroRec, 5) := by unfold halvR; rw [← hir, ← hll, hcn, hirt, hilt, decide_eq_true rfl, if_neg (by decide), if_neg hk, if_pos h64]
  apply wp_seq
  apply rgB hB TA_ok [4, 5, 6] [4, 5] [] hF
  ·intro A X; conv => lhs; cbv
  ·intro X; subst hB; repeat (first | exact trivial | refine ⟨rfl, ?_⟩ | refine ⟨fun _ => rfl, ?_⟩ | refine ⟨ob_lab (Kk := noK) _ _ _ _, ?_⟩ | refine ⟨fun _ => ob_lab (Kk := noK) _ _ _ _, ?_⟩)
  intro X6 a0 w1 hF
  refine wp_ret ?_
  refine ret_sim (fn := Tryz.f161) TA_ok hF (rs := [.cell 4 54, .cell 5 54, .tmp 6]) rfl (by conv => lhs; cbv) ?_ (⟨0, fun _ => none, fun _ => 0, fun _ => ⟨#[]⟩⟩) ?_
  ·simp [AO, Ob.holds]
  subst hB
  rw [hW]
  exact Sim.tup ⟨Sim.agg ⟨zr, zq0, zr, zr, zr, trivial⟩, Sim.agg ⟨zr, zq0, zr, zr, zr, trivial⟩, zr, trivial⟩
 have h64 : l.len ≠ 64 := by subst hB; simpa [std, sC] using hb
 obtain ⟨k0, hk0⟩ := eqv (childL l 0)
 have SCH0 := rchild_s l hb0 0 (by decide)
 rw [(ch_ok (b := 0) hLt h64).1, (ch_ok (b := 0) hLt h64).2, ← hk0] at SCH0
 have SV0 := covd_s A n c f hn kd nx mk k0 (by rw [hk0]; exact child_u hLt hb0 h64 0) hki
 obtain ⟨m0, hm0⟩ := eqv ((covL k0 (firsts f n)).length)
 obtain ⟨h0, hh0⟩ := eqv (itF (covL k0 (firsts f n)))
 rw [← hm0, ← hh0] at SV0
 unfold recI rowI at SV0
 simp only [labAV] at SCH0 SV0
 obtain ⟨k1, hk1⟩ := eqv (childL l 1)
 have SCH1 := rchild_s l hb0 1 (by decide)
 rw [(ch_ok (b := 1) hLt h64).1, (ch_ok (b := 1) hLt h64).2, ← hk1] at SCH1
 have SV1 := covd_s A n c f hn kd nx mk k1 (by rw [hk1]; exact child_u hLt hb0 h64 1) hki
 obtain ⟨m1, hm1⟩ := eqv ((covL k1 (firsts f n)).length)
 obtain ⟨h1, hh1⟩ := eqv (itF (covL k1 (firsts f n)))
 rw [← hm1, ← hh1] at SV1
 unfold recI rowI at SV1
 simp only [labAV] at SCH1 SV1
 have hW : (halvR kd n f nx mk l) = (⟨1, covL k0 (firsts f n), k1, 0⟩, ⟨1, covL k1 (firsts f n), nx, 0⟩, 0) := by unfold halvR; rw [← hir, ← hll, hcn, hirt, hilt, decide_eq_true rfl, if_neg (by decide), if_neg hk, if_neg h64, hk0, hk1]
 refine wp_skip ?_
 apply wp_seq
 apply rgB hB TA_ok [2, 3, 4, 5, 7] [2, 3, 4, 5, 7] [(1, .r fun _ => .tup [.agg [.int .i64 k0.len, .int .u64 k0.bits], .int .i64 0])] hF
 ·intro A X; conv => lhs; cbv
 ·intro X; subst hB; repeat (first | exact trivial | refine ⟨rfl, ?_⟩ | refine ⟨fun _ => rfl, ?_⟩ | refine ⟨ob_lab (Kk := noK) _ _ _ _, ?_⟩ | refine ⟨fun _ => ob_lab (Kk := noK) _ _ _ _, ?_⟩ | refine ⟨⟨enters92, SCH0⟩, ?_⟩ | refine ⟨fun _ => ⟨enters92, SCH0⟩, ?_⟩)
 intro X7 a0 w1 hF
 apply wp_seq
 apply rgB hB TA_ok [2, 4, 5, 7, 9] [2, 4, 5, 7, 9] [(1, .r fun _ => .tup [.agg [.int .i64 k1.len, .int .u64 k1.bits], .int .i64 0])] hF
 ·intro A X; conv => lhs; cbv
 ·intro X; subst hB; repeat (first | exact trivial | refine ⟨rfl, ?_⟩ | refine ⟨fun _ => rfl, ?_⟩ | refine ⟨ob_lab (Kk := noK) _ _ _ _, ?_⟩ | refine ⟨fun _ => ob_lab (Kk := noK) _ _ _ _, ?_⟩ | refine ⟨⟨enters92, SCH1⟩, ?_⟩ | refine ⟨fun _ => ⟨enters92, SCH1⟩, ?_⟩)
 intro X8 a0 w1 hF
 apply wp_seq
 apply drB hB (by kernel_rfl) TA_ok [2, 4, 5, 9, 11] [2, 4, 5, 9, 11] [(2, .r fun x => .sl none (x.A 0) m0 (x.c 0) 2 (fun i => itC (h0 i)))] hF rfl
 case hex => intro A X; conv => lhs; cbv
 case hD => kernel_rfl
 case hlen => rfl
 case hob =>
  intro X
  subst hB
  repeat (first | exact trivial | refine ⟨rfl, ?_⟩ | refine ⟨fun _ => rfl, ?_⟩ | refine ⟨ob_lab (Kk := noK) _ _ _ _, ?_⟩ | refine ⟨fun _ => ob_lab (Kk := noK) _ _ _ _, ?_⟩ | refine ⟨⟨enters182, SV0⟩, ?_⟩ | refine ⟨fun _ => ⟨enters182, SV0⟩, ?_⟩)
 case hQ =>
 intro X9 a0 w1 hF
 apply wp_seq
 apply drB hB (by kernel_rfl) TA_ok [4, 5, 11, 12] [4, 5, 11, 12] [(2, .r fun x => .sl none (x.A 0) m1 (x.c 0) 2 (fun i => itC (h1 i)))] hF rfl
 case hex => intro A X; conv => lhs; cbv
 case hD => kernel_rfl
 case hlen => rfl
 case hob =>
  intro X
  subst hB
  repeat (first | exact trivial | refine ⟨rfl, ?_⟩ | refine ⟨fun _ => rfl, ?_⟩ | refine ⟨ob_lab (Kk := noK) _ _ _ _, ?_⟩ | refine ⟨fun _ => ob_lab (Kk := noK) _ _ _ _, ?_⟩ | refine ⟨⟨enters182, SV1⟩, ?_⟩ | refine ⟨fun _ => ⟨enters182, SV1⟩, ?_⟩)
 case hQ =>
 intro X10 a0 w1 hF
 apply wp_seq
 apply drB hB (by kernel_rfl) TA_ok [4, 5, 6] [4, 5] [] hF rfl
 case hex => intro A X; conv => lhs; cbv
 case hD => kernel_rfl
 case hlen => rfl
 case hob =>
  intro X
  subst hB
  repeat (first | exact trivial | refine ⟨rfl, ?_⟩ | refine ⟨fun _ => rfl, ?_⟩ | refine ⟨ob_lab (Kk := noK) _ _ _ _, ?_⟩ | refine ⟨fun _ => ob_lab (Kk := noK) _ _ _ _, ?_⟩)
 case hQ =>
 intro X11 a0 w1 hF
 refine wp_ret ?_
 refine ret_sim (fn := Tryz.f161) TA_ok hF (rs := [.cell 4 54, .cell 5 54, .tmp 6]) rfl (by conv => lhs; cbv) ?_ (⟨0, fun i => if i = 0 then (X9 2).A 0 else (X10 2).A 0, fun i => if i = 0 then (X9 2).c 0 else (X10 2).c 0, fun _ => ⟨#[]⟩⟩) ?_
 ·simp [AO, Ob.holds]
 subst hB
 rw [hW]
 exact Sim.tup ⟨Sim.agg ⟨zr, Sim.resl hm0 (fun t ht => by rw [hh0]), zr, zr, zr, trivial⟩, Sim.agg ⟨zr, Sim.resl hm1 (fun t ht => by rw [hh1]), zr, zr, zr, trivial⟩, zr, trivial⟩
theorem two_pos {n : Nat} {m : Bool} (h : (if decide ((n : Int) > 0) = true then m else false) = true) : 0 < n ∧ m = true := by
 rw [ite_and, Bool.and_eq_true, decide_eq_true_eq] at h
 exact ⟨by omega, h.2⟩
theorem uni_ixA {n N : Nat} (hn : n ≤ 1000) (h : (if decide ((n : Int) > 0) = true then decide ((n : Int) < (N : Int)) else false) = true) : 0 ≤ IntKind.i64.wrap ((n : Int) - 1) ∧ IntKind.i64.wrap ((n : Int) - 1) < (N : Int) := by
 obtain ⟨h1, h2⟩ := two_pos h
 have h2 := of_decide_eq_true h2
 rw [wrap_in (by omega) (by omega)]
 omega
theorem uni_ixB {n N : Nat} (h : (if decide ((n : Int) > 0) = true then decide ((n : Int) < (N : Int)) else false) = true) : 0 ≤ (n : Int) ∧ (n : Int) < (N : Int) := by
 obtain ⟨h1, h2⟩ := two_pos h
 have h2 := of_decide_eq_true h2
 omega
theorem uni_ixC {n n2 : Nat} (hn : n ≤ 1000) (h : (if decide ((n : Int) > 0) = true then decide ((n2 : Int) > 0) else false) = true) : 0 ≤ IntKind.i64.wrap ((n : Int) - 1) ∧ IntKind.i64.wrap ((n : Int) - 1) < (n : Int) := by
 obtain ⟨h1, h2⟩ := two_pos h
 rw [wrap_in (by omega) (by omega)]
 omega
theorem uni_ixD {n n2 : Nat} (h : (if decide ((n : Int) > 0) = true then decide ((n2 : Int) > 0) else false) = true) : 0 ≤ (0 : Int) ∧ (0 : Int) < (n2 : Int) := by
 obtain ⟨h1, h2⟩ := two_pos h
 have h2 := of_decide_eq_true h2
 omega
def catF (n : Nat) (f f2 : Nat → Itm) : Nat → Itm := fun t => if t < n then f t else f2 (t - n)
def catL (NN : Nat → Nat) (FF : Nat → Nat → Itm) (k : Nat) : List Itm := (List.range k).flatMap fun i => firsts (FF i) (NN i)
theorem catL_succ (NN : Nat → Nat) (FF : Nat → Nat → Itm) (k : Nat) : catL NN FF (k + 1) = catL NN FF k ++ firsts (FF k) (NN k) := by simp [catL, List.range_succ]
theorem catL_two (n n2 : Nat) (f f2 : Nat → Itm) : catL (fun i => if i = 0 then n else n2) (fun i => if i = 0 then f else f2) 2 = firsts f n ++ firsts f2 n2 := by simp [catL, List.range_succ]
theorem catF_firsts (q m : Nat) (g h : Nat → Itm) : firsts (catF q g h) (q + m) = firsts g q ++ firsts h m := by
 rw [firsts_add]
 congr 1
 ·unfold firsts catF
  apply List.map_congr_left
  intro t ht
  rw [if_pos (List.mem_range.1 ht)]
 unfold firsts catF
 apply List.map_congr_left
 intro t ht
 rw [if_neg (by omega)]
 congr 1
 omega
theorem cat_at (f : Nat → Itm) (n : Nat) (f2 : Nat → Itm) (n2 t : Nat) (h : t < n + n2) : itF (firsts f n ++ firsts f2 n2) t = catF n f f2 t := by
 rw [← catF_firsts, firsts_get _ _ t h]
theorem ov_test (f : Nat → Itm) (n : Nat) (f2 : Nat → Itm) (n2 : Nat) (hn : n ≤ 1000) (hn2 : n2 ≤ 1000) {b : Bool} : (if b = true then true else (if (if decide ((n : Int) > 0) = true then decide ((n : Int) < ((n + n2 : Nat) : Int)) else false) = true then decide ((itF (firsts f n ++ firsts f2 n2) (IntKind.i64.wrap ((n : Int) - 1)).toNat).key ≥ (itF (firsts f n ++ firsts f2 n2) (n : Int).toNat).key) else false)) = (if b = true then true else ovl n f n2 f2) := by
 congr 1
 unfold ovl
 by_cases h1 : 0 < n
 ·by_cases h2 : 0 < n2
  ·have e1 : IntKind.i64.wrap ((n : Int) - 1) = (n : Int) - 1 := wrap_in (by omega) (by omega)
   rw [e1, Int.toNat_natCast, show ((n : Int) - 1).toNat = n - 1 by omega, cat_at _ _ _ _ _ (show n - 1 < n + n2 by omega), cat_at _ _ _ _ _ (show n < n + n2 by omega)]
   have c1 : catF n f f2 (n - 1) = f (n - 1) := by unfold catF; rw [if_pos (by omega)]
   have c2 : catF n f f2 n = f2 0 := by unfold catF; rw [if_neg (by omega), Nat.sub_self]
   rw [c1, c2]
   have a : decide ((n : Int) > 0) = true := by simp; omega
   have b : decide ((n : Int) < ((n + n2 : Nat) : Int)) = true := by simp; omega
   rw [a, b, decide_eq_true h1, decide_eq_true h2]
   simp
  have b : decide ((n : Int) < ((n + n2 : Nat) : Int)) = false := by simp; omega
  rw [b, decide_eq_false h2]
  simp
 have a : decide ((n : Int) > 0) = false := by simp; omega
 rw [a, decide_eq_false h1]
 simp
theorem ov_test2 (f : Nat → Itm) (n : Nat) (f2 : Nat → Itm) (n2 : Nat) (hn : n ≤ 1000) : (if (if decide ((n : Int) > 0) = true then decide ((n2 : Int) > 0) else false) = true then decide ((f (IntKind.i64.wrap ((n : Int) - 1)).toNat).key ≥ (f2 (0 : Int).toNat).key) else false) = ovl n f n2 f2 := by
 unfold ovl
 by_cases h1 : 0 < n
 ·have e1 : IntKind.i64.wrap ((n : Int) - 1) = (n : Int) - 1 := wrap_in (by omega) (by omega)
  have a : decide ((n : Int) > 0) = true := by simp; omega
  rw [e1, show ((n : Int) - 1).toNat = n - 1 by omega, a, decide_eq_true h1]
  by_cases h2 : 0 < n2
  ·have b : decide ((n2 : Int) > 0) = true := by simp; omega
   rw [b, decide_eq_true h2]
   simp
  have b : decide ((n2 : Int) > 0) = false := by simp; omega
  rw [b, decide_eq_false h2]
  simp
 have a : decide ((n : Int) > 0) = false := by simp; omega
 rw [a, decide_eq_false h1]
 simp
theorem kind_test (kd kd2 : Int) : ((if (if (!decide (kd = 1)) = true then !decide (kd = 5) else false) = true then true else (if (!decide (kd2 = 1)) = true then !decide (kd2 = 5) else false)) = true → ¬ (kd = 1 ∨ kd = 5) ∨ ¬ (kd2 = 1 ∨ kd2 = 5)) ∧
  ((if (if (!decide (kd = 1)) = true then !decide (kd = 5) else false) = true then true else (if (!decide (kd2 = 1)) = true then !decide (kd2 = 5) else false)) = false → ¬ (¬ (kd = 1 ∨ kd = 5) ∨ ¬ (kd2 = 1 ∨ kd2 = 5))) := by
 rw [ite_and, ite_and, ite_or]
 constructor
 ·intro h
  simp at h
  omega
 intro h
 simp at h
 omega
theorem enters191 : Enters Tryz.prog 191 := fun _ _ => by kernel_rfl
theorem enters187 : Enters Tryz.prog 187 := fun _ _ => by kernel_rfl
theorem concat_s (A0 : Option Addr) (k c0 : Nat) (AA : Nat → Option Addr) (NN CC : Nat → Nat) (FF : Nat → Nat → Itm) (hk : k ≤ 10) (hN : ∀ i, i < k → NN i ≤ 1000) : Spec Tryz.prog 187 [.sl none A0 k c0 1 (fun i => [.sl none (AA i) (NN i) (CC i) 2 (fun t => itC (FF i t))])] (fun x => rowI (x.A 0) (catL NN FF k).length (x.c 0) (itF (catL NN FF k))) := by
 intro m w hm hargs
 have hmx : maxLen = 9223372036854775807 := rfl
 refine enter hm hargs Tryz.func187 rfl (by simp [Tryz.ntmps187]) fun a0 hF => ?_
 simp only [Tryz.ntmps187, startT] at hF
 obtain ⟨B, hB⟩ := eqv (std)
 apply wp_seq
 apply rgB hB TA_ok [0] [] [] hF
 ·intro A X; conv => lhs; cbv
 ·intro X; subst hB; simp [AO, Ob.holds, BE.den, std, sC, sAr] <;> omega
 intro X0 a0 w1 hF
 apply wp_seq
 apply rgB hB TA_ok [3, 0] [] [] hF
 ·intro A X; conv => lhs; cbv
 ·intro X; subst hB; simp [AO, Ob.holds, BE.den, std, sC, sAr] <;> omega
 intro X1 a0 w1 hF
 refine wp_seq (wp_seq ?_)
 apply rgB hB TA_ok [3, 11, 0, 9, 10] [] [] hF
 ·intro A X; conv => lhs; cbv
 ·intro X; subst hB; simp [AO, Ob.holds, BE.den, std, sC, sAr] <;> omega
 intro X2 a0 w1 hF
 refine wp_block ?_
 refine loop_pre (ι := Nat × Nat) (fun p => [(3, .int .i64 (p.2 : Int)), (11, .int .i64 (p.1 : Int))]) (fun p => []) (fun p => []) (fun p => p.1 ≤ k ∧ p.2 = (catL NN FF p.1).length ∧ p.2 ≤ 1000 * p.1) (fun p => k - p.1) (0, 0) ⟨Nat.zero_le _, rfl, Nat.le_refl _⟩ hF ?_
 rintro ⟨i, z⟩ ⟨hi, hz, hzb⟩ a0 w1 hF
 try dsimp only at hi
 try dsimp only at hz
 try dsimp only at hzb
 apply wp_seq
 apply rgB hB TA_ok [12, 3, 11, 0, 9, 10] [] [] hF
 ·intro A X; conv => lhs; cbv
 ·intro X; subst hB; simp [AO, Ob.holds, BE.den, std, sC, sAr] <;> omega
 intro X3 a0 w1 hF
 apply wp_seq
 apply test_ok hF rfl <;> intro hb hF
 ·have hin : i < k := by
   have : (i : Int) < (k : Int) := by subst hB; simpa [std, sC] using hb
   omega
  have hNi := hN i hin
  refine wp_skip ?_
  apply wp_seq
  refine wp_block ?_
  apply wp_seq
  apply rgB hB TA_ok [5, 3, 11, 0, 9, 10] [] [] hF
  ·intro A X; conv => lhs; cbv
  ·intro X; subst hB; repeat (first | exact trivial | refine ⟨rfl, ?_⟩ | refine ⟨⟨show (0 : Int) ≤ (i : Int) by omega, show (i : Int) < (k : Int) by omega⟩, ?_⟩)
  intro X4 a0 w1 hF
  apply wp_seq
  apply rgB hB TA_ok [3, 11, 0, 9, 10] [] [] hF
  ·intro A X; conv => lhs; cbv
  ·intro X; subst hB; simp [AO, Ob.holds, BE.den, std, sC, sAr] <;> omega
  intro X5 a0 w1 hF
  obtain ⟨z2, hz2⟩ := eqv (z + NN i)
  replace hF := hF.head (v' := .int .i64 (z2 : Int)) (by
   subst hB
   show AV.int .i64 (IntKind.i64.wrap ((z : Int) + (NN i : Int))) = _
   rw [wrap_in (by omega) (by omega), hz2]; rfl)
  apply wp_seq
  apply rgB hB TA_ok [20, 3, 11, 0, 9, 10] [] [] hF
  ·intro A X; conv => lhs; cbv
  ·intro X; subst hB; simp [AO, Ob.holds, BE.den, std, sC, sAr] <;> omega
  intro X6 a0 w1 hF
  apply test_ok hF rfl <;> intro hb hF
  ·exfalso
   have : (z2 : Int) < 0 := by subst hB; simpa [std, sC] using hb
   omega
  skip
  refine wp_skip ?_
  apply rgB hB TA_ok [3, 11, 0, 9, 10] [] [] hF
  ·intro A X; conv => lhs; cbv
  ·intro X; subst hB; simp [AO, Ob.holds, BE.den, std, sC, sAr] <;> omega
  intro X8 a0 w1 hF
  have e : B.arith .add .i64 (i : Int) 1 = ((i + 1 : Nat) : Int) := by subst hB; exact wrap_succ (n := k) hin (by omega)
  refine ⟨(i + 1, z2), ⟨by simp only; omega, ?_, by simp only; omega⟩, by simp only; omega, by rw [← e]; exact hF⟩
  simp only
  rw [hz2, catL_succ, List.length_append, firsts_len, ← hz]
 have hout : i = k := by
  have : ¬ (i : Int) < (k : Int) := by subst hB; simpa [std, sC] using hb
  omega
 rw [hout] at hz hzb
 refine wp_exit ?_
 apply wp_seq
 refine wp_region_lit ?_
 apply list_preB 0 1 hB TA_ok [23, 0] [] [] hF
 ·intro A X; conv => lhs; cbv
 ·intro X; subst hB; simp [AO, Ob.holds, BE.den, std, sC, sAr] <;> omega
 intro X9_0 a0 w1 hF
 have ev := eval_int hF (t := 23) (k := .i64) (n := (z : Int)) rfl
 refine man_fresh2 (argv := #[.slice none 0 0, .int .i64 (z : Int)]) rfl rfl rfl rfl rfl hF (by have e2 := ev; simp [Act.eval] at e2 ⊢; exact e2) enters191 (by show 24 < 36; decide) (e := 85) (k := 2) (by decide) (fun t => itC zeroItm) (grow_c w1 z (by omega)) ?_
 intro A9 c9 a0 w1 hF
 apply leB 2 hB TA_ok [6, 0] [24] [] hF
 ·intro A X; conv => lhs; cbv
 ·intro X; subst hB; simp [AO, Ob.holds, BE.den, std, sC, sAr] <;> omega
 intro X9 a0 w1 hF
 refine wp_seq (wp_seq ?_)
 apply rgB hB TA_ok [6, 27, 25, 26] [24] [] hF
 ·intro A X; conv => lhs; cbv
 ·intro X; subst hB; simp [AO, Ob.holds, BE.den, std, sC, sAr] <;> omega
 intro X10 a0 w1 hF
 refine wp_block ?_
 refine loop_pre (ι := Nat × Nat × (Nat → Itm) × Option Addr × Nat) (fun p => [(6, .sl (some 24) p.2.2.2.1 p.2.1 p.2.2.2.2 2 (fun t => itC (p.2.2.1 t))), (27, .int .i64 (p.1 : Int))]) (fun p => []) (fun p => [(24, ⟨p.2.2.2.1, p.2.1, p.2.2.2.2, 2, 85⟩)]) (fun p => p.1 ≤ k ∧ firsts p.2.2.1 p.2.1 = catL NN FF p.1 ∧ p.2.1 ≤ 1000 * p.1) (fun p => k - p.1) (0, 0, fun _ => zeroItm, A9, c9) ⟨Nat.zero_le _, rfl, Nat.le_refl _⟩ hF ?_
 rintro ⟨i, q, g, A1, c1⟩ ⟨hi, hg, hqb⟩ a0 w1 hF
 try dsimp only at hi
 try dsimp only at hg
 try dsimp only at hqb
 apply wp_seq
 apply rgB hB TA_ok [28, 6, 27, 25, 26] [24] [] hF
 ·intro A X; conv => lhs; cbv
 ·intro X; subst hB; simp [AO, Ob.holds, BE.den, std, sC, sAr] <;> omega
 intro X11 a0 w1 hF
 apply wp_seq
 apply test_ok hF rfl <;> intro hb hF
 ·have hin : i < k := by
   have : (i : Int) < (k : Int) := by subst hB; simpa [std, sC] using hb
   omega
  have hNi := hN i hin
  refine wp_skip ?_
  apply wp_seq
  refine wp_block ?_
  apply wp_seq
  apply rgB hB TA_ok [8, 6, 27, 25, 26] [24] [] hF
  ·intro A X; conv => lhs; cbv
  ·intro X; subst hB; repeat (first | exact trivial | refine ⟨rfl, ?_⟩ | refine ⟨⟨show (0 : Int) ≤ (i : Int) by omega, show (i : Int) < (k : Int) by omega⟩, ?_⟩)
  intro X12 a0 w1 hF
  apply rgB hB TA_ok [6, 27, 25, 26] [24] [] hF
  ·intro A X; conv => lhs; cbv
  ·intro X; subst hB; repeat (first | exact trivial | refine ⟨⟨rfl, rfl, rfl⟩, ?_⟩ | refine ⟨⟨show q + NN i ≤ maxLen by omega, show (q + NN i) * _ ≤ _ by omega⟩, ?_⟩ | refine ⟨rfl, ?_⟩)
  intro X13 a0 w1 hF
  replace hF := hF.headS (v' := .sl (some 24) ((X13 2).A 0) (B.nadd q (NN (B.toNat (i : Int)))) ((X13 2).c 0) 2 (fun t => itC (catF q g (FF i) t))) (Sim.resl rfl (fun t ht => by
   subst hB
   show appC q (fun t => itC (g t)) (fun t => itC (FF i t)) t = _
   unfold appC catF
   split <;> rfl)) rfl
  apply rgB hB TA_ok [6, 27, 25, 26] [24] [] hF
  ·intro A X; conv => lhs; cbv
  ·intro X; subst hB; simp [AO, Ob.holds, BE.den, std, sC, sAr] <;> omega
  intro X14 a0 w1 hF
  have e : B.arith .add .i64 (i : Int) 1 = ((i + 1 : Nat) : Int) := by subst hB; exact wrap_succ (n := k) hin (by omega)
  refine ⟨(i + 1, q + NN i, catF q g (FF i), _, _), ⟨by simp only; omega, ?_, by simp only; omega⟩, by simp only; omega, by rw [← e, show q + NN i = B.nadd q (NN (B.toNat (i : Int))) by subst hB; rfl]; exact hF⟩
  simp only
  rw [catL_succ, catF_firsts, hg]
 have hout : i = k := by
  have : ¬ (i : Int) < (k : Int) := by subst hB; simpa [std, sC] using hb
  omega
 rw [hout] at hg
 refine wp_exit ?_
 apply wp_seq
 apply rgB hB TA_ok [2] [2, 33] [] hF
 ·intro A X; conv => lhs; cbv
 ·intro X; subst hB; simp [AO, Ob.holds, BE.den, std, sC, sAr] <;> omega
 intro X15 a0 w1 hF
 refine wp_ret ?_
 refine ret_sim (fn := Tryz.f187) TA_ok hF (rs := [.tmp 2]) rfl (rfl) ?_ (⟨0, fun _ => A1, fun _ => c1, fun _ => ⟨#[]⟩⟩) ?_
 ·simp [AO, Ob.holds]
 subst hB
 exact Sim.resl (by rw [← hg, firsts_len]) (fun t ht => by rw [← hg, firsts_len] at ht; rw [← hg, firsts_get _ _ t ht])
theorem enters188 : Enters Tryz.prog 188 := fun _ _ => by kernel_rfl
theorem fixed_s (A : Option Addr) (n c : Nat) (f : Nat → Itm) (hn : n ≤ 1000000) (kd : Int) (nx : Lab) (mk : Int) : Spec Tryz.prog 188 [recI A n c f kd nx mk] (fun _ => .bool (.v (decide (kd = 1) || decide (kd = 5)))) := by
 intro m w hm hargs
 unfold recI rowI at hargs
 refine enter hm hargs Tryz.func188 rfl (by simp [Tryz.ntmps188]) fun a0 hF => ?_
 simp only [Tryz.ntmps188, startT] at hF
 obtain ⟨B, hB⟩ := eqv (std)
 apply wp_seq
 apply rgB hB TA_ok [1] [1] [] hF
 ·intro A X; conv => lhs; cbv
 ·intro X; subst hB; simp [AO, Ob.holds, BE.den, std, sC, sAr] <;> omega
 intro X0 a0 w1 hF
 apply wp_seq
 apply rgB hB TA_ok [2] [] [] hF
 ·intro A X; conv => lhs; cbv
 ·intro X; subst hB; simp [AO, Ob.holds, BE.den, std, sC, sAr] <;> omega
 intro X1 a0 w1 hF
 refine wp_ret ?_
 refine ret_sim (fn := Tryz.f188) TA_ok hF (rs := [.tmp 2]) rfl (rfl) ?_ nAt ?_
 ·simp [AO, Ob.holds]
 subst hB
 exact Sim.bool (by show (if decide (kd = 1) = true then true else decide (kd = 5)) = _; rw [ite_or]; rfl)
theorem enters181 : Enters Tryz.prog 181 := fun _ _ => by kernel_rfl
theorem union_s (A : Option Addr) (n c : Nat) (f : Nat → Itm) (hn : n ≤ 1000) (kd : Int) (nx : Lab) (mk : Int) (hv : U64 nx.bits) (A2 : Option Addr) (n2 c2 : Nat) (f2 : Nat → Itm) (hn2 : n2 ≤ 1000) (kd2 : Int) (nx2 : Lab) (mk2 : Int) (hv2 : U64 nx2.bits) : Spec Tryz.prog 181 [recI A n c f kd nx mk, recI A2 n2 c2 f2 kd2 nx2 mk2] (fun x => .tup [recAV (x.A 0) (x.c 0) (uniR kd n f nx mk kd2 n2 f2 nx2 mk2).1, .int .i64 (uniR kd n f nx mk kd2 n2 f2 nx2 mk2).2]) := by
 intro m w hm hargs
 have hmx : maxLen = 9223372036854775807 := rfl
 have SI := isR_s A n c f (by omega) kd nx mk hv
 have SI2 := isR_s A2 n2 c2 f2 (by omega) kd2 nx2 mk2 hv2
 obtain ⟨i1, hi1⟩ := eqv (isRF kd n f nx mk)
 obtain ⟨i2, hi2⟩ := eqv (isRF kd2 n2 f2 nx2 mk2)
 obtain ⟨ov, hov⟩ := eqv (ovl n f n2 f2)
 rw [← hi1] at SI
 rw [← hi2] at SI2
 unfold recI rowI at SI SI2 hargs
 have SF := fixed_s A n c f (by omega) kd nx mk
 have SF2 := fixed_s A2 n2 c2 f2 (by omega) kd2 nx2 mk2
 unfold recI rowI at SF SF2
 obtain ⟨x1, hx1⟩ := eqv ((decide (kd = 1) || decide (kd = 5)))
 obtain ⟨x2, hx2⟩ := eqv ((decide (kd2 = 1) || decide (kd2 = 5)))
 rw [← hx1] at SF
 rw [← hx2] at SF2
 have SC := fun A0 => concat_s A0 2 2 (fun i => if i = 0 then A else A2) (fun i => if i = 0 then n else n2) (fun i => if i = 0 then c else c2) (fun i => if i = 0 then f else f2) (by decide) (fun i hi => by show (if i = 0 then n else n2) ≤ 1000; split <;> omega)
 rw [catL_two] at SC
 obtain ⟨N, hN⟩ := eqv ((firsts f n ++ firsts f2 n2).length)
 obtain ⟨g, hg⟩ := eqv (itF (firsts f n ++ firsts f2 n2))
 rw [← hN, ← hg] at SC
 have hNn : N = n + n2 := by rw [hN, List.length_append, firsts_len, firsts_len]
 have hot := ov_test (b := (if (!i1) = true then true else !i2)) f n f2 n2 (by omega) (by omega)
 rw [← hg, ← hNn, ← hov] at hot
 unfold rowI at SC
 refine enter hm hargs Tryz.func181 rfl (by simp [Tryz.ntmps181]) fun a0 hF => ?_
 simp only [Tryz.ntmps181, startT] at hF
 obtain ⟨B, hB⟩ := eqv (std)
 apply wp_seq
 apply rgB hB TA_ok [2, 3, 4] [2, 3, 4] [] hF
 ·intro A X; conv => lhs; cbv
 ·intro X; subst hB; simp [AO, Ob.holds, BE.den, std, sC, sAr] <;> omega
 intro X0 a0 w1 hF
 apply wp_seq
 apply rgB hB TA_ok [6, 2, 3, 4] [2, 3, 4] [(5, .r fun x => .sl none (x.A 0) N (x.c 0) 2 (fun i => itC (g i)))] hF
 ·intro A X; conv => lhs; cbv
 ·intro X; subst hB; repeat (first | exact trivial | refine ⟨rfl, ?_⟩ | refine ⟨⟨enters187, (SC _).sim ⟨Sim.resl rfl (fun i hi => by have h2 : i = 0 ∨ i = 1 := (by omega); rcases h2 with rfl | rfl <;> rfl), trivial⟩⟩, ?_⟩)
 intro X1 a0 w1 hF
 apply wp_seq
 apply rgB hB TA_ok [7, 6, 2, 3, 4] [2, 3, 4] [] hF
 ·intro A X; conv => lhs; cbv
 ·intro X; subst hB; simp [AO, Ob.holds, BE.den, std, sC, sAr] <;> omega
 intro X2 a0 w1 hF
 replace hF := hF.head (v' := .int .i64 (n : Int)) (by subst hB; rfl)
 apply wp_seq
 refine wp_block ?_
 apply wp_seq
 apply drB hB (by kernel_rfl) TA_ok [17, 6, 7, 2, 3, 4] [2, 3, 4] [(1, .r fun _ => .bool (.v i1)), (5, .r fun _ => .bool (.v i2))] hF rfl
 case hex => intro A X; conv => lhs; cbv
 case hD => kernel_rfl
 case hlen => rfl
 case hob =>
  intro X
  subst hB
  simp only [AO, Ob.holds, BE.den, List.mem_cons, List.not_mem_nil, or_false, forall_eq_or_imp, forall_eq]
  and_intros <;> first | trivial | exact enters66 | exact SI | exact SI2 | (intros; first | trivial | exact enters66 | exact SI2 | exact ⟨enters66, SI2⟩) | (intro h; first | exact uni_ixA hn h.1 | exact uni_ixB h.1)
 case hQ =>
 intro X3 a0 w1 hF
 apply test_ok hF rfl <;> intro hb hF
 ·have h9 : (if (if (!i1) = true then true else !i2) = true then true else (if (if decide ((n : Int) > 0) = true then decide ((n : Int) < (N : Int)) else false) = true then decide ((g (IntKind.i64.wrap ((n : Int) - 1)).toNat).key ≥ (g (n : Int).toNat).key) else false)) = true := by subst hB; exact hb
  rw [hot] at h9
  have hW : (uniR kd n f nx mk kd2 n2 f2 nx2 mk2) = (zeroRec, 1) := by unfold uniR; rw [← hi1, ← hi2, ← hov]; cases i1 <;> cases i2 <;> cases ov <;> first | rfl | (simp at h9)
  apply wp_seq
  apply rgB hB TA_ok [4, 5] [4] [] hF
  ·intro A X; conv => lhs; cbv
  ·intro X; subst hB; repeat (first | exact trivial | refine ⟨rfl, ?_⟩ | refine ⟨fun _ => rfl, ?_⟩ | refine ⟨ob_lab (Kk := noK) _ _ _ _, ?_⟩ | refine ⟨fun _ => ob_lab (Kk := noK) _ _ _ _, ?_⟩)
  intro X4 a0 w1 hF
  refine wp_ret ?_
  refine ret_sim (fn := Tryz.f181) TA_ok hF (rs := [.cell 4 54, .tmp 5]) rfl (by conv => lhs; cbv) ?_ (⟨0, fun _ => none, fun _ => 0, fun _ => ⟨#[]⟩⟩) ?_
  ·simp [AO, Ob.holds]
  subst hB
  rw [hW]
  exact Sim.tup ⟨Sim.agg ⟨zr, zq0, zr, zr, zr, trivial⟩, zr, trivial⟩
 have h9 : (if (if (!i1) = true then true else !i2) = true then true else (if (if decide ((n : Int) > 0) = true then decide ((n : Int) < (N : Int)) else false) = true then decide ((g (IntKind.i64.wrap ((n : Int) - 1)).toNat).key ≥ (g (n : Int).toNat).key) else false)) = false := by subst hB; exact hb
 rw [hot] at h9
 have h12 : i1 = true ∧ i2 = true ∧ ov = false := by cases i1 <;> cases i2 <;> cases ov <;> first | exact ⟨rfl, rfl, rfl⟩ | (simp at h9)
 obtain ⟨h1t, h2t, hovf⟩ := h12
 have hU : (uniR kd n f nx mk kd2 n2 f2 nx2 mk2) = (if ¬ (kd = 1 ∨ kd = 5) ∨ ¬ (kd2 = 1 ∨ kd2 = 5) then (zeroRec, 13) else if 16 < n + n2 then (zeroRec, 12) else (⟨1, firsts f n ++ firsts f2 n2, nx2, 0⟩, 0)) := by unfold uniR; rw [← hi1, ← hi2, ← hov, h1t, h2t, hovf]; rfl
 apply wp_seq
 apply rgB hB TA_ok [51, 6, 3, 4] [3, 4] [(1, .r fun _ => .bool (.v x1)), (5, .r fun _ => .bool (.v x2))] hF
 ·intro A X; conv => lhs; cbv
 ·intro X; subst hB; repeat (first | exact trivial | refine ⟨rfl, ?_⟩ | refine ⟨fun _ => rfl, ?_⟩ | refine ⟨ob_lab (Kk := noK) _ _ _ _, ?_⟩ | refine ⟨fun _ => ob_lab (Kk := noK) _ _ _ _, ?_⟩ | refine ⟨⟨enters188, SF⟩, ?_⟩ | refine ⟨fun _ => ⟨enters188, SF⟩, ?_⟩ | refine ⟨⟨enters188, SF2⟩, ?_⟩ | refine ⟨fun _ => ⟨enters188, SF2⟩, ?_⟩)
 intro X5 a0 w1 hF
 apply test_ok hF rfl <;> intro hb hF
 ·have h9 : (if (!x1) = true then true else !x2) = true := by subst hB; exact hb
  have hfx : ¬ (kd = 1 ∨ kd = 5) ∨ ¬ (kd2 = 1 ∨ kd2 = 5) := by
   cases h1 : x1 with
   | false => left; rw [h1] at hx1; simpa using hx1.symm
   | true =>
    right
    rw [h1] at h9
    have h2 : x2 = false := by cases x2 <;> first | rfl | (simp at h9)
    rw [h2] at hx2; simpa using hx2.symm
  have hW : (uniR kd n f nx mk kd2 n2 f2 nx2 mk2) = (zeroRec, 13) := by rw [hU, if_pos hfx]
  apply wp_seq
  apply rgB hB TA_ok [4, 5] [4] [] hF
  ·intro A X; conv => lhs; cbv
  ·intro X; subst hB; repeat (first | exact trivial | refine ⟨rfl, ?_⟩ | refine ⟨fun _ => rfl, ?_⟩ | refine ⟨ob_lab (Kk := noK) _ _ _ _, ?_⟩ | refine ⟨fun _ => ob_lab (Kk := noK) _ _ _ _, ?_⟩)
  intro X6 a0 w1 hF
  refine wp_ret ?_
  refine ret_sim (fn := Tryz.f181) TA_ok hF (rs := [.cell 4 54, .tmp 5]) rfl (by conv => lhs; cbv) ?_ (⟨0, fun _ => none, fun _ => 0, fun _ => ⟨#[]⟩⟩) ?_
  ·simp [AO, Ob.holds]
  subst hB
  rw [hW]
  exact Sim.tup ⟨Sim.agg ⟨zr, zq0, zr, zr, zr, trivial⟩, zr, trivial⟩
 have h9 : (if (!x1) = true then true else !x2) = false := by subst hB; exact hb
 have hfx : ¬ (¬ (kd = 1 ∨ kd = 5) ∨ ¬ (kd2 = 1 ∨ kd2 = 5)) := by
  have h1 : x1 = true ∧ x2 = true := by cases x1 <;> cases x2 <;> first | exact ⟨rfl, rfl⟩ | (simp at h9)
  rw [h1.1] at hx1; rw [h1.2] at hx2
  have a := hx1.symm; have b := hx2.symm
  simp only [Bool.or_eq_true, decide_eq_true_eq] at a b
  intro h
  rcases h with h | h
  ·exact h a
  exact h b
 apply wp_seq
 apply rgB hB TA_ok [61, 6, 3, 4] [3, 4] [] hF
 ·intro A X; conv => lhs; cbv
 ·intro X; subst hB; simp [AO, Ob.holds, BE.den, std, sC, sAr] <;> omega
 intro X7 a0 w1 hF
 apply test_ok hF rfl <;> intro hb hF
 ·have hf16 : 16 < n + n2 := by
   have : (16 : Int) < (N : Int) := by subst hB; simpa [std, sC] using hb
   omega
  have hW : (uniR kd n f nx mk kd2 n2 f2 nx2 mk2) = (zeroRec, 12) := by rw [hU, if_neg hfx, if_pos hf16]
  apply wp_seq
  apply rgB hB TA_ok [4, 5] [4] [] hF
  ·intro A X; conv => lhs; cbv
  ·intro X; subst hB; repeat (first | exact trivial | refine ⟨rfl, ?_⟩ | refine ⟨fun _ => rfl, ?_⟩ | refine ⟨ob_lab (Kk := noK) _ _ _ _, ?_⟩ | refine ⟨fun _ => ob_lab (Kk := noK) _ _ _ _, ?_⟩)
  intro X8 a0 w1 hF
  refine wp_ret ?_
  refine ret_sim (fn := Tryz.f181) TA_ok hF (rs := [.cell 4 54, .tmp 5]) rfl (by conv => lhs; cbv) ?_ (⟨0, fun _ => none, fun _ => 0, fun _ => ⟨#[]⟩⟩) ?_
  ·simp [AO, Ob.holds]
  subst hB
  rw [hW]
  exact Sim.tup ⟨Sim.agg ⟨zr, zq0, zr, zr, zr, trivial⟩, zr, trivial⟩
 have hf16 : ¬ 16 < n + n2 := by
  have : ¬ (16 : Int) < (N : Int) := by subst hB; simpa [std, sC] using hb
  omega
 have hW : (uniR kd n f nx mk kd2 n2 f2 nx2 mk2) = (⟨1, firsts f n ++ firsts f2 n2, nx2, 0⟩, 0) := by rw [hU, if_neg hfx, if_neg hf16]
 refine wp_skip ?_
 apply wp_seq
 apply rgB hB TA_ok [4, 5] [4] [] hF
 ·intro A X; conv => lhs; cbv
 ·intro X; subst hB; repeat (first | exact trivial | refine ⟨rfl, ?_⟩ | refine ⟨fun _ => rfl, ?_⟩ | refine ⟨ob_lab (Kk := noK) _ _ _ _, ?_⟩ | refine ⟨fun _ => ob_lab (Kk := noK) _ _ _ _, ?_⟩)
 intro X9 a0 w1 hF
 refine wp_ret ?_
 refine ret_sim (fn := Tryz.f181) TA_ok hF (rs := [.cell 4 54, .tmp 5]) rfl (by conv => lhs; cbv) ?_ (⟨0, fun _ => (X1 5).A 0, fun _ => (X1 5).c 0, fun _ => ⟨#[]⟩⟩) ?_
 ·simp [AO, Ob.holds]
 subst hB
 rw [hW]
 exact Sim.tup ⟨Sim.agg ⟨zr, Sim.resl hN (fun t ht => by rw [hg]), zr, zr, zr, trivial⟩, zr, trivial⟩
theorem enters165 : Enters Tryz.prog 165 := fun _ _ => by kernel_rfl
theorem runion_s (A : Option Addr) (n c : Nat) (f : Nat → Itm) (hn : n ≤ 1000) (kd : Int) (nx : Lab) (mk : Int) (hv : U64 nx.bits) (A2 : Option Addr) (n2 c2 : Nat) (f2 : Nat → Itm) (hn2 : n2 ≤ 1000) (kd2 : Int) (nx2 : Lab) (mk2 : Int) (hv2 : U64 nx2.bits) : Spec Tryz.prog 165 [recI A n c f kd nx mk, recI A2 n2 c2 f2 kd2 nx2 mk2] (fun x => .tup [recAV (x.A 0) (x.c 0) (uniR kd n f nx mk kd2 n2 f2 nx2 mk2).1, .int .i64 (uniR kd n f nx mk kd2 n2 f2 nx2 mk2).2]) := by
 intro m w hm hargs
 have hmx : maxLen = 9223372036854775807 := rfl
 have SI := risR_s A n c f (by omega) kd nx mk hv
 have SI2 := risR_s A2 n2 c2 f2 (by omega) kd2 nx2 mk2 hv2
 obtain ⟨i1, hi1⟩ := eqv (isRF kd n f nx mk)
 obtain ⟨i2, hi2⟩ := eqv (isRF kd2 n2 f2 nx2 mk2)
 obtain ⟨ov, hov⟩ := eqv (ovl n f n2 f2)
 rw [← hi1] at SI
 rw [← hi2] at SI2
 unfold recI rowI at SI SI2 hargs
 have hot := ov_test2 f n f2 n2 (by omega)
 rw [← hov] at hot
 refine enter hm hargs Tryz.func165 rfl (by simp [Tryz.ntmps165]) fun a0 hF => ?_
 simp only [Tryz.ntmps165, startT] at hF
 obtain ⟨B, hB⟩ := eqv (std)
 apply wp_seq
 apply rgB hB TA_ok [2, 3, 4] [2, 3, 4] [] hF
 ·intro A X; conv => lhs; cbv
 ·intro X; subst hB; simp [AO, Ob.holds, BE.den, std, sC, sAr] <;> omega
 intro X0 a0 w1 hF
 refine wp_seq (wp_seq ?_)
 apply rgB hB TA_ok [15, 2, 3, 4] [2, 3, 4] [(1, .r fun _ => .bool (.v i1)), (5, .r fun _ => .bool (.v i2))] hF
 ·intro A X; conv => lhs; cbv
 ·intro X; subst hB; repeat (first | exact trivial | refine ⟨rfl, ?_⟩ | refine ⟨fun _ => rfl, ?_⟩ | refine ⟨ob_lab (Kk := noK) _ _ _ _, ?_⟩ | refine ⟨fun _ => ob_lab (Kk := noK) _ _ _ _, ?_⟩ | refine ⟨⟨enters88, SI⟩, ?_⟩ | refine ⟨fun _ => ⟨enters88, SI⟩, ?_⟩ | refine ⟨⟨enters88, SI2⟩, ?_⟩ | refine ⟨fun _ => ⟨enters88, SI2⟩, ?_⟩)
 intro X1 a0 w1 hF
 apply test_ok hF rfl <;> intro hb hF
 ·have h9 : (if (!i1) = true then true else !i2) = true := by subst hB; exact hb
  have hW : (uniR kd n f nx mk kd2 n2 f2 nx2 mk2) = (zeroRec, 1) := by unfold uniR; rw [← hi1, ← hi2, ← hov]; cases i1 <;> cases i2 <;> cases ov <;> first | rfl | (simp at h9)
  apply wp_seq
  apply rgB hB TA_ok [4, 5] [4] [] hF
  ·intro A X; conv => lhs; cbv
  ·intro X; subst hB; repeat (first | exact trivial | refine ⟨rfl, ?_⟩ | refine ⟨fun _ => rfl, ?_⟩ | refine ⟨ob_lab (Kk := noK) _ _ _ _, ?_⟩ | refine ⟨fun _ => ob_lab (Kk := noK) _ _ _ _, ?_⟩)
  intro X2 a0 w1 hF
  refine wp_ret ?_
  refine ret_sim (fn := Tryz.f165) TA_ok hF (rs := [.cell 4 54, .tmp 5]) rfl (by conv => lhs; cbv) ?_ (⟨0, fun _ => none, fun _ => 0, fun _ => ⟨#[]⟩⟩) ?_
  ·simp [AO, Ob.holds]
  subst hB
  rw [hW]
  exact Sim.tup ⟨Sim.agg ⟨zr, zq0, zr, zr, zr, trivial⟩, zr, trivial⟩
 have h9 : (if (!i1) = true then true else !i2) = false := by subst hB; exact hb
 have h12 : i1 = true ∧ i2 = true := by cases i1 <;> cases i2 <;> first | exact ⟨rfl, rfl⟩ | (simp at h9)
 obtain ⟨h1t, h2t⟩ := h12
 refine wp_skip ?_
 apply wp_seq
 apply rgB hB TA_ok [6, 2, 3, 4] [2, 3, 4] [] hF
 ·intro A X; conv => lhs; cbv
 ·intro X; subst hB; repeat (first | exact trivial | refine ⟨rfl, ?_⟩ | refine ⟨fun _ => rfl, ?_⟩ | refine ⟨ob_lab (Kk := noK) _ _ _ _, ?_⟩ | refine ⟨fun _ => ob_lab (Kk := noK) _ _ _ _, ?_⟩)
 intro X3 a0 w1 hF
 replace hF := hF.head (v' := .int .i64 (n : Int)) (by subst hB; rfl)
 refine wp_seq (wp_seq ?_)
 apply drB hB (by kernel_rfl) TA_ok [42, 6, 2, 3, 4] [2, 3, 4] [] hF rfl
 case hex => intro A X; conv => lhs; cbv
 case hD => kernel_rfl
 case hlen => rfl
 case hob =>
  intro X
  subst hB
  simp only [AO, Ob.holds, BE.den, List.mem_cons, List.not_mem_nil, or_false, forall_eq_or_imp, forall_eq]
  and_intros <;> first | trivial | (intro h; first | trivial | exact uni_ixC hn h | exact uni_ixD h)
 case hQ =>
 intro X4 a0 w1 hF
 apply test_ok hF rfl <;> intro hb hF
 ·have h8 : (if (if decide ((n : Int) > 0) = true then decide ((n2 : Int) > 0) else false) = true then decide ((f (IntKind.i64.wrap ((n : Int) - 1)).toNat).key ≥ (f2 (0 : Int).toNat).key) else false) = true := by subst hB; exact hb
  rw [hot] at h8
  have hW : (uniR kd n f nx mk kd2 n2 f2 nx2 mk2) = (zeroRec, 1) := by unfold uniR; rw [← hi1, ← hi2, ← hov, h1t, h2t, h8]; rfl
  apply wp_seq
  apply rgB hB TA_ok [4, 5] [4] [] hF
  ·intro A X; conv => lhs; cbv
  ·intro X; subst hB; repeat (first | exact trivial | refine ⟨rfl, ?_⟩ | refine ⟨fun _ => rfl, ?_⟩ | refine ⟨ob_lab (Kk := noK) _ _ _ _, ?_⟩ | refine ⟨fun _ => ob_lab (Kk := noK) _ _ _ _, ?_⟩)
  intro X5 a0 w1 hF
  refine wp_ret ?_
  refine ret_sim (fn := Tryz.f165) TA_ok hF (rs := [.cell 4 54, .tmp 5]) rfl (by conv => lhs; cbv) ?_ (⟨0, fun _ => none, fun _ => 0, fun _ => ⟨#[]⟩⟩) ?_
  ·simp [AO, Ob.holds]
  subst hB
  rw [hW]
  exact Sim.tup ⟨Sim.agg ⟨zr, zq0, zr, zr, zr, trivial⟩, zr, trivial⟩
 have h8 : (if (if decide ((n : Int) > 0) = true then decide ((n2 : Int) > 0) else false) = true then decide ((f (IntKind.i64.wrap ((n : Int) - 1)).toNat).key ≥ (f2 (0 : Int).toNat).key) else false) = false := by subst hB; exact hb
 rw [hot] at h8
 have hU : (uniR kd n f nx mk kd2 n2 f2 nx2 mk2) = (if ¬ (kd = 1 ∨ kd = 5) ∨ ¬ (kd2 = 1 ∨ kd2 = 5) then (zeroRec, 13) else if 16 < n + n2 then (zeroRec, 12) else (⟨1, firsts f n ++ firsts f2 n2, nx2, 0⟩, 0)) := by unfold uniR; rw [← hi1, ← hi2, ← hov, h1t, h2t, h8]; rfl
 refine wp_skip ?_
 refine wp_seq (wp_seq ?_)
 apply rgB hB TA_ok [61, 6, 2, 3, 4] [2, 3, 4] [] hF
 ·intro A X; conv => lhs; cbv
 ·intro X; subst hB; simp [AO, Ob.holds, BE.den, std, sC, sAr] <;> omega
 intro X6 a0 w1 hF
 apply test_ok hF rfl <;> intro hb hF
 ·have h7 : (if (if (!decide (kd = 1)) = true then !decide (kd = 5) else false) = true then true else (if (!decide (kd2 = 1)) = true then !decide (kd2 = 5) else false)) = true := by subst hB; exact hb
  have hfx := (kind_test kd kd2).1 h7
  have hW : (uniR kd n f nx mk kd2 n2 f2 nx2 mk2) = (zeroRec, 13) := by rw [hU, if_pos hfx]
  apply wp_seq
  apply rgB hB TA_ok [4, 5] [4] [] hF
  ·intro A X; conv => lhs; cbv
  ·intro X; subst hB; repeat (first | exact trivial | refine ⟨rfl, ?_⟩ | refine ⟨fun _ => rfl, ?_⟩ | refine ⟨ob_lab (Kk := noK) _ _ _ _, ?_⟩ | refine ⟨fun _ => ob_lab (Kk := noK) _ _ _ _, ?_⟩)
  intro X7 a0 w1 hF
  refine wp_ret ?_
  refine ret_sim (fn := Tryz.f165) TA_ok hF (rs := [.cell 4 54, .tmp 5]) rfl (by conv => lhs; cbv) ?_ (⟨0, fun _ => none, fun _ => 0, fun _ => ⟨#[]⟩⟩) ?_
  ·simp [AO, Ob.holds]
  subst hB
  rw [hW]
  exact Sim.tup ⟨Sim.agg ⟨zr, zq0, zr, zr, zr, trivial⟩, zr, trivial⟩
 have h7 : (if (if (!decide (kd = 1)) = true then !decide (kd = 5) else false) = true then true else (if (!decide (kd2 = 1)) = true then !decide (kd2 = 5) else false)) = false := by subst hB; exact hb
 have hfx := (kind_test kd kd2).2 h7
 refine wp_skip ?_
 refine wp_seq (wp_seq ?_)
 apply rgB hB TA_ok [68, 2, 3, 4] [2, 3, 4] [] hF
 ·intro A X; conv => lhs; cbv
 ·intro X; subst hB; repeat (first | exact trivial | refine ⟨rfl, ?_⟩ | refine ⟨fun _ => rfl, ?_⟩ | refine ⟨ob_lab (Kk := noK) _ _ _ _, ?_⟩ | refine ⟨fun _ => ob_lab (Kk := noK) _ _ _ _, ?_⟩)
 intro X8 a0 w1 hF
 apply test_ok hF rfl <;> intro hb hF
 ·have hf16 : 16 < n + n2 := by
   have : (16 : Int) < IntKind.i64.wrap ((n : Int) + (n2 : Int)) := by subst hB; simpa [std, sC, sAr] using hb
   rw [wrap_in (by omega) (by omega)] at this
   omega
  have hW : (uniR kd n f nx mk kd2 n2 f2 nx2 mk2) = (zeroRec, 12) := by rw [hU, if_neg hfx, if_pos hf16]
  apply wp_seq
  apply rgB hB TA_ok [4, 5] [4] [] hF
  ·intro A X; conv => lhs; cbv
  ·intro X; subst hB; repeat (first | exact trivial | refine ⟨rfl, ?_⟩ | refine ⟨fun _ => rfl, ?_⟩ | refine ⟨ob_lab (Kk := noK) _ _ _ _, ?_⟩ | refine ⟨fun _ => ob_lab (Kk := noK) _ _ _ _, ?_⟩)
  intro X9 a0 w1 hF
  refine wp_ret ?_
  refine ret_sim (fn := Tryz.f165) TA_ok hF (rs := [.cell 4 54, .tmp 5]) rfl (by conv => lhs; cbv) ?_ (⟨0, fun _ => none, fun _ => 0, fun _ => ⟨#[]⟩⟩) ?_
  ·simp [AO, Ob.holds]
  subst hB
  rw [hW]
  exact Sim.tup ⟨Sim.agg ⟨zr, zq0, zr, zr, zr, trivial⟩, zr, trivial⟩
 have hf16 : ¬ 16 < n + n2 := by
  have : ¬ (16 : Int) < IntKind.i64.wrap ((n : Int) + (n2 : Int)) := by subst hB; simpa [std, sC, sAr] using hb
  rw [wrap_in (by omega) (by omega)] at this
  omega
 have hW : (uniR kd n f nx mk kd2 n2 f2 nx2 mk2) = (⟨1, firsts f n ++ firsts f2 n2, nx2, 0⟩, 0) := by rw [hU, if_neg hfx, if_neg hf16]
 refine wp_skip ?_
 apply wp_seq
 apply rgB hB TA_ok [7, 2, 3, 4] [2, 3, 4, 7] [] hF
 ·intro A X; conv => lhs; cbv
 ·intro X; subst hB; simp [AO, Ob.holds, BE.den, std, sC, sAr] <;> omega
 intro X10 a0 w1 hF
 apply wp_seq
 apply rgB hB TA_ok [7, 3, 4] [3, 4, 7] [] hF
 ·intro A X; conv => lhs; cbv
 ·intro X; subst hB; repeat (first | exact trivial | refine ⟨⟨rfl, rfl, rfl⟩, ?_⟩ | refine ⟨⟨show 0 + n ≤ maxLen by omega, show (0 + n) * _ ≤ _ by omega⟩, ?_⟩ | refine ⟨rfl, ?_⟩)
 intro X11 a0 w1 hF
 apply wp_seq
 apply rgB hB TA_ok [7, 3, 4] [3, 4, 7] [] hF
 ·intro A X; conv => lhs; cbv
 ·intro X; subst hB; repeat (first | exact trivial | refine ⟨⟨rfl, rfl, rfl⟩, ?_⟩ | refine ⟨⟨show 0 + n + n2 ≤ maxLen by omega, show (0 + n + n2) * _ ≤ _ by omega⟩, ?_⟩ | refine ⟨rfl, ?_⟩)
 intro X12 a0 w1 hF
 apply wp_seq
 apply rgB hB TA_ok [4, 5] [4] [] hF
 ·intro A X; conv => lhs; cbv
 ·intro X; subst hB; repeat (first | exact trivial | refine ⟨rfl, ?_⟩ | refine ⟨fun _ => rfl, ?_⟩ | refine ⟨ob_lab (Kk := noK) _ _ _ _, ?_⟩ | refine ⟨fun _ => ob_lab (Kk := noK) _ _ _ _, ?_⟩)
 intro X13 a0 w1 hF
 refine wp_ret ?_
 refine ret_sim (fn := Tryz.f165) TA_ok hF (rs := [.cell 4 54, .tmp 5]) rfl (by conv => lhs; cbv) ?_ (⟨0, fun _ => (X12 3).A 0, fun _ => (X12 3).c 0, fun _ => ⟨#[]⟩⟩) ?_
 ·simp [AO, Ob.holds]
 subst hB
 rw [hW]
 refine Sim.tup ⟨Sim.agg ⟨zr, Sim.resl (show 0 + n + n2 = (firsts f n ++ firsts f2 n2).length by rw [List.length_append, firsts_len, firsts_len]; omega) (fun t ht => ?_), zr, zr, zr, trivial⟩, zr, trivial⟩
 show appC (0 + n) (appC 0 _ (fun t => itC (f t))) (fun t => itC (f2 t)) t = itC (itF (firsts f n ++ firsts f2 n2) t)
 rw [cat_at f n f2 n2 t (by have h : t < (firsts f n ++ firsts f2 n2).length := ht; rw [List.length_append, firsts_len, firsts_len] at h; exact h)]
 unfold appC catF
 rw [Nat.zero_add]
 by_cases h : t < n
 ·rw [if_pos h, if_neg (Nat.not_lt_zero _), if_pos h]; rfl
 rw [if_neg h, if_neg h]
structure LOk (l : Lab) : Prop where
 isl : isL l = true
 u : U64 l.bits
theorem lok_z : LOk ⟨0, 0⟩ := ⟨by decide, by decide, by decide⟩
theorem LOk.ch {l : Lab} (h : LOk l) (b : Int) : LOk (chV l b) := by
 unfold chV
 split
 ·rename_i he
  have h64 : l.len ≠ 64 := by
   intro h64
   unfold chE at he
   rw [h.isl] at he
   simp [h64] at he
  exact ⟨child_isL h.isl h.u h64 b, child_u h.isl h.u h64 b⟩
 exact lok_z
theorem LOk.par {l : Lab} (h : LOk l) : LOk (parV l) := by
 unfold parV
 split
 ·rename_i he
  have h0 : l.len ≠ 0 := by
   intro h0
   unfold parE at he
   rw [h.isl] at he
   simp [h0] at he
  exact ⟨par_isL h.isl h.u h0, par_u h.u⟩
 exact lok_z
theorem rowz_sim {f : Nat → Itm} {c : Nat} {A : Option Addr} : Sim (.sl none A 0 c 2 (fun _ => [])) (.sl none A 0 c 2 (fun i => itC (f i))) := Sim.recell fun i hi => absurd hi (Nat.not_lt_zero _)
theorem halv_c (x : RA) (h : RaOk x) (l : Lab) (hl : U64 l.bits) : Spec Tryz.prog 176 [recV x, labAV l] (fun y => .tup [recV ⟨y.A 0, y.c 0, (halvA x l).1.rn⟩, recV ⟨y.A 1, y.c 1, (halvA x l).2.1.rn⟩, .int .i64 (halvA x l).2.2]) := by
 have hf := h.few
 cases hb : (isRF x.r.kd x.r.n x.r.f x.r.nx x.r.mrk && isL l) with
 | false => exact halves_no x.A x.r.n x.c x.r.f (by omega) x.r.kd x.r.nx x.r.mrk h.nx h.key l hl hb
 | true => exact halves_yes x.A x.r.n x.c x.r.f (by omega) x.r.kd x.r.nx x.r.mrk h.nx h.key l hl hb
theorem uni_c (x y : RA) (h : RaOk x) (h' : RaOk y) : Spec Tryz.prog 181 [recV x, recV y] (fun z => .tup [recV ⟨z.A 0, z.c 0, (uniA x y).1.rn⟩, .int .i64 (uniA x y).2]) := by
 have hf := h.few
 have hf' := h'.few
 exact union_s x.A x.r.n x.c x.r.f (by omega) x.r.kd x.r.nx x.r.mrk h.nx y.A y.r.n y.c y.r.f (by omega) y.r.kd y.r.nx y.r.mrk h'.nx
def fzR : Fz → RA
 | .fr x => x
 | _ => zRA
def fzI : Fz → Int
 | .over => 0
 | .unfit => 1
 | .fr _ => 2
def encFz (z : Fz) : AV := .tup [recV (fzR z), .int .i64 (fzI z)]
theorem fz_0 {z : Fz} (h : fzI z = 0) : z = .over := by cases z <;> first | rfl | (simp [fzI] at h)
theorem fz_1 {z : Fz} (h : fzI z = 1) : z = .unfit := by cases z <;> first | rfl | (simp [fzI] at h)
theorem fz_2 {z : Fz} (h0 : fzI z ≠ 0) (h1 : fzI z ≠ 1) : z = .fr (fzR z) := by cases z <;> first | rfl | exact absurd rfl h0 | exact absurd rfl h1
theorem thwL_succ (bk k : Int) (n : Nat) (l up : Lab) (p : Pst) : thwL bk k (n + 1) l up p = (getM k l p).bind fun g p => if gk g 5 = true then (getM k up p).bind fun q p =>
      (if (gk q 3 || gk q 4) = true then fnsM bk k n up q p else .ok () p).bind fun _ p =>
        if gk q 2 = true then (casM k l g.ver (asR 1 g.x 0).r.abs p).bind fun d p => if d = true then .ok () p else thwL bk k n l up p else .ok () p else .ok () p := rfl
section
def ClC (n : Nat) : Prop := ∀ (k0 b : Nat) (J : JobA) (hJ : JobOk J) (A : Option Addr) (c : Nat) (p : Pst) (hp : PstOk p) (hn : p.n ≤ 1000000) (l : Lab) (hl : LOk l), p.n < n → RunS 116 k0 b J A c p [labAV l] (fun _ => unitV) (clnM J.budget n l p)
def ThC (n : Nat) : Prop := ∀ (k0 b : Nat) (J : JobA) (hJ : JobOk J) (A : Option Addr) (c : Nat) (p : Pst) (hp : PstOk p) (hn : p.n ≤ 1000000) (l : Lab) (hl : LOk l), p.n < n → RunS 120 k0 b J A c p [labAV l] (fun _ => unitV) (thwM J.bucket J.budget n l p)
def FinC (n : Nat) : Prop := ∀ (k0 b : Nat) (J : JobA) (hJ : JobOk J) (A : Option Addr) (c : Nat) (p : Pst) (hp : PstOk p) (hn : p.n ≤ 1000000) (l : Lab) (hl : LOk l) (g : GotA) (hg : GotOk g), p.n < n → RunS 119 k0 b J A c p [labAV l, gotV g] (fun _ => unitV) (fnsM J.bucket J.budget n l g p)
end
theorem enters119 : Enters Tryz.prog 119 := fun _ _ => by kernel_rfl
theorem enters120 : Enters Tryz.prog 120 := fun _ _ => by kernel_rfl
theorem enters116 : Enters Tryz.prog 116 := fun _ _ => by kernel_rfl
theorem enters179 : Enters Tryz.prog 179 := fun _ _ => by kernel_rfl
theorem frz_m0 (b : Nat) (J : JobA) (hJ : JobOk J) (A : Option Addr) (c : Nat) (p : Pst) (hp : PstOk p) (hn : p.n ≤ 1000000) (l : Lab) (v : Int) (d : Lab) (n : Nat) (hf : p.n < n) : RunS 179 0 b J A c p [labAV l, .int .u64 v, labAV d] (encFz) (frzM J.budget l v d n p) := by
 intro m w hm hargs hpre
 refine enterX hm hpre hargs Tryz.func179 rfl (by simp [Tryz.ntmps179]) fun a0 hF => ?_
 simp only [Tryz.ntmps179, startT] at hF
 obtain ⟨B, hB⟩ := eqv (std)
 apply wp_seq
 apply rgB hB TA_ok [0, 2, 5, 7, 8] [0, 5, 7, 8] [] hF
 ·intro A X; conv => lhs; cbv
 ·intro X; subst hB; simp [AO, Ob.holds, BE.den, std, sC, sAr] <;> omega
 intro X0 a0 w1 hF
 refine wp_block ?_
 refine loop_pre (ι := Nat × Pst × Option Addr × Nat) (fun q => []) (fun q => [(0, ⟨b, 166, runC J q.2.2.1 q.2.2.2 q.2.1⟩)]) (fun q => []) (fun q => frzM J.budget l v d n p = frzM J.budget l v d q.1 q.2.1 ∧ PstOk q.2.1 ∧ q.2.1.n ≤ 1000000 ∧ q.2.1.n < q.1) (fun q => q.1) (n, p, A, c) ⟨rfl, hp, hn, hf⟩ hF ?_
 rintro ⟨nn, p0, A0, c0⟩ ⟨hrun, hp0, hn0, hf0⟩ a0 w1 hF
 try dsimp only at hrun
 try dsimp only at hp0
 try dsimp only at hn0
 try dsimp only at hf0
 obtain ⟨n2, rfl⟩ : ∃ n2, nn = n2 + 1 := ⟨nn - 1, by omega⟩
 refine wp_block ?_
 apply wp_seq
 have S1 := get_m 0 b J hJ A0 c0 p0 hp0 hn0 d
 rcases hm1 : getM J.budget d p0 with ⟨g1, p1⟩ | ⟨w1, p1⟩
 rotate_left
 ·refine wp_region_lit ?_
  apply list_preB 0 2 hB TA_ok [12, 13] [0] [] hF
  ·intro A X; conv => lhs; cbv
  ·intro X; subst hB; first | exact trivial | (repeat (first | exact trivial | refine ⟨rfl, ?_⟩))
  intro X1_t a0 w1 hF
  refine man_outT rfl rfl rfl rfl hF rfl rfl enters117 (S1.stop hm1) (by subst hB; exact zl) (mem1 rfl) rfl rfl ?_
  intro x w' hF hok
  exact thr_m (P := Tryz.prog) (fn := Tryz.f179) hF hok (by simp [hrun, frzM, Rs.bind, hm1]) ⟨rfl, ⟨_, rfl, zl⟩, trivial⟩
 have hs1 := (fro_get _ _ _).of hm1
 have hp1 := hp0.suf hs1
 have hn1 := Nat.le_trans hs1.le hn0
 have hl1 := get_lt hm1
 have hg1 := hp0.get hm1
 apply rgB hB TA_ok [0, 2, 5, 7, 8, 10] [0, 5, 7, 8, 10] [(2, .x fun x => ⟨gotV g1, [(0, runC J (x.A 0) (x.c 0) p1)], []⟩)] hF
 ·intro A X; conv => lhs; cbv
 ·intro X; subst hB; simp only [AO, Ob.holds, BE.den] <;> (and_intros <;> repeat first | trivial | rfl | exact enters117 | exact S1.ok hm1 | refine ⟨?_, ?_⟩ | intro h)
 intro X1 a0 w1 hF
 apply wp_seq
 refine wp_block ?_
 apply wp_seq
 obtain ⟨q2, hq2⟩ := eqv ((gk g1 1 || gk g1 5))
 apply rgB hB TA_ok [15, 0, 2, 5, 7, 8, 10] [0, 5, 7, 8, 10] [(2, .r fun _ => .bool (.v q2))] hF
 ·intro A X; conv => lhs; cbv
 ·intro X; subst hB; simp only [AO, Ob.holds, BE.den] <;> (and_intros <;> repeat first | trivial | rfl | exact enters118 | exact (by rw [hq2]; exact is2_s g1 _ _ 1 5 _ rfl rfl) | exact by rw [hq2]; exact is2_s g1 _ _ 1 5 _ rfl rfl | refine ⟨?_, ?_⟩ | intro h)
 intro X2 a0 w1 hF
 apply test_ok hF rfl <;> intro hb hF
 ·have tq2 : (gk g1 1 || gk g1 5) = false := by subst hB; rw [← hq2]; revert hb; cases q2 <;> simp [std]
  apply wp_seq
  apply rgB hB TA_ok [8, 9] [0, 8] [] hF
  ·intro A X; conv => lhs; cbv
  ·intro X; subst hB; simp [AO, Ob.holds, BE.den, std, sC, sAr] <;> omega
  intro X3 a0 w1 hF
  refine wp_ret ?_
  refine (ret_mm (fn := Tryz.f179) TA_ok hF (rs := [.cell 8 54, .tmp 9]) rfl (by conv => lhs; cbv) ?_ ((X1 2).A 0) ((X1 2).c 0) (v := Fz.unfit) (q := p1) (by simp [hrun, frzM, Rs.bind, hm1, tq2]) ?_ ?_).1
  ·subst hB; simp [AO, Ob.holds]
  ·subst hB; exact Sim.tup ⟨Sim.agg ⟨zr, rowz_sim, zr, zr, zr, trivial⟩, zr, trivial⟩
  subst hB; exact ⟨rfl, ⟨_, rfl, zl⟩, trivial⟩
 have tq2 : (gk g1 1 || gk g1 5) = true := by subst hB; rw [← hq2]; revert hb; cases q2 <;> simp [std]
 apply wp_seq
 obtain ⟨q4, hq4⟩ := eqv (gk g1 5)
 apply rgB hB TA_ok [21, 0, 2, 5, 7, 8, 10] [0, 5, 7, 8, 10] [(2, .r fun _ => .bool (.v q4))] hF
 ·intro A X; conv => lhs; cbv
 ·intro X; subst hB; simp only [AO, Ob.holds, BE.den] <;> (and_intros <;> repeat first | trivial | rfl | exact enters118 | exact (by rw [hq4]; exact is1_s g1 _ _ 5 _ rfl) | exact by rw [hq4]; exact is1_s g1 _ _ 5 _ rfl | refine ⟨?_, ?_⟩ | intro h)
 intro X4 a0 w1 hF
 apply test_ok hF rfl <;> intro hb hF
 ·have t4 : (gk g1 5 && decide (g1.x.r.mrk = v)) = true := by subst hB; rw [← hq4]; revert hb; cases q4 <;> simp [std, sC]
  apply wp_seq
  apply rgB hB TA_ok [8, 9] [0, 8] [] hF
  ·intro A X; conv => lhs; cbv
  ·intro X; subst hB; simp [AO, Ob.holds, BE.den, std, sC, sAr] <;> omega
  intro X5 a0 w1 hF
  refine wp_ret ?_
  refine (ret_mm (fn := Tryz.f179) TA_ok hF (rs := [.cell 8 54, .tmp 9]) rfl (by conv => lhs; cbv) ?_ ((X1 2).A 0) ((X1 2).c 0) (v := (Fz.fr g1.x)) (q := p1) (by simp [hrun, frzM, Rs.bind, hm1, tq2, t4]) ?_ ?_).1
  ·subst hB; simp [AO, Ob.holds]
  ·subst hB; exact zr
  subst hB; exact ⟨rfl, ⟨_, rfl, zl⟩, trivial⟩
 have t4 : (gk g1 5 && decide (g1.x.r.mrk = v)) = false := by subst hB; rw [← hq4]; revert hb; cases q4 <;> simp [std, sC]
 apply wp_seq
 have S6 := still_m 0 b J hJ ((X1 2).A 0) ((X1 2).c 0) p1 hp1 hn1 l v
 rcases hm6 : getM J.budget l p1 with ⟨g6, p6⟩ | ⟨w6, p6⟩
 rotate_left
 ·refine wp_region_lit ?_
  apply list_preB 0 3 hB TA_ok [35, 36, 37] [0] [] hF
  ·intro A X; conv => lhs; cbv
  ·intro X; subst hB; first | exact trivial | (repeat (first | exact trivial | refine ⟨rfl, ?_⟩))
  intro X6_t a0 w1 hF
  refine man_outT rfl rfl rfl rfl hF rfl rfl enters177 (S6.stop (by rw [hm6]; rfl)) (by subst hB; exact zl) (mem1 rfl) rfl rfl ?_
  intro x w' hF hok
  exact thr_m (P := Tryz.prog) (fn := Tryz.f179) hF hok (by simp [hrun, frzM, Rs.bind, hm1, tq2, t4, hm6]) ⟨rfl, ⟨_, rfl, zl⟩, trivial⟩
 have hs6 := (fro_get _ _ _).of hm6
 have hp6 := hp1.suf hs6
 have hn6 := Nat.le_trans hs6.le hn1
 have hl6 := get_lt hm6
 have hg6 := hp1.get hm6
 obtain ⟨d6, hd6⟩ := eqv (decide (g6.ver = v))
 apply rgB hB TA_ok [34, 0, 2, 5, 7, 8, 10] [0, 5, 7, 8, 10] [(3, .x fun x => ⟨.bool (.v d6), [(0, runC J (x.A 0) (x.c 0) p6)], []⟩)] hF
 ·intro A X; conv => lhs; cbv
 ·intro X; subst hB; simp only [AO, Ob.holds, BE.den] <;> (and_intros <;> repeat first | trivial | rfl | exact enters177 | exact S6.ok (by rw [hm6, hd6]; rfl) | refine ⟨?_, ?_⟩ | intro h)
 intro X6 a0 w1 hF
 apply test_ok hF rfl <;> intro hb hF
 ·have t6 : ¬ g6.ver = v := by
   have h9 : (!d6) = true := by subst hB; exact hb
   rw [hd6] at h9; simpa using h9
  apply wp_seq
  apply rgB hB TA_ok [8, 9] [0, 8] [] hF
  ·intro A X; conv => lhs; cbv
  ·intro X; subst hB; simp [AO, Ob.holds, BE.den, std, sC, sAr] <;> omega
  intro X7 a0 w1 hF
  refine wp_ret ?_
  refine (ret_mm (fn := Tryz.f179) TA_ok hF (rs := [.cell 8 54, .tmp 9]) rfl (by conv => lhs; cbv) ?_ ((X6 3).A 0) ((X6 3).c 0) (v := Fz.over) (q := p6) (by simp [hrun, frzM, Rs.bind, hm1, tq2, t4, hm6, t6]) ?_ ?_).1
  ·subst hB; simp [AO, Ob.holds]
  ·subst hB; exact Sim.tup ⟨Sim.agg ⟨zr, rowz_sim, zr, zr, zr, trivial⟩, zr, trivial⟩
  subst hB; exact ⟨rfl, ⟨_, rfl, zl⟩, trivial⟩
 have t6 : g6.ver = v := by
  have h9 : (!d6) = false := by subst hB; exact hb
  rw [hd6] at h9; simpa using h9
 refine wp_skip ?_
 apply wp_seq
 apply rgB hB TA_ok [0, 2, 5, 7, 8, 10, 11] [0, 5, 7, 8, 10, 11] [(3, .r fun _ => recV (asR 5 g1.x v))] hF
 ·intro A X; conv => lhs; cbv
 ·intro X; subst hB; simp only [AO, Ob.holds, BE.den] <;> (and_intros <;> repeat first | trivial | rfl | exact enters160 | exact as_s 5 g1.x v | refine ⟨?_, ?_⟩ | intro h)
 intro X8 a0 w1 hF
 apply wp_seq
 have S9 := cas_m 0 b J hJ ((X6 3).A 0) ((X6 3).c 0) p6 hp6 hn6 d g1.ver (asR 5 g1.x v)
 rcases hm9 : casM J.budget d g1.ver (asR 5 g1.x v).r.abs p6 with ⟨d9, p9⟩ | ⟨w9, p9⟩
 rotate_left
 ·refine wp_region_lit ?_
  apply list_preB 0 5 hB TA_ok [45, 46, 48, 49] [0] [] hF
  ·intro A X; conv => lhs; cbv
  ·intro X; subst hB; first | exact trivial | (repeat (first | exact trivial | refine ⟨rfl, ?_⟩))
  intro X9_t a0 w1 hF
  refine man_outT rfl rfl rfl rfl hF rfl rfl enters159 (S9.stop hm9) (by subst hB; exact zl) (mem1 rfl) rfl rfl ?_
  intro x w' hF hok
  exact thr_m (P := Tryz.prog) (fn := Tryz.f179) hF hok (by simp [hrun, frzM, Rs.bind, hm1, tq2, t4, hm6, t6, hm9]) ⟨rfl, ⟨_, rfl, zl⟩, trivial⟩
 have hs9 := (fro_cas _ _ _ _ _).of hm9
 have hp9 := hp6.suf hs9
 have hn9 := Nat.le_trans hs9.le hn6
 apply rgB hB TA_ok [50, 0, 2, 5, 7, 8, 11] [0, 5, 7, 8, 11] [(5, .x fun x => ⟨.bool (.v d9), [(0, runC J (x.A 0) (x.c 0) p9)], []⟩)] hF
 ·intro A X; conv => lhs; cbv
 ·intro X; subst hB; simp only [AO, Ob.holds, BE.den] <;> (and_intros <;> repeat first | trivial | rfl | exact enters159 | exact S9.ok hm9 | refine ⟨?_, ?_⟩ | intro h)
 intro X9 a0 w1 hF
 apply test_ok hF rfl <;> intro hb hF
 ·have t9 : d9 = true := by exact hb
  apply wp_seq
  apply rgB hB TA_ok [8, 9] [0, 8] [] hF
  ·intro A X; conv => lhs; cbv
  ·intro X; subst hB; simp [AO, Ob.holds, BE.den, std, sC, sAr] <;> omega
  intro X10 a0 w1 hF
  refine wp_ret ?_
  refine (ret_mm (fn := Tryz.f179) TA_ok hF (rs := [.cell 8 54, .tmp 9]) rfl (by conv => lhs; cbv) ?_ ((X9 5).A 0) ((X9 5).c 0) (v := (Fz.fr (asR 5 g1.x v))) (q := p9) (by simp [hrun, frzM, Rs.bind, hm1, tq2, t4, hm6, t6, hm9, t9]) ?_ ?_).1
  ·subst hB; simp [AO, Ob.holds]
  ·subst hB; exact zr
  subst hB; exact ⟨rfl, ⟨_, rfl, zl⟩, trivial⟩
 have t9 : d9 = false := by exact hb
 refine wp_skip ?_
 replace hF := hF.keep [0, 2, 5, 7, 8] [0, 5, 7, 8]
 exact ⟨(n2, p9, _, _), ⟨by rw [hrun]; simp [frzM, Rs.bind, hm1, tq2, t4, hm6, t6, hm9, t9], hp9, hn9, by dsimp only; have := hl1; have := hs6.le; have := hs9.le; have := hf0; omega⟩, by simp only; omega, hF⟩
theorem frz_m (k0 b : Nat) (J : JobA) (hJ : JobOk J) (A : Option Addr) (c : Nat) (p : Pst) (hp : PstOk p) (hn : p.n ≤ 1000000) (l : Lab) (v : Int) (d : Lab) (n : Nat) (hf : p.n < n) : RunS 179 k0 b J A c p [labAV l, .int .u64 v, labAV d] (encFz) (frzM J.budget l v d n p) := RunS.re (frz_m0 b J hJ A c p hp hn l v d n hf) (by repeat (first | exact trivial | refine ⟨zr, ?_⟩))
theorem casi_m (k0 b : Nat) (J : JobA) (hJ : JobOk J) (A : Option Addr) (c : Nat) (p : Pst) (hp : PstOk p) (hn : p.n ≤ 1000000) (l : Lab) (v : Int) : RunS 159 k0 b J A c p [labAV l, .int .u64 v, innV] (fun d => .bool (.v d)) (casM J.budget l v innerR p) :=
 RunS.re (cas_m 0 b J hJ A c p hp hn l v ⟨none, 0, innerR.rn⟩) ⟨zr, zr, Sim.agg ⟨zr, rowz_sim, zr, zr, zr, trivial⟩, trivial⟩
theorem enters180 : Enters Tryz.prog 180 := fun _ _ => by kernel_rfl
theorem bck_m0 (b : Nat) (J : JobA) (hJ : JobOk J) (A : Option Addr) (c : Nat) (p : Pst) (hp : PstOk p) (hn : p.n ≤ 1000000) (l : Lab) (hl : LOk l) (v : Int) (n : Nat) (hth : ThC n) (hf : p.n < n) : RunS 180 0 b J A c p [labAV l, .int .u64 v] (fun _ => unitV) (bckM J.budget (thwM J.bucket J.budget n) l v p) := by
 intro m w hm hargs hpre
 have SC := chi_s l hl.u
 have hk0 := hl.ch 0
 have hk1 := hl.ch 1
 simp only [labAV] at SC
 obtain ⟨x0, hx0⟩ := eqv (chV l 0)
 rw [← hx0] at SC hk0
 obtain ⟨x1, hx1⟩ := eqv (chV l 1)
 rw [← hx1] at SC hk1
 refine enterX hm hpre hargs Tryz.func180 rfl (by simp [Tryz.ntmps180]) fun a0 hF => ?_
 simp only [Tryz.ntmps180, startT] at hF
 obtain ⟨B, hB⟩ := eqv (std)
 apply wp_seq
 apply rgB hB TA_ok [0, 2, 4] [0, 4] [] hF
 ·intro A X; conv => lhs; cbv
 ·intro X; subst hB; simp [AO, Ob.holds, BE.den, std, sC, sAr] <;> omega
 intro X0 a0 w1 hF
 refine wp_seq (wp_seq ?_)
 have S1 := casi_m 0 b J hJ A c p hp hn l v
 rcases hm1 : casM J.budget l v innerR p with ⟨d1, p1⟩ | ⟨w1, p1⟩
 rotate_left
 ·apply drawn3_okB hB 4 none handOK_none (by kernel_rfl) TA_ok [8, 9, 10, 11] [0] [(3, .r fun _ => .agg [.int .i64 2, .sl none none 0 0 2 (fun _ => []), .int .i64 (-1), .int .u64 0, .int .u64 0])] hF rfl
  case hex => intro A X; conv => lhs; cbv
  case hD => kernel_rfl
  case hZ => kernel_rfl
  case hlen => rfl
  case hob =>
   intro X
   subst hB
   simp only [AO, Ob.holds, BE.den] <;> (and_intros <;> repeat first | trivial | rfl | exact enters178 | exact inn_s | refine ⟨?_, ?_⟩ | intro h)
  case hQ =>
  intro X1_t a0 w1 hF
  refine man_outT rfl rfl rfl rfl hF rfl rfl enters159 (S1.stop hm1) (by subst hB; exact zl) (mem1 rfl) rfl rfl ?_
  intro x w' hF hok
  exact thr_m (P := Tryz.prog) (fn := Tryz.f180) hF hok (by simp [bckM, ← hx0, ← hx1, Rs.bind, hm1]) ⟨rfl, ⟨_, rfl, zl⟩, trivial⟩
 have hs1 := (fro_cas _ _ _ _ _).of hm1
 have hp1 := hp.suf hs1
 have hn1 := Nat.le_trans hs1.le hn
 apply drB hB (by kernel_rfl) TA_ok [13, 0, 4] [0, 4] [(3, .r fun _ => .agg [.int .i64 2, .sl none none 0 0 2 (fun _ => []), .int .i64 (-1), .int .u64 0, .int .u64 0]), (4, .x fun x => ⟨.bool (.v d1), [(0, runC J (x.A 0) (x.c 0) p1)], []⟩)] hF rfl
 case hex => intro A X; conv => lhs; cbv
 case hD => kernel_rfl
 case hlen => rfl
 case hob =>
  intro X
  subst hB
  simp only [AO, Ob.holds, BE.den] <;> (and_intros <;> repeat first | trivial | rfl | exact enters178 | exact inn_s | exact enters159 | exact S1.ok hm1 | refine ⟨?_, ?_⟩ | intro h)
 case hQ =>
 intro X1 a0 w1 hF
 apply test_ok hF rfl <;> intro hb hF
 ·have t1 : d1 = false := by subst hB; revert hb; cases d1 <;> simp [std]
  refine wp_ret ?_
  refine (ret_mm (fn := Tryz.f180) TA_ok hF (rs := []) rfl (rfl) ?_ ((X1 4).A 0) ((X1 4).c 0) (v := ()) (q := p1) (by simp [bckM, ← hx0, ← hx1, Rs.bind, hm1, t1]) ?_ ?_).1
  ·subst hB; simp [AO, Ob.holds]
  ·subst hB; exact zr
  subst hB; exact ⟨rfl, ⟨_, rfl, zl⟩, trivial⟩
 have t1 : d1 = true := by subst hB; revert hb; cases d1 <;> simp [std]
 refine wp_skip ?_
 apply wp_seq
 apply rgB hB TA_ok [16, 0, 15] [0] [(1, .r fun _ => .agg [.int .i64 x0.len, .int .u64 x0.bits, .int .i64 x1.len, .int .u64 x1.bits])] hF
 ·intro A X; conv => lhs; cbv
 ·intro X; subst hB; simp only [AO, Ob.holds, BE.den] <;> (and_intros <;> repeat first | trivial | rfl | exact enters154 | exact SC | refine ⟨?_, ?_⟩ | intro h)
 intro X2 a0 w1 hF
 refine wp_block ?_
 refine wp_loop_rounds 3 ?_
 refine rounds_first ?_
 apply wp_seq
 apply rgB hB TA_ok [17, 0, 15, 16] [0] [] hF
 ·intro A X; conv => lhs; cbv
 ·intro X; subst hB; simp [AO, Ob.holds, BE.den, std, sC, sAr] <;> omega
 intro X3 a0 w1 hF
 replace hF := hF.headS (v' := .bool .tt) (Sim.bool (by subst hB; rfl)) rfl
 apply wp_seq
 refine test_tt hF rfl (fun hF => ?_)
 refine wp_skip ?_
 apply wp_seq
 refine wp_block ?_
 apply wp_seq
 apply rgB hB TA_ok [0, 7, 15, 16] [0, 7] [] hF
 ·intro A X; conv => lhs; cbv
 ·intro X; subst hB; simp only [AO, Ob.holds, BE.den] <;> (and_intros <;> repeat first | trivial | rfl | exact Int.le_refl _ | exact (show (0 : Int) ≤ 0 ∧ (0 : Int) < 2 by decide) | exact (show (0 : Int) ≤ 1 ∧ (1 : Int) < 2 by decide) | exact (show (0 : Int) < 2 by decide) | exact (show (0 : Int) ≤ 1 by decide) | exact (show (1 : Int) < 2 by decide) | intro h)
 intro X4 a0 w1 hF
 have S50 := hth 0 b J hJ ((X1 4).A 0) ((X1 4).c 0) p1 hp1 hn1 x0 hk0 (by have := Nat.lt_of_le_of_lt hs1.le hf; omega)
 rcases hm50 : thwM J.bucket J.budget n x0 p1 with ⟨_u50, p50⟩ | ⟨w50, p50⟩
 rotate_left
 ·refine wp_region_lit ?_
  apply list_preB 0 2 hB TA_ok [19, 20] [0] [] hF
  ·intro A X; conv => lhs; cbv
  ·intro X; subst hB; first | exact trivial | (repeat (first | exact trivial | refine ⟨rfl, ?_⟩))
  intro X5_t a0 w1 hF
  refine man_outT rfl rfl rfl rfl hF rfl rfl enters120 (S50.stop hm50) (by subst hB; exact zl) (mem1 rfl) rfl rfl ?_
  intro x w' hF hok
  exact thr_m (P := Tryz.prog) (fn := Tryz.f180) hF hok (by simp [bckM, ← hx0, ← hx1, Rs.bind, hm1, t1, hm50]) ⟨rfl, ⟨_, rfl, zl⟩, trivial⟩
 have hs50 := (fro_thw _ _ _ _ _).of hm50
 have hp50 := hp1.suf hs50
 have hn50 := Nat.le_trans hs50.le hn1
 apply rgB hB TA_ok [0, 15, 16] [0] [(2, .x fun x => ⟨unitV, [(0, runC J (x.A 0) (x.c 0) p50)], []⟩)] hF
 ·intro A X; conv => lhs; cbv
 ·intro X; subst hB; simp only [AO, Ob.holds, BE.den] <;> (and_intros <;> repeat first | trivial | rfl | exact enters120 | exact S50.ok hm50 | refine ⟨?_, ?_⟩ | intro h)
 intro X5 a0 w1 hF
 apply rgB hB TA_ok [16, 0, 15] [0] [] hF
 ·intro A X; conv => lhs; cbv
 ·intro X; subst hB; simp [AO, Ob.holds, BE.den, std, sC, sAr] <;> omega
 intro X6 a0 w1 hF
 replace hF := hF.headS (v' := .int .i64 1) (by subst hB; exact zr) rfl
 refine rounds_next ?_
 apply wp_seq
 apply rgB hB TA_ok [17, 0, 15, 16] [0] [] hF
 ·intro A X; conv => lhs; cbv
 ·intro X; subst hB; simp [AO, Ob.holds, BE.den, std, sC, sAr] <;> omega
 intro X3 a0 w1 hF
 replace hF := hF.headS (v' := .bool .tt) (Sim.bool (by subst hB; rfl)) rfl
 apply wp_seq
 refine test_tt hF rfl (fun hF => ?_)
 refine wp_skip ?_
 apply wp_seq
 refine wp_block ?_
 apply wp_seq
 apply rgB hB TA_ok [0, 7, 15, 16] [0, 7] [] hF
 ·intro A X; conv => lhs; cbv
 ·intro X; subst hB; simp only [AO, Ob.holds, BE.den] <;> (and_intros <;> repeat first | trivial | rfl | exact Int.le_refl _ | exact (show (0 : Int) ≤ 0 ∧ (0 : Int) < 2 by decide) | exact (show (0 : Int) ≤ 1 ∧ (1 : Int) < 2 by decide) | exact (show (0 : Int) < 2 by decide) | exact (show (0 : Int) ≤ 1 by decide) | exact (show (1 : Int) < 2 by decide) | intro h)
 intro X4 a0 w1 hF
 have S51 := hth 0 b J hJ ((X5 2).A 0) ((X5 2).c 0) p50 hp50 hn50 x1 hk1 (by have := Nat.lt_of_le_of_lt (Suf.trans hs1 hs50).le hf; omega)
 rcases hm51 : thwM J.bucket J.budget n x1 p50 with ⟨_u51, p51⟩ | ⟨w51, p51⟩
 rotate_left
 ·refine wp_region_lit ?_
  apply list_preB 0 2 hB TA_ok [19, 20] [0] [] hF
  ·intro A X; conv => lhs; cbv
  ·intro X; subst hB; first | exact trivial | (repeat (first | exact trivial | refine ⟨rfl, ?_⟩))
  intro X5_t a0 w1 hF
  refine man_outT rfl rfl rfl rfl hF rfl rfl enters120 (S51.stop hm51) (by subst hB; exact zl) (mem1 rfl) rfl rfl ?_
  intro x w' hF hok
  exact thr_m (P := Tryz.prog) (fn := Tryz.f180) hF hok (by simp [bckM, ← hx0, ← hx1, Rs.bind, hm1, t1, hm50, hm51]) ⟨rfl, ⟨_, rfl, zl⟩, trivial⟩
 have hs51 := (fro_thw _ _ _ _ _).of hm51
 have hp51 := hp50.suf hs51
 have hn51 := Nat.le_trans hs51.le hn50
 apply rgB hB TA_ok [0, 15, 16] [0] [(2, .x fun x => ⟨unitV, [(0, runC J (x.A 0) (x.c 0) p51)], []⟩)] hF
 ·intro A X; conv => lhs; cbv
 ·intro X; subst hB; simp only [AO, Ob.holds, BE.den] <;> (and_intros <;> repeat first | trivial | rfl | exact enters120 | exact S51.ok hm51 | refine ⟨?_, ?_⟩ | intro h)
 intro X5 a0 w1 hF
 apply rgB hB TA_ok [16, 0, 15] [0] [] hF
 ·intro A X; conv => lhs; cbv
 ·intro X; subst hB; simp [AO, Ob.holds, BE.den, std, sC, sAr] <;> omega
 intro X6 a0 w1 hF
 replace hF := hF.headS (v' := .int .i64 2) (by subst hB; exact zr) rfl
 refine rounds_next ?_
 apply wp_seq
 apply rgB hB TA_ok [17, 0, 15, 16] [0] [] hF
 ·intro A X; conv => lhs; cbv
 ·intro X; subst hB; simp [AO, Ob.holds, BE.den, std, sC, sAr] <;> omega
 intro X3 a0 w1 hF
 replace hF := hF.headS (v' := .bool .ff) (Sim.bool (by subst hB; rfl)) rfl
 apply wp_seq
 refine test_ff hF rfl (fun hF => ?_)
 refine wp_exit ?_
 refine (ret_mm (fn := Tryz.f180) TA_ok hF (rs := []) rfl (rfl) ?_ ((X5 2).A 0) ((X5 2).c 0) (v := ()) (q := p51) (by simp [bckM, ← hx0, ← hx1, Rs.bind, hm1, t1, hm50, hm51]) ?_ ?_).2
 ·subst hB; simp [AO, Ob.holds]
 ·subst hB; exact zr
 subst hB; exact ⟨rfl, ⟨_, rfl, zl⟩, trivial⟩
theorem bck_m (k0 b : Nat) (J : JobA) (hJ : JobOk J) (A : Option Addr) (c : Nat) (p : Pst) (hp : PstOk p) (hn : p.n ≤ 1000000) (l : Lab) (hl : LOk l) (v : Int) (n : Nat) (hth : ThC n) (hf : p.n < n) : RunS 180 k0 b J A c p [labAV l, .int .u64 v] (fun _ => unitV) (bckM J.budget (thwM J.bucket J.budget n) l v p) := RunS.re (bck_m0 b J hJ A c p hp hn l hl v n hth hf) (by repeat (first | exact trivial | refine ⟨zr, ?_⟩))
theorem clns_m0 (b : Nat) (J : JobA) (hJ : JobOk J) (A : Option Addr) (c : Nat) (p : Pst) (hp : PstOk p) (hn : p.n ≤ 1000000) (l : Lab) (hl : LOk l) (n : Nat) (ih : ClC n) (hf : p.n < n + 1) : RunS 116 0 b J A c p [labAV l] (fun _ => unitV) (clnM J.budget (n + 1) l p) := by
 intro m w hm hargs hpre
 have SC := chi_s l hl.u
 have hk0 := hl.ch 0
 have hk1 := hl.ch 1
 simp only [labAV] at SC
 obtain ⟨x0, hx0⟩ := eqv (chV l 0)
 rw [← hx0] at SC hk0
 obtain ⟨x1, hx1⟩ := eqv (chV l 1)
 rw [← hx1] at SC hk1
 refine enterX hm hpre hargs Tryz.func116 rfl (by simp [Tryz.ntmps116]) fun a0 hF => ?_
 simp only [Tryz.ntmps116, startT] at hF
 obtain ⟨B, hB⟩ := eqv (std)
 apply wp_seq
 apply rgB hB TA_ok [0, 3] [0, 3] [] hF
 ·intro A X; conv => lhs; cbv
 ·intro X; subst hB; simp [AO, Ob.holds, BE.den, std, sC, sAr] <;> omega
 intro X0 a0 w1 hF
 refine wp_seq (wp_seq ?_)
 apply rgB hB TA_ok [9, 0, 3] [0, 3] [] hF
 ·intro A X; conv => lhs; cbv
 ·intro X; subst hB; simp [AO, Ob.holds, BE.den, std, sC, sAr] <;> omega
 intro X1 a0 w1 hF
 apply test_ok hF rfl <;> intro hb hF
 ·have t0 : l.len = 64 := by subst hB; simpa [std, sC] using hb
  refine wp_ret ?_
  refine (ret_mm (fn := Tryz.f116) TA_ok hF (rs := []) rfl (rfl) ?_ A c (v := ()) (q := p) (by simp [clnM, clnC, ← hx0, ← hx1, Rs.bind, t0]) ?_ ?_).1
  ·subst hB; simp [AO, Ob.holds]
  ·subst hB; exact zr
  subst hB; exact ⟨rfl, ⟨_, rfl, zl⟩, trivial⟩
 have t0 : ¬ l.len = 64 := by subst hB; simpa [std, sC] using hb
 refine wp_skip ?_
 apply wp_seq
 apply rgB hB TA_ok [12, 0, 3, 11] [0, 3] [(1, .r fun _ => .agg [.int .i64 x0.len, .int .u64 x0.bits, .int .i64 x1.len, .int .u64 x1.bits])] hF
 ·intro A X; conv => lhs; cbv
 ·intro X; subst hB; simp only [AO, Ob.holds, BE.den] <;> (and_intros <;> repeat first | trivial | rfl | exact enters154 | exact SC | refine ⟨?_, ?_⟩ | intro h)
 intro X2 a0 w1 hF
 refine wp_block ?_
 refine wp_loop_rounds 3 ?_
 refine rounds_first ?_
 apply wp_seq
 apply rgB hB TA_ok [13, 0, 3, 11, 12] [0, 3] [] hF
 ·intro A X; conv => lhs; cbv
 ·intro X; subst hB; simp [AO, Ob.holds, BE.den, std, sC, sAr] <;> omega
 intro X3 a0 w1 hF
 replace hF := hF.headS (v' := .bool .tt) (Sim.bool (by subst hB; rfl)) rfl
 apply wp_seq
 refine test_tt hF rfl (fun hF => ?_)
 refine wp_skip ?_
 apply wp_seq
 refine wp_block ?_
 apply wp_seq
 apply rgB hB TA_ok [0, 3, 5, 11, 12] [0, 3, 5] [] hF
 ·intro A X; conv => lhs; cbv
 ·intro X; subst hB; simp only [AO, Ob.holds, BE.den] <;> (and_intros <;> repeat first | trivial | rfl | exact Int.le_refl _ | exact (show (0 : Int) ≤ 0 ∧ (0 : Int) < 2 by decide) | exact (show (0 : Int) ≤ 1 ∧ (1 : Int) < 2 by decide) | exact (show (0 : Int) < 2 by decide) | exact (show (0 : Int) ≤ 1 by decide) | exact (show (1 : Int) < 2 by decide) | intro h)
 intro X4 a0 w1 hF
 apply wp_seq
 have S50 := get_m 0 b J hJ A c p hp hn x0
 rcases hm50 : getM J.budget x0 p with ⟨g0, p50⟩ | ⟨w50, p50⟩
 rotate_left
 ·refine wp_region_lit ?_
  apply list_preB 0 2 hB TA_ok [15, 16] [0] [] hF
  ·intro A X; conv => lhs; cbv
  ·intro X; subst hB; first | exact trivial | (repeat (first | exact trivial | refine ⟨rfl, ?_⟩))
  intro X5_t a0 w1 hF
  refine man_outT rfl rfl rfl rfl hF rfl rfl enters117 (S50.stop hm50) (by subst hB; exact zl) (mem1 rfl) rfl rfl ?_
  intro x w' hF hok
  exact thr_m (P := Tryz.prog) (fn := Tryz.f116) hF hok (by simp [clnM, clnC, ← hx0, ← hx1, Rs.bind, t0, hm50]) ⟨rfl, ⟨_, rfl, zl⟩, trivial⟩
 have hs50 := (fro_get _ _ _).of hm50
 have hp50 := hp.suf hs50
 have hn50 := Nat.le_trans hs50.le hn
 have hl50 := get_lt hm50
 have hg50 := hp.get hm50
 apply rgB hB TA_ok [0, 3, 5, 6, 11, 12] [0, 3, 5, 6] [(2, .x fun x => ⟨gotV g0, [(0, runC J (x.A 0) (x.c 0) p50)], []⟩)] hF
 ·intro A X; conv => lhs; cbv
 ·intro X; subst hB; simp only [AO, Ob.holds, BE.den] <;> (and_intros <;> repeat first | trivial | rfl | exact enters117 | exact S50.ok hm50 | refine ⟨?_, ?_⟩ | intro h)
 intro X5 a0 w1 hF
 refine wp_seq (wp_seq ?_)
 obtain ⟨q0, hq0⟩ := eqv (gk g0 5)
 apply rgB hB TA_ok [21, 0, 3, 5, 6, 11, 12] [0, 3, 5, 6] [(2, .r fun _ => .bool (.v q0))] hF
 ·intro A X; conv => lhs; cbv
 ·intro X; subst hB; simp only [AO, Ob.holds, BE.den] <;> (and_intros <;> repeat first | trivial | rfl | exact enters118 | exact (by rw [hq0]; exact is1_s g0 _ _ 5 _ rfl) | exact by rw [hq0]; exact is1_s g0 _ _ 5 _ rfl | refine ⟨?_, ?_⟩ | intro h)
 intro X6 a0 w1 hF
 apply test_ok hF rfl <;> intro hb hF
 ·have tq0 : gk g0 5 = false := by subst hB; rw [← hq0]; revert hb; cases q0 <;> simp [std]
  refine wp_exit ?_
  apply rgB hB TA_ok [12, 0, 3, 11] [0, 3] [] hF
  ·intro A X; conv => lhs; cbv
  ·intro X; subst hB; simp [AO, Ob.holds, BE.den, std, sC, sAr] <;> omega
  intro X10 a0 w1 hF
  replace hF := hF.headS (v' := .int .i64 1) (by subst hB; exact zr) rfl
  refine rounds_next ?_
  apply wp_seq
  apply rgB hB TA_ok [13, 0, 3, 11, 12] [0, 3] [] hF
  ·intro A X; conv => lhs; cbv
  ·intro X; subst hB; simp [AO, Ob.holds, BE.den, std, sC, sAr] <;> omega
  intro X3 a0 w1 hF
  replace hF := hF.headS (v' := .bool .tt) (Sim.bool (by subst hB; rfl)) rfl
  apply wp_seq
  refine test_tt hF rfl (fun hF => ?_)
  refine wp_skip ?_
  apply wp_seq
  refine wp_block ?_
  apply wp_seq
  apply rgB hB TA_ok [0, 3, 5, 11, 12] [0, 3, 5] [] hF
  ·intro A X; conv => lhs; cbv
  ·intro X; subst hB; simp only [AO, Ob.holds, BE.den] <;> (and_intros <;> repeat first | trivial | rfl | exact Int.le_refl _ | exact (show (0 : Int) ≤ 0 ∧ (0 : Int) < 2 by decide) | exact (show (0 : Int) ≤ 1 ∧ (1 : Int) < 2 by decide) | exact (show (0 : Int) < 2 by decide) | exact (show (0 : Int) ≤ 1 by decide) | exact (show (1 : Int) < 2 by decide) | intro h)
  intro X4 a0 w1 hF
  apply wp_seq
  have S51 := get_m 0 b J hJ ((X5 2).A 0) ((X5 2).c 0) p50 hp50 hn50 x1
  rcases hm51 : getM J.budget x1 p50 with ⟨g1, p51⟩ | ⟨w51, p51⟩
  rotate_left
  ·refine wp_region_lit ?_
   apply list_preB 0 2 hB TA_ok [15, 16] [0] [] hF
   ·intro A X; conv => lhs; cbv
   ·intro X; subst hB; first | exact trivial | (repeat (first | exact trivial | refine ⟨rfl, ?_⟩))
   intro X5_t a0 w1 hF
   refine man_outT rfl rfl rfl rfl hF rfl rfl enters117 (S51.stop hm51) (by subst hB; exact zl) (mem1 rfl) rfl rfl ?_
   intro x w' hF hok
   exact thr_m (P := Tryz.prog) (fn := Tryz.f116) hF hok (by simp [clnM, clnC, ← hx0, ← hx1, Rs.bind, t0, hm50, tq0, hm51]) ⟨rfl, ⟨_, rfl, zl⟩, trivial⟩
  have hs51 := (fro_get _ _ _).of hm51
  have hp51 := hp50.suf hs51
  have hn51 := Nat.le_trans hs51.le hn50
  have hl51 := get_lt hm51
  have hg51 := hp50.get hm51
  apply rgB hB TA_ok [0, 3, 5, 6, 11, 12] [0, 3, 5, 6] [(2, .x fun x => ⟨gotV g1, [(0, runC J (x.A 0) (x.c 0) p51)], []⟩)] hF
  ·intro A X; conv => lhs; cbv
  ·intro X; subst hB; simp only [AO, Ob.holds, BE.den] <;> (and_intros <;> repeat first | trivial | rfl | exact enters117 | exact S51.ok hm51 | refine ⟨?_, ?_⟩ | intro h)
  intro X5 a0 w1 hF
  refine wp_seq (wp_seq ?_)
  obtain ⟨q1, hq1⟩ := eqv (gk g1 5)
  apply rgB hB TA_ok [21, 0, 3, 5, 6, 11, 12] [0, 3, 5, 6] [(2, .r fun _ => .bool (.v q1))] hF
  ·intro A X; conv => lhs; cbv
  ·intro X; subst hB; simp only [AO, Ob.holds, BE.den] <;> (and_intros <;> repeat first | trivial | rfl | exact enters118 | exact (by rw [hq1]; exact is1_s g1 _ _ 5 _ rfl) | exact by rw [hq1]; exact is1_s g1 _ _ 5 _ rfl | refine ⟨?_, ?_⟩ | intro h)
  intro X6 a0 w1 hF
  apply test_ok hF rfl <;> intro hb hF
  ·have tq1 : gk g1 5 = false := by subst hB; rw [← hq1]; revert hb; cases q1 <;> simp [std]
   refine wp_exit ?_
   apply rgB hB TA_ok [12, 0, 3, 11] [0, 3] [] hF
   ·intro A X; conv => lhs; cbv
   ·intro X; subst hB; simp [AO, Ob.holds, BE.den, std, sC, sAr] <;> omega
   intro X10 a0 w1 hF
   replace hF := hF.headS (v' := .int .i64 2) (by subst hB; exact zr) rfl
   refine rounds_next ?_
   apply wp_seq
   apply rgB hB TA_ok [13, 0, 3, 11, 12] [0, 3] [] hF
   ·intro A X; conv => lhs; cbv
   ·intro X; subst hB; simp [AO, Ob.holds, BE.den, std, sC, sAr] <;> omega
   intro X3 a0 w1 hF
   replace hF := hF.headS (v' := .bool .ff) (Sim.bool (by subst hB; rfl)) rfl
   apply wp_seq
   refine test_ff hF rfl (fun hF => ?_)
   refine wp_exit ?_
   refine (ret_mm (fn := Tryz.f116) TA_ok hF (rs := []) rfl (rfl) ?_ ((X5 2).A 0) ((X5 2).c 0) (v := ()) (q := p51) (by simp [clnM, clnC, ← hx0, ← hx1, Rs.bind, t0, hm50, tq0, hm51, tq1]) ?_ ?_).2
   ·subst hB; simp [AO, Ob.holds]
   ·subst hB; exact zr
   subst hB; exact ⟨rfl, ⟨_, rfl, zl⟩, trivial⟩
  have tq1 : gk g1 5 = true := by subst hB; rw [← hq1]; revert hb; cases q1 <;> simp [std]
  refine wp_skip ?_
  apply wp_seq
  have S71 := ih 0 b J hJ ((X5 2).A 0) ((X5 2).c 0) p51 hp51 hn51 x1 hk1 (by have := hs51.le; have := hl51; have := (Suf.trans (Suf.refl p) hs50).le; omega)
  rcases hm71 : clnM J.budget n x1 p51 with ⟨v71, p71⟩ | ⟨w71, p71⟩
  rotate_left
  ·refine wp_region_lit ?_
   apply list_preB 0 2 hB TA_ok [22, 23] [0] [] hF
   ·intro A X; conv => lhs; cbv
   ·intro X; subst hB; first | exact trivial | (repeat (first | exact trivial | refine ⟨rfl, ?_⟩))
   intro X7_t a0 w1 hF
   refine man_outT rfl rfl rfl rfl hF rfl rfl enters116 (S71.stop hm71) (by subst hB; exact zl) (mem1 rfl) rfl rfl ?_
   intro x w' hF hok
   exact thr_m (P := Tryz.prog) (fn := Tryz.f116) hF hok (by simp [clnM, clnC, ← hx0, ← hx1, Rs.bind, t0, hm50, tq0, hm51, tq1, hm71]) ⟨rfl, ⟨_, rfl, zl⟩, trivial⟩
  have hs71 := (fro_cln _ _ _ _).of hm71
  have hp71 := hp51.suf hs71
  have hn71 := Nat.le_trans hs71.le hn51
  apply rgB hB TA_ok [0, 3, 5, 6, 11, 12] [0, 3, 5, 6] [(2, .x fun x => ⟨unitV, [(0, runC J (x.A 0) (x.c 0) p71)], []⟩)] hF
  ·intro A X; conv => lhs; cbv
  ·intro X; subst hB; simp only [AO, Ob.holds, BE.den] <;> (and_intros <;> repeat first | trivial | rfl | exact enters116 | exact S71.ok hm71 | refine ⟨?_, ?_⟩ | intro h)
  intro X7 a0 w1 hF
  refine wp_seq (wp_seq ?_)
  have S81 := get_m 0 b J hJ ((X7 2).A 0) ((X7 2).c 0) p71 hp71 hn71 l
  rcases hm81 : getM J.budget l p71 with ⟨h1, p81⟩ | ⟨w81, p81⟩
  rotate_left
  ·refine wp_region_lit ?_
   apply list_preB 0 2 hB TA_ok [25, 26] [0] [] hF
   ·intro A X; conv => lhs; cbv
   ·intro X; subst hB; first | exact trivial | (repeat (first | exact trivial | refine ⟨rfl, ?_⟩))
   intro X8_t a0 w1 hF
   refine man_outT rfl rfl rfl rfl hF rfl rfl enters117 (S81.stop hm81) (by subst hB; exact zl) (mem1 rfl) rfl rfl ?_
   intro x w' hF hok
   exact thr_m (P := Tryz.prog) (fn := Tryz.f116) hF hok (by simp [clnM, clnC, ← hx0, ← hx1, Rs.bind, t0, hm50, tq0, hm51, tq1, hm71, hm81]) ⟨rfl, ⟨_, rfl, zl⟩, trivial⟩
  have hs81 := (fro_get _ _ _).of hm81
  have hp81 := hp71.suf hs81
  have hn81 := Nat.le_trans hs81.le hn71
  have hl81 := get_lt hm81
  have hg81 := hp71.get hm81
  obtain ⟨r1, hr1⟩ := eqv ((gk h1 1 || gk h1 5))
  apply rgB hB TA_ok [30, 0, 3, 5, 6, 11, 12] [0, 3, 5, 6] [(4, .r fun _ => .bool (.v r1)), (2, .x fun x => ⟨gotV h1, [(0, runC J (x.A 0) (x.c 0) p81)], []⟩)] hF
  ·intro A X; conv => lhs; cbv
  ·intro X; subst hB; simp only [AO, Ob.holds, BE.den] <;> (and_intros <;> repeat first | trivial | rfl | exact enters117 | exact S81.ok hm81 | exact enters118 | exact (by rw [hr1]; exact is2_s h1 _ _ 1 5 _ rfl rfl) | exact by rw [hr1]; exact is2_s h1 _ _ 1 5 _ rfl rfl | refine ⟨?_, ?_⟩ | intro h)
  intro X8 a0 w1 hF
  apply test_ok hF rfl <;> intro hb hF
  ·have tr1 : (gk h1 1 || gk h1 5) = false := by subst hB; rw [← hr1]; revert hb; cases r1 <;> simp [std]
   refine wp_ret ?_
   refine (ret_mm (fn := Tryz.f116) TA_ok hF (rs := []) rfl (rfl) ?_ ((X8 2).A 0) ((X8 2).c 0) (v := ()) (q := p81) (by simp [clnM, clnC, ← hx0, ← hx1, Rs.bind, t0, hm50, tq0, hm51, tq1, hm71, hm81, tr1]) ?_ ?_).1
   ·subst hB; simp [AO, Ob.holds]
   ·subst hB; exact zr
   subst hB; exact ⟨rfl, ⟨_, rfl, zl⟩, trivial⟩
  have tr1 : (gk h1 1 || gk h1 5) = true := by subst hB; rw [← hr1]; revert hb; cases r1 <;> simp [std]
  refine wp_skip ?_
  have S91 := del_m 0 b J hJ ((X8 2).A 0) ((X8 2).c 0) p81 hp81 hn81 x1 g1.ver
  rcases hm91 : drpM J.budget x1 g1.ver p81 with ⟨d1, p91⟩ | ⟨w91, p91⟩
  rotate_left
  ·refine wp_region_lit ?_
   apply list_preB 0 4 hB TA_ok [31, 32, 34] [0] [] hF
   ·intro A X; conv => lhs; cbv
   ·intro X; subst hB; first | exact trivial | (repeat (first | exact trivial | refine ⟨rfl, ?_⟩))
   intro X9_t a0 w1 hF
   refine man_outT rfl rfl rfl rfl hF rfl rfl enters155 (S91.stop hm91) (by subst hB; exact zl) (mem1 rfl) rfl rfl ?_
   intro x w' hF hok
   exact thr_m (P := Tryz.prog) (fn := Tryz.f116) hF hok (by simp [clnM, clnC, ← hx0, ← hx1, Rs.bind, t0, hm50, tq0, hm51, tq1, hm71, hm81, tr1, hm91]) ⟨rfl, ⟨_, rfl, zl⟩, trivial⟩
  have hs91 := (fro_del _ _ _ _).of hm91
  have hp91 := hp81.suf hs91
  have hn91 := Nat.le_trans hs91.le hn81
  apply rgB hB TA_ok [0, 3, 11, 12] [0, 3] [(4, .x fun x => ⟨.bool (.v d1), [(0, runC J (x.A 0) (x.c 0) p91)], []⟩)] hF
  ·intro A X; conv => lhs; cbv
  ·intro X; subst hB; simp only [AO, Ob.holds, BE.den] <;> (and_intros <;> repeat first | trivial | rfl | exact enters155 | exact S91.ok hm91 | refine ⟨?_, ?_⟩ | intro h)
  intro X9 a0 w1 hF
  apply rgB hB TA_ok [12, 0, 3, 11] [0, 3] [] hF
  ·intro A X; conv => lhs; cbv
  ·intro X; subst hB; simp [AO, Ob.holds, BE.den, std, sC, sAr] <;> omega
  intro X10 a0 w1 hF
  replace hF := hF.headS (v' := .int .i64 2) (by subst hB; exact zr) rfl
  refine rounds_next ?_
  apply wp_seq
  apply rgB hB TA_ok [13, 0, 3, 11, 12] [0, 3] [] hF
  ·intro A X; conv => lhs; cbv
  ·intro X; subst hB; simp [AO, Ob.holds, BE.den, std, sC, sAr] <;> omega
  intro X3 a0 w1 hF
  replace hF := hF.headS (v' := .bool .ff) (Sim.bool (by subst hB; rfl)) rfl
  apply wp_seq
  refine test_ff hF rfl (fun hF => ?_)
  refine wp_exit ?_
  refine (ret_mm (fn := Tryz.f116) TA_ok hF (rs := []) rfl (rfl) ?_ ((X9 4).A 0) ((X9 4).c 0) (v := ()) (q := p91) (by simp [clnM, clnC, ← hx0, ← hx1, Rs.bind, t0, hm50, tq0, hm51, tq1, hm71, hm81, tr1, hm91]) ?_ ?_).2
  ·subst hB; simp [AO, Ob.holds]
  ·subst hB; exact zr
  subst hB; exact ⟨rfl, ⟨_, rfl, zl⟩, trivial⟩
 have tq0 : gk g0 5 = true := by subst hB; rw [← hq0]; revert hb; cases q0 <;> simp [std]
 refine wp_skip ?_
 apply wp_seq
 have S70 := ih 0 b J hJ ((X5 2).A 0) ((X5 2).c 0) p50 hp50 hn50 x0 hk0 (by have := hs50.le; have := hl50; have := (Suf.refl p).le; omega)
 rcases hm70 : clnM J.budget n x0 p50 with ⟨v70, p70⟩ | ⟨w70, p70⟩
 rotate_left
 ·refine wp_region_lit ?_
  apply list_preB 0 2 hB TA_ok [22, 23] [0] [] hF
  ·intro A X; conv => lhs; cbv
  ·intro X; subst hB; first | exact trivial | (repeat (first | exact trivial | refine ⟨rfl, ?_⟩))
  intro X7_t a0 w1 hF
  refine man_outT rfl rfl rfl rfl hF rfl rfl enters116 (S70.stop hm70) (by subst hB; exact zl) (mem1 rfl) rfl rfl ?_
  intro x w' hF hok
  exact thr_m (P := Tryz.prog) (fn := Tryz.f116) hF hok (by simp [clnM, clnC, ← hx0, ← hx1, Rs.bind, t0, hm50, tq0, hm70]) ⟨rfl, ⟨_, rfl, zl⟩, trivial⟩
 have hs70 := (fro_cln _ _ _ _).of hm70
 have hp70 := hp50.suf hs70
 have hn70 := Nat.le_trans hs70.le hn50
 apply rgB hB TA_ok [0, 3, 5, 6, 11, 12] [0, 3, 5, 6] [(2, .x fun x => ⟨unitV, [(0, runC J (x.A 0) (x.c 0) p70)], []⟩)] hF
 ·intro A X; conv => lhs; cbv
 ·intro X; subst hB; simp only [AO, Ob.holds, BE.den] <;> (and_intros <;> repeat first | trivial | rfl | exact enters116 | exact S70.ok hm70 | refine ⟨?_, ?_⟩ | intro h)
 intro X7 a0 w1 hF
 refine wp_seq (wp_seq ?_)
 have S80 := get_m 0 b J hJ ((X7 2).A 0) ((X7 2).c 0) p70 hp70 hn70 l
 rcases hm80 : getM J.budget l p70 with ⟨h0, p80⟩ | ⟨w80, p80⟩
 rotate_left
 ·refine wp_region_lit ?_
  apply list_preB 0 2 hB TA_ok [25, 26] [0] [] hF
  ·intro A X; conv => lhs; cbv
  ·intro X; subst hB; first | exact trivial | (repeat (first | exact trivial | refine ⟨rfl, ?_⟩))
  intro X8_t a0 w1 hF
  refine man_outT rfl rfl rfl rfl hF rfl rfl enters117 (S80.stop hm80) (by subst hB; exact zl) (mem1 rfl) rfl rfl ?_
  intro x w' hF hok
  exact thr_m (P := Tryz.prog) (fn := Tryz.f116) hF hok (by simp [clnM, clnC, ← hx0, ← hx1, Rs.bind, t0, hm50, tq0, hm70, hm80]) ⟨rfl, ⟨_, rfl, zl⟩, trivial⟩
 have hs80 := (fro_get _ _ _).of hm80
 have hp80 := hp70.suf hs80
 have hn80 := Nat.le_trans hs80.le hn70
 have hl80 := get_lt hm80
 have hg80 := hp70.get hm80
 obtain ⟨r0, hr0⟩ := eqv ((gk h0 1 || gk h0 5))
 apply rgB hB TA_ok [30, 0, 3, 5, 6, 11, 12] [0, 3, 5, 6] [(4, .r fun _ => .bool (.v r0)), (2, .x fun x => ⟨gotV h0, [(0, runC J (x.A 0) (x.c 0) p80)], []⟩)] hF
 ·intro A X; conv => lhs; cbv
 ·intro X; subst hB; simp only [AO, Ob.holds, BE.den] <;> (and_intros <;> repeat first | trivial | rfl | exact enters117 | exact S80.ok hm80 | exact enters118 | exact (by rw [hr0]; exact is2_s h0 _ _ 1 5 _ rfl rfl) | exact by rw [hr0]; exact is2_s h0 _ _ 1 5 _ rfl rfl | refine ⟨?_, ?_⟩ | intro h)
 intro X8 a0 w1 hF
 apply test_ok hF rfl <;> intro hb hF
 ·have tr0 : (gk h0 1 || gk h0 5) = false := by subst hB; rw [← hr0]; revert hb; cases r0 <;> simp [std]
  refine wp_ret ?_
  refine (ret_mm (fn := Tryz.f116) TA_ok hF (rs := []) rfl (rfl) ?_ ((X8 2).A 0) ((X8 2).c 0) (v := ()) (q := p80) (by simp [clnM, clnC, ← hx0, ← hx1, Rs.bind, t0, hm50, tq0, hm70, hm80, tr0]) ?_ ?_).1
  ·subst hB; simp [AO, Ob.holds]
  ·subst hB; exact zr
  subst hB; exact ⟨rfl, ⟨_, rfl, zl⟩, trivial⟩
 have tr0 : (gk h0 1 || gk h0 5) = true := by subst hB; rw [← hr0]; revert hb; cases r0 <;> simp [std]
 refine wp_skip ?_
 have S90 := del_m 0 b J hJ ((X8 2).A 0) ((X8 2).c 0) p80 hp80 hn80 x0 g0.ver
 rcases hm90 : drpM J.budget x0 g0.ver p80 with ⟨d0, p90⟩ | ⟨w90, p90⟩
 rotate_left
 ·refine wp_region_lit ?_
  apply list_preB 0 4 hB TA_ok [31, 32, 34] [0] [] hF
  ·intro A X; conv => lhs; cbv
  ·intro X; subst hB; first | exact trivial | (repeat (first | exact trivial | refine ⟨rfl, ?_⟩))
  intro X9_t a0 w1 hF
  refine man_outT rfl rfl rfl rfl hF rfl rfl enters155 (S90.stop hm90) (by subst hB; exact zl) (mem1 rfl) rfl rfl ?_
  intro x w' hF hok
  exact thr_m (P := Tryz.prog) (fn := Tryz.f116) hF hok (by simp [clnM, clnC, ← hx0, ← hx1, Rs.bind, t0, hm50, tq0, hm70, hm80, tr0, hm90]) ⟨rfl, ⟨_, rfl, zl⟩, trivial⟩
 have hs90 := (fro_del _ _ _ _).of hm90
 have hp90 := hp80.suf hs90
 have hn90 := Nat.le_trans hs90.le hn80
 apply rgB hB TA_ok [0, 3, 11, 12] [0, 3] [(4, .x fun x => ⟨.bool (.v d0), [(0, runC J (x.A 0) (x.c 0) p90)], []⟩)] hF
 ·intro A X; conv => lhs; cbv
 ·intro X; subst hB; simp only [AO, Ob.holds, BE.den] <;> (and_intros <;> repeat first | trivial | rfl | exact enters155 | exact S90.ok hm90 | refine ⟨?_, ?_⟩ | intro h)
 intro X9 a0 w1 hF
 apply rgB hB TA_ok [12, 0, 3, 11] [0, 3] [] hF
 ·intro A X; conv => lhs; cbv
 ·intro X; subst hB; simp [AO, Ob.holds, BE.den, std, sC, sAr] <;> omega
 intro X10 a0 w1 hF
 replace hF := hF.headS (v' := .int .i64 1) (by subst hB; exact zr) rfl
 refine rounds_next ?_
 apply wp_seq
 apply rgB hB TA_ok [13, 0, 3, 11, 12] [0, 3] [] hF
 ·intro A X; conv => lhs; cbv
 ·intro X; subst hB; simp [AO, Ob.holds, BE.den, std, sC, sAr] <;> omega
 intro X3 a0 w1 hF
 replace hF := hF.headS (v' := .bool .tt) (Sim.bool (by subst hB; rfl)) rfl
 apply wp_seq
 refine test_tt hF rfl (fun hF => ?_)
 refine wp_skip ?_
 apply wp_seq
 refine wp_block ?_
 apply wp_seq
 apply rgB hB TA_ok [0, 3, 5, 11, 12] [0, 3, 5] [] hF
 ·intro A X; conv => lhs; cbv
 ·intro X; subst hB; simp only [AO, Ob.holds, BE.den] <;> (and_intros <;> repeat first | trivial | rfl | exact Int.le_refl _ | exact (show (0 : Int) ≤ 0 ∧ (0 : Int) < 2 by decide) | exact (show (0 : Int) ≤ 1 ∧ (1 : Int) < 2 by decide) | exact (show (0 : Int) < 2 by decide) | exact (show (0 : Int) ≤ 1 by decide) | exact (show (1 : Int) < 2 by decide) | intro h)
 intro X4 a0 w1 hF
 apply wp_seq
 have S51 := get_m 0 b J hJ ((X9 4).A 0) ((X9 4).c 0) p90 hp90 hn90 x1
 rcases hm51 : getM J.budget x1 p90 with ⟨g1, p51⟩ | ⟨w51, p51⟩
 rotate_left
 ·refine wp_region_lit ?_
  apply list_preB 0 2 hB TA_ok [15, 16] [0] [] hF
  ·intro A X; conv => lhs; cbv
  ·intro X; subst hB; first | exact trivial | (repeat (first | exact trivial | refine ⟨rfl, ?_⟩))
  intro X5_t a0 w1 hF
  refine man_outT rfl rfl rfl rfl hF rfl rfl enters117 (S51.stop hm51) (by subst hB; exact zl) (mem1 rfl) rfl rfl ?_
  intro x w' hF hok
  exact thr_m (P := Tryz.prog) (fn := Tryz.f116) hF hok (by simp [clnM, clnC, ← hx0, ← hx1, Rs.bind, t0, hm50, tq0, hm70, hm80, tr0, hm90, hm51]) ⟨rfl, ⟨_, rfl, zl⟩, trivial⟩
 have hs51 := (fro_get _ _ _).of hm51
 have hp51 := hp90.suf hs51
 have hn51 := Nat.le_trans hs51.le hn90
 have hl51 := get_lt hm51
 have hg51 := hp90.get hm51
 apply rgB hB TA_ok [0, 3, 5, 6, 11, 12] [0, 3, 5, 6] [(2, .x fun x => ⟨gotV g1, [(0, runC J (x.A 0) (x.c 0) p51)], []⟩)] hF
 ·intro A X; conv => lhs; cbv
 ·intro X; subst hB; simp only [AO, Ob.holds, BE.den] <;> (and_intros <;> repeat first | trivial | rfl | exact enters117 | exact S51.ok hm51 | refine ⟨?_, ?_⟩ | intro h)
 intro X5 a0 w1 hF
 refine wp_seq (wp_seq ?_)
 obtain ⟨q1, hq1⟩ := eqv (gk g1 5)
 apply rgB hB TA_ok [21, 0, 3, 5, 6, 11, 12] [0, 3, 5, 6] [(2, .r fun _ => .bool (.v q1))] hF
 ·intro A X; conv => lhs; cbv
 ·intro X; subst hB; simp only [AO, Ob.holds, BE.den] <;> (and_intros <;> repeat first | trivial | rfl | exact enters118 | exact (by rw [hq1]; exact is1_s g1 _ _ 5 _ rfl) | exact by rw [hq1]; exact is1_s g1 _ _ 5 _ rfl | refine ⟨?_, ?_⟩ | intro h)
 intro X6 a0 w1 hF
 apply test_ok hF rfl <;> intro hb hF
 ·have tq1 : gk g1 5 = false := by subst hB; rw [← hq1]; revert hb; cases q1 <;> simp [std]
  refine wp_exit ?_
  apply rgB hB TA_ok [12, 0, 3, 11] [0, 3] [] hF
  ·intro A X; conv => lhs; cbv
  ·intro X; subst hB; simp [AO, Ob.holds, BE.den, std, sC, sAr] <;> omega
  intro X10 a0 w1 hF
  replace hF := hF.headS (v' := .int .i64 2) (by subst hB; exact zr) rfl
  refine rounds_next ?_
  apply wp_seq
  apply rgB hB TA_ok [13, 0, 3, 11, 12] [0, 3] [] hF
  ·intro A X; conv => lhs; cbv
  ·intro X; subst hB; simp [AO, Ob.holds, BE.den, std, sC, sAr] <;> omega
  intro X3 a0 w1 hF
  replace hF := hF.headS (v' := .bool .ff) (Sim.bool (by subst hB; rfl)) rfl
  apply wp_seq
  refine test_ff hF rfl (fun hF => ?_)
  refine wp_exit ?_
  refine (ret_mm (fn := Tryz.f116) TA_ok hF (rs := []) rfl (rfl) ?_ ((X5 2).A 0) ((X5 2).c 0) (v := ()) (q := p51) (by simp [clnM, clnC, ← hx0, ← hx1, Rs.bind, t0, hm50, tq0, hm70, hm80, tr0, hm90, hm51, tq1]) ?_ ?_).2
  ·subst hB; simp [AO, Ob.holds]
  ·subst hB; exact zr
  subst hB; exact ⟨rfl, ⟨_, rfl, zl⟩, trivial⟩
 have tq1 : gk g1 5 = true := by subst hB; rw [← hq1]; revert hb; cases q1 <;> simp [std]
 refine wp_skip ?_
 apply wp_seq
 have S71 := ih 0 b J hJ ((X5 2).A 0) ((X5 2).c 0) p51 hp51 hn51 x1 hk1 (by have := hs51.le; have := hl51; have := (Suf.trans (Suf.trans (Suf.trans (Suf.trans (Suf.refl p) hs50) hs70) hs80) hs90).le; omega)
 rcases hm71 : clnM J.budget n x1 p51 with ⟨v71, p71⟩ | ⟨w71, p71⟩
 rotate_left
 ·refine wp_region_lit ?_
  apply list_preB 0 2 hB TA_ok [22, 23] [0] [] hF
  ·intro A X; conv => lhs; cbv
  ·intro X; subst hB; first | exact trivial | (repeat (first | exact trivial | refine ⟨rfl, ?_⟩))
  intro X7_t a0 w1 hF
  refine man_outT rfl rfl rfl rfl hF rfl rfl enters116 (S71.stop hm71) (by subst hB; exact zl) (mem1 rfl) rfl rfl ?_
  intro x w' hF hok
  exact thr_m (P := Tryz.prog) (fn := Tryz.f116) hF hok (by simp [clnM, clnC, ← hx0, ← hx1, Rs.bind, t0, hm50, tq0, hm70, hm80, tr0, hm90, hm51, tq1, hm71]) ⟨rfl, ⟨_, rfl, zl⟩, trivial⟩
 have hs71 := (fro_cln _ _ _ _).of hm71
 have hp71 := hp51.suf hs71
 have hn71 := Nat.le_trans hs71.le hn51
 apply rgB hB TA_ok [0, 3, 5, 6, 11, 12] [0, 3, 5, 6] [(2, .x fun x => ⟨unitV, [(0, runC J (x.A 0) (x.c 0) p71)], []⟩)] hF
 ·intro A X; conv => lhs; cbv
 ·intro X; subst hB; simp only [AO, Ob.holds, BE.den] <;> (and_intros <;> repeat first | trivial | rfl | exact enters116 | exact S71.ok hm71 | refine ⟨?_, ?_⟩ | intro h)
 intro X7 a0 w1 hF
 refine wp_seq (wp_seq ?_)
 have S81 := get_m 0 b J hJ ((X7 2).A 0) ((X7 2).c 0) p71 hp71 hn71 l
 rcases hm81 : getM J.budget l p71 with ⟨h1, p81⟩ | ⟨w81, p81⟩
 rotate_left
 ·refine wp_region_lit ?_
  apply list_preB 0 2 hB TA_ok [25, 26] [0] [] hF
  ·intro A X; conv => lhs; cbv
  ·intro X; subst hB; first | exact trivial | (repeat (first | exact trivial | refine ⟨rfl, ?_⟩))
  intro X8_t a0 w1 hF
  refine man_outT rfl rfl rfl rfl hF rfl rfl enters117 (S81.stop hm81) (by subst hB; exact zl) (mem1 rfl) rfl rfl ?_
  intro x w' hF hok
  exact thr_m (P := Tryz.prog) (fn := Tryz.f116) hF hok (by simp [clnM, clnC, ← hx0, ← hx1, Rs.bind, t0, hm50, tq0, hm70, hm80, tr0, hm90, hm51, tq1, hm71, hm81]) ⟨rfl, ⟨_, rfl, zl⟩, trivial⟩
 have hs81 := (fro_get _ _ _).of hm81
 have hp81 := hp71.suf hs81
 have hn81 := Nat.le_trans hs81.le hn71
 have hl81 := get_lt hm81
 have hg81 := hp71.get hm81
 obtain ⟨r1, hr1⟩ := eqv ((gk h1 1 || gk h1 5))
 apply rgB hB TA_ok [30, 0, 3, 5, 6, 11, 12] [0, 3, 5, 6] [(4, .r fun _ => .bool (.v r1)), (2, .x fun x => ⟨gotV h1, [(0, runC J (x.A 0) (x.c 0) p81)], []⟩)] hF
 ·intro A X; conv => lhs; cbv
 ·intro X; subst hB; simp only [AO, Ob.holds, BE.den] <;> (and_intros <;> repeat first | trivial | rfl | exact enters117 | exact S81.ok hm81 | exact enters118 | exact (by rw [hr1]; exact is2_s h1 _ _ 1 5 _ rfl rfl) | exact by rw [hr1]; exact is2_s h1 _ _ 1 5 _ rfl rfl | refine ⟨?_, ?_⟩ | intro h)
 intro X8 a0 w1 hF
 apply test_ok hF rfl <;> intro hb hF
 ·have tr1 : (gk h1 1 || gk h1 5) = false := by subst hB; rw [← hr1]; revert hb; cases r1 <;> simp [std]
  refine wp_ret ?_
  refine (ret_mm (fn := Tryz.f116) TA_ok hF (rs := []) rfl (rfl) ?_ ((X8 2).A 0) ((X8 2).c 0) (v := ()) (q := p81) (by simp [clnM, clnC, ← hx0, ← hx1, Rs.bind, t0, hm50, tq0, hm70, hm80, tr0, hm90, hm51, tq1, hm71, hm81, tr1]) ?_ ?_).1
  ·subst hB; simp [AO, Ob.holds]
  ·subst hB; exact zr
  subst hB; exact ⟨rfl, ⟨_, rfl, zl⟩, trivial⟩
 have tr1 : (gk h1 1 || gk h1 5) = true := by subst hB; rw [← hr1]; revert hb; cases r1 <;> simp [std]
 refine wp_skip ?_
 have S91 := del_m 0 b J hJ ((X8 2).A 0) ((X8 2).c 0) p81 hp81 hn81 x1 g1.ver
 rcases hm91 : drpM J.budget x1 g1.ver p81 with ⟨d1, p91⟩ | ⟨w91, p91⟩
 rotate_left
 ·refine wp_region_lit ?_
  apply list_preB 0 4 hB TA_ok [31, 32, 34] [0] [] hF
  ·intro A X; conv => lhs; cbv
  ·intro X; subst hB; first | exact trivial | (repeat (first | exact trivial | refine ⟨rfl, ?_⟩))
  intro X9_t a0 w1 hF
  refine man_outT rfl rfl rfl rfl hF rfl rfl enters155 (S91.stop hm91) (by subst hB; exact zl) (mem1 rfl) rfl rfl ?_
  intro x w' hF hok
  exact thr_m (P := Tryz.prog) (fn := Tryz.f116) hF hok (by simp [clnM, clnC, ← hx0, ← hx1, Rs.bind, t0, hm50, tq0, hm70, hm80, tr0, hm90, hm51, tq1, hm71, hm81, tr1, hm91]) ⟨rfl, ⟨_, rfl, zl⟩, trivial⟩
 have hs91 := (fro_del _ _ _ _).of hm91
 have hp91 := hp81.suf hs91
 have hn91 := Nat.le_trans hs91.le hn81
 apply rgB hB TA_ok [0, 3, 11, 12] [0, 3] [(4, .x fun x => ⟨.bool (.v d1), [(0, runC J (x.A 0) (x.c 0) p91)], []⟩)] hF
 ·intro A X; conv => lhs; cbv
 ·intro X; subst hB; simp only [AO, Ob.holds, BE.den] <;> (and_intros <;> repeat first | trivial | rfl | exact enters155 | exact S91.ok hm91 | refine ⟨?_, ?_⟩ | intro h)
 intro X9 a0 w1 hF
 apply rgB hB TA_ok [12, 0, 3, 11] [0, 3] [] hF
 ·intro A X; conv => lhs; cbv
 ·intro X; subst hB; simp [AO, Ob.holds, BE.den, std, sC, sAr] <;> omega
 intro X10 a0 w1 hF
 replace hF := hF.headS (v' := .int .i64 2) (by subst hB; exact zr) rfl
 refine rounds_next ?_
 apply wp_seq
 apply rgB hB TA_ok [13, 0, 3, 11, 12] [0, 3] [] hF
 ·intro A X; conv => lhs; cbv
 ·intro X; subst hB; simp [AO, Ob.holds, BE.den, std, sC, sAr] <;> omega
 intro X3 a0 w1 hF
 replace hF := hF.headS (v' := .bool .ff) (Sim.bool (by subst hB; rfl)) rfl
 apply wp_seq
 refine test_ff hF rfl (fun hF => ?_)
 refine wp_exit ?_
 refine (ret_mm (fn := Tryz.f116) TA_ok hF (rs := []) rfl (rfl) ?_ ((X9 4).A 0) ((X9 4).c 0) (v := ()) (q := p91) (by simp [clnM, clnC, ← hx0, ← hx1, Rs.bind, t0, hm50, tq0, hm70, hm80, tr0, hm90, hm51, tq1, hm71, hm81, tr1, hm91]) ?_ ?_).2
 ·subst hB; simp [AO, Ob.holds]
 ·subst hB; exact zr
 subst hB; exact ⟨rfl, ⟨_, rfl, zl⟩, trivial⟩
theorem clns_m (k0 b : Nat) (J : JobA) (hJ : JobOk J) (A : Option Addr) (c : Nat) (p : Pst) (hp : PstOk p) (hn : p.n ≤ 1000000) (l : Lab) (hl : LOk l) (n : Nat) (ih : ClC n) (hf : p.n < n + 1) : RunS 116 k0 b J A c p [labAV l] (fun _ => unitV) (clnM J.budget (n + 1) l p) := RunS.re (clns_m0 b J hJ A c p hp hn l hl n ih hf) (by repeat (first | exact trivial | refine ⟨zr, ?_⟩))
theorem cln_c : ∀ n, ClC n
 | 0 => fun _ _ _ _ _ _ _ _ _ _ _ h => absurd h (Nat.not_lt_zero _)
 | n + 1 => fun k0 b J hJ A c p hp hn l hl hf => clns_m k0 b J hJ A c p hp hn l hl n (cln_c n) hf
theorem enters157 : Enters Tryz.prog 157 := fun _ _ => by kernel_rfl
theorem spl_m0 (b : Nat) (J : JobA) (hJ : JobOk J) (A : Option Addr) (c : Nat) (p : Pst) (hp : PstOk p) (hn : p.n ≤ 1000000) (l : Lab) (hl : LOk l) (v : Int) (x : RA) (hx : RaOk x) (n : Nat) (hf : p.n < n) : RunS 157 0 b J A c p [labAV l, .int .u64 v, recV x] (fun _ => unitV) (splitM J.budget n l v x p) := by
 intro m w hm hargs hpre
 have SC := chi_s l hl.u
 have hk0 := hl.ch 0
 have hk1 := hl.ch 1
 simp only [labAV] at SC
 obtain ⟨x0, hx0⟩ := eqv (chV l 0)
 rw [← hx0] at SC hk0
 obtain ⟨x1, hx1⟩ := eqv (chV l 1)
 rw [← hx1] at SC hk1
 have SH := halv_c x hx l hl.u
 obtain ⟨e, he⟩ := eqv ((halvA x l).2.2)
 rw [← he] at SH
 obtain ⟨r0, hr0⟩ := eqv ((halvA x l).1.rn)
 rw [← hr0] at SH
 obtain ⟨r1, hr1⟩ := eqv ((halvA x l).2.1.rn)
 rw [← hr1] at SH
 have ha0 : r0.abs = (halvA x l).1 := by rw [hr0]; exact rn_abs _
 have ha1 : r1.abs = (halvA x l).2.1 := by rw [hr1]; exact rn_abs _
 simp only [labAV] at SH
 refine enterX hm hpre hargs Tryz.func157 rfl (by simp [Tryz.ntmps157]) fun a0 hF => ?_
 simp only [Tryz.ntmps157, startT] at hF
 obtain ⟨B, hB⟩ := eqv (std)
 apply wp_seq
 apply rgB hB TA_ok [0, 2, 5, 7] [0, 5, 7] [] hF
 ·intro A X; conv => lhs; cbv
 ·intro X; subst hB; simp [AO, Ob.holds, BE.den, std, sC, sAr] <;> omega
 intro X0 a0 w1 hF
 apply wp_seq
 apply rgB hB TA_ok [0, 2, 5, 8, 9, 10] [0, 5, 8, 9] [(2, .r fun y => .tup [.agg [.int .i64 r0.kd, .sl none (y.A 0) r0.n (y.c 0) 2 (fun i => itC (r0.f i)), .int .i64 r0.nx.len, .int .u64 r0.nx.bits, .int .u64 r0.mrk], .agg [.int .i64 r1.kd, .sl none (y.A 1) r1.n (y.c 1) 2 (fun i => itC (r1.f i)), .int .i64 r1.nx.len, .int .u64 r1.nx.bits, .int .u64 r1.mrk], .int .i64 e])] hF
 ·intro A X; conv => lhs; cbv
 ·intro X; subst hB; simp only [AO, Ob.holds, BE.den] <;> (and_intros <;> repeat first | trivial | rfl | exact enters176 | exact SH | refine ⟨?_, ?_⟩ | intro h)
 intro X1 a0 w1 hF
 refine wp_seq (wp_seq ?_)
 apply rgB hB TA_ok [23, 0, 2, 5, 8, 9] [0, 5, 8, 9] [] hF
 ·intro A X; conv => lhs; cbv
 ·intro X; subst hB; simp [AO, Ob.holds, BE.den, std, sC, sAr] <;> omega
 intro X2 a0 w1 hF
 apply test_ok hF rfl <;> intro hb hF
 ·have t0 : ¬ e = 0 := by subst hB; simpa [std, sC] using hb
  refine wp_ret ?_
  refine (ret_mm (fn := Tryz.f157) TA_ok hF (rs := []) rfl (rfl) ?_ A c (v := ()) (q := p) (by simp [splitM, splC, ← hx0, ← hx1, ← ha0, ← ha1, ← he, Rs.bind, t0]) ?_ ?_).1
  ·subst hB; simp [AO, Ob.holds]
  ·subst hB; exact zr
  subst hB; exact ⟨rfl, ⟨_, rfl, zl⟩, trivial⟩
 have t0 : e = 0 := by subst hB; simpa [std, sC] using hb
 refine wp_skip ?_
 apply wp_seq
 apply rgB hB TA_ok [0, 2, 5, 11] [0, 5, 11] [] hF
 ·intro A X; conv => lhs; cbv
 ·intro X; subst hB; simp [AO, Ob.holds, BE.den, std, sC, sAr] <;> omega
 intro X3 a0 w1 hF
 refine wp_seq (wp_seq ?_)
 apply rgB hB TA_ok [29, 0, 2, 5, 11, 28] [0, 5, 11] [(1, .r fun _ => .agg [.int .i64 x0.len, .int .u64 x0.bits, .int .i64 x1.len, .int .u64 x1.bits])] hF
 ·intro A X; conv => lhs; cbv
 ·intro X; subst hB; simp only [AO, Ob.holds, BE.den] <;> (and_intros <;> repeat first | trivial | rfl | exact enters154 | exact SC | refine ⟨?_, ?_⟩ | intro h)
 intro X4 a0 w1 hF
 refine wp_block ?_
 refine wp_loop_rounds 3 ?_
 refine rounds_first ?_
 apply wp_seq
 apply rgB hB TA_ok [30, 0, 2, 5, 11, 28, 29] [0, 5, 11] [] hF
 ·intro A X; conv => lhs; cbv
 ·intro X; subst hB; simp [AO, Ob.holds, BE.den, std, sC, sAr] <;> omega
 intro X5 a0 w1 hF
 replace hF := hF.headS (v' := .bool .tt) (Sim.bool (by subst hB; rfl)) rfl
 apply wp_seq
 refine test_tt hF rfl (fun hF => ?_)
 refine wp_skip ?_
 apply wp_seq
 refine wp_block ?_
 apply wp_seq
 apply rgB hB TA_ok [0, 2, 5, 11, 12, 13, 28, 29] [0, 5, 11, 13] [] hF
 ·intro A X; conv => lhs; cbv
 ·intro X; subst hB; simp only [AO, Ob.holds, BE.den] <;> (and_intros <;> repeat first | trivial | rfl | exact Int.le_refl _ | exact (show (0 : Int) ≤ 0 ∧ (0 : Int) < 2 by decide) | exact (show (0 : Int) ≤ 1 ∧ (1 : Int) < 2 by decide) | exact (show (0 : Int) < 2 by decide) | exact (show (0 : Int) ≤ 1 by decide) | exact (show (1 : Int) < 2 by decide) | intro h)
 intro X6 a0 w1 hF
 refine wp_block ?_
 refine loop_pre (ι := Nat × Pst × Option Addr × Nat) (fun q => []) (fun q => [(0, ⟨b, 166, runC J q.2.2.1 q.2.2.2 q.2.1⟩)]) (fun q => []) (fun q => splC J.budget l v x0 r0.abs n p = splC J.budget l v x0 r0.abs q.1 q.2.1 ∧ PstOk q.2.1 ∧ q.2.1.n ≤ 1000000 ∧ q.2.1.n < q.1 ∧ q.2.1.n ≤ p.n) (fun q => q.1) (n, p, A, c) ⟨rfl, hp, hn, (by dsimp only; skip; omega), (by dsimp only; skip; omega)⟩ hF ?_
 rintro ⟨nn0, p0, A0, c0⟩ ⟨hrun0, hp0, hn0, hf0, hle0⟩ a0 w1 hF
 try dsimp only at hrun0
 try dsimp only at hp0
 try dsimp only at hn0
 try dsimp only at hf0
 try dsimp only at hle0
 obtain ⟨m0, rfl⟩ : ∃ n2, nn0 = n2 + 1 := ⟨nn0 - 1, by omega⟩
 refine wp_block ?_
 apply wp_seq
 have S70 := get_m 0 b J hJ A0 c0 p0 hp0 hn0 x0
 rcases hm70 : getM J.budget x0 p0 with ⟨g0, p70⟩ | ⟨w70, p70⟩
 rotate_left
 ·refine wp_region_lit ?_
  apply list_preB 0 2 hB TA_ok [33, 34] [0] [] hF
  ·intro A X; conv => lhs; cbv
  ·intro X; subst hB; first | exact trivial | (repeat (first | exact trivial | refine ⟨rfl, ?_⟩))
  intro X7_t a0 w1 hF
  refine man_outT rfl rfl rfl rfl hF rfl rfl enters117 (S70.stop hm70) (by subst hB; exact zl) (mem1 rfl) rfl rfl ?_
  intro x w' hF hok
  exact thr_m (P := Tryz.prog) (fn := Tryz.f157) hF hok (by simp [splitM, splC, ← hx0, ← hx1, ← ha0, ← ha1, ← he, Rs.bind, t0, hrun0, hm70]) ⟨rfl, ⟨_, rfl, zl⟩, trivial⟩
 have hs70 := (fro_get _ _ _).of hm70
 have hp70 := hp0.suf hs70
 have hn70 := Nat.le_trans hs70.le hn0
 have hl70 := get_lt hm70
 have hg70 := hp0.get hm70
 apply rgB hB TA_ok [0, 2, 5, 11, 12, 13, 14, 28, 29] [0, 5, 11, 13, 14] [(2, .x fun x => ⟨gotV g0, [(0, runC J (x.A 0) (x.c 0) p70)], []⟩)] hF
 ·intro A X; conv => lhs; cbv
 ·intro X; subst hB; simp only [AO, Ob.holds, BE.den] <;> (and_intros <;> repeat first | trivial | rfl | exact enters117 | exact S70.ok hm70 | refine ⟨?_, ?_⟩ | intro h)
 intro X7 a0 w1 hF
 refine wp_seq (wp_seq ?_)
 apply rgB hB TA_ok [43, 0, 2, 5, 11, 12, 13, 14, 28, 29] [0, 5, 11, 13, 14] [] hF
 ·intro A X; conv => lhs; cbv
 ·intro X; subst hB; simp [AO, Ob.holds, BE.den, std, sC, sAr] <;> omega
 intro X8 a0 w1 hF
 apply test_ok hF rfl <;> intro hb hF
 ·have tq0 : (g0.has && !decide (g0.x.r.kd = 5)) = true := by
   have h9 : (if g0.has = true then !decide (g0.x.r.kd = 5) else false) = true := by
    have h8 : (if g0.has = true then (g0.x.r.kd != 5) else false) = true := by subst hB; exact hb
    exact h8
   rw [← h9]; cases g0.has <;> rfl
  refine wp_exit ?_
  apply rgB hB TA_ok [29, 0, 2, 5, 11, 28] [0, 5, 11] [] hF
  ·intro A X; conv => lhs; cbv
  ·intro X; subst hB; simp [AO, Ob.holds, BE.den, std, sC, sAr] <;> omega
  intro X11 a0 w1 hF
  replace hF := hF.headS (v' := .int .i64 1) (by subst hB; exact zr) rfl
  refine rounds_next ?_
  apply wp_seq
  apply rgB hB TA_ok [30, 0, 2, 5, 11, 28, 29] [0, 5, 11] [] hF
  ·intro A X; conv => lhs; cbv
  ·intro X; subst hB; simp [AO, Ob.holds, BE.den, std, sC, sAr] <;> omega
  intro X5 a0 w1 hF
  replace hF := hF.headS (v' := .bool .tt) (Sim.bool (by subst hB; rfl)) rfl
  apply wp_seq
  refine test_tt hF rfl (fun hF => ?_)
  refine wp_skip ?_
  apply wp_seq
  refine wp_block ?_
  apply wp_seq
  apply rgB hB TA_ok [0, 2, 5, 11, 12, 13, 28, 29] [0, 5, 11, 13] [] hF
  ·intro A X; conv => lhs; cbv
  ·intro X; subst hB; simp only [AO, Ob.holds, BE.den] <;> (and_intros <;> repeat first | trivial | rfl | exact Int.le_refl _ | exact (show (0 : Int) ≤ 0 ∧ (0 : Int) < 2 by decide) | exact (show (0 : Int) ≤ 1 ∧ (1 : Int) < 2 by decide) | exact (show (0 : Int) < 2 by decide) | exact (show (0 : Int) ≤ 1 by decide) | exact (show (1 : Int) < 2 by decide) | intro h)
  intro X6 a0 w1 hF
  refine wp_block ?_
  refine loop_pre (ι := Nat × Pst × Option Addr × Nat) (fun q => []) (fun q => [(0, ⟨b, 166, runC J q.2.2.1 q.2.2.2 q.2.1⟩)]) (fun q => []) (fun q => splC J.budget l v x1 r1.abs n p70 = splC J.budget l v x1 r1.abs q.1 q.2.1 ∧ PstOk q.2.1 ∧ q.2.1.n ≤ 1000000 ∧ q.2.1.n < q.1 ∧ q.2.1.n ≤ p.n) (fun q => q.1) (n, p70, ((X7 2).A 0), ((X7 2).c 0)) ⟨rfl, hp70, hn70, (by dsimp only; have := hle0; have := hs70.le; omega), (by dsimp only; have := hle0; have := hs70.le; omega)⟩ hF ?_
  rintro ⟨nn1, p1, A1, c1⟩ ⟨hrun1, hp1, hn1, hf1, hle1⟩ a0 w1 hF
  try dsimp only at hrun1
  try dsimp only at hp1
  try dsimp only at hn1
  try dsimp only at hf1
  try dsimp only at hle1
  obtain ⟨m1, rfl⟩ : ∃ n2, nn1 = n2 + 1 := ⟨nn1 - 1, by omega⟩
  refine wp_block ?_
  apply wp_seq
  have S71 := get_m 0 b J hJ A1 c1 p1 hp1 hn1 x1
  rcases hm71 : getM J.budget x1 p1 with ⟨g1, p71⟩ | ⟨w71, p71⟩
  rotate_left
  ·refine wp_region_lit ?_
   apply list_preB 0 2 hB TA_ok [33, 34] [0] [] hF
   ·intro A X; conv => lhs; cbv
   ·intro X; subst hB; first | exact trivial | (repeat (first | exact trivial | refine ⟨rfl, ?_⟩))
   intro X7_t a0 w1 hF
   refine man_outT rfl rfl rfl rfl hF rfl rfl enters117 (S71.stop hm71) (by subst hB; exact zl) (mem1 rfl) rfl rfl ?_
   intro x w' hF hok
   exact thr_m (P := Tryz.prog) (fn := Tryz.f157) hF hok (by simp [splitM, splC, ← hx0, ← hx1, ← ha0, ← ha1, ← he, Rs.bind, t0, hrun0, hm70, tq0, hrun1, hm71]) ⟨rfl, ⟨_, rfl, zl⟩, trivial⟩
  have hs71 := (fro_get _ _ _).of hm71
  have hp71 := hp1.suf hs71
  have hn71 := Nat.le_trans hs71.le hn1
  have hl71 := get_lt hm71
  have hg71 := hp1.get hm71
  apply rgB hB TA_ok [0, 2, 5, 11, 12, 13, 14, 28, 29] [0, 5, 11, 13, 14] [(2, .x fun x => ⟨gotV g1, [(0, runC J (x.A 0) (x.c 0) p71)], []⟩)] hF
  ·intro A X; conv => lhs; cbv
  ·intro X; subst hB; simp only [AO, Ob.holds, BE.den] <;> (and_intros <;> repeat first | trivial | rfl | exact enters117 | exact S71.ok hm71 | refine ⟨?_, ?_⟩ | intro h)
  intro X7 a0 w1 hF
  refine wp_seq (wp_seq ?_)
  apply rgB hB TA_ok [43, 0, 2, 5, 11, 12, 13, 14, 28, 29] [0, 5, 11, 13, 14] [] hF
  ·intro A X; conv => lhs; cbv
  ·intro X; subst hB; simp [AO, Ob.holds, BE.den, std, sC, sAr] <;> omega
  intro X8 a0 w1 hF
  apply test_ok hF rfl <;> intro hb hF
  ·have tq1 : (g1.has && !decide (g1.x.r.kd = 5)) = true := by
    have h9 : (if g1.has = true then !decide (g1.x.r.kd = 5) else false) = true := by
     have h8 : (if g1.has = true then (g1.x.r.kd != 5) else false) = true := by subst hB; exact hb
     exact h8
    rw [← h9]; cases g1.has <;> rfl
   refine wp_exit ?_
   apply rgB hB TA_ok [29, 0, 2, 5, 11, 28] [0, 5, 11] [] hF
   ·intro A X; conv => lhs; cbv
   ·intro X; subst hB; simp [AO, Ob.holds, BE.den, std, sC, sAr] <;> omega
   intro X11 a0 w1 hF
   replace hF := hF.headS (v' := .int .i64 2) (by subst hB; exact zr) rfl
   refine rounds_next ?_
   apply wp_seq
   apply rgB hB TA_ok [30, 0, 2, 5, 11, 28, 29] [0, 5, 11] [] hF
   ·intro A X; conv => lhs; cbv
   ·intro X; subst hB; simp [AO, Ob.holds, BE.den, std, sC, sAr] <;> omega
   intro X5 a0 w1 hF
   replace hF := hF.headS (v' := .bool .ff) (Sim.bool (by subst hB; rfl)) rfl
   apply wp_seq
   refine test_ff hF rfl (fun hF => ?_)
   refine wp_exit ?_
   have S12 := casi_m 0 b J hJ ((X7 2).A 0) ((X7 2).c 0) p71 hp71 hn71 l v
   rcases hm12 : casM J.budget l v innerR p71 with ⟨d2, p12⟩ | ⟨w12, p12⟩
   rotate_left
   ·apply drawn3_okB hB 4 none handOK_none (by kernel_rfl) TA_ok [58, 59, 60, 61] [0] [(3, .r fun _ => .agg [.int .i64 2, .sl none none 0 0 2 (fun _ => []), .int .i64 (-1), .int .u64 0, .int .u64 0])] hF rfl
    case hex => intro A X; conv => lhs; cbv
    case hD => kernel_rfl
    case hZ => kernel_rfl
    case hlen => rfl
    case hob =>
     intro X
     subst hB
     simp only [AO, Ob.holds, BE.den] <;> (and_intros <;> repeat first | trivial | rfl | exact enters178 | exact inn_s | refine ⟨?_, ?_⟩ | intro h)
    case hQ =>
    intro X12_t a0 w1 hF
    refine man_outT rfl rfl rfl rfl hF rfl rfl enters159 (S12.stop hm12) (by subst hB; exact zl) (mem1 rfl) rfl rfl ?_
    intro x w' hF hok
    exact thr_m (P := Tryz.prog) (fn := Tryz.f157) hF hok (by simp [splitM, splC, ← hx0, ← hx1, ← ha0, ← ha1, ← he, Rs.bind, t0, hrun0, hm70, tq0, hrun1, hm71, tq1, hm12]) ⟨rfl, ⟨_, rfl, zl⟩, trivial⟩
   have hs12 := (fro_cas _ _ _ _ _).of hm12
   have hp12 := hp71.suf hs12
   have hn12 := Nat.le_trans hs12.le hn71
   apply drB hB (by kernel_rfl) TA_ok [] [0] [(3, .r fun _ => .agg [.int .i64 2, .sl none none 0 0 2 (fun _ => []), .int .i64 (-1), .int .u64 0, .int .u64 0]), (4, .x fun x => ⟨.bool (.v d2), [(0, runC J (x.A 0) (x.c 0) p12)], []⟩)] hF rfl
   case hex => intro A X; conv => lhs; cbv
   case hD => kernel_rfl
   case hlen => rfl
   case hob =>
    intro X
    subst hB
    simp only [AO, Ob.holds, BE.den] <;> (and_intros <;> repeat first | trivial | rfl | exact enters178 | exact inn_s | exact enters159 | exact S12.ok hm12 | refine ⟨?_, ?_⟩ | intro h)
   case hQ =>
   intro X12 a0 w1 hF
   refine (ret_mm (fn := Tryz.f157) TA_ok hF (rs := []) rfl (rfl) ?_ ((X12 4).A 0) ((X12 4).c 0) (v := ()) (q := p12) (by simp [splitM, splC, ← hx0, ← hx1, ← ha0, ← ha1, ← he, Rs.bind, t0, hrun0, hm70, tq0, hrun1, hm71, tq1, hm12]) ?_ ?_).2
   ·subst hB; simp [AO, Ob.holds]
   ·subst hB; exact zr
   subst hB; exact ⟨rfl, ⟨_, rfl, zl⟩, trivial⟩
  have tq1 : (g1.has && !decide (g1.x.r.kd = 5)) = false := by
   have h9 : (if g1.has = true then !decide (g1.x.r.kd = 5) else false) = false := by
    have h8 : (if g1.has = true then (g1.x.r.kd != 5) else false) = false := by subst hB; exact hb
    exact h8
   rw [← h9]; cases g1.has <;> rfl
  refine wp_skip ?_
  refine wp_seq (wp_seq ?_)
  have S91 := still_m 0 b J hJ ((X7 2).A 0) ((X7 2).c 0) p71 hp71 hn71 l v
  rcases hm91 : getM J.budget l p71 with ⟨h1, p91⟩ | ⟨w91, p91⟩
  rotate_left
  ·refine wp_region_lit ?_
   apply list_preB 0 3 hB TA_ok [44, 45, 46] [0] [] hF
   ·intro A X; conv => lhs; cbv
   ·intro X; subst hB; first | exact trivial | (repeat (first | exact trivial | refine ⟨rfl, ?_⟩))
   intro X9_t a0 w1 hF
   refine man_outT rfl rfl rfl rfl hF rfl rfl enters177 (S91.stop (by rw [hm91]; rfl)) (by subst hB; exact zl) (mem1 rfl) rfl rfl ?_
   intro x w' hF hok
   exact thr_m (P := Tryz.prog) (fn := Tryz.f157) hF hok (by simp [splitM, splC, ← hx0, ← hx1, ← ha0, ← ha1, ← he, Rs.bind, t0, hrun0, hm70, tq0, hrun1, hm71, tq1, hm91]) ⟨rfl, ⟨_, rfl, zl⟩, trivial⟩
  have hs91 := (fro_get _ _ _).of hm91
  have hp91 := hp71.suf hs91
  have hn91 := Nat.le_trans hs91.le hn71
  have hl91 := get_lt hm91
  have hg91 := hp71.get hm91
  obtain ⟨e1, he1⟩ := eqv (decide (h1.ver = v))
  apply rgB hB TA_ok [48, 0, 2, 5, 11, 12, 13, 14, 28, 29] [0, 5, 11, 13, 14] [(3, .x fun x => ⟨.bool (.v e1), [(0, runC J (x.A 0) (x.c 0) p91)], []⟩)] hF
  ·intro A X; conv => lhs; cbv
  ·intro X; subst hB; simp only [AO, Ob.holds, BE.den] <;> (and_intros <;> repeat first | trivial | rfl | exact enters177 | exact S91.ok (by rw [hm91, he1]; rfl) | refine ⟨?_, ?_⟩ | intro h)
  intro X9 a0 w1 hF
  apply test_ok hF rfl <;> intro hb hF
  ·have t91 : ¬ h1.ver = v := by
    have h9 : (!e1) = true := by subst hB; exact hb
    rw [he1] at h9; simpa using h9
   refine wp_ret ?_
   refine (ret_mm (fn := Tryz.f157) TA_ok hF (rs := []) rfl (rfl) ?_ ((X9 3).A 0) ((X9 3).c 0) (v := ()) (q := p91) (by simp [splitM, splC, ← hx0, ← hx1, ← ha0, ← ha1, ← he, Rs.bind, t0, hrun0, hm70, tq0, hrun1, hm71, tq1, hm91, t91]) ?_ ?_).1
   ·subst hB; simp [AO, Ob.holds]
   ·subst hB; exact zr
   subst hB; exact ⟨rfl, ⟨_, rfl, zl⟩, trivial⟩
  have t91 : h1.ver = v := by
   have h9 : (!e1) = false := by subst hB; exact hb
   rw [he1] at h9; simpa using h9
  refine wp_skip ?_
  apply wp_seq
  have S101 := cas_m 0 b J hJ ((X9 3).A 0) ((X9 3).c 0) p91 hp91 hn91 x1 g1.ver ⟨(X1 2).A 1, (X1 2).c 1, r1⟩
  rcases hm101 : casM J.budget x1 g1.ver r1.abs p91 with ⟨d1, p101⟩ | ⟨w101, p101⟩
  rotate_left
  ·apply drawn3_okB hB 7 none handOK_none (by kernel_rfl) TA_ok [49, 50, 52, 55] [0] [] hF rfl
   case hex => intro A X; conv => lhs; cbv
   case hD => kernel_rfl
   case hZ => kernel_rfl
   case hlen => rfl
   case hob =>
    intro X
    subst hB
    simp only [AO, Ob.holds, BE.den] <;> (and_intros <;> repeat first | trivial | rfl | exact Int.le_refl _ | exact (show (0 : Int) ≤ 0 ∧ (0 : Int) < 2 by decide) | exact (show (0 : Int) ≤ 1 ∧ (1 : Int) < 2 by decide) | exact (show (0 : Int) < 2 by decide) | exact (show (0 : Int) ≤ 1 by decide) | exact (show (1 : Int) < 2 by decide) | intro h)
   case hQ =>
   intro X10_t a0 w1 hF
   refine man_outT rfl rfl rfl rfl hF rfl rfl enters159 (S101.stop hm101) (by subst hB; exact zl) (mem1 rfl) rfl rfl ?_
   intro x w' hF hok
   exact thr_m (P := Tryz.prog) (fn := Tryz.f157) hF hok (by simp [splitM, splC, ← hx0, ← hx1, ← ha0, ← ha1, ← he, Rs.bind, t0, hrun0, hm70, tq0, hrun1, hm71, tq1, hm91, t91, hm101]) ⟨rfl, ⟨_, rfl, zl⟩, trivial⟩
  have hs101 := (fro_cas _ _ _ _ _).of hm101
  have hp101 := hp91.suf hs101
  have hn101 := Nat.le_trans hs101.le hn91
  apply drB hB (by kernel_rfl) TA_ok [56, 0, 2, 5, 11, 12, 13, 28, 29] [0, 5, 11, 13] [(7, .x fun x => ⟨.bool (.v d1), [(0, runC J (x.A 0) (x.c 0) p101)], []⟩)] hF rfl
  case hex => intro A X; conv => lhs; cbv
  case hD => kernel_rfl
  case hlen => rfl
  case hob =>
   intro X
   subst hB
   simp only [AO, Ob.holds, BE.den] <;> (and_intros <;> repeat first | trivial | rfl | exact enters159 | exact S101.ok hm101 | exact Int.le_refl _ | exact (show (0 : Int) ≤ 0 ∧ (0 : Int) < 2 by decide) | exact (show (0 : Int) ≤ 1 ∧ (1 : Int) < 2 by decide) | exact (show (0 : Int) < 2 by decide) | exact (show (0 : Int) ≤ 1 by decide) | exact (show (1 : Int) < 2 by decide) | refine ⟨?_, ?_⟩ | intro h)
  case hQ =>
  intro X10 a0 w1 hF
  apply test_ok hF rfl <;> intro hb hF
  ·have td1 : d1 = true := by exact hb
   refine wp_exit ?_
   apply rgB hB TA_ok [29, 0, 2, 5, 11, 28] [0, 5, 11] [] hF
   ·intro A X; conv => lhs; cbv
   ·intro X; subst hB; simp [AO, Ob.holds, BE.den, std, sC, sAr] <;> omega
   intro X11 a0 w1 hF
   replace hF := hF.headS (v' := .int .i64 2) (by subst hB; exact zr) rfl
   refine rounds_next ?_
   apply wp_seq
   apply rgB hB TA_ok [30, 0, 2, 5, 11, 28, 29] [0, 5, 11] [] hF
   ·intro A X; conv => lhs; cbv
   ·intro X; subst hB; simp [AO, Ob.holds, BE.den, std, sC, sAr] <;> omega
   intro X5 a0 w1 hF
   replace hF := hF.headS (v' := .bool .ff) (Sim.bool (by subst hB; rfl)) rfl
   apply wp_seq
   refine test_ff hF rfl (fun hF => ?_)
   refine wp_exit ?_
   have S12 := casi_m 0 b J hJ ((X10 7).A 0) ((X10 7).c 0) p101 hp101 hn101 l v
   rcases hm12 : casM J.budget l v innerR p101 with ⟨d2, p12⟩ | ⟨w12, p12⟩
   rotate_left
   ·apply drawn3_okB hB 4 none handOK_none (by kernel_rfl) TA_ok [58, 59, 60, 61] [0] [(3, .r fun _ => .agg [.int .i64 2, .sl none none 0 0 2 (fun _ => []), .int .i64 (-1), .int .u64 0, .int .u64 0])] hF rfl
    case hex => intro A X; conv => lhs; cbv
    case hD => kernel_rfl
    case hZ => kernel_rfl
    case hlen => rfl
    case hob =>
     intro X
     subst hB
     simp only [AO, Ob.holds, BE.den] <;> (and_intros <;> repeat first | trivial | rfl | exact enters178 | exact inn_s | refine ⟨?_, ?_⟩ | intro h)
    case hQ =>
    intro X12_t a0 w1 hF
    refine man_outT rfl rfl rfl rfl hF rfl rfl enters159 (S12.stop hm12) (by subst hB; exact zl) (mem1 rfl) rfl rfl ?_
    intro x w' hF hok
    exact thr_m (P := Tryz.prog) (fn := Tryz.f157) hF hok (by simp [splitM, splC, ← hx0, ← hx1, ← ha0, ← ha1, ← he, Rs.bind, t0, hrun0, hm70, tq0, hrun1, hm71, tq1, hm91, t91, hm101, td1, hm12]) ⟨rfl, ⟨_, rfl, zl⟩, trivial⟩
   have hs12 := (fro_cas _ _ _ _ _).of hm12
   have hp12 := hp101.suf hs12
   have hn12 := Nat.le_trans hs12.le hn101
   apply drB hB (by kernel_rfl) TA_ok [] [0] [(3, .r fun _ => .agg [.int .i64 2, .sl none none 0 0 2 (fun _ => []), .int .i64 (-1), .int .u64 0, .int .u64 0]), (4, .x fun x => ⟨.bool (.v d2), [(0, runC J (x.A 0) (x.c 0) p12)], []⟩)] hF rfl
   case hex => intro A X; conv => lhs; cbv
   case hD => kernel_rfl
   case hlen => rfl
   case hob =>
    intro X
    subst hB
    simp only [AO, Ob.holds, BE.den] <;> (and_intros <;> repeat first | trivial | rfl | exact enters178 | exact inn_s | exact enters159 | exact S12.ok hm12 | refine ⟨?_, ?_⟩ | intro h)
   case hQ =>
   intro X12 a0 w1 hF
   refine (ret_mm (fn := Tryz.f157) TA_ok hF (rs := []) rfl (rfl) ?_ ((X12 4).A 0) ((X12 4).c 0) (v := ()) (q := p12) (by simp [splitM, splC, ← hx0, ← hx1, ← ha0, ← ha1, ← he, Rs.bind, t0, hrun0, hm70, tq0, hrun1, hm71, tq1, hm91, t91, hm101, td1, hm12]) ?_ ?_).2
   ·subst hB; simp [AO, Ob.holds]
   ·subst hB; exact zr
   subst hB; exact ⟨rfl, ⟨_, rfl, zl⟩, trivial⟩
  have td1 : d1 = false := by exact hb
  refine wp_skip ?_
  replace hF := hF.keep [0, 2, 5, 11, 12, 13, 28, 29] [0, 5, 11, 13]
  exact ⟨(m1, p101, _, _), ⟨by rw [hrun1]; simp [splC, Rs.bind, t0, hrun0, hm70, tq0, hrun1, hm71, tq1, hm91, t91, hm101, td1], hp101, hn101, by dsimp only; have := hl71; have := hs91.le; have := hs101.le; have := hf1; omega, by dsimp only; have := hl71; have := hs91.le; have := hs101.le; have := hle1; omega⟩, by simp only; omega, hF⟩
 have tq0 : (g0.has && !decide (g0.x.r.kd = 5)) = false := by
  have h9 : (if g0.has = true then !decide (g0.x.r.kd = 5) else false) = false := by
   have h8 : (if g0.has = true then (g0.x.r.kd != 5) else false) = false := by subst hB; exact hb
   exact h8
  rw [← h9]; cases g0.has <;> rfl
 refine wp_skip ?_
 refine wp_seq (wp_seq ?_)
 have S90 := still_m 0 b J hJ ((X7 2).A 0) ((X7 2).c 0) p70 hp70 hn70 l v
 rcases hm90 : getM J.budget l p70 with ⟨h0, p90⟩ | ⟨w90, p90⟩
 rotate_left
 ·refine wp_region_lit ?_
  apply list_preB 0 3 hB TA_ok [44, 45, 46] [0] [] hF
  ·intro A X; conv => lhs; cbv
  ·intro X; subst hB; first | exact trivial | (repeat (first | exact trivial | refine ⟨rfl, ?_⟩))
  intro X9_t a0 w1 hF
  refine man_outT rfl rfl rfl rfl hF rfl rfl enters177 (S90.stop (by rw [hm90]; rfl)) (by subst hB; exact zl) (mem1 rfl) rfl rfl ?_
  intro x w' hF hok
  exact thr_m (P := Tryz.prog) (fn := Tryz.f157) hF hok (by simp [splitM, splC, ← hx0, ← hx1, ← ha0, ← ha1, ← he, Rs.bind, t0, hrun0, hm70, tq0, hm90]) ⟨rfl, ⟨_, rfl, zl⟩, trivial⟩
 have hs90 := (fro_get _ _ _).of hm90
 have hp90 := hp70.suf hs90
 have hn90 := Nat.le_trans hs90.le hn70
 have hl90 := get_lt hm90
 have hg90 := hp70.get hm90
 obtain ⟨e0, he0⟩ := eqv (decide (h0.ver = v))
 apply rgB hB TA_ok [48, 0, 2, 5, 11, 12, 13, 14, 28, 29] [0, 5, 11, 13, 14] [(3, .x fun x => ⟨.bool (.v e0), [(0, runC J (x.A 0) (x.c 0) p90)], []⟩)] hF
 ·intro A X; conv => lhs; cbv
 ·intro X; subst hB; simp only [AO, Ob.holds, BE.den] <;> (and_intros <;> repeat first | trivial | rfl | exact enters177 | exact S90.ok (by rw [hm90, he0]; rfl) | refine ⟨?_, ?_⟩ | intro h)
 intro X9 a0 w1 hF
 apply test_ok hF rfl <;> intro hb hF
 ·have t90 : ¬ h0.ver = v := by
   have h9 : (!e0) = true := by subst hB; exact hb
   rw [he0] at h9; simpa using h9
  refine wp_ret ?_
  refine (ret_mm (fn := Tryz.f157) TA_ok hF (rs := []) rfl (rfl) ?_ ((X9 3).A 0) ((X9 3).c 0) (v := ()) (q := p90) (by simp [splitM, splC, ← hx0, ← hx1, ← ha0, ← ha1, ← he, Rs.bind, t0, hrun0, hm70, tq0, hm90, t90]) ?_ ?_).1
  ·subst hB; simp [AO, Ob.holds]
  ·subst hB; exact zr
  subst hB; exact ⟨rfl, ⟨_, rfl, zl⟩, trivial⟩
 have t90 : h0.ver = v := by
  have h9 : (!e0) = false := by subst hB; exact hb
  rw [he0] at h9; simpa using h9
 refine wp_skip ?_
 apply wp_seq
 have S100 := cas_m 0 b J hJ ((X9 3).A 0) ((X9 3).c 0) p90 hp90 hn90 x0 g0.ver ⟨(X1 2).A 0, (X1 2).c 0, r0⟩
 rcases hm100 : casM J.budget x0 g0.ver r0.abs p90 with ⟨d0, p100⟩ | ⟨w100, p100⟩
 rotate_left
 ·apply drawn3_okB hB 7 none handOK_none (by kernel_rfl) TA_ok [49, 50, 52, 55] [0] [] hF rfl
  case hex => intro A X; conv => lhs; cbv
  case hD => kernel_rfl
  case hZ => kernel_rfl
  case hlen => rfl
  case hob =>
   intro X
   subst hB
   simp only [AO, Ob.holds, BE.den] <;> (and_intros <;> repeat first | trivial | rfl | exact Int.le_refl _ | exact (show (0 : Int) ≤ 0 ∧ (0 : Int) < 2 by decide) | exact (show (0 : Int) ≤ 1 ∧ (1 : Int) < 2 by decide) | exact (show (0 : Int) < 2 by decide) | exact (show (0 : Int) ≤ 1 by decide) | exact (show (1 : Int) < 2 by decide) | intro h)
  case hQ =>
  intro X10_t a0 w1 hF
  refine man_outT rfl rfl rfl rfl hF rfl rfl enters159 (S100.stop hm100) (by subst hB; exact zl) (mem1 rfl) rfl rfl ?_
  intro x w' hF hok
  exact thr_m (P := Tryz.prog) (fn := Tryz.f157) hF hok (by simp [splitM, splC, ← hx0, ← hx1, ← ha0, ← ha1, ← he, Rs.bind, t0, hrun0, hm70, tq0, hm90, t90, hm100]) ⟨rfl, ⟨_, rfl, zl⟩, trivial⟩
 have hs100 := (fro_cas _ _ _ _ _).of hm100
 have hp100 := hp90.suf hs100
 have hn100 := Nat.le_trans hs100.le hn90
 apply drB hB (by kernel_rfl) TA_ok [56, 0, 2, 5, 11, 12, 13, 28, 29] [0, 5, 11, 13] [(7, .x fun x => ⟨.bool (.v d0), [(0, runC J (x.A 0) (x.c 0) p100)], []⟩)] hF rfl
 case hex => intro A X; conv => lhs; cbv
 case hD => kernel_rfl
 case hlen => rfl
 case hob =>
  intro X
  subst hB
  simp only [AO, Ob.holds, BE.den] <;> (and_intros <;> repeat first | trivial | rfl | exact enters159 | exact S100.ok hm100 | exact Int.le_refl _ | exact (show (0 : Int) ≤ 0 ∧ (0 : Int) < 2 by decide) | exact (show (0 : Int) ≤ 1 ∧ (1 : Int) < 2 by decide) | exact (show (0 : Int) < 2 by decide) | exact (show (0 : Int) ≤ 1 by decide) | exact (show (1 : Int) < 2 by decide) | refine ⟨?_, ?_⟩ | intro h)
 case hQ =>
 intro X10 a0 w1 hF
 apply test_ok hF rfl <;> intro hb hF
 ·have td0 : d0 = true := by exact hb
  refine wp_exit ?_
  apply rgB hB TA_ok [29, 0, 2, 5, 11, 28] [0, 5, 11] [] hF
  ·intro A X; conv => lhs; cbv
  ·intro X; subst hB; simp [AO, Ob.holds, BE.den, std, sC, sAr] <;> omega
  intro X11 a0 w1 hF
  replace hF := hF.headS (v' := .int .i64 1) (by subst hB; exact zr) rfl
  refine rounds_next ?_
  apply wp_seq
  apply rgB hB TA_ok [30, 0, 2, 5, 11, 28, 29] [0, 5, 11] [] hF
  ·intro A X; conv => lhs; cbv
  ·intro X; subst hB; simp [AO, Ob.holds, BE.den, std, sC, sAr] <;> omega
  intro X5 a0 w1 hF
  replace hF := hF.headS (v' := .bool .tt) (Sim.bool (by subst hB; rfl)) rfl
  apply wp_seq
  refine test_tt hF rfl (fun hF => ?_)
  refine wp_skip ?_
  apply wp_seq
  refine wp_block ?_
  apply wp_seq
  apply rgB hB TA_ok [0, 2, 5, 11, 12, 13, 28, 29] [0, 5, 11, 13] [] hF
  ·intro A X; conv => lhs; cbv
  ·intro X; subst hB; simp only [AO, Ob.holds, BE.den] <;> (and_intros <;> repeat first | trivial | rfl | exact Int.le_refl _ | exact (show (0 : Int) ≤ 0 ∧ (0 : Int) < 2 by decide) | exact (show (0 : Int) ≤ 1 ∧ (1 : Int) < 2 by decide) | exact (show (0 : Int) < 2 by decide) | exact (show (0 : Int) ≤ 1 by decide) | exact (show (1 : Int) < 2 by decide) | intro h)
  intro X6 a0 w1 hF
  refine wp_block ?_
  refine loop_pre (ι := Nat × Pst × Option Addr × Nat) (fun q => []) (fun q => [(0, ⟨b, 166, runC J q.2.2.1 q.2.2.2 q.2.1⟩)]) (fun q => []) (fun q => splC J.budget l v x1 r1.abs n p100 = splC J.budget l v x1 r1.abs q.1 q.2.1 ∧ PstOk q.2.1 ∧ q.2.1.n ≤ 1000000 ∧ q.2.1.n < q.1 ∧ q.2.1.n ≤ p.n) (fun q => q.1) (n, p100, ((X10 7).A 0), ((X10 7).c 0)) ⟨rfl, hp100, hn100, (by dsimp only; have := hle0; have := hs70.le; have := hs90.le; have := hs100.le; omega), (by dsimp only; have := hle0; have := hs70.le; have := hs90.le; have := hs100.le; omega)⟩ hF ?_
  rintro ⟨nn1, p1, A1, c1⟩ ⟨hrun1, hp1, hn1, hf1, hle1⟩ a0 w1 hF
  try dsimp only at hrun1
  try dsimp only at hp1
  try dsimp only at hn1
  try dsimp only at hf1
  try dsimp only at hle1
  obtain ⟨m1, rfl⟩ : ∃ n2, nn1 = n2 + 1 := ⟨nn1 - 1, by omega⟩
  refine wp_block ?_
  apply wp_seq
  have S71 := get_m 0 b J hJ A1 c1 p1 hp1 hn1 x1
  rcases hm71 : getM J.budget x1 p1 with ⟨g1, p71⟩ | ⟨w71, p71⟩
  rotate_left
  ·refine wp_region_lit ?_
   apply list_preB 0 2 hB TA_ok [33, 34] [0] [] hF
   ·intro A X; conv => lhs; cbv
   ·intro X; subst hB; first | exact trivial | (repeat (first | exact trivial | refine ⟨rfl, ?_⟩))
   intro X7_t a0 w1 hF
   refine man_outT rfl rfl rfl rfl hF rfl rfl enters117 (S71.stop hm71) (by subst hB; exact zl) (mem1 rfl) rfl rfl ?_
   intro x w' hF hok
   exact thr_m (P := Tryz.prog) (fn := Tryz.f157) hF hok (by simp [splitM, splC, ← hx0, ← hx1, ← ha0, ← ha1, ← he, Rs.bind, t0, hrun0, hm70, tq0, hm90, t90, hm100, td0, hrun1, hm71]) ⟨rfl, ⟨_, rfl, zl⟩, trivial⟩
  have hs71 := (fro_get _ _ _).of hm71
  have hp71 := hp1.suf hs71
  have hn71 := Nat.le_trans hs71.le hn1
  have hl71 := get_lt hm71
  have hg71 := hp1.get hm71
  apply rgB hB TA_ok [0, 2, 5, 11, 12, 13, 14, 28, 29] [0, 5, 11, 13, 14] [(2, .x fun x => ⟨gotV g1, [(0, runC J (x.A 0) (x.c 0) p71)], []⟩)] hF
  ·intro A X; conv => lhs; cbv
  ·intro X; subst hB; simp only [AO, Ob.holds, BE.den] <;> (and_intros <;> repeat first | trivial | rfl | exact enters117 | exact S71.ok hm71 | refine ⟨?_, ?_⟩ | intro h)
  intro X7 a0 w1 hF
  refine wp_seq (wp_seq ?_)
  apply rgB hB TA_ok [43, 0, 2, 5, 11, 12, 13, 14, 28, 29] [0, 5, 11, 13, 14] [] hF
  ·intro A X; conv => lhs; cbv
  ·intro X; subst hB; simp [AO, Ob.holds, BE.den, std, sC, sAr] <;> omega
  intro X8 a0 w1 hF
  apply test_ok hF rfl <;> intro hb hF
  ·have tq1 : (g1.has && !decide (g1.x.r.kd = 5)) = true := by
    have h9 : (if g1.has = true then !decide (g1.x.r.kd = 5) else false) = true := by
     have h8 : (if g1.has = true then (g1.x.r.kd != 5) else false) = true := by subst hB; exact hb
     exact h8
    rw [← h9]; cases g1.has <;> rfl
   refine wp_exit ?_
   apply rgB hB TA_ok [29, 0, 2, 5, 11, 28] [0, 5, 11] [] hF
   ·intro A X; conv => lhs; cbv
   ·intro X; subst hB; simp [AO, Ob.holds, BE.den, std, sC, sAr] <;> omega
   intro X11 a0 w1 hF
   replace hF := hF.headS (v' := .int .i64 2) (by subst hB; exact zr) rfl
   refine rounds_next ?_
   apply wp_seq
   apply rgB hB TA_ok [30, 0, 2, 5, 11, 28, 29] [0, 5, 11] [] hF
   ·intro A X; conv => lhs; cbv
   ·intro X; subst hB; simp [AO, Ob.holds, BE.den, std, sC, sAr] <;> omega
   intro X5 a0 w1 hF
   replace hF := hF.headS (v' := .bool .ff) (Sim.bool (by subst hB; rfl)) rfl
   apply wp_seq
   refine test_ff hF rfl (fun hF => ?_)
   refine wp_exit ?_
   have S12 := casi_m 0 b J hJ ((X7 2).A 0) ((X7 2).c 0) p71 hp71 hn71 l v
   rcases hm12 : casM J.budget l v innerR p71 with ⟨d2, p12⟩ | ⟨w12, p12⟩
   rotate_left
   ·apply drawn3_okB hB 4 none handOK_none (by kernel_rfl) TA_ok [58, 59, 60, 61] [0] [(3, .r fun _ => .agg [.int .i64 2, .sl none none 0 0 2 (fun _ => []), .int .i64 (-1), .int .u64 0, .int .u64 0])] hF rfl
    case hex => intro A X; conv => lhs; cbv
    case hD => kernel_rfl
    case hZ => kernel_rfl
    case hlen => rfl
    case hob =>
     intro X
     subst hB
     simp only [AO, Ob.holds, BE.den] <;> (and_intros <;> repeat first | trivial | rfl | exact enters178 | exact inn_s | refine ⟨?_, ?_⟩ | intro h)
    case hQ =>
    intro X12_t a0 w1 hF
    refine man_outT rfl rfl rfl rfl hF rfl rfl enters159 (S12.stop hm12) (by subst hB; exact zl) (mem1 rfl) rfl rfl ?_
    intro x w' hF hok
    exact thr_m (P := Tryz.prog) (fn := Tryz.f157) hF hok (by simp [splitM, splC, ← hx0, ← hx1, ← ha0, ← ha1, ← he, Rs.bind, t0, hrun0, hm70, tq0, hm90, t90, hm100, td0, hrun1, hm71, tq1, hm12]) ⟨rfl, ⟨_, rfl, zl⟩, trivial⟩
   have hs12 := (fro_cas _ _ _ _ _).of hm12
   have hp12 := hp71.suf hs12
   have hn12 := Nat.le_trans hs12.le hn71
   apply drB hB (by kernel_rfl) TA_ok [] [0] [(3, .r fun _ => .agg [.int .i64 2, .sl none none 0 0 2 (fun _ => []), .int .i64 (-1), .int .u64 0, .int .u64 0]), (4, .x fun x => ⟨.bool (.v d2), [(0, runC J (x.A 0) (x.c 0) p12)], []⟩)] hF rfl
   case hex => intro A X; conv => lhs; cbv
   case hD => kernel_rfl
   case hlen => rfl
   case hob =>
    intro X
    subst hB
    simp only [AO, Ob.holds, BE.den] <;> (and_intros <;> repeat first | trivial | rfl | exact enters178 | exact inn_s | exact enters159 | exact S12.ok hm12 | refine ⟨?_, ?_⟩ | intro h)
   case hQ =>
   intro X12 a0 w1 hF
   refine (ret_mm (fn := Tryz.f157) TA_ok hF (rs := []) rfl (rfl) ?_ ((X12 4).A 0) ((X12 4).c 0) (v := ()) (q := p12) (by simp [splitM, splC, ← hx0, ← hx1, ← ha0, ← ha1, ← he, Rs.bind, t0, hrun0, hm70, tq0, hm90, t90, hm100, td0, hrun1, hm71, tq1, hm12]) ?_ ?_).2
   ·subst hB; simp [AO, Ob.holds]
   ·subst hB; exact zr
   subst hB; exact ⟨rfl, ⟨_, rfl, zl⟩, trivial⟩
  have tq1 : (g1.has && !decide (g1.x.r.kd = 5)) = false := by
   have h9 : (if g1.has = true then !decide (g1.x.r.kd = 5) else false) = false := by
    have h8 : (if g1.has = true then (g1.x.r.kd != 5) else false) = false := by subst hB; exact hb
    exact h8
   rw [← h9]; cases g1.has <;> rfl
  refine wp_skip ?_
  refine wp_seq (wp_seq ?_)
  have S91 := still_m 0 b J hJ ((X7 2).A 0) ((X7 2).c 0) p71 hp71 hn71 l v
  rcases hm91 : getM J.budget l p71 with ⟨h1, p91⟩ | ⟨w91, p91⟩
  rotate_left
  ·refine wp_region_lit ?_
   apply list_preB 0 3 hB TA_ok [44, 45, 46] [0] [] hF
   ·intro A X; conv => lhs; cbv
   ·intro X; subst hB; first | exact trivial | (repeat (first | exact trivial | refine ⟨rfl, ?_⟩))
   intro X9_t a0 w1 hF
   refine man_outT rfl rfl rfl rfl hF rfl rfl enters177 (S91.stop (by rw [hm91]; rfl)) (by subst hB; exact zl) (mem1 rfl) rfl rfl ?_
   intro x w' hF hok
   exact thr_m (P := Tryz.prog) (fn := Tryz.f157) hF hok (by simp [splitM, splC, ← hx0, ← hx1, ← ha0, ← ha1, ← he, Rs.bind, t0, hrun0, hm70, tq0, hm90, t90, hm100, td0, hrun1, hm71, tq1, hm91]) ⟨rfl, ⟨_, rfl, zl⟩, trivial⟩
  have hs91 := (fro_get _ _ _).of hm91
  have hp91 := hp71.suf hs91
  have hn91 := Nat.le_trans hs91.le hn71
  have hl91 := get_lt hm91
  have hg91 := hp71.get hm91
  obtain ⟨e1, he1⟩ := eqv (decide (h1.ver = v))
  apply rgB hB TA_ok [48, 0, 2, 5, 11, 12, 13, 14, 28, 29] [0, 5, 11, 13, 14] [(3, .x fun x => ⟨.bool (.v e1), [(0, runC J (x.A 0) (x.c 0) p91)], []⟩)] hF
  ·intro A X; conv => lhs; cbv
  ·intro X; subst hB; simp only [AO, Ob.holds, BE.den] <;> (and_intros <;> repeat first | trivial | rfl | exact enters177 | exact S91.ok (by rw [hm91, he1]; rfl) | refine ⟨?_, ?_⟩ | intro h)
  intro X9 a0 w1 hF
  apply test_ok hF rfl <;> intro hb hF
  ·have t91 : ¬ h1.ver = v := by
    have h9 : (!e1) = true := by subst hB; exact hb
    rw [he1] at h9; simpa using h9
   refine wp_ret ?_
   refine (ret_mm (fn := Tryz.f157) TA_ok hF (rs := []) rfl (rfl) ?_ ((X9 3).A 0) ((X9 3).c 0) (v := ()) (q := p91) (by simp [splitM, splC, ← hx0, ← hx1, ← ha0, ← ha1, ← he, Rs.bind, t0, hrun0, hm70, tq0, hm90, t90, hm100, td0, hrun1, hm71, tq1, hm91, t91]) ?_ ?_).1
   ·subst hB; simp [AO, Ob.holds]
   ·subst hB; exact zr
   subst hB; exact ⟨rfl, ⟨_, rfl, zl⟩, trivial⟩
  have t91 : h1.ver = v := by
   have h9 : (!e1) = false := by subst hB; exact hb
   rw [he1] at h9; simpa using h9
  refine wp_skip ?_
  apply wp_seq
  have S101 := cas_m 0 b J hJ ((X9 3).A 0) ((X9 3).c 0) p91 hp91 hn91 x1 g1.ver ⟨(X1 2).A 1, (X1 2).c 1, r1⟩
  rcases hm101 : casM J.budget x1 g1.ver r1.abs p91 with ⟨d1, p101⟩ | ⟨w101, p101⟩
  rotate_left
  ·apply drawn3_okB hB 7 none handOK_none (by kernel_rfl) TA_ok [49, 50, 52, 55] [0] [] hF rfl
   case hex => intro A X; conv => lhs; cbv
   case hD => kernel_rfl
   case hZ => kernel_rfl
   case hlen => rfl
   case hob =>
    intro X
    subst hB
    simp only [AO, Ob.holds, BE.den] <;> (and_intros <;> repeat first | trivial | rfl | exact Int.le_refl _ | exact (show (0 : Int) ≤ 0 ∧ (0 : Int) < 2 by decide) | exact (show (0 : Int) ≤ 1 ∧ (1 : Int) < 2 by decide) | exact (show (0 : Int) < 2 by decide) | exact (show (0 : Int) ≤ 1 by decide) | exact (show (1 : Int) < 2 by decide) | intro h)
   case hQ =>
   intro X10_t a0 w1 hF
   refine man_outT rfl rfl rfl rfl hF rfl rfl enters159 (S101.stop hm101) (by subst hB; exact zl) (mem1 rfl) rfl rfl ?_
   intro x w' hF hok
   exact thr_m (P := Tryz.prog) (fn := Tryz.f157) hF hok (by simp [splitM, splC, ← hx0, ← hx1, ← ha0, ← ha1, ← he, Rs.bind, t0, hrun0, hm70, tq0, hm90, t90, hm100, td0, hrun1, hm71, tq1, hm91, t91, hm101]) ⟨rfl, ⟨_, rfl, zl⟩, trivial⟩
  have hs101 := (fro_cas _ _ _ _ _).of hm101
  have hp101 := hp91.suf hs101
  have hn101 := Nat.le_trans hs101.le hn91
  apply drB hB (by kernel_rfl) TA_ok [56, 0, 2, 5, 11, 12, 13, 28, 29] [0, 5, 11, 13] [(7, .x fun x => ⟨.bool (.v d1), [(0, runC J (x.A 0) (x.c 0) p101)], []⟩)] hF rfl
  case hex => intro A X; conv => lhs; cbv
  case hD => kernel_rfl
  case hlen => rfl
  case hob =>
   intro X
   subst hB
   simp only [AO, Ob.holds, BE.den] <;> (and_intros <;> repeat first | trivial | rfl | exact enters159 | exact S101.ok hm101 | exact Int.le_refl _ | exact (show (0 : Int) ≤ 0 ∧ (0 : Int) < 2 by decide) | exact (show (0 : Int) ≤ 1 ∧ (1 : Int) < 2 by decide) | exact (show (0 : Int) < 2 by decide) | exact (show (0 : Int) ≤ 1 by decide) | exact (show (1 : Int) < 2 by decide) | refine ⟨?_, ?_⟩ | intro h)
  case hQ =>
  intro X10 a0 w1 hF
  apply test_ok hF rfl <;> intro hb hF
  ·have td1 : d1 = true := by exact hb
   refine wp_exit ?_
   apply rgB hB TA_ok [29, 0, 2, 5, 11, 28] [0, 5, 11] [] hF
   ·intro A X; conv => lhs; cbv
   ·intro X; subst hB; simp [AO, Ob.holds, BE.den, std, sC, sAr] <;> omega
   intro X11 a0 w1 hF
   replace hF := hF.headS (v' := .int .i64 2) (by subst hB; exact zr) rfl
   refine rounds_next ?_
   apply wp_seq
   apply rgB hB TA_ok [30, 0, 2, 5, 11, 28, 29] [0, 5, 11] [] hF
   ·intro A X; conv => lhs; cbv
   ·intro X; subst hB; simp [AO, Ob.holds, BE.den, std, sC, sAr] <;> omega
   intro X5 a0 w1 hF
   replace hF := hF.headS (v' := .bool .ff) (Sim.bool (by subst hB; rfl)) rfl
   apply wp_seq
   refine test_ff hF rfl (fun hF => ?_)
   refine wp_exit ?_
   have S12 := casi_m 0 b J hJ ((X10 7).A 0) ((X10 7).c 0) p101 hp101 hn101 l v
   rcases hm12 : casM J.budget l v innerR p101 with ⟨d2, p12⟩ | ⟨w12, p12⟩
   rotate_left
   ·apply drawn3_okB hB 4 none handOK_none (by kernel_rfl) TA_ok [58, 59, 60, 61] [0] [(3, .r fun _ => .agg [.int .i64 2, .sl none none 0 0 2 (fun _ => []), .int .i64 (-1), .int .u64 0, .int .u64 0])] hF rfl
    case hex => intro A X; conv => lhs; cbv
    case hD => kernel_rfl
    case hZ => kernel_rfl
    case hlen => rfl
    case hob =>
     intro X
     subst hB
     simp only [AO, Ob.holds, BE.den] <;> (and_intros <;> repeat first | trivial | rfl | exact enters178 | exact inn_s | refine ⟨?_, ?_⟩ | intro h)
    case hQ =>
    intro X12_t a0 w1 hF
    refine man_outT rfl rfl rfl rfl hF rfl rfl enters159 (S12.stop hm12) (by subst hB; exact zl) (mem1 rfl) rfl rfl ?_
    intro x w' hF hok
    exact thr_m (P := Tryz.prog) (fn := Tryz.f157) hF hok (by simp [splitM, splC, ← hx0, ← hx1, ← ha0, ← ha1, ← he, Rs.bind, t0, hrun0, hm70, tq0, hm90, t90, hm100, td0, hrun1, hm71, tq1, hm91, t91, hm101, td1, hm12]) ⟨rfl, ⟨_, rfl, zl⟩, trivial⟩
   have hs12 := (fro_cas _ _ _ _ _).of hm12
   have hp12 := hp101.suf hs12
   have hn12 := Nat.le_trans hs12.le hn101
   apply drB hB (by kernel_rfl) TA_ok [] [0] [(3, .r fun _ => .agg [.int .i64 2, .sl none none 0 0 2 (fun _ => []), .int .i64 (-1), .int .u64 0, .int .u64 0]), (4, .x fun x => ⟨.bool (.v d2), [(0, runC J (x.A 0) (x.c 0) p12)], []⟩)] hF rfl
   case hex => intro A X; conv => lhs; cbv
   case hD => kernel_rfl
   case hlen => rfl
   case hob =>
    intro X
    subst hB
    simp only [AO, Ob.holds, BE.den] <;> (and_intros <;> repeat first | trivial | rfl | exact enters178 | exact inn_s | exact enters159 | exact S12.ok hm12 | refine ⟨?_, ?_⟩ | intro h)
   case hQ =>
   intro X12 a0 w1 hF
   refine (ret_mm (fn := Tryz.f157) TA_ok hF (rs := []) rfl (rfl) ?_ ((X12 4).A 0) ((X12 4).c 0) (v := ()) (q := p12) (by simp [splitM, splC, ← hx0, ← hx1, ← ha0, ← ha1, ← he, Rs.bind, t0, hrun0, hm70, tq0, hm90, t90, hm100, td0, hrun1, hm71, tq1, hm91, t91, hm101, td1, hm12]) ?_ ?_).2
   ·subst hB; simp [AO, Ob.holds]
   ·subst hB; exact zr
   subst hB; exact ⟨rfl, ⟨_, rfl, zl⟩, trivial⟩
  have td1 : d1 = false := by exact hb
  refine wp_skip ?_
  replace hF := hF.keep [0, 2, 5, 11, 12, 13, 28, 29] [0, 5, 11, 13]
  exact ⟨(m1, p101, _, _), ⟨by rw [hrun1]; simp [splC, Rs.bind, t0, hrun0, hm70, tq0, hm90, t90, hm100, td0, hrun1, hm71, tq1, hm91, t91, hm101, td1], hp101, hn101, by dsimp only; have := hl71; have := hs91.le; have := hs101.le; have := hf1; omega, by dsimp only; have := hl71; have := hs91.le; have := hs101.le; have := hle1; omega⟩, by simp only; omega, hF⟩
 have td0 : d0 = false := by exact hb
 refine wp_skip ?_
 replace hF := hF.keep [0, 2, 5, 11, 12, 13, 28, 29] [0, 5, 11, 13]
 exact ⟨(m0, p100, _, _), ⟨by rw [hrun0]; simp [splC, Rs.bind, t0, hrun0, hm70, tq0, hm90, t90, hm100, td0], hp100, hn100, by dsimp only; have := hl70; have := hs90.le; have := hs100.le; have := hf0; omega, by dsimp only; have := hl70; have := hs90.le; have := hs100.le; have := hle0; omega⟩, by simp only; omega, hF⟩
theorem spl_m (k0 b : Nat) (J : JobA) (hJ : JobOk J) (A : Option Addr) (c : Nat) (p : Pst) (hp : PstOk p) (hn : p.n ≤ 1000000) (l : Lab) (hl : LOk l) (v : Int) (x : RA) (hx : RaOk x) (n : Nat) (hf : p.n < n) : RunS 157 k0 b J A c p [labAV l, .int .u64 v, recV x] (fun _ => unitV) (splitM J.budget n l v x p) := RunS.re (spl_m0 b J hJ A c p hp hn l hl v x hx n hf) (by repeat (first | exact trivial | refine ⟨zr, ?_⟩))
theorem enters158 : Enters Tryz.prog 158 := fun _ _ => by kernel_rfl
theorem mrg_m0 (b : Nat) (J : JobA) (hJ : JobOk J) (A : Option Addr) (c : Nat) (p : Pst) (hp : PstOk p) (hn : p.n ≤ 1000000) (l : Lab) (hl : LOk l) (v : Int) (n : Nat) (hth : ThC n) (hf : p.n < n) : RunS 158 0 b J A c p [labAV l, .int .u64 v] (fun _ => unitV) (mrgM J.bucket J.budget n (thwM J.bucket J.budget n) l v p) := by
 intro m w hm hargs hpre
 have SC := chi_s l hl.u
 have hk0 := hl.ch 0
 have hk1 := hl.ch 1
 simp only [labAV] at SC
 obtain ⟨x0, hx0⟩ := eqv (chV l 0)
 rw [← hx0] at SC hk0
 obtain ⟨x1, hx1⟩ := eqv (chV l 1)
 rw [← hx1] at SC hk1
 refine enterX hm hpre hargs Tryz.func158 rfl (by simp [Tryz.ntmps158]) fun a0 hF => ?_
 simp only [Tryz.ntmps158, startT] at hF
 obtain ⟨B, hB⟩ := eqv (std)
 apply wp_seq
 apply rgB hB TA_ok [0, 2, 4] [0, 4] [] hF
 ·intro A X; conv => lhs; cbv
 ·intro X; subst hB; simp [AO, Ob.holds, BE.den, std, sC, sAr] <;> omega
 intro X0 a0 w1 hF
 apply wp_seq
 apply rgB hB TA_ok [0, 2, 4, 6] [0, 4, 6] [] hF
 ·intro A X; conv => lhs; cbv
 ·intro X; subst hB; simp [AO, Ob.holds, BE.den, std, sC, sAr] <;> omega
 intro X1 a0 w1 hF
 refine wp_seq (wp_seq ?_)
 apply rgB hB TA_ok [15, 0, 2, 4, 6, 14] [0, 4, 6] [(1, .r fun _ => .agg [.int .i64 x0.len, .int .u64 x0.bits, .int .i64 x1.len, .int .u64 x1.bits])] hF
 ·intro A X; conv => lhs; cbv
 ·intro X; subst hB; simp only [AO, Ob.holds, BE.den] <;> (and_intros <;> repeat first | trivial | rfl | exact enters154 | exact SC | refine ⟨?_, ?_⟩ | intro h)
 intro X2 a0 w1 hF
 refine wp_block ?_
 refine wp_loop_rounds 3 ?_
 refine rounds_first ?_
 apply wp_seq
 apply rgB hB TA_ok [16, 0, 2, 4, 6, 14, 15] [0, 4, 6] [] hF
 ·intro A X; conv => lhs; cbv
 ·intro X; subst hB; simp [AO, Ob.holds, BE.den, std, sC, sAr] <;> omega
 intro X3 a0 w1 hF
 replace hF := hF.headS (v' := .bool .tt) (Sim.bool (by subst hB; rfl)) rfl
 apply wp_seq
 refine test_tt hF rfl (fun hF => ?_)
 refine wp_skip ?_
 apply wp_seq
 refine wp_block ?_
 apply wp_seq
 apply rgB hB TA_ok [0, 2, 4, 6, 7, 8, 14, 15] [0, 4, 6, 8] [] hF
 ·intro A X; conv => lhs; cbv
 ·intro X; subst hB; simp only [AO, Ob.holds, BE.den] <;> (and_intros <;> repeat first | trivial | rfl | exact Int.le_refl _ | exact (show (0 : Int) ≤ 0 ∧ (0 : Int) < 2 by decide) | exact (show (0 : Int) ≤ 1 ∧ (1 : Int) < 2 by decide) | exact (show (0 : Int) < 2 by decide) | exact (show (0 : Int) ≤ 1 by decide) | exact (show (1 : Int) < 2 by decide) | intro h)
 intro X4 a0 w1 hF
 apply wp_seq
 have S50 := frz_m 0 b J hJ A c p hp hn l v x0 n (by have := (Suf.refl p).le; omega)
 rcases hm50 : frzM J.budget l v x0 n p with ⟨z0, p50⟩ | ⟨w50, p50⟩
 rotate_left
 ·refine wp_region_lit ?_
  apply list_preB 0 4 hB TA_ok [20, 21, 22, 23] [0] [] hF
  ·intro A X; conv => lhs; cbv
  ·intro X; subst hB; first | exact trivial | (repeat (first | exact trivial | refine ⟨rfl, ?_⟩))
  intro X5_t a0 w1 hF
  refine man_outT rfl rfl rfl rfl hF rfl rfl enters179 (S50.stop hm50) (by subst hB; exact zl) (mem1 rfl) rfl rfl ?_
  intro x w' hF hok
  exact thr_m (P := Tryz.prog) (fn := Tryz.f158) hF hok (by simp [mrgM, ← hx0, ← hx1, Rs.bind, hm50]) ⟨rfl, ⟨_, rfl, zl⟩, trivial⟩
 have hs50 := (fro_frz _ _ _ _ _ _).of hm50
 have hp50 := hp.suf hs50
 have hn50 := Nat.le_trans hs50.le hn
 have hz0 : ∀ y, z0 = .fr y → RaOk y := fun y hy => frz_ok hp (by rw [hm50, hy])
 have TA := S50.ok hm50
 unfold encFz at TA
 obtain ⟨y0, hy0⟩ := eqv (fzR z0)
 rw [← hy0] at TA
 obtain ⟨i0, hi0⟩ := eqv (fzI z0)
 rw [← hi0] at TA
 apply rgB hB TA_ok [0, 2, 4, 6, 7, 9, 10, 14, 15] [0, 4, 6, 9] [(4, .x fun x => ⟨.tup [.agg [.int .i64 y0.r.kd, .sl none y0.A y0.r.n y0.c 2 (fun i => itC (y0.r.f i)), .int .i64 y0.r.nx.len, .int .u64 y0.r.nx.bits, .int .u64 y0.r.mrk], .int .i64 i0], [(0, runC J (x.A 0) (x.c 0) p50)], []⟩)] hF
 ·intro A X; conv => lhs; cbv
 ·intro X; subst hB; simp only [AO, Ob.holds, BE.den] <;> (and_intros <;> repeat first | trivial | rfl | exact enters179 | exact TA | refine ⟨?_, ?_⟩ | intro h)
 intro X5 a0 w1 hF
 refine wp_seq (wp_seq ?_)
 apply rgB hB TA_ok [0, 2, 4, 6, 7, 9, 14, 15, 27] [0, 4, 6, 9] [] hF
 ·intro A X; conv => lhs; cbv
 ·intro X; subst hB; simp [AO, Ob.holds, BE.den, std, sC, sAr] <;> omega
 intro X6 a0 w1 hF
 refine wp_block ?_
 apply wp_seq
 refine wp_block ?_
 apply wp_seq
 refine wp_block ?_
 refine wp_seq (wp_seq ?_)
 apply wp_seq
 apply rgB hB TA_ok [28, 0, 2, 4, 6, 7, 9, 14, 15, 27] [0, 4, 6, 9] [] hF
 ·intro A X; conv => lhs; cbv
 ·intro X; subst hB; simp [AO, Ob.holds, BE.den, std, sC, sAr] <;> omega
 intro X7 a0 w1 hF
 apply test_ok hF rfl <;> intro hb hF
 ·have tz0 : z0 = .unfit := fz_1 (by rw [← hi0]; subst hB; simpa [std, sC] using hb)
  refine wp_exit ?_
  have S90 := bck_m 0 b J hJ ((X5 4).A 0) ((X5 4).c 0) p50 hp50 hn50 l hl v n hth (by have := (Suf.trans (Suf.refl p) hs50).le; omega)
  rcases hm90 : bckM J.budget (thwM J.bucket J.budget n) l v p50 with ⟨v90, p90⟩ | ⟨w90, p90⟩
  rotate_left
  ·refine wp_region_lit ?_
   apply list_preB 0 3 hB TA_ok [32, 33, 34] [0] [] hF
   ·intro A X; conv => lhs; cbv
   ·intro X; subst hB; first | exact trivial | (repeat (first | exact trivial | refine ⟨rfl, ?_⟩))
   intro X9_t a0 w1 hF
   refine man_outT rfl rfl rfl rfl hF rfl rfl enters180 (S90.stop hm90) (by subst hB; exact zl) (mem1 rfl) rfl rfl ?_
   intro x w' hF hok
   exact thr_m (P := Tryz.prog) (fn := Tryz.f158) hF hok (by simp [mrgM, ← hx0, ← hx1, Rs.bind, hm50, tz0, hm90]) ⟨rfl, ⟨_, rfl, zl⟩, trivial⟩
  have hs90 := (fro_bck _ _ (fro_thw _ _ _) _ _ _).of hm90
  have hp90 := hp50.suf hs90
  have hn90 := Nat.le_trans hs90.le hn50
  apply rgB hB TA_ok [] [0] [(3, .x fun x => ⟨unitV, [(0, runC J (x.A 0) (x.c 0) p90)], []⟩)] hF
  ·intro A X; conv => lhs; cbv
  ·intro X; subst hB; simp only [AO, Ob.holds, BE.den] <;> (and_intros <;> repeat first | trivial | rfl | exact enters180 | exact S90.ok hm90 | refine ⟨?_, ?_⟩ | intro h)
  intro X9 a0 w1 hF
  apply wp_seq
  refine wp_ret ?_
  refine (ret_mm (fn := Tryz.f158) TA_ok hF (rs := []) rfl (rfl) ?_ ((X9 3).A 0) ((X9 3).c 0) (v := ()) (q := p90) (by simp [mrgM, ← hx0, ← hx1, Rs.bind, hm50, tz0, hm90]) ?_ ?_).1
  ·subst hB; simp [AO, Ob.holds]
  ·subst hB; exact zr
  subst hB; exact ⟨rfl, ⟨_, rfl, zl⟩, trivial⟩
 have ta0 : fzI z0 ≠ 1 := by
  have : ¬ i0 = 1 := by subst hB; simpa [std, sC] using hb
  rw [← hi0]; exact this
 refine wp_skip ?_
 apply wp_seq
 apply rgB hB TA_ok [30, 0, 2, 4, 6, 7, 9, 14, 15] [0, 4, 6, 9] [] hF
 ·intro A X; conv => lhs; cbv
 ·intro X; subst hB; simp [AO, Ob.holds, BE.den, std, sC, sAr] <;> omega
 intro X8 a0 w1 hF
 apply test_ok hF rfl <;> intro hb hF
 ·have tz0 : z0 = .over := fz_0 (by rw [← hi0]; subst hB; simpa [std, sC] using hb)
  refine wp_exit ?_
  apply wp_seq
  refine wp_ret ?_
  refine (ret_mm (fn := Tryz.f158) TA_ok hF (rs := []) rfl (rfl) ?_ ((X5 4).A 0) ((X5 4).c 0) (v := ()) (q := p50) (by simp [mrgM, ← hx0, ← hx1, Rs.bind, hm50, tz0]) ?_ ?_).1
  ·subst hB; simp [AO, Ob.holds]
  ·subst hB; exact zr
  subst hB; exact ⟨rfl, ⟨_, rfl, zl⟩, trivial⟩
 have tz0 : z0 = .fr y0 := by
  rw [hy0]
  refine fz_2 ?_ ta0
  have : ¬ i0 = 0 := by subst hB; simpa [std, sC] using hb
  rw [← hi0]; exact this
 have ty0 := hz0 _ tz0
 refine wp_skip ?_
 refine wp_exit ?_
 apply rgB hB TA_ok [0, 2, 4, 6, 14, 15] [0, 4, 6] [] hF
 ·intro A X; conv => lhs; cbv
 ·intro X; subst hB; simp only [AO, Ob.holds, BE.den] <;> (and_intros <;> repeat first | trivial | rfl | exact Int.le_refl _ | exact (show (0 : Int) ≤ 0 ∧ (0 : Int) < 2 by decide) | exact (show (0 : Int) ≤ 1 ∧ (1 : Int) < 2 by decide) | exact (show (0 : Int) < 2 by decide) | exact (show (0 : Int) ≤ 1 by decide) | exact (show (1 : Int) < 2 by decide) | intro h)
 intro X10 a0 w1 hF
 apply rgB hB TA_ok [15, 0, 2, 4, 6, 14] [0, 4, 6] [] hF
 ·intro A X; conv => lhs; cbv
 ·intro X; subst hB; simp [AO, Ob.holds, BE.den, std, sC, sAr] <;> omega
 intro X11 a0 w1 hF
 replace hF := hF.headS (v' := .int .i64 1) (by subst hB; exact zr) rfl
 refine rounds_next ?_
 apply wp_seq
 apply rgB hB TA_ok [16, 0, 2, 4, 6, 14, 15] [0, 4, 6] [] hF
 ·intro A X; conv => lhs; cbv
 ·intro X; subst hB; simp [AO, Ob.holds, BE.den, std, sC, sAr] <;> omega
 intro X3 a0 w1 hF
 replace hF := hF.headS (v' := .bool .tt) (Sim.bool (by subst hB; rfl)) rfl
 apply wp_seq
 refine test_tt hF rfl (fun hF => ?_)
 refine wp_skip ?_
 apply wp_seq
 refine wp_block ?_
 apply wp_seq
 apply rgB hB TA_ok [0, 2, 4, 6, 7, 8, 14, 15] [0, 4, 6, 8] [] hF
 ·intro A X; conv => lhs; cbv
 ·intro X; subst hB; simp only [AO, Ob.holds, BE.den] <;> (and_intros <;> repeat first | trivial | rfl | exact Int.le_refl _ | exact (show (0 : Int) ≤ 0 ∧ (0 : Int) < 2 by decide) | exact (show (0 : Int) ≤ 1 ∧ (1 : Int) < 2 by decide) | exact (show (0 : Int) < 2 by decide) | exact (show (0 : Int) ≤ 1 by decide) | exact (show (1 : Int) < 2 by decide) | intro h)
 intro X4 a0 w1 hF
 apply wp_seq
 have S51 := frz_m 0 b J hJ ((X5 4).A 0) ((X5 4).c 0) p50 hp50 hn50 l v x1 n (by have := (Suf.trans (Suf.refl p) hs50).le; omega)
 rcases hm51 : frzM J.budget l v x1 n p50 with ⟨z1, p51⟩ | ⟨w51, p51⟩
 rotate_left
 ·refine wp_region_lit ?_
  apply list_preB 0 4 hB TA_ok [20, 21, 22, 23] [0] [] hF
  ·intro A X; conv => lhs; cbv
  ·intro X; subst hB; first | exact trivial | (repeat (first | exact trivial | refine ⟨rfl, ?_⟩))
  intro X5_t a0 w1 hF
  refine man_outT rfl rfl rfl rfl hF rfl rfl enters179 (S51.stop hm51) (by subst hB; exact zl) (mem1 rfl) rfl rfl ?_
  intro x w' hF hok
  exact thr_m (P := Tryz.prog) (fn := Tryz.f158) hF hok (by simp [mrgM, ← hx0, ← hx1, Rs.bind, hm50, tz0, hm51]) ⟨rfl, ⟨_, rfl, zl⟩, trivial⟩
 have hs51 := (fro_frz _ _ _ _ _ _).of hm51
 have hp51 := hp50.suf hs51
 have hn51 := Nat.le_trans hs51.le hn50
 have hz1 : ∀ y, z1 = .fr y → RaOk y := fun y hy => frz_ok hp50 (by rw [hm51, hy])
 have TA := S51.ok hm51
 unfold encFz at TA
 obtain ⟨y1, hy1⟩ := eqv (fzR z1)
 rw [← hy1] at TA
 obtain ⟨i1, hi1⟩ := eqv (fzI z1)
 rw [← hi1] at TA
 apply rgB hB TA_ok [0, 2, 4, 6, 7, 9, 10, 14, 15] [0, 4, 6, 9] [(4, .x fun x => ⟨.tup [.agg [.int .i64 y1.r.kd, .sl none y1.A y1.r.n y1.c 2 (fun i => itC (y1.r.f i)), .int .i64 y1.r.nx.len, .int .u64 y1.r.nx.bits, .int .u64 y1.r.mrk], .int .i64 i1], [(0, runC J (x.A 0) (x.c 0) p51)], []⟩)] hF
 ·intro A X; conv => lhs; cbv
 ·intro X; subst hB; simp only [AO, Ob.holds, BE.den] <;> (and_intros <;> repeat first | trivial | rfl | exact enters179 | exact TA | refine ⟨?_, ?_⟩ | intro h)
 intro X5 a0 w1 hF
 refine wp_seq (wp_seq ?_)
 apply rgB hB TA_ok [0, 2, 4, 6, 7, 9, 14, 15, 27] [0, 4, 6, 9] [] hF
 ·intro A X; conv => lhs; cbv
 ·intro X; subst hB; simp [AO, Ob.holds, BE.den, std, sC, sAr] <;> omega
 intro X6 a0 w1 hF
 refine wp_block ?_
 apply wp_seq
 refine wp_block ?_
 apply wp_seq
 refine wp_block ?_
 refine wp_seq (wp_seq ?_)
 apply wp_seq
 apply rgB hB TA_ok [28, 0, 2, 4, 6, 7, 9, 14, 15, 27] [0, 4, 6, 9] [] hF
 ·intro A X; conv => lhs; cbv
 ·intro X; subst hB; simp [AO, Ob.holds, BE.den, std, sC, sAr] <;> omega
 intro X7 a0 w1 hF
 apply test_ok hF rfl <;> intro hb hF
 ·have tz1 : z1 = .unfit := fz_1 (by rw [← hi1]; subst hB; simpa [std, sC] using hb)
  refine wp_exit ?_
  have S91 := bck_m 0 b J hJ ((X5 4).A 0) ((X5 4).c 0) p51 hp51 hn51 l hl v n hth (by have := (Suf.trans (Suf.trans (Suf.refl p) hs50) hs51).le; omega)
  rcases hm91 : bckM J.budget (thwM J.bucket J.budget n) l v p51 with ⟨v91, p91⟩ | ⟨w91, p91⟩
  rotate_left
  ·refine wp_region_lit ?_
   apply list_preB 0 3 hB TA_ok [32, 33, 34] [0] [] hF
   ·intro A X; conv => lhs; cbv
   ·intro X; subst hB; first | exact trivial | (repeat (first | exact trivial | refine ⟨rfl, ?_⟩))
   intro X9_t a0 w1 hF
   refine man_outT rfl rfl rfl rfl hF rfl rfl enters180 (S91.stop hm91) (by subst hB; exact zl) (mem1 rfl) rfl rfl ?_
   intro x w' hF hok
   exact thr_m (P := Tryz.prog) (fn := Tryz.f158) hF hok (by simp [mrgM, ← hx0, ← hx1, Rs.bind, hm50, tz0, hm51, tz1, hm91]) ⟨rfl, ⟨_, rfl, zl⟩, trivial⟩
  have hs91 := (fro_bck _ _ (fro_thw _ _ _) _ _ _).of hm91
  have hp91 := hp51.suf hs91
  have hn91 := Nat.le_trans hs91.le hn51
  apply rgB hB TA_ok [] [0] [(3, .x fun x => ⟨unitV, [(0, runC J (x.A 0) (x.c 0) p91)], []⟩)] hF
  ·intro A X; conv => lhs; cbv
  ·intro X; subst hB; simp only [AO, Ob.holds, BE.den] <;> (and_intros <;> repeat first | trivial | rfl | exact enters180 | exact S91.ok hm91 | refine ⟨?_, ?_⟩ | intro h)
  intro X9 a0 w1 hF
  apply wp_seq
  refine wp_ret ?_
  refine (ret_mm (fn := Tryz.f158) TA_ok hF (rs := []) rfl (rfl) ?_ ((X9 3).A 0) ((X9 3).c 0) (v := ()) (q := p91) (by simp [mrgM, ← hx0, ← hx1, Rs.bind, hm50, tz0, hm51, tz1, hm91]) ?_ ?_).1
  ·subst hB; simp [AO, Ob.holds]
  ·subst hB; exact zr
  subst hB; exact ⟨rfl, ⟨_, rfl, zl⟩, trivial⟩
 have ta1 : fzI z1 ≠ 1 := by
  have : ¬ i1 = 1 := by subst hB; simpa [std, sC] using hb
  rw [← hi1]; exact this
 refine wp_skip ?_
 apply wp_seq
 apply rgB hB TA_ok [30, 0, 2, 4, 6, 7, 9, 14, 15] [0, 4, 6, 9] [] hF
 ·intro A X; conv => lhs; cbv
 ·intro X; subst hB; simp [AO, Ob.holds, BE.den, std, sC, sAr] <;> omega
 intro X8 a0 w1 hF
 apply test_ok hF rfl <;> intro hb hF
 ·have tz1 : z1 = .over := fz_0 (by rw [← hi1]; subst hB; simpa [std, sC] using hb)
  refine wp_exit ?_
  apply wp_seq
  refine wp_ret ?_
  refine (ret_mm (fn := Tryz.f158) TA_ok hF (rs := []) rfl (rfl) ?_ ((X5 4).A 0) ((X5 4).c 0) (v := ()) (q := p51) (by simp [mrgM, ← hx0, ← hx1, Rs.bind, hm50, tz0, hm51, tz1]) ?_ ?_).1
  ·subst hB; simp [AO, Ob.holds]
  ·subst hB; exact zr
  subst hB; exact ⟨rfl, ⟨_, rfl, zl⟩, trivial⟩
 have tz1 : z1 = .fr y1 := by
  rw [hy1]
  refine fz_2 ?_ ta1
  have : ¬ i1 = 0 := by subst hB; simpa [std, sC] using hb
  rw [← hi1]; exact this
 have ty1 := hz1 _ tz1
 refine wp_skip ?_
 refine wp_exit ?_
 apply rgB hB TA_ok [0, 2, 4, 6, 14, 15] [0, 4, 6] [] hF
 ·intro A X; conv => lhs; cbv
 ·intro X; subst hB; simp only [AO, Ob.holds, BE.den] <;> (and_intros <;> repeat first | trivial | rfl | exact Int.le_refl _ | exact (show (0 : Int) ≤ 0 ∧ (0 : Int) < 2 by decide) | exact (show (0 : Int) ≤ 1 ∧ (1 : Int) < 2 by decide) | exact (show (0 : Int) < 2 by decide) | exact (show (0 : Int) ≤ 1 by decide) | exact (show (1 : Int) < 2 by decide) | intro h)
 intro X10 a0 w1 hF
 apply rgB hB TA_ok [15, 0, 2, 4, 6, 14] [0, 4, 6] [] hF
 ·intro A X; conv => lhs; cbv
 ·intro X; subst hB; simp [AO, Ob.holds, BE.den, std, sC, sAr] <;> omega
 intro X11 a0 w1 hF
 replace hF := hF.headS (v' := .int .i64 2) (by subst hB; exact zr) rfl
 refine rounds_next ?_
 apply wp_seq
 apply rgB hB TA_ok [16, 0, 2, 4, 6, 14, 15] [0, 4, 6] [] hF
 ·intro A X; conv => lhs; cbv
 ·intro X; subst hB; simp [AO, Ob.holds, BE.den, std, sC, sAr] <;> omega
 intro X3 a0 w1 hF
 replace hF := hF.headS (v' := .bool .ff) (Sim.bool (by subst hB; rfl)) rfl
 apply wp_seq
 refine test_ff hF rfl (fun hF => ?_)
 refine wp_exit ?_
 apply wp_seq
 have SU := uni_c y0 y1 ty0 ty1
 obtain ⟨r2, hr2⟩ := eqv ((uniA y0 y1).1.rn)
 rw [← hr2] at SU
 obtain ⟨e2, he2⟩ := eqv ((uniA y0 y1).2)
 rw [← he2] at SU
 have ha2 : r2.abs = (uniA y0 y1).1 := by rw [hr2]; exact rn_abs _
 have hl2 : r2.abs.items.length = r2.n := by rw [ha2, hr2]; rfl
 apply rgB hB TA_ok [0, 2, 4, 11, 12] [0, 4, 11] [(4, .r fun z => .tup [.agg [.int .i64 r2.kd, .sl none (z.A 0) r2.n (z.c 0) 2 (fun i => itC (r2.f i)), .int .i64 r2.nx.len, .int .u64 r2.nx.bits, .int .u64 r2.mrk], .int .i64 e2])] hF
 ·intro A X; conv => lhs; cbv
 ·intro X; subst hB; simp only [AO, Ob.holds, BE.den] <;> (and_intros <;> repeat first | trivial | rfl | exact enters181 | exact SU | exact Int.le_refl _ | exact (show (0 : Int) ≤ 0 ∧ (0 : Int) < 2 by decide) | exact (show (0 : Int) ≤ 1 ∧ (1 : Int) < 2 by decide) | exact (show (0 : Int) < 2 by decide) | exact (show (0 : Int) ≤ 1 by decide) | exact (show (1 : Int) < 2 by decide) | refine ⟨?_, ?_⟩ | intro h)
 intro X12 a0 w1 hF
 refine wp_seq (wp_seq ?_)
 apply drB hB (by kernel_rfl) TA_ok [60, 0, 2, 4, 11] [0, 4, 11] [] hF rfl
 case hex => intro A X; conv => lhs; cbv
 case hD => kernel_rfl
 case hlen => rfl
 case hob =>
  intro X
  subst hB
  simp only [AO, Ob.holds, BE.den] <;> (and_intros <;> repeat first | trivial | rfl | exact Int.le_refl _ | intro h)
 case hQ =>
 intro X13 a0 w1 hF
 apply test_ok hF rfl <;> intro hb hF
 ·have tu : ¬ ((uniA y0 y1).2 = 0 ∧ (r2.abs.items.length : Int) ≤ J.bucket) := by
   have h9 : (if (!decide (e2 = 0)) = true then true else decide ((r2.n : Int) > J.bucket)) = true := by subst hB; exact hb
   rw [← he2, hl2]
   intro h; simp [h.1] at h9; omega
  apply wp_seq
  have S14 := bck_m 0 b J hJ ((X5 4).A 0) ((X5 4).c 0) p51 hp51 hn51 l hl v n hth (by have := (Suf.trans (Suf.trans (Suf.refl p) hs50) hs51).le; omega)
  rcases hm14 : bckM J.budget (thwM J.bucket J.budget n) l v p51 with ⟨v14, p14⟩ | ⟨w14, p14⟩
  rotate_left
  ·refine wp_region_lit ?_
   apply list_preB 0 3 hB TA_ok [61, 62, 63] [0] [] hF
   ·intro A X; conv => lhs; cbv
   ·intro X; subst hB; first | exact trivial | (repeat (first | exact trivial | refine ⟨rfl, ?_⟩))
   intro X14_t a0 w1 hF
   refine man_outT rfl rfl rfl rfl hF rfl rfl enters180 (S14.stop hm14) (by subst hB; exact zl) (mem1 rfl) rfl rfl ?_
   intro x w' hF hok
   exact thr_m (P := Tryz.prog) (fn := Tryz.f158) hF hok (by simp [mrgM, ← hx0, ← hx1, Rs.bind, hm50, tz0, hm51, tz1, ← ha2, if_neg tu, hm14]) ⟨rfl, ⟨_, rfl, zl⟩, trivial⟩
  have hs14 := (fro_bck _ _ (fro_thw _ _ _) _ _ _).of hm14
  have hp14 := hp51.suf hs14
  have hn14 := Nat.le_trans hs14.le hn51
  apply rgB hB TA_ok [] [0] [(3, .x fun x => ⟨unitV, [(0, runC J (x.A 0) (x.c 0) p14)], []⟩)] hF
  ·intro A X; conv => lhs; cbv
  ·intro X; subst hB; simp only [AO, Ob.holds, BE.den] <;> (and_intros <;> repeat first | trivial | rfl | exact enters180 | exact S14.ok hm14 | refine ⟨?_, ?_⟩ | intro h)
  intro X14 a0 w1 hF
  refine wp_ret ?_
  refine (ret_mm (fn := Tryz.f158) TA_ok hF (rs := []) rfl (rfl) ?_ ((X14 3).A 0) ((X14 3).c 0) (v := ()) (q := p14) (by simp [mrgM, ← hx0, ← hx1, Rs.bind, hm50, tz0, hm51, tz1, ← ha2, if_neg tu, hm14]) ?_ ?_).1
  ·subst hB; simp [AO, Ob.holds]
  ·subst hB; exact zr
  subst hB; exact ⟨rfl, ⟨_, rfl, zl⟩, trivial⟩
 have tu : (uniA y0 y1).2 = 0 ∧ (r2.abs.items.length : Int) ≤ J.bucket := by
  have h9 : (if (!decide (e2 = 0)) = true then true else decide ((r2.n : Int) > J.bucket)) = false := by subst hB; exact hb
  rw [← he2, hl2]
  simp at h9; exact ⟨h9.1, by omega⟩
 refine wp_skip ?_
 apply wp_seq
 have S15 := cas_m 0 b J hJ ((X5 4).A 0) ((X5 4).c 0) p51 hp51 hn51 l v ⟨(X12 4).A 0, (X12 4).c 0, r2⟩
 rcases hm15 : casM J.budget l v r2.abs p51 with ⟨d5, p15⟩ | ⟨w15, p15⟩
 rotate_left
 ·refine wp_region_lit ?_
  apply list_preB 0 4 hB TA_ok [65, 66, 67, 68] [0] [] hF
  ·intro A X; conv => lhs; cbv
  ·intro X; subst hB; first | exact trivial | (repeat (first | exact trivial | refine ⟨rfl, ?_⟩))
  intro X15_t a0 w1 hF
  refine man_outT rfl rfl rfl rfl hF rfl rfl enters159 (S15.stop hm15) (by subst hB; exact zl) (mem1 rfl) rfl rfl ?_
  intro x w' hF hok
  exact thr_m (P := Tryz.prog) (fn := Tryz.f158) hF hok (by simp [mrgM, ← hx0, ← hx1, Rs.bind, hm50, tz0, hm51, tz1, ← ha2, if_pos tu, hm15]) ⟨rfl, ⟨_, rfl, zl⟩, trivial⟩
 have hs15 := (fro_cas _ _ _ _ _).of hm15
 have hp15 := hp51.suf hs15
 have hn15 := Nat.le_trans hs15.le hn51
 apply rgB hB TA_ok [69, 0, 4] [0, 4] [(4, .x fun x => ⟨.bool (.v d5), [(0, runC J (x.A 0) (x.c 0) p15)], []⟩)] hF
 ·intro A X; conv => lhs; cbv
 ·intro X; subst hB; simp only [AO, Ob.holds, BE.den] <;> (and_intros <;> repeat first | trivial | rfl | exact enters159 | exact S15.ok hm15 | refine ⟨?_, ?_⟩ | intro h)
 intro X15 a0 w1 hF
 apply test_ok hF rfl <;> intro hb hF
 ·have t5 : d5 = true := by exact hb
  have S16 := cln_c n 0 b J hJ ((X15 4).A 0) ((X15 4).c 0) p15 hp15 hn15 l hl (by have := (Suf.trans (Suf.trans (Suf.trans (Suf.refl p) hs50) hs51) hs15).le; omega)
  rcases hm16 : clnM J.budget n l p15 with ⟨v16, p16⟩ | ⟨w16, p16⟩
  rotate_left
  ·refine wp_region_lit ?_
   apply list_preB 0 2 hB TA_ok [70, 71] [0] [] hF
   ·intro A X; conv => lhs; cbv
   ·intro X; subst hB; first | exact trivial | (repeat (first | exact trivial | refine ⟨rfl, ?_⟩))
   intro X16_t a0 w1 hF
   refine man_outT rfl rfl rfl rfl hF rfl rfl enters116 (S16.stop hm16) (by subst hB; exact zl) (mem1 rfl) rfl rfl ?_
   intro x w' hF hok
   exact thr_m (P := Tryz.prog) (fn := Tryz.f158) hF hok (by simp [mrgM, ← hx0, ← hx1, Rs.bind, hm50, tz0, hm51, tz1, ← ha2, if_pos tu, hm15, t5, hm16]) ⟨rfl, ⟨_, rfl, zl⟩, trivial⟩
  have hs16 := (fro_cln _ _ _ _).of hm16
  have hp16 := hp15.suf hs16
  have hn16 := Nat.le_trans hs16.le hn15
  apply rgB hB TA_ok [] [0] [(2, .x fun x => ⟨unitV, [(0, runC J (x.A 0) (x.c 0) p16)], []⟩)] hF
  ·intro A X; conv => lhs; cbv
  ·intro X; subst hB; simp only [AO, Ob.holds, BE.den] <;> (and_intros <;> repeat first | trivial | rfl | exact enters116 | exact S16.ok hm16 | refine ⟨?_, ?_⟩ | intro h)
  intro X16 a0 w1 hF
  refine (ret_mm (fn := Tryz.f158) TA_ok hF (rs := []) rfl (rfl) ?_ ((X16 2).A 0) ((X16 2).c 0) (v := ()) (q := p16) (by simp [mrgM, ← hx0, ← hx1, Rs.bind, hm50, tz0, hm51, tz1, ← ha2, if_pos tu, hm15, t5, hm16]) ?_ ?_).2
  ·subst hB; simp [AO, Ob.holds]
  ·subst hB; exact zr
  subst hB; exact ⟨rfl, ⟨_, rfl, zl⟩, trivial⟩
 have t5 : d5 = false := by exact hb
 refine wp_skip ?_
 refine (ret_mm (fn := Tryz.f158) TA_ok hF (rs := []) rfl (rfl) ?_ ((X15 4).A 0) ((X15 4).c 0) (v := ()) (q := p15) (by simp [mrgM, ← hx0, ← hx1, Rs.bind, hm50, tz0, hm51, tz1, ← ha2, if_pos tu, hm15, t5]) ?_ ?_).2
 ·subst hB; simp [AO, Ob.holds]
 ·subst hB; exact zr
 subst hB; exact ⟨rfl, ⟨_, rfl, zl⟩, trivial⟩
theorem mrg_m (k0 b : Nat) (J : JobA) (hJ : JobOk J) (A : Option Addr) (c : Nat) (p : Pst) (hp : PstOk p) (hn : p.n ≤ 1000000) (l : Lab) (hl : LOk l) (v : Int) (n : Nat) (hth : ThC n) (hf : p.n < n) : RunS 158 k0 b J A c p [labAV l, .int .u64 v] (fun _ => unitV) (mrgM J.bucket J.budget n (thwM J.bucket J.budget n) l v p) := RunS.re (mrg_m0 b J hJ A c p hp hn l hl v n hth hf) (by repeat (first | exact trivial | refine ⟨zr, ?_⟩))
theorem fin_m0 (b : Nat) (J : JobA) (hJ : JobOk J) (A : Option Addr) (c : Nat) (p : Pst) (hp : PstOk p) (hn : p.n ≤ 1000000) (l : Lab) (hl : LOk l) (g : GotA) (hg : GotOk g) (n : Nat) (hth : ThC n) (hf : p.n < n) : RunS 119 0 b J A c p [labAV l, gotV g] (fun _ => unitV) (fnsM J.bucket J.budget n l g p) := by
 intro m w hm hargs hpre
 refine enterX hm hpre hargs Tryz.func119 rfl (by simp [Tryz.ntmps119]) fun a0 hF => ?_
 simp only [Tryz.ntmps119, startT] at hF
 obtain ⟨B, hB⟩ := eqv (std)
 apply wp_seq
 apply rgB hB TA_ok [0, 4, 5] [0, 4, 5] [] hF
 ·intro A X; conv => lhs; cbv
 ·intro X; subst hB; simp [AO, Ob.holds, BE.den, std, sC, sAr] <;> omega
 intro X0 a0 w1 hF
 refine wp_block ?_
 apply wp_seq
 obtain ⟨q1, hq1⟩ := eqv (gk g 3)
 apply rgB hB TA_ok [6, 0, 4, 5] [0, 4, 5, 8] [(2, .r fun _ => .bool (.v q1))] hF
 ·intro A X; conv => lhs; cbv
 ·intro X; subst hB; simp only [AO, Ob.holds, BE.den] <;> (and_intros <;> repeat first | trivial | rfl | exact enters118 | exact (by rw [hq1]; exact is1_s g _ _ 3 _ rfl) | exact by rw [hq1]; exact is1_s g _ _ 3 _ rfl | refine ⟨?_, ?_⟩ | intro h)
 intro X1 a0 w1 hF
 apply test_ok hF rfl <;> intro hb hF
 ·have tq1 : gk g 3 = true := by rw [← hq1]; exact hb
  have S2 := spl_m 0 b J hJ A c p hp hn l hl g.ver g.x hg.ra n hf
  rcases hm2 : splitM J.budget n l g.ver g.x p with ⟨v2, p2⟩ | ⟨w2, p2⟩
  rotate_left
  ·refine wp_region_lit ?_
   apply list_preB 0 6 hB TA_ok [10, 11, 13, 15] [0] [] hF
   ·intro A X; conv => lhs; cbv
   ·intro X; subst hB; first | exact trivial | (repeat (first | exact trivial | refine ⟨rfl, ?_⟩))
   intro X2_t a0 w1 hF
   refine man_outT rfl rfl rfl rfl hF rfl rfl enters157 (S2.stop hm2) (by subst hB; exact zl) (mem1 rfl) rfl rfl ?_
   intro x w' hF hok
   exact thr_m (P := Tryz.prog) (fn := Tryz.f119) hF hok (by simp [fnsM, finM, Rs.bind, tq1, hm2]) ⟨rfl, ⟨_, rfl, zl⟩, trivial⟩
  have hs2 := (fro_split _ _ _ _ _ _).of hm2
  have hp2 := hp.suf hs2
  have hn2 := Nat.le_trans hs2.le hn
  apply rgB hB TA_ok [] [0] [(6, .x fun x => ⟨unitV, [(0, runC J (x.A 0) (x.c 0) p2)], []⟩)] hF
  ·intro A X; conv => lhs; cbv
  ·intro X; subst hB; simp only [AO, Ob.holds, BE.den] <;> (and_intros <;> repeat first | trivial | rfl | exact enters157 | exact S2.ok hm2 | refine ⟨?_, ?_⟩ | intro h)
  intro X2 a0 w1 hF
  refine (ret_mm (fn := Tryz.f119) TA_ok hF (rs := []) rfl (rfl) ?_ ((X2 6).A 0) ((X2 6).c 0) (v := ()) (q := p2) (by simp [fnsM, finM, Rs.bind, tq1, hm2]) ?_ ?_).2
  ·subst hB; simp [AO, Ob.holds]
  ·subst hB; exact zr
  subst hB; exact ⟨rfl, ⟨_, rfl, zl⟩, trivial⟩
 have tq1 : gk g 3 = false := by rw [← hq1]; exact hb
 apply wp_seq
 apply rgB hB TA_ok [17, 0, 4, 5] [0, 4, 5] [] hF
 ·intro A X; conv => lhs; cbv
 ·intro X; subst hB; simp [AO, Ob.holds, BE.den, std, sC, sAr] <;> omega
 intro X3 a0 w1 hF
 apply test_ok hF rfl <;> intro hb hF
 ·have t2 : l.len < 64 := by subst hB; simpa [std, sC] using hb
  have S4 := mrg_m 0 b J hJ A c p hp hn l hl g.ver n hth hf
  rcases hm4 : mrgM J.bucket J.budget n (thwM J.bucket J.budget n) l g.ver p with ⟨v4, p4⟩ | ⟨w4, p4⟩
  rotate_left
  ·refine wp_region_lit ?_
   apply list_preB 0 4 hB TA_ok [21, 22, 24] [0] [] hF
   ·intro A X; conv => lhs; cbv
   ·intro X; subst hB; first | exact trivial | (repeat (first | exact trivial | refine ⟨rfl, ?_⟩))
   intro X4_t a0 w1 hF
   refine man_outT rfl rfl rfl rfl hF rfl rfl enters158 (S4.stop hm4) (by subst hB; exact zl) (mem1 rfl) rfl rfl ?_
   intro x w' hF hok
   exact thr_m (P := Tryz.prog) (fn := Tryz.f119) hF hok (by simp [fnsM, finM, Rs.bind, tq1, t2, hm4]) ⟨rfl, ⟨_, rfl, zl⟩, trivial⟩
  have hs4 := (fro_mrg _ _ _ _ (fro_thw _ _ _) _ _ _).of hm4
  have hp4 := hp.suf hs4
  have hn4 := Nat.le_trans hs4.le hn
  apply rgB hB TA_ok [] [0] [(4, .x fun x => ⟨unitV, [(0, runC J (x.A 0) (x.c 0) p4)], []⟩)] hF
  ·intro A X; conv => lhs; cbv
  ·intro X; subst hB; simp only [AO, Ob.holds, BE.den] <;> (and_intros <;> repeat first | trivial | rfl | exact enters158 | exact S4.ok hm4 | refine ⟨?_, ?_⟩ | intro h)
  intro X4 a0 w1 hF
  refine (ret_mm (fn := Tryz.f119) TA_ok hF (rs := []) rfl (rfl) ?_ ((X4 4).A 0) ((X4 4).c 0) (v := ()) (q := p4) (by simp [fnsM, finM, Rs.bind, tq1, t2, hm4]) ?_ ?_).2
  ·subst hB; simp [AO, Ob.holds]
  ·subst hB; exact zr
  subst hB; exact ⟨rfl, ⟨_, rfl, zl⟩, trivial⟩
 have t2 : ¬ l.len < 64 := by subst hB; simpa [std, sC] using hb
 refine wp_skip ?_
 refine (ret_mm (fn := Tryz.f119) TA_ok hF (rs := []) rfl (rfl) ?_ A c (v := ()) (q := p) (by simp [fnsM, finM, Rs.bind, tq1, t2]) ?_ ?_).2
 ·subst hB; simp [AO, Ob.holds]
 ·subst hB; exact zr
 subst hB; exact ⟨rfl, ⟨_, rfl, zl⟩, trivial⟩
theorem fin_m (k0 b : Nat) (J : JobA) (hJ : JobOk J) (A : Option Addr) (c : Nat) (p : Pst) (hp : PstOk p) (hn : p.n ≤ 1000000) (l : Lab) (hl : LOk l) (g : GotA) (hg : GotOk g) (n : Nat) (hth : ThC n) (hf : p.n < n) : RunS 119 k0 b J A c p [labAV l, gotV g] (fun _ => unitV) (fnsM J.bucket J.budget n l g p) := RunS.re (fin_m0 b J hJ A c p hp hn l hl g hg n hth hf) (by repeat (first | exact trivial | refine ⟨zr, ?_⟩))
theorem thw_m0 (b : Nat) (J : JobA) (hJ : JobOk J) (A : Option Addr) (c : Nat) (p : Pst) (hp : PstOk p) (hn : p.n ≤ 1000000) (l : Lab) (hl : LOk l) (n : Nat) (hfin : ∀ j, j < n → FinC j) (hf : p.n < n) : RunS 120 0 b J A c p [labAV l] (fun _ => unitV) (thwM J.bucket J.budget n l p) := by
 intro m w hm hargs hpre
 have SP := par_s l hl.u
 have hpar := hl.par
 simp only [labAV] at SP
 obtain ⟨up, hup⟩ := eqv (parV l)
 rw [← hup] at SP hpar
 obtain ⟨ue, hue⟩ := eqv (parE l)
 rw [← hue] at SP
 refine enterX hm hpre hargs Tryz.func120 rfl (by simp [Tryz.ntmps120]) fun a0 hF => ?_
 simp only [Tryz.ntmps120, startT] at hF
 obtain ⟨B, hB⟩ := eqv (std)
 apply wp_seq
 apply rgB hB TA_ok [0, 3] [0, 3] [] hF
 ·intro A X; conv => lhs; cbv
 ·intro X; subst hB; simp [AO, Ob.holds, BE.den, std, sC, sAr] <;> omega
 intro X0 a0 w1 hF
 apply wp_seq
 apply rgB hB TA_ok [0, 3, 4, 5] [0, 3, 4] [(1, .r fun _ => .tup [.agg [.int .i64 up.len, .int .u64 up.bits], .int .i64 ue])] hF
 ·intro A X; conv => lhs; cbv
 ·intro X; subst hB; simp only [AO, Ob.holds, BE.den] <;> (and_intros <;> repeat first | trivial | rfl | exact enters42 | exact SP | refine ⟨?_, ?_⟩ | intro h)
 intro X1 a0 w1 hF
 refine wp_seq (wp_seq ?_)
 apply rgB hB TA_ok [14, 0, 3, 4] [0, 3, 4] [] hF
 ·intro A X; conv => lhs; cbv
 ·intro X; subst hB; simp [AO, Ob.holds, BE.den, std, sC, sAr] <;> omega
 intro X2 a0 w1 hF
 apply test_ok hF rfl <;> intro hb hF
 ·have t0 : ¬ ue = 0 := by subst hB; simpa [std, sC] using hb
  refine wp_ret ?_
  refine (ret_mm (fn := Tryz.f120) TA_ok hF (rs := []) rfl (rfl) ?_ A c (v := ()) (q := p) (by simp [thwM, ← hup, ← hue, Rs.bind, t0]) ?_ ?_).1
  ·subst hB; simp [AO, Ob.holds]
  ·subst hB; exact zr
  subst hB; exact ⟨rfl, ⟨_, rfl, zl⟩, trivial⟩
 have t0 : ue = 0 := by subst hB; simpa [std, sC] using hb
 refine wp_skip ?_
 refine wp_block ?_
 refine loop_pre (ι := Nat × Pst × Option Addr × Nat) (fun q => []) (fun q => [(0, ⟨b, 166, runC J q.2.2.1 q.2.2.2 q.2.1⟩)]) (fun q => []) (fun q => thwL J.bucket J.budget n l up p = thwL J.bucket J.budget q.1 l up q.2.1 ∧ PstOk q.2.1 ∧ q.2.1.n ≤ 1000000 ∧ q.2.1.n < q.1 ∧ q.1 ≤ n) (fun q => q.1) (n, p, A, c) ⟨rfl, hp, hn, hf, Nat.le_refl _⟩ hF ?_
 rintro ⟨nn, p0, A0, c0⟩ ⟨hrun, hp0, hn0, hf0, hnn⟩ a0 w1 hF
 try dsimp only at hrun
 try dsimp only at hp0
 try dsimp only at hn0
 try dsimp only at hf0
 try dsimp only at hnn
 obtain ⟨n2, rfl⟩ : ∃ n2, nn = n2 + 1 := ⟨nn - 1, by omega⟩
 refine wp_block ?_
 apply wp_seq
 have S3 := get_m 0 b J hJ A0 c0 p0 hp0 hn0 l
 rcases hm3 : getM J.budget l p0 with ⟨g3, p3⟩ | ⟨w3, p3⟩
 rotate_left
 ·refine wp_region_lit ?_
  apply list_preB 0 2 hB TA_ok [15, 16] [0] [] hF
  ·intro A X; conv => lhs; cbv
  ·intro X; subst hB; first | exact trivial | (repeat (first | exact trivial | refine ⟨rfl, ?_⟩))
  intro X3_t a0 w1 hF
  refine man_outT rfl rfl rfl rfl hF rfl rfl enters117 (S3.stop hm3) (by subst hB; exact zl) (mem1 rfl) rfl rfl ?_
  intro x w' hF hok
  exact thr_m (P := Tryz.prog) (fn := Tryz.f120) hF hok (by simp [thwM, ← hup, ← hue, Rs.bind, t0, hrun, thwL_succ, hm3]) ⟨rfl, ⟨_, rfl, zl⟩, trivial⟩
 have hs3 := (fro_get _ _ _).of hm3
 have hp3 := hp0.suf hs3
 have hn3 := Nat.le_trans hs3.le hn0
 have hl3 := get_lt hm3
 have hg3 := hp0.get hm3
 apply rgB hB TA_ok [0, 3, 4, 6] [0, 3, 4, 6] [(2, .x fun x => ⟨gotV g3, [(0, runC J (x.A 0) (x.c 0) p3)], []⟩)] hF
 ·intro A X; conv => lhs; cbv
 ·intro X; subst hB; simp only [AO, Ob.holds, BE.den] <;> (and_intros <;> repeat first | trivial | rfl | exact enters117 | exact S3.ok hm3 | refine ⟨?_, ?_⟩ | intro h)
 intro X3 a0 w1 hF
 refine wp_seq (wp_seq ?_)
 obtain ⟨q4, hq4⟩ := eqv (gk g3 5)
 apply rgB hB TA_ok [21, 0, 3, 4, 6] [0, 3, 4, 6] [(2, .r fun _ => .bool (.v q4))] hF
 ·intro A X; conv => lhs; cbv
 ·intro X; subst hB; simp only [AO, Ob.holds, BE.den] <;> (and_intros <;> repeat first | trivial | rfl | exact enters118 | exact (by rw [hq4]; exact is1_s g3 _ _ 5 _ rfl) | exact by rw [hq4]; exact is1_s g3 _ _ 5 _ rfl | refine ⟨?_, ?_⟩ | intro h)
 intro X4 a0 w1 hF
 apply test_ok hF rfl <;> intro hb hF
 ·have tq4 : gk g3 5 = false := by subst hB; rw [← hq4]; revert hb; cases q4 <;> simp [std]
  refine wp_ret ?_
  refine (ret_mm (fn := Tryz.f120) TA_ok hF (rs := []) rfl (rfl) ?_ ((X3 2).A 0) ((X3 2).c 0) (v := ()) (q := p3) (by simp [thwM, ← hup, ← hue, Rs.bind, t0, hrun, thwL_succ, hm3, tq4]) ?_ ?_).1
  ·subst hB; simp [AO, Ob.holds]
  ·subst hB; exact zr
  subst hB; exact ⟨rfl, ⟨_, rfl, zl⟩, trivial⟩
 have tq4 : gk g3 5 = true := by subst hB; rw [← hq4]; revert hb; cases q4 <;> simp [std]
 refine wp_skip ?_
 apply wp_seq
 have S5 := get_m 0 b J hJ ((X3 2).A 0) ((X3 2).c 0) p3 hp3 hn3 up
 rcases hm5 : getM J.budget up p3 with ⟨g5, p5⟩ | ⟨w5, p5⟩
 rotate_left
 ·refine wp_region_lit ?_
  apply list_preB 0 2 hB TA_ok [22, 23] [0] [] hF
  ·intro A X; conv => lhs; cbv
  ·intro X; subst hB; first | exact trivial | (repeat (first | exact trivial | refine ⟨rfl, ?_⟩))
  intro X5_t a0 w1 hF
  refine man_outT rfl rfl rfl rfl hF rfl rfl enters117 (S5.stop hm5) (by subst hB; exact zl) (mem1 rfl) rfl rfl ?_
  intro x w' hF hok
  exact thr_m (P := Tryz.prog) (fn := Tryz.f120) hF hok (by simp [thwM, ← hup, ← hue, Rs.bind, t0, hrun, thwL_succ, hm3, tq4, hm5]) ⟨rfl, ⟨_, rfl, zl⟩, trivial⟩
 have hs5 := (fro_get _ _ _).of hm5
 have hp5 := hp3.suf hs5
 have hn5 := Nat.le_trans hs5.le hn3
 have hl5 := get_lt hm5
 have hg5 := hp3.get hm5
 apply rgB hB TA_ok [0, 3, 4, 6, 7] [0, 3, 4, 6, 7] [(2, .x fun x => ⟨gotV g5, [(0, runC J (x.A 0) (x.c 0) p5)], []⟩)] hF
 ·intro A X; conv => lhs; cbv
 ·intro X; subst hB; simp only [AO, Ob.holds, BE.den] <;> (and_intros <;> repeat first | trivial | rfl | exact enters117 | exact S5.ok hm5 | refine ⟨?_, ?_⟩ | intro h)
 intro X5 a0 w1 hF
 refine wp_seq (wp_seq ?_)
 obtain ⟨q6, hq6⟩ := eqv ((gk g5 3 || gk g5 4))
 apply rgB hB TA_ok [27, 0, 3, 4, 6, 7] [0, 3, 4, 6, 7, 26] [(2, .r fun _ => .bool (.v q6))] hF
 ·intro A X; conv => lhs; cbv
 ·intro X; subst hB; simp only [AO, Ob.holds, BE.den] <;> (and_intros <;> repeat first | trivial | rfl | exact enters118 | exact (by rw [hq6]; exact is2_s g5 _ _ 3 4 _ rfl rfl) | exact by rw [hq6]; exact is2_s g5 _ _ 3 4 _ rfl rfl | refine ⟨?_, ?_⟩ | intro h)
 intro X6 a0 w1 hF
 apply test_ok hF rfl <;> intro hb hF
 ·have tq6 : (gk g5 3 || gk g5 4) = true := by rw [← hq6]; exact hb
  have S7 := hfin n2 (by omega) 0 b J hJ ((X5 2).A 0) ((X5 2).c 0) p5 hp5 hn5 up hpar g5 hg5 (by have := hl3; have := hl5; omega)
  rcases hm7 : fnsM J.bucket J.budget n2 up g5 p5 with ⟨v7, p7⟩ | ⟨w7, p7⟩
  rotate_left
  ·refine wp_region_lit ?_
   apply list_preB 0 3 hB TA_ok [28, 29, 30] [0] [] hF
   ·intro A X; conv => lhs; cbv
   ·intro X; subst hB; first | exact trivial | (repeat (first | exact trivial | refine ⟨rfl, ?_⟩))
   intro X7_t a0 w1 hF
   refine man_outT rfl rfl rfl rfl hF rfl rfl enters119 (S7.stop hm7) (by subst hB; exact zl) (mem1 rfl) rfl rfl ?_
   intro x w' hF hok
   exact thr_m (P := Tryz.prog) (fn := Tryz.f120) hF hok (by simp [thwM, ← hup, ← hue, Rs.bind, t0, hrun, thwL_succ, hm3, tq4, hm5, tq6, hm7]) ⟨rfl, ⟨_, rfl, zl⟩, trivial⟩
  have hs7 := (fro_fns _ _ _ _ _ _).of hm7
  have hp7 := hp5.suf hs7
  have hn7 := Nat.le_trans hs7.le hn5
  apply rgB hB TA_ok [0, 3, 4, 6, 7] [0, 3, 4, 6, 7] [(3, .x fun x => ⟨unitV, [(0, runC J (x.A 0) (x.c 0) p7)], []⟩)] hF
  ·intro A X; conv => lhs; cbv
  ·intro X; subst hB; simp only [AO, Ob.holds, BE.den] <;> (and_intros <;> repeat first | trivial | rfl | exact enters119 | exact S7.ok hm7 | refine ⟨?_, ?_⟩ | intro h)
  intro X7 a0 w1 hF
  apply wp_seq
  rcases Bool.eq_false_or_eq_true (gk g5 2) with t8 | t8
  ·have S8 := cas_m 0 b J hJ ((X7 3).A 0) ((X7 3).c 0) p7 hp7 hn7 l g3.ver (asR 1 g3.x 0)
   rcases hm8 : casM J.budget l g3.ver (asR 1 g3.x 0).r.abs p7 with ⟨d8, p8⟩ | ⟨w8, p8⟩
   rotate_left
   ·apply drawn3_okB hB 12 none handOK_none (by kernel_rfl) TA_ok [36, 37, 38, 40, 43] [0] [(2, .r fun _ => .bool .tt), (11, .r fun _ => recV (asR 1 g3.x 0))] hF rfl
    case hex => intro A X; conv => lhs; cbv
    case hD => kernel_rfl
    case hZ => kernel_rfl
    case hlen => rfl
    case hob =>
     intro X
     subst hB
     simp only [AO, Ob.holds, BE.den] <;> (and_intros <;> repeat first | trivial | rfl | exact enters118 | exact ((is1_s g5 _ _ 2 _ rfl).res fun _ => Sim.bool (by rw [t8]; rfl)) | exact enters160 | exact as_s 1 g3.x 0 | refine ⟨?_, ?_⟩ | intro h)
    case hQ =>
    intro X8_t a0 w1 hF
    refine man_outT rfl rfl rfl rfl hF rfl rfl enters159 (S8.stop hm8) (by subst hB; exact zl) (mem1 rfl) rfl rfl ?_
    intro x w' hF hok
    exact thr_m (P := Tryz.prog) (fn := Tryz.f120) hF hok (by simp [thwM, ← hup, ← hue, Rs.bind, t0, hrun, thwL_succ, hm3, tq4, hm5, tq6, hm7, t8, hm8]) ⟨rfl, ⟨_, rfl, zl⟩, trivial⟩
   have hs8 := (fro_cas _ _ _ _ _).of hm8
   have hp8 := hp7.suf hs8
   have hn8 := Nat.le_trans hs8.le hn7
   apply drB hB (by kernel_rfl) TA_ok [45, 0, 3, 4] [0, 3, 4] [(2, .r fun _ => .bool .tt), (11, .r fun _ => recV (asR 1 g3.x 0)), (12, .x fun x => ⟨.bool (.v d8), [(0, runC J (x.A 0) (x.c 0) p8)], []⟩)] hF rfl
   case hex => intro A X; conv => lhs; cbv
   case hD => kernel_rfl
   case hlen => rfl
   case hob =>
    intro X
    subst hB
    simp only [AO, Ob.holds, BE.den] <;> (and_intros <;> repeat first | trivial | rfl | exact enters118 | exact ((is1_s g5 _ _ 2 _ rfl).res fun _ => Sim.bool (by rw [t8]; rfl)) | exact enters160 | exact as_s 1 g3.x 0 | exact enters159 | exact S8.ok hm8 | refine ⟨?_, ?_⟩ | intro h)
   case hQ =>
   intro X8 a0 w1 hF
   apply test_ok hF rfl <;> intro hb hF
   ·have t9 : d8 = true := by exact hb
    refine wp_ret ?_
    refine (ret_mm (fn := Tryz.f120) TA_ok hF (rs := []) rfl (rfl) ?_ ((X8 12).A 0) ((X8 12).c 0) (v := ()) (q := p8) (by simp [thwM, ← hup, ← hue, Rs.bind, t0, hrun, thwL_succ, hm3, tq4, hm5, tq6, hm7, t8, hm8, t9]) ?_ ?_).1
    ·subst hB; simp [AO, Ob.holds]
    ·subst hB; exact zr
    subst hB; exact ⟨rfl, ⟨_, rfl, zl⟩, trivial⟩
   have t9 : d8 = false := by exact hb
   refine wp_skip ?_
   replace hF := hF.keep [0, 3, 4] [0, 3, 4]
   exact ⟨(n2, p8, _, _), ⟨by rw [hrun]; simp [thwL_succ, Rs.bind, t0, hrun, thwL_succ, hm3, tq4, hm5, tq6, hm7, t8, hm8, t9], hp8, hn8, by dsimp only; have := hl3; have := hs5.le; have := hs7.le; have := hs8.le; have := hf0; omega, by dsimp only; omega⟩, by simp only; omega, hF⟩
  apply drB hB (by kernel_rfl) TA_ok [45, 0, 3, 4] [0, 3, 4] [(2, .r fun _ => .bool .ff)] hF rfl
  case hex => intro A X; conv => lhs; cbv
  case hD => kernel_rfl
  case hlen => rfl
  case hob =>
   intro X
   subst hB
   simp only [AO, Ob.holds, BE.den] <;> (and_intros <;> repeat first | trivial | rfl | exact enters118 | exact ((is1_s g5 _ _ 2 _ rfl).res fun _ => Sim.bool (by rw [t8]; rfl)) | exact enters160 | exact as_s 1 g3.x 0 | refine ⟨?_, ?_⟩ | intro h)
  case hQ =>
  intro X8 a0 w1 hF
  refine test_tt hF rfl (fun hF => ?_)
  refine wp_ret ?_
  refine (ret_mm (fn := Tryz.f120) TA_ok hF (rs := []) rfl (rfl) ?_ ((X7 3).A 0) ((X7 3).c 0) (v := ()) (q := p7) (by simp [thwM, ← hup, ← hue, Rs.bind, t0, hrun, thwL_succ, hm3, tq4, hm5, tq6, hm7, t8]) ?_ ?_).1
  ·subst hB; simp [AO, Ob.holds]
  ·subst hB; exact zr
  subst hB; exact ⟨rfl, ⟨_, rfl, zl⟩, trivial⟩
 have tq6 : (gk g5 3 || gk g5 4) = false := by rw [← hq6]; exact hb
 refine wp_skip ?_
 apply wp_seq
 rcases Bool.eq_false_or_eq_true (gk g5 2) with t8 | t8
 ·have S8 := cas_m 0 b J hJ ((X5 2).A 0) ((X5 2).c 0) p5 hp5 hn5 l g3.ver (asR 1 g3.x 0)
  rcases hm8 : casM J.budget l g3.ver (asR 1 g3.x 0).r.abs p5 with ⟨d8, p8⟩ | ⟨w8, p8⟩
  rotate_left
  ·apply drawn3_okB hB 12 none handOK_none (by kernel_rfl) TA_ok [36, 37, 38, 40, 43] [0] [(2, .r fun _ => .bool .tt), (11, .r fun _ => recV (asR 1 g3.x 0))] hF rfl
   case hex => intro A X; conv => lhs; cbv
   case hD => kernel_rfl
   case hZ => kernel_rfl
   case hlen => rfl
   case hob =>
    intro X
    subst hB
    simp only [AO, Ob.holds, BE.den] <;> (and_intros <;> repeat first | trivial | rfl | exact enters118 | exact ((is1_s g5 _ _ 2 _ rfl).res fun _ => Sim.bool (by rw [t8]; rfl)) | exact enters160 | exact as_s 1 g3.x 0 | refine ⟨?_, ?_⟩ | intro h)
   case hQ =>
   intro X8_t a0 w1 hF
   refine man_outT rfl rfl rfl rfl hF rfl rfl enters159 (S8.stop hm8) (by subst hB; exact zl) (mem1 rfl) rfl rfl ?_
   intro x w' hF hok
   exact thr_m (P := Tryz.prog) (fn := Tryz.f120) hF hok (by simp [thwM, ← hup, ← hue, Rs.bind, t0, hrun, thwL_succ, hm3, tq4, hm5, tq6, t8, hm8]) ⟨rfl, ⟨_, rfl, zl⟩, trivial⟩
  have hs8 := (fro_cas _ _ _ _ _).of hm8
  have hp8 := hp5.suf hs8
  have hn8 := Nat.le_trans hs8.le hn5
  apply drB hB (by kernel_rfl) TA_ok [45, 0, 3, 4] [0, 3, 4] [(2, .r fun _ => .bool .tt), (11, .r fun _ => recV (asR 1 g3.x 0)), (12, .x fun x => ⟨.bool (.v d8), [(0, runC J (x.A 0) (x.c 0) p8)], []⟩)] hF rfl
  case hex => intro A X; conv => lhs; cbv
  case hD => kernel_rfl
  case hlen => rfl
  case hob =>
   intro X
   subst hB
   simp only [AO, Ob.holds, BE.den] <;> (and_intros <;> repeat first | trivial | rfl | exact enters118 | exact ((is1_s g5 _ _ 2 _ rfl).res fun _ => Sim.bool (by rw [t8]; rfl)) | exact enters160 | exact as_s 1 g3.x 0 | exact enters159 | exact S8.ok hm8 | refine ⟨?_, ?_⟩ | intro h)
  case hQ =>
  intro X8 a0 w1 hF
  apply test_ok hF rfl <;> intro hb hF
  ·have t9 : d8 = true := by exact hb
   refine wp_ret ?_
   refine (ret_mm (fn := Tryz.f120) TA_ok hF (rs := []) rfl (rfl) ?_ ((X8 12).A 0) ((X8 12).c 0) (v := ()) (q := p8) (by simp [thwM, ← hup, ← hue, Rs.bind, t0, hrun, thwL_succ, hm3, tq4, hm5, tq6, t8, hm8, t9]) ?_ ?_).1
   ·subst hB; simp [AO, Ob.holds]
   ·subst hB; exact zr
   subst hB; exact ⟨rfl, ⟨_, rfl, zl⟩, trivial⟩
  have t9 : d8 = false := by exact hb
  refine wp_skip ?_
  replace hF := hF.keep [0, 3, 4] [0, 3, 4]
  exact ⟨(n2, p8, _, _), ⟨by rw [hrun]; simp [thwL_succ, Rs.bind, t0, hrun, thwL_succ, hm3, tq4, hm5, tq6, t8, hm8, t9], hp8, hn8, by dsimp only; have := hl3; have := hs5.le; have := (Suf.refl p5).le; have := hs8.le; have := hf0; omega, by dsimp only; omega⟩, by simp only; omega, hF⟩
 apply drB hB (by kernel_rfl) TA_ok [45, 0, 3, 4] [0, 3, 4] [(2, .r fun _ => .bool .ff)] hF rfl
 case hex => intro A X; conv => lhs; cbv
 case hD => kernel_rfl
 case hlen => rfl
 case hob =>
  intro X
  subst hB
  simp only [AO, Ob.holds, BE.den] <;> (and_intros <;> repeat first | trivial | rfl | exact enters118 | exact ((is1_s g5 _ _ 2 _ rfl).res fun _ => Sim.bool (by rw [t8]; rfl)) | exact enters160 | exact as_s 1 g3.x 0 | refine ⟨?_, ?_⟩ | intro h)
 case hQ =>
 intro X8 a0 w1 hF
 refine test_tt hF rfl (fun hF => ?_)
 refine wp_ret ?_
 refine (ret_mm (fn := Tryz.f120) TA_ok hF (rs := []) rfl (rfl) ?_ ((X5 2).A 0) ((X5 2).c 0) (v := ()) (q := p5) (by simp [thwM, ← hup, ← hue, Rs.bind, t0, hrun, thwL_succ, hm3, tq4, hm5, tq6, t8]) ?_ ?_).1
 ·subst hB; simp [AO, Ob.holds]
 ·subst hB; exact zr
 subst hB; exact ⟨rfl, ⟨_, rfl, zl⟩, trivial⟩
theorem thw_m (k0 b : Nat) (J : JobA) (hJ : JobOk J) (A : Option Addr) (c : Nat) (p : Pst) (hp : PstOk p) (hn : p.n ≤ 1000000) (l : Lab) (hl : LOk l) (n : Nat) (hfin : ∀ j, j < n → FinC j) (hf : p.n < n) : RunS 120 k0 b J A c p [labAV l] (fun _ => unitV) (thwM J.bucket J.budget n l p) := RunS.re (thw_m0 b J hJ A c p hp hn l hl n hfin hf) (by repeat (first | exact trivial | refine ⟨zr, ?_⟩))
theorem th_fin : ∀ n, ThC n ∧ FinC n := by
 intro n
 induction n using Nat.strongRecOn with
 | _ n ih =>
  have h1 : ThC n := fun k0 b J hJ A c p hp hn l hl hf => thw_m k0 b J hJ A c p hp hn l hl n (fun j hj => (ih j hj).2) hf
  exact ⟨h1, fun k0 b J hJ A c p hp hn l hl g hg hf => fin_m k0 b J hJ A c p hp hn l hl g hg n h1 hf⟩
theorem thw_c (n : Nat) : ThC n := (th_fin n).1
theorem fin_c (n : Nat) : FinC n := (th_fin n).2
end Go.Proofs.YtikkeibmjppboaaGreat.Sym
namespace Go.Proofs.YtikkeibmjppboaaGreat.Sym
open Go.RowKit
theorem Sim.of_eq {v v' : AV} (h : v = v') : Sim v v' := h ▸ Sim.refl v
inductive Rcv : FrameMode → FrameMode → AV → Prop
 | no : Rcv .returning .returning .nili
 | yes (t : Nat) (v : AV) : Rcv (.panicking [{ v := .iface t v.den, recovered := false }]) (.panicking [{ v := .iface t v.den, recovered := true }]) (.ifc t v)
def SpecU (P : Program) (f : FuncId) (u u' : FrameMode) (x : AV) (args : List AV) (pre : List (Nat × Blk)) (res : Atom → CR) : Prop :=
 ∀ (m : Nat → Nat → Prop) (w : World), (∀ b o, m b o → b < w.heap.size) → (∀ v ∈ args, Ok m w v) → PreOk m w pre → Ok m w x → CallsD P f (args.map AV.den).toArray u w fun e um w' => um = u' ∧ XPost m w pre res e w'
section
variable {P : Program}
theorem body_mono {fn : Func} {c₀ : Frame} {cs : List Frame} {U : FrameMode} {R : Ending → World → Prop} {e : Exit} {a : Act} {w : World} (h : bodyPost P fn R e a w) : bodyPostS P fn c₀ cs (fun e u w => u = U ∧ R e w) e a ({ c₀ with mode := U } :: cs) w := by
 cases e with
 | normal => obtain ⟨h1, v, h2, h3⟩ := h; exact ⟨h1, U, rfl, v, h2, rfl, h3⟩
 | ret => obtain ⟨h1, v, h2, h3⟩ := h; exact ⟨h1, U, rfl, v, h2, rfl, h3⟩
 | panic ch => obtain ⟨h1, h2⟩ := h; exact ⟨h1, U, rfl, rfl, h2⟩
 | outgrown => exact ⟨U, rfl, h⟩
 | exit id => exact h.elim
 | goto l => exact h.elim
theorem enterRec {u u' : FrameMode} {x : AV} (hr : Rcv u u' x) {m : Nat → Nat → Prop} {w : World} {pre : List (Nat × Blk)} (hm : ∀ b o, m b o → b < w.heap.size) (hp : PreOk m w pre) {args : List AV} (hargs : ∀ v ∈ args, Ok m w v) (hx : Ok m w x) {f : FuncId} {fn : Func} {id : Nat} {o : Oper} {rest after : Code} {ts : Array TypeId} {d : Nat} {R : Ending → World → Prop}
  (hf : P.funcs[f]? = some fn) {ops : Array Oper} (hbd : fn.body = some (.seq (.seq (.region id ops false) rest) after)) (hops : ops = #[o]) (ho : o.op = .call (Call.mk (.builtin .recover) #[] ts)) (hg : o.guard = none) (hd : o.dst = some d) (hn : args.length ≤ fn.ntmps) (hdn : d < fn.ntmps)
  (h : ∀ a, Fits ⟨m, w, ats pre, [], noK⟩ (St.put ⟨fn.ntmps, startT 0 args, [], pre, []⟩ (some d) x) a w → rest.wp P (Exit.then (after.wp P (bodyPost P fn R)) (bodyPost P fn R)) a w) : CallsD P f (args.map AV.den).toArray u w fun e um w' => um = u' ∧ R e w' := by
 subst hops
 refine callsD_of_wpS hf hbd fun c₀ cs hu => ?_
 apply wpS_seq
 apply wpS_seq
 apply wpS_region
 have h0 := enterFits hm hp hargs hn
 have mono : Ok (St.m ⟨fn.ntmps, startT 0 args, [], pre, []⟩ ⟨m, w, ats pre, [], noK⟩) w x := hx.mono fun b' o u h1 h2 => ⟨h1, fun h => by
  rcases h with h | ⟨k, e, he, hat⟩ | ⟨k, e, he, _⟩
  ·exact h2 h
  ·exact h2 (hat ▸ hp.free _ (lookM_mem he) o)
  cases he⟩
 have h1 := h0.put (some d) (fun t ht => by injection ht with ht; subst ht; exact hdn) x (fun _ => mono) x.den (fun _ => rfl)
 have h2 := h _ h1
 have hrun : ∀ a : Act, (execOp a.eval o).run P w = .ok .recover w := by
  intro a
  simp [execOp, ho, resolve, invoke, builtin]
 have hrg : List.range (#[o] : Array Oper).size = [0] := rfl
 rw [hrg]
 have hw : ∀ tm : Array Value, Region.wanted o (yielded #[o] tm) = true := by intro tm; simp [Region.wanted, hg]
 have fin1 : ∀ a w, after.wp P (bodyPost P fn R) a w → after.wpS P (bodyPostS P fn c₀ cs (fun e um w' => um = u' ∧ R e w')) a ({ c₀ with mode := u' } :: cs) w := fun a w ha => wpS_of_wp (Code.wp_mono (fun e a w hb => body_mono hb) ha)
 have fin : ∀ a, rest.wp P (Exit.then (after.wp P (bodyPost P fn R)) (bodyPost P fn R)) a w → rest.wpS P (Exit.thenS (after.wpS P (bodyPostS P fn c₀ cs (fun e um w' => um = u' ∧ R e w'))) (bodyPostS P fn c₀ cs (fun e um w' => um = u' ∧ R e w'))) a ({ c₀ with mode := u' } :: cs) w := fun a ha => wpS_of_wp (Code.wp_mono (fun e a w hb => by
  cases e with
  | normal => exact fin1 a w hb
  | ret => exact body_mono (P := P) (fn := fn) (c₀ := c₀) (cs := cs) (a := a) (w := w) (U := u') (R := R) (e := .ret) hb
  | panic ch => exact body_mono (P := P) (fn := fn) (c₀ := c₀) (cs := cs) (a := a) (w := w) (U := u') (R := R) (e := .panic ch) hb
  | outgrown => exact body_mono (P := P) (fn := fn) (c₀ := c₀) (cs := cs) (a := a) (w := w) (U := u') (R := R) (e := .outgrown) hb
  | exit id => exact body_mono (P := P) (fn := fn) (c₀ := c₀) (cs := cs) (a := a) (w := w) (U := u') (R := R) (e := .exit id) hb
  | goto l => exact body_mono (P := P) (fn := fn) (c₀ := c₀) (cs := cs) (a := a) (w := w) (U := u') (R := R) (e := .goto l) hb) ha)
 have hsz : (args.map AV.den).toArray.size = args.length := by simp
 have hact : ({ tmps := (args.map AV.den).toArray ++ Array.replicate (fn.ntmps - (args.map AV.den).toArray.size) undef, defers := [] } : Act) = { tmps := (args.map AV.den).toArray ++ Array.replicate (fn.ntmps - args.length) undef, defers := [] } := by rw [hsz]
 rw [hact]
 cases hr with
 | no =>
  have hrec : recoverD (c₀ :: cs) = none := by simp [recoverD, hu]
  have hc : ({ c₀ with mode := .returning } : Frame) = c₀ := by rw [← hu]
  have := fin _ h2
  rw [hc] at this
  simpa [wpOpsS, hw, hrun, hrec, hd, Exit.thenS, AV.den] using this
 | yes t v =>
  have hrec : recoverD (c₀ :: cs) = some (.iface t v.den, { c₀ with mode := .panicking [{ v := .iface t v.den, recovered := true }] } :: cs) := by simp [recoverD, hu]
  have := fin _ h2
  simpa [wpOpsS, hw, hrun, hrec, hd, Exit.thenS, AV.den] using this
variable {C : Cx}
theorem leave_u {s : St} {a : Act} {w : World} {fn : Func} {R : Ending → World → Prop} {u u1 : FrameMode} {f : FuncId} {l r : List AV} {ds : List Deferred} {x : AV} (h : Fits ⟨C.m0, C.w0, C.S, { target := .fn (.func f) (AV.denL r).toArray, args := (AV.denL l).toArray } :: ds, C.K⟩ s a w) (hu : u ≠ .run) (hen : Enters P f)
  {pre : List (Nat × Blk)} {sets : List (Nat × List AV)} {v : AV} (hsp : SpecU P f u u1 x (l ++ r) pre (fun _ => ⟨v, sets, []⟩)) (hok : ∀ v ∈ l ++ r, Ok (s.m C) w v) (hx : Ok (s.m C) w x) (hpre : ∀ e ∈ pre, lookM s.mem e.1 = some e.2) (hnd : nodupB pre = true)
  (K : ∀ w', Fits ⟨C.m0, C.w0, C.S, ds, C.K⟩ (s.eff (.sets (upd pre sets))) { tmps := a.tmps, defers := ds } w' → Leaves P fn a.tmps R ds (settle u1) w') : Leaves P fn a.tmps R a.defers u w := by
 have hlt : ∀ b o, s.m C b o → b < w.heap.size := m_lt (C := ⟨C.m0, C.w0, C.S, { target := .fn (.func f) (AV.denL r).toArray, args := (AV.denL l).toArray } :: ds, C.K⟩) h
 refine leave_step h hu hen hpre hnd (fun hp => (hsp (s.m C) w hlt hok hp hx).mono ?_) K
 rintro e u' w' ⟨rfl, x, rfl, _, hl⟩
 exact ⟨⟨_, rfl⟩, rfl, hl⟩
end
section
variable {C : Cx} {P : Program} {Q : Exit → Act → World → Prop} {ops : Array Oper}
theorem man_tassert {s : St} {a : Act} {w : World} {L rest : List Oper} {o : Oper} {x : Operand} {ti t d : Nat} {v : AV} {dd : TypeDesc} (hL : L = o :: rest) (hg : o.guard = none) (hop : o.op = .typeAssert x ti t true) (hdst : o.dst = some d) (h : Fits C s a w) (hd : d < s.nt) (hx : val s [] x = .ifc t v) (hu : P.underlying t = some dd) (hni : ∀ ms, dd ≠ .interface ms)
  (K : ∀ a', Fits C (s.put (some d) (.tup [v, .bool .tt])) a' w → wpList P ops Q rest a' w) : wpList P ops Q L a w := by
 have hxv := val_ok h (q := []) (fun _ h => by cases h) (x := x) (by rw [hx]; rfl)
 rw [hx] at hxv
 have hok : Ok (s.m C) w v := by cases hxv.2 with | ifc _ _ h => exact h
 refine man_val hL hg hdst h hd (v := .tup [v, .bool .tt]) ?_ (.tup _ (fun y hy => ?_)) K
 ·have e : a.eval x = .iface t v.den := hxv.1
  simp only [execOp, hop, e, AV.den, AV.denL, BE.den]
  cases dd <;> first | exact absurd rfl (hni _) | simp [Instr.typeAssert, run_underlying hu]
 simp only [List.mem_cons, List.not_mem_nil, or_false] at hy
 rcases hy with rfl | rfl
 ·exact hok
 exact .bool _
end
end Go.Proofs.YtikkeibmjppboaaGreat.Sym
namespace Go.Proofs.YtikkeibmjppboaaGreat.Sym
open Go Go.RowKit
def btw (v lo hi : Int) : Bool := decide (lo ≤ v) && decide (v ≤ hi)
def isJobB (J : JobA) : Bool := btw J.bucket 1 16 && btw J.budget 0 2000 && btw J.how 1 2 && btw J.most 0 500 && decide ((J.pn : Int) ≤ 500) && isL J.lab
def isGotB (g : GotA) : Bool := (decide (g.code = 0) || decide (g.code = 8)) && (if g.has = true then isRF g.x.r.kd g.x.r.n g.x.r.f g.x.r.nx g.x.r.mrk else decide (g.x.r.kd = 0) && decide (g.x.r.n = 0) && decide (g.x.r.nx = ⟨0, 0⟩) && decide (g.x.r.mrk = 0))
def allGot (n : Nat) (f : Nat → GotA) : Bool := (List.range n).all fun j => isGotB (f j)
theorem allGot_no {n j : Nat} {f : Nat → GotA} (hj : j < n) (h : isGotB (f j) = false) : allGot n f = false := by
 rw [Bool.eq_false_iff]
 intro h2
 have := List.all_eq_true.1 h2 j (List.mem_range.2 hj)
 rw [h] at this; cases this
theorem allGot_yes {n : Nat} {f : Nat → GotA} (h : ∀ j, j < n → isGotB (f j) = true) : allGot n f = true := List.all_eq_true.2 fun j hj => h j (List.mem_range.1 hj)
theorem allGot_at {n j : Nat} {f : Nat → GotA} (h : allGot n f = true) (hj : j < n) : isGotB (f j) = true := List.all_eq_true.1 h j (List.mem_range.2 hj)
structure InG (g : GotA) : Prop where
 nx : U64 g.x.r.nx.bits
 ver : U64 g.ver
 len : g.x.r.n ≤ maxLen
 key : ∀ i, i < g.x.r.n → U64 (g.x.r.f i).key
theorem got_ok {g : GotA} (h : InG g) (hg : isGotB g = true) : GotOk g := by
 refine ⟨⟨h.nx, h.key, ?_⟩, h.ver⟩
 unfold isGotB at hg
 rw [Bool.and_eq_true] at hg
 obtain ⟨_, h2⟩ := hg
 by_cases hh : g.has = true
 ·rw [if_pos hh] at h2
  exact (isRF_kind h2).2.2.1
 rw [if_neg hh] at h2
 simp only [Bool.and_eq_true, decide_eq_true_eq] at h2
 omega
abbrev gotsV (A : Option Addr) (n c : Nat) (f : Nat → GotA) : AV := .sl none A n c 8 (fun j => gotC (f j))
def nt0 : Nt := ⟨11, false, ⟨#[]⟩⟩
def pst0 (n : Nat) (f : Nat → GotA) : Pst := ⟨n, f, nt0⟩
def JobA.less (J : JobA) (n : Nat) : JobA := { J with budget := J.budget - n }
structure JobIn (J : JobA) : Prop where
 lab : U64 J.lab.bits
 key : U64 J.key
 hi : U64 J.hi
theorem job_ok {J : JobA} {n : Nat} (hJ : JobIn J) (h : isJobB J = true) (hn : n ≤ 900000) : JobOk (J.less n) := by
 unfold isJobB btw at h
 simp only [Bool.and_eq_true, decide_eq_true_eq] at h
 refine ⟨?_, ?_, hJ.lab, hJ.key, hJ.hi⟩
 ·show -1000000 ≤ J.budget - n; omega
 show J.budget - n ≤ 1000000; omega
theorem job_lab {J : JobA} (hJ : JobIn J) (h : isJobB J = true) : LOk J.lab := by
 unfold isJobB at h
 simp only [Bool.and_eq_true] at h
 exact ⟨h.2, hJ.lab⟩
theorem pst_ok {n : Nat} {f : Nat → GotA} (hin : ∀ j, j < n → InG (f j)) (h : allGot n f = true) : PstOk (pst0 n f) := fun j hj => got_ok (hin j hj) (allGot_at h hj)
abbrev rslV (x : Atom) (r : Rsl) : AV := .agg [.int .i64 r.code, .bool (.v r.had), .str r.val, .sl none (x.A 2) r.items.length (x.c 2) 2 (fun i => itC (itF r.items i)), .int .u64 r.key, .bool (.v r.more)]
abbrev rslZ (r : Rsl) : AV := .agg [.int .i64 r.code, .bool (.v r.had), .str r.val, .sl none none 0 0 2 (fun _ => []), .int .u64 r.key, .bool (.v r.more)]
def RunA (f : FuncId) (k0 b : Nat) (J : JobA) (A : Option Addr) (c : Nat) (p : Pst) (args : List AV) (r : Rs Rsl) : Prop :=
 SpecT Tryz.prog f (.ptr k0 b 0 :: args) [(k0, ⟨b, 166, runC J A c p⟩)] (fun x => match r with
  | .ok a p => .ret ⟨rslV x a, [(k0, runC J (x.A 0) (x.c 0) p)], []⟩
  | .stop w p => .thr 58 (wntV (wqA x w)) [(k0, runC J (x.A 0) (x.c 0) p)])
theorem RunS.a {f : FuncId} {k0 b : Nat} {J : JobA} {A : Option Addr} {c : Nat} {p : Pst} {args : List AV} {r : Rs Rsl} (h : RunS f k0 b J A c p args rslZ r) (hr : ∀ a q, r = .ok a q → a.items = []) : RunA f k0 b J A c p args r := by
 intro m w h1 h2 h3
 refine (h m w h1 h2 h3).mono ?_
 rintro e w' ⟨x, hx⟩
 cases r with
 | stop wq q => exact ⟨x, hx⟩
 | ok a q =>
  refine ⟨⟨x.b, fun i => if i = 2 then none else x.A i, fun i => if i = 2 then 0 else x.c i, x.s⟩, ?_⟩
  have hi := hr a q rfl
  obtain ⟨he, hok, hl⟩ := hx
  have hs : Sim (rslZ a) (rslV ⟨x.b, fun i => if i = 2 then none else x.A i, fun i => if i = 2 then 0 else x.c i, x.s⟩ a) := by
   obtain ⟨c1, h1, v1, it, k1, m1⟩ := a
   simp only at hi
   subst hi
   exact Sim.agg ⟨zr, zr, zr, zq0, zr, zr, trivial⟩
  exact ⟨by rw [he]; exact congrArg _ hs.1, hs.2.2 _ _ hok, hl⟩
theorem RunA.ok {f : FuncId} {k0 b : Nat} {J : JobA} {A : Option Addr} {c : Nat} {p q : Pst} {args : List AV} {r : Rs Rsl} {a : Rsl} (h : RunA f k0 b J A c p args r) (e : r = .ok a q) :
  SpecT Tryz.prog f (.ptr k0 b 0 :: args) [(k0, ⟨b, 166, runC J A c p⟩)] (fun x => .ret ⟨rslV x a, [(k0, runC J (x.A 0) (x.c 0) q)], []⟩) := by
 subst e; exact h
theorem RunA.stop {f : FuncId} {k0 b : Nat} {J : JobA} {A : Option Addr} {c : Nat} {p q : Pst} {args : List AV} {r : Rs Rsl} {w : Wq} (h : RunA f k0 b J A c p args r) (e : r = .stop w q) :
  SpecT Tryz.prog f (.ptr k0 b 0 :: args) [(k0, ⟨b, 166, runC J A c p⟩)] (fun x => .thr 58 (wntV (wqA x w)) [(k0, runC J (x.A 0) (x.c 0) q)]) := by
 subst e; exact h
theorem m_sub {s s' : St} {C C' : Cx} (h0 : ∀ b o, C'.m0 b o → C.m0 b o) (h : ∀ x ∈ s'.mem, ∃ k' e', lookM s.mem k' = some e' ∧ e'.at_ = x.2.at_) (hg : s'.gr = []) {b o : Nat} (hh : s'.m C' b o) : s.m C b o := by
 rcases hh with hh | ⟨k, e, he, hat⟩ | ⟨k, t, ht, _⟩
 ·exact .inl (h0 b o hh)
 ·obtain ⟨k', e', h1, h2⟩ := h _ (lookM_mem he)
  exact .inr (.inl ⟨k', e', h1, h2.trans hat⟩)
 rw [hg] at ht; cases ht
theorem RunA.ok' {f : FuncId} {k0 b : Nat} {J : JobA} {A : Option Addr} {c : Nat} {p q : Pst} {args : List AV} {r : Rs Rsl} {a : Rsl} (h : RunA f k0 b J A c p args r) (e : r = .ok a q) {nn : Nat} {ff : Nat → Itm} (h1 : nn = a.items.length) (h2 : ff = itF a.items) :
  SpecT Tryz.prog f (.ptr k0 b 0 :: args) [(k0, ⟨b, 166, runC J A c p⟩)] (fun x => .ret ⟨.agg [.int .i64 a.code, .bool (.v a.had), .str a.val, .sl none (x.A 2) nn (x.c 2) 2 (fun i => itC (ff i)), .int .u64 a.key, .bool (.v a.more)], [(k0, runC J (x.A 0) (x.c 0) q)], []⟩) := by
 subst h1; subst h2; exact h.ok e
def nextR (ok : Bool) (r : Rs Rsl) : Wq × Int := if ok = true then toldM r else (zWq, 1)
def helpM (bk k : Int) (J : JobA) (p : Pst) : Rs Rsl :=
 if J.kind = 2 then (clnM k (p.n + 1) J.lab p).bind fun _ p => .ok zRsl p
 else if J.kind = 1 then (getM k J.lab p).bind fun g q => (if (gk g 3 || gk g 4) = true then fnsM bk k (p.n + 1) J.lab g q else if gk g 5 = true then thwM bk k (p.n + 1) J.lab q else .ok () q).bind fun _ q => .ok zRsl q
 else .ok zRsl p
def helpN (J : JobA) (n : Nat) (f : Nat → GotA) : Wq × Int := nextR (isJobB J && (decide (J.kind = 1) || decide (J.kind = 2)) && allGot n f) (helpM J.bucket (J.budget - n) J (pst0 n f))
theorem helpM_items {bk k : Int} {J : JobA} {p q : Pst} {a : Rsl} (h : helpM bk k J p = .ok a q) : a.items = [] := by
 unfold helpM at h
 split at h
 ·cases hc : clnM k (p.n + 1) J.lab p with
  | ok v p1 => rw [hc] at h; injection h with h _; rw [← h]; rfl
  | stop w p1 => rw [hc] at h; cases h
 split at h
 ·cases hg : getM k J.lab p with
  | stop w p1 => rw [hg] at h; cases h
  | ok g p1 =>
   rw [hg] at h
   simp only [Rs.bind] at h
   split at h
   ·injection h with h _; rw [← h]; rfl
   cases h
 injection h with h _; rw [← h]; rfl
abbrev wqB (x : Atom) (w : Wq) (rr : RN) (nn : Nat) (ff : Nat → Itm) : WntA := ⟨w.kind, w.lab, w.ver, ⟨x.A 1, x.c 1, rr⟩, ⟨w.res.code, w.res.had, w.res.val, x.A 2, nn, x.c 2, ff, w.res.key, w.res.more⟩⟩
theorem Spec.wq {P : Program} {f : Nat} {args : List AV} {r : Wq × Int} (h : Spec P f args (fun x => .tup [wntV (wqA x r.1), .int .i64 r.2])) {w : Wq} {e : Int} {rr : RN} {nn : Nat} {ff : Nat → Itm} (h1 : w = r.1) (h2 : e = r.2) (h3 : rr = w.r.rn) (h4 : nn = w.res.items.length) (h5 : ff = itF w.res.items) :
  Spec P f args (fun x => .tup [wntV (wqB x w rr nn ff), .int .i64 e]) := by
 subst h1; subst h2; subst h3; subst h4; subst h5; exact h
end Go.Proofs.YtikkeibmjppboaaGreat.Sym
