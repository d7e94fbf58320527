/-
  Records halved (printed by a program of mine). Conditions: none.
-/
import Derived.Test.YtkamdppnnhjajaaItOwn
import Derived.Test.YtkamdppnnhjajaaItCut
namespace Go.Proofs.Ytkamdppnnhjajaa.Sym
open Go Go.RowKit
set_option maxRecDepth 100000
set_option linter.unusedVariables false
set_option linter.unusedSimpArgs false
theorem ch_ok {l : Lab} {b : Int} (hl : isL l = true) (h64 : l.len ≠ 64) : chE l b = 0 ∧ chV l b = childL l b := by
  have h : chE l b = 0 := by
    unfold chE
    rw [hl, if_neg (by decide), if_neg h64]
  exact ⟨h, by unfold chV; rw [if_pos h]⟩
theorem enters56 : Enters Try.prog 56 := fun _ _ => by kernel_rfl
def T66 : List (Nat × TI) := [(3, ti3), (22, ti22), (23, ti23), (25, ti25), (27, ti27), (53, ti53)]
theorem T66_ok : TabOK Try.prog T66 := .cons t3 (.cons t22 (.cons t23 (.cons t25 (.cons t27 (.cons t53 (.nil))))))
theorem enters66 : Enters Try.prog 66 := fun _ _ => by kernel_rfl
theorem covd_s (A : Option Addr) (n c : Nat) (f : Nat → Itm) (hn : n ≤ 1000000) (kd : Int) (nx : Lab) (mk : Int) (l : Lab) (hb0 : U64 l.bits) (hki : ∀ i, i < n → U64 (f i).key) : Spec Try.prog 66 [recI A n c f kd nx mk, labAV l] (fun x => rowI (x.A 0) (covL l (firsts f n)).length (x.c 0) (itF (covL l (firsts f n)))) := by
  intro m w hm hargs
  have hmx : maxLen = 9223372036854775807 := rfl
  unfold recI rowI at hargs
  simp only [labAV] at hargs
  refine enter hm hargs Try.func66 rfl (by simp [Try.ntmps66]) fun a0 hF => ?_
  simp only [Try.ntmps66, startT] at hF
  obtain ⟨B, hB⟩ : ∃ B, B = std := ⟨_, rfl⟩
  refine wp_seq ?_
  apply region_okB hB T66_ok [2, 3] [2, 3] [] hF
  case hex => intro A X; conv => lhs; cbv
  case hob =>
    intro X
    subst hB
    simp [AllOb, Ob.holds, BE.den, std, stdCmp, stdArith] <;> omega
  case hQ =>
  intro X0 a0 w1 hF
  refine wp_seq ?_
  apply region_okB hB T66_ok [5, 2, 3] [2, 3, 5, 29] [] hF
  case hex => intro A X; conv => lhs; cbv
  case hob =>
    intro X
    subst hB
    simp [AllOb, Ob.holds, BE.den, std, stdCmp, stdArith] <;> omega
  case hQ =>
  intro X1 a0 w1 hF
  refine wp_seq ?_
  refine wp_seq ?_
  apply region_okB hB T66_ok [5, 6, 2, 3] [2, 3, 5, 29] [] hF
  case hex => intro A X; conv => lhs; cbv
  case hob =>
    intro X
    subst hB
    simp [AllOb, Ob.holds, BE.den, std, stdCmp, stdArith] <;> omega
  case hQ =>
  intro X2 a0 w1 hF
  refine wp_block ?_
  replace hF := hF.headS (v' := .sl (some 5) none 0 0 2 (fun t => itC zeroItm)) (Sim.recell (fun i hi => absurd hi (Nat.not_lt_zero _))) rfl
  refine loop_pre (ι := Nat × Nat × (Nat → Itm) × Option Addr × Nat) (fun p => [(5, .sl (some 5) p.2.2.2.1 p.2.1 p.2.2.2.2 2 (fun t => itC (p.2.2.1 t))), (6, .int .i64 (p.1 : Int))]) (fun p => []) (fun p => [(5, ⟨p.2.2.2.1, p.2.1, p.2.2.2.2, 2, 53⟩)]) (fun p => p.1 ≤ n ∧ p.2.1 ≤ p.1 ∧ firsts p.2.2.1 p.2.1 = covL l (firsts f p.1)) (fun p => n - p.1) (0, 0, fun _ => zeroItm, none, 0) ⟨Nat.zero_le _, Nat.le_refl _, rfl⟩ hF ?_
  rintro ⟨i, q, g, A1, c1⟩ ⟨hi, hq, hg⟩ a0 w1 hF
  try dsimp only at hi
  try dsimp only at hq
  try dsimp only at hg
  refine wp_seq ?_
  refine wp_seq ?_
  apply region_okB hB T66_ok [11, 5, 6, 2, 3] [2, 3, 5, 29] [] hF
  case hex => intro A X; conv => lhs; cbv
  case hob =>
    intro X
    subst hB
    repeat (first | exact trivial | refine ⟨rfl, ?_⟩ | refine ⟨⟨show (0 : Int) ≤ (i : Int) by omega, show (i : Int) < (n : Int) by omega⟩, ?_⟩)
  case hQ =>
  intro X3 a0 w1 hF
  refine test_ok hF rfl (fun hb hF => ?_) (fun hb hF => ?_)
  · skip
    have hin : i < n := by
      have : (i : Int) < (n : Int) := by subst hB; simpa [std, stdCmp] using hb
      omega
    have S := rcov_s l hb0 (f i).key (hki i hin)
    simp only [labAV] at S
    obtain ⟨cq, hcq⟩ : ∃ x, x = coverB l (f i).key := ⟨_, rfl⟩
    rw [← hcq] at S
    refine wp_skip ?_
    refine wp_seq ?_
    refine wp_block ?_
    refine wp_seq ?_
    apply drawn_okB hB (by kernel_rfl) T66_ok [21, 5, 6, 2, 3] [2, 3, 5, 29] [(7, .r fun _ => .bool (.v cq))] hF rfl
    case hex => intro A X; conv => lhs; cbv
    case hD => kernel_rfl
    case hlen => rfl
    case hob =>
      intro X
      subst hB
      repeat (first | exact trivial | refine ⟨rfl, ?_⟩ | refine ⟨⟨show (0 : Int) ≤ (i : Int) by omega, show (i : Int) < (n : Int) by omega⟩, ?_⟩ | refine ⟨⟨enters91, S⟩, ?_⟩)
    case hQ =>
    intro X5 a0 w1 hF
    refine test_ok hF rfl (fun hb hF => ?_) (fun hb hF => ?_)
    · skip
      have hct : cq = true := hb
      rw [hct] at hcq
      apply region_okB hB T66_ok [5, 6, 2, 3] [2, 3, 5, 29] [] hF
      case hex => intro A X; conv => lhs; cbv
      case hob =>
        intro X
        subst hB
        repeat (first | exact trivial | refine ⟨⟨rfl, rfl, rfl⟩, ?_⟩ | refine ⟨rfl, ?_⟩ | refine ⟨⟨show (0 : Int) ≤ (i : Int) by omega, show (i : Int) < (n : Int) by omega⟩, ?_⟩ | refine ⟨⟨show q + 1 ≤ maxLen by omega, show (q + 1) * _ ≤ _ by omega⟩, ?_⟩)
      case hQ =>
      intro X6 a0 w1 hF
      replace hF := hF.headS (v' := .sl (some 5) ((X6 7).A 0) (B.nadd q 1) ((X6 7).c 0) 2 (fun t => itC (fSet g q (f i) t))) (Sim.resl rfl (fun t ht => by
        subst hB
        have ht2 : t < q + 1 := ht
        show appC q (fun t => itC (g t)) (chunk 2 [.int .u64 (f i).key, .str (f i).val]) t = _
        unfold appC fSet
        split
        · rw [if_neg (by omega)]
        · have : t = q := by omega
          subst this
          simp [chunk, itC])) rfl
      apply region_okB hB T66_ok [5, 6, 2, 3] [2, 3, 5, 29] [] hF
      case hex => intro A X; conv => lhs; cbv
      case hob =>
        intro X
        subst hB
        simp [AllOb, Ob.holds, BE.den, std, stdCmp, stdArith] <;> omega
      case hQ =>
      intro X4 a0 w1 hF
      have e : B.arith .add .i64 (i : Int) 1 = ((i + 1 : Nat) : Int) := by subst hB; exact wrap_succ (n := n) hin (by omega)
      refine ⟨(i + 1, q + 1, fSet g q (f i), _, _), ⟨by simp only; omega, by simp only; omega, ?_⟩, by simp only; omega, by rw [← e, show q + 1 = B.nadd q 1 by subst hB; rfl]; exact hF⟩
      simp only
      rw [firsts_set, hg, cov_step, if_pos hcq.symm]
    · skip
      have hcf : cq = false := hb
      rw [hcf] at hcq
      refine wp_skip ?_
      apply region_okB hB T66_ok [5, 6, 2, 3] [2, 3, 5, 29] [] hF
      case hex => intro A X; conv => lhs; cbv
      case hob =>
        intro X
        subst hB
        simp [AllOb, Ob.holds, BE.den, std, stdCmp, stdArith] <;> omega
      case hQ =>
      intro X4 a0 w1 hF
      have e : B.arith .add .i64 (i : Int) 1 = ((i + 1 : Nat) : Int) := by subst hB; exact wrap_succ (n := n) hin (by omega)
      refine ⟨(i + 1, q, g, _, _), ⟨by simp only; omega, by simp only; omega, ?_⟩, by simp only; omega, by rw [← e]; exact hF⟩
      simp only
      rw [hg, cov_step, if_neg (by rw [← hcq]; decide), List.append_nil]
  · skip
    have hout : i = n := by
      have : ¬ (i : Int) < (n : Int) := by subst hB; simpa [std, stdCmp] using hb
      omega
    rw [hout] at hg
    refine wp_exit ?_
    refine wp_seq ?_
    apply region_okB hB T66_ok [4] [4, 5, 29] [] hF
    case hex => intro A X; conv => lhs; cbv
    case hob =>
      intro X
      subst hB
      simp [AllOb, Ob.holds, BE.den, std, stdCmp, stdArith] <;> omega
    case hQ =>
    intro X7 a0 w1 hF
    refine wp_ret ?_
    refine ret_sim (fn := Try.f66) T66_ok hF (rs := [.tmp 4]) rfl (rfl) ?_ (⟨0, fun _ => A1, fun _ => c1, fun _ => ⟨#[]⟩⟩) ?_
    · simp [AllOb, Ob.holds]
    · subst hB
      exact Sim.resl (by rw [← hg, firsts_len]) (fun t ht => by rw [← hg, firsts_len] at ht; rw [← hg, firsts_get _ _ t ht])
def T64 : List (Nat × TI) := [(4, ti4), (23, ti23), (25, ti25), (53, ti53)]
theorem T64_ok : TabOK Try.prog T64 := .cons t4 (.cons t23 (.cons t25 (.cons t53 (.nil))))
theorem enters64 : Enters Try.prog 64 := fun _ _ => by kernel_rfl
theorem hv1_m0 (b : Nat) (l : Lab) (hb0 : U64 l.bits) (k : Int) (v : ByteArray) (hk : U64 k) : SpecX Try.prog 64 [.agg [.int .u64 k, .str v], .ptr 0 b 0] [(0, ⟨b, 25, [.int .i64 l.len, .int .u64 l.bits]⟩)] (fun _ => ⟨.bool (.v (!coverB l k)), [(0, [.int .i64 l.len, .int .u64 l.bits])], []⟩) := by
  intro m w hm hargs hpre
  have S := cov_s l hb0 k hk
  simp only [labAV] at S
  generalize coverB l k = cq at S ⊢
  refine enterX hm hpre hargs Try.func64 rfl (by simp [Try.ntmps64]) fun a0 hF => ?_
  simp only [Try.ntmps64, startT] at hF
  obtain ⟨B, hB⟩ : ∃ B, B = std := ⟨_, rfl⟩
  refine wp_seq ?_
  apply region_okB hB T64_ok [1, 2] [0, 2] [] hF
  case hex => intro A X; conv => lhs; cbv
  case hob =>
    intro X
    subst hB
    simp [AllOb, Ob.holds, BE.den, std, stdCmp, stdArith] <;> omega
  case hQ =>
  intro X0 a0 w1 hF
  refine wp_seq ?_
  apply region_okB hB T64_ok [3] [0] [(3, .r fun _ => .bool (.v cq))] hF
  case hex => intro A X; conv => lhs; cbv
  case hob =>
    intro X
    subst hB
    repeat (first | exact trivial | refine ⟨rfl, ?_⟩ | refine ⟨fun _ => rfl, ?_⟩ | refine ⟨ob_lab _ _ _ _, ?_⟩ | refine ⟨fun _ => ob_lab _ _ _ _, ?_⟩ | refine ⟨⟨enters30, S⟩, ?_⟩ | refine ⟨fun _ => ⟨enters30, S⟩, ?_⟩)
  case hQ =>
  intro X1 a0 w1 hF
  refine wp_ret ?_
  refine (ret_x (fn := Try.f64) T64_ok hF (rs := [.tmp 3]) rfl (rfl) ?_ noAtom [] ?_ ?_ ?_).1
  · subst hB; simp [AllOb, Ob.holds]
  · subst hB; exact Sim.bool rfl
  · subst hB; first | exact trivial | exact ⟨rfl, ⟨_, rfl, SimL.refl _⟩, trivial⟩
  · exact trivial
theorem hv1_m (k0 : Nat) (b : Nat) (l : Lab) (hb0 : U64 l.bits) (k : Int) (v : ByteArray) (hk : U64 k) : SpecX Try.prog 64 [.agg [.int .u64 k, .str v], .ptr k0 b 0] [(k0, ⟨b, 25, [.int .i64 l.len, .int .u64 l.bits]⟩)] (fun _ => ⟨.bool (.v (!coverB l k)), [(k0, [.int .i64 l.len, .int .u64 l.bits])], []⟩) :=
  (hv1_m0 b l hb0 k v hk).re (by repeat (first | exact trivial | refine ⟨Sim.ptr, ?_⟩ | refine ⟨Sim.fn ⟨Sim.ptr, trivial⟩ trivial, ?_⟩ | refine ⟨Sim.fn trivial ⟨Sim.ptr, trivial⟩, ?_⟩ | refine ⟨Sim.refl _, ?_⟩)) rfl (fun x => ⟨rfl, rfl, Sim.refl _, rfl⟩)
def T62 : List (Nat × TI) := [(3, ti3), (22, ti22), (53, ti53)]
theorem T62_ok : TabOK Try.prog T62 := .cons t3 (.cons t22 (.cons t53 (.nil)))
theorem enters62 : Enters Try.prog 62 := fun _ _ => by kernel_rfl
theorem idxh_m0 (b : Nat) (A : Option Addr) (n c : Nat) (f : Nat → Itm) (hn : n ≤ 1000000) (l : Lab) (hb0 : U64 l.bits) (hki : ∀ i, i < n → U64 (f i).key) : SpecX Try.prog 62 [rowI A n c f, .fn 64 [] [.ptr 0 b 0]] [(0, ⟨b, 25, [.int .i64 l.len, .int .u64 l.bits]⟩)] (fun _ => ⟨.int .i64 (idxF (fun t => !coverB l (f t).key) n), [(0, [.int .i64 l.len, .int .u64 l.bits])], []⟩) := by
  intro m w hm hargs hpre
  have hmx : maxLen = 9223372036854775807 := rfl
  unfold rowI at hargs
  refine enterX hm hpre hargs Try.func62 rfl (by simp [Try.ntmps62]) fun a0 hF => ?_
  simp only [Try.ntmps62, startT] at hF
  obtain ⟨B, hB⟩ : ∃ B, B = std := ⟨_, rfl⟩
  refine wp_seq ?_
  apply region_okB hB T62_ok [0, 1] [0] [] hF
  case hex => intro A X; conv => lhs; cbv
  case hob =>
    intro X
    subst hB
    simp [AllOb, Ob.holds, BE.den, std, stdCmp, stdArith] <;> omega
  case hQ =>
  intro X0 a0 w1 hF
  refine wp_seq ?_
  refine wp_seq ?_
  apply region_okB hB T62_ok [8, 0, 1, 7] [0] [] hF
  case hex => intro A X; conv => lhs; cbv
  case hob =>
    intro X
    subst hB
    simp [AllOb, Ob.holds, BE.den, std, stdCmp, stdArith] <;> omega
  case hQ =>
  intro X1 a0 w1 hF
  refine wp_block ?_
  refine loop_pre (ι := Nat) (fun p => [(8, .int .i64 (p : Int))]) (fun p => []) (fun p => []) (fun p => p ≤ n ∧ ∀ t, t < p → (!coverB l (f t).key) = false) (fun p => n - p) 0 ⟨Nat.zero_le _, fun t ht => absurd ht (Nat.not_lt_zero _)⟩ hF ?_
  rintro i ⟨hi, hlt⟩ a0 w1 hF
  try dsimp only at hi
  try dsimp only at hlt
  refine wp_seq ?_
  apply region_okB hB T62_ok [9, 8, 0, 1, 7] [0] [] hF
  case hex => intro A X; conv => lhs; cbv
  case hob =>
    intro X
    subst hB
    simp [AllOb, Ob.holds, BE.den, std, stdCmp, stdArith] <;> omega
  case hQ =>
  intro X2 a0 w1 hF
  refine wp_seq ?_
  refine test_ok hF rfl (fun hb hF => ?_) (fun hb hF => ?_)
  · skip
    have hin : i < n := by
      have : (i : Int) < (n : Int) := by subst hB; simpa [std, stdCmp] using hb
      omega
    have S := hv1_m0 b l hb0 (f i).key (f i).val (hki i hin)
    obtain ⟨q, hq⟩ : ∃ q, q = !coverB l (f i).key := ⟨_, rfl⟩
    rw [← hq] at S
    refine wp_skip ?_
    refine wp_seq ?_
    refine wp_block ?_
    refine wp_seq ?_
    apply region_okB hB T62_ok [5, 8, 0, 1, 7] [0] [] hF
    case hex => intro A X; conv => lhs; cbv
    case hob =>
      intro X
      subst hB
      simp [AllOb, Ob.holds, BE.den, std, stdCmp, stdArith] <;> omega
    case hQ =>
    intro X3 a0 w1 hF
    refine wp_seq ?_
    apply region_okB hB T62_ok [16, 5, 8, 0, 1, 7] [0] [(5, .x fun _ => ⟨.bool (.v q), [(0, [.int .i64 l.len, .int .u64 l.bits])], []⟩)] hF
    case hex => intro A X; conv => lhs; cbv
    case hob =>
      intro X
      subst hB
      repeat (first | exact trivial | refine ⟨rfl, ?_⟩ | refine ⟨⟨show (0 : Int) ≤ (i : Int) by omega, show (i : Int) < (n : Int) by omega⟩, ?_⟩ | refine ⟨⟨enters64, S⟩, ?_⟩)
    case hQ =>
    intro X4 a0 w1 hF
    refine test_ok hF rfl (fun hb hF => ?_) (fun hb hF => ?_)
    · skip
      have hqt : q = true := hb
      refine wp_seq ?_
      apply region_okB hB T62_ok [4] [0] [] hF
      case hex => intro A X; conv => lhs; cbv
      case hob =>
        intro X
        subst hB
        simp [AllOb, Ob.holds, BE.den, std, stdCmp, stdArith] <;> omega
      case hQ =>
      intro X5 a0 w1 hF
      refine wp_ret ?_
      refine (ret_x (fn := Try.f62) T62_ok hF (rs := [.tmp 4]) rfl (rfl) ?_ noAtom [] ?_ ?_ ?_).1
      · subst hB; simp [AllOb, Ob.holds]
      · subst hB
        rw [idx_hit (p := fun t => !coverB l (f t).key) hin hlt (by show (!coverB l (f i).key) = true; rw [← hq]; exact hqt)]
        exact Sim.refl _
      · subst hB; first | exact trivial | exact ⟨rfl, ⟨_, rfl, SimL.refl _⟩, trivial⟩
      · exact trivial
    · skip
      have hqf : q = false := hb
      refine wp_skip ?_
      apply region_okB hB T62_ok [8, 0, 1, 7] [0] [] hF
      case hex => intro A X; conv => lhs; cbv
      case hob =>
        intro X
        subst hB
        simp [AllOb, Ob.holds, BE.den, std, stdCmp, stdArith] <;> omega
      case hQ =>
      intro X6 a0 w1 hF
      have e : B.arith .add .i64 (i : Int) 1 = ((i + 1 : Nat) : Int) := by subst hB; exact wrap_succ (n := n) hin (by omega)
      refine ⟨i + 1, ⟨by omega, fun t ht => ?_⟩, by omega, by rw [← e]; exact hF⟩
      by_cases h : t = i
      · rw [h, ← hq]; exact hqf
      · exact hlt t (by omega)
  · skip
    have hout : i = n := by
      have : ¬ (i : Int) < (n : Int) := by subst hB; simpa [std, stdCmp] using hb
      omega
    rw [hout] at hlt
    refine wp_exit ?_
    refine wp_seq ?_
    apply region_okB hB T62_ok [4] [0] [] hF
    case hex => intro A X; conv => lhs; cbv
    case hob =>
      intro X
      subst hB
      simp [AllOb, Ob.holds, BE.den, std, stdCmp, stdArith] <;> omega
    case hQ =>
    intro X7 a0 w1 hF
    refine wp_ret ?_
    refine (ret_x (fn := Try.f62) T62_ok hF (rs := [.tmp 4]) rfl (rfl) ?_ noAtom [] ?_ ?_ ?_).1
    · subst hB; simp [AllOb, Ob.holds]
    · subst hB
      rw [idx_miss (p := fun t => !coverB l (f t).key) hlt]
      exact Sim.refl _
    · subst hB; first | exact trivial | exact ⟨rfl, ⟨_, rfl, SimL.refl _⟩, trivial⟩
    · exact trivial
theorem idxh_m (k0 : Nat) (b : Nat) (A : Option Addr) (n c : Nat) (f : Nat → Itm) (hn : n ≤ 1000000) (l : Lab) (hb0 : U64 l.bits) (hki : ∀ i, i < n → U64 (f i).key) : SpecX Try.prog 62 [rowI A n c f, .fn 64 [] [.ptr k0 b 0]] [(k0, ⟨b, 25, [.int .i64 l.len, .int .u64 l.bits]⟩)] (fun _ => ⟨.int .i64 (idxF (fun t => !coverB l (f t).key) n), [(k0, [.int .i64 l.len, .int .u64 l.bits])], []⟩) :=
  (idxh_m0 b A n c f hn l hb0 hki).re (by repeat (first | exact trivial | refine ⟨Sim.ptr, ?_⟩ | refine ⟨Sim.fn ⟨Sim.ptr, trivial⟩ trivial, ?_⟩ | refine ⟨Sim.fn trivial ⟨Sim.ptr, trivial⟩, ?_⟩ | refine ⟨Sim.refl _, ?_⟩)) rfl (fun x => ⟨rfl, rfl, Sim.refl _, rfl⟩)
def T65 : List (Nat × TI) := [(3, ti3), (4, ti4), (22, ti22), (95, ti95)]
theorem T65_ok : TabOK Try.prog T65 := .cons t3 (.cons t4 (.cons t22 (.cons t95 (.nil))))
theorem enters65 : Enters Try.prog 65 := fun _ _ => by kernel_rfl
theorem hash_m0 (b : Nat) (A : Option Addr) (n c : Nat) (f : Nat → Itm) (hn : n ≤ 1000000) (l : Lab) (hb0 : U64 l.bits) (hki : ∀ i, i < n → U64 (f i).key) : SpecX Try.prog 65 [rowI A n c f, .fn 64 [] [.ptr 0 b 0]] [(0, ⟨b, 25, [.int .i64 l.len, .int .u64 l.bits]⟩)] (fun _ => ⟨.bool (.v (!decide ((covL l (firsts f n)).length = n))), [(0, [.int .i64 l.len, .int .u64 l.bits])], []⟩) := by
  intro m w hm hargs hpre
  have S := idxh_m0 b A n c f hn l hb0 hki
  have HC := idx_cases (fun t => !coverB l (f t).key) n
  generalize (idxF (fun t => !coverB l (f t).key) n) = ix at S HC
  unfold rowI at S hargs
  refine enterX hm hpre hargs Try.func65 rfl (by simp [Try.ntmps65]) fun a0 hF => ?_
  simp only [Try.ntmps65, startT] at hF
  obtain ⟨B, hB⟩ : ∃ B, B = std := ⟨_, rfl⟩
  refine wp_seq ?_
  apply region_okB hB T65_ok [0, 1] [0] [] hF
  case hex => intro A X; conv => lhs; cbv
  case hob =>
    intro X
    subst hB
    simp [AllOb, Ob.holds, BE.den, std, stdCmp, stdArith] <;> omega
  case hQ =>
  intro X0 a0 w1 hF
  refine wp_seq ?_
  apply region_okB hB T65_ok [4] [0] [(2, .x fun _ => ⟨.int .i64 ix, [(0, [.int .i64 l.len, .int .u64 l.bits])], []⟩)] hF
  case hex => intro A X; conv => lhs; cbv
  case hob =>
    intro X
    subst hB
    repeat (first | exact trivial | refine ⟨rfl, ?_⟩ | refine ⟨⟨show (0 : Int) ≤ (i : Int) by omega, show (i : Int) < (n : Int) by omega⟩, ?_⟩ | refine ⟨⟨enters62, S⟩, ?_⟩)
  case hQ =>
  intro X1 a0 w1 hF
  refine wp_ret ?_
  refine (ret_x (fn := Try.f65) T65_ok hF (rs := [.tmp 4]) rfl (rfl) ?_ noAtom [] ?_ ?_ ?_).1
  · subst hB; simp [AllOb, Ob.holds]
  · subst hB
    refine Sim.bool ?_
    show decide (ix ≥ 0) = !decide ((covL l (firsts f n)).length = n)
    rw [decide_eq_decide.2 (cov_firsts (l := l) (f := f) (n := n))]
    rcases HC with ⟨i, h1, h2, h3, h4⟩ | ⟨h1, h2⟩
    · have h5 : ¬ ∀ i, i < n → coverB l (f i).key = true := fun h => by have := h i h1; simp [this] at h3
      rw [decide_eq_false h5, h2]; simp
    · have h5 : ∀ i, i < n → coverB l (f i).key = true := fun i hi => by simpa using h2 i hi
      rw [decide_eq_true h5, h1]; rfl
  · subst hB; first | exact trivial | exact ⟨rfl, ⟨_, rfl, SimL.refl _⟩, trivial⟩
  · exact trivial
theorem hash_m (k0 : Nat) (b : Nat) (A : Option Addr) (n c : Nat) (f : Nat → Itm) (hn : n ≤ 1000000) (l : Lab) (hb0 : U64 l.bits) (hki : ∀ i, i < n → U64 (f i).key) : SpecX Try.prog 65 [rowI A n c f, .fn 64 [] [.ptr k0 b 0]] [(k0, ⟨b, 25, [.int .i64 l.len, .int .u64 l.bits]⟩)] (fun _ => ⟨.bool (.v (!decide ((covL l (firsts f n)).length = n))), [(k0, [.int .i64 l.len, .int .u64 l.bits])], []⟩) :=
  (hash_m0 b A n c f hn l hb0 hki).re (by repeat (first | exact trivial | refine ⟨Sim.ptr, ?_⟩ | refine ⟨Sim.fn ⟨Sim.ptr, trivial⟩ trivial, ?_⟩ | refine ⟨Sim.fn trivial ⟨Sim.ptr, trivial⟩, ?_⟩ | refine ⟨Sim.refl _, ?_⟩)) rfl (fun x => ⟨rfl, rfl, Sim.refl _, rfl⟩)
def T25 : List (Nat × TI) := [(3, ti3), (4, ti4), (22, ti22), (23, ti23), (25, ti25), (27, ti27), (29, ti29), (95, ti95)]
theorem T25_ok : TabOK Try.prog T25 := .cons t3 (.cons t4 (.cons t22 (.cons t23 (.cons t25 (.cons t27 (.cons t29 (.cons t95 (.nil))))))))
theorem enters25 : Enters Try.prog 25 := fun _ _ => by kernel_rfl
theorem halves_no (A : Option Addr) (n c : Nat) (f : Nat → Itm) (hn : n ≤ 1000000) (kd : Int) (nx : Lab) (mk : Int) (hv : U64 nx.bits) (hki : ∀ i, i < n → U64 (f i).key) (l : Lab) (hb0 : U64 l.bits) (hil : (isRF kd n f nx mk && isL l) = false) : Spec Try.prog 25 [recI A n c f kd nx mk, labAV l] (fun x => .tup [recAV (x.A 0) (x.c 0) (halvR kd n f nx mk l).1, recAV (x.A 1) (x.c 1) (halvR kd n f nx mk l).2.1, .int .i64 (halvR kd n f nx mk l).2.2]) := by
  intro m w hm hargs
  have hmx : maxLen = 9223372036854775807 := rfl
  have SI := isR_s A n c f (by omega) kd nx mk hv
  have SL := isL_s l hb0
  unfold recI rowI at SI hargs
  simp only [labAV] at SL hargs
  obtain ⟨ir, hir⟩ : ∃ x, x = isRF kd n f nx mk := ⟨_, rfl⟩
  obtain ⟨il, hll⟩ : ∃ x, x = isL l := ⟨_, rfl⟩
  rw [← hir] at SI hil
  rw [← hll] at SL hil
  have hW : (halvR kd n f nx mk l) = (zeroRec, zeroRec, 1) := by unfold halvR; rw [← hir, ← hll, hil]; rfl
  refine enter hm hargs Try.func25 rfl (by simp [Try.ntmps25]) fun a0 hF => ?_
  simp only [Try.ntmps25, startT] at hF
  obtain ⟨B, hB⟩ : ∃ B, B = std := ⟨_, rfl⟩
  refine wp_seq ?_
  apply region_okB hB T25_ok [2, 3, 4, 5] [2, 3, 4, 5] [] hF
  case hex => intro A X; conv => lhs; cbv
  case hob =>
    intro X
    subst hB
    simp [AllOb, Ob.holds, BE.den, std, stdCmp, stdArith] <;> omega
  case hQ =>
  intro X0 a0 w1 hF
  refine wp_seq ?_
  apply region_okB hB T25_ok [7, 2, 3, 4, 5] [2, 3, 4, 5] [] hF
  case hex => intro A X; conv => lhs; cbv
  case hob =>
    intro X
    subst hB
    simp [AllOb, Ob.holds, BE.den, std, stdCmp, stdArith] <;> omega
  case hQ =>
  intro X1 a0 w1 hF
  refine wp_seq ?_
  refine wp_block ?_
  refine wp_seq ?_
  refine wp_region_lit ?_
  apply list_preB 0 9 hB T25_ok [24, 7, 2, 3, 4, 5] [2, 3, 4, 5] [(1, .r fun _ => .bool (.v ir)), (5, .r fun _ => .bool (.v il))] hF
  case hex => intro A X; conv => lhs; cbv
  case hob =>
    intro X
    subst hB
    repeat (first | exact trivial | refine ⟨rfl, ?_⟩ | refine ⟨fun _ => rfl, ?_⟩ | refine ⟨ob_lab _ _ _ _, ?_⟩ | refine ⟨fun _ => ob_lab _ _ _ _, ?_⟩ | refine ⟨⟨enters15, SI⟩, ?_⟩ | refine ⟨fun _ => ⟨enters15, SI⟩, ?_⟩ | refine ⟨⟨enters52, SL⟩, ?_⟩ | refine ⟨fun _ => ⟨enters52, SL⟩, ?_⟩)
  case hQ =>
  intro X2_0 a0 w1 hF
  replace hF := hF.headS (v' := .bool .tt) (Sim.bool (by subst hB; show (if (!ir) = true then true else !il) = true; cases ir <;> cases il <;> first | rfl | (cases hil))) rfl
  apply list_endB 9 hB T25_ok [15, 2, 3, 4, 5] [2, 3, 4, 5] [(1, .r fun _ => .bool (.v ir)), (5, .r fun _ => .bool (.v il))] hF
  case hex => intro A X; conv => lhs; cbv
  case hob =>
    intro X
    subst hB
    repeat (first | exact trivial | refine ⟨rfl, ?_⟩ | refine ⟨fun _ => rfl, ?_⟩ | refine ⟨ob_lab _ _ _ _, ?_⟩ | refine ⟨fun _ => ob_lab _ _ _ _, ?_⟩)
  case hQ =>
  intro X2 a0 w1 hF
  refine test_tt hF rfl (fun hF => ?_)
  refine wp_seq ?_
  apply region_okB hB T25_ok [4, 5, 6] [2, 3, 4, 5] [] hF
  case hex => intro A X; conv => lhs; cbv
  case hob =>
    intro X
    subst hB
    repeat (first | exact trivial | refine ⟨rfl, ?_⟩ | refine ⟨fun _ => rfl, ?_⟩ | refine ⟨ob_lab _ _ _ _, ?_⟩ | refine ⟨fun _ => ob_lab _ _ _ _, ?_⟩)
  case hQ =>
  intro X3 a0 w1 hF
  refine wp_ret ?_
  refine ret_sim (fn := Try.f25) T25_ok hF (rs := [.cell 4 27, .cell 5 27, .tmp 6]) rfl (by conv => lhs; cbv) ?_ (⟨0, fun _ => none, fun _ => 0, fun _ => ⟨#[]⟩⟩) ?_
  · simp [AllOb, Ob.holds]
  · subst hB
    rw [hW]
    exact Sim.tup ⟨Sim.agg ⟨Sim.refl _, Sim.recell (fun i hi => absurd hi (Nat.not_lt_zero _)), Sim.refl _, Sim.refl _, Sim.refl _, trivial⟩, Sim.agg ⟨Sim.refl _, Sim.recell (fun i hi => absurd hi (Nat.not_lt_zero _)), Sim.refl _, Sim.refl _, Sim.refl _, trivial⟩, Sim.refl _, trivial⟩
theorem halves_yes (A : Option Addr) (n c : Nat) (f : Nat → Itm) (hn : n ≤ 1000000) (kd : Int) (nx : Lab) (mk : Int) (hv : U64 nx.bits) (hki : ∀ i, i < n → U64 (f i).key) (l : Lab) (hb0 : U64 l.bits) (hil : (isRF kd n f nx mk && isL l) = true) : Spec Try.prog 25 [recI A n c f kd nx mk, labAV l] (fun x => .tup [recAV (x.A 0) (x.c 0) (halvR kd n f nx mk l).1, recAV (x.A 1) (x.c 1) (halvR kd n f nx mk l).2.1, .int .i64 (halvR kd n f nx mk l).2.2]) := by
  intro m w hm hargs
  have hmx : maxLen = 9223372036854775807 := rfl
  have SI := isR_s A n c f (by omega) kd nx mk hv
  have SL := isL_s l hb0
  unfold recI rowI at SI hargs
  simp only [labAV] at SL hargs
  obtain ⟨ir, hir⟩ : ∃ x, x = isRF kd n f nx mk := ⟨_, rfl⟩
  obtain ⟨il, hll⟩ : ∃ x, x = isL l := ⟨_, rfl⟩
  rw [← hir] at SI hil
  rw [← hll] at SL hil
  rw [Bool.and_eq_true] at hil
  have hLt : isL l = true := by rw [← hll]; exact hil.2
  obtain ⟨hl0, hl1, hl2⟩ := lab_parts hLt
  obtain ⟨hkd1, hkd5, hn16, hnl, hok⟩ := isRF_kind (hir.symm.trans hil.1)
  refine enter hm hargs Try.func25 rfl (by simp [Try.ntmps25]) fun a0 hF => ?_
  simp only [Try.ntmps25, startT] at hF
  obtain ⟨B, hB⟩ : ∃ B, B = std := ⟨_, rfl⟩
  refine wp_seq ?_
  apply region_okB hB T25_ok [2, 3, 4, 5] [2, 3, 4, 5] [] hF
  case hex => intro A X; conv => lhs; cbv
  case hob =>
    intro X
    subst hB
    simp [AllOb, Ob.holds, BE.den, std, stdCmp, stdArith] <;> omega
  case hQ =>
  intro X0 a0 w1 hF
  refine wp_seq ?_
  apply region_okB hB T25_ok [7, 2, 3, 4, 5] [2, 3, 4, 5] [] hF
  case hex => intro A X; conv => lhs; cbv
  case hob =>
    intro X
    subst hB
    simp [AllOb, Ob.holds, BE.den, std, stdCmp, stdArith] <;> omega
  case hQ =>
  intro X1 a0 w1 hF
  have SC := hash_m 3 (X0 1).b A n c f hn l hb0 hki
  obtain ⟨ca, hca⟩ : ∃ x, x = decide ((covL l (firsts f n)).length = n) := ⟨_, rfl⟩
  rw [← hca] at SC
  unfold rowI at SC
  refine wp_seq ?_
  refine wp_block ?_
  refine wp_seq ?_
  refine wp_region_lit ?_
  apply list_preB 0 9 hB T25_ok [24, 7, 2, 3, 4, 5] [2, 3, 4, 5] [(1, .r fun _ => .bool (.v ir)), (5, .r fun _ => .bool (.v il)), (12, .x fun _ => ⟨.bool (.v (!ca)), [(3, [.int .i64 l.len, .int .u64 l.bits])], []⟩)] hF
  case hex => intro A X; conv => lhs; cbv
  case hob =>
    intro X
    subst hB
    repeat (first | exact trivial | refine ⟨rfl, ?_⟩ | refine ⟨fun _ => rfl, ?_⟩ | refine ⟨ob_lab _ _ _ _, ?_⟩ | refine ⟨fun _ => ob_lab _ _ _ _, ?_⟩ | refine ⟨⟨enters15, SI⟩, ?_⟩ | refine ⟨fun _ => ⟨enters15, SI⟩, ?_⟩ | refine ⟨⟨enters52, SL⟩, ?_⟩ | refine ⟨fun _ => ⟨enters52, SL⟩, ?_⟩)
  case hQ =>
  intro X2_0 a0 w1 hF
  replace hF := hF.headS (v' := .bool .ff) (Sim.bool (by subst hB; show (if (!ir) = true then true else !il) = false; rw [hil.1, hil.2]; rfl)) rfl
  apply list_endB 9 hB T25_ok [15, 2, 3, 4, 5] [2, 3, 4, 5] [(1, .r fun _ => .bool (.v ir)), (5, .r fun _ => .bool (.v il)), (12, .x fun _ => ⟨.bool (.v (!ca)), [(3, [.int .i64 l.len, .int .u64 l.bits])], []⟩)] hF
  case hex => intro A X; conv => lhs; cbv
  case hob =>
    intro X
    subst hB
    repeat (first | exact trivial | refine ⟨rfl, ?_⟩ | refine ⟨fun _ => rfl, ?_⟩ | refine ⟨ob_lab _ _ _ _, ?_⟩ | refine ⟨fun _ => ob_lab _ _ _ _, ?_⟩ | refine ⟨⟨enters65, SC⟩, ?_⟩ | refine ⟨fun _ => ⟨enters65, SC⟩, ?_⟩)
  case hQ =>
  intro X2 a0 w1 hF
  refine test_ok hF rfl (fun hb hF => ?_) (fun hb hF => ?_)
  · skip
    have hcf : ca = false := by
      have h9 : (!ca) = true := by subst hB; exact hb
      cases ca <;> first | rfl | (cases h9)
    have hW : (halvR kd n f nx mk l) = (zeroRec, zeroRec, 1) := by unfold halvR; rw [← hir, ← hll, ← hca, hil.1, hil.2, hcf]; rfl
    refine wp_seq ?_
    apply region_okB hB T25_ok [4, 5, 6] [2, 3, 4, 5] [] hF
    case hex => intro A X; conv => lhs; cbv
    case hob =>
      intro X
      subst hB
      repeat (first | exact trivial | refine ⟨rfl, ?_⟩ | refine ⟨fun _ => rfl, ?_⟩ | refine ⟨ob_lab _ _ _ _, ?_⟩ | refine ⟨fun _ => ob_lab _ _ _ _, ?_⟩)
    case hQ =>
    intro X3 a0 w1 hF
    refine wp_ret ?_
    refine ret_sim (fn := Try.f25) T25_ok hF (rs := [.cell 4 27, .cell 5 27, .tmp 6]) rfl (by conv => lhs; cbv) ?_ (⟨0, fun _ => none, fun _ => 0, fun _ => ⟨#[]⟩⟩) ?_
    · simp [AllOb, Ob.holds]
    · subst hB
      rw [hW]
      exact Sim.tup ⟨Sim.agg ⟨Sim.refl _, Sim.recell (fun i hi => absurd hi (Nat.not_lt_zero _)), Sim.refl _, Sim.refl _, Sim.refl _, trivial⟩, Sim.agg ⟨Sim.refl _, Sim.recell (fun i hi => absurd hi (Nat.not_lt_zero _)), Sim.refl _, Sim.refl _, Sim.refl _, trivial⟩, Sim.refl _, trivial⟩
  · skip
    have hct : ca = true := by
      have h9 : (!ca) = false := by subst hB; exact hb
      cases ca <;> first | rfl | (cases h9)
    have hcn := of_decide_eq_true (hca.symm.trans hct)
    have hcc := cov_firsts.1 hcn
    refine wp_seq ?_
    apply region_okB hB T25_ok [32, 2, 3, 4, 5] [2, 3, 4, 5] [] hF
    case hex => intro A X; conv => lhs; cbv
    case hob =>
      intro X
      subst hB
      simp [AllOb, Ob.holds, BE.den, std, stdCmp, stdArith] <;> omega
    case hQ =>
    intro X4 a0 w1 hF
    refine test_ok hF rfl (fun hb hF => ?_) (fun hb hF => ?_)
    · skip
      have h9 : (if (!decide (kd = 1)) = true then !decide (kd = 3) else false) = true := by subst hB; exact hb
      have hk : kd ≠ 1 ∧ kd ≠ 3 := by
        rw [ite_and] at h9
        simpa using h9
      have hW : (halvR kd n f nx mk l) = (zeroRec, zeroRec, 13) := by unfold halvR; rw [← hir, ← hll, ← hca, hil.1, hil.2, hct, if_neg (by decide), if_pos hk]
      refine wp_seq ?_
      apply region_okB hB T25_ok [4, 5, 6] [2, 3, 4, 5] [] hF
      case hex => intro A X; conv => lhs; cbv
      case hob =>
        intro X
        subst hB
        repeat (first | exact trivial | refine ⟨rfl, ?_⟩ | refine ⟨fun _ => rfl, ?_⟩ | refine ⟨ob_lab _ _ _ _, ?_⟩ | refine ⟨fun _ => ob_lab _ _ _ _, ?_⟩)
      case hQ =>
      intro X5 a0 w1 hF
      refine wp_ret ?_
      refine ret_sim (fn := Try.f25) T25_ok hF (rs := [.cell 4 27, .cell 5 27, .tmp 6]) rfl (by conv => lhs; cbv) ?_ (⟨0, fun _ => none, fun _ => 0, fun _ => ⟨#[]⟩⟩) ?_
      · simp [AllOb, Ob.holds]
      · subst hB
        rw [hW]
        exact Sim.tup ⟨Sim.agg ⟨Sim.refl _, Sim.recell (fun i hi => absurd hi (Nat.not_lt_zero _)), Sim.refl _, Sim.refl _, Sim.refl _, trivial⟩, Sim.agg ⟨Sim.refl _, Sim.recell (fun i hi => absurd hi (Nat.not_lt_zero _)), Sim.refl _, Sim.refl _, Sim.refl _, trivial⟩, Sim.refl _, trivial⟩
    · skip
      have h9 : (if (!decide (kd = 1)) = true then !decide (kd = 3) else false) = false := by subst hB; exact hb
      have hk : ¬ (kd ≠ 1 ∧ kd ≠ 3) := by
        intro h
        rw [ite_and] at h9
        simp [h.1, h.2] at h9
      refine wp_seq ?_
      apply region_okB hB T25_ok [43, 2, 3, 4, 5] [2, 3, 4, 5] [] hF
      case hex => intro A X; conv => lhs; cbv
      case hob =>
        intro X
        subst hB
        repeat (first | exact trivial | refine ⟨rfl, ?_⟩ | refine ⟨fun _ => rfl, ?_⟩ | refine ⟨ob_lab _ _ _ _, ?_⟩ | refine ⟨fun _ => ob_lab _ _ _ _, ?_⟩)
      case hQ =>
      intro X6 a0 w1 hF
      refine test_ok hF rfl (fun hb hF => ?_) (fun hb hF => ?_)
      · skip
        have h64 : l.len = 64 := by subst hB; simpa [std, stdCmp] using hb
        have hW : (halvR kd n f nx mk l) = (zeroRec, zeroRec, 5) := by unfold halvR; rw [← hir, ← hll, ← hca, hil.1, hil.2, hct, if_neg (by decide), if_neg hk, if_pos h64]
        refine wp_seq ?_
        apply region_okB hB T25_ok [4, 5, 6] [2, 3, 4, 5] [] hF
        case hex => intro A X; conv => lhs; cbv
        case hob =>
          intro X
          subst hB
          repeat (first | exact trivial | refine ⟨rfl, ?_⟩ | refine ⟨fun _ => rfl, ?_⟩ | refine ⟨ob_lab _ _ _ _, ?_⟩ | refine ⟨fun _ => ob_lab _ _ _ _, ?_⟩)
        case hQ =>
        intro X7 a0 w1 hF
        refine wp_ret ?_
        refine ret_sim (fn := Try.f25) T25_ok hF (rs := [.cell 4 27, .cell 5 27, .tmp 6]) rfl (by conv => lhs; cbv) ?_ (⟨0, fun _ => none, fun _ => 0, fun _ => ⟨#[]⟩⟩) ?_
        · simp [AllOb, Ob.holds]
        · subst hB
          rw [hW]
          exact Sim.tup ⟨Sim.agg ⟨Sim.refl _, Sim.recell (fun i hi => absurd hi (Nat.not_lt_zero _)), Sim.refl _, Sim.refl _, Sim.refl _, trivial⟩, Sim.agg ⟨Sim.refl _, Sim.recell (fun i hi => absurd hi (Nat.not_lt_zero _)), Sim.refl _, Sim.refl _, Sim.refl _, trivial⟩, Sim.refl _, trivial⟩
      · skip
        have h64 : l.len ≠ 64 := by subst hB; simpa [std, stdCmp] using hb
        obtain ⟨k, hk1⟩ : ∃ x, x = childL l 1 := ⟨_, rfl⟩
        have SCH := child_s l hb0 1 (.inr rfl)
        rw [(ch_ok (b := 1) hLt h64).1, (ch_ok (b := 1) hLt h64).2, ← hk1] at SCH
        simp only [labAV] at SCH
        have SA := at_s A n c f hn k.bits
        obtain ⟨p, hp⟩ : ∃ x, x = bsF f k.bits 0 n := ⟨_, rfl⟩
        rw [← hp] at SA
        rw [hk1] at hp
        obtain ⟨hpn, hc0, hc1⟩ := half_lists hok hki hLt hb0 h64 hcc hp
        generalize hitF f k.bits n p = hh at SA
        unfold rowI at SA
        have hW : (halvR kd n f nx mk l) = (⟨1, covL (childL l 0) (firsts f n), childL l 1, 0⟩, ⟨1, covL (childL l 1) (firsts f n), nx, 0⟩, 0) := by unfold halvR; rw [← hir, ← hll, ← hca, hil.1, hil.2, hct, if_neg (by decide), if_neg hk, if_neg h64]
        rw [hc0, hc1, ← hk1] at hW
        have SC0 := fun A c => clone_sf A p c f (by omega)
        obtain ⟨r, hr⟩ : ∃ x, x = n - p := ⟨_, rfl⟩
        rw [← hr] at hW
        have SC1 := fun A c => clone_sf A r c (fun j => f (p + j)) (by omega)
        unfold rowI at SC0 SC1
        refine wp_skip ?_
        refine wp_seq ?_
        apply region_okB hB T25_ok [2, 4, 5, 8] [2, 8, 4, 5] [(1, .r fun _ => .tup [.agg [.int .i64 k.len, .int .u64 k.bits], .int .i64 0])] hF
        case hex => intro A X; conv => lhs; cbv
        case hob =>
          intro X
          subst hB
          repeat (first | exact trivial | refine ⟨rfl, ?_⟩ | refine ⟨fun _ => rfl, ?_⟩ | refine ⟨ob_lab _ _ _ _, ?_⟩ | refine ⟨fun _ => ob_lab _ _ _ _, ?_⟩ | refine ⟨⟨enters29, SCH⟩, ?_⟩ | refine ⟨fun _ => ⟨enters29, SCH⟩, ?_⟩)
        case hQ =>
        intro X8 a0 w1 hF
        refine wp_seq ?_
        apply region_okB hB T25_ok [2, 4, 5, 8, 10] [2, 8, 4, 5] [(4, .r fun _ => .tup [.int .i64 (p : Int), .bool (.v hh)])] hF
        case hex => intro A X; conv => lhs; cbv
        case hob =>
          intro X
          subst hB
          repeat (first | exact trivial | refine ⟨rfl, ?_⟩ | refine ⟨fun _ => rfl, ?_⟩ | refine ⟨ob_lab _ _ _ _, ?_⟩ | refine ⟨fun _ => ob_lab _ _ _ _, ?_⟩ | refine ⟨⟨enters55, SA⟩, ?_⟩ | refine ⟨fun _ => ⟨enters55, SA⟩, ?_⟩)
        case hQ =>
        intro X9 a0 w1 hF
        refine wp_seq ?_
        apply drawn_okB hB (by kernel_rfl) T25_ok [2, 4, 5, 8, 10, 12] [2, 8, 12, 4, 5] [(4, .r fun x => .sl none (x.A 0) p (x.c 0) 2 (fun i => itC (f i)))] hF rfl
        case hex => intro A X; conv => lhs; cbv
        case hD => kernel_rfl
        case hlen => rfl
        case hob =>
          intro X
          subst hB
          refine ⟨rfl, ?_⟩
          refine ⟨⟨Int.le_refl _, show (0 : Int) ≤ (p : Int) by omega, show (p : Int) ≤ (n : Int) by omega⟩, ?_⟩
          refine ⟨⟨enters56, (SC0 _ _).sim ⟨Sim.resl (Nat.sub_zero p) (fun i hi => by show itC (f (0 + i)) = itC (f i); rw [Nat.zero_add]), trivial⟩⟩, ?_⟩
          repeat (first | exact trivial | refine ⟨rfl, ?_⟩ | refine ⟨⟨enters56, (SC0 _ _).sim ⟨Sim.resl (Nat.sub_zero p) (fun i hi => by show itC (f (0 + i)) = itC (f i); rw [Nat.zero_add]), trivial⟩⟩, ?_⟩ | refine ⟨⟨Int.le_refl _, show (0 : Int) ≤ (p : Int) by omega, show (p : Int) ≤ (n : Int) by omega⟩, ?_⟩ | refine ⟨⟨show (0 : Int) ≤ 0 by omega, show (0 : Int) ≤ (p : Int) by omega, show (p : Int) ≤ (c : Int) by omega⟩, ?_⟩)
        case hQ =>
        intro X10 a0 w1 hF
        refine wp_seq ?_
        apply drawn_okB hB (by kernel_rfl) T25_ok [4, 5, 12, 13] [12, 13, 4, 5] [(4, .r fun x => .sl none (x.A 0) r (x.c 0) 2 (fun i => itC (f (p + i))))] hF rfl
        case hex => intro A X; conv => lhs; cbv
        case hD => kernel_rfl
        case hlen => rfl
        case hob =>
          intro X
          subst hB
          repeat (first | exact trivial | refine ⟨rfl, ?_⟩ | refine ⟨⟨enters56, (SC1 _ _).sim ⟨Sim.resl (show _ = r by rw [hr]; rfl) (fun i hi => rfl), trivial⟩⟩, ?_⟩ | refine ⟨⟨show (0 : Int) ≤ (p : Int) by omega, show (p : Int) ≤ (n : Int) by omega, Int.le_refl _⟩, ?_⟩)
        case hQ =>
        intro X11 a0 w1 hF
        refine wp_seq ?_
        apply drawn_okB hB (by kernel_rfl) T25_ok [4, 5, 6] [4, 5] [] hF rfl
        case hex => intro A X; conv => lhs; cbv
        case hD => kernel_rfl
        case hlen => rfl
        case hob =>
          intro X
          subst hB
          repeat (first | exact trivial | refine ⟨rfl, ?_⟩ | refine ⟨fun _ => rfl, ?_⟩ | refine ⟨ob_lab _ _ _ _, ?_⟩ | refine ⟨fun _ => ob_lab _ _ _ _, ?_⟩)
        case hQ =>
        intro X12 a0 w1 hF
        refine wp_ret ?_
        refine ret_sim (fn := Try.f25) T25_ok hF (rs := [.cell 4 27, .cell 5 27, .tmp 6]) rfl (by conv => lhs; cbv) ?_ (⟨0, fun i => if i = 0 then (X10 4).A 0 else (X11 4).A 0, fun i => if i = 0 then (X10 4).c 0 else (X11 4).c 0, fun _ => ⟨#[]⟩⟩) ?_
        · simp [AllOb, Ob.holds]
        · subst hB
          rw [hW]
          exact Sim.tup ⟨Sim.agg ⟨Sim.refl _, Sim.resl (firsts_len f p).symm (fun t ht => by rw [firsts_len] at ht; rw [firsts_get f p t ht]), Sim.refl _, Sim.refl _, Sim.refl _, trivial⟩, Sim.agg ⟨Sim.refl _, Sim.resl (firsts_len _ r).symm (fun t ht => by rw [firsts_len] at ht; rw [firsts_get _ r t ht]), Sim.refl _, Sim.refl _, Sim.refl _, trivial⟩, Sim.refl _, trivial⟩
def T26 : List (Nat × TI) := [(3, ti3), (22, ti22), (25, ti25), (27, ti27), (29, ti29)]
theorem T26_ok : TabOK Try.prog T26 := .cons t3 (.cons t22 (.cons t25 (.cons t27 (.cons t29 (.nil)))))
theorem enters26 : Enters Try.prog 26 := fun _ _ => by kernel_rfl
theorem rhalves_s (A : Option Addr) (n c : Nat) (f : Nat → Itm) (hn : n ≤ 1000000) (kd : Int) (nx : Lab) (mk : Int) (hv : U64 nx.bits) (hki : ∀ i, i < n → U64 (f i).key) (l : Lab) (hb0 : U64 l.bits) : Spec Try.prog 26 [recI A n c f kd nx mk, labAV l] (fun x => .tup [recAV (x.A 0) (x.c 0) (halvR kd n f nx mk l).1, recAV (x.A 1) (x.c 1) (halvR kd n f nx mk l).2.1, .int .i64 (halvR kd n f nx mk l).2.2]) := by
  intro m w hm hargs
  have hmx : maxLen = 9223372036854775807 := rfl
  have SI := risR_s A n c f (by omega) kd nx mk hv
  have SL := risL_s l hb0
  have SV := covd_s A n c f hn kd nx mk l hb0 hki
  unfold recI rowI at SI SV hargs
  simp only [labAV] at SL SV hargs
  obtain ⟨ir, hir⟩ : ∃ x, x = isRF kd n f nx mk := ⟨_, rfl⟩
  obtain ⟨il, hll⟩ : ∃ x, x = isL l := ⟨_, rfl⟩
  rw [← hir] at SI
  rw [← hll] at SL
  obtain ⟨n1, hn1⟩ : ∃ x, x = (covL l (firsts f n)).length := ⟨_, rfl⟩
  obtain ⟨g1, hg1⟩ : ∃ x, x = itF (covL l (firsts f n)) := ⟨_, rfl⟩
  rw [← hn1, ← hg1] at SV
  refine enter hm hargs Try.func26 rfl (by simp [Try.ntmps26]) fun a0 hF => ?_
  simp only [Try.ntmps26, startT] at hF
  obtain ⟨B, hB⟩ : ∃ B, B = std := ⟨_, rfl⟩
  refine wp_seq ?_
  apply region_okB hB T26_ok [2, 3, 4, 5] [2, 3, 4, 5] [] hF
  case hex => intro A X; conv => lhs; cbv
  case hob =>
    intro X
    subst hB
    simp [AllOb, Ob.holds, BE.den, std, stdCmp, stdArith] <;> omega
  case hQ =>
  intro X0 a0 w1 hF
  refine wp_seq ?_
  refine wp_seq ?_
  apply drawn_okB hB (by kernel_rfl) T26_ok [30, 2, 3, 4, 5] [2, 3, 4, 5] [(1, .r fun _ => .bool (.v ir)), (5, .r fun _ => .bool (.v il)), (11, .r fun x => .sl none (x.A 0) n1 (x.c 0) 2 (fun i => itC (g1 i)))] hF rfl
  case hex => intro A X; conv => lhs; cbv
  case hD => kernel_rfl
  case hlen => rfl
  case hob =>
    intro X
    subst hB
    repeat (first | exact trivial | refine ⟨rfl, ?_⟩ | refine ⟨fun _ => rfl, ?_⟩ | refine ⟨ob_lab _ _ _ _, ?_⟩ | refine ⟨fun _ => ob_lab _ _ _ _, ?_⟩ | refine ⟨⟨enters16, SI⟩, ?_⟩ | refine ⟨fun _ => ⟨enters16, SI⟩, ?_⟩ | refine ⟨⟨enters54, SL⟩, ?_⟩ | refine ⟨fun _ => ⟨enters54, SL⟩, ?_⟩ | refine ⟨⟨enters66, SV⟩, ?_⟩ | refine ⟨fun _ => ⟨enters66, SV⟩, ?_⟩)
  case hQ =>
  intro X1 a0 w1 hF
  refine test_ok hF rfl (fun hb hF => ?_) (fun hb hF => ?_)
  · skip
    have h9 : (if (if (!ir) = true then true else !il) = true then true else !decide ((n1 : Int) = (n : Int))) = true := by subst hB; exact hb
    have hW : (halvR kd n f nx mk l) = (zeroRec, zeroRec, 1) := by
      unfold halvR; rw [← hir, ← hll, ← hn1]
      have : (ir && il && decide (n1 = n)) = false := by
        cases ir <;> cases il <;> first | rfl | (simp at h9 ⊢; omega)
      rw [this]; rfl
    refine wp_seq ?_
    apply region_okB hB T26_ok [4, 5, 6] [4, 5] [] hF
    case hex => intro A X; conv => lhs; cbv
    case hob =>
      intro X
      subst hB
      repeat (first | exact trivial | refine ⟨rfl, ?_⟩ | refine ⟨fun _ => rfl, ?_⟩ | refine ⟨ob_lab _ _ _ _, ?_⟩ | refine ⟨fun _ => ob_lab _ _ _ _, ?_⟩)
    case hQ =>
    intro X2 a0 w1 hF
    refine wp_ret ?_
    refine ret_sim (fn := Try.f26) T26_ok hF (rs := [.cell 4 27, .cell 5 27, .tmp 6]) rfl (by conv => lhs; cbv) ?_ (⟨0, fun _ => none, fun _ => 0, fun _ => ⟨#[]⟩⟩) ?_
    · simp [AllOb, Ob.holds]
    · subst hB
      rw [hW]
      exact Sim.tup ⟨Sim.agg ⟨Sim.refl _, Sim.recell (fun i hi => absurd hi (Nat.not_lt_zero _)), Sim.refl _, Sim.refl _, Sim.refl _, trivial⟩, Sim.agg ⟨Sim.refl _, Sim.recell (fun i hi => absurd hi (Nat.not_lt_zero _)), Sim.refl _, Sim.refl _, Sim.refl _, trivial⟩, Sim.refl _, trivial⟩
  · skip
    have h9 : (if (if (!ir) = true then true else !il) = true then true else !decide ((n1 : Int) = (n : Int))) = false := by subst hB; exact hb
    have hirt : ir = true := by cases ir <;> first | rfl | (simp at h9)
    have hilt : il = true := by rw [hirt] at h9; cases il <;> first | rfl | (simp at h9)
    have hnn : n1 = n := by
      rw [hirt, hilt] at h9
      simp at h9
      omega
    have hLt : isL l = true := by rw [← hll]; exact hilt
    obtain ⟨hl0, hl1, hl2⟩ := lab_parts hLt
    obtain ⟨hkd1, hkd5, hn16, hnl, hok⟩ := isRF_kind (hir.symm.trans hirt)
    have hcn : (covL l (firsts f n)).length = n := by rw [← hn1]; exact hnn
    refine wp_skip ?_
    refine wp_seq ?_
    refine wp_seq ?_
    apply region_okB hB T26_ok [40, 2, 3, 4, 5] [2, 3, 4, 5] [] hF
    case hex => intro A X; conv => lhs; cbv
    case hob =>
      intro X
      subst hB
      simp [AllOb, Ob.holds, BE.den, std, stdCmp, stdArith] <;> omega
    case hQ =>
    intro X3 a0 w1 hF
    refine test_ok hF rfl (fun hb hF => ?_) (fun hb hF => ?_)
    · skip
      have h9 : (if (!decide (kd = 1)) = true then !decide (kd = 3) else false) = true := by subst hB; exact hb
      have hk : kd ≠ 1 ∧ kd ≠ 3 := by
        rw [ite_and] at h9
        simpa using h9
      have hW : (halvR kd n f nx mk l) = (zeroRec, zeroRec, 13) := by unfold halvR; rw [← hir, ← hll, hcn, hirt, hilt, decide_eq_true rfl, if_neg (by decide), if_pos hk]
      refine wp_seq ?_
      apply region_okB hB T26_ok [4, 5, 6] [4, 5] [] hF
      case hex => intro A X; conv => lhs; cbv
      case hob =>
        intro X
        subst hB
        repeat (first | exact trivial | refine ⟨rfl, ?_⟩ | refine ⟨fun _ => rfl, ?_⟩ | refine ⟨ob_lab _ _ _ _, ?_⟩ | refine ⟨fun _ => ob_lab _ _ _ _, ?_⟩)
      case hQ =>
      intro X4 a0 w1 hF
      refine wp_ret ?_
      refine ret_sim (fn := Try.f26) T26_ok hF (rs := [.cell 4 27, .cell 5 27, .tmp 6]) rfl (by conv => lhs; cbv) ?_ (⟨0, fun _ => none, fun _ => 0, fun _ => ⟨#[]⟩⟩) ?_
      · simp [AllOb, Ob.holds]
      · subst hB
        rw [hW]
        exact Sim.tup ⟨Sim.agg ⟨Sim.refl _, Sim.recell (fun i hi => absurd hi (Nat.not_lt_zero _)), Sim.refl _, Sim.refl _, Sim.refl _, trivial⟩, Sim.agg ⟨Sim.refl _, Sim.recell (fun i hi => absurd hi (Nat.not_lt_zero _)), Sim.refl _, Sim.refl _, Sim.refl _, trivial⟩, Sim.refl _, trivial⟩
    · skip
      have h9 : (if (!decide (kd = 1)) = true then !decide (kd = 3) else false) = false := by subst hB; exact hb
      have hk : ¬ (kd ≠ 1 ∧ kd ≠ 3) := by
        intro h
        rw [ite_and] at h9
        simp [h.1, h.2] at h9
      refine wp_skip ?_
      refine wp_seq ?_
      refine wp_seq ?_
      apply region_okB hB T26_ok [45, 2, 3, 4, 5] [2, 3, 4, 5] [] hF
      case hex => intro A X; conv => lhs; cbv
      case hob =>
        intro X
        subst hB
        repeat (first | exact trivial | refine ⟨rfl, ?_⟩ | refine ⟨fun _ => rfl, ?_⟩ | refine ⟨ob_lab _ _ _ _, ?_⟩ | refine ⟨fun _ => ob_lab _ _ _ _, ?_⟩)
      case hQ =>
      intro X5 a0 w1 hF
      refine test_ok hF rfl (fun hb hF => ?_) (fun hb hF => ?_)
      · skip
        have h64 : l.len = 64 := by subst hB; simpa [std, stdCmp] using hb
        have hW : (halvR kd n f nx mk l) = (zeroRec, zeroRec, 5) := by unfold halvR; rw [← hir, ← hll, hcn, hirt, hilt, decide_eq_true rfl, if_neg (by decide), if_neg hk, if_pos h64]
        refine wp_seq ?_
        apply region_okB hB T26_ok [4, 5, 6] [4, 5] [] hF
        case hex => intro A X; conv => lhs; cbv
        case hob =>
          intro X
          subst hB
          repeat (first | exact trivial | refine ⟨rfl, ?_⟩ | refine ⟨fun _ => rfl, ?_⟩ | refine ⟨ob_lab _ _ _ _, ?_⟩ | refine ⟨fun _ => ob_lab _ _ _ _, ?_⟩)
        case hQ =>
        intro X6 a0 w1 hF
        refine wp_ret ?_
        refine ret_sim (fn := Try.f26) T26_ok hF (rs := [.cell 4 27, .cell 5 27, .tmp 6]) rfl (by conv => lhs; cbv) ?_ (⟨0, fun _ => none, fun _ => 0, fun _ => ⟨#[]⟩⟩) ?_
        · simp [AllOb, Ob.holds]
        · subst hB
          rw [hW]
          exact Sim.tup ⟨Sim.agg ⟨Sim.refl _, Sim.recell (fun i hi => absurd hi (Nat.not_lt_zero _)), Sim.refl _, Sim.refl _, Sim.refl _, trivial⟩, Sim.agg ⟨Sim.refl _, Sim.recell (fun i hi => absurd hi (Nat.not_lt_zero _)), Sim.refl _, Sim.refl _, Sim.refl _, trivial⟩, Sim.refl _, trivial⟩
      · skip
        have h64 : l.len ≠ 64 := by subst hB; simpa [std, stdCmp] using hb
        obtain ⟨k0, hk0⟩ : ∃ x, x = childL l 0 := ⟨_, rfl⟩
        have SCH0 := rchild_s l hb0 0 (by decide)
        rw [(ch_ok (b := 0) hLt h64).1, (ch_ok (b := 0) hLt h64).2, ← hk0] at SCH0
        have SV0 := covd_s A n c f hn kd nx mk k0 (by rw [hk0]; exact child_u hLt hb0 h64 0) hki
        obtain ⟨m0, hm0⟩ : ∃ x, x = (covL k0 (firsts f n)).length := ⟨_, rfl⟩
        obtain ⟨h0, hh0⟩ : ∃ x, x = itF (covL k0 (firsts f n)) := ⟨_, rfl⟩
        rw [← hm0, ← hh0] at SV0
        unfold recI rowI at SV0
        simp only [labAV] at SCH0 SV0
        obtain ⟨k1, hk1⟩ : ∃ x, x = childL l 1 := ⟨_, rfl⟩
        have SCH1 := rchild_s l hb0 1 (by decide)
        rw [(ch_ok (b := 1) hLt h64).1, (ch_ok (b := 1) hLt h64).2, ← hk1] at SCH1
        have SV1 := covd_s A n c f hn kd nx mk k1 (by rw [hk1]; exact child_u hLt hb0 h64 1) hki
        obtain ⟨m1, hm1⟩ : ∃ x, x = (covL k1 (firsts f n)).length := ⟨_, rfl⟩
        obtain ⟨h1, hh1⟩ : ∃ x, x = itF (covL k1 (firsts f n)) := ⟨_, rfl⟩
        rw [← hm1, ← hh1] at SV1
        unfold recI rowI at SV1
        simp only [labAV] at SCH1 SV1
        have hW : (halvR kd n f nx mk l) = (⟨1, covL k0 (firsts f n), k1, 0⟩, ⟨1, covL k1 (firsts f n), nx, 0⟩, 0) := by unfold halvR; rw [← hir, ← hll, hcn, hirt, hilt, decide_eq_true rfl, if_neg (by decide), if_neg hk, if_neg h64, hk0, hk1]
        refine wp_skip ?_
        refine wp_seq ?_
        apply region_okB hB T26_ok [2, 3, 4, 5, 7] [2, 3, 4, 5, 7] [(1, .r fun _ => .tup [.agg [.int .i64 k0.len, .int .u64 k0.bits], .int .i64 0])] hF
        case hex => intro A X; conv => lhs; cbv
        case hob =>
          intro X
          subst hB
          repeat (first | exact trivial | refine ⟨rfl, ?_⟩ | refine ⟨fun _ => rfl, ?_⟩ | refine ⟨ob_lab _ _ _ _, ?_⟩ | refine ⟨fun _ => ob_lab _ _ _ _, ?_⟩ | refine ⟨⟨enters67, SCH0⟩, ?_⟩ | refine ⟨fun _ => ⟨enters67, SCH0⟩, ?_⟩)
        case hQ =>
        intro X7 a0 w1 hF
        refine wp_seq ?_
        apply region_okB hB T26_ok [2, 4, 5, 7, 9] [2, 4, 5, 7, 9] [(1, .r fun _ => .tup [.agg [.int .i64 k1.len, .int .u64 k1.bits], .int .i64 0])] hF
        case hex => intro A X; conv => lhs; cbv
        case hob =>
          intro X
          subst hB
          repeat (first | exact trivial | refine ⟨rfl, ?_⟩ | refine ⟨fun _ => rfl, ?_⟩ | refine ⟨ob_lab _ _ _ _, ?_⟩ | refine ⟨fun _ => ob_lab _ _ _ _, ?_⟩ | refine ⟨⟨enters67, SCH1⟩, ?_⟩ | refine ⟨fun _ => ⟨enters67, SCH1⟩, ?_⟩)
        case hQ =>
        intro X8 a0 w1 hF
        refine wp_seq ?_
        apply drawn_okB hB (by kernel_rfl) T26_ok [2, 4, 5, 9, 11] [2, 4, 5, 9, 11] [(2, .r fun x => .sl none (x.A 0) m0 (x.c 0) 2 (fun i => itC (h0 i)))] hF rfl
        case hex => intro A X; conv => lhs; cbv
        case hD => kernel_rfl
        case hlen => rfl
        case hob =>
          intro X
          subst hB
          repeat (first | exact trivial | refine ⟨rfl, ?_⟩ | refine ⟨fun _ => rfl, ?_⟩ | refine ⟨ob_lab _ _ _ _, ?_⟩ | refine ⟨fun _ => ob_lab _ _ _ _, ?_⟩ | refine ⟨⟨enters66, SV0⟩, ?_⟩ | refine ⟨fun _ => ⟨enters66, SV0⟩, ?_⟩)
        case hQ =>
        intro X9 a0 w1 hF
        refine wp_seq ?_
        apply drawn_okB hB (by kernel_rfl) T26_ok [4, 5, 11, 12] [4, 5, 11, 12] [(2, .r fun x => .sl none (x.A 0) m1 (x.c 0) 2 (fun i => itC (h1 i)))] hF rfl
        case hex => intro A X; conv => lhs; cbv
        case hD => kernel_rfl
        case hlen => rfl
        case hob =>
          intro X
          subst hB
          repeat (first | exact trivial | refine ⟨rfl, ?_⟩ | refine ⟨fun _ => rfl, ?_⟩ | refine ⟨ob_lab _ _ _ _, ?_⟩ | refine ⟨fun _ => ob_lab _ _ _ _, ?_⟩ | refine ⟨⟨enters66, SV1⟩, ?_⟩ | refine ⟨fun _ => ⟨enters66, SV1⟩, ?_⟩)
        case hQ =>
        intro X10 a0 w1 hF
        refine wp_seq ?_
        apply drawn_okB hB (by kernel_rfl) T26_ok [4, 5, 6] [4, 5] [] hF rfl
        case hex => intro A X; conv => lhs; cbv
        case hD => kernel_rfl
        case hlen => rfl
        case hob =>
          intro X
          subst hB
          repeat (first | exact trivial | refine ⟨rfl, ?_⟩ | refine ⟨fun _ => rfl, ?_⟩ | refine ⟨ob_lab _ _ _ _, ?_⟩ | refine ⟨fun _ => ob_lab _ _ _ _, ?_⟩)
        case hQ =>
        intro X11 a0 w1 hF
        refine wp_ret ?_
        refine ret_sim (fn := Try.f26) T26_ok hF (rs := [.cell 4 27, .cell 5 27, .tmp 6]) rfl (by conv => lhs; cbv) ?_ (⟨0, fun i => if i = 0 then (X9 2).A 0 else (X10 2).A 0, fun i => if i = 0 then (X9 2).c 0 else (X10 2).c 0, fun _ => ⟨#[]⟩⟩) ?_
        · simp [AllOb, Ob.holds]
        · subst hB
          rw [hW]
          exact Sim.tup ⟨Sim.agg ⟨Sim.refl _, Sim.resl hm0 (fun t ht => by rw [hh0]), Sim.refl _, Sim.refl _, Sim.refl _, trivial⟩, Sim.agg ⟨Sim.refl _, Sim.resl hm1 (fun t ht => by rw [hh1]), Sim.refl _, Sim.refl _, Sim.refl _, trivial⟩, Sim.refl _, trivial⟩
end Go.Proofs.Ytkamdppnnhjajaa.Sym
