/-
  Records joined (printed by a program of mine). Conditions: none.
-/
import Derived.Test.YtkamdppnnhjajaaSymFr
import Derived.Test.YtkamdppnnhjajaaItGrow
import Derived.Test.YtkamdppnnhjajaaSymHalf
namespace Go.Proofs.Ytkamdppnnhjajaa.Sym
open Go Go.RowKit
set_option maxRecDepth 100000
set_option linter.unusedVariables false
set_option linter.unusedSimpArgs false
theorem two_pos {n : Nat} {m : Bool} (h : (if decide ((n : Int) > 0) = true then m else false) = true) : 0 < n ∧ m = true := by
  rw [ite_and, Bool.and_eq_true, decide_eq_true_eq] at h
  exact ⟨by omega, h.2⟩
theorem uni_ixA {n N : Nat} (hn : n ≤ 1000) (h : (if decide ((n : Int) > 0) = true then decide ((n : Int) < (N : Int)) else false) = true) : 0 ≤ IntKind.i64.wrap ((n : Int) - 1) ∧ IntKind.i64.wrap ((n : Int) - 1) < (N : Int) := by
  obtain ⟨h1, h2⟩ := two_pos h
  have h2 := of_decide_eq_true h2
  rw [wrap_in (by omega) (by omega)]
  omega
theorem uni_ixB {n N : Nat} (h : (if decide ((n : Int) > 0) = true then decide ((n : Int) < (N : Int)) else false) = true) : 0 ≤ (n : Int) ∧ (n : Int) < (N : Int) := by
  obtain ⟨h1, h2⟩ := two_pos h
  have h2 := of_decide_eq_true h2
  omega
theorem uni_ixC {n n2 : Nat} (hn : n ≤ 1000) (h : (if decide ((n : Int) > 0) = true then decide ((n2 : Int) > 0) else false) = true) : 0 ≤ IntKind.i64.wrap ((n : Int) - 1) ∧ IntKind.i64.wrap ((n : Int) - 1) < (n : Int) := by
  obtain ⟨h1, h2⟩ := two_pos h
  rw [wrap_in (by omega) (by omega)]
  omega
theorem uni_ixD {n n2 : Nat} (h : (if decide ((n : Int) > 0) = true then decide ((n2 : Int) > 0) else false) = true) : 0 ≤ (0 : Int) ∧ (0 : Int) < (n2 : Int) := by
  obtain ⟨h1, h2⟩ := two_pos h
  have h2 := of_decide_eq_true h2
  omega
def catF (n : Nat) (f f2 : Nat → Itm) : Nat → Itm := fun t => if t < n then f t else f2 (t - n)
def catL (NN : Nat → Nat) (FF : Nat → Nat → Itm) (k : Nat) : List Itm := (List.range k).flatMap fun i => firsts (FF i) (NN i)
theorem catL_succ (NN : Nat → Nat) (FF : Nat → Nat → Itm) (k : Nat) : catL NN FF (k + 1) = catL NN FF k ++ firsts (FF k) (NN k) := by simp [catL, List.range_succ]
theorem catL_two (n n2 : Nat) (f f2 : Nat → Itm) : catL (fun i => if i = 0 then n else n2) (fun i => if i = 0 then f else f2) 2 = firsts f n ++ firsts f2 n2 := by simp [catL, List.range_succ]
theorem catF_firsts (q m : Nat) (g h : Nat → Itm) : firsts (catF q g h) (q + m) = firsts g q ++ firsts h m := by
  rw [firsts_add]
  congr 1
  · unfold firsts catF
    apply List.map_congr_left
    intro t ht
    rw [if_pos (List.mem_range.1 ht)]
  · unfold firsts catF
    apply List.map_congr_left
    intro t ht
    rw [if_neg (by omega)]
    congr 1
    omega
theorem cat_at (f : Nat → Itm) (n : Nat) (f2 : Nat → Itm) (n2 t : Nat) (h : t < n + n2) : itF (firsts f n ++ firsts f2 n2) t = catF n f f2 t := by
  rw [← catF_firsts, firsts_get _ _ t h]
theorem ov_test (f : Nat → Itm) (n : Nat) (f2 : Nat → Itm) (n2 : Nat) (hn : n ≤ 1000) (hn2 : n2 ≤ 1000) {b : Bool} : (if b = true then true else (if (if decide ((n : Int) > 0) = true then decide ((n : Int) < ((n + n2 : Nat) : Int)) else false) = true then decide ((itF (firsts f n ++ firsts f2 n2) (IntKind.i64.wrap ((n : Int) - 1)).toNat).key ≥ (itF (firsts f n ++ firsts f2 n2) (n : Int).toNat).key) else false)) = (if b = true then true else ovl n f n2 f2) := by
  congr 1
  unfold ovl
  by_cases h1 : 0 < n
  · by_cases h2 : 0 < n2
    · have e1 : IntKind.i64.wrap ((n : Int) - 1) = (n : Int) - 1 := wrap_in (by omega) (by omega)
      rw [e1, Int.toNat_natCast, show ((n : Int) - 1).toNat = n - 1 by omega, cat_at _ _ _ _ _ (show n - 1 < n + n2 by omega), cat_at _ _ _ _ _ (show n < n + n2 by omega)]
      have c1 : catF n f f2 (n - 1) = f (n - 1) := by unfold catF; rw [if_pos (by omega)]
      have c2 : catF n f f2 n = f2 0 := by unfold catF; rw [if_neg (by omega), Nat.sub_self]
      rw [c1, c2]
      have a : decide ((n : Int) > 0) = true := by simp; omega
      have b : decide ((n : Int) < ((n + n2 : Nat) : Int)) = true := by simp; omega
      rw [a, b, decide_eq_true h1, decide_eq_true h2]
      simp
    · have b : decide ((n : Int) < ((n + n2 : Nat) : Int)) = false := by simp; omega
      rw [b, decide_eq_false h2]
      simp
  · have a : decide ((n : Int) > 0) = false := by simp; omega
    rw [a, decide_eq_false h1]
    simp
theorem ov_test2 (f : Nat → Itm) (n : Nat) (f2 : Nat → Itm) (n2 : Nat) (hn : n ≤ 1000) : (if (if decide ((n : Int) > 0) = true then decide ((n2 : Int) > 0) else false) = true then decide ((f (IntKind.i64.wrap ((n : Int) - 1)).toNat).key ≥ (f2 (0 : Int).toNat).key) else false) = ovl n f n2 f2 := by
  unfold ovl
  by_cases h1 : 0 < n
  · have e1 : IntKind.i64.wrap ((n : Int) - 1) = (n : Int) - 1 := wrap_in (by omega) (by omega)
    have a : decide ((n : Int) > 0) = true := by simp; omega
    rw [e1, show ((n : Int) - 1).toNat = n - 1 by omega, a, decide_eq_true h1]
    by_cases h2 : 0 < n2
    · have b : decide ((n2 : Int) > 0) = true := by simp; omega
      rw [b, decide_eq_true h2]
      simp
    · have b : decide ((n2 : Int) > 0) = false := by simp; omega
      rw [b, decide_eq_false h2]
      simp
  · have a : decide ((n : Int) > 0) = false := by simp; omega
    rw [a, decide_eq_false h1]
    simp
theorem kind_test (kd kd2 : Int) : ((if (if (!decide (kd = 1)) = true then !decide (kd = 5) else false) = true then true else (if (!decide (kd2 = 1)) = true then !decide (kd2 = 5) else false)) = true → ¬ (kd = 1 ∨ kd = 5) ∨ ¬ (kd2 = 1 ∨ kd2 = 5)) ∧
    ((if (if (!decide (kd = 1)) = true then !decide (kd = 5) else false) = true then true else (if (!decide (kd2 = 1)) = true then !decide (kd2 = 5) else false)) = false → ¬ (¬ (kd = 1 ∨ kd = 5) ∨ ¬ (kd2 = 1 ∨ kd2 = 5))) := by
  rw [ite_and, ite_and, ite_or]
  constructor
  · intro h
    simp at h
    omega
  · intro h
    simp at h
    omega
theorem enters93 : Enters Try.prog 93 := fun _ _ => by kernel_rfl
def T68 : List (Nat × TI) := [(3, ti3), (9, ti9), (22, ti22), (119, ti119)]
theorem T68_ok : TabOK Try.prog T68 := .cons t3 (.cons t9 (.cons t22 (.cons t119 (.nil))))
theorem enters68 : Enters Try.prog 68 := fun _ _ => by kernel_rfl
theorem concat_s (A0 : Option Addr) (k c0 : Nat) (AA : Nat → Option Addr) (NN CC : Nat → Nat) (FF : Nat → Nat → Itm) (hk : k ≤ 10) (hN : ∀ i, i < k → NN i ≤ 1000) : Spec Try.prog 68 [.sl none A0 k c0 1 (fun i => [.sl none (AA i) (NN i) (CC i) 2 (fun t => itC (FF i t))])] (fun x => rowI (x.A 0) (catL NN FF k).length (x.c 0) (itF (catL NN FF k))) := by
  intro m w hm hargs
  have hmx : maxLen = 9223372036854775807 := rfl
  refine enter hm hargs Try.func68 rfl (by simp [Try.ntmps68]) fun a0 hF => ?_
  simp only [Try.ntmps68, startT] at hF
  obtain ⟨B, hB⟩ : ∃ B, B = std := ⟨_, rfl⟩
  refine wp_seq ?_
  apply region_okB hB T68_ok [0] [] [] hF
  case hex => intro A X; conv => lhs; cbv
  case hob =>
    intro X
    subst hB
    simp [AllOb, Ob.holds, BE.den, std, stdCmp, stdArith] <;> omega
  case hQ =>
  intro X0 a0 w1 hF
  refine wp_seq ?_
  apply region_okB hB T68_ok [3, 0] [] [] hF
  case hex => intro A X; conv => lhs; cbv
  case hob =>
    intro X
    subst hB
    simp [AllOb, Ob.holds, BE.den, std, stdCmp, stdArith] <;> omega
  case hQ =>
  intro X1 a0 w1 hF
  refine wp_seq ?_
  refine wp_seq ?_
  apply region_okB hB T68_ok [3, 11, 0, 9, 10] [] [] hF
  case hex => intro A X; conv => lhs; cbv
  case hob =>
    intro X
    subst hB
    simp [AllOb, Ob.holds, BE.den, std, stdCmp, stdArith] <;> omega
  case hQ =>
  intro X2 a0 w1 hF
  refine wp_block ?_
  refine loop_pre (ι := Nat × Nat) (fun p => [(3, .int .i64 (p.2 : Int)), (11, .int .i64 (p.1 : Int))]) (fun p => []) (fun p => []) (fun p => p.1 ≤ k ∧ p.2 = (catL NN FF p.1).length ∧ p.2 ≤ 1000 * p.1) (fun p => k - p.1) (0, 0) ⟨Nat.zero_le _, rfl, Nat.le_refl _⟩ hF ?_
  rintro ⟨i, z⟩ ⟨hi, hz, hzb⟩ a0 w1 hF
  try dsimp only at hi
  try dsimp only at hz
  try dsimp only at hzb
  refine wp_seq ?_
  apply region_okB hB T68_ok [12, 3, 11, 0, 9, 10] [] [] hF
  case hex => intro A X; conv => lhs; cbv
  case hob =>
    intro X
    subst hB
    simp [AllOb, Ob.holds, BE.den, std, stdCmp, stdArith] <;> omega
  case hQ =>
  intro X3 a0 w1 hF
  refine wp_seq ?_
  refine test_ok hF rfl (fun hb hF => ?_) (fun hb hF => ?_)
  · skip
    have hin : i < k := by
      have : (i : Int) < (k : Int) := by subst hB; simpa [std, stdCmp] using hb
      omega
    have hNi := hN i hin
    refine wp_skip ?_
    refine wp_seq ?_
    refine wp_block ?_
    refine wp_seq ?_
    apply region_okB hB T68_ok [5, 3, 11, 0, 9, 10] [] [] hF
    case hex => intro A X; conv => lhs; cbv
    case hob =>
      intro X
      subst hB
      repeat (first | exact trivial | refine ⟨rfl, ?_⟩ | refine ⟨⟨show (0 : Int) ≤ (i : Int) by omega, show (i : Int) < (k : Int) by omega⟩, ?_⟩)
    case hQ =>
    intro X4 a0 w1 hF
    refine wp_seq ?_
    apply region_okB hB T68_ok [3, 11, 0, 9, 10] [] [] hF
    case hex => intro A X; conv => lhs; cbv
    case hob =>
      intro X
      subst hB
      simp [AllOb, Ob.holds, BE.den, std, stdCmp, stdArith] <;> omega
    case hQ =>
    intro X5 a0 w1 hF
    obtain ⟨z2, hz2⟩ : ∃ x, x = z + NN i := ⟨_, rfl⟩
    replace hF := hF.head (v' := .int .i64 (z2 : Int)) (by
      subst hB
      show AV.int .i64 (IntKind.i64.wrap ((z : Int) + (NN i : Int))) = _
      rw [wrap_in (by omega) (by omega), hz2]; rfl)
    refine wp_seq ?_
    apply region_okB hB T68_ok [20, 3, 11, 0, 9, 10] [] [] hF
    case hex => intro A X; conv => lhs; cbv
    case hob =>
      intro X
      subst hB
      simp [AllOb, Ob.holds, BE.den, std, stdCmp, stdArith] <;> omega
    case hQ =>
    intro X6 a0 w1 hF
    refine test_ok hF rfl (fun hb hF => ?_) (fun hb hF => ?_)
    · exfalso
      have : (z2 : Int) < 0 := by subst hB; simpa [std, stdCmp] using hb
      omega
    · skip
      skip
      refine wp_skip ?_
      apply region_okB hB T68_ok [3, 11, 0, 9, 10] [] [] hF
      case hex => intro A X; conv => lhs; cbv
      case hob =>
        intro X
        subst hB
        simp [AllOb, Ob.holds, BE.den, std, stdCmp, stdArith] <;> omega
      case hQ =>
      intro X8 a0 w1 hF
      have e : B.arith .add .i64 (i : Int) 1 = ((i + 1 : Nat) : Int) := by subst hB; exact wrap_succ (n := k) hin (by omega)
      refine ⟨(i + 1, z2), ⟨by simp only; omega, ?_, by simp only; omega⟩, by simp only; omega, by rw [← e]; exact hF⟩
      simp only
      rw [hz2, catL_succ, List.length_append, firsts_len, ← hz]
  · skip
    have hout : i = k := by
      have : ¬ (i : Int) < (k : Int) := by subst hB; simpa [std, stdCmp] using hb
      omega
    rw [hout] at hz hzb
    refine wp_exit ?_
    refine wp_seq ?_
    refine wp_region_lit ?_
    apply list_preB 0 1 hB T68_ok [23, 0] [] [] hF
    case hex => intro A X; conv => lhs; cbv
    case hob =>
      intro X
      subst hB
      simp [AllOb, Ob.holds, BE.den, std, stdCmp, stdArith] <;> omega
    case hQ =>
    intro X9_0 a0 w1 hF
    have ev := eval_int hF (t := 23) (k := .i64) (n := (z : Int)) rfl
    refine man_fresh2 (argv := #[.slice none 0 0, .int .i64 (z : Int)]) rfl rfl rfl rfl rfl hF (by have e2 := ev; simp [Act.eval] at e2 ⊢; exact e2) enters93 (by show 24 < 36; decide) (e := 53) (k := 2) (by decide) (fun t => itC zeroItm) (grow_c w1 z (by omega)) ?_
    intro A9 c9 a0 w1 hF
    apply list_endB 2 hB T68_ok [6, 0] [24] [] hF
    case hex => intro A X; conv => lhs; cbv
    case hob =>
      intro X
      subst hB
      simp [AllOb, Ob.holds, BE.den, std, stdCmp, stdArith] <;> omega
    case hQ =>
    intro X9 a0 w1 hF
    refine wp_seq ?_
    refine wp_seq ?_
    apply region_okB hB T68_ok [6, 27, 25, 26] [24] [] hF
    case hex => intro A X; conv => lhs; cbv
    case hob =>
      intro X
      subst hB
      simp [AllOb, Ob.holds, BE.den, std, stdCmp, stdArith] <;> omega
    case hQ =>
    intro X10 a0 w1 hF
    refine wp_block ?_
    refine loop_pre (ι := Nat × Nat × (Nat → Itm) × Option Addr × Nat) (fun p => [(6, .sl (some 24) p.2.2.2.1 p.2.1 p.2.2.2.2 2 (fun t => itC (p.2.2.1 t))), (27, .int .i64 (p.1 : Int))]) (fun p => []) (fun p => [(24, ⟨p.2.2.2.1, p.2.1, p.2.2.2.2, 2, 53⟩)]) (fun p => p.1 ≤ k ∧ firsts p.2.2.1 p.2.1 = catL NN FF p.1 ∧ p.2.1 ≤ 1000 * p.1) (fun p => k - p.1) (0, 0, fun _ => zeroItm, A9, c9) ⟨Nat.zero_le _, rfl, Nat.le_refl _⟩ hF ?_
    rintro ⟨i, q, g, A1, c1⟩ ⟨hi, hg, hqb⟩ a0 w1 hF
    try dsimp only at hi
    try dsimp only at hg
    try dsimp only at hqb
    refine wp_seq ?_
    apply region_okB hB T68_ok [28, 6, 27, 25, 26] [24] [] hF
    case hex => intro A X; conv => lhs; cbv
    case hob =>
      intro X
      subst hB
      simp [AllOb, Ob.holds, BE.den, std, stdCmp, stdArith] <;> omega
    case hQ =>
    intro X11 a0 w1 hF
    refine wp_seq ?_
    refine test_ok hF rfl (fun hb hF => ?_) (fun hb hF => ?_)
    · skip
      have hin : i < k := by
        have : (i : Int) < (k : Int) := by subst hB; simpa [std, stdCmp] using hb
        omega
      have hNi := hN i hin
      refine wp_skip ?_
      refine wp_seq ?_
      refine wp_block ?_
      refine wp_seq ?_
      apply region_okB hB T68_ok [8, 6, 27, 25, 26] [24] [] hF
      case hex => intro A X; conv => lhs; cbv
      case hob =>
        intro X
        subst hB
        repeat (first | exact trivial | refine ⟨rfl, ?_⟩ | refine ⟨⟨show (0 : Int) ≤ (i : Int) by omega, show (i : Int) < (k : Int) by omega⟩, ?_⟩)
      case hQ =>
      intro X12 a0 w1 hF
      apply region_okB hB T68_ok [6, 27, 25, 26] [24] [] hF
      case hex => intro A X; conv => lhs; cbv
      case hob =>
        intro X
        subst hB
        repeat (first | exact trivial | refine ⟨⟨rfl, rfl, rfl⟩, ?_⟩ | refine ⟨⟨show q + NN i ≤ maxLen by omega, show (q + NN i) * _ ≤ _ by omega⟩, ?_⟩ | refine ⟨rfl, ?_⟩)
      case hQ =>
      intro X13 a0 w1 hF
      replace hF := hF.headS (v' := .sl (some 24) ((X13 2).A 0) (B.nadd q (NN (B.toNat (i : Int)))) ((X13 2).c 0) 2 (fun t => itC (catF q g (FF i) t))) (Sim.resl rfl (fun t ht => by
        subst hB
        show appC q (fun t => itC (g t)) (fun t => itC (FF i t)) t = _
        unfold appC catF
        split <;> rfl)) rfl
      apply region_okB hB T68_ok [6, 27, 25, 26] [24] [] hF
      case hex => intro A X; conv => lhs; cbv
      case hob =>
        intro X
        subst hB
        simp [AllOb, Ob.holds, BE.den, std, stdCmp, stdArith] <;> omega
      case hQ =>
      intro X14 a0 w1 hF
      have e : B.arith .add .i64 (i : Int) 1 = ((i + 1 : Nat) : Int) := by subst hB; exact wrap_succ (n := k) hin (by omega)
      refine ⟨(i + 1, q + NN i, catF q g (FF i), _, _), ⟨by simp only; omega, ?_, by simp only; omega⟩, by simp only; omega, by rw [← e, show q + NN i = B.nadd q (NN (B.toNat (i : Int))) by subst hB; rfl]; exact hF⟩
      simp only
      rw [catL_succ, catF_firsts, hg]
    · skip
      have hout : i = k := by
        have : ¬ (i : Int) < (k : Int) := by subst hB; simpa [std, stdCmp] using hb
        omega
      rw [hout] at hg
      refine wp_exit ?_
      refine wp_seq ?_
      apply region_okB hB T68_ok [2] [2, 33] [] hF
      case hex => intro A X; conv => lhs; cbv
      case hob =>
        intro X
        subst hB
        simp [AllOb, Ob.holds, BE.den, std, stdCmp, stdArith] <;> omega
      case hQ =>
      intro X15 a0 w1 hF
      refine wp_ret ?_
      refine ret_sim (fn := Try.f68) T68_ok hF (rs := [.tmp 2]) rfl (rfl) ?_ (⟨0, fun _ => A1, fun _ => c1, fun _ => ⟨#[]⟩⟩) ?_
      · simp [AllOb, Ob.holds]
      · subst hB
        exact Sim.resl (by rw [← hg, firsts_len]) (fun t ht => by rw [← hg, firsts_len] at ht; rw [← hg, firsts_get _ _ t ht])
def T69 : List (Nat × TI) := [(3, ti3), (4, ti4), (27, ti27)]
theorem T69_ok : TabOK Try.prog T69 := .cons t3 (.cons t4 (.cons t27 (.nil)))
theorem enters69 : Enters Try.prog 69 := fun _ _ => by kernel_rfl
theorem fixed_s (A : Option Addr) (n c : Nat) (f : Nat → Itm) (hn : n ≤ 1000000) (kd : Int) (nx : Lab) (mk : Int) : Spec Try.prog 69 [recI A n c f kd nx mk] (fun _ => .bool (.v (decide (kd = 1) || decide (kd = 5)))) := by
  intro m w hm hargs
  unfold recI rowI at hargs
  refine enter hm hargs Try.func69 rfl (by simp [Try.ntmps69]) fun a0 hF => ?_
  simp only [Try.ntmps69, startT] at hF
  obtain ⟨B, hB⟩ : ∃ B, B = std := ⟨_, rfl⟩
  refine wp_seq ?_
  apply region_okB hB T69_ok [1] [1] [] hF
  case hex => intro A X; conv => lhs; cbv
  case hob =>
    intro X
    subst hB
    simp [AllOb, Ob.holds, BE.den, std, stdCmp, stdArith] <;> omega
  case hQ =>
  intro X0 a0 w1 hF
  refine wp_seq ?_
  apply region_okB hB T69_ok [2] [] [] hF
  case hex => intro A X; conv => lhs; cbv
  case hob =>
    intro X
    subst hB
    simp [AllOb, Ob.holds, BE.den, std, stdCmp, stdArith] <;> omega
  case hQ =>
  intro X1 a0 w1 hF
  refine wp_ret ?_
  refine ret_sim (fn := Try.f69) T69_ok hF (rs := [.tmp 2]) rfl (rfl) ?_ noAtom ?_
  · simp [AllOb, Ob.holds]
  · subst hB
    exact Sim.bool (by show (if decide (kd = 1) = true then true else decide (kd = 5)) = _; rw [ite_or]; rfl)
def T27 : List (Nat × TI) := [(3, ti3), (4, ti4), (22, ti22), (23, ti23), (25, ti25), (27, ti27), (29, ti29), (53, ti53), (119, ti119)]
theorem T27_ok : TabOK Try.prog T27 := .cons t3 (.cons t4 (.cons t22 (.cons t23 (.cons t25 (.cons t27 (.cons t29 (.cons t53 (.cons t119 (.nil)))))))))
theorem enters27 : Enters Try.prog 27 := fun _ _ => by kernel_rfl
theorem union_s (A : Option Addr) (n c : Nat) (f : Nat → Itm) (hn : n ≤ 1000) (kd : Int) (nx : Lab) (mk : Int) (hv : U64 nx.bits) (A2 : Option Addr) (n2 c2 : Nat) (f2 : Nat → Itm) (hn2 : n2 ≤ 1000) (kd2 : Int) (nx2 : Lab) (mk2 : Int) (hv2 : U64 nx2.bits) : Spec Try.prog 27 [recI A n c f kd nx mk, recI A2 n2 c2 f2 kd2 nx2 mk2] (fun x => .tup [recAV (x.A 0) (x.c 0) (uniR kd n f nx mk kd2 n2 f2 nx2 mk2).1, .int .i64 (uniR kd n f nx mk kd2 n2 f2 nx2 mk2).2]) := by
  intro m w hm hargs
  have hmx : maxLen = 9223372036854775807 := rfl
  have SI := isR_s A n c f (by omega) kd nx mk hv
  have SI2 := isR_s A2 n2 c2 f2 (by omega) kd2 nx2 mk2 hv2
  obtain ⟨i1, hi1⟩ : ∃ x, x = isRF kd n f nx mk := ⟨_, rfl⟩
  obtain ⟨i2, hi2⟩ : ∃ x, x = isRF kd2 n2 f2 nx2 mk2 := ⟨_, rfl⟩
  obtain ⟨ov, hov⟩ : ∃ x, x = ovl n f n2 f2 := ⟨_, rfl⟩
  rw [← hi1] at SI
  rw [← hi2] at SI2
  unfold recI rowI at SI SI2 hargs
  have SF := fixed_s A n c f (by omega) kd nx mk
  have SF2 := fixed_s A2 n2 c2 f2 (by omega) kd2 nx2 mk2
  unfold recI rowI at SF SF2
  obtain ⟨x1, hx1⟩ : ∃ x, x = (decide (kd = 1) || decide (kd = 5)) := ⟨_, rfl⟩
  obtain ⟨x2, hx2⟩ : ∃ x, x = (decide (kd2 = 1) || decide (kd2 = 5)) := ⟨_, rfl⟩
  rw [← hx1] at SF
  rw [← hx2] at SF2
  have SC := fun A0 => concat_s A0 2 2 (fun i => if i = 0 then A else A2) (fun i => if i = 0 then n else n2) (fun i => if i = 0 then c else c2) (fun i => if i = 0 then f else f2) (by decide) (fun i hi => by show (if i = 0 then n else n2) ≤ 1000; split <;> omega)
  rw [catL_two] at SC
  obtain ⟨N, hN⟩ : ∃ x, x = (firsts f n ++ firsts f2 n2).length := ⟨_, rfl⟩
  obtain ⟨g, hg⟩ : ∃ x, x = itF (firsts f n ++ firsts f2 n2) := ⟨_, rfl⟩
  rw [← hN, ← hg] at SC
  have hNn : N = n + n2 := by rw [hN, List.length_append, firsts_len, firsts_len]
  have hot := ov_test (b := (if (!i1) = true then true else !i2)) f n f2 n2 (by omega) (by omega)
  rw [← hg, ← hNn, ← hov] at hot
  unfold rowI at SC
  refine enter hm hargs Try.func27 rfl (by simp [Try.ntmps27]) fun a0 hF => ?_
  simp only [Try.ntmps27, startT] at hF
  obtain ⟨B, hB⟩ : ∃ B, B = std := ⟨_, rfl⟩
  refine wp_seq ?_
  apply region_okB hB T27_ok [2, 3, 4] [2, 3, 4] [] hF
  case hex => intro A X; conv => lhs; cbv
  case hob =>
    intro X
    subst hB
    simp [AllOb, Ob.holds, BE.den, std, stdCmp, stdArith] <;> omega
  case hQ =>
  intro X0 a0 w1 hF
  refine wp_seq ?_
  apply region_okB hB T27_ok [6, 2, 3, 4] [2, 3, 4] [(5, .r fun x => .sl none (x.A 0) N (x.c 0) 2 (fun i => itC (g i)))] hF
  case hex => intro A X; conv => lhs; cbv
  case hob =>
    intro X
    subst hB
    repeat (first | exact trivial | refine ⟨rfl, ?_⟩ | refine ⟨⟨enters68, (SC _).sim ⟨Sim.resl rfl (fun i hi => by have h2 : i = 0 ∨ i = 1 := (by omega); rcases h2 with rfl | rfl <;> rfl), trivial⟩⟩, ?_⟩)
  case hQ =>
  intro X1 a0 w1 hF
  refine wp_seq ?_
  apply region_okB hB T27_ok [7, 6, 2, 3, 4] [2, 3, 4] [] hF
  case hex => intro A X; conv => lhs; cbv
  case hob =>
    intro X
    subst hB
    simp [AllOb, Ob.holds, BE.den, std, stdCmp, stdArith] <;> omega
  case hQ =>
  intro X2 a0 w1 hF
  replace hF := hF.head (v' := .int .i64 (n : Int)) (by subst hB; rfl)
  refine wp_seq ?_
  refine wp_block ?_
  refine wp_seq ?_
  apply drawn_okB hB (by kernel_rfl) T27_ok [17, 6, 7, 2, 3, 4] [2, 3, 4] [(1, .r fun _ => .bool (.v i1)), (5, .r fun _ => .bool (.v i2))] hF rfl
  case hex => intro A X; conv => lhs; cbv
  case hD => kernel_rfl
  case hlen => rfl
  case hob =>
    intro X
    subst hB
    simp only [AllOb, Ob.holds, BE.den, List.mem_cons, List.not_mem_nil, or_false, forall_eq_or_imp, forall_eq]
    and_intros <;> first | trivial | exact enters15 | exact SI | exact SI2 | (intros; first | trivial | exact enters15 | exact SI2 | exact ⟨enters15, SI2⟩) | (intro h; first | exact uni_ixA hn h.1 | exact uni_ixB h.1)
  case hQ =>
  intro X3 a0 w1 hF
  refine test_ok hF rfl (fun hb hF => ?_) (fun hb hF => ?_)
  · skip
    have h9 : (if (if (!i1) = true then true else !i2) = true then true else (if (if decide ((n : Int) > 0) = true then decide ((n : Int) < (N : Int)) else false) = true then decide ((g (IntKind.i64.wrap ((n : Int) - 1)).toNat).key ≥ (g (n : Int).toNat).key) else false)) = true := by subst hB; exact hb
    rw [hot] at h9
    have hW : (uniR kd n f nx mk kd2 n2 f2 nx2 mk2) = (zeroRec, 1) := by unfold uniR; rw [← hi1, ← hi2, ← hov]; cases i1 <;> cases i2 <;> cases ov <;> first | rfl | (simp at h9)
    refine wp_seq ?_
    apply region_okB hB T27_ok [4, 5] [4] [] hF
    case hex => intro A X; conv => lhs; cbv
    case hob =>
      intro X
      subst hB
      repeat (first | exact trivial | refine ⟨rfl, ?_⟩ | refine ⟨fun _ => rfl, ?_⟩ | refine ⟨ob_lab _ _ _ _, ?_⟩ | refine ⟨fun _ => ob_lab _ _ _ _, ?_⟩)
    case hQ =>
    intro X4 a0 w1 hF
    refine wp_ret ?_
    refine ret_sim (fn := Try.f27) T27_ok hF (rs := [.cell 4 27, .tmp 5]) rfl (by conv => lhs; cbv) ?_ (⟨0, fun _ => none, fun _ => 0, fun _ => ⟨#[]⟩⟩) ?_
    · simp [AllOb, Ob.holds]
    · subst hB
      rw [hW]
      exact Sim.tup ⟨Sim.agg ⟨Sim.refl _, Sim.recell (fun i hi => absurd hi (Nat.not_lt_zero _)), Sim.refl _, Sim.refl _, Sim.refl _, trivial⟩, Sim.refl _, trivial⟩
  · skip
    have h9 : (if (if (!i1) = true then true else !i2) = true then true else (if (if decide ((n : Int) > 0) = true then decide ((n : Int) < (N : Int)) else false) = true then decide ((g (IntKind.i64.wrap ((n : Int) - 1)).toNat).key ≥ (g (n : Int).toNat).key) else false)) = false := by subst hB; exact hb
    rw [hot] at h9
    have h12 : i1 = true ∧ i2 = true ∧ ov = false := by cases i1 <;> cases i2 <;> cases ov <;> first | exact ⟨rfl, rfl, rfl⟩ | (simp at h9)
    obtain ⟨h1t, h2t, hovf⟩ := h12
    have hU : (uniR kd n f nx mk kd2 n2 f2 nx2 mk2) = (if ¬ (kd = 1 ∨ kd = 5) ∨ ¬ (kd2 = 1 ∨ kd2 = 5) then (zeroRec, 13) else if 16 < n + n2 then (zeroRec, 12) else (⟨1, firsts f n ++ firsts f2 n2, nx2, 0⟩, 0)) := by unfold uniR; rw [← hi1, ← hi2, ← hov, h1t, h2t, hovf]; rfl
    refine wp_seq ?_
    apply region_okB hB T27_ok [51, 6, 3, 4] [3, 4] [(1, .r fun _ => .bool (.v x1)), (5, .r fun _ => .bool (.v x2))] hF
    case hex => intro A X; conv => lhs; cbv
    case hob =>
      intro X
      subst hB
      repeat (first | exact trivial | refine ⟨rfl, ?_⟩ | refine ⟨fun _ => rfl, ?_⟩ | refine ⟨ob_lab _ _ _ _, ?_⟩ | refine ⟨fun _ => ob_lab _ _ _ _, ?_⟩ | refine ⟨⟨enters69, SF⟩, ?_⟩ | refine ⟨fun _ => ⟨enters69, SF⟩, ?_⟩ | refine ⟨⟨enters69, SF2⟩, ?_⟩ | refine ⟨fun _ => ⟨enters69, SF2⟩, ?_⟩)
    case hQ =>
    intro X5 a0 w1 hF
    refine test_ok hF rfl (fun hb hF => ?_) (fun hb hF => ?_)
    · skip
      have h9 : (if (!x1) = true then true else !x2) = true := by subst hB; exact hb
      have hfx : ¬ (kd = 1 ∨ kd = 5) ∨ ¬ (kd2 = 1 ∨ kd2 = 5) := by
        cases h1 : x1 with
        | false => left; rw [h1] at hx1; simpa using hx1.symm
        | true =>
          right
          rw [h1] at h9
          have h2 : x2 = false := by cases x2 <;> first | rfl | (simp at h9)
          rw [h2] at hx2; simpa using hx2.symm
      have hW : (uniR kd n f nx mk kd2 n2 f2 nx2 mk2) = (zeroRec, 13) := by rw [hU, if_pos hfx]
      refine wp_seq ?_
      apply region_okB hB T27_ok [4, 5] [4] [] hF
      case hex => intro A X; conv => lhs; cbv
      case hob =>
        intro X
        subst hB
        repeat (first | exact trivial | refine ⟨rfl, ?_⟩ | refine ⟨fun _ => rfl, ?_⟩ | refine ⟨ob_lab _ _ _ _, ?_⟩ | refine ⟨fun _ => ob_lab _ _ _ _, ?_⟩)
      case hQ =>
      intro X6 a0 w1 hF
      refine wp_ret ?_
      refine ret_sim (fn := Try.f27) T27_ok hF (rs := [.cell 4 27, .tmp 5]) rfl (by conv => lhs; cbv) ?_ (⟨0, fun _ => none, fun _ => 0, fun _ => ⟨#[]⟩⟩) ?_
      · simp [AllOb, Ob.holds]
      · subst hB
        rw [hW]
        exact Sim.tup ⟨Sim.agg ⟨Sim.refl _, Sim.recell (fun i hi => absurd hi (Nat.not_lt_zero _)), Sim.refl _, Sim.refl _, Sim.refl _, trivial⟩, Sim.refl _, trivial⟩
    · skip
      have h9 : (if (!x1) = true then true else !x2) = false := by subst hB; exact hb
      have hfx : ¬ (¬ (kd = 1 ∨ kd = 5) ∨ ¬ (kd2 = 1 ∨ kd2 = 5)) := by
        have h1 : x1 = true ∧ x2 = true := by cases x1 <;> cases x2 <;> first | exact ⟨rfl, rfl⟩ | (simp at h9)
        rw [h1.1] at hx1; rw [h1.2] at hx2
        have a := hx1.symm; have b := hx2.symm
        simp only [Bool.or_eq_true, decide_eq_true_eq] at a b
        intro h
        rcases h with h | h
        · exact h a
        · exact h b
      refine wp_seq ?_
      apply region_okB hB T27_ok [61, 6, 3, 4] [3, 4] [] hF
      case hex => intro A X; conv => lhs; cbv
      case hob =>
        intro X
        subst hB
        simp [AllOb, Ob.holds, BE.den, std, stdCmp, stdArith] <;> omega
      case hQ =>
      intro X7 a0 w1 hF
      refine test_ok hF rfl (fun hb hF => ?_) (fun hb hF => ?_)
      · skip
        have hf16 : 16 < n + n2 := by
          have : (16 : Int) < (N : Int) := by subst hB; simpa [std, stdCmp] using hb
          omega
        have hW : (uniR kd n f nx mk kd2 n2 f2 nx2 mk2) = (zeroRec, 12) := by rw [hU, if_neg hfx, if_pos hf16]
        refine wp_seq ?_
        apply region_okB hB T27_ok [4, 5] [4] [] hF
        case hex => intro A X; conv => lhs; cbv
        case hob =>
          intro X
          subst hB
          repeat (first | exact trivial | refine ⟨rfl, ?_⟩ | refine ⟨fun _ => rfl, ?_⟩ | refine ⟨ob_lab _ _ _ _, ?_⟩ | refine ⟨fun _ => ob_lab _ _ _ _, ?_⟩)
        case hQ =>
        intro X8 a0 w1 hF
        refine wp_ret ?_
        refine ret_sim (fn := Try.f27) T27_ok hF (rs := [.cell 4 27, .tmp 5]) rfl (by conv => lhs; cbv) ?_ (⟨0, fun _ => none, fun _ => 0, fun _ => ⟨#[]⟩⟩) ?_
        · simp [AllOb, Ob.holds]
        · subst hB
          rw [hW]
          exact Sim.tup ⟨Sim.agg ⟨Sim.refl _, Sim.recell (fun i hi => absurd hi (Nat.not_lt_zero _)), Sim.refl _, Sim.refl _, Sim.refl _, trivial⟩, Sim.refl _, trivial⟩
      · skip
        have hf16 : ¬ 16 < n + n2 := by
          have : ¬ (16 : Int) < (N : Int) := by subst hB; simpa [std, stdCmp] using hb
          omega
        have hW : (uniR kd n f nx mk kd2 n2 f2 nx2 mk2) = (⟨1, firsts f n ++ firsts f2 n2, nx2, 0⟩, 0) := by rw [hU, if_neg hfx, if_neg hf16]
        refine wp_skip ?_
        refine wp_seq ?_
        apply region_okB hB T27_ok [4, 5] [4] [] hF
        case hex => intro A X; conv => lhs; cbv
        case hob =>
          intro X
          subst hB
          repeat (first | exact trivial | refine ⟨rfl, ?_⟩ | refine ⟨fun _ => rfl, ?_⟩ | refine ⟨ob_lab _ _ _ _, ?_⟩ | refine ⟨fun _ => ob_lab _ _ _ _, ?_⟩)
        case hQ =>
        intro X9 a0 w1 hF
        refine wp_ret ?_
        refine ret_sim (fn := Try.f27) T27_ok hF (rs := [.cell 4 27, .tmp 5]) rfl (by conv => lhs; cbv) ?_ (⟨0, fun _ => (X1 5).A 0, fun _ => (X1 5).c 0, fun _ => ⟨#[]⟩⟩) ?_
        · simp [AllOb, Ob.holds]
        · subst hB
          rw [hW]
          exact Sim.tup ⟨Sim.agg ⟨Sim.refl _, Sim.resl hN (fun t ht => by rw [hg]), Sim.refl _, Sim.refl _, Sim.refl _, trivial⟩, Sim.refl _, trivial⟩
def T28 : List (Nat × TI) := [(3, ti3), (22, ti22), (23, ti23), (25, ti25), (27, ti27), (29, ti29), (53, ti53)]
theorem T28_ok : TabOK Try.prog T28 := .cons t3 (.cons t22 (.cons t23 (.cons t25 (.cons t27 (.cons t29 (.cons t53 (.nil)))))))
theorem enters28 : Enters Try.prog 28 := fun _ _ => by kernel_rfl
theorem runion_s (A : Option Addr) (n c : Nat) (f : Nat → Itm) (hn : n ≤ 1000) (kd : Int) (nx : Lab) (mk : Int) (hv : U64 nx.bits) (A2 : Option Addr) (n2 c2 : Nat) (f2 : Nat → Itm) (hn2 : n2 ≤ 1000) (kd2 : Int) (nx2 : Lab) (mk2 : Int) (hv2 : U64 nx2.bits) : Spec Try.prog 28 [recI A n c f kd nx mk, recI A2 n2 c2 f2 kd2 nx2 mk2] (fun x => .tup [recAV (x.A 0) (x.c 0) (uniR kd n f nx mk kd2 n2 f2 nx2 mk2).1, .int .i64 (uniR kd n f nx mk kd2 n2 f2 nx2 mk2).2]) := by
  intro m w hm hargs
  have hmx : maxLen = 9223372036854775807 := rfl
  have SI := risR_s A n c f (by omega) kd nx mk hv
  have SI2 := risR_s A2 n2 c2 f2 (by omega) kd2 nx2 mk2 hv2
  obtain ⟨i1, hi1⟩ : ∃ x, x = isRF kd n f nx mk := ⟨_, rfl⟩
  obtain ⟨i2, hi2⟩ : ∃ x, x = isRF kd2 n2 f2 nx2 mk2 := ⟨_, rfl⟩
  obtain ⟨ov, hov⟩ : ∃ x, x = ovl n f n2 f2 := ⟨_, rfl⟩
  rw [← hi1] at SI
  rw [← hi2] at SI2
  unfold recI rowI at SI SI2 hargs
  have hot := ov_test2 f n f2 n2 (by omega)
  rw [← hov] at hot
  refine enter hm hargs Try.func28 rfl (by simp [Try.ntmps28]) fun a0 hF => ?_
  simp only [Try.ntmps28, startT] at hF
  obtain ⟨B, hB⟩ : ∃ B, B = std := ⟨_, rfl⟩
  refine wp_seq ?_
  apply region_okB hB T28_ok [2, 3, 4] [2, 3, 4] [] hF
  case hex => intro A X; conv => lhs; cbv
  case hob =>
    intro X
    subst hB
    simp [AllOb, Ob.holds, BE.den, std, stdCmp, stdArith] <;> omega
  case hQ =>
  intro X0 a0 w1 hF
  refine wp_seq ?_
  refine wp_seq ?_
  apply region_okB hB T28_ok [15, 2, 3, 4] [2, 3, 4] [(1, .r fun _ => .bool (.v i1)), (5, .r fun _ => .bool (.v i2))] hF
  case hex => intro A X; conv => lhs; cbv
  case hob =>
    intro X
    subst hB
    repeat (first | exact trivial | refine ⟨rfl, ?_⟩ | refine ⟨fun _ => rfl, ?_⟩ | refine ⟨ob_lab _ _ _ _, ?_⟩ | refine ⟨fun _ => ob_lab _ _ _ _, ?_⟩ | refine ⟨⟨enters16, SI⟩, ?_⟩ | refine ⟨fun _ => ⟨enters16, SI⟩, ?_⟩ | refine ⟨⟨enters16, SI2⟩, ?_⟩ | refine ⟨fun _ => ⟨enters16, SI2⟩, ?_⟩)
  case hQ =>
  intro X1 a0 w1 hF
  refine test_ok hF rfl (fun hb hF => ?_) (fun hb hF => ?_)
  · skip
    have h9 : (if (!i1) = true then true else !i2) = true := by subst hB; exact hb
    have hW : (uniR kd n f nx mk kd2 n2 f2 nx2 mk2) = (zeroRec, 1) := by unfold uniR; rw [← hi1, ← hi2, ← hov]; cases i1 <;> cases i2 <;> cases ov <;> first | rfl | (simp at h9)
    refine wp_seq ?_
    apply region_okB hB T28_ok [4, 5] [4] [] hF
    case hex => intro A X; conv => lhs; cbv
    case hob =>
      intro X
      subst hB
      repeat (first | exact trivial | refine ⟨rfl, ?_⟩ | refine ⟨fun _ => rfl, ?_⟩ | refine ⟨ob_lab _ _ _ _, ?_⟩ | refine ⟨fun _ => ob_lab _ _ _ _, ?_⟩)
    case hQ =>
    intro X2 a0 w1 hF
    refine wp_ret ?_
    refine ret_sim (fn := Try.f28) T28_ok hF (rs := [.cell 4 27, .tmp 5]) rfl (by conv => lhs; cbv) ?_ (⟨0, fun _ => none, fun _ => 0, fun _ => ⟨#[]⟩⟩) ?_
    · simp [AllOb, Ob.holds]
    · subst hB
      rw [hW]
      exact Sim.tup ⟨Sim.agg ⟨Sim.refl _, Sim.recell (fun i hi => absurd hi (Nat.not_lt_zero _)), Sim.refl _, Sim.refl _, Sim.refl _, trivial⟩, Sim.refl _, trivial⟩
  · skip
    have h9 : (if (!i1) = true then true else !i2) = false := by subst hB; exact hb
    have h12 : i1 = true ∧ i2 = true := by cases i1 <;> cases i2 <;> first | exact ⟨rfl, rfl⟩ | (simp at h9)
    obtain ⟨h1t, h2t⟩ := h12
    refine wp_skip ?_
    refine wp_seq ?_
    apply region_okB hB T28_ok [6, 2, 3, 4] [2, 3, 4] [] hF
    case hex => intro A X; conv => lhs; cbv
    case hob =>
      intro X
      subst hB
      repeat (first | exact trivial | refine ⟨rfl, ?_⟩ | refine ⟨fun _ => rfl, ?_⟩ | refine ⟨ob_lab _ _ _ _, ?_⟩ | refine ⟨fun _ => ob_lab _ _ _ _, ?_⟩)
    case hQ =>
    intro X3 a0 w1 hF
    replace hF := hF.head (v' := .int .i64 (n : Int)) (by subst hB; rfl)
    refine wp_seq ?_
    refine wp_seq ?_
    apply drawn_okB hB (by kernel_rfl) T28_ok [42, 6, 2, 3, 4] [2, 3, 4] [] hF rfl
    case hex => intro A X; conv => lhs; cbv
    case hD => kernel_rfl
    case hlen => rfl
    case hob =>
      intro X
      subst hB
      simp only [AllOb, Ob.holds, BE.den, List.mem_cons, List.not_mem_nil, or_false, forall_eq_or_imp, forall_eq]
      and_intros <;> first | trivial | (intro h; first | trivial | exact uni_ixC hn h | exact uni_ixD h)
    case hQ =>
    intro X4 a0 w1 hF
    refine test_ok hF rfl (fun hb hF => ?_) (fun hb hF => ?_)
    · skip
      have h8 : (if (if decide ((n : Int) > 0) = true then decide ((n2 : Int) > 0) else false) = true then decide ((f (IntKind.i64.wrap ((n : Int) - 1)).toNat).key ≥ (f2 (0 : Int).toNat).key) else false) = true := by subst hB; exact hb
      rw [hot] at h8
      have hW : (uniR kd n f nx mk kd2 n2 f2 nx2 mk2) = (zeroRec, 1) := by unfold uniR; rw [← hi1, ← hi2, ← hov, h1t, h2t, h8]; rfl
      refine wp_seq ?_
      apply region_okB hB T28_ok [4, 5] [4] [] hF
      case hex => intro A X; conv => lhs; cbv
      case hob =>
        intro X
        subst hB
        repeat (first | exact trivial | refine ⟨rfl, ?_⟩ | refine ⟨fun _ => rfl, ?_⟩ | refine ⟨ob_lab _ _ _ _, ?_⟩ | refine ⟨fun _ => ob_lab _ _ _ _, ?_⟩)
      case hQ =>
      intro X5 a0 w1 hF
      refine wp_ret ?_
      refine ret_sim (fn := Try.f28) T28_ok hF (rs := [.cell 4 27, .tmp 5]) rfl (by conv => lhs; cbv) ?_ (⟨0, fun _ => none, fun _ => 0, fun _ => ⟨#[]⟩⟩) ?_
      · simp [AllOb, Ob.holds]
      · subst hB
        rw [hW]
        exact Sim.tup ⟨Sim.agg ⟨Sim.refl _, Sim.recell (fun i hi => absurd hi (Nat.not_lt_zero _)), Sim.refl _, Sim.refl _, Sim.refl _, trivial⟩, Sim.refl _, trivial⟩
    · skip
      have h8 : (if (if decide ((n : Int) > 0) = true then decide ((n2 : Int) > 0) else false) = true then decide ((f (IntKind.i64.wrap ((n : Int) - 1)).toNat).key ≥ (f2 (0 : Int).toNat).key) else false) = false := by subst hB; exact hb
      rw [hot] at h8
      have hU : (uniR kd n f nx mk kd2 n2 f2 nx2 mk2) = (if ¬ (kd = 1 ∨ kd = 5) ∨ ¬ (kd2 = 1 ∨ kd2 = 5) then (zeroRec, 13) else if 16 < n + n2 then (zeroRec, 12) else (⟨1, firsts f n ++ firsts f2 n2, nx2, 0⟩, 0)) := by unfold uniR; rw [← hi1, ← hi2, ← hov, h1t, h2t, h8]; rfl
      refine wp_skip ?_
      refine wp_seq ?_
      refine wp_seq ?_
      apply region_okB hB T28_ok [61, 6, 2, 3, 4] [2, 3, 4] [] hF
      case hex => intro A X; conv => lhs; cbv
      case hob =>
        intro X
        subst hB
        simp [AllOb, Ob.holds, BE.den, std, stdCmp, stdArith] <;> omega
      case hQ =>
      intro X6 a0 w1 hF
      refine test_ok hF rfl (fun hb hF => ?_) (fun hb hF => ?_)
      · skip
        have h7 : (if (if (!decide (kd = 1)) = true then !decide (kd = 5) else false) = true then true else (if (!decide (kd2 = 1)) = true then !decide (kd2 = 5) else false)) = true := by subst hB; exact hb
        have hfx := (kind_test kd kd2).1 h7
        have hW : (uniR kd n f nx mk kd2 n2 f2 nx2 mk2) = (zeroRec, 13) := by rw [hU, if_pos hfx]
        refine wp_seq ?_
        apply region_okB hB T28_ok [4, 5] [4] [] hF
        case hex => intro A X; conv => lhs; cbv
        case hob =>
          intro X
          subst hB
          repeat (first | exact trivial | refine ⟨rfl, ?_⟩ | refine ⟨fun _ => rfl, ?_⟩ | refine ⟨ob_lab _ _ _ _, ?_⟩ | refine ⟨fun _ => ob_lab _ _ _ _, ?_⟩)
        case hQ =>
        intro X7 a0 w1 hF
        refine wp_ret ?_
        refine ret_sim (fn := Try.f28) T28_ok hF (rs := [.cell 4 27, .tmp 5]) rfl (by conv => lhs; cbv) ?_ (⟨0, fun _ => none, fun _ => 0, fun _ => ⟨#[]⟩⟩) ?_
        · simp [AllOb, Ob.holds]
        · subst hB
          rw [hW]
          exact Sim.tup ⟨Sim.agg ⟨Sim.refl _, Sim.recell (fun i hi => absurd hi (Nat.not_lt_zero _)), Sim.refl _, Sim.refl _, Sim.refl _, trivial⟩, Sim.refl _, trivial⟩
      · skip
        have h7 : (if (if (!decide (kd = 1)) = true then !decide (kd = 5) else false) = true then true else (if (!decide (kd2 = 1)) = true then !decide (kd2 = 5) else false)) = false := by subst hB; exact hb
        have hfx := (kind_test kd kd2).2 h7
        refine wp_skip ?_
        refine wp_seq ?_
        refine wp_seq ?_
        apply region_okB hB T28_ok [68, 2, 3, 4] [2, 3, 4] [] hF
        case hex => intro A X; conv => lhs; cbv
        case hob =>
          intro X
          subst hB
          repeat (first | exact trivial | refine ⟨rfl, ?_⟩ | refine ⟨fun _ => rfl, ?_⟩ | refine ⟨ob_lab _ _ _ _, ?_⟩ | refine ⟨fun _ => ob_lab _ _ _ _, ?_⟩)
        case hQ =>
        intro X8 a0 w1 hF
        refine test_ok hF rfl (fun hb hF => ?_) (fun hb hF => ?_)
        · skip
          have hf16 : 16 < n + n2 := by
            have : (16 : Int) < IntKind.i64.wrap ((n : Int) + (n2 : Int)) := by subst hB; simpa [std, stdCmp, stdArith] using hb
            rw [wrap_in (by omega) (by omega)] at this
            omega
          have hW : (uniR kd n f nx mk kd2 n2 f2 nx2 mk2) = (zeroRec, 12) := by rw [hU, if_neg hfx, if_pos hf16]
          refine wp_seq ?_
          apply region_okB hB T28_ok [4, 5] [4] [] hF
          case hex => intro A X; conv => lhs; cbv
          case hob =>
            intro X
            subst hB
            repeat (first | exact trivial | refine ⟨rfl, ?_⟩ | refine ⟨fun _ => rfl, ?_⟩ | refine ⟨ob_lab _ _ _ _, ?_⟩ | refine ⟨fun _ => ob_lab _ _ _ _, ?_⟩)
          case hQ =>
          intro X9 a0 w1 hF
          refine wp_ret ?_
          refine ret_sim (fn := Try.f28) T28_ok hF (rs := [.cell 4 27, .tmp 5]) rfl (by conv => lhs; cbv) ?_ (⟨0, fun _ => none, fun _ => 0, fun _ => ⟨#[]⟩⟩) ?_
          · simp [AllOb, Ob.holds]
          · subst hB
            rw [hW]
            exact Sim.tup ⟨Sim.agg ⟨Sim.refl _, Sim.recell (fun i hi => absurd hi (Nat.not_lt_zero _)), Sim.refl _, Sim.refl _, Sim.refl _, trivial⟩, Sim.refl _, trivial⟩
        · skip
          have hf16 : ¬ 16 < n + n2 := by
            have : ¬ (16 : Int) < IntKind.i64.wrap ((n : Int) + (n2 : Int)) := by subst hB; simpa [std, stdCmp, stdArith] using hb
            rw [wrap_in (by omega) (by omega)] at this
            omega
          have hW : (uniR kd n f nx mk kd2 n2 f2 nx2 mk2) = (⟨1, firsts f n ++ firsts f2 n2, nx2, 0⟩, 0) := by rw [hU, if_neg hfx, if_neg hf16]
          refine wp_skip ?_
          refine wp_seq ?_
          apply region_okB hB T28_ok [7, 2, 3, 4] [2, 3, 4, 7] [] hF
          case hex => intro A X; conv => lhs; cbv
          case hob =>
            intro X
            subst hB
            simp [AllOb, Ob.holds, BE.den, std, stdCmp, stdArith] <;> omega
          case hQ =>
          intro X10 a0 w1 hF
          refine wp_seq ?_
          apply region_okB hB T28_ok [7, 3, 4] [3, 4, 7] [] hF
          case hex => intro A X; conv => lhs; cbv
          case hob =>
            intro X
            subst hB
            repeat (first | exact trivial | refine ⟨⟨rfl, rfl, rfl⟩, ?_⟩ | refine ⟨⟨show 0 + n ≤ maxLen by omega, show (0 + n) * _ ≤ _ by omega⟩, ?_⟩ | refine ⟨rfl, ?_⟩)
          case hQ =>
          intro X11 a0 w1 hF
          refine wp_seq ?_
          apply region_okB hB T28_ok [7, 3, 4] [3, 4, 7] [] hF
          case hex => intro A X; conv => lhs; cbv
          case hob =>
            intro X
            subst hB
            repeat (first | exact trivial | refine ⟨⟨rfl, rfl, rfl⟩, ?_⟩ | refine ⟨⟨show 0 + n + n2 ≤ maxLen by omega, show (0 + n + n2) * _ ≤ _ by omega⟩, ?_⟩ | refine ⟨rfl, ?_⟩)
          case hQ =>
          intro X12 a0 w1 hF
          refine wp_seq ?_
          apply region_okB hB T28_ok [4, 5] [4] [] hF
          case hex => intro A X; conv => lhs; cbv
          case hob =>
            intro X
            subst hB
            repeat (first | exact trivial | refine ⟨rfl, ?_⟩ | refine ⟨fun _ => rfl, ?_⟩ | refine ⟨ob_lab _ _ _ _, ?_⟩ | refine ⟨fun _ => ob_lab _ _ _ _, ?_⟩)
          case hQ =>
          intro X13 a0 w1 hF
          refine wp_ret ?_
          refine ret_sim (fn := Try.f28) T28_ok hF (rs := [.cell 4 27, .tmp 5]) rfl (by conv => lhs; cbv) ?_ (⟨0, fun _ => (X12 3).A 0, fun _ => (X12 3).c 0, fun _ => ⟨#[]⟩⟩) ?_
          · simp [AllOb, Ob.holds]
          · subst hB
            rw [hW]
            refine Sim.tup ⟨Sim.agg ⟨Sim.refl _, Sim.resl (show 0 + n + n2 = (firsts f n ++ firsts f2 n2).length by rw [List.length_append, firsts_len, firsts_len]; omega) (fun t ht => ?_), Sim.refl _, Sim.refl _, Sim.refl _, trivial⟩, Sim.refl _, trivial⟩
            show appC (0 + n) (appC 0 _ (fun t => itC (f t))) (fun t => itC (f2 t)) t = itC (itF (firsts f n ++ firsts f2 n2) t)
            rw [cat_at f n f2 n2 t (by have h : t < (firsts f n ++ firsts f2 n2).length := ht; rw [List.length_append, firsts_len, firsts_len] at h; exact h)]
            unfold appC catF
            rw [Nat.zero_add]
            by_cases h : t < n
            · rw [if_pos h, if_neg (Nat.not_lt_zero _), if_pos h]; rfl
            · rw [if_neg h, if_neg h]
end Go.Proofs.Ytkamdppnnhjajaa.Sym
