/-
  The binary search among items (printed by a program of mine). Conditions: none.
-/
import Derived.Test.YtkamdppnnhjajaaSymGet
namespace Go.Proofs.Ytkamdppnnhjajaa.Sym
open Go Go.RowKit
set_option maxRecDepth 100000
set_option linter.unusedVariables false
set_option linter.unusedSimpArgs false
def cmp3 (x y : Int) : Int := if x < y then -1 else if y < x then 1 else 0
theorem cmp3_lt {x y : Int} (h : cmp3 x y < 0) : x < y := by
  unfold cmp3 at h
  split at h
  · assumption
  · split at h <;> omega
theorem cmp3_neg {x y : Int} (h : x < y) : cmp3 x y < 0 := by
  unfold cmp3
  rw [if_pos h]
  decide
theorem cmp3_eq (x y : Int) : decide (cmp3 x y = 0) = decide (x = y) := by
  unfold cmp3
  by_cases h1 : x < y
  · simp [h1]; omega
  · by_cases h2 : y < x
    · simp [h1, h2]; omega
    · simp [h1, h2]; omega
/-- the place at which a binary search ends -/
def bsF (f : Nat → Itm) (key : Int) (lo hi : Nat) : Nat :=
  if h : lo < hi then (if (f ((lo + hi) / 2)).key < key then bsF f key ((lo + hi) / 2 + 1) hi else bsF f key lo ((lo + hi) / 2)) else lo
termination_by hi - lo
decreasing_by all_goals omega
theorem bsF_end {f : Nat → Itm} {key : Int} {lo hi : Nat} (h : ¬ lo < hi) : bsF f key lo hi = lo := by rw [bsF, dif_neg h]
theorem bsF_up {f : Nat → Itm} {key : Int} {lo hi m : Nat} (h : lo < hi) (hm : m = (lo + hi) / 2) (hk : (f m).key < key) : bsF f key lo hi = bsF f key (m + 1) hi := by
  subst hm; conv => lhs; rw [bsF]
  rw [dif_pos h, if_pos hk]
theorem bsF_dn {f : Nat → Itm} {key : Int} {lo hi m : Nat} (h : lo < hi) (hm : m = (lo + hi) / 2) (hk : ¬ (f m).key < key) : bsF f key lo hi = bsF f key lo m := by
  subst hm; conv => lhs; rw [bsF]
  rw [dif_pos h, if_neg hk]
def hitF (f : Nat → Itm) (key : Int) (n p : Nat) : Bool := decide (p < n) && decide ((f p).key = key)
theorem half_ok (lo hi : Nat) (h : lo + hi < 1000000000) : IntKind.i64.wrap (stdShift .shr .u64 (IntKind.u64.wrap ((lo : Int) + (hi : Int))) 1) = (((lo + hi) / 2 : Nat) : Int) := by
  rw [wrap_u64 _ ⟨by omega, by omega⟩]
  have e : stdShift .shr .u64 ((lo : Int) + (hi : Int)) 1 = (((lo + hi) / 2 : Nat) : Int) := by
    have h1 := shr_u64 (v := (lo : Int) + (hi : Int)) ⟨by omega, by omega⟩ 1 (by decide)
    rw [show ((1 : Nat) : Int) = 1 from rfl] at h1
    rw [h1, show ((lo : Int) + (hi : Int)).toNat = lo + hi by omega]
  rw [e, wrap_in (by omega) (by omega)]
def T105 : List (Nat × TI) := [(4, ti4), (23, ti23)]
theorem T105_ok : TabOK Try.prog T105 := .cons t4 (.cons t23 (.nil))
theorem enters105 : Enters Try.prog 105 := fun _ _ => by kernel_rfl
theorem nan_s (x : Int) : Spec Try.prog 105 [.int .u64 x] (fun _ => .bool .ff) := by
  intro m w hm hargs
  refine enter hm hargs Try.func105 rfl (by simp [Try.ntmps105]) fun a0 hF => ?_
  simp only [Try.ntmps105, startT] at hF
  obtain ⟨B, hB⟩ : ∃ B, B = std := ⟨_, rfl⟩
  refine wp_seq ?_
  apply region_okB hB T105_ok [0] [] [] hF
  case hex => intro A X; conv => lhs; cbv
  case hob =>
    intro X
    subst hB
    simp [AllOb, Ob.holds, BE.den, std, stdCmp, stdArith] <;> omega
  case hQ =>
  intro X0 a0 w1 hF
  refine wp_seq ?_
  apply region_okB hB T105_ok [2] [] [] hF
  case hex => intro A X; conv => lhs; cbv
  case hob =>
    intro X
    subst hB
    simp [AllOb, Ob.holds, BE.den, std, stdCmp, stdArith] <;> omega
  case hQ =>
  intro X1 a0 w1 hF
  refine wp_ret ?_
  refine ret_sim (fn := Try.f105) T105_ok hF (rs := [.tmp 2]) rfl (rfl) ?_ noAtom ?_
  · simp [AllOb, Ob.holds]
  · subst hB; exact Sim.bool (by simp [BE.den, std, stdCmp]; rfl)
def T86 : List (Nat × TI) := [(3, ti3), (4, ti4), (23, ti23)]
theorem T86_ok : TabOK Try.prog T86 := .cons t3 (.cons t4 (.cons t23 (.nil)))
theorem enters86 : Enters Try.prog 86 := fun _ _ => by kernel_rfl
theorem cmp_s (x y : Int) : Spec Try.prog 86 [.int .u64 x, .int .u64 y] (fun _ => .int .i64 (cmp3 x y)) := by
  intro m w hm hargs
  refine enter hm hargs Try.func86 rfl (by simp [Try.ntmps86]) fun a0 hF => ?_
  simp only [Try.ntmps86, startT] at hF
  obtain ⟨B, hB⟩ : ∃ B, B = std := ⟨_, rfl⟩
  refine wp_seq ?_
  apply region_okB hB T86_ok [0, 1] [] [] hF
  case hex => intro A X; conv => lhs; cbv
  case hob =>
    intro X
    subst hB
    simp [AllOb, Ob.holds, BE.den, std, stdCmp, stdArith] <;> omega
  case hQ =>
  intro X0 a0 w1 hF
  refine wp_seq ?_
  apply region_okB hB T86_ok [0, 1, 5] [] [(1, .r fun _ => .bool .ff)] hF
  case hex => intro A X; conv => lhs; cbv
  case hob =>
    intro X
    subst hB; exact ⟨⟨enters105, nan_s x⟩, trivial⟩
  case hQ =>
  intro X1 a0 w1 hF
  refine wp_seq ?_
  apply region_okB hB T86_ok [0, 1, 5, 6] [] [(1, .r fun _ => .bool .ff)] hF
  case hex => intro A X; conv => lhs; cbv
  case hob =>
    intro X
    subst hB; exact ⟨⟨enters105, nan_s y⟩, trivial⟩
  case hQ =>
  intro X2 a0 w1 hF
  refine wp_seq ?_
  refine wp_seq ?_
  apply region_okB hB T86_ok [11, 0, 1, 6] [] [] hF
  case hex => intro A X; conv => lhs; cbv
  case hob =>
    intro X
    subst hB
    simp [AllOb, Ob.holds, BE.den, std, stdCmp, stdArith] <;> omega
  case hQ =>
  intro X3 a0 w1 hF
  refine test_ff hF rfl (fun hF => ?_)
  refine wp_skip ?_
  refine wp_seq ?_
  refine wp_seq ?_
  apply region_okB hB T86_ok [13, 0, 1] [] [] hF
  case hex => intro A X; conv => lhs; cbv
  case hob =>
    intro X
    subst hB
    simp [AllOb, Ob.holds, BE.den, std, stdCmp, stdArith] <;> omega
  case hQ =>
  intro X7 a0 w1 hF
  refine test_ff hF rfl (fun hF => ?_)
  refine wp_skip ?_
  refine wp_seq ?_
  refine wp_seq ?_
  apply region_okB hB T86_ok [16, 0, 1] [] [] hF
  case hex => intro A X; conv => lhs; cbv
  case hob =>
    intro X
    subst hB
    simp [AllOb, Ob.holds, BE.den, std, stdCmp, stdArith] <;> omega
  case hQ =>
  intro X9 a0 w1 hF
  refine test_ok hF rfl (fun hb hF => ?_) (fun hb hF => ?_)
  · skip
    have h1 : x < y := by subst hB; simpa [std, stdCmp] using hb
    refine wp_seq ?_
    apply region_okB hB T86_ok [4] [] [] hF
    case hex => intro A X; conv => lhs; cbv
    case hob =>
      intro X
      subst hB
      simp [AllOb, Ob.holds, BE.den, std, stdCmp, stdArith] <;> omega
    case hQ =>
    intro X10 a0 w1 hF
    refine wp_ret ?_
    refine ret_spec (fn := Try.f86) T86_ok hF (rs := [.tmp 4]) rfl (rfl) ?_ noAtom ?_
    · subst hB; simp [AllOb, Ob.holds]
    · simp only [cmp3, h1, if_true]; rfl
  · skip
    have h1 : ¬ x < y := by subst hB; simpa [std, stdCmp] using hb
    refine wp_skip ?_
    refine wp_seq ?_
    refine wp_seq ?_
    apply region_okB hB T86_ok [19] [] [] hF
    case hex => intro A X; conv => lhs; cbv
    case hob =>
      intro X
      subst hB
      simp [AllOb, Ob.holds, BE.den, std, stdCmp, stdArith] <;> omega
    case hQ =>
    intro X11 a0 w1 hF
    refine test_ok hF rfl (fun hb hF => ?_) (fun hb hF => ?_)
    · skip
      have h2 : y < x := by subst hB; simpa [std, stdCmp] using hb
      refine wp_seq ?_
      apply region_okB hB T86_ok [4] [] [] hF
      case hex => intro A X; conv => lhs; cbv
      case hob =>
        intro X
        subst hB
        simp [AllOb, Ob.holds, BE.den, std, stdCmp, stdArith] <;> omega
      case hQ =>
      intro X12 a0 w1 hF
      refine wp_ret ?_
      refine ret_spec (fn := Try.f86) T86_ok hF (rs := [.tmp 4]) rfl (rfl) ?_ noAtom ?_
      · subst hB; simp [AllOb, Ob.holds]
      · simp only [cmp3, h1, h2, if_true, if_false]; rfl
    · skip
      have h2 : ¬ y < x := by subst hB; simpa [std, stdCmp] using hb
      refine wp_skip ?_
      refine wp_seq ?_
      apply region_okB hB T86_ok [4] [] [] hF
      case hex => intro A X; conv => lhs; cbv
      case hob =>
        intro X
        subst hB
        simp [AllOb, Ob.holds, BE.den, std, stdCmp, stdArith] <;> omega
      case hQ =>
      intro X13 a0 w1 hF
      refine wp_ret ?_
      refine ret_spec (fn := Try.f86) T86_ok hF (rs := [.tmp 4]) rfl (rfl) ?_ noAtom ?_
      · subst hB; simp [AllOb, Ob.holds]
      · simp only [cmp3, h1, h2, if_false]; rfl
def T85 : List (Nat × TI) := [(3, ti3), (23, ti23), (53, ti53)]
theorem T85_ok : TabOK Try.prog T85 := .cons t3 (.cons t23 (.cons t53 (.nil)))
theorem enters85 : Enters Try.prog 85 := fun _ _ => by kernel_rfl
theorem at1_s (k : Int) (v : ByteArray) (y : Int) : Spec Try.prog 85 [.agg [.int .u64 k, .str v], .int .u64 y] (fun _ => .int .i64 (cmp3 k y)) := by
  intro m w hm hargs
  obtain ⟨c, hc⟩ : ∃ c, c = cmp3 k y := ⟨_, rfl⟩
  have S := cmp_s k y
  rw [← hc] at S
  refine enter hm hargs Try.func85 rfl (by simp [Try.ntmps85]) fun a0 hF => ?_
  simp only [Try.ntmps85, startT] at hF
  obtain ⟨B, hB⟩ : ∃ B, B = std := ⟨_, rfl⟩
  refine wp_seq ?_
  apply region_okB hB T85_ok [1, 2] [2] [] hF
  case hex => intro A X; conv => lhs; cbv
  case hob =>
    intro X
    subst hB
    simp [AllOb, Ob.holds, BE.den, std, stdCmp, stdArith] <;> omega
  case hQ =>
  intro X0 a0 w1 hF
  refine wp_seq ?_
  apply region_okB hB T85_ok [4] [] [(3, .r fun _ => .int .i64 c)] hF
  case hex => intro A X; conv => lhs; cbv
  case hob =>
    intro X
    subst hB; first | exact ⟨⟨enters86, S⟩, trivial⟩ | exact ⟨rfl, ⟨enters86, S⟩, trivial⟩
  case hQ =>
  intro X1 a0 w1 hF
  refine wp_ret ?_
  refine ret_spec (fn := Try.f85) T85_ok hF (rs := [.tmp 4]) rfl (rfl) ?_ noAtom ?_
  · subst hB; simp [AllOb, Ob.holds]
  · rw [hc]; rfl
def T84 : List (Nat × TI) := [(3, ti3), (4, ti4), (22, ti22), (23, ti23), (53, ti53), (103, ti103)]
theorem T84_ok : TabOK Try.prog T84 := .cons t3 (.cons t4 (.cons t22 (.cons t23 (.cons t53 (.cons t103 (.nil))))))
theorem enters84 : Enters Try.prog 84 := fun _ _ => by kernel_rfl
theorem bs_s (A : Option Addr) (n c : Nat) (f : Nat → Itm) (hn : n ≤ 1000000) (key : Int) : Spec Try.prog 84 [rowI A n c f, .int .u64 key, .fn 85 [] []] (fun _ => .tup [.int .i64 (bsF f key 0 n : Nat), .bool (.v (hitF f key n (bsF f key 0 n)))]) := by
  intro m w hm hargs
  have hmx : maxLen = 9223372036854775807 := rfl
  unfold rowI at hargs
  try unfold rowI
  refine enter hm hargs Try.func84 rfl (by simp [Try.ntmps84]) fun a0 hF => ?_
  simp only [Try.ntmps84, startT] at hF
  obtain ⟨B, hB⟩ : ∃ B, B = std := ⟨_, rfl⟩
  refine wp_seq ?_
  apply region_okB hB T84_ok [0, 1, 2] [] [] hF
  case hex => intro A X; conv => lhs; cbv
  case hob =>
    intro X
    subst hB
    simp [AllOb, Ob.holds, BE.den, std, stdCmp, stdArith] <;> omega
  case hQ =>
  intro X0 a0 w1 hF
  refine wp_seq ?_
  apply region_okB hB T84_ok [8, 0, 1, 2] [] [] hF
  case hex => intro A X; conv => lhs; cbv
  case hob =>
    intro X
    subst hB
    simp [AllOb, Ob.holds, BE.den, std, stdCmp, stdArith] <;> omega
  case hQ =>
  intro X1 a0 w1 hF
  replace hF := hF.head (v' := .int .i64 (n : Int)) (by subst hB; rfl)
  refine wp_seq ?_
  apply region_okB hB T84_ok [9, 10, 0, 1, 2, 8] [] [] hF
  case hex => intro A X; conv => lhs; cbv
  case hob =>
    intro X
    subst hB
    simp [AllOb, Ob.holds, BE.den, std, stdCmp, stdArith] <;> omega
  case hQ =>
  intro X2 a0 w1 hF
  refine wp_seq ?_
  refine wp_block ?_
  refine loop_pre (ι := Nat × Nat) (fun p => [(9, .int .i64 (p.1 : Int)), (10, .int .i64 (p.2 : Int))]) (fun p => []) (fun p => []) (fun p => p.1 ≤ p.2 ∧ p.2 ≤ n ∧ bsF f key p.1 p.2 = bsF f key 0 n) (fun p => p.2 - p.1) (0, n) ⟨Nat.zero_le _, Nat.le_refl _, rfl⟩ hF ?_
  rintro ⟨lo, hi⟩ ⟨hlh, hhn, hbs⟩ a0 w1 hF
  try dsimp only at hlh
  try dsimp only at hhn
  try dsimp only at hbs
  refine wp_seq ?_
  refine wp_seq ?_
  apply region_okB hB T84_ok [17, 9, 10, 0, 1, 2, 8] [] [] hF
  case hex => intro A X; conv => lhs; cbv
  case hob =>
    intro X
    subst hB
    simp [AllOb, Ob.holds, BE.den, std, stdCmp, stdArith] <;> omega
  case hQ =>
  intro X3 a0 w1 hF
  refine test_ok hF rfl (fun hb hF => ?_) (fun hb hF => ?_)
  · skip
    have hlt : lo < hi := by
      have : (lo : Int) < (hi : Int) := by subst hB; simpa [std, stdCmp] using hb
      omega
    refine wp_skip ?_
    refine wp_block ?_
    refine wp_seq ?_
    apply region_okB hB T84_ok [11, 9, 10, 0, 1, 2, 8] [] [] hF
    case hex => intro A X; conv => lhs; cbv
    case hob =>
      intro X
      subst hB
      simp [AllOb, Ob.holds, BE.den, std, stdCmp, stdArith] <;> omega
    case hQ =>
    intro X4 a0 w1 hF
    obtain ⟨m, hm⟩ : ∃ m : Nat, m = (lo + hi) / 2 := ⟨_, rfl⟩
    have hmlo : lo ≤ m ∧ m < hi := by omega
    replace hF := hF.head (v' := .int .i64 (m : Int)) (by
      subst hB
      show AV.int .i64 (IntKind.i64.wrap (stdShift .shr .u64 (IntKind.u64.wrap (IntKind.i64.wrap ((lo : Int) + (hi : Int)))) 1)) = _
      rw [wrap_in (x := (lo : Int) + (hi : Int)) (by omega) (by omega), half_ok lo hi (by omega), hm])
    obtain ⟨cv, hcv⟩ : ∃ c, c = cmp3 (f m).key key := ⟨_, rfl⟩
    have S1 := at1_s (f m).key (f m).val key
    rw [← hcv] at S1
    refine wp_seq ?_
    apply region_okB hB T84_ok [31, 11, 9, 10, 0, 1, 2, 8] [] [(6, .r fun _ => .int .i64 cv)] hF
    case hex => intro A X; conv => lhs; cbv
    case hob =>
      intro X
      subst hB
      refine ⟨⟨?_, ?_⟩, ⟨enters85, ?_⟩, trivial⟩
      · show (0 : Int) ≤ (m : Int); omega
      · show (m : Int) < (n : Int); omega
      · exact S1
    case hQ =>
    intro X5 a0 w1 hF
    refine test_ok hF rfl (fun hb hF => ?_) (fun hb hF => ?_)
    · skip
      have hlt2 : (f m).key < key := by
        have h9 : cv < 0 := by subst hB; simpa [std, stdCmp] using hb
        rw [hcv] at h9
        exact cmp3_lt h9
      have e : B.arith .add .i64 (m : Int) 1 = ((m + 1 : Nat) : Int) := by subst hB; exact wrap_succ (n := n) (by omega) (by omega)
      apply region_okB hB T84_ok [9, 10, 0, 1, 2, 8] [] [] hF
      case hex => intro A X; conv => lhs; cbv
      case hob =>
        intro X
        subst hB
        simp [AllOb, Ob.holds, BE.den, std, stdCmp, stdArith] <;> omega
      case hQ =>
      intro X6 a0 w1 hF
      refine ⟨(m + 1, hi), ⟨by simp only; omega, hhn, ?_⟩, by simp only; omega, by rw [← e]; exact hF⟩
      exact (bsF_up hlt hm hlt2).symm.trans hbs
    · skip
      have hlt2 : ¬ (f m).key < key := by
        have h9 : ¬ cv < 0 := by subst hB; simpa [std, stdCmp] using hb
        rw [hcv] at h9
        exact fun h => h9 (cmp3_neg h)
      apply region_okB hB T84_ok [9, 10, 0, 1, 2, 8] [] [] hF
      case hex => intro A X; conv => lhs; cbv
      case hob =>
        intro X
        subst hB
        simp [AllOb, Ob.holds, BE.den, std, stdCmp, stdArith] <;> omega
      case hQ =>
      intro X7 a0 w1 hF
      refine ⟨(lo, m), ⟨by simp only; omega, by simp only; omega, ?_⟩, by simp only; omega, hF⟩
      exact (bsF_dn hlt hm hlt2).symm.trans hbs
  · skip
    have hge : ¬ lo < hi := by
      have : ¬ (lo : Int) < (hi : Int) := by subst hB; simpa [std, stdCmp] using hb
      omega
    have hlo : lo = bsF f key 0 n := by rw [← hbs, bsF_end hge]
    obtain ⟨cv, hcv⟩ : ∃ c, c = cmp3 (f lo).key key := ⟨_, rfl⟩
    have S2 := at1_s (f lo).key (f lo).val key
    rw [← hcv] at S2
    refine wp_exit ?_
    refine wp_seq ?_
    apply region_okB hB T84_ok [6, 7] [] [(11, .r fun _ => .int .i64 cv)] hF
    case hex => intro A X; conv => lhs; cbv
    case hob =>
      intro X
      subst hB
      simp only [AllOb, Ob.holds, BE.den, List.mem_cons, List.not_mem_nil, or_false, forall_eq_or_imp, forall_eq]
      and_intros <;> first | trivial | (intro h; first | trivial | exact ⟨enters85, S2⟩ | (have h2 : (lo : Int) < (n : Int) := of_decide_eq_true h; exact ⟨Int.natCast_nonneg _, h2⟩))
    case hQ =>
    intro X8 a0 w1 hF
    refine wp_ret ?_
    refine ret_sim (fn := Try.f84) T84_ok hF (rs := [.tmp 6, .tmp 7]) rfl (rfl) ?_ noAtom ?_
    · simp [AllOb, Ob.holds]
    · subst hB
      rw [← hlo]
      refine Sim.tup ⟨Sim.refl _, Sim.bool ?_, trivial⟩
      show (if decide ((lo : Int) < (n : Int)) = true then decide (cv = 0) else false) = hitF f key n lo
      unfold hitF
      rw [hcv]
      by_cases h : lo < n
      · have h1 : (lo : Int) < (n : Int) := by omega
        rw [if_pos (by simpa using h1)]
        simp only [h, decide_true, Bool.true_and]
        exact cmp3_eq _ _
      · have h1 : ¬ (lo : Int) < (n : Int) := by omega
        rw [if_neg (by simpa using h1)]
        simp [h]
def T55 : List (Nat × TI) := [(3, ti3), (4, ti4), (22, ti22), (23, ti23), (116, ti116)]
theorem T55_ok : TabOK Try.prog T55 := .cons t3 (.cons t4 (.cons t22 (.cons t23 (.cons t116 (.nil)))))
theorem enters55 : Enters Try.prog 55 := fun _ _ => by kernel_rfl
theorem at_s (A : Option Addr) (n c : Nat) (f : Nat → Itm) (hn : n ≤ 1000000) (key : Int) : Spec Try.prog 55 [rowI A n c f, .int .u64 key] (fun _ => .tup [.int .i64 (bsF f key 0 n : Nat), .bool (.v (hitF f key n (bsF f key 0 n)))]) := by
  intro m w hm hargs
  have S := bs_s A n c f hn key
  unfold rowI at S hargs ⊢
  generalize hitF f key n (bsF f key 0 n) = hh at S ⊢
  generalize bsF f key 0 n = p at S ⊢
  refine enter hm hargs Try.func55 rfl (by simp [Try.ntmps55]) fun a0 hF => ?_
  simp only [Try.ntmps55, startT] at hF
  obtain ⟨B, hB⟩ : ∃ B, B = std := ⟨_, rfl⟩
  refine wp_seq ?_
  apply region_okB hB T55_ok [0, 1] [] [] hF
  case hex => intro A X; conv => lhs; cbv
  case hob =>
    intro X
    subst hB
    simp [AllOb, Ob.holds, BE.den, std, stdCmp, stdArith] <;> omega
  case hQ =>
  intro X0 a0 w1 hF
  refine wp_seq ?_
  apply region_okB hB T55_ok [4, 5] [] [(2, .r fun _ => .tup [.int .i64 (p : Int), .bool (.v hh)])] hF
  case hex => intro A X; conv => lhs; cbv
  case hob =>
    intro X
    subst hB; exact ⟨⟨enters84, S⟩, trivial⟩
  case hQ =>
  intro X1 a0 w1 hF
  refine wp_ret ?_
  refine ret_spec (fn := Try.f55) T55_ok hF (rs := [.tmp 4, .tmp 5]) rfl (rfl) ?_ noAtom ?_
  · subst hB; simp [AllOb, Ob.holds]
  · subst hB; rfl
end Go.Proofs.Ytkamdppnnhjajaa.Sym
