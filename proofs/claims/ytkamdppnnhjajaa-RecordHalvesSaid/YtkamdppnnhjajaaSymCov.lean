/-
  Labels that cover keys, and their children (printed by a program of mine). Conditions: none.
-/
import Derived.Test.YtkamdppnnhjajaaPlCov
import Derived.Test.YtkamdppnnhjajaaSymLaw8
namespace Go.Proofs.Ytkamdppnnhjajaa.Sym
open Go Go.RowKit
set_option maxRecDepth 100000
set_option linter.unusedVariables false
set_option linter.unusedSimpArgs false
def chE (l : Lab) (b : Int) : Int := if isL l = false then 1 else if l.len = 64 then 5 else 0
def chV (l : Lab) (b : Int) : Lab := if chE l b = 0 then childL l b else ⟨0, 0⟩
theorem shl_bit {n : Int} (h0 : 0 ≤ n) (h1 : n < 64) : stdShift .shl .u64 1 (IntKind.i64.wrap (63 - n)) = ((2 ^ (63 - n.toNat) : Nat) : Int) := by
  rw [wrap_in (by omega) (by omega)]
  show IntKind.u64.wrap (1 * (2 : Int) ^ (min (63 - n).toNat 64)) = _
  rw [Nat.min_eq_left (by omega), Int.one_mul, show (63 - n).toNat = 63 - n.toNat by omega, show (2 : Int) ^ (63 - n.toNat) = ((2 ^ (63 - n.toNat) : Nat) : Int) by simp, wrap_u64n]
  have : 2 ^ (63 - n.toNat) ≤ 2 ^ 63 := Nat.pow_le_pow_right (by decide) (by omega)
  rw [Nat.mod_eq_of_lt (by omega)]
theorem or_child {l : Lab} (hl : isL l = true) (hb : U64 l.bits) (h64 : l.len ≠ 64) : stdArith .or .u64 l.bits ((2 ^ (63 - l.len.toNat) : Nat) : Int) = l.bits + ((2 ^ (63 - l.len.toNat) : Nat) : Int) := by
  obtain ⟨q, h1, h2⟩ := lab_mul hl hb h64
  obtain ⟨h3, h4, h5⟩ := lab_parts hl
  have hn : l.len.toNat < 64 := by omega
  have hp : 0 < 2 ^ (63 - l.len.toNat) := Nat.pow_pos (by decide)
  rw [h1]
  rw [or_u64 (a := q * (2 * 2 ^ (63 - l.len.toNat))) (b := 2 ^ (63 - l.len.toNat)) (k := 64 - l.len.toNat) (by rw [half_pow hn]; exact Nat.mul_mod_left _ _) (by rw [half_pow hn]; omega) (by omega)]
  exact Int.natCast_add _ _
theorem lab_of_guard {l : Lab} {il : Bool} (hil : il = isL l) (h : ∀ e ∈ [((BE.v il : BE), true)], e.1.den = e.2) : 0 ≤ l.len ∧ l.len ≤ 64 := by
  have hl : il = true := h _ (List.mem_singleton.2 rfl)
  obtain ⟨a, b, _⟩ := lab_parts (l := l) (by rw [← hil]; exact hl)
  exact ⟨a, b⟩
def T70 : List (Nat × TI) := [(3, ti3), (23, ti23)]
theorem T70_ok : TabOK Try.prog T70 := .cons t3 (.cons t23 (.nil))
theorem enters70 : Enters Try.prog 70 := fun _ _ => by kernel_rfl
theorem bit_s (n : Int) (h0 : 0 ≤ n) (h1 : n < 64) : Spec Try.prog 70 [.int .i64 n] (fun _ => .int .u64 ((2 ^ (63 - n.toNat) : Nat) : Int)) := by
  intro m w hm hargs
  refine enter hm hargs Try.func70 rfl (by simp [Try.ntmps70]) fun a0 hF => ?_
  simp only [Try.ntmps70, startT] at hF
  obtain ⟨B, hB⟩ : ∃ B, B = std := ⟨_, rfl⟩
  refine wp_seq ?_
  apply region_okB hB T70_ok [0] [] [] hF
  case hex => intro A X; conv => lhs; cbv
  case hob =>
    intro X
    subst hB
    simp [AllOb, Ob.holds, BE.den, std, stdCmp, stdArith] <;> omega
  case hQ =>
  intro X0 a0 w1 hF
  refine wp_seq ?_
  apply region_okB hB T70_ok [2] [] [] hF
  case hex => intro A X; conv => lhs; cbv
  case hob =>
    intro X
    subst hB
    refine ⟨?_, trivial⟩
    show 0 ≤ IntKind.i64.wrap (63 - n)
    rw [wrap_in (by omega) (by omega)]; omega
  case hQ =>
  intro X1 a0 w1 hF
  refine wp_ret ?_
  refine ret_sim (fn := Try.f70) T70_ok hF (rs := [.tmp 2]) rfl (rfl) ?_ noAtom ?_
  · simp [AllOb, Ob.holds]
  · subst hB
    rw [← shl_bit h0 h1]
    exact Sim.refl _
def T29 : List (Nat × TI) := [(3, ti3), (4, ti4), (23, ti23), (25, ti25), (29, ti29)]
theorem T29_ok : TabOK Try.prog T29 := .cons t3 (.cons t4 (.cons t23 (.cons t25 (.cons t29 (.nil)))))
theorem enters29 : Enters Try.prog 29 := fun _ _ => by kernel_rfl
theorem child_s (l : Lab) (hb0 : U64 l.bits) (b : Int) (hb01 : b = 0 ∨ b = 1) : Spec Try.prog 29 [labAV l, .int .i64 b] (fun _ => .tup [labAV (chV l b), .int .i64 (chE l b)]) := by
  intro m w hm hargs
  have SI := isL_s l hb0
  simp only [labAV] at SI hargs ⊢
  obtain ⟨il, hil⟩ : ∃ x, x = isL l := ⟨_, rfl⟩
  rw [← hil] at SI
  refine enter hm hargs Try.func29 rfl (by simp [Try.ntmps29]) fun a0 hF => ?_
  simp only [Try.ntmps29, startT] at hF
  obtain ⟨B, hB⟩ : ∃ B, B = std := ⟨_, rfl⟩
  refine wp_seq ?_
  apply region_okB hB T29_ok [1, 2, 4] [2, 4] [] hF
  case hex => intro A X; conv => lhs; cbv
  case hob =>
    intro X
    subst hB
    simp [AllOb, Ob.holds, BE.den, std, stdCmp, stdArith] <;> omega
  case hQ =>
  intro X0 a0 w1 hF
  refine wp_seq ?_
  refine wp_block ?_
  refine wp_seq ?_
  apply region_okB hB T29_ok [6, 1, 2, 4] [2, 4] [(1, .r fun _ => .bool (.v il))] hF
  case hex => intro A X; conv => lhs; cbv
  case hob =>
    intro X
    subst hB
    repeat (first | exact trivial | refine ⟨rfl, ?_⟩ | refine ⟨fun _ => rfl, ?_⟩ | refine ⟨ob_lab _ _ _ _, ?_⟩ | refine ⟨fun _ => ob_lab _ _ _ _, ?_⟩ | refine ⟨⟨enters52, SI⟩, ?_⟩ | refine ⟨fun _ => ⟨enters52, SI⟩, ?_⟩)
  case hQ =>
  intro X1 a0 w1 hF
  refine test_ok hF rfl (fun hb hF => ?_) (fun hb hF => ?_)
  · skip
    have h9 : (if (if (!il) = true then true else decide (b < 0)) = true then true else decide (b > 1)) = true := by subst hB; exact hb
    have hilf : il = false := by rcases hb01 with rfl | rfl <;> cases il <;> first | rfl | (simp at h9)
    have hE : chE l b = 1 := by unfold chE; rw [← hil, hilf]; rfl
    have hV : chV l b = ⟨0, 0⟩ := by unfold chV; rw [hE]; rfl
    refine wp_seq ?_
    apply region_okB hB T29_ok [4, 5] [4] [] hF
    case hex => intro A X; conv => lhs; cbv
    case hob =>
      intro X
      subst hB
      repeat (first | exact trivial | refine ⟨rfl, ?_⟩ | refine ⟨fun _ => rfl, ?_⟩ | refine ⟨ob_lab _ _ _ _, ?_⟩ | refine ⟨fun _ => ob_lab _ _ _ _, ?_⟩)
    case hQ =>
    intro X2 a0 w1 hF
    refine wp_ret ?_
    refine ret_sim (fn := Try.f29) T29_ok hF (rs := [.cell 4 25, .tmp 5]) rfl (by conv => lhs; cbv) ?_ noAtom ?_
    · simp [AllOb, Ob.holds]
    · subst hB
      rw [hV, hE]
      exact Sim.refl _
  · skip
    have h9 : (if (if (!il) = true then true else decide (b < 0)) = true then true else decide (b > 1)) = false := by subst hB; exact hb
    have hilt : il = true := by cases il <;> first | rfl | (simp at h9)
    have hLt : isL l = true := by rw [← hil]; exact hilt
    obtain ⟨hl0, hl1, hl2⟩ := lab_parts hLt
    refine wp_seq ?_
    apply region_okB hB T29_ok [19, 1, 2, 4] [2, 4] [] hF
    case hex => intro A X; conv => lhs; cbv
    case hob =>
      intro X
      subst hB
      repeat (first | exact trivial | refine ⟨rfl, ?_⟩ | refine ⟨fun _ => rfl, ?_⟩ | refine ⟨ob_lab _ _ _ _, ?_⟩ | refine ⟨fun _ => ob_lab _ _ _ _, ?_⟩)
    case hQ =>
    intro X3 a0 w1 hF
    refine test_ok hF rfl (fun hb hF => ?_) (fun hb hF => ?_)
    · skip
      have h64 : l.len = 64 := by subst hB; simpa [std, stdCmp] using hb
      have hE : chE l b = 5 := by unfold chE; rw [← hil, hilt, if_neg (by decide), if_pos h64]
      have hV : chV l b = ⟨0, 0⟩ := by unfold chV; rw [hE]; rfl
      refine wp_seq ?_
      apply region_okB hB T29_ok [4, 5] [4] [] hF
      case hex => intro A X; conv => lhs; cbv
      case hob =>
        intro X
        subst hB
        repeat (first | exact trivial | refine ⟨rfl, ?_⟩ | refine ⟨fun _ => rfl, ?_⟩ | refine ⟨ob_lab _ _ _ _, ?_⟩ | refine ⟨fun _ => ob_lab _ _ _ _, ?_⟩)
      case hQ =>
      intro X4 a0 w1 hF
      refine wp_ret ?_
      refine ret_sim (fn := Try.f29) T29_ok hF (rs := [.cell 4 25, .tmp 5]) rfl (by conv => lhs; cbv) ?_ noAtom ?_
      · simp [AllOb, Ob.holds]
      · subst hB
        rw [hV, hE]
        exact Sim.refl _
    · skip
      have h64 : l.len ≠ 64 := by subst hB; simpa [std, stdCmp] using hb
      have hE : chE l b = 0 := by unfold chE; rw [← hil, hilt, if_neg (by decide), if_neg h64]
      have hV : chV l b = childL l b := by unfold chV; rw [hE]; rfl
      refine wp_skip ?_
      refine wp_seq ?_
      refine wp_seq ?_
      apply region_okB hB T29_ok [25, 2, 4] [2, 4] [] hF
      case hex => intro A X; conv => lhs; cbv
      case hob =>
        intro X
        subst hB
        simp [AllOb, Ob.holds, BE.den, std, stdCmp, stdArith] <;> omega
      case hQ =>
      intro X5 a0 w1 hF
      refine cut_one (ι := Int) (S0 := [(25, _)]) (M0 := [(2, _)]) (G0 := []) (fun p => []) (fun p => [(2, ⟨(X0 0).b, 25, [.int .i64 l.len, .int .u64 p]⟩)]) (fun p => []) (fun p => p = (childL l b).bits) hF ?_ ?_
      · skip
        refine test_ok hF rfl (fun hb hF => ?_) (fun hb hF => ?_)
        · skip
          have hb1 : b = 1 := by subst hB; simpa [std, stdCmp] using hb
          have SB := bit_s l.len hl0 (by omega)
          obtain ⟨bt, hbt⟩ : ∃ x, x = ((2 ^ (63 - l.len.toNat) : Nat) : Int) := ⟨_, rfl⟩
          rw [← hbt] at SB
          have hor : stdArith .or .u64 l.bits bt = l.bits + bt := by rw [hbt]; exact or_child hLt hb0 h64
          apply drawn_okB hB (by kernel_rfl) T29_ok [2, 4] [2, 4] [(4, .r fun _ => .int .u64 bt)] hF rfl
          case hex => intro A X; conv => lhs; cbv
          case hD => kernel_rfl
          case hlen => rfl
          case hob =>
            intro X
            subst hB
            repeat (first | exact trivial | refine ⟨rfl, ?_⟩ | refine ⟨fun _ => rfl, ?_⟩ | refine ⟨ob_lab _ _ _ _, ?_⟩ | refine ⟨fun _ => ob_lab _ _ _ _, ?_⟩ | refine ⟨⟨enters70, SB⟩, ?_⟩ | refine ⟨fun _ => ⟨enters70, SB⟩, ?_⟩)
          case hQ =>
          intro X6 a0 w1 hF
          refine ⟨(childL l b).bits, rfl, ?_⟩
          have e : (childL l b).bits = B.arith .or .u64 l.bits bt := by
            subst hB
            show _ = stdArith .or .u64 l.bits bt
            rw [hor, hb1, hbt]; rfl
          rw [e]; exact hF
        · skip
          have hb1 : b = 0 := by
            have : ¬ b = 1 := by subst hB; simpa [std, stdCmp] using hb
            exact hb01.resolve_right this
          refine wp_skip ?_
          exact ⟨(childL l b).bits, rfl, by rw [hb1]; exact hF⟩
      · rintro bb hbb a0 w1 hF
        try dsimp only at hbb
        refine wp_seq ?_
        apply region_okB hB T29_ok [2, 4] [2, 4] [] hF
        case hex => intro A X; conv => lhs; cbv
        case hob =>
          intro X
          subst hB
          repeat (first | exact trivial | refine ⟨rfl, ?_⟩ | refine ⟨fun _ => rfl, ?_⟩ | refine ⟨ob_lab _ _ _ _, ?_⟩ | refine ⟨fun _ => ob_lab _ _ _ _, ?_⟩)
        case hQ =>
        intro X7 a0 w1 hF
        refine wp_seq ?_
        apply region_okB hB T29_ok [4, 5] [4] [] hF
        case hex => intro A X; conv => lhs; cbv
        case hob =>
          intro X
          subst hB
          repeat (first | exact trivial | refine ⟨rfl, ?_⟩ | refine ⟨fun _ => rfl, ?_⟩ | refine ⟨ob_lab _ _ _ _, ?_⟩ | refine ⟨fun _ => ob_lab _ _ _ _, ?_⟩)
        case hQ =>
        intro X8 a0 w1 hF
        refine wp_ret ?_
        refine ret_sim (fn := Try.f29) T29_ok hF (rs := [.cell 4 25, .tmp 5]) rfl (by conv => lhs; cbv) ?_ noAtom ?_
        · simp [AllOb, Ob.holds]
        · subst hB
          rw [hV, hE]
          have e1 : IntKind.i64.wrap (l.len + 1) = l.len + 1 := wrap_in (by omega) (by omega)
          refine Sim.tup ⟨Sim.agg ⟨?_, ?_, trivial⟩, Sim.refl _, trivial⟩
          · show Sim (.int .i64 (IntKind.i64.wrap (l.len + 1))) _
            rw [e1]; exact Sim.refl _
          · rw [hbb]; exact Sim.refl _
def T30 : List (Nat × TI) := [(3, ti3), (4, ti4), (23, ti23), (25, ti25)]
theorem T30_ok : TabOK Try.prog T30 := .cons t3 (.cons t4 (.cons t23 (.cons t25 (.nil))))
theorem enters30 : Enters Try.prog 30 := fun _ _ => by kernel_rfl
theorem cov_s (l : Lab) (hb0 : U64 l.bits) (key : Int) (hk : U64 key) : Spec Try.prog 30 [labAV l, .int .u64 key] (fun _ => .bool (.v (coverB l key))) := by
  intro m w hm hargs
  have SI := isL_s l hb0
  have SH := fun h0 h1 => head_s key l.len hk h0 h1
  simp only [labAV] at SI hargs
  unfold coverB
  obtain ⟨il, hil⟩ : ∃ x, x = isL l := ⟨_, rfl⟩
  rw [← hil] at SI ⊢
  obtain ⟨hd, hhd⟩ : ∃ x, x = ((headN key.toNat l.len.toNat : Nat) : Int) := ⟨_, rfl⟩
  rw [← hhd]
  simp only [← hhd] at SH
  refine enter hm hargs Try.func30 rfl (by simp [Try.ntmps30]) fun a0 hF => ?_
  simp only [Try.ntmps30, startT] at hF
  obtain ⟨B, hB⟩ : ∃ B, B = std := ⟨_, rfl⟩
  refine wp_seq ?_
  apply region_okB hB T30_ok [1, 2] [2] [] hF
  case hex => intro A X; conv => lhs; cbv
  case hob =>
    intro X
    subst hB
    simp [AllOb, Ob.holds, BE.den, std, stdCmp, stdArith] <;> omega
  case hQ =>
  intro X0 a0 w1 hF
  refine wp_seq ?_
  apply drawn_okB hB (by kernel_rfl) T30_ok [4] [] [(1, .r fun _ => .bool (.v il)), (6, .r fun _ => .int .u64 hd)] hF rfl
  case hex => intro A X; conv => lhs; cbv
  case hD => kernel_rfl
  case hlen => rfl
  case hob =>
    intro X
    subst hB
    repeat (first | exact trivial | refine ⟨rfl, ?_⟩ | refine ⟨fun _ => rfl, ?_⟩ | refine ⟨⟨enters52, SI⟩, ?_⟩ | refine ⟨fun h => ⟨enters71, SH (lab_of_guard hil h).1 (lab_of_guard hil h).2⟩, ?_⟩)
  case hQ =>
  intro X1 a0 w1 hF
  refine wp_ret ?_
  refine ret_sim (fn := Try.f30) T30_ok hF (rs := [.tmp 4]) rfl (rfl) ?_ noAtom ?_
  · simp [AllOb, Ob.holds]
  · subst hB
    exact Sim.bool (by show (if il = true then decide (hd = l.bits) else false) = _; rw [ite_and]; rfl)
def T92 : List (Nat × TI) := [(3, ti3), (9, ti9), (23, ti23), (25, ti25)]
theorem T92_ok : TabOK Try.prog T92 := .cons t3 (.cons t9 (.cons t23 (.cons t25 (.nil))))
theorem enters92 : Enters Try.prog 92 := fun _ _ => by kernel_rfl
theorem rbits_s (l : Lab) (hb0 : U64 l.bits) (h0 : 0 ≤ l.len) (h1 : l.len ≤ 64) : Spec Try.prog 92 [labAV l] (fun _ => .str (mkB (digs l.bits l.len.toNat))) := by
  intro m w hm hargs
  have SB := bits_s l.bits hb0
  have hz : (mkB (lowB 64 l.bits.toNat)).size = 64 := by rw [mk_size, lowB_len]
  have he : mkB (digs l.bits l.len.toNat) = (mkB (lowB 64 l.bits.toNat)).extract 0 l.len.toNat := by rw [mk_extract, List.drop_zero]; rfl
  rw [he]
  simp only [labAV] at hargs
  generalize mkB (lowB 64 l.bits.toNat) = bs at SB hz ⊢
  refine enter hm hargs Try.func92 rfl (by simp [Try.ntmps92]) fun a0 hF => ?_
  simp only [Try.ntmps92, startT] at hF
  obtain ⟨B, hB⟩ : ∃ B, B = std := ⟨_, rfl⟩
  refine wp_seq ?_
  apply region_okB hB T92_ok [1] [1] [] hF
  case hex => intro A X; conv => lhs; cbv
  case hob =>
    intro X
    subst hB
    simp [AllOb, Ob.holds, BE.den, std, stdCmp, stdArith] <;> omega
  case hQ =>
  intro X0 a0 w1 hF
  refine wp_seq ?_
  apply drawn_okB hB (by kernel_rfl) T92_ok [2] [] [(2, .r fun _ => .str bs)] hF rfl
  case hex => intro A X; conv => lhs; cbv
  case hD => kernel_rfl
  case hlen => rfl
  case hob =>
    intro X
    subst hB
    repeat (first | exact trivial | refine ⟨rfl, ?_⟩ | refine ⟨⟨enters83, SB⟩, ?_⟩ | refine ⟨⟨by decide, h0, by show l.len ≤ (bs.size : Int); rw [hz]; exact h1⟩, ?_⟩)
  case hQ =>
  intro X1 a0 w1 hF
  refine wp_ret ?_
  refine ret_spec (fn := Try.f92) T92_ok hF (rs := [.tmp 2]) rfl (rfl) ?_ noAtom ?_
  · subst hB; simp [AllOb, Ob.holds]
  · subst hB; rfl
def T91 : List (Nat × TI) := [(3, ti3), (4, ti4), (9, ti9), (23, ti23), (25, ti25)]
theorem T91_ok : TabOK Try.prog T91 := .cons t3 (.cons t4 (.cons t9 (.cons t23 (.cons t25 (.nil)))))
theorem enters91 : Enters Try.prog 91 := fun _ _ => by kernel_rfl
theorem rcov_s (l : Lab) (hb0 : U64 l.bits) (key : Int) (hk : U64 key) : Spec Try.prog 91 [labAV l, .int .u64 key] (fun _ => .bool (.v (coverB l key))) := by
  intro m w hm hargs
  have SI := risL_s l hb0
  have SD := fun h0 h1 => rbits_s l hb0 h0 h1
  have SB := bits_s key hk
  have hz : (mkB (lowB 64 key.toNat)).size = 64 := by rw [mk_size, lowB_len]
  have hct := fun hl => cov_text (l := l) hl hb0 hk
  have he : mkB (digs key l.len.toNat) = (mkB (lowB 64 key.toNat)).extract 0 l.len.toNat := by rw [mk_extract, List.drop_zero]; rfl
  simp only [labAV] at SI hargs SD
  obtain ⟨il, hil⟩ : ∃ x, x = isL l := ⟨_, rfl⟩
  rw [← hil] at SI
  generalize mkB (lowB 64 key.toNat) = bs at SB hz he
  obtain ⟨d, hd⟩ : ∃ x, x = mkB (digs l.bits l.len.toNat) := ⟨_, rfl⟩
  simp only [← hd] at SD
  refine enter hm hargs Try.func91 rfl (by simp [Try.ntmps91]) fun a0 hF => ?_
  simp only [Try.ntmps91, startT] at hF
  obtain ⟨B, hB⟩ : ∃ B, B = std := ⟨_, rfl⟩
  refine wp_seq ?_
  apply region_okB hB T91_ok [1, 2] [2] [] hF
  case hex => intro A X; conv => lhs; cbv
  case hob =>
    intro X
    subst hB
    simp [AllOb, Ob.holds, BE.den, std, stdCmp, stdArith] <;> omega
  case hQ =>
  intro X0 a0 w1 hF
  refine wp_seq ?_
  apply drawn_okB hB (by kernel_rfl) T91_ok [4] [] [(1, .r fun _ => .bool (.v il)), (4, .r fun _ => .str d), (6, .r fun _ => .str bs)] hF rfl
  case hex => intro A X; conv => lhs; cbv
  case hD => kernel_rfl
  case hlen => rfl
  case hob =>
    intro X
    subst hB
    repeat (first | exact trivial | refine ⟨rfl, ?_⟩ | refine ⟨fun _ => rfl, ?_⟩ | refine ⟨⟨enters54, SI⟩, ?_⟩ | refine ⟨fun _ => ⟨enters83, SB⟩, ?_⟩ | refine ⟨fun h => ⟨enters92, SD (lab_of_guard hil h).1 (lab_of_guard hil h).2⟩, ?_⟩ | refine ⟨fun h => ⟨by decide, (lab_of_guard hil h).1, by show l.len ≤ (bs.size : Int); rw [hz]; exact (lab_of_guard hil h).2⟩, ?_⟩)
  case hQ =>
  intro X1 a0 w1 hF
  refine wp_ret ?_
  refine ret_sim (fn := Try.f91) T91_ok hF (rs := [.tmp 4]) rfl (rfl) ?_ noAtom ?_
  · simp [AllOb, Ob.holds]
  · subst hB
    refine Sim.bool ?_
    show (if il = true then (d.toList == (bs.extract 0 l.len.toNat).toList) else false) = coverB l key
    cases hl : il with
    | false => rw [hl] at hil; unfold coverB; rw [← hil]; rfl
    | true =>
      rw [hl] at hil
      rw [if_pos rfl, eqB, hd, ← he, un_mk, un_mk]
      exact hct hil.symm
def T67 : List (Nat × TI) := [(3, ti3), (9, ti9), (25, ti25), (29, ti29)]
theorem T67_ok : TabOK Try.prog T67 := .cons t3 (.cons t9 (.cons t25 (.cons t29 (.nil))))
theorem enters67 : Enters Try.prog 67 := fun _ _ => by kernel_rfl
theorem rchild_s (l : Lab) (hb0 : U64 l.bits) (b : Int) (hb01 : b = 0 ∨ b = 1) : Spec Try.prog 67 [labAV l, .int .i64 b] (fun _ => .tup [labAV (chV l b), .int .i64 (chE l b)]) := by
  intro m w hm hargs
  have SI := risL_s l hb0
  simp only [labAV] at SI hargs ⊢
  obtain ⟨il, hil⟩ : ∃ x, x = isL l := ⟨_, rfl⟩
  rw [← hil] at SI
  refine enter hm hargs Try.func67 rfl (by simp [Try.ntmps67]) fun a0 hF => ?_
  simp only [Try.ntmps67, startT] at hF
  obtain ⟨B, hB⟩ : ∃ B, B = std := ⟨_, rfl⟩
  refine wp_seq ?_
  apply region_okB hB T67_ok [1, 2, 4] [2, 4] [] hF
  case hex => intro A X; conv => lhs; cbv
  case hob =>
    intro X
    subst hB
    simp [AllOb, Ob.holds, BE.den, std, stdCmp, stdArith] <;> omega
  case hQ =>
  intro X0 a0 w1 hF
  refine wp_seq ?_
  refine wp_seq ?_
  apply region_okB hB T67_ok [16, 1, 2, 4] [2, 4] [(1, .r fun _ => .bool (.v il))] hF
  case hex => intro A X; conv => lhs; cbv
  case hob =>
    intro X
    subst hB
    repeat (first | exact trivial | refine ⟨rfl, ?_⟩ | refine ⟨fun _ => rfl, ?_⟩ | refine ⟨ob_lab _ _ _ _, ?_⟩ | refine ⟨fun _ => ob_lab _ _ _ _, ?_⟩ | refine ⟨⟨enters54, SI⟩, ?_⟩ | refine ⟨fun _ => ⟨enters54, SI⟩, ?_⟩)
  case hQ =>
  intro X1 a0 w1 hF
  refine test_ok hF rfl (fun hb hF => ?_) (fun hb hF => ?_)
  · skip
    have h9 : (if (if (!il) = true then true else decide (b < 0)) = true then true else decide (b > 1)) = true := by subst hB; exact hb
    have hilf : il = false := by rcases hb01 with rfl | rfl <;> cases il <;> first | rfl | (simp at h9)
    have hE : chE l b = 1 := by unfold chE; rw [← hil, hilf]; rfl
    have hV : chV l b = ⟨0, 0⟩ := by unfold chV; rw [hE]; rfl
    refine wp_seq ?_
    apply region_okB hB T67_ok [4, 5] [4] [] hF
    case hex => intro A X; conv => lhs; cbv
    case hob =>
      intro X
      subst hB
      repeat (first | exact trivial | refine ⟨rfl, ?_⟩ | refine ⟨fun _ => rfl, ?_⟩ | refine ⟨ob_lab _ _ _ _, ?_⟩ | refine ⟨fun _ => ob_lab _ _ _ _, ?_⟩)
    case hQ =>
    intro X2 a0 w1 hF
    refine wp_ret ?_
    refine ret_sim (fn := Try.f67) T67_ok hF (rs := [.cell 4 25, .tmp 5]) rfl (by conv => lhs; cbv) ?_ noAtom ?_
    · simp [AllOb, Ob.holds]
    · subst hB
      rw [hV, hE]
      exact Sim.refl _
  · skip
    have h9 : (if (if (!il) = true then true else decide (b < 0)) = true then true else decide (b > 1)) = false := by subst hB; exact hb
    have hilt : il = true := by cases il <;> first | rfl | (simp at h9)
    have hLt : isL l = true := by rw [← hil]; exact hilt
    obtain ⟨hl0, hl1, hl2⟩ := lab_parts hLt
    refine wp_skip ?_
    refine wp_seq ?_
    refine wp_seq ?_
    apply region_okB hB T67_ok [20, 1, 2, 4] [2, 4] [] hF
    case hex => intro A X; conv => lhs; cbv
    case hob =>
      intro X
      subst hB
      simp [AllOb, Ob.holds, BE.den, std, stdCmp, stdArith] <;> omega
    case hQ =>
    intro X3 a0 w1 hF
    refine test_ok hF rfl (fun hb hF => ?_) (fun hb hF => ?_)
    · skip
      have h64 : l.len = 64 := by subst hB; simpa [std, stdCmp] using hb
      have hE : chE l b = 5 := by unfold chE; rw [← hil, hilt, if_neg (by decide), if_pos h64]
      have hV : chV l b = ⟨0, 0⟩ := by unfold chV; rw [hE]; rfl
      refine wp_seq ?_
      apply region_okB hB T67_ok [4, 5] [4] [] hF
      case hex => intro A X; conv => lhs; cbv
      case hob =>
        intro X
        subst hB
        repeat (first | exact trivial | refine ⟨rfl, ?_⟩ | refine ⟨fun _ => rfl, ?_⟩ | refine ⟨ob_lab _ _ _ _, ?_⟩ | refine ⟨fun _ => ob_lab _ _ _ _, ?_⟩)
      case hQ =>
      intro X4 a0 w1 hF
      refine wp_ret ?_
      refine ret_sim (fn := Try.f67) T67_ok hF (rs := [.cell 4 25, .tmp 5]) rfl (by conv => lhs; cbv) ?_ noAtom ?_
      · simp [AllOb, Ob.holds]
      · subst hB
        rw [hV, hE]
        exact Sim.refl _
    · skip
      have h64 : l.len ≠ 64 := by subst hB; simpa [std, stdCmp] using hb
      have hE : chE l b = 0 := by unfold chE; rw [← hil, hilt, if_neg (by decide), if_neg h64]
      have hV : chV l b = childL l b := by unfold chV; rw [hE]; rfl
      refine wp_skip ?_
      refine wp_seq ?_
      refine wp_seq ?_
      apply region_okB hB T67_ok [23, 2, 4] [2, 4] [] hF
      case hex => intro A X; conv => lhs; cbv
      case hob =>
        intro X
        subst hB
        simp [AllOb, Ob.holds, BE.den, std, stdCmp, stdArith] <;> omega
      case hQ =>
      intro X5 a0 w1 hF
      refine test_ok hF rfl (fun hb hF => ?_) (fun hb hF => ?_)
      · skip
        have hb1 : b = 0 := by subst hB; simpa [std, stdCmp] using hb
        have SD := rbits_s l hb0 hl0 hl1
        simp only [labAV] at SD
        obtain ⟨d, hd⟩ : ∃ x, x = mkB (digs l.bits l.len.toNat) := ⟨_, rfl⟩
        rw [← hd] at SD
        have hds : d.size = l.len.toNat := by rw [hd, mk_size]; exact digs_len _ (by omega)
        have hdt : unB (d ++ ⟨#[48]⟩) = digs l.bits l.len.toNat ++ [48] := by rw [un_append, hd, un_mk]; rfl
        have hsz : (d ++ ⟨#[48]⟩ : ByteArray).size = l.len.toNat + 1 := by rw [← un_size, hdt, List.length_append, digs_len _ (by omega)]; rfl
        have SO := of_s (d ++ ⟨#[48]⟩) (fun x hx => by rw [hdt] at hx; rcases List.mem_append.1 hx with hx | hx; exact digs_mem x hx; rw [List.mem_singleton.1 hx]; decide) (by omega)
        obtain ⟨k, hk⟩ : ∃ x, x = ofT (d ++ ⟨#[48]⟩) := ⟨_, rfl⟩
        rw [← hk] at SO
        simp only [labAV] at SO
        have hkl : k = childL l b := by
          have ht := child_text hLt hb0 h64 b hb01
          have hu := child_u hLt hb0 h64 b
          rw [hk]; unfold ofT; rw [hdt, hsz]
          have e1 : (childL l b).len = l.len + 1 := rfl
          have e2 : ∀ k : Lab, k = ⟨k.len, k.bits⟩ := fun k => rfl
          rw [e2 (childL l b), e1]
          congr 1
          · omega
          · have h0 := hu.1
            have e3 : (if b = 1 then (49 : UInt8) else 48) = 48 := by rw [hb1]; rfl
            rw [e3] at ht
            rw [ht]; omega
        refine wp_seq ?_
        apply region_okB hB T67_ok [4, 5] [4] [(1, .r fun _ => .str d), (3, .r fun _ => .agg [.int .i64 k.len, .int .u64 k.bits])] hF
        case hex => intro A X; conv => lhs; cbv
        case hob =>
          intro X
          subst hB
          repeat (first | exact trivial | refine ⟨(show d.size + 1 ≤ maxLen by simp only [maxLen]; omega), ?_⟩ | refine ⟨rfl, ?_⟩ | refine ⟨⟨enters92, SD⟩, ?_⟩ | refine ⟨⟨enters82, SO⟩, ?_⟩)
        case hQ =>
        intro X6 a0 w1 hF
        refine wp_ret ?_
        refine ret_sim (fn := Try.f67) T67_ok hF (rs := [.cell 4 25, .tmp 5]) rfl (by conv => lhs; cbv) ?_ noAtom ?_
        · simp [AllOb, Ob.holds]
        · subst hB
          rw [hV, hE, ← hkl]
          exact Sim.refl _
      · skip
        have hb1 : b = 1 := by
          have : ¬ b = 0 := by subst hB; simpa [std, stdCmp] using hb
          exact hb01.resolve_left this
        have SD := rbits_s l hb0 hl0 hl1
        simp only [labAV] at SD
        obtain ⟨d, hd⟩ : ∃ x, x = mkB (digs l.bits l.len.toNat) := ⟨_, rfl⟩
        rw [← hd] at SD
        have hds : d.size = l.len.toNat := by rw [hd, mk_size]; exact digs_len _ (by omega)
        have hdt : unB (d ++ ⟨#[49]⟩) = digs l.bits l.len.toNat ++ [49] := by rw [un_append, hd, un_mk]; rfl
        have hsz : (d ++ ⟨#[49]⟩ : ByteArray).size = l.len.toNat + 1 := by rw [← un_size, hdt, List.length_append, digs_len _ (by omega)]; rfl
        have SO := of_s (d ++ ⟨#[49]⟩) (fun x hx => by rw [hdt] at hx; rcases List.mem_append.1 hx with hx | hx; exact digs_mem x hx; rw [List.mem_singleton.1 hx]; decide) (by omega)
        obtain ⟨k, hk⟩ : ∃ x, x = ofT (d ++ ⟨#[49]⟩) := ⟨_, rfl⟩
        rw [← hk] at SO
        simp only [labAV] at SO
        have hkl : k = childL l b := by
          have ht := child_text hLt hb0 h64 b hb01
          have hu := child_u hLt hb0 h64 b
          rw [hk]; unfold ofT; rw [hdt, hsz]
          have e1 : (childL l b).len = l.len + 1 := rfl
          have e2 : ∀ k : Lab, k = ⟨k.len, k.bits⟩ := fun k => rfl
          rw [e2 (childL l b), e1]
          congr 1
          · omega
          · have h0 := hu.1
            have e3 : (if b = 1 then (49 : UInt8) else 48) = 49 := by rw [hb1]; rfl
            rw [e3] at ht
            rw [ht]; omega
        refine wp_skip ?_
        refine wp_seq ?_
        apply region_okB hB T67_ok [4, 5] [4] [(1, .r fun _ => .str d), (3, .r fun _ => .agg [.int .i64 k.len, .int .u64 k.bits])] hF
        case hex => intro A X; conv => lhs; cbv
        case hob =>
          intro X
          subst hB
          repeat (first | exact trivial | refine ⟨(show d.size + 1 ≤ maxLen by simp only [maxLen]; omega), ?_⟩ | refine ⟨rfl, ?_⟩ | refine ⟨⟨enters92, SD⟩, ?_⟩ | refine ⟨⟨enters82, SO⟩, ?_⟩)
        case hQ =>
        intro X7 a0 w1 hF
        refine wp_ret ?_
        refine ret_sim (fn := Try.f67) T67_ok hF (rs := [.cell 4 25, .tmp 5]) rfl (by conv => lhs; cbv) ?_ noAtom ?_
        · simp [AllOb, Ob.holds]
        · subst hB
          rw [hV, hE, ← hkl]
          exact Sim.refl _
end Go.Proofs.Ytkamdppnnhjajaa.Sym
