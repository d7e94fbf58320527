/-
  Labels (printed by a program of mine). Conditions: none.
-/
import Derived.Test.YtkamdppnnhjajaaPlNum
import Derived.Test.YtkamdppnnhjajaaSymEq
import Derived.Test.YtkamdppnnhjajaaSymTab
namespace Go.Proofs.Ytkamdppnnhjajaa.Sym
open Go Go.RowKit
set_option maxRecDepth 100000
set_option linter.unusedVariables false
set_option linter.unusedSimpArgs false
def labAV (l : Lab) : AV := .agg [.int .i64 l.len, .int .u64 l.bits]
/-- the label of a text of bits -/
def ofT (s : ByteArray) : Lab := ⟨s.size, (numB (unB s ++ List.replicate (64 - s.size) 48) : Nat)⟩
theorem eqL_lab (l k : Lab) : eqL [.int .i64 l.len, .int .u64 l.bits] [.int .i64 k.len, .int .u64 k.bits] = decide (l = k) := by
  obtain ⟨a, b⟩ := l
  obtain ⟨c, d⟩ := k
  rw [Bool.eq_iff_iff]
  simp [eqL, eqC]
theorem lab_guard : Try.prog.eqGuardType Try.prog.depth 25 = false := by kernel_rfl
theorem lab_shape : eqShape Try.prog 2 25 = some [.int .i64, .int .u64] := by kernel_rfl
theorem lab_agg : aggB Try.prog 25 = some true := by kernel_rfl
theorem ob_lab (a b c d : Int) : Ob.holds Try.prog (.eql 25 [.int .i64 a, .int .u64 b] [.int .i64 c, .int .u64 d]) := ob_eql lab_shape (by decide) lab_guard lab_agg ⟨rfl, rfl, trivial⟩ ⟨rfl, rfl, trivial⟩
theorem isL_of (l : Lab) (hv : U64 l.bits) (h0 : 0 ≤ l.len) (h1 : l.len ≤ 64) : isL l = decide (ofT ((mkB (lowB 64 l.bits.toNat)).extract 0 l.len.toNat) = l) := by
  have hn : l.len.toNat ≤ 64 := by omega
  have hb : l.bits.toNat < 2 ^ 64 := by have := hv.1; have := hv.2; omega
  have hlen : ((lowB 64 l.bits.toNat).take l.len.toNat).length = l.len.toNat := by rw [List.length_take, lowB_len]; omega
  have e : ofT ((mkB (lowB 64 l.bits.toNat)).extract 0 l.len.toNat) = ⟨l.len, (headN l.bits.toNat l.len.toNat : Nat)⟩ := by
    unfold ofT
    rw [mk_extract, un_mk, List.drop_zero, mk_size, hlen, of_head hb hn]
    congr 1
    omega
  rw [e]
  unfold isL
  rw [Bool.eq_iff_iff]
  obtain ⟨a, b⟩ := l
  simp only at *
  simp [h0, h1]
def T71 : List (Nat × TI) := [(23, ti23)]
theorem T71_ok : TabOK Try.prog T71 := .cons t23 (.nil)
theorem enters71 : Enters Try.prog 71 := fun _ _ => by kernel_rfl
theorem head_s (v n : Int) (hv : U64 v) (h0 : 0 ≤ n) (h1 : n ≤ 64) : Spec Try.prog 71 [.int .u64 v, .int .i64 n] (fun _ => .int .u64 (headN v.toNat n.toNat)) := by
  intro m w hm hargs
  refine enter hm hargs Try.func71 rfl (by simp [Try.ntmps71]) fun a0 hF => ?_
  simp only [Try.ntmps71, startT] at hF
  obtain ⟨B, hB⟩ : ∃ B, B = std := ⟨_, rfl⟩
  refine wp_seq ?_
  apply region_okB hB T71_ok [0, 1] [] [] hF
  case hex => intro A X; conv => lhs; cbv
  case hob =>
    intro X
    subst hB
    simp [AllOb, Ob.holds, BE.den, std, stdCmp, stdArith] <;> omega
  case hQ =>
  intro X0 a0 w1 hF
  refine wp_seq ?_
  apply region_okB hB T71_ok [0, 5] [] [] hF
  case hex => intro A X; conv => lhs; cbv
  case hob =>
    intro X
    subst hB
    simp [AllOb, Ob.holds, BE.den, std, stdCmp, stdArith] <;> omega
  case hQ =>
  intro X1 a0 w1 hF
  refine wp_seq ?_
  apply region_okB hB T71_ok [4] [] [] hF
  case hex => intro A X; conv => lhs; cbv
  case hob =>
    intro X
    subst hB
    simp [AllOb, Ob.holds, BE.den, std, stdCmp, stdArith] <;> omega
  case hQ =>
  intro X2 a0 w1 hF
  refine wp_ret ?_
  refine ret_spec (fn := Try.f71) T71_ok hF (rs := [.tmp 4]) rfl (rfl) ?_ noAtom ?_
  · subst hB; simp [AllOb, Ob.holds]
  · subst hB; simp only [head_std hv h0 h1, std]; rfl
def T52 : List (Nat × TI) := [(3, ti3), (4, ti4), (23, ti23), (25, ti25)]
theorem T52_ok : TabOK Try.prog T52 := .cons t3 (.cons t4 (.cons t23 (.cons t25 (.nil))))
theorem enters52 : Enters Try.prog 52 := fun _ _ => by kernel_rfl
theorem isL_s (l : Lab) (hv : U64 l.bits) : Spec Try.prog 52 [labAV l] (fun _ => .bool (.v (isL l))) := by
  intro m w hm hargs
  simp only [labAV] at hargs ⊢
  have S := fun h0 h1 => head_s l.bits l.len hv h0 h1
  generalize hhd : ((headN l.bits.toNat l.len.toNat : Nat) : Int) = hd at S
  refine enter hm hargs Try.func52 rfl (by simp [Try.ntmps52]) fun a0 hF => ?_
  simp only [Try.ntmps52, startT] at hF
  obtain ⟨B, hB⟩ : ∃ B, B = std := ⟨_, rfl⟩
  refine wp_seq ?_
  apply region_okB hB T52_ok [1] [1] [] hF
  case hex => intro A X; conv => lhs; cbv
  case hob =>
    intro X
    subst hB
    simp [AllOb, Ob.holds, BE.den, std, stdCmp, stdArith] <;> omega
  case hQ =>
  intro X0 a0 w1 hF
  refine wp_seq ?_
  apply drawn_okB hB (by kernel_rfl) T52_ok [2] [] [(13, .r fun _ => .int .u64 hd)] hF rfl
  case hex => intro A X; conv => lhs; cbv
  case hD => kernel_rfl
  case hlen => rfl
  case hob =>
    intro X
    subst hB
    refine ⟨rfl, fun _ => rfl, fun _ => rfl, fun _ => rfl, fun h => ?_, fun _ => rfl, trivial⟩
    have hl := h _ (List.mem_singleton.2 rfl)
    have hl : (0 : Int) ≤ l.len ∧ l.len ≤ 64 := by simpa [std, stdCmp, BE.den] using hl
    exact ⟨enters71, S hl.1 hl.2⟩
  case hQ =>
  intro X1 a0 w1 hF
  refine wp_ret ?_
  refine ret_spec (fn := Try.f52) T52_ok hF (rs := [.tmp 2]) rfl (rfl) ?_ noAtom ?_
  · subst hB; simp [AllOb, Ob.holds]
  · subst hB
    refine congrArg (fun b => AV.bool (.v b)) ?_
    simp only [std, stdCmp, isL, BE.den, hhd]
    by_cases h1 : 0 ≤ l.len <;> by_cases h2 : l.len ≤ 64 <;> simp [h1, h2]
    rfl
def T36 : List (Nat × TI) := [(25, ti25)]
theorem T36_ok : TabOK Try.prog T36 := .cons t25 (.nil)
theorem enters36 : Enters Try.prog 36 := fun _ _ => by kernel_rfl
theorem none_s : Spec Try.prog 36 [] (fun _ => labAV noneL) := by
  intro m w hm hargs
  refine enter hm hargs Try.func36 rfl (by simp [Try.ntmps36]) fun a0 hF => ?_
  simp only [Try.ntmps36, startT] at hF
  obtain ⟨B, hB⟩ : ∃ B, B = std := ⟨_, rfl⟩
  refine wp_seq ?_
  apply region_okB hB T36_ok [0] [0] [] hF
  case hex => intro A X; conv => lhs; cbv
  case hob =>
    intro X
    subst hB
    simp [AllOb, Ob.holds, BE.den, std, stdCmp, stdArith] <;> omega
  case hQ =>
  intro X0 a0 w1 hF
  refine wp_seq ?_
  apply region_okB hB T36_ok [0] [0] [] hF
  case hex => intro A X; conv => lhs; cbv
  case hob =>
    intro X
    subst hB
    simp [AllOb, Ob.holds, BE.den, std, stdCmp, stdArith] <;> omega
  case hQ =>
  intro X1 a0 w1 hF
  refine wp_ret ?_
  refine ret_spec (fn := Try.f36) T36_ok hF (rs := [.cell 0 25]) rfl (by conv => lhs; cbv) ?_ noAtom ?_
  · subst hB; simp [AllOb, Ob.holds]
  · subst hB; rfl
def T41 : List (Nat × TI) := [(25, ti25)]
theorem T41_ok : TabOK Try.prog T41 := .cons t25 (.nil)
theorem enters41 : Enters Try.prog 41 := fun _ _ => by kernel_rfl
theorem rnone_s : Spec Try.prog 41 [] (fun _ => labAV noneL) := by
  intro m w hm hargs
  refine enter hm hargs Try.func41 rfl (by simp [Try.ntmps41]) fun a0 hF => ?_
  simp only [Try.ntmps41, startT] at hF
  obtain ⟨B, hB⟩ : ∃ B, B = std := ⟨_, rfl⟩
  refine wp_seq ?_
  apply region_okB hB T41_ok [0] [0] [] hF
  case hex => intro A X; conv => lhs; cbv
  case hob =>
    intro X
    subst hB
    simp [AllOb, Ob.holds, BE.den, std, stdCmp, stdArith] <;> omega
  case hQ =>
  intro X0 a0 w1 hF
  refine wp_seq ?_
  apply region_okB hB T41_ok [0] [0] [] hF
  case hex => intro A X; conv => lhs; cbv
  case hob =>
    intro X
    subst hB
    simp [AllOb, Ob.holds, BE.den, std, stdCmp, stdArith] <;> omega
  case hQ =>
  intro X1 a0 w1 hF
  refine wp_ret ?_
  refine ret_spec (fn := Try.f41) T41_ok hF (rs := [.cell 0 25]) rfl (by conv => lhs; cbv) ?_ noAtom ?_
  · subst hB; simp [AllOb, Ob.holds]
  · subst hB; rfl
def T83 : List (Nat × TI) := [(3, ti3), (9, ti9), (23, ti23)]
theorem T83_ok : TabOK Try.prog T83 := .cons t3 (.cons t9 (.cons t23 (.nil)))
theorem enters83 : Enters Try.prog 83 := fun _ _ => by kernel_rfl
theorem bits_s (v : Int) (hv : U64 v) : Spec Try.prog 83 [.int .u64 v] (fun _ => .str (mkB (lowB 64 v.toNat))) := by
  intro m w hm hargs
  refine enter hm hargs Try.func83 rfl (by simp [Try.ntmps83]) fun a0 hF => ?_
  simp only [Try.ntmps83, startT] at hF
  obtain ⟨B, hB⟩ : ∃ B, B = std := ⟨_, rfl⟩
  refine wp_seq ?_
  apply region_okB hB T83_ok [0] [] [] hF
  case hex => intro A X; conv => lhs; cbv
  case hob =>
    intro X
    subst hB
    simp [AllOb, Ob.holds, BE.den, std, stdCmp, stdArith] <;> omega
  case hQ =>
  intro X0 a0 w1 hF
  refine wp_seq ?_
  apply region_okB hB T83_ok [0, 3] [] [] hF
  case hex => intro A X; conv => lhs; cbv
  case hob =>
    intro X
    subst hB
    simp [AllOb, Ob.holds, BE.den, std, stdCmp, stdArith] <;> omega
  case hQ =>
  intro X1 a0 w1 hF
  refine wp_seq ?_
  refine wp_seq ?_
  apply region_okB hB T83_ok [0, 3, 4] [] [] hF
  case hex => intro A X; conv => lhs; cbv
  case hob =>
    intro X
    subst hB
    simp [AllOb, Ob.holds, BE.den, std, stdCmp, stdArith] <;> omega
  case hQ =>
  intro X2 a0 w1 hF
  refine wp_block ?_
  have hF : Fits ⟨m, w, fun _ => False, []⟩ ⟨19, [(0, .int .u64 v), (3, .str (mkB [])), (4, .int .i64 ((0 : Nat) : Int))], [], [], []⟩ a0 w1 := hF
  refine loop_pre (ι := Nat × ByteArray × Int) (fun p => [(0, .int .u64 p.2.2), (3, .str p.2.1), (4, .int .i64 (p.1 : Int))]) (fun p => []) (fun p => []) (fun p => p.1 ≤ 64 ∧ p.2.1 = mkB (lowB p.1 v.toNat) ∧ p.2.2 = ((v.toNat / 2 ^ p.1 : Nat) : Int)) (fun p => 64 - p.1) (0, mkB [], v) ⟨by simp, rfl, by have := hv.1; simp only [Nat.pow_zero, Nat.div_one]; omega⟩ hF ?_
  rintro ⟨i, o, x⟩ ⟨hi, ho, hx⟩ a0 w1 hF
  try dsimp only at hi
  try dsimp only at ho
  try dsimp only at hx
  refine wp_seq ?_
  refine wp_seq ?_
  apply region_okB hB T83_ok [6, 0, 3, 4] [] [] hF
  case hex => intro A X; conv => lhs; cbv
  case hob =>
    intro X
    subst hB
    simp [AllOb, Ob.holds, BE.den, std, stdCmp, stdArith] <;> omega
  case hQ =>
  intro X3 a0 w1 hF
  refine test_ok hF rfl (fun hb hF => ?_) (fun hb hF => ?_)
  · skip
    have hin : i < 64 := by
      have : (i : Int) < 64 := by subst hB; simpa [std, stdCmp] using hb
      omega
    refine wp_skip ?_
    refine wp_seq ?_
    refine wp_block ?_
    refine wp_seq ?_
    refine wp_seq ?_
    apply region_okB hB T83_ok [11, 0, 3, 4] [] [] hF
    case hex => intro A X; conv => lhs; cbv
    case hob =>
      intro X
      subst hB
      simp [AllOb, Ob.holds, BE.den, std, stdCmp, stdArith] <;> omega
    case hQ =>
    intro X5 a0 w1 hF
    refine test_ok hF rfl (fun hb hF => ?_) (fun hb hF => ?_)
    · skip
      have hd : dig v.toNat i = 49 := by
        have h1 : (((v.toNat / 2 ^ i : Nat) : Int)).tmod 2 = 1 := by subst hB; rw [hx] at hb; simpa [std, stdCmp, stdDiv] using hb
        have h2 : v.toNat / 2 ^ i % 2 = 1 := by have : (((v.toNat / 2 ^ i % 2 : Nat)) : Int) = 1 := h1; omega
        simp [dig, h2]
      obtain ⟨c, hc⟩ : ∃ c : UInt8, c = 49 := ⟨_, rfl⟩
      apply region_okB hB T83_ok [0, 3, 4] [] [] hF
      case hex => intro A X; conv => lhs; cbv
      case hob =>
        intro X
        subst hB
        refine ⟨?_, trivial⟩
        show (1 : Nat) + o.size ≤ maxLen
        rw [ho, mk_size, lowB_len]; simp only [maxLen]; omega
      case hQ =>
      intro X6 a0 w1 hF
      apply region_okB hB T83_ok [0, 3, 4] [] [] hF
      case hex => intro A X; conv => lhs; cbv
      case hob =>
        intro X
        subst hB
        simp [AllOb, Ob.holds, BE.den, std, stdCmp, stdArith] <;> omega
      case hQ =>
      intro X8 a0 w1 hF
      apply region_okB hB T83_ok [0, 3, 4] [] [] hF
      case hex => intro A X; conv => lhs; cbv
      case hob =>
        intro X
        subst hB
        simp [AllOb, Ob.holds, BE.den, std, stdCmp, stdArith] <;> omega
      case hQ =>
      intro X4 a0 w1 hF
      have e : B.arith .add .i64 (i : Int) 1 = ((i + 1 : Nat) : Int) := by subst hB; exact wrap_succ (n := 64) (by omega) (by decide)
      refine ⟨(i + 1, B.cat ⟨#[c]⟩ o, B.div .quo .u64 x 2), ⟨by simp only; omega, ?_, ?_⟩, by simp only; omega, by rw [← e, hc]; exact hF⟩
      · subst hB; rw [ho]; show mkB [_] ++ mkB (lowB i v.toNat) = mkB (lowB (i + 1) v.toNat)
        rw [mk_append, lowB, hd, hc]; rfl
      · subst hB; rw [hx]; show IntKind.u64.wrap ((((v.toNat / 2 ^ i : Nat) : Int)).tdiv 2) = _
        rw [show (((v.toNat / 2 ^ i : Nat) : Int)).tdiv 2 = ((v.toNat / 2 ^ i / 2 : Nat) : Int) from rfl, Nat.div_div_eq_div_mul, ← Nat.pow_succ]
        refine wrap_u64 _ ⟨Int.natCast_nonneg _, ?_⟩
        have h1 := Nat.div_le_self v.toNat (2 ^ Nat.succ i)
        have := hv.2
        omega
    · skip
      have hd : dig v.toNat i = 48 := by
        have h1 : ¬ (((v.toNat / 2 ^ i : Nat) : Int)).tmod 2 = 1 := by subst hB; rw [hx] at hb; simpa [std, stdCmp, stdDiv] using hb
        have h2 : ¬ v.toNat / 2 ^ i % 2 = 1 := fun h => h1 (by show (((v.toNat / 2 ^ i % 2 : Nat)) : Int) = 1; omega)
        simp [dig, h2]
      obtain ⟨c, hc⟩ : ∃ c : UInt8, c = 48 := ⟨_, rfl⟩
      apply region_okB hB T83_ok [0, 3, 4] [] [] hF
      case hex => intro A X; conv => lhs; cbv
      case hob =>
        intro X
        subst hB
        refine ⟨?_, trivial⟩
        show (1 : Nat) + o.size ≤ maxLen
        rw [ho, mk_size, lowB_len]; simp only [maxLen]; omega
      case hQ =>
      intro X7 a0 w1 hF
      apply region_okB hB T83_ok [0, 3, 4] [] [] hF
      case hex => intro A X; conv => lhs; cbv
      case hob =>
        intro X
        subst hB
        simp [AllOb, Ob.holds, BE.den, std, stdCmp, stdArith] <;> omega
      case hQ =>
      intro X8 a0 w1 hF
      apply region_okB hB T83_ok [0, 3, 4] [] [] hF
      case hex => intro A X; conv => lhs; cbv
      case hob =>
        intro X
        subst hB
        simp [AllOb, Ob.holds, BE.den, std, stdCmp, stdArith] <;> omega
      case hQ =>
      intro X4 a0 w1 hF
      have e : B.arith .add .i64 (i : Int) 1 = ((i + 1 : Nat) : Int) := by subst hB; exact wrap_succ (n := 64) (by omega) (by decide)
      refine ⟨(i + 1, B.cat ⟨#[c]⟩ o, B.div .quo .u64 x 2), ⟨by simp only; omega, ?_, ?_⟩, by simp only; omega, by rw [← e, hc]; exact hF⟩
      · subst hB; rw [ho]; show mkB [_] ++ mkB (lowB i v.toNat) = mkB (lowB (i + 1) v.toNat)
        rw [mk_append, lowB, hd, hc]; rfl
      · subst hB; rw [hx]; show IntKind.u64.wrap ((((v.toNat / 2 ^ i : Nat) : Int)).tdiv 2) = _
        rw [show (((v.toNat / 2 ^ i : Nat) : Int)).tdiv 2 = ((v.toNat / 2 ^ i / 2 : Nat) : Int) from rfl, Nat.div_div_eq_div_mul, ← Nat.pow_succ]
        refine wrap_u64 _ ⟨Int.natCast_nonneg _, ?_⟩
        have h1 := Nat.div_le_self v.toNat (2 ^ Nat.succ i)
        have := hv.2
        omega
  · skip
    have hi2 : i = 64 := by
      have : ¬ (i : Int) < 64 := by subst hB; simpa [std, stdCmp] using hb
      omega
    subst hi2
    refine wp_exit ?_
    refine wp_seq ?_
    apply region_okB hB T83_ok [2] [] [] hF
    case hex => intro A X; conv => lhs; cbv
    case hob =>
      intro X
      subst hB
      simp [AllOb, Ob.holds, BE.den, std, stdCmp, stdArith] <;> omega
    case hQ =>
    intro X9 a0 w1 hF
    refine wp_ret ?_
    refine ret_spec (fn := Try.f83) T83_ok hF (rs := [.tmp 2]) rfl (rfl) ?_ noAtom ?_
    · subst hB; simp [AllOb, Ob.holds]
    · subst hB; rw [ho]; rfl
def T103 : List (Nat × TI) := [(3, ti3), (5, ti5), (9, ti9), (23, ti23)]
theorem T103_ok : TabOK Try.prog T103 := .cons t3 (.cons t5 (.cons t9 (.cons t23 (.nil))))
theorem enters103 : Enters Try.prog 103 := fun _ _ => by kernel_rfl
theorem number_s (s : ByteArray) (hs : ∀ c ∈ unB s, c = 48 ∨ c = 49) (hl : s.size ≤ 64) : Spec Try.prog 103 [.str s] (fun _ => .int .u64 (numB (unB s) : Int)) := by
  intro m w hm hargs
  refine enter hm hargs Try.func103 rfl (by simp [Try.ntmps103]) fun a0 hF => ?_
  simp only [Try.ntmps103, startT] at hF
  obtain ⟨B, hB⟩ : ∃ B, B = std := ⟨_, rfl⟩
  refine wp_seq ?_
  apply region_okB hB T103_ok [0] [] [] hF
  case hex => intro A X; conv => lhs; cbv
  case hob =>
    intro X
    subst hB
    simp [AllOb, Ob.holds, BE.den, std, stdCmp, stdArith] <;> omega
  case hQ =>
  intro X0 a0 w1 hF
  refine wp_seq ?_
  apply region_okB hB T103_ok [0, 3] [] [] hF
  case hex => intro A X; conv => lhs; cbv
  case hob =>
    intro X
    subst hB
    simp [AllOb, Ob.holds, BE.den, std, stdCmp, stdArith] <;> omega
  case hQ =>
  intro X1 a0 w1 hF
  refine wp_seq ?_
  refine wp_seq ?_
  apply region_okB hB T103_ok [3, 4, 0] [] [] hF
  case hex => intro A X; conv => lhs; cbv
  case hob =>
    intro X
    subst hB
    simp [AllOb, Ob.holds, BE.den, std, stdCmp, stdArith] <;> omega
  case hQ =>
  intro X2 a0 w1 hF
  refine wp_block ?_
  have hF : Fits ⟨m, w, fun _ => False, []⟩ ⟨20, [(3, .int .u64 0), (4, .int .i64 ((0 : Nat) : Int)), (0, .str s)], [], [], []⟩ a0 w1 := hF
  refine loop_pre (ι := Nat × Int) (fun p => [(3, .int .u64 p.2), (4, .int .i64 (p.1 : Int))]) (fun p => []) (fun p => []) (fun p => p.1 ≤ s.size ∧ p.2 = (numB ((unB s).take p.1) : Int)) (fun p => s.size - p.1) (0, 0) ⟨Nat.zero_le _, rfl⟩ hF ?_
  rintro ⟨i, x⟩ ⟨hi, hx⟩ a0 w1 hF
  try dsimp only at hi
  try dsimp only at hx
  refine wp_seq ?_
  refine wp_seq ?_
  apply region_okB hB T103_ok [8, 0, 3, 4] [] [] hF
  case hex => intro A X; conv => lhs; cbv
  case hob =>
    intro X
    subst hB
    simp [AllOb, Ob.holds, BE.den, std, stdCmp, stdArith] <;> omega
  case hQ =>
  intro X3 a0 w1 hF
  refine test_ok hF rfl (fun hb hF => ?_) (fun hb hF => ?_)
  · skip
    have hin : i < s.size := by
      have : (i : Int) < (s.size : Int) := by subst hB; simpa [std, stdCmp] using hb
      omega
    refine wp_skip ?_
    refine wp_seq ?_
    refine wp_block ?_
    apply region_okB hB T103_ok [0, 3, 4] [] [] hF
    case hex => intro A X; conv => lhs; cbv
    case hob =>
      intro X
      subst hB
      refine ⟨⟨?_, ?_⟩, trivial⟩
      · show (0 : Int) ≤ (i : Int); omega
      · show (i : Int) < (s.size : Int); omega
    case hQ =>
    intro X5 a0 w1 hF
    apply region_okB hB T103_ok [3, 4, 0] [] [] hF
    case hex => intro A X; conv => lhs; cbv
    case hob =>
      intro X
      subst hB
      simp [AllOb, Ob.holds, BE.den, std, stdCmp, stdArith] <;> omega
    case hQ =>
    intro X4 a0 w1 hF
    have e : B.arith .add .i64 (i : Int) 1 = ((i + 1 : Nat) : Int) := by subst hB; exact wrap_succ (n := s.size) hin (by simp only [maxLen]; omega)
    refine ⟨(i + 1, B.arith .add .u64 (B.arith .mul .u64 2 x) (B.conv .u64 (B.arith .sub .u8 (B.sat s (B.toNat (i : Int))) 48))), ⟨by simp only; omega, ?_⟩, by simp only; omega, by rw [← e]; exact hF⟩
    subst hB
    show std.arith .add .u64 (std.arith .mul .u64 2 x) (std.conv .u64 (std.arith .sub .u8 (std.sat s (std.toNat (i : Int))) 48)) = _
    have hi2 : i < (unB s).length := by rw [un_size]; exact hin
    have hc := hs _ (List.getElem_mem hi2)
    rw [hx]
    show IntKind.u64.wrap (IntKind.u64.wrap (2 * (numB ((unB s).take i) : Int)) + IntKind.u64.wrap (IntKind.u8.wrap (((s[((i : Int)).toNat]?.getD 0).toNat : Int) - 48))) = _
    rw [Int.toNat_natCast, un_get, List.getElem?_eq_getElem hi2, List.take_succ_eq_append_getElem hi2, numB_append]
    have hb1 := numB_lt ((unB s).take i) (fun c hc => hs c (List.mem_of_mem_take hc))
    rw [List.length_take, Nat.min_eq_left (by omega)] at hb1
    have hb2 : 2 ^ i ≤ 2 ^ 63 := Nat.pow_le_pow_right (by decide) (by omega)
    rcases hc with hc | hc
    · rw [hc]
      rw [wrap_u64 (2 * _) ⟨by omega, by omega⟩]
      rw [show IntKind.u64.wrap (IntKind.u8.wrap ((((some (48 : UInt8)).getD 0).toNat : Int) - 48)) = 0 from by decide, Int.add_zero, wrap_u64 _ ⟨by omega, by omega⟩]
      simp [numB]; omega
    · rw [hc]
      rw [wrap_u64 (2 * _) ⟨by omega, by omega⟩]
      rw [show IntKind.u64.wrap (IntKind.u8.wrap ((((some (49 : UInt8)).getD 0).toNat : Int) - 48)) = 1 from by decide, wrap_u64 _ ⟨by omega, by omega⟩]
      simp [numB]; omega
  · skip
    have hi2 : i = s.size := by
      have : ¬ (i : Int) < (s.size : Int) := by subst hB; simpa [std, stdCmp] using hb
      omega
    subst hi2
    refine wp_exit ?_
    refine wp_seq ?_
    apply region_okB hB T103_ok [2] [] [] hF
    case hex => intro A X; conv => lhs; cbv
    case hob =>
      intro X
      subst hB
      simp [AllOb, Ob.holds, BE.den, std, stdCmp, stdArith] <;> omega
    case hQ =>
    intro X6 a0 w1 hF
    refine wp_ret ?_
    refine ret_spec (fn := Try.f103) T103_ok hF (rs := [.tmp 2]) rfl (rfl) ?_ noAtom ?_
    · subst hB; simp [AllOb, Ob.holds]
    · subst hB; rw [hx, List.take_of_length_le (by rw [un_size]; exact Nat.le_refl _)]; rfl
def T104 : List (Nat × TI) := [(3, ti3), (9, ti9)]
theorem T104_ok : TabOK Try.prog T104 := .cons t3 (.cons t9 (.nil))
theorem enters104 : Enters Try.prog 104 := fun _ _ => by kernel_rfl
theorem fill_s (s : ByteArray) (hl : s.size ≤ 64) : Spec Try.prog 104 [.str s, .str ⟨#[48]⟩] (fun _ => .str (mkB (unB s ++ List.replicate (64 - s.size) 48))) := by
  intro m w hm hargs
  refine enter hm hargs Try.func104 rfl (by simp [Try.ntmps104]) fun a0 hF => ?_
  simp only [Try.ntmps104, startT] at hF
  obtain ⟨B, hB⟩ : ∃ B, B = std := ⟨_, rfl⟩
  refine wp_seq ?_
  apply region_okB hB T104_ok [0, 1] [] [] hF
  case hex => intro A X; conv => lhs; cbv
  case hob =>
    intro X
    subst hB
    simp [AllOb, Ob.holds, BE.den, std, stdCmp, stdArith] <;> omega
  case hQ =>
  intro X0 a0 w1 hF
  refine wp_seq ?_
  refine wp_block ?_
  refine loop_pre (ι := Nat × ByteArray) (fun p => [(0, .str p.2)]) (fun p => []) (fun p => []) (fun p => p.1 ≤ 64 - s.size ∧ p.2 = mkB (unB s ++ List.replicate p.1 48)) (fun p => 64 - p.1) (0, s) ⟨Nat.zero_le _, by simp [mk_un]⟩ hF ?_
  rintro ⟨i, o⟩ ⟨hi, ho⟩ a0 w1 hF
  try dsimp only at hi
  try dsimp only at ho
  refine wp_seq ?_
  refine wp_seq ?_
  apply region_okB hB T104_ok [7, 0, 1] [] [] hF
  case hex => intro A X; conv => lhs; cbv
  case hob =>
    intro X
    subst hB
    simp [AllOb, Ob.holds, BE.den, std, stdCmp, stdArith] <;> omega
  case hQ =>
  intro X1 a0 w1 hF
  refine test_ok hF rfl (fun hb hF => ?_) (fun hb hF => ?_)
  · skip
    have hsz : o.size = s.size + i := by rw [ho, mk_size]; simp [un_size]
    have hin : o.size < 64 := by
      have : (o.size : Int) < 64 := by subst hB; simpa [std, stdCmp] using hb
      omega
    refine wp_skip ?_
    refine wp_block ?_
    apply region_okB hB T104_ok [0, 1] [] [] hF
    case hex => intro A X; conv => lhs; cbv
    case hob =>
      intro X
      subst hB
      refine ⟨?_, trivial⟩
      show o.size + 1 ≤ maxLen
      simp only [maxLen]; omega
    case hQ =>
    intro X2 a0 w1 hF
    refine ⟨(i + 1, B.cat o ⟨#[48]⟩), ⟨?_, ?_⟩, by simp only; omega, hF⟩
    · simp only; omega
    · subst hB; rw [ho]; show mkB _ ++ mkB [48] = _
      rw [mk_append, List.append_assoc, ← List.replicate_succ']
  · skip
    have hsz : o.size = s.size + i := by rw [ho, mk_size]; simp [un_size]
    have hi2 : ¬ o.size < 64 := by
      have : ¬ (o.size : Int) < 64 := by subst hB; simpa [std, stdCmp] using hb
      omega
    have hi3 : i = 64 - s.size := by omega
    refine wp_exit ?_
    refine wp_seq ?_
    apply region_okB hB T104_ok [4] [] [] hF
    case hex => intro A X; conv => lhs; cbv
    case hob =>
      intro X
      subst hB
      simp [AllOb, Ob.holds, BE.den, std, stdCmp, stdArith] <;> omega
    case hQ =>
    intro X3 a0 w1 hF
    refine wp_ret ?_
    refine ret_spec (fn := Try.f104) T104_ok hF (rs := [.tmp 4]) rfl (rfl) ?_ noAtom ?_
    · subst hB; simp [AllOb, Ob.holds]
    · subst hB; rw [← hi3, ← ho]; rfl
def T82 : List (Nat × TI) := [(9, ti9), (25, ti25)]
theorem T82_ok : TabOK Try.prog T82 := .cons t9 (.cons t25 (.nil))
theorem enters82 : Enters Try.prog 82 := fun _ _ => by kernel_rfl
theorem of_s (s : ByteArray) (hs : ∀ c ∈ unB s, c = 48 ∨ c = 49) (hl : s.size ≤ 64) : Spec Try.prog 82 [.str s] (fun _ => labAV (ofT s)) := by
  intro m w hm hargs
  have S1 := fill_s s hl
  have S2 := number_s (mkB (unB s ++ List.replicate (64 - s.size) 48)) (fun c hc => by rw [un_mk] at hc; rcases List.mem_append.1 hc with hc | hc; exact hs c hc; exact .inl (List.eq_of_mem_replicate hc)) (by rw [mk_size]; simp [un_size]; omega)
  rw [un_mk] at S2
  have e0 : labAV (ofT s) = .agg [.int .i64 (s.size : Int), .int .u64 (numB (unB s ++ List.replicate (64 - s.size) 48) : Int)] := rfl
  rw [e0]
  generalize mkB (unB s ++ List.replicate (64 - s.size) 48) = f at S1 S2
  generalize ((numB (unB s ++ List.replicate (64 - s.size) 48) : Nat) : Int) = q at S2 ⊢
  refine enter hm hargs Try.func82 rfl (by simp [Try.ntmps82]) fun a0 hF => ?_
  simp only [Try.ntmps82, startT] at hF
  obtain ⟨B, hB⟩ : ∃ B, B = std := ⟨_, rfl⟩
  refine wp_seq ?_
  apply region_okB hB T82_ok [0, 2] [2] [] hF
  case hex => intro A X; conv => lhs; cbv
  case hob =>
    intro X
    subst hB
    simp [AllOb, Ob.holds, BE.den, std, stdCmp, stdArith] <;> omega
  case hQ =>
  intro X0 a0 w1 hF
  refine wp_seq ?_
  apply region_okB hB T82_ok [2] [2] [(3, .r fun _ => .str f), (4, .r fun _ => .int .u64 q)] hF
  case hex => intro A X; conv => lhs; cbv
  case hob =>
    intro X
    exact ⟨⟨enters104, S1⟩, ⟨enters103, S2⟩, rfl, trivial⟩
  case hQ =>
  intro X1 a0 w1 hF
  refine wp_ret ?_
  refine ret_spec (fn := Try.f82) T82_ok hF (rs := [.cell 2 25]) rfl (by conv => lhs; cbv) ?_ noAtom ?_
  · subst hB; simp [AllOb, Ob.holds]
  · subst hB; rfl
def T54 : List (Nat × TI) := [(3, ti3), (4, ti4), (9, ti9), (23, ti23), (25, ti25)]
theorem T54_ok : TabOK Try.prog T54 := .cons t3 (.cons t4 (.cons t9 (.cons t23 (.cons t25 (.nil)))))
theorem enters54 : Enters Try.prog 54 := fun _ _ => by kernel_rfl
theorem risL_s (l : Lab) (hv : U64 l.bits) : Spec Try.prog 54 [labAV l] (fun _ => .bool (.v (isL l))) := by
  intro m w hm hargs
  simp only [labAV] at hargs ⊢
  have S1 := bits_s l.bits hv
  have S2 := fun h1 => of_s ((mkB (lowB 64 l.bits.toNat)).extract 0 l.len.toNat) (fun c hc => by rw [un_extract, un_mk] at hc; exact lowB_mem c (List.mem_of_mem_take (List.mem_of_mem_drop hc))) h1
  have hz : (mkB (lowB 64 l.bits.toNat)).size = 64 := by rw [mk_size, lowB_len]
  have hE := isL_of l hv
  generalize mkB (lowB 64 l.bits.toNat) = bs at S1 S2 hz hE
  simp only [labAV] at S2
  generalize ofT (bs.extract 0 l.len.toNat) = k at S2 hE
  refine enter hm hargs Try.func54 rfl (by simp [Try.ntmps54]) fun a0 hF => ?_
  simp only [Try.ntmps54, startT] at hF
  obtain ⟨B, hB⟩ : ∃ B, B = std := ⟨_, rfl⟩
  refine wp_seq ?_
  apply region_okB hB T54_ok [1] [1] [] hF
  case hex => intro A X; conv => lhs; cbv
  case hob =>
    intro X
    subst hB
    simp [AllOb, Ob.holds, BE.den, std, stdCmp, stdArith] <;> omega
  case hQ =>
  intro X0 a0 w1 hF
  refine wp_seq ?_
  refine wp_seq ?_
  apply region_okB hB T54_ok [10, 1] [1] [] hF
  case hex => intro A X; conv => lhs; cbv
  case hob =>
    intro X
    subst hB
    simp [AllOb, Ob.holds, BE.den, std, stdCmp, stdArith] <;> omega
  case hQ =>
  intro X1 a0 w1 hF
  refine test_ok hF rfl (fun hb hF => ?_) (fun hb hF => ?_)
  · skip
    have hout : l.len < 0 ∨ 64 < l.len := by
      subst hB
      by_cases h : l.len < 0
      · exact .inl h
      · exact .inr (by simpa [std, stdCmp, BE.den, h] using hb)
    refine wp_seq ?_
    apply region_okB hB T54_ok [2] [] [] hF
    case hex => intro A X; conv => lhs; cbv
    case hob =>
      intro X
      subst hB
      simp [AllOb, Ob.holds, BE.den, std, stdCmp, stdArith] <;> omega
    case hQ =>
    intro X2 a0 w1 hF
    refine wp_ret ?_
    refine ret_spec (fn := Try.f54) T54_ok hF (rs := [.tmp 2]) rfl (rfl) ?_ noAtom ?_
    · subst hB; simp [AllOb, Ob.holds]
    · have : isL l = false := by
        unfold isL
        rcases hout with h | h
        · simp [show ¬ 0 ≤ l.len by omega]
        · simp [show ¬ l.len ≤ 64 by omega]
      rw [this]; rfl
  · skip
    have hin : 0 ≤ l.len ∧ l.len ≤ 64 := by
      subst hB
      by_cases h : l.len < 0
      · simp [std, stdCmp, BE.den, h] at hb
      · have : l.len ≤ 64 := by simpa [std, stdCmp, BE.den, h] using hb
        omega
    refine wp_skip ?_
    refine wp_seq ?_
    apply drawn_okB hB (by kernel_rfl) T54_ok [2] [] [(2, .r fun _ => .str bs), (6, .r fun _ => .agg [.int .i64 k.len, .int .u64 k.bits])] hF rfl
    case hex => intro A X; conv => lhs; cbv
    case hD => kernel_rfl
    case hlen => rfl
    case hob =>
      intro X
      subst hB
      have hin : 0 ≤ l.len ∧ l.len ≤ 64 := hin
      refine ⟨rfl, ⟨enters83, S1⟩, rfl, ⟨by decide, hin.1, by show l.len ≤ (bs.size : Int); rw [hz]; exact hin.2⟩, ⟨enters82, S2 (by rw [ByteArray.size_extract]; omega)⟩, rfl, ob_lab _ _ _ _, trivial⟩
    case hQ =>
    intro X3 a0 w1 hF
    refine wp_ret ?_
    refine ret_spec (fn := Try.f54) T54_ok hF (rs := [.tmp 2]) rfl (rfl) ?_ noAtom ?_
    · subst hB; simp [AllOb, Ob.holds]
    · subst hB
      refine congrArg (fun b => AV.bool (.v b)) ?_
      rw [hE hin.1 hin.2]
      exact eqL_lab _ _
end Go.Proofs.Ytkamdppnnhjajaa.Sym
