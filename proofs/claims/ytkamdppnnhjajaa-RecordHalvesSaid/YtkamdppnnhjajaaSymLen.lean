/-
  bits.Len64 (printed by a program of mine). Conditions: none.
-/
import Derived.Test.YtkamdppnnhjajaaPlWire
import Derived.Test.YtkamdppnnhjajaaSymLab
namespace Go.Proofs.Ytkamdppnnhjajaa.Sym
open Go Go.RowKit
set_option maxRecDepth 100000
set_option linter.unusedVariables false
set_option linter.unusedSimpArgs false
def T94 : List (Nat × TI) := [(3, ti3), (5, ti5), (9, ti9), (23, ti23)]
theorem T94_ok : TabOK Try.prog T94 := .cons t3 (.cons t5 (.cons t9 (.cons t23 (.nil))))
theorem enters94 : Enters Try.prog 94 := fun _ _ => by kernel_rfl
theorem len64_s (v : Int) (hv : U64 v) : Spec Try.prog 94 [.int .u64 v] (fun _ => .int .i64 (Lib.bitLen v.toNat : Int)) := by
  intro m w hm hargs
  have hv1 := hv.1
  have hv2 := hv.2
  refine enter hm hargs Try.func94 rfl (by simp [Try.ntmps94]) fun a0 hF => ?_
  simp only [Try.ntmps94, startT] at hF
  obtain ⟨B, hB⟩ : ∃ B, B = std := ⟨_, rfl⟩
  refine wp_seq ?_
  apply region_okB hB T94_ok [0, 2] [] [] hF
  case hex => intro A X; conv => lhs; cbv
  case hob =>
    intro X
    subst hB
    simp [AllOb, Ob.holds, BE.den, std, stdCmp, stdArith] <;> omega
  case hQ =>
  intro X0 a0 w1 hF
  refine wp_seq ?_
  refine wp_seq ?_
  apply region_okB hB T94_ok [4, 0, 2] [] [] hF
  case hex => intro A X; conv => lhs; cbv
  case hob =>
    intro X
    subst hB
    simp [AllOb, Ob.holds, BE.den, std, stdCmp, stdArith] <;> omega
  case hQ =>
  intro X1 a0 w1 hF
  refine cut_one (ι := Int × Int) (S0 := [(4, _), (0, _), (2, _)]) (M0 := []) (G0 := []) (fun p => [(0, .int .u64 p.1), (2, .int .i64 p.2)]) (fun p => []) (fun p => []) (fun p => 0 ≤ p.1 ∧ p.1 < 4294967296 ∧ 0 ≤ p.2 ∧ p.2 ≤ 32 ∧ (Lib.bitLen v.toNat : Int) = p.2 + Lib.bitLen p.1.toNat) hF ?_ ?_
  · skip
    refine test_ok hF rfl (fun hb hF => ?_) (fun hb hF => ?_)
    · skip
      have hge : 4294967296 ≤ v := by subst hB; simpa [std, stdCmp] using hb
      have ex : B.shift .shr .u64 v 32 = ((v.toNat / 4294967296 : Nat) : Int) := by subst hB; exact shr_u64 ⟨by omega, by omega⟩ 32 (by decide)
      have ey := Lib.bitLen_shift32 v.toNat (by omega) (by omega)
      have q1 : 0 ≤ B.shift .shr .u64 v 32 := by rw [ex]; omega
      have q2 : B.shift .shr .u64 v 32 < 4294967296 := by rw [ex]; omega
      have q3 : (0 : Int) ≤ 32 := by decide
      have q4 : (32 : Int) ≤ 32 := by decide
      have q5 : (Lib.bitLen v.toNat : Int) = 32 + Lib.bitLen (B.shift .shr .u64 v 32).toNat := by rw [ex, Int.toNat_natCast, ey]; simp
      refine wp_seq ?_
      apply region_okB hB T94_ok [0] [] [] hF
      case hex => intro A X; conv => lhs; cbv
      case hob =>
        intro X
        subst hB
        simp [AllOb, Ob.holds, BE.den, std, stdCmp, stdArith] <;> omega
      case hQ =>
      intro X2 a0 w1 hF
      apply region_okB hB T94_ok [0, 2] [] [] hF
      case hex => intro A X; conv => lhs; cbv
      case hob =>
        intro X
        subst hB
        simp [AllOb, Ob.holds, BE.den, std, stdCmp, stdArith] <;> omega
      case hQ =>
      intro X3 a0 w1 hF
      exact ⟨(_, _), ⟨q1, q2, q3, q4, q5⟩, hF⟩
    · skip
      have hlt : v < 4294967296 := by subst hB; simpa [std, stdCmp] using hb
      have q1 : 0 ≤ v := by omega
      have q2 : v < 4294967296 := hlt
      have q3 : 0 ≤ (0 : Int) := by omega
      have q4 : (0 : Int) ≤ 32 := by omega
      have q5 : (Lib.bitLen v.toNat : Int) = (0 : Int) + Lib.bitLen v.toNat := by simp
      refine wp_skip ?_
      exact ⟨(_, _), ⟨q1, q2, q3, q4, q5⟩, hF⟩
  · rintro ⟨x4, n4⟩ ⟨ha4, hb4, hc4, hd4, he4⟩ a0 w1 hF
    try dsimp only at ha4
    try dsimp only at hb4
    try dsimp only at hc4
    try dsimp only at hd4
    try dsimp only at he4
    refine wp_seq ?_
    refine wp_seq ?_
    apply region_okB hB T94_ok [8, 0, 2] [] [] hF
    case hex => intro A X; conv => lhs; cbv
    case hob =>
      intro X
      subst hB
      simp [AllOb, Ob.holds, BE.den, std, stdCmp, stdArith] <;> omega
    case hQ =>
    intro X4 a0 w1 hF
    refine cut_one (ι := Int × Int) (S0 := [(8, _), (0, _), (2, _)]) (M0 := []) (G0 := []) (fun p => [(0, .int .u64 p.1), (2, .int .i64 p.2)]) (fun p => []) (fun p => []) (fun p => 0 ≤ p.1 ∧ p.1 < 65536 ∧ 0 ≤ p.2 ∧ p.2 ≤ 48 ∧ (Lib.bitLen v.toNat : Int) = p.2 + Lib.bitLen p.1.toNat) hF ?_ ?_
    · skip
      refine test_ok hF rfl (fun hb hF => ?_) (fun hb hF => ?_)
      · skip
        have hge : 65536 ≤ x4 := by subst hB; simpa [std, stdCmp] using hb
        have ex : B.shift .shr .u64 x4 16 = ((x4.toNat / 65536 : Nat) : Int) := by subst hB; exact shr_u64 ⟨by omega, by omega⟩ 16 (by decide)
        have ey := Lib.bitLen_shift16 x4.toNat (by omega) (by omega)
        have en : B.arith .add .i64 n4 16 = n4 + 16 := by subst hB; exact wrap_in (by omega) (by omega)
        have q1 : 0 ≤ B.shift .shr .u64 x4 16 := by rw [ex]; omega
        have q2 : B.shift .shr .u64 x4 16 < 65536 := by rw [ex]; omega
        have q3 : 0 ≤ B.arith .add .i64 n4 16 := by rw [en]; omega
        have q4 : B.arith .add .i64 n4 16 ≤ 48 := by rw [en]; omega
        have q5 : (Lib.bitLen v.toNat : Int) = B.arith .add .i64 n4 16 + Lib.bitLen (B.shift .shr .u64 x4 16).toNat := by rw [en, ex, Int.toNat_natCast, he4, ey]; omega
        refine wp_seq ?_
        apply region_okB hB T94_ok [0, 2] [] [] hF
        case hex => intro A X; conv => lhs; cbv
        case hob =>
          intro X
          subst hB
          simp [AllOb, Ob.holds, BE.den, std, stdCmp, stdArith] <;> omega
        case hQ =>
        intro X5 a0 w1 hF
        apply region_okB hB T94_ok [0, 2] [] [] hF
        case hex => intro A X; conv => lhs; cbv
        case hob =>
          intro X
          subst hB
          simp [AllOb, Ob.holds, BE.den, std, stdCmp, stdArith] <;> omega
        case hQ =>
        intro X6 a0 w1 hF
        exact ⟨(_, _), ⟨q1, q2, q3, q4, q5⟩, hF⟩
      · skip
        have hlt : x4 < 65536 := by subst hB; simpa [std, stdCmp] using hb
        have q1 : 0 ≤ x4 := by omega
        have q2 : x4 < 65536 := hlt
        have q3 : 0 ≤ n4 := by omega
        have q4 : n4 ≤ 48 := by omega
        have q5 : (Lib.bitLen v.toNat : Int) = n4 + Lib.bitLen x4.toNat := by exact he4
        refine wp_skip ?_
        exact ⟨(_, _), ⟨q1, q2, q3, q4, q5⟩, hF⟩
    · rintro ⟨x8, n8⟩ ⟨ha8, hb8, hc8, hd8, he8⟩ a0 w1 hF
      try dsimp only at ha8
      try dsimp only at hb8
      try dsimp only at hc8
      try dsimp only at hd8
      try dsimp only at he8
      refine wp_seq ?_
      refine wp_seq ?_
      apply region_okB hB T94_ok [14, 0, 2] [] [] hF
      case hex => intro A X; conv => lhs; cbv
      case hob =>
        intro X
        subst hB
        simp [AllOb, Ob.holds, BE.den, std, stdCmp, stdArith] <;> omega
      case hQ =>
      intro X7 a0 w1 hF
      refine cut_one (ι := Int × Int) (S0 := [(14, _), (0, _), (2, _)]) (M0 := []) (G0 := []) (fun p => [(0, .int .u64 p.1), (2, .int .i64 p.2)]) (fun p => []) (fun p => []) (fun p => 0 ≤ p.1 ∧ p.1 < 256 ∧ 0 ≤ p.2 ∧ p.2 ≤ 56 ∧ (Lib.bitLen v.toNat : Int) = p.2 + Lib.bitLen p.1.toNat) hF ?_ ?_
      · skip
        refine test_ok hF rfl (fun hb hF => ?_) (fun hb hF => ?_)
        · skip
          have hge : 256 ≤ x8 := by subst hB; simpa [std, stdCmp] using hb
          have ex : B.shift .shr .u64 x8 8 = ((x8.toNat / 256 : Nat) : Int) := by subst hB; exact shr_u64 ⟨by omega, by omega⟩ 8 (by decide)
          have ey := Lib.bitLen_shift8 x8.toNat (by omega) (by omega)
          have en : B.arith .add .i64 n8 8 = n8 + 8 := by subst hB; exact wrap_in (by omega) (by omega)
          have q1 : 0 ≤ B.shift .shr .u64 x8 8 := by rw [ex]; omega
          have q2 : B.shift .shr .u64 x8 8 < 256 := by rw [ex]; omega
          have q3 : 0 ≤ B.arith .add .i64 n8 8 := by rw [en]; omega
          have q4 : B.arith .add .i64 n8 8 ≤ 56 := by rw [en]; omega
          have q5 : (Lib.bitLen v.toNat : Int) = B.arith .add .i64 n8 8 + Lib.bitLen (B.shift .shr .u64 x8 8).toNat := by rw [en, ex, Int.toNat_natCast, he8, ey]; omega
          refine wp_seq ?_
          apply region_okB hB T94_ok [0, 2] [] [] hF
          case hex => intro A X; conv => lhs; cbv
          case hob =>
            intro X
            subst hB
            simp [AllOb, Ob.holds, BE.den, std, stdCmp, stdArith] <;> omega
          case hQ =>
          intro X8 a0 w1 hF
          apply region_okB hB T94_ok [0, 2] [] [] hF
          case hex => intro A X; conv => lhs; cbv
          case hob =>
            intro X
            subst hB
            simp [AllOb, Ob.holds, BE.den, std, stdCmp, stdArith] <;> omega
          case hQ =>
          intro X9 a0 w1 hF
          exact ⟨(_, _), ⟨q1, q2, q3, q4, q5⟩, hF⟩
        · skip
          have hlt : x8 < 256 := by subst hB; simpa [std, stdCmp] using hb
          have q1 : 0 ≤ x8 := by omega
          have q2 : x8 < 256 := hlt
          have q3 : 0 ≤ n8 := by omega
          have q4 : n8 ≤ 56 := by omega
          have q5 : (Lib.bitLen v.toNat : Int) = n8 + Lib.bitLen x8.toNat := by exact he8
          refine wp_skip ?_
          exact ⟨(_, _), ⟨q1, q2, q3, q4, q5⟩, hF⟩
      · rintro ⟨x14, n14⟩ ⟨ha14, hb14, hc14, hd14, he14⟩ a0 w1 hF
        try dsimp only at ha14
        try dsimp only at hb14
        try dsimp only at hc14
        try dsimp only at hd14
        try dsimp only at he14
        refine wp_seq ?_
        apply region_okB hB T94_ok [2] [] [] hF
        case hex => intro A X; conv => lhs; cbv
        case hob =>
          intro X
          subst hB
          refine ⟨⟨?_, ?_⟩, trivial⟩
          · show 0 ≤ IntKind.u8.wrap x14
            obtain ⟨k, rfl⟩ := Int.eq_ofNat_of_zero_le ha14
            rw [wrap_u8]; omega
          · show IntKind.u8.wrap x14 < ((256 : Nat) : Int)
            obtain ⟨k, rfl⟩ := Int.eq_ofNat_of_zero_le ha14
            rw [wrap_u8]; omega
        case hQ =>
        intro X10 a0 w1 hF
        refine wp_ret ?_
        refine ret_spec (fn := Try.f94) T94_ok hF (rs := [.tmp 2]) rfl (rfl) ?_ noAtom ?_
        · subst hB; simp [AllOb, Ob.holds]
        · subst hB
          refine congrArg (AV.int IntKind.i64) ?_
          show IntKind.i64.wrap (n14 + IntKind.i64.wrap ((lenTab[(IntKind.u8.wrap x14).toNat]?.getD 0).toNat : Int)) = _
          obtain ⟨k, rfl⟩ := Int.eq_ofNat_of_zero_le ha14
          have hk : k < 256 := by omega
          rw [wrap_u8, Int.toNat_natCast, Nat.mod_eq_of_lt hk]
          have ht := lenTab_ok ⟨k, hk⟩
          have hm := Lib.bitLen_le8 ⟨k, hk⟩
          simp only at ht hm
          rw [ht, wrap_i64n _ (by omega), he14, Int.toNat_natCast]
          exact wrap_in (by omega) (by omega)
end Go.Proofs.Ytkamdppnnhjajaa.Sym
