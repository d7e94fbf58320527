/-
  The reader of the document (printed by a program of mine). Conditions: none.
-/
import Derived.Test.YtkamdppnnhjajaaSymRd
namespace Go.Proofs.Ytkamdppnnhjajaa.Sym
open Go Go.RowKit
set_option maxRecDepth 100000
set_option linter.unusedVariables false
set_option linter.unusedSimpArgs false
/-- how many bytes a number has taken -/
def numN (s : ByteArray) : Int := ((unB s).length - ((decN (unB s)).rest (unB s)).length : Nat)
theorem numN_ok (s : ByteArray) : 0 ≤ numN s ∧ numN s ≤ (s.size : Int) ∧ s.extract (numN s).toNat s.size = numR s := by
  unfold numN numR
  refine ⟨Int.natCast_nonneg _, by rw [un_size]; omega, ?_⟩
  rw [Int.toNat_natCast]
  apply un_inj
  rw [un_extract, List.take_of_length_le (by rw [un_size]; exact Nat.le_refl _), un_mk]
  cases h : decN (unB s) with
  | error e => simp [Dec.rest]
  | ok x =>
    obtain ⟨n, r⟩ := x
    have := (decN_ok h).1
    simp only [Dec.rest]
    rw [this]
    simp
theorem mul_step (x : Nat) (c : UInt8) (hx : x < 2 ^ 56) : stdArith .add .u64 (stdArith .mul .u64 256 (x : Int)) (IntKind.u64.wrap (((some c).getD 0).toNat : Int)) = ((x * 256 + c.toNat : Nat) : Int) := by
  have hc := c.toNat_lt
  have e1 : stdArith .mul .u64 256 (x : Int) = ((x * 256 : Nat) : Int) := by
    show IntKind.u64.wrap (((256 : Nat) : Int) * (x : Int)) = _
    rw [← Int.natCast_mul, wrap_u64n, Nat.mul_comm, Nat.mod_eq_of_lt (by omega)]
  have e2 : IntKind.u64.wrap (((some c).getD 0).toNat : Int) = (c.toNat : Int) := by
    show IntKind.u64.wrap (c.toNat : Int) = _
    rw [wrap_u64n, Nat.mod_eq_of_lt (by omega)]
  rw [e1, e2]
  show IntKind.u64.wrap (((x * 256 : Nat) : Int) + (c.toNat : Int)) = _
  rw [← Int.natCast_add, wrap_u64n, Nat.mod_eq_of_lt (by omega)]
theorem cut_mid (l r : List UInt8) (n m : Nat) (h : l.length = n) : r.take m = ((l ++ r).take (n + m)).drop n := by
  subst h
  rw [List.take_length_add_append, List.drop_left]
theorem cut_end (l r : List UInt8) (n m : Nat) (h : l.length = n) : r.drop m = (l ++ r).drop (n + m) := by
  subst h
  rw [List.drop_length_add_append]
def T100 : List (Nat × TI) := [(3, ti3), (5, ti5), (9, ti9), (23, ti23), (29, ti29)]
theorem T100_ok : TabOK Try.prog T100 := .cons t3 (.cons t5 (.cons t9 (.cons t23 (.cons t29 (.nil)))))
theorem enters100 : Enters Try.prog 100 := fun _ _ => by kernel_rfl
theorem getNum_s (s : ByteArray) (hs : s.size ≤ 1000000000) : Spec Try.prog 100 [.str s] (fun _ => .tup [.int .u64 (numV s), .int .i64 (numN s), .int .i64 (numE s)]) := by
  intro m w hm hargs
  refine enter hm hargs Try.func100 rfl (by simp [Try.ntmps100]) fun a0 hF => ?_
  simp only [Try.ntmps100, startT] at hF
  obtain ⟨B, hB⟩ : ∃ B, B = std := ⟨_, rfl⟩
  refine wp_seq ?_
  apply region_okB hB T100_ok [0] [] [] hF
  case hex => intro A X; conv => lhs; cbv
  case hob =>
    intro X
    subst hB
    simp [AllOb, Ob.holds, BE.den, std, stdCmp, stdArith] <;> omega
  case hQ =>
  intro X0 a0 w1 hF
  refine wp_seq ?_
  refine wp_seq ?_
  apply region_okB hB T100_ok [10, 0] [] [] hF
  case hex => intro A X; conv => lhs; cbv
  case hob =>
    intro X
    subst hB; exact trivial
  case hQ =>
  intro X1 a0 w1 hF
  refine test_ok hF rfl (fun hb hF => ?_) (fun hb hF => ?_)
  · skip
    have hz : unB s = [] := by
      have : (s.size : Int) = 0 := by subst hB; simpa [std, stdCmp] using hb
      exact List.eq_nil_of_length_eq_zero (by rw [un_size]; omega)
    have hV : numV s = 0 := by simp only [numV, hz]; rfl
    have hE : numE s = 4 := by simp only [numE, hz]; rfl
    have hN : numN s = 0 := by simp only [numN, hz]; rfl
    refine wp_seq ?_
    apply region_okB hB T100_ok [2, 3, 4] [] [] hF
    case hex => intro A X; conv => lhs; cbv
    case hob =>
      intro X
      subst hB
      simp [AllOb, Ob.holds, BE.den, std, stdCmp, stdArith] <;> omega
    case hQ =>
    intro X2 a0 w1 hF
    refine wp_ret ?_
    refine ret_spec (fn := Try.f100) T100_ok hF (rs := [.tmp 2, .tmp 3, .tmp 4]) rfl (rfl) ?_ noAtom ?_
    · subst hB; simp [AllOb, Ob.holds]
    · subst hB; rw [hV, hE, hN]; rfl
  · skip
    have hu : ∃ n r, unB s = n :: r := by
      cases hc : unB s with
      | nil =>
        exfalso
        have h0 := un_size s
        rw [hc] at h0
        have : ¬ (s.size : Int) = 0 := by subst hB; simpa [std, stdCmp] using hb
        simp at h0; omega
      | cons n r => exact ⟨n, r, rfl⟩
    obtain ⟨n, r, hu⟩ := hu
    have hsz : s.size = r.length + 1 := by rw [← un_size, hu]; rfl
    have hn256 := n.toNat_lt
    refine wp_skip ?_
    refine wp_seq ?_
    apply region_okB hB T100_ok [5, 0] [] [] hF
    case hex => intro A X; conv => lhs; cbv
    case hob =>
      intro X
      subst hB
      refine ⟨⟨by decide, ?_⟩, trivial⟩
      show (0 : Int) < (s.size : Int)
      omega
    case hQ =>
    intro X3 a0 w1 hF
    replace hF := hF.head (v' := .int .i64 (n.toNat : Int)) (by subst hB; show AV.int .i64 (IntKind.i64.wrap ((s[(0 : Int).toNat]?.getD 0).toNat : Int)) = _; rw [Int.toNat_zero, un_get, hu]; exact congrArg (AV.int .i64) (wrap_i64n n.toNat (by omega)))
    refine wp_seq ?_
    refine wp_seq ?_
    apply region_okB hB T100_ok [15, 0, 5] [] [] hF
    case hex => intro A X; conv => lhs; cbv
    case hob =>
      intro X
      subst hB
      simp [AllOb, Ob.holds, BE.den, std, stdCmp, stdArith] <;> omega
    case hQ =>
    intro X4 a0 w1 hF
    refine test_ok hF rfl (fun hb hF => ?_) (fun hb hF => ?_)
    · skip
      have hn8 : 8 < n.toNat := by
        have : (8 : Int) < (n.toNat : Int) := by subst hB; simpa [std, stdCmp] using hb
        omega
      have hV : numV s = 0 := by simp only [numV, hu, decN, hn8, if_true]; rfl
      have hE : numE s = 3 := by simp only [numE, hu, decN, hn8, if_true]; rfl
      have hN : numN s = 0 := by simp only [numN, hu, decN, hn8, if_true, Dec.rest]; simp
      refine wp_seq ?_
      apply region_okB hB T100_ok [2, 3, 4] [] [] hF
      case hex => intro A X; conv => lhs; cbv
      case hob =>
        intro X
        subst hB
        simp [AllOb, Ob.holds, BE.den, std, stdCmp, stdArith] <;> omega
      case hQ =>
      intro X5 a0 w1 hF
      refine wp_ret ?_
      refine ret_spec (fn := Try.f100) T100_ok hF (rs := [.tmp 2, .tmp 3, .tmp 4]) rfl (rfl) ?_ noAtom ?_
      · subst hB; simp [AllOb, Ob.holds]
      · subst hB; rw [hV, hE, hN]; rfl
    · skip
      have hn8 : ¬ 8 < n.toNat := by
        have : ¬ (8 : Int) < (n.toNat : Int) := by subst hB; simpa [std, stdCmp] using hb
        omega
      refine wp_skip ?_
      refine wp_seq ?_
      refine wp_seq ?_
      apply region_okB hB T100_ok [20, 0, 5] [] [] hF
      case hex => intro A X; conv => lhs; cbv
      case hob =>
        intro X
        subst hB
        simp [AllOb, Ob.holds, BE.den, std, stdCmp, stdArith] <;> omega
      case hQ =>
      intro X6 a0 w1 hF
      refine test_ok hF rfl (fun hb hF => ?_) (fun hb hF => ?_)
      · skip
        have hr : r.length < n.toNat := by
          have : (s.size : Int) < IntKind.i64.wrap (1 + (n.toNat : Int)) := by subst hB; simpa [std, stdCmp, stdArith] using hb
          rw [wrap_in (by omega) (by omega)] at this
          omega
        have hV : numV s = 0 := by simp only [numV, hu, decN, hn8, hr, if_true, if_false]; rfl
        have hE : numE s = 4 := by simp only [numE, hu, decN, hn8, hr, if_true, if_false]; rfl
        have hN : numN s = 0 := by simp only [numN, hu, decN, hn8, hr, if_true, if_false, Dec.rest]; simp
        refine wp_seq ?_
        apply region_okB hB T100_ok [2, 3, 4] [] [] hF
        case hex => intro A X; conv => lhs; cbv
        case hob =>
          intro X
          subst hB
          simp [AllOb, Ob.holds, BE.den, std, stdCmp, stdArith] <;> omega
        case hQ =>
        intro X7 a0 w1 hF
        refine wp_ret ?_
        refine ret_spec (fn := Try.f100) T100_ok hF (rs := [.tmp 2, .tmp 3, .tmp 4]) rfl (rfl) ?_ noAtom ?_
        · subst hB; simp [AllOb, Ob.holds]
        · subst hB; rw [hV, hE, hN]; rfl
      · skip
        have hr : ¬ r.length < n.toNat := by
          have : ¬ (s.size : Int) < IntKind.i64.wrap (1 + (n.toNat : Int)) := by subst hB; simpa [std, stdCmp, stdArith] using hb
          rw [wrap_in (by omega) (by omega)] at this
          omega
        refine wp_skip ?_
        refine wp_seq ?_
        apply region_okB hB T100_ok [0, 5, 6] [] [] hF
        case hex => intro A X; conv => lhs; cbv
        case hob =>
          intro X
          subst hB
          simp [AllOb, Ob.holds, BE.den, std, stdCmp, stdArith] <;> omega
        case hQ =>
        intro X8 a0 w1 hF
        refine wp_seq ?_
        refine wp_seq ?_
        apply region_okB hB T100_ok [6, 7, 0, 5] [] [] hF
        case hex => intro A X; conv => lhs; cbv
        case hob =>
          intro X
          subst hB
          simp [AllOb, Ob.holds, BE.den, std, stdCmp, stdArith] <;> omega
        case hQ =>
        intro X9 a0 w1 hF
        refine wp_block ?_
        refine loop_pre (ι := Nat × Int) (fun p => [(6, .int .u64 p.2), (7, .int .i64 ((p.1 + 1 : Nat) : Int))]) (fun p => []) (fun p => []) (fun p => p.1 ≤ n.toNat ∧ p.2 = (valB (r.take p.1) : Int)) (fun p => n.toNat - p.1) (0, 0) ⟨Nat.zero_le _, rfl⟩ hF ?_
        rintro ⟨j, x⟩ ⟨hj, hx⟩ a0 w1 hF
        try dsimp only at hj
        try dsimp only at hx
        refine wp_seq ?_
        refine wp_seq ?_
        apply region_okB hB T100_ok [23, 0, 5, 6, 7] [] [] hF
        case hex => intro A X; conv => lhs; cbv
        case hob =>
          intro X
          subst hB
          simp [AllOb, Ob.holds, BE.den, std, stdCmp, stdArith] <;> omega
        case hQ =>
        intro X10 a0 w1 hF
        refine test_ok hF rfl (fun hb hF => ?_) (fun hb hF => ?_)
        · skip
          have hin : j < n.toNat := by
            have : ((j + 1 : Nat) : Int) ≤ (n.toNat : Int) := by subst hB; simpa [std, stdCmp] using hb
            omega
          refine wp_skip ?_
          refine wp_seq ?_
          refine wp_block ?_
          apply region_okB hB T100_ok [0, 5, 6, 7] [] [] hF
          case hex => intro A X; conv => lhs; cbv
          case hob =>
            intro X
            subst hB
            refine ⟨⟨?_, ?_⟩, trivial⟩
            · show (0 : Int) ≤ ((j + 1 : Nat) : Int); omega
            · show ((j + 1 : Nat) : Int) < (s.size : Int); omega
          case hQ =>
          intro X12 a0 w1 hF
          apply region_okB hB T100_ok [6, 7, 0, 5] [] [] hF
          case hex => intro A X; conv => lhs; cbv
          case hob =>
            intro X
            subst hB
            simp [AllOb, Ob.holds, BE.den, std, stdCmp, stdArith] <;> omega
          case hQ =>
          intro X11 a0 w1 hF
          have e : B.arith .add .i64 ((j + 1 : Nat) : Int) 1 = ((j + 1 + 1 : Nat) : Int) := by subst hB; exact wrap_succ (n := 100) (by omega) (by simp only [maxLen]; omega)
          refine ⟨(j + 1, B.arith .add .u64 (B.arith .mul .u64 256 x) (B.conv .u64 (B.sat s (B.toNat ((j + 1 : Nat) : Int))))), ⟨by simp only; omega, ?_⟩, by simp only; omega, by rw [← e]; exact hF⟩
          subst hB
          show stdArith .add .u64 (stdArith .mul .u64 256 x) (IntKind.u64.wrap ((s[((j + 1 : Nat) : Int).toNat]?.getD 0).toNat : Int)) = _
          have hi2 : j < r.length := by omega
          rw [hx, Int.toNat_natCast, un_get, hu, List.getElem?_cons_succ, List.getElem?_eq_getElem hi2, List.take_succ_eq_append_getElem hi2, valB_snoc]
          have hb1 := valB_lt (r.take j)
          rw [List.length_take, Nat.min_eq_left (by omega)] at hb1
          have hb2 : 256 ^ j ≤ 256 ^ 7 := Nat.pow_le_pow_right (by decide) (by omega)
          have hb3 : (256 : Nat) ^ 7 = 2 ^ 56 := by decide
          exact mul_step _ _ (by omega)
        · skip
          have hjn : j = n.toNat := by
            have : ¬ ((j + 1 : Nat) : Int) ≤ (n.toNat : Int) := by subst hB; simpa [std, stdCmp] using hb
            omega
          rw [hjn] at hx
          have hlen : (r.take n.toNat).length = n.toNat := by rw [List.length_take]; omega
          have hx64 : valB (r.take n.toNat) < 2 ^ 64 := by
            refine Nat.lt_of_lt_of_le (valB_lt _) ?_
            rw [hlen, show (2 : Nat) ^ 64 = 256 ^ 8 from rfl]
            exact Nat.pow_le_pow_right (by decide) (by omega)
          have S := rnum_s x ⟨by rw [hx]; omega, by rw [hx]; omega⟩
          generalize hg : mkB (numL x.toNat) = g at S
          rw [hx, Int.toNat_natCast] at hg
          refine wp_exit ?_
          refine wp_seq ?_
          refine wp_seq ?_
          apply drawn_okB hB (by kernel_rfl) T100_ok [39, 5, 6] [] [(1, .r fun _ => .str g)] hF rfl
          case hex => intro A X; conv => lhs; cbv
          case hD => kernel_rfl
          case hlen => rfl
          case hob =>
            intro X
            subst hB
            have e1 : IntKind.i64.wrap (1 + (n.toNat : Int)) = ((n.toNat + 1 : Nat) : Int) := by rw [wrap_in (by omega) (by omega)]; omega
            refine ⟨⟨enters38, S⟩, ⟨by decide, ?_, ?_⟩, trivial⟩
            · show 0 ≤ IntKind.i64.wrap (1 + (n.toNat : Int)); rw [e1]; omega
            · show IntKind.i64.wrap (1 + (n.toNat : Int)) ≤ (s.size : Int); rw [e1]; omega
          case hQ =>
          intro X13 a0 w1 hF
          refine test_ok hF rfl (fun hb hF => ?_) (fun hb hF => ?_)
          · skip
            have hh : (r.take n.toNat).head? = some 0 := by
              refine Decidable.byContradiction fun h0 => ?_
              have h1 := (numL_val (l := r.take n.toNat) (by omega)).2 h0
              have h2 : (g.toList == (s.extract 0 (IntKind.i64.wrap (1 + (n.toNat : Int))).toNat).toList) = false := by
                have h9 : (!(g.toList == (s.extract 0 (IntKind.i64.wrap (1 + (n.toNat : Int))).toNat).toList)) = true := by subst hB; exact hb
                simpa using h9
              rw [eqB, wrap_in (by omega) (by omega), un_extract, hu, ← hg, un_mk, h1, hlen] at h2
              rw [show (1 + (n.toNat : Int)).toNat = n.toNat + 1 by omega] at h2
              simp at h2
            have hV : numV s = 0 := by simp only [numV, hu, decN, hn8, hr, hh, if_true, if_false]; rfl
            have hE : numE s = 3 := by simp only [numE, hu, decN, hn8, hr, hh, if_true, if_false]; rfl
            have hN : numN s = 0 := by simp only [numN, hu, decN, hn8, hr, hh, if_true, if_false, Dec.rest]; simp
            refine wp_seq ?_
            apply region_okB hB T100_ok [2, 3, 4] [] [] hF
            case hex => intro A X; conv => lhs; cbv
            case hob =>
              intro X
              subst hB
              simp [AllOb, Ob.holds, BE.den, std, stdCmp, stdArith] <;> omega
            case hQ =>
            intro X14 a0 w1 hF
            refine wp_ret ?_
            refine ret_spec (fn := Try.f100) T100_ok hF (rs := [.tmp 2, .tmp 3, .tmp 4]) rfl (rfl) ?_ noAtom ?_
            · subst hB; simp [AllOb, Ob.holds]
            · subst hB; rw [hV, hE, hN]; rfl
          · skip
            have hh : ¬ (r.take n.toNat).head? = some 0 := by
              refine (numL_val (l := r.take n.toNat) (by omega)).1 ?_
              have h2 : (g.toList == (s.extract 0 (IntKind.i64.wrap (1 + (n.toNat : Int))).toNat).toList) = true := by
                have h9 : (!(g.toList == (s.extract 0 (IntKind.i64.wrap (1 + (n.toNat : Int))).toNat).toList)) = false := by subst hB; exact hb
                simpa using h9
              rw [eqB, wrap_in (by omega) (by omega), un_extract, hu, ← hg, un_mk] at h2
              rw [show (1 + (n.toNat : Int)).toNat = n.toNat + 1 by omega] at h2
              have h3 := of_decide_eq_true h2
              rw [h3, hlen]
              simp
            have hV : numV s = x := by rw [hx]; simp only [numV, hu, decN, hn8, hr, hh, if_false]; rfl
            have hE : numE s = 0 := by simp only [numE, hu, decN, hn8, hr, hh, if_false]; rfl
            have hN : numN s = B.arith .add .i64 1 (n.toNat : Int) := by
              have e1 : B.arith .add .i64 1 (n.toNat : Int) = 1 + (n.toNat : Int) := by subst hB; exact wrap_in (by omega) (by omega)
              rw [e1]
              simp only [numN, hu, decN, hn8, hr, hh, if_false, Dec.rest, List.length_drop, List.length_cons]
              omega
            refine wp_skip ?_
            refine wp_seq ?_
            apply region_okB hB T100_ok [2, 3, 4] [] [] hF
            case hex => intro A X; conv => lhs; cbv
            case hob =>
              intro X
              subst hB
              simp [AllOb, Ob.holds, BE.den, std, stdCmp, stdArith] <;> omega
            case hQ =>
            intro X15 a0 w1 hF
            refine wp_ret ?_
            refine ret_spec (fn := Try.f100) T100_ok hF (rs := [.tmp 2, .tmp 3, .tmp 4]) rfl (rfl) ?_ noAtom ?_
            · subst hB; simp [AllOb, Ob.holds]
            · subst hB; rw [hV, hE, hN]; rfl
def T79 : List (Nat × TI) := [(3, ti3), (9, ti9), (23, ti23), (29, ti29), (78, ti78)]
theorem T79_ok : TabOK Try.prog T79 := .cons t3 (.cons t9 (.cons t23 (.cons t29 (.cons t78 (.nil)))))
theorem enters79 : Enters Try.prog 79 := fun _ _ => by kernel_rfl
theorem RNum_m0 (b : Nat) (s : ByteArray) (hs : s.size ≤ 1000000000) : SpecX Try.prog 79 [.ptr 0 b 0] [(0, ⟨b, 78, [.str s]⟩)] (fun _ => ⟨.tup [.int .u64 (numV s), .int .i64 (numE s)], [(0, [.str (numR s)])], []⟩) := by
  intro m w hm hargs hpre
  have S1 := getNum_s s hs
  obtain ⟨hn0, hn1, hnr⟩ := numN_ok s
  have C0 := num_rest s
  obtain ⟨hnv0, hnv1⟩ := numV_u64 s
  replace C0 := C0.2
  generalize numV s = v at S1 C0 hnv0 hnv1 ⊢
  generalize numE s = e at S1 C0 ⊢
  generalize numN s = n at S1 hn0 hn1 hnr
  generalize numR s = r at C0 hnr ⊢
  refine enterX hm hpre hargs Try.func79 rfl (by simp [Try.ntmps79]) fun a0 hF => ?_
  simp only [Try.ntmps79, startT] at hF
  obtain ⟨B, hB⟩ : ∃ B, B = std := ⟨_, rfl⟩
  refine wp_seq ?_
  apply region_okB hB T79_ok [0] [0] [] hF
  case hex => intro A X; conv => lhs; cbv
  case hob =>
    intro X
    subst hB
    simp [AllOb, Ob.holds, BE.den, std, stdCmp, stdArith] <;> omega
  case hQ =>
  intro X0 a0 w1 hF
  refine wp_seq ?_
  apply region_okB hB T79_ok [0, 4, 5, 6] [0] [(4, .r fun _ => .tup [.int .u64 v, .int .i64 n, .int .i64 e])] hF
  case hex => intro A X; conv => lhs; cbv
  case hob =>
    intro X
    subst hB; exact ⟨rfl, ⟨enters100, S1⟩, trivial⟩
  case hQ =>
  intro X1 a0 w1 hF
  refine wp_seq ?_
  refine wp_seq ?_
  apply region_okB hB T79_ok [17, 0, 4, 5, 6] [0] [] hF
  case hex => intro A X; conv => lhs; cbv
  case hob =>
    intro X
    subst hB
    simp [AllOb, Ob.holds, BE.den, std, stdCmp, stdArith] <;> omega
  case hQ =>
  intro X2 a0 w1 hF
  refine test_ok hF rfl (fun hb hF => ?_) (fun hb hF => ?_)
  · skip
    have he : e ≠ 0 := by subst hB; simpa [std, stdCmp] using hb
    obtain ⟨hv, hr⟩ := C0 he
    subst hv; subst hr
    refine wp_seq ?_
    apply region_okB hB T79_ok [2, 3] [0] [] hF
    case hex => intro A X; conv => lhs; cbv
    case hob =>
      intro X
      subst hB
      simp [AllOb, Ob.holds, BE.den, std, stdCmp, stdArith] <;> omega
    case hQ =>
    intro X3 a0 w1 hF
    refine wp_ret ?_
    refine (ret_x (fn := Try.f79) T79_ok hF (rs := [.tmp 2, .tmp 3]) rfl (rfl) ?_ noAtom [] ?_ ?_ ?_).1
    · subst hB; simp [AllOb, Ob.holds]
    · subst hB; exact Sim.refl _
    · subst hB; first | exact trivial | exact ⟨rfl, ⟨_, rfl, SimL.refl _⟩, trivial⟩
    · exact trivial
  · skip
    have he : e = 0 := by subst hB; simpa [std, stdCmp] using hb
    subst he
    refine wp_skip ?_
    refine wp_seq ?_
    apply region_okB hB T79_ok [4] [0] [] hF
    case hex => intro A X; conv => lhs; cbv
    case hob =>
      intro X
      subst hB; exact ⟨rfl, ⟨hn0, hn1, Int.le_refl _⟩, rfl, trivial⟩
    case hQ =>
    intro X4 a0 w1 hF
    refine wp_seq ?_
    apply region_okB hB T79_ok [2, 3] [0] [] hF
    case hex => intro A X; conv => lhs; cbv
    case hob =>
      intro X
      subst hB
      simp [AllOb, Ob.holds, BE.den, std, stdCmp, stdArith] <;> omega
    case hQ =>
    intro X5 a0 w1 hF
    refine wp_ret ?_
    refine (ret_x (fn := Try.f79) T79_ok hF (rs := [.tmp 2, .tmp 3]) rfl (rfl) ?_ noAtom [] ?_ ?_ ?_).1
    · subst hB; simp [AllOb, Ob.holds]
    · subst hB; exact Sim.refl _
    · subst hB; rw [← hnr]; exact ⟨rfl, ⟨_, rfl, SimL.refl _⟩, trivial⟩
    · exact trivial
theorem RNum_m (k0 : Nat) (b : Nat) (s : ByteArray) (hs : s.size ≤ 1000000000) : SpecX Try.prog 79 [.ptr k0 b 0] [(k0, ⟨b, 78, [.str s]⟩)] (fun _ => ⟨.tup [.int .u64 (numV s), .int .i64 (numE s)], [(k0, [.str (numR s)])], []⟩) :=
  (RNum_m0 b s hs).re (by repeat (first | exact trivial | refine ⟨Sim.ptr, ?_⟩ | refine ⟨Sim.fn ⟨Sim.ptr, trivial⟩ trivial, ?_⟩ | refine ⟨Sim.refl _, ?_⟩)) rfl (fun x => ⟨rfl, rfl, Sim.refl _, rfl⟩)
def T101 : List (Nat × TI) := [(3, ti3), (9, ti9), (23, ti23), (29, ti29), (78, ti78)]
theorem T101_ok : TabOK Try.prog T101 := .cons t3 (.cons t9 (.cons t23 (.cons t29 (.cons t78 (.nil)))))
theorem enters101 : Enters Try.prog 101 := fun _ _ => by kernel_rfl
theorem RTxt_m0 (b : Nat) (s : ByteArray) (hs : s.size ≤ 1000000000) : SpecX Try.prog 101 [.ptr 0 b 0] [(0, ⟨b, 78, [.str s]⟩)] (fun _ => ⟨.tup [.str (txtV s), .int .i64 (txtE s)], [(0, [.str (txtR s)])], []⟩) := by
  intro m w hm hargs hpre
  have S1 := getNum_s s hs
  obtain ⟨hn0, hn1, hnr⟩ := numN_ok s
  have C1 := num_cases s
  have C2 := num_rest s
  obtain ⟨hnv0, hnv1⟩ := numV_u64 s
  replace C2 := C2.1
  generalize numV s = v at S1 C1 hnv0 hnv1
  generalize numE s = e at S1 C1 C2
  generalize numN s = n at S1 hn0 hn1 hnr
  generalize numQ s = q at C1 C2
  generalize numR s = r at C2 hnr
  refine enterX hm hpre hargs Try.func101 rfl (by simp [Try.ntmps101]) fun a0 hF => ?_
  simp only [Try.ntmps101, startT] at hF
  obtain ⟨B, hB⟩ : ∃ B, B = std := ⟨_, rfl⟩
  refine wp_seq ?_
  apply region_okB hB T101_ok [0] [0] [] hF
  case hex => intro A X; conv => lhs; cbv
  case hob =>
    intro X
    subst hB
    simp [AllOb, Ob.holds, BE.den, std, stdCmp, stdArith] <;> omega
  case hQ =>
  intro X0 a0 w1 hF
  refine wp_seq ?_
  apply region_okB hB T101_ok [0, 4, 5, 6] [0] [(4, .r fun _ => .tup [.int .u64 v, .int .i64 n, .int .i64 e])] hF
  case hex => intro A X; conv => lhs; cbv
  case hob =>
    intro X
    subst hB; exact ⟨rfl, ⟨enters100, S1⟩, trivial⟩
  case hQ =>
  intro X1 a0 w1 hF
  refine wp_seq ?_
  refine wp_seq ?_
  apply region_okB hB T101_ok [18, 0, 4, 5, 6] [0] [] hF
  case hex => intro A X; conv => lhs; cbv
  case hob =>
    intro X
    subst hB
    simp [AllOb, Ob.holds, BE.den, std, stdCmp, stdArith] <;> omega
  case hQ =>
  intro X2 a0 w1 hF
  refine test_ok hF rfl (fun hb hF => ?_) (fun hb hF => ?_)
  · skip
    have hd : decN (unB s) = .error e := by
      rcases C1 with ⟨h1, h2, h3⟩ | ⟨h1, n, r, h2, h3, h4⟩
      · exact h2
      · subst hB; rw [h1] at hb; cases hb
    have hV : txtV s = ⟨#[]⟩ := by simp only [txtV, decT, hd]; rfl
    have hE : txtE s = e := by simp only [txtE, decT, hd]; rfl
    have hR : txtR s = s := by simp only [txtR, decT, hd]; exact mk_un s
    refine wp_seq ?_
    apply region_okB hB T101_ok [2, 3] [0] [] hF
    case hex => intro A X; conv => lhs; cbv
    case hob =>
      intro X
      subst hB
      simp [AllOb, Ob.holds, BE.den, std, stdCmp, stdArith] <;> omega
    case hQ =>
    intro X3 a0 w1 hF
    refine wp_ret ?_
    refine (ret_x (fn := Try.f101) T101_ok hF (rs := [.tmp 2, .tmp 3]) rfl (rfl) ?_ noAtom [] ?_ ?_ ?_).1
    · subst hB; simp [AllOb, Ob.holds]
    · subst hB; rw [hV, hE]; exact Sim.refl _
    · subst hB; rw [hR]; exact ⟨rfl, ⟨_, rfl, SimL.refl _⟩, trivial⟩
    · exact trivial
  · skip
    have hd : e = 0 ∧ ∃ n r, decN (unB s) = .ok (n, r) ∧ v = (n : Int) ∧ q = mkB r := by
      rcases C1 with ⟨h1, h2, h3⟩ | ⟨h1, h2⟩
      · subst hB; exact absurd (show e = 0 by simpa [std, stdCmp] using hb) h1
      · exact ⟨h1, h2⟩
    obtain ⟨he, m1, r1, hd, hvn, hqr⟩ := hd
    rw [C2 he] at hqr
    rw [hqr] at hnr
    have hr1 : unB s = (unB s).take n.toNat ++ r1 := by
      have h1 := congrArg unB hnr
      rw [un_mk, un_extract, List.take_of_length_le (by rw [un_size]; exact Nat.le_refl _)] at h1
      rw [← h1, List.take_append_drop]
    have hlen : r1.length = s.size - n.toNat := by
      have h1 := congrArg unB hnr
      rw [un_mk, un_extract, List.take_of_length_le (by rw [un_size]; exact Nat.le_refl _)] at h1
      rw [← h1, List.length_drop, un_size]
    refine wp_skip ?_
    refine wp_seq ?_
    refine wp_seq ?_
    apply region_okB hB T101_ok [21, 0, 4, 5] [0] [] hF
    case hex => intro A X; conv => lhs; cbv
    case hob =>
      intro X
      subst hB
      simp [AllOb, Ob.holds, BE.den, std, stdCmp, stdArith] <;> omega
    case hQ =>
    intro X4 a0 w1 hF
    refine test_ok hF rfl (fun hb hF => ?_) (fun hb hF => ?_)
    · skip
      have hn : 4096 < m1 := by
        have : (4096 : Int) < v := by subst hB; simpa [std, stdCmp] using hb
        omega
      have hV : txtV s = ⟨#[]⟩ := by simp only [txtV, decT, hd, hn, if_true]; rfl
      have hE : txtE s = 3 := by simp only [txtE, decT, hd, hn, if_true]; rfl
      have hR : txtR s = s := by simp only [txtR, decT, hd, hn, if_true]; exact mk_un s
      refine wp_seq ?_
      apply region_okB hB T101_ok [2, 3] [0] [] hF
      case hex => intro A X; conv => lhs; cbv
      case hob =>
        intro X
        subst hB
        simp [AllOb, Ob.holds, BE.den, std, stdCmp, stdArith] <;> omega
      case hQ =>
      intro X5 a0 w1 hF
      refine wp_ret ?_
      refine (ret_x (fn := Try.f101) T101_ok hF (rs := [.tmp 2, .tmp 3]) rfl (rfl) ?_ noAtom [] ?_ ?_ ?_).1
      · subst hB; simp [AllOb, Ob.holds]
      · subst hB; rw [hV, hE]; exact Sim.refl _
      · subst hB; rw [hR]; exact ⟨rfl, ⟨_, rfl, SimL.refl _⟩, trivial⟩
      · exact trivial
    · skip
      have hn : ¬ 4096 < m1 := by
        have : ¬ (4096 : Int) < v := by subst hB; simpa [std, stdCmp] using hb
        omega
      have ev : IntKind.i64.wrap v = v := wrap_in (by omega) (by omega)
      have esub : IntKind.i64.wrap ((s.size : Int) - n) = (s.size : Int) - n := wrap_in (by omega) (by omega)
      refine wp_skip ?_
      refine wp_seq ?_
      refine wp_seq ?_
      apply region_okB hB T101_ok [31, 0, 4, 5] [0] [] hF
      case hex => intro A X; conv => lhs; cbv
      case hob =>
        intro X
        subst hB; exact ⟨rfl, trivial⟩
      case hQ =>
      intro X6 a0 w1 hF
      refine test_ok hF rfl (fun hb hF => ?_) (fun hb hF => ?_)
      · skip
        have hr : r1.length < m1 := by
          have : IntKind.i64.wrap ((s.size : Int) - n) < IntKind.i64.wrap v := by subst hB; simpa [std, stdCmp, stdArith] using hb
          rw [esub, ev] at this
          omega
        have hV : txtV s = ⟨#[]⟩ := by simp only [txtV, decT, hd, hn, hr, if_true, if_false]; rfl
        have hE : txtE s = 4 := by simp only [txtE, decT, hd, hn, hr, if_true, if_false]; rfl
        have hR : txtR s = s := by simp only [txtR, decT, hd, hn, hr, if_true, if_false]; exact mk_un s
        refine wp_seq ?_
        apply region_okB hB T101_ok [2, 3] [0] [] hF
        case hex => intro A X; conv => lhs; cbv
        case hob =>
          intro X
          subst hB
          simp [AllOb, Ob.holds, BE.den, std, stdCmp, stdArith] <;> omega
        case hQ =>
        intro X7 a0 w1 hF
        refine wp_ret ?_
        refine (ret_x (fn := Try.f101) T101_ok hF (rs := [.tmp 2, .tmp 3]) rfl (rfl) ?_ noAtom [] ?_ ?_ ?_).1
        · subst hB; simp [AllOb, Ob.holds]
        · subst hB; rw [hV, hE]; exact Sim.refl _
        · subst hB; rw [hR]; exact ⟨rfl, ⟨_, rfl, SimL.refl _⟩, trivial⟩
        · exact trivial
      · skip
        have hr : ¬ r1.length < m1 := by
          have : ¬ IntKind.i64.wrap ((s.size : Int) - n) < IntKind.i64.wrap v := by subst hB; simpa [std, stdCmp, stdArith] using hb
          rw [esub, ev] at this
          omega
        have eadd : IntKind.i64.wrap (n + IntKind.i64.wrap v) = n + v := by rw [ev]; exact wrap_in (by omega) (by omega)
        have hV : txtV s = s.extract n.toNat (n + v).toNat := by
          simp only [txtV, decT, hd, hn, hr, if_false]
          apply un_inj
          rw [un_extract, hr1]
          show unB (mkB (r1.take m1)) = _
          rw [un_mk, show (n + v).toNat = n.toNat + m1 by omega]
          exact cut_mid ((unB s).take n.toNat) r1 n.toNat m1 (by rw [List.length_take, un_size]; omega)
        have hE : txtE s = 0 := by simp only [txtE, decT, hd, hn, hr, if_false]; rfl
        have hR : txtR s = s.extract (n + v).toNat s.size := by
          simp only [txtR, decT, hd, hn, hr, if_false]
          apply un_inj
          rw [un_extract, show (unB s).take s.size = unB s from List.take_of_length_le (by rw [un_size]; exact Nat.le_refl _), hr1]
          show unB (mkB (r1.drop m1)) = _
          rw [un_mk, show (n + v).toNat = n.toNat + m1 by omega]
          exact cut_end ((unB s).take n.toNat) r1 n.toNat m1 (by rw [List.length_take, un_size]; omega)
        refine wp_skip ?_
        refine wp_seq ?_
        apply region_okB hB T101_ok [0, 4, 5, 7] [0] [] hF
        case hex => intro A X; conv => lhs; cbv
        case hob =>
          intro X
          subst hB
          refine ⟨rfl, ⟨hn0, ?_, ?_⟩, trivial⟩
          · show n ≤ IntKind.i64.wrap (n + IntKind.i64.wrap v); rw [eadd]; omega
          · show IntKind.i64.wrap (n + IntKind.i64.wrap v) ≤ (s.size : Int); rw [eadd]; omega
        case hQ =>
        intro X8 a0 w1 hF
        refine wp_seq ?_
        apply region_okB hB T101_ok [7] [0] [] hF
        case hex => intro A X; conv => lhs; cbv
        case hob =>
          intro X
          subst hB
          refine ⟨rfl, ⟨?_, ?_, Int.le_refl _⟩, rfl, trivial⟩
          · show 0 ≤ IntKind.i64.wrap (n + IntKind.i64.wrap v); rw [eadd]; omega
          · show IntKind.i64.wrap (n + IntKind.i64.wrap v) ≤ (s.size : Int); rw [eadd]; omega
        case hQ =>
        intro X9 a0 w1 hF
        refine wp_seq ?_
        apply region_okB hB T101_ok [2, 3] [0] [] hF
        case hex => intro A X; conv => lhs; cbv
        case hob =>
          intro X
          subst hB
          simp [AllOb, Ob.holds, BE.den, std, stdCmp, stdArith] <;> omega
        case hQ =>
        intro X10 a0 w1 hF
        refine wp_ret ?_
        refine (ret_x (fn := Try.f101) T101_ok hF (rs := [.tmp 2, .tmp 3]) rfl (rfl) ?_ noAtom [] ?_ ?_ ?_).1
        · subst hB; simp [AllOb, Ob.holds]
        · subst hB; rw [hV, hE, ← eadd]; exact Sim.refl _
        · subst hB; rw [hR, ← eadd]; exact ⟨rfl, ⟨_, rfl, SimL.refl _⟩, trivial⟩
        · exact trivial
theorem RTxt_m (k0 : Nat) (b : Nat) (s : ByteArray) (hs : s.size ≤ 1000000000) : SpecX Try.prog 101 [.ptr k0 b 0] [(k0, ⟨b, 78, [.str s]⟩)] (fun _ => ⟨.tup [.str (txtV s), .int .i64 (txtE s)], [(k0, [.str (txtR s)])], []⟩) :=
  (RTxt_m0 b s hs).re (by repeat (first | exact trivial | refine ⟨Sim.ptr, ?_⟩ | refine ⟨Sim.fn ⟨Sim.ptr, trivial⟩ trivial, ?_⟩ | refine ⟨Sim.refl _, ?_⟩)) rfl (fun x => ⟨rfl, rfl, Sim.refl _, rfl⟩)
def T102 : List (Nat × TI) := [(3, ti3), (5, ti5), (9, ti9), (23, ti23), (25, ti25), (29, ti29), (78, ti78)]
theorem T102_ok : TabOK Try.prog T102 := .cons t3 (.cons t5 (.cons t9 (.cons t23 (.cons t25 (.cons t29 (.cons t78 (.nil)))))))
theorem enters102 : Enters Try.prog 102 := fun _ _ => by kernel_rfl
theorem RLab_m0 (b : Nat) (s : ByteArray) (hs : s.size ≤ 1000000000) : SpecX Try.prog 102 [.ptr 0 b 0] [(0, ⟨b, 78, [.str s]⟩)] (fun _ => ⟨.tup [labAV (labV s), .int .i64 (labE s)], [(0, [.str (labR s)])], []⟩) := by
  intro m w hm hargs hpre
  rw [show labAV (labV s) = .agg [.int .i64 (labV s).len, .int .u64 (labV s).bits] from rfl]
  refine enterX hm hpre hargs Try.func102 rfl (by simp [Try.ntmps102]) fun a0 hF => ?_
  simp only [Try.ntmps102, startT] at hF
  obtain ⟨B, hB⟩ : ∃ B, B = std := ⟨_, rfl⟩
  refine wp_seq ?_
  apply region_okB hB T102_ok [0, 2] [0, 2] [] hF
  case hex => intro A X; conv => lhs; cbv
  case hob =>
    intro X
    subst hB
    simp [AllOb, Ob.holds, BE.den, std, stdCmp, stdArith] <;> omega
  case hQ =>
  intro X0 a0 w1 hF
  refine wp_seq ?_
  refine wp_seq ?_
  apply region_okB hB T102_ok [12, 0, 2] [0, 2] [] hF
  case hex => intro A X; conv => lhs; cbv
  case hob =>
    intro X
    subst hB; exact ⟨rfl, trivial⟩
  case hQ =>
  intro X1 a0 w1 hF
  refine test_ok hF rfl (fun hb hF => ?_) (fun hb hF => ?_)
  · skip
    have hz : unB s = [] := by
      have : (s.size : Int) = 0 := by subst hB; simpa [std, stdCmp] using hb
      exact List.eq_nil_of_length_eq_zero (by rw [un_size]; omega)
    have hV : labV s = ⟨0, 0⟩ := by simp only [labV, hz]; rfl
    have hE : labE s = 4 := by simp only [labE, hz]; rfl
    have hR : labR s = s := by simp only [labR, hz]; rw [← mk_un s, hz]; rfl
    refine wp_seq ?_
    apply region_okB hB T102_ok [2, 3] [0, 2] [] hF
    case hex => intro A X; conv => lhs; cbv
    case hob =>
      intro X
      subst hB
      simp [AllOb, Ob.holds, BE.den, std, stdCmp, stdArith] <;> omega
    case hQ =>
    intro X2 a0 w1 hF
    refine wp_ret ?_
    refine (ret_x (fn := Try.f102) T102_ok hF (rs := [.cell 2 25, .tmp 3]) rfl (by conv => lhs; cbv) ?_ noAtom [] ?_ ?_ ?_).1
    · subst hB; simp [AllOb, Ob.holds]
    · subst hB; rw [hV, hE]; exact Sim.refl _
    · subst hB; rw [hR]; exact ⟨rfl, ⟨_, rfl, SimL.refl _⟩, trivial⟩
    · exact trivial
  · skip
    have hu : ∃ n r, unB s = n :: r := by
      cases hc : unB s with
      | nil =>
        exfalso
        have h0 := un_size s
        rw [hc] at h0
        have : ¬ (s.size : Int) = 0 := by subst hB; simpa [std, stdCmp] using hb
        simp at h0; omega
      | cons n r => exact ⟨n, r, rfl⟩
    obtain ⟨n, r, hu⟩ := hu
    have hsz : s.size = r.length + 1 := by rw [← un_size, hu]; rfl
    have hn256 := n.toNat_lt
    refine wp_skip ?_
    refine wp_seq ?_
    apply region_okB hB T102_ok [0, 2, 4] [0, 2, 4] [] hF
    case hex => intro A X; conv => lhs; cbv
    case hob =>
      intro X
      subst hB
      refine ⟨rfl, ⟨by decide, ?_⟩, rfl, trivial⟩
      show (0 : Int) < (s.size : Int)
      omega
    case hQ =>
    intro X3 a0 w1 hF
    have hl0 : B.conv .i64 (B.sat s (B.toNat 0)) = (n.toNat : Int) := by
      subst hB
      show IntKind.i64.wrap ((s[(0 : Int).toNat]?.getD 0).toNat : Int) = _
      rw [Int.toNat_zero, un_get, hu]
      exact wrap_i64n n.toNat (by omega)
    refine wp_seq ?_
    refine wp_seq ?_
    apply region_okB hB T102_ok [23, 0, 2, 4] [0, 2, 4] [] hF
    case hex => intro A X; conv => lhs; cbv
    case hob =>
      intro X
      subst hB; exact ⟨rfl, trivial⟩
    case hQ =>
    intro X4 a0 w1 hF
    refine test_ok hF rfl (fun hb hF => ?_) (fun hb hF => ?_)
    · skip
      have hn8 : 64 < n.toNat := by
        have h1 : (64 : Int) < B.conv .i64 (B.sat s (B.toNat 0)) := by subst hB; simpa [std, stdCmp] using hb
        rw [hl0] at h1
        omega
      have hV : labV s = ⟨0, 0⟩ := by simp only [labV, hu, decL, hn8, if_true]; rfl
      have hE : labE s = 3 := by simp only [labE, hu, decL, hn8, if_true]; rfl
      have hR : labR s = s := by simp only [labR, hu, decL, hn8, if_true]; rw [← mk_un s, hu]; rfl
      refine wp_seq ?_
      apply region_okB hB T102_ok [2, 3] [0, 2] [] hF
      case hex => intro A X; conv => lhs; cbv
      case hob =>
        intro X
        subst hB
        simp [AllOb, Ob.holds, BE.den, std, stdCmp, stdArith] <;> omega
      case hQ =>
      intro X5 a0 w1 hF
      refine wp_ret ?_
      refine (ret_x (fn := Try.f102) T102_ok hF (rs := [.cell 2 25, .tmp 3]) rfl (by conv => lhs; cbv) ?_ noAtom [] ?_ ?_ ?_).1
      · subst hB; simp [AllOb, Ob.holds]
      · subst hB; rw [hV, hE]; exact Sim.refl _
      · subst hB; rw [hR]; exact ⟨rfl, ⟨_, rfl, SimL.refl _⟩, trivial⟩
      · exact trivial
    · skip
      have hn8 : ¬ 64 < n.toNat := by
        have h1 : ¬ (64 : Int) < B.conv .i64 (B.sat s (B.toNat 0)) := by subst hB; simpa [std, stdCmp] using hb
        rw [hl0] at h1
        omega
      refine wp_skip ?_
      refine wp_seq ?_
      apply region_okB hB T102_ok [5, 4, 0, 2] [0, 2, 4] [] hF
      case hex => intro A X; conv => lhs; cbv
      case hob =>
        intro X
        subst hB; exact ⟨rfl, show (8 : Int) ≠ 0 by decide, trivial⟩
      case hQ =>
      intro X6 a0 w1 hF
      obtain ⟨k, hk⟩ : ∃ k : Nat, k = (n.toNat + 7) / 8 := ⟨_, rfl⟩
      replace hF := hF.head (v' := .int .i64 (k : Int)) (by
        subst hB
        show AV.int .i64 (IntKind.i64.wrap ((IntKind.i64.wrap (std.conv .i64 (std.sat s (std.toNat 0)) + 7)).tdiv 8)) = _
        rw [hl0, wrap_in (x := (n.toNat : Int) + 7) (by omega) (by omega)]
        show AV.int .i64 (IntKind.i64.wrap (((n.toNat + 7) / 8 : Nat) : Int)) = _
        rw [wrap_i64n _ (by omega), hk])
      refine wp_seq ?_
      refine wp_seq ?_
      apply region_okB hB T102_ok [36, 0, 2, 4, 5] [0, 2, 4] [] hF
      case hex => intro A X; conv => lhs; cbv
      case hob =>
        intro X
        subst hB; exact ⟨rfl, trivial⟩
      case hQ =>
      intro X7 a0 w1 hF
      refine test_ok hF rfl (fun hb hF => ?_) (fun hb hF => ?_)
      · skip
        have hr : r.length < (n.toNat + 7) / 8 := by
          have : (s.size : Int) < IntKind.i64.wrap (1 + (k : Int)) := by subst hB; simpa [std, stdCmp, stdArith] using hb
          rw [wrap_in (by omega) (by omega)] at this
          omega
        have hV : labV s = ⟨0, 0⟩ := by simp only [labV, hu, decL, hn8, hr, if_true, if_false]; rfl
        have hE : labE s = 4 := by simp only [labE, hu, decL, hn8, hr, if_true, if_false]; rfl
        have hR : labR s = s := by simp only [labR, hu, decL, hn8, hr, if_true, if_false]; rw [← mk_un s, hu]; rfl
        refine wp_seq ?_
        apply region_okB hB T102_ok [2, 3] [0, 2] [] hF
        case hex => intro A X; conv => lhs; cbv
        case hob =>
          intro X
          subst hB
          simp [AllOb, Ob.holds, BE.den, std, stdCmp, stdArith] <;> omega
        case hQ =>
        intro X8 a0 w1 hF
        refine wp_ret ?_
        refine (ret_x (fn := Try.f102) T102_ok hF (rs := [.cell 2 25, .tmp 3]) rfl (by conv => lhs; cbv) ?_ noAtom [] ?_ ?_ ?_).1
        · subst hB; simp [AllOb, Ob.holds]
        · subst hB; rw [hV, hE]; exact Sim.refl _
        · subst hB; rw [hR]; exact ⟨rfl, ⟨_, rfl, SimL.refl _⟩, trivial⟩
        · exact trivial
      · skip
        have hr : ¬ r.length < (n.toNat + 7) / 8 := by
          have : ¬ (s.size : Int) < IntKind.i64.wrap (1 + (k : Int)) := by subst hB; simpa [std, stdCmp, stdArith] using hb
          rw [wrap_in (by omega) (by omega)] at this
          omega
        refine wp_skip ?_
        refine wp_seq ?_
        refine wp_seq ?_
        apply region_okB hB T102_ok [6, 0, 2, 4, 5] [4, 0, 2] [] hF
        case hex => intro A X; conv => lhs; cbv
        case hob =>
          intro X
          subst hB
          simp [AllOb, Ob.holds, BE.den, std, stdCmp, stdArith] <;> omega
        case hQ =>
        intro X9 a0 w1 hF
        refine wp_block ?_
        refine loop_pre (ι := Nat × Int) (fun p => [(6, .int .i64 (p.1 : Int))]) (fun p => [(4, ⟨(X3 7).b, 25, [.int .i64 (B.conv .i64 (B.sat s (B.toNat 0))), .int .u64 p.2]⟩)]) (fun p => []) (fun p => p.1 ≤ k ∧ p.2 = (valB (r.take p.1) * 256 ^ (8 - p.1) : Nat)) (fun p => k - p.1) (0, 0) ⟨Nat.zero_le _, by simp [valB]⟩ hF ?_
        rintro ⟨j, x⟩ ⟨hj, hx⟩ a0 w1 hF
        try dsimp only at hj
        try dsimp only at hx
        refine wp_seq ?_
        refine wp_seq ?_
        apply region_okB hB T102_ok [40, 0, 2, 4, 5, 6] [4, 0, 2] [] hF
        case hex => intro A X; conv => lhs; cbv
        case hob =>
          intro X
          subst hB
          simp [AllOb, Ob.holds, BE.den, std, stdCmp, stdArith] <;> omega
        case hQ =>
        intro X10 a0 w1 hF
        refine test_ok hF rfl (fun hb hF => ?_) (fun hb hF => ?_)
        · skip
          have hin : j < k := by
            have : (j : Int) < (k : Int) := by subst hB; simpa [std, stdCmp] using hb
            omega
          refine wp_skip ?_
          refine wp_seq ?_
          refine wp_block ?_
          apply drawn_okB hB (by kernel_rfl) T102_ok [0, 2, 4, 5, 6] [4, 0, 2] [] hF rfl
          case hex => intro A X; conv => lhs; cbv
          case hD => kernel_rfl
          case hlen => rfl
          case hob =>
            intro X
            subst hB
            have e1 : IntKind.i64.wrap ((j : Int) + 1) = ((j + 1 : Nat) : Int) := by rw [wrap_in (by omega) (by omega)]; omega
            refine ⟨rfl, rfl, ⟨?_, ?_⟩, ?_, rfl, trivial⟩
            · show 0 ≤ IntKind.i64.wrap (1 + (j : Int)); rw [Int.add_comm, e1]; omega
            · show IntKind.i64.wrap (1 + (j : Int)) < (s.size : Int); rw [Int.add_comm, e1]; omega
            · show 0 ≤ IntKind.i64.wrap (56 - IntKind.i64.wrap (8 * (j : Int)))
              rw [wrap_in (x := 8 * (j : Int)) (by omega) (by omega), wrap_in (by omega) (by omega)]; omega
          case hQ =>
          intro X12 a0 w1 hF
          apply region_okB hB T102_ok [6, 0, 2, 4, 5] [4, 0, 2] [] hF
          case hex => intro A X; conv => lhs; cbv
          case hob =>
            intro X
            subst hB
            simp [AllOb, Ob.holds, BE.den, std, stdCmp, stdArith] <;> omega
          case hQ =>
          intro X11 a0 w1 hF
          have e : B.arith .add .i64 (j : Int) 1 = ((j + 1 : Nat) : Int) := by subst hB; exact wrap_succ (n := k) hin (by simp only [maxLen]; omega)
          refine ⟨(j + 1, B.arith .or .u64 x (B.shift .shl .u64 (B.conv .u64 (B.sat s (B.toNat (B.arith .add .i64 1 (j : Int))))) (B.arith .sub .i64 56 (B.arith .mul .i64 8 (j : Int))))), ⟨by simp only; omega, ?_⟩, by simp only; omega, by rw [← e]; exact hF⟩
          subst hB
          show stdArith .or .u64 x (stdShift .shl .u64 (IntKind.u64.wrap ((s[(IntKind.i64.wrap (1 + (j : Int))).toNat]?.getD 0).toNat : Int)) (IntKind.i64.wrap (56 - IntKind.i64.wrap (8 * (j : Int))))) = _
          have hi2 : j < r.length := by omega
          rw [hx, wrap_in (x := 8 * (j : Int)) (by omega) (by omega), wrap_in (x := 56 - 8 * (j : Int)) (by omega) (by omega), wrap_in (x := 1 + (j : Int)) (by omega) (by omega), show (1 + (j : Int)).toNat = j + 1 by omega, un_get, hu, List.getElem?_cons_succ, List.getElem?_eq_getElem hi2, List.take_succ_eq_append_getElem hi2, valB_snoc]
          have hb1 := valB_lt (r.take j)
          rw [List.length_take, Nat.min_eq_left (by omega)] at hb1
          exact or_lab _ _ hb1 (by omega)
        · skip
          have hjn : j = k := by
            have : ¬ (j : Int) < (k : Int) := by subst hB; simpa [std, stdCmp] using hb
            omega
          rw [hjn, hk] at hx
          have hlen : (r.take ((n.toNat + 7) / 8)).length = (n.toNat + 7) / 8 := by rw [List.length_take]; omega
          have hlab : labOf n (r.take ((n.toNat + 7) / 8)) = ⟨n.toNat, x⟩ := by
            unfold labOf
            rw [hx, hlen]
          have hxU : U64 x := by
            rw [hx]
            have h1 := valB_lt (r.take ((n.toNat + 7) / 8))
            rw [hlen] at h1
            have h2 := Nat.mul_lt_mul_of_pos_right h1 (Nat.pow_pos (n := 8 - (n.toNat + 7) / 8) (by decide : 0 < 256))
            rw [← Nat.pow_add, show (n.toNat + 7) / 8 + (8 - (n.toNat + 7) / 8) = 8 by omega] at h2
            have h3 : (256 : Nat) ^ 8 = 18446744073709551616 := by decide
            constructor
            · omega
            · omega
          have S3 := risL_s ⟨n.toNat, x⟩ hxU
          simp only [labAV] at S3
          generalize hlb : isL ⟨n.toNat, x⟩ = lb at S3
          refine wp_exit ?_
          refine wp_seq ?_
          refine wp_seq ?_
          apply region_okB hB T102_ok [61, 0, 2, 4, 5] [4, 0, 2] [(1, .r fun _ => .bool (.v lb))] hF
          case hex => intro A X; conv => lhs; cbv
          case hob =>
            intro X
            subst hB
            refine ⟨rfl, ⟨enters54, ?_⟩, trivial⟩
            show Spec _ _ [.agg [.int .i64 (std.conv .i64 (std.sat s (std.toNat 0))), .int .u64 x]] _
            rw [hl0]
            exact S3
          case hQ =>
          intro X13 a0 w1 hF
          refine test_ok hF rfl (fun hb hF => ?_) (fun hb hF => ?_)
          · skip
            have hlf : lb = false := by subst hB; cases lb <;> first | rfl | (simp [std] at hb)
            have hV : labV s = ⟨0, 0⟩ := by simp only [labV, hu, decL, hn8, hr, hlab, hlb, hlf, if_false]; rfl
            have hE : labE s = 3 := by simp only [labE, hu, decL, hn8, hr, hlab, hlb, hlf, if_false]; rfl
            have hR : labR s = s := by simp only [labR, hu, decL, hn8, hr, hlab, hlb, hlf, if_false]; rw [← mk_un s, hu]; rfl
            refine wp_seq ?_
            apply region_okB hB T102_ok [2, 3] [0, 2] [] hF
            case hex => intro A X; conv => lhs; cbv
            case hob =>
              intro X
              subst hB
              simp [AllOb, Ob.holds, BE.den, std, stdCmp, stdArith] <;> omega
            case hQ =>
            intro X14 a0 w1 hF
            refine wp_ret ?_
            refine (ret_x (fn := Try.f102) T102_ok hF (rs := [.cell 2 25, .tmp 3]) rfl (by conv => lhs; cbv) ?_ noAtom [] ?_ ?_ ?_).1
            · subst hB; simp [AllOb, Ob.holds]
            · subst hB; rw [hV, hE]; exact Sim.refl _
            · subst hB; rw [hR]; exact ⟨rfl, ⟨_, rfl, SimL.refl _⟩, trivial⟩
            · exact trivial
          · skip
            have hlf : lb = true := by subst hB; cases lb <;> first | rfl | (simp [std] at hb)
            have hV : labV s = ⟨n.toNat, x⟩ := by simp only [labV, hu, decL, hn8, hr, hlab, hlb, hlf, if_true, if_false]; rfl
            have hE : labE s = 0 := by simp only [labE, hu, decL, hn8, hr, hlab, hlb, hlf, if_true, if_false]; rfl
            have hR : labR s = s.extract (B.toNat (B.arith .add .i64 1 (k : Int))) s.size := by
              have e1 : IntKind.i64.wrap (1 + (k : Int)) = ((k + 1 : Nat) : Int) := by rw [wrap_in (by omega) (by omega)]; omega
              subst hB
              show labR s = s.extract (IntKind.i64.wrap (1 + (k : Int))).toNat s.size
              rw [e1, Int.toNat_natCast]
              apply un_inj
              rw [un_extract, List.take_of_length_le (by rw [un_size]; exact Nat.le_refl _), hu, hk]
              simp only [labR, hu, decL, hn8, hr, hlab, hlb, hlf, if_true, if_false, Dec.rest]
              rw [un_mk]; rfl
            refine wp_skip ?_
            refine wp_seq ?_
            apply region_okB hB T102_ok [2, 4] [0, 2, 4] [] hF
            case hex => intro A X; conv => lhs; cbv
            case hob =>
              intro X
              subst hB
              have e1 : IntKind.i64.wrap (1 + (k : Int)) = ((k + 1 : Nat) : Int) := by rw [wrap_in (by omega) (by omega)]; omega
              refine ⟨rfl, ⟨?_, ?_, Int.le_refl _⟩, rfl, trivial⟩
              · show 0 ≤ IntKind.i64.wrap (1 + (k : Int)); rw [e1]; omega
              · show IntKind.i64.wrap (1 + (k : Int)) ≤ (s.size : Int); rw [e1]; omega
            case hQ =>
            intro X15 a0 w1 hF
            refine wp_seq ?_
            apply region_okB hB T102_ok [2, 3] [0, 2] [] hF
            case hex => intro A X; conv => lhs; cbv
            case hob =>
              intro X
              subst hB; exact ⟨rfl, rfl, trivial⟩
            case hQ =>
            intro X16 a0 w1 hF
            refine wp_ret ?_
            refine (ret_x (fn := Try.f102) T102_ok hF (rs := [.cell 2 25, .tmp 3]) rfl (by conv => lhs; cbv) ?_ noAtom [] ?_ ?_ ?_).1
            · subst hB; simp [AllOb, Ob.holds]
            · subst hB
              rw [hV, hE, ← hl0]
              exact Sim.refl _
            · subst hB; rw [hR]; exact ⟨rfl, ⟨_, rfl, SimL.refl _⟩, trivial⟩
            · exact trivial
theorem RLab_m (k0 : Nat) (b : Nat) (s : ByteArray) (hs : s.size ≤ 1000000000) : SpecX Try.prog 102 [.ptr k0 b 0] [(k0, ⟨b, 78, [.str s]⟩)] (fun _ => ⟨.tup [labAV (labV s), .int .i64 (labE s)], [(k0, [.str (labR s)])], []⟩) :=
  (RLab_m0 b s hs).re (by repeat (first | exact trivial | refine ⟨Sim.ptr, ?_⟩ | refine ⟨Sim.fn ⟨Sim.ptr, trivial⟩ trivial, ?_⟩ | refine ⟨Sim.refl _, ?_⟩)) rfl (fun x => ⟨rfl, rfl, Sim.refl _, rfl⟩)
end Go.Proofs.Ytkamdppnnhjajaa.Sym
