/-
  Records: what is right (printed by a program of mine). Conditions: none.
-/
import Derived.Test.YtkamdppnnhjajaaPlRec
import Derived.Test.YtkamdppnnhjajaaSymRRd
namespace Go.Proofs.Ytkamdppnnhjajaa.Sym
open Go Go.RowKit
set_option maxRecDepth 100000
set_option linter.unusedVariables false
set_option linter.unusedSimpArgs false
def itC (x : Itm) : List AV := [.int .u64 x.key, .str x.val]
/-- a row of items -/
def rowI (A : Option Addr) (n c : Nat) (f : Nat → Itm) : AV := .sl none A n c 2 (fun i => itC (f i))
def recI (A : Option Addr) (n c : Nat) (f : Nat → Itm) (kd : Int) (nx : Lab) (mk : Int) : AV := .agg [.int .i64 kd, rowI A n c f, .int .i64 nx.len, .int .u64 nx.bits, .int .u64 mk]
theorem ite_or (a b : Bool) : (if a = true then true else b) = (a || b) := by cases a <;> rfl
theorem ite_and (a b : Bool) : (if a = true then b else false) = (a && b) := by cases a <;> rfl
theorem eqL_itm (x y : Itm) : eqL (itC x) (itC y) = decide (x = y) := by
  obtain ⟨a, b⟩ := x
  obtain ⟨c, d⟩ := y
  rw [Bool.eq_iff_iff]
  simp [eqL, eqC, itC, beqB]
theorem itm_guard : Try.prog.eqGuardType Try.prog.depth 53 = false := by kernel_rfl
theorem itm_shape : eqShape Try.prog 2 53 = some [.int .u64, .str] := by kernel_rfl
theorem itm_agg : aggB Try.prog 53 = some true := by kernel_rfl
theorem ob_itm (a : Int) (b : ByteArray) (c : Int) (d : ByteArray) : Ob.holds Try.prog (.eql 53 [.int .u64 a, .str b] [.int .u64 c, .str d]) := ob_eql itm_shape (by decide) itm_guard itm_agg ⟨rfl, trivial, trivial⟩ ⟨rfl, trivial, trivial⟩
def sameF (n : Nat) (f : Nat → Itm) (n2 : Nat) (f2 : Nat → Itm) : Bool := decide (n = n2) && (List.range n).all fun i => decide (f i = f2 i)
theorem sameF_no {n n2 i : Nat} {f f2 : Nat → Itm} (hi : i < n) (h : ¬ f i = f2 i) : sameF n f n2 f2 = false := by
  unfold sameF
  have : ((List.range n).all fun i => decide (f i = f2 i)) = false := by
    rw [Bool.eq_false_iff]
    intro h2
    exact h (of_decide_eq_true (List.all_eq_true.1 h2 i (List.mem_range.2 hi)))
  rw [this]; simp
theorem sameF_yes {n n2 : Nat} {f f2 : Nat → Itm} (hn : n = n2) (h : ∀ i, i < n → f i = f2 i) : sameF n f n2 f2 = true := by
  unfold sameF
  rw [decide_eq_true hn, Bool.true_and, List.all_eq_true]
  intro i hi
  exact decide_eq_true (h i (List.mem_range.1 hi))
def sameRF (kd : Int) (n : Nat) (f : Nat → Itm) (nx : Lab) (mk : Int) (kd2 : Int) (n2 : Nat) (f2 : Nat → Itm) (nx2 : Lab) (mk2 : Int) : Bool := decide (kd = kd2) && sameF n f n2 f2 && decide (nx = nx2) && decide (mk = mk2)
def sumF (f : Nat → Itm) : Nat → Int
  | 0 => 0
  | i + 1 => IntKind.i64.wrap (sumF f i + ((f i).val.size : Int))
def bigF (n : Nat) (f : Nat → Itm) : Bool := decide (40 < n) || decide (8000 < sumF f n)
def recAV (A : Option Addr) (c : Nat) (r : Rec) : AV := recI A r.items.length c (itF r.items) r.kind r.next r.mark
def T53 : List (Nat × TI) := [(3, ti3), (4, ti4), (9, ti9), (22, ti22), (23, ti23), (53, ti53)]
theorem T53_ok : TabOK Try.prog T53 := .cons t3 (.cons t4 (.cons t9 (.cons t22 (.cons t23 (.cons t53 (.nil))))))
theorem enters53 : Enters Try.prog 53 := fun _ _ => by kernel_rfl
theorem row_s (A : Option Addr) (n c : Nat) (f : Nat → Itm) (hn : n ≤ maxLen) : Spec Try.prog 53 [rowI A n c f] (fun _ => .bool (.v (rowF n f))) := by
  intro m w hm hargs
  have hmx : maxLen = 9223372036854775807 := rfl
  refine enter hm hargs Try.func53 rfl (by simp [Try.ntmps53]) fun a0 hF => ?_
  simp only [Try.ntmps53, startT] at hF
  obtain ⟨B, hB⟩ : ∃ B, B = std := ⟨_, rfl⟩
  refine wp_seq ?_
  apply region_okB hB T53_ok [0] [] [] hF
  case hex => intro A X; conv => lhs; cbv
  case hob =>
    intro X
    subst hB
    simp [AllOb, Ob.holds, BE.den, std, stdCmp, stdArith] <;> omega
  case hQ =>
  intro X0 a0 w1 hF
  refine wp_seq ?_
  refine wp_seq ?_
  apply region_okB hB T53_ok [7, 0, 5, 6] [] [] hF
  case hex => intro A X; conv => lhs; cbv
  case hob =>
    intro X
    subst hB
    simp [AllOb, Ob.holds, BE.den, std, stdCmp, stdArith] <;> omega
  case hQ =>
  intro X1 a0 w1 hF
  refine wp_block ?_
  refine loop_pre (ι := Nat) (fun p => [(7, .int .i64 (p : Int))]) (fun p => []) (fun p => []) (fun p => p ≤ n ∧ okF f p = true) (fun p => n - p) 0 ⟨Nat.zero_le _, rfl⟩ hF ?_
  rintro i ⟨hi, hok⟩ a0 w1 hF
  try dsimp only at hi
  try dsimp only at hok
  refine wp_seq ?_
  apply region_okB hB T53_ok [8, 0, 5, 6, 7] [] [] hF
  case hex => intro A X; conv => lhs; cbv
  case hob =>
    intro X
    subst hB
    simp [AllOb, Ob.holds, BE.den, std, stdCmp, stdArith] <;> omega
  case hQ =>
  intro X2 a0 w1 hF
  refine wp_seq ?_
  refine test_ok hF rfl (fun hb hF => ?_) (fun hb hF => ?_)
  · skip
    have hin : i < n := by
      have : (i : Int) < (n : Int) := by subst hB; simpa [std, stdCmp] using hb
      omega
    have ht := okAt_test f i (by omega)
    refine wp_skip ?_
    refine wp_seq ?_
    refine wp_block ?_
    refine wp_seq ?_
    apply region_okB hB T53_ok [0, 3, 4, 5, 6, 7] [4] [] hF
    case hex => intro A X; conv => lhs; cbv
    case hob =>
      intro X
      subst hB; exact ⟨⟨show (0 : Int) ≤ (i : Int) by omega, show (i : Int) < (n : Int) by omega⟩, rfl, trivial⟩
    case hQ =>
    intro X3 a0 w1 hF
    refine wp_seq ?_
    apply drawn_okB hB (by kernel_rfl) T53_ok [30, 0, 5, 6, 7] [] [] hF rfl
    case hex => intro A X; conv => lhs; cbv
    case hD => kernel_rfl
    case hlen => rfl
    case hob =>
      intro X
      subst hB
      have hix : (0 : Int) < (i : Int) → 0 ≤ IntKind.i64.wrap ((i : Int) - 1) ∧ IntKind.i64.wrap ((i : Int) - 1) < (n : Int) := fun h => by rw [wrap_in (by omega) (by omega)]; omega
      simp only [AllOb, Ob.holds, BE.den, List.mem_cons, List.not_mem_nil, or_false, forall_eq_or_imp, forall_eq]
      and_intros <;> first | trivial | (intro h; first | trivial | exact hix (of_decide_eq_true h) | exact hix (of_decide_eq_true h.1))
    case hQ =>
    intro X4 a0 w1 hF
    refine test_ok hF rfl (fun hb hF => ?_) (fun hb hF => ?_)
    · skip
      have hat : okAt f i = false := by
        have h9 : (!okAt f i) = true := by subst hB; exact ht.symm.trans hb
        simpa using h9
      refine wp_seq ?_
      apply region_okB hB T53_ok [2] [] [] hF
      case hex => intro A X; conv => lhs; cbv
      case hob =>
        intro X
        subst hB
        simp [AllOb, Ob.holds, BE.den, std, stdCmp, stdArith] <;> omega
      case hQ =>
      intro X5 a0 w1 hF
      refine wp_ret ?_
      refine ret_spec (fn := Try.f53) T53_ok hF (rs := [.tmp 2]) rfl (rfl) ?_ noAtom ?_
      · subst hB; simp [AllOb, Ob.holds]
      · subst hB
        refine congrArg (fun b => AV.bool (.v b)) ?_
        unfold rowF
        rw [okF_false hin hat]; simp
    · skip
      have hat : okAt f i = true := by
        have h9 : (!okAt f i) = false := by subst hB; exact ht.symm.trans hb
        simpa using h9
      refine wp_skip ?_
      apply region_okB hB T53_ok [7, 0, 5, 6] [] [] hF
      case hex => intro A X; conv => lhs; cbv
      case hob =>
        intro X
        subst hB
        simp [AllOb, Ob.holds, BE.den, std, stdCmp, stdArith] <;> omega
      case hQ =>
      intro X6 a0 w1 hF
      have e : B.arith .add .i64 (i : Int) 1 = ((i + 1 : Nat) : Int) := by subst hB; exact wrap_succ (n := n) hin hn
      refine ⟨i + 1, ⟨by omega, by rw [okF_succ, hok, hat]; rfl⟩, by omega, by rw [← e]; exact hF⟩
  · skip
    have hout : i = n := by
      have : ¬ (i : Int) < (n : Int) := by subst hB; simpa [std, stdCmp] using hb
      omega
    refine wp_exit ?_
    refine wp_seq ?_
    apply region_okB hB T53_ok [2] [] [] hF
    case hex => intro A X; conv => lhs; cbv
    case hob =>
      intro X
      subst hB
      simp [AllOb, Ob.holds, BE.den, std, stdCmp, stdArith] <;> omega
    case hQ =>
    intro X7 a0 w1 hF
    refine wp_ret ?_
    refine ret_spec (fn := Try.f53) T53_ok hF (rs := [.tmp 2]) rfl (rfl) ?_ noAtom ?_
    · subst hB; simp [AllOb, Ob.holds]
    · subst hB
      refine congrArg (fun b => AV.bool (.v b)) ?_
      unfold rowF
      rw [hout] at hok
      rw [hok]
      simp [std, stdCmp]; omega
def T15 : List (Nat × TI) := [(3, ti3), (4, ti4), (22, ti22), (23, ti23), (25, ti25), (27, ti27)]
theorem T15_ok : TabOK Try.prog T15 := .cons t3 (.cons t4 (.cons t22 (.cons t23 (.cons t25 (.cons t27 (.nil))))))
theorem enters15 : Enters Try.prog 15 := fun _ _ => by kernel_rfl
theorem isR_s (A : Option Addr) (n c : Nat) (f : Nat → Itm) (hn : n ≤ maxLen) (kd : Int) (nx : Lab) (mk : Int) (hv : U64 nx.bits) : Spec Try.prog 15 [recI A n c f kd nx mk] (fun _ => .bool (.v (isRF kd n f nx mk))) := by
  intro m w hm hargs
  have S1 := none_s
  have S2 := isL_s nx hv
  have S3 := row_s A n c f hn
  simp only [labAV] at S1 S2
  generalize hq : isL nx = q at S2
  generalize hr : rowF n f = r at S3
  have hnx := eqL_lab nx noneL
  generalize hd : decide (nx = noneL) = d at hnx
  refine enter hm hargs Try.func15 rfl (by simp [Try.ntmps15]) fun a0 hF => ?_
  simp only [Try.ntmps15, startT] at hF
  obtain ⟨B, hB⟩ : ∃ B, B = std := ⟨_, rfl⟩
  refine wp_seq ?_
  apply region_okB hB T15_ok [1] [1] [] hF
  case hex => intro A X; conv => lhs; cbv
  case hob =>
    intro X
    subst hB
    simp [AllOb, Ob.holds, BE.den, std, stdCmp, stdArith] <;> omega
  case hQ =>
  intro X0 a0 w1 hF
  refine wp_seq ?_
  refine wp_seq ?_
  apply drawn_okB hB (by kernel_rfl) T15_ok [12, 1] [1] [(2, .r fun _ => .agg [.int .i64 (-1), .int .u64 0]), (7, .r fun _ => .bool (.v q))] hF rfl
  case hex => intro A X; conv => lhs; cbv
  case hD => kernel_rfl
  case hlen => rfl
  case hob =>
    intro X
    subst hB
    exact ⟨rfl, ⟨enters36, S1⟩, ob_lab _ _ _ _, fun _ => rfl, fun _ => ⟨enters52, S2⟩, trivial⟩
  case hQ =>
  intro X1 a0 w1 hF
  refine test_ok hF rfl (fun hb hF => ?_) (fun hb hF => ?_)
  · skip
    have hx : d = false ∧ q = false := by
      have h9 : (if (!eqL [.int .i64 nx.len, .int .u64 nx.bits] [.int .i64 (-1), .int .u64 0]) = true then !q else false) = true := by subst hB; exact hb
      rw [show eqL [.int .i64 nx.len, .int .u64 nx.bits] [.int .i64 (-1), .int .u64 0] = d from hnx] at h9
      cases d <;> cases q <;> simp at h9 ⊢
    refine wp_seq ?_
    apply region_okB hB T15_ok [2] [] [] hF
    case hex => intro A X; conv => lhs; cbv
    case hob =>
      intro X
      subst hB
      simp [AllOb, Ob.holds, BE.den, std, stdCmp, stdArith] <;> omega
    case hQ =>
    intro X2 a0 w1 hF
    refine wp_ret ?_
    refine ret_spec (fn := Try.f15) T15_ok hF (rs := [.tmp 2]) rfl (rfl) ?_ noAtom ?_
    · subst hB; simp [AllOb, Ob.holds]
    · subst hB
      refine congrArg (fun b => AV.bool (.v b)) ?_
      unfold isRF
      rw [hd, hq, hr]
      first | (subst hk) | skip
      have hnx2 : eqL [.int .i64 nx.len, .int .u64 nx.bits] [.int .i64 (-1), .int .u64 0] = d := hnx
      simp_all [bareK, std, stdCmp, BE.den]
      try (cases d <;> cases q <;> simp_all <;> (by_cases h0 : mk = 0 <;> simp [h0]))
  · skip
    have hx : d = true ∨ q = true := by
      have h9 : (if (!eqL [.int .i64 nx.len, .int .u64 nx.bits] [.int .i64 (-1), .int .u64 0]) = true then !q else false) = false := by subst hB; exact hb
      rw [show eqL [.int .i64 nx.len, .int .u64 nx.bits] [.int .i64 (-1), .int .u64 0] = d from hnx] at h9
      cases d <;> cases q <;> simp at h9 ⊢
    refine wp_skip ?_
    refine wp_seq ?_
    refine wp_seq ?_
    apply region_okB hB T15_ok [1, 14] [1] [] hF
    case hex => intro A X; conv => lhs; cbv
    case hob =>
      intro X
      subst hB
      simp [AllOb, Ob.holds, BE.den, std, stdCmp, stdArith] <;> omega
    case hQ =>
    intro X3 a0 w1 hF
    refine wp_block ?_
    refine wp_seq ?_
    refine wp_block ?_
    refine wp_seq ?_
    refine wp_block ?_
    refine wp_seq ?_
    refine wp_block ?_
    refine wp_seq ?_
    refine wp_seq ?_
    refine wp_seq ?_
    refine wp_seq ?_
    apply region_okB hB T15_ok [15, 1, 14] [1] [] hF
    case hex => intro A X; conv => lhs; cbv
    case hob =>
      intro X
      subst hB
      simp [AllOb, Ob.holds, BE.den, std, stdCmp, stdArith] <;> omega
    case hQ =>
    intro X4 a0 w1 hF
    refine test_keep hF (fun hb hF => ?_) (fun hb hF => ?_)
    · skip
      have hk : kd = 2 := by subst hB; simpa [std, stdCmp] using hb
      refine wp_skip ?_
      refine test_tt hF rfl (fun hF => ?_)
      refine wp_exit ?_
      refine wp_seq ?_
      refine wp_seq ?_
      apply drawn_okB hB (by kernel_rfl) T15_ok [2] [] [(7, .r fun _ => .agg [.int .i64 (-1), .int .u64 0])] hF rfl
      case hex => intro A X; conv => lhs; cbv
      case hD => kernel_rfl
      case hlen => rfl
      case hob =>
        intro X
        subst hB
        exact ⟨rfl, fun _ => rfl, fun _ => ⟨enters36, S1⟩, fun _ => ob_lab _ _ _ _, fun _ => rfl, trivial⟩
      case hQ =>
      intro X9 a0 w1 hF
      refine wp_ret ?_
      refine ret_spec (fn := Try.f15) T15_ok hF (rs := [.tmp 2]) rfl (rfl) ?_ noAtom ?_
      · subst hB; simp [AllOb, Ob.holds]
      · subst hB
        refine congrArg (fun b => AV.bool (.v b)) ?_
        unfold isRF
        rw [hd, hq, hr]
        first | (subst hk) | skip
        have hnx2 : eqL [.int .i64 nx.len, .int .u64 nx.bits] [.int .i64 (-1), .int .u64 0] = d := hnx
        simp_all [bareK, std, stdCmp, BE.den]
        try (cases d <;> cases q <;> simp_all <;> (by_cases h0 : mk = 0 <;> simp [h0]))
    · skip
      have hk2 : ¬ kd = 2 := by subst hB; simpa [std, stdCmp] using hb
      apply region_okB hB T15_ok [15, 1, 14] [1] [] hF
      case hex => intro A X; conv => lhs; cbv
      case hob =>
        intro X
        subst hB
        simp [AllOb, Ob.holds, BE.den, std, stdCmp, stdArith] <;> omega
      case hQ =>
      intro X5 a0 w1 hF
      refine test_ok hF rfl (fun hb hF => ?_) (fun hb hF => ?_)
      · skip
        have hk : kd = 4 := by subst hB; simpa [std, stdCmp] using hb
        refine wp_exit ?_
        refine wp_seq ?_
        refine wp_seq ?_
        apply drawn_okB hB (by kernel_rfl) T15_ok [2] [] [(7, .r fun _ => .agg [.int .i64 (-1), .int .u64 0])] hF rfl
        case hex => intro A X; conv => lhs; cbv
        case hD => kernel_rfl
        case hlen => rfl
        case hob =>
          intro X
          subst hB
          exact ⟨rfl, fun _ => rfl, fun _ => ⟨enters36, S1⟩, fun _ => ob_lab _ _ _ _, fun _ => rfl, trivial⟩
        case hQ =>
        intro X9 a0 w1 hF
        refine wp_ret ?_
        refine ret_spec (fn := Try.f15) T15_ok hF (rs := [.tmp 2]) rfl (rfl) ?_ noAtom ?_
        · subst hB; simp [AllOb, Ob.holds]
        · subst hB
          refine congrArg (fun b => AV.bool (.v b)) ?_
          unfold isRF
          rw [hd, hq, hr]
          first | (subst hk) | skip
          have hnx2 : eqL [.int .i64 nx.len, .int .u64 nx.bits] [.int .i64 (-1), .int .u64 0] = d := hnx
          simp_all [bareK, std, stdCmp, BE.den]
          try (cases d <;> cases q <;> simp_all <;> (by_cases h0 : mk = 0 <;> simp [h0]))
      · skip
        have hk4 : ¬ kd = 4 := by subst hB; simpa [std, stdCmp] using hb
        refine wp_skip ?_
        refine wp_seq ?_
        refine wp_seq ?_
        refine wp_seq ?_
        apply region_okB hB T15_ok [18, 1, 14] [1] [] hF
        case hex => intro A X; conv => lhs; cbv
        case hob =>
          intro X
          subst hB
          simp [AllOb, Ob.holds, BE.den, std, stdCmp, stdArith] <;> omega
        case hQ =>
        intro X6 a0 w1 hF
        refine test_keep hF (fun hb hF => ?_) (fun hb hF => ?_)
        · skip
          have hk : kd = 1 := by subst hB; simpa [std, stdCmp] using hb
          refine wp_skip ?_
          refine test_tt hF rfl (fun hF => ?_)
          refine wp_exit ?_
          refine wp_seq ?_
          apply region_okB hB T15_ok [40, 1] [1] [] hF
          case hex => intro A X; conv => lhs; cbv
          case hob =>
            intro X
            subst hB
            simp [AllOb, Ob.holds, BE.den, std, stdCmp, stdArith] <;> omega
          case hQ =>
          intro X10 a0 w1 hF
          refine test_ok hF rfl (fun hb hF => ?_) (fun hb hF => ?_)
          · skip
            have hm : ¬ mk = 0 := by subst hB; simpa [std, stdCmp] using hb
            refine wp_seq ?_
            apply region_okB hB T15_ok [2] [] [] hF
            case hex => intro A X; conv => lhs; cbv
            case hob =>
              intro X
              subst hB
              simp [AllOb, Ob.holds, BE.den, std, stdCmp, stdArith] <;> omega
            case hQ =>
            intro X11 a0 w1 hF
            refine wp_ret ?_
            refine ret_spec (fn := Try.f15) T15_ok hF (rs := [.tmp 2]) rfl (rfl) ?_ noAtom ?_
            · subst hB; simp [AllOb, Ob.holds]
            · subst hB
              refine congrArg (fun b => AV.bool (.v b)) ?_
              unfold isRF
              rw [hd, hq, hr]
              first | (subst hk) | skip
              have hnx2 : eqL [.int .i64 nx.len, .int .u64 nx.bits] [.int .i64 (-1), .int .u64 0] = d := hnx
              simp_all [bareK, std, stdCmp, BE.den]
              try (cases d <;> cases q <;> simp_all <;> (by_cases h0 : mk = 0 <;> simp [h0]))
          · skip
            have hm : mk = 0 := by subst hB; simpa [std, stdCmp] using hb
            refine wp_skip ?_
            refine wp_seq ?_
            refine wp_seq ?_
            apply region_okB hB T15_ok [2] [] [(2, .r fun _ => .bool (.v r))] hF
            case hex => intro A X; conv => lhs; cbv
            case hob =>
              intro X
              subst hB
              exact ⟨rfl, ⟨enters53, S3⟩, trivial⟩
            case hQ =>
            intro X12 a0 w1 hF
            refine wp_ret ?_
            refine ret_spec (fn := Try.f15) T15_ok hF (rs := [.tmp 2]) rfl (rfl) ?_ noAtom ?_
            · subst hB; simp [AllOb, Ob.holds]
            · subst hB
              refine congrArg (fun b => AV.bool (.v b)) ?_
              unfold isRF
              rw [hd, hq, hr]
              first | (subst hk) | skip
              have hnx2 : eqL [.int .i64 nx.len, .int .u64 nx.bits] [.int .i64 (-1), .int .u64 0] = d := hnx
              simp_all [bareK, std, stdCmp, BE.den]
              try (cases d <;> cases q <;> simp_all <;> (by_cases h0 : mk = 0 <;> simp [h0]))
        · skip
          have hk1 : ¬ kd = 1 := by subst hB; simpa [std, stdCmp] using hb
          apply region_okB hB T15_ok [18, 1, 14] [1] [] hF
          case hex => intro A X; conv => lhs; cbv
          case hob =>
            intro X
            subst hB
            simp [AllOb, Ob.holds, BE.den, std, stdCmp, stdArith] <;> omega
          case hQ =>
          intro X7 a0 w1 hF
          refine test_ok hF rfl (fun hb hF => ?_) (fun hb hF => ?_)
          · skip
            have hk : kd = 3 := by subst hB; simpa [std, stdCmp] using hb
            refine wp_exit ?_
            refine wp_seq ?_
            apply region_okB hB T15_ok [40, 1] [1] [] hF
            case hex => intro A X; conv => lhs; cbv
            case hob =>
              intro X
              subst hB
              simp [AllOb, Ob.holds, BE.den, std, stdCmp, stdArith] <;> omega
            case hQ =>
            intro X10 a0 w1 hF
            refine test_ok hF rfl (fun hb hF => ?_) (fun hb hF => ?_)
            · skip
              have hm : ¬ mk = 0 := by subst hB; simpa [std, stdCmp] using hb
              refine wp_seq ?_
              apply region_okB hB T15_ok [2] [] [] hF
              case hex => intro A X; conv => lhs; cbv
              case hob =>
                intro X
                subst hB
                simp [AllOb, Ob.holds, BE.den, std, stdCmp, stdArith] <;> omega
              case hQ =>
              intro X11 a0 w1 hF
              refine wp_ret ?_
              refine ret_spec (fn := Try.f15) T15_ok hF (rs := [.tmp 2]) rfl (rfl) ?_ noAtom ?_
              · subst hB; simp [AllOb, Ob.holds]
              · subst hB
                refine congrArg (fun b => AV.bool (.v b)) ?_
                unfold isRF
                rw [hd, hq, hr]
                first | (subst hk) | skip
                have hnx2 : eqL [.int .i64 nx.len, .int .u64 nx.bits] [.int .i64 (-1), .int .u64 0] = d := hnx
                simp_all [bareK, std, stdCmp, BE.den]
                try (cases d <;> cases q <;> simp_all <;> (by_cases h0 : mk = 0 <;> simp [h0]))
            · skip
              have hm : mk = 0 := by subst hB; simpa [std, stdCmp] using hb
              refine wp_skip ?_
              refine wp_seq ?_
              refine wp_seq ?_
              apply region_okB hB T15_ok [2] [] [(2, .r fun _ => .bool (.v r))] hF
              case hex => intro A X; conv => lhs; cbv
              case hob =>
                intro X
                subst hB
                exact ⟨rfl, ⟨enters53, S3⟩, trivial⟩
              case hQ =>
              intro X12 a0 w1 hF
              refine wp_ret ?_
              refine ret_spec (fn := Try.f15) T15_ok hF (rs := [.tmp 2]) rfl (rfl) ?_ noAtom ?_
              · subst hB; simp [AllOb, Ob.holds]
              · subst hB
                refine congrArg (fun b => AV.bool (.v b)) ?_
                unfold isRF
                rw [hd, hq, hr]
                first | (subst hk) | skip
                have hnx2 : eqL [.int .i64 nx.len, .int .u64 nx.bits] [.int .i64 (-1), .int .u64 0] = d := hnx
                simp_all [bareK, std, stdCmp, BE.den]
                try (cases d <;> cases q <;> simp_all <;> (by_cases h0 : mk = 0 <;> simp [h0]))
          · skip
            have hk3 : ¬ kd = 3 := by subst hB; simpa [std, stdCmp] using hb
            refine wp_skip ?_
            refine wp_seq ?_
            apply region_okB hB T15_ok [21, 1] [1] [] hF
            case hex => intro A X; conv => lhs; cbv
            case hob =>
              intro X
              subst hB
              simp [AllOb, Ob.holds, BE.den, std, stdCmp, stdArith] <;> omega
            case hQ =>
            intro X8 a0 w1 hF
            refine test_ok hF rfl (fun hb hF => ?_) (fun hb hF => ?_)
            · skip
              have hk : kd = 5 := by subst hB; simpa [std, stdCmp] using hb
              refine wp_exit ?_
              refine wp_seq ?_
              refine wp_seq ?_
              apply region_okB hB T15_ok [2] [] [(2, .r fun _ => .bool (.v r))] hF
              case hex => intro A X; conv => lhs; cbv
              case hob =>
                intro X
                subst hB
                exact ⟨rfl, ⟨enters53, S3⟩, trivial⟩
              case hQ =>
              intro X12 a0 w1 hF
              refine wp_ret ?_
              refine ret_spec (fn := Try.f15) T15_ok hF (rs := [.tmp 2]) rfl (rfl) ?_ noAtom ?_
              · subst hB; simp [AllOb, Ob.holds]
              · subst hB
                refine congrArg (fun b => AV.bool (.v b)) ?_
                unfold isRF
                rw [hd, hq, hr]
                first | (subst hk) | skip
                have hnx2 : eqL [.int .i64 nx.len, .int .u64 nx.bits] [.int .i64 (-1), .int .u64 0] = d := hnx
                simp_all [bareK, std, stdCmp, BE.den]
                try (cases d <;> cases q <;> simp_all <;> (by_cases h0 : mk = 0 <;> simp [h0]))
            · skip
              have hk5 : ¬ kd = 5 := by subst hB; simpa [std, stdCmp] using hb
              refine wp_skip ?_
              refine wp_exit ?_
              refine wp_seq ?_
              apply region_okB hB T15_ok [2] [] [] hF
              case hex => intro A X; conv => lhs; cbv
              case hob =>
                intro X
                subst hB
                simp [AllOb, Ob.holds, BE.den, std, stdCmp, stdArith] <;> omega
              case hQ =>
              intro X13 a0 w1 hF
              refine wp_ret ?_
              refine ret_spec (fn := Try.f15) T15_ok hF (rs := [.tmp 2]) rfl (rfl) ?_ noAtom ?_
              · subst hB; simp [AllOb, Ob.holds]
              · subst hB
                refine congrArg (fun b => AV.bool (.v b)) ?_
                unfold isRF
                rw [hd, hq, hr]
                first | (subst hk) | skip
                have hnx2 : eqL [.int .i64 nx.len, .int .u64 nx.bits] [.int .i64 (-1), .int .u64 0] = d := hnx
                simp_all [bareK, std, stdCmp, BE.den]
                try (cases d <;> cases q <;> simp_all <;> (by_cases h0 : mk = 0 <;> simp [h0]))
def T39 : List (Nat × TI) := [(3, ti3), (4, ti4)]
theorem T39_ok : TabOK Try.prog T39 := .cons t3 (.cons t4 (.nil))
theorem enters39 : Enters Try.prog 39 := fun _ _ => by kernel_rfl
theorem bare_s (k : Int) : Spec Try.prog 39 [.int .i64 k] (fun _ => .bool (.v (bareK k))) := by
  intro m w hm hargs
  refine enter hm hargs Try.func39 rfl (by simp [Try.ntmps39]) fun a0 hF => ?_
  simp only [Try.ntmps39, startT] at hF
  obtain ⟨B, hB⟩ : ∃ B, B = std := ⟨_, rfl⟩
  refine wp_seq ?_
  apply region_okB hB T39_ok [0] [] [] hF
  case hex => intro A X; conv => lhs; cbv
  case hob =>
    intro X
    subst hB
    simp [AllOb, Ob.holds, BE.den, std, stdCmp, stdArith] <;> omega
  case hQ =>
  intro X0 a0 w1 hF
  refine wp_seq ?_
  apply region_okB hB T39_ok [2] [] [] hF
  case hex => intro A X; conv => lhs; cbv
  case hob =>
    intro X
    subst hB
    simp [AllOb, Ob.holds, BE.den, std, stdCmp, stdArith] <;> omega
  case hQ =>
  intro X1 a0 w1 hF
  refine wp_ret ?_
  refine ret_spec (fn := Try.f39) T39_ok hF (rs := [.tmp 2]) rfl (rfl) ?_ noAtom ?_
  · subst hB; simp [AllOb, Ob.holds]
  · subst hB
    refine congrArg (fun b => AV.bool (.v b)) ?_
    simp only [std, stdCmp, BE.den, bareK]
    by_cases h1 : k = 2 <;> by_cases h2 : k = 4 <;> simp [h1, h2]
def T16 : List (Nat × TI) := [(3, ti3), (4, ti4), (9, ti9), (22, ti22), (23, ti23), (25, ti25), (27, ti27), (53, ti53)]
theorem T16_ok : TabOK Try.prog T16 := .cons t3 (.cons t4 (.cons t9 (.cons t22 (.cons t23 (.cons t25 (.cons t27 (.cons t53 (.nil))))))))
theorem enters16 : Enters Try.prog 16 := fun _ _ => by kernel_rfl
theorem risR_s (A : Option Addr) (n c : Nat) (f : Nat → Itm) (hn : n ≤ maxLen) (kd : Int) (nx : Lab) (mk : Int) (hv : U64 nx.bits) : Spec Try.prog 16 [recI A n c f kd nx mk] (fun _ => .bool (.v (isRF kd n f nx mk))) := by
  intro m w hm hargs
  have hmx : maxLen = 9223372036854775807 := rfl
  have S1 := rnone_s
  have S2 := risL_s nx hv
  have S3 := bare_s kd
  rw [isRF_ref]
  simp only [labAV] at S1 S2
  generalize hq : isL nx = q at S2 ⊢
  have hnx := eqL_lab nx noneL
  generalize hd : decide (nx = noneL) = d at hnx ⊢
  generalize hbk : bareK kd = bk at S3 ⊢
  have h16 : decide ((16 : Int) < (n : Int)) = decide (16 < n) := by by_cases h : 16 < n <;> simp [h] <;> omega
  have h00 : decide ((0 : Int) < (n : Int)) = decide (0 < n) := by by_cases h : 0 < n <;> simp [h] <;> omega
  refine enter hm hargs Try.func16 rfl (by simp [Try.ntmps16]) fun a0 hF => ?_
  simp only [Try.ntmps16, startT] at hF
  obtain ⟨B, hB⟩ : ∃ B, B = std := ⟨_, rfl⟩
  refine wp_seq ?_
  apply region_okB hB T16_ok [1] [1] [] hF
  case hex => intro A X; conv => lhs; cbv
  case hob =>
    intro X
    subst hB
    simp [AllOb, Ob.holds, BE.den, std, stdCmp, stdArith] <;> omega
  case hQ =>
  intro X0 a0 w1 hF
  refine wp_seq ?_
  apply drawn_okB hB (by kernel_rfl) T16_ok [3, 1] [1] [(2, .r fun _ => .agg [.int .i64 (-1), .int .u64 0])] hF rfl
  case hex => intro A X; conv => lhs; cbv
  case hD => kernel_rfl
  case hlen => rfl
  case hob =>
    intro X
    subst hB
    exact ⟨rfl, ⟨enters41, S1⟩, ob_lab _ _ _ _, trivial⟩
  case hQ =>
  intro X1 a0 w1 hF
  replace hF := hF.head (v' := .bool (.v d)) (by subst hB; exact congrArg (fun b => AV.bool (.v b)) hnx)
  refine wp_seq ?_
  refine wp_seq ?_
  apply region_okB hB T16_ok [32, 1, 3] [1] [(20, .r fun _ => .bool (.v q))] hF
  case hex => intro A X; conv => lhs; cbv
  case hob =>
    intro X
    subst hB
    simp only [AllOb, Ob.holds, BE.den, List.mem_cons, List.not_mem_nil, or_false, forall_eq_or_imp, forall_eq]
    and_intros <;> first | trivial | (intro h; first | trivial | exact ⟨enters54, S2⟩)
  case hQ =>
  intro X2 a0 w1 hF
  refine test_ok hF rfl (fun hb hF => ?_) (fun hb hF => ?_)
  · skip
    have h9 : (if (if (if decide (kd < 1) = true then true else decide (5 < kd)) = true then true else decide ((16 : Int) < (n : Int))) = true then true else if (!d) = true then !q else false) = true := by subst hB; exact hb
    rw [h16, ite_or, ite_or, ite_or, ite_and] at h9
    refine wp_seq ?_
    apply region_okB hB T16_ok [2] [] [] hF
    case hex => intro A X; conv => lhs; cbv
    case hob =>
      intro X
      subst hB
      simp [AllOb, Ob.holds, BE.den, std, stdCmp, stdArith] <;> omega
    case hQ =>
    intro X3 a0 w1 hF
    refine wp_ret ?_
    refine ret_spec (fn := Try.f16) T16_ok hF (rs := [.tmp 2]) rfl (rfl) ?_ noAtom ?_
    · subst hB; simp [AllOb, Ob.holds]
    · subst hB
      refine congrArg (fun b => AV.bool (.v b)) ?_
      rw [h9]; rfl
  · skip
    have h9 : (if (if (if decide (kd < 1) = true then true else decide (5 < kd)) = true then true else decide ((16 : Int) < (n : Int))) = true then true else if (!d) = true then !q else false) = false := by subst hB; exact hb
    rw [h16, ite_or, ite_or, ite_or, ite_and] at h9
    refine wp_skip ?_
    refine wp_seq ?_
    refine wp_seq ?_
    apply region_okB hB T16_ok [55, 1] [1] [(11, .r fun _ => .bool (.v bk))] hF
    case hex => intro A X; conv => lhs; cbv
    case hob =>
      intro X
      subst hB
      simp only [AllOb, Ob.holds, BE.den, List.mem_cons, List.not_mem_nil, or_false, forall_eq_or_imp, forall_eq]
      and_intros <;> first | trivial | (intro h; first | trivial | exact ⟨enters39, S3⟩)
    case hQ =>
    intro X4 a0 w1 hF
    refine test_ok hF rfl (fun hb hF => ?_) (fun hb hF => ?_)
    · skip
      have h5 : (if (if (mk != 0) = true then (kd != 5) else false) = true then true else if bk = true then (if decide ((0 : Int) < (n : Int)) = true then true else !d) else false) = true := by subst hB; exact hb
      rw [h00, ite_or, ite_and, ite_and, ite_or] at h5
      refine wp_seq ?_
      apply region_okB hB T16_ok [2] [] [] hF
      case hex => intro A X; conv => lhs; cbv
      case hob =>
        intro X
        subst hB
        simp [AllOb, Ob.holds, BE.den, std, stdCmp, stdArith] <;> omega
      case hQ =>
      intro X5 a0 w1 hF
      refine wp_ret ?_
      refine ret_spec (fn := Try.f16) T16_ok hF (rs := [.tmp 2]) rfl (rfl) ?_ noAtom ?_
      · subst hB; simp [AllOb, Ob.holds]
      · subst hB
        refine congrArg (fun b => AV.bool (.v b)) ?_
        have hmk : (mk != 0) = !decide (mk = 0) := by by_cases h : mk = 0 <;> simp [h]
        have hkk : (kd != 5) = !decide (kd = 5) := by by_cases h : kd = 5 <;> simp [h]
        rw [hmk, hkk] at h5
        rw [h9, h5]; rfl
    · skip
      have h5 : (if (if (mk != 0) = true then (kd != 5) else false) = true then true else if bk = true then (if decide ((0 : Int) < (n : Int)) = true then true else !d) else false) = false := by subst hB; exact hb
      rw [h00, ite_or, ite_and, ite_and, ite_or] at h5
      refine wp_skip ?_
      refine wp_seq ?_
      refine wp_seq ?_
      apply region_okB hB T16_ok [4, 1] [1] [] hF
      case hex => intro A X; conv => lhs; cbv
      case hob =>
        intro X
        subst hB
        simp [AllOb, Ob.holds, BE.den, std, stdCmp, stdArith] <;> omega
      case hQ =>
      intro X6 a0 w1 hF
      refine wp_block ?_
      refine loop_pre (ι := Nat) (fun p => [(4, .int .i64 (p : Int))]) (fun p => []) (fun p => []) (fun p => p ≤ n ∧ okF f p = true) (fun p => n - p) 0 ⟨Nat.zero_le _, rfl⟩ hF ?_
      rintro i ⟨hi, hok⟩ a0 w1 hF
      try dsimp only at hi
      try dsimp only at hok
      refine wp_seq ?_
      refine wp_seq ?_
      apply region_okB hB T16_ok [60, 1, 4] [1] [] hF
      case hex => intro A X; conv => lhs; cbv
      case hob =>
        intro X
        subst hB; exact ⟨rfl, trivial⟩
      case hQ =>
      intro X7 a0 w1 hF
      refine test_ok hF rfl (fun hb hF => ?_) (fun hb hF => ?_)
      · skip
        have hin : i < n := by
          have : (i : Int) < (n : Int) := by subst hB; simpa [std, stdCmp] using hb
          omega
        have ht := okAt_test f i (by omega)
        refine wp_skip ?_
        refine wp_seq ?_
        refine wp_block ?_
        refine wp_seq ?_
        apply drawn_okB hB (by kernel_rfl) T16_ok [90, 1, 4] [1] [] hF rfl
        case hex => intro A X; conv => lhs; cbv
        case hD => kernel_rfl
        case hlen => rfl
        case hob =>
          intro X
          subst hB
          have hi0 : (0 : Int) ≤ (i : Int) ∧ (i : Int) < (n : Int) := ⟨by omega, by omega⟩
          have hix : (0 : Int) < (i : Int) → 0 ≤ IntKind.i64.wrap ((i : Int) - 1) ∧ IntKind.i64.wrap ((i : Int) - 1) < (n : Int) := fun h => by rw [wrap_in (by omega) (by omega)]; omega
          simp only [AllOb, Ob.holds, BE.den, List.mem_cons, List.not_mem_nil, or_false, forall_eq_or_imp, forall_eq]
          and_intros <;> first | trivial | exact hi0.1 | exact hi0.2 | (intro h; first | trivial | exact hi0 | exact hix (of_decide_eq_true h) | exact hix (of_decide_eq_true h.1))
        case hQ =>
        intro X9 a0 w1 hF
        refine test_ok hF rfl (fun hb hF => ?_) (fun hb hF => ?_)
        · skip
          have hat : okAt f i = false := by
            have h9 : (!okAt f i) = true := by subst hB; exact ht.symm.trans hb
            simpa using h9
          refine wp_seq ?_
          apply region_okB hB T16_ok [2] [] [] hF
          case hex => intro A X; conv => lhs; cbv
          case hob =>
            intro X
            subst hB
            simp [AllOb, Ob.holds, BE.den, std, stdCmp, stdArith] <;> omega
          case hQ =>
          intro X10 a0 w1 hF
          refine wp_ret ?_
          refine ret_spec (fn := Try.f16) T16_ok hF (rs := [.tmp 2]) rfl (rfl) ?_ noAtom ?_
          · subst hB; simp [AllOb, Ob.holds]
          · subst hB
            refine congrArg (fun b => AV.bool (.v b)) ?_
            rw [okF_false hin hat]; simp
        · skip
          have hat : okAt f i = true := by
            have h9 : (!okAt f i) = false := by subst hB; exact ht.symm.trans hb
            simpa using h9
          refine wp_skip ?_
          apply region_okB hB T16_ok [4, 1] [1] [] hF
          case hex => intro A X; conv => lhs; cbv
          case hob =>
            intro X
            subst hB
            simp [AllOb, Ob.holds, BE.den, std, stdCmp, stdArith] <;> omega
          case hQ =>
          intro X8 a0 w1 hF
          have e : B.arith .add .i64 (i : Int) 1 = ((i + 1 : Nat) : Int) := by subst hB; exact wrap_succ (n := n) hin hn
          refine ⟨i + 1, ⟨by omega, by rw [okF_succ, hok, hat]; rfl⟩, by omega, by rw [← e]; exact hF⟩
      · skip
        have hout : i = n := by
          have : ¬ (i : Int) < (n : Int) := by subst hB; simpa [std, stdCmp] using hb
          omega
        refine wp_exit ?_
        refine wp_seq ?_
        apply region_okB hB T16_ok [2] [] [] hF
        case hex => intro A X; conv => lhs; cbv
        case hob =>
          intro X
          subst hB
          simp [AllOb, Ob.holds, BE.den, std, stdCmp, stdArith] <;> omega
        case hQ =>
        intro X11 a0 w1 hF
        refine wp_ret ?_
        refine ret_spec (fn := Try.f16) T16_ok hF (rs := [.tmp 2]) rfl (rfl) ?_ noAtom ?_
        · subst hB; simp [AllOb, Ob.holds]
        · subst hB
          refine congrArg (fun b => AV.bool (.v b)) ?_
          have hmk : (mk != 0) = !decide (mk = 0) := by by_cases h : mk = 0 <;> simp [h]
          have hkk : (kd != 5) = !decide (kd = 5) := by by_cases h : kd = 5 <;> simp [h]
          rw [hmk, hkk] at h5
          rw [hout] at hok
          rw [h9, h5, hok]; rfl
def T31 : List (Nat × TI) := [(3, ti3), (4, ti4), (22, ti22), (53, ti53)]
theorem T31_ok : TabOK Try.prog T31 := .cons t3 (.cons t4 (.cons t22 (.cons t53 (.nil))))
theorem enters31 : Enters Try.prog 31 := fun _ _ => by kernel_rfl
theorem same7_s (A : Option Addr) (n c : Nat) (f : Nat → Itm) (hn : n ≤ maxLen) (A2 : Option Addr) (n2 c2 : Nat) (f2 : Nat → Itm) : Spec Try.prog 31 [rowI A n c f, rowI A2 n2 c2 f2] (fun _ => .bool (.v (sameF n f n2 f2))) := by
  intro m w hm hargs
  have hmx : maxLen = 9223372036854775807 := rfl
  refine enter hm hargs Try.func31 rfl (by simp [Try.ntmps31]) fun a0 hF => ?_
  simp only [Try.ntmps31, startT] at hF
  obtain ⟨B, hB⟩ : ∃ B, B = std := ⟨_, rfl⟩
  refine wp_seq ?_
  apply region_okB hB T31_ok [0, 1] [] [] hF
  case hex => intro A X; conv => lhs; cbv
  case hob =>
    intro X
    subst hB
    simp [AllOb, Ob.holds, BE.den, std, stdCmp, stdArith] <;> omega
  case hQ =>
  intro X0 a0 w1 hF
  refine wp_seq ?_
  refine wp_seq ?_
  apply region_okB hB T31_ok [10, 0, 1] [] [] hF
  case hex => intro A X; conv => lhs; cbv
  case hob =>
    intro X
    subst hB
    simp [AllOb, Ob.holds, BE.den, std, stdCmp, stdArith] <;> omega
  case hQ =>
  intro X1 a0 w1 hF
  refine test_ok hF rfl (fun hb hF => ?_) (fun hb hF => ?_)
  · skip
    have hne : n ≠ n2 := by
      have : ¬ (n : Int) = (n2 : Int) := by subst hB; simpa [std, stdCmp] using hb
      omega
    refine wp_seq ?_
    apply region_okB hB T31_ok [4] [] [] hF
    case hex => intro A X; conv => lhs; cbv
    case hob =>
      intro X
      subst hB
      simp [AllOb, Ob.holds, BE.den, std, stdCmp, stdArith] <;> omega
    case hQ =>
    intro X2 a0 w1 hF
    refine wp_ret ?_
    refine ret_spec (fn := Try.f31) T31_ok hF (rs := [.tmp 4]) rfl (rfl) ?_ noAtom ?_
    · subst hB; simp [AllOb, Ob.holds]
    · subst hB
      refine congrArg (fun b => AV.bool (.v b)) ?_
      unfold sameF
      rw [decide_eq_false hne]; rfl
  · skip
    have hnn : n = n2 := by
      have : (n : Int) = (n2 : Int) := by subst hB; simpa [std, stdCmp] using hb
      omega
    refine wp_skip ?_
    refine wp_seq ?_
    refine wp_seq ?_
    apply region_okB hB T31_ok [5, 0, 1] [] [] hF
    case hex => intro A X; conv => lhs; cbv
    case hob =>
      intro X
      subst hB
      simp [AllOb, Ob.holds, BE.den, std, stdCmp, stdArith] <;> omega
    case hQ =>
    intro X3 a0 w1 hF
    refine wp_block ?_
    refine loop_pre (ι := Nat) (fun p => [(5, .int .i64 (p : Int))]) (fun p => []) (fun p => []) (fun p => p ≤ n ∧ ∀ i, i < p → f i = f2 i) (fun p => n - p) 0 ⟨Nat.zero_le _, fun i hi => absurd hi (Nat.not_lt_zero _)⟩ hF ?_
    rintro i ⟨hi, hall⟩ a0 w1 hF
    try dsimp only at hi
    try dsimp only at hall
    refine wp_seq ?_
    refine wp_seq ?_
    apply region_okB hB T31_ok [14, 0, 1, 5] [] [] hF
    case hex => intro A X; conv => lhs; cbv
    case hob =>
      intro X
      subst hB
      simp [AllOb, Ob.holds, BE.den, std, stdCmp, stdArith] <;> omega
    case hQ =>
    intro X4 a0 w1 hF
    refine test_ok hF rfl (fun hb hF => ?_) (fun hb hF => ?_)
    · skip
      have hin : i < n := by
        have : (i : Int) < (n : Int) := by subst hB; simpa [std, stdCmp] using hb
        omega
      refine wp_skip ?_
      refine wp_seq ?_
      refine wp_block ?_
      refine wp_seq ?_
      apply drawn_okB hB (by kernel_rfl) T31_ok [25, 0, 1, 5] [] [] hF rfl
      case hex => intro A X; conv => lhs; cbv
      case hD => kernel_rfl
      case hlen => rfl
      case hob =>
        intro X
        subst hB; exact ⟨⟨show (0 : Int) ≤ (i : Int) by omega, show (i : Int) < (n : Int) by omega⟩, ⟨show (0 : Int) ≤ (i : Int) by omega, show (i : Int) < (n2 : Int) by omega⟩, ob_itm _ _ _ _, trivial⟩
      case hQ =>
      intro X6 a0 w1 hF
      refine test_ok hF rfl (fun hb hF => ?_) (fun hb hF => ?_)
      · skip
        have hne : ¬ f i = f2 i := by
          have h9 : (!eqL (itC (f i)) (itC (f2 i))) = true := by subst hB; exact hb
          rw [eqL_itm] at h9; simpa using h9
        refine wp_seq ?_
        apply region_okB hB T31_ok [4] [] [] hF
        case hex => intro A X; conv => lhs; cbv
        case hob =>
          intro X
          subst hB
          simp [AllOb, Ob.holds, BE.den, std, stdCmp, stdArith] <;> omega
        case hQ =>
        intro X7 a0 w1 hF
        refine wp_ret ?_
        refine ret_spec (fn := Try.f31) T31_ok hF (rs := [.tmp 4]) rfl (rfl) ?_ noAtom ?_
        · subst hB; simp [AllOb, Ob.holds]
        · subst hB
          refine congrArg (fun b => AV.bool (.v b)) ?_
          rw [sameF_no hin hne]
      · skip
        have heq : f i = f2 i := by
          have h9 : (!eqL (itC (f i)) (itC (f2 i))) = false := by subst hB; exact hb
          rw [eqL_itm] at h9; simpa using h9
        refine wp_skip ?_
        apply region_okB hB T31_ok [5, 0, 1] [] [] hF
        case hex => intro A X; conv => lhs; cbv
        case hob =>
          intro X
          subst hB
          simp [AllOb, Ob.holds, BE.den, std, stdCmp, stdArith] <;> omega
        case hQ =>
        intro X5 a0 w1 hF
        have e : B.arith .add .i64 (i : Int) 1 = ((i + 1 : Nat) : Int) := by subst hB; exact wrap_succ (n := n) hin hn
        refine ⟨i + 1, ⟨by omega, fun j hj => ?_⟩, by omega, by rw [← e]; exact hF⟩
        by_cases hij : j = i
        · rw [hij]; exact heq
        · exact hall j (by omega)
    · skip
      have hout : i = n := by
        have : ¬ (i : Int) < (n : Int) := by subst hB; simpa [std, stdCmp] using hb
        omega
      refine wp_exit ?_
      refine wp_seq ?_
      apply region_okB hB T31_ok [4] [] [] hF
      case hex => intro A X; conv => lhs; cbv
      case hob =>
        intro X
        subst hB
        simp [AllOb, Ob.holds, BE.den, std, stdCmp, stdArith] <;> omega
      case hQ =>
      intro X8 a0 w1 hF
      refine wp_ret ?_
      refine ret_spec (fn := Try.f31) T31_ok hF (rs := [.tmp 4]) rfl (rfl) ?_ noAtom ?_
      · subst hB; simp [AllOb, Ob.holds]
      · subst hB
        refine congrArg (fun b => AV.bool (.v b)) ?_
        rw [hout] at hall
        rw [sameF_yes hnn hall]
def T17 : List (Nat × TI) := [(3, ti3), (4, ti4), (22, ti22), (23, ti23), (25, ti25), (27, ti27)]
theorem T17_ok : TabOK Try.prog T17 := .cons t3 (.cons t4 (.cons t22 (.cons t23 (.cons t25 (.cons t27 (.nil))))))
theorem enters17 : Enters Try.prog 17 := fun _ _ => by kernel_rfl
theorem same_s (A : Option Addr) (n c : Nat) (f : Nat → Itm) (hn : n ≤ maxLen) (kd : Int) (nx : Lab) (mk : Int) (A2 : Option Addr) (n2 c2 : Nat) (f2 : Nat → Itm) (kd2 : Int) (nx2 : Lab) (mk2 : Int) : Spec Try.prog 17 [recI A n c f kd nx mk, recI A2 n2 c2 f2 kd2 nx2 mk2] (fun _ => .bool (.v (sameRF kd n f nx mk kd2 n2 f2 nx2 mk2))) := by
  intro m w hm hargs
  have S := same7_s A n c f hn A2 n2 c2 f2
  unfold sameRF
  generalize sameF n f n2 f2 = q at S ⊢
  have hnx := eqL_lab nx nx2
  generalize decide (nx = nx2) = d at hnx ⊢
  refine enter hm hargs Try.func17 rfl (by simp [Try.ntmps17]) fun a0 hF => ?_
  simp only [Try.ntmps17, startT] at hF
  obtain ⟨B, hB⟩ : ∃ B, B = std := ⟨_, rfl⟩
  refine wp_seq ?_
  apply region_okB hB T17_ok [2, 3] [2, 3] [] hF
  case hex => intro A X; conv => lhs; cbv
  case hob =>
    intro X
    subst hB
    simp [AllOb, Ob.holds, BE.den, std, stdCmp, stdArith] <;> omega
  case hQ =>
  intro X0 a0 w1 hF
  refine wp_seq ?_
  apply region_okB hB T17_ok [4] [] [(10, .r fun _ => .bool (.v q))] hF
  case hex => intro A X; conv => lhs; cbv
  case hob =>
    intro X
    subst hB
    simp only [AllOb, Ob.holds, BE.den, List.mem_cons, List.not_mem_nil, or_false, forall_eq_or_imp, forall_eq]
    and_intros <;> first | trivial | (intro h; first | trivial | exact ⟨enters31, S⟩ | exact ob_lab _ _ _ _)
  case hQ =>
  intro X1 a0 w1 hF
  refine wp_ret ?_
  refine ret_spec (fn := Try.f17) T17_ok hF (rs := [.tmp 4]) rfl (rfl) ?_ noAtom ?_
  · subst hB; simp [AllOb, Ob.holds]
  · subst hB
    refine congrArg (fun b => AV.bool (.v b)) ?_
    show (if (if (if (kd == kd2) = true then q else false) = true then eqL [.int .i64 nx.len, .int .u64 nx.bits] [.int .i64 nx2.len, .int .u64 nx2.bits] else false) = true then (mk == mk2) else false) = _
    rw [hnx, ite_and, ite_and, ite_and]
    have h1 : (kd == kd2) = decide (kd = kd2) := by by_cases h : kd = kd2 <;> simp [h]
    have h2 : (mk == mk2) = decide (mk = mk2) := by by_cases h : mk = mk2 <;> simp [h]
    rw [h1, h2]
def T9 : List (Nat × TI) := [(3, ti3), (4, ti4), (9, ti9), (22, ti22), (27, ti27), (53, ti53)]
theorem T9_ok : TabOK Try.prog T9 := .cons t3 (.cons t4 (.cons t9 (.cons t22 (.cons t27 (.cons t53 (.nil))))))
theorem enters9 : Enters Try.prog 9 := fun _ _ => by kernel_rfl
theorem big_s (A : Option Addr) (n c : Nat) (f : Nat → Itm) (hn : n ≤ maxLen) (kd : Int) (nx : Lab) (mk : Int) : Spec Try.prog 9 [recI A n c f kd nx mk] (fun _ => .bool (.v (bigF n f))) := by
  intro m w hm hargs
  have hmx : maxLen = 9223372036854775807 := rfl
  refine enter hm hargs Try.func9 rfl (by simp [Try.ntmps9]) fun a0 hF => ?_
  simp only [Try.ntmps9, startT] at hF
  obtain ⟨B, hB⟩ : ∃ B, B = std := ⟨_, rfl⟩
  refine wp_seq ?_
  apply region_okB hB T9_ok [1] [1] [] hF
  case hex => intro A X; conv => lhs; cbv
  case hob =>
    intro X
    subst hB
    simp [AllOb, Ob.holds, BE.den, std, stdCmp, stdArith] <;> omega
  case hQ =>
  intro X0 a0 w1 hF
  refine wp_seq ?_
  apply region_okB hB T9_ok [1, 3] [1] [] hF
  case hex => intro A X; conv => lhs; cbv
  case hob =>
    intro X
    subst hB
    simp [AllOb, Ob.holds, BE.den, std, stdCmp, stdArith] <;> omega
  case hQ =>
  intro X1 a0 w1 hF
  refine wp_seq ?_
  refine wp_seq ?_
  apply region_okB hB T9_ok [3, 4, 1] [1] [] hF
  case hex => intro A X; conv => lhs; cbv
  case hob =>
    intro X
    subst hB
    simp [AllOb, Ob.holds, BE.den, std, stdCmp, stdArith] <;> omega
  case hQ =>
  intro X2 a0 w1 hF
  refine wp_block ?_
  refine loop_pre (ι := Nat × Int) (fun p => [(3, .int .i64 p.2), (4, .int .i64 (p.1 : Int))]) (fun p => []) (fun p => []) (fun p => p.1 ≤ n ∧ p.2 = sumF f p.1) (fun p => n - p.1) (0, 0) ⟨Nat.zero_le _, rfl⟩ hF ?_
  rintro ⟨i, x⟩ ⟨hi, hx⟩ a0 w1 hF
  try dsimp only at hi
  try dsimp only at hx
  refine wp_seq ?_
  refine wp_seq ?_
  apply region_okB hB T9_ok [15, 1, 3, 4] [1] [] hF
  case hex => intro A X; conv => lhs; cbv
  case hob =>
    intro X
    subst hB
    simp only [AllOb, Ob.holds, BE.den, List.mem_cons, List.not_mem_nil, or_false, forall_eq_or_imp, forall_eq]
    and_intros <;> first | trivial | (intro h; trivial)
  case hQ =>
  intro X3 a0 w1 hF
  refine test_ok hF rfl (fun hb hF => ?_) (fun hb hF => ?_)
  · skip
    have h9 : (if decide ((i : Int) < (n : Int)) = true then decide ((n : Int) ≤ 40) else false) = true := by subst hB; exact hb
    have hin : i < n := by
      have : (i : Int) < (n : Int) ∧ (n : Int) ≤ 40 := by simpa using h9
      omega
    refine wp_skip ?_
    refine wp_seq ?_
    refine wp_block ?_
    apply region_okB hB T9_ok [1, 3, 4] [1] [] hF
    case hex => intro A X; conv => lhs; cbv
    case hob =>
      intro X
      subst hB; exact ⟨rfl, ⟨show (0 : Int) ≤ (i : Int) by omega, show (i : Int) < (n : Int) by omega⟩, trivial⟩
    case hQ =>
    intro X5 a0 w1 hF
    apply region_okB hB T9_ok [3, 4, 1] [1] [] hF
    case hex => intro A X; conv => lhs; cbv
    case hob =>
      intro X
      subst hB
      simp [AllOb, Ob.holds, BE.den, std, stdCmp, stdArith] <;> omega
    case hQ =>
    intro X4 a0 w1 hF
    have e : B.arith .add .i64 (i : Int) 1 = ((i + 1 : Nat) : Int) := by subst hB; exact wrap_succ (n := n) hin hn
    refine ⟨(i + 1, B.arith .add .i64 x (B.ofNat (B.slen (f (B.toNat (i : Int))).val))), ⟨by simp only; omega, ?_⟩, by simp only; omega, by rw [← e]; exact hF⟩
    subst hB; rw [hx]; rfl
  · skip
    have h9 : (if decide ((i : Int) < (n : Int)) = true then decide ((n : Int) ≤ 40) else false) = false := by subst hB; exact hb
    have hout : n ≤ 40 → i = n := by
      intro h40
      have : (i : Int) < (n : Int) → (40 : Int) < (n : Int) := by simpa using h9
      omega
    refine wp_exit ?_
    refine wp_seq ?_
    apply region_okB hB T9_ok [2] [] [] hF
    case hex => intro A X; conv => lhs; cbv
    case hob =>
      intro X
      subst hB
      simp only [AllOb, Ob.holds, BE.den, List.mem_cons, List.not_mem_nil, or_false, forall_eq_or_imp, forall_eq]
      and_intros <;> first | trivial | (intro h; trivial)
    case hQ =>
    intro X6 a0 w1 hF
    refine wp_ret ?_
    refine ret_spec (fn := Try.f9) T9_ok hF (rs := [.tmp 2]) rfl (rfl) ?_ noAtom ?_
    · subst hB; simp [AllOb, Ob.holds]
    · subst hB
      refine congrArg (fun b => AV.bool (.v b)) ?_
      show (if decide ((40 : Int) < (n : Int)) = true then true else decide (8000 < x)) = _
      rw [ite_or]
      unfold bigF
      by_cases h4 : n ≤ 40
      · rw [hout h4] at hx
        rw [hx, decide_eq_false (show ¬ (40 : Int) < (n : Int) by omega), decide_eq_false (show ¬ 40 < n by omega)]
      · rw [decide_eq_true (show (40 : Int) < (n : Int) by omega), decide_eq_true (show 40 < n by omega)]; rfl
end Go.Proofs.Ytkamdppnnhjajaa.Sym
