/-
  The statement CellRises (printed by a program of mine). Conditions: fewer marks than a thousand million.
-/
import Derived.Test.YtfddpcmlmcohjaaSymDo
import Derived.Test.YtfddpcmlmcohjaaSymOwn17
import Derived.Test.YtfddpcmlmcohjaaLaw17c
namespace Go.Proofs.Ytfddpcmlmcohjaa.Sym
open Go Go.RowKit
set_option maxRecDepth 100000
set_option linter.unusedVariables false
set_option linter.unusedSimpArgs false
theorem doC_len (c : Cel) (o : Opr) : (doC c o).1.marks.length ≤ c.marks.length + 1 := by
  have h : ∀ m, (putM c.marks m).length ≤ c.marks.length + 1 := fun m => putM_length _ _
  unfold doC writeC
  split
  · simp [zeroCel]
  · split
    · simp
    · split
      · split <;> exact h _
      · split
        · simp
        · split
          · simp
          · split <;> exact h _
theorem enters25 : Enters Try.prog 25 := fun _ _ => by kernel_rfl
def T7 : List (Nat × TI) := [(3, ti3), (4, ti4), (9, ti9), (23, ti23), (26, ti26), (39, ti39), (41, ti41), (43, ti43), (47, ti47), (55, ti55)]
theorem T7_ok : TabOK Try.prog T7 := .cons t3 (.cons t4 (.cons t9 (.cons t23 (.cons t26 (.cons t39 (.cons t41 (.cons t43 (.cons t47 (.cons t55 (.nil))))))))))
theorem enters7 : Enters Try.prog 7 := fun _ _ => by kernel_rfl
theorem lawRises_s (A1 : Option Addr) (k1 : Nat) (a : Cel) (o : Opr) : Spec Try.prog 7 [celAV A1 k1 a, opAV o] (fun _ => .bool .tt) := by
  intro m w hm hargs
  have SB := big_s A1 k1 a
  have SD := do_s A1 k1 a o
  have SI := isC_s A1 k1 a
  have SIO := isO_s o
  have H := rises a o
  have hlen := doC_len a o
  obtain ⟨⟨b, x, p, e⟩, hdo⟩ : ∃ r, doC a o = r := ⟨_, rfl⟩
  rw [hdo] at SD H hlen
  simp only at hlen
  obtain ⟨n1, f1, ho1, hn1, hf1⟩ := marks_open a.marks
  obtain ⟨nb, f5, ho5, hn5, hf5⟩ := marks_open b.marks
  simp only [celAV, opAV, ho1, ho5] at hargs SB SD SI SIO ⊢
  generalize hba : bigF a = ba at SB
  generalize hia : decide (IsC a) = ia at SI
  generalize hib : decide (IsO o) = ib at SIO
  refine enter hm hargs Try.func7 rfl (by simp [Try.ntmps7]) fun a0 hF => ?_
  simp only [Try.ntmps7, startT] at hF
  refine wp_seq ?_
  apply region_ok T7_ok [2, 3] [2, 3] [] hF
  case hex => intro A X; conv => lhs; cbv
  case hob =>
    intro X
    refine ob_split ?_
    simp [AllOb, Ob.holds, BE.den, std, stdCmp, stdArith] <;> omega
  case hQ =>
  intro X0 a0 w1 hF
  refine wp_seq ?_
  refine wp_seq ?_
  apply region_ok T7_ok [22, 2, 3] [2, 3] [(1, fun _ => .bool (.v ba))] hF
  case hex => intro A X; conv => lhs; cbv
  case hob =>
    intro X
    exact ⟨rfl, ⟨enters21, SB⟩, fun _ => rfl, trivial⟩
  case hQ =>
  intro X1 a0 w1 hF
  refine test_ok hF rfl (fun hb hF => ?_) (fun hb hF => ?_)
  · skip
    refine wp_seq ?_
    apply region_ok T7_ok [4] [] [] hF
    case hex => intro A X; conv => lhs; cbv
    case hob =>
      intro X
      refine ob_split ?_
      simp [AllOb, Ob.holds, BE.den, std, stdCmp, stdArith] <;> omega
    case hQ =>
    intro X2 a0 w1 hF
    refine wp_ret ?_
    refine ret_spec (fn := Try.f7) T7_ok hF (rs := [.tmp 4]) rfl (rfl) ?_ noAtom ?_
    · simp [AllOb, Ob.holds]
    · rfl
  · skip
    have hl1 : a.marks.length ≤ 80 := by
      refine big_le (hba.trans ?_)
      cases ba
      · rfl
      · simp [std] at hb
    refine wp_skip ?_
    refine wp_seq ?_
    apply region_ok T7_ok [2, 3, 5, 6, 7, 8] [2, 3, 5, 6] [(2, fun y => .tup [.agg [.int .u64 b.version, .bool (.v b.has), .str b.val, rowM none (y.A 0) nb (y.c 0) f5], .agg [.int .i64 x.code, .int .u64 x.version, .bool (.v x.has), .str x.val], .bool (.v p), .int .i64 e])] hF
    case hex => intro A X; conv => lhs; cbv
    case hob =>
      intro X
      exact ⟨rfl, rfl, ⟨enters23, SD (by omega)⟩, rfl, rfl, trivial⟩
    case hQ =>
    intro X3 a0 w1 hF
    refine wp_seq ?_
    refine wp_seq ?_
    apply region_ok T7_ok [32, 2, 3, 5, 6, 7] [2, 3, 5, 6] [] hF
    case hex => intro A X; conv => lhs; cbv
    case hob =>
      intro X
      refine ob_split ?_
      simp [AllOb, Ob.holds, BE.den, std, stdCmp, stdArith] <;> omega
    case hQ =>
    intro X4 a0 w1 hF
    refine test_ok hF rfl (fun hb hF => ?_) (fun hb hF => ?_)
    · skip
      rcases H with ⟨h, hn⟩ | ⟨a2, x2, p2, h, _⟩
      case inr => exfalso; simp only [Prod.mk.injEq] at h; have := h.2.2.2; subst this; simp [std, stdCmp] at hb
      obtain ⟨rfl, rfl, rfl, rfl⟩ : b = zeroCel ∧ x = zeroAns ∧ p = false ∧ e = 1 := by simpa using h
      have hn2 : ia = false ∨ ib = false := by
        rw [← hia, ← hib]; by_cases h1 : IsC a <;> by_cases h2 : IsO o <;> simp_all
      refine wp_seq ?_
      apply region_ok T7_ok [4] [] [(0, fun _ => .bool .tt), (3, fun _ => .bool (.v ia)), (7, fun _ => .bool (.v ib))] hF
      case hex => intro A X; conv => lhs; cbv
      case hob =>
        intro X
        exact ⟨⟨enters25, celled_s⟩, rfl, ⟨enters26, SI (by omega)⟩, fun _ => rfl, fun _ => ⟨enters28, SIO⟩, trivial⟩
      case hQ =>
      intro X5 a0 w1 hF
      refine wp_ret ?_
      refine ret_spec (fn := Try.f7) T7_ok hF (rs := [.tmp 4]) rfl (rfl) ?_ noAtom ?_
      · simp [AllOb, Ob.holds]
      · refine congrArg (fun b => AV.bool (.v b)) ?_
        rcases hn2 with h | h <;> simp [std, h] <;> (cases ia <;> cases ib <;> simp_all [std])
    · skip
      rcases H with ⟨h, hn⟩ | ⟨a2, x2, p2, h, hg, hIb, hIa, hpt, hpf, hst⟩
      case inl => exfalso; simp only [Prod.mk.injEq] at h; have := h.2.2.2; subst this; simp [std, stdCmp] at hb
      simp only [Prod.mk.injEq] at h
      obtain ⟨rfl, rfl, rfl, rfl⟩ := h
      have S7 : ∀ B K, Spec Try.prog 23 [.agg [.int .u64 b.version, .bool (.v b.has), .str b.val, rowM none B nb K f5], .agg [.int .i64 0, .int .u64 0, .int .i64 1, .int .u64 0, .str ByteArray.empty]] (fun y => .tup [.agg [.int .u64 b.version, .bool (.v b.has), .str b.val, rowM none (y.A 0) nb (y.c 0) f5], .agg [.int .i64 0, .int .u64 b.version, .bool (.v b.has), .str b.val], .bool .ff, .int .i64 0]) := by
        intro B K
        have := do_s B K b getO (by omega)
        rw [hg] at this
        simp only [celAV, ho5] at this
        exact this.res fun y => Sim.tup ⟨Sim.refl _, Sim.refl _, Sim.bool rfl, Sim.refl _, trivial⟩
      have S8 : ∀ B K, Spec Try.prog 26 [.agg [.int .u64 b.version, .bool (.v b.has), .str b.val, rowM none B nb K f5]] (fun _ => .bool .tt) := by
        intro B K
        have := isC_s B K b (by omega)
        rw [decide_eq_true hIb] at this
        simp only [celAV, ho5] at this
        exact this.res fun y => Sim.bool rfl
      refine wp_skip ?_
      refine wp_seq ?_
      apply region_ok T7_ok [2, 3, 5, 6, 7, 10, 11, 12] [2, 3, 5, 6, 10] [(2, fun y => .tup [.agg [.int .u64 b.version, .bool (.v b.has), .str b.val, rowM none (y.A 0) nb (y.c 0) f5], .agg [.int .i64 0, .int .u64 b.version, .bool (.v b.has), .str b.val], .bool .ff, .int .i64 0])] hF
      case hex => intro A X; conv => lhs; cbv
      case hob =>
        intro X
        exact ⟨rfl, ⟨enters23, S7 _ _⟩, rfl, rfl, trivial⟩
      case hQ =>
      intro X6 a0 w1 hF
      refine wp_seq ?_
      refine wp_seq ?_
      apply region_ok T7_ok [130, 2, 3, 5] [2, 3, 5] [(7, fun _ => .bool .tt)] hF
      case hex => intro A X; conv => lhs; cbv
      case hob =>
        intro X
        have K : ∀ A K, Enters Try.prog 26 ∧ _ := fun A K => ⟨enters26, S8 A K⟩
        repeat' (first | exact trivial | exact rfl | exact fun _ => rfl | exact fun _ => K _ _ | refine And.intro ?_ ?_)
      case hQ =>
      intro X7 a0 w1 hF
      refine test_ok hF rfl (fun hb hF => ?_) (fun hb hF => ?_)
      · exfalso
        cases p
        · obtain ⟨g1, g2, g3⟩ := hpf rfl
          simp [std, stdCmp, stdScmp, g1, g2, g3] at hb
        · obtain ⟨g1, g2, g3, g4, g5⟩ := hpt rfl
          have g6 : IntKind.u64.wrap (a.version + 1) = b.version := g1.symm
          simp [std, stdCmp, stdScmp, stdArith, g2, g3, g4, g5, g6] at hb
      · skip
        refine wp_skip ?_
        refine wp_seq ?_
        apply region_ok T7_ok [13, 2, 3, 5] [2, 3, 5] [] hF
        case hex => intro A X; conv => lhs; cbv
        case hob =>
          intro X
          refine ob_split ?_
          simp [AllOb, Ob.holds, BE.den, std, stdCmp, stdArith] <;> omega
        case hQ =>
        intro X9 a0 w1 hF
        refine wp_seq ?_
        refine wp_seq ?_
        apply region_ok T7_ok [13, 14, 2, 3, 5] [2, 3, 5] [] hF
        case hex => intro A X; conv => lhs; cbv
        case hob =>
          intro X
          refine ob_split ?_
          simp [AllOb, Ob.holds, BE.den, std, stdCmp, stdArith] <;> omega
        case hQ =>
        intro X10 a0 w1 hF
        refine wp_block ?_
        refine loop_pre (ι := Nat × Nat) (fun p => [(13, .int .i64 (p.2 : Int)), (14, .int .i64 (p.1 : Int))]) (fun p => []) (fun p => []) (fun p => p.1 ≤ n1 ∧ p.2 ≤ nb ∧ From a.marks b.marks o.client p.1 p.2) (fun p => n1 - p.1) (0, 0) ⟨Nat.zero_le _, Nat.zero_le _, from_zero hst 0⟩ hF ?_
        rintro ⟨i, j0⟩ ⟨hi, hj0, hfr0⟩ a0 w1 hF
        refine wp_seq ?_
        refine wp_seq ?_
        apply region_ok T7_ok [135, 13, 14, 2, 3, 5] [2, 3, 5] [] hF
        case hex => intro A X; conv => lhs; cbv
        case hob =>
          intro X
          refine ob_split ?_
          simp [AllOb, Ob.holds, BE.den, std, stdCmp, stdArith] <;> omega
        case hQ =>
        intro X11 a0 w1 hF
        refine test_ok hF rfl (fun hb hF => ?_) (fun hb hF => ?_)
        · skip
          have hin : i < n1 := by simpa [std, stdCmp] using hb
          have hxi : a.marks[i]? = some (f1 i) := by rw [hf1]; simp [List.getD, show i < a.marks.length by omega]
          have e := wrap_succ (k := i) (n := n1) hin (by simp only [maxLen]; omega)
          refine wp_skip ?_
          refine wp_seq ?_
          refine wp_block ?_
          refine wp_seq ?_
          refine wp_block ?_
          refine loop_pre (ι := Nat) (fun p => [(13, .int .i64 (p : Int))]) (fun p => []) (fun p => []) (fun p => p ≤ nb ∧ From a.marks b.marks o.client i p) (fun p => nb - p) j0 ⟨hj0, hfr0⟩ hF ?_
          rintro j ⟨hjn, hfr⟩ a0 w1 hF
          refine wp_seq ?_
          refine wp_seq ?_
          apply drawn_ok (by kernel_rfl) T7_ok [157, 13, 14, 2, 3, 5] [2, 3, 5] [] hF rfl
          case hex => intro A X; conv => lhs; cbv
          case hD => kernel_rfl
          case hlen => rfl
          case hob =>
            intro X
            have hidx : decide (Int.ofNat j < (nb : Int)) = true → 0 ≤ Int.ofNat j ∧ Int.ofNat j < (nb : Int) := fun h => ⟨Int.natCast_nonneg _, of_decide_eq_true h⟩
            have hidy : 0 ≤ Int.ofNat i ∧ Int.ofNat i < (n1 : Int) := ⟨Int.natCast_nonneg _, Int.ofNat_lt.2 hin⟩
            repeat' (first | exact trivial | exact rfl | exact fun _ => rfl | exact fun _ => hidy | exact fun h => hidx (h _ (List.mem_singleton.2 rfl)) | refine And.intro ?_ ?_)
          case hQ =>
          intro X13 a0 w1 hF
          refine test_ok hF rfl (fun hb hF => ?_) (fun hb hF => ?_)
          · skip
            have hj2 : j < nb ∧ (f5 j).client < (f1 i).client := by
              have : (if decide ((j : Int) < (nb : Int)) = true then decide ((f5 j).client < (f1 i).client) else false) = true := hb
              by_cases h : j < nb
              · simpa [h] using this
              · simp [h] at this
            have hyj : b.marks[j]? = some (f5 j) := by rw [hf5]; simp [List.getD, show j < b.marks.length by omega]
            have e2 := wrap_succ (k := j) (n := nb) hj2.1 (by simp only [maxLen]; omega)
            refine wp_skip ?_
            refine wp_block ?_
            apply region_ok T7_ok [13, 14, 2, 3, 5] [2, 3, 5] [] hF
            case hex => intro A X; conv => lhs; cbv
            case hob =>
              intro X
              refine ob_split ?_
              simp [AllOb, Ob.holds, BE.den, std, stdCmp, stdArith] <;> omega
            case hQ =>
            intro X14 a0 w1 hF
            refine ⟨j + 1, ⟨by omega, from_step hxi hyj hfr hj2.2⟩, by omega, ?_⟩
            rw [← e2]; exact hF
          · skip
            have hge : ∀ y, b.marks[j]? = some y → ¬ y.client < (f1 i).client := by
              intro y hy hlt
              obtain ⟨hjl, rfl⟩ := List.getElem?_eq_some_iff.1 hy
              have : (if decide ((j : Int) < (nb : Int)) = true then decide ((f5 j).client < (f1 i).client) else false) = false := hb
              have hjn : (j : Int) < (nb : Int) := by omega
              have hfj : f5 j = b.marks[j] := by rw [hf5]; simp [List.getD, hjl]
              rw [hfj] at this
              simp [hjn, hlt] at this
            obtain ⟨y, hy, hyc, hyn⟩ := from_here hIb.1.1 hxi hfr hge
            have hj : j < nb := by rw [hn5]; exact (List.getElem?_eq_some_iff.1 hy).1
            have hfj : f5 j = y := by rw [hf5]; simp [List.getD, hy]
            refine wp_exit ?_
            refine wp_seq ?_
            apply drawn_ok (by kernel_rfl) T7_ok [203, 13, 14, 2, 3, 5] [2, 3, 5] [] hF rfl
            case hex => intro A X; conv => lhs; cbv
            case hD => kernel_rfl
            case hlen => rfl
            case hob =>
              intro X
              have hidx : 0 ≤ Int.ofNat j ∧ Int.ofNat j < (nb : Int) := ⟨Int.natCast_nonneg _, Int.ofNat_lt.2 hj⟩
              have hidy : 0 ≤ Int.ofNat i ∧ Int.ofNat i < (n1 : Int) := ⟨Int.natCast_nonneg _, Int.ofNat_lt.2 hin⟩
              repeat' (first | exact trivial | exact rfl | exact fun _ => rfl | exact fun _ => hidy | exact fun _ => hidx | exact fun _ => ob_mark (f5 j) (f1 i) | refine And.intro ?_ ?_)
            case hQ =>
            intro X15 a0 w1 hF
            refine test_ok hF rfl (fun hb hF => ?_) (fun hb hF => ?_)
            · exfalso
              have hb2 : (if (if decide ((j : Int) ≥ (nb : Int)) = true then true else ((f5 j).client != (f1 i).client)) = true then true else (if ((f1 i).client != o.client) = true then !eqL (markC (f5 j)) (markC (f1 i)) else false)) = true := hb
              rw [eqL_mark, hfj] at hb2
              have hj3 : ¬ (nb : Int) ≤ (j : Int) := by omega
              by_cases hcl : (f1 i).client = o.client <;> simp [hyc, hcl, hj3, hyn] at hb2
            · skip
              refine wp_skip ?_
              apply region_ok T7_ok [13, 14, 2, 3, 5] [2, 3, 5] [] hF
              case hex => intro A X; conv => lhs; cbv
              case hob =>
                intro X
                refine ob_split ?_
                simp [AllOb, Ob.holds, BE.den, std, stdCmp, stdArith] <;> omega
              case hQ =>
              intro X12 a0 w1 hF
              refine ⟨(i + 1, j), ⟨by omega, by omega, from_next hIa.1.1 hIb.1.1 hst hxi hy hyc⟩, by simp only; omega, ?_⟩
              rw [← e]; exact hF
        · skip
          refine wp_exit ?_
          refine wp_seq ?_
          apply region_ok T7_ok [4] [] [(0, fun _ => .bool .tt)] hF
          case hex => intro A X; conv => lhs; cbv
          case hob =>
            intro X
            exact ⟨⟨enters25, celled_s⟩, trivial⟩
          case hQ =>
          intro X17 a0 w1 hF
          refine wp_ret ?_
          refine ret_spec (fn := Try.f7) T7_ok hF (rs := [.tmp 4]) rfl (rfl) ?_ noAtom ?_
          · simp [AllOb, Ob.holds]
          · rfl
end Go.Proofs.Ytfddpcmlmcohjaa.Sym
