/-
  The document's Merge of cells (printed by a program of mine). Conditions: fewer marks than a thousand million.
-/
import Derived.Test.YtfddpcmlmcohjaaSymCel
namespace Go.Proofs.Ytfddpcmlmcohjaa.Sym
open Go Go.RowKit
set_option maxRecDepth 100000
set_option linter.unusedVariables false
set_option linter.unusedSimpArgs false
theorem enters27 : Enters Try.prog 27 := fun _ _ => by kernel_rfl
theorem enters44 : Enters Try.prog 44 := fun _ _ => by kernel_rfl
theorem enters45 : Enters Try.prog 45 := fun _ _ => by kernel_rfl
theorem stepM_if (a o : List Mark) (m : Mark) : stepM a o m = if (if (!(ofM a m.client).isSome) = true then true else decide (((ofM a m.client).getD zeroMark).req < m.req)) = true then putM o m else o := by
  unfold stepM
  cases ofM a m.client with
  | none => simp
  | some x => simp
def T32 : List (Nat × TI) := [(3, ti3), (4, ti4), (9, ti9), (23, ti23), (26, ti26), (39, ti39), (41, ti41), (55, ti55)]
theorem T32_ok : TabOK Try.prog T32 := .cons t3 (.cons t4 (.cons t9 (.cons t23 (.cons t26 (.cons t39 (.cons t41 (.cons t55 (.nil))))))))
theorem enters32 : Enters Try.prog 32 := fun _ _ => by kernel_rfl
theorem rmer_s (A1 : Option Addr) (k1 : Nat) (a : Cel) (A2 : Option Addr) (k2 : Nat) (b : Cel) (hsa : a.marks.length < 1000000000) (hsb : b.marks.length < 1000000000) : Spec Try.prog 32 [celAV A1 k1 a, celAV A2 k2 b] (fun x => .tup [celAV (x.A 0) (x.c 0) (mergeC a b).1, .int .i64 (mergeC a b).2]) := by
  intro m w hm hargs
  have hoa := hargs (celAV A1 k1 a) (by simp)
  have hob := hargs (celAV A2 k2 b) (by simp)
  have hma := ok_agg hoa (marksAV A1 k1 a.marks) (by simp)
  have hmb := ok_agg hob (marksAV A2 k2 b.marks) (by simp)
  obtain ⟨hl1, hc1⟩ := ok_len hma
  obtain ⟨hl2, hc2⟩ := ok_len hmb
  have S1 := risC_s A1 k1 a (by omega)
  have S2 := risC_s A2 k2 b (by omega)
  have S3 := fun cl => rof_s A1 k1 a.marks cl (by omega)
  obtain ⟨n1, f1, ho1, hn1, hf1⟩ := marks_open a.marks
  obtain ⟨n2, f2, ho2, hn2, hf2⟩ := marks_open b.marks
  have e1 : celAV A1 k1 a = .agg [.int .u64 a.version, .bool (.v a.has), .str a.val, rowM none A1 n1 k1 f1] := by simp only [celAV, ho1]
  have e2 : celAV A2 k2 b = .agg [.int .u64 b.version, .bool (.v b.has), .str b.val, rowM none A2 n2 k2 f2] := by simp only [celAV, ho2]
  rw [e1] at S1
  rw [e2] at S2
  rw [e1, e2] at hargs ⊢
  simp only [ho1] at S3
  generalize hia : decide (IsC a) = ia at S1
  generalize hib : decide (IsC b) = ib at S2
  refine enter hm hargs Try.func32 rfl (by simp [Try.ntmps32]) fun a0 hF => ?_
  simp only [Try.ntmps32, startT] at hF
  refine wp_seq ?_
  apply region_ok T32_ok [2, 3, 4] [2, 3, 4] [] hF
  case hex => intro A X; conv => lhs; cbv
  case hob =>
    intro X
    refine ob_split ?_
    simp [AllOb, Ob.holds, BE.den, std, stdCmp, stdArith] <;> omega
  case hQ =>
  intro X0 a0 w1 hF
  refine wp_seq ?_
  refine wp_seq ?_
  apply region_ok T32_ok [17, 2, 3, 4] [2, 3, 4] [(1, fun _ => .bool (.v ia)), (5, fun _ => .bool (.v ib))] hF
  case hex => intro A X; conv => lhs; cbv
  case hob =>
    intro X
    exact ⟨rfl, ⟨enters27, S1⟩, fun _ => rfl, fun _ => ⟨enters27, S2⟩, trivial⟩
  case hQ =>
  intro X1 a0 w1 hF
  refine test_ok hF rfl (fun hb hF => ?_) (fun hb hF => ?_)
  · skip
    have hr : mergeC a b = (zeroCel, 1) := by
      unfold mergeC
      rw [if_pos]
      intro h
      have h1 : ia = true := by rw [← hia]; exact decide_eq_true h.1
      have h2 : ib = true := by rw [← hib]; exact decide_eq_true h.2
      simp [std, h1, h2] at hb
    refine wp_seq ?_
    apply region_ok T32_ok [4, 5] [4] [] hF
    case hex => intro A X; conv => lhs; cbv
    case hob =>
      intro X
      refine ob_split ?_
      simp [AllOb, Ob.holds, BE.den, std, stdCmp, stdArith] <;> omega
    case hQ =>
    intro X2 a0 w1 hF
    refine wp_ret ?_
    refine ret_sim (fn := Try.f32) T32_ok hF (rs := [.cell 4 41, .tmp 5]) rfl (by conv => lhs; cbv) ?_ noAtom ?_
    · simp [AllOb, Ob.holds]
    · simp only [hr]; exact Sim.tup ⟨Sim.agg ⟨Sim.refl _, Sim.refl _, Sim.refl _, Sim.recell (fun i hi => absurd hi (Nat.not_lt_zero _)), trivial⟩, Sim.refl _, trivial⟩
  · skip
    have hab : IsC a ∧ IsC b := by
      have h1 : ia = true := by cases ia <;> simp [std] at hb ⊢
      have h2 : ib = true := by cases ib <;> simp [std, h1] at hb ⊢
      exact ⟨of_decide_eq_true (hia.trans h1), of_decide_eq_true (hib.trans h2)⟩
    refine wp_skip ?_
    refine wp_seq ?_
    apply region_ok T32_ok [2, 3, 4, 6] [2, 3, 4, 6] [] hF
    case hex => intro A X; conv => lhs; cbv
    case hob =>
      intro X
      refine ob_split ?_
      simp [AllOb, Ob.holds, BE.den, std, stdCmp, stdArith] <;> omega
    case hQ =>
    intro X3 a0 w1 hF
    refine wp_seq ?_
    refine wp_seq ?_
    apply region_ok T32_ok [30, 2, 3, 4, 6] [6, 2, 3, 4] [] hF
    case hex => intro A X; conv => lhs; cbv
    case hob =>
      intro X
      refine ob_split ?_
      simp [AllOb, Ob.holds, BE.den, std, stdCmp, stdArith] <;> omega
    case hQ =>
    intro X4 a0 w1 hF
    refine cut_one (ι := Int × Bool × ByteArray) (S0 := [(30, _)]) (M0 := [(6, _)]) (G0 := []) (fun p => []) (fun p => [(6, ⟨(X3 7).b, 41, [.int .u64 p.1, .bool (.v p.2.1), .str p.2.2, .sl none none 0 0 6 (fun _ => [])]⟩)]) (fun p => []) (fun p => p = if a.version < b.version then (b.version, b.has, b.val) else (a.version, a.has, a.val)) hF ?_ ?_
    · skip
      refine test_ok hF rfl (fun hb hF => ?_) (fun hb hF => ?_)
      · skip
        apply region_ok T32_ok [2, 3, 4, 6] [6, 2, 3, 4] [] hF
        case hex => intro A X; conv => lhs; cbv
        case hob =>
          intro X
          refine ob_split ?_
          simp [AllOb, Ob.holds, BE.den, std, stdCmp, stdArith] <;> omega
        case hQ =>
        intro X5 a0 w1 hF
        refine ⟨(b.version, b.has, b.val), ?_, hF⟩
        have hlt : a.version < b.version := by simpa [std, stdCmp] using hb
        simp [hlt]
      · skip
        refine wp_skip ?_
        refine ⟨(a.version, a.has, a.val), ?_, hF⟩
        have hlt : ¬ a.version < b.version := by simpa [std, stdCmp] using hb
        simp [hlt]
    · rintro ⟨v, h, s⟩ hvhs a0 w1 hF
      refine wp_seq ?_
      apply region_ok T32_ok [2, 3, 4, 6] [6, 2, 3, 4] [] hF
      case hex => intro A X; conv => lhs; cbv
      case hob =>
        intro X
        simp [AllOb, Ob.holds, std, maxLen]; omega
      case hQ =>
      intro X6 a0 w1 hF
      refine wp_seq ?_
      refine wp_seq ?_
      apply region_ok T32_ok [7, 2, 3, 4, 6] [6, 2, 3, 4] [] hF
      case hex => intro A X; conv => lhs; cbv
      case hob =>
        intro X
        refine ob_split ?_
        simp [AllOb, Ob.holds, BE.den, std, stdCmp, stdArith] <;> omega
      case hQ =>
      intro X7 a0 w1 hF
      refine wp_block ?_
      refine loop_pre (ι := Nat × Option Nat × Option Addr × Nat × Nat × (Nat → Mark)) (fun p => [(7, .int .i64 (p.1 : Int))]) (fun p => [(6, ⟨(X3 7).b, 41, [.int .u64 v, .bool (.v h), .str s, .sl p.2.1 p.2.2.1 p.2.2.2.2.1 p.2.2.2.1 6 (fun j => markC (p.2.2.2.2.2 j))]⟩)]) (fun p => []) (fun p => p.1 ≤ n2 ∧ ∃ o : List Mark, p.2.2.2.2.1 = o.length ∧ p.2.2.2.2.2 = (fun j => o.getD j zeroMark) ∧ o = (b.marks.take p.1).foldl (stepM a.marks) a.marks ∧ o.length ≤ n1 + p.1) (fun p => n2 - p.1) (0, some 42, (X6 4).A 0, (X6 4).c 0, n1, f1) ⟨Nat.zero_le _, a.marks, hn1, hf1, rfl, by simp only; omega⟩ hF ?_
      rintro ⟨i, g, A, c, n, f⟩ ⟨hi, o, hn, hf, hoo, hol⟩ a0 w1 hF
      refine wp_seq ?_
      refine wp_seq ?_
      apply region_ok T32_ok [48, 2, 3, 4, 6, 7] [6, 2, 3, 4] [] hF
      case hex => intro A X; conv => lhs; cbv
      case hob =>
        intro X
        refine ob_split ?_
        simp [AllOb, Ob.holds, BE.den, std, stdCmp, stdArith] <;> omega
      case hQ =>
      intro X8 a0 w1 hF
      refine test_ok hF rfl (fun hb hF => ?_) (fun hb hF => ?_)
      · skip
        have hin : i < n2 := by simpa [std, stdCmp] using hb
        have hib2 : i < b.marks.length := by omega
        have S4 := S3 (f2 i).client
        have hstep := stepM_if a.marks o (f2 i)
        generalize (ofM a.marks (f2 i).client).getD zeroMark = om at S4 hstep
        generalize (ofM a.marks (f2 i).client).isSome = ob at S4 hstep
        have hfi : b.marks[i] = f2 i := by rw [hf2]; simp [List.getD, hib2]
        have htk : (b.marks.take (i + 1)).foldl (stepM a.marks) a.marks = stepM a.marks o (f2 i) := by rw [List.take_succ_eq_append_getElem hib2, List.foldl_append, ← hoo, hfi]; rfl
        have e := wrap_succ (k := i) (n := n2) hin (by omega)
        refine wp_skip ?_
        refine wp_seq ?_
        refine wp_block ?_
        refine wp_seq ?_
        apply drawn_ok (by kernel_rfl) T32_ok [2, 3, 4, 6, 7, 8, 9] [6, 2, 3, 4, 8] [(8, fun _ => .tup [.agg (markC om), .bool (.v ob)])] hF rfl
        case hex => intro A X; conv => lhs; cbv
        case hD => kernel_rfl
        case hlen => rfl
        case hob =>
          intro X
          exact ⟨rfl, rfl, by simp [Ob.holds]; omega, ⟨enters44, S4⟩, rfl, trivial⟩
        case hQ =>
        intro X10 a0 w1 hF
        refine wp_seq ?_
        apply drawn_ok (by kernel_rfl) T32_ok [75, 2, 3, 4, 6, 7] [6, 2, 3, 4] [] hF rfl
        case hex => intro A X; conv => lhs; cbv
        case hD => kernel_rfl
        case hlen => rfl
        case hob =>
          intro X
          refine ob_split ?_
          simp [AllOb, Ob.holds, BE.den, std, stdCmp, stdArith] <;> omega
        case hQ =>
        intro X11 a0 w1 hF
        refine test_ok hF rfl (fun hb hF => ?_) (fun hb hF => ?_)
        · skip
          have hput : stepM a.marks o (f2 i) = putM o (f2 i) := by rw [hstep, if_pos (by simpa [std, stdCmp] using hb)]
          have S5 := rmark_s A c o (f2 i) (by omega)
          have hpl := putM_length o (f2 i)
          obtain ⟨n', f', ho', hn', hf'⟩ := marks_open (putM o (f2 i))
          rw [show marksAV A c o = rowM none A n c f from by rw [show n = _ from hn, show f = _ from hf]; rfl] at S5
          simp only [ho'] at S5
          apply drawn_ok (by kernel_rfl) T32_ok [2, 3, 4, 6, 7] [6, 2, 3, 4] [(7, fun x => rowM none (x.A 0) n' (x.c 0) f')] hF rfl
          case hex => intro A X; conv => lhs; cbv
          case hD => kernel_rfl
          case hlen => rfl
          case hob =>
            intro X
            exact ⟨rfl, rfl, by simp [Ob.holds]; omega, ⟨enters45, S5.sim ⟨Sim.recell (fun _ _ => rfl), Sim.refl _, trivial⟩⟩, rfl, trivial⟩
          case hQ =>
          intro X12 a0 w1 hF
          apply region_ok T32_ok [7, 2, 3, 4, 6] [6, 2, 3, 4] [] hF
          case hex => intro A X; conv => lhs; cbv
          case hob =>
            intro X
            refine ob_split ?_
            simp [AllOb, Ob.holds, BE.den, std, stdCmp, stdArith] <;> omega
          case hQ =>
          intro X9 a0 w1 hF
          refine ⟨(i + 1, none, (X12 7).A 0, (X12 7).c 0, n', f'), ⟨by omega, putM o (f2 i), hn', hf', by rw [htk, hput], by omega⟩, by simp only; omega, ?_⟩
          rw [← e]; exact hF
        · skip
          have hput : stepM a.marks o (f2 i) = o := by rw [hstep, if_neg (by simpa [std, stdCmp] using hb)]
          refine wp_skip ?_
          apply region_ok T32_ok [7, 2, 3, 4, 6] [6, 2, 3, 4] [] hF
          case hex => intro A X; conv => lhs; cbv
          case hob =>
            intro X
            refine ob_split ?_
            simp [AllOb, Ob.holds, BE.den, std, stdCmp, stdArith] <;> omega
          case hQ =>
          intro X9 a0 w1 hF
          refine ⟨(i + 1, g, A, c, n, f), ⟨by omega, o, hn, hf, by rw [htk, hput], by omega⟩, by simp only; omega, ?_⟩
          rw [← e]; exact hF
      · skip
        have hin : n2 ≤ i := by simpa [std, stdCmp] using hb
        have hall : (b.marks.take i) = b.marks := List.take_of_length_le (by omega)
        rw [hall] at hoo
        refine wp_exit ?_
        refine wp_seq ?_
        apply region_ok T32_ok [4, 5] [6, 2, 3, 4] [] hF
        case hex => intro A X; conv => lhs; cbv
        case hob =>
          intro X
          refine ob_split ?_
          simp [AllOb, Ob.holds, BE.den, std, stdCmp, stdArith] <;> omega
        case hQ =>
        intro X13 a0 w1 hF
        refine wp_ret ?_
        refine ret_sim (fn := Try.f32) T32_ok hF (rs := [.cell 4 41, .tmp 5]) rfl (by conv => lhs; cbv) ?_ (⟨0, fun _ => A, fun _ => c⟩) ?_
        · simp [AllOb, Ob.holds]
        · have hm2 : mergeC a b = (⟨v, h, s, o⟩, 0) := by
            have hvv : (v, h, s) = _ := hvhs
            unfold mergeC mergeM
            rw [if_neg (by simpa using hab), ← hoo]
            split at hvv <;> rename_i hlt <;> injection hvv with q1 q2 <;> injection q2 with q2 q3 <;> simp [hlt, q1, q2, q3]
          simp only [hm2]
          subst hn; subst hf
          exact Sim.tup ⟨Sim.agg ⟨Sim.refl _, Sim.refl _, Sim.refl _, Sim.recell (fun i hi => rfl), trivial⟩, Sim.refl _, trivial⟩
end Go.Proofs.Ytfddpcmlmcohjaa.Sym
