/-
  Own and Big of the document of chapter 17 (printed by a program of mine). Conditions: fewer marks than a thousand million.
-/
import Derived.Test.YtfddpcmlmcohjaaSymCel2
namespace Go.Proofs.Ytfddpcmlmcohjaa.Sym
open Go Go.RowKit
set_option maxRecDepth 100000
set_option linter.unusedVariables false
set_option linter.unusedSimpArgs false
/-- the bytes of a cell's values: the first k marks, and the value -/
def sumW (c : Cel) (k : Nat) : Int := (c.marks.take k).foldl (fun s m => IntKind.i64.wrap (s + m.ans.val.size)) (c.val.size : Int)
theorem sumW_succ (c : Cel) (k : Nat) (h : k < c.marks.length) : sumW c (k + 1) = IntKind.i64.wrap (sumW c k + c.marks[k].ans.val.size) := by
  unfold sumW
  rw [List.take_succ_eq_append_getElem h, List.foldl_append]
  rfl
def bigF (c : Cel) : Bool := decide (80 < c.marks.length) || decide (20000 < sumW c c.marks.length)
theorem big_le {c : Cel} (h : bigF c = false) : c.marks.length ≤ 80 := by simp [bigF] at h; omega
def T22 : List (Nat × TI) := [(39, ti39), (41, ti41)]
theorem T22_ok : TabOK Try.prog T22 := .cons t39 (.cons t41 (.nil))
theorem enters22 : Enters Try.prog 22 := fun _ _ => by kernel_rfl
theorem own_s (A1 : Option Addr) (k1 : Nat) (a : Cel) (hsa : a.marks.length < 1000000000) : Spec Try.prog 22 [celAV A1 k1 a] (fun x => celAV (x.A 0) (x.c 0) a) := by
  intro m w hm hargs
  have hoa := hargs (celAV A1 k1 a) (by simp)
  have hma := ok_agg hoa (marksAV A1 k1 a.marks) (by simp)
  obtain ⟨hl1, hc1⟩ := ok_len hma
  obtain ⟨n1, f1, ho1, hn1, hf1⟩ := marks_open a.marks
  have e1 : celAV A1 k1 a = .agg [.int .u64 a.version, .bool (.v a.has), .str a.val, rowM none A1 n1 k1 f1] := by simp only [celAV, ho1]
  rw [e1] at hargs ⊢
  refine enter hm hargs Try.func22 rfl (by simp [Try.ntmps22]) fun a0 hF => ?_
  simp only [Try.ntmps22, startT] at hF
  refine wp_seq ?_
  apply region_ok T22_ok [1, 2] [1, 2] [] hF
  case hex => intro A X; conv => lhs; cbv
  case hob =>
    intro X
    refine ob_split ?_
    simp [AllOb, Ob.holds, BE.den, std, stdCmp, stdArith] <;> omega
  case hQ =>
  intro X0 a0 w1 hF
  refine wp_seq ?_
  apply region_ok T22_ok [1, 2, 3] [1, 2, 3, 7] [] hF
  case hex => intro A X; conv => lhs; cbv
  case hob =>
    intro X
    refine ob_split ?_
    simp [AllOb, Ob.holds, BE.den, std, stdCmp, stdArith] <;> omega
  case hQ =>
  intro X1 a0 w1 hF
  refine wp_seq ?_
  apply region_ok T22_ok [1, 2, 3] [1, 2, 3, 7] [] hF
  case hex => intro A X; conv => lhs; cbv
  case hob =>
    intro X
    simp [AllOb, Ob.holds, std, maxLen]; omega
  case hQ =>
  intro X2 a0 w1 hF
  refine wp_seq ?_
  apply region_ok T22_ok [1, 2] [1, 2] [] hF
  case hex => intro A X; conv => lhs; cbv
  case hob =>
    intro X
    refine ob_split ?_
    simp [AllOb, Ob.holds, BE.den, std, stdCmp, stdArith] <;> omega
  case hQ =>
  intro X3 a0 w1 hF
  refine wp_seq ?_
  apply region_ok T22_ok [2] [2] [] hF
  case hex => intro A X; conv => lhs; cbv
  case hob =>
    intro X
    refine ob_split ?_
    simp [AllOb, Ob.holds, BE.den, std, stdCmp, stdArith] <;> omega
  case hQ =>
  intro X4 a0 w1 hF
  refine wp_ret ?_
  refine ret_sim (fn := Try.f22) T22_ok hF (rs := [.cell 2 41]) rfl (by conv => lhs; cbv) ?_ (⟨0, fun _ => (X2 3).A 0, fun _ => (X2 3).c 0⟩) ?_
  · simp [AllOb, Ob.holds]
  · simp only [celAV, ho1]; exact Sim.agg ⟨Sim.refl _, Sim.refl _, Sim.refl _, Sim.resl (by cases n1 with | zero => rfl | succ n => exact Nat.zero_add (n + 1)) (fun i hi => by simp [appC]), trivial⟩
def T21 : List (Nat × TI) := [(3, ti3), (4, ti4), (9, ti9), (39, ti39), (41, ti41), (47, ti47), (55, ti55)]
theorem T21_ok : TabOK Try.prog T21 := .cons t3 (.cons t4 (.cons t9 (.cons t39 (.cons t41 (.cons t47 (.cons t55 (.nil)))))))
theorem enters21 : Enters Try.prog 21 := fun _ _ => by kernel_rfl
theorem big_s (A1 : Option Addr) (k1 : Nat) (a : Cel) : Spec Try.prog 21 [celAV A1 k1 a] (fun _ => .bool (.v (bigF a))) := by
  intro m w hm hargs
  have hoa := hargs (celAV A1 k1 a) (by simp)
  have hma := ok_agg hoa (marksAV A1 k1 a.marks) (by simp)
  obtain ⟨hl1, hc1⟩ := ok_len hma
  obtain ⟨n1, f1, ho1, hn1, hf1⟩ := marks_open a.marks
  have e1 : celAV A1 k1 a = .agg [.int .u64 a.version, .bool (.v a.has), .str a.val, rowM none A1 n1 k1 f1] := by simp only [celAV, ho1]
  rw [e1] at hargs ⊢
  refine enter hm hargs Try.func21 rfl (by simp [Try.ntmps21]) fun a0 hF => ?_
  simp only [Try.ntmps21, startT] at hF
  refine wp_seq ?_
  apply region_ok T21_ok [1] [1] [] hF
  case hex => intro A X; conv => lhs; cbv
  case hob =>
    intro X
    refine ob_split ?_
    simp [AllOb, Ob.holds, BE.den, std, stdCmp, stdArith] <;> omega
  case hQ =>
  intro X0 a0 w1 hF
  refine wp_seq ?_
  apply region_ok T21_ok [3, 1] [1] [] hF
  case hex => intro A X; conv => lhs; cbv
  case hob =>
    intro X
    refine ob_split ?_
    simp [AllOb, Ob.holds, BE.den, std, stdCmp, stdArith] <;> omega
  case hQ =>
  intro X1 a0 w1 hF
  obtain ⟨z, hz⟩ : ∃ z : Int, (a.val.size : Int) = z := ⟨_, rfl⟩
  replace hF := hF.head (v' := .int .i64 z) (by rw [← hz]; rfl)
  refine wp_seq ?_
  refine wp_seq ?_
  apply region_ok T21_ok [3, 4, 1] [1] [] hF
  case hex => intro A X; conv => lhs; cbv
  case hob =>
    intro X
    refine ob_split ?_
    simp [AllOb, Ob.holds, BE.den, std, stdCmp, stdArith] <;> omega
  case hQ =>
  intro X2 a0 w1 hF
  refine wp_block ?_
  refine loop_pre (ι := Nat × Int) (fun p => [(3, .int .i64 p.2), (4, .int .i64 (p.1 : Int))]) (fun p => []) (fun p => []) (fun p => p.1 ≤ n1 ∧ (n1 ≤ 80 → p.2 = sumW a p.1)) (fun p => n1 - p.1) (0, z) ⟨Nat.zero_le _, fun _ => by simp [sumW, hz]⟩ hF ?_
  rintro ⟨i, s⟩ ⟨hi, hs⟩ a0 w1 hF
  refine wp_seq ?_
  refine wp_seq ?_
  apply region_ok T21_ok [18, 1, 3, 4] [1] [] hF
  case hex => intro A X; conv => lhs; cbv
  case hob =>
    intro X
    refine ob_split ?_
    simp [AllOb, Ob.holds, BE.den, std, stdCmp, stdArith] <;> omega
  case hQ =>
  intro X3 a0 w1 hF
  refine test_ok hF rfl (fun hb hF => ?_) (fun hb hF => ?_)
  · skip
    have hin : i < n1 := by
      have : ((i : Int) < (n1 : Int) ∧ (n1 : Int) ≤ 80) := by simpa [std, stdCmp] using hb
      omega
    have e := wrap_succ (k := i) (n := n1) hin (by omega)
    refine wp_skip ?_
    refine wp_seq ?_
    refine wp_block ?_
    apply region_ok T21_ok [3, 4, 1] [1] [] hF
    case hex => intro A X; conv => lhs; cbv
    case hob =>
      intro X
      refine ob_split ?_
      simp [AllOb, Ob.holds, BE.den, std, stdCmp, stdArith] <;> omega
    case hQ =>
    intro X5 a0 w1 hF
    obtain ⟨z2, hz2⟩ : ∃ z2 : Int, IntKind.i64.wrap (s + ((f1 i).ans.val.size : Int)) = z2 := ⟨_, rfl⟩
    replace hF := hF.head (v' := .int .i64 z2) (by rw [← hz2]; rfl)
    apply region_ok T21_ok [3, 4, 1] [1] [] hF
    case hex => intro A X; conv => lhs; cbv
    case hob =>
      intro X
      refine ob_split ?_
      simp [AllOb, Ob.holds, BE.den, std, stdCmp, stdArith] <;> omega
    case hQ =>
    intro X4 a0 w1 hF
    refine ⟨(i + 1, z2), ⟨by omega, fun h8 => ?_⟩, by simp only; omega, by rw [← e]; exact hF⟩
    rw [sumW_succ a i (by omega), ← hs h8]
    rw [← hz2]; simp [hf1, List.getD, show i < a.marks.length by omega]
  · skip
    have hout : n1 ≤ 80 → n1 ≤ i := by
      intro h8
      have : (i : Int) < (n1 : Int) → (80 : Int) < (n1 : Int) := by simpa [std, stdCmp] using hb
      omega
    refine wp_exit ?_
    refine wp_seq ?_
    apply region_ok T21_ok [2] [] [] hF
    case hex => intro A X; conv => lhs; cbv
    case hob =>
      intro X
      refine ob_split ?_
      simp [AllOb, Ob.holds, BE.den, std, stdCmp, stdArith] <;> omega
    case hQ =>
    intro X6 a0 w1 hF
    refine wp_ret ?_
    refine ret_spec (fn := Try.f21) T21_ok hF (rs := [.tmp 2]) rfl (rfl) ?_ noAtom ?_
    · simp [AllOb, Ob.holds]
    · have hx : bigF a = (decide ((80 : Int) < (n1 : Int)) || decide (20000 < s)) := by
        unfold bigF
        rw [← hn1]
        by_cases h8 : n1 ≤ 80
        · have hi2 : i = n1 := by have := hout h8; omega
          rw [show s = sumW a i from hs h8, hi2, decide_eq_false (show ¬ 80 < n1 by omega), decide_eq_false (show ¬ (80 : Int) < (n1 : Int) by omega)]
        · have h9 : 80 < n1 := by omega
          simp [h9, show (80 : Int) < (n1 : Int) by omega]
      simp only [hx]
      refine congrArg (fun b => AV.bool (.v b)) ?_
      show (if decide ((80 : Int) < (n1 : Int)) = true then true else decide ((20000 : Int) < s)) = _
      cases decide ((80 : Int) < (n1 : Int)) <;> rfl
end Go.Proofs.Ytfddpcmlmcohjaa.Sym
