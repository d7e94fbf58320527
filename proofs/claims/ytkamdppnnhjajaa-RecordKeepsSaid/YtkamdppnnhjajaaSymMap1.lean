/-
  Items found, and left out, by the document (printed by a program of mine). Conditions: none.
-/
import Derived.Test.YtkamdppnnhjajaaPlMap
import Derived.Test.YtkamdppnnhjajaaSymLaw8
namespace Go.Proofs.Ytkamdppnnhjajaa.Sym
open Go Go.RowKit
set_option maxRecDepth 100000
set_option linter.unusedVariables false
set_option linter.unusedSimpArgs false
theorem drop_step (f : Nat → Itm) (i : Nat) (key : Int) : dropL (firsts f (i + 1)) key = dropL (firsts f i) key ++ if (f i).key = key then [] else [f i] := by
  have : firsts f (i + 1) = firsts f i ++ [f i] := by simp [firsts, List.range_succ]
  rw [this]
  unfold dropL
  rw [List.filter_append]
  congr 1
  by_cases h : (f i).key = key <;> simp [isK, h]
def T24 : List (Nat × TI) := [(3, ti3), (4, ti4), (9, ti9), (22, ti22), (23, ti23), (27, ti27), (53, ti53)]
theorem T24_ok : TabOK Try.prog T24 := .cons t3 (.cons t4 (.cons t9 (.cons t22 (.cons t23 (.cons t27 (.cons t53 (.nil)))))))
theorem enters24 : Enters Try.prog 24 := fun _ _ => by kernel_rfl
theorem rfind_s (A : Option Addr) (n c : Nat) (f : Nat → Itm) (hn : n ≤ 1000000) (kd : Int) (nx : Lab) (mk : Int) (key : Int) : Spec Try.prog 24 [recI A n c f kd nx mk, .int .u64 key] (fun _ => .tup [.str (findS (firsts f n) key), .bool (.v (findB (firsts f n) key))]) := by
  intro m w hm hargs
  have hmx : maxLen = 9223372036854775807 := rfl
  unfold recI rowI at hargs
  refine enter hm hargs Try.func24 rfl (by simp [Try.ntmps24]) fun a0 hF => ?_
  simp only [Try.ntmps24, startT] at hF
  obtain ⟨B, hB⟩ : ∃ B, B = std := ⟨_, rfl⟩
  refine wp_seq ?_
  apply region_okB hB T24_ok [1, 2] [2] [] hF
  case hex => intro A X; conv => lhs; cbv
  case hob =>
    intro X
    subst hB
    simp [AllOb, Ob.holds, BE.den, std, stdCmp, stdArith] <;> omega
  case hQ =>
  intro X0 a0 w1 hF
  refine wp_seq ?_
  refine wp_seq ?_
  apply region_okB hB T24_ok [6, 1, 2] [2] [] hF
  case hex => intro A X; conv => lhs; cbv
  case hob =>
    intro X
    subst hB
    simp [AllOb, Ob.holds, BE.den, std, stdCmp, stdArith] <;> omega
  case hQ =>
  intro X1 a0 w1 hF
  refine wp_block ?_
  refine loop_pre (ι := Nat) (fun p => [(6, .int .i64 (p : Int))]) (fun p => []) (fun p => []) (fun p => p ≤ n ∧ ∀ t, t < p → (f t).key ≠ key) (fun p => n - p) 0 ⟨Nat.zero_le _, fun t ht => absurd ht (Nat.not_lt_zero _)⟩ hF ?_
  rintro i ⟨hi, hlt⟩ a0 w1 hF
  try dsimp only at hi
  try dsimp only at hlt
  refine wp_seq ?_
  refine wp_seq ?_
  apply region_okB hB T24_ok [11, 6, 1, 2] [2] [] hF
  case hex => intro A X; conv => lhs; cbv
  case hob =>
    intro X
    subst hB
    repeat (first | exact trivial | refine ⟨rfl, ?_⟩ | refine ⟨⟨show (0 : Int) ≤ (i : Int) by omega, show (i : Int) < (n : Int) by omega⟩, ?_⟩)
  case hQ =>
  intro X2 a0 w1 hF
  refine test_ok hF rfl (fun hb hF => ?_) (fun hb hF => ?_)
  · skip
    have hin : i < n := by
      have : (i : Int) < (n : Int) := by subst hB; simpa [std, stdCmp] using hb
      omega
    refine wp_skip ?_
    refine wp_seq ?_
    refine wp_block ?_
    refine wp_seq ?_
    apply region_okB hB T24_ok [21, 6, 1, 2] [2] [] hF
    case hex => intro A X; conv => lhs; cbv
    case hob =>
      intro X
      subst hB
      repeat (first | exact trivial | refine ⟨rfl, ?_⟩ | refine ⟨⟨show (0 : Int) ≤ (i : Int) by omega, show (i : Int) < (n : Int) by omega⟩, ?_⟩)
    case hQ =>
    intro X4 a0 w1 hF
    refine test_ok hF rfl (fun hb hF => ?_) (fun hb hF => ?_)
    · skip
      have hk : (f i).key = key := by subst hB; simpa [std, stdCmp] using hb
      have hfd := find_hit hin hlt hk
      have hV : findS (firsts f n) key = (f i).val := by simp only [findS, hfd]
      have hE : findB (firsts f n) key = true := by simp only [findB, hfd]; rfl
      refine wp_seq ?_
      apply region_okB hB T24_ok [4, 5] [] [] hF
      case hex => intro A X; conv => lhs; cbv
      case hob =>
        intro X
        subst hB
        repeat (first | exact trivial | refine ⟨rfl, ?_⟩ | refine ⟨⟨show (0 : Int) ≤ (i : Int) by omega, show (i : Int) < (n : Int) by omega⟩, ?_⟩)
      case hQ =>
      intro X5 a0 w1 hF
      refine wp_ret ?_
      refine ret_sim (fn := Try.f24) T24_ok hF (rs := [.tmp 4, .tmp 5]) rfl (rfl) ?_ noAtom ?_
      · simp [AllOb, Ob.holds]
      · subst hB; rw [hV, hE]
        exact Sim.tup ⟨Sim.refl _, Sim.bool rfl, trivial⟩
    · skip
      have hk : ¬ (f i).key = key := by subst hB; simpa [std, stdCmp] using hb
      refine wp_skip ?_
      apply region_okB hB T24_ok [6, 1, 2] [2] [] hF
      case hex => intro A X; conv => lhs; cbv
      case hob =>
        intro X
        subst hB
        simp [AllOb, Ob.holds, BE.den, std, stdCmp, stdArith] <;> omega
      case hQ =>
      intro X3 a0 w1 hF
      have e : B.arith .add .i64 (i : Int) 1 = ((i + 1 : Nat) : Int) := by subst hB; exact wrap_succ (n := n) hin (by omega)
      refine ⟨i + 1, ⟨by omega, fun t ht => by
      by_cases h : t = i
      · rw [h]; exact hk
      · exact hlt t (by omega)⟩, by omega, by rw [← e]; exact hF⟩
  · skip
    have hout : i = n := by
      have : ¬ (i : Int) < (n : Int) := by subst hB; simpa [std, stdCmp] using hb
      omega
    rw [hout] at hlt
    have hfd := find_miss hlt
    have hV : findS (firsts f n) key = ⟨#[]⟩ := by simp only [findS, hfd]
    have hE : findB (firsts f n) key = false := by simp only [findB, hfd]; rfl
    refine wp_exit ?_
    refine wp_seq ?_
    apply region_okB hB T24_ok [4, 5] [] [] hF
    case hex => intro A X; conv => lhs; cbv
    case hob =>
      intro X
      subst hB
      simp [AllOb, Ob.holds, BE.den, std, stdCmp, stdArith] <;> omega
    case hQ =>
    intro X6 a0 w1 hF
    refine wp_ret ?_
    refine ret_sim (fn := Try.f24) T24_ok hF (rs := [.tmp 4, .tmp 5]) rfl (rfl) ?_ noAtom ?_
    · simp [AllOb, Ob.holds]
    · subst hB; rw [hV, hE]
      exact Sim.tup ⟨Sim.refl _, Sim.bool rfl, trivial⟩
def T89 : List (Nat × TI) := [(3, ti3), (4, ti4), (9, ti9), (22, ti22), (23, ti23), (53, ti53), (91, ti91)]
theorem T89_ok : TabOK Try.prog T89 := .cons t3 (.cons t4 (.cons t9 (.cons t22 (.cons t23 (.cons t53 (.cons t91 (.nil)))))))
theorem enters89 : Enters Try.prog 89 := fun _ _ => by kernel_rfl
theorem mget_m0 (b : Nat) (A : Option Addr) (n c : Nat) (f : Nat → Itm) (hn : n ≤ 1000000) (key : Int) : SpecX Try.prog 89 [.ptr 0 b 0, .int .u64 key] [(0, ⟨b, 91, [rowI A n c f]⟩)] (fun _ => ⟨.tup [.str (findS (firsts f n) key), .bool (.v (findB (firsts f n) key))], [(0, [rowI A n c f])], []⟩) := by
  intro m w hm hargs hpre
  have hmx : maxLen = 9223372036854775807 := rfl
  unfold rowI at hpre ⊢
  refine enterX hm hpre hargs Try.func89 rfl (by simp [Try.ntmps89]) fun a0 hF => ?_
  simp only [Try.ntmps89, startT] at hF
  obtain ⟨B, hB⟩ : ∃ B, B = std := ⟨_, rfl⟩
  refine wp_seq ?_
  apply region_okB hB T89_ok [0, 1] [0] [] hF
  case hex => intro A X; conv => lhs; cbv
  case hob =>
    intro X
    subst hB
    simp [AllOb, Ob.holds, BE.den, std, stdCmp, stdArith] <;> omega
  case hQ =>
  intro X0 a0 w1 hF
  refine wp_seq ?_
  refine wp_seq ?_
  apply region_okB hB T89_ok [6, 0, 1] [0] [] hF
  case hex => intro A X; conv => lhs; cbv
  case hob =>
    intro X
    subst hB
    simp [AllOb, Ob.holds, BE.den, std, stdCmp, stdArith] <;> omega
  case hQ =>
  intro X1 a0 w1 hF
  refine wp_block ?_
  refine loop_pre (ι := Nat) (fun p => [(6, .int .i64 (p : Int))]) (fun p => []) (fun p => []) (fun p => p ≤ n ∧ ∀ t, t < p → (f t).key ≠ key) (fun p => n - p) 0 ⟨Nat.zero_le _, fun t ht => absurd ht (Nat.not_lt_zero _)⟩ hF ?_
  rintro i ⟨hi, hlt⟩ a0 w1 hF
  try dsimp only at hi
  try dsimp only at hlt
  refine wp_seq ?_
  refine wp_seq ?_
  apply region_okB hB T89_ok [13, 6, 0, 1] [0] [] hF
  case hex => intro A X; conv => lhs; cbv
  case hob =>
    intro X
    subst hB
    repeat (first | exact trivial | refine ⟨rfl, ?_⟩ | refine ⟨⟨show (0 : Int) ≤ (i : Int) by omega, show (i : Int) < (n : Int) by omega⟩, ?_⟩)
  case hQ =>
  intro X2 a0 w1 hF
  refine test_ok hF rfl (fun hb hF => ?_) (fun hb hF => ?_)
  · skip
    have hin : i < n := by
      have : (i : Int) < (n : Int) := by subst hB; simpa [std, stdCmp] using hb
      omega
    refine wp_skip ?_
    refine wp_seq ?_
    refine wp_block ?_
    refine wp_seq ?_
    apply region_okB hB T89_ok [25, 6, 0, 1] [0] [] hF
    case hex => intro A X; conv => lhs; cbv
    case hob =>
      intro X
      subst hB
      repeat (first | exact trivial | refine ⟨rfl, ?_⟩ | refine ⟨⟨show (0 : Int) ≤ (i : Int) by omega, show (i : Int) < (n : Int) by omega⟩, ?_⟩)
    case hQ =>
    intro X4 a0 w1 hF
    refine test_ok hF rfl (fun hb hF => ?_) (fun hb hF => ?_)
    · skip
      have hk : (f i).key = key := by subst hB; simpa [std, stdCmp] using hb
      have hfd := find_hit hin hlt hk
      have hV : findS (firsts f n) key = (f i).val := by simp only [findS, hfd]
      have hE : findB (firsts f n) key = true := by simp only [findB, hfd]; rfl
      refine wp_seq ?_
      apply region_okB hB T89_ok [4, 5] [0] [] hF
      case hex => intro A X; conv => lhs; cbv
      case hob =>
        intro X
        subst hB
        repeat (first | exact trivial | refine ⟨rfl, ?_⟩ | refine ⟨⟨show (0 : Int) ≤ (i : Int) by omega, show (i : Int) < (n : Int) by omega⟩, ?_⟩)
      case hQ =>
      intro X5 a0 w1 hF
      refine wp_ret ?_
      refine (ret_x (fn := Try.f89) T89_ok hF (rs := [.tmp 4, .tmp 5]) rfl (rfl) ?_ noAtom [] ?_ ?_ ?_).1
      · subst hB; simp [AllOb, Ob.holds]
      · subst hB; rw [hV, hE]
        exact Sim.tup ⟨Sim.refl _, Sim.bool rfl, trivial⟩
      · subst hB; exact ⟨rfl, ⟨_, rfl, SimL.refl _⟩, trivial⟩
      · exact trivial
    · skip
      have hk : ¬ (f i).key = key := by subst hB; simpa [std, stdCmp] using hb
      refine wp_skip ?_
      apply region_okB hB T89_ok [6, 0, 1] [0] [] hF
      case hex => intro A X; conv => lhs; cbv
      case hob =>
        intro X
        subst hB
        simp [AllOb, Ob.holds, BE.den, std, stdCmp, stdArith] <;> omega
      case hQ =>
      intro X3 a0 w1 hF
      have e : B.arith .add .i64 (i : Int) 1 = ((i + 1 : Nat) : Int) := by subst hB; exact wrap_succ (n := n) hin (by omega)
      refine ⟨i + 1, ⟨by omega, fun t ht => by
      by_cases h : t = i
      · rw [h]; exact hk
      · exact hlt t (by omega)⟩, by omega, by rw [← e]; exact hF⟩
  · skip
    have hout : i = n := by
      have : ¬ (i : Int) < (n : Int) := by subst hB; simpa [std, stdCmp] using hb
      omega
    rw [hout] at hlt
    have hfd := find_miss hlt
    have hV : findS (firsts f n) key = ⟨#[]⟩ := by simp only [findS, hfd]
    have hE : findB (firsts f n) key = false := by simp only [findB, hfd]; rfl
    refine wp_exit ?_
    refine wp_seq ?_
    apply region_okB hB T89_ok [4, 5] [0] [] hF
    case hex => intro A X; conv => lhs; cbv
    case hob =>
      intro X
      subst hB
      simp [AllOb, Ob.holds, BE.den, std, stdCmp, stdArith] <;> omega
    case hQ =>
    intro X6 a0 w1 hF
    refine wp_ret ?_
    refine (ret_x (fn := Try.f89) T89_ok hF (rs := [.tmp 4, .tmp 5]) rfl (rfl) ?_ noAtom [] ?_ ?_ ?_).1
    · subst hB; simp [AllOb, Ob.holds]
    · subst hB; rw [hV, hE]
      exact Sim.tup ⟨Sim.refl _, Sim.bool rfl, trivial⟩
    · subst hB; exact ⟨rfl, ⟨_, rfl, SimL.refl _⟩, trivial⟩
    · exact trivial
theorem mget_m (k0 : Nat) (b : Nat) (A : Option Addr) (n c : Nat) (f : Nat → Itm) (hn : n ≤ 1000000) (key : Int) : SpecX Try.prog 89 [.ptr k0 b 0, .int .u64 key] [(k0, ⟨b, 91, [rowI A n c f]⟩)] (fun _ => ⟨.tup [.str (findS (firsts f n) key), .bool (.v (findB (firsts f n) key))], [(k0, [rowI A n c f])], []⟩) :=
  (mget_m0 b A n c f hn key).re (by repeat (first | exact trivial | refine ⟨Sim.ptr, ?_⟩ | refine ⟨Sim.fn ⟨Sim.ptr, trivial⟩ trivial, ?_⟩ | refine ⟨Sim.refl _, ?_⟩)) rfl (fun x => ⟨rfl, rfl, Sim.refl _, rfl⟩)
def T90 : List (Nat × TI) := [(3, ti3), (22, ti22), (23, ti23), (53, ti53), (91, ti91)]
theorem T90_ok : TabOK Try.prog T90 := .cons t3 (.cons t22 (.cons t23 (.cons t53 (.cons t91 (.nil)))))
theorem enters90 : Enters Try.prog 90 := fun _ _ => by kernel_rfl
theorem mwo_m0 (b : Nat) (A : Option Addr) (n c : Nat) (f : Nat → Itm) (hn : n ≤ 1000000) (key : Int) : SpecX Try.prog 90 [.ptr 0 b 0, .int .u64 key] [(0, ⟨b, 91, [rowI A n c f]⟩)] (fun x => ⟨rowI (x.A 0) (dropL (firsts f n) key).length (x.c 0) (itF (dropL (firsts f n) key)), [(0, [rowI A n c f])], []⟩) := by
  intro m w hm hargs hpre
  have hmx : maxLen = 9223372036854775807 := rfl
  unfold rowI at hpre ⊢
  refine enterX hm hpre hargs Try.func90 rfl (by simp [Try.ntmps90]) fun a0 hF => ?_
  simp only [Try.ntmps90, startT] at hF
  obtain ⟨B, hB⟩ : ∃ B, B = std := ⟨_, rfl⟩
  refine wp_seq ?_
  apply region_okB hB T90_ok [0, 1] [0] [] hF
  case hex => intro A X; conv => lhs; cbv
  case hob =>
    intro X
    subst hB
    simp [AllOb, Ob.holds, BE.den, std, stdCmp, stdArith] <;> omega
  case hQ =>
  intro X0 a0 w1 hF
  refine wp_seq ?_
  apply region_okB hB T90_ok [5, 0, 1] [0, 5, 35] [] hF
  case hex => intro A X; conv => lhs; cbv
  case hob =>
    intro X
    subst hB
    simp [AllOb, Ob.holds, BE.den, std, stdCmp, stdArith] <;> omega
  case hQ =>
  intro X1 a0 w1 hF
  refine wp_seq ?_
  refine wp_seq ?_
  apply region_okB hB T90_ok [5, 6, 0, 1] [0, 5, 35] [] hF
  case hex => intro A X; conv => lhs; cbv
  case hob =>
    intro X
    subst hB
    simp [AllOb, Ob.holds, BE.den, std, stdCmp, stdArith] <;> omega
  case hQ =>
  intro X2 a0 w1 hF
  refine wp_block ?_
  replace hF := hF.headS (v' := .sl (some 5) none 0 0 2 (fun t => itC zeroItm)) (Sim.recell (fun i hi => absurd hi (Nat.not_lt_zero _))) rfl
  refine loop_pre (ι := Nat × Nat × (Nat → Itm) × Option Addr × Nat) (fun p => [(5, .sl (some 5) p.2.2.2.1 p.2.1 p.2.2.2.2 2 (fun t => itC (p.2.2.1 t))), (6, .int .i64 (p.1 : Int))]) (fun p => []) (fun p => [(5, ⟨p.2.2.2.1, p.2.1, p.2.2.2.2, 2, 53⟩)]) (fun p => p.1 ≤ n ∧ p.2.1 ≤ p.1 ∧ firsts p.2.2.1 p.2.1 = dropL (firsts f p.1) key) (fun p => n - p.1) (0, 0, fun _ => zeroItm, none, 0) ⟨Nat.zero_le _, Nat.le_refl _, rfl⟩ hF ?_
  rintro ⟨i, q, g, A1, c1⟩ ⟨hi, hq, hg⟩ a0 w1 hF
  try dsimp only at hi
  try dsimp only at hq
  try dsimp only at hg
  refine wp_seq ?_
  refine wp_seq ?_
  apply region_okB hB T90_ok [13, 5, 6, 0, 1] [0, 5, 35] [] hF
  case hex => intro A X; conv => lhs; cbv
  case hob =>
    intro X
    subst hB
    repeat (first | exact trivial | refine ⟨rfl, ?_⟩ | refine ⟨⟨show (0 : Int) ≤ (i : Int) by omega, show (i : Int) < (n : Int) by omega⟩, ?_⟩)
  case hQ =>
  intro X3 a0 w1 hF
  refine test_ok hF rfl (fun hb hF => ?_) (fun hb hF => ?_)
  · skip
    have hin : i < n := by
      have : (i : Int) < (n : Int) := by subst hB; simpa [std, stdCmp] using hb
      omega
    refine wp_skip ?_
    refine wp_seq ?_
    refine wp_block ?_
    refine wp_seq ?_
    apply region_okB hB T90_ok [25, 5, 6, 0, 1] [0, 5, 35] [] hF
    case hex => intro A X; conv => lhs; cbv
    case hob =>
      intro X
      subst hB
      repeat (first | exact trivial | refine ⟨rfl, ?_⟩ | refine ⟨⟨show (0 : Int) ≤ (i : Int) by omega, show (i : Int) < (n : Int) by omega⟩, ?_⟩)
    case hQ =>
    intro X5 a0 w1 hF
    refine test_ok hF rfl (fun hb hF => ?_) (fun hb hF => ?_)
    · skip
      have hk : (f i).key ≠ key := by subst hB; simpa [std, stdCmp] using hb
      apply region_okB hB T90_ok [5, 6, 0, 1] [0, 5, 35] [] hF
      case hex => intro A X; conv => lhs; cbv
      case hob =>
        intro X
        subst hB
        repeat (first | exact trivial | refine ⟨⟨rfl, rfl, rfl⟩, ?_⟩ | refine ⟨rfl, ?_⟩ | refine ⟨⟨show (0 : Int) ≤ (i : Int) by omega, show (i : Int) < (n : Int) by omega⟩, ?_⟩ | refine ⟨⟨show q + 1 ≤ maxLen by omega, show (q + 1) * _ ≤ _ by omega⟩, ?_⟩)
      case hQ =>
      intro X6 a0 w1 hF
      replace hF := hF.headS (v' := .sl (some 5) ((X6 9).A 0) (B.nadd q 1) ((X6 9).c 0) 2 (fun t => itC (fSet g q (f i) t))) (Sim.resl rfl (fun t ht => by
        subst hB
        have ht2 : t < q + 1 := ht
        show appC q (fun t => itC (g t)) (chunk 2 [.int .u64 (f i).key, .str (f i).val]) t = _
        unfold appC fSet
        split
        · rw [if_neg (by omega)]
        · have : t = q := by omega
          subst this
          simp [chunk, itC])) rfl
      apply region_okB hB T90_ok [5, 6, 0, 1] [0, 5, 35] [] hF
      case hex => intro A X; conv => lhs; cbv
      case hob =>
        intro X
        subst hB
        simp [AllOb, Ob.holds, BE.den, std, stdCmp, stdArith] <;> omega
      case hQ =>
      intro X4 a0 w1 hF
      have e : B.arith .add .i64 (i : Int) 1 = ((i + 1 : Nat) : Int) := by subst hB; exact wrap_succ (n := n) hin (by omega)
      refine ⟨(i + 1, q + 1, fSet g q (f i), _, _), ⟨by simp only; omega, by simp only; omega, ?_⟩, by simp only; omega, by rw [← e, show q + 1 = B.nadd q 1 by subst hB; rfl]; exact hF⟩
      simp only
      rw [firsts_set, hg, drop_step, if_neg hk]
    · skip
      have hk : (f i).key = key := by subst hB; simpa [std, stdCmp] using hb
      refine wp_skip ?_
      apply region_okB hB T90_ok [5, 6, 0, 1] [0, 5, 35] [] hF
      case hex => intro A X; conv => lhs; cbv
      case hob =>
        intro X
        subst hB
        simp [AllOb, Ob.holds, BE.den, std, stdCmp, stdArith] <;> omega
      case hQ =>
      intro X4 a0 w1 hF
      have e : B.arith .add .i64 (i : Int) 1 = ((i + 1 : Nat) : Int) := by subst hB; exact wrap_succ (n := n) hin (by omega)
      refine ⟨(i + 1, q, g, _, _), ⟨by simp only; omega, by simp only; omega, ?_⟩, by simp only; omega, by rw [← e]; exact hF⟩
      simp only
      rw [hg, drop_step, if_pos hk, List.append_nil]
  · skip
    have hout : i = n := by
      have : ¬ (i : Int) < (n : Int) := by subst hB; simpa [std, stdCmp] using hb
      omega
    rw [hout] at hg
    refine wp_exit ?_
    refine wp_seq ?_
    apply region_okB hB T90_ok [4] [0, 4, 5, 35] [] hF
    case hex => intro A X; conv => lhs; cbv
    case hob =>
      intro X
      subst hB
      simp [AllOb, Ob.holds, BE.den, std, stdCmp, stdArith] <;> omega
    case hQ =>
    intro X7 a0 w1 hF
    refine wp_ret ?_
    refine (ret_x (fn := Try.f90) T90_ok hF (rs := [.tmp 4]) rfl (rfl) ?_ (⟨0, fun _ => A1, fun _ => c1, fun _ => ⟨#[]⟩⟩) [] ?_ ?_ ?_).1
    · subst hB; simp [AllOb, Ob.holds]
    · subst hB; exact Sim.resl (by rw [← hg, firsts_len]) (fun t ht => by rw [← hg, firsts_len] at ht; rw [← hg, firsts_get _ _ t ht])
    · subst hB; exact ⟨rfl, ⟨_, rfl, SimL.refl _⟩, trivial⟩
    · exact trivial
theorem mwo_m (k0 : Nat) (b : Nat) (A : Option Addr) (n c : Nat) (f : Nat → Itm) (hn : n ≤ 1000000) (key : Int) : SpecX Try.prog 90 [.ptr k0 b 0, .int .u64 key] [(k0, ⟨b, 91, [rowI A n c f]⟩)] (fun x => ⟨rowI (x.A 0) (dropL (firsts f n) key).length (x.c 0) (itF (dropL (firsts f n) key)), [(k0, [rowI A n c f])], []⟩) :=
  (mwo_m0 b A n c f hn key).re (by repeat (first | exact trivial | refine ⟨Sim.ptr, ?_⟩ | refine ⟨Sim.fn ⟨Sim.ptr, trivial⟩ trivial, ?_⟩ | refine ⟨Sim.refl _, ?_⟩)) rfl (fun x => ⟨rfl, rfl, Sim.refl _, rfl⟩)
end Go.Proofs.Ytkamdppnnhjajaa.Sym
