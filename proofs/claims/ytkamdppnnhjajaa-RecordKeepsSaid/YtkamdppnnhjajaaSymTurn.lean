/-
  Find; With and Without where they are refused (printed by a program of mine). Conditions: none.
-/
import Derived.Test.YtkamdppnnhjajaaSymMap2
import Derived.Test.YtkamdppnnhjajaaItWout
namespace Go.Proofs.Ytkamdppnnhjajaa.Sym
open Go Go.RowKit
set_option maxRecDepth 100000
set_option linter.unusedVariables false
set_option linter.unusedSimpArgs false
def T63 : List (Nat × TI) := [(4, ti4), (23, ti23), (53, ti53)]
theorem T63_ok : TabOK Try.prog T63 := .cons t4 (.cons t23 (.cons t53 (.nil)))
theorem enters63 : Enters Try.prog 63 := fun _ _ => by kernel_rfl
theorem fnd1_m0 (b : Nat) (key k : Int) (v : ByteArray) : SpecX Try.prog 63 [.agg [.int .u64 k, .str v], .ptr 0 b 0] [(0, ⟨b, 23, [.int .u64 key]⟩)] (fun _ => ⟨.bool (.v (decide (k = key))), [(0, [.int .u64 key])], []⟩) := by
  intro m w hm hargs hpre
  refine enterX hm hpre hargs Try.func63 rfl (by simp [Try.ntmps63]) fun a0 hF => ?_
  simp only [Try.ntmps63, startT] at hF
  obtain ⟨B, hB⟩ : ∃ B, B = std := ⟨_, rfl⟩
  refine wp_seq ?_
  apply region_okB hB T63_ok [1, 2] [0, 2] [] hF
  case hex => intro A X; conv => lhs; cbv
  case hob =>
    intro X
    subst hB
    simp [AllOb, Ob.holds, BE.den, std, stdCmp, stdArith] <;> omega
  case hQ =>
  intro X0 a0 w1 hF
  refine wp_seq ?_
  apply region_okB hB T63_ok [3] [0] [] hF
  case hex => intro A X; conv => lhs; cbv
  case hob =>
    intro X
    subst hB
    repeat (first | exact trivial | refine ⟨rfl, ?_⟩ | refine ⟨fun _ => rfl, ?_⟩ | refine ⟨ob_lab _ _ _ _, ?_⟩ | refine ⟨fun _ => ob_lab _ _ _ _, ?_⟩)
  case hQ =>
  intro X1 a0 w1 hF
  refine wp_ret ?_
  refine (ret_x (fn := Try.f63) T63_ok hF (rs := [.tmp 3]) rfl (rfl) ?_ noAtom [] ?_ ?_ ?_).1
  · subst hB; simp [AllOb, Ob.holds]
  · subst hB; exact Sim.bool rfl
  · subst hB; first | exact trivial | exact ⟨rfl, ⟨_, rfl, SimL.refl _⟩, trivial⟩
  · exact trivial
theorem fnd1_m (k0 : Nat) (b : Nat) (key k : Int) (v : ByteArray) : SpecX Try.prog 63 [.agg [.int .u64 k, .str v], .ptr k0 b 0] [(k0, ⟨b, 23, [.int .u64 key]⟩)] (fun _ => ⟨.bool (.v (decide (k = key))), [(k0, [.int .u64 key])], []⟩) :=
  (fnd1_m0 b key k v).re (by repeat (first | exact trivial | refine ⟨Sim.ptr, ?_⟩ | refine ⟨Sim.fn ⟨Sim.ptr, trivial⟩ trivial, ?_⟩ | refine ⟨Sim.fn trivial ⟨Sim.ptr, trivial⟩, ?_⟩ | refine ⟨Sim.refl _, ?_⟩)) rfl (fun x => ⟨rfl, rfl, Sim.refl _, rfl⟩)
def T62 : List (Nat × TI) := [(3, ti3), (22, ti22), (53, ti53)]
theorem T62_ok : TabOK Try.prog T62 := .cons t3 (.cons t22 (.cons t53 (.nil)))
theorem enters62 : Enters Try.prog 62 := fun _ _ => by kernel_rfl
theorem idxf_m0 (b : Nat) (A : Option Addr) (n c : Nat) (f : Nat → Itm) (hn : n ≤ 1000000) (key : Int) : SpecX Try.prog 62 [rowI A n c f, .fn 63 [] [.ptr 0 b 0]] [(0, ⟨b, 23, [.int .u64 key]⟩)] (fun _ => ⟨.int .i64 (idxF (fun t => decide ((f t).key = key)) n), [(0, [.int .u64 key])], []⟩) := by
  intro m w hm hargs hpre
  have hmx : maxLen = 9223372036854775807 := rfl
  unfold rowI at hargs
  refine enterX hm hpre hargs Try.func62 rfl (by simp [Try.ntmps62]) fun a0 hF => ?_
  simp only [Try.ntmps62, startT] at hF
  obtain ⟨B, hB⟩ : ∃ B, B = std := ⟨_, rfl⟩
  refine wp_seq ?_
  apply region_okB hB T62_ok [0, 1] [0] [] hF
  case hex => intro A X; conv => lhs; cbv
  case hob =>
    intro X
    subst hB
    simp [AllOb, Ob.holds, BE.den, std, stdCmp, stdArith] <;> omega
  case hQ =>
  intro X0 a0 w1 hF
  refine wp_seq ?_
  refine wp_seq ?_
  apply region_okB hB T62_ok [8, 0, 1, 7] [0] [] hF
  case hex => intro A X; conv => lhs; cbv
  case hob =>
    intro X
    subst hB
    simp [AllOb, Ob.holds, BE.den, std, stdCmp, stdArith] <;> omega
  case hQ =>
  intro X1 a0 w1 hF
  refine wp_block ?_
  refine loop_pre (ι := Nat) (fun p => [(8, .int .i64 (p : Int))]) (fun p => []) (fun p => []) (fun p => p ≤ n ∧ ∀ t, t < p → decide ((f t).key = key) = false) (fun p => n - p) 0 ⟨Nat.zero_le _, fun t ht => absurd ht (Nat.not_lt_zero _)⟩ hF ?_
  rintro i ⟨hi, hlt⟩ a0 w1 hF
  try dsimp only at hi
  try dsimp only at hlt
  refine wp_seq ?_
  apply region_okB hB T62_ok [9, 8, 0, 1, 7] [0] [] hF
  case hex => intro A X; conv => lhs; cbv
  case hob =>
    intro X
    subst hB
    simp [AllOb, Ob.holds, BE.den, std, stdCmp, stdArith] <;> omega
  case hQ =>
  intro X2 a0 w1 hF
  refine wp_seq ?_
  refine test_ok hF rfl (fun hb hF => ?_) (fun hb hF => ?_)
  · skip
    have hin : i < n := by
      have : (i : Int) < (n : Int) := by subst hB; simpa [std, stdCmp] using hb
      omega
    have S := fnd1_m0 b key (f i).key (f i).val
    obtain ⟨q, hq⟩ : ∃ q, q = decide ((f i).key = key) := ⟨_, rfl⟩
    rw [← hq] at S
    refine wp_skip ?_
    refine wp_seq ?_
    refine wp_block ?_
    refine wp_seq ?_
    apply region_okB hB T62_ok [5, 8, 0, 1, 7] [0] [] hF
    case hex => intro A X; conv => lhs; cbv
    case hob =>
      intro X
      subst hB
      simp [AllOb, Ob.holds, BE.den, std, stdCmp, stdArith] <;> omega
    case hQ =>
    intro X3 a0 w1 hF
    refine wp_seq ?_
    apply region_okB hB T62_ok [16, 5, 8, 0, 1, 7] [0] [(5, .x fun _ => ⟨.bool (.v q), [(0, [.int .u64 key])], []⟩)] hF
    case hex => intro A X; conv => lhs; cbv
    case hob =>
      intro X
      subst hB
      repeat (first | exact trivial | refine ⟨rfl, ?_⟩ | refine ⟨⟨show (0 : Int) ≤ (i : Int) by omega, show (i : Int) < (n : Int) by omega⟩, ?_⟩ | refine ⟨⟨enters63, S⟩, ?_⟩)
    case hQ =>
    intro X4 a0 w1 hF
    refine test_ok hF rfl (fun hb hF => ?_) (fun hb hF => ?_)
    · skip
      have hqt : q = true := hb
      refine wp_seq ?_
      apply region_okB hB T62_ok [4] [0] [] hF
      case hex => intro A X; conv => lhs; cbv
      case hob =>
        intro X
        subst hB
        simp [AllOb, Ob.holds, BE.den, std, stdCmp, stdArith] <;> omega
      case hQ =>
      intro X5 a0 w1 hF
      refine wp_ret ?_
      refine (ret_x (fn := Try.f62) T62_ok hF (rs := [.tmp 4]) rfl (rfl) ?_ noAtom [] ?_ ?_ ?_).1
      · subst hB; simp [AllOb, Ob.holds]
      · subst hB
        rw [idx_hit (p := fun t => decide ((f t).key = key)) hin hlt (by show decide ((f i).key = key) = true; rw [← hq]; exact hqt)]
        exact Sim.refl _
      · subst hB; first | exact trivial | exact ⟨rfl, ⟨_, rfl, SimL.refl _⟩, trivial⟩
      · exact trivial
    · skip
      have hqf : q = false := hb
      refine wp_skip ?_
      apply region_okB hB T62_ok [8, 0, 1, 7] [0] [] hF
      case hex => intro A X; conv => lhs; cbv
      case hob =>
        intro X
        subst hB
        simp [AllOb, Ob.holds, BE.den, std, stdCmp, stdArith] <;> omega
      case hQ =>
      intro X6 a0 w1 hF
      have e : B.arith .add .i64 (i : Int) 1 = ((i + 1 : Nat) : Int) := by subst hB; exact wrap_succ (n := n) hin (by omega)
      refine ⟨i + 1, ⟨by omega, fun t ht => ?_⟩, by omega, by rw [← e]; exact hF⟩
      by_cases h : t = i
      · rw [h, ← hq]; exact hqf
      · exact hlt t (by omega)
  · skip
    have hout : i = n := by
      have : ¬ (i : Int) < (n : Int) := by subst hB; simpa [std, stdCmp] using hb
      omega
    rw [hout] at hlt
    refine wp_exit ?_
    refine wp_seq ?_
    apply region_okB hB T62_ok [4] [0] [] hF
    case hex => intro A X; conv => lhs; cbv
    case hob =>
      intro X
      subst hB
      simp [AllOb, Ob.holds, BE.den, std, stdCmp, stdArith] <;> omega
    case hQ =>
    intro X7 a0 w1 hF
    refine wp_ret ?_
    refine (ret_x (fn := Try.f62) T62_ok hF (rs := [.tmp 4]) rfl (rfl) ?_ noAtom [] ?_ ?_ ?_).1
    · subst hB; simp [AllOb, Ob.holds]
    · subst hB
      rw [idx_miss (p := fun t => decide ((f t).key = key)) hlt]
      exact Sim.refl _
    · subst hB; first | exact trivial | exact ⟨rfl, ⟨_, rfl, SimL.refl _⟩, trivial⟩
    · exact trivial
theorem idxf_m (k0 : Nat) (b : Nat) (A : Option Addr) (n c : Nat) (f : Nat → Itm) (hn : n ≤ 1000000) (key : Int) : SpecX Try.prog 62 [rowI A n c f, .fn 63 [] [.ptr k0 b 0]] [(k0, ⟨b, 23, [.int .u64 key]⟩)] (fun _ => ⟨.int .i64 (idxF (fun t => decide ((f t).key = key)) n), [(k0, [.int .u64 key])], []⟩) :=
  (idxf_m0 b A n c f hn key).re (by repeat (first | exact trivial | refine ⟨Sim.ptr, ?_⟩ | refine ⟨Sim.fn ⟨Sim.ptr, trivial⟩ trivial, ?_⟩ | refine ⟨Sim.fn trivial ⟨Sim.ptr, trivial⟩, ?_⟩ | refine ⟨Sim.refl _, ?_⟩)) rfl (fun x => ⟨rfl, rfl, Sim.refl _, rfl⟩)
def T23 : List (Nat × TI) := [(3, ti3), (4, ti4), (9, ti9), (22, ti22), (23, ti23), (27, ti27), (53, ti53), (95, ti95)]
theorem T23_ok : TabOK Try.prog T23 := .cons t3 (.cons t4 (.cons t9 (.cons t22 (.cons t23 (.cons t27 (.cons t53 (.cons t95 (.nil))))))))
theorem enters23 : Enters Try.prog 23 := fun _ _ => by kernel_rfl
theorem find_s (A : Option Addr) (n c : Nat) (f : Nat → Itm) (hn : n ≤ 1000000) (kd : Int) (nx : Lab) (mk : Int) (key : Int) : Spec Try.prog 23 [recI A n c f kd nx mk, .int .u64 key] (fun _ => .tup [.str (findS (firsts f n) key), .bool (.v (findB (firsts f n) key))]) := by
  intro m w hm hargs
  have hmx : maxLen = 9223372036854775807 := rfl
  have HC := idx_cases (fun t => decide ((f t).key = key)) n
  obtain ⟨ix, hix⟩ : ∃ x, x = (idxF (fun t => decide ((f t).key = key)) n) := ⟨_, rfl⟩
  rw [← hix] at HC
  unfold recI rowI at hargs
  refine enter hm hargs Try.func23 rfl (by simp [Try.ntmps23]) fun a0 hF => ?_
  simp only [Try.ntmps23, startT] at hF
  obtain ⟨B, hB⟩ : ∃ B, B = std := ⟨_, rfl⟩
  refine wp_seq ?_
  apply region_okB hB T23_ok [2, 3] [2, 3] [] hF
  case hex => intro A X; conv => lhs; cbv
  case hob =>
    intro X
    subst hB
    simp [AllOb, Ob.holds, BE.den, std, stdCmp, stdArith] <;> omega
  case hQ =>
  intro X0 a0 w1 hF
  have S := idxf_m 3 (X0 1).b A n c f hn key
  rw [← hix] at S
  unfold rowI at S
  refine wp_seq ?_
  apply region_okB hB T23_ok [12, 6, 2] [2] [(3, .x fun _ => ⟨.int .i64 ix, [(3, [.int .u64 key])], []⟩)] hF
  case hex => intro A X; conv => lhs; cbv
  case hob =>
    intro X
    subst hB
    repeat (first | exact trivial | refine ⟨rfl, ?_⟩ | refine ⟨fun _ => rfl, ?_⟩ | refine ⟨ob_lab _ _ _ _, ?_⟩ | refine ⟨fun _ => ob_lab _ _ _ _, ?_⟩ | refine ⟨⟨enters62, S⟩, ?_⟩ | refine ⟨fun _ => ⟨enters62, S⟩, ?_⟩)
  case hQ =>
  intro X1 a0 w1 hF
  refine wp_seq ?_
  refine wp_seq ?_
  apply region_okB hB T23_ok [12, 2, 6] [2] [] hF
  case hex => intro A X; conv => lhs; cbv
  case hob =>
    intro X
    subst hB
    simp [AllOb, Ob.holds, BE.den, std, stdCmp, stdArith] <;> omega
  case hQ =>
  intro X2 a0 w1 hF
  refine test_ok hF rfl (fun hb hF => ?_) (fun hb hF => ?_)
  · skip
    have hneg : ix < 0 := by subst hB; simpa [std, stdCmp] using hb
    have hmiss : ∀ t, t < n → (f t).key ≠ key := by
      rcases HC with ⟨i, h1, h2, h3, h4⟩ | ⟨h1, h2⟩
      · omega
      · intro t ht; simpa using h2 t ht
    have hfd := find_miss hmiss
    have hV : findS (firsts f n) key = ⟨#[]⟩ := by simp only [findS, hfd]
    have hE : findB (firsts f n) key = false := by simp only [findB, hfd]; rfl
    refine wp_seq ?_
    apply region_okB hB T23_ok [4, 5] [] [] hF
    case hex => intro A X; conv => lhs; cbv
    case hob =>
      intro X
      subst hB
      simp [AllOb, Ob.holds, BE.den, std, stdCmp, stdArith] <;> omega
    case hQ =>
    intro X3 a0 w1 hF
    refine wp_ret ?_
    refine ret_sim (fn := Try.f23) T23_ok hF (rs := [.tmp 4, .tmp 5]) rfl (rfl) ?_ noAtom ?_
    · simp [AllOb, Ob.holds]
    · subst hB; rw [hV, hE]
      exact Sim.tup ⟨Sim.refl _, Sim.bool rfl, trivial⟩
  · skip
    have hneg : ¬ ix < 0 := by subst hB; simpa [std, stdCmp] using hb
    obtain ⟨i, hin, hixi, hk, hm⟩ : ∃ i, i < n ∧ ix = (i : Int) ∧ (f i).key = key ∧ ∀ t, t < i → (f t).key ≠ key := by
      rcases HC with ⟨i, h1, h2, h3, h4⟩ | ⟨h1, h2⟩
      · exact ⟨i, h1, h2, by simpa using h3, fun t ht => by simpa using h4 t ht⟩
      · omega
    have hfd := find_hit hin hm hk
    have hV : findS (firsts f n) key = (f i).val := by simp only [findS, hfd]
    have hE : findB (firsts f n) key = true := by simp only [findB, hfd]; rfl
    refine wp_skip ?_
    refine wp_seq ?_
    apply region_okB hB T23_ok [4, 5] [] [] hF
    case hex => intro A X; conv => lhs; cbv
    case hob =>
      intro X
      subst hB
      refine ⟨rfl, ⟨?_, ?_⟩, trivial⟩
      · show 0 ≤ ix; omega
      · show ix < (n : Int); omega
    case hQ =>
    intro X4 a0 w1 hF
    refine wp_ret ?_
    refine ret_sim (fn := Try.f23) T23_ok hF (rs := [.tmp 4, .tmp 5]) rfl (rfl) ?_ noAtom ?_
    · simp [AllOb, Ob.holds]
    · subst hB; rw [hV, hE]
      refine Sim.tup ⟨?_, Sim.bool rfl, trivial⟩
      show Sim (.str (f (ix.toNat)).val) _
      rw [hixi, Int.toNat_natCast]
      exact Sim.refl _
theorem with_ref (A : Option Addr) (n c : Nat) (f : Nat → Itm) (hn : n ≤ 1000000) (kd : Int) (nx : Lab) (mk : Int) (hv : U64 nx.bits) (key : Int) (val : ByteArray) (href : isRF kd n f nx mk = false ∨ kd ≠ 1 ∨ 64 < val.size ∨ (hitF f key n (bsF f key 0 n) = false ∧ n = 16)) : Spec Try.prog 19 [recI A n c f kd nx mk, .int .u64 key, .str val] (fun _ => .tup [recAV none 0 zeroRec, .int .i64 (if isRF kd n f nx mk = false then 1 else if kd ≠ 1 then 13 else if 64 < val.size then 2 else 12)]) := by
  intro m w hm hargs
  have hmx : maxLen = 9223372036854775807 := rfl
  have SA := at_s A n c f hn key
  have SI := isR_s A n c f (by omega) kd nx mk hv
  unfold recI rowI at SI hargs
  unfold rowI at SA
  generalize hitF f key n (bsF f key 0 n) = hh at SA href
  generalize bsF f key 0 n = p at SA
  generalize isRF kd n f nx mk = ir at SI href ⊢
  refine enter hm hargs Try.func19 rfl (by simp [Try.ntmps19]) fun a0 hF => ?_
  simp only [Try.ntmps19, startT] at hF
  obtain ⟨B, hB⟩ : ∃ B, B = std := ⟨_, rfl⟩
  refine wp_seq ?_
  apply region_okB hB T19_ok [1, 2, 3, 6] [3, 6] [] hF
  case hex => intro A X; conv => lhs; cbv
  case hob =>
    intro X
    subst hB
    simp [AllOb, Ob.holds, BE.den, std, stdCmp, stdArith] <;> omega
  case hQ =>
  intro X0 a0 w1 hF
  refine wp_seq ?_
  apply region_okB hB T19_ok [9, 2, 3, 6] [3, 6] [(3, .r fun _ => .tup [.int .i64 (p : Int), .bool (.v hh)])] hF
  case hex => intro A X; conv => lhs; cbv
  case hob =>
    intro X
    subst hB
    repeat (first | exact trivial | refine ⟨rfl, ?_⟩ | refine ⟨fun _ => rfl, ?_⟩ | refine ⟨ob_lab _ _ _ _, ?_⟩ | refine ⟨fun _ => ob_lab _ _ _ _, ?_⟩ | refine ⟨⟨enters55, SA⟩, ?_⟩ | refine ⟨fun _ => ⟨enters55, SA⟩, ?_⟩)
  case hQ =>
  intro X1 a0 w1 hF
  refine wp_seq ?_
  refine wp_block ?_
  refine wp_seq ?_
  apply region_okB hB T19_ok [17, 9, 2, 3, 6] [3, 6] [(1, .r fun _ => .bool (.v ir))] hF
  case hex => intro A X; conv => lhs; cbv
  case hob =>
    intro X
    subst hB
    repeat (first | exact trivial | refine ⟨rfl, ?_⟩ | refine ⟨fun _ => rfl, ?_⟩ | refine ⟨ob_lab _ _ _ _, ?_⟩ | refine ⟨fun _ => ob_lab _ _ _ _, ?_⟩ | refine ⟨⟨enters15, SI⟩, ?_⟩ | refine ⟨fun _ => ⟨enters15, SI⟩, ?_⟩)
  case hQ =>
  intro X2 a0 w1 hF
  refine test_ok hF rfl (fun hb hF => ?_) (fun hb hF => ?_)
  · skip
    have hb2 : B.not ir = true := hb
    have hirf : ir = false := by subst hB; cases ir <;> first | rfl | (simp [std] at hb2)
    subst hirf
    refine wp_seq ?_
    apply region_okB hB T19_ok [6, 7] [6] [] hF
    case hex => intro A X; conv => lhs; cbv
    case hob =>
      intro X
      subst hB
      repeat (first | exact trivial | refine ⟨rfl, ?_⟩ | refine ⟨fun _ => rfl, ?_⟩ | refine ⟨ob_lab _ _ _ _, ?_⟩ | refine ⟨fun _ => ob_lab _ _ _ _, ?_⟩)
    case hQ =>
    intro X3 a0 w1 hF
    refine wp_ret ?_
    refine ret_sim (fn := Try.f19) T19_ok hF (rs := [.cell 6 27, .tmp 7]) rfl (by conv => lhs; cbv) ?_ (⟨0, fun _ => none, fun _ => 0, fun _ => ⟨#[]⟩⟩) ?_
    · simp [AllOb, Ob.holds]
    · subst hB
      simp only [if_true]
      exact Sim.tup ⟨Sim.agg ⟨Sim.refl _, Sim.recell (fun i hi => absurd hi (Nat.not_lt_zero _)), Sim.refl _, Sim.refl _, Sim.refl _, trivial⟩, Sim.refl _, trivial⟩
  · skip
    have hb2 : B.not ir = false := hb
    have hirt : ir = true := by subst hB; cases ir <;> first | rfl | (simp [std] at hb2)
    subst hirt
    refine wp_seq ?_
    apply region_okB hB T19_ok [22, 9, 2, 3, 6] [3, 6] [] hF
    case hex => intro A X; conv => lhs; cbv
    case hob =>
      intro X
      subst hB
      repeat (first | exact trivial | refine ⟨rfl, ?_⟩ | refine ⟨fun _ => rfl, ?_⟩ | refine ⟨ob_lab _ _ _ _, ?_⟩ | refine ⟨fun _ => ob_lab _ _ _ _, ?_⟩)
    case hQ =>
    intro X4 a0 w1 hF
    refine test_ok hF rfl (fun hb hF => ?_) (fun hb hF => ?_)
    · skip
      have hk : kd ≠ 1 := by subst hB; simpa [std, stdCmp] using hb
      refine wp_seq ?_
      apply region_okB hB T19_ok [6, 7] [6] [] hF
      case hex => intro A X; conv => lhs; cbv
      case hob =>
        intro X
        subst hB
        repeat (first | exact trivial | refine ⟨rfl, ?_⟩ | refine ⟨fun _ => rfl, ?_⟩ | refine ⟨ob_lab _ _ _ _, ?_⟩ | refine ⟨fun _ => ob_lab _ _ _ _, ?_⟩)
      case hQ =>
      intro X5 a0 w1 hF
      refine wp_ret ?_
      refine ret_sim (fn := Try.f19) T19_ok hF (rs := [.cell 6 27, .tmp 7]) rfl (by conv => lhs; cbv) ?_ (⟨0, fun _ => none, fun _ => 0, fun _ => ⟨#[]⟩⟩) ?_
      · simp [AllOb, Ob.holds]
      · subst hB
        simp only [hk, if_true, if_false, Bool.true_eq_false, ne_eq, not_false_eq_true]
        exact Sim.tup ⟨Sim.agg ⟨Sim.refl _, Sim.recell (fun i hi => absurd hi (Nat.not_lt_zero _)), Sim.refl _, Sim.refl _, Sim.refl _, trivial⟩, Sim.refl _, trivial⟩
    · skip
      have hk : kd = 1 := by subst hB; simpa [std, stdCmp] using hb
      refine wp_seq ?_
      apply region_okB hB T19_ok [27, 9, 3, 6] [3, 6] [] hF
      case hex => intro A X; conv => lhs; cbv
      case hob =>
        intro X
        subst hB
        repeat (first | exact trivial | refine ⟨rfl, ?_⟩ | refine ⟨fun _ => rfl, ?_⟩ | refine ⟨ob_lab _ _ _ _, ?_⟩ | refine ⟨fun _ => ob_lab _ _ _ _, ?_⟩)
      case hQ =>
      intro X6 a0 w1 hF
      refine test_ok hF rfl (fun hb hF => ?_) (fun hb hF => ?_)
      · skip
        have hlong : 64 < val.size := by
          have : (64 : Int) < (val.size : Int) := by subst hB; simpa [std, stdCmp] using hb
          omega
        refine wp_seq ?_
        apply region_okB hB T19_ok [6, 7] [6] [] hF
        case hex => intro A X; conv => lhs; cbv
        case hob =>
          intro X
          subst hB
          repeat (first | exact trivial | refine ⟨rfl, ?_⟩ | refine ⟨fun _ => rfl, ?_⟩ | refine ⟨ob_lab _ _ _ _, ?_⟩ | refine ⟨fun _ => ob_lab _ _ _ _, ?_⟩)
        case hQ =>
        intro X7 a0 w1 hF
        refine wp_ret ?_
        refine ret_sim (fn := Try.f19) T19_ok hF (rs := [.cell 6 27, .tmp 7]) rfl (by conv => lhs; cbv) ?_ (⟨0, fun _ => none, fun _ => 0, fun _ => ⟨#[]⟩⟩) ?_
        · simp [AllOb, Ob.holds]
        · subst hB
          simp only [hk, hlong, if_true, if_false, Bool.true_eq_false, ne_eq, not_true_eq_false]
          exact Sim.tup ⟨Sim.agg ⟨Sim.refl _, Sim.recell (fun i hi => absurd hi (Nat.not_lt_zero _)), Sim.refl _, Sim.refl _, Sim.refl _, trivial⟩, Sim.refl _, trivial⟩
      · skip
        have hlong : ¬ 64 < val.size := by
          have : ¬ (64 : Int) < (val.size : Int) := by subst hB; simpa [std, stdCmp] using hb
          omega
        refine wp_seq ?_
        apply region_okB hB T19_ok [32, 3, 6] [3, 6] [] hF
        case hex => intro A X; conv => lhs; cbv
        case hob =>
          intro X
          subst hB
          simp [AllOb, Ob.holds, BE.den, std, stdCmp, stdArith] <;> omega
        case hQ =>
        intro X8 a0 w1 hF
        refine test_ok hF rfl (fun hb hF => ?_) (fun hb hF => ?_)
        · skip
          skip
          refine wp_seq ?_
          apply region_okB hB T19_ok [6, 7] [6] [] hF
          case hex => intro A X; conv => lhs; cbv
          case hob =>
            intro X
            subst hB
            repeat (first | exact trivial | refine ⟨rfl, ?_⟩ | refine ⟨fun _ => rfl, ?_⟩ | refine ⟨ob_lab _ _ _ _, ?_⟩ | refine ⟨fun _ => ob_lab _ _ _ _, ?_⟩)
          case hQ =>
          intro X9 a0 w1 hF
          refine wp_ret ?_
          refine ret_sim (fn := Try.f19) T19_ok hF (rs := [.cell 6 27, .tmp 7]) rfl (by conv => lhs; cbv) ?_ (⟨0, fun _ => none, fun _ => 0, fun _ => ⟨#[]⟩⟩) ?_
          · simp [AllOb, Ob.holds]
          · subst hB
            simp only [hk, hlong, if_true, if_false, Bool.true_eq_false, ne_eq, not_true_eq_false]
            exact Sim.tup ⟨Sim.agg ⟨Sim.refl _, Sim.recell (fun i hi => absurd hi (Nat.not_lt_zero _)), Sim.refl _, Sim.refl _, Sim.refl _, trivial⟩, Sim.refl _, trivial⟩
        · exfalso
          rcases href with h | h | h | ⟨h, h2⟩
          · cases h
          · exact h hk
          · exact hlong h
          · subst h h2
            subst hB
            simp [std, stdCmp] at hb
def T21 : List (Nat × TI) := [(3, ti3), (4, ti4), (22, ti22), (23, ti23), (27, ti27)]
theorem T21_ok : TabOK Try.prog T21 := .cons t3 (.cons t4 (.cons t22 (.cons t23 (.cons t27 (.nil)))))
theorem enters21 : Enters Try.prog 21 := fun _ _ => by kernel_rfl
theorem wout_ref (A : Option Addr) (n c : Nat) (f : Nat → Itm) (hn : n ≤ 1000000) (kd : Int) (nx : Lab) (mk : Int) (hv : U64 nx.bits) (key : Int) (href : (isRF kd n f nx mk && hitF f key n (bsF f key 0 n)) = false) : Spec Try.prog 21 [recI A n c f kd nx mk, .int .u64 key] (fun _ => .tup [recI A n c f kd nx mk, .bool (.v false)]) := by
  intro m w hm hargs
  have hmx : maxLen = 9223372036854775807 := rfl
  have SA := at_s A n c f hn key
  have SI := isR_s A n c f (by omega) kd nx mk hv
  unfold recI rowI at SI hargs ⊢
  unfold rowI at SA
  generalize hitF f key n (bsF f key 0 n) = hh at SA href
  generalize bsF f key 0 n = p at SA
  generalize isRF kd n f nx mk = ir at SI href
  refine enter hm hargs Try.func21 rfl (by simp [Try.ntmps21]) fun a0 hF => ?_
  simp only [Try.ntmps21, startT] at hF
  obtain ⟨B, hB⟩ : ∃ B, B = std := ⟨_, rfl⟩
  refine wp_seq ?_
  apply region_okB hB T21_ok [1, 2, 4] [2, 4] [] hF
  case hex => intro A X; conv => lhs; cbv
  case hob =>
    intro X
    subst hB
    simp [AllOb, Ob.holds, BE.den, std, stdCmp, stdArith] <;> omega
  case hQ =>
  intro X0 a0 w1 hF
  refine wp_seq ?_
  apply region_okB hB T21_ok [7, 2, 4] [2, 4] [(3, .r fun _ => .tup [.int .i64 (p : Int), .bool (.v hh)])] hF
  case hex => intro A X; conv => lhs; cbv
  case hob =>
    intro X
    subst hB
    repeat (first | exact trivial | refine ⟨rfl, ?_⟩ | refine ⟨fun _ => rfl, ?_⟩ | refine ⟨ob_lab _ _ _ _, ?_⟩ | refine ⟨fun _ => ob_lab _ _ _ _, ?_⟩ | refine ⟨⟨enters55, SA⟩, ?_⟩ | refine ⟨fun _ => ⟨enters55, SA⟩, ?_⟩)
  case hQ =>
  intro X1 a0 w1 hF
  refine wp_seq ?_
  refine wp_seq ?_
  apply region_okB hB T21_ok [21, 2, 4] [2, 4] [(4, .r fun _ => .bool (.v ir))] hF
  case hex => intro A X; conv => lhs; cbv
  case hob =>
    intro X
    subst hB
    repeat (first | exact trivial | refine ⟨rfl, ?_⟩ | refine ⟨fun _ => rfl, ?_⟩ | refine ⟨ob_lab _ _ _ _, ?_⟩ | refine ⟨fun _ => ob_lab _ _ _ _, ?_⟩ | refine ⟨⟨enters15, SI⟩, ?_⟩ | refine ⟨fun _ => ⟨enters15, SI⟩, ?_⟩)
  case hQ =>
  intro X2 a0 w1 hF
  refine test_ok hF rfl (fun hb hF => ?_) (fun hb hF => ?_)
  · skip
    skip
    refine wp_seq ?_
    apply region_okB hB T21_ok [4, 5] [4] [] hF
    case hex => intro A X; conv => lhs; cbv
    case hob =>
      intro X
      subst hB
      repeat (first | exact trivial | refine ⟨rfl, ?_⟩ | refine ⟨fun _ => rfl, ?_⟩ | refine ⟨ob_lab _ _ _ _, ?_⟩ | refine ⟨fun _ => ob_lab _ _ _ _, ?_⟩)
    case hQ =>
    intro X3 a0 w1 hF
    refine wp_ret ?_
    refine ret_sim (fn := Try.f21) T21_ok hF (rs := [.cell 4 27, .tmp 5]) rfl (by conv => lhs; cbv) ?_ (⟨0, fun _ => none, fun _ => 0, fun _ => ⟨#[]⟩⟩) ?_
    · simp [AllOb, Ob.holds]
    · subst hB
      exact Sim.tup ⟨Sim.refl _, Sim.bool rfl, trivial⟩
  · exfalso
    have h9 : (if (!hh) = true then true else !ir) = false := by subst hB; exact hb
    cases ir <;> cases hh <;> simp at h9 href
end Go.Proofs.Ytkamdppnnhjajaa.Sym
