/-
  Records read: items and labels (printed by a program of mine). Conditions: none.
-/
import Derived.Test.YtkamdppnnhjajaaPlGet
import Derived.Test.YtkamdppnnhjajaaSymRec2
namespace Go.Proofs.Ytkamdppnnhjajaa.Sym
open Go Go.RowKit
set_option maxRecDepth 100000
set_option linter.unusedVariables false
set_option linter.unusedSimpArgs false
theorem num_dec (s : ByteArray) : (numE s ≠ 0 → decN (unB s) = .error (numE s)) ∧ (numE s = 0 → ∃ k r, decN (unB s) = .ok (k, r) ∧ numV s = (k : Int) ∧ numR s = mkB r ∧ k < 18446744073709551616) := by
  rcases num_cases s with ⟨h1, h2, h3⟩ | ⟨h1, n, r, h2, h3, h4⟩
  · exact ⟨fun _ => h2, fun h => absurd h h1⟩
  · exact ⟨fun h => absurd h1 h, fun _ => ⟨n, r, h2, h3, by simp only [numR, h2]; rfl, (decN_ok h2).2⟩⟩
theorem txt_dec (s : ByteArray) : (txtE s ≠ 0 → decT (unB s) = .error (txtE s)) ∧ (txtE s = 0 → ∃ t r, decT (unB s) = .ok (t, r) ∧ txtV s = mkB t ∧ txtR s = mkB r) := by
  cases h : decT (unB s) with
  | error e =>
    have he : txtE s = e := by simp only [txtE, h]; rfl
    rw [he]
    refine ⟨fun _ => rfl, fun h0 => ?_⟩
    rcases decT_err h with rfl | rfl <;> exact absurd h0 (by decide)
  | ok x =>
    obtain ⟨t, r⟩ := x
    exact ⟨fun h0 => absurd (by simp only [txtE, h]; rfl) h0, fun _ => ⟨t, r, rfl, by simp only [txtV, h]; rfl, by simp only [txtR, h]; rfl⟩⟩
theorem lab_dec (s : ByteArray) : (labE s ≠ 0 → decL (unB s) = .error (labE s)) ∧ (labE s = 0 → ∃ r, decL (unB s) = .ok (labV s, r) ∧ labR s = mkB r) := by
  cases h : decL (unB s) with
  | error e =>
    have he : labE s = e := by simp only [labE, h]; rfl
    rw [he]
    refine ⟨fun _ => rfl, fun h0 => ?_⟩
    rcases decL_err h with rfl | rfl <;> exact absurd h0 (by decide)
  | ok x =>
    obtain ⟨t, r⟩ := x
    have hv : labV s = t := by simp only [labV, h]; rfl
    exact ⟨fun h0 => absurd (by simp only [labE, h]; rfl) h0, fun _ => ⟨r, by rw [hv], by simp only [labR, h]; rfl⟩⟩
theorem late_test (f : Nat → Itm) (i k : Nat) (hi : i ≤ 1000) : (if ((i : Int) == 0) = true then true else decide ((k : Int) > (f (IntKind.i64.wrap ((i : Int) - 1)).toNat).key)) = !late (lastK f i) k := by
  unfold late lastK
  by_cases h : i = 0
  · subst h; rfl
  · have h1 : ((i : Int) == 0) = false := by simp [h]
    rw [h1, if_neg h, wrap_in (by omega) (by omega), show ((i : Int) - 1).toNat = i - 1 by omega]
    simp only [Bool.false_eq_true, if_false]
    by_cases h2 : (k : Int) ≤ (f (i - 1)).key
    · simp [h2]
    · simp [h2]; omega
def T48 : List (Nat × TI) := [(3, ti3), (4, ti4), (9, ti9), (22, ti22), (23, ti23), (29, ti29), (53, ti53), (67, ti67)]
theorem T48_ok : TabOK Try.prog T48 := .cons t3 (.cons t4 (.cons t9 (.cons t22 (.cons t23 (.cons t29 (.cons t53 (.cons t67 (.nil))))))))
theorem enters48 : Enters Try.prog 48 := fun _ _ => by kernel_rfl
theorem items_o0 (b : Nat) (s : ByteArray) : SpecO Try.prog 48 [.ptr 0 b 0] [(0, ⟨b, 105, [.str s]⟩)] (fun x => match decItems (unB s) with | .error e => .thr (.iface 29 (.int .i64 e)) [(0, [.str (x.s 0)])] | .ok (l, r) => .ret ⟨rowI (x.A 0) l.length (x.c 0) (itF l), [(0, [.str (mkB r)])], []⟩) := by
  intro m w hm hargs hpre
  have hmx : maxLen = 9223372036854775807 := rfl
  refine enterX hm hpre hargs Try.func48 rfl (by simp [Try.ntmps48]) fun a0 hF => ?_
  simp only [Try.ntmps48, startT] at hF
  obtain ⟨B, hB⟩ : ∃ B, B = std := ⟨_, rfl⟩
  refine wp_seq ?_
  apply region_okB hB T48_ok [0] [0] [] hF
  case hex => intro A X; conv => lhs; cbv
  case hob =>
    intro X
    subst hB
    simp [AllOb, Ob.holds, BE.den, std, stdCmp, stdArith] <;> omega
  case hQ =>
  intro X0 a0 w1 hF
  refine wp_seq ?_
  have S1 := Number_m0 b s
  have D1 := num_dec s
  generalize numV s = v1 at S1 D1
  generalize numE s = e1 at S1 D1
  generalize numR s = q1 at S1 D1
  by_cases hc1 : e1 ≠ 0
  · refine wp_region_lit ?_
    apply list_preB 0 4 hB T48_ok [10, 11] [0] [(1, .x fun _ => ⟨.tup [.int .u64 v1, .int .i64 e1], [(0, [.str q1])], []⟩)] hF
    case hex => intro A X; conv => lhs; cbv
    case hob =>
      intro X
      subst hB; exact ⟨⟨enters46, S1⟩, trivial⟩
    case hQ =>
    intro X1_t a0 w1 hF
    refine man_out rfl rfl rfl rfl hF rfl rfl enters45 (mustno_u64 v1 e1 hc1) (SimL.refl _) (by intro e he; cases he) rfl rfl ?_
    intro x w' hF
    have hd1 := D1.1 hc1
    exact thr_out (P := Try.prog) (fn := Try.f48) hF ⟨0, fun _ => none, fun _ => 0, fun _ => q1⟩ (sets := [(0, [.str q1])]) (v := .iface 29 (.int .i64 e1)) (by unfold decItems; rw [hd1]) ⟨rfl, ⟨_, rfl, SimL.refl _⟩, trivial⟩
  have he1 : e1 = 0 := Decidable.not_not.1 hc1
  subst he1
  obtain ⟨k1, r1, hd1, hv1, hq1, hk1⟩ := D1.2 rfl
  apply region_okB hB T48_ok [0, 3] [0] [(1, .x fun _ => ⟨.tup [.int .u64 v1, .int .i64 0], [(0, [.str q1])], []⟩), (4, .r fun _ => .int .u64 v1)] hF
  case hex => intro A X; conv => lhs; cbv
  case hob =>
    intro X
    subst hB; exact ⟨⟨enters46, S1⟩, ⟨enters45, must_u64 _⟩, trivial⟩
  case hQ =>
  intro X1 a0 w1 hF
  refine wp_seq ?_
  by_cases hc2 : 16 < k1
  · refine wp_region_lit ?_
    apply list_preB 0 2 hB T48_ok [14] [0] [] hF
    case hex => intro A X; conv => lhs; cbv
    case hob =>
      intro X
      subst hB; exact trivial
    case hQ =>
    intro X2_t a0 w1 hF
    refine man_out rfl rfl rfl rfl hF rfl rfl enters47 (need_no (.v (B.cmp .leq v1 16)) 3 (by rw [hv1]; subst hB; simp [BE.den, std, stdCmp]; omega)) (SimL.refl _) (by intro e he; cases he) rfl rfl ?_
    intro x w' hF
    exact thr_out (P := Try.prog) (fn := Try.f48) hF ⟨0, fun _ => none, fun _ => 0, fun _ => q1⟩ (sets := [(0, [.str q1])]) (v := .iface 29 (.int .i64 3)) (by unfold decItems; rw [hd1]; simp [hc2]) ⟨rfl, ⟨_, rfl, SimL.refl _⟩, trivial⟩
  apply region_okB hB T48_ok [0, 3] [0] [(2, .r fun _ => .tup [])] hF
  case hex => intro A X; conv => lhs; cbv
  case hob =>
    intro X
    subst hB; exact ⟨⟨enters47, need_ok _ _ (by rw [hv1]; simp [BE.den, std, stdCmp]; omega)⟩, trivial⟩
  case hQ =>
  intro X2 a0 w1 hF
  refine wp_seq ?_
  apply region_okB hB T48_ok [0, 3, 4] [0, 4, 53] [] hF
  case hex => intro A X; conv => lhs; cbv
  case hob =>
    intro X
    subst hB
    simp [AllOb, Ob.holds, BE.den, std, stdCmp, stdArith] <;> omega
  case hQ =>
  intro X3 a0 w1 hF
  refine wp_seq ?_
  refine wp_seq ?_
  apply region_okB hB T48_ok [4, 18, 0, 17] [0, 4, 53] [] hF
  case hex => intro A X; conv => lhs; cbv
  case hob =>
    intro X
    subst hB
    simp [AllOb, Ob.holds, BE.den, std, stdCmp, stdArith] <;> omega
  case hQ =>
  intro X4 a0 w1 hF
  refine wp_block ?_
  have hJ0 : decItems (unB s) = app (firsts (fun _ => zeroItm) 0) (decIt (k1 - 0) (lastK (fun _ => zeroItm) 0) (unB q1)) := by
    unfold decItems
    rw [hd1, hq1, un_mk]
    simp only [hc2, if_false]
    exact (app_nil _).symm
  replace hF := hF.headS (v' := .sl (some 4) none 0 0 2 (fun t => itC zeroItm)) (Sim.recell (fun i hi => absurd hi (Nat.not_lt_zero _))) rfl
  refine loop_pre (ι := Nat × (Nat → Itm) × Option Addr × Nat × ByteArray) (fun p => [(4, .sl (some 4) p.2.2.1 p.1 p.2.2.2.1 2 (fun t => itC (p.2.1 t))), (18, .int .i64 (p.1 : Int))]) (fun p => [(0, ⟨b, 105, [.str p.2.2.2.2]⟩)]) (fun p => [(4, ⟨p.2.2.1, p.1, p.2.2.2.1, 2, 53⟩)]) (fun p => p.1 ≤ k1 ∧ decItems (unB s) = app (firsts p.2.1 p.1) (decIt (k1 - p.1) (lastK p.2.1 p.1) (unB p.2.2.2.2)) ∧ ∀ t, t < p.1 → U64 (p.2.1 t).key) (fun p => k1 - p.1) (0, fun _ => zeroItm, none, 0, q1) ⟨Nat.zero_le _, hJ0, fun t ht => absurd ht (Nat.not_lt_zero _)⟩ hF ?_
  rintro ⟨i, f, A, c, q⟩ ⟨hi, hdec, hku⟩ a0 w1 hF
  try dsimp only at hi
  try dsimp only at hdec
  try dsimp only at hku
  refine wp_seq ?_
  apply region_okB hB T48_ok [19, 4, 18, 0, 17] [0, 4, 53] [] hF
  case hex => intro A X; conv => lhs; cbv
  case hob =>
    intro X
    subst hB
    simp [AllOb, Ob.holds, BE.den, std, stdCmp, stdArith] <;> omega
  case hQ =>
  intro X5 a0 w1 hF
  refine wp_seq ?_
  refine test_ok hF rfl (fun hb hF => ?_) (fun hb hF => ?_)
  · skip
    have hin : i < k1 := by
      have : (i : Int) < IntKind.i64.wrap v1 := by subst hB; simpa [std, stdCmp] using hb
      rw [hv1, wrap_in (by omega) (by omega)] at this
      omega
    have hm : k1 - i = (k1 - i - 1) + 1 := by omega
    refine wp_skip ?_
    refine wp_seq ?_
    refine wp_block ?_
    refine wp_seq ?_
    apply region_okB hB T48_ok [5, 4, 18, 0, 17] [0, 4, 53] [] hF
    case hex => intro A X; conv => lhs; cbv
    case hob =>
      intro X
      subst hB
      simp [AllOb, Ob.holds, BE.den, std, stdCmp, stdArith] <;> omega
    case hQ =>
    intro X6 a0 w1 hF
    refine wp_seq ?_
    have S3 := Number_m0 b q
    have D3 := num_dec q
    generalize numV q = v3 at S3 D3
    generalize numE q = e3 at S3 D3
    generalize numR q = q3 at S3 D3
    by_cases hc3 : e3 ≠ 0
    · refine wp_region_lit ?_
      apply list_preB 0 4 hB T48_ok [23, 24] [0] [(1, .x fun _ => ⟨.tup [.int .u64 v3, .int .i64 e3], [(0, [.str q3])], []⟩)] hF
      case hex => intro A X; conv => lhs; cbv
      case hob =>
        intro X
        subst hB; exact ⟨⟨enters46, S3⟩, trivial⟩
      case hQ =>
      intro X7_t a0 w1 hF
      refine man_out rfl rfl rfl rfl hF rfl rfl enters45 (mustno_u64 v3 e3 hc3) (SimL.refl _) (by intro e he; cases he) rfl rfl ?_
      intro x w' hF
      have hd3 := D3.1 hc3
      exact thr_out (P := Try.prog) (fn := Try.f48) hF ⟨0, fun _ => none, fun _ => 0, fun _ => q3⟩ (sets := [(0, [.str q3])]) (v := .iface 29 (.int .i64 e3)) (by rw [hdec, hm, it_e1 hd3]; rfl) ⟨rfl, ⟨_, rfl, SimL.refl _⟩, trivial⟩
    have he3 : e3 = 0 := Decidable.not_not.1 hc3
    subst he3
    obtain ⟨k3, r3, hd3, hv3, hq3, hk3⟩ := D3.2 rfl
    apply region_okB hB T48_ok [6, 5, 4, 18, 0, 17] [0, 4, 53] [(1, .x fun _ => ⟨.tup [.int .u64 v3, .int .i64 0], [(0, [.str q3])], []⟩), (4, .r fun _ => .int .u64 v3)] hF
    case hex => intro A X; conv => lhs; cbv
    case hob =>
      intro X
      subst hB; exact ⟨⟨enters46, S3⟩, ⟨enters45, must_u64 _⟩, trivial⟩
    case hQ =>
    intro X7 a0 w1 hF
    refine wp_seq ?_
    have hpi := late_test f i k3 (by omega)
    by_cases hc4 : late (lastK f i) k3 = true
    · refine wp_region_lit ?_
      apply list_preB 0 12 hB T48_ok [37] [0] [] hF
      case hex => intro A X; conv => lhs; cbv
      case hob =>
        intro X
        subst hB
        have hix : (¬ (i : Int) = 0) → 0 ≤ IntKind.i64.wrap ((i : Int) - 1) ∧ IntKind.i64.wrap ((i : Int) - 1) < (i : Int) := fun h => by rw [wrap_in (by omega) (by omega)]; omega
        have hix2 : ((i : Int) == 0) = false → 0 ≤ IntKind.i64.wrap ((i : Int) - 1) ∧ IntKind.i64.wrap ((i : Int) - 1) < (i : Int) := fun h => hix (by simpa using h)
        simp only [AllOb, Ob.holds, BE.den, List.mem_cons, List.not_mem_nil, or_false, forall_eq_or_imp, forall_eq]
        and_intros <;> first | trivial | (intro h; first | trivial | exact hix2 h)
      case hQ =>
      intro X8_t a0 w1 hF
      refine man_out rfl rfl rfl rfl hF rfl rfl enters47 (need_no (.v (B.ite (B.cmp .eql (i : Int) 0) true (B.cmp .gtr v3 (f (B.toNat (B.arith .sub .i64 (i : Int) 1))).key))) 3 (by subst hB; rw [hc4, ← hv3] at hpi; exact hpi)) (SimL.refl _) (by intro e he; cases he) rfl rfl ?_
      intro x w' hF
      exact thr_out (P := Try.prog) (fn := Try.f48) hF ⟨0, fun _ => none, fun _ => 0, fun _ => q3⟩ (sets := [(0, [.str q3])]) (v := .iface 29 (.int .i64 3)) (by rw [hdec, hm, it_e2 hd3 hc4]; rfl) ⟨rfl, ⟨_, rfl, SimL.refl _⟩, trivial⟩
    have hlt : late (lastK f i) k3 = false := by simpa using hc4
    apply region_okB hB T48_ok [6, 4, 18, 0, 17] [0, 4, 53] [(12, .r fun _ => .tup [])] hF
    case hex => intro A X; conv => lhs; cbv
    case hob =>
      intro X
      subst hB
      have hix : (¬ (i : Int) = 0) → 0 ≤ IntKind.i64.wrap ((i : Int) - 1) ∧ IntKind.i64.wrap ((i : Int) - 1) < (i : Int) := fun h => by rw [wrap_in (by omega) (by omega)]; omega
      have hix2 : ((i : Int) == 0) = false → 0 ≤ IntKind.i64.wrap ((i : Int) - 1) ∧ IntKind.i64.wrap ((i : Int) - 1) < (i : Int) := fun h => hix (by simpa using h)
      have hn := need_ok (.v (std.ite (std.cmp .eql (i : Int) 0) true (std.cmp .gtr v3 (f (std.toNat (std.arith .sub .i64 (i : Int) 1))).key))) 3 (by rw [hlt, ← hv3] at hpi; exact hpi)
      simp only [AllOb, Ob.holds, BE.den, List.mem_cons, List.not_mem_nil, or_false, forall_eq_or_imp, forall_eq]
      and_intros <;> first | trivial | exact enters47 | exact hn | (intro h; first | trivial | exact hix2 h)
    case hQ =>
    intro X8 a0 w1 hF
    refine wp_seq ?_
    have hq3u : unB q3 = r3 := by rw [hq3, un_mk]
    have S5 := Text_m0 b q3
    have D5 := txt_dec q3
    generalize txtV q3 = v5 at S5 D5
    generalize txtE q3 = e5 at S5 D5
    generalize txtR q3 = q5 at S5 D5
    by_cases hc5 : e5 ≠ 0
    · refine wp_region_lit ?_
      apply list_preB 0 4 hB T48_ok [41, 42] [0] [(1, .x fun _ => ⟨.tup [.str v5, .int .i64 e5], [(0, [.str q5])], []⟩)] hF
      case hex => intro A X; conv => lhs; cbv
      case hob =>
        intro X
        subst hB; exact ⟨⟨enters76, S5⟩, trivial⟩
      case hQ =>
      intro X9_t a0 w1 hF
      refine man_out rfl rfl rfl rfl hF rfl rfl enters34 (mustno_str v5 e5 hc5) (SimL.refl _) (by intro e he; cases he) rfl rfl ?_
      intro x w' hF
      have hd5 := D5.1 hc5
      exact thr_out (P := Try.prog) (fn := Try.f48) hF ⟨0, fun _ => none, fun _ => 0, fun _ => q5⟩ (sets := [(0, [.str q5])]) (v := .iface 29 (.int .i64 e5)) (by rw [hdec, hm, it_e3 hd3 hlt (by rw [← hq3u]; exact hd5)]; rfl) ⟨rfl, ⟨_, rfl, SimL.refl _⟩, trivial⟩
    have he5 : e5 = 0 := Decidable.not_not.1 hc5
    subst he5
    obtain ⟨k5, r5, hd5, hv5, hq5⟩ := D5.2 rfl
    rw [hq3u] at hd5
    apply region_okB hB T48_ok [7, 6, 4, 18, 0, 17] [0, 4, 53] [(1, .x fun _ => ⟨.tup [.str v5, .int .i64 0], [(0, [.str q5])], []⟩), (4, .r fun _ => .str v5)] hF
    case hex => intro A X; conv => lhs; cbv
    case hob =>
      intro X
      subst hB; exact ⟨⟨enters76, S5⟩, ⟨enters34, must_str _⟩, trivial⟩
    case hQ =>
    intro X9 a0 w1 hF
    refine wp_seq ?_
    by_cases hc6 : 64 < k5.length
    · refine wp_region_lit ?_
      apply list_preB 0 3 hB T48_ok [46] [0] [] hF
      case hex => intro A X; conv => lhs; cbv
      case hob =>
        intro X
        subst hB; exact trivial
      case hQ =>
      intro X10_t a0 w1 hF
      refine man_out rfl rfl rfl rfl hF rfl rfl enters47 (need_no (.v (B.cmp .leq (B.ofNat (B.slen v5)) 64)) 3 (by rw [hv5]; subst hB; simp [BE.den, std, stdCmp, mk_size]; omega)) (SimL.refl _) (by intro e he; cases he) rfl rfl ?_
      intro x w' hF
      exact thr_out (P := Try.prog) (fn := Try.f48) hF ⟨0, fun _ => none, fun _ => 0, fun _ => q5⟩ (sets := [(0, [.str q5])]) (v := .iface 29 (.int .i64 3)) (by rw [hdec, hm, it_e4 hd3 hlt hd5 hc6]; rfl) ⟨rfl, ⟨_, rfl, SimL.refl _⟩, trivial⟩
    apply region_okB hB T48_ok [7, 6, 4, 18, 0, 17] [0, 4, 53] [(3, .r fun _ => .tup [])] hF
    case hex => intro A X; conv => lhs; cbv
    case hob =>
      intro X
      subst hB; exact ⟨⟨enters47, need_ok _ _ (by rw [hv5]; simp [BE.den, std, stdCmp, mk_size]; omega)⟩, trivial⟩
    case hQ =>
    intro X10 a0 w1 hF
    apply region_okB hB T48_ok [4, 18, 0, 17] [0, 4, 53] [] hF
    case hex => intro A X; conv => lhs; cbv
    case hob =>
      intro X
      subst hB
      refine ⟨⟨rfl, rfl, rfl⟩, ⟨?_, ?_⟩, trivial⟩
      · show i + 1 ≤ maxLen; simp only [maxLen]; omega
      · show (i + 1) * _ ≤ _; omega
    case hQ =>
    intro X11 a0 w1 hF
    replace hF := hF.headS (v' := .sl (some 4) ((X11 5).A 0) (B.nadd i 1) ((X11 5).c 0) 2 (fun t => itC (fSet f i ⟨v3, v5⟩ t))) (Sim.resl rfl (fun t ht => by
      subst hB
      have ht2 : t < i + 1 := ht
      show appC i (fun t => itC (f t)) (chunk 2 [.int .u64 v3, .str v5]) t = _
      unfold appC fSet
      split
      · simp only; rw [if_neg (by omega)]
      · have : t = i := by omega
        subst this
        simp [chunk, itC])) rfl
    apply region_okB hB T48_ok [4, 18, 0, 17] [0, 4, 53] [] hF
    case hex => intro A X; conv => lhs; cbv
    case hob =>
      intro X
      subst hB
      simp [AllOb, Ob.holds, BE.den, std, stdCmp, stdArith] <;> omega
    case hQ =>
    intro X12 a0 w1 hF
    have e : B.arith .add .i64 (i : Int) 1 = ((i + 1 : Nat) : Int) := by subst hB; exact wrap_succ (n := k1) hin (by omega)
    refine ⟨(i + 1, fSet f i ⟨v3, v5⟩, _, _, q5), ⟨by simp only; omega, ?_, fun t ht => ?_⟩, by simp only; omega, by rw [← e, show i + 1 = B.nadd i 1 by subst hB; rfl]; exact hF⟩
    · rw [hdec, hm, it_ok hd3 hlt hd5 hc6, app_app, firsts_set, lastK_set, hv3, hv5, show k1 - (i + 1) = k1 - i - 1 by omega, hq5, un_mk]
    · show U64 (if t = i then (⟨v3, v5⟩ : Itm) else f t).key
      split
      · rw [hv3]; exact ⟨by simp only; omega, by simp only; omega⟩
      · exact hku t (by have : t < i + 1 := ht; omega)
  · skip
    have hout : i = k1 := by
      have : ¬ (i : Int) < IntKind.i64.wrap v1 := by subst hB; simpa [std, stdCmp] using hb
      rw [hv1, wrap_in (by omega) (by omega)] at this
      omega
    have hfin : decItems (unB s) = .ok (firsts f k1, unB q) := by
      rw [hdec, hout, Nat.sub_self]
      simp only [decIt, app, List.append_nil]
    refine wp_exit ?_
    refine wp_seq ?_
    apply region_okB hB T48_ok [2] [0, 2, 4, 53] [] hF
    case hex => intro A X; conv => lhs; cbv
    case hob =>
      intro X
      subst hB
      simp [AllOb, Ob.holds, BE.den, std, stdCmp, stdArith] <;> omega
    case hQ =>
    intro X13 a0 w1 hF
    refine wp_ret ?_
    refine (ret_out (fn := Try.f48) T48_ok hF (rs := [.tmp 2]) rfl (rfl) ?_ (⟨0, fun _ => A, fun _ => c, fun _ => ⟨#[]⟩⟩) (by rw [hfin]) [] ?_ ?_ ?_).1
    · subst hB; simp [AllOb, Ob.holds]
    · subst hB
      rw [hout]
      refine Sim.resl (firsts_len f k1).symm (fun t ht => ?_)
      rw [firsts_len] at ht
      rw [firsts_get f k1 t ht]
    · subst hB; exact ⟨rfl, ⟨_, rfl, by rw [mk_un]; exact SimL.refl _⟩, trivial⟩
    · exact trivial
theorem items_o (k0 : Nat) (b : Nat) (s : ByteArray) : SpecO Try.prog 48 [.ptr k0 b 0] [(k0, ⟨b, 105, [.str s]⟩)] (fun x => match decItems (unB s) with | .error e => .thr (.iface 29 (.int .i64 e)) [(k0, [.str (x.s 0)])] | .ok (l, r) => .ret ⟨rowI (x.A 0) l.length (x.c 0) (itF l), [(k0, [.str (mkB r)])], []⟩) :=
  (items_o0 b s).re (by repeat (first | exact trivial | refine ⟨Sim.ptr, ?_⟩ | refine ⟨Sim.fn ⟨Sim.ptr, trivial⟩ trivial, ?_⟩ | refine ⟨Sim.refl _, ?_⟩)) rfl (fun x => by cases decItems (unB s) with | error e => exact ⟨rfl, rfl, rfl⟩ | ok p => exact ⟨rfl, rfl, Sim.refl _, rfl⟩)
def T49 : List (Nat × TI) := [(4, ti4), (23, ti23), (25, ti25), (29, ti29), (67, ti67)]
theorem T49_ok : TabOK Try.prog T49 := .cons t4 (.cons t23 (.cons t25 (.cons t29 (.cons t67 (.nil)))))
theorem enters49 : Enters Try.prog 49 := fun _ _ => by kernel_rfl
theorem next_o0 (b : Nat) (s : ByteArray) : SpecO Try.prog 49 [.ptr 0 b 0] [(0, ⟨b, 105, [.str s]⟩)] (fun x => match decNext (unB s) with | .error e => .thr (.iface 29 (.int .i64 e)) [(0, [.str (x.s 0)])] | .ok (l, r) => .ret ⟨labAV l, [(0, [.str (mkB r)])], []⟩) := by
  intro m w hm hargs hpre
  refine enterX hm hpre hargs Try.func49 rfl (by simp [Try.ntmps49]) fun a0 hF => ?_
  simp only [Try.ntmps49, startT] at hF
  obtain ⟨B, hB⟩ : ∃ B, B = std := ⟨_, rfl⟩
  refine wp_seq ?_
  apply region_okB hB T49_ok [0, 2] [0, 2] [] hF
  case hex => intro A X; conv => lhs; cbv
  case hob =>
    intro X
    subst hB
    simp [AllOb, Ob.holds, BE.den, std, stdCmp, stdArith] <;> omega
  case hQ =>
  intro X0 a0 w1 hF
  refine wp_seq ?_
  refine wp_seq ?_
  have S1 := Number_m0 b s
  have D1 := num_dec s
  generalize numV s = v1 at S1 D1
  generalize numE s = e1 at S1 D1
  generalize numR s = q1 at S1 D1
  by_cases hc1 : e1 ≠ 0
  · refine wp_region_lit ?_
    apply list_preB 0 4 hB T49_ok [6, 7] [0] [(1, .x fun _ => ⟨.tup [.int .u64 v1, .int .i64 e1], [(0, [.str q1])], []⟩)] hF
    case hex => intro A X; conv => lhs; cbv
    case hob =>
      intro X
      subst hB; exact ⟨⟨enters46, S1⟩, trivial⟩
    case hQ =>
    intro X1_t a0 w1 hF
    refine man_out rfl rfl rfl rfl hF rfl rfl enters45 (mustno_u64 v1 e1 hc1) (SimL.refl _) (by intro e he; cases he) rfl rfl ?_
    intro x w' hF
    have hd1 := D1.1 hc1
    exact thr_out (P := Try.prog) (fn := Try.f49) hF ⟨0, fun _ => none, fun _ => 0, fun _ => q1⟩ (sets := [(0, [.str q1])]) (v := .iface 29 (.int .i64 e1)) (by unfold decNext; rw [hd1]) ⟨rfl, ⟨_, rfl, SimL.refl _⟩, trivial⟩
  have he1 : e1 = 0 := Decidable.not_not.1 hc1
  subst he1
  obtain ⟨k1, r1, hd1, hv1, hq1, hk1⟩ := D1.2 rfl
  apply region_okB hB T49_ok [0, 2, 3] [0, 2] [(1, .x fun _ => ⟨.tup [.int .u64 v1, .int .i64 0], [(0, [.str q1])], []⟩), (4, .r fun _ => .int .u64 v1)] hF
  case hex => intro A X; conv => lhs; cbv
  case hob =>
    intro X
    subst hB; exact ⟨⟨enters46, S1⟩, ⟨enters45, must_u64 _⟩, trivial⟩
  case hQ =>
  intro X1 a0 w1 hF
  refine wp_seq ?_
  apply region_okB hB T49_ok [0, 2, 9] [0, 2] [] hF
  case hex => intro A X; conv => lhs; cbv
  case hob =>
    intro X
    subst hB
    simp [AllOb, Ob.holds, BE.den, std, stdCmp, stdArith] <;> omega
  case hQ =>
  intro X2 a0 w1 hF
  refine wp_block ?_
  refine wp_seq ?_
  apply region_okB hB T49_ok [10, 0, 2, 9] [0, 2] [] hF
  case hex => intro A X; conv => lhs; cbv
  case hob =>
    intro X
    subst hB
    simp [AllOb, Ob.holds, BE.den, std, stdCmp, stdArith] <;> omega
  case hQ =>
  intro X3 a0 w1 hF
  refine test_ok hF rfl (fun hb hF => ?_) (fun hb hF => ?_)
  · skip
    have hz : k1 = 0 := by
      have : v1 = 0 := by subst hB; simpa [std, stdCmp] using hb
      omega
    have S2 := none_s
    simp only [labAV, noneL] at S2
    refine wp_seq ?_
    apply region_okB hB T49_ok [2] [0, 2] [(0, .r fun _ => .agg [.int .i64 (-1), .int .u64 0])] hF
    case hex => intro A X; conv => lhs; cbv
    case hob =>
      intro X
      subst hB; exact ⟨⟨enters36, S2⟩, rfl, trivial⟩
    case hQ =>
    intro X4 a0 w1 hF
    refine wp_ret ?_
    refine (ret_out (fn := Try.f49) T49_ok hF (rs := [.cell 2 25]) rfl (by conv => lhs; cbv) ?_ noAtom (by unfold decNext; rw [hd1]; simp only [hz, if_true]; rfl) [] ?_ ?_ ?_).1
    · subst hB; simp [AllOb, Ob.holds]
    · subst hB; exact Sim.refl _
    · subst hB; exact ⟨rfl, ⟨_, rfl, by rw [hq1]; exact SimL.refl _⟩, trivial⟩
    · exact trivial
  · skip
    have hz : ¬ k1 = 0 := by
      have : ¬ v1 = 0 := by subst hB; simpa [std, stdCmp] using hb
      omega
    refine wp_seq ?_
    apply region_okB hB T49_ok [13, 0, 2] [0, 2] [] hF
    case hex => intro A X; conv => lhs; cbv
    case hob =>
      intro X
      subst hB
      simp [AllOb, Ob.holds, BE.den, std, stdCmp, stdArith] <;> omega
    case hQ =>
    intro X5 a0 w1 hF
    refine test_ok hF rfl (fun hb hF => ?_) (fun hb hF => ?_)
    · skip
      have ho : k1 = 1 := by
        have : v1 = 1 := by subst hB; simpa [std, stdCmp] using hb
        omega
      refine wp_seq ?_
      have hq1u : unB q1 = r1 := by rw [hq1, un_mk]
      have S3 := Label_m0 b q1
      have D3 := lab_dec q1
      simp only [labAV] at S3
      generalize labV q1 = v3 at S3 D3
      generalize labE q1 = e3 at S3 D3
      generalize labR q1 = q3 at S3 D3
      by_cases hc3 : e3 ≠ 0
      · refine wp_region_lit ?_
        apply list_preB 0 4 hB T49_ok [17, 18] [0] [(1, .x fun _ => ⟨.tup [.agg [.int .i64 v3.len, .int .u64 v3.bits], .int .i64 e3], [(0, [.str q3])], []⟩)] hF
        case hex => intro A X; conv => lhs; cbv
        case hob =>
          intro X
          subst hB; exact ⟨⟨enters78, S3⟩, trivial⟩
        case hQ =>
        intro X6_t a0 w1 hF
        refine man_out rfl rfl rfl rfl hF rfl rfl enters77 (mustno_lab v3 e3 hc3) (SimL.refl _) (by intro e he; cases he) rfl rfl ?_
        intro x w' hF
        have hd3 := D3.1 hc3
        exact thr_out (P := Try.prog) (fn := Try.f49) hF ⟨0, fun _ => none, fun _ => 0, fun _ => q3⟩ (sets := [(0, [.str q3])]) (v := .iface 29 (.int .i64 e3)) (by unfold decNext; rw [hd1]; simp only [hz, ho, if_true, if_false]; rw [hq1u] at hd3; simp [hd3]) ⟨rfl, ⟨_, rfl, SimL.refl _⟩, trivial⟩
      have he3 : e3 = 0 := Decidable.not_not.1 hc3
      subst he3
      obtain ⟨r3, hd3, hq3⟩ := D3.2 rfl
      rw [hq1u] at hd3
      apply region_okB hB T49_ok [2] [0, 2] [(1, .x fun _ => ⟨.tup [.agg [.int .i64 v3.len, .int .u64 v3.bits], .int .i64 0], [(0, [.str q3])], []⟩), (4, .r fun _ => .agg [.int .i64 v3.len, .int .u64 v3.bits])] hF
      case hex => intro A X; conv => lhs; cbv
      case hob =>
        intro X
        subst hB; exact ⟨⟨enters78, S3⟩, ⟨enters77, must_lab _⟩, rfl, trivial⟩
      case hQ =>
      intro X6 a0 w1 hF
      refine wp_ret ?_
      refine (ret_out (fn := Try.f49) T49_ok hF (rs := [.cell 2 25]) rfl (by conv => lhs; cbv) ?_ noAtom (by unfold decNext; rw [hd1]; simp only [ho, hd3, if_true]; rfl) [] ?_ ?_ ?_).1
      · subst hB; simp [AllOb, Ob.holds]
      · subst hB; exact Sim.refl _
      · subst hB; exact ⟨rfl, ⟨_, rfl, by rw [hq3]; exact SimL.refl _⟩, trivial⟩
      · exact trivial
    · skip
      have ho : ¬ k1 = 1 := by
        have : ¬ v1 = 1 := by subst hB; simpa [std, stdCmp] using hb
        omega
      refine wp_skip ?_
      refine wp_region_lit ?_
      apply list_preB 0 1 hB T49_ok [20] [0, 2] [] hF
      case hex => intro A X; conv => lhs; cbv
      case hob =>
        intro X
        subst hB
        simp [AllOb, Ob.holds, BE.den, std, stdCmp, stdArith] <;> omega
      case hQ =>
      intro X7_0 a0 w1 hF
      refine man_panic rfl rfl rfl hF rfl ?_
      exact thr_out (P := Try.prog) (fn := Try.f49) hF ⟨0, fun _ => none, fun _ => 0, fun _ => q1⟩ (sets := [(0, [.str q1])]) (v := .iface 29 (.int .i64 3)) (by unfold decNext; rw [hd1]; simp only [hz, ho, if_false]) ⟨rfl, ⟨_, rfl, SimL.refl _⟩, trivial⟩
theorem next_o (k0 : Nat) (b : Nat) (s : ByteArray) : SpecO Try.prog 49 [.ptr k0 b 0] [(k0, ⟨b, 105, [.str s]⟩)] (fun x => match decNext (unB s) with | .error e => .thr (.iface 29 (.int .i64 e)) [(k0, [.str (x.s 0)])] | .ok (l, r) => .ret ⟨labAV l, [(k0, [.str (mkB r)])], []⟩) :=
  (next_o0 b s).re (by repeat (first | exact trivial | refine ⟨Sim.ptr, ?_⟩ | refine ⟨Sim.fn ⟨Sim.ptr, trivial⟩ trivial, ?_⟩ | refine ⟨Sim.refl _, ?_⟩)) rfl (fun x => by cases decNext (unB s) with | error e => exact ⟨rfl, rfl, rfl⟩ | ok p => exact ⟨rfl, rfl, Sim.refl _, rfl⟩)
end Go.Proofs.Ytkamdppnnhjajaa.Sym
