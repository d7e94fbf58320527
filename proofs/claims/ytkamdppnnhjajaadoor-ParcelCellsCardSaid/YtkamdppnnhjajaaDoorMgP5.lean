/-
  SymGpY, SymGpN, SymGpL, PlTurn, SymGet18, SymWr, SymCel8, SymCel9, SymIsP: put together by a program of mine (a claim may have 60 files at most). Conditions: none.
-/
import Derived.Test.YtkamdppnnhjajaaDoorMgP1
import Derived.Test.YtkamdppnnhjajaaDoorMgP2
import Derived.Test.YtkamdppnnhjajaaDoorMgP3
import Derived.Test.YtkamdppnnhjajaaDoorMgP4
namespace Go.Proofs.YtkamdppnnhjajaaDoor.Sym
open Go Go.RowKit
set_option maxRecDepth 100000
set_option maxHeartbeats 1600000
set_option linter.unusedVariables false
set_option linter.unusedSimpArgs false
theorem num_good {d lo hi : Int} {r : RS} (h : (numD d lo hi r).2.e = 0) : lo ≤ (numD d lo hi r).1 ∧ (numD d lo hi r).1 ≤ hi := by
  unfold numD getG at h ⊢
  by_cases h1 : r.e ≠ 0
  · rw [if_pos h1] at h; exact absurd h h1
  · rw [if_neg h1] at h ⊢
    by_cases h2 : numE r.s ≠ 0
    · rw [if_pos h2] at h; exact absurd h h2
    · rw [if_neg h2] at h ⊢
      by_cases h3 : (decide (lo ≤ numV r.s) && decide (numV r.s ≤ hi)) = true
      · rw [if_pos h3]; simpa using h3
      · rw [if_neg h3] at h; exact absurd (show (3 : Int) = 0 from h) (by decide)
theorem mem0879_lt : ∀ v ∈ ([0, 8, 7, 9] : List Int), 0 ≤ v ∧ v < 1073741824 := by intro v h; simp at h; omega
theorem Sim.trans_ {a b c : AV} (h : Sim a b) (h' : Sim b c) : Sim a c := ⟨h.1.trans h'.1, fun x => h'.2.1 (h.2.1 x), fun m w x => h'.2.2 m w (h.2.2 m w x)⟩
def T14 : List (Nat × TI) := [(3, ti3), (4, ti4), (9, ti9), (20, ti20), (22, ti22), (24, ti24), (26, ti26), (27, ti27), (29, ti29), (32, ti32), (34, ti34), (65, ti65), (66, ti66), (69, ti69), (71, ti71), (77, ti77), (81, ti81), (83, ti83), (85, ti85), (105, ti105)]
theorem T14_ok : TabOK Tryd.prog T14 := .cons t3 (.cons t4 (.cons t9 (.cons t20 (.cons t22 (.cons t24 (.cons t26 (.cons t27 (.cons t29 (.cons t32 (.cons t34 (.cons t65 (.cons t66 (.cons t69 (.cons t71 (.cons t77 (.cons t81 (.cons t83 (.cons t85 (.cons t105 (.nil))))))))))))))))))))
theorem enters14 : Enters Tryd.prog 14 := fun _ _ => by kernel_rfl
theorem getp_ok (s : ByteArray) (hy : (allD s).2.e = 0) (hy2 : (allD s).2.s.size = 0) : Spec Tryd.prog 14 [.str s] (fun x => .tup [parAV (x.A 0) (x.c 0) (allD s).1, .int .i64 0]) := by
  intro m w hm hargs
  obtain ⟨z0, hz0⟩ : ∃ z : Bool, z = false := ⟨_, rfl⟩
  have heC0 : ∀ A, errC A 0 = .opt z0 81 (.ep A 0 1 0 [.int .i64 0]) := fun A => by rw [hz0]; rfl
  have hrg := num_rng (d := 0) (lo := 1) (hi := 4) (⟨0, s⟩ : RS) (by decide) (by decide)
  obtain ⟨o, ho1⟩ : ∃ o, o = numD 0 1 4 (⟨0, s⟩ : RS) := ⟨_, rfl⟩
  have S1 := fun A b bw => rnumber_m 10 b bw s 0 A 1 4
  simp only [← ho1] at S1
  obtain ⟨v1, e1, s1⟩ := o
  dsimp only at S1
  obtain ⟨z1, hz1⟩ : ∃ z, z = decide (e1 ≠ 0) := ⟨_, rfl⟩
  have heC1 : ∀ A, errC A e1 = .opt z1 81 (.ep A 0 1 0 [.int .i64 e1]) := fun A => by rw [hz1]; rfl
  simp only [heC0, heC1] at S1
  rw [← ho1] at hrg
  dsimp only at hrg
  have ew1 := wrap_in (x := v1) (by omega) (by omega)
  obtain ⟨o, ho2⟩ : ∃ o, o = wholeD (⟨e1, s1⟩ : RS) := ⟨_, rfl⟩
  have S2 := fun A b bw => rwhole_m 10 b bw s1 e1 A
  simp only [← ho2] at S2
  obtain ⟨v2, e2, s2⟩ := o
  dsimp only at S2
  obtain ⟨z2, hz2⟩ : ∃ z, z = decide (e2 ≠ 0) := ⟨_, rfl⟩
  have heC2 : ∀ A, errC A e2 = .opt z2 81 (.ep A 0 1 0 [.int .i64 e2]) := fun A => by rw [hz2]; rfl
  simp only [heC1, heC2] at S2
  have hkr : 1 ≤ v1 := by
    have h1 := num_good (d := 0) (lo := 1) (hi := 4) (r := ⟨0, s⟩) (by
      refine Decidable.byContradiction fun h => ?_
      have h2 : (allD s).2 = (numD 0 1 4 ⟨0, s⟩).2 := by
        unfold allD
        simp only
        rw [dead_body _ _ _ (by rw [dead_whole _ h]; exact h), dead_whole _ h]
      rw [h2] at hy; exact h hy)
    rw [← ho1] at h1; exact h1.1
  refine enter hm hargs Tryd.func14 rfl (by simp [Tryd.ntmps14]) fun a0 hF => ?_
  simp only [Tryd.ntmps14, startT] at hF
  obtain ⟨B, hB⟩ : ∃ B, B = std := ⟨_, rfl⟩
  refine wp_seq ?_
  apply region_okB hB T14_ok [0, 2] [2] [] hF
  case hex => intro A X; conv => lhs; cbv
  case hob =>
    intro X
    subst hB
    simp [AllOb, Ob.holds, BE.den, std, stdCmp, stdArith] <;> omega
  case hQ =>
  intro X0 a0 w1 hF
  refine wp_seq ?_
  apply region_okB hB T14_ok [2, 4] [2, 10, 1000] [(1, .x fun x => ⟨.ptr 1000 x.b 0, [], [(1000, ⟨x.b, 105, [.str s]⟩)]⟩)] hF
  case hex => intro A X; conv => lhs; cbv
  case hob =>
    intro X
    subst hB
    simp only [AllOb, Ob.holds, BE.den, List.mem_cons, List.not_mem_nil, or_false, forall_eq_or_imp, forall_eq] <;> (and_intros <;> first | trivial | (intro h; trivial) | exact enters36 | (intro h; exact enters36) | (refine (new_s s).re ⟨Sim.refl _, trivial⟩ rfl (fun x => ⟨rfl, rfl, Sim.ptr, rfl⟩)) | (intro h; (refine (new_s s).re ⟨Sim.refl _, trivial⟩ rfl (fun x => ⟨rfl, rfl, Sim.ptr, rfl⟩))) | rfl | (intro h; rfl))
  case hQ =>
  intro X1 a0 w1 hF
  replace hF := hF.cellAt 10 rfl 1 (.opt z0 81 (.ep none 0 1 0 [.int .i64 0])) (Nat.le_of_ble_eq_true rfl) (⟨by rw [hz0]; rfl, fun _ => rfl, fun _ _ _ => .opt _ _ _ (fun h => absurd (h.symm.trans hz0) (by decide))⟩) rfl
  refine wp_seq ?_
  apply region_okB hB T14_ok [2, 4, 5] [2, 10, 1000, 5] [(1, .x fun x => ⟨.int .u64 v1, [(10, [.ptr 1000 (X1 1).b 0, .opt z1 81 (.ep (x.A 0) 0 1 0 [.int .i64 e1])]), (1000, [.str s1])], []⟩)] hF
  case hex => intro A X; conv => lhs; cbv
  case hob =>
    intro X
    subst hB
    simp only [AllOb, Ob.holds, BE.den, List.mem_cons, List.not_mem_nil, or_false, forall_eq_or_imp, forall_eq] <;> (and_intros <;> first | trivial | (intro h; trivial) | exact enters37 | exact S1 _ _ _ | exact ⟨enters37, S1 _ _ _⟩ | (intro h; exact ⟨enters37, S1 _ _ _⟩) | rfl | (intro h; rfl))
  case hQ =>
  intro X2 a0 w1 hF
  replace hF := hF.cellAt 5 rfl 0 (.int .i64 v1) (Nat.le_of_ble_eq_true rfl) (by subst hB; show Sim (.int .i64 (IntKind.i64.wrap v1)) _; rw [ew1]; exact Sim.refl _) rfl
  refine wp_seq ?_
  apply region_okB hB T14_ok [2, 4, 5] [2, 10, 1000, 5] [(1, .x fun x => ⟨.int .u64 v2, [(10, [.ptr 1000 (X1 1).b 0, .opt z2 81 (.ep (x.A 0) 0 1 0 [.int .i64 e2])]), (1000, [.str s2])], []⟩)] hF
  case hex => intro A X; conv => lhs; cbv
  case hob =>
    intro X
    subst hB
    simp only [AllOb, Ob.holds, BE.den, List.mem_cons, List.not_mem_nil, or_false, forall_eq_or_imp, forall_eq] <;> (and_intros <;> first | trivial | (intro h; trivial) | exact enters38 | exact S2 _ _ _ | exact ⟨enters38, S2 _ _ _⟩ | (intro h; exact ⟨enters38, S2 _ _ _⟩) | rfl | (intro h; rfl))
  case hQ =>
  intro X3 a0 w1 hF
  refine wp_seq ?_
  refine wp_seq ?_
  apply region_okB hB T14_ok [2, 4, 5, 19] [2, 10, 1000, 5] [] hF
  case hex => intro A X; conv => lhs; cbv
  case hob =>
    intro X
    subst hB
    simp [AllOb, Ob.holds, BE.den, std, stdCmp, stdArith] <;> omega
  case hQ =>
  intro X4 a0 w1 hF
  refine wp_block ?_
  refine wp_seq ?_
  apply region_okB hB T14_ok [20, 2, 4, 5, 19] [2, 10, 1000, 5] [] hF
  case hex => intro A X; conv => lhs; cbv
  case hob =>
    intro X
    subst hB
    simp [AllOb, Ob.holds, BE.den, std, stdCmp, stdArith] <;> omega
  case hQ =>
  intro X5 a0 w1 hF
  refine test_ok hF rfl (fun hb hF => ?_) (fun hb hF => ?_)
  · skip
    have hk1 : v1 = 1 := by subst hB; simpa [std, stdCmp] using hb
    obtain ⟨o, ho3⟩ : ∃ o, o = plcD (⟨e2, s2⟩ : RS) := ⟨_, rfl⟩
    have S3 := fun A b bw => rplace_m 10 b bw s2 e2 A
    simp only [← ho3] at S3
    obtain ⟨y3, e3, s3⟩ := o
    dsimp only at S3
    obtain ⟨z3, hz3⟩ : ∃ z, z = decide (e3 ≠ 0) := ⟨_, rfl⟩
    have heC3 : ∀ A, errC A e3 = .opt z3 81 (.ep A 0 1 0 [.int .i64 e3]) := fun A => by rw [hz3]; rfl
    simp only [heC2, heC3] at S3
    obtain ⟨K, hK⟩ : ∃ K, K = kI y3 := ⟨_, rfl⟩
    simp only [← hK] at S3
    obtain ⟨o, hoN⟩ : ∃ o, o = opD (⟨e3, s3⟩ : RS) := ⟨_, rfl⟩
    have SN := fun A b bw => rop_m 10 b bw s3 e3 A
    simp only [← hoN] at SN
    obtain ⟨⟨oc, oq, ok, ov, ot⟩, eN, sN⟩ := o
    dsimp only at SN
    obtain ⟨zN, hzN⟩ : ∃ z, z = decide (eN ≠ 0) := ⟨_, rfl⟩
    have heCN : ∀ A, errC A eN = .opt zN 81 (.ep A 0 1 0 [.int .i64 eN]) := fun A => by rw [hzN]; rfl
    simp only [heC3, heCN] at SN
    simp only [opAV, opC] at SN
    obtain ⟨XP, hXP⟩ : ∃ x, x = (⟨v1, v2, y3, ⟨oc, oq, ok, ov, ot⟩, zeroAns, 0, zeroCel⟩ : Par) := ⟨_, rfl⟩
    have hG : allD s = (XP, ⟨eN, sN⟩) := by
      rw [hXP]
      simp only [allD, ← ho1, ← ho2, bodyD, hk1, if_true, ← ho3, ← hoN]
    rw [hG] at hy hy2
    dsimp only at hy hy2
    have hzN1 : zN = false := by rw [hzN, hy]; rfl
    subst hzN1
    obtain ⟨nz, hnz⟩ : ∃ n, n = (sN.size : Int) := ⟨_, rfl⟩
    have SL := fun b => left_m 1000 b sN
    simp only [← hnz] at SL
    apply region_okB hB T14_ok [2, 4, 5] [2, 10, 1000, 5] [(1, .x fun x => ⟨.agg (keyC K), [(10, [.ptr 1000 (X1 1).b 0, .opt z3 81 (.ep (x.A 0) 0 1 0 [.int .i64 e3])]), (1000, [.str s3])], []⟩), (3, .x fun x => ⟨.agg [.int .i64 oc, .int .u64 oq, .int .i64 ok, .int .u64 ov, .str ot], [(10, [.ptr 1000 (X1 1).b 0, .opt false 81 (.ep (x.A 0) 0 1 0 [.int .i64 eN])]), (1000, [.str sN])], []⟩)] hF
    case hex => intro A X; conv => lhs; cbv
    case hob =>
      intro X
      subst hB
      simp only [AllOb, Ob.holds, BE.den, List.mem_cons, List.not_mem_nil, or_false, forall_eq_or_imp, forall_eq] <;> (and_intros <;> first | trivial | (intro h; trivial) | exact enters39 | exact S3 _ _ _ | exact ⟨enters39, S3 _ _ _⟩ | (intro h; exact ⟨enters39, S3 _ _ _⟩) | exact enters40 | exact SN _ _ _ | exact ⟨enters40, SN _ _ _⟩ | (intro h; exact ⟨enters40, SN _ _ _⟩) | rfl | (intro h; rfl))
    case hQ =>
    intro X6 a0 w1 hF
    refine wp_seq ?_
    refine wp_seq ?_
    refine wp_region_lit ?_
    apply list_preB 0 6 hB T14_ok [66, 4, 5, 2] [2, 10, 1000, 5] [(10, .x fun _ => ⟨.int .i64 nz, [(1000, [.str sN])], []⟩)] hF
    case hex => intro A X; conv => lhs; cbv
    case hob =>
      intro X
      subst hB
      simp [AllOb, Ob.holds, BE.den, std, stdCmp, stdArith] <;> omega
    case hQ =>
    intro X17_0 a0 w1 hF
    replace hF := hF.headS (v' := .bool .tt) (Sim.bool (by subst hB; rfl)) rfl
    apply list_endB 6 hB T14_ok [73, 2, 4, 5] [2, 10, 1000, 5] [(10, .x fun _ => ⟨.int .i64 nz, [(1000, [.str sN])], []⟩)] hF
    case hex => intro A X; conv => lhs; cbv
    case hob =>
      intro X
      subst hB
      simp only [AllOb, Ob.holds, BE.den, List.mem_cons, List.not_mem_nil, or_false, forall_eq_or_imp, forall_eq] <;> (and_intros <;> first | trivial | (intro h; trivial) | exact enters46 | exact SL _ | exact ⟨enters46, SL _⟩ | (intro h; exact ⟨enters46, SL _⟩) | rfl | (intro h; rfl))
    case hQ =>
    intro X17 a0 w1 hF
    refine test_ok hF rfl (fun hb hF => ?_) (fun hb hF => ?_)
    · exfalso
      have : (0 : Int) < nz := by subst hB; simpa [std, stdCmp] using hb
      omega
    · skip
      skip
      refine wp_skip ?_
      refine wp_seq ?_
      apply region_okB hB T14_ok [2, 4, 5, 6] [2, 10, 5, 6] [] hF
      case hex => intro A X; conv => lhs; cbv
      case hob =>
        intro X
        subst hB
        simp [AllOb, Ob.holds, BE.den, std, stdCmp, stdArith] <;> omega
      case hQ =>
      intro X19 a0 w1 hF
      refine wp_seq ?_
      refine wp_seq ?_
      apply region_okB hB T14_ok [85, 2, 5, 6] [2, 5, 6] [(5, .r fun _ => .bool (.v false))] hF
      case hex => intro A X; conv => lhs; cbv
      case hob =>
        intro X
        subst hB
        simp only [AllOb, Ob.holds, BE.den, List.mem_cons, List.not_mem_nil, or_false, forall_eq_or_imp, forall_eq] <;> (and_intros <;> first | trivial | (intro h; trivial) | exact ⟨entersAs, asnil_s _ _ _⟩ | (intro h; exact ⟨entersAs, asnil_s _ _ _⟩) | exact entersAs | (intro h; exact entersAs) | exact asnil_s _ _ _ | (intro h; exact asnil_s _ _ _) | rfl | (intro h; rfl))
      case hQ =>
      intro X20 a0 w1 hF
      refine test_ok hF rfl (fun hb hF => ?_) (fun hb hF => ?_)
      · exfalso
        exact Bool.false_ne_true hb
      · skip
        skip
        refine wp_skip ?_
        refine wp_seq ?_
        apply region_okB hB T14_ok [2, 3] [2] [] hF
        case hex => intro A X; conv => lhs; cbv
        case hob =>
          intro X
          subst hB
          simp [AllOb, Ob.holds, BE.den, std, stdCmp, stdArith] <;> omega
        case hQ =>
        intro X22 a0 w1 hF
        refine wp_ret ?_
        refine ret_sim (fn := Tryd.f14) T14_ok hF (rs := [.cell 2 34, .tmp 3]) rfl (by conv => lhs; cbv) ?_ noAtom ?_
        · simp [AllOb, Ob.holds]
        · subst hB; rw [hG, hXP]
          show Sim _ (.tup [.agg (parC (kI y3) (marksAV none 0 []) ⟨v1, v2, y3, ⟨oc, oq, ok, ov, ot⟩, zeroAns, 0, zeroCel⟩), .int .i64 0])
          rw [← hK]
          exact Sim.tup ⟨Sim.agg (by repeat (first | exact trivial | refine ⟨Sim.refl _, ?_⟩ | refine ⟨Sim.ff, ?_⟩ | refine ⟨Sim.recell (fun i hi => absurd hi (Nat.not_lt_zero _)), ?_⟩)), Sim.refl _, trivial⟩
  · skip
    have hk1 : ¬ v1 = 1 := by subst hB; simpa [std, stdCmp] using hb
    refine wp_seq ?_
    apply region_okB hB T14_ok [28, 2, 4, 5, 19] [2, 10, 1000, 5] [] hF
    case hex => intro A X; conv => lhs; cbv
    case hob =>
      intro X
      subst hB
      simp [AllOb, Ob.holds, BE.den, std, stdCmp, stdArith] <;> omega
    case hQ =>
    intro X7 a0 w1 hF
    refine test_ok hF rfl (fun hb hF => ?_) (fun hb hF => ?_)
    · skip
      have hk2 : v1 = 2 := by subst hB; simpa [std, stdCmp] using hb
      obtain ⟨o, ho3⟩ : ∃ o, o = whoD (⟨e2, s2⟩ : RS) := ⟨_, rfl⟩
      have S3 := fun A b bw => rwho_m 10 b bw s2 e2 A
      simp only [← ho3] at S3
      obtain ⟨⟨oc, oq, ok, ov, ot⟩, e3, s3⟩ := o
      dsimp only at S3
      obtain ⟨z3, hz3⟩ : ∃ z, z = decide (e3 ≠ 0) := ⟨_, rfl⟩
      have heC3 : ∀ A, errC A e3 = .opt z3 81 (.ep A 0 1 0 [.int .i64 e3]) := fun A => by rw [hz3]; rfl
      simp only [heC2, heC3] at S3
      simp only [opAV, opC] at S3
      obtain ⟨ge, hge⟩ : ∃ ge : Nat → Int, ge = fun i => ([0, 8] ++ [7, 9] : List Int).getD i 0 := ⟨_, rfl⟩
      have er : ∀ A k, rowE A k ([0, 8] ++ [7, 9]) = .sl none A 4 k 1 (fun i => [.int .i64 (ge i)]) := fun A k => by rw [hge]; rfl
      have er2 : ∀ A k, rowE A k [0, 8, 7, 9] = .sl none A 4 k 1 (fun i => [.int .i64 (ge i)]) := er
      have SC := fun A k => codes_s A k [7, 9] (by decide)
      simp only [er] at SC
      obtain ⟨o, ho4⟩ : ∃ o, o = toldD [0, 8, 7, 9] (⟨e3, s3⟩ : RS) := ⟨_, rfl⟩
      have S4 := fun A b bw => fun A2 k => rtold_m 10 b bw s3 e3 A A2 k [0, 8, 7, 9] (by decide) mem0879_lt
      simp only [← ho4] at S4
      obtain ⟨⟨ac, av, ah, at_⟩, e4, s4⟩ := o
      dsimp only at S4
      obtain ⟨z4, hz4⟩ : ∃ z, z = decide (e4 ≠ 0) := ⟨_, rfl⟩
      have heC4 : ∀ A, errC A e4 = .opt z4 81 (.ep A 0 1 0 [.int .i64 e4]) := fun A => by rw [hz4]; rfl
      simp only [heC3, heC4] at S4
      simp only [ansAV, ansC, er2] at S4
      obtain ⟨o, hoN⟩ : ∃ o, o = valD ah (⟨e4, s4⟩ : RS) := ⟨_, rfl⟩
      have SN := fun A b bw => rval_m 10 b bw s4 e4 A ah
      simp only [← hoN] at SN
      obtain ⟨t5, eN, sN⟩ := o
      dsimp only at SN
      obtain ⟨zN, hzN⟩ : ∃ z, z = decide (eN ≠ 0) := ⟨_, rfl⟩
      have heCN : ∀ A, errC A eN = .opt zN 81 (.ep A 0 1 0 [.int .i64 eN]) := fun A => by rw [hzN]; rfl
      simp only [heC4, heCN] at SN
      obtain ⟨XP, hXP⟩ : ∃ x, x = (⟨v1, v2, zeroKey, ⟨oc, oq, ok, ov, ot⟩, ⟨ac, av, ah, t5⟩, 0, zeroCel⟩ : Par) := ⟨_, rfl⟩
      have hG : allD s = (XP, ⟨eN, sN⟩) := by
        rw [hXP]
        simp only [allD, ← ho1, ← ho2, bodyD, hk2, show ((2 : Int) = 1) = False from by simp, if_true, if_false, ← ho3, ← ho4, ← hoN]
      rw [hG] at hy hy2
      dsimp only at hy hy2
      have hzN1 : zN = false := by rw [hzN, hy]; rfl
      subst hzN1
      obtain ⟨nz, hnz⟩ : ∃ n, n = (sN.size : Int) := ⟨_, rfl⟩
      have SL := fun b => left_m 1000 b sN
      simp only [← hnz] at SL
      refine wp_seq ?_
      apply region_okB hB T14_ok [2, 4, 5] [2, 10, 1000, 5] [(1, .x fun x => ⟨.agg [.int .i64 oc, .int .u64 oq, .int .i64 ok, .int .u64 ov, .str ot], [(10, [.ptr 1000 (X1 1).b 0, .opt z3 81 (.ep (x.A 0) 0 1 0 [.int .i64 e3])]), (1000, [.str s3])], []⟩)] hF
      case hex => intro A X; conv => lhs; cbv
      case hob =>
        intro X
        subst hB
        simp only [AllOb, Ob.holds, BE.den, List.mem_cons, List.not_mem_nil, or_false, forall_eq_or_imp, forall_eq] <;> (and_intros <;> first | trivial | (intro h; trivial) | exact enters41 | exact S3 _ _ _ | exact ⟨enters41, S3 _ _ _⟩ | (intro h; exact ⟨enters41, S3 _ _ _⟩) | rfl | (intro h; rfl))
      case hQ =>
      intro X8 a0 w1 hF
      refine wp_seq ?_
      apply region_okB hB T14_ok [2, 4, 5] [2, 10, 1000, 5] [(2, .r fun x => .sl none (x.A 0) 4 (x.c 0) 1 (fun i => [.int .i64 (ge i)])), (3, .x fun x => ⟨.agg [.int .i64 ac, .int .u64 av, .bool (.v ah), .str at_], [(10, [.ptr 1000 (X1 1).b 0, .opt z4 81 (.ep (x.A 0) 0 1 0 [.int .i64 e4])]), (1000, [.str s4])], []⟩)] hF
      case hex => intro A X; conv => lhs; cbv
      case hob =>
        intro X
        subst hB
        simp only [AllOb, Ob.holds, BE.den, List.mem_cons, List.not_mem_nil, or_false, forall_eq_or_imp, forall_eq] <;> (and_intros <;> first | trivial | (intro h; trivial) | exact enters43 | exact (SC _ _).re ⟨Sim.recell fun i hi => (by match i, hi with | 0, _ => rfl | 1, _ => rfl), trivial⟩ | exact ⟨enters43, (SC _ _).re ⟨Sim.recell fun i hi => (by match i, hi with | 0, _ => rfl | 1, _ => rfl), trivial⟩⟩ | (intro h; exact ⟨enters43, (SC _ _).re ⟨Sim.recell fun i hi => (by match i, hi with | 0, _ => rfl | 1, _ => rfl), trivial⟩⟩) | exact enters42 | exact S4 _ _ _ _ _ | exact ⟨enters42, S4 _ _ _ _ _⟩ | (intro h; exact ⟨enters42, S4 _ _ _ _ _⟩) | rfl | (intro h; rfl))
      case hQ =>
      intro X9 a0 w1 hF
      apply region_okB hB T14_ok [2, 4, 5] [2, 10, 1000, 5] [(4, .x fun x => ⟨.str t5, [(10, [.ptr 1000 (X1 1).b 0, .opt false 81 (.ep (x.A 0) 0 1 0 [.int .i64 eN])]), (1000, [.str sN])], []⟩)] hF
      case hex => intro A X; conv => lhs; cbv
      case hob =>
        intro X
        subst hB
        simp only [AllOb, Ob.holds, BE.den, List.mem_cons, List.not_mem_nil, or_false, forall_eq_or_imp, forall_eq] <;> (and_intros <;> first | trivial | (intro h; trivial) | exact enters44 | exact SN _ _ _ | exact ⟨enters44, SN _ _ _⟩ | (intro h; exact ⟨enters44, SN _ _ _⟩) | rfl | (intro h; rfl))
      case hQ =>
      intro X10 a0 w1 hF
      refine wp_seq ?_
      refine wp_seq ?_
      refine wp_region_lit ?_
      apply list_preB 0 6 hB T14_ok [66, 4, 5, 2] [2, 10, 1000, 5] [(10, .x fun _ => ⟨.int .i64 nz, [(1000, [.str sN])], []⟩)] hF
      case hex => intro A X; conv => lhs; cbv
      case hob =>
        intro X
        subst hB
        simp [AllOb, Ob.holds, BE.den, std, stdCmp, stdArith] <;> omega
      case hQ =>
      intro X17_0 a0 w1 hF
      replace hF := hF.headS (v' := .bool .tt) (Sim.bool (by subst hB; rfl)) rfl
      apply list_endB 6 hB T14_ok [73, 2, 4, 5] [2, 10, 1000, 5] [(10, .x fun _ => ⟨.int .i64 nz, [(1000, [.str sN])], []⟩)] hF
      case hex => intro A X; conv => lhs; cbv
      case hob =>
        intro X
        subst hB
        simp only [AllOb, Ob.holds, BE.den, List.mem_cons, List.not_mem_nil, or_false, forall_eq_or_imp, forall_eq] <;> (and_intros <;> first | trivial | (intro h; trivial) | exact enters46 | exact SL _ | exact ⟨enters46, SL _⟩ | (intro h; exact ⟨enters46, SL _⟩) | rfl | (intro h; rfl))
      case hQ =>
      intro X17 a0 w1 hF
      refine test_ok hF rfl (fun hb hF => ?_) (fun hb hF => ?_)
      · exfalso
        have : (0 : Int) < nz := by subst hB; simpa [std, stdCmp] using hb
        omega
      · skip
        skip
        refine wp_skip ?_
        refine wp_seq ?_
        apply region_okB hB T14_ok [2, 4, 5, 6] [2, 10, 5, 6] [] hF
        case hex => intro A X; conv => lhs; cbv
        case hob =>
          intro X
          subst hB
          simp [AllOb, Ob.holds, BE.den, std, stdCmp, stdArith] <;> omega
        case hQ =>
        intro X19 a0 w1 hF
        refine wp_seq ?_
        refine wp_seq ?_
        apply region_okB hB T14_ok [85, 2, 5, 6] [2, 5, 6] [(5, .r fun _ => .bool (.v false))] hF
        case hex => intro A X; conv => lhs; cbv
        case hob =>
          intro X
          subst hB
          simp only [AllOb, Ob.holds, BE.den, List.mem_cons, List.not_mem_nil, or_false, forall_eq_or_imp, forall_eq] <;> (and_intros <;> first | trivial | (intro h; trivial) | exact ⟨entersAs, asnil_s _ _ _⟩ | (intro h; exact ⟨entersAs, asnil_s _ _ _⟩) | exact entersAs | (intro h; exact entersAs) | exact asnil_s _ _ _ | (intro h; exact asnil_s _ _ _) | rfl | (intro h; rfl))
        case hQ =>
        intro X20 a0 w1 hF
        refine test_ok hF rfl (fun hb hF => ?_) (fun hb hF => ?_)
        · exfalso
          exact Bool.false_ne_true hb
        · skip
          skip
          refine wp_skip ?_
          refine wp_seq ?_
          apply region_okB hB T14_ok [2, 3] [2] [] hF
          case hex => intro A X; conv => lhs; cbv
          case hob =>
            intro X
            subst hB
            simp [AllOb, Ob.holds, BE.den, std, stdCmp, stdArith] <;> omega
          case hQ =>
          intro X22 a0 w1 hF
          refine wp_ret ?_
          refine ret_sim (fn := Tryd.f14) T14_ok hF (rs := [.cell 2 34, .tmp 3]) rfl (by conv => lhs; cbv) ?_ noAtom ?_
          · simp [AllOb, Ob.holds]
          · subst hB; rw [hG, hXP]
            show Sim _ (.tup [.agg (parC (kI (List.replicate 20 0)) (marksAV none 0 []) ⟨v1, v2, zeroKey, ⟨oc, oq, ok, ov, ot⟩, ⟨ac, av, ah, t5⟩, 0, zeroCel⟩), .int .i64 0])
            rw [kI_zero]
            exact Sim.tup ⟨Sim.agg (by repeat (first | exact trivial | refine ⟨Sim.refl _, ?_⟩ | refine ⟨Sim.ff, ?_⟩ | refine ⟨Sim.recell (fun i hi => absurd hi (Nat.not_lt_zero _)), ?_⟩)), Sim.refl _, trivial⟩
    · skip
      have hk2 : ¬ v1 = 2 := by subst hB; simpa [std, stdCmp] using hb
      refine wp_seq ?_
      apply region_okB hB T14_ok [45, 2, 4, 5, 19] [2, 10, 1000, 5] [] hF
      case hex => intro A X; conv => lhs; cbv
      case hob =>
        intro X
        subst hB
        simp [AllOb, Ob.holds, BE.den, std, stdCmp, stdArith] <;> omega
      case hQ =>
      intro X11 a0 w1 hF
      refine test_ok hF rfl (fun hb hF => ?_) (fun hb hF => ?_)
      · skip
        have hk3 : v1 = 3 := by subst hB; simpa [std, stdCmp] using hb
        obtain ⟨o, ho3⟩ : ∃ o, o = plcD (⟨e2, s2⟩ : RS) := ⟨_, rfl⟩
        have S3 := fun A b bw => rplace_m 10 b bw s2 e2 A
        simp only [← ho3] at S3
        obtain ⟨y3, e3, s3⟩ := o
        dsimp only at S3
        obtain ⟨z3, hz3⟩ : ∃ z, z = decide (e3 ≠ 0) := ⟨_, rfl⟩
        have heC3 : ∀ A, errC A e3 = .opt z3 81 (.ep A 0 1 0 [.int .i64 e3]) := fun A => by rw [hz3]; rfl
        simp only [heC2, heC3] at S3
        obtain ⟨K, hK⟩ : ∃ K, K = kI y3 := ⟨_, rfl⟩
        simp only [← hK] at S3
        obtain ⟨o, ho4⟩ : ∃ o, o = wholeD (⟨e3, s3⟩ : RS) := ⟨_, rfl⟩
        have S4 := fun A b bw => rwhole_m 10 b bw s3 e3 A
        simp only [← ho4] at S4
        obtain ⟨v4, e4, s4⟩ := o
        dsimp only at S4
        obtain ⟨z4, hz4⟩ : ∃ z, z = decide (e4 ≠ 0) := ⟨_, rfl⟩
        have heC4 : ∀ A, errC A e4 = .opt z4 81 (.ep A 0 1 0 [.int .i64 e4]) := fun A => by rw [hz4]; rfl
        simp only [heC3, heC4] at S4
        obtain ⟨o, hoN⟩ : ∃ o, o = cellD (⟨e4, s4⟩ : RS) := ⟨_, rfl⟩
        have SN := fun A b bw => rcell_m 10 b bw s4 e4 A
        simp only [← hoN] at SN
        obtain ⟨⟨cv, ch, ct, cm⟩, eN, sN⟩ := o
        dsimp only at SN
        obtain ⟨zN, hzN⟩ : ∃ z, z = decide (eN ≠ 0) := ⟨_, rfl⟩
        have heCN : ∀ A, errC A eN = .opt zN 81 (.ep A 0 1 0 [.int .i64 eN]) := fun A => by rw [hzN]; rfl
        simp only [heC4, heCN] at SN
        obtain ⟨n5, f5, hm5, hn5, hf5⟩ := marks_open cm
        simp only [celAV, celC, hm5, rowM] at SN
        obtain ⟨XP, hXP⟩ : ∃ x, x = (⟨v1, v2, y3, zeroOp, zeroAns, v4, ⟨cv, ch, ct, cm⟩⟩ : Par) := ⟨_, rfl⟩
        have hG : allD s = (XP, ⟨eN, sN⟩) := by
          rw [hXP]
          simp only [allD, ← ho1, ← ho2, bodyD, hk3, show ((3 : Int) = 1) = False from by simp, show ((3 : Int) = 2) = False from by simp, if_true, if_false, ← ho3, ← ho4, ← hoN]
        rw [hG] at hy hy2
        dsimp only at hy hy2
        have hzN1 : zN = false := by rw [hzN, hy]; rfl
        subst hzN1
        obtain ⟨nz, hnz⟩ : ∃ n, n = (sN.size : Int) := ⟨_, rfl⟩
        have SL := fun b => left_m 1000 b sN
        simp only [← hnz] at SL
        refine wp_seq ?_
        apply region_okB hB T14_ok [2, 4, 5] [2, 10, 1000, 5] [(1, .x fun x => ⟨.agg (keyC K), [(10, [.ptr 1000 (X1 1).b 0, .opt z3 81 (.ep (x.A 0) 0 1 0 [.int .i64 e3])]), (1000, [.str s3])], []⟩)] hF
        case hex => intro A X; conv => lhs; cbv
        case hob =>
          intro X
          subst hB
          simp only [AllOb, Ob.holds, BE.den, List.mem_cons, List.not_mem_nil, or_false, forall_eq_or_imp, forall_eq] <;> (and_intros <;> first | trivial | (intro h; trivial) | exact enters39 | exact S3 _ _ _ | exact ⟨enters39, S3 _ _ _⟩ | (intro h; exact ⟨enters39, S3 _ _ _⟩) | rfl | (intro h; rfl))
        case hQ =>
        intro X12 a0 w1 hF
        refine wp_seq ?_
        apply region_okB hB T14_ok [2, 4, 5] [2, 10, 1000, 5] [(1, .x fun x => ⟨.int .u64 v4, [(10, [.ptr 1000 (X1 1).b 0, .opt z4 81 (.ep (x.A 0) 0 1 0 [.int .i64 e4])]), (1000, [.str s4])], []⟩)] hF
        case hex => intro A X; conv => lhs; cbv
        case hob =>
          intro X
          subst hB
          simp only [AllOb, Ob.holds, BE.den, List.mem_cons, List.not_mem_nil, or_false, forall_eq_or_imp, forall_eq] <;> (and_intros <;> first | trivial | (intro h; trivial) | exact enters38 | exact S4 _ _ _ | exact ⟨enters38, S4 _ _ _⟩ | (intro h; exact ⟨enters38, S4 _ _ _⟩) | rfl | (intro h; rfl))
        case hQ =>
        intro X13 a0 w1 hF
        apply region_okB hB T14_ok [2, 4, 5] [2, 10, 1000, 5] [(1, .x fun x => ⟨.agg [.int .u64 cv, .bool (.v ch), .str ct, .sl none (x.A 1) n5 (x.c 0) 6 (fun i => markC (f5 i))], [(10, [.ptr 1000 (X1 1).b 0, .opt false 81 (.ep (x.A 0) 0 1 0 [.int .i64 eN])]), (1000, [.str sN])], []⟩)] hF
        case hex => intro A X; conv => lhs; cbv
        case hob =>
          intro X
          subst hB
          simp only [AllOb, Ob.holds, BE.den, List.mem_cons, List.not_mem_nil, or_false, forall_eq_or_imp, forall_eq] <;> (and_intros <;> first | trivial | (intro h; trivial) | exact enters45 | exact SN _ _ _ | exact ⟨enters45, SN _ _ _⟩ | (intro h; exact ⟨enters45, SN _ _ _⟩) | rfl | (intro h; rfl))
        case hQ =>
        intro X14 a0 w1 hF
        refine wp_seq ?_
        refine wp_seq ?_
        refine wp_region_lit ?_
        apply list_preB 0 6 hB T14_ok [66, 4, 5, 2] [2, 10, 1000, 5] [(10, .x fun _ => ⟨.int .i64 nz, [(1000, [.str sN])], []⟩)] hF
        case hex => intro A X; conv => lhs; cbv
        case hob =>
          intro X
          subst hB
          simp [AllOb, Ob.holds, BE.den, std, stdCmp, stdArith] <;> omega
        case hQ =>
        intro X17_0 a0 w1 hF
        replace hF := hF.headS (v' := .bool .tt) (Sim.bool (by subst hB; rfl)) rfl
        apply list_endB 6 hB T14_ok [73, 2, 4, 5] [2, 10, 1000, 5] [(10, .x fun _ => ⟨.int .i64 nz, [(1000, [.str sN])], []⟩)] hF
        case hex => intro A X; conv => lhs; cbv
        case hob =>
          intro X
          subst hB
          simp only [AllOb, Ob.holds, BE.den, List.mem_cons, List.not_mem_nil, or_false, forall_eq_or_imp, forall_eq] <;> (and_intros <;> first | trivial | (intro h; trivial) | exact enters46 | exact SL _ | exact ⟨enters46, SL _⟩ | (intro h; exact ⟨enters46, SL _⟩) | rfl | (intro h; rfl))
        case hQ =>
        intro X17 a0 w1 hF
        refine test_ok hF rfl (fun hb hF => ?_) (fun hb hF => ?_)
        · exfalso
          have : (0 : Int) < nz := by subst hB; simpa [std, stdCmp] using hb
          omega
        · skip
          skip
          refine wp_skip ?_
          refine wp_seq ?_
          apply region_okB hB T14_ok [2, 4, 5, 6] [2, 10, 5, 6] [] hF
          case hex => intro A X; conv => lhs; cbv
          case hob =>
            intro X
            subst hB
            simp [AllOb, Ob.holds, BE.den, std, stdCmp, stdArith] <;> omega
          case hQ =>
          intro X19 a0 w1 hF
          refine wp_seq ?_
          refine wp_seq ?_
          apply region_okB hB T14_ok [85, 2, 5, 6] [2, 5, 6] [(5, .r fun _ => .bool (.v false))] hF
          case hex => intro A X; conv => lhs; cbv
          case hob =>
            intro X
            subst hB
            simp only [AllOb, Ob.holds, BE.den, List.mem_cons, List.not_mem_nil, or_false, forall_eq_or_imp, forall_eq] <;> (and_intros <;> first | trivial | (intro h; trivial) | exact ⟨entersAs, asnil_s _ _ _⟩ | (intro h; exact ⟨entersAs, asnil_s _ _ _⟩) | exact entersAs | (intro h; exact entersAs) | exact asnil_s _ _ _ | (intro h; exact asnil_s _ _ _) | rfl | (intro h; rfl))
          case hQ =>
          intro X20 a0 w1 hF
          refine test_ok hF rfl (fun hb hF => ?_) (fun hb hF => ?_)
          · exfalso
            exact Bool.false_ne_true hb
          · skip
            skip
            refine wp_skip ?_
            refine wp_seq ?_
            apply region_okB hB T14_ok [2, 3] [2] [] hF
            case hex => intro A X; conv => lhs; cbv
            case hob =>
              intro X
              subst hB
              simp [AllOb, Ob.holds, BE.den, std, stdCmp, stdArith] <;> omega
            case hQ =>
            intro X22 a0 w1 hF
            refine wp_ret ?_
            refine ret_sim (fn := Tryd.f14) T14_ok hF (rs := [.cell 2 34, .tmp 3]) rfl (by conv => lhs; cbv) ?_ (⟨0, fun _ => (X14 1).A 1, fun _ => (X14 1).c 0, fun _ => .empty⟩) ?_
            · simp [AllOb, Ob.holds]
            · subst hB; rw [hG, hXP]
              show Sim _ (.tup [.agg (parC (kI y3) (marksAV ((X14 1).A 1) ((X14 1).c 0) cm) ⟨v1, v2, y3, zeroOp, zeroAns, v4, ⟨cv, ch, ct, cm⟩⟩), .int .i64 0])
              rw [← hK, hm5]
              exact Sim.tup ⟨Sim.agg (by repeat (first | exact trivial | refine ⟨Sim.refl _, ?_⟩ | refine ⟨Sim.ff, ?_⟩ | refine ⟨Sim.recell (fun i hi => absurd hi (Nat.not_lt_zero _)), ?_⟩)), Sim.refl _, trivial⟩
      · skip
        have hk3 : ¬ v1 = 3 := by subst hB; simpa [std, stdCmp] using hb
        refine wp_seq ?_
        apply region_okB hB T14_ok [56, 2, 4, 5] [2, 10, 1000, 5] [] hF
        case hex => intro A X; conv => lhs; cbv
        case hob =>
          intro X
          subst hB
          simp [AllOb, Ob.holds, BE.den, std, stdCmp, stdArith] <;> omega
        case hQ =>
        intro X15 a0 w1 hF
        refine test_ok hF rfl (fun hb hF => ?_) (fun hb hF => ?_)
        · skip
          have hk4 : v1 = 4 := by subst hB; simpa [std, stdCmp] using hb
          obtain ⟨o, hoN⟩ : ∃ o, o = wholeD (⟨e2, s2⟩ : RS) := ⟨_, rfl⟩
          have SN := fun A b bw => rwhole_m 10 b bw s2 e2 A
          simp only [← hoN] at SN
          obtain ⟨v3, eN, sN⟩ := o
          dsimp only at SN
          obtain ⟨zN, hzN⟩ : ∃ z, z = decide (eN ≠ 0) := ⟨_, rfl⟩
          have heCN : ∀ A, errC A eN = .opt zN 81 (.ep A 0 1 0 [.int .i64 eN]) := fun A => by rw [hzN]; rfl
          simp only [heC2, heCN] at SN
          obtain ⟨XP, hXP⟩ : ∃ x, x = (⟨v1, v2, zeroKey, zeroOp, zeroAns, v3, zeroCel⟩ : Par) := ⟨_, rfl⟩
          have hG : allD s = (XP, ⟨eN, sN⟩) := by
            rw [hXP]
            simp only [allD, ← ho1, ← ho2, bodyD, hk4, show ((4 : Int) = 1) = False from by simp, show ((4 : Int) = 2) = False from by simp, show ((4 : Int) = 3) = False from by simp, if_true, if_false, ← hoN]
          rw [hG] at hy hy2
          dsimp only at hy hy2
          have hzN1 : zN = false := by rw [hzN, hy]; rfl
          subst hzN1
          obtain ⟨nz, hnz⟩ : ∃ n, n = (sN.size : Int) := ⟨_, rfl⟩
          have SL := fun b => left_m 1000 b sN
          simp only [← hnz] at SL
          apply region_okB hB T14_ok [2, 4, 5] [2, 10, 1000, 5] [(1, .x fun x => ⟨.int .u64 v3, [(10, [.ptr 1000 (X1 1).b 0, .opt false 81 (.ep (x.A 0) 0 1 0 [.int .i64 eN])]), (1000, [.str sN])], []⟩)] hF
          case hex => intro A X; conv => lhs; cbv
          case hob =>
            intro X
            subst hB
            simp only [AllOb, Ob.holds, BE.den, List.mem_cons, List.not_mem_nil, or_false, forall_eq_or_imp, forall_eq] <;> (and_intros <;> first | trivial | (intro h; trivial) | exact enters38 | exact SN _ _ _ | exact ⟨enters38, SN _ _ _⟩ | (intro h; exact ⟨enters38, SN _ _ _⟩) | rfl | (intro h; rfl))
          case hQ =>
          intro X16 a0 w1 hF
          refine wp_seq ?_
          refine wp_seq ?_
          refine wp_region_lit ?_
          apply list_preB 0 6 hB T14_ok [66, 4, 5, 2] [2, 10, 1000, 5] [(10, .x fun _ => ⟨.int .i64 nz, [(1000, [.str sN])], []⟩)] hF
          case hex => intro A X; conv => lhs; cbv
          case hob =>
            intro X
            subst hB
            simp [AllOb, Ob.holds, BE.den, std, stdCmp, stdArith] <;> omega
          case hQ =>
          intro X17_0 a0 w1 hF
          replace hF := hF.headS (v' := .bool .tt) (Sim.bool (by subst hB; rfl)) rfl
          apply list_endB 6 hB T14_ok [73, 2, 4, 5] [2, 10, 1000, 5] [(10, .x fun _ => ⟨.int .i64 nz, [(1000, [.str sN])], []⟩)] hF
          case hex => intro A X; conv => lhs; cbv
          case hob =>
            intro X
            subst hB
            simp only [AllOb, Ob.holds, BE.den, List.mem_cons, List.not_mem_nil, or_false, forall_eq_or_imp, forall_eq] <;> (and_intros <;> first | trivial | (intro h; trivial) | exact enters46 | exact SL _ | exact ⟨enters46, SL _⟩ | (intro h; exact ⟨enters46, SL _⟩) | rfl | (intro h; rfl))
          case hQ =>
          intro X17 a0 w1 hF
          refine test_ok hF rfl (fun hb hF => ?_) (fun hb hF => ?_)
          · exfalso
            have : (0 : Int) < nz := by subst hB; simpa [std, stdCmp] using hb
            omega
          · skip
            skip
            refine wp_skip ?_
            refine wp_seq ?_
            apply region_okB hB T14_ok [2, 4, 5, 6] [2, 10, 5, 6] [] hF
            case hex => intro A X; conv => lhs; cbv
            case hob =>
              intro X
              subst hB
              simp [AllOb, Ob.holds, BE.den, std, stdCmp, stdArith] <;> omega
            case hQ =>
            intro X19 a0 w1 hF
            refine wp_seq ?_
            refine wp_seq ?_
            apply region_okB hB T14_ok [85, 2, 5, 6] [2, 5, 6] [(5, .r fun _ => .bool (.v false))] hF
            case hex => intro A X; conv => lhs; cbv
            case hob =>
              intro X
              subst hB
              simp only [AllOb, Ob.holds, BE.den, List.mem_cons, List.not_mem_nil, or_false, forall_eq_or_imp, forall_eq] <;> (and_intros <;> first | trivial | (intro h; trivial) | exact ⟨entersAs, asnil_s _ _ _⟩ | (intro h; exact ⟨entersAs, asnil_s _ _ _⟩) | exact entersAs | (intro h; exact entersAs) | exact asnil_s _ _ _ | (intro h; exact asnil_s _ _ _) | rfl | (intro h; rfl))
            case hQ =>
            intro X20 a0 w1 hF
            refine test_ok hF rfl (fun hb hF => ?_) (fun hb hF => ?_)
            · exfalso
              exact Bool.false_ne_true hb
            · skip
              skip
              refine wp_skip ?_
              refine wp_seq ?_
              apply region_okB hB T14_ok [2, 3] [2] [] hF
              case hex => intro A X; conv => lhs; cbv
              case hob =>
                intro X
                subst hB
                simp [AllOb, Ob.holds, BE.den, std, stdCmp, stdArith] <;> omega
              case hQ =>
              intro X22 a0 w1 hF
              refine wp_ret ?_
              refine ret_sim (fn := Tryd.f14) T14_ok hF (rs := [.cell 2 34, .tmp 3]) rfl (by conv => lhs; cbv) ?_ noAtom ?_
              · simp [AllOb, Ob.holds]
              · subst hB; rw [hG, hXP]
                show Sim _ (.tup [.agg (parC (kI (List.replicate 20 0)) (marksAV none 0 []) ⟨v1, v2, zeroKey, zeroOp, zeroAns, v3, zeroCel⟩), .int .i64 0])
                rw [kI_zero]
                exact Sim.tup ⟨Sim.agg (by repeat (first | exact trivial | refine ⟨Sim.refl _, ?_⟩ | refine ⟨Sim.ff, ?_⟩ | refine ⟨Sim.recell (fun i hi => absurd hi (Nat.not_lt_zero _)), ?_⟩)), Sim.refl _, trivial⟩
        · exfalso
          have hk4 : ¬ v1 = 4 := by subst hB; simpa [std, stdCmp] using hb
          omega
end Go.Proofs.YtkamdppnnhjajaaDoor.Sym

namespace Go.Proofs.YtkamdppnnhjajaaDoor.Sym
open Go Go.RowKit
set_option maxRecDepth 100000
set_option maxHeartbeats 1600000
set_option linter.unusedVariables false
set_option linter.unusedSimpArgs false
theorem getp_no (s : ByteArray) (hy : (allD s).2.e ≠ 0) : SpecG Tryd.prog 14 [.str s] [] (fun _ => ⟨.tup [parAV none 0 zeroPar, .int .i64 (allD s).2.e], [], []⟩) := by
  intro m w hm hargs hpre
  intro hg
  obtain ⟨z0, hz0⟩ : ∃ z : Bool, z = false := ⟨_, rfl⟩
  have heC0 : ∀ A, errC A 0 = .opt z0 81 (.ep A 0 1 0 [.int .i64 0]) := fun A => by rw [hz0]; rfl
  have hrg := num_rng (d := 0) (lo := 1) (hi := 4) (⟨0, s⟩ : RS) (by decide) (by decide)
  obtain ⟨o, ho1⟩ : ∃ o, o = numD 0 1 4 (⟨0, s⟩ : RS) := ⟨_, rfl⟩
  have S1 := fun A b bw => rnumber_m 10 b bw s 0 A 1 4
  simp only [← ho1] at S1
  obtain ⟨v1, e1, s1⟩ := o
  dsimp only at S1
  obtain ⟨z1, hz1⟩ : ∃ z, z = decide (e1 ≠ 0) := ⟨_, rfl⟩
  have heC1 : ∀ A, errC A e1 = .opt z1 81 (.ep A 0 1 0 [.int .i64 e1]) := fun A => by rw [hz1]; rfl
  simp only [heC0, heC1] at S1
  rw [← ho1] at hrg
  dsimp only at hrg
  have ew1 := wrap_in (x := v1) (by omega) (by omega)
  obtain ⟨o, ho2⟩ : ∃ o, o = wholeD (⟨e1, s1⟩ : RS) := ⟨_, rfl⟩
  have S2 := fun A b bw => rwhole_m 10 b bw s1 e1 A
  simp only [← ho2] at S2
  obtain ⟨v2, e2, s2⟩ := o
  dsimp only at S2
  obtain ⟨z2, hz2⟩ : ∃ z, z = decide (e2 ≠ 0) := ⟨_, rfl⟩
  have heC2 : ∀ A, errC A e2 = .opt z2 81 (.ep A 0 1 0 [.int .i64 e2]) := fun A => by rw [hz2]; rfl
  simp only [heC1, heC2] at S2
  refine enterX hm hpre hargs Tryd.func14 rfl (by simp [Tryd.ntmps14]) fun a0 hF => ?_
  simp only [Tryd.ntmps14, startT] at hF
  obtain ⟨B, hB⟩ : ∃ B, B = std := ⟨_, rfl⟩
  refine wp_seq ?_
  apply region_okB hB T14_ok [0, 2] [2] [] hF
  case hex => intro A X; conv => lhs; cbv
  case hob =>
    intro X
    subst hB
    simp [AllOb, Ob.holds, BE.den, std, stdCmp, stdArith] <;> omega
  case hQ =>
  intro X0 a0 w1 hF
  refine wp_seq ?_
  apply region_okB hB T14_ok [2, 4] [2, 10, 1000] [(1, .x fun x => ⟨.ptr 1000 x.b 0, [], [(1000, ⟨x.b, 105, [.str s]⟩)]⟩)] hF
  case hex => intro A X; conv => lhs; cbv
  case hob =>
    intro X
    subst hB
    simp only [AllOb, Ob.holds, BE.den, List.mem_cons, List.not_mem_nil, or_false, forall_eq_or_imp, forall_eq] <;> (and_intros <;> first | trivial | (intro h; trivial) | exact enters36 | (intro h; exact enters36) | (refine (new_s s).re ⟨Sim.refl _, trivial⟩ rfl (fun x => ⟨rfl, rfl, Sim.ptr, rfl⟩)) | (intro h; (refine (new_s s).re ⟨Sim.refl _, trivial⟩ rfl (fun x => ⟨rfl, rfl, Sim.ptr, rfl⟩))) | rfl | (intro h; rfl))
  case hQ =>
  intro X1 a0 w1 hF
  replace hF := hF.cellAt 10 rfl 1 (.opt z0 81 (.ep none 0 1 0 [.int .i64 0])) (Nat.le_of_ble_eq_true rfl) (⟨by rw [hz0]; rfl, fun _ => rfl, fun _ _ _ => .opt _ _ _ (fun h => absurd (h.symm.trans hz0) (by decide))⟩) rfl
  refine wp_seq ?_
  apply region_okB hB T14_ok [2, 4, 5] [2, 10, 1000, 5] [(1, .x fun x => ⟨.int .u64 v1, [(10, [.ptr 1000 (X1 1).b 0, .opt z1 81 (.ep (x.A 0) 0 1 0 [.int .i64 e1])]), (1000, [.str s1])], []⟩)] hF
  case hex => intro A X; conv => lhs; cbv
  case hob =>
    intro X
    subst hB
    simp only [AllOb, Ob.holds, BE.den, List.mem_cons, List.not_mem_nil, or_false, forall_eq_or_imp, forall_eq] <;> (and_intros <;> first | trivial | (intro h; trivial) | exact enters37 | exact S1 _ _ _ | exact ⟨enters37, S1 _ _ _⟩ | (intro h; exact ⟨enters37, S1 _ _ _⟩) | rfl | (intro h; rfl))
  case hQ =>
  intro X2 a0 w1 hF
  replace hF := hF.cellAt 5 rfl 0 (.int .i64 v1) (Nat.le_of_ble_eq_true rfl) (by subst hB; show Sim (.int .i64 (IntKind.i64.wrap v1)) _; rw [ew1]; exact Sim.refl _) rfl
  refine wp_seq ?_
  apply region_okB hB T14_ok [2, 4, 5] [2, 10, 1000, 5] [(1, .x fun x => ⟨.int .u64 v2, [(10, [.ptr 1000 (X1 1).b 0, .opt z2 81 (.ep (x.A 0) 0 1 0 [.int .i64 e2])]), (1000, [.str s2])], []⟩)] hF
  case hex => intro A X; conv => lhs; cbv
  case hob =>
    intro X
    subst hB
    simp only [AllOb, Ob.holds, BE.den, List.mem_cons, List.not_mem_nil, or_false, forall_eq_or_imp, forall_eq] <;> (and_intros <;> first | trivial | (intro h; trivial) | exact enters38 | exact S2 _ _ _ | exact ⟨enters38, S2 _ _ _⟩ | (intro h; exact ⟨enters38, S2 _ _ _⟩) | rfl | (intro h; rfl))
  case hQ =>
  intro X3 a0 w1 hF
  refine wp_seq ?_
  refine wp_seq ?_
  apply region_okB hB T14_ok [2, 4, 5, 19] [2, 10, 1000, 5] [] hF
  case hex => intro A X; conv => lhs; cbv
  case hob =>
    intro X
    subst hB
    simp [AllOb, Ob.holds, BE.den, std, stdCmp, stdArith] <;> omega
  case hQ =>
  intro X4 a0 w1 hF
  refine wp_block ?_
  refine wp_seq ?_
  apply region_okB hB T14_ok [20, 2, 4, 5, 19] [2, 10, 1000, 5] [] hF
  case hex => intro A X; conv => lhs; cbv
  case hob =>
    intro X
    subst hB
    simp [AllOb, Ob.holds, BE.den, std, stdCmp, stdArith] <;> omega
  case hQ =>
  intro X5 a0 w1 hF
  refine test_ok hF rfl (fun hb hF => ?_) (fun hb hF => ?_)
  · skip
    have hk1 : v1 = 1 := by subst hB; simpa [std, stdCmp] using hb
    obtain ⟨o, ho3⟩ : ∃ o, o = plcD (⟨e2, s2⟩ : RS) := ⟨_, rfl⟩
    have S3 := fun A b bw => rplace_m 10 b bw s2 e2 A
    simp only [← ho3] at S3
    obtain ⟨y3, e3, s3⟩ := o
    dsimp only at S3
    obtain ⟨z3, hz3⟩ : ∃ z, z = decide (e3 ≠ 0) := ⟨_, rfl⟩
    have heC3 : ∀ A, errC A e3 = .opt z3 81 (.ep A 0 1 0 [.int .i64 e3]) := fun A => by rw [hz3]; rfl
    simp only [heC2, heC3] at S3
    obtain ⟨K, hK⟩ : ∃ K, K = kI y3 := ⟨_, rfl⟩
    simp only [← hK] at S3
    obtain ⟨o, hoN⟩ : ∃ o, o = opD (⟨e3, s3⟩ : RS) := ⟨_, rfl⟩
    have SN := fun A b bw => rop_m 10 b bw s3 e3 A
    simp only [← hoN] at SN
    obtain ⟨⟨oc, oq, ok, ov, ot⟩, eN, sN⟩ := o
    dsimp only at SN
    obtain ⟨zN, hzN⟩ : ∃ z, z = decide (eN ≠ 0) := ⟨_, rfl⟩
    have heCN : ∀ A, errC A eN = .opt zN 81 (.ep A 0 1 0 [.int .i64 eN]) := fun A => by rw [hzN]; rfl
    simp only [heC3, heCN] at SN
    simp only [opAV, opC] at SN
    obtain ⟨XP, hXP⟩ : ∃ x, x = (⟨v1, v2, y3, ⟨oc, oq, ok, ov, ot⟩, zeroAns, 0, zeroCel⟩ : Par) := ⟨_, rfl⟩
    have hG : allD s = (XP, ⟨eN, sN⟩) := by
      rw [hXP]
      simp only [allD, ← ho1, ← ho2, bodyD, hk1, if_true, ← ho3, ← hoN]
    rw [hG] at hy
    dsimp only at hy
    have hzN1 : zN = true := by rw [hzN]; exact decide_eq_true hy
    subst hzN1
    obtain ⟨nz, hnz⟩ : ∃ n, n = (sN.size : Int) := ⟨_, rfl⟩
    have SL := fun b => left_m 1000 b sN
    simp only [← hnz] at SL
    apply region_okB hB T14_ok [2, 4, 5] [2, 10, 1000, 5] [(1, .x fun x => ⟨.agg (keyC K), [(10, [.ptr 1000 (X1 1).b 0, .opt z3 81 (.ep (x.A 0) 0 1 0 [.int .i64 e3])]), (1000, [.str s3])], []⟩), (3, .x fun x => ⟨.agg [.int .i64 oc, .int .u64 oq, .int .i64 ok, .int .u64 ov, .str ot], [(10, [.ptr 1000 (X1 1).b 0, .opt true 81 (.ep (x.A 0) 0 1 0 [.int .i64 eN])]), (1000, [.str sN])], []⟩)] hF
    case hex => intro A X; conv => lhs; cbv
    case hob =>
      intro X
      subst hB
      simp only [AllOb, Ob.holds, BE.den, List.mem_cons, List.not_mem_nil, or_false, forall_eq_or_imp, forall_eq] <;> (and_intros <;> first | trivial | (intro h; trivial) | exact enters39 | exact S3 _ _ _ | exact ⟨enters39, S3 _ _ _⟩ | (intro h; exact ⟨enters39, S3 _ _ _⟩) | exact enters40 | exact SN _ _ _ | exact ⟨enters40, SN _ _ _⟩ | (intro h; exact ⟨enters40, SN _ _ _⟩) | rfl | (intro h; rfl))
    case hQ =>
    intro X6 a0 w1 hF
    refine wp_seq ?_
    refine wp_seq ?_
    refine wp_region_lit ?_
    apply list_preB 0 6 hB T14_ok [66, 4, 5, 2] [2, 10, 1000, 5] [(10, .x fun _ => ⟨.int .i64 nz, [(1000, [.str sN])], []⟩)] hF
    case hex => intro A X; conv => lhs; cbv
    case hob =>
      intro X
      subst hB
      simp [AllOb, Ob.holds, BE.den, std, stdCmp, stdArith] <;> omega
    case hQ =>
    intro X17_0 a0 w1 hF
    replace hF := hF.headS (v' := .bool .ff) (Sim.bool (by subst hB; rfl)) rfl
    apply list_endB 6 hB T14_ok [73, 2, 4, 5] [2, 10, 1000, 5] [(10, .x fun _ => ⟨.int .i64 nz, [(1000, [.str sN])], []⟩)] hF
    case hex => intro A X; conv => lhs; cbv
    case hob =>
      intro X
      subst hB
      simp only [AllOb, Ob.holds, BE.den, List.mem_cons, List.not_mem_nil, or_false, forall_eq_or_imp, forall_eq] <;> (and_intros <;> first | trivial | (intro h; trivial) | rfl | (intro h; rfl))
    case hQ =>
    intro X17 a0 w1 hF
    refine test_ff hF rfl (fun hF => ?_)
    refine wp_skip ?_
    refine wp_seq ?_
    apply region_okB hB T14_ok [2, 4, 5, 6] [2, 10, 5, 6] [] hF
    case hex => intro A X; conv => lhs; cbv
    case hob =>
      intro X
      subst hB
      simp [AllOb, Ob.holds, BE.den, std, stdCmp, stdArith] <;> omega
    case hQ =>
    intro X19 a0 w1 hF
    refine wp_seq ?_
    refine wp_seq ?_
    refine wp_region_lit ?_
    apply list_preB 0 5 hB T14_ok [83, 84, 2, 5, 6] [2, 10, 5, 6] [] hF
    case hex => intro A X; conv => lhs; cbv
    case hob =>
      intro X
      subst hB
      simp [AllOb, Ob.holds, BE.den, std, stdCmp, stdArith] <;> omega
    case hQ =>
    intro X20_0 a0 w1 hF
    refine man_outG rfl rfl rfl rfl hF rfl rfl entersAs (ashit_s _ _ eN) (glob_of hF hg (by rintro ⟨e, he, _⟩; cases he)) ⟨Sim.refl _, ⟨rfl, fun _ => rfl, fun _ _ _ => .ifc _ _ (.ptr _ _ _)⟩, trivial⟩ (by intro e he; rw [List.mem_singleton] at he; subst he; rfl) rfl rfl ?_
    intro x a0 w1 hF
    refine wpList_nil ?_
    refine test_ok hF rfl (fun hb hF => ?_) (fun hb hF => ?_)
    · skip
      skip
      refine wp_seq ?_
      apply drawn_okB hB (by kernel_rfl) T14_ok [2, 3] [2] [] hF rfl
      case hex => intro A X; conv => lhs; cbv
      case hD => kernel_rfl
      case hlen => rfl
      case hob =>
        intro X
        subst hB
        simp [AllOb, Ob.holds, BE.den, std, stdCmp, stdArith] <;> omega
      case hQ =>
      intro X21 a0 w1 hF
      refine wp_ret ?_
      refine (ret_x (fn := Tryd.f14) T14_ok hF (rs := [.cell 2 34, .tmp 3]) rfl (by conv => lhs; cbv) ?_ noAtom [] ?_ ?_ ?_).1
      · subst hB; simp [AllOb, Ob.holds]
      · subst hB; rw [hG]
        refine Sim.tup ⟨?_, Sim.refl _, trivial⟩
        refine Sim.trans_ ?_ zero_sim
        exact Sim.agg (by repeat (first | exact trivial | refine ⟨Sim.refl _, ?_⟩ | refine ⟨Sim.ff, ?_⟩))
      · exact trivial
      · exact trivial
    · exfalso
      exact Bool.false_ne_true hb.symm
  · skip
    have hk1 : ¬ v1 = 1 := by subst hB; simpa [std, stdCmp] using hb
    refine wp_seq ?_
    apply region_okB hB T14_ok [28, 2, 4, 5, 19] [2, 10, 1000, 5] [] hF
    case hex => intro A X; conv => lhs; cbv
    case hob =>
      intro X
      subst hB
      simp [AllOb, Ob.holds, BE.den, std, stdCmp, stdArith] <;> omega
    case hQ =>
    intro X7 a0 w1 hF
    refine test_ok hF rfl (fun hb hF => ?_) (fun hb hF => ?_)
    · skip
      have hk2 : v1 = 2 := by subst hB; simpa [std, stdCmp] using hb
      obtain ⟨o, ho3⟩ : ∃ o, o = whoD (⟨e2, s2⟩ : RS) := ⟨_, rfl⟩
      have S3 := fun A b bw => rwho_m 10 b bw s2 e2 A
      simp only [← ho3] at S3
      obtain ⟨⟨oc, oq, ok, ov, ot⟩, e3, s3⟩ := o
      dsimp only at S3
      obtain ⟨z3, hz3⟩ : ∃ z, z = decide (e3 ≠ 0) := ⟨_, rfl⟩
      have heC3 : ∀ A, errC A e3 = .opt z3 81 (.ep A 0 1 0 [.int .i64 e3]) := fun A => by rw [hz3]; rfl
      simp only [heC2, heC3] at S3
      simp only [opAV, opC] at S3
      obtain ⟨ge, hge⟩ : ∃ ge : Nat → Int, ge = fun i => ([0, 8] ++ [7, 9] : List Int).getD i 0 := ⟨_, rfl⟩
      have er : ∀ A k, rowE A k ([0, 8] ++ [7, 9]) = .sl none A 4 k 1 (fun i => [.int .i64 (ge i)]) := fun A k => by rw [hge]; rfl
      have er2 : ∀ A k, rowE A k [0, 8, 7, 9] = .sl none A 4 k 1 (fun i => [.int .i64 (ge i)]) := er
      have SC := fun A k => codes_s A k [7, 9] (by decide)
      simp only [er] at SC
      obtain ⟨o, ho4⟩ : ∃ o, o = toldD [0, 8, 7, 9] (⟨e3, s3⟩ : RS) := ⟨_, rfl⟩
      have S4 := fun A b bw => fun A2 k => rtold_m 10 b bw s3 e3 A A2 k [0, 8, 7, 9] (by decide) mem0879_lt
      simp only [← ho4] at S4
      obtain ⟨⟨ac, av, ah, at_⟩, e4, s4⟩ := o
      dsimp only at S4
      obtain ⟨z4, hz4⟩ : ∃ z, z = decide (e4 ≠ 0) := ⟨_, rfl⟩
      have heC4 : ∀ A, errC A e4 = .opt z4 81 (.ep A 0 1 0 [.int .i64 e4]) := fun A => by rw [hz4]; rfl
      simp only [heC3, heC4] at S4
      simp only [ansAV, ansC, er2] at S4
      obtain ⟨o, hoN⟩ : ∃ o, o = valD ah (⟨e4, s4⟩ : RS) := ⟨_, rfl⟩
      have SN := fun A b bw => rval_m 10 b bw s4 e4 A ah
      simp only [← hoN] at SN
      obtain ⟨t5, eN, sN⟩ := o
      dsimp only at SN
      obtain ⟨zN, hzN⟩ : ∃ z, z = decide (eN ≠ 0) := ⟨_, rfl⟩
      have heCN : ∀ A, errC A eN = .opt zN 81 (.ep A 0 1 0 [.int .i64 eN]) := fun A => by rw [hzN]; rfl
      simp only [heC4, heCN] at SN
      obtain ⟨XP, hXP⟩ : ∃ x, x = (⟨v1, v2, zeroKey, ⟨oc, oq, ok, ov, ot⟩, ⟨ac, av, ah, t5⟩, 0, zeroCel⟩ : Par) := ⟨_, rfl⟩
      have hG : allD s = (XP, ⟨eN, sN⟩) := by
        rw [hXP]
        simp only [allD, ← ho1, ← ho2, bodyD, hk2, show ((2 : Int) = 1) = False from by simp, if_true, if_false, ← ho3, ← ho4, ← hoN]
      rw [hG] at hy
      dsimp only at hy
      have hzN1 : zN = true := by rw [hzN]; exact decide_eq_true hy
      subst hzN1
      obtain ⟨nz, hnz⟩ : ∃ n, n = (sN.size : Int) := ⟨_, rfl⟩
      have SL := fun b => left_m 1000 b sN
      simp only [← hnz] at SL
      refine wp_seq ?_
      apply region_okB hB T14_ok [2, 4, 5] [2, 10, 1000, 5] [(1, .x fun x => ⟨.agg [.int .i64 oc, .int .u64 oq, .int .i64 ok, .int .u64 ov, .str ot], [(10, [.ptr 1000 (X1 1).b 0, .opt z3 81 (.ep (x.A 0) 0 1 0 [.int .i64 e3])]), (1000, [.str s3])], []⟩)] hF
      case hex => intro A X; conv => lhs; cbv
      case hob =>
        intro X
        subst hB
        simp only [AllOb, Ob.holds, BE.den, List.mem_cons, List.not_mem_nil, or_false, forall_eq_or_imp, forall_eq] <;> (and_intros <;> first | trivial | (intro h; trivial) | exact enters41 | exact S3 _ _ _ | exact ⟨enters41, S3 _ _ _⟩ | (intro h; exact ⟨enters41, S3 _ _ _⟩) | rfl | (intro h; rfl))
      case hQ =>
      intro X8 a0 w1 hF
      refine wp_seq ?_
      apply region_okB hB T14_ok [2, 4, 5] [2, 10, 1000, 5] [(2, .r fun x => .sl none (x.A 0) 4 (x.c 0) 1 (fun i => [.int .i64 (ge i)])), (3, .x fun x => ⟨.agg [.int .i64 ac, .int .u64 av, .bool (.v ah), .str at_], [(10, [.ptr 1000 (X1 1).b 0, .opt z4 81 (.ep (x.A 0) 0 1 0 [.int .i64 e4])]), (1000, [.str s4])], []⟩)] hF
      case hex => intro A X; conv => lhs; cbv
      case hob =>
        intro X
        subst hB
        simp only [AllOb, Ob.holds, BE.den, List.mem_cons, List.not_mem_nil, or_false, forall_eq_or_imp, forall_eq] <;> (and_intros <;> first | trivial | (intro h; trivial) | exact enters43 | exact (SC _ _).re ⟨Sim.recell fun i hi => (by match i, hi with | 0, _ => rfl | 1, _ => rfl), trivial⟩ | exact ⟨enters43, (SC _ _).re ⟨Sim.recell fun i hi => (by match i, hi with | 0, _ => rfl | 1, _ => rfl), trivial⟩⟩ | (intro h; exact ⟨enters43, (SC _ _).re ⟨Sim.recell fun i hi => (by match i, hi with | 0, _ => rfl | 1, _ => rfl), trivial⟩⟩) | exact enters42 | exact S4 _ _ _ _ _ | exact ⟨enters42, S4 _ _ _ _ _⟩ | (intro h; exact ⟨enters42, S4 _ _ _ _ _⟩) | rfl | (intro h; rfl))
      case hQ =>
      intro X9 a0 w1 hF
      apply region_okB hB T14_ok [2, 4, 5] [2, 10, 1000, 5] [(4, .x fun x => ⟨.str t5, [(10, [.ptr 1000 (X1 1).b 0, .opt true 81 (.ep (x.A 0) 0 1 0 [.int .i64 eN])]), (1000, [.str sN])], []⟩)] hF
      case hex => intro A X; conv => lhs; cbv
      case hob =>
        intro X
        subst hB
        simp only [AllOb, Ob.holds, BE.den, List.mem_cons, List.not_mem_nil, or_false, forall_eq_or_imp, forall_eq] <;> (and_intros <;> first | trivial | (intro h; trivial) | exact enters44 | exact SN _ _ _ | exact ⟨enters44, SN _ _ _⟩ | (intro h; exact ⟨enters44, SN _ _ _⟩) | rfl | (intro h; rfl))
      case hQ =>
      intro X10 a0 w1 hF
      refine wp_seq ?_
      refine wp_seq ?_
      refine wp_region_lit ?_
      apply list_preB 0 6 hB T14_ok [66, 4, 5, 2] [2, 10, 1000, 5] [(10, .x fun _ => ⟨.int .i64 nz, [(1000, [.str sN])], []⟩)] hF
      case hex => intro A X; conv => lhs; cbv
      case hob =>
        intro X
        subst hB
        simp [AllOb, Ob.holds, BE.den, std, stdCmp, stdArith] <;> omega
      case hQ =>
      intro X17_0 a0 w1 hF
      replace hF := hF.headS (v' := .bool .ff) (Sim.bool (by subst hB; rfl)) rfl
      apply list_endB 6 hB T14_ok [73, 2, 4, 5] [2, 10, 1000, 5] [(10, .x fun _ => ⟨.int .i64 nz, [(1000, [.str sN])], []⟩)] hF
      case hex => intro A X; conv => lhs; cbv
      case hob =>
        intro X
        subst hB
        simp only [AllOb, Ob.holds, BE.den, List.mem_cons, List.not_mem_nil, or_false, forall_eq_or_imp, forall_eq] <;> (and_intros <;> first | trivial | (intro h; trivial) | rfl | (intro h; rfl))
      case hQ =>
      intro X17 a0 w1 hF
      refine test_ff hF rfl (fun hF => ?_)
      refine wp_skip ?_
      refine wp_seq ?_
      apply region_okB hB T14_ok [2, 4, 5, 6] [2, 10, 5, 6] [] hF
      case hex => intro A X; conv => lhs; cbv
      case hob =>
        intro X
        subst hB
        simp [AllOb, Ob.holds, BE.den, std, stdCmp, stdArith] <;> omega
      case hQ =>
      intro X19 a0 w1 hF
      refine wp_seq ?_
      refine wp_seq ?_
      refine wp_region_lit ?_
      apply list_preB 0 5 hB T14_ok [83, 84, 2, 5, 6] [2, 10, 5, 6] [] hF
      case hex => intro A X; conv => lhs; cbv
      case hob =>
        intro X
        subst hB
        simp [AllOb, Ob.holds, BE.den, std, stdCmp, stdArith] <;> omega
      case hQ =>
      intro X20_0 a0 w1 hF
      refine man_outG rfl rfl rfl rfl hF rfl rfl entersAs (ashit_s _ _ eN) (glob_of hF hg (by rintro ⟨e, he, _⟩; cases he)) ⟨Sim.refl _, ⟨rfl, fun _ => rfl, fun _ _ _ => .ifc _ _ (.ptr _ _ _)⟩, trivial⟩ (by intro e he; rw [List.mem_singleton] at he; subst he; rfl) rfl rfl ?_
      intro x a0 w1 hF
      refine wpList_nil ?_
      refine test_ok hF rfl (fun hb hF => ?_) (fun hb hF => ?_)
      · skip
        skip
        refine wp_seq ?_
        apply drawn_okB hB (by kernel_rfl) T14_ok [2, 3] [2] [] hF rfl
        case hex => intro A X; conv => lhs; cbv
        case hD => kernel_rfl
        case hlen => rfl
        case hob =>
          intro X
          subst hB
          simp [AllOb, Ob.holds, BE.den, std, stdCmp, stdArith] <;> omega
        case hQ =>
        intro X21 a0 w1 hF
        refine wp_ret ?_
        refine (ret_x (fn := Tryd.f14) T14_ok hF (rs := [.cell 2 34, .tmp 3]) rfl (by conv => lhs; cbv) ?_ noAtom [] ?_ ?_ ?_).1
        · subst hB; simp [AllOb, Ob.holds]
        · subst hB; rw [hG]
          refine Sim.tup ⟨?_, Sim.refl _, trivial⟩
          refine Sim.trans_ ?_ zero_sim
          exact Sim.agg (by repeat (first | exact trivial | refine ⟨Sim.refl _, ?_⟩ | refine ⟨Sim.ff, ?_⟩))
        · exact trivial
        · exact trivial
      · exfalso
        exact Bool.false_ne_true hb.symm
    · skip
      have hk2 : ¬ v1 = 2 := by subst hB; simpa [std, stdCmp] using hb
      refine wp_seq ?_
      apply region_okB hB T14_ok [45, 2, 4, 5, 19] [2, 10, 1000, 5] [] hF
      case hex => intro A X; conv => lhs; cbv
      case hob =>
        intro X
        subst hB
        simp [AllOb, Ob.holds, BE.den, std, stdCmp, stdArith] <;> omega
      case hQ =>
      intro X11 a0 w1 hF
      refine test_ok hF rfl (fun hb hF => ?_) (fun hb hF => ?_)
      · skip
        have hk3 : v1 = 3 := by subst hB; simpa [std, stdCmp] using hb
        obtain ⟨o, ho3⟩ : ∃ o, o = plcD (⟨e2, s2⟩ : RS) := ⟨_, rfl⟩
        have S3 := fun A b bw => rplace_m 10 b bw s2 e2 A
        simp only [← ho3] at S3
        obtain ⟨y3, e3, s3⟩ := o
        dsimp only at S3
        obtain ⟨z3, hz3⟩ : ∃ z, z = decide (e3 ≠ 0) := ⟨_, rfl⟩
        have heC3 : ∀ A, errC A e3 = .opt z3 81 (.ep A 0 1 0 [.int .i64 e3]) := fun A => by rw [hz3]; rfl
        simp only [heC2, heC3] at S3
        obtain ⟨K, hK⟩ : ∃ K, K = kI y3 := ⟨_, rfl⟩
        simp only [← hK] at S3
        obtain ⟨o, ho4⟩ : ∃ o, o = wholeD (⟨e3, s3⟩ : RS) := ⟨_, rfl⟩
        have S4 := fun A b bw => rwhole_m 10 b bw s3 e3 A
        simp only [← ho4] at S4
        obtain ⟨v4, e4, s4⟩ := o
        dsimp only at S4
        obtain ⟨z4, hz4⟩ : ∃ z, z = decide (e4 ≠ 0) := ⟨_, rfl⟩
        have heC4 : ∀ A, errC A e4 = .opt z4 81 (.ep A 0 1 0 [.int .i64 e4]) := fun A => by rw [hz4]; rfl
        simp only [heC3, heC4] at S4
        obtain ⟨o, hoN⟩ : ∃ o, o = cellD (⟨e4, s4⟩ : RS) := ⟨_, rfl⟩
        have SN := fun A b bw => rcell_m 10 b bw s4 e4 A
        simp only [← hoN] at SN
        obtain ⟨⟨cv, ch, ct, cm⟩, eN, sN⟩ := o
        dsimp only at SN
        obtain ⟨zN, hzN⟩ : ∃ z, z = decide (eN ≠ 0) := ⟨_, rfl⟩
        have heCN : ∀ A, errC A eN = .opt zN 81 (.ep A 0 1 0 [.int .i64 eN]) := fun A => by rw [hzN]; rfl
        simp only [heC4, heCN] at SN
        obtain ⟨n5, f5, hm5, hn5, hf5⟩ := marks_open cm
        simp only [celAV, celC, hm5, rowM] at SN
        obtain ⟨XP, hXP⟩ : ∃ x, x = (⟨v1, v2, y3, zeroOp, zeroAns, v4, ⟨cv, ch, ct, cm⟩⟩ : Par) := ⟨_, rfl⟩
        have hG : allD s = (XP, ⟨eN, sN⟩) := by
          rw [hXP]
          simp only [allD, ← ho1, ← ho2, bodyD, hk3, show ((3 : Int) = 1) = False from by simp, show ((3 : Int) = 2) = False from by simp, if_true, if_false, ← ho3, ← ho4, ← hoN]
        rw [hG] at hy
        dsimp only at hy
        have hzN1 : zN = true := by rw [hzN]; exact decide_eq_true hy
        subst hzN1
        obtain ⟨nz, hnz⟩ : ∃ n, n = (sN.size : Int) := ⟨_, rfl⟩
        have SL := fun b => left_m 1000 b sN
        simp only [← hnz] at SL
        refine wp_seq ?_
        apply region_okB hB T14_ok [2, 4, 5] [2, 10, 1000, 5] [(1, .x fun x => ⟨.agg (keyC K), [(10, [.ptr 1000 (X1 1).b 0, .opt z3 81 (.ep (x.A 0) 0 1 0 [.int .i64 e3])]), (1000, [.str s3])], []⟩)] hF
        case hex => intro A X; conv => lhs; cbv
        case hob =>
          intro X
          subst hB
          simp only [AllOb, Ob.holds, BE.den, List.mem_cons, List.not_mem_nil, or_false, forall_eq_or_imp, forall_eq] <;> (and_intros <;> first | trivial | (intro h; trivial) | exact enters39 | exact S3 _ _ _ | exact ⟨enters39, S3 _ _ _⟩ | (intro h; exact ⟨enters39, S3 _ _ _⟩) | rfl | (intro h; rfl))
        case hQ =>
        intro X12 a0 w1 hF
        refine wp_seq ?_
        apply region_okB hB T14_ok [2, 4, 5] [2, 10, 1000, 5] [(1, .x fun x => ⟨.int .u64 v4, [(10, [.ptr 1000 (X1 1).b 0, .opt z4 81 (.ep (x.A 0) 0 1 0 [.int .i64 e4])]), (1000, [.str s4])], []⟩)] hF
        case hex => intro A X; conv => lhs; cbv
        case hob =>
          intro X
          subst hB
          simp only [AllOb, Ob.holds, BE.den, List.mem_cons, List.not_mem_nil, or_false, forall_eq_or_imp, forall_eq] <;> (and_intros <;> first | trivial | (intro h; trivial) | exact enters38 | exact S4 _ _ _ | exact ⟨enters38, S4 _ _ _⟩ | (intro h; exact ⟨enters38, S4 _ _ _⟩) | rfl | (intro h; rfl))
        case hQ =>
        intro X13 a0 w1 hF
        apply region_okB hB T14_ok [2, 4, 5] [2, 10, 1000, 5] [(1, .x fun x => ⟨.agg [.int .u64 cv, .bool (.v ch), .str ct, .sl none (x.A 1) n5 (x.c 0) 6 (fun i => markC (f5 i))], [(10, [.ptr 1000 (X1 1).b 0, .opt true 81 (.ep (x.A 0) 0 1 0 [.int .i64 eN])]), (1000, [.str sN])], []⟩)] hF
        case hex => intro A X; conv => lhs; cbv
        case hob =>
          intro X
          subst hB
          simp only [AllOb, Ob.holds, BE.den, List.mem_cons, List.not_mem_nil, or_false, forall_eq_or_imp, forall_eq] <;> (and_intros <;> first | trivial | (intro h; trivial) | exact enters45 | exact SN _ _ _ | exact ⟨enters45, SN _ _ _⟩ | (intro h; exact ⟨enters45, SN _ _ _⟩) | rfl | (intro h; rfl))
        case hQ =>
        intro X14 a0 w1 hF
        refine wp_seq ?_
        refine wp_seq ?_
        refine wp_region_lit ?_
        apply list_preB 0 6 hB T14_ok [66, 4, 5, 2] [2, 10, 1000, 5] [(10, .x fun _ => ⟨.int .i64 nz, [(1000, [.str sN])], []⟩)] hF
        case hex => intro A X; conv => lhs; cbv
        case hob =>
          intro X
          subst hB
          simp [AllOb, Ob.holds, BE.den, std, stdCmp, stdArith] <;> omega
        case hQ =>
        intro X17_0 a0 w1 hF
        replace hF := hF.headS (v' := .bool .ff) (Sim.bool (by subst hB; rfl)) rfl
        apply list_endB 6 hB T14_ok [73, 2, 4, 5] [2, 10, 1000, 5] [(10, .x fun _ => ⟨.int .i64 nz, [(1000, [.str sN])], []⟩)] hF
        case hex => intro A X; conv => lhs; cbv
        case hob =>
          intro X
          subst hB
          simp only [AllOb, Ob.holds, BE.den, List.mem_cons, List.not_mem_nil, or_false, forall_eq_or_imp, forall_eq] <;> (and_intros <;> first | trivial | (intro h; trivial) | rfl | (intro h; rfl))
        case hQ =>
        intro X17 a0 w1 hF
        refine test_ff hF rfl (fun hF => ?_)
        refine wp_skip ?_
        refine wp_seq ?_
        apply region_okB hB T14_ok [2, 4, 5, 6] [2, 10, 5, 6] [] hF
        case hex => intro A X; conv => lhs; cbv
        case hob =>
          intro X
          subst hB
          simp [AllOb, Ob.holds, BE.den, std, stdCmp, stdArith] <;> omega
        case hQ =>
        intro X19 a0 w1 hF
        refine wp_seq ?_
        refine wp_seq ?_
        refine wp_region_lit ?_
        apply list_preB 0 5 hB T14_ok [83, 84, 2, 5, 6] [2, 10, 5, 6] [] hF
        case hex => intro A X; conv => lhs; cbv
        case hob =>
          intro X
          subst hB
          simp [AllOb, Ob.holds, BE.den, std, stdCmp, stdArith] <;> omega
        case hQ =>
        intro X20_0 a0 w1 hF
        refine man_outG rfl rfl rfl rfl hF rfl rfl entersAs (ashit_s _ _ eN) (glob_of hF hg (by rintro ⟨e, he, _⟩; cases he)) ⟨Sim.refl _, ⟨rfl, fun _ => rfl, fun _ _ _ => .ifc _ _ (.ptr _ _ _)⟩, trivial⟩ (by intro e he; rw [List.mem_singleton] at he; subst he; rfl) rfl rfl ?_
        intro x a0 w1 hF
        refine wpList_nil ?_
        refine test_ok hF rfl (fun hb hF => ?_) (fun hb hF => ?_)
        · skip
          skip
          refine wp_seq ?_
          apply drawn_okB hB (by kernel_rfl) T14_ok [2, 3] [2] [] hF rfl
          case hex => intro A X; conv => lhs; cbv
          case hD => kernel_rfl
          case hlen => rfl
          case hob =>
            intro X
            subst hB
            simp [AllOb, Ob.holds, BE.den, std, stdCmp, stdArith] <;> omega
          case hQ =>
          intro X21 a0 w1 hF
          refine wp_ret ?_
          refine (ret_x (fn := Tryd.f14) T14_ok hF (rs := [.cell 2 34, .tmp 3]) rfl (by conv => lhs; cbv) ?_ noAtom [] ?_ ?_ ?_).1
          · subst hB; simp [AllOb, Ob.holds]
          · subst hB; rw [hG]
            refine Sim.tup ⟨?_, Sim.refl _, trivial⟩
            refine Sim.trans_ ?_ zero_sim
            exact Sim.agg (by repeat (first | exact trivial | refine ⟨Sim.refl _, ?_⟩ | refine ⟨Sim.ff, ?_⟩))
          · exact trivial
          · exact trivial
        · exfalso
          exact Bool.false_ne_true hb.symm
      · skip
        have hk3 : ¬ v1 = 3 := by subst hB; simpa [std, stdCmp] using hb
        refine wp_seq ?_
        apply region_okB hB T14_ok [56, 2, 4, 5] [2, 10, 1000, 5] [] hF
        case hex => intro A X; conv => lhs; cbv
        case hob =>
          intro X
          subst hB
          simp [AllOb, Ob.holds, BE.den, std, stdCmp, stdArith] <;> omega
        case hQ =>
        intro X15 a0 w1 hF
        refine test_ok hF rfl (fun hb hF => ?_) (fun hb hF => ?_)
        · skip
          have hk4 : v1 = 4 := by subst hB; simpa [std, stdCmp] using hb
          obtain ⟨o, hoN⟩ : ∃ o, o = wholeD (⟨e2, s2⟩ : RS) := ⟨_, rfl⟩
          have SN := fun A b bw => rwhole_m 10 b bw s2 e2 A
          simp only [← hoN] at SN
          obtain ⟨v3, eN, sN⟩ := o
          dsimp only at SN
          obtain ⟨zN, hzN⟩ : ∃ z, z = decide (eN ≠ 0) := ⟨_, rfl⟩
          have heCN : ∀ A, errC A eN = .opt zN 81 (.ep A 0 1 0 [.int .i64 eN]) := fun A => by rw [hzN]; rfl
          simp only [heC2, heCN] at SN
          obtain ⟨XP, hXP⟩ : ∃ x, x = (⟨v1, v2, zeroKey, zeroOp, zeroAns, v3, zeroCel⟩ : Par) := ⟨_, rfl⟩
          have hG : allD s = (XP, ⟨eN, sN⟩) := by
            rw [hXP]
            simp only [allD, ← ho1, ← ho2, bodyD, hk4, show ((4 : Int) = 1) = False from by simp, show ((4 : Int) = 2) = False from by simp, show ((4 : Int) = 3) = False from by simp, if_true, if_false, ← hoN]
          rw [hG] at hy
          dsimp only at hy
          have hzN1 : zN = true := by rw [hzN]; exact decide_eq_true hy
          subst hzN1
          obtain ⟨nz, hnz⟩ : ∃ n, n = (sN.size : Int) := ⟨_, rfl⟩
          have SL := fun b => left_m 1000 b sN
          simp only [← hnz] at SL
          apply region_okB hB T14_ok [2, 4, 5] [2, 10, 1000, 5] [(1, .x fun x => ⟨.int .u64 v3, [(10, [.ptr 1000 (X1 1).b 0, .opt true 81 (.ep (x.A 0) 0 1 0 [.int .i64 eN])]), (1000, [.str sN])], []⟩)] hF
          case hex => intro A X; conv => lhs; cbv
          case hob =>
            intro X
            subst hB
            simp only [AllOb, Ob.holds, BE.den, List.mem_cons, List.not_mem_nil, or_false, forall_eq_or_imp, forall_eq] <;> (and_intros <;> first | trivial | (intro h; trivial) | exact enters38 | exact SN _ _ _ | exact ⟨enters38, SN _ _ _⟩ | (intro h; exact ⟨enters38, SN _ _ _⟩) | rfl | (intro h; rfl))
          case hQ =>
          intro X16 a0 w1 hF
          refine wp_seq ?_
          refine wp_seq ?_
          refine wp_region_lit ?_
          apply list_preB 0 6 hB T14_ok [66, 4, 5, 2] [2, 10, 1000, 5] [(10, .x fun _ => ⟨.int .i64 nz, [(1000, [.str sN])], []⟩)] hF
          case hex => intro A X; conv => lhs; cbv
          case hob =>
            intro X
            subst hB
            simp [AllOb, Ob.holds, BE.den, std, stdCmp, stdArith] <;> omega
          case hQ =>
          intro X17_0 a0 w1 hF
          replace hF := hF.headS (v' := .bool .ff) (Sim.bool (by subst hB; rfl)) rfl
          apply list_endB 6 hB T14_ok [73, 2, 4, 5] [2, 10, 1000, 5] [(10, .x fun _ => ⟨.int .i64 nz, [(1000, [.str sN])], []⟩)] hF
          case hex => intro A X; conv => lhs; cbv
          case hob =>
            intro X
            subst hB
            simp only [AllOb, Ob.holds, BE.den, List.mem_cons, List.not_mem_nil, or_false, forall_eq_or_imp, forall_eq] <;> (and_intros <;> first | trivial | (intro h; trivial) | rfl | (intro h; rfl))
          case hQ =>
          intro X17 a0 w1 hF
          refine test_ff hF rfl (fun hF => ?_)
          refine wp_skip ?_
          refine wp_seq ?_
          apply region_okB hB T14_ok [2, 4, 5, 6] [2, 10, 5, 6] [] hF
          case hex => intro A X; conv => lhs; cbv
          case hob =>
            intro X
            subst hB
            simp [AllOb, Ob.holds, BE.den, std, stdCmp, stdArith] <;> omega
          case hQ =>
          intro X19 a0 w1 hF
          refine wp_seq ?_
          refine wp_seq ?_
          refine wp_region_lit ?_
          apply list_preB 0 5 hB T14_ok [83, 84, 2, 5, 6] [2, 10, 5, 6] [] hF
          case hex => intro A X; conv => lhs; cbv
          case hob =>
            intro X
            subst hB
            simp [AllOb, Ob.holds, BE.den, std, stdCmp, stdArith] <;> omega
          case hQ =>
          intro X20_0 a0 w1 hF
          refine man_outG rfl rfl rfl rfl hF rfl rfl entersAs (ashit_s _ _ eN) (glob_of hF hg (by rintro ⟨e, he, _⟩; cases he)) ⟨Sim.refl _, ⟨rfl, fun _ => rfl, fun _ _ _ => .ifc _ _ (.ptr _ _ _)⟩, trivial⟩ (by intro e he; rw [List.mem_singleton] at he; subst he; rfl) rfl rfl ?_
          intro x a0 w1 hF
          refine wpList_nil ?_
          refine test_ok hF rfl (fun hb hF => ?_) (fun hb hF => ?_)
          · skip
            skip
            refine wp_seq ?_
            apply drawn_okB hB (by kernel_rfl) T14_ok [2, 3] [2] [] hF rfl
            case hex => intro A X; conv => lhs; cbv
            case hD => kernel_rfl
            case hlen => rfl
            case hob =>
              intro X
              subst hB
              simp [AllOb, Ob.holds, BE.den, std, stdCmp, stdArith] <;> omega
            case hQ =>
            intro X21 a0 w1 hF
            refine wp_ret ?_
            refine (ret_x (fn := Tryd.f14) T14_ok hF (rs := [.cell 2 34, .tmp 3]) rfl (by conv => lhs; cbv) ?_ noAtom [] ?_ ?_ ?_).1
            · subst hB; simp [AllOb, Ob.holds]
            · subst hB; rw [hG]
              refine Sim.tup ⟨?_, Sim.refl _, trivial⟩
              refine Sim.trans_ ?_ zero_sim
              exact Sim.agg (by repeat (first | exact trivial | refine ⟨Sim.refl _, ?_⟩ | refine ⟨Sim.ff, ?_⟩))
            · exact trivial
            · exact trivial
          · exfalso
            exact Bool.false_ne_true hb.symm
        · skip
          have hk4 : ¬ v1 = 4 := by subst hB; simpa [std, stdCmp] using hb
          obtain ⟨eN, heN⟩ : ∃ x, x = e2 := ⟨_, rfl⟩
          obtain ⟨sN, hsN⟩ : ∃ x, x = s2 := ⟨_, rfl⟩
          obtain ⟨zN, hzN2⟩ : ∃ x, x = z2 := ⟨_, rfl⟩
          subst heN hsN hzN2
          have hzN := hz2
          obtain ⟨XP, hXP⟩ : ∃ x, x = (⟨v1, v2, zeroKey, zeroOp, zeroAns, 0, zeroCel⟩ : Par) := ⟨_, rfl⟩
          have hG : allD s = (XP, ⟨eN, sN⟩) := by
            rw [hXP]
            simp only [allD, ← ho1, ← ho2, bodyD, hk1, hk2, hk3, hk4, if_false]
          rw [hG] at hy
          dsimp only at hy
          have hzN1 : zN = true := by rw [hzN]; exact decide_eq_true hy
          subst hzN1
          obtain ⟨nz, hnz⟩ : ∃ n, n = (sN.size : Int) := ⟨_, rfl⟩
          have SL := fun b => left_m 1000 b sN
          simp only [← hnz] at SL
          refine wp_skip ?_
          refine wp_seq ?_
          refine wp_seq ?_
          refine wp_region_lit ?_
          apply list_preB 0 6 hB T14_ok [66, 4, 5, 2] [2, 10, 1000, 5] [(10, .x fun _ => ⟨.int .i64 nz, [(1000, [.str sN])], []⟩)] hF
          case hex => intro A X; conv => lhs; cbv
          case hob =>
            intro X
            subst hB
            simp [AllOb, Ob.holds, BE.den, std, stdCmp, stdArith] <;> omega
          case hQ =>
          intro X17_0 a0 w1 hF
          replace hF := hF.headS (v' := .bool .ff) (Sim.bool (by subst hB; rfl)) rfl
          apply list_endB 6 hB T14_ok [73, 2, 4, 5] [2, 10, 1000, 5] [(10, .x fun _ => ⟨.int .i64 nz, [(1000, [.str sN])], []⟩)] hF
          case hex => intro A X; conv => lhs; cbv
          case hob =>
            intro X
            subst hB
            simp only [AllOb, Ob.holds, BE.den, List.mem_cons, List.not_mem_nil, or_false, forall_eq_or_imp, forall_eq] <;> (and_intros <;> first | trivial | (intro h; trivial) | rfl | (intro h; rfl))
          case hQ =>
          intro X17 a0 w1 hF
          refine test_ff hF rfl (fun hF => ?_)
          refine wp_skip ?_
          refine wp_seq ?_
          apply region_okB hB T14_ok [2, 4, 5, 6] [2, 10, 5, 6] [] hF
          case hex => intro A X; conv => lhs; cbv
          case hob =>
            intro X
            subst hB
            simp [AllOb, Ob.holds, BE.den, std, stdCmp, stdArith] <;> omega
          case hQ =>
          intro X19 a0 w1 hF
          refine wp_seq ?_
          refine wp_seq ?_
          refine wp_region_lit ?_
          apply list_preB 0 5 hB T14_ok [83, 84, 2, 5, 6] [2, 10, 5, 6] [] hF
          case hex => intro A X; conv => lhs; cbv
          case hob =>
            intro X
            subst hB
            simp [AllOb, Ob.holds, BE.den, std, stdCmp, stdArith] <;> omega
          case hQ =>
          intro X20_0 a0 w1 hF
          refine man_outG rfl rfl rfl rfl hF rfl rfl entersAs (ashit_s _ _ eN) (glob_of hF hg (by rintro ⟨e, he, _⟩; cases he)) ⟨Sim.refl _, ⟨rfl, fun _ => rfl, fun _ _ _ => .ifc _ _ (.ptr _ _ _)⟩, trivial⟩ (by intro e he; rw [List.mem_singleton] at he; subst he; rfl) rfl rfl ?_
          intro x a0 w1 hF
          refine wpList_nil ?_
          refine test_ok hF rfl (fun hb hF => ?_) (fun hb hF => ?_)
          · skip
            skip
            refine wp_seq ?_
            apply drawn_okB hB (by kernel_rfl) T14_ok [2, 3] [2] [] hF rfl
            case hex => intro A X; conv => lhs; cbv
            case hD => kernel_rfl
            case hlen => rfl
            case hob =>
              intro X
              subst hB
              simp [AllOb, Ob.holds, BE.den, std, stdCmp, stdArith] <;> omega
            case hQ =>
            intro X21 a0 w1 hF
            refine wp_ret ?_
            refine (ret_x (fn := Tryd.f14) T14_ok hF (rs := [.cell 2 34, .tmp 3]) rfl (by conv => lhs; cbv) ?_ noAtom [] ?_ ?_ ?_).1
            · subst hB; simp [AllOb, Ob.holds]
            · subst hB; rw [hG]
              refine Sim.tup ⟨?_, Sim.refl _, trivial⟩
              refine Sim.trans_ ?_ zero_sim
              exact Sim.agg (by repeat (first | exact trivial | refine ⟨Sim.refl _, ?_⟩ | refine ⟨Sim.ff, ?_⟩))
            · exact trivial
            · exact trivial
          · exfalso
            exact Bool.false_ne_true hb.symm
end Go.Proofs.YtkamdppnnhjajaaDoor.Sym

namespace Go.Proofs.YtkamdppnnhjajaaDoor.Sym
open Go Go.RowKit
set_option maxRecDepth 100000
set_option maxHeartbeats 1600000
set_option linter.unusedVariables false
set_option linter.unusedSimpArgs false
theorem getp_more (s : ByteArray) (hy : (allD s).2.e = 0) (hy2 : (allD s).2.s.size ≠ 0) : SpecG Tryd.prog 14 [.str s] [] (fun _ => ⟨.tup [parAV none 0 zeroPar, .int .i64 3], [], []⟩) := by
  intro m w hm hargs hpre
  intro hg
  obtain ⟨z0, hz0⟩ : ∃ z : Bool, z = false := ⟨_, rfl⟩
  have heC0 : ∀ A, errC A 0 = .opt z0 81 (.ep A 0 1 0 [.int .i64 0]) := fun A => by rw [hz0]; rfl
  have hrg := num_rng (d := 0) (lo := 1) (hi := 4) (⟨0, s⟩ : RS) (by decide) (by decide)
  obtain ⟨o, ho1⟩ : ∃ o, o = numD 0 1 4 (⟨0, s⟩ : RS) := ⟨_, rfl⟩
  have S1 := fun A b bw => rnumber_m 10 b bw s 0 A 1 4
  simp only [← ho1] at S1
  obtain ⟨v1, e1, s1⟩ := o
  dsimp only at S1
  obtain ⟨z1, hz1⟩ : ∃ z, z = decide (e1 ≠ 0) := ⟨_, rfl⟩
  have heC1 : ∀ A, errC A e1 = .opt z1 81 (.ep A 0 1 0 [.int .i64 e1]) := fun A => by rw [hz1]; rfl
  simp only [heC0, heC1] at S1
  rw [← ho1] at hrg
  dsimp only at hrg
  have ew1 := wrap_in (x := v1) (by omega) (by omega)
  obtain ⟨o, ho2⟩ : ∃ o, o = wholeD (⟨e1, s1⟩ : RS) := ⟨_, rfl⟩
  have S2 := fun A b bw => rwhole_m 10 b bw s1 e1 A
  simp only [← ho2] at S2
  obtain ⟨v2, e2, s2⟩ := o
  dsimp only at S2
  obtain ⟨z2, hz2⟩ : ∃ z, z = decide (e2 ≠ 0) := ⟨_, rfl⟩
  have heC2 : ∀ A, errC A e2 = .opt z2 81 (.ep A 0 1 0 [.int .i64 e2]) := fun A => by rw [hz2]; rfl
  simp only [heC1, heC2] at S2
  have hkr : 1 ≤ v1 := by
    have h1 := num_good (d := 0) (lo := 1) (hi := 4) (r := ⟨0, s⟩) (by
      refine Decidable.byContradiction fun h => ?_
      have h2 : (allD s).2 = (numD 0 1 4 ⟨0, s⟩).2 := by
        unfold allD
        simp only
        rw [dead_body _ _ _ (by rw [dead_whole _ h]; exact h), dead_whole _ h]
      rw [h2] at hy; exact h hy)
    rw [← ho1] at h1; exact h1.1
  refine enterX hm hpre hargs Tryd.func14 rfl (by simp [Tryd.ntmps14]) fun a0 hF => ?_
  simp only [Tryd.ntmps14, startT] at hF
  obtain ⟨B, hB⟩ : ∃ B, B = std := ⟨_, rfl⟩
  refine wp_seq ?_
  apply region_okB hB T14_ok [0, 2] [2] [] hF
  case hex => intro A X; conv => lhs; cbv
  case hob =>
    intro X
    subst hB
    simp [AllOb, Ob.holds, BE.den, std, stdCmp, stdArith] <;> omega
  case hQ =>
  intro X0 a0 w1 hF
  refine wp_seq ?_
  apply region_okB hB T14_ok [2, 4] [2, 10, 1000] [(1, .x fun x => ⟨.ptr 1000 x.b 0, [], [(1000, ⟨x.b, 105, [.str s]⟩)]⟩)] hF
  case hex => intro A X; conv => lhs; cbv
  case hob =>
    intro X
    subst hB
    simp only [AllOb, Ob.holds, BE.den, List.mem_cons, List.not_mem_nil, or_false, forall_eq_or_imp, forall_eq] <;> (and_intros <;> first | trivial | (intro h; trivial) | exact enters36 | (intro h; exact enters36) | (refine (new_s s).re ⟨Sim.refl _, trivial⟩ rfl (fun x => ⟨rfl, rfl, Sim.ptr, rfl⟩)) | (intro h; (refine (new_s s).re ⟨Sim.refl _, trivial⟩ rfl (fun x => ⟨rfl, rfl, Sim.ptr, rfl⟩))) | rfl | (intro h; rfl))
  case hQ =>
  intro X1 a0 w1 hF
  replace hF := hF.cellAt 10 rfl 1 (.opt z0 81 (.ep none 0 1 0 [.int .i64 0])) (Nat.le_of_ble_eq_true rfl) (⟨by rw [hz0]; rfl, fun _ => rfl, fun _ _ _ => .opt _ _ _ (fun h => absurd (h.symm.trans hz0) (by decide))⟩) rfl
  refine wp_seq ?_
  apply region_okB hB T14_ok [2, 4, 5] [2, 10, 1000, 5] [(1, .x fun x => ⟨.int .u64 v1, [(10, [.ptr 1000 (X1 1).b 0, .opt z1 81 (.ep (x.A 0) 0 1 0 [.int .i64 e1])]), (1000, [.str s1])], []⟩)] hF
  case hex => intro A X; conv => lhs; cbv
  case hob =>
    intro X
    subst hB
    simp only [AllOb, Ob.holds, BE.den, List.mem_cons, List.not_mem_nil, or_false, forall_eq_or_imp, forall_eq] <;> (and_intros <;> first | trivial | (intro h; trivial) | exact enters37 | exact S1 _ _ _ | exact ⟨enters37, S1 _ _ _⟩ | (intro h; exact ⟨enters37, S1 _ _ _⟩) | rfl | (intro h; rfl))
  case hQ =>
  intro X2 a0 w1 hF
  replace hF := hF.cellAt 5 rfl 0 (.int .i64 v1) (Nat.le_of_ble_eq_true rfl) (by subst hB; show Sim (.int .i64 (IntKind.i64.wrap v1)) _; rw [ew1]; exact Sim.refl _) rfl
  refine wp_seq ?_
  apply region_okB hB T14_ok [2, 4, 5] [2, 10, 1000, 5] [(1, .x fun x => ⟨.int .u64 v2, [(10, [.ptr 1000 (X1 1).b 0, .opt z2 81 (.ep (x.A 0) 0 1 0 [.int .i64 e2])]), (1000, [.str s2])], []⟩)] hF
  case hex => intro A X; conv => lhs; cbv
  case hob =>
    intro X
    subst hB
    simp only [AllOb, Ob.holds, BE.den, List.mem_cons, List.not_mem_nil, or_false, forall_eq_or_imp, forall_eq] <;> (and_intros <;> first | trivial | (intro h; trivial) | exact enters38 | exact S2 _ _ _ | exact ⟨enters38, S2 _ _ _⟩ | (intro h; exact ⟨enters38, S2 _ _ _⟩) | rfl | (intro h; rfl))
  case hQ =>
  intro X3 a0 w1 hF
  refine wp_seq ?_
  refine wp_seq ?_
  apply region_okB hB T14_ok [2, 4, 5, 19] [2, 10, 1000, 5] [] hF
  case hex => intro A X; conv => lhs; cbv
  case hob =>
    intro X
    subst hB
    simp [AllOb, Ob.holds, BE.den, std, stdCmp, stdArith] <;> omega
  case hQ =>
  intro X4 a0 w1 hF
  refine wp_block ?_
  refine wp_seq ?_
  apply region_okB hB T14_ok [20, 2, 4, 5, 19] [2, 10, 1000, 5] [] hF
  case hex => intro A X; conv => lhs; cbv
  case hob =>
    intro X
    subst hB
    simp [AllOb, Ob.holds, BE.den, std, stdCmp, stdArith] <;> omega
  case hQ =>
  intro X5 a0 w1 hF
  refine test_ok hF rfl (fun hb hF => ?_) (fun hb hF => ?_)
  · skip
    have hk1 : v1 = 1 := by subst hB; simpa [std, stdCmp] using hb
    obtain ⟨o, ho3⟩ : ∃ o, o = plcD (⟨e2, s2⟩ : RS) := ⟨_, rfl⟩
    have S3 := fun A b bw => rplace_m 10 b bw s2 e2 A
    simp only [← ho3] at S3
    obtain ⟨y3, e3, s3⟩ := o
    dsimp only at S3
    obtain ⟨z3, hz3⟩ : ∃ z, z = decide (e3 ≠ 0) := ⟨_, rfl⟩
    have heC3 : ∀ A, errC A e3 = .opt z3 81 (.ep A 0 1 0 [.int .i64 e3]) := fun A => by rw [hz3]; rfl
    simp only [heC2, heC3] at S3
    obtain ⟨K, hK⟩ : ∃ K, K = kI y3 := ⟨_, rfl⟩
    simp only [← hK] at S3
    obtain ⟨o, hoN⟩ : ∃ o, o = opD (⟨e3, s3⟩ : RS) := ⟨_, rfl⟩
    have SN := fun A b bw => rop_m 10 b bw s3 e3 A
    simp only [← hoN] at SN
    obtain ⟨⟨oc, oq, ok, ov, ot⟩, eN, sN⟩ := o
    dsimp only at SN
    obtain ⟨zN, hzN⟩ : ∃ z, z = decide (eN ≠ 0) := ⟨_, rfl⟩
    have heCN : ∀ A, errC A eN = .opt zN 81 (.ep A 0 1 0 [.int .i64 eN]) := fun A => by rw [hzN]; rfl
    simp only [heC3, heCN] at SN
    simp only [opAV, opC] at SN
    obtain ⟨XP, hXP⟩ : ∃ x, x = (⟨v1, v2, y3, ⟨oc, oq, ok, ov, ot⟩, zeroAns, 0, zeroCel⟩ : Par) := ⟨_, rfl⟩
    have hG : allD s = (XP, ⟨eN, sN⟩) := by
      rw [hXP]
      simp only [allD, ← ho1, ← ho2, bodyD, hk1, if_true, ← ho3, ← hoN]
    rw [hG] at hy hy2
    dsimp only at hy hy2
    have hzN1 : zN = false := by rw [hzN, hy]; rfl
    subst hzN1
    obtain ⟨nz, hnz⟩ : ∃ n, n = (sN.size : Int) := ⟨_, rfl⟩
    have SL := fun b => left_m 1000 b sN
    simp only [← hnz] at SL
    apply region_okB hB T14_ok [2, 4, 5] [2, 10, 1000, 5] [(1, .x fun x => ⟨.agg (keyC K), [(10, [.ptr 1000 (X1 1).b 0, .opt z3 81 (.ep (x.A 0) 0 1 0 [.int .i64 e3])]), (1000, [.str s3])], []⟩), (3, .x fun x => ⟨.agg [.int .i64 oc, .int .u64 oq, .int .i64 ok, .int .u64 ov, .str ot], [(10, [.ptr 1000 (X1 1).b 0, .opt false 81 (.ep (x.A 0) 0 1 0 [.int .i64 eN])]), (1000, [.str sN])], []⟩)] hF
    case hex => intro A X; conv => lhs; cbv
    case hob =>
      intro X
      subst hB
      simp only [AllOb, Ob.holds, BE.den, List.mem_cons, List.not_mem_nil, or_false, forall_eq_or_imp, forall_eq] <;> (and_intros <;> first | trivial | (intro h; trivial) | exact enters39 | exact S3 _ _ _ | exact ⟨enters39, S3 _ _ _⟩ | (intro h; exact ⟨enters39, S3 _ _ _⟩) | exact enters40 | exact SN _ _ _ | exact ⟨enters40, SN _ _ _⟩ | (intro h; exact ⟨enters40, SN _ _ _⟩) | rfl | (intro h; rfl))
    case hQ =>
    intro X6 a0 w1 hF
    refine wp_seq ?_
    refine wp_seq ?_
    refine wp_region_lit ?_
    apply list_preB 0 6 hB T14_ok [66, 4, 5, 2] [2, 10, 1000, 5] [(10, .x fun _ => ⟨.int .i64 nz, [(1000, [.str sN])], []⟩)] hF
    case hex => intro A X; conv => lhs; cbv
    case hob =>
      intro X
      subst hB
      simp [AllOb, Ob.holds, BE.den, std, stdCmp, stdArith] <;> omega
    case hQ =>
    intro X17_0 a0 w1 hF
    replace hF := hF.headS (v' := .bool .tt) (Sim.bool (by subst hB; rfl)) rfl
    apply list_endB 6 hB T14_ok [73, 2, 4, 5] [2, 10, 1000, 5] [(10, .x fun _ => ⟨.int .i64 nz, [(1000, [.str sN])], []⟩)] hF
    case hex => intro A X; conv => lhs; cbv
    case hob =>
      intro X
      subst hB
      simp only [AllOb, Ob.holds, BE.den, List.mem_cons, List.not_mem_nil, or_false, forall_eq_or_imp, forall_eq] <;> (and_intros <;> first | trivial | (intro h; trivial) | exact enters46 | exact SL _ | exact ⟨enters46, SL _⟩ | (intro h; exact ⟨enters46, SL _⟩) | rfl | (intro h; rfl))
    case hQ =>
    intro X17 a0 w1 hF
    refine test_ok hF rfl (fun hb hF => ?_) (fun hb hF => ?_)
    · skip
      skip
      apply region_okB hB T14_ok [2, 4, 5] [2, 10, 1000, 5, 76] [] hF
      case hex => intro A X; conv => lhs; cbv
      case hob =>
        intro X
        subst hB
        simp [AllOb, Ob.holds, BE.den, std, stdCmp, stdArith] <;> omega
      case hQ =>
      intro X18 a0 w1 hF
      have hfz76 := frozen hF (key := 76) rfl [2, 4, 5] [2, 10, 5] rfl (fun k1 bk1 hk1 => hF.nodup k1 76 _ _ (keepM_look _ _ hk1) rfl (by rintro rfl; cases hk1)) (fresh_of hF (key := 76) rfl (fun e1 he1 => by cases he1)) 1
      replace hF := (hF.keep [2, 4, 5] [2, 10, 5]).recells 10 rfl [.ptr 1000 (X1 1).b 0, .opt true 81 (.ep (some ⟨_, 0, none⟩) 0 1 0 [.int .i64 3])] rfl (fun v1 hv1 => by
        simp only [List.mem_cons, List.not_mem_nil, or_false] at hv1
        rcases hv1 with rfl | rfl
        · exact ⟨rfl, .ptr _ _ _⟩
        · exact ⟨rfl, .opt _ _ _ (fun _ => hfz76)⟩)
      refine wp_seq ?_
      apply region_okB hB T14_ok [2, 4, 5, 6] [2, 10, 5, 6] [] hF
      case hex => intro A X; conv => lhs; cbv
      case hob =>
        intro X
        subst hB
        simp [AllOb, Ob.holds, BE.den, std, stdCmp, stdArith] <;> omega
      case hQ =>
      intro X19 a0 w1 hF
      refine wp_seq ?_
      refine wp_seq ?_
      refine wp_region_lit ?_
      apply list_preB 0 5 hB T14_ok [83, 84, 2, 5, 6] [2, 10, 5, 6] [] hF
      case hex => intro A X; conv => lhs; cbv
      case hob =>
        intro X
        subst hB
        simp [AllOb, Ob.holds, BE.den, std, stdCmp, stdArith] <;> omega
      case hQ =>
      intro X20_0 a0 w1 hF
      refine man_outG rfl rfl rfl rfl hF rfl rfl entersAs (ashit_s _ _ 3) (glob_of hF hg (by rintro ⟨e, he, _⟩; cases he)) ⟨Sim.refl _, ⟨rfl, fun _ => rfl, fun _ _ _ => .ifc _ _ (.ptr _ _ _)⟩, trivial⟩ (by intro e he; rw [List.mem_singleton] at he; subst he; rfl) rfl rfl ?_
      intro x a0 w1 hF
      refine wpList_nil ?_
      refine test_ok hF rfl (fun hb hF => ?_) (fun hb hF => ?_)
      · skip
        skip
        refine wp_seq ?_
        apply drawn_okB hB (by kernel_rfl) T14_ok [2, 3] [2] [] hF rfl
        case hex => intro A X; conv => lhs; cbv
        case hD => kernel_rfl
        case hlen => rfl
        case hob =>
          intro X
          subst hB
          simp [AllOb, Ob.holds, BE.den, std, stdCmp, stdArith] <;> omega
        case hQ =>
        intro X21 a0 w1 hF
        refine wp_ret ?_
        refine (ret_x (fn := Tryd.f14) T14_ok hF (rs := [.cell 2 34, .tmp 3]) rfl (by conv => lhs; cbv) ?_ noAtom [] ?_ ?_ ?_).1
        · subst hB; simp [AllOb, Ob.holds]
        · subst hB
          refine Sim.tup ⟨?_, Sim.refl _, trivial⟩
          refine Sim.trans_ ?_ zero_sim
          exact Sim.agg (by repeat (first | exact trivial | refine ⟨Sim.refl _, ?_⟩ | refine ⟨Sim.ff, ?_⟩))
        · exact trivial
        · exact trivial
      · exfalso
        exact Bool.false_ne_true hb.symm
    · exfalso
      have : ¬ (0 : Int) < nz := by subst hB; simpa [std, stdCmp] using hb
      omega
  · skip
    have hk1 : ¬ v1 = 1 := by subst hB; simpa [std, stdCmp] using hb
    refine wp_seq ?_
    apply region_okB hB T14_ok [28, 2, 4, 5, 19] [2, 10, 1000, 5] [] hF
    case hex => intro A X; conv => lhs; cbv
    case hob =>
      intro X
      subst hB
      simp [AllOb, Ob.holds, BE.den, std, stdCmp, stdArith] <;> omega
    case hQ =>
    intro X7 a0 w1 hF
    refine test_ok hF rfl (fun hb hF => ?_) (fun hb hF => ?_)
    · skip
      have hk2 : v1 = 2 := by subst hB; simpa [std, stdCmp] using hb
      obtain ⟨o, ho3⟩ : ∃ o, o = whoD (⟨e2, s2⟩ : RS) := ⟨_, rfl⟩
      have S3 := fun A b bw => rwho_m 10 b bw s2 e2 A
      simp only [← ho3] at S3
      obtain ⟨⟨oc, oq, ok, ov, ot⟩, e3, s3⟩ := o
      dsimp only at S3
      obtain ⟨z3, hz3⟩ : ∃ z, z = decide (e3 ≠ 0) := ⟨_, rfl⟩
      have heC3 : ∀ A, errC A e3 = .opt z3 81 (.ep A 0 1 0 [.int .i64 e3]) := fun A => by rw [hz3]; rfl
      simp only [heC2, heC3] at S3
      simp only [opAV, opC] at S3
      obtain ⟨ge, hge⟩ : ∃ ge : Nat → Int, ge = fun i => ([0, 8] ++ [7, 9] : List Int).getD i 0 := ⟨_, rfl⟩
      have er : ∀ A k, rowE A k ([0, 8] ++ [7, 9]) = .sl none A 4 k 1 (fun i => [.int .i64 (ge i)]) := fun A k => by rw [hge]; rfl
      have er2 : ∀ A k, rowE A k [0, 8, 7, 9] = .sl none A 4 k 1 (fun i => [.int .i64 (ge i)]) := er
      have SC := fun A k => codes_s A k [7, 9] (by decide)
      simp only [er] at SC
      obtain ⟨o, ho4⟩ : ∃ o, o = toldD [0, 8, 7, 9] (⟨e3, s3⟩ : RS) := ⟨_, rfl⟩
      have S4 := fun A b bw => fun A2 k => rtold_m 10 b bw s3 e3 A A2 k [0, 8, 7, 9] (by decide) mem0879_lt
      simp only [← ho4] at S4
      obtain ⟨⟨ac, av, ah, at_⟩, e4, s4⟩ := o
      dsimp only at S4
      obtain ⟨z4, hz4⟩ : ∃ z, z = decide (e4 ≠ 0) := ⟨_, rfl⟩
      have heC4 : ∀ A, errC A e4 = .opt z4 81 (.ep A 0 1 0 [.int .i64 e4]) := fun A => by rw [hz4]; rfl
      simp only [heC3, heC4] at S4
      simp only [ansAV, ansC, er2] at S4
      obtain ⟨o, hoN⟩ : ∃ o, o = valD ah (⟨e4, s4⟩ : RS) := ⟨_, rfl⟩
      have SN := fun A b bw => rval_m 10 b bw s4 e4 A ah
      simp only [← hoN] at SN
      obtain ⟨t5, eN, sN⟩ := o
      dsimp only at SN
      obtain ⟨zN, hzN⟩ : ∃ z, z = decide (eN ≠ 0) := ⟨_, rfl⟩
      have heCN : ∀ A, errC A eN = .opt zN 81 (.ep A 0 1 0 [.int .i64 eN]) := fun A => by rw [hzN]; rfl
      simp only [heC4, heCN] at SN
      obtain ⟨XP, hXP⟩ : ∃ x, x = (⟨v1, v2, zeroKey, ⟨oc, oq, ok, ov, ot⟩, ⟨ac, av, ah, t5⟩, 0, zeroCel⟩ : Par) := ⟨_, rfl⟩
      have hG : allD s = (XP, ⟨eN, sN⟩) := by
        rw [hXP]
        simp only [allD, ← ho1, ← ho2, bodyD, hk2, show ((2 : Int) = 1) = False from by simp, if_true, if_false, ← ho3, ← ho4, ← hoN]
      rw [hG] at hy hy2
      dsimp only at hy hy2
      have hzN1 : zN = false := by rw [hzN, hy]; rfl
      subst hzN1
      obtain ⟨nz, hnz⟩ : ∃ n, n = (sN.size : Int) := ⟨_, rfl⟩
      have SL := fun b => left_m 1000 b sN
      simp only [← hnz] at SL
      refine wp_seq ?_
      apply region_okB hB T14_ok [2, 4, 5] [2, 10, 1000, 5] [(1, .x fun x => ⟨.agg [.int .i64 oc, .int .u64 oq, .int .i64 ok, .int .u64 ov, .str ot], [(10, [.ptr 1000 (X1 1).b 0, .opt z3 81 (.ep (x.A 0) 0 1 0 [.int .i64 e3])]), (1000, [.str s3])], []⟩)] hF
      case hex => intro A X; conv => lhs; cbv
      case hob =>
        intro X
        subst hB
        simp only [AllOb, Ob.holds, BE.den, List.mem_cons, List.not_mem_nil, or_false, forall_eq_or_imp, forall_eq] <;> (and_intros <;> first | trivial | (intro h; trivial) | exact enters41 | exact S3 _ _ _ | exact ⟨enters41, S3 _ _ _⟩ | (intro h; exact ⟨enters41, S3 _ _ _⟩) | rfl | (intro h; rfl))
      case hQ =>
      intro X8 a0 w1 hF
      refine wp_seq ?_
      apply region_okB hB T14_ok [2, 4, 5] [2, 10, 1000, 5] [(2, .r fun x => .sl none (x.A 0) 4 (x.c 0) 1 (fun i => [.int .i64 (ge i)])), (3, .x fun x => ⟨.agg [.int .i64 ac, .int .u64 av, .bool (.v ah), .str at_], [(10, [.ptr 1000 (X1 1).b 0, .opt z4 81 (.ep (x.A 0) 0 1 0 [.int .i64 e4])]), (1000, [.str s4])], []⟩)] hF
      case hex => intro A X; conv => lhs; cbv
      case hob =>
        intro X
        subst hB
        simp only [AllOb, Ob.holds, BE.den, List.mem_cons, List.not_mem_nil, or_false, forall_eq_or_imp, forall_eq] <;> (and_intros <;> first | trivial | (intro h; trivial) | exact enters43 | exact (SC _ _).re ⟨Sim.recell fun i hi => (by match i, hi with | 0, _ => rfl | 1, _ => rfl), trivial⟩ | exact ⟨enters43, (SC _ _).re ⟨Sim.recell fun i hi => (by match i, hi with | 0, _ => rfl | 1, _ => rfl), trivial⟩⟩ | (intro h; exact ⟨enters43, (SC _ _).re ⟨Sim.recell fun i hi => (by match i, hi with | 0, _ => rfl | 1, _ => rfl), trivial⟩⟩) | exact enters42 | exact S4 _ _ _ _ _ | exact ⟨enters42, S4 _ _ _ _ _⟩ | (intro h; exact ⟨enters42, S4 _ _ _ _ _⟩) | rfl | (intro h; rfl))
      case hQ =>
      intro X9 a0 w1 hF
      apply region_okB hB T14_ok [2, 4, 5] [2, 10, 1000, 5] [(4, .x fun x => ⟨.str t5, [(10, [.ptr 1000 (X1 1).b 0, .opt false 81 (.ep (x.A 0) 0 1 0 [.int .i64 eN])]), (1000, [.str sN])], []⟩)] hF
      case hex => intro A X; conv => lhs; cbv
      case hob =>
        intro X
        subst hB
        simp only [AllOb, Ob.holds, BE.den, List.mem_cons, List.not_mem_nil, or_false, forall_eq_or_imp, forall_eq] <;> (and_intros <;> first | trivial | (intro h; trivial) | exact enters44 | exact SN _ _ _ | exact ⟨enters44, SN _ _ _⟩ | (intro h; exact ⟨enters44, SN _ _ _⟩) | rfl | (intro h; rfl))
      case hQ =>
      intro X10 a0 w1 hF
      refine wp_seq ?_
      refine wp_seq ?_
      refine wp_region_lit ?_
      apply list_preB 0 6 hB T14_ok [66, 4, 5, 2] [2, 10, 1000, 5] [(10, .x fun _ => ⟨.int .i64 nz, [(1000, [.str sN])], []⟩)] hF
      case hex => intro A X; conv => lhs; cbv
      case hob =>
        intro X
        subst hB
        simp [AllOb, Ob.holds, BE.den, std, stdCmp, stdArith] <;> omega
      case hQ =>
      intro X17_0 a0 w1 hF
      replace hF := hF.headS (v' := .bool .tt) (Sim.bool (by subst hB; rfl)) rfl
      apply list_endB 6 hB T14_ok [73, 2, 4, 5] [2, 10, 1000, 5] [(10, .x fun _ => ⟨.int .i64 nz, [(1000, [.str sN])], []⟩)] hF
      case hex => intro A X; conv => lhs; cbv
      case hob =>
        intro X
        subst hB
        simp only [AllOb, Ob.holds, BE.den, List.mem_cons, List.not_mem_nil, or_false, forall_eq_or_imp, forall_eq] <;> (and_intros <;> first | trivial | (intro h; trivial) | exact enters46 | exact SL _ | exact ⟨enters46, SL _⟩ | (intro h; exact ⟨enters46, SL _⟩) | rfl | (intro h; rfl))
      case hQ =>
      intro X17 a0 w1 hF
      refine test_ok hF rfl (fun hb hF => ?_) (fun hb hF => ?_)
      · skip
        skip
        apply region_okB hB T14_ok [2, 4, 5] [2, 10, 1000, 5, 76] [] hF
        case hex => intro A X; conv => lhs; cbv
        case hob =>
          intro X
          subst hB
          simp [AllOb, Ob.holds, BE.den, std, stdCmp, stdArith] <;> omega
        case hQ =>
        intro X18 a0 w1 hF
        have hfz76 := frozen hF (key := 76) rfl [2, 4, 5] [2, 10, 5] rfl (fun k1 bk1 hk1 => hF.nodup k1 76 _ _ (keepM_look _ _ hk1) rfl (by rintro rfl; cases hk1)) (fresh_of hF (key := 76) rfl (fun e1 he1 => by cases he1)) 1
        replace hF := (hF.keep [2, 4, 5] [2, 10, 5]).recells 10 rfl [.ptr 1000 (X1 1).b 0, .opt true 81 (.ep (some ⟨_, 0, none⟩) 0 1 0 [.int .i64 3])] rfl (fun v1 hv1 => by
          simp only [List.mem_cons, List.not_mem_nil, or_false] at hv1
          rcases hv1 with rfl | rfl
          · exact ⟨rfl, .ptr _ _ _⟩
          · exact ⟨rfl, .opt _ _ _ (fun _ => hfz76)⟩)
        refine wp_seq ?_
        apply region_okB hB T14_ok [2, 4, 5, 6] [2, 10, 5, 6] [] hF
        case hex => intro A X; conv => lhs; cbv
        case hob =>
          intro X
          subst hB
          simp [AllOb, Ob.holds, BE.den, std, stdCmp, stdArith] <;> omega
        case hQ =>
        intro X19 a0 w1 hF
        refine wp_seq ?_
        refine wp_seq ?_
        refine wp_region_lit ?_
        apply list_preB 0 5 hB T14_ok [83, 84, 2, 5, 6] [2, 10, 5, 6] [] hF
        case hex => intro A X; conv => lhs; cbv
        case hob =>
          intro X
          subst hB
          simp [AllOb, Ob.holds, BE.den, std, stdCmp, stdArith] <;> omega
        case hQ =>
        intro X20_0 a0 w1 hF
        refine man_outG rfl rfl rfl rfl hF rfl rfl entersAs (ashit_s _ _ 3) (glob_of hF hg (by rintro ⟨e, he, _⟩; cases he)) ⟨Sim.refl _, ⟨rfl, fun _ => rfl, fun _ _ _ => .ifc _ _ (.ptr _ _ _)⟩, trivial⟩ (by intro e he; rw [List.mem_singleton] at he; subst he; rfl) rfl rfl ?_
        intro x a0 w1 hF
        refine wpList_nil ?_
        refine test_ok hF rfl (fun hb hF => ?_) (fun hb hF => ?_)
        · skip
          skip
          refine wp_seq ?_
          apply drawn_okB hB (by kernel_rfl) T14_ok [2, 3] [2] [] hF rfl
          case hex => intro A X; conv => lhs; cbv
          case hD => kernel_rfl
          case hlen => rfl
          case hob =>
            intro X
            subst hB
            simp [AllOb, Ob.holds, BE.den, std, stdCmp, stdArith] <;> omega
          case hQ =>
          intro X21 a0 w1 hF
          refine wp_ret ?_
          refine (ret_x (fn := Tryd.f14) T14_ok hF (rs := [.cell 2 34, .tmp 3]) rfl (by conv => lhs; cbv) ?_ noAtom [] ?_ ?_ ?_).1
          · subst hB; simp [AllOb, Ob.holds]
          · subst hB
            refine Sim.tup ⟨?_, Sim.refl _, trivial⟩
            refine Sim.trans_ ?_ zero_sim
            exact Sim.agg (by repeat (first | exact trivial | refine ⟨Sim.refl _, ?_⟩ | refine ⟨Sim.ff, ?_⟩))
          · exact trivial
          · exact trivial
        · exfalso
          exact Bool.false_ne_true hb.symm
      · exfalso
        have : ¬ (0 : Int) < nz := by subst hB; simpa [std, stdCmp] using hb
        omega
    · skip
      have hk2 : ¬ v1 = 2 := by subst hB; simpa [std, stdCmp] using hb
      refine wp_seq ?_
      apply region_okB hB T14_ok [45, 2, 4, 5, 19] [2, 10, 1000, 5] [] hF
      case hex => intro A X; conv => lhs; cbv
      case hob =>
        intro X
        subst hB
        simp [AllOb, Ob.holds, BE.den, std, stdCmp, stdArith] <;> omega
      case hQ =>
      intro X11 a0 w1 hF
      refine test_ok hF rfl (fun hb hF => ?_) (fun hb hF => ?_)
      · skip
        have hk3 : v1 = 3 := by subst hB; simpa [std, stdCmp] using hb
        obtain ⟨o, ho3⟩ : ∃ o, o = plcD (⟨e2, s2⟩ : RS) := ⟨_, rfl⟩
        have S3 := fun A b bw => rplace_m 10 b bw s2 e2 A
        simp only [← ho3] at S3
        obtain ⟨y3, e3, s3⟩ := o
        dsimp only at S3
        obtain ⟨z3, hz3⟩ : ∃ z, z = decide (e3 ≠ 0) := ⟨_, rfl⟩
        have heC3 : ∀ A, errC A e3 = .opt z3 81 (.ep A 0 1 0 [.int .i64 e3]) := fun A => by rw [hz3]; rfl
        simp only [heC2, heC3] at S3
        obtain ⟨K, hK⟩ : ∃ K, K = kI y3 := ⟨_, rfl⟩
        simp only [← hK] at S3
        obtain ⟨o, ho4⟩ : ∃ o, o = wholeD (⟨e3, s3⟩ : RS) := ⟨_, rfl⟩
        have S4 := fun A b bw => rwhole_m 10 b bw s3 e3 A
        simp only [← ho4] at S4
        obtain ⟨v4, e4, s4⟩ := o
        dsimp only at S4
        obtain ⟨z4, hz4⟩ : ∃ z, z = decide (e4 ≠ 0) := ⟨_, rfl⟩
        have heC4 : ∀ A, errC A e4 = .opt z4 81 (.ep A 0 1 0 [.int .i64 e4]) := fun A => by rw [hz4]; rfl
        simp only [heC3, heC4] at S4
        obtain ⟨o, hoN⟩ : ∃ o, o = cellD (⟨e4, s4⟩ : RS) := ⟨_, rfl⟩
        have SN := fun A b bw => rcell_m 10 b bw s4 e4 A
        simp only [← hoN] at SN
        obtain ⟨⟨cv, ch, ct, cm⟩, eN, sN⟩ := o
        dsimp only at SN
        obtain ⟨zN, hzN⟩ : ∃ z, z = decide (eN ≠ 0) := ⟨_, rfl⟩
        have heCN : ∀ A, errC A eN = .opt zN 81 (.ep A 0 1 0 [.int .i64 eN]) := fun A => by rw [hzN]; rfl
        simp only [heC4, heCN] at SN
        obtain ⟨n5, f5, hm5, hn5, hf5⟩ := marks_open cm
        simp only [celAV, celC, hm5, rowM] at SN
        obtain ⟨XP, hXP⟩ : ∃ x, x = (⟨v1, v2, y3, zeroOp, zeroAns, v4, ⟨cv, ch, ct, cm⟩⟩ : Par) := ⟨_, rfl⟩
        have hG : allD s = (XP, ⟨eN, sN⟩) := by
          rw [hXP]
          simp only [allD, ← ho1, ← ho2, bodyD, hk3, show ((3 : Int) = 1) = False from by simp, show ((3 : Int) = 2) = False from by simp, if_true, if_false, ← ho3, ← ho4, ← hoN]
        rw [hG] at hy hy2
        dsimp only at hy hy2
        have hzN1 : zN = false := by rw [hzN, hy]; rfl
        subst hzN1
        obtain ⟨nz, hnz⟩ : ∃ n, n = (sN.size : Int) := ⟨_, rfl⟩
        have SL := fun b => left_m 1000 b sN
        simp only [← hnz] at SL
        refine wp_seq ?_
        apply region_okB hB T14_ok [2, 4, 5] [2, 10, 1000, 5] [(1, .x fun x => ⟨.agg (keyC K), [(10, [.ptr 1000 (X1 1).b 0, .opt z3 81 (.ep (x.A 0) 0 1 0 [.int .i64 e3])]), (1000, [.str s3])], []⟩)] hF
        case hex => intro A X; conv => lhs; cbv
        case hob =>
          intro X
          subst hB
          simp only [AllOb, Ob.holds, BE.den, List.mem_cons, List.not_mem_nil, or_false, forall_eq_or_imp, forall_eq] <;> (and_intros <;> first | trivial | (intro h; trivial) | exact enters39 | exact S3 _ _ _ | exact ⟨enters39, S3 _ _ _⟩ | (intro h; exact ⟨enters39, S3 _ _ _⟩) | rfl | (intro h; rfl))
        case hQ =>
        intro X12 a0 w1 hF
        refine wp_seq ?_
        apply region_okB hB T14_ok [2, 4, 5] [2, 10, 1000, 5] [(1, .x fun x => ⟨.int .u64 v4, [(10, [.ptr 1000 (X1 1).b 0, .opt z4 81 (.ep (x.A 0) 0 1 0 [.int .i64 e4])]), (1000, [.str s4])], []⟩)] hF
        case hex => intro A X; conv => lhs; cbv
        case hob =>
          intro X
          subst hB
          simp only [AllOb, Ob.holds, BE.den, List.mem_cons, List.not_mem_nil, or_false, forall_eq_or_imp, forall_eq] <;> (and_intros <;> first | trivial | (intro h; trivial) | exact enters38 | exact S4 _ _ _ | exact ⟨enters38, S4 _ _ _⟩ | (intro h; exact ⟨enters38, S4 _ _ _⟩) | rfl | (intro h; rfl))
        case hQ =>
        intro X13 a0 w1 hF
        apply region_okB hB T14_ok [2, 4, 5] [2, 10, 1000, 5] [(1, .x fun x => ⟨.agg [.int .u64 cv, .bool (.v ch), .str ct, .sl none (x.A 1) n5 (x.c 0) 6 (fun i => markC (f5 i))], [(10, [.ptr 1000 (X1 1).b 0, .opt false 81 (.ep (x.A 0) 0 1 0 [.int .i64 eN])]), (1000, [.str sN])], []⟩)] hF
        case hex => intro A X; conv => lhs; cbv
        case hob =>
          intro X
          subst hB
          simp only [AllOb, Ob.holds, BE.den, List.mem_cons, List.not_mem_nil, or_false, forall_eq_or_imp, forall_eq] <;> (and_intros <;> first | trivial | (intro h; trivial) | exact enters45 | exact SN _ _ _ | exact ⟨enters45, SN _ _ _⟩ | (intro h; exact ⟨enters45, SN _ _ _⟩) | rfl | (intro h; rfl))
        case hQ =>
        intro X14 a0 w1 hF
        refine wp_seq ?_
        refine wp_seq ?_
        refine wp_region_lit ?_
        apply list_preB 0 6 hB T14_ok [66, 4, 5, 2] [2, 10, 1000, 5] [(10, .x fun _ => ⟨.int .i64 nz, [(1000, [.str sN])], []⟩)] hF
        case hex => intro A X; conv => lhs; cbv
        case hob =>
          intro X
          subst hB
          simp [AllOb, Ob.holds, BE.den, std, stdCmp, stdArith] <;> omega
        case hQ =>
        intro X17_0 a0 w1 hF
        replace hF := hF.headS (v' := .bool .tt) (Sim.bool (by subst hB; rfl)) rfl
        apply list_endB 6 hB T14_ok [73, 2, 4, 5] [2, 10, 1000, 5] [(10, .x fun _ => ⟨.int .i64 nz, [(1000, [.str sN])], []⟩)] hF
        case hex => intro A X; conv => lhs; cbv
        case hob =>
          intro X
          subst hB
          simp only [AllOb, Ob.holds, BE.den, List.mem_cons, List.not_mem_nil, or_false, forall_eq_or_imp, forall_eq] <;> (and_intros <;> first | trivial | (intro h; trivial) | exact enters46 | exact SL _ | exact ⟨enters46, SL _⟩ | (intro h; exact ⟨enters46, SL _⟩) | rfl | (intro h; rfl))
        case hQ =>
        intro X17 a0 w1 hF
        refine test_ok hF rfl (fun hb hF => ?_) (fun hb hF => ?_)
        · skip
          skip
          apply region_okB hB T14_ok [2, 4, 5] [2, 10, 1000, 5, 76] [] hF
          case hex => intro A X; conv => lhs; cbv
          case hob =>
            intro X
            subst hB
            simp [AllOb, Ob.holds, BE.den, std, stdCmp, stdArith] <;> omega
          case hQ =>
          intro X18 a0 w1 hF
          have hfz76 := frozen hF (key := 76) rfl [2, 4, 5] [2, 10, 5] rfl (fun k1 bk1 hk1 => hF.nodup k1 76 _ _ (keepM_look _ _ hk1) rfl (by rintro rfl; cases hk1)) (fresh_of hF (key := 76) rfl (fun e1 he1 => by cases he1)) 1
          replace hF := (hF.keep [2, 4, 5] [2, 10, 5]).recells 10 rfl [.ptr 1000 (X1 1).b 0, .opt true 81 (.ep (some ⟨_, 0, none⟩) 0 1 0 [.int .i64 3])] rfl (fun v1 hv1 => by
            simp only [List.mem_cons, List.not_mem_nil, or_false] at hv1
            rcases hv1 with rfl | rfl
            · exact ⟨rfl, .ptr _ _ _⟩
            · exact ⟨rfl, .opt _ _ _ (fun _ => hfz76)⟩)
          refine wp_seq ?_
          apply region_okB hB T14_ok [2, 4, 5, 6] [2, 10, 5, 6] [] hF
          case hex => intro A X; conv => lhs; cbv
          case hob =>
            intro X
            subst hB
            simp [AllOb, Ob.holds, BE.den, std, stdCmp, stdArith] <;> omega
          case hQ =>
          intro X19 a0 w1 hF
          refine wp_seq ?_
          refine wp_seq ?_
          refine wp_region_lit ?_
          apply list_preB 0 5 hB T14_ok [83, 84, 2, 5, 6] [2, 10, 5, 6] [] hF
          case hex => intro A X; conv => lhs; cbv
          case hob =>
            intro X
            subst hB
            simp [AllOb, Ob.holds, BE.den, std, stdCmp, stdArith] <;> omega
          case hQ =>
          intro X20_0 a0 w1 hF
          refine man_outG rfl rfl rfl rfl hF rfl rfl entersAs (ashit_s _ _ 3) (glob_of hF hg (by rintro ⟨e, he, _⟩; cases he)) ⟨Sim.refl _, ⟨rfl, fun _ => rfl, fun _ _ _ => .ifc _ _ (.ptr _ _ _)⟩, trivial⟩ (by intro e he; rw [List.mem_singleton] at he; subst he; rfl) rfl rfl ?_
          intro x a0 w1 hF
          refine wpList_nil ?_
          refine test_ok hF rfl (fun hb hF => ?_) (fun hb hF => ?_)
          · skip
            skip
            refine wp_seq ?_
            apply drawn_okB hB (by kernel_rfl) T14_ok [2, 3] [2] [] hF rfl
            case hex => intro A X; conv => lhs; cbv
            case hD => kernel_rfl
            case hlen => rfl
            case hob =>
              intro X
              subst hB
              simp [AllOb, Ob.holds, BE.den, std, stdCmp, stdArith] <;> omega
            case hQ =>
            intro X21 a0 w1 hF
            refine wp_ret ?_
            refine (ret_x (fn := Tryd.f14) T14_ok hF (rs := [.cell 2 34, .tmp 3]) rfl (by conv => lhs; cbv) ?_ noAtom [] ?_ ?_ ?_).1
            · subst hB; simp [AllOb, Ob.holds]
            · subst hB
              refine Sim.tup ⟨?_, Sim.refl _, trivial⟩
              refine Sim.trans_ ?_ zero_sim
              exact Sim.agg (by repeat (first | exact trivial | refine ⟨Sim.refl _, ?_⟩ | refine ⟨Sim.ff, ?_⟩))
            · exact trivial
            · exact trivial
          · exfalso
            exact Bool.false_ne_true hb.symm
        · exfalso
          have : ¬ (0 : Int) < nz := by subst hB; simpa [std, stdCmp] using hb
          omega
      · skip
        have hk3 : ¬ v1 = 3 := by subst hB; simpa [std, stdCmp] using hb
        refine wp_seq ?_
        apply region_okB hB T14_ok [56, 2, 4, 5] [2, 10, 1000, 5] [] hF
        case hex => intro A X; conv => lhs; cbv
        case hob =>
          intro X
          subst hB
          simp [AllOb, Ob.holds, BE.den, std, stdCmp, stdArith] <;> omega
        case hQ =>
        intro X15 a0 w1 hF
        refine test_ok hF rfl (fun hb hF => ?_) (fun hb hF => ?_)
        · skip
          have hk4 : v1 = 4 := by subst hB; simpa [std, stdCmp] using hb
          obtain ⟨o, hoN⟩ : ∃ o, o = wholeD (⟨e2, s2⟩ : RS) := ⟨_, rfl⟩
          have SN := fun A b bw => rwhole_m 10 b bw s2 e2 A
          simp only [← hoN] at SN
          obtain ⟨v3, eN, sN⟩ := o
          dsimp only at SN
          obtain ⟨zN, hzN⟩ : ∃ z, z = decide (eN ≠ 0) := ⟨_, rfl⟩
          have heCN : ∀ A, errC A eN = .opt zN 81 (.ep A 0 1 0 [.int .i64 eN]) := fun A => by rw [hzN]; rfl
          simp only [heC2, heCN] at SN
          obtain ⟨XP, hXP⟩ : ∃ x, x = (⟨v1, v2, zeroKey, zeroOp, zeroAns, v3, zeroCel⟩ : Par) := ⟨_, rfl⟩
          have hG : allD s = (XP, ⟨eN, sN⟩) := by
            rw [hXP]
            simp only [allD, ← ho1, ← ho2, bodyD, hk4, show ((4 : Int) = 1) = False from by simp, show ((4 : Int) = 2) = False from by simp, show ((4 : Int) = 3) = False from by simp, if_true, if_false, ← hoN]
          rw [hG] at hy hy2
          dsimp only at hy hy2
          have hzN1 : zN = false := by rw [hzN, hy]; rfl
          subst hzN1
          obtain ⟨nz, hnz⟩ : ∃ n, n = (sN.size : Int) := ⟨_, rfl⟩
          have SL := fun b => left_m 1000 b sN
          simp only [← hnz] at SL
          apply region_okB hB T14_ok [2, 4, 5] [2, 10, 1000, 5] [(1, .x fun x => ⟨.int .u64 v3, [(10, [.ptr 1000 (X1 1).b 0, .opt false 81 (.ep (x.A 0) 0 1 0 [.int .i64 eN])]), (1000, [.str sN])], []⟩)] hF
          case hex => intro A X; conv => lhs; cbv
          case hob =>
            intro X
            subst hB
            simp only [AllOb, Ob.holds, BE.den, List.mem_cons, List.not_mem_nil, or_false, forall_eq_or_imp, forall_eq] <;> (and_intros <;> first | trivial | (intro h; trivial) | exact enters38 | exact SN _ _ _ | exact ⟨enters38, SN _ _ _⟩ | (intro h; exact ⟨enters38, SN _ _ _⟩) | rfl | (intro h; rfl))
          case hQ =>
          intro X16 a0 w1 hF
          refine wp_seq ?_
          refine wp_seq ?_
          refine wp_region_lit ?_
          apply list_preB 0 6 hB T14_ok [66, 4, 5, 2] [2, 10, 1000, 5] [(10, .x fun _ => ⟨.int .i64 nz, [(1000, [.str sN])], []⟩)] hF
          case hex => intro A X; conv => lhs; cbv
          case hob =>
            intro X
            subst hB
            simp [AllOb, Ob.holds, BE.den, std, stdCmp, stdArith] <;> omega
          case hQ =>
          intro X17_0 a0 w1 hF
          replace hF := hF.headS (v' := .bool .tt) (Sim.bool (by subst hB; rfl)) rfl
          apply list_endB 6 hB T14_ok [73, 2, 4, 5] [2, 10, 1000, 5] [(10, .x fun _ => ⟨.int .i64 nz, [(1000, [.str sN])], []⟩)] hF
          case hex => intro A X; conv => lhs; cbv
          case hob =>
            intro X
            subst hB
            simp only [AllOb, Ob.holds, BE.den, List.mem_cons, List.not_mem_nil, or_false, forall_eq_or_imp, forall_eq] <;> (and_intros <;> first | trivial | (intro h; trivial) | exact enters46 | exact SL _ | exact ⟨enters46, SL _⟩ | (intro h; exact ⟨enters46, SL _⟩) | rfl | (intro h; rfl))
          case hQ =>
          intro X17 a0 w1 hF
          refine test_ok hF rfl (fun hb hF => ?_) (fun hb hF => ?_)
          · skip
            skip
            apply region_okB hB T14_ok [2, 4, 5] [2, 10, 1000, 5, 76] [] hF
            case hex => intro A X; conv => lhs; cbv
            case hob =>
              intro X
              subst hB
              simp [AllOb, Ob.holds, BE.den, std, stdCmp, stdArith] <;> omega
            case hQ =>
            intro X18 a0 w1 hF
            have hfz76 := frozen hF (key := 76) rfl [2, 4, 5] [2, 10, 5] rfl (fun k1 bk1 hk1 => hF.nodup k1 76 _ _ (keepM_look _ _ hk1) rfl (by rintro rfl; cases hk1)) (fresh_of hF (key := 76) rfl (fun e1 he1 => by cases he1)) 1
            replace hF := (hF.keep [2, 4, 5] [2, 10, 5]).recells 10 rfl [.ptr 1000 (X1 1).b 0, .opt true 81 (.ep (some ⟨_, 0, none⟩) 0 1 0 [.int .i64 3])] rfl (fun v1 hv1 => by
              simp only [List.mem_cons, List.not_mem_nil, or_false] at hv1
              rcases hv1 with rfl | rfl
              · exact ⟨rfl, .ptr _ _ _⟩
              · exact ⟨rfl, .opt _ _ _ (fun _ => hfz76)⟩)
            refine wp_seq ?_
            apply region_okB hB T14_ok [2, 4, 5, 6] [2, 10, 5, 6] [] hF
            case hex => intro A X; conv => lhs; cbv
            case hob =>
              intro X
              subst hB
              simp [AllOb, Ob.holds, BE.den, std, stdCmp, stdArith] <;> omega
            case hQ =>
            intro X19 a0 w1 hF
            refine wp_seq ?_
            refine wp_seq ?_
            refine wp_region_lit ?_
            apply list_preB 0 5 hB T14_ok [83, 84, 2, 5, 6] [2, 10, 5, 6] [] hF
            case hex => intro A X; conv => lhs; cbv
            case hob =>
              intro X
              subst hB
              simp [AllOb, Ob.holds, BE.den, std, stdCmp, stdArith] <;> omega
            case hQ =>
            intro X20_0 a0 w1 hF
            refine man_outG rfl rfl rfl rfl hF rfl rfl entersAs (ashit_s _ _ 3) (glob_of hF hg (by rintro ⟨e, he, _⟩; cases he)) ⟨Sim.refl _, ⟨rfl, fun _ => rfl, fun _ _ _ => .ifc _ _ (.ptr _ _ _)⟩, trivial⟩ (by intro e he; rw [List.mem_singleton] at he; subst he; rfl) rfl rfl ?_
            intro x a0 w1 hF
            refine wpList_nil ?_
            refine test_ok hF rfl (fun hb hF => ?_) (fun hb hF => ?_)
            · skip
              skip
              refine wp_seq ?_
              apply drawn_okB hB (by kernel_rfl) T14_ok [2, 3] [2] [] hF rfl
              case hex => intro A X; conv => lhs; cbv
              case hD => kernel_rfl
              case hlen => rfl
              case hob =>
                intro X
                subst hB
                simp [AllOb, Ob.holds, BE.den, std, stdCmp, stdArith] <;> omega
              case hQ =>
              intro X21 a0 w1 hF
              refine wp_ret ?_
              refine (ret_x (fn := Tryd.f14) T14_ok hF (rs := [.cell 2 34, .tmp 3]) rfl (by conv => lhs; cbv) ?_ noAtom [] ?_ ?_ ?_).1
              · subst hB; simp [AllOb, Ob.holds]
              · subst hB
                refine Sim.tup ⟨?_, Sim.refl _, trivial⟩
                refine Sim.trans_ ?_ zero_sim
                exact Sim.agg (by repeat (first | exact trivial | refine ⟨Sim.refl _, ?_⟩ | refine ⟨Sim.ff, ?_⟩))
              · exact trivial
              · exact trivial
            · exfalso
              exact Bool.false_ne_true hb.symm
          · exfalso
            have : ¬ (0 : Int) < nz := by subst hB; simpa [std, stdCmp] using hb
            omega
        · exfalso
          have hk4 : ¬ v1 = 4 := by subst hB; simpa [std, stdCmp] using hb
          omega
end Go.Proofs.YtkamdppnnhjajaaDoor.Sym

namespace Go.Proofs.YtkamdppnnhjajaaDoor.Sym
open Go Go.RowKit
set_option linter.unusedVariables false
set_option linter.unusedSimpArgs false

/-- D reads what W puts, of right things -/
structure Rd {α : Type} (D : RS → α × RS) (W : α → List UInt8) (ok : α → Prop) : Prop where
  get : ∀ v r, ok v → D ⟨0, mkB (W v ++ r)⟩ = (v, ⟨0, mkB r⟩)
  put : ∀ s, (D ⟨0, s⟩).2.e = 0 → ok (D ⟨0, s⟩).1 ∧ unB s = W (D ⟨0, s⟩).1 ++ unB (D ⟨0, s⟩).2.s
  err : ∀ s, (D ⟨0, s⟩).2.e = 0 ∨ (D ⟨0, s⟩).2.e = 3 ∨ (D ⟨0, s⟩).2.e = 4
  cut : ∀ v p q, ok v → W v = p ++ q → q ≠ [] → (D ⟨0, mkB p⟩).2.e = 4
theorem rs_eta (r : RS) (h : r.e = 0) : r = ⟨0, r.s⟩ := by cases r; simp only at h; rw [h]
theorem Rd.congr {α : Type} {D D' : RS → α × RS} {W W' : α → List UInt8} {ok ok' : α → Prop} (h : Rd D W ok) (hD : ∀ s, D' ⟨0, s⟩ = D ⟨0, s⟩) (hok : ∀ v, ok' v ↔ ok v) (hW : ∀ v, ok v → W' v = W v) : Rd D' W' ok' where
  get v r hv := by rw [hD, hW v ((hok v).1 hv)]; exact h.get v r ((hok v).1 hv)
  put s he := by
    rw [hD] at he ⊢
    have := h.put s he
    exact ⟨(hok _).2 this.1, by rw [hW _ this.1]; exact this.2⟩
  err s := by rw [hD]; exact h.err s
  cut v p q hv hp hq := by
    have h1 := (hok v).1 hv
    rw [hD]; exact h.cut v p q h1 (by rw [← hW v h1]; exact hp) hq
theorem Rd.map {α β : Type} {D : RS → α × RS} {W : α → List UInt8} {ok : α → Prop} (h : Rd D W ok) (f : α → β) (g : β → α) (hg : ∀ a, ok a → g (f a) = a) : Rd (fun r => (f (D r).1, (D r).2)) (fun b => W (g b)) (fun b => ok (g b) ∧ f (g b) = b) where
  get v r hv := by simp only [h.get (g v) r hv.1, hv.2]
  put s he := by
    have := h.put s he
    simp only [hg _ this.1]
    exact ⟨⟨this.1, trivial⟩, this.2⟩
  err s := h.err s
  cut v p q hv hp hq := h.cut (g v) p q hv.1 hp hq
def pairD {α β : Type} (D : RS → α × RS) (K : α → RS → β × RS) (r : RS) : (α × β) × RS := (((D r).1, (K (D r).1 (D r).2).1), (K (D r).1 (D r).2).2)
theorem Rd.pair {α β : Type} {D : RS → α × RS} {W : α → List UInt8} {ok : α → Prop} {K : α → RS → β × RS} {W2 : α → β → List UInt8} {ok2 : α → β → Prop} (h : Rd D W ok) (hd : ∀ a, Dead (K a)) (h2 : ∀ a, ok a → Rd (K a) (W2 a) (ok2 a)) :
    Rd (pairD D K) (fun c => W c.1 ++ W2 c.1 c.2) (fun c => ok c.1 ∧ ok2 c.1 c.2) where
  get v r hv := by
    obtain ⟨a, b⟩ := v
    unfold pairD
    simp only [List.append_assoc]
    rw [h.get a _ hv.1]
    simp only
    rw [(h2 a hv.1).get b r hv.2]
  put s he := by
    unfold pairD at he ⊢
    simp only at he ⊢
    by_cases h0 : (D ⟨0, s⟩).2.e = 0
    · have p1 := h.put s h0
      have p2 := (h2 _ p1.1).put (D ⟨0, s⟩).2.s (by rw [← rs_eta _ h0]; exact he)
      rw [← rs_eta _ h0] at p2
      exact ⟨⟨p1.1, p2.1⟩, by rw [p1.2, p2.2, List.append_assoc]⟩
    · rw [hd _ _ h0] at he; exact absurd he h0
  err s := by
    unfold pairD
    simp only
    by_cases h0 : (D ⟨0, s⟩).2.e = 0
    · have p1 := h.put s h0
      have p2 := (h2 _ p1.1).err (D ⟨0, s⟩).2.s
      rwa [← rs_eta _ h0] at p2
    · rw [hd _ _ h0]; exact h.err s
  cut v p q hv hp hq := by
    obtain ⟨a, b⟩ := v
    unfold pairD
    simp only at hp hv ⊢
    have short : ∀ c, W a = p ++ c → c ≠ [] → (K (D ⟨0, mkB p⟩).1 (D ⟨0, mkB p⟩).2).2.e = 4 := by
      intro c hc hne
      have h4 := h.cut a p c hv.1 hc hne
      rw [hd _ _ (by rw [h4]; decide)]; exact h4
    have long : ∀ c, p = W a ++ c → W2 a b = c ++ q → (K (D ⟨0, mkB p⟩).1 (D ⟨0, mkB p⟩).2).2.e = 4 := by
      intro c hc hb
      rw [hc, h.get a c hv.1]
      exact (h2 a hv.1).cut b c q hv.2 hb hq
    rcases List.append_eq_append_iff.1 hp with ⟨c, h1, h3⟩ | ⟨c, h1, h3⟩
    · exact long c h1 h3
    · by_cases hc : c = []
      · subst hc
        exact long [] (by rw [h1]; simp) (by simpa using h3.symm)
      · exact short c h1 hc
theorem dead_pair {α β : Type} {D : RS → α × RS} {K : α → RS → β × RS} (h1 : Dead D) (h2 : ∀ a, Dead (K a)) : Dead (pairD D K) := fun r h => by
  unfold pairD
  simp only
  rw [h1 r h, h2 _ r h]
/-! ### the words -/
theorem rd_get {α : Type} (d : α) {V : ByteArray → α} {E : ByteArray → Int} {R : ByteArray → ByteArray} {W : α → List UInt8} {ok : α → Prop} (okb : α → Bool)
    (hput : ∀ v r, ok v → E (mkB (W v ++ r)) = 0 ∧ V (mkB (W v ++ r)) = v ∧ R (mkB (W v ++ r)) = mkB r) (hok : ∀ s, E s = 0 → ok (V s) ∧ unB s = W (V s) ++ unB (R s)) (herr : ∀ s, E s = 0 ∨ E s = 3 ∨ E s = 4)
    (hcut : ∀ v p q, ok v → W v = p ++ q → q ≠ [] → E (mkB p) = 4) : Rd (fun r => getG d (V r.s) (E r.s) (R r.s) (okb (V r.s)) r) W (fun v => okb v = true ∧ ok v) where
  get v r hv := by
    obtain ⟨h1, h2, h3⟩ := hput v r hv.2
    simp only [getG, h1, h2, h3, hv.1, ne_eq, not_true, if_false, if_true]
  put s he := by
    simp only [getG, ne_eq, not_true, if_false] at he ⊢
    by_cases h0 : E s = 0
    · simp only [h0, not_true, if_false] at he ⊢
      by_cases hb : okb (V s) = true
      · rw [if_pos hb]
        exact ⟨⟨hb, (hok s h0).1⟩, (hok s h0).2⟩
      · rw [if_neg hb] at he; exact absurd (show (3 : Int) = 0 from he) (by decide)
    · rw [if_pos h0] at he; exact absurd he h0
  err s := by
    simp only [getG, ne_eq, not_true, if_false]
    by_cases h0 : E s = 0
    · simp only [h0, not_true, if_false]
      by_cases hb : okb (V s) = true
      · rw [if_pos hb]; exact .inl rfl
      · rw [if_neg hb]; exact .inr (.inl rfl)
    · rw [if_pos h0]; exact herr s
  cut v p q hv hp hq := by
    have h4 := hcut v p q hv.2 hp hq
    simp only [getG, ne_eq, not_true, if_false, h4]
    rfl
theorem num_dec (s : ByteArray) : (numE s ≠ 0 → decN (unB s) = .error (numE s)) ∧ (numE s = 0 → ∃ k r, decN (unB s) = .ok (k, r) ∧ numV s = (k : Int) ∧ numR s = mkB r ∧ k < 18446744073709551616) := by
  rcases num_cases s with ⟨h1, h2, h3⟩ | ⟨h1, n, r, h2, h3, h4⟩
  · exact ⟨fun _ => h2, fun h => absurd h h1⟩
  · exact ⟨fun h => absurd h1 h, fun _ => ⟨n, r, h2, h3, by simp only [numR, h2]; rfl, (decN_ok h2).2⟩⟩
theorem txt_dec (s : ByteArray) : (txtE s ≠ 0 → decT (unB s) = .error (txtE s)) ∧ (txtE s = 0 → ∃ t r, decT (unB s) = .ok (t, r) ∧ txtV s = mkB t ∧ txtR s = mkB r) := by
  cases h : decT (unB s) with
  | error e =>
    have he : txtE s = e := by simp only [txtE, h]; rfl
    rw [he]
    refine ⟨fun _ => rfl, fun h0 => ?_⟩
    rcases decT_err h with rfl | rfl <;> exact absurd h0 (by decide)
  | ok x =>
    obtain ⟨t, r⟩ := x
    exact ⟨fun h0 => absurd (by simp only [txtE, h]; rfl) h0, fun _ => ⟨t, r, rfl, by simp only [txtV, h]; rfl, by simp only [txtR, h]; rfl⟩⟩
theorem num_is {s : ByteArray} {n : Nat} {r : List UInt8} (h : decN (unB s) = .ok (n, r)) : numV s = n ∧ numE s = 0 ∧ numR s = mkB r := by
  refine ⟨?_, ?_, ?_⟩
  · simp only [numV, h]; rfl
  · simp only [numE, h]; rfl
  · simp only [numR, h]; rfl
theorem txt_is {s : ByteArray} {n : List UInt8} {r : List UInt8} (h : decT (unB s) = .ok (n, r)) : txtV s = mkB n ∧ txtE s = 0 ∧ txtR s = mkB r := by
  refine ⟨?_, ?_, ?_⟩
  · simp only [txtV, h]; rfl
  · simp only [txtE, h]; rfl
  · simp only [txtR, h]; rfl
theorem decN_cut {v : Nat} (hv : v < 2 ^ 64) {p q : List UInt8} (h : numL v = p ++ q) (hq : q ≠ []) : decN p = .error 4 := by
  cases p with
  | nil => rfl
  | cons c p =>
    have h8 := len8_le hv
    have hn : (UInt8.ofNat (len8 v)).toNat = len8 v := by rw [UInt8.toNat_ofNat', Nat.mod_eq_of_lt (by omega)]
    simp only [numL, List.cons_append, List.cons.injEq] at h
    have hl := congrArg List.length h.2
    have hq2 := List.length_pos_iff.2 hq
    rw [bytesN_len, List.length_append] at hl
    rw [← h.1]
    simp only [decN, hn]
    rw [if_neg (by omega), if_pos (by omega)]
theorem decT_cut {t : List UInt8} (ht : t.length ≤ 4096) {p q : List UInt8} (h : textL t = p ++ q) (hq : q ≠ []) : decT p = .error 4 := by
  have long : ∀ c, p = numL t.length ++ c → t = c ++ q → decT p = .error 4 := by
    intro c hc hb
    unfold decT
    rw [hc, decN_put (by omega)]
    simp only
    have := congrArg List.length hb
    have hq2 := List.length_pos_iff.2 hq
    rw [List.length_append] at this
    rw [if_neg (by omega), if_pos (by omega)]
  rcases List.append_eq_append_iff.1 h with ⟨c, h1, h3⟩ | ⟨c, h1, h3⟩
  · exact long c h1 h3
  · by_cases hc : c = []
    · subst hc
      exact long [] (by rw [h1]; simp) (by simpa using h3.symm)
    · unfold decT
      rw [decN_cut (by omega) h1 hc]
theorem rd_num (d lo hi : Int) : Rd (numD d lo hi) nB (fun v => lo ≤ v ∧ v ≤ hi ∧ U64 v) := by
  refine Rd.congr (rd_get (V := numV) (E := numE) (R := numR) (W := nB) (ok := U64) d (fun v => decide (lo ≤ v) && decide (v ≤ hi)) ?_ ?_ ?_ ?_) (fun s => rfl) (fun v => ?_) (fun _ _ => rfl)
  · intro v r hv
    have h1 := num_is (s := mkB (nB v ++ r)) (n := v.toNat) (r := r) (by rw [un_mk]; exact decN_put (by have := hv.1; have := hv.2; omega) r)
    exact ⟨h1.2.1, by rw [h1.1]; have := hv.1; omega, h1.2.2⟩
  · intro s h0
    rcases num_dec s with ⟨h1, h2⟩
    obtain ⟨k, r, hk, hv, hr, hlt⟩ := h2 h0
    refine ⟨numV_u64 s, ?_⟩
    rw [hv, hr, un_mk]
    exact (decN_ok hk).1
  · intro s
    by_cases h0 : numE s = 0
    · exact .inl h0
    · exact .inr (decN_err ((num_dec s).1 h0))
  · intro v p q hv hp hq
    simp only [numE, un_mk, decN_cut (v := v.toNat) (by have := hv.1; have := hv.2; omega) hp hq]
    rfl
  · simp [and_assoc]
theorem rd_code {l : List Int} (hl : ∀ v ∈ l, 0 ≤ v ∧ v < 1073741824) : Rd (codeD l) nB (fun v => v ∈ l) := by
  refine Rd.congr (rd_get (V := numV) (E := numE) (R := numR) (W := nB) (ok := U64) 0 (fun v => decide (v < 1073741824) && decide (v ∈ l)) ?_ ?_ ?_ ?_) (fun s => rfl) (fun v => ?_) (fun _ _ => rfl)
  · intro v r hv
    have h1 := num_is (s := mkB (nB v ++ r)) (n := v.toNat) (r := r) (by rw [un_mk]; exact decN_put (by have := hv.1; have := hv.2; omega) r)
    exact ⟨h1.2.1, by rw [h1.1]; have := hv.1; omega, h1.2.2⟩
  · intro s h0
    rcases num_dec s with ⟨h1, h2⟩
    obtain ⟨k, r, hk, hv, hr, hlt⟩ := h2 h0
    refine ⟨numV_u64 s, ?_⟩
    rw [hv, hr, un_mk]
    exact (decN_ok hk).1
  · intro s
    by_cases h0 : numE s = 0
    · exact .inl h0
    · exact .inr (decN_err ((num_dec s).1 h0))
  · intro v p q hv hp hq
    simp only [numE, un_mk, decN_cut (v := v.toNat) (by have := hv.1; have := hv.2; omega) hp hq]
    rfl
  · simp only [Bool.and_eq_true, decide_eq_true_eq]
    exact ⟨fun h => ⟨⟨(hl v h).2, h⟩, (hl v h).1, by have := (hl v h).2; omega⟩, fun h => h.1.2⟩
theorem rd_val (x : Bool) : Rd (valD x) (fun t => textL (unB t)) (fun t => okV x t = true) := by
  refine Rd.congr (rd_get (V := txtV) (E := txtE) (R := txtR) (W := fun t => textL (unB t)) (ok := fun t => t.size ≤ 4096) ByteArray.empty (okV x) ?_ ?_ ?_ ?_) (fun s => rfl) (fun v => ?_) (fun _ _ => rfl)
  · intro v r hv
    have h1 := txt_is (s := mkB (textL (unB v) ++ r)) (n := unB v) (r := r) (by rw [un_mk]; exact decT_put (by rw [un_size]; exact hv) r)
    exact ⟨h1.2.1, by rw [h1.1, mk_un], h1.2.2⟩
  · intro s h0
    rcases txt_dec s with ⟨h1, h2⟩
    obtain ⟨t, r, hk, hv, hr⟩ := h2 h0
    rw [hv, hr, un_mk, un_mk, mk_size]
    exact ⟨(decT_ok hk).2, (decT_ok hk).1⟩
  · intro s
    by_cases h0 : txtE s = 0
    · exact .inl h0
    · exact .inr (decT_err ((txt_dec s).1 h0))
  · intro v p q hv hp hq
    simp only [txtE, un_mk, decT_cut (t := unB v) (by rw [un_size]; exact hv) hp hq]
    rfl
  · refine ⟨fun h => ⟨h, ?_⟩, fun h => h.1⟩
    unfold okV at h
    have := of_decide_eq_true h
    split at this <;> omega
theorem rd_plc : Rd plcD id (fun k => k.length = 20) := by
  refine Rd.congr (rd_get (V := plcV) (E := plcE) (R := plcR) (W := id) (ok := fun k => k.length = 20) zeroKey (fun _ => true) ?_ ?_ ?_ ?_) (fun s => rfl) (fun v => ?_) (fun _ _ => rfl)
  · intro v r hv
    have hn : 20 ≤ (mkB (v ++ r)).size := by rw [mk_size, List.length_append]; omega
    simp only [id, plcE, plcV, plcR, hn, if_true, un_mk, List.take_left' hv, List.drop_left' hv]
    trivial
  · intro s h0
    by_cases hn : 20 ≤ s.size
    · simp only [plcV, plcR, hn, if_true, un_mk, id, List.take_append_drop, List.length_take, un_size]
      exact ⟨by omega, trivial⟩
    · simp [plcE, hn] at h0
  · intro s
    by_cases hn : 20 ≤ s.size
    · left; simp [plcE, hn]
    · right; right; simp [plcE, hn]
  · intro v p q hv hp hq
    have := congrArg List.length hp
    have hq2 := List.length_pos_iff.2 hq
    rw [List.length_append, id, hv] at this
    have hn : ¬ 20 ≤ (mkB p).size := by rw [mk_size]; omega
    simp [plcE, hn]
  · simp
theorem rd_whole : Rd wholeD nB U64 := (rd_num 0 0 18446744073709551615).congr (fun s => rfl) (fun v => ⟨fun h => ⟨h.1, by have := h.2; omega, h⟩, fun h => h.2.2⟩) (fun _ _ => rfl)
theorem rd_flag : Rd flagD flagB (fun _ => True) := by
  refine ((rd_num 0 0 1).map (fun v => decide (v = 1)) (fun b => if b then 1 else 0) ?_).congr (fun s => rfl) (fun v => ?_) (fun v _ => rfl)
  · intro a h
    have : a = 0 ∨ a = 1 := by omega
    rcases this with rfl | rfl <;> rfl
  · cases v <;> simp [U64]
def okT (l : List Int) (a : Ans) : Prop := a.code ∈ l ∧ U64 a.version ∧ a.val = ByteArray.empty
theorem rd_told {l : List Int} (hl : ∀ v ∈ l, 0 ≤ v ∧ v < 1073741824) : Rd (toldD l) ansB (okT l) := by
  refine (((rd_code hl).pair (K := fun _ => pairD wholeD fun _ => flagD) (W2 := fun _ c => nB c.1 ++ flagB c.2) (ok2 := fun _ c => U64 c.1 ∧ True) (fun _ => dead_pair dead_whole fun _ => dead_flag) (fun _ _ => rd_whole.pair (fun _ => dead_flag) (fun _ _ => rd_flag))).map
    (fun c => (⟨c.1, c.2.1, c.2.2, ByteArray.empty⟩ : Ans)) (fun a => (a.code, a.version, a.has)) (fun _ _ => rfl)).congr (fun s => rfl) (fun v => ?_) (fun v _ => by simp only [ansB, List.append_assoc])
  obtain ⟨c, v, h, t⟩ := v
  simp only [okT, Ans.mk.injEq, true_and, and_true, and_assoc]
  exact ⟨fun h => ⟨h.1, h.2.1, h.2.2.symm⟩, fun h => ⟨h.1, h.2.1, h.2.2.symm⟩⟩
def okW (o : Opr) : Prop := 0 ≤ o.client ∧ o.client ≤ 63 ∧ U64 o.req ∧ o = ⟨o.client, o.req, 0, 0, ByteArray.empty⟩
theorem rd_who : Rd whoD whoB okW := by
  refine (((rd_num 0 0 63).pair (K := fun _ => wholeD) (fun _ => dead_whole) (fun _ _ => rd_whole)).map (fun c => (⟨c.1, c.2, 0, 0, ByteArray.empty⟩ : Opr)) (fun o => (o.client, o.req)) (fun _ _ => rfl)).congr (fun s => rfl) (fun v => ?_) (fun v _ => rfl)
  obtain ⟨c, q, k, v, t⟩ := v
  simp only [okW, Opr.mk.injEq, true_and]
  constructor
  · rintro ⟨h1, h2, h3, h4, h5, h6⟩; exact ⟨⟨⟨h1, h2, h1, by omega⟩, h3⟩, h4.symm, h5.symm, h6.symm⟩
  · rintro ⟨⟨⟨h1, h2, h1', h2'⟩, h3⟩, h4, h5, h6⟩; exact ⟨h1, h2, h3, h4.symm, h5.symm, h6.symm⟩
theorem okV_iff (x : Bool) (t : ByteArray) : okV x t = true ↔ t.size ≤ 2048 ∧ (x = true ∨ t = ByteArray.empty) := by
  have he : t.size ≤ 0 ↔ t = ByteArray.empty := by
    constructor
    · intro h
      apply un_inj
      rw [un_empty]
      exact List.eq_nil_of_length_eq_zero (by rw [un_size]; omega)
    · rintro rfl; exact Nat.le_refl _
  unfold okV
  cases x
  · simp only [decide_eq_true_eq, Bool.false_eq_true, if_false, false_or, he]
    exact ⟨fun h => ⟨by rw [h]; decide, h⟩, fun h => h.2⟩
  · simp
def okO (o : Opr) : Prop := IsO o ∧ U64 o.req ∧ U64 o.version
def opB (o : Opr) : List UInt8 := whoB o ++ nB o.kind ++ nB o.version ++ textL (unB o.val)
theorem rd_op : Rd opD opB okO := by
  have hkv : ∀ k, Dead (pairD (numD 0 0 (mostD k)) fun _ => valD (decide (k = 2) || decide (k = 3))) := fun k => dead_pair (dead_num _ _ _) fun _ => dead_val _
  refine ((rd_who.pair (K := fun _ => pairD (numD 0 1 4) fun k => pairD (numD 0 0 (mostD k)) fun _ => valD (decide (k = 2) || decide (k = 3))) (fun _ => dead_pair (dead_num _ _ _) hkv)
    (fun _ _ => (rd_num 0 1 4).pair hkv (fun k _ => (rd_num 0 0 (mostD k)).pair (fun _ => dead_val _) (fun _ _ => rd_val _)))).map
    (fun c => (⟨c.1.client, c.1.req, c.2.1, c.2.2.1, c.2.2.2⟩ : Opr)) (fun o => (⟨o.client, o.req, 0, 0, ByteArray.empty⟩, o.kind, o.version, o.val)) ?_).congr (fun s => rfl) (fun v => ?_) (fun v _ => by simp only [opB, whoB, List.append_assoc])
  · rintro ⟨a, k, v, t⟩ h
    simp only at h ⊢
    rw [← h.1.2.2.2]
  · obtain ⟨c, q, k, v, t⟩ := v
    simp only [okO, okW, IsO, okV_iff, and_true]
    constructor
    · rintro ⟨⟨h1, h2, h3, h4, h5, h6, h7⟩, h8, h9⟩
      refine ⟨⟨h1, h2, h8⟩, ⟨h3, h4, by omega, by omega⟩, ⟨h9.1, ?_, h9⟩, h5, ?_⟩
      · unfold mostD
        split
        · have := h9.2; omega
        · rw [h7 (by omega)]; exact Int.le_refl _
      · by_cases h : k = 2 ∨ k = 3
        · left; simpa using h
        · right; exact h6 (by omega)
    · rintro ⟨⟨h1, h2, h8⟩, ⟨h3, h4, _⟩, ⟨_, h7, h9⟩, h5, h6⟩
      refine ⟨⟨h1, h2, h3, h4, h5, fun h => ?_, fun h => ?_⟩, h8, h9⟩
      · rcases h6 with h6 | h6
        · simp at h6; omega
        · exact h6
      · unfold mostD at h7
        rw [if_neg (by omega)] at h7
        have := h9.1; omega
def okMk (least : Int) (m : Mark) : Prop := least ≤ m.client ∧ m.client ≤ 63 ∧ U64 m.client ∧ U64 m.req ∧ okT [0, 8] m.ans
theorem mem08_small : ∀ v ∈ ([0, 8] : List Int), 0 ≤ v ∧ v < 1073741824 := by intro v h; simp at h; omega
theorem mem0879_small : ∀ v ∈ ([0, 8, 7, 9] : List Int), 0 ≤ v ∧ v < 1073741824 := by intro v h; simp at h; omega
theorem rd_mark (least : Int) : Rd (markD least) markB (okMk least) := by
  refine (((rd_num 0 least 63).pair (K := fun _ => pairD wholeD fun _ => toldD [0, 8]) (fun _ => dead_pair dead_whole fun _ => dead_told _)
    (fun _ _ => rd_whole.pair (fun _ => dead_told _) (fun _ _ => rd_told mem08_small))).map (fun c => (⟨c.1, c.2.1, c.2.2⟩ : Mark)) (fun m => (m.client, m.req, m.ans)) (fun _ _ => rfl)).congr (fun s => rfl) (fun v => ?_) (fun v _ => by simp only [markB, List.append_assoc])
  simp only [okMk, and_true, and_assoc]
def okMs : Nat → Int → List Mark → Prop
  | 0, _, l => l = []
  | n + 1, least, l => ∃ m r, l = m :: r ∧ okMk least m ∧ okMs n (m.client + 1) r
theorem rd_marks : ∀ (n : Nat) (least : Int), Rd (marksD n least) (fun l => l.flatMap markB) (okMs n least)
  | 0, least => {
    get := fun v r hv => by rw [show v = [] from hv]; rfl
    put := fun s he => ⟨rfl, rfl⟩
    err := fun s => .inl rfl
    cut := fun v p q hv hp hq => by
      rw [show v = [] from hv] at hp
      simp only [List.flatMap_nil] at hp
      exact absurd (List.append_eq_nil_iff.1 hp.symm).2 hq }
  | n + 1, least => by
    refine (((rd_mark least).pair (K := fun m => marksD n (m.client + 1)) (fun _ => dead_marks _ _) (fun m _ => rd_marks n (m.client + 1))).map (fun c => c.1 :: c.2) (fun l => (l.headD zeroMark, l.tail)) (fun _ _ => rfl)).congr (fun s => rfl) (fun v => ?_) (fun v hv => ?_)
    · constructor
      · rintro ⟨m, r, rfl, h1, h2⟩; exact ⟨⟨h1, h2⟩, rfl⟩
      · rintro ⟨⟨h1, h2⟩, h3⟩; exact ⟨_, _, h3.symm, h1, h2⟩
    · rw [← hv.2]; simp
theorem okMs_iff : ∀ (n : Nat) (least : Int), 0 ≤ least → ∀ l : List Mark, okMs n least l ↔ l.length = n ∧ SrtM l ∧ ∀ m ∈ l, least ≤ m.client ∧ markOk m ∧ MarkU m
  | 0, least, h0, l => by
    unfold okMs
    constructor
    · rintro rfl; exact ⟨rfl, List.Pairwise.nil, by simp⟩
    · rintro ⟨h, _⟩; exact List.eq_nil_of_length_eq_zero h
  | n + 1, least, h0, l => by
    unfold okMs
    constructor
    · rintro ⟨m, r, rfl, ⟨h1, h2, h3, h4, h5, h6, h7⟩, hr⟩
      obtain ⟨r1, r2, r3⟩ := (okMs_iff n (m.client + 1) (by omega) r).1 hr
      refine ⟨by simp [r1], ?_, ?_⟩
      · refine List.pairwise_cons.2 ⟨fun x hx => ?_, r2⟩
        have := (r3 x hx).1; omega
      · intro x hx
        rcases List.mem_cons.1 hx with rfl | hx
        · exact ⟨h1, ⟨h3.1, h2, h7, by simpa using h5⟩, h4, h6⟩
        · exact ⟨by have := (r3 x hx).1; omega, (r3 x hx).2⟩
    · rintro ⟨hl, hs, hm⟩
      cases l with
      | nil => simp at hl
      | cons m r =>
        obtain ⟨h1, ⟨h2, h3, h4⟩, h5, h6⟩ := hm m (by simp)
        refine ⟨m, r, rfl, ⟨h1, h3, ⟨h2, by omega⟩, h5, by simpa using h4.2, h6, h4.1⟩, (okMs_iff n (m.client + 1) (by omega) r).2 ⟨by simpa using hl, (List.pairwise_cons.1 hs).2, fun x hx => ?_⟩⟩
        have := (List.pairwise_cons.1 hs).1 x hx
        exact ⟨by omega, (hm x (by simp [hx])).2⟩
theorem srt_len : ∀ (l : List Mark) (least : Int), SrtM l → (∀ m ∈ l, least ≤ m.client ∧ m.client ≤ 63) → (l.length : Int) ≤ 64 - least ∨ l = []
  | [], _, _, _ => .inr rfl
  | m :: r, least, hs, hm => by
    left
    have h1 := hm m (by simp)
    rcases srt_len r (m.client + 1) (List.pairwise_cons.1 hs).2 (fun x hx => ⟨by have := (List.pairwise_cons.1 hs).1 x hx; omega, (hm x (by simp [hx])).2⟩) with h | h
    · rw [List.length_cons]; omega
    · rw [h, List.length_singleton]; omega
theorem marks_le {c : Cel} (h : IsC c) : c.marks.length ≤ 64 := by
  rcases srt_len c.marks 0 h.1.1 (fun m hm => ⟨(h.1.2 m hm).1, (h.1.2 m hm).2.1⟩) with h1 | h1
  · omega
  · rw [h1]; decide
def okCl (c : Cel) : Prop := IsC c ∧ U64 c.version ∧ ∀ m ∈ c.marks, MarkU m
theorem rd_cell : Rd cellD cellB okCl := by
  have d3 : ∀ x : Int, Dead fun r => marksD x.toNat 0 r := fun x => dead_marks _ _
  have d2 : Dead (pairD (numD 0 0 64) fun n => marksD n.toNat 0) := dead_pair (dead_num _ _ _) d3
  have d1 : ∀ h : Bool, Dead (pairD (valD h) fun _ => pairD (numD 0 0 64) fun n => marksD n.toNat 0) := fun h => dead_pair (dead_val _) fun _ => d2
  refine ((rd_whole.pair (K := fun _ => pairD flagD fun h => pairD (valD h) fun _ => pairD (numD 0 0 64) fun n => marksD n.toNat 0) (fun _ => dead_pair dead_flag d1)
    (fun _ _ => rd_flag.pair d1 (fun h _ => (rd_val h).pair (fun _ => d2) (fun _ _ => (rd_num 0 0 64).pair d3 (fun n _ => rd_marks n.toNat 0))))).map
    (fun c => (⟨c.1, c.2.1, c.2.2.1, c.2.2.2.2⟩ : Cel)) (fun c => (c.version, c.has, c.val, (c.marks.length : Int), c.marks)) ?_).congr (fun s => rfl) (fun v => ?_) (fun v _ => by simp only [cellB, List.append_assoc])
  · rintro ⟨v, h, t, n, l⟩ ⟨_, _, _, h1, h2⟩
    have := ((okMs_iff _ _ (Int.le_refl _) _).1 h2).1
    simp only at this h1 ⊢
    rw [this, Int.toNat_of_nonneg h1.1]
  · simp only [okV_iff, Int.toNat_natCast, okMs_iff _ _ (Int.le_refl _), and_true, true_and]
    constructor
    · rintro ⟨h1, h2, h3⟩
      have hl := marks_le h1
      exact ⟨h2, h1.2, ⟨by omega, by omega, by omega, by omega⟩, h1.1.1, fun m hm => ⟨(h1.1.2 m hm).1, h1.1.2 m hm, h3 m hm⟩⟩
    · rintro ⟨h2, h4, _, h5, h6⟩
      exact ⟨⟨⟨h5, fun m hm => (h6 m hm).2.1⟩, h4⟩, h2, fun m hm => (h6 m hm).2.2⟩
/-! ### a parcel -/
def okP (p : Par) : Prop := isP p = true ∧ ParU p
theorem u0 : U64 0 := ⟨by decide, by decide⟩
theorem isP_iff1 {p : Par} (hk : p.kind = 1) : isP p = true ↔ IsO p.op ∧ p.ans = zeroAns ∧ p.serial = 0 ∧ p.cell = zeroCel := by
  unfold isP bareC; simp [hk, and_assoc]
theorem isP_iff2 {p : Par} (hk : p.kind = 2) : isP p = true ↔ p.key = zeroKey ∧ p.op = ⟨p.op.client, p.op.req, 0, 0, ByteArray.empty⟩ ∧ 0 ≤ p.op.client ∧ p.op.client ≤ 63 ∧ isAns p.ans ∧ p.serial = 0 ∧ p.cell = zeroCel := by
  unfold isP bareC; simp [hk, and_assoc]
theorem isP_iff3 {p : Par} (hk : p.kind = 3) : isP p = true ↔ p.op = zeroOp ∧ p.ans = zeroAns ∧ IsC p.cell := by
  unfold isP bareC; simp [hk, and_assoc]
theorem isP_iff4 {p : Par} (hk : p.kind = 4) : isP p = true ↔ p.key = zeroKey ∧ p.op = zeroOp ∧ p.ans = zeroAns ∧ p.cell = zeroCel := by
  unfold isP bareC; simp [hk, and_assoc]
theorem rd_body {k ep : Int} (hk : 1 ≤ k ∧ k ≤ 4) (he : U64 ep) : Rd (bodyD k ep) bodyB (fun p => p.kind = k ∧ p.epoch = ep ∧ okP p) := by
  by_cases h1 : k = 1
  · subst h1
    refine ((rd_plc.pair (K := fun _ => opD) (fun _ => dead_op) (fun _ _ => rd_op)).map (fun c => (⟨1, ep, c.1, c.2, zeroAns, 0, zeroCel⟩ : Par)) (fun p => (p.key, p.op)) (fun _ _ => rfl)).congr (fun s => rfl) (fun p => ?_) (fun p hp => ?_)
    · constructor
      · rintro ⟨hk, hep, hi, hu⟩
        obtain ⟨a1, a2, a3, a4⟩ := (isP_iff1 hk).1 hi
        refine ⟨⟨hu.key, a1, hu.req, hu.over⟩, ?_⟩
        obtain ⟨pk, pe, py, po, pa, ps, pc⟩ := p
        simp only at hk hep a2 a3 a4 ⊢
        subst hk hep a2 a3 a4; rfl
      · rintro ⟨⟨h1, h2, h3, h4⟩, hp⟩
        obtain ⟨pk, pe, py, po, pa, ps, pc⟩ := p
        simp only [Par.mk.injEq] at hp h1 h2 h3 h4
        obtain ⟨rfl, rfl, _, _, rfl, rfl, rfl⟩ := hp
        exact ⟨rfl, rfl, (isP_iff1 rfl).2 ⟨h2, rfl, rfl, rfl⟩, h1, he, h3, h4, u0, u0, u0, by simp [zeroCel]⟩
    · rw [← hp.2]; simp [bodyB, opB]
  by_cases h2 : k = 2
  · subst h2
    refine ((rd_who.pair (K := fun _ => pairD (toldD [0, 8, 7, 9]) fun a => valD a.has) (fun _ => dead_pair (dead_told _) fun _ => dead_val _) (fun _ _ => (rd_told mem0879_small).pair (fun _ => dead_val _) (fun a _ => rd_val a.has))).map
      (fun c => (⟨2, ep, zeroKey, c.1, ⟨c.2.1.code, c.2.1.version, c.2.1.has, c.2.2⟩, 0, zeroCel⟩ : Par)) (fun p => (p.op, ⟨p.ans.code, p.ans.version, p.ans.has, ByteArray.empty⟩, p.ans.val)) ?_).congr (fun s => rfl) (fun p => ?_) (fun p hp => ?_)
    · rintro ⟨o, a, t⟩ ⟨_, ⟨_, _, h3⟩, _⟩
      simp only at h3 ⊢
      rw [← h3]
    · constructor
      · rintro ⟨hk, hep, hi, hu⟩
        obtain ⟨a1, a2, a3, a4, a5, a6, a7⟩ := (isP_iff2 hk).1 hi
        refine ⟨⟨⟨a3, a4, hu.req, a2⟩, ⟨?_, hu.aver, rfl⟩, (okV_iff _ _).2 a5.2⟩, ?_⟩
        · have := a5.1; simp only [List.mem_cons, List.not_mem_nil, or_false]; omega
        · obtain ⟨pk, pe, py, po, pa, ps, pc⟩ := p
          simp only at hk hep a1 a6 a7 ⊢
          subst hk hep a1 a6 a7; rfl
      · rintro ⟨⟨⟨b1, b2, b3, b4⟩, ⟨b5, b6, _⟩, b7⟩, hp⟩
        obtain ⟨pk, pe, py, po, pa, ps, pc⟩ := p
        simp only [Par.mk.injEq] at hp b1 b2 b3 b4 b5 b6 b7
        obtain ⟨rfl, rfl, rfl, _, _, rfl, rfl⟩ := hp
        refine ⟨rfl, rfl, (isP_iff2 rfl).2 ⟨rfl, b4, b1, b2, ⟨?_, (okV_iff _ _).1 b7⟩, rfl, rfl⟩, by simp [zeroKey], he, b3, ?_, b6, u0, u0, by simp [zeroCel]⟩
        · simp only [List.mem_cons, List.not_mem_nil, or_false] at b5; simp only; omega
        · rw [b4]; exact u0
    · rw [← hp.2]; simp [bodyB, ansB]
  by_cases h3 : k = 3
  · subst h3
    refine ((rd_plc.pair (K := fun _ => pairD wholeD fun _ => cellD) (fun _ => dead_pair dead_whole fun _ => dead_cell) (fun _ _ => rd_whole.pair (fun _ => dead_cell) (fun _ _ => rd_cell))).map
      (fun c => (⟨3, ep, c.1, zeroOp, zeroAns, c.2.1, c.2.2⟩ : Par)) (fun p => (p.key, p.serial, p.cell)) (fun _ _ => rfl)).congr (fun s => rfl) (fun p => ?_) (fun p hp => ?_)
    · constructor
      · rintro ⟨hk, hep, hi, hu⟩
        obtain ⟨a1, a2, a3⟩ := (isP_iff3 hk).1 hi
        refine ⟨⟨hu.key, hu.serial, a3, hu.cver, hu.marks⟩, ?_⟩
        obtain ⟨pk, pe, py, po, pa, ps, pc⟩ := p
        simp only at hk hep a1 a2 ⊢
        subst hk hep a1 a2; rfl
      · rintro ⟨⟨b1, b2, b3, b4, b5⟩, hp⟩
        obtain ⟨pk, pe, py, po, pa, ps, pc⟩ := p
        simp only [Par.mk.injEq] at hp b1 b2 b3 b4 b5
        obtain ⟨rfl, rfl, _, rfl, rfl, _, _⟩ := hp
        exact ⟨rfl, rfl, (isP_iff3 rfl).2 ⟨rfl, rfl, b3⟩, b1, he, u0, u0, u0, b2, b4, b5⟩
    · rw [← hp.2]; simp [bodyB]
  have h4 : k = 4 := by omega
  subst h4
  refine (rd_whole.map (fun c => (⟨4, ep, zeroKey, zeroOp, zeroAns, c, zeroCel⟩ : Par)) (fun p => p.serial) (fun _ _ => rfl)).congr (fun s => rfl) (fun p => ?_) (fun p hp => ?_)
  · constructor
    · rintro ⟨hk, hep, hi, hu⟩
      obtain ⟨a1, a2, a3, a4⟩ := (isP_iff4 hk).1 hi
      refine ⟨hu.serial, ?_⟩
      obtain ⟨pk, pe, py, po, pa, ps, pc⟩ := p
      simp only at hk hep a1 a2 a3 a4 ⊢
      subst hk hep a1 a2 a3 a4; rfl
    · rintro ⟨b1, hp⟩
      obtain ⟨pk, pe, py, po, pa, ps, pc⟩ := p
      simp only [Par.mk.injEq] at hp b1
      obtain ⟨rfl, rfl, rfl, rfl, rfl, _, rfl⟩ := hp
      exact ⟨rfl, rfl, (isP_iff4 rfl).2 ⟨rfl, rfl, rfl, rfl⟩, by simp [zeroKey], he, u0, u0, u0, b1, u0, by simp [zeroCel]⟩
  · rw [← hp.2]; simp [bodyB]
theorem rd_all : Rd (fun r => (bodyD (numD 0 1 4 r).1 (wholeD (numD 0 1 4 r).2).1 (wholeD (numD 0 1 4 r).2).2)) putP okP := by
  have d1 : ∀ k, Dead (pairD wholeD fun ep => bodyD k ep) := fun k => dead_pair dead_whole fun ep => dead_body k ep
  refine (((rd_num 0 1 4).pair (K := fun k => pairD wholeD fun ep => bodyD k ep) d1 (fun k hk => rd_whole.pair (fun ep => dead_body k ep) (fun ep he => rd_body ⟨hk.1, hk.2.1⟩ he))).map (fun c => c.2.2) (fun p => (p.kind, p.epoch, p)) ?_).congr (fun s => rfl) (fun p => ?_) (fun p _ => by simp only [putP, List.append_assoc])
  · rintro ⟨k, ep, p⟩ ⟨_, _, h1, h2, _⟩
    simp only at h1 h2 ⊢
    rw [h1, h2]
  · constructor
    · intro h
      have hk := isP_kind h.1
      exact ⟨⟨⟨by omega, by omega, by omega, by omega⟩, h.2.epoch, rfl, rfl, h⟩, rfl⟩
    · rintro ⟨⟨_, _, _, _, h⟩, _⟩; exact h
theorem get_put {p : Par} (h : okP p) : getP (mkB (putP p)) = (p, 0) := by
  have := rd_all.get p [] h
  rw [List.append_nil] at this
  unfold getP
  rw [show allD (mkB (putP p)) = _ from this]
  rfl
theorem put_get {s : ByteArray} (h : (getP s).2 = 0) : okP (getP s).1 ∧ mkB (putP (getP s).1) = s := by
  unfold getP at h ⊢
  simp only at h ⊢
  by_cases he : (allD s).2.e = 0
  · rw [if_neg (by simpa using he)] at h ⊢
    by_cases hs : (allD s).2.s.size = 0
    · rw [if_pos hs]
      have := rd_all.put s he
      refine ⟨this.1, un_inj ?_⟩
      have e0 : unB (allD s).2.s = [] := List.eq_nil_of_length_eq_zero (by rw [un_size]; exact hs)
      rw [un_mk]
      have h2 : unB s = putP (allD s).1 ++ unB (allD s).2.s := this.2
      rw [e0, List.append_nil] at h2
      exact h2.symm
    · rw [if_neg hs] at h; exact absurd h (by decide)
  · rw [if_pos he] at h; exact absurd h he
theorem get_bad {s : ByteArray} (h : (getP s).2 ≠ 0) : ((getP s).2 = 3 ∨ (getP s).2 = 4) ∧ (getP s).1 = zeroPar := by
  unfold getP at h ⊢
  simp only at h ⊢
  by_cases he : (allD s).2.e = 0
  · rw [if_neg (by simpa using he)] at h ⊢
    by_cases hs : (allD s).2.s.size = 0
    · rw [if_pos hs] at h; exact absurd rfl h
    · rw [if_neg hs]; exact ⟨.inl rfl, rfl⟩
  · rw [if_pos he]
    refine ⟨?_, rfl⟩
    rcases rd_all.err s with h1 | h1
    · exact absurd h1 he
    · exact h1
theorem get_cut {p : Par} (h : okP p) {a b : List UInt8} (hab : putP p = a ++ b) (hb : b ≠ []) : (getP (mkB a)).2 = 4 := by
  have h4 : (allD (mkB a)).2.e = 4 := rd_all.cut p a b h hab hb
  unfold getP
  simp only
  rw [if_pos (by rw [h4]; decide)]
  exact h4
theorem get_more {p : Par} (h : okP p) {t : List UInt8} (ht : t ≠ []) : (getP (mkB (putP p ++ t))).2 = 3 := by
  have := rd_all.get p t h
  unfold getP
  rw [show allD (mkB (putP p ++ t)) = _ from this]
  simp only
  rw [if_neg (by simp), if_neg (by rw [mk_size]; have := List.length_pos_iff.2 ht; omega)]
/-! ### how long it is -/
theorem nB_small {v : Int} (h0 : 0 ≤ v) (h1 : v < 256) : (nB v).length ≤ 2 := by
  have := (len8_iff (v := v.toNat) (by omega) 1).2 (by omega)
  unfold nB
  rw [numL_len]; omega
theorem flag_small (b : Bool) : (flagB b).length ≤ 2 := by
  cases b <;> exact nB_small (by decide) (by decide)
theorem mark_small {m : Mark} (h : markOk m) (hu : MarkU m) : (markB m).length ≤ 24 := by
  obtain ⟨h1, h2, h3, h4⟩ := h
  have a1 := nB_small h1 (by omega)
  have a2 := nB_len hu.1
  have a3 := nB_small (v := m.ans.code) (by omega) (by omega)
  have a4 := nB_len hu.2
  have a5 := flag_small m.ans.has
  simp only [markB, ansB, List.length_append]; omega
theorem marks_small : ∀ {l : List Mark}, (∀ m ∈ l, markOk m ∧ MarkU m) → (l.flatMap markB).length ≤ 24 * l.length
  | [], _ => by simp
  | m :: l, h => by
    have h1 := mark_small (h m (by simp)).1 (h m (by simp)).2
    have h2 := marks_small (l := l) fun x hx => h x (by simp [hx])
    simp only [List.flatMap_cons, List.length_append, List.length_cons]; omega
theorem text_small {s : ByteArray} (h : s.size ≤ 2048) : (textL (unB s)).length ≤ 2057 := by
  have h1 : (unB s).length < 2 ^ 64 := by rw [un_size]; omega
  have := len8_le h1
  unfold textL
  rw [List.length_append, numL_len, un_size] at *; omega
theorem put_len {p : Par} (h : okP p) : (putP p).length ≤ 4096 := by
  obtain ⟨hi, hu⟩ := h
  have hk := isP_kind hi
  have a1 := nB_small (v := p.kind) (by omega) (by omega)
  have a2 := nB_len hu.epoch
  have hb : (bodyB p).length ≤ 4000 := by
    rcases hk with hk | hk | hk | hk
    · have h1 := (isP_iff1 hk).1 hi
      obtain ⟨b1, b2, b3, b4, b5, _⟩ := h1.1
      have c1 := nB_small b1 (by omega)
      have c2 := nB_len hu.req
      have c3 := nB_small (v := p.op.kind) (by omega) (by omega)
      have c4 := nB_len hu.over
      have c5 := text_small b5
      have := hu.key
      simp only [bodyB, hk, if_true, whoB, List.length_append]; omega
    · obtain ⟨b1, b2, b3, b4, b5, b6, b7⟩ := (isP_iff2 hk).1 hi
      have c1 := nB_small b3 (by omega)
      have c2 := nB_len hu.req
      have c3 := nB_small (v := p.ans.code) (by have := b5.1; omega) (by have := b5.1; omega)
      have c4 := nB_len hu.aver
      have c5 := text_small b5.2.1
      have c6 := flag_small p.ans.has
      simp only [bodyB, hk, whoB, ansB]
      simp only [show ((2 : Int) = 1) = False by simp, if_false, if_true, List.length_append]; omega
    · obtain ⟨b1, b2, b3⟩ := (isP_iff3 hk).1 hi
      have c1 := hu.key
      have c2 := nB_len hu.serial
      have c3 := nB_len hu.cver
      have c4 := flag_small p.cell.has
      have c5 := text_small b3.2.1
      have c6 := marks_le b3
      have c7 := nB_small (v := p.cell.marks.length) (by omega) (by omega)
      have c8 := marks_small (l := p.cell.marks) fun m hm => ⟨b3.1.2 m hm, hu.marks m hm⟩
      simp only [bodyB, hk, cellB]
      simp only [show ((3 : Int) = 1) = False by simp, show ((3 : Int) = 2) = False by simp, if_false, if_true, List.length_append]; omega
    · have c2 := nB_len hu.serial
      simp only [bodyB, hk]
      simp only [show ((4 : Int) = 1) = False by simp, show ((4 : Int) = 2) = False by simp, show ((4 : Int) = 3) = False by simp, if_false]; omega
  simp only [putP, List.length_append]; omega
end Go.Proofs.YtkamdppnnhjajaaDoor.Sym

namespace Go.Proofs.YtkamdppnnhjajaaDoor.Sym
open Go Go.RowKit
set_option linter.unusedVariables false
set_option linter.unusedSimpArgs false
set_option maxRecDepth 100000

theorem SpecG.at_ {P : Program} {f : FuncId} {args : List AV} {pre : List (Nat × Blk)} {r : CR} {res : Atom → CR} (h : SpecG P f args pre (fun _ => r)) (x : Atom) (e : res x = r) : SpecG P f args pre res := by
  intro m w h1 h2 h3 h4
  refine (h m w h1 h2 h3 h4).mono ?_
  rintro e' w' ⟨_, g1, g2, g3⟩
  exact ⟨x, by rw [e]; exact g1, by rw [e]; exact g2, by rw [e]; exact g3⟩
theorem getP_ok {s : ByteArray} (h1 : (allD s).2.e = 0) (h2 : (allD s).2.s.size = 0) : getP s = ((allD s).1, 0) := by
  unfold getP
  simp only
  rw [if_neg (by simpa using h1), if_pos h2]
theorem getP_more {s : ByteArray} (h1 : (allD s).2.e = 0) (h2 : (allD s).2.s.size ≠ 0) : getP s = (zeroPar, 3) := by
  unfold getP
  simp only
  rw [if_neg (by simpa using h1), if_neg h2]
theorem getP_no {s : ByteArray} (h1 : (allD s).2.e ≠ 0) : getP s = (zeroPar, (allD s).2.e) := by
  unfold getP
  simp only
  rw [if_pos h1]
theorem getp_g (s : ByteArray) : SpecG Tryd.prog 14 [.str s] [] (fun x => ⟨.tup [parAV (x.A 0) (x.c 0) (getP s).1, .int .i64 (getP s).2], [], []⟩) := by
  by_cases h1 : (allD s).2.e = 0
  · by_cases h2 : (allD s).2.s.size = 0
    · rw [getP_ok h1 h2]; exact (getp_ok s h1 h2).x.g
    · rw [getP_more h1 h2]; exact (getp_more s h1 h2).at_ noAtom rfl
  · rw [getP_no h1]; exact (getp_no s h1).at_ noAtom rfl
theorem getp_good (s : ByteArray) (h : (getP s).2 = 0) : Spec Tryd.prog 14 [.str s] (fun x => .tup [parAV (x.A 0) (x.c 0) (getP s).1, .int .i64 0]) := by
  by_cases h1 : (allD s).2.e = 0
  · by_cases h2 : (allD s).2.s.size = 0
    · rw [getP_ok h1 h2]; exact getp_ok s h1 h2
    · rw [getP_more h1 h2] at h; exact absurd (show (3 : Int) = 0 from h) (by decide)
  · rw [getP_no h1] at h; exact absurd h h1
/-! ### parcels -/
theorem zeroU : ParU zeroPar := ⟨by simp [zeroPar, zeroKey], u0, u0, u0, u0, u0, u0, by simp [zeroPar, zeroCel]⟩
theorem getU (s : ByteArray) : ParU (getP s).1 := by
  by_cases h : (getP s).2 = 0
  · exact (put_get h).1.2
  · rw [(get_bad h).2]; exact zeroU
theorem ok_marks {p : Par} (h : isP p = true) : p.cell.marks.length ≤ 64 := by
  rcases isP_kind h with hk | hk | hk | hk
  · rw [((isP_iff1 hk).1 h).2.2.2]; exact Nat.zero_le _
  · rw [((isP_iff2 hk).1 h).2.2.2.2.2.2]; exact Nat.zero_le _
  · exact marks_le ((isP_iff3 hk).1 h).2.2
  · rw [((isP_iff4 hk).1 h).2.2.2]; exact Nat.zero_le _
theorem get_marks (s : ByteArray) : (getP s).1.cell.marks.length ≤ 64 := by
  by_cases h : (getP s).2 = 0
  · exact ok_marks (put_get h).1.1
  · rw [(get_bad h).2]; exact Nat.zero_le _
theorem putR_yes {p : Par} (h : isP p = true) : putR p = (mkB (putP p), 0) := by simp [putR, h]
theorem putR_no {p : Par} (h : isP p = false) : putR p = (⟨#[]⟩, 1) := by simp [putR, h]
theorem zero_no : isP zeroPar = false := by simp [isP, zeroPar]
def p9 : Par := ⟨4, 3, zeroKey, zeroOp, zeroAns, 9, zeroCel⟩
theorem p9_is : isP p9 = true := by simp [isP, p9, bareC]
theorem p9_ok : okP p9 := ⟨p9_is, by simp [p9, zeroKey], ⟨by decide, by decide⟩, u0, u0, u0, ⟨by decide, by decide⟩, u0, by simp [p9, zeroCel]⟩
theorem p9_bytes : mkB (putP p9) = ⟨#[1, 4, 1, 3, 1, 9]⟩ := by decide +kernel
theorem p9_put : putR p9 = (⟨#[1, 4, 1, 3, 1, 9]⟩, 0) := by rw [putR_yes p9_is, p9_bytes]
theorem p9_get : getP ⟨#[1, 4, 1, 3, 1, 9]⟩ = (p9, 0) := by rw [← p9_bytes]; exact get_put p9_ok
theorem zero_put : putR zeroPar = (⟨#[]⟩, 1) := putR_no zero_no
/-- what is put is got -/
theorem back_put {p : Par} (hu : ParU p) : (isP p = false ∧ putR p = (⟨#[]⟩, 1)) ∨ (isP p = true ∧ (putR p).2 = 0 ∧ getP (putR p).1 = (p, 0) ∧ (putR p).1.size ≤ 4096) := by
  cases h : isP p with
  | false => exact .inl ⟨rfl, putR_no h⟩
  | true =>
    rw [putR_yes h]
    exact .inr ⟨rfl, rfl, get_put ⟨h, hu⟩, by rw [mk_size]; exact put_len ⟨h, hu⟩⟩
/-- what is got, put again, is the bytes -/
theorem back_get (s : ByteArray) : ((getP s).2 = 0 ∧ isP (getP s).1 = true ∧ putR (getP s).1 = (s, 0)) ∨ (((getP s).2 = 3 ∨ (getP s).2 = 4) ∧ (getP s).1 = zeroPar) := by
  by_cases h : (getP s).2 = 0
  · obtain ⟨h1, h2⟩ := put_get h
    exact .inl ⟨h, h1.1, by rw [putR_yes h1.1, h2]⟩
  · exact .inr (get_bad h)
/-- cut short; with more behind -/
theorem cut_get {p : Par} (hu : ParU p) (he : (putR p).2 = 0) {at_ : Nat} (h : at_ < (putR p).1.size) : (getP ((putR p).1.extract 0 at_)).2 = 4 := by
  cases hi : isP p with
  | false => rw [putR_no hi] at he; exact absurd (show (1 : Int) = 0 from he) (by decide)
  | true =>
    rw [putR_yes hi] at h ⊢
    simp only [mk_size] at h
    rw [show (mkB (putP p)).extract 0 at_ = mkB ((putP p).take at_) from by rw [mk_extract, List.drop_zero]]
    refine get_cut ⟨hi, hu⟩ (List.take_append_drop at_ (putP p)).symm fun h0 => ?_
    have := congrArg List.length h0
    rw [List.length_drop] at this
    simp at this; omega
theorem more_get {p : Par} (hu : ParU p) (he : (putR p).2 = 0) (t : ByteArray) : (getP ((putR p).1 ++ t)).2 = if t.size = 0 then 0 else 3 := by
  cases hi : isP p with
  | false => rw [putR_no hi] at he; exact absurd (show (1 : Int) = 0 from he) (by decide)
  | true =>
    rw [putR_yes hi]
    simp only
    by_cases h : t.size = 0
    · rw [if_pos h]
      have ht : mkB (putP p) ++ t = mkB (putP p) := un_inj (by rw [un_append, List.eq_nil_of_length_eq_zero (show (unB t).length = 0 by rw [un_size]; exact h), List.append_nil])
      rw [ht, get_put ⟨hi, hu⟩]
    · rw [if_neg h]
      have ht : mkB (putP p) ++ t = mkB (putP p ++ unB t) := un_inj (by rw [un_append, un_mk, un_mk])
      rw [ht]
      exact get_more ⟨hi, hu⟩ fun h0 => h (by rw [← un_size, h0]; rfl)
end Go.Proofs.YtkamdppnnhjajaaDoor.Sym

namespace Go.Proofs.YtkamdppnnhjajaaDoor.Sym
open Go Go.RowKit
set_option maxRecDepth 100000
set_option maxHeartbeats 1600000
set_option linter.unusedVariables false
set_option linter.unusedSimpArgs false
def T19 : List (Nat × TI) := [(3, ti3), (9, ti9), (22, ti22), (51, ti51), (97, ti97)]
theorem T19_ok : TabOK Tryd.prog T19 := .cons t3 (.cons t9 (.cons t22 (.cons t51 (.cons t97 (.nil)))))
theorem enters19 : Enters Tryd.prog 19 := fun _ _ => by kernel_rfl
theorem numbers_m0 (b : Nat) (s : ByteArray) (A : Option Addr) (k : Nat) (l : List Int) (hl : l.length ≤ 1000) (hu : ∀ v ∈ l, U64 v) (hs : s.size ≤ 500000000) : SpecX Tryd.prog 19 [.ptr 0 b 0, rowU A k l] [(0, ⟨b, 51, [.str s]⟩)] (fun _ => ⟨.tup [], [(0, [.str (s ++ mkB (l.flatMap nB))])], []⟩) := by
  intro m w hm hargs hpre
  obtain ⟨n, hn⟩ : ∃ n, n = l.length := ⟨_, rfl⟩
  obtain ⟨f, hf⟩ : ∃ f : Nat → Int, f = fun i => l.getD i 0 := ⟨_, rfl⟩
  have e1 : rowU A k l = .sl none A n k 1 (fun i => [.int .u64 (f i)]) := by rw [hn, hf]; rfl
  have hlen := ok_len (hargs (rowU A k l) (by simp))
  rw [← hn] at hlen
  rw [e1] at hargs ⊢
  have hmx : maxLen = 9223372036854775807 := rfl
  refine enterX hm hpre hargs Tryd.func19 rfl (by simp [Tryd.ntmps19]) fun a0 hF => ?_
  simp only [Tryd.ntmps19, startT] at hF
  obtain ⟨B, hB⟩ : ∃ B, B = std := ⟨_, rfl⟩
  refine wp_seq ?_
  apply region_okB hB T19_ok [8, 0, 6, 7] [0] [] hF
  case hex => intro A X; conv => lhs; cbv
  case hob =>
    intro X
    subst hB
    simp [AllOb, Ob.holds, BE.den, std, stdCmp, stdArith] <;> omega
  case hQ =>
  intro X0 a0 w1 hF
  refine wp_block ?_
  refine loop_pre (ι := Nat × ByteArray) (fun p => [(8, .int .i64 (p.1 : Int))]) (fun p => [(0, ⟨b, 51, [.str p.2]⟩)]) (fun p => []) (fun p => p.1 ≤ n ∧ p.2 = s ++ mkB ((l.take p.1).flatMap nB)) (fun p => n - p.1) (0, s) ⟨Nat.zero_le _, by apply un_inj; rw [un_append, un_mk]; simp⟩ hF ?_
  rintro ⟨i, o⟩ ⟨hi, ho⟩ a0 w1 hF
  try dsimp only at hi
  try dsimp only at ho
  refine wp_seq ?_
  apply region_okB hB T19_ok [9, 0, 6, 7, 8] [0] [] hF
  case hex => intro A X; conv => lhs; cbv
  case hob =>
    intro X
    subst hB
    simp [AllOb, Ob.holds, BE.den, std, stdCmp, stdArith] <;> omega
  case hQ =>
  intro X1 a0 w1 hF
  refine wp_seq ?_
  refine test_ok hF rfl (fun hb hF => ?_) (fun hb hF => ?_)
  · skip
    have hin : i < n := by
      have : (i : Int) < (n : Int) := by subst hB; simpa [std, stdCmp] using hb
      omega
    have hin2 : i < l.length := by omega
    have hfi : l[i] = f i := by rw [hf]; simp [List.getD, hin2]
    have hU : U64 (f i) := by rw [← hfi]; exact hu _ (List.getElem_mem hin2)
    have hsz : o.size ≤ 600000000 := by
      have h1 : ((l.take i).flatMap nB).length ≤ 9 * i := by
        have h2 : ∀ r : List Int, (∀ v ∈ r, U64 v) → (r.flatMap nB).length ≤ 9 * r.length := by
          intro r
          induction r with
          | nil => intro _; simp
          | cons v r ih =>
            intro h
            have := nB_len (h v (by simp))
            have := ih fun x hx => h x (by simp [hx])
            simp only [List.flatMap_cons, List.length_append, List.length_cons]; omega
        have := h2 (l.take i) (fun v hv => hu v (List.mem_of_mem_take hv))
        rw [List.length_take] at this; omega
      rw [ho, ← un_size, un_append, un_mk, List.length_append, un_size]; omega
    have S := putNum_s o (f i) hU (by omega)
    obtain ⟨t, ht⟩ : ∃ t, t = o ++ mkB (numL (f i).toNat) := ⟨_, rfl⟩
    rw [← ht] at S
    refine wp_skip ?_
    refine wp_seq ?_
    refine wp_block ?_
    refine wp_seq ?_
    apply region_okB hB T19_ok [0, 5, 6, 7, 8] [0] [] hF
    case hex => intro A X; conv => lhs; cbv
    case hob =>
      intro X
      subst hB; exact ⟨⟨show (0 : Int) ≤ (i : Int) by omega, show (i : Int) < (n : Int) by omega⟩, trivial⟩
    case hQ =>
    intro X2 a0 w1 hF
    apply region_okB hB T19_ok [0, 6, 7, 8] [0] [(6, .r fun _ => .str t)] hF
    case hex => intro A X; conv => lhs; cbv
    case hob =>
      intro X
      subst hB; exact ⟨rfl, ⟨enters58, S⟩, rfl, trivial⟩
    case hQ =>
    intro X3 a0 w1 hF
    apply region_okB hB T19_ok [8, 0, 6, 7] [0] [] hF
    case hex => intro A X; conv => lhs; cbv
    case hob =>
      intro X
      subst hB
      simp [AllOb, Ob.holds, BE.den, std, stdCmp, stdArith] <;> omega
    case hQ =>
    intro X4 a0 w1 hF
    have e : B.arith .add .i64 (i : Int) 1 = ((i + 1 : Nat) : Int) := by subst hB; exact wrap_succ (n := n) hin (by omega)
    refine ⟨(i + 1, t), ⟨by simp only; omega, ?_⟩, by simp only; omega, by rw [← e]; exact hF⟩
    rw [ht, ho, List.take_succ_eq_append_getElem hin2, hfi, List.flatMap_append]
    apply un_inj
    simp [un_append, un_mk]
    rfl
  · skip
    have hout : i = n := by
      have : ¬ (i : Int) < (n : Int) := by subst hB; simpa [std, stdCmp] using hb
      omega
    rw [hout, hn, List.take_length] at ho
    refine wp_exit ?_
    refine (ret_x (fn := Tryd.f19) T19_ok hF (rs := []) rfl (rfl) ?_ noAtom [] ?_ ?_ ?_).2
    · subst hB; simp [AllOb, Ob.holds]
    · subst hB; exact Sim.refl _
    · subst hB; rw [← ho]; exact ⟨rfl, ⟨_, rfl, SimL.refl _⟩, trivial⟩
    · exact trivial
theorem numbers_m (k0 : Nat) (b : Nat) (s : ByteArray) (A : Option Addr) (k : Nat) (l : List Int) (hl : l.length ≤ 1000) (hu : ∀ v ∈ l, U64 v) (hs : s.size ≤ 500000000) : SpecX Tryd.prog 19 [.ptr k0 b 0, rowU A k l] [(k0, ⟨b, 51, [.str s]⟩)] (fun _ => ⟨.tup [], [(k0, [.str (s ++ mkB (l.flatMap nB))])], []⟩) :=
  (numbers_m0 b s A k l hl hu hs).re (by repeat (first | exact trivial | refine ⟨Sim.ptr, ?_⟩ | refine ⟨Sim.fn ⟨Sim.ptr, trivial⟩ trivial, ?_⟩ | refine ⟨Sim.fn trivial ⟨Sim.ptr, trivial⟩, ?_⟩ | refine ⟨Sim.refl _, ?_⟩)) rfl (fun x => ⟨rfl, rfl, Sim.refl _, rfl⟩)
def T61 : List (Nat × TI) := [(22, ti22), (49, ti49), (97, ti97)]
theorem T61_ok : TabOK Tryd.prog T61 := .cons t22 (.cons t49 (.cons t97 (.nil)))
theorem enters61 : Enters Tryd.prog 61 := fun _ _ => by kernel_rfl
theorem wflag_m0 (b : Nat) (s : ByteArray) (h : Bool) (hs : s.size ≤ 500000000) : SpecX Tryd.prog 61 [.ptr 0 b 0, .bool (.v h)] [(0, ⟨b, 51, [.str s]⟩)] (fun _ => ⟨.tup [], [(0, [.str (s ++ mkB (flagB h))])], []⟩) := by
  intro m w hm hargs hpre
  obtain ⟨t, ht⟩ : ∃ t, t = s ++ mkB (flagB h) := ⟨_, rfl⟩
  rw [← ht]
  refine enterX hm hpre hargs Tryd.func61 rfl (by simp [Tryd.ntmps61]) fun a0 hF => ?_
  simp only [Tryd.ntmps61, startT] at hF
  obtain ⟨B, hB⟩ : ∃ B, B = std := ⟨_, rfl⟩
  refine wp_seq ?_
  apply region_okB hB T61_ok [4, 0] [0] [] hF
  case hex => intro A X; conv => lhs; cbv
  case hob =>
    intro X
    subst hB
    simp [AllOb, Ob.holds, BE.den, std, stdCmp, stdArith] <;> omega
  case hQ =>
  intro X0 a0 w1 hF
  refine test_ok hF rfl (fun hb hF => ?_) (fun hb hF => ?_)
  · skip
    have hh : h = true := by subst hB; exact hb
    have S : ∀ b A k, SpecX Tryd.prog 19 [.ptr 0 b 0, rowU A k [1]] [(0, ⟨b, 51, [.str s]⟩)] (fun _ => ⟨.tup [], [(0, [.str t])], []⟩) := fun b A k => by
      have := numbers_m 0 b s A k [1] (Nat.le_of_ble_eq_true rfl) (by intro v hv; rw [List.mem_singleton] at hv; subst hv; exact ⟨by decide, by decide⟩) hs
      rwa [show s ++ mkB (List.flatMap nB [1]) = t from (by rw [ht, hh]; simp [flagB])] at this
    apply region_okB hB T61_ok [] [0] [(2, .x fun _ => ⟨.tup [], [(0, [.str t])], []⟩)] hF
    case hex => intro A X; conv => lhs; cbv
    case hob =>
      intro X
      subst hB; exact ⟨⟨enters19, (S _ _ _).re ⟨Sim.ptr, row_sim (l := [1]) (l' := [1]) rfl _ _ _, trivial⟩ rfl (fun _ => ⟨rfl, rfl, Sim.refl _, rfl⟩)⟩, trivial⟩
    case hQ =>
    intro X1 a0 w1 hF
    refine (ret_x (fn := Tryd.f61) T61_ok hF (rs := []) rfl (rfl) ?_ noAtom [] ?_ ?_ ?_).2
    · subst hB; simp [AllOb, Ob.holds]
    · subst hB; exact Sim.refl _
    · subst hB; first | exact trivial | exact ⟨rfl, ⟨_, rfl, SimL.refl _⟩, trivial⟩
    · exact trivial
  · skip
    have hh : h = false := by subst hB; exact hb
    have S : ∀ b A k, SpecX Tryd.prog 19 [.ptr 0 b 0, rowU A k [0]] [(0, ⟨b, 51, [.str s]⟩)] (fun _ => ⟨.tup [], [(0, [.str t])], []⟩) := fun b A k => by
      have := numbers_m 0 b s A k [0] (Nat.le_of_ble_eq_true rfl) (by intro v hv; rw [List.mem_singleton] at hv; subst hv; exact ⟨by decide, by decide⟩) hs
      rwa [show s ++ mkB (List.flatMap nB [0]) = t from (by rw [ht, hh]; simp [flagB])] at this
    apply region_okB hB T61_ok [] [0] [(2, .x fun _ => ⟨.tup [], [(0, [.str t])], []⟩)] hF
    case hex => intro A X; conv => lhs; cbv
    case hob =>
      intro X
      subst hB; exact ⟨⟨enters19, (S _ _ _).re ⟨Sim.ptr, row_sim (l := [0]) (l' := [0]) rfl _ _ _, trivial⟩ rfl (fun _ => ⟨rfl, rfl, Sim.refl _, rfl⟩)⟩, trivial⟩
    case hQ =>
    intro X2 a0 w1 hF
    refine (ret_x (fn := Tryd.f61) T61_ok hF (rs := []) rfl (rfl) ?_ noAtom [] ?_ ?_ ?_).2
    · subst hB; simp [AllOb, Ob.holds]
    · subst hB; exact Sim.refl _
    · subst hB; first | exact trivial | exact ⟨rfl, ⟨_, rfl, SimL.refl _⟩, trivial⟩
    · exact trivial
theorem wflag_m (k0 : Nat) (b : Nat) (s : ByteArray) (h : Bool) (hs : s.size ≤ 500000000) : SpecX Tryd.prog 61 [.ptr k0 b 0, .bool (.v h)] [(k0, ⟨b, 51, [.str s]⟩)] (fun _ => ⟨.tup [], [(k0, [.str (s ++ mkB (flagB h))])], []⟩) :=
  (wflag_m0 b s h hs).re (by repeat (first | exact trivial | refine ⟨Sim.ptr, ?_⟩ | refine ⟨Sim.fn ⟨Sim.ptr, trivial⟩ trivial, ?_⟩ | refine ⟨Sim.fn trivial ⟨Sim.ptr, trivial⟩, ?_⟩ | refine ⟨Sim.refl _, ?_⟩)) rfl (fun x => ⟨rfl, rfl, Sim.refl _, rfl⟩)
def T21 : List (Nat × TI) := [(9, ti9), (22, ti22), (51, ti51)]
theorem T21_ok : TabOK Tryd.prog T21 := .cons t9 (.cons t22 (.cons t51 (.nil)))
theorem enters21 : Enters Tryd.prog 21 := fun _ _ => by kernel_rfl
theorem wtext_m0 (b : Nat) (s x : ByteArray) (hs : s.size ≤ 500000000) (hx : x.size ≤ 4096) : SpecX Tryd.prog 21 [.ptr 0 b 0, .str x] [(0, ⟨b, 51, [.str s]⟩)] (fun _ => ⟨.tup [], [(0, [.str (s ++ mkB (textL (unB x)))])], []⟩) := by
  intro m w hm hargs hpre
  have S := putText_s s x (by omega) hx
  generalize s ++ mkB (textL (unB x)) = t at S ⊢
  refine enterX hm hpre hargs Tryd.func21 rfl (by simp [Tryd.ntmps21]) fun a0 hF => ?_
  simp only [Tryd.ntmps21, startT] at hF
  obtain ⟨B, hB⟩ : ∃ B, B = std := ⟨_, rfl⟩
  apply region_okB hB T21_ok [] [0] [(6, .r fun _ => .tup [.str t, .int .i64 0])] hF
  case hex => intro A X; conv => lhs; cbv
  case hob =>
    intro X
    subst hB; exact ⟨rfl, ⟨enters60, S⟩, rfl, trivial⟩
  case hQ =>
  intro X0 a0 w1 hF
  refine (ret_x (fn := Tryd.f21) T21_ok hF (rs := []) rfl (rfl) ?_ noAtom [] ?_ ?_ ?_).2
  · subst hB; simp [AllOb, Ob.holds]
  · subst hB; exact Sim.refl _
  · subst hB; first | exact trivial | exact ⟨rfl, ⟨_, rfl, SimL.refl _⟩, trivial⟩
  · exact trivial
theorem wtext_m (k0 : Nat) (b : Nat) (s x : ByteArray) (hs : s.size ≤ 500000000) (hx : x.size ≤ 4096) : SpecX Tryd.prog 21 [.ptr k0 b 0, .str x] [(k0, ⟨b, 51, [.str s]⟩)] (fun _ => ⟨.tup [], [(k0, [.str (s ++ mkB (textL (unB x)))])], []⟩) :=
  (wtext_m0 b s x hs hx).re (by repeat (first | exact trivial | refine ⟨Sim.ptr, ?_⟩ | refine ⟨Sim.fn ⟨Sim.ptr, trivial⟩ trivial, ?_⟩ | refine ⟨Sim.fn trivial ⟨Sim.ptr, trivial⟩, ?_⟩ | refine ⟨Sim.refl _, ?_⟩)) rfl (fun x => ⟨rfl, rfl, Sim.refl _, rfl⟩)
def T20 : List (Nat × TI) := [(9, ti9), (22, ti22), (24, ti24), (51, ti51)]
theorem T20_ok : TabOK Tryd.prog T20 := .cons t9 (.cons t22 (.cons t24 (.cons t51 (.nil))))
theorem enters20 : Enters Tryd.prog 20 := fun _ _ => by kernel_rfl
theorem wplace_m0 (b : Nat) (s : ByteArray) (l : List UInt8) (hl : l.length = 20) (hs : s.size ≤ 500000000) : SpecX Tryd.prog 20 [.ptr 0 b 0, .agg (keyC (kI l))] [(0, ⟨b, 51, [.str s]⟩)] (fun _ => ⟨.tup [], [(0, [.str (s ++ mkB l)])], []⟩) := by
  intro m w hm hargs hpre
  have S := putPlace_s s l hl (by omega)
  generalize s ++ mkB l = t at S ⊢
  generalize kI l = K at S hargs ⊢
  refine enterX hm hpre hargs Tryd.func20 rfl (by simp [Tryd.ntmps20]) fun a0 hF => ?_
  simp only [Tryd.ntmps20, startT] at hF
  obtain ⟨B, hB⟩ : ∃ B, B = std := ⟨_, rfl⟩
  refine wp_seq ?_
  apply region_okB hB T20_ok [0, 3] [0, 3] [] hF
  case hex => intro A X; conv => lhs; cbv
  case hob =>
    intro X
    subst hB
    simp [AllOb, Ob.holds, BE.den, std, stdCmp, stdArith] <;> omega
  case hQ =>
  intro X0 a0 w1 hF
  apply drawn_okB hB (by kernel_rfl) T20_ok [] [0] [(6, .r fun _ => .str t)] hF rfl
  case hex => intro A X; conv => lhs; cbv
  case hD => kernel_rfl
  case hlen => rfl
  case hob =>
    intro X
    subst hB
    simp only [AllOb, Ob.holds, BE.den, List.mem_cons, List.not_mem_nil, or_false, forall_eq_or_imp, forall_eq] <;> (and_intros <;> first | trivial | (intro h; trivial) | exact enters59 | exact S | exact ⟨enters59, S⟩ | (intro h; exact ⟨enters59, S⟩) | rfl | (intro h; rfl))
  case hQ =>
  intro X1 a0 w1 hF
  refine (ret_x (fn := Tryd.f20) T20_ok hF (rs := []) rfl (rfl) ?_ noAtom [] ?_ ?_ ?_).2
  · subst hB; simp [AllOb, Ob.holds]
  · subst hB; exact Sim.refl _
  · subst hB; first | exact trivial | exact ⟨rfl, ⟨_, rfl, SimL.refl _⟩, trivial⟩
  · exact trivial
theorem wplace_m (k0 : Nat) (b : Nat) (s : ByteArray) (l : List UInt8) (hl : l.length = 20) (hs : s.size ≤ 500000000) : SpecX Tryd.prog 20 [.ptr k0 b 0, .agg (keyC (kI l))] [(k0, ⟨b, 51, [.str s]⟩)] (fun _ => ⟨.tup [], [(k0, [.str (s ++ mkB l)])], []⟩) :=
  (wplace_m0 b s l hl hs).re (by repeat (first | exact trivial | refine ⟨Sim.ptr, ?_⟩ | refine ⟨Sim.fn ⟨Sim.ptr, trivial⟩ trivial, ?_⟩ | refine ⟨Sim.fn trivial ⟨Sim.ptr, trivial⟩, ?_⟩ | refine ⟨Sim.refl _, ?_⟩)) rfl (fun x => ⟨rfl, rfl, Sim.refl _, rfl⟩)
def T22 : List (Nat × TI) := [(4, ti4), (22, ti22), (27, ti27), (29, ti29), (49, ti49), (97, ti97)]
theorem T22_ok : TabOK Tryd.prog T22 := .cons t4 (.cons t22 (.cons t27 (.cons t29 (.cons t49 (.cons t97 (.nil))))))
theorem enters22 : Enters Tryd.prog 22 := fun _ _ => by kernel_rfl
theorem wtold_m0 (b : Nat) (s : ByteArray) (a : Ans) (hc : U64 a.code) (hv : U64 a.version) (hs : s.size ≤ 400000000) : SpecX Tryd.prog 22 [.ptr 0 b 0, ansAV a] [(0, ⟨b, 51, [.str s]⟩)] (fun _ => ⟨.tup [], [(0, [.str (s ++ mkB (ansB a))])], []⟩) := by
  intro m w hm hargs hpre
  have hl1 := nB_len hc
  have hl2 := nB_len hv
  obtain ⟨t1, ht1⟩ : ∃ t, t = s ++ mkB (nB a.code ++ nB a.version) := ⟨_, rfl⟩
  obtain ⟨t2, ht2⟩ : ∃ t, t = s ++ mkB (ansB a) := ⟨_, rfl⟩
  have hsz : t1.size ≤ 500000000 := by rw [ht1, ← un_size, un_append, un_mk, List.length_append, List.length_append, un_size]; omega
  have S1 : ∀ b A k, SpecX Tryd.prog 19 [.ptr 0 b 0, rowU A k [a.code, a.version]] [(0, ⟨b, 51, [.str s]⟩)] (fun _ => ⟨.tup [], [(0, [.str t1])], []⟩) := fun b A k => by
    have := numbers_m 0 b s A k [a.code, a.version] (Nat.le_of_ble_eq_true rfl) (by intro v hv2; simp only [List.mem_cons, List.not_mem_nil, or_false] at hv2; rcases hv2 with rfl | rfl; exact hc; exact hv) (by omega)
    rwa [show s ++ mkB (List.flatMap nB [a.code, a.version]) = t1 from (by rw [ht1]; simp)] at this
  have S2 : SpecX Tryd.prog 61 [.ptr 0 b 0, .bool (.v a.has)] [(0, ⟨b, 51, [.str t1]⟩)] (fun _ => ⟨.tup [], [(0, [.str t2])], []⟩) := by
    have := wflag_m 0 b t1 a.has hsz
    rwa [show t1 ++ mkB (flagB a.has) = t2 from by rw [ht1, ht2]; apply un_inj; simp [un_append, un_mk, ansB]] at this
  rw [← ht2]
  simp only [ansAV, ansC] at hargs ⊢
  have ew := wrap_u64 _ hc
  refine enterX hm hpre hargs Tryd.func22 rfl (by simp [Tryd.ntmps22]) fun a0 hF => ?_
  simp only [Tryd.ntmps22, startT] at hF
  obtain ⟨B, hB⟩ : ∃ B, B = std := ⟨_, rfl⟩
  refine wp_seq ?_
  apply region_okB hB T22_ok [0, 3] [0, 3] [] hF
  case hex => intro A X; conv => lhs; cbv
  case hob =>
    intro X
    subst hB
    simp [AllOb, Ob.holds, BE.den, std, stdCmp, stdArith] <;> omega
  case hQ =>
  intro X0 a0 w1 hF
  refine wp_seq ?_
  apply region_okB hB T22_ok [0, 3] [0, 3] [(7, .x fun _ => ⟨.tup [], [(0, [.str t1])], []⟩)] hF
  case hex => intro A X; conv => lhs; cbv
  case hob =>
    intro X
    subst hB; exact ⟨rfl, rfl, ⟨enters19, (S1 _ _ _).re ⟨Sim.ptr, row_sim (l := [IntKind.u64.wrap a.code, a.version]) (l' := [a.code, a.version]) (by rw [ew]) _ _ _, trivial⟩ rfl (fun _ => ⟨rfl, rfl, Sim.refl _, rfl⟩)⟩, trivial⟩
  case hQ =>
  intro X1 a0 w1 hF
  apply region_okB hB T22_ok [] [0] [(3, .x fun _ => ⟨.tup [], [(0, [.str t2])], []⟩)] hF
  case hex => intro A X; conv => lhs; cbv
  case hob =>
    intro X
    subst hB; exact ⟨rfl, ⟨enters61, S2⟩, trivial⟩
  case hQ =>
  intro X2 a0 w1 hF
  refine (ret_x (fn := Tryd.f22) T22_ok hF (rs := []) rfl (rfl) ?_ noAtom [] ?_ ?_ ?_).2
  · subst hB; simp [AllOb, Ob.holds]
  · subst hB; exact Sim.refl _
  · subst hB; first | exact trivial | exact ⟨rfl, ⟨_, rfl, SimL.refl _⟩, trivial⟩
  · exact trivial
theorem wtold_m (k0 : Nat) (b : Nat) (s : ByteArray) (a : Ans) (hc : U64 a.code) (hv : U64 a.version) (hs : s.size ≤ 400000000) : SpecX Tryd.prog 22 [.ptr k0 b 0, ansAV a] [(k0, ⟨b, 51, [.str s]⟩)] (fun _ => ⟨.tup [], [(k0, [.str (s ++ mkB (ansB a))])], []⟩) :=
  (wtold_m0 b s a hc hv hs).re (by repeat (first | exact trivial | refine ⟨Sim.ptr, ?_⟩ | refine ⟨Sim.fn ⟨Sim.ptr, trivial⟩ trivial, ?_⟩ | refine ⟨Sim.fn trivial ⟨Sim.ptr, trivial⟩, ?_⟩ | refine ⟨Sim.refl _, ?_⟩)) rfl (fun x => ⟨rfl, rfl, Sim.refl _, rfl⟩)
def T23 : List (Nat × TI) := [(3, ti3), (4, ti4), (9, ti9), (22, ti22), (29, ti29), (30, ti30), (32, ti32), (49, ti49), (62, ti62), (97, ti97)]
theorem T23_ok : TabOK Tryd.prog T23 := .cons t3 (.cons t4 (.cons t9 (.cons t22 (.cons t29 (.cons t30 (.cons t32 (.cons t49 (.cons t62 (.cons t97 (.nil))))))))))
theorem enters23 : Enters Tryd.prog 23 := fun _ _ => by kernel_rfl
theorem wcell_m0 (b : Nat) (s : ByteArray) (A : Option Addr) (k : Nat) (c : Cel) (hc : okC c) (hs : s.size ≤ 100000000) : SpecX Tryd.prog 23 [.ptr 0 b 0, celAV A k c] [(0, ⟨b, 51, [.str s]⟩)] (fun _ => ⟨.tup [], [(0, [.str (s ++ mkB (cellB c))])], []⟩) := by
  intro m w hm hargs hpre
  have ho1 := hargs (celAV A k c) (by simp)
  have hm1 := ok_agg ho1 (marksAV A k c.marks) (by simp [celC])
  obtain ⟨hl1, hc1⟩ := ok_len hm1
  obtain ⟨n1, f1, ho1, hn1, hf1⟩ := marks_open c.marks
  have e1 : celAV A k c = .agg [.int .u64 c.version, .bool (.v c.has), .str c.val, rowM none A n1 k f1] := by simp only [celAV, celC, ho1]
  obtain ⟨hcv, hcs, hcl, hcm⟩ := hc
  rw [e1] at hargs ⊢
  have hl1 := nB_len hcv
  have hl2 := flagB_len c.has
  have hl3 := textL_len hcs
  have hnU : U64 (n1 : Int) := ⟨by omega, by omega⟩
  have hl4 := nB_len hnU
  obtain ⟨t1, ht1⟩ : ∃ t, t = s ++ mkB (nB c.version) := ⟨_, rfl⟩
  have hzt1 : t1.size ≤ 300000000 := by rw [ht1, ← un_size, un_append, un_mk]; simp only [List.length_append, un_size]; omega
  obtain ⟨t2, ht2⟩ : ∃ t, t = s ++ mkB (nB c.version ++ flagB c.has) := ⟨_, rfl⟩
  have hzt2 : t2.size ≤ 300000000 := by rw [ht2, ← un_size, un_append, un_mk]; simp only [List.length_append, un_size]; omega
  obtain ⟨t3, ht3⟩ : ∃ t, t = s ++ mkB (nB c.version ++ flagB c.has ++ textL (unB c.val)) := ⟨_, rfl⟩
  have hzt3 : t3.size ≤ 300000000 := by rw [ht3, ← un_size, un_append, un_mk]; simp only [List.length_append, un_size]; omega
  obtain ⟨t4, ht4⟩ : ∃ t, t = s ++ mkB (nB c.version ++ flagB c.has ++ textL (unB c.val) ++ nB (n1 : Int)) := ⟨_, rfl⟩
  have hzt4 : t4.size ≤ 300000000 := by rw [ht4, ← un_size, un_append, un_mk]; simp only [List.length_append, un_size]; omega
  rw [show cellB c = nB c.version ++ flagB c.has ++ textL (unB c.val) ++ nB (n1 : Int) ++ c.marks.flatMap markB from by rw [hn1]; rfl]
  have S1 : ∀ b A k, SpecX Tryd.prog 19 [.ptr 0 b 0, rowU A k [c.version]] [(0, ⟨b, 51, [.str s]⟩)] (fun _ => ⟨.tup [], [(0, [.str t1])], []⟩) := fun b A k => by
    have := numbers_m 0 b s A k [c.version] (Nat.le_of_ble_eq_true rfl) (by intro v hv2; rw [List.mem_singleton] at hv2; subst hv2; exact hcv) (by omega)
    rwa [show s ++ mkB (List.flatMap nB [c.version]) = t1 from (by rw [ht1]; simp)] at this
  have S2 : ∀ b, SpecX Tryd.prog 61 [.ptr 0 b 0, .bool (.v c.has)] [(0, ⟨b, 51, [.str t1]⟩)] (fun _ => ⟨.tup [], [(0, [.str t2])], []⟩) := fun b => by
    have := wflag_m 0 b t1 c.has (by omega)
    rwa [show t1 ++ mkB (flagB c.has) = t2 from (by rw [ht1, ht2]; apply un_inj; simp [un_append, un_mk])] at this
  have S3 : ∀ b, SpecX Tryd.prog 21 [.ptr 0 b 0, .str c.val] [(0, ⟨b, 51, [.str t2]⟩)] (fun _ => ⟨.tup [], [(0, [.str t3])], []⟩) := fun b => by
    have := wtext_m 0 b t2 c.val (by omega) hcs
    rwa [show t2 ++ mkB (textL (unB c.val)) = t3 from (by rw [ht2, ht3]; apply un_inj; simp [un_append, un_mk])] at this
  have S4 : ∀ b A k, SpecX Tryd.prog 19 [.ptr 0 b 0, rowU A k [(n1 : Int)]] [(0, ⟨b, 51, [.str t3]⟩)] (fun _ => ⟨.tup [], [(0, [.str t4])], []⟩) := fun b A k => by
    have := numbers_m 0 b t3 A k [(n1 : Int)] (Nat.le_of_ble_eq_true rfl) (by intro v hv2; rw [List.mem_singleton] at hv2; subst hv2; exact hnU) (by omega)
    rwa [show t3 ++ mkB (List.flatMap nB [(n1 : Int)]) = t4 from (by rw [ht3, ht4]; apply un_inj; simp [un_append, un_mk])] at this
  have ewn := wrap_u64 _ hnU
  refine enterX hm hpre hargs Tryd.func23 rfl (by simp [Tryd.ntmps23]) fun a0 hF => ?_
  simp only [Tryd.ntmps23, startT] at hF
  obtain ⟨B, hB⟩ : ∃ B, B = std := ⟨_, rfl⟩
  refine wp_seq ?_
  apply region_okB hB T23_ok [0, 3] [0, 3] [] hF
  case hex => intro A X; conv => lhs; cbv
  case hob =>
    intro X
    subst hB
    simp [AllOb, Ob.holds, BE.den, std, stdCmp, stdArith] <;> omega
  case hQ =>
  intro X0 a0 w1 hF
  refine wp_seq ?_
  apply region_okB hB T23_ok [0, 3] [0, 3] [(4, .x fun _ => ⟨.tup [], [(0, [.str t1])], []⟩)] hF
  case hex => intro A X; conv => lhs; cbv
  case hob =>
    intro X
    subst hB; exact ⟨rfl, ⟨enters19, (S1 _ _ _).re ⟨Sim.ptr, row_sim (l := [c.version]) (l' := [c.version]) rfl _ _ _, trivial⟩ rfl (fun _ => ⟨rfl, rfl, Sim.refl _, rfl⟩)⟩, trivial⟩
  case hQ =>
  intro X1 a0 w1 hF
  refine wp_seq ?_
  apply region_okB hB T23_ok [0, 3] [0, 3] [(3, .x fun _ => ⟨.tup [], [(0, [.str t2])], []⟩)] hF
  case hex => intro A X; conv => lhs; cbv
  case hob =>
    intro X
    subst hB; exact ⟨rfl, ⟨enters61, S2 _⟩, trivial⟩
  case hQ =>
  intro X2 a0 w1 hF
  refine wp_seq ?_
  apply region_okB hB T23_ok [0, 3] [0, 3] [(3, .x fun _ => ⟨.tup [], [(0, [.str t3])], []⟩)] hF
  case hex => intro A X; conv => lhs; cbv
  case hob =>
    intro X
    subst hB; exact ⟨rfl, ⟨enters21, S3 _⟩, trivial⟩
  case hQ =>
  intro X3 a0 w1 hF
  refine wp_seq ?_
  apply region_okB hB T23_ok [0, 3] [0, 3] [(6, .x fun _ => ⟨.tup [], [(0, [.str t4])], []⟩)] hF
  case hex => intro A X; conv => lhs; cbv
  case hob =>
    intro X
    subst hB; exact ⟨rfl, ⟨enters19, (S4 _ _ _).re ⟨Sim.ptr, row_sim (l := [IntKind.u64.wrap (n1 : Int)]) (l' := [(n1 : Int)]) (by rw [ewn]) _ _ _, trivial⟩ rfl (fun _ => ⟨rfl, rfl, Sim.refl _, rfl⟩)⟩, trivial⟩
  case hQ =>
  intro X4 a0 w1 hF
  refine wp_seq ?_
  apply region_okB hB T23_ok [29, 0, 27, 28] [0] [] hF
  case hex => intro A X; conv => lhs; cbv
  case hob =>
    intro X
    subst hB
    simp [AllOb, Ob.holds, BE.den, std, stdCmp, stdArith] <;> omega
  case hQ =>
  intro X5 a0 w1 hF
  refine wp_block ?_
  refine loop_pre (ι := Nat × ByteArray) (fun p => [(29, .int .i64 (p.1 : Int))]) (fun p => [(0, ⟨b, 51, [.str p.2]⟩)]) (fun p => []) (fun p => p.1 ≤ n1 ∧ p.2 = t4 ++ mkB ((c.marks.take p.1).flatMap markB)) (fun p => n1 - p.1) (0, t4) ⟨Nat.zero_le _, by apply un_inj; rw [un_append, un_mk]; simp⟩ hF ?_
  rintro ⟨i, o⟩ ⟨hi, ho⟩ a0 w1 hF
  try dsimp only at hi
  try dsimp only at ho
  refine wp_seq ?_
  apply region_okB hB T23_ok [30, 0, 27, 28, 29] [0] [] hF
  case hex => intro A X; conv => lhs; cbv
  case hob =>
    intro X
    subst hB
    simp [AllOb, Ob.holds, BE.den, std, stdCmp, stdArith] <;> omega
  case hQ =>
  intro X6 a0 w1 hF
  refine wp_seq ?_
  refine test_ok hF rfl (fun hb hF => ?_) (fun hb hF => ?_)
  · skip
    have hin : i < n1 := by
      have : (i : Int) < (n1 : Int) := by subst hB; simpa [std, stdCmp] using hb
      omega
    have hin2 : i < c.marks.length := by omega
    have hfi : c.marks[i] = f1 i := by rw [hf1]; simp [List.getD, hin2]
    have hok := hcm _ (List.getElem_mem hin2)
    rw [hfi] at hok
    obtain ⟨g1, g2, g3, g4⟩ := hok
    have hsz : o.size ≤ 350000000 := by
      have h1 := marksB_len (l := c.marks.take i) fun x hx => hcm x (List.mem_of_mem_take hx)
      rw [List.length_take] at h1
      rw [ho, ← un_size, un_append, un_mk, List.length_append, un_size]; omega
    have hq1 := nB_len g1
    have hq2 := nB_len g2
    obtain ⟨u1, hu1⟩ : ∃ t, t = o ++ mkB (nB (f1 i).client ++ nB (f1 i).req) := ⟨_, rfl⟩
    obtain ⟨u2, hu2⟩ : ∃ t, t = t4 ++ mkB ((c.marks.take (i + 1)).flatMap markB) := ⟨_, rfl⟩
    have hu2o : o ++ mkB (markB (f1 i)) = u2 := by rw [hu2, ho, List.take_succ_eq_append_getElem hin2, hfi]; apply un_inj; simp [un_append, un_mk]
    have hsz1 : u1.size ≤ 400000000 := by rw [hu1, ← un_size, un_append, un_mk, List.length_append, List.length_append, un_size]; omega
    have U1 : ∀ b A k, SpecX Tryd.prog 19 [.ptr 0 b 0, rowU A k [(f1 i).client, (f1 i).req]] [(0, ⟨b, 51, [.str o]⟩)] (fun _ => ⟨.tup [], [(0, [.str u1])], []⟩) := fun b A k => by
      have := numbers_m 0 b o A k [(f1 i).client, (f1 i).req] (Nat.le_of_ble_eq_true rfl) (by intro v hv2; simp only [List.mem_cons, List.not_mem_nil, or_false] at hv2; rcases hv2 with rfl | rfl; exact g1; exact g2) (by omega)
      rwa [show o ++ mkB (List.flatMap nB [(f1 i).client, (f1 i).req]) = u1 from (by rw [hu1]; simp)] at this
    have U2 : ∀ b, SpecX Tryd.prog 22 [.ptr 0 b 0, ansAV (f1 i).ans] [(0, ⟨b, 51, [.str u1]⟩)] (fun _ => ⟨.tup [], [(0, [.str u2])], []⟩) := fun b => by
      have := wtold_m 0 b u1 (f1 i).ans g3 g4 hsz1
      rwa [show u1 ++ mkB (ansB (f1 i).ans) = u2 from (by rw [← hu2o, hu1]; apply un_inj; simp [un_append, un_mk, markB])] at this
    simp only [ansAV, ansC] at U2
    have ewc := wrap_u64 _ g1
    refine wp_skip ?_
    refine wp_seq ?_
    refine wp_block ?_
    refine wp_seq ?_
    apply region_okB hB T23_ok [0, 5, 27, 28, 29] [0, 5] [] hF
    case hex => intro A X; conv => lhs; cbv
    case hob =>
      intro X
      subst hB; exact ⟨⟨show (0 : Int) ≤ (i : Int) by omega, show (i : Int) < (n1 : Int) by omega⟩, rfl, trivial⟩
    case hQ =>
    intro X7 a0 w1 hF
    refine wp_seq ?_
    apply region_okB hB T23_ok [0, 5, 27, 28, 29] [0, 5] [(7, .x fun _ => ⟨.tup [], [(0, [.str u1])], []⟩)] hF
    case hex => intro A X; conv => lhs; cbv
    case hob =>
      intro X
      subst hB; exact ⟨rfl, rfl, ⟨enters19, (U1 _ _ _).re ⟨Sim.ptr, row_sim (l := [IntKind.u64.wrap (f1 i).client, (f1 i).req]) (l' := [(f1 i).client, (f1 i).req]) (by rw [ewc]) _ _ _, trivial⟩ rfl (fun _ => ⟨rfl, rfl, Sim.refl _, rfl⟩)⟩, trivial⟩
    case hQ =>
    intro X8 a0 w1 hF
    apply region_okB hB T23_ok [0, 27, 28, 29] [0] [(3, .x fun _ => ⟨.tup [], [(0, [.str u2])], []⟩)] hF
    case hex => intro A X; conv => lhs; cbv
    case hob =>
      intro X
      subst hB; exact ⟨rfl, ⟨enters22, U2 _⟩, trivial⟩
    case hQ =>
    intro X9 a0 w1 hF
    apply region_okB hB T23_ok [29, 0, 27, 28] [0] [] hF
    case hex => intro A X; conv => lhs; cbv
    case hob =>
      intro X
      subst hB
      simp [AllOb, Ob.holds, BE.den, std, stdCmp, stdArith] <;> omega
    case hQ =>
    intro X10 a0 w1 hF
    have e : B.arith .add .i64 (i : Int) 1 = ((i + 1 : Nat) : Int) := by subst hB; exact wrap_succ (n := n1) hin (by omega)
    refine ⟨(i + 1, u2), ⟨by simp only; omega, hu2⟩, by simp only; omega, by rw [← e]; exact hF⟩
  · skip
    have hout : i = n1 := by
      have : ¬ (i : Int) < (n1 : Int) := by subst hB; simpa [std, stdCmp] using hb
      omega
    rw [hout, hn1, List.take_length] at ho
    refine wp_exit ?_
    refine (ret_x (fn := Tryd.f23) T23_ok hF (rs := []) rfl (rfl) ?_ noAtom [] ?_ ?_ ?_).2
    · subst hB; simp [AllOb, Ob.holds]
    · subst hB; exact Sim.refl _
    · subst hB; refine ⟨rfl, ⟨_, rfl, ?_⟩, trivial⟩
      rw [show s ++ mkB (nB c.version ++ flagB c.has ++ textL (unB c.val) ++ nB (n1 : Int) ++ c.marks.flatMap markB) = o from by rw [ho, ht4]; apply un_inj; simp [un_append, un_mk]]
      exact SimL.refl _
    · exact trivial
theorem wcell_m (k0 : Nat) (b : Nat) (s : ByteArray) (A : Option Addr) (k : Nat) (c : Cel) (hc : okC c) (hs : s.size ≤ 100000000) : SpecX Tryd.prog 23 [.ptr k0 b 0, celAV A k c] [(k0, ⟨b, 51, [.str s]⟩)] (fun _ => ⟨.tup [], [(k0, [.str (s ++ mkB (cellB c))])], []⟩) :=
  (wcell_m0 b s A k c hc hs).re (by repeat (first | exact trivial | refine ⟨Sim.ptr, ?_⟩ | refine ⟨Sim.fn ⟨Sim.ptr, trivial⟩ trivial, ?_⟩ | refine ⟨Sim.fn trivial ⟨Sim.ptr, trivial⟩, ?_⟩ | refine ⟨Sim.refl _, ?_⟩)) rfl (fun x => ⟨rfl, rfl, Sim.refl _, rfl⟩)
end Go.Proofs.YtkamdppnnhjajaaDoor.Sym

namespace Go.Proofs.YtkamdppnnhjajaaDoor.Sym
open Go Go.RowKit
set_option maxRecDepth 100000
set_option maxHeartbeats 1600000
set_option linter.unusedVariables false
set_option linter.unusedSimpArgs false
def T64 : List (Nat × TI) := [(3, ti3), (4, ti4), (9, ti9)]
theorem T64_ok : TabOK Tryd.prog T64 := .cons t3 (.cons t4 (.cons t9 (.nil)))
theorem enters64 : Enters Tryd.prog 64 := fun _ _ => by kernel_rfl
theorem val_s (s : ByteArray) (h : Bool) : Spec Tryd.prog 64 [.str s, .bool (.v h)] (fun _ => .bool (.v (decide (valOk s h)))) := by
  intro m w hm hargs
  refine enter hm hargs Tryd.func64 rfl (by simp [Tryd.ntmps64]) fun a0 hF => ?_
  simp only [Tryd.ntmps64, startT] at hF
  obtain ⟨B, hB⟩ : ∃ B, B = std := ⟨_, rfl⟩
  refine wp_seq ?_
  apply region_okB hB T64_ok [0, 1] [] [] hF
  case hex => intro A X; conv => lhs; cbv
  case hob =>
    intro X
    subst hB
    simp [AllOb, Ob.holds, BE.den, std, stdCmp, stdArith] <;> omega
  case hQ =>
  intro X0 a0 w1 hF
  refine wp_seq ?_
  apply region_okB hB T64_ok [4] [] [] hF
  case hex => intro A X; conv => lhs; cbv
  case hob =>
    intro X
    subst hB
    simp only [AllOb, Ob.holds, BE.den, List.mem_cons, List.not_mem_nil, or_false, forall_eq_or_imp, forall_eq] <;> (and_intros <;> first | trivial | (intro h; trivial) | exact ob_mark _ _ | (intro h; exact ob_mark _ _))
  case hQ =>
  intro X1 a0 w1 hF
  refine wp_ret ?_
  refine ret_spec (fn := Tryd.f64) T64_ok hF (rs := [.tmp 4]) rfl (rfl) ?_ noAtom ?_
  · subst hB; simp [AllOb, Ob.holds]
  · subst hB
    refine congrArg (fun b => AV.bool (.v b)) ?_
    rw [Bool.eq_iff_iff]
    try simp only [std, stdCmp, stdScmp, BE.den, tolB, emptyB, Int.ofNat_eq_natCast, Int.toNat_natCast]
    try simp only [decide_eq_true_eq]
    unfold valOk
    clear hF hargs hm
    grind
def T65 : List (Nat × TI) := [(3, ti3), (4, ti4), (9, ti9)]
theorem T65_ok : TabOK Tryd.prog T65 := .cons t3 (.cons t4 (.cons t9 (.nil)))
theorem enters65 : Enters Tryd.prog 65 := fun _ _ => by kernel_rfl
theorem rval_s (s : ByteArray) (h : Bool) : Spec Tryd.prog 65 [.str s, .bool (.v h)] (fun _ => .bool (.v (decide (valOk s h)))) := by
  intro m w hm hargs
  refine enter hm hargs Tryd.func65 rfl (by simp [Tryd.ntmps65]) fun a0 hF => ?_
  simp only [Tryd.ntmps65, startT] at hF
  obtain ⟨B, hB⟩ : ∃ B, B = std := ⟨_, rfl⟩
  refine wp_seq ?_
  apply region_okB hB T65_ok [0, 1] [] [] hF
  case hex => intro A X; conv => lhs; cbv
  case hob =>
    intro X
    subst hB
    simp [AllOb, Ob.holds, BE.den, std, stdCmp, stdArith] <;> omega
  case hQ =>
  intro X0 a0 w1 hF
  refine wp_seq ?_
  apply region_okB hB T65_ok [4] [] [] hF
  case hex => intro A X; conv => lhs; cbv
  case hob =>
    intro X
    subst hB
    simp only [AllOb, Ob.holds, BE.den, List.mem_cons, List.not_mem_nil, or_false, forall_eq_or_imp, forall_eq] <;> (and_intros <;> first | trivial | (intro h; trivial) | exact ob_mark _ _ | (intro h; exact ob_mark _ _))
  case hQ =>
  intro X1 a0 w1 hF
  refine wp_ret ?_
  refine ret_spec (fn := Tryd.f65) T65_ok hF (rs := [.tmp 4]) rfl (rfl) ?_ noAtom ?_
  · subst hB; simp [AllOb, Ob.holds]
  · subst hB
    refine congrArg (fun b => AV.bool (.v b)) ?_
    rw [Bool.eq_iff_iff]
    try simp only [std, stdCmp, stdScmp, BE.den, tolB, emptyB, Int.ofNat_eq_natCast, Int.toNat_natCast]
    try simp only [decide_eq_true_eq]
    unfold valOk
    clear hF hargs hm
    grind
def T66 : List (Nat × TI) := [(4, ti4), (9, ti9), (27, ti27), (29, ti29)]
theorem T66_ok : TabOK Tryd.prog T66 := .cons t4 (.cons t9 (.cons t27 (.cons t29 (.nil))))
theorem enters66 : Enters Tryd.prog 66 := fun _ _ => by kernel_rfl
theorem risA_s (a : Ans) : Spec Tryd.prog 66 [ansAV a] (fun _ => .bool (.v (decide (ansOk a)))) := by
  intro m w hm hargs
  simp only [ansAV, ansC] at hargs
  refine enter hm hargs Tryd.func66 rfl (by simp [Tryd.ntmps66]) fun a0 hF => ?_
  simp only [Tryd.ntmps66, startT] at hF
  obtain ⟨B, hB⟩ : ∃ B, B = std := ⟨_, rfl⟩
  refine wp_seq ?_
  apply region_okB hB T66_ok [1] [1] [] hF
  case hex => intro A X; conv => lhs; cbv
  case hob =>
    intro X
    subst hB
    simp [AllOb, Ob.holds, BE.den, std, stdCmp, stdArith] <;> omega
  case hQ =>
  intro X0 a0 w1 hF
  refine wp_seq ?_
  apply region_okB hB T66_ok [2] [] [] hF
  case hex => intro A X; conv => lhs; cbv
  case hob =>
    intro X
    subst hB
    simp only [AllOb, Ob.holds, BE.den, List.mem_cons, List.not_mem_nil, or_false, forall_eq_or_imp, forall_eq] <;> (and_intros <;> first | trivial | (intro h; trivial) | exact ob_mark _ _ | (intro h; exact ob_mark _ _))
  case hQ =>
  intro X1 a0 w1 hF
  refine wp_ret ?_
  refine ret_spec (fn := Tryd.f66) T66_ok hF (rs := [.tmp 2]) rfl (rfl) ?_ noAtom ?_
  · subst hB; simp [AllOb, Ob.holds]
  · subst hB
    refine congrArg (fun b => AV.bool (.v b)) ?_
    rw [Bool.eq_iff_iff]
    try simp only [std, stdCmp, stdScmp, BE.den, tolB, emptyB, Int.ofNat_eq_natCast, Int.toNat_natCast]
    try simp only [decide_eq_true_eq]
    unfold ansOk
    clear hF hargs hm
    grind
def T28 : List (Nat × TI) := [(3, ti3), (4, ti4), (9, ti9), (22, ti22), (26, ti26)]
theorem T28_ok : TabOK Tryd.prog T28 := .cons t3 (.cons t4 (.cons t9 (.cons t22 (.cons t26 (.nil)))))
theorem enters28 : Enters Tryd.prog 28 := fun _ _ => by kernel_rfl
theorem isO_s (o : Opr) : Spec Tryd.prog 28 [opAV o] (fun _ => .bool (.v (decide (IsO o)))) := by
  intro m w hm hargs
  simp only [opAV, opC] at hargs
  refine enter hm hargs Tryd.func28 rfl (by simp [Tryd.ntmps28]) fun a0 hF => ?_
  simp only [Tryd.ntmps28, startT] at hF
  obtain ⟨B, hB⟩ : ∃ B, B = std := ⟨_, rfl⟩
  refine wp_seq ?_
  apply region_okB hB T28_ok [1] [1] [] hF
  case hex => intro A X; conv => lhs; cbv
  case hob =>
    intro X
    subst hB
    simp [AllOb, Ob.holds, BE.den, std, stdCmp, stdArith] <;> omega
  case hQ =>
  intro X0 a0 w1 hF
  refine wp_seq ?_
  refine wp_seq ?_
  apply region_okB hB T28_ok [10, 1] [1] [] hF
  case hex => intro A X; conv => lhs; cbv
  case hob =>
    intro X
    subst hB
    simp only [AllOb, Ob.holds, BE.den, List.mem_cons, List.not_mem_nil, or_false, forall_eq_or_imp, forall_eq] <;> (and_intros <;> first | trivial | (intro h; trivial) | exact ob_mark _ _ | (intro h; exact ob_mark _ _))
  case hQ =>
  intro X1 a0 w1 hF
  refine test_ok hF rfl (fun hb hF => ?_) (fun hb hF => ?_)
  · skip
    have h1 : ¬ (0 ≤ o.client ∧ o.client ≤ 63) := by subst hB; simp only [std, stdCmp, stdScmp, BE.den, tolB, emptyB, Int.ofNat_eq_natCast, Int.toNat_natCast] at hb; clear hF hargs hm; grind
    refine wp_seq ?_
    apply region_okB hB T28_ok [2] [] [] hF
    case hex => intro A X; conv => lhs; cbv
    case hob =>
      intro X
      subst hB
      simp [AllOb, Ob.holds, BE.den, std, stdCmp, stdArith] <;> omega
    case hQ =>
    intro X2 a0 w1 hF
    refine wp_ret ?_
    refine ret_spec (fn := Tryd.f28) T28_ok hF (rs := [.tmp 2]) rfl (rfl) ?_ noAtom ?_
    · subst hB; simp [AllOb, Ob.holds]
    · subst hB
      refine congrArg (fun b => AV.bool (.v b)) ?_
      rw [Bool.eq_iff_iff]
      try simp only [std, stdCmp, stdScmp, BE.den, tolB, emptyB, Int.ofNat_eq_natCast, Int.toNat_natCast]
      try simp only [decide_eq_true_eq]
      unfold IsO
      have hz : ByteArray.empty.size = 0 := rfl
      clear hF hargs hm
      grind
  · skip
    have h1 : 0 ≤ o.client ∧ o.client ≤ 63 := by subst hB; simp only [std, stdCmp, stdScmp, BE.den, tolB, emptyB, Int.ofNat_eq_natCast, Int.toNat_natCast] at hb; clear hF hargs hm; grind
    refine wp_skip ?_
    refine wp_seq ?_
    refine wp_seq ?_
    apply region_okB hB T28_ok [1, 12] [1] [] hF
    case hex => intro A X; conv => lhs; cbv
    case hob =>
      intro X
      subst hB
      simp [AllOb, Ob.holds, BE.den, std, stdCmp, stdArith] <;> omega
    case hQ =>
    intro X3 a0 w1 hF
    refine wp_block ?_
    refine wp_seq ?_
    refine wp_block ?_
    refine wp_seq ?_
    refine wp_block ?_
    refine wp_seq ?_
    refine wp_block ?_
    refine wp_seq ?_
    refine wp_block ?_
    refine wp_seq ?_
    refine wp_seq ?_
    refine wp_seq ?_
    apply region_okB hB T28_ok [13, 1, 12] [1] [] hF
    case hex => intro A X; conv => lhs; cbv
    case hob =>
      intro X
      subst hB
      simp [AllOb, Ob.holds, BE.den, std, stdCmp, stdArith] <;> omega
    case hQ =>
    intro X4 a0 w1 hF
    refine test_ok hF rfl (fun hb hF => ?_) (fun hb hF => ?_)
    · skip
      have h2 : o.kind = 1 := by subst hB; simp only [std, stdCmp, stdScmp, BE.den, tolB, emptyB, Int.ofNat_eq_natCast, Int.toNat_natCast] at hb; clear hF hargs hm; grind
      refine wp_exit ?_
      refine wp_seq ?_
      apply region_okB hB T28_ok [23, 1] [1] [] hF
      case hex => intro A X; conv => lhs; cbv
      case hob =>
        intro X
        subst hB
        simp [AllOb, Ob.holds, BE.den, std, stdCmp, stdArith] <;> omega
      case hQ =>
      intro X8 a0 w1 hF
      refine test_ok hF rfl (fun hb hF => ?_) (fun hb hF => ?_)
      · skip
        have h6 : ¬ o.version = 0 := by subst hB; simp only [std, stdCmp, stdScmp, BE.den, tolB, emptyB, Int.ofNat_eq_natCast, Int.toNat_natCast] at hb; clear hF hargs hm; grind
        refine wp_seq ?_
        apply region_okB hB T28_ok [2] [] [] hF
        case hex => intro A X; conv => lhs; cbv
        case hob =>
          intro X
          subst hB
          simp [AllOb, Ob.holds, BE.den, std, stdCmp, stdArith] <;> omega
        case hQ =>
        intro X9 a0 w1 hF
        refine wp_ret ?_
        refine ret_spec (fn := Tryd.f28) T28_ok hF (rs := [.tmp 2]) rfl (rfl) ?_ noAtom ?_
        · subst hB; simp [AllOb, Ob.holds]
        · subst hB
          refine congrArg (fun b => AV.bool (.v b)) ?_
          rw [Bool.eq_iff_iff]
          try simp only [std, stdCmp, stdScmp, BE.den, tolB, emptyB, Int.ofNat_eq_natCast, Int.toNat_natCast]
          try simp only [decide_eq_true_eq]
          unfold IsO
          have hz : ByteArray.empty.size = 0 := rfl
          clear hF hargs hm
          grind
      · skip
        have h6 : o.version = 0 := by subst hB; simp only [std, stdCmp, stdScmp, BE.den, tolB, emptyB, Int.ofNat_eq_natCast, Int.toNat_natCast] at hb; clear hF hargs hm; grind
        refine wp_skip ?_
        refine wp_seq ?_
        refine wp_seq ?_
        apply region_okB hB T28_ok [2] [] [] hF
        case hex => intro A X; conv => lhs; cbv
        case hob =>
          intro X
          subst hB
          simp [AllOb, Ob.holds, BE.den, std, stdCmp, stdArith] <;> omega
        case hQ =>
        intro X10 a0 w1 hF
        refine wp_ret ?_
        refine ret_spec (fn := Tryd.f28) T28_ok hF (rs := [.tmp 2]) rfl (rfl) ?_ noAtom ?_
        · subst hB; simp [AllOb, Ob.holds]
        · subst hB
          refine congrArg (fun b => AV.bool (.v b)) ?_
          rw [Bool.eq_iff_iff]
          try simp only [std, stdCmp, stdScmp, BE.den, tolB, emptyB, Int.ofNat_eq_natCast, Int.toNat_natCast]
          try simp only [decide_eq_true_eq]
          unfold IsO
          have hz : ByteArray.empty.size = 0 := rfl
          clear hF hargs hm
          grind
    · skip
      have h2 : ¬ o.kind = 1 := by subst hB; simp only [std, stdCmp, stdScmp, BE.den, tolB, emptyB, Int.ofNat_eq_natCast, Int.toNat_natCast] at hb; clear hF hargs hm; grind
      refine wp_skip ?_
      refine wp_seq ?_
      refine wp_seq ?_
      apply region_okB hB T28_ok [15, 1, 12] [1] [] hF
      case hex => intro A X; conv => lhs; cbv
      case hob =>
        intro X
        subst hB
        simp [AllOb, Ob.holds, BE.den, std, stdCmp, stdArith] <;> omega
      case hQ =>
      intro X5 a0 w1 hF
      refine test_ok hF rfl (fun hb hF => ?_) (fun hb hF => ?_)
      · skip
        have h3 : o.kind = 4 := by subst hB; simp only [std, stdCmp, stdScmp, BE.den, tolB, emptyB, Int.ofNat_eq_natCast, Int.toNat_natCast] at hb; clear hF hargs hm; grind
        refine wp_exit ?_
        refine wp_seq ?_
        refine wp_seq ?_
        apply region_okB hB T28_ok [2] [] [] hF
        case hex => intro A X; conv => lhs; cbv
        case hob =>
          intro X
          subst hB
          simp [AllOb, Ob.holds, BE.den, std, stdCmp, stdArith] <;> omega
        case hQ =>
        intro X10 a0 w1 hF
        refine wp_ret ?_
        refine ret_spec (fn := Tryd.f28) T28_ok hF (rs := [.tmp 2]) rfl (rfl) ?_ noAtom ?_
        · subst hB; simp [AllOb, Ob.holds]
        · subst hB
          refine congrArg (fun b => AV.bool (.v b)) ?_
          rw [Bool.eq_iff_iff]
          try simp only [std, stdCmp, stdScmp, BE.den, tolB, emptyB, Int.ofNat_eq_natCast, Int.toNat_natCast]
          try simp only [decide_eq_true_eq]
          unfold IsO
          have hz : ByteArray.empty.size = 0 := rfl
          clear hF hargs hm
          grind
      · skip
        have h3 : ¬ o.kind = 4 := by subst hB; simp only [std, stdCmp, stdScmp, BE.den, tolB, emptyB, Int.ofNat_eq_natCast, Int.toNat_natCast] at hb; clear hF hargs hm; grind
        refine wp_skip ?_
        refine wp_seq ?_
        refine wp_seq ?_
        apply region_okB hB T28_ok [17, 1, 12] [1] [] hF
        case hex => intro A X; conv => lhs; cbv
        case hob =>
          intro X
          subst hB
          simp [AllOb, Ob.holds, BE.den, std, stdCmp, stdArith] <;> omega
        case hQ =>
        intro X6 a0 w1 hF
        refine test_ok hF rfl (fun hb hF => ?_) (fun hb hF => ?_)
        · skip
          have h4 : o.kind = 2 := by subst hB; simp only [std, stdCmp, stdScmp, BE.den, tolB, emptyB, Int.ofNat_eq_natCast, Int.toNat_natCast] at hb; clear hF hargs hm; grind
          refine wp_exit ?_
          refine wp_seq ?_
          apply region_okB hB T28_ok [29, 1] [1] [] hF
          case hex => intro A X; conv => lhs; cbv
          case hob =>
            intro X
            subst hB
            simp [AllOb, Ob.holds, BE.den, std, stdCmp, stdArith] <;> omega
          case hQ =>
          intro X11 a0 w1 hF
          refine test_ok hF rfl (fun hb hF => ?_) (fun hb hF => ?_)
          · skip
            have h7 : ¬ o.version = 0 := by subst hB; simp only [std, stdCmp, stdScmp, BE.den, tolB, emptyB, Int.ofNat_eq_natCast, Int.toNat_natCast] at hb; clear hF hargs hm; grind
            refine wp_seq ?_
            apply region_okB hB T28_ok [2] [] [] hF
            case hex => intro A X; conv => lhs; cbv
            case hob =>
              intro X
              subst hB
              simp [AllOb, Ob.holds, BE.den, std, stdCmp, stdArith] <;> omega
            case hQ =>
            intro X12 a0 w1 hF
            refine wp_ret ?_
            refine ret_spec (fn := Tryd.f28) T28_ok hF (rs := [.tmp 2]) rfl (rfl) ?_ noAtom ?_
            · subst hB; simp [AllOb, Ob.holds]
            · subst hB
              refine congrArg (fun b => AV.bool (.v b)) ?_
              rw [Bool.eq_iff_iff]
              try simp only [std, stdCmp, stdScmp, BE.den, tolB, emptyB, Int.ofNat_eq_natCast, Int.toNat_natCast]
              try simp only [decide_eq_true_eq]
              unfold IsO
              have hz : ByteArray.empty.size = 0 := rfl
              clear hF hargs hm
              grind
          · skip
            have h7 : o.version = 0 := by subst hB; simp only [std, stdCmp, stdScmp, BE.den, tolB, emptyB, Int.ofNat_eq_natCast, Int.toNat_natCast] at hb; clear hF hargs hm; grind
            refine wp_skip ?_
            refine wp_seq ?_
            refine wp_seq ?_
            apply region_okB hB T28_ok [2] [] [] hF
            case hex => intro A X; conv => lhs; cbv
            case hob =>
              intro X
              subst hB
              simp [AllOb, Ob.holds, BE.den, std, stdCmp, stdArith] <;> omega
            case hQ =>
            intro X13 a0 w1 hF
            refine wp_ret ?_
            refine ret_spec (fn := Tryd.f28) T28_ok hF (rs := [.tmp 2]) rfl (rfl) ?_ noAtom ?_
            · subst hB; simp [AllOb, Ob.holds]
            · subst hB
              refine congrArg (fun b => AV.bool (.v b)) ?_
              rw [Bool.eq_iff_iff]
              try simp only [std, stdCmp, stdScmp, BE.den, tolB, emptyB, Int.ofNat_eq_natCast, Int.toNat_natCast]
              try simp only [decide_eq_true_eq]
              unfold IsO
              have hz : ByteArray.empty.size = 0 := rfl
              clear hF hargs hm
              grind
        · skip
          have h4 : ¬ o.kind = 2 := by subst hB; simp only [std, stdCmp, stdScmp, BE.den, tolB, emptyB, Int.ofNat_eq_natCast, Int.toNat_natCast] at hb; clear hF hargs hm; grind
          refine wp_skip ?_
          refine wp_seq ?_
          apply region_okB hB T28_ok [19, 1] [1] [] hF
          case hex => intro A X; conv => lhs; cbv
          case hob =>
            intro X
            subst hB
            simp [AllOb, Ob.holds, BE.den, std, stdCmp, stdArith] <;> omega
          case hQ =>
          intro X7 a0 w1 hF
          refine test_ok hF rfl (fun hb hF => ?_) (fun hb hF => ?_)
          · skip
            have h5 : o.kind = 3 := by subst hB; simp only [std, stdCmp, stdScmp, BE.den, tolB, emptyB, Int.ofNat_eq_natCast, Int.toNat_natCast] at hb; clear hF hargs hm; grind
            refine wp_exit ?_
            refine wp_seq ?_
            refine wp_seq ?_
            apply region_okB hB T28_ok [2] [] [] hF
            case hex => intro A X; conv => lhs; cbv
            case hob =>
              intro X
              subst hB
              simp [AllOb, Ob.holds, BE.den, std, stdCmp, stdArith] <;> omega
            case hQ =>
            intro X13 a0 w1 hF
            refine wp_ret ?_
            refine ret_spec (fn := Tryd.f28) T28_ok hF (rs := [.tmp 2]) rfl (rfl) ?_ noAtom ?_
            · subst hB; simp [AllOb, Ob.holds]
            · subst hB
              refine congrArg (fun b => AV.bool (.v b)) ?_
              rw [Bool.eq_iff_iff]
              try simp only [std, stdCmp, stdScmp, BE.den, tolB, emptyB, Int.ofNat_eq_natCast, Int.toNat_natCast]
              try simp only [decide_eq_true_eq]
              unfold IsO
              have hz : ByteArray.empty.size = 0 := rfl
              clear hF hargs hm
              grind
          · skip
            have h5 : ¬ o.kind = 3 := by subst hB; simp only [std, stdCmp, stdScmp, BE.den, tolB, emptyB, Int.ofNat_eq_natCast, Int.toNat_natCast] at hb; clear hF hargs hm; grind
            refine wp_skip ?_
            refine wp_exit ?_
            refine wp_seq ?_
            apply region_okB hB T28_ok [2] [] [] hF
            case hex => intro A X; conv => lhs; cbv
            case hob =>
              intro X
              subst hB
              simp [AllOb, Ob.holds, BE.den, std, stdCmp, stdArith] <;> omega
            case hQ =>
            intro X14 a0 w1 hF
            refine wp_ret ?_
            refine ret_spec (fn := Tryd.f28) T28_ok hF (rs := [.tmp 2]) rfl (rfl) ?_ noAtom ?_
            · subst hB; simp [AllOb, Ob.holds]
            · subst hB
              refine congrArg (fun b => AV.bool (.v b)) ?_
              rw [Bool.eq_iff_iff]
              try simp only [std, stdCmp, stdScmp, BE.den, tolB, emptyB, Int.ofNat_eq_natCast, Int.toNat_natCast]
              try simp only [decide_eq_true_eq]
              unfold IsO
              have hz : ByteArray.empty.size = 0 := rfl
              clear hF hargs hm
              grind
def T32 : List (Nat × TI) := [(3, ti3), (4, ti4), (9, ti9), (22, ti22), (26, ti26)]
theorem T32_ok : TabOK Tryd.prog T32 := .cons t3 (.cons t4 (.cons t9 (.cons t22 (.cons t26 (.nil)))))
theorem enters32 : Enters Tryd.prog 32 := fun _ _ => by kernel_rfl
theorem risO_s (o : Opr) : Spec Tryd.prog 32 [opAV o] (fun _ => .bool (.v (decide (IsO o)))) := by
  intro m w hm hargs
  simp only [opAV, opC] at hargs
  refine enter hm hargs Tryd.func32 rfl (by simp [Tryd.ntmps32]) fun a0 hF => ?_
  simp only [Tryd.ntmps32, startT] at hF
  obtain ⟨B, hB⟩ : ∃ B, B = std := ⟨_, rfl⟩
  refine wp_seq ?_
  apply region_okB hB T32_ok [1] [1] [] hF
  case hex => intro A X; conv => lhs; cbv
  case hob =>
    intro X
    subst hB
    simp [AllOb, Ob.holds, BE.den, std, stdCmp, stdArith] <;> omega
  case hQ =>
  intro X0 a0 w1 hF
  refine wp_seq ?_
  refine wp_seq ?_
  apply region_okB hB T32_ok [27, 1] [1] [] hF
  case hex => intro A X; conv => lhs; cbv
  case hob =>
    intro X
    subst hB
    simp only [AllOb, Ob.holds, BE.den, List.mem_cons, List.not_mem_nil, or_false, forall_eq_or_imp, forall_eq] <;> (and_intros <;> first | trivial | (intro h; trivial) | exact ob_mark _ _ | (intro h; exact ob_mark _ _))
  case hQ =>
  intro X1 a0 w1 hF
  refine test_ok hF rfl (fun hb hF => ?_) (fun hb hF => ?_)
  · skip
    have h1 : ¬ (0 ≤ o.client ∧ o.client ≤ 63 ∧ 1 ≤ o.kind ∧ o.kind ≤ 4 ∧ o.val.size ≤ 2048) := by subst hB; simp only [std, stdCmp, stdScmp, BE.den, tolB, emptyB, Int.ofNat_eq_natCast, Int.toNat_natCast] at hb; clear hF hargs hm; grind
    refine wp_seq ?_
    apply region_okB hB T32_ok [2] [] [] hF
    case hex => intro A X; conv => lhs; cbv
    case hob =>
      intro X
      subst hB
      simp [AllOb, Ob.holds, BE.den, std, stdCmp, stdArith] <;> omega
    case hQ =>
    intro X2 a0 w1 hF
    refine wp_ret ?_
    refine ret_spec (fn := Tryd.f32) T32_ok hF (rs := [.tmp 2]) rfl (rfl) ?_ noAtom ?_
    · subst hB; simp [AllOb, Ob.holds]
    · subst hB
      refine congrArg (fun b => AV.bool (.v b)) ?_
      rw [Bool.eq_iff_iff]
      try simp only [std, stdCmp, stdScmp, BE.den, tolB, emptyB, Int.ofNat_eq_natCast, Int.toNat_natCast]
      try simp only [decide_eq_true_eq]
      unfold IsO
      have hz : ByteArray.empty.size = 0 := rfl
      clear hF hargs hm
      grind
  · skip
    have h1 : 0 ≤ o.client ∧ o.client ≤ 63 ∧ 1 ≤ o.kind ∧ o.kind ≤ 4 ∧ o.val.size ≤ 2048 := by subst hB; simp only [std, stdCmp, stdScmp, BE.den, tolB, emptyB, Int.ofNat_eq_natCast, Int.toNat_natCast] at hb; clear hF hargs hm; grind
    refine wp_skip ?_
    refine wp_seq ?_
    apply region_okB hB T32_ok [1, 3] [1] [] hF
    case hex => intro A X; conv => lhs; cbv
    case hob =>
      intro X
      subst hB
      simp [AllOb, Ob.holds, BE.den, std, stdCmp, stdArith] <;> omega
    case hQ =>
    intro X3 a0 w1 hF
    refine wp_seq ?_
    apply region_okB hB T32_ok [2] [] [] hF
    case hex => intro A X; conv => lhs; cbv
    case hob =>
      intro X
      subst hB
      simp only [AllOb, Ob.holds, BE.den, List.mem_cons, List.not_mem_nil, or_false, forall_eq_or_imp, forall_eq] <;> (and_intros <;> first | trivial | (intro h; trivial) | exact ob_mark _ _ | (intro h; exact ob_mark _ _))
    case hQ =>
    intro X4 a0 w1 hF
    refine wp_ret ?_
    refine ret_spec (fn := Tryd.f32) T32_ok hF (rs := [.tmp 2]) rfl (rfl) ?_ noAtom ?_
    · subst hB; simp [AllOb, Ob.holds]
    · subst hB
      refine congrArg (fun b => AV.bool (.v b)) ?_
      rw [Bool.eq_iff_iff]
      try simp only [std, stdCmp, stdScmp, BE.den, tolB, emptyB, Int.ofNat_eq_natCast, Int.toNat_natCast]
      try simp only [decide_eq_true_eq]
      unfold IsO
      have hz : ByteArray.empty.size = 0 := rfl
      clear hF hargs hm
      grind
end Go.Proofs.YtkamdppnnhjajaaDoor.Sym

namespace Go.Proofs.YtkamdppnnhjajaaDoor.Sym
open Go Go.RowKit
set_option maxRecDepth 100000
set_option maxHeartbeats 1600000
set_option linter.unusedVariables false
set_option linter.unusedSimpArgs false
def T31 : List (Nat × TI) := [(3, ti3), (4, ti4), (9, ti9), (27, ti27), (29, ti29), (30, ti30), (32, ti32), (62, ti62)]
theorem T31_ok : TabOK Tryd.prog T31 := .cons t3 (.cons t4 (.cons t9 (.cons t27 (.cons t29 (.cons t30 (.cons t32 (.cons t62 (.nil))))))))
theorem enters31 : Enters Tryd.prog 31 := fun _ _ => by kernel_rfl
theorem isC_s (A : Option Addr) (k : Nat) (c : Cel) (hs : c.marks.length ≤ 1000000000) : Spec Tryd.prog 31 [celAV A k c] (fun _ => .bool (.v (decide (IsC c)))) := by
  intro m w hm hargs
  have ho1 := hargs (celAV A k c) (by simp)
  have hm1 := ok_agg ho1 (marksAV A k c.marks) (by simp [celC])
  obtain ⟨hl1, hc1⟩ := ok_len hm1
  obtain ⟨n1, f1, ho1, hn1, hf1⟩ := marks_open c.marks
  have e1 : celAV A k c = .agg [.int .u64 c.version, .bool (.v c.has), .str c.val, rowM none A n1 k f1] := by simp only [celAV, celC, ho1]
  have S := val_s c.val c.has
  rw [e1] at hargs ⊢
  obtain ⟨p, hp⟩ : ∃ p, p = decide (valOk c.val c.has) := ⟨_, rfl⟩
  rw [← hp] at S
  refine enter hm hargs Tryd.func31 rfl (by simp [Tryd.ntmps31]) fun a0 hF => ?_
  simp only [Tryd.ntmps31, startT] at hF
  obtain ⟨B, hB⟩ : ∃ B, B = std := ⟨_, rfl⟩
  refine wp_seq ?_
  apply region_okB hB T31_ok [1] [1] [] hF
  case hex => intro A X; conv => lhs; cbv
  case hob =>
    intro X
    subst hB
    simp [AllOb, Ob.holds, BE.den, std, stdCmp, stdArith] <;> omega
  case hQ =>
  intro X0 a0 w1 hF
  refine wp_seq ?_
  apply region_okB hB T31_ok [1, 3] [1] [] hF
  case hex => intro A X; conv => lhs; cbv
  case hob =>
    intro X
    subst hB
    simp [AllOb, Ob.holds, BE.den, std, stdCmp, stdArith] <;> omega
  case hQ =>
  intro X1 a0 w1 hF
  refine wp_seq ?_
  refine wp_seq ?_
  apply region_okB hB T31_ok [3, 10, 1, 8, 9] [1] [] hF
  case hex => intro A X; conv => lhs; cbv
  case hob =>
    intro X
    subst hB
    simp [AllOb, Ob.holds, BE.den, std, stdCmp, stdArith] <;> omega
  case hQ =>
  intro X2 a0 w1 hF
  refine wp_block ?_
  refine loop_pre (ι := Nat × Int) (fun p => [(3, .int .i64 p.2), (10, .int .i64 (p.1 : Int))]) (fun p => []) (fun p => []) (fun p => p.1 ≤ n1 ∧ p.2 = lastC c.marks p.1 ∧ Good (c.marks.take p.1)) (fun p => n1 - p.1) (0, -1) ⟨Nat.zero_le _, (lastC_zero _).symm, good_zero _⟩ hF ?_
  rintro ⟨i, la⟩ ⟨hi, hla, hg⟩ a0 w1 hF
  try dsimp only at hi
  try dsimp only at hla
  try dsimp only at hg
  refine wp_seq ?_
  apply region_okB hB T31_ok [11, 1, 3, 8, 9, 10] [1] [] hF
  case hex => intro A X; conv => lhs; cbv
  case hob =>
    intro X
    subst hB
    simp [AllOb, Ob.holds, BE.den, std, stdCmp, stdArith] <;> omega
  case hQ =>
  intro X3 a0 w1 hF
  refine wp_seq ?_
  refine test_ok hF rfl (fun hb hF => ?_) (fun hb hF => ?_)
  · skip
    have hin : i < n1 := by
      have : (i : Int) < (n1 : Int) := by subst hB; simpa [std, stdCmp] using hb
      omega
    have hin2 : i < c.marks.length := by omega
    have hfi : c.marks[i] = f1 i := by rw [hf1]; simp [List.getD, hin2]
    have hgs := good_succ hin2 hg
    rw [hfi, ← hla] at hgs
    refine wp_skip ?_
    refine wp_seq ?_
    refine wp_block ?_
    refine wp_seq ?_
    apply region_okB hB T31_ok [1, 3, 5, 8, 9, 10] [1, 5] [] hF
    case hex => intro A X; conv => lhs; cbv
    case hob =>
      intro X
      subst hB; exact ⟨⟨show (0 : Int) ≤ (i : Int) by omega, show (i : Int) < (n1 : Int) by omega⟩, rfl, trivial⟩
    case hQ =>
    intro X4 a0 w1 hF
    refine wp_seq ?_
    apply region_okB hB T31_ok [1, 3, 5, 6, 8, 9, 10] [1, 5, 6] [] hF
    case hex => intro A X; conv => lhs; cbv
    case hob =>
      intro X
      subst hB
      simp [AllOb, Ob.holds, BE.den, std, stdCmp, stdArith] <;> omega
    case hQ =>
    intro X5 a0 w1 hF
    refine wp_seq ?_
    refine wp_seq ?_
    apply region_okB hB T31_ok [39, 1, 5, 8, 9, 10] [1, 5] [] hF
    case hex => intro A X; conv => lhs; cbv
    case hob =>
      intro X
      subst hB
      simp only [AllOb, Ob.holds, BE.den, List.mem_cons, List.not_mem_nil, or_false, forall_eq_or_imp, forall_eq] <;> (and_intros <;> first | trivial | (intro h; trivial) | exact ob_mark _ _ | (intro h; exact ob_mark _ _))
    case hQ =>
    intro X6 a0 w1 hF
    refine test_ok hF rfl (fun hb hF => ?_) (fun hb hF => ?_)
    · skip
      have hbad : ¬ Good (c.marks.take (i + 1)) := by
        intro h
        have h := hgs.1 h
        subst hB
        unfold ansOk at h
        simp only [std, stdCmp, stdScmp, BE.den, tolB, emptyB, Int.ofNat_eq_natCast, Int.toNat_natCast] at hb
        clear hF hargs hm
        grind
      have hno : ¬ IsC c := fun h => hbad (good_take (i + 1) h.1)
      refine wp_seq ?_
      apply region_okB hB T31_ok [2] [] [] hF
      case hex => intro A X; conv => lhs; cbv
      case hob =>
        intro X
        subst hB
        simp [AllOb, Ob.holds, BE.den, std, stdCmp, stdArith] <;> omega
      case hQ =>
      intro X7 a0 w1 hF
      refine wp_ret ?_
      refine ret_spec (fn := Tryd.f31) T31_ok hF (rs := [.tmp 2]) rfl (rfl) ?_ noAtom ?_
      · subst hB; simp [AllOb, Ob.holds]
      · subst hB
        refine congrArg (fun b => AV.bool (.v b)) ?_
        rw [decide_eq_false hno]
    · skip
      have hgd : Good (c.marks.take (i + 1)) := by
        refine hgs.2 ?_
        subst hB
        unfold ansOk
        simp only [std, stdCmp, stdScmp, BE.den, tolB, emptyB, Int.ofNat_eq_natCast, Int.toNat_natCast] at hb
        clear hF hargs hm
        grind
      refine wp_skip ?_
      apply region_okB hB T31_ok [1, 3, 8, 9, 10] [1] [] hF
      case hex => intro A X; conv => lhs; cbv
      case hob =>
        intro X
        subst hB
        simp [AllOb, Ob.holds, BE.den, std, stdCmp, stdArith] <;> omega
      case hQ =>
      intro X8 a0 w1 hF
      apply region_okB hB T31_ok [3, 10, 1, 8, 9] [1] [] hF
      case hex => intro A X; conv => lhs; cbv
      case hob =>
        intro X
        subst hB
        simp [AllOb, Ob.holds, BE.den, std, stdCmp, stdArith] <;> omega
      case hQ =>
      intro X9 a0 w1 hF
      have e : B.arith .add .i64 (i : Int) 1 = ((i + 1 : Nat) : Int) := by subst hB; exact wrap_succ (n := n1) hin (by omega)
      refine ⟨(i + 1, (f1 (B.toNat (i : Int))).client), ⟨by simp only; omega, ?_, hgd⟩, by simp only; omega, by rw [← e]; exact hF⟩
      subst hB
      show (f1 i).client = _
      rw [← hfi]; exact (lastC_succ hin2).symm
  · skip
    have hout : i = n1 := by
      have : ¬ (i : Int) < (n1 : Int) := by subst hB; simpa [std, stdCmp] using hb
      omega
    rw [hout, hn1, List.take_length] at hg
    refine wp_exit ?_
    refine wp_seq ?_
    apply region_okB hB T31_ok [2] [] [(4, .r fun _ => .bool (.v p))] hF
    case hex => intro A X; conv => lhs; cbv
    case hob =>
      intro X
      subst hB; exact ⟨rfl, rfl, ⟨enters64, S⟩, trivial⟩
    case hQ =>
    intro X10 a0 w1 hF
    refine wp_ret ?_
    refine ret_spec (fn := Tryd.f31) T31_ok hF (rs := [.tmp 2]) rfl (rfl) ?_ noAtom ?_
    · subst hB; simp [AllOb, Ob.holds]
    · subst hB
      refine congrArg (fun b => AV.bool (.v b)) ?_
      unfold IsC
      rw [hp]
      simp [hg]
def T35 : List (Nat × TI) := [(3, ti3), (4, ti4), (9, ti9), (29, ti29), (30, ti30), (32, ti32), (62, ti62)]
theorem T35_ok : TabOK Tryd.prog T35 := .cons t3 (.cons t4 (.cons t9 (.cons t29 (.cons t30 (.cons t32 (.cons t62 (.nil)))))))
theorem enters35 : Enters Tryd.prog 35 := fun _ _ => by kernel_rfl
theorem risC_s (A : Option Addr) (k : Nat) (c : Cel) (hs : c.marks.length ≤ 1000000000) : Spec Tryd.prog 35 [celAV A k c] (fun _ => .bool (.v (decide (IsC c)))) := by
  intro m w hm hargs
  have ho1 := hargs (celAV A k c) (by simp)
  have hm1 := ok_agg ho1 (marksAV A k c.marks) (by simp [celC])
  obtain ⟨hl1, hc1⟩ := ok_len hm1
  obtain ⟨n1, f1, ho1, hn1, hf1⟩ := marks_open c.marks
  have e1 : celAV A k c = .agg [.int .u64 c.version, .bool (.v c.has), .str c.val, rowM none A n1 k f1] := by simp only [celAV, celC, ho1]
  have S := rval_s c.val c.has
  rw [e1] at hargs ⊢
  obtain ⟨p, hp⟩ : ∃ p, p = decide (valOk c.val c.has) := ⟨_, rfl⟩
  rw [← hp] at S
  refine enter hm hargs Tryd.func35 rfl (by simp [Tryd.ntmps35]) fun a0 hF => ?_
  simp only [Tryd.ntmps35, startT] at hF
  obtain ⟨B, hB⟩ : ∃ B, B = std := ⟨_, rfl⟩
  refine wp_seq ?_
  apply region_okB hB T35_ok [1] [1] [] hF
  case hex => intro A X; conv => lhs; cbv
  case hob =>
    intro X
    subst hB
    simp [AllOb, Ob.holds, BE.den, std, stdCmp, stdArith] <;> omega
  case hQ =>
  intro X0 a0 w1 hF
  refine wp_seq ?_
  refine wp_seq ?_
  apply region_okB hB T35_ok [10, 1] [1] [(4, .r fun _ => .bool (.v p))] hF
  case hex => intro A X; conv => lhs; cbv
  case hob =>
    intro X
    subst hB; exact ⟨rfl, rfl, ⟨enters65, S⟩, trivial⟩
  case hQ =>
  intro X1 a0 w1 hF
  refine test_ok hF rfl (fun hb hF => ?_) (fun hb hF => ?_)
  · skip
    have hno : ¬ IsC c := by
      intro h
      have : p = true := by rw [hp]; exact decide_eq_true h.2
      subst hB; rw [this] at hb; cases hb
    refine wp_seq ?_
    apply region_okB hB T35_ok [2] [] [] hF
    case hex => intro A X; conv => lhs; cbv
    case hob =>
      intro X
      subst hB
      simp [AllOb, Ob.holds, BE.den, std, stdCmp, stdArith] <;> omega
    case hQ =>
    intro X2 a0 w1 hF
    refine wp_ret ?_
    refine ret_spec (fn := Tryd.f35) T35_ok hF (rs := [.tmp 2]) rfl (rfl) ?_ noAtom ?_
    · subst hB; simp [AllOb, Ob.holds]
    · subst hB
      refine congrArg (fun b => AV.bool (.v b)) ?_
      rw [decide_eq_false hno]
  · skip
    have hpt : valOk c.val c.has := by
      have : p = true := by cases p with
        | true => rfl
        | false => subst hB; cases hb
      rw [hp] at this; exact of_decide_eq_true this
    refine wp_skip ?_
    refine wp_seq ?_
    refine wp_seq ?_
    apply region_okB hB T35_ok [3, 1] [1] [] hF
    case hex => intro A X; conv => lhs; cbv
    case hob =>
      intro X
      subst hB
      simp [AllOb, Ob.holds, BE.den, std, stdCmp, stdArith] <;> omega
    case hQ =>
    intro X3 a0 w1 hF
    refine wp_block ?_
    refine loop_pre (ι := Nat) (fun p => [(3, .int .i64 (p : Int))]) (fun p => []) (fun p => []) (fun p => p ≤ n1 ∧ Good (c.marks.take p)) (fun p => n1 - p) 0 ⟨Nat.zero_le _, good_zero _⟩ hF ?_
    rintro i ⟨hi, hg⟩ a0 w1 hF
    try dsimp only at hi
    try dsimp only at hg
    refine wp_seq ?_
    refine wp_seq ?_
    apply region_okB hB T35_ok [15, 1, 3] [1] [] hF
    case hex => intro A X; conv => lhs; cbv
    case hob =>
      intro X
      subst hB
      simp [AllOb, Ob.holds, BE.den, std, stdCmp, stdArith] <;> omega
    case hQ =>
    intro X4 a0 w1 hF
    refine test_ok hF rfl (fun hb hF => ?_) (fun hb hF => ?_)
    · skip
      have hin : i < n1 := by
        have : (i : Int) < (n1 : Int) := by subst hB; simpa [std, stdCmp] using hb
        omega
      have hin2 : i < c.marks.length := by omega
      have hfi : c.marks[i] = f1 i := by rw [hf1]; simp [List.getD, hin2]
      have hgs := good_succ hin2 hg
      rw [hfi] at hgs
      have S2 := risA_s (f1 i).ans
      simp only [ansAV, ansC] at S2
      obtain ⟨q, hq⟩ : ∃ q, q = decide (ansOk (f1 i).ans) := ⟨_, rfl⟩
      rw [← hq] at S2
      have e5 : 0 < i → stdArith .sub .i64 (i : Int) 1 = ((i - 1 : Nat) : Int) := fun h => by
        show IntKind.i64.wrap ((i : Int) - 1) = _
        rw [wrap_in (by omega) (by omega)]; omega
      have hla : lastC c.marks i = if 0 < i then (f1 (i - 1)).client else -1 := by
        cases i with
        | zero => simp [lastC_zero]
        | succ j =>
          have hj : j < c.marks.length := by omega
          rw [lastC_succ hj, if_pos (by omega), hf1]
          simp [List.getD, hj]
      refine wp_skip ?_
      refine wp_seq ?_
      refine wp_block ?_
      refine wp_seq ?_
      apply region_okB hB T35_ok [1, 3, 4] [1, 4] [] hF
      case hex => intro A X; conv => lhs; cbv
      case hob =>
        intro X
        subst hB; exact ⟨rfl, ⟨show (0 : Int) ≤ (i : Int) by omega, show (i : Int) < (n1 : Int) by omega⟩, rfl, trivial⟩
      case hQ =>
      intro X6 a0 w1 hF
      refine wp_seq ?_
      apply drawn_okB hB (by kernel_rfl) T35_ok [52, 1, 3] [1] [(27, .r fun _ => .bool (.v q))] hF rfl
      case hex => intro A X; conv => lhs; cbv
      case hD => kernel_rfl
      case hlen => rfl
      case hob =>
        intro X
        subst hB
        simp only [AllOb, Ob.holds, BE.den, List.mem_cons, List.not_mem_nil, or_false, forall_eq_or_imp, forall_eq]
        and_intros <;> first | trivial | (intro h; trivial) | (intro h; exact ⟨enters66, S2⟩) | (intro h1; have h3 : (0 : Int) < (i : Int) := (by simp [std, stdCmp] at h1; omega); have e5 : IntKind.i64.wrap ((i : Int) - 1) = ((i - 1 : Nat) : Int) := (by rw [wrap_in (by omega) (by omega)]; omega); show (0 : Int) ≤ IntKind.i64.wrap ((i : Int) - 1) ∧ IntKind.i64.wrap ((i : Int) - 1) < (n1 : Int); rw [e5]; omega)
      case hQ =>
      intro X7 a0 w1 hF
      refine test_ok hF rfl (fun hb hF => ?_) (fun hb hF => ?_)
      · skip
        have hbad : ¬ Good (c.marks.take (i + 1)) := by
          intro h
          have h := hgs.1 h
          rw [hla] at h
          subst hB
          have hqt : q = true := by rw [hq]; exact decide_eq_true h.2.2
          obtain ⟨h1, h2, h3⟩ := h
          by_cases h0 : 0 < i
          · rw [hqt] at hb
            rw [if_pos h0] at h1
            simp only [std, stdCmp, stdScmp, BE.den, tolB, emptyB, Int.ofNat_eq_natCast, Int.toNat_natCast, e5 h0] at hb
            have g1 := lastC_ge hg
            rw [hla, if_pos h0] at g1
            clear hF hargs hm
            grind
          · rw [hqt] at hb
            rw [if_neg h0] at h1
            have h00 : i = 0 := by omega
            subst h00
            simp only [std, stdCmp, stdScmp, BE.den, tolB, emptyB, Int.ofNat_eq_natCast, Int.toNat_natCast] at hb
            clear hF hargs hm
            grind
        have hno : ¬ IsC c := fun h => hbad (good_take (i + 1) h.1)
        refine wp_seq ?_
        apply region_okB hB T35_ok [2] [] [] hF
        case hex => intro A X; conv => lhs; cbv
        case hob =>
          intro X
          subst hB
          simp [AllOb, Ob.holds, BE.den, std, stdCmp, stdArith] <;> omega
        case hQ =>
        intro X8 a0 w1 hF
        refine wp_ret ?_
        refine ret_spec (fn := Tryd.f35) T35_ok hF (rs := [.tmp 2]) rfl (rfl) ?_ noAtom ?_
        · subst hB; simp [AllOb, Ob.holds]
        · subst hB
          refine congrArg (fun b => AV.bool (.v b)) ?_
          rw [decide_eq_false hno]
      · skip
        have hgd : Good (c.marks.take (i + 1)) := by
          refine hgs.2 ?_
          rw [hla]
          subst hB
          by_cases h0 : 0 < i
          · rw [hq] at hb
            rw [if_pos h0]
            simp only [std, stdCmp, stdScmp, BE.den, tolB, emptyB, Int.ofNat_eq_natCast, Int.toNat_natCast, e5 h0] at hb
            clear hF hargs hm
            grind
          · rw [hq] at hb
            rw [if_neg h0]
            have h00 : i = 0 := by omega
            subst h00
            simp only [std, stdCmp, stdScmp, BE.den, tolB, emptyB, Int.ofNat_eq_natCast, Int.toNat_natCast] at hb
            clear hF hargs hm
            grind
        refine wp_skip ?_
        apply region_okB hB T35_ok [3, 1] [1] [] hF
        case hex => intro A X; conv => lhs; cbv
        case hob =>
          intro X
          subst hB
          simp [AllOb, Ob.holds, BE.den, std, stdCmp, stdArith] <;> omega
        case hQ =>
        intro X5 a0 w1 hF
        have e : B.arith .add .i64 (i : Int) 1 = ((i + 1 : Nat) : Int) := by subst hB; exact wrap_succ (n := n1) hin (by omega)
        exact ⟨i + 1, ⟨by omega, hgd⟩, by omega, by rw [← e]; exact hF⟩
    · skip
      have hout : i = n1 := by
        have : ¬ (i : Int) < (n1 : Int) := by subst hB; simpa [std, stdCmp] using hb
        omega
      rw [hout, hn1, List.take_length] at hg
      refine wp_exit ?_
      refine wp_seq ?_
      apply region_okB hB T35_ok [2] [] [] hF
      case hex => intro A X; conv => lhs; cbv
      case hob =>
        intro X
        subst hB
        simp [AllOb, Ob.holds, BE.den, std, stdCmp, stdArith] <;> omega
      case hQ =>
      intro X9 a0 w1 hF
      refine wp_ret ?_
      refine ret_spec (fn := Tryd.f35) T35_ok hF (rs := [.tmp 2]) rfl (rfl) ?_ noAtom ?_
      · subst hB; simp [AllOb, Ob.holds]
      · subst hB
        refine congrArg (fun b => AV.bool (.v b)) ?_
        unfold IsC
        simp [hg, hpt]
end Go.Proofs.YtkamdppnnhjajaaDoor.Sym

namespace Go.Proofs.YtkamdppnnhjajaaDoor.Sym
open Go Go.RowKit
set_option maxRecDepth 100000
set_option maxHeartbeats 1600000
set_option linter.unusedVariables false
set_option linter.unusedSimpArgs false
theorem ite_and (a b : Bool) : (if a = true then b else false) = (a && b) := by cases a <;> rfl
theorem ob_ans0 (x : Ans) : Ob.holds Tryd.prog (.eql 29 (ansC x) [.int .i64 0, .int .u64 0, .bool .ff, .str ⟨#[]⟩]) := ob_eql ans_shape (by decide) ans_guard ans_agg (fits_ans x) ⟨rfl, rfl, trivial, trivial, trivial⟩
def T29 : List (Nat × TI) := [(3, ti3), (4, ti4), (9, ti9), (22, ti22), (30, ti30), (32, ti32)]
theorem T29_ok : TabOK Tryd.prog T29 := .cons t3 (.cons t4 (.cons t9 (.cons t22 (.cons t30 (.cons t32 (.nil))))))
theorem enters29 : Enters Tryd.prog 29 := fun _ _ => by kernel_rfl
theorem bare_s (A : Option Addr) (k : Nat) (c : Cel) : Spec Tryd.prog 29 [celAV A k c] (fun _ => .bool (.v (bareC c))) := by
  intro m w hm hargs
  have ho1 := hargs (celAV A k c) (by simp)
  have hm1 := ok_agg ho1 (marksAV A k c.marks) (by simp [celC])
  obtain ⟨hl1, hc1⟩ := ok_len hm1
  obtain ⟨n1, f1, ho1, hn1, hf1⟩ := marks_open c.marks
  have e1 : celAV A k c = .agg [.int .u64 c.version, .bool (.v c.has), .str c.val, rowM none A n1 k f1] := by simp only [celAV, celC, ho1]
  rw [e1] at hargs ⊢
  have hb0 : bareC c = (decide (c.version = 0) && (decide (c.has = false) && (decide (c.val = ByteArray.empty) && decide (n1 = 0)))) := by
    unfold bareC; rw [sameC]; show (_ && (_ && (_ && decide (c.marks = [])))) = _
    rw [show decide (c.marks = []) = decide (n1 = 0) from by rw [hn1, Bool.eq_iff_iff]; simp]; rfl
  refine enter hm hargs Tryd.func29 rfl (by simp [Tryd.ntmps29]) fun a0 hF => ?_
  simp only [Tryd.ntmps29, startT] at hF
  obtain ⟨B, hB⟩ : ∃ B, B = std := ⟨_, rfl⟩
  refine wp_seq ?_
  apply region_okB hB T29_ok [1] [1] [] hF
  case hex => intro A X; conv => lhs; cbv
  case hob =>
    intro X
    subst hB
    simp [AllOb, Ob.holds, BE.den, std, stdCmp, stdArith] <;> omega
  case hQ =>
  intro X0 a0 w1 hF
  refine wp_seq ?_
  apply region_okB hB T29_ok [2] [] [] hF
  case hex => intro A X; conv => lhs; cbv
  case hob =>
    intro X
    subst hB
    simp only [AllOb, Ob.holds, BE.den, List.mem_cons, List.not_mem_nil, or_false, forall_eq_or_imp, forall_eq] <;> (and_intros <;> first | trivial | (intro h; trivial) | exact ob_mark _ _ | (intro h; exact ob_mark _ _))
  case hQ =>
  intro X1 a0 w1 hF
  refine wp_ret ?_
  refine ret_spec (fn := Tryd.f29) T29_ok hF (rs := [.tmp 2]) rfl (rfl) ?_ noAtom ?_
  · subst hB; simp [AllOb, Ob.holds]
  · subst hB
    refine congrArg (fun b => AV.bool (.v b)) ?_
    rw [hb0]
    rw [Bool.eq_iff_iff]
    try simp only [std, stdCmp, stdScmp, BE.den, tolB, emptyB, Int.ofNat_eq_natCast, Int.toNat_natCast]
    try simp only [decide_eq_true_eq]
    clear hF hargs hm
    grind
def T30 : List (Nat × TI) := [(3, ti3), (4, ti4), (9, ti9), (27, ti27), (29, ti29), (77, ti77)]
theorem T30_ok : TabOK Tryd.prog T30 := .cons t3 (.cons t4 (.cons t9 (.cons t27 (.cons t29 (.cons t77 (.nil))))))
theorem enters30 : Enters Tryd.prog 30 := fun _ _ => by kernel_rfl
theorem isAns_s (a : Ans) : Spec Tryd.prog 30 [ansAV a] (fun _ => .bool (.v (decide (isAns a)))) := by
  intro m w hm hargs
  have S1 := fun A k => codes_s A k [7, 9] (by decide)
  have S2 := fun A k => contains_s A k ([0, 8] ++ [7, 9]) (by decide) a.code
  obtain ⟨q, hq⟩ : ∃ q, q = decide (a.code ∈ ([0, 8] ++ [7, 9] : List Int)) := ⟨_, rfl⟩
  obtain ⟨ge, hge⟩ : ∃ ge : Nat → Int, ge = fun i => ([0, 8] ++ [7, 9] : List Int).getD i 0 := ⟨_, rfl⟩
  have er : ∀ A k, rowE A k ([0, 8] ++ [7, 9]) = .sl none A 4 k 1 (fun i => [.int .i64 (ge i)]) := fun A k => by rw [hge]; rfl
  simp only [er] at S1 S2
  rw [← hq] at S2
  simp only [ansAV, ansC] at hargs
  refine enter hm hargs Tryd.func30 rfl (by simp [Tryd.ntmps30]) fun a0 hF => ?_
  simp only [Tryd.ntmps30, startT] at hF
  obtain ⟨B, hB⟩ : ∃ B, B = std := ⟨_, rfl⟩
  refine wp_seq ?_
  apply region_okB hB T30_ok [1] [1] [] hF
  case hex => intro A X; conv => lhs; cbv
  case hob =>
    intro X
    subst hB
    simp [AllOb, Ob.holds, BE.den, std, stdCmp, stdArith] <;> omega
  case hQ =>
  intro X0 a0 w1 hF
  refine wp_seq ?_
  apply drawn_okB hB (by kernel_rfl) T30_ok [2] [] [(1, .r fun x => .sl none (x.A 0) 4 (x.c 0) 1 (fun i => [.int .i64 (ge i)])), (4, .r fun _ => .bool (.v q))] hF rfl
  case hex => intro A X; conv => lhs; cbv
  case hD => kernel_rfl
  case hlen => rfl
  case hob =>
    intro X
    subst hB
    simp only [AllOb, Ob.holds, BE.den, List.mem_cons, List.not_mem_nil, or_false, forall_eq_or_imp, forall_eq] <;> (and_intros <;> first | trivial | (intro h; trivial) | exact enters43 | exact (S1 _ _).re ⟨Sim.recell fun i hi => (by match i, hi with | 0, _ => rfl | 1, _ => rfl), trivial⟩ | exact ⟨enters43, (S1 _ _).re ⟨Sim.recell fun i hi => (by match i, hi with | 0, _ => rfl | 1, _ => rfl), trivial⟩⟩ | (intro h; exact ⟨enters43, (S1 _ _).re ⟨Sim.recell fun i hi => (by match i, hi with | 0, _ => rfl | 1, _ => rfl), trivial⟩⟩) | exact enters63 | exact S2 _ _ | exact ⟨enters63, S2 _ _⟩ | (intro h; exact ⟨enters63, S2 _ _⟩))
  case hQ =>
  intro X1 a0 w1 hF
  refine wp_ret ?_
  refine ret_spec (fn := Tryd.f30) T30_ok hF (rs := [.tmp 2]) rfl (rfl) ?_ noAtom ?_
  · subst hB; simp [AllOb, Ob.holds]
  · subst hB
    refine congrArg (fun b => AV.bool (.v b)) ?_
    have hq2 : q = true ↔ (a.code = 0 ∨ a.code = 7 ∨ a.code = 8 ∨ a.code = 9) := by rw [hq]; simp; omega
    unfold isAns valOk
    rw [Bool.eq_iff_iff]
    try simp only [std, stdCmp, stdScmp, BE.den, tolB, emptyB, Int.ofNat_eq_natCast, Int.toNat_natCast]
    try simp only [decide_eq_true_eq]
    clear hF hargs hm S1 S2 er hq
    grind
def T12 : List (Nat × TI) := [(3, ti3), (4, ti4), (22, ti22), (24, ti24), (26, ti26), (29, ti29), (32, ti32), (34, ti34)]
theorem T12_ok : TabOK Tryd.prog T12 := .cons t3 (.cons t4 (.cons t22 (.cons t24 (.cons t26 (.cons t29 (.cons t32 (.cons t34 (.nil))))))))
theorem enters12 : Enters Tryd.prog 12 := fun _ _ => by kernel_rfl
theorem isP_s (A : Option Addr) (k : Nat) (p : Par) (hk : p.key.length = 20) (hs : p.cell.marks.length ≤ 1000000000) : Spec Tryd.prog 12 [parAV A k p] (fun _ => .bool (.v (isP p))) := by
  intro m w hm hargs
  have hm1 := ok_agg (hargs (parAV A k p) (by simp)) (marksAV A k p.cell.marks) (by simp [parC])
  obtain ⟨hl1, hc1⟩ := ok_len hm1
  obtain ⟨n1, f1, ho1, hn1, hf1⟩ := marks_open p.cell.marks
  obtain ⟨K1, hK1⟩ : ∃ K, K = kI p.key := ⟨_, rfl⟩
  have e1 : parAV A k p = .agg (parC K1 (rowM none A n1 k f1) p) := by simp only [parAV, ho1, hK1]
  have ec1 : celAV A k p.cell = .agg [.int .u64 p.cell.version, .bool (.v p.cell.has), .str p.cell.val, rowM none A n1 k f1] := by simp only [celAV, celC, ho1]
  have S1 := isO_s p.op
  have S2 := bare_s A k p.cell
  have S3 := isC_s A k p.cell hs
  have S4 := isAns_s p.ans
  rw [ec1] at S2 S3
  simp only [opAV, opC] at S1
  simp only [ansAV, ansC] at S4
  obtain ⟨q1, hq1⟩ : ∃ q, q = decide (IsO p.op) := ⟨_, rfl⟩
  obtain ⟨q2, hq2⟩ : ∃ q, q = bareC p.cell := ⟨_, rfl⟩
  obtain ⟨q3, hq3⟩ : ∃ q, q = decide (IsC p.cell) := ⟨_, rfl⟩
  obtain ⟨q4, hq4⟩ : ∃ q, q = decide (isAns p.ans) := ⟨_, rfl⟩
  rw [← hq1] at S1
  rw [← hq2] at S2
  rw [← hq3] at S3
  rw [← hq4] at S4
  have hkey := eqL_key0 hk
  rw [← hK1] at hkey
  rw [e1] at hargs ⊢
  refine enter hm hargs Tryd.func12 rfl (by simp [Tryd.ntmps12]) fun a0 hF => ?_
  simp only [Tryd.ntmps12, startT] at hF
  obtain ⟨B, hB⟩ : ∃ B, B = std := ⟨_, rfl⟩
  refine wp_seq ?_
  apply region_okB hB T12_ok [1] [1] [] hF
  case hex => intro A X; conv => lhs; cbv
  case hob =>
    intro X
    subst hB
    simp [AllOb, Ob.holds, BE.den, std, stdCmp, stdArith] <;> omega
  case hQ =>
  intro X0 a0 w1 hF
  refine wp_seq ?_
  apply region_okB hB T12_ok [1, 3] [1, 3] [] hF
  case hex => intro A X; conv => lhs; cbv
  case hob =>
    intro X
    subst hB
    simp [AllOb, Ob.holds, BE.den, std, stdCmp, stdArith] <;> omega
  case hQ =>
  intro X1 a0 w1 hF
  refine wp_seq ?_
  apply drawn_okB hB (by kernel_rfl) T12_ok [1, 3, 4, 5, 6] [1, 3] [] hF rfl
  case hex => intro A X; conv => lhs; cbv
  case hD => kernel_rfl
  case hlen => rfl
  case hob =>
    intro X
    subst hB; exact ⟨rfl, ob_key K1 (fun _ => 0), rfl, ob_op p.op zeroOp, rfl, ob_ans0 p.ans, trivial⟩
  case hQ =>
  intro X2 a0 w1 hF
  refine wp_seq ?_
  refine wp_seq ?_
  apply region_okB hB T12_ok [1, 3, 4, 5, 6, 27] [1, 3] [] hF
  case hex => intro A X; conv => lhs; cbv
  case hob =>
    intro X
    subst hB
    simp [AllOb, Ob.holds, BE.den, std, stdCmp, stdArith] <;> omega
  case hQ =>
  intro X3 a0 w1 hF
  refine wp_block ?_
  refine wp_seq ?_
  apply region_okB hB T12_ok [28, 1, 3, 4, 5, 6, 27] [1, 3] [] hF
  case hex => intro A X; conv => lhs; cbv
  case hob =>
    intro X
    subst hB
    simp [AllOb, Ob.holds, BE.den, std, stdCmp, stdArith] <;> omega
  case hQ =>
  intro X4 a0 w1 hF
  refine test_ok hF rfl (fun hb hF => ?_) (fun hb hF => ?_)
  · skip
    have hk1 : p.kind = 1 := by subst hB; simp only [std, stdCmp, stdScmp, BE.den, tolB, emptyB, Int.ofNat_eq_natCast, Int.toNat_natCast] at hb; clear hF hargs hm; grind
    refine wp_seq ?_
    apply region_okB hB T12_ok [2] [] [(2, .r fun _ => .bool (.v q1)), (14, .r fun _ => .bool (.v q2))] hF
    case hex => intro A X; conv => lhs; cbv
    case hob =>
      intro X
      subst hB
      simp only [AllOb, Ob.holds, BE.den, List.mem_cons, List.not_mem_nil, or_false, forall_eq_or_imp, forall_eq] <;> (and_intros <;> first | trivial | (intro h; trivial) | exact enters28 | exact S1 | exact ⟨enters28, S1⟩ | (intro h; exact ⟨enters28, S1⟩) | exact enters29 | exact S2 | exact ⟨enters29, S2⟩ | (intro h; exact ⟨enters29, S2⟩) | exact enters31 | exact S3 | exact ⟨enters31, S3⟩ | (intro h; exact ⟨enters31, S3⟩) | exact enters30 | exact S4 | exact ⟨enters30, S4⟩ | (intro h; exact ⟨enters30, S4⟩) | exact ob_op p.op ⟨p.op.client, p.op.req, 0, 0, ByteArray.empty⟩ | (intro h; exact ob_op p.op ⟨p.op.client, p.op.req, 0, 0, ByteArray.empty⟩))
    case hQ =>
    intro X5 a0 w1 hF
    refine wp_ret ?_
    refine ret_spec (fn := Tryd.f12) T12_ok hF (rs := [.tmp 2]) rfl (rfl) ?_ noAtom ?_
    · subst hB; simp [AllOb, Ob.holds]
    · subst hB
      refine congrArg (fun b => AV.bool (.v b)) ?_
      show (if (if (if q1 = true then eqL (ansC p.ans) (ansC zeroAns) else false) = true then (p.serial == 0) else false) = true then q2 else false) = _
      simp only [hkey, eqL_op, eqL_ans, ite_and]
      unfold isP
      rw [← hq1, ← hq2, ← hq3, ← hq4]
      simp only [hk1, if_true, if_false, ite_true, ite_false]
      try grind
  · skip
    have hk1 : ¬ p.kind = 1 := by subst hB; simp only [std, stdCmp, stdScmp, BE.den, tolB, emptyB, Int.ofNat_eq_natCast, Int.toNat_natCast] at hb; clear hF hargs hm; grind
    refine wp_seq ?_
    apply region_okB hB T12_ok [46, 1, 3, 4, 5, 6, 27] [1, 3] [] hF
    case hex => intro A X; conv => lhs; cbv
    case hob =>
      intro X
      subst hB
      simp [AllOb, Ob.holds, BE.den, std, stdCmp, stdArith] <;> omega
    case hQ =>
    intro X6 a0 w1 hF
    refine test_ok hF rfl (fun hb hF => ?_) (fun hb hF => ?_)
    · skip
      have hk2 : p.kind = 2 := by subst hB; simp only [std, stdCmp, stdScmp, BE.den, tolB, emptyB, Int.ofNat_eq_natCast, Int.toNat_natCast] at hb; clear hF hargs hm; grind
      refine wp_seq ?_
      apply region_okB hB T12_ok [2] [] [(20, .r fun _ => .bool (.v q4)), (30, .r fun _ => .bool (.v q2))] hF
      case hex => intro A X; conv => lhs; cbv
      case hob =>
        intro X
        subst hB
        simp only [AllOb, Ob.holds, BE.den, List.mem_cons, List.not_mem_nil, or_false, forall_eq_or_imp, forall_eq] <;> (and_intros <;> first | trivial | (intro h; trivial) | exact enters28 | exact S1 | exact ⟨enters28, S1⟩ | (intro h; exact ⟨enters28, S1⟩) | exact enters29 | exact S2 | exact ⟨enters29, S2⟩ | (intro h; exact ⟨enters29, S2⟩) | exact enters31 | exact S3 | exact ⟨enters31, S3⟩ | (intro h; exact ⟨enters31, S3⟩) | exact enters30 | exact S4 | exact ⟨enters30, S4⟩ | (intro h; exact ⟨enters30, S4⟩) | exact ob_op p.op ⟨p.op.client, p.op.req, 0, 0, ByteArray.empty⟩ | (intro h; exact ob_op p.op ⟨p.op.client, p.op.req, 0, 0, ByteArray.empty⟩))
      case hQ =>
      intro X7 a0 w1 hF
      refine wp_ret ?_
      refine ret_spec (fn := Tryd.f12) T12_ok hF (rs := [.tmp 2]) rfl (rfl) ?_ noAtom ?_
      · subst hB; simp [AllOb, Ob.holds]
      · subst hB
        refine congrArg (fun b => AV.bool (.v b)) ?_
        show (if (if (if (if (if (if eqL (keyC K1) (keyC fun _ => 0) = true then eqL (opC p.op) (opC ⟨p.op.client, p.op.req, 0, 0, ByteArray.empty⟩) else false) = true then decide (p.op.client ≥ 0) else false) = true then decide (p.op.client ≤ 63) else false) = true then q4 else false) = true then (p.serial == 0) else false) = true then q2 else false) = _
        simp only [hkey, eqL_op, eqL_ans, ite_and]
        unfold isP
        rw [← hq1, ← hq2, ← hq3, ← hq4]
        simp only [hk1, hk2, if_true, if_false, ite_true, ite_false]
        try grind
    · skip
      have hk2 : ¬ p.kind = 2 := by subst hB; simp only [std, stdCmp, stdScmp, BE.den, tolB, emptyB, Int.ofNat_eq_natCast, Int.toNat_natCast] at hb; clear hF hargs hm; grind
      refine wp_seq ?_
      apply region_okB hB T12_ok [80, 1, 4, 5, 6, 27] [1] [] hF
      case hex => intro A X; conv => lhs; cbv
      case hob =>
        intro X
        subst hB
        simp [AllOb, Ob.holds, BE.den, std, stdCmp, stdArith] <;> omega
      case hQ =>
      intro X8 a0 w1 hF
      refine test_ok hF rfl (fun hb hF => ?_) (fun hb hF => ?_)
      · skip
        have hk3 : p.kind = 3 := by subst hB; simp only [std, stdCmp, stdScmp, BE.den, tolB, emptyB, Int.ofNat_eq_natCast, Int.toNat_natCast] at hb; clear hF hargs hm; grind
        refine wp_seq ?_
        apply region_okB hB T12_ok [2] [] [(7, .r fun _ => .bool (.v q3))] hF
        case hex => intro A X; conv => lhs; cbv
        case hob =>
          intro X
          subst hB
          simp only [AllOb, Ob.holds, BE.den, List.mem_cons, List.not_mem_nil, or_false, forall_eq_or_imp, forall_eq] <;> (and_intros <;> first | trivial | (intro h; trivial) | exact enters28 | exact S1 | exact ⟨enters28, S1⟩ | (intro h; exact ⟨enters28, S1⟩) | exact enters29 | exact S2 | exact ⟨enters29, S2⟩ | (intro h; exact ⟨enters29, S2⟩) | exact enters31 | exact S3 | exact ⟨enters31, S3⟩ | (intro h; exact ⟨enters31, S3⟩) | exact enters30 | exact S4 | exact ⟨enters30, S4⟩ | (intro h; exact ⟨enters30, S4⟩) | exact ob_op p.op ⟨p.op.client, p.op.req, 0, 0, ByteArray.empty⟩ | (intro h; exact ob_op p.op ⟨p.op.client, p.op.req, 0, 0, ByteArray.empty⟩))
        case hQ =>
        intro X9 a0 w1 hF
        refine wp_ret ?_
        refine ret_spec (fn := Tryd.f12) T12_ok hF (rs := [.tmp 2]) rfl (rfl) ?_ noAtom ?_
        · subst hB; simp [AllOb, Ob.holds]
        · subst hB
          refine congrArg (fun b => AV.bool (.v b)) ?_
          show (if (if eqL (opC p.op) (opC zeroOp) = true then eqL (ansC p.ans) (ansC zeroAns) else false) = true then q3 else false) = _
          simp only [hkey, eqL_op, eqL_ans, ite_and]
          unfold isP
          rw [← hq1, ← hq2, ← hq3, ← hq4]
          simp only [hk1, hk2, hk3, if_true, if_false, ite_true, ite_false]
          try grind
      · skip
        have hk3 : ¬ p.kind = 3 := by subst hB; simp only [std, stdCmp, stdScmp, BE.den, tolB, emptyB, Int.ofNat_eq_natCast, Int.toNat_natCast] at hb; clear hF hargs hm; grind
        refine wp_seq ?_
        apply region_okB hB T12_ok [91, 1, 4, 5, 6] [1] [] hF
        case hex => intro A X; conv => lhs; cbv
        case hob =>
          intro X
          subst hB
          simp [AllOb, Ob.holds, BE.den, std, stdCmp, stdArith] <;> omega
        case hQ =>
        intro X10 a0 w1 hF
        refine test_ok hF rfl (fun hb hF => ?_) (fun hb hF => ?_)
        · skip
          have hk4 : p.kind = 4 := by subst hB; simp only [std, stdCmp, stdScmp, BE.den, tolB, emptyB, Int.ofNat_eq_natCast, Int.toNat_natCast] at hb; clear hF hargs hm; grind
          refine wp_seq ?_
          apply region_okB hB T12_ok [2] [] [(10, .r fun _ => .bool (.v q2))] hF
          case hex => intro A X; conv => lhs; cbv
          case hob =>
            intro X
            subst hB
            simp only [AllOb, Ob.holds, BE.den, List.mem_cons, List.not_mem_nil, or_false, forall_eq_or_imp, forall_eq] <;> (and_intros <;> first | trivial | (intro h; trivial) | exact enters28 | exact S1 | exact ⟨enters28, S1⟩ | (intro h; exact ⟨enters28, S1⟩) | exact enters29 | exact S2 | exact ⟨enters29, S2⟩ | (intro h; exact ⟨enters29, S2⟩) | exact enters31 | exact S3 | exact ⟨enters31, S3⟩ | (intro h; exact ⟨enters31, S3⟩) | exact enters30 | exact S4 | exact ⟨enters30, S4⟩ | (intro h; exact ⟨enters30, S4⟩) | exact ob_op p.op ⟨p.op.client, p.op.req, 0, 0, ByteArray.empty⟩ | (intro h; exact ob_op p.op ⟨p.op.client, p.op.req, 0, 0, ByteArray.empty⟩))
          case hQ =>
          intro X11 a0 w1 hF
          refine wp_ret ?_
          refine ret_spec (fn := Tryd.f12) T12_ok hF (rs := [.tmp 2]) rfl (rfl) ?_ noAtom ?_
          · subst hB; simp [AllOb, Ob.holds]
          · subst hB
            refine congrArg (fun b => AV.bool (.v b)) ?_
            show (if (if (if eqL (keyC K1) (keyC fun _ => 0) = true then eqL (opC p.op) (opC zeroOp) else false) = true then eqL (ansC p.ans) (ansC zeroAns) else false) = true then q2 else false) = _
            simp only [hkey, eqL_op, eqL_ans, ite_and]
            unfold isP
            rw [← hq1, ← hq2, ← hq3, ← hq4]
            simp only [hk1, hk2, hk3, hk4, if_true, if_false, ite_true, ite_false]
            try grind
        · skip
          have hk4 : ¬ p.kind = 4 := by subst hB; simp only [std, stdCmp, stdScmp, BE.den, tolB, emptyB, Int.ofNat_eq_natCast, Int.toNat_natCast] at hb; clear hF hargs hm; grind
          refine wp_skip ?_
          refine wp_seq ?_
          apply region_okB hB T12_ok [2] [] [] hF
          case hex => intro A X; conv => lhs; cbv
          case hob =>
            intro X
            subst hB
            simp [AllOb, Ob.holds, BE.den, std, stdCmp, stdArith] <;> omega
          case hQ =>
          intro X12 a0 w1 hF
          refine wp_ret ?_
          refine ret_spec (fn := Tryd.f12) T12_ok hF (rs := [.tmp 2]) rfl (rfl) ?_ noAtom ?_
          · subst hB; simp [AllOb, Ob.holds]
          · subst hB
            refine congrArg (fun b => AV.bool (.v b)) ?_
            unfold isP
            simp only [hk1, hk2, hk3, hk4, if_false]
end Go.Proofs.YtkamdppnnhjajaaDoor.Sym
