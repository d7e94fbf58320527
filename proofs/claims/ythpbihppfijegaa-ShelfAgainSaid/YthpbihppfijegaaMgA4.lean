/-
  SymShQ, SymShD, SortGen, CmpRow, LaySort, SortRow, SymRow0, SymShR, SymRSh, SymRSh3, SymLw0, SymLwA, SymLwB, SymLwN, SymLwC: put together by a program of mine (a claim may have 60 files at most). Conditions: none.
-/
import Derived.Shelf.SlSortCmp.WholeK
import Derived.Shelf.SlSortCmp.NoneTotal
import Derived.Deep.RegionHeld3
import Derived.Ground.SlsfProg
import Derived.Shelf.SlGeneric
import Derived.Test.YthpbihppfijegaaProg
import Derived.Test.YthpbihppfijegaaMgA1
import Derived.Test.YthpbihppfijegaaMgA2
import Derived.Test.YthpbihppfijegaaMgA3
namespace Go.Proofs.Ythpbihppfijegaa.Sym
open Go Go.RowKit
set_option maxRecDepth 100000
set_option maxHeartbeats 1600000
set_option linter.unusedVariables false
set_option linter.unusedSimpArgs false
def T32 : List (Nat × TI) := [(3, ti3), (4, ti4), (27, ti27), (33, ti33), (36, ti36), (40, ti40), (46, ti46), (66, ti66), (68, ti68), (70, ti70)]
theorem T32_ok : TabOK Try.prog T32 := .cons t3 (.cons t4 (.cons t27 (.cons t33 (.cons t36 (.cons t40 (.cons t46 (.cons t66 (.cons t68 (.cons t70 (.nil))))))))))
theorem enters32 : Enters Try.prog 32 := fun _ _ => by kernel_rfl
theorem chg_tt0 (b bM : Nat) (L : Shf) (hL : L.length ≤ 100000) (k : Int) (q : WntA) (hl : LabOk q.lab) (x z : SpA) : SpecM Try.prog 32 [.ptr 0 b 0, wntV q, .agg (elC x), .agg (elC z), .bool .tt] [(0, ⟨b, 68, [.raw (.map (some bM)), .int .i64 k]⟩)] (some bM) (shK bM L) (fun y => ⟨.tup [gotV (gotA y (chgL L q.lab q.ver x.w.ver true ⟨z.w.ver, z.has, z.w.x.r.abs⟩).got), .int .i64 (chgL L q.lab q.ver x.w.ver true ⟨z.w.ver, z.has, z.w.x.r.abs⟩).err], [(0, [.raw (.map (some bM)), .int .i64 (if (chgL L q.lab q.ver x.w.ver true ⟨z.w.ver, z.has, z.w.x.r.abs⟩).wrote then IntKind.i64.wrap (k + 1) else k)])], []⟩) (fun _ _ => shK bM (chgL L q.lab q.ver x.w.ver true ⟨z.w.ver, z.has, z.w.x.r.abs⟩).L) := by
  intro m w hm hargs hpre hI
  have hmx : maxLen = 9223372036854775807 := rfl
  have hmp := shK_map hI
  obtain ⟨CD, hCD⟩ : ∃ D, D = (chgL L q.lab q.ver x.w.ver true ⟨z.w.ver, z.has, z.w.x.r.abs⟩) := ⟨_, rfl⟩
  rw [← hCD]
  refine enterM (bo := some bM) hm hpre hI hargs Try.func32 rfl (by simp [Try.ntmps32]) fun a0 hF => ?_
  simp only [Try.ntmps32, startT] at hF
  obtain ⟨B, hB⟩ : ∃ B, B = std := ⟨_, rfl⟩
  refine wp_seq ?_
  apply region_okB hB T32_ok [0, 4, 6, 7, 8, 10] [0, 6, 7, 8, 10] [] hF
  case hex => intro A X; conv => lhs; cbv
  case hob =>
    intro X
    subst hB
    simp only [AllOb, Ob.holds, BE.den, List.mem_cons, List.not_mem_nil, or_false, forall_eq_or_imp, forall_eq] <;> (and_intros <;> first | trivial | rfl | (intro h; first | trivial | rfl))
  case hQ =>
  intro X0 a0 w1 hF
  refine wp_seq ?_
  refine wp_block ?_
  refine wp_seq ?_
  apply region_okB hB T32_ok [12, 0, 4, 6, 7, 8, 10] [0, 6, 7, 8, 10] [] hF
  case hex => intro A X; conv => lhs; cbv
  case hob =>
    intro X
    subst hB
    simp only [AllOb, Ob.holds, BE.den, List.mem_cons, List.not_mem_nil, or_false, forall_eq_or_imp, forall_eq] <;> (and_intros <;> first | trivial | rfl | (intro h; first | trivial | rfl))
  case hQ =>
  intro X1 a0 w1 hF
  refine test_ok hF rfl (fun hb hF => ?_) (fun hb hF => ?_)
  · skip
    have hv : q.ver ≠ x.w.ver := by subst hB; simpa [std, stdCmp] using hb
    have hW : CD = ⟨L, false, ⟨8, x.w.ver, false, zeroRec⟩, 0⟩ := by rw [hCD]; unfold chgL; rw [if_pos hv]
    refine wp_seq ?_
    apply region_okB hB T32_ok [10, 11] [0, 10] [] hF
    case hex => intro A X; conv => lhs; cbv
    case hob =>
      intro X
      subst hB
      simp only [AllOb, Ob.holds, BE.den, List.mem_cons, List.not_mem_nil, or_false, forall_eq_or_imp, forall_eq] <;> (and_intros <;> first | trivial | rfl | (intro h; first | trivial | rfl))
    case hQ =>
    intro X2 a0 w1 hF
    refine wp_ret ?_
    refine (ret_m (fn := Try.f32) T32_ok hF (rs := [.cell 10 40, .tmp 11]) rfl (by conv => lhs; cbv) ?_ (⟨0, fun _ => none, fun _ => 0, fun _ => ⟨#[]⟩⟩) [] ?_ ?_ ?_ ?_ ?_).1
    · subst hB; simp [AllOb, Ob.holds]
    · intro b hb; cases hb; exact ⟨hmp, fun m h => shK_map h⟩
    · subst hB; simp only [hW]
      exact Sim.tup ⟨Sim.agg ⟨Sim.refl _, Sim.refl _, Sim.refl _, Sim.refl _, Sim.recell (fun i hi => absurd hi (Nat.not_lt_zero _)), Sim.refl _, Sim.refl _, Sim.refl _, trivial⟩, Sim.refl _, trivial⟩
    · subst hB; simp only [hW]
      exact ⟨rfl, ⟨_, rfl, SimL.refl _⟩, trivial⟩
    · exact trivial
    · simp only [hW]; exact fun _ _ h => h
  · skip
    have hv : ¬ q.ver ≠ x.w.ver := by subst hB; simpa [std, stdCmp] using hb
    refine wp_seq ?_
    apply region_okB hB T32_ok [21, 0, 6, 8, 10] [0, 6, 8, 10] [] hF
    case hex => intro A X; conv => lhs; cbv
    case hob =>
      intro X
      subst hB
      simp only [AllOb, Ob.holds, BE.den, List.mem_cons, List.not_mem_nil, or_false, forall_eq_or_imp, forall_eq] <;> (and_intros <;> first | trivial | rfl | (intro h; first | trivial | rfl))
    case hQ =>
    intro X3 a0 w1 hF
    obtain ⟨L2, hL2⟩ : ∃ L2, L2 = putL q.lab ⟨z.w.ver, z.has, z.w.x.r.abs⟩ L := ⟨_, rfl⟩
    have hW : CD = ⟨L2, true, ⟨0, z.w.ver, false, zeroRec⟩, 0⟩ := by rw [hCD, hL2]; unfold chgL; rw [if_neg hv, if_neg (fun h => by cases h.1)]
    refine test_ff hF rfl (fun hF => ?_)
    refine wp_skip ?_
    refine wp_seq ?_
    apply drawn2_okB hB 7 none ?hH (by kernel_rfl) T32_ok [36, 38, 39, 0, 8, 10] [0, 8, 10] [] hF rfl
    case hH => exact handOK_none
    case hex => intro A X; conv => lhs; cbv
    case hD => kernel_rfl
    case hZ => kernel_rfl
    case hlen => rfl
    case hob =>
      intro X
      subst hB
      simp only [AllOb, Ob.holds, BE.den, List.mem_cons, List.not_mem_nil, or_false, forall_eq_or_imp, forall_eq] <;> (and_intros <;> first | trivial | rfl | (intro h; first | trivial | rfl))
    case hQ =>
    intro X5 a0 w1 hF
    obtain ⟨D2, E2, hSh2⟩ := hF.kept
    refine man_mapUpdate (k := 36) (e := 70) rfl rfl rfl rfl hF rfl rfl rfl rfl rfl labK map_und' hSh2.map (by omega) (key_lab hl) (fun _ => .inr rfl) (shK bM L2) (fun m w' hk hkb hv hM => ?_) ?_
    · rw [hL2]; exact shK_put hSh2.map hl hk hkb (x := ⟨⟨q.lab, z.w.ver, z.w.x⟩, z.has⟩) (Sim.refl _) hv hM
    intro w1 hF
    refine wpList_nil ?_
    replace hF := hF.keep [0,8,10] [0,8,10]
    refine wp_seq ?_
    apply region_okB hB T32_ok [8, 10] [0, 8, 10] [] hF
    case hex => intro A X; conv => lhs; cbv
    case hob =>
      intro X
      subst hB
      simp only [AllOb, Ob.holds, BE.den, List.mem_cons, List.not_mem_nil, or_false, forall_eq_or_imp, forall_eq] <;> (and_intros <;> first | trivial | rfl | (intro h; first | trivial | rfl))
    case hQ =>
    intro X6 a0 w1 hF
    refine wp_seq ?_
    apply region_okB hB T32_ok [10, 11] [0, 10] [] hF
    case hex => intro A X; conv => lhs; cbv
    case hob =>
      intro X
      subst hB
      simp only [AllOb, Ob.holds, BE.den, List.mem_cons, List.not_mem_nil, or_false, forall_eq_or_imp, forall_eq] <;> (and_intros <;> first | trivial | rfl | (intro h; first | trivial | rfl))
    case hQ =>
    intro X7 a0 w1 hF
    refine wp_ret ?_
    refine (ret_m (fn := Try.f32) T32_ok hF (rs := [.cell 10 40, .tmp 11]) rfl (by conv => lhs; cbv) ?_ (⟨0, fun _ => none, fun _ => 0, fun _ => ⟨#[]⟩⟩) [] ?_ ?_ ?_ ?_ ?_).1
    · subst hB; simp [AllOb, Ob.holds]
    · intro b hb; cases hb; exact ⟨hmp, fun m h => shK_map h⟩
    · subst hB; simp only [hW]
      exact Sim.tup ⟨Sim.agg ⟨Sim.refl _, Sim.refl _, Sim.refl _, Sim.refl _, Sim.recell (fun i hi => absurd hi (Nat.not_lt_zero _)), Sim.refl _, Sim.refl _, Sim.refl _, trivial⟩, Sim.refl _, trivial⟩
    · subst hB; simp only [hW]
      exact ⟨rfl, ⟨_, rfl, SimL.refl _⟩, trivial⟩
    · exact trivial
    · simp only [hW]; exact fun _ _ h => h
theorem chg_tt (k0 : Nat) (b bM : Nat) (L : Shf) (hL : L.length ≤ 100000) (k : Int) (q : WntA) (hl : LabOk q.lab) (x z : SpA) : SpecM Try.prog 32 [.ptr k0 b 0, wntV q, .agg (elC x), .agg (elC z), .bool .tt] [(k0, ⟨b, 68, [.raw (.map (some bM)), .int .i64 k]⟩)] (some bM) (shK bM L) (fun y => ⟨.tup [gotV (gotA y (chgL L q.lab q.ver x.w.ver true ⟨z.w.ver, z.has, z.w.x.r.abs⟩).got), .int .i64 (chgL L q.lab q.ver x.w.ver true ⟨z.w.ver, z.has, z.w.x.r.abs⟩).err], [(k0, [.raw (.map (some bM)), .int .i64 (if (chgL L q.lab q.ver x.w.ver true ⟨z.w.ver, z.has, z.w.x.r.abs⟩).wrote then IntKind.i64.wrap (k + 1) else k)])], []⟩) (fun _ _ => shK bM (chgL L q.lab q.ver x.w.ver true ⟨z.w.ver, z.has, z.w.x.r.abs⟩).L) :=
  (chg_tt0 b bM L hL k q hl x z).re (by repeat (first | exact trivial | refine ⟨Sim.ptr, ?_⟩ | refine ⟨Sim.fn ⟨Sim.ptr, trivial⟩ trivial, ?_⟩ | refine ⟨Sim.fn trivial ⟨Sim.ptr, trivial⟩, ?_⟩ | refine ⟨Sim.refl _, ?_⟩)) rfl (fun x => ⟨rfl, rfl, Sim.refl _, rfl⟩)
theorem chg_ff0 (b bM : Nat) (L : Shf) (hL : L.length ≤ 100000) (k : Int) (q : WntA) (hl : LabOk q.lab) (x z : SpA) : SpecM Try.prog 32 [.ptr 0 b 0, wntV q, .agg (elC x), .agg (elC z), .bool .ff] [(0, ⟨b, 68, [.raw (.map (some bM)), .int .i64 k]⟩)] (some bM) (shK bM L) (fun y => ⟨.tup [gotV (gotA y (chgL L q.lab q.ver x.w.ver false ⟨z.w.ver, z.has, z.w.x.r.abs⟩).got), .int .i64 (chgL L q.lab q.ver x.w.ver false ⟨z.w.ver, z.has, z.w.x.r.abs⟩).err], [(0, [.raw (.map (some bM)), .int .i64 (if (chgL L q.lab q.ver x.w.ver false ⟨z.w.ver, z.has, z.w.x.r.abs⟩).wrote then IntKind.i64.wrap (k + 1) else k)])], []⟩) (fun _ _ => shK bM (chgL L q.lab q.ver x.w.ver false ⟨z.w.ver, z.has, z.w.x.r.abs⟩).L) := by
  intro m w hm hargs hpre hI
  have hmx : maxLen = 9223372036854775807 := rfl
  have hmp := shK_map hI
  obtain ⟨CD, hCD⟩ : ∃ D, D = (chgL L q.lab q.ver x.w.ver false ⟨z.w.ver, z.has, z.w.x.r.abs⟩) := ⟨_, rfl⟩
  rw [← hCD]
  refine enterM (bo := some bM) hm hpre hI hargs Try.func32 rfl (by simp [Try.ntmps32]) fun a0 hF => ?_
  simp only [Try.ntmps32, startT] at hF
  obtain ⟨B, hB⟩ : ∃ B, B = std := ⟨_, rfl⟩
  refine wp_seq ?_
  apply region_okB hB T32_ok [0, 4, 6, 7, 8, 10] [0, 6, 7, 8, 10] [] hF
  case hex => intro A X; conv => lhs; cbv
  case hob =>
    intro X
    subst hB
    simp only [AllOb, Ob.holds, BE.den, List.mem_cons, List.not_mem_nil, or_false, forall_eq_or_imp, forall_eq] <;> (and_intros <;> first | trivial | rfl | (intro h; first | trivial | rfl))
  case hQ =>
  intro X0 a0 w1 hF
  refine wp_seq ?_
  refine wp_block ?_
  refine wp_seq ?_
  apply region_okB hB T32_ok [12, 0, 4, 6, 7, 8, 10] [0, 6, 7, 8, 10] [] hF
  case hex => intro A X; conv => lhs; cbv
  case hob =>
    intro X
    subst hB
    simp only [AllOb, Ob.holds, BE.den, List.mem_cons, List.not_mem_nil, or_false, forall_eq_or_imp, forall_eq] <;> (and_intros <;> first | trivial | rfl | (intro h; first | trivial | rfl))
  case hQ =>
  intro X1 a0 w1 hF
  refine test_ok hF rfl (fun hb hF => ?_) (fun hb hF => ?_)
  · skip
    have hv : q.ver ≠ x.w.ver := by subst hB; simpa [std, stdCmp] using hb
    have hW : CD = ⟨L, false, ⟨8, x.w.ver, false, zeroRec⟩, 0⟩ := by rw [hCD]; unfold chgL; rw [if_pos hv]
    refine wp_seq ?_
    apply region_okB hB T32_ok [10, 11] [0, 10] [] hF
    case hex => intro A X; conv => lhs; cbv
    case hob =>
      intro X
      subst hB
      simp only [AllOb, Ob.holds, BE.den, List.mem_cons, List.not_mem_nil, or_false, forall_eq_or_imp, forall_eq] <;> (and_intros <;> first | trivial | rfl | (intro h; first | trivial | rfl))
    case hQ =>
    intro X2 a0 w1 hF
    refine wp_ret ?_
    refine (ret_m (fn := Try.f32) T32_ok hF (rs := [.cell 10 40, .tmp 11]) rfl (by conv => lhs; cbv) ?_ (⟨0, fun _ => none, fun _ => 0, fun _ => ⟨#[]⟩⟩) [] ?_ ?_ ?_ ?_ ?_).1
    · subst hB; simp [AllOb, Ob.holds]
    · intro b hb; cases hb; exact ⟨hmp, fun m h => shK_map h⟩
    · subst hB; simp only [hW]
      exact Sim.tup ⟨Sim.agg ⟨Sim.refl _, Sim.refl _, Sim.refl _, Sim.refl _, Sim.recell (fun i hi => absurd hi (Nat.not_lt_zero _)), Sim.refl _, Sim.refl _, Sim.refl _, trivial⟩, Sim.refl _, trivial⟩
    · subst hB; simp only [hW]
      exact ⟨rfl, ⟨_, rfl, SimL.refl _⟩, trivial⟩
    · exact trivial
    · simp only [hW]; exact fun _ _ h => h
  · skip
    have hv : ¬ q.ver ≠ x.w.ver := by subst hB; simpa [std, stdCmp] using hb
    refine wp_seq ?_
    refine wp_region_lit ?_
    apply list_preB 0 7 hB T32_ok [24, 28, 0, 6, 8, 10] [0, 6, 8, 10] [] hF
    case hex => intro A X; conv => lhs; cbv
    case hob =>
      intro X
      subst hB
      simp [AllOb, Ob.holds, BE.den, std, stdCmp, stdArith] <;> omega
    case hQ =>
    intro X3_0 a0 w1 hF
    obtain ⟨D, E, hSh⟩ := hF.kept
    obtain ⟨zz, hzz⟩ : ∃ z, z = Maps.size D := ⟨_, rfl⟩
    have hzl : zz = L.length := hzz.trans hSh.size
    refine unguard (wanted_tt hF rfl rfl rfl) ?_
    refine man_mlen rfl rfl rfl rfl rfl rfl rfl hF (Nat.le_of_ble_eq_true rfl) rfl map_und' hSh.map ?_
    rw [← hzz]
    intro a0 hF
    apply list_endB 8 hB T32_ok [21, 0, 6, 8, 10] [0, 6, 8, 10] [] hF
    case hex => intro A X; conv => lhs; cbv
    case hob =>
      intro X
      subst hB
      simp only [AllOb, Ob.holds, BE.den, List.mem_cons, List.not_mem_nil, or_false, forall_eq_or_imp, forall_eq] <;> (and_intros <;> first | trivial | rfl | (intro h; first | trivial | rfl))
    case hQ =>
    intro X3 a0 w1 hF
    refine test_ok hF rfl (fun hb hF => ?_) (fun hb hF => ?_)
    · skip
      have hfull : 2000 ≤ L.length := by
        have : (2000 : Int) ≤ (zz : Int) := by subst hB; simpa [std, stdCmp] using hb
        omega
      have hW : CD = ⟨L, false, zeroGot, 12⟩ := by rw [hCD]; unfold chgL; rw [if_neg hv, if_pos ⟨rfl, hfull⟩]
      refine wp_seq ?_
      apply region_okB hB T32_ok [10, 11] [0, 10] [] hF
      case hex => intro A X; conv => lhs; cbv
      case hob =>
        intro X
        subst hB
        simp only [AllOb, Ob.holds, BE.den, List.mem_cons, List.not_mem_nil, or_false, forall_eq_or_imp, forall_eq] <;> (and_intros <;> first | trivial | rfl | (intro h; first | trivial | rfl))
      case hQ =>
      intro X4 a0 w1 hF
      refine wp_ret ?_
      refine (ret_m (fn := Try.f32) T32_ok hF (rs := [.cell 10 40, .tmp 11]) rfl (by conv => lhs; cbv) ?_ (⟨0, fun _ => none, fun _ => 0, fun _ => ⟨#[]⟩⟩) [] ?_ ?_ ?_ ?_ ?_).1
      · subst hB; simp [AllOb, Ob.holds]
      · intro b hb; cases hb; exact ⟨hmp, fun m h => shK_map h⟩
      · subst hB; simp only [hW]
        exact Sim.tup ⟨Sim.agg ⟨Sim.refl _, Sim.refl _, Sim.refl _, Sim.refl _, Sim.recell (fun i hi => absurd hi (Nat.not_lt_zero _)), Sim.refl _, Sim.refl _, Sim.refl _, trivial⟩, Sim.refl _, trivial⟩
      · subst hB; simp only [hW]
        exact ⟨rfl, ⟨_, rfl, SimL.refl _⟩, trivial⟩
      · exact trivial
      · simp only [hW]; exact fun _ _ h => h
    · skip
      have hfull : ¬ 2000 ≤ L.length := by
        have : ¬ (2000 : Int) ≤ (zz : Int) := by subst hB; simpa [std, stdCmp] using hb
        omega
      obtain ⟨L2, hL2⟩ : ∃ L2, L2 = putL q.lab ⟨z.w.ver, z.has, z.w.x.r.abs⟩ L := ⟨_, rfl⟩
      have hW : CD = ⟨L2, true, ⟨0, z.w.ver, false, zeroRec⟩, 0⟩ := by rw [hCD, hL2]; unfold chgL; rw [if_neg hv, if_neg (fun h => hfull h.2)]
      refine wp_skip ?_
      refine wp_seq ?_
      apply drawn2_okB hB 7 none ?hH (by kernel_rfl) T32_ok [36, 38, 39, 0, 8, 10] [0, 8, 10] [] hF rfl
      case hH => exact handOK_none
      case hex => intro A X; conv => lhs; cbv
      case hD => kernel_rfl
      case hZ => kernel_rfl
      case hlen => rfl
      case hob =>
        intro X
        subst hB
        simp only [AllOb, Ob.holds, BE.den, List.mem_cons, List.not_mem_nil, or_false, forall_eq_or_imp, forall_eq] <;> (and_intros <;> first | trivial | rfl | (intro h; first | trivial | rfl))
      case hQ =>
      intro X5 a0 w1 hF
      obtain ⟨D2, E2, hSh2⟩ := hF.kept
      refine man_mapUpdate (k := 36) (e := 70) rfl rfl rfl rfl hF rfl rfl rfl rfl rfl labK map_und' hSh2.map (by omega) (key_lab hl) (fun _ => .inr rfl) (shK bM L2) (fun m w' hk hkb hv hM => ?_) ?_
      · rw [hL2]; exact shK_put hSh2.map hl hk hkb (x := ⟨⟨q.lab, z.w.ver, z.w.x⟩, z.has⟩) (Sim.refl _) hv hM
      intro w1 hF
      refine wpList_nil ?_
      replace hF := hF.keep [0,8,10] [0,8,10]
      refine wp_seq ?_
      apply region_okB hB T32_ok [8, 10] [0, 8, 10] [] hF
      case hex => intro A X; conv => lhs; cbv
      case hob =>
        intro X
        subst hB
        simp only [AllOb, Ob.holds, BE.den, List.mem_cons, List.not_mem_nil, or_false, forall_eq_or_imp, forall_eq] <;> (and_intros <;> first | trivial | rfl | (intro h; first | trivial | rfl))
      case hQ =>
      intro X6 a0 w1 hF
      refine wp_seq ?_
      apply region_okB hB T32_ok [10, 11] [0, 10] [] hF
      case hex => intro A X; conv => lhs; cbv
      case hob =>
        intro X
        subst hB
        simp only [AllOb, Ob.holds, BE.den, List.mem_cons, List.not_mem_nil, or_false, forall_eq_or_imp, forall_eq] <;> (and_intros <;> first | trivial | rfl | (intro h; first | trivial | rfl))
      case hQ =>
      intro X7 a0 w1 hF
      refine wp_ret ?_
      refine (ret_m (fn := Try.f32) T32_ok hF (rs := [.cell 10 40, .tmp 11]) rfl (by conv => lhs; cbv) ?_ (⟨0, fun _ => none, fun _ => 0, fun _ => ⟨#[]⟩⟩) [] ?_ ?_ ?_ ?_ ?_).1
      · subst hB; simp [AllOb, Ob.holds]
      · intro b hb; cases hb; exact ⟨hmp, fun m h => shK_map h⟩
      · subst hB; simp only [hW]
        exact Sim.tup ⟨Sim.agg ⟨Sim.refl _, Sim.refl _, Sim.refl _, Sim.refl _, Sim.recell (fun i hi => absurd hi (Nat.not_lt_zero _)), Sim.refl _, Sim.refl _, Sim.refl _, trivial⟩, Sim.refl _, trivial⟩
      · subst hB; simp only [hW]
        exact ⟨rfl, ⟨_, rfl, SimL.refl _⟩, trivial⟩
      · exact trivial
      · simp only [hW]; exact fun _ _ h => h
theorem chg_ff (k0 : Nat) (b bM : Nat) (L : Shf) (hL : L.length ≤ 100000) (k : Int) (q : WntA) (hl : LabOk q.lab) (x z : SpA) : SpecM Try.prog 32 [.ptr k0 b 0, wntV q, .agg (elC x), .agg (elC z), .bool .ff] [(k0, ⟨b, 68, [.raw (.map (some bM)), .int .i64 k]⟩)] (some bM) (shK bM L) (fun y => ⟨.tup [gotV (gotA y (chgL L q.lab q.ver x.w.ver false ⟨z.w.ver, z.has, z.w.x.r.abs⟩).got), .int .i64 (chgL L q.lab q.ver x.w.ver false ⟨z.w.ver, z.has, z.w.x.r.abs⟩).err], [(k0, [.raw (.map (some bM)), .int .i64 (if (chgL L q.lab q.ver x.w.ver false ⟨z.w.ver, z.has, z.w.x.r.abs⟩).wrote then IntKind.i64.wrap (k + 1) else k)])], []⟩) (fun _ _ => shK bM (chgL L q.lab q.ver x.w.ver false ⟨z.w.ver, z.has, z.w.x.r.abs⟩).L) :=
  (chg_ff0 b bM L hL k q hl x z).re (by repeat (first | exact trivial | refine ⟨Sim.ptr, ?_⟩ | refine ⟨Sim.fn ⟨Sim.ptr, trivial⟩ trivial, ?_⟩ | refine ⟨Sim.fn trivial ⟨Sim.ptr, trivial⟩, ?_⟩ | refine ⟨Sim.refl _, ?_⟩)) rfl (fun x => ⟨rfl, rfl, Sim.refl _, rfl⟩)
end Go.Proofs.Ythpbihppfijegaa.Sym

namespace Go.Proofs.Ythpbihppfijegaa.Sym
open Go Go.RowKit
set_option maxRecDepth 100000
set_option maxHeartbeats 1600000
set_option linter.unusedVariables false
set_option linter.unusedSimpArgs false
theorem chg_m (k0 : Nat) (b bM : Nat) (L : Shf) (hL : L.length ≤ 100000) (k : Int) (q : WntA) (hl : LabOk q.lab) (x z : SpA) (hh : Bool) : SpecM Try.prog 32 [.ptr k0 b 0, wntV q, .agg (elC x), .agg (elC z), .bool (.v hh)] [(k0, ⟨b, 68, [.raw (.map (some bM)), .int .i64 k]⟩)] (some bM) (shK bM L) (fun y => ⟨.tup [gotV (gotA y (chgL L q.lab q.ver x.w.ver hh ⟨z.w.ver, z.has, z.w.x.r.abs⟩).got), .int .i64 (chgL L q.lab q.ver x.w.ver hh ⟨z.w.ver, z.has, z.w.x.r.abs⟩).err], [(k0, [.raw (.map (some bM)), .int .i64 (if (chgL L q.lab q.ver x.w.ver hh ⟨z.w.ver, z.has, z.w.x.r.abs⟩).wrote then IntKind.i64.wrap (k + 1) else k)])], []⟩) (fun _ _ => shK bM (chgL L q.lab q.ver x.w.ver hh ⟨z.w.ver, z.has, z.w.x.r.abs⟩).L) := by
  cases hh with
  | true => exact (chg_tt k0 b bM L hL k q hl x z).args ⟨Sim.refl _, Sim.refl _, Sim.refl _, Sim.refl _, Sim.bool rfl, trivial⟩
  | false => exact (chg_ff k0 b bM L hL k q hl x z).args ⟨Sim.refl _, Sim.refl _, Sim.refl _, Sim.refl _, Sim.bool rfl, trivial⟩
theorem doL_chg {L : Shf} {w : Wnt} (hg : (w.kind = 1 ∨ w.kind = 2 ∨ w.kind = 3) ∧ isL w.lab = true ∧ (w.kind = 2 → isR w.r = true)) (hk : ¬ w.kind = 1) : doL L w = chgL L w.lab w.ver (spotOf L w.lab).ver (findL w.lab L).isSome ⟨inc (spotOf L w.lab).ver, decide (w.kind = 2), if w.kind = 2 then w.r else zeroRec⟩ := by
  refine (if_pos hg).trans ((if_neg hk).trans ?_)
  unfold chgL
  by_cases hv : w.ver = (spotOf L w.lab).ver
  · have h1 : ¬ w.ver ≠ (spotOf L w.lab).ver := fun h => h hv
    have e : ((findL w.lab L).isNone = true ∧ 2000 ≤ L.length) = ((findL w.lab L).isSome = false ∧ 2000 ≤ L.length) := by
      cases findL w.lab L <;> simp
    refine (if_neg h1).trans (Eq.symm ((if_neg h1).trans ?_))
    rw [← hv]
    simp only [← e]
    rfl
  · exact (if_pos hv).trans (if_pos hv).symm
def T12 : List (Nat × TI) := [(3, ti3), (4, ti4), (26, ti26), (27, ti27), (33, ti33), (36, ti36), (38, ti38), (40, ti40), (46, ti46), (66, ti66), (68, ti68), (70, ti70)]
theorem T12_ok : TabOK Try.prog T12 := .cons t3 (.cons t4 (.cons t26 (.cons t27 (.cons t33 (.cons t36 (.cons t38 (.cons t40 (.cons t46 (.cons t66 (.cons t68 (.cons t70 (.nil))))))))))))
theorem enters12 : Enters Try.prog 12 := fun _ _ => by kernel_rfl
theorem do_m0 (b bM : Nat) (L : Shf) (hL : L.length ≤ 100000) (k : Int) (q : WntA) (hwn : q.x.r.n ≤ 1000000) (hl : LabOk q.lab) (hwb : U64 q.lab.bits) (hwx : U64 q.x.r.nx.bits) : SpecM Try.prog 12 [.ptr 0 b 0, wntV q] [(0, ⟨b, 68, [.raw (.map (some bM)), .int .i64 k]⟩)] (some bM) (shK bM L) (fun y => ⟨.tup [gotV (gotA y (doL L q.abs).got), .int .i64 (doL L q.abs).err], [(0, [.raw (.map (some bM)), .int .i64 (if (doL L q.abs).wrote then IntKind.i64.wrap (k + 1) else k)])], []⟩) (fun _ _ => shK bM (doL L q.abs).L) := by
  intro m w hm hargs hpre hI
  have hmx : maxLen = 9223372036854775807 := rfl
  have hmp := shK_map hI
  have S1 := isL_s q.lab hwb
  have S2 := isR_s q.x.A q.x.r.n q.x.c q.x.r.f (by omega) q.x.r.kd q.x.r.nx q.x.r.mrk hwx
  rw [← isR_abs] at S2
  simp only [labAV, recI, rowI] at S1 S2
  obtain ⟨il, hil⟩ : ∃ x, x = isL q.lab := ⟨_, rfl⟩
  obtain ⟨ir, hir⟩ : ∃ x, x = isR q.x.r.abs := ⟨_, rfl⟩
  rw [← hil] at S1
  rw [← hir] at S2
  obtain ⟨D0, hD⟩ : ∃ D, D = (doL L q.abs) := ⟨_, rfl⟩
  rw [← hD]
  have S3 := own_s q.x hwn
  refine enterM (bo := some bM) hm hpre hI hargs Try.func12 rfl (by simp [Try.ntmps12]) fun a0 hF => ?_
  simp only [Try.ntmps12, startT] at hF
  obtain ⟨B, hB⟩ : ∃ B, B = std := ⟨_, rfl⟩
  refine wp_seq ?_
  apply region_okB hB T12_ok [0, 3, 4] [0, 3, 4] [] hF
  case hex => intro A X; conv => lhs; cbv
  case hob =>
    intro X
    subst hB
    simp only [AllOb, Ob.holds, BE.den, List.mem_cons, List.not_mem_nil, or_false, forall_eq_or_imp, forall_eq] <;> (and_intros <;> first | trivial | rfl | (intro h; first | trivial | rfl))
  case hQ =>
  intro X0 a0 w1 hF
  refine wp_seq ?_
  refine wp_seq ?_
  apply region_okB hB T12_ok [10, 0, 3, 4] [0, 3, 4] [] hF
  case hex => intro A X; conv => lhs; cbv
  case hob =>
    intro X
    subst hB
    simp only [AllOb, Ob.holds, BE.den, List.mem_cons, List.not_mem_nil, or_false, forall_eq_or_imp, forall_eq] <;> (and_intros <;> first | trivial | rfl | (intro h; first | trivial | rfl))
  case hQ =>
  intro X1 a0 w1 hF
  refine test_ff hF rfl (fun hF => ?_)
  refine wp_skip ?_
  refine wp_seq ?_
  obtain ⟨DM, E, hSh⟩ := hF.kept
  replace hF := hF.withK (K' := shD DM E bM L) hSh
  obtain ⟨el, hel⟩ : ∃ x, x = elA (adr E L) q.lab (spotOf L q.lab) := ⟨_, rfl⟩
  obtain ⟨hh, hhh⟩ : ∃ h, h = (findL q.lab L).isSome := ⟨_, rfl⟩
  apply drawn2_okB hB 13 (some (6, [.tmp 16, .tmp 18], [.raw (.map (some bM)), .agg [.int .i64 q.lab.len, .int .u64 q.lab.bits]], .tup [.agg [.int .u64 el.w.ver, .bool (.v el.has), .int .i64 el.w.x.r.kd, .sl none el.w.x.A el.w.x.r.n el.w.x.c 2 (fun i => itC (el.w.x.r.f i)), .int .i64 el.w.x.r.nx.len, .int .u64 el.w.x.r.nx.bits, .int .u64 el.w.x.r.mrk], .bool (.v hh)])) ?hH (by kernel_rfl) T12_ok [0, 3, 4, 6, 7] [0, 3, 4, 6] [] hF rfl
  case hH => exact hand_look hl hel hhh (fun o h => by cases h; rfl)
  case hex => intro A X; conv => lhs; cbv
  case hD => kernel_rfl
  case hZ => kernel_rfl
  case hlen => rfl
  case hob =>
    intro X
    subst hB
    simp only [AllOb, Ob.holds, BE.den, List.mem_cons, List.not_mem_nil, or_false, forall_eq_or_imp, forall_eq] <;> (and_intros <;> first | trivial | rfl | (intro h; first | trivial | rfl))
  case hQ =>
  intro X3 a0 w1 hF
  refine wpList_nil ?_
  replace hF := hF.withK (K' := shK bM L) ⟨DM, E, hF.kept⟩
  have hev : el.w.ver = (spotOf L q.lab).ver := by rw [hel]
  have heh : el.has = (spotOf L q.lab).has := by rw [hel]
  have her : el.w.x.r.abs = (spotOf L q.lab).r := by rw [hel]; exact abs_rn _
  refine wp_seq ?_
  apply region_okB hB T12_ok [0, 3, 4, 6, 7, 8] [8, 0, 3, 4, 6] [] hF
  case hex => intro A X; conv => lhs; cbv
  case hob =>
    intro X
    subst hB
    simp only [AllOb, Ob.holds, BE.den, List.mem_cons, List.not_mem_nil, or_false, forall_eq_or_imp, forall_eq] <;> (and_intros <;> first | trivial | rfl | (intro h; first | trivial | rfl))
  case hQ =>
  intro X4 a0 w1 hF
  obtain ⟨vi, hvi⟩ : ∃ v, v = inc (spotOf L q.lab).ver := ⟨_, rfl⟩
  replace hF := hF.memS (cells' := [.int .u64 vi, .bool .ff, .int .i64 0, .sl none none 0 0 2 (fun _ => []), .int .i64 0, .int .u64 0, .int .u64 0]) ⟨(by subst hB; rw [hvi, ← hev]; exact Sim.refl _), Sim.refl _, Sim.refl _, Sim.refl _, Sim.refl _, Sim.refl _, Sim.refl _, trivial⟩
  refine wp_seq ?_
  refine wp_block ?_
  refine wp_seq ?_
  refine cut_one (ι := SpA) (S0 := []) (M0 := [(8, _)]) (G0 := []) (fun z => []) (fun z => [(8, ⟨(X4 4).b, 70, elC z⟩)]) (fun z => []) (fun z => ¬ q.kind = 1 ∧ z.w.ver = vi ∧ ((q.kind = 1 ∨ q.kind = 2 ∨ q.kind = 3) ∧ isL q.lab = true ∧ (q.kind = 2 → isR q.x.r.abs = true)) ∧ z.has = decide (q.kind = 2) ∧ z.w.x.r.abs = (if q.kind = 2 then q.x.r.abs else zeroRec)) hF ?_ ?_
  · skip
    refine wp_block ?_
    refine wp_seq ?_
    refine wp_block ?_
    refine wp_seq ?_
    refine wp_block ?_
    refine wp_seq ?_
    refine wp_block ?_
    refine wp_seq ?_
    refine wp_seq ?_
    refine wp_seq ?_
    apply region_okB hB T12_ok [26, 0, 3, 4, 6, 7, 8] [8, 0, 3, 4, 6] [(2, .r fun _ => .bool (.v il))] hF
    case hex => intro A X; conv => lhs; cbv
    case hob =>
      intro X
      subst hB
      simp only [AllOb, Ob.holds, BE.den, List.mem_cons, List.not_mem_nil, or_false, forall_eq_or_imp, forall_eq] <;> (and_intros <;> first | trivial | rfl | exact enters24 | exact S1 | exact ⟨enters24, S1⟩ | (intro h; first | trivial | rfl | exact enters24 | exact S1 | exact ⟨enters24, S1⟩))
    case hQ =>
    intro X5 a0 w1 hF
    refine test_ok hF rfl (fun hb hF => ?_) (fun hb hF => ?_)
    · skip
      have h9 : (!il) = true := by subst hB; exact hb
      have hbad : ¬ ((q.kind = 1 ∨ q.kind = 2 ∨ q.kind = 3) ∧ isL q.lab = true ∧ (q.kind = 2 → isR q.x.r.abs = true)) := by rw [← hil]; intro h; rw [h.2.1] at h9; cases h9
      have hW : D0 = ⟨L, false, zeroGot, 1⟩ := by rw [hD]; exact if_neg hbad
      refine wp_exit ?_
      refine wp_seq ?_
      refine wp_seq ?_
      apply region_okB hB T12_ok [4, 5] [0, 4] [] hF
      case hex => intro A X; conv => lhs; cbv
      case hob =>
        intro X
        subst hB
        simp only [AllOb, Ob.holds, BE.den, List.mem_cons, List.not_mem_nil, or_false, forall_eq_or_imp, forall_eq] <;> (and_intros <;> first | trivial | rfl | (intro h; first | trivial | rfl))
      case hQ =>
      intro X9 a0 w1 hF
      refine wp_ret ?_
      refine (ret_m (fn := Try.f12) T12_ok hF (rs := [.cell 4 40, .tmp 5]) rfl (by conv => lhs; cbv) ?_ (⟨0, fun _ => none, fun _ => 0, fun _ => ⟨#[]⟩⟩) [] ?_ ?_ ?_ ?_ ?_).1
      · subst hB; simp [AllOb, Ob.holds]
      · intro b hb; cases hb; exact ⟨hmp, fun m h => shK_map h⟩
      · subst hB; simp only [hW]
        exact Sim.tup ⟨Sim.agg ⟨Sim.refl _, Sim.refl _, Sim.refl _, Sim.refl _, Sim.recell (fun i hi => absurd hi (Nat.not_lt_zero _)), Sim.refl _, Sim.refl _, Sim.refl _, trivial⟩, Sim.refl _, trivial⟩
      · subst hB; simp only [hW]
        exact ⟨rfl, ⟨_, rfl, SimL.refl _⟩, trivial⟩
      · exact trivial
      · simp only [hW]; exact fun _ _ h => h
    · skip
      have hl1 : isL q.lab = true := by
        have h9 : (!il) = false := by subst hB; exact hb
        rw [← hil]; simpa using h9
      refine wp_skip ?_
      refine wp_seq ?_
      refine wp_seq ?_
      apply region_okB hB T12_ok [31, 0, 3, 4, 6, 7, 8] [8, 0, 3, 4, 6] [] hF
      case hex => intro A X; conv => lhs; cbv
      case hob =>
        intro X
        subst hB
        simp only [AllOb, Ob.holds, BE.den, List.mem_cons, List.not_mem_nil, or_false, forall_eq_or_imp, forall_eq] <;> (and_intros <;> first | trivial | rfl | (intro h; first | trivial | rfl))
      case hQ =>
      intro X6 a0 w1 hF
      refine test_ok hF rfl (fun hb hF => ?_) (fun hb hF => ?_)
      · skip
        have hk1 : q.kind = 1 := by subst hB; simpa [std, stdCmp] using hb
        have hgd : ((q.kind = 1 ∨ q.kind = 2 ∨ q.kind = 3) ∧ isL q.lab = true ∧ (q.kind = 2 → isR q.x.r.abs = true)) := ⟨.inl hk1, hl1, fun h => by omega⟩
        have hW : D0 = ⟨L, false, ⟨0, el.w.ver, el.has, el.w.x.r.abs⟩, 0⟩ := by rw [hD, hev, heh, her]; refine (if_pos hgd).trans ?_; exact if_pos hk1
        refine wp_exit ?_
        refine wp_seq ?_
        refine wp_seq ?_
        apply region_okB hB T12_ok [4, 5] [0, 4] [] hF
        case hex => intro A X; conv => lhs; cbv
        case hob =>
          intro X
          subst hB
          simp only [AllOb, Ob.holds, BE.den, List.mem_cons, List.not_mem_nil, or_false, forall_eq_or_imp, forall_eq] <;> (and_intros <;> first | trivial | rfl | (intro h; first | trivial | rfl))
        case hQ =>
        intro X10 a0 w1 hF
        refine wp_ret ?_
        refine (ret_m (fn := Try.f12) T12_ok hF (rs := [.cell 4 40, .tmp 5]) rfl (by conv => lhs; cbv) ?_ (spY none 0 (fun _ => zSp) el.w.x.A el.w.x.c 0) [] ?_ ?_ ?_ ?_ ?_).1
        · subst hB; simp [AllOb, Ob.holds]
        · intro b hb; cases hb; exact ⟨hmp, fun m h => shK_map h⟩
        · subst hB; simp only [hW]
          exact Sim.tup ⟨Sim.agg (got_sim (v := ⟨0, el.w.ver, el.has, el.w.x⟩) rfl rfl rfl), Sim.refl _, trivial⟩
        · subst hB; simp only [hW]
          exact ⟨rfl, ⟨_, rfl, SimL.refl _⟩, trivial⟩
        · exact trivial
        · simp only [hW]; exact fun _ _ h => h
      · skip
        have hk1 : ¬ q.kind = 1 := by subst hB; simpa [std, stdCmp] using hb
        refine wp_skip ?_
        refine wp_seq ?_
        refine wp_seq ?_
        apply region_okB hB T12_ok [35, 0, 3, 4, 6, 7, 8] [8, 0, 3, 4, 6] [] hF
        case hex => intro A X; conv => lhs; cbv
        case hob =>
          intro X
          subst hB
          simp only [AllOb, Ob.holds, BE.den, List.mem_cons, List.not_mem_nil, or_false, forall_eq_or_imp, forall_eq] <;> (and_intros <;> first | trivial | rfl | (intro h; first | trivial | rfl))
        case hQ =>
        intro X7 a0 w1 hF
        refine test_ok hF rfl (fun hb hF => ?_) (fun hb hF => ?_)
        · skip
          have hk2 : q.kind = 2 := by subst hB; simpa [std, stdCmp] using hb
          refine wp_exit ?_
          refine wp_seq ?_
          refine wp_seq ?_
          apply region_okB hB T12_ok [54, 0, 3, 4, 6, 7, 8] [8, 0, 3, 4, 6] [(2, .r fun _ => .bool (.v ir))] hF
          case hex => intro A X; conv => lhs; cbv
          case hob =>
            intro X
            subst hB
            simp only [AllOb, Ob.holds, BE.den, List.mem_cons, List.not_mem_nil, or_false, forall_eq_or_imp, forall_eq] <;> (and_intros <;> first | trivial | rfl | exact enters25 | exact S2 | exact ⟨enters25, S2⟩ | (intro h; first | trivial | rfl | exact enters25 | exact S2 | exact ⟨enters25, S2⟩))
          case hQ =>
          intro X11 a0 w1 hF
          refine test_ok hF rfl (fun hb hF => ?_) (fun hb hF => ?_)
          · skip
            have h9 : (!ir) = true := by subst hB; exact hb
            have hbad : ¬ ((q.kind = 1 ∨ q.kind = 2 ∨ q.kind = 3) ∧ isL q.lab = true ∧ (q.kind = 2 → isR q.x.r.abs = true)) := by rw [← hir]; intro h; rw [h.2.2 hk2] at h9; cases h9
            have hW : D0 = ⟨L, false, zeroGot, 1⟩ := by rw [hD]; exact if_neg hbad
            refine wp_seq ?_
            apply region_okB hB T12_ok [4, 5] [0, 4] [] hF
            case hex => intro A X; conv => lhs; cbv
            case hob =>
              intro X
              subst hB
              simp only [AllOb, Ob.holds, BE.den, List.mem_cons, List.not_mem_nil, or_false, forall_eq_or_imp, forall_eq] <;> (and_intros <;> first | trivial | rfl | (intro h; first | trivial | rfl))
            case hQ =>
            intro X12 a0 w1 hF
            refine wp_ret ?_
            refine (ret_m (fn := Try.f12) T12_ok hF (rs := [.cell 4 40, .tmp 5]) rfl (by conv => lhs; cbv) ?_ (⟨0, fun _ => none, fun _ => 0, fun _ => ⟨#[]⟩⟩) [] ?_ ?_ ?_ ?_ ?_).1
            · subst hB; simp [AllOb, Ob.holds]
            · intro b hb; cases hb; exact ⟨hmp, fun m h => shK_map h⟩
            · subst hB; simp only [hW]
              exact Sim.tup ⟨Sim.agg ⟨Sim.refl _, Sim.refl _, Sim.refl _, Sim.refl _, Sim.recell (fun i hi => absurd hi (Nat.not_lt_zero _)), Sim.refl _, Sim.refl _, Sim.refl _, trivial⟩, Sim.refl _, trivial⟩
            · subst hB; simp only [hW]
              exact ⟨rfl, ⟨_, rfl, SimL.refl _⟩, trivial⟩
            · exact trivial
            · simp only [hW]; exact fun _ _ h => h
          · skip
            have hr1 : isR q.x.r.abs = true := by
              have h9 : (!ir) = false := by subst hB; exact hb
              rw [← hir]; simpa using h9
            refine wp_skip ?_
            apply region_okB hB T12_ok [0, 3, 4, 6, 7, 8] [8, 0, 3, 4, 6] [(2, .r fun y => .agg [.int .i64 q.x.r.kd, .sl none (y.A 0) q.x.r.n (y.c 0) 2 (fun t => itC (q.x.r.f t)), .int .i64 q.x.r.nx.len, .int .u64 q.x.r.nx.bits, .int .u64 q.x.r.mrk])] hF
            case hex => intro A X; conv => lhs; cbv
            case hob =>
              intro X
              subst hB
              simp only [AllOb, Ob.holds, BE.den, List.mem_cons, List.not_mem_nil, or_false, forall_eq_or_imp, forall_eq] <;> (and_intros <;> first | trivial | rfl | exact enters26 | exact S3 | exact ⟨enters26, S3⟩ | (intro h; first | trivial | rfl | exact enters26 | exact S3 | exact ⟨enters26, S3⟩))
            case hQ =>
            intro X13 a0 w1 hF
            refine ⟨⟨⟨q.lab, vi, ⟨(X13 2).A 0, (X13 2).c 0, q.x.r⟩⟩, true⟩, ⟨hk1, rfl, ⟨.inr (.inl hk2), hl1, fun _ => hr1⟩, ?_, ?_⟩, hF.memS (cells' := elC ⟨⟨q.lab, vi, ⟨(X13 2).A 0, (X13 2).c 0, q.x.r⟩⟩, true⟩) ⟨Sim.refl _, Sim.tt, Sim.refl _, Sim.refl _, Sim.refl _, Sim.refl _, Sim.refl _, trivial⟩⟩
            · rw [decide_eq_true hk2]
            · rw [if_pos hk2]
        · skip
          have hk2 : ¬ q.kind = 2 := by subst hB; simpa [std, stdCmp] using hb
          refine wp_skip ?_
          refine wp_seq ?_
          apply region_okB hB T12_ok [39, 0, 3, 4, 6, 7, 8] [8, 0, 3, 4, 6] [] hF
          case hex => intro A X; conv => lhs; cbv
          case hob =>
            intro X
            subst hB
            simp only [AllOb, Ob.holds, BE.den, List.mem_cons, List.not_mem_nil, or_false, forall_eq_or_imp, forall_eq] <;> (and_intros <;> first | trivial | rfl | (intro h; first | trivial | rfl))
          case hQ =>
          intro X8 a0 w1 hF
          refine test_ok hF rfl (fun hb hF => ?_) (fun hb hF => ?_)
          · skip
            have hk3 : q.kind = 3 := by subst hB; simpa [std, stdCmp] using hb
            refine wp_exit ?_
            refine ⟨⟨⟨q.lab, vi, zRA⟩, false⟩, ⟨hk1, rfl, ⟨.inr (.inr hk3), hl1, fun h => by omega⟩, ?_, ?_⟩, hF.memS (cells' := elC ⟨⟨q.lab, vi, zRA⟩, false⟩) ⟨Sim.refl _, Sim.ff, Sim.refl _, Sim.recell (fun i hi => absurd hi (Nat.not_lt_zero _)), Sim.refl _, Sim.refl _, Sim.refl _, trivial⟩⟩
            · rw [decide_eq_false (by omega)]
            · rw [if_neg (by omega)]; rfl
          · skip
            have hk3 : ¬ q.kind = 3 := by subst hB; simpa [std, stdCmp] using hb
            have hbad : ¬ ((q.kind = 1 ∨ q.kind = 2 ∨ q.kind = 3) ∧ isL q.lab = true ∧ (q.kind = 2 → isR q.x.r.abs = true)) := fun h => by rcases h.1 with h | h | h; exact hk1 h; exact hk2 h; exact hk3 h
            have hW : D0 = ⟨L, false, zeroGot, 1⟩ := by rw [hD]; exact if_neg hbad
            refine wp_skip ?_
            refine wp_exit ?_
            refine wp_seq ?_
            apply region_okB hB T12_ok [4, 5] [0, 4] [] hF
            case hex => intro A X; conv => lhs; cbv
            case hob =>
              intro X
              subst hB
              simp only [AllOb, Ob.holds, BE.den, List.mem_cons, List.not_mem_nil, or_false, forall_eq_or_imp, forall_eq] <;> (and_intros <;> first | trivial | rfl | (intro h; first | trivial | rfl))
            case hQ =>
            intro X15 a0 w1 hF
            refine wp_ret ?_
            refine (ret_m (fn := Try.f12) T12_ok hF (rs := [.cell 4 40, .tmp 5]) rfl (by conv => lhs; cbv) ?_ (⟨0, fun _ => none, fun _ => 0, fun _ => ⟨#[]⟩⟩) [] ?_ ?_ ?_ ?_ ?_).1
            · subst hB; simp [AllOb, Ob.holds]
            · intro b hb; cases hb; exact ⟨hmp, fun m h => shK_map h⟩
            · subst hB; simp only [hW]
              exact Sim.tup ⟨Sim.agg ⟨Sim.refl _, Sim.refl _, Sim.refl _, Sim.refl _, Sim.recell (fun i hi => absurd hi (Nat.not_lt_zero _)), Sim.refl _, Sim.refl _, Sim.refl _, trivial⟩, Sim.refl _, trivial⟩
            · subst hB; simp only [hW]
              exact ⟨rfl, ⟨_, rfl, SimL.refl _⟩, trivial⟩
            · exact trivial
            · simp only [hW]; exact fun _ _ h => h
  · rintro z ⟨hk1, hz1, hgd, hz2, hz3⟩ a0 w1 hF
    try dsimp only at hk1
    try dsimp only at hz1
    try dsimp only at hgd
    try dsimp only at hz2
    try dsimp only at hz3
    have SC := chg_m 0 b bM L hL k q hl el z hh
    obtain ⟨CD, hCD⟩ : ∃ D, D = chgL L q.lab q.ver el.w.ver hh ⟨z.w.ver, z.has, z.w.x.r.abs⟩ := ⟨_, rfl⟩
    rw [← hCD] at SC
    have hDC : D0 = CD := by
      rw [hD, hCD, doL_chg (w := q.abs) hgd hk1, hz1, hz2, hz3, hvi, hev, hhh]; rfl
    obtain ⟨G, hG⟩ : ∃ G : Atom → GotA, G = fun y => gotA y CD.got := ⟨_, rfl⟩
    have hGG : ∀ y, gotA y CD.got = G y := fun y => by rw [hG]
    simp only [hGG] at SC
    obtain ⟨k2, hk2⟩ : ∃ z, z = (if CD.wrote then IntKind.i64.wrap (k + 1) else k) := ⟨_, rfl⟩
    rw [← hk2] at SC
    refine wp_seq ?_
    refine wp_seq ?_
    refine wp_region_lit ?_
    apply list_preB 0 5 hB T12_ok [61, 62, 63, 64, 65, 4] [0, 4] [] hF
    case hex => intro A X; conv => lhs; cbv
    case hob =>
      intro X
      subst hB
      simp [AllOb, Ob.holds, BE.den, std, stdCmp, stdArith] <;> omega
    case hQ =>
    intro X14_0 a0 w1 hF
    refine man_callM rfl rfl rfl rfl hF rfl rfl enters32 SC (fun _ _ h => h) (fun b hb => by cases hb; exact fun _ => .inr rfl) (SimL.refl _) (by intro e he; simp only [List.mem_singleton] at he; subst he; rfl) rfl rfl (fun _ => shK bM CD.L) (fun _ _ _ _ _ _ _ _ _ h => h) ?_
    intro y a0 w1 hF
    apply list_endB 6 hB T12_ok [4, 5] [0, 4] [] hF
    case hex => intro A X; conv => lhs; cbv
    case hob =>
      intro X
      subst hB
      simp only [AllOb, Ob.holds, BE.den, List.mem_cons, List.not_mem_nil, or_false, forall_eq_or_imp, forall_eq] <;> (and_intros <;> first | trivial | rfl | (intro h; first | trivial | rfl))
    case hQ =>
    intro X14 a0 w1 hF
    refine wp_ret ?_
    refine (ret_m (fn := Try.f12) T12_ok hF (rs := [.cell 4 40, .tmp 5]) rfl (by conv => lhs; cbv) ?_ (y) [] ?_ ?_ ?_ ?_ ?_).1
    · subst hB; simp [AllOb, Ob.holds]
    · intro b hb; cases hb; exact ⟨hmp, fun m h => shK_map h⟩
    · subst hB; rw [hDC, hGG]; exact Sim.refl _
    · rw [hDC, ← hk2]
      exact ⟨rfl, ⟨_, rfl, SimL.refl _⟩, trivial⟩
    · exact trivial
    · rw [hDC]; exact fun _ _ h => h
theorem do_m (k0 : Nat) (b bM : Nat) (L : Shf) (hL : L.length ≤ 100000) (k : Int) (q : WntA) (hwn : q.x.r.n ≤ 1000000) (hl : LabOk q.lab) (hwb : U64 q.lab.bits) (hwx : U64 q.x.r.nx.bits) : SpecM Try.prog 12 [.ptr k0 b 0, wntV q] [(k0, ⟨b, 68, [.raw (.map (some bM)), .int .i64 k]⟩)] (some bM) (shK bM L) (fun y => ⟨.tup [gotV (gotA y (doL L q.abs).got), .int .i64 (doL L q.abs).err], [(k0, [.raw (.map (some bM)), .int .i64 (if (doL L q.abs).wrote then IntKind.i64.wrap (k + 1) else k)])], []⟩) (fun _ _ => shK bM (doL L q.abs).L) :=
  (do_m0 b bM L hL k q hwn hl hwb hwx).re (by repeat (first | exact trivial | refine ⟨Sim.ptr, ?_⟩ | refine ⟨Sim.fn ⟨Sim.ptr, trivial⟩ trivial, ?_⟩ | refine ⟨Sim.fn trivial ⟨Sim.ptr, trivial⟩, ?_⟩ | refine ⟨Sim.refl _, ?_⟩)) rfl (fun x => ⟨rfl, rfl, Sim.refl _, rfl⟩)
end Go.Proofs.Ythpbihppfijegaa.Sym

namespace Go.Proofs.Ythpbihppfijegaa.Sym
open Go Go.RowKit
open Go.Sort (flatK HoldsK putRowK get_flatK size_flatK)
set_option linter.unusedVariables false
set_option linter.unusedSimpArgs false
set_option maxRecDepth 100000
set_option maxHeartbeats 1000000

section
variable {α : Type} [Inhabited α] {k : Nat} {cells : α → List AV} {w w' : World} {B e : Nat} {A : Option Addr} {n c : Nat} {h : Nat → α}
abbrev encV (cells : α → List AV) : α → List Value := fun x => (cells x).map AV.den
theorem flat_at (hk : ∀ x, (cells x).length = k) (d : Array α) (i j : Nat) (hi : i < d.size) (hj : j < k) : (flatK (encV cells) k d)[i * k + j]! = ((cells d[i]!).map AV.den)[j]! := by
  have hlt : i * k + j < d.size * k := by
    have : (i + 1) * k ≤ d.size * k := Nat.mul_le_mul_right k hi
    rw [Nat.add_mul, Nat.one_mul] at this
    omega
  rw [get_flatK _ _ _ _ hlt]
  have h1 : (i * k + j) / k = i := by rw [Nat.mul_comm, Nat.mul_add_div (by omega), Nat.div_eq_of_lt hj, Nat.add_zero]
  have h2 : (i * k + j) % k = j := by rw [Nat.mul_comm, Nat.mul_add_mod, Nat.mod_eq_of_lt hj]
  rw [h1, h2]
theorem holds_of_own (hk : ∀ x, (cells x).length = k) (hO : Own w B e k (.slice A n c) n (rowFlat (fun t => cells (h t)) n)) (hn : 0 < n) : ∃ b, A = some ⟨b, 0, none⟩ ∧ B ≤ b ∧ b < w.heap.size ∧ HoldsK (encV cells) k w b 0 ((List.range n).map h).toArray := by
  obtain ⟨b, hA, hb⟩ := own_head hO hn
  obtain ⟨h1, h2⟩ := hO.lt b hb
  refine ⟨b, hA, h1, h2, fun t ht => ?_⟩
  have hsz : ((List.range n).map h).toArray.size = n := by simp
  rw [size_flatK, hsz] at ht
  have hk0 : 0 < k := by rcases Nat.eq_zero_or_pos k with h0 | h0; rw [h0] at ht; omega; exact h0
  obtain ⟨i, j, hj, rfl⟩ : ∃ i j, j < k ∧ t = i * k + j := ⟨t / k, t % k, Nat.mod_lt _ hk0, by rw [Nat.mul_comm]; exact (Nat.div_add_mod t k).symm⟩
  have hi : i < n := by
    refine Nat.lt_of_not_le fun hle => ?_
    have := Nat.mul_le_mul_right k hle
    omega
  have hd : ((List.range n).map h).toArray[i]! = h i := by
    rw [getElem!_pos _ i (by rw [hsz]; exact hi)]; simp
  rw [flat_at hk _ i j (by rw [hsz]; exact hi) hj, hd, Nat.zero_add]
  have hg := rowFlat_get (cells := fun t => cells (h t)) (n := n) (fun i _ => hk _) hi hj
  have hjl : j < ((cells (h i)).map AV.den).length := by rw [List.length_map, hk]; exact hj
  rw [List.getElem?_eq_getElem hjl] at hg
  refine ⟨?_, ?_⟩
  · rw [own_cells hO hb _ _ hg, getElem!_pos _ j hjl]; rfl
  · obtain ⟨_, h2 | ⟨g, cap, cur, hv, _, hcur, _⟩⟩ := hO
    · obtain ⟨h0, _⟩ := h2; omega
    · injection hv with e1
      rw [hA] at e1
      injection e1 with e1
      injection e1 with e1
      subst e1
      simp [World.frozen?, hcur]
theorem heap_sort (d' : Array α) (m : Nat) (os : Array Obj) {b : Nat} (hb : b < w.heap.size) : (sortWorldK (encV cells) k w b 0 m d' os).heap[b]? = (w.heap[b]?).map (Go.Sort.onCells (Go.Sort.putCells id 0 (flatK (encV cells) k d'))) ∧ ∀ x, x < w.heap.size → x ≠ b → (sortWorldK (encV cells) k w b 0 m d' os).heap[x]? = w.heap[x]? := by
  have hsz : (putRowK (encV cells) k (Go.Sort.ahead w m) b 0 d').heap.size = w.heap.size := by simp [putRowK, Go.Sort.putRow, Go.Sort.mapBlock, Go.Sort.ahead]
  refine ⟨?_, fun x hx hne => ?_⟩
  · unfold sortWorldK Go.Sort.grow
    simp only
    rw [Array.getElem?_append_left (by rw [hsz]; exact hb)]
    simp [putRowK, Go.Sort.putRow, Go.Sort.mapBlock, Go.Sort.ahead, Array.getElem?_modify]
  · unfold sortWorldK Go.Sort.grow
    simp only
    rw [Array.getElem?_append_left (by rw [hsz]; exact hx)]
    simp [putRowK, Go.Sort.putRow, Go.Sort.mapBlock, Go.Sort.ahead, Array.getElem?_modify]
    intro e; exact absurd e.symm hne
theorem own_sort (hk : ∀ x, (cells x).length = k) (hO : Own w B e k (.slice A n c) n (rowFlat (fun t => cells (h t)) n)) (hn : 0 < n) {b : Nat} (hA : A = some ⟨b, 0, none⟩) (hb : b < w.heap.size) (d' : Array α) (hd : d'.size = n) (m : Nat) (os : Array Obj) :
    Own (sortWorldK (encV cells) k w b 0 m d' os) B e k (.slice A n c) n (rowFlat (fun t => cells d'[t]!) n) := by
  have hlen : (rowFlat (fun t => cells d'[t]!) n).length = n * k := rowFlat_len fun i _ => hk _
  refine ⟨hlen, ?_⟩
  rcases hO.2 with ⟨h0, _⟩ | ⟨g, cap, cur, hv, h1, h2, h3, h4, h5, h6, h7⟩
  · omega
  · injection hv with e1 e2 e3
    subst e3
    have : g = b := by rw [hA] at e1; injection e1 with e1; injection e1 with e1; exact e1.symm
    subst this
    subst e1
    right
    refine ⟨g, c, Go.Sort.putCells id 0 (flatK (encV cells) k d') cur, rfl, h1, ?_, h3, h4, h5, ?_, ?_⟩
    · rw [(heap_sort d' m os hb).1, h2]; rfl
    · simp [Go.Sort.putCells, h6]
    · apply List.ext_getElem?
      intro t
      by_cases ht : t < n * k
      · have hcs : t < cur.size := by
          rw [h6]; have := Nat.mul_le_mul_right k h3; omega
        rw [List.getElem?_take_of_lt ht]
        have hk0 : 0 < k := by rcases Nat.eq_zero_or_pos k with h0 | h0; rw [h0] at ht; omega; exact h0
        obtain ⟨i, j, hj, rfl⟩ : ∃ i j, j < k ∧ t = i * k + j := ⟨t / k, t % k, Nat.mod_lt _ hk0, by rw [Nat.mul_comm]; exact (Nat.div_add_mod t k).symm⟩
        have hi : i < n := by
          refine Nat.lt_of_not_le fun hle => ?_
          have := Nat.mul_le_mul_right k hle
          omega
        rw [rowFlat_get (cells := fun t => cells d'[t]!) (n := n) (fun i _ => hk _) hi hj]
        have hf := flat_at hk d' i j (by rw [hd]; exact hi) hj
        have hjl : j < ((cells d'[i]!).map AV.den).length := by rw [List.length_map, hk]; exact hj
        rw [getElem!_pos _ j hjl] at hf
        simp only [Array.getElem?_toList, Go.Sort.putCells, Array.getElem?_mapIdx, Array.getElem?_eq_getElem hcs, Option.map_some, Nat.zero_le, true_and, Nat.zero_add, Nat.sub_zero, size_flatK, hd, ht, if_true, id]
        rw [hf, List.getElem?_eq_getElem hjl]
      · rw [List.getElem?_eq_none (by rw [List.length_take]; omega), List.getElem?_eq_none (by rw [hlen]; omega)]
/-- sorted, the row is still owned -/
theorem sorted_c {P : Program} {f : Nat} {fv : Value} {lt : α → α → Bool} (hk : ∀ x, (cells x).length = k) (hO : Own w B e k (.slice A n c) n (rowFlat (fun t => cells (h t)) n))
    (hc : ∀ b (d : Array α), d.size = n → HoldsK (encV cells) k w b 0 d → b < w.heap.size → Calls P f #[.slice (some ⟨b, 0, none⟩) d.size c, fv] w fun e w' => e = .returned (.tuple #[]) ∧ ∃ d' m os, Go.Sort.PermIn 0 d.size d d' ∧ Go.Sort.SortedIn lt 0 d.size d' ∧ w' = sortWorldK (encV cells) k w b 0 m d' os)
    (h0 : n = 0 → Calls P f #[.slice A 0 c, fv] w fun e w' => e = .returned (.tuple #[]) ∧ w' = w) :
    Calls P f #[.slice A n c, fv] w fun e' w' => e' = .returned (.tuple #[]) ∧ ∃ h' : Nat → α, ((List.range n).map h').Perm ((List.range n).map h) ∧ (∀ i j, i < j → j < n → lt (h' j) (h' i) = false) ∧ Own w' B e k (.slice A n c) n (rowFlat (fun t => cells (h' t)) n) ∧ Chg (fun x => ownB (.slice A n c) = some x) w w' := by
  rcases Nat.eq_zero_or_pos n with hn | hn
  · subst hn
    refine (h0 rfl).mono ?_
    rintro e' w' ⟨rfl, rfl⟩
    exact ⟨rfl, h, .refl _, fun i j _ hj => absurd hj (Nat.not_lt_zero _), hO, Chg.refl _ _⟩
  · obtain ⟨b, hA, hB, hb, hH⟩ := holds_of_own hk hO hn
    have hsz : ((List.range n).map h).toArray.size = n := by simp
    have := hc b _ hsz hH hb
    rw [hsz, ← hA] at this
    refine this.mono ?_
    rintro e' w' ⟨rfl, d', m, os, hp, hs, rfl⟩
    have hd : d'.size = n := by rw [hp.1, hsz]
    refine ⟨rfl, fun i => d'[i]!, ?_, fun i j hij hj => hs i j (Nat.zero_le _) hij hj, own_sort hk hO hn hA hb d' hd m os, ?_⟩
    · have h3 := hp.2.2
      have e1 : (d'.extract 0 n).toList = (List.range n).map fun i => d'[i]! := by
        apply List.ext_getElem
        · simp [hd]
        · intro i g1 g2
          have hi : i < n := by simpa using g2
          simp [getElem!_pos d' i (by rw [hd]; exact hi)]
      have e2 : (((List.range n).map h).toArray.extract 0 n).toList = (List.range n).map h := by
        simp [List.take_of_length_le]
      rw [e1, e2] at h3
      exact h3
    · have hown : ownB (.slice A n c) = some b := by
        obtain ⟨b', hA', hb'⟩ := own_head hO hn
        rw [hA] at hA'
        injection hA' with hA'; injection hA' with hA'
        rw [hA']; exact hb'
      refine ⟨rfl, rfl, rfl, ?_, fun x hx hne => (heap_sort d' m os hb).2 x hx (fun e => hne (by rw [e]; exact hown))⟩
      exact size_sortWorldK_c (encV cells) k w b 0 m d' os
end
/-- an owned row is known, if its elements are -/
theorem own_known {m : Nat → Nat → Prop} {w : World} {B e k : Nat} {A : Option Addr} {n c : Nat} {f : Nat → List AV} (hO : Own w B e k (.slice A n c) n (rowFlat f n)) (hk : ∀ i, i < n → (f i).length = k) (hm : ∀ b, ownB (.slice A n c) = some b → ∀ o, ¬ m b o) (h1 : ∀ i, i < n → ∀ v ∈ f i, v.one = true ∧ Ok m w v) (g : Option Nat) : Ok m w (.sl g A n c k f) := by
  obtain ⟨A', c', he, h2, h3⟩ := hO.isSlice
  injection he with e1 e2 e3; subst e3
  refine .sl _ _ _ _ _ _ h2 h3 hk (fun i hi => ?_) (fun i hi => ?_) (fun i hi v hv => (h1 i hi v hv).1) (fun i hi v hv => (h1 i hi v hv).2)
  · obtain ⟨b, hA, _⟩ := own_head hO (by omega)
    exact ⟨b, 0, hA⟩
  · obtain ⟨b, hA, hb⟩ := own_head hO (by omega)
    intro j u hu
    have hj : j < k := by
      have := (List.getElem?_eq_some_iff.1 hu).1
      rwa [List.length_map, hk i hi] at this
    have hget := rowFlat_get (cells := f) hk hi hj
    rw [hu] at hget
    exact ⟨b, 0, hA, by rw [Nat.zero_add]; exact own_cells hO hb _ u hget, hm b hb _⟩
/-- the row that grew has been sorted: it grows no more -/
theorem Fits.sorted {m0 : Nat → Nat → Prop} {w0 : World} {S : Nat → Prop} {ds : List Deferred} {K : Kn} {nt key : Nat} {t : Gr} {l l' : List (Nat × AV)} {mem : List (Nat × Blk)} {a : Act} {w w' : World} (h : Fits ⟨m0, w0, S, ds, K⟩ ⟨nt, l, [], mem, [(key, t)]⟩ a w) (hc : Chg (fun x => ownB t.v = some x) w w')
    (hl : ∀ x, (look l' x).known = true → a.tmps[x]? = some (look l' x).den ∧ Ok (St.m ⟨nt, l', [], mem, []⟩ ⟨m0, w0, S, ds, noK⟩) w' (look l' x)) (hm : ∀ k e, lookM mem k = some e → ∀ v ∈ e.cells, Ok (St.m ⟨nt, l', [], mem, []⟩ ⟨m0, w0, S, ds, noK⟩) w' v) : Fits ⟨m0, w0, S, ds, noK⟩ ⟨nt, l', [], mem, []⟩ a w' := by
  have hlt : ∀ b, ownB t.v = some b → w0.heap.size ≤ b := fun b hb => by
    obtain ⟨_, xs, ho⟩ := h.gr key t (by simp [lookM])
    exact (ho.lt b hb).1
  refine ⟨h.size, h.defers, hl, (fun t p v hg => by cases hg), fun k e he => ?_, h.nodup, (fun k t ht => by cases ht), (fun k t k' e ht => by cases ht), (fun k t k' t' b ht => by cases ht), ?_, h.m0, trivial⟩
  · obtain ⟨h1, h2, h3⟩ := h.mem k e he
    refine ⟨?_, fun v hv => ⟨(h2 v hv).1, hm k e he v hv⟩, h3⟩
    rw [hc.block _ (lt_heap h1) (fun hb => h.sepm key t k e (by simp [lookM]) he hb)]
    exact h1
  · exact h.chg.trans hc fun k hk hb => absurd hk (Nat.not_lt.2 (hlt k hb))
theorem Fits.notM {m0 : Nat → Nat → Prop} {w0 : World} {S : Nat → Prop} {ds : List Deferred} {K : Kn} {nt key : Nat} {t : Gr} {l l' : List (Nat × AV)} {mem : List (Nat × Blk)} {a : Act} {w : World} (h : Fits ⟨m0, w0, S, ds, K⟩ ⟨nt, l, [], mem, [(key, t)]⟩ a w) : ∀ b, ownB t.v = some b → ∀ o, ¬ St.m ⟨nt, l', [], mem, []⟩ ⟨m0, w0, S, ds, noK⟩ b o := by
  intro b hb o hm
  obtain ⟨_, xs, ho⟩ := h.gr key t (by simp [lookM])
  have h1 := (ho.lt b hb).1
  rcases hm with hm | ⟨k, e, he, hm⟩ | ⟨k, t', ht, _⟩
  · exact absurd (h.m0 _ _ hm) (Nat.not_lt.2 h1)
  · subst hm
    exact h.sepm key t k e (by simp [lookM]) he hb
  · cases ht
end Go.Proofs.Ythpbihppfijegaa.Sym

namespace Go.Proofs.Ythpbihppfijegaa.Sym
open Go Go.RowKit
set_option linter.unusedVariables false
set_option linter.unusedSimpArgs false
set_option maxRecDepth 100000
set_option maxHeartbeats 1000000

def cmpI (x y : Int) : Int := if x < y then -1 else if y < x then 1 else 0
theorem cmpU_c (x y : Int) (w : World) : Calls Try.prog 37 #[.int .u64 x, .int .u64 y] w fun e w' => e = .returned (.int .i64 (cmpI x y)) ∧ w' = w := by
  have hn : ∀ (x : Int) (w : World), Calls Try.prog 49 #[.int .u64 x] w fun e w' => e = .returned (.bool false) ∧ w' = w := by
    intro x w
    go_enter Try.func49, Try.ntmps49
    go_wp2_with fail
    go_ret
    simp
  unfold cmpI
  go_enter Try.func37, Try.ntmps37
  go_wp2_with (go_at_call 49; refine (hn _ _).mono ?_; rintro e w' ⟨rfl, rfl⟩)
  all_goals (go_ret; exact ⟨rfl, rfl⟩)
theorem cmpN_c (x y : Int) (w : World) : Calls Try.prog 38 #[.int .i64 x, .int .i64 y] w fun e w' => e = .returned (.int .i64 (cmpI x y)) ∧ w' = w := by
  have hn : ∀ (x : Int) (w : World), Calls Try.prog 50 #[.int .i64 x] w fun e w' => e = .returned (.bool false) ∧ w' = w := by
    intro x w
    go_enter Try.func50, Try.ntmps50
    go_wp2_with fail
    go_ret
    simp
  unfold cmpI
  go_enter Try.func38, Try.ntmps38
  go_wp2_with (go_at_call 50; refine (hn _ _).mono ?_; rintro e w' ⟨rfl, rfl⟩)
  all_goals (go_ret; exact ⟨rfl, rfl⟩)
/-- the first that is not nought, of two -/
theorem or_c (b : Nat) (x y : Int) (w : World) (h0 : w.cell? ⟨b, 0, none⟩ = some (.int .i64 x)) (h1 : w.cell? ⟨b, 1, none⟩ = some (.int .i64 y)) : Calls Try.prog 36 #[.slice (some ⟨b, 0, none⟩) 2 2] w fun e w' => e = .returned (.int .i64 (if x ≠ 0 then x else y)) ∧ w' = w := by
  go_enter Try.func36, Try.ntmps36
  go_wp2_with fail
  refine wp_loop_rounds 3 ?_
  simp only [Code.rounds]
  go_wp2_with fail
  all_goals (go_ret; first | exact ⟨rfl, rfl⟩ | (exfalso; simp_all; done) | (refine ⟨?_, rfl⟩; simp_all; done))
/-- a world that has grown, and drawn -/
def GrF (W w : World) : Prop := ∃ q os, w = Go.Sort.grow (W.drewN q) os
theorem GrF.refl (W : World) : GrF W W := ⟨0, #[], by simp [Go.Sort.grow, World.drewN]⟩
theorem GrF.drew {W w : World} (h : GrF W w) : GrF W w.drew := by
  obtain ⟨q, os, rfl⟩ := h
  exact ⟨q + 1, os, rfl⟩
theorem GrF.alloc {W w : World} (h : GrF W w) (o : Obj) : GrF W (w.alloc o) := by
  obtain ⟨q, os, rfl⟩ := h
  exact ⟨q, os.push o, by simp [Go.Sort.grow, World.alloc, World.drewN]⟩
theorem GrF.size {W w : World} (h : GrF W w) : W.heap.size ≤ w.heap.size := by
  obtain ⟨q, os, rfl⟩ := h
  simp [Go.Sort.grow, World.drewN]
theorem cell_alloc {w : World} {a : Addr} {u : Value} (h : w.cell? a = some u) (o : Obj) : (w.alloc o).cell? a = some u := by
  have hl := World.block_lt_of_cell? w _ h
  unfold World.cell? at h ⊢
  rw [Below.heap_alloc _ _ _ hl]; exact h
theorem cell_drew {w : World} {a : Addr} {u : Value} (h : w.cell? a = some u) : w.drew.cell? a = some u := h
theorem new2_0 (w : World) (x y : Value) (t : TypeId) : (w.alloc (.cells #[x, y] t)).cell? ⟨w.heap.size, 0, none⟩ = some x := cell_of_row _ _ 0 _ _ _ (heap_alloc_new w _)
theorem new2_1 (w : World) (x y : Value) (t : TypeId) : (w.alloc (.cells #[x, y] t)).cell? ⟨w.heap.size, 1, none⟩ = some y := cell_of_row _ _ 1 _ _ _ (heap_alloc_new w _)
theorem size_alloc {n : Nat} {w : World} (h : n ≤ w.heap.size) (o : Obj) : n ≤ (w.alloc o).heap.size := by simp; omega
def cmpLab (a b : Lab) : Int := if cmpI a.bits b.bits ≠ 0 then cmpI a.bits b.bits else cmpI a.len b.len
theorem rowCmp_c (a b : RowA) (W : World) : Calls Try.prog 35 #[.agg ((rowC a).map AV.den).toArray, .agg ((rowC b).map AV.den).toArray] W fun e w' => e = .returned (.int .i64 (cmpLab a.lab b.lab)) ∧ GrF W w' := by
  obtain ⟨⟨al, ab⟩, av, ⟨aA, ac, ⟨an, af, ak, ⟨anl, anb⟩, am⟩⟩⟩ := a
  obtain ⟨⟨bl, bb⟩, bv, ⟨bA, bc, ⟨bn, bf, bk, ⟨bnl, bnb⟩, bm⟩⟩⟩ := b
  simp only [rowC, List.map_cons, List.map_nil, AV.den, cmpLab]
  have hU := fun w => cmpU_c ab bb w
  have hN := fun w => cmpN_c al bl w
  generalize cmpI ab bb = x at hU ⊢
  generalize cmpI al bl = y at hN ⊢
  have hO := fun b w h0 h1 => or_c b x y w h0 h1
  generalize (if x ≠ 0 then x else y) = r at hO ⊢
  go_enter Try.func35, Try.ntmps35
  go_wp2_with fail
  obtain ⟨W5, hW5⟩ : ∃ W5, W5 = (W.alloc (.cells #[.int .i64 al, .int .u64 ab, .int .u64 av, .int .i64 ak, .slice aA an ac, .int .i64 anl, .int .u64 anb, .int .u64 am] 61)).alloc (.cells #[.int .i64 bl, .int .u64 bb, .int .u64 bv, .int .i64 bk, .slice bA bn bc, .int .i64 bnl, .int .u64 bnb, .int .u64 bm] 61) := ⟨_, rfl⟩
  have hG : GrF W W5 := by rw [hW5]; exact ((GrF.refl W).alloc _).alloc _
  have hs : W5.heap.size = W.heap.size + 1 + 1 := by rw [hW5]; simp
  have z0 : W5.heap[W.heap.size]? = some (.cells #[.int .i64 al, .int .u64 ab, .int .u64 av, .int .i64 ak, .slice aA an ac, .int .i64 anl, .int .u64 anb, .int .u64 am] 61 (0, 0)) := by
    rw [hW5, Below.heap_alloc _ _ _ (by simp)]; exact heap_alloc_new W _
  have z1 : W5.heap[W.heap.size + 1]? = some (.cells #[.int .i64 bl, .int .u64 bb, .int .u64 bv, .int .i64 bk, .slice bA bn bc, .int .i64 bnl, .int .u64 bnb, .int .u64 bm] 61 (0, 0)) := by
    have := heap_alloc_new (W.alloc (.cells #[.int .i64 al, .int .u64 ab, .int .u64 av, .int .i64 ak, .slice aA an ac, .int .i64 anl, .int .u64 anb, .int .u64 am] 61)) (.cells #[.int .i64 bl, .int .u64 bb, .int .u64 bv, .int .i64 bk, .slice bA bn bc, .int .i64 bnl, .int .u64 bnb, .int .u64 bm] 61)
    rw [hW5]; simpa using this
  have c0 : W5.cell? ⟨W.heap.size, 0, none⟩ = some (.int .i64 al) := cell_of_row W5 _ 0 _ _ _ z0
  have c1 : W5.cell? ⟨W.heap.size, 1, none⟩ = some (.int .u64 ab) := cell_of_row W5 _ 1 _ _ _ z0
  have c2 : W5.cell? ⟨W.heap.size + 1, 0, none⟩ = some (.int .i64 bl) := cell_of_row W5 _ 0 _ _ _ z1
  have c3 : W5.cell? ⟨W.heap.size + 1, 1, none⟩ = some (.int .u64 bb) := cell_of_row W5 _ 1 _ _ _ z1
  clear z0 z1
  rw [← hW5]
  clear hW5
  clear hs
  go_region_held3 (fun w' => w'.cell? ⟨W.heap.size, 0, none⟩ = some (.int .i64 al) ∧ w'.cell? ⟨W.heap.size, 1, none⟩ = some (.int .u64 ab) ∧ w'.cell? ⟨W.heap.size + 1, 0, none⟩ = some (.int .i64 bl) ∧ w'.cell? ⟨W.heap.size + 1, 1, none⟩ = some (.int .u64 bb) ∧ W5.heap.size ≤ w'.heap.size ∧ GrF W w')
    ((go_split_ands; (repeat' apply And.intro) <;> first | with_reducible assumption | with_reducible exact GrF.drew (by assumption) | with_reducible exact GrF.alloc (by assumption) _ | with_reducible exact GrF.drew (GrF.alloc (by assumption) _) | with_reducible exact cell_alloc (by assumption) _ | with_reducible exact size_alloc (by assumption) _ | go_keep))
    (first | (go_at_call 37; refine (hU _).mono ?_; rintro e w' ⟨rfl, rfl⟩) | (go_at_call 38; refine (hN _).mono ?_; rintro e w' ⟨rfl, rfl⟩) | (go_at_call 36; refine (hO _ _ (by first | exact new2_0 _ _ _ _ | exact cell_drew (new2_0 _ _ _ _)) (by first | exact new2_1 _ _ _ _ | exact cell_drew (new2_1 _ _ _ _))).mono ?_; rintro e w' ⟨rfl, rfl⟩))
  all_goals (go_wp2_with fail; go_ret; exact ⟨rfl, by first | exact (hG.alloc _).drew | exact hG.alloc _⟩)
end Go.Proofs.Ythpbihppfijegaa.Sym

namespace Go.Proofs
open Go.Shelf
def Try.sortRow_ren : Go.Shelf.Ren := ⟨fun | 6 => 34 | 15 => 48 | 14 => 47 | 28 => 61 | 29 => 62 | 20 => 53 | 21 => 54 | 22 => 55 | 23 => 56 | 24 => 57 | 25 => 58 | 26 => 59 | 27 => 60 | 46 => 63 | 47 => 64 | 48 => 65 | 49 => 66 | 50 => 67 | 57 => 68 | n => n, fun | 22 => 22 | 24 => 61 | 25 => 85 | 3 => 3 | 39 => 97 | 0 => 0 | 53 => 110 | 55 => 33 | 4 => 4 | 46 => 104 | 45 => 103 | 50 => 74 | 5 => 5 | 9 => 9 | 66 => 112 | 70 => 116 | 76 => 118 | 77 => 119 | n => n, fun | n => n⟩
theorem Try.sortRow : Go.Proofs.SlLaysF0.n6 Try.prog Try.sortRow_ren := {
  mixed := by kernel_rfl
  f6 := ⟨Try.f34.name, by decide, Try.func34.trans (congrArg some (by kernel_rfl))⟩
  f14 := ⟨Try.f47.name, by decide, Try.func47.trans (congrArg some (by kernel_rfl))⟩
  f15 := Try.func48.trans (congrArg some (by kernel_rfl))
  f20 := ⟨Try.f53.name, by decide, Try.func53.trans (congrArg some (by kernel_rfl))⟩
  f21 := ⟨Try.f54.name, by decide, Try.func54.trans (congrArg some (by kernel_rfl))⟩
  f22 := ⟨Try.f55.name, by decide, Try.func55.trans (congrArg some (by kernel_rfl))⟩
  f23 := ⟨Try.f56.name, by decide, Try.func56.trans (congrArg some (by kernel_rfl))⟩
  f24 := ⟨Try.f57.name, by decide, Try.func57.trans (congrArg some (by kernel_rfl))⟩
  f25 := ⟨Try.f58.name, by decide, Try.func58.trans (congrArg some (by kernel_rfl))⟩
  f26 := ⟨Try.f59.name, by decide, Try.func59.trans (congrArg some (by kernel_rfl))⟩
  f27 := ⟨Try.f60.name, by decide, Try.func60.trans (congrArg some (by kernel_rfl))⟩
  f28 := Try.func61.trans (congrArg some (by kernel_rfl))
  f29 := Try.func62.trans (congrArg some (by kernel_rfl))
  f46 := ⟨Try.f63.name, by decide, Try.func63.trans (congrArg some (by kernel_rfl))⟩
  f47 := Try.func64.trans (congrArg some (by kernel_rfl))
  f48 := Try.func65.trans (congrArg some (by kernel_rfl))
  f49 := ⟨Try.f66.name, by decide, Try.func66.trans (congrArg some (by kernel_rfl))⟩
  f50 := ⟨Try.f67.name, by decide, Try.func67.trans (congrArg some (by kernel_rfl))⟩
  f57 := ⟨Try.f68.name, by decide, Try.func68.trans (congrArg some (by kernel_rfl))⟩
  t0 := Try.underlying0
  a0 := Try.isAgg0
  z0 := Try.sizeOf0
  v0 := Try.zeroValue0
  t3 := Try.underlying3
  a3 := Try.isAgg3
  z3 := Try.sizeOf3
  v3 := Try.zeroValue3
  t4 := Try.underlying4
  a4 := Try.isAgg4
  z4 := Try.sizeOf4
  v4 := Try.zeroValue4
  t5 := Try.underlying5
  a5 := Try.isAgg5
  z5 := Try.sizeOf5
  v5 := Try.zeroValue5
  t9 := Try.underlying9
  a9 := Try.isAgg9
  z9 := Try.sizeOf9
  v9 := Try.zeroValue9
  t22 := Try.underlying22
  a22 := Try.isAgg22
  z22 := Try.sizeOf22
  v22 := Try.zeroValue22
  t25 := Try.underlying85
  a25 := Try.isAgg85
  z25 := Try.sizeOf85
  v25 := Try.zeroValue85
  t39 := Try.underlying97
  a39 := Try.isAgg97
  z39 := Try.sizeOf97
  v39 := Try.zeroValue97
  t45 := Try.underlying103
  a45 := Try.isAgg103
  z45 := Try.sizeOf103
  v45 := Try.zeroValue103
  t46 := Try.underlying104
  a46 := Try.isAgg104
  z46 := Try.sizeOf104
  v46 := Try.zeroValue104
  t50 := Try.underlying74
  a50 := Try.isAgg74
  z50 := Try.sizeOf74
  v50 := Try.zeroValue74
  t53 := Try.underlying110
  a53 := Try.isAgg110
  z53 := Try.sizeOf110
  v53 := Try.zeroValue110
  t55 := Try.underlying33
  a55 := Try.isAgg33
  z55 := Try.sizeOf33
  v55 := Try.zeroValue33
  t66 := Try.underlying112
  a66 := Try.isAgg112
  z66 := Try.sizeOf112
  v66 := Try.zeroValue112
  t70 := Try.underlying116
  a70 := Try.isAgg116
  z70 := Try.sizeOf116
  v70 := Try.zeroValue116
  t76 := Try.underlying118
  a76 := Try.isAgg118
  z76 := Try.sizeOf118
  v76 := Try.zeroValue118
  t77 := Try.underlying119
  a77 := Try.isAgg119
  z77 := Try.sizeOf119
  v77 := Try.zeroValue119 }
end Go.Proofs

namespace Go.Proofs.Ythpbihppfijegaa.Sym
open Go Go.RowKit Go.Sort
set_option linter.unusedVariables false
set_option linter.unusedSimpArgs false
set_option maxRecDepth 100000
set_option maxHeartbeats 1000000
instance : Inhabited RowA := ⟨zRow⟩
def labLt (a b : Lab) : Bool := decide (cmpLab a b < 0)
theorem labLt_iff (a b : Lab) : labLt a b = true ↔ a.bits < b.bits ∨ (a.bits = b.bits ∧ a.len < b.len) := by
  unfold labLt cmpLab cmpI
  rw [decide_eq_true_iff]
  split <;> rename_i h <;> (repeat' split at h) <;> (repeat' split) <;> omega
theorem labLt_not (a b : Lab) : labLt a b = false ↔ ¬ (a.bits < b.bits ∨ (a.bits = b.bits ∧ a.len < b.len)) := by
  rw [← labLt_iff]; simp
def cfRow (x y : RowA) : Int := cmpLab x.lab y.lab
theorem cfRow_lt (x y : RowA) : ltOf cfRow x y = labLt x.lab y.lab := rfl
theorem swoRow : SWO (ltOf cfRow) := by
  refine ⟨fun x => ?_, fun x y z h1 h2 => ?_, fun x y z h1 h2 => ?_⟩
  · rw [cfRow_lt, labLt_not]; omega
  · rw [cfRow_lt, labLt_iff] at *; omega
  · rw [cfRow_lt, labLt_not] at *; omega
theorem rowC_len (x : RowA) : ((rowC x).map AV.den).length = 8 := rfl
theorem sortRow_c {n B e : Nat} {A : Option Addr} {c : Nat} {h : Nat → RowA} {w : World} (hO : Own w B e 8 (.slice A n c) n (rowFlat (fun t => rowC (h t)) n)) (hn : n < 4611686018427387904) :
    Calls Try.prog 34 #[.slice A n c, .func (.func 35) #[] #[]] w fun e' w' => e' = .returned (.tuple #[]) ∧ ∃ h' : Nat → RowA, ((List.range n).map h').Perm ((List.range n).map h) ∧ (∀ i j, i < j → j < n → labLt (h' j).lab (h' i).lab = false) ∧ Own w' B e 8 (.slice A n c) n (rowFlat (fun t => rowC (h' t)) n) ∧ Chg (fun x => ownB (.slice A n c) = some x) w w' := by
  refine sorted_c (cells := rowC) (lt := ltOf cfRow) (k := 8) (fun _ => rfl) hO (fun b d hd hH hb => ?_) (fun h0 => ?_)
  · have eg : ∀ args w, (callFunc 35 args).run Try.prog w = .ok (.enter 35 args) w := enters_of Try.func35 (by kernel_rfl) rfl
    have hcmp : CmpLays Try.prog 35 #[] (encV rowC) 8 cfRow b 0 d.size w := by
      intro m os dk hdk x y
      refine (rowCmp_c x y _).mono ?_
      rintro e w' ⟨rfl, q, os', rfl⟩
      exact ⟨rfl, q, os', rfl⟩
    have := AnyQ.slices_SortFunc Try.sortRow 8 (fun _ => by kernel_rfl) (fun _ => by kernel_rfl) (encV rowC) (fun _ => rfl) (fun x v hv => by
      simp only [encV, rowC, List.map_cons, List.map_nil, AV.den, List.mem_cons, List.not_mem_nil, or_false] at hv
      rcases hv with rfl | rfl | rfl | rfl | rfl | rfl | rfl | rfl <;> rfl) cfRow swoRow 35 #[] b 0 c d w eg hcmp hH hb (by omega)
    exact this
  · exact AnyF.slices_SortFunc_none (P := Try.prog) (ρ := Try.sortRow_ren) { Try.sortRow with } A c _ w
end Go.Proofs.Ythpbihppfijegaa.Sym

namespace Go.Proofs.Ythpbihppfijegaa.Sym
open Go Go.RowKit
set_option linter.unusedVariables false
set_option linter.unusedSimpArgs false
set_option maxRecDepth 100000

section
variable {m0 : Nat → Nat → Prop} {w0 : World} {S : Nat → Prop} {ds : List Deferred} {K : Kn} {P : Program} {Q : Exit → Act → World → Prop} {ops : Array Oper} {s : St} {a : Act} {w : World} {L rest : List Oper} {o : Oper}
open Go.Maps in
/-- a range's step, both outcomes told at once -/
theorem man_next1 {it : Operand} {k : TypeId} {d b r n cnt : Nat} {D : DataW Value} {left : Lit → Bool} (hL : L = o :: rest) (hg : o.guard = none) (hop : o.op = .next it false) (hdst : o.dst = some d) (h : Fits ⟨m0, w0, S, ds, K⟩ s a w) (hd : d < s.nt) (hit : val s [] it = .raw (.pointer (some ⟨r, 0, none⟩)))
    (Kd : Keyed P k) (hM : w.ranges P k hR b r n D left cnt) (hC : r < w0.heap.size → S r)
    (K1 : Bool → Value → Value → Lit → Nat → Kn) (hK0 : ∀ m, K.p m w → (∀ kl, left kl = false) → (K1 false (.bool false) (.bool false) (.bool false) 0).p m w) (hK1 : ∀ key v kl cnt' m w', K.p m w → KeepB (some r) w m w' m → w'.ranges P k hR b r n D (fun x => left x && !x.sameKey kl) cnt' → EntryAt P w' r key v → (K1 true key v kl cnt').p m w')
    (K' : ∀ a' w' bb rest' key v kl cnt', (bb = false → ∀ kl, left kl = false) → (bb = true → Go.keyOf P k key = some kl ∧ left kl = true ∧ (∀ zd, D.atKey kl zd = .held v) ∧ cnt' < cnt) → Fits ⟨m0, w0, S, ds, K1 bb key v kl cnt'⟩ (s.put (some d) (.tup (.bool (.v bb) :: rest'))) a' w' → wpList P ops Q rest a' w') : wpList P ops Q L a w := by
  have hiv := (val_ok h (q := []) (fun _ h => by cases h) (x := it) (by rw [hit]; rfl)).1
  rw [hit] at hiv
  have hr0 : ∃ o', w.heap[r]? = some o' ∧ ∀ c t f, o' ≠ Obj.cells c t f := by
    obtain ⟨es, clock, since, seen, c0, _, _, _, _, hr, _⟩ := hM
    exact ⟨_, hr, fun c t f e => by cases e⟩
  obtain ⟨o', hr, hro⟩ := hr0
  refine man_op hL hg ?_
  unfold Oper.wp
  rcases hM.next Kd o.type with ⟨h0, hl, hrun⟩ | ⟨key, v, kl, y, w', cnt', hkey, hlk, hv, hat, hrun, hrg, hlt, hgr, hsz, hen⟩
  · have e1 : (execOp a.eval o).run P w = .ok (.value (.tuple #[.bool false])) w := by simp [execOp, hop, hiv, hrun, Result.andThen, AV.den]
    rw [e1]
    simp only [Oper.upon]
    rw [hdst]
    exact K' _ _ false [] (.bool false) (.bool false) (.bool false) 0 (fun _ => hl) (fun h => by cases h) ((h.withK (hK0 _ h.kept hl)).put (some d) (fun t ht => by injection ht with ht; subst ht; exact hd) (.tup [.bool (.v false)]) (fun _ => .tup _ fun u hu => by simp at hu; subst hu; exact .bool _) _ fun _ => rfl)
  · have e1 : (execOp a.eval o).run P w = .ok (.value (.tuple #[.bool true, key, v])) w' := by simp [execOp, hop, hiv, hrun, Result.andThen, AV.den]
    rw [e1]
    simp only [Oper.upon]
    rw [hdst]
    have hv' : y.1 = .held v := by unfold hR at hv; injection hv with hv; rw [← hv]
    have hea : EntryAt P w' r key v := by
      obtain ⟨es, clock, since, seen, c0, hb', _, _, _, hr', _⟩ := hrg
      exact ⟨⟨_, _, _, _, _, _, hr', hb'⟩, hen⟩
    have h2 := h.turn hr hro hgr hC (hK1 key v kl cnt' _ _ h.kept (turn_keepB hr hro hgr) hrg hea)
    refine K' _ _ true [.raw key, .raw v] key v kl cnt' (fun h => by cases h) (fun _ => ⟨hkey, hlk, fun zd => (hat zd).trans hv', hlt⟩) (h2.put (some d) (fun t ht => by injection ht with ht; subst ht; exact hd) (.tup [.bool (.v true), .raw key, .raw v]) (fun _ => .tup _ fun u hu => ?_) _ fun _ => rfl)
    simp only [List.mem_cons, List.not_mem_nil, or_false] at hu
    rcases hu with rfl | rfl | rfl
    · exact .bool _
    · exact .raw _
    · exact .raw _
/-- an owned row's cells are what is known of it -/
theorem own_flat {m : Nat → Nat → Prop} {w : World} {B e k : Nat} {g : Option Nat} {A : Option Addr} {n c : Nat} {f : Nat → List AV} {xs : List Value} (hO : Own w B e k (.slice A n c) n xs) (hk : Ok m w (.sl g A n c k f)) : xs = rowFlat f n := by
  cases hk with
  | sl _ _ _ _ _ _ h1 h2 h3 h4 h5 h6 h7 =>
    have hl1 := hO.1
    have hl2 := rowFlat_len (cells := f) (k := k) (n := n) h3
    apply List.ext_getElem
    · rw [hl1, hl2]
    · intro t g1 g2
      have ht : t < n * k := by rw [hl1] at g1; exact g1
      have hk0 : 0 < k := by rcases Nat.eq_zero_or_pos k with h0 | h0; rw [h0] at ht; omega; exact h0
      obtain ⟨i, j, hj, rfl⟩ : ∃ i j, j < k ∧ t = i * k + j := ⟨t / k, t % k, Nat.mod_lt _ hk0, by rw [Nat.mul_comm]; exact (Nat.div_add_mod t k).symm⟩
      have hi : i < n := by
        refine Nat.lt_of_not_le fun hle => ?_
        have := Nat.mul_le_mul_right k hle
        omega
      obtain ⟨b, hA, hb⟩ := own_head hO (by omega)
      have e1 := own_cells hO hb (i * k + j) _ (List.getElem?_eq_getElem g1)
      have hjl : j < ((f i).map AV.den).length := by rw [List.length_map, h3 i hi]; exact hj
      obtain ⟨b', off, hA', e2, _⟩ := h5 i hi j _ (List.getElem?_eq_getElem hjl)
      have hg := rowFlat_get (cells := f) h3 hi hj
      rw [List.getElem?_eq_getElem g2, List.getElem?_eq_getElem hjl] at hg
      rw [hA] at hA'
      injection hA' with hA'; injection hA' with q1 q2
      subst q1; subst q2
      rw [Nat.zero_add] at e2
      rw [e1] at e2
      injection e2 with e2
      injection hg with hg
      rw [e2, hg]
/-- the sort by hand -/
theorem man_sorted {nt key d : Nat} {t : Gr} {l : List (Nat × AV)} {mem : List (Nat × Blk)} {c : Call} {g : Operand} {f : FuncId} {args : List AV} (hL : L = o :: rest) (hg : o.guard = none) (hop : o.op = .call c) (hcal : c.callee = .value g) (hdst : o.dst = some d) (h : Fits ⟨m0, w0, S, ds, K⟩ ⟨nt, l, [], mem, [(key, t)]⟩ a w) (hgv : val ⟨nt, l, [], mem, [(key, t)]⟩ [] g = .fn f [] []) (hl : vals ⟨nt, l, [], mem, [(key, t)]⟩ [] c.args.toList = some args) (hen : Enters P f)
    (R : World → Prop) (hc : Calls P f (args.map AV.den).toArray w fun e w' => e = .returned (.tuple #[]) ∧ R w' ∧ Chg (fun x => ownB t.v = some x) w w')
    (K' : ∀ w', R w' → Chg (fun x => ownB t.v = some x) w w' → wpList P ops Q rest (a.put (some d) (.tuple #[])) w') : wpList P ops Q L a w := by
  refine man_op hL hg ?_
  obtain ⟨hrun, _⟩ := call_run hop hcal h hgv hl hen
  unfold Oper.wp
  rw [hrun]
  simp only [Oper.upon]
  simp only [List.nil_append, List.append_nil]
  refine hc.mono ?_
  rintro e w' ⟨rfl, h1, h2⟩
  rw [hdst]
  exact K' w' h1 h2
end
/-! ### what a range over a shelf's map knows -/
def rngK (D : DataW Value) (E : Adr) (b r : Nat) (L : Shf) (left : Lit → Bool) (cnt : Nat) : Kn := ⟨fun m w => ShD D E b L m w ∧ w.ranges Try.prog 36 hR b r L.length D left cnt, fun k h => ⟨h.1.keep k, ranges_keep k h.2⟩⟩
def stpK (D : DataW Value) (E : Adr) (b r : Nat) (L : Shf) (left : Lit → Bool) (bb : Bool) (key v : Value) (kl : Lit) (cnt : Nat) : Kn := ⟨fun m w => ShD D E b L m w ∧ (bb = true → w.ranges Try.prog 36 hR b r L.length D (fun x => left x && !x.sameKey kl) cnt ∧ EntryAt Try.prog w r key v), fun k h => ⟨h.1.keep k, fun hb => ⟨ranges_keep k (h.2 hb).1, entry_keep k (h.2 hb).2⟩⟩⟩
def entK (D : DataW Value) (E : Adr) (b r : Nat) (L : Shf) (left : Lit → Bool) (key v : Value) (cnt : Nat) : Kn := ⟨fun m w => ShD D E b L m w ∧ w.ranges Try.prog 36 hR b r L.length D left cnt ∧ EntryAt Try.prog w r key v, fun k h => ⟨h.1.keep k, ranges_keep k h.2.1, entry_keep k h.2.2⟩⟩
/-- the entry that comes is a label's -/
theorem ShD.entry {D : DataW Value} {E : Adr} {b : Nat} {L : Shf} {m : Nat → Nat → Prop} {w : World} (h : ShD D E b L m w) {key v : Value} {kl : Lit} (hk : Go.keyOf Try.prog 36 key = some kl) (hh : Maps.has D kl = true) (ha : ∀ zd, D.atKey kl zd = .held v) : ∃ p ∈ L, keyL p.1 = kl ∧ key = (labAV p.1).den ∧ v = (AV.agg (elC (elA E p.1 p.2))).den := by
  obtain ⟨p, hp, he⟩ := (h.has kl).1 hh
  refine ⟨p, hp, he, ?_, ?_⟩
  · exact labK.inj hk (he ▸ key_lab (h.labs p hp))
  · have h1 := h.at_ p hp (.held v)
    rw [he, ha] at h1
    injection h1
/-! ### plain -/
def rowOf (p : Lab × Spo) : Rw := ⟨p.1, p.2.ver, p.2.r⟩
theorem rowsL_eq (L : Shf) : rowsL L = (L.filter (fun p => p.2.has)).map rowOf := rfl
theorem rowsL_cons (p : Lab × Spo) (L : Shf) : rowsL (p :: L) = (if p.2.has then [rowOf p] else []) ++ rowsL L := by
  unfold rowsL
  rw [List.filter_cons]
  split <;> rfl
theorem rowsL_perm {L M : Shf} (h : L.Perm M) : (rowsL L).Perm (rowsL M) := (h.filter _).map _
theorem rowsL_len (L : Shf) : (rowsL L).length ≤ L.length := by
  rw [rowsL_eq, List.length_map]; exact List.length_filter_le _ _
theorem same_refl (l : Lab) : (keyL l).sameKey (keyL l) = true := by simp [keyL, Lit.sameKey]
theorem same_iff {l l' : Lab} (h : LabOk l) (h' : LabOk l') : (keyL l).sameKey (keyL l') = decide (l = l') := by
  by_cases he : l = l'
  · subst he; rw [same_refl, decide_eq_true rfl]
  · rw [decide_eq_false he]
    have : keyL l ≠ keyL l' := fun e => he (keyL_inj h h' e)
    unfold keyL at this ⊢
    simp only [Lit.sameKey]
    simpa using this
/-- one that comes is taken out of those that are left -/
theorem left_step {left : Lit → Bool} {p : Lab × Spo} : ∀ {L : Shf}, Rises L → (∀ q ∈ L, LabOk q.1) → p ∈ L → left (keyL p.1) = true →
    (L.filter fun q => left (keyL q.1)).Perm (p :: L.filter fun q => left (keyL q.1) && !(keyL q.1).sameKey (keyL p.1))
  | q :: L, hr, hl, hp, h1 => by
    have hr' := List.pairwise_cons.1 hr
    rcases List.mem_cons.1 hp with rfl | hp
    · rw [List.filter_cons, if_pos h1, List.filter_cons, same_refl]
      simp only [Bool.not_true, Bool.and_false, Bool.false_eq_true, if_false]
      refine List.Perm.cons _ ?_
      have : ∀ q ∈ L, (left (keyL q.1)) = (left (keyL q.1) && !(keyL q.1).sameKey (keyL p.1)) := by
        intro q hq
        rw [same_iff (hl q (by simp [hq])) (hl p (by simp)), decide_eq_false (fun e => less_ne (hr'.1 q hq) e.symm)]
        simp
      rw [List.filter_congr this]
    · have hne : q.1 ≠ p.1 := less_ne (hr'.1 p hp)
      have ih := left_step hr'.2 (fun q hq => hl q (by simp [hq])) hp h1
      rw [List.filter_cons, List.filter_cons, same_iff (hl q (by simp)) (hl p (by simp [hp])), decide_eq_false hne]
      simp only [Bool.not_false, Bool.and_true]
      split
      · exact (List.Perm.cons _ ih).trans (List.Perm.swap _ _ _)
      · exact ih
theorem rows_step {left : Lit → Bool} {p : Lab × Spo} {L : Shf} (hr : Rises L) (hl : ∀ q ∈ L, LabOk q.1) (hp : p ∈ L) (h1 : left (keyL p.1) = true) {R : List Rw} (h : (R ++ rowsL (L.filter fun q => left (keyL q.1))).Perm (rowsL L)) :
    ((R ++ if p.2.has = true then [rowOf p] else []) ++ rowsL (L.filter fun q => left (keyL q.1) && !(keyL q.1).sameKey (keyL p.1))).Perm (rowsL L) := by
  refine List.Perm.trans ?_ h
  rw [List.append_assoc]
  refine List.Perm.append_left _ ?_
  have := rowsL_perm (left_step hr hl hp h1)
  rw [rowsL_cons] at this
  exact this.symm
theorem rowsL_mem {L : Shf} {x : Rw} (h : x ∈ rowsL L) : ∃ p ∈ L, p.2.has = true ∧ rowOf p = x := by
  rw [rowsL_eq] at h
  obtain ⟨p, hp, he⟩ := List.mem_map.1 h
  have := List.mem_filter.1 hp
  exact ⟨p, this.1, this.2, he⟩
theorem rowsL_rises {L : Shf} (h : Rises L) : (rowsL L).Pairwise fun a b => lessL a.lab b.lab = true := by
  rw [rowsL_eq, List.pairwise_map]
  exact (List.Pairwise.filter _ h)
theorem labLt_less (a b : Lab) : labLt a b = lessL a b := by
  rw [Bool.eq_iff_iff, labLt_iff]
  simp [lessL]
def leRw (a b : Rw) : Prop := labLt b.lab a.lab = false
/-- sorted, the rows are the shelf's -/
theorem rows_sorted {L : Shf} (hr : Rises L) {R : List Rw} (hp : R.Perm (rowsL L)) (hs : R.Pairwise leRw) : R = rowsL L := by
  refine List.Perm.eq_of_pairwise (le := leRw) ?_ hs ?_ hp
  · intro a b ha hb h1 h2
    have hl : a.lab = b.lab := by
      unfold leRw at h1 h2
      rw [labLt_less] at h1 h2
      rcases less_total a.lab b.lab with h | h | h
      · rw [h] at h2; cases h2
      · exact h
      · rw [h] at h1; cases h1
    obtain ⟨p, hp1, _, rfl⟩ := rowsL_mem (hp.mem_iff.1 ha)
    obtain ⟨q, hq1, _, rfl⟩ := rowsL_mem hb
    have e1 := mem_find hr hp1
    have e2 := mem_find hr hq1
    have hl' : p.1 = q.1 := hl
    rw [hl', e2] at e1
    injection e1 with e1
    have : p = q := Prod.ext hl' e1.symm
    rw [this]
  · refine (rowsL_rises hr).imp ?_
    intro a b h
    unfold leRw
    rw [labLt_less]
    rcases hx : lessL b.lab a.lab with _ | _
    · rfl
    · have := less_trans h hx
      rw [less_irr] at this; cases this
/-- the sorted rows are the shelf's -/
theorem rows_fin {L : Shf} (hr : Rises L) {h h' : Nat → RowA} {k : Nat} (hp : (rwsA h k).Perm (rowsL L)) (hp' : ((List.range k).map h').Perm ((List.range k).map h)) (hs : ∀ i j, i < j → j < k → labLt (h' j).lab (h' i).lab = false) : rwsA h' k = rowsL L := by
  refine rows_sorted hr ?_ ?_
  · refine List.Perm.trans ?_ hp
    have := hp'.map RowA.abs
    simp only [List.map_map] at this
    exact this
  · rw [List.pairwise_iff_getElem]
    intro i j hi hj hij
    have hj' : j < k := by rw [listA_len] at hj; exact hj
    have hi' : i < k := by omega
    have e : ∀ t (g : t < (rwsA h' k).length), t < k → (rwsA h' k)[t] = (h' t).abs := by
      intro t g ht
      have := listA_get RowA.abs h' ht
      rw [List.getElem?_eq_getElem g] at this
      exact Option.some.inj this
    rw [e i hi hi', e j hj hj']
    exact hs i j hij hj'
theorem one_of_el {m : Nat → Nat → Prop} {w : World} {el : SpA} (h : Ok m w (.agg (elC el))) : ∀ v ∈ rowC el.w, v.one = true ∧ Ok m w v := by
  cases h with
  | agg _ h1 h2 =>
    intro v hv
    simp only [rowC, List.mem_cons, List.not_mem_nil, or_false] at hv
    rcases hv with rfl | rfl | rfl | rfl | rfl | rfl | rfl | rfl
    · exact ⟨rfl, .int _ _⟩
    · exact ⟨rfl, .int _ _⟩
    · exact ⟨rfl, .int _ _⟩
    · exact ⟨rfl, .int _ _⟩
    · exact ⟨h1 _ (by simp [elC]), h2 _ (by simp [elC])⟩
    · exact ⟨rfl, .int _ _⟩
    · exact ⟨rfl, .int _ _⟩
    · exact ⟨rfl, .int _ _⟩
/-- what was known at the function's entry is known behind the sort -/
theorem sorted_ok {m : Nat → Nat → Prop} {w w1 w' : World} {pre : List (Nat × Blk)} {ds : List Deferred} {K : Kn} {nt key : Nat} {t : Gr} {l l' : List (Nat × AV)} {mem : List (Nat × Blk)} {a : Act} (h : Fits ⟨m, w, ats pre, ds, K⟩ ⟨nt, l, [], mem, [(key, t)]⟩ a w1) (hp : PreOk m w pre) (hc : Chg (fun x => ownB t.v = some x) w1 w') {v : AV} (hv : Ok m w v) : Ok (St.m ⟨nt, l', [], mem, []⟩ ⟨m, w, ats pre, ds, noK⟩) w' v := by
  refine hv.mono fun b o u hcell hn => ?_
  have hlt := World.block_lt_of_cell? w _ hcell
  have hna : ¬ ats pre b := by
    rintro ⟨e, he, rfl⟩
    exact hn (hp.free e he o)
  have hown : ownB t.v ≠ some b := by
    intro hb
    obtain ⟨_, xs, ho⟩ := h.gr key t (by simp [lookM])
    exact absurd hlt (Nat.not_lt.2 (ho.lt b hb).1)
  refine ⟨?_, ?_⟩
  · have e1 := h.chg.block b hlt hna
    have e2 := hc.block b (Nat.lt_of_lt_of_le hlt h.chg.size) hown
    unfold World.cell? at hcell ⊢
    rw [e2, e1]; exact hcell
  · rintro (h1 | ⟨k, e, he, h1⟩ | ⟨k, t', ht, _⟩)
    · exact hn h1
    · subst h1
      rcases (h.mem k e he).2.2 with h2 | h2
      · exact absurd hlt (Nat.not_lt.2 h2)
      · exact hna h2
    · cases ht
theorem SpecR.re {P : Program} {K : Kn} {f : FuncId} {args args' : List AV} {pre pre' : List (Nat × Blk)} {res res' : Atom → AV} (h : SpecR P K f args pre res) (ha : SimL args' args) (hp : pre'.map (·.2) = pre.map (·.2)) (hr : ∀ x, Sim (res x) (res' x)) : SpecR P K f args' pre' res' := by
  intro m w h1 h2 h3 hI
  rw [ha.map]
  refine (h m w h1 (ha.ok h2) (h3.re hp.symm) hI).mono ?_
  rintro e w' ⟨x, rfl, hok, hl⟩
  exact ⟨x, by rw [(hr x).1], (hr x).2.2 _ _ hok, hl⟩
theorem lab_ok' {m : Nat → Nat → Prop} {w : World} (x y : Int) : Ok m w (.agg [.int .i64 x, .int .u64 y]) := by
  refine .agg _ (fun v hv => ?_) fun v hv => ?_
  · simp only [List.mem_cons, List.not_mem_nil, or_false] at hv
    rcases hv with rfl | rfl <;> rfl
  · simp only [List.mem_cons, List.not_mem_nil, or_false] at hv
    rcases hv with rfl | rfl <;> exact .int _ _
theorem elA_abs (E : Adr) (p : Lab × Spo) : (elA E p.1 p.2).w.abs = rowOf p := by
  unfold elA RowA.abs rowOf
  simp only [rn_abs]
end Go.Proofs.Ythpbihppfijegaa.Sym

namespace Go.Proofs.Ythpbihppfijegaa.Sym
open Go Go.RowKit
set_option maxRecDepth 100000
set_option maxHeartbeats 1600000
set_option linter.unusedVariables false
set_option linter.unusedSimpArgs false
theorem enters34 : Enters Try.prog 34 := fun _ _ => by kernel_rfl
theorem rows_start {D : DataW Value} {E : Adr} {b : Nat} {L : Shf} {m : Nat → Nat → Prop} {w : World} (h : ShD D E b L m w) : (rwsA (fun _ => zRow) 0 ++ rowsL (L.filter fun q => Maps.has D (keyL q.1))).Perm (rowsL L) := by
  have : L.filter (fun q => Maps.has D (keyL q.1)) = L := List.filter_eq_self.2 fun q hq => (h.has _).2 ⟨q, hq, rfl⟩
  rw [this]
  exact List.Perm.refl _
def T18 : List (Nat × TI) := [(4, ti4), (22, ti22), (26, ti26), (33, ti33), (36, ti36), (38, ti38), (61, ti61), (66, ti66), (68, ti68), (70, ti70), (85, ti85)]
theorem T18_ok : TabOK Try.prog T18 := .cons t4 (.cons t22 (.cons t26 (.cons t33 (.cons t36 (.cons t38 (.cons t61 (.cons t66 (.cons t68 (.cons t70 (.cons t85 (.nil)))))))))))
theorem enters18 : Enters Try.prog 18 := fun _ _ => by kernel_rfl
theorem rows_r0 (b bM : Nat) (L : Shf) (hL : L.length ≤ 100000) (k : Int) : SpecR Try.prog (shK bM L) 18 [.ptr 0 b 0] [(0, ⟨b, 68, [.raw (.map (some bM)), .int .i64 k]⟩)] (fun y => rowsV (y.A 0) (rowsL L).length (y.c 0) (rwAt y (rowsL L))) := by
  refine SpecR.of ?_
  intro m w hm hargs hpre hI
  have hmx : maxLen = 9223372036854775807 := rfl
  obtain ⟨D, E, hI1⟩ := hI
  obtain ⟨es0, cl0, hmap0, _⟩ := hI1.map
  have hlt : bM < w.heap.size := lt_heap hmap0
  have hI : (shD D E bM L).p m w := hI1
  refine enterR hm hpre hI hargs Try.func18 rfl (by simp [Try.ntmps18]) fun a0 hF => ?_
  simp only [Try.ntmps18, startT] at hF
  obtain ⟨B, hB⟩ : ∃ B, B = std := ⟨_, rfl⟩
  refine wp_seq ?_
  apply region_okB hB T18_ok [0] [0] [] hF
  case hex => intro A X; conv => lhs; cbv
  case hob =>
    intro X
    subst hB
    simp only [AllOb, Ob.holds, BE.den, List.mem_cons, List.not_mem_nil, or_false, forall_eq_or_imp, forall_eq] <;> (and_intros <;> first | trivial | rfl | (intro h; first | trivial | rfl))
  case hQ =>
  intro X0 a0 w1 hF
  refine wp_seq ?_
  refine wp_seq ?_
  apply region_okB hB T18_ok [7, 0] [0] [] hF
  case hex => intro A X; conv => lhs; cbv
  case hob =>
    intro X
    subst hB
    simp only [AllOb, Ob.holds, BE.den, List.mem_cons, List.not_mem_nil, or_false, forall_eq_or_imp, forall_eq] <;> (and_intros <;> first | trivial | rfl | (intro h; first | trivial | rfl))
  case hQ =>
  intro X1 a0 w1 hF
  refine test_ff hF rfl (fun hF => ?_)
  refine wp_skip ?_
  refine wp_seq ?_
  apply region_okB hB T18_ok [3, 0] [0, 3] [] hF
  case hex => intro A X; conv => lhs; cbv
  case hob =>
    intro X
    subst hB
    simp only [AllOb, Ob.holds, BE.den, List.mem_cons, List.not_mem_nil, or_false, forall_eq_or_imp, forall_eq] <;> (and_intros <;> first | trivial | rfl | (intro h; first | trivial | rfl))
  case hQ =>
  intro X3 a0 w1 hF
  refine wp_seq ?_
  refine wp_seq ?_
  refine wp_region_lit ?_
  apply list_preB 0 4 hB T18_ok [11, 3] [0, 3] [] hF
  case hex => intro A X; conv => lhs; cbv
  case hob =>
    intro X
    subst hB
    simp only [AllOb, Ob.holds, BE.den, List.mem_cons, List.not_mem_nil, or_false, forall_eq_or_imp, forall_eq] <;> (and_intros <;> first | trivial | rfl | (intro h; first | trivial | rfl))
  case hQ =>
  intro X4_0 a0 w1 hF
  have hSh : ShD D E bM L _ _ := hF.kept
  obtain ⟨rr, hrr⟩ : ∃ r, r = w1.heap.size := ⟨_, rfl⟩
  refine man_range rfl rfl rfl rfl hF (Nat.le_of_ble_eq_true rfl) rfl labK map_und' hSh.map (rngK D E bM rr L (Maps.has D) (Maps.size D)) (fun m w' h1 h2 h3 => ⟨h1.keep h2, by rw [hrr]; exact h3⟩) ?_
  rw [← hrr]
  intro a0 w1 hfr hF
  have hne : some rr ≠ some bM := by
    intro e; injection e with e
    have : w.heap.size ≤ rr := hfr
    omega
  refine wpList_nil ?_
  have hF : Fits ⟨m, w, ats [(0, ⟨b, 68, [.raw (.map (some bM)), .int .i64 k]⟩)], [], rngK D E bM rr L (Maps.has D) (Maps.size D)⟩ ⟨32, [(3, .sl (some 3) none 0 0 8 (fun _ => [])), (12, .raw (.pointer (some ⟨rr, 0, none⟩)))], [], [(0, ⟨b, 68, [.raw (.map (some bM)), .int .i64 k]⟩)], [(3, ⟨none, 0, 0, 8, 61⟩)]⟩ a0 w1 := hF.keep [3,12] [0,3]
  refine wp_block ?_
  replace hF := hF.headS (v' := .sl (some 3) none 0 0 8 (fun t => rowC zRow)) (Sim.recell (fun i hi => absurd hi (Nat.not_lt_zero _))) rfl
  refine loop_preK (ι := Nat × (Nat → RowA) × Option Addr × Nat × (Lit → Bool) × Nat) (fun p => rngK D E bM rr L p.2.2.2.2.1 p.2.2.2.2.2) (fun p => [(3, .sl (some 3) p.2.2.1 p.1 p.2.2.2.1 8 (fun t => rowC (p.2.1 t)))]) (fun p => []) (fun p => [(3, ⟨p.2.2.1, p.1, p.2.2.2.1, 8, 61⟩)]) (fun p => (∀ kl, p.2.2.2.2.1 kl = true → Maps.has D kl = true) ∧ (rwsA p.2.1 p.1 ++ rowsL (L.filter fun q => p.2.2.2.2.1 (keyL q.1))).Perm (rowsL L) ∧ ∀ t, t < p.1 → ∃ q ∈ L, p.2.1 t = (elA E q.1 q.2).w) (fun p => p.2.2.2.2.2) (0, fun _ => zRow, none, 0, Maps.has D, Maps.size D) ⟨fun _ h => h, rows_start hI, fun t ht => absurd ht (Nat.not_lt_zero _)⟩ hF ?_
  rintro ⟨k1, h, A1, c1, left, cnt⟩ ⟨hlft, hprm, hels⟩ a0 w1 hF
  try dsimp only at hlft
  try dsimp only at hprm
  try dsimp only at hels
  replace hF := hF.withK (K' := rngK D E bM rr L left cnt) hF.kept
  refine wp_seq ?_
  refine wp_region_lit ?_
  refine man_next1 rfl rfl rfl rfl hF (Nat.le_of_ble_eq_true rfl) rfl labK hF.kept.2 (fun h => absurd h (Nat.not_lt.2 hfr)) (stpK D E bM rr L left) (fun m h _ => ⟨h.1, fun h => by cases h⟩) (fun key v kl cnt' m w' h1 h2 h3 h4 => ⟨h1.1.keepB h2 hne, fun _ => ⟨h3, h4⟩⟩) ?_
  intro a0 w1 bb rest' key v kl cnt' hn0 hn1 hF
  apply list_endB 1 hB T18_ok [14, 3, 12] [0, 3] [] hF
  case hex => intro A X; conv => lhs; cbv
  case hob =>
    intro X
    subst hB
    simp only [AllOb, Ob.holds, BE.den, List.mem_cons, List.not_mem_nil, or_false, forall_eq_or_imp, forall_eq] <;> (and_intros <;> first | trivial | rfl | (intro h; first | trivial | rfl))
  case hQ =>
  intro X5 a0 w1 hF
  refine wp_seq ?_
  refine test_ok hF rfl (fun hb hF => ?_) (fun hb hF => ?_)
  · skip
    have hbb : bb = true := by subst hB; exact hb
    obtain ⟨hnx1, hnx2, hnx3, hnx4⟩ := hn1 hbb
    replace hF := hF.withK (K' := entK D E bM rr L (fun x => left x && !x.sameKey kl) key v cnt') ⟨hF.kept.1, hF.kept.2 hbb⟩
    refine wp_skip ?_
    refine wp_block ?_
    refine wp_seq ?_
    refine wp_region_lit ?_
    obtain ⟨hSh, hrg, hent⟩ := hF.kept
    obtain ⟨p, hp, hpk, hpkey, hpv⟩ := hSh.entry hnx1 (hlft _ hnx2) hnx3
    have hok := hSh.ok p hp
    obtain ⟨el, hel⟩ : ∃ x, x = elA E p.1 p.2 := ⟨_, rfl⟩
    rw [← hel] at hok hpv
    have hel_has : el.has = p.2.has := by rw [hel]
    have hkd : key = (AV.agg [.int .i64 el.w.lab.len, .int .u64 el.w.lab.bits]).den := by rw [hel]; exact hpkey
    rw [hkd, hpv] at hent
    refine man_entry rfl rfl rfl rfl hF (Nat.le_of_ble_eq_true rfl) rfl hent (lab_ok' _ _) hok ?_
    intro a0 hF
    apply list_endB 1 hB T18_ok [3, 12, 4, 5] [0, 4, 5, 3] [] hF
    case hex => intro A X; conv => lhs; cbv
    case hob =>
      intro X
      subst hB
      simp only [AllOb, Ob.holds, BE.den, List.mem_cons, List.not_mem_nil, or_false, forall_eq_or_imp, forall_eq] <;> (and_intros <;> first | trivial | rfl | (intro h; first | trivial | rfl))
    case hQ =>
    intro X6 a0 w1 hF
    replace hF := hF.withK (K' := rngK D E bM rr L (fun x => left x && !x.sameKey kl) cnt') ⟨hF.kept.1, hF.kept.2.1⟩
    refine wp_seq ?_
    apply region_okB hB T18_ok [19, 3, 12, 4, 5] [0, 4, 5, 3] [] hF
    case hex => intro A X; conv => lhs; cbv
    case hob =>
      intro X
      subst hB
      simp only [AllOb, Ob.holds, BE.den, List.mem_cons, List.not_mem_nil, or_false, forall_eq_or_imp, forall_eq] <;> (and_intros <;> first | trivial | rfl | (intro h; first | trivial | rfl))
    case hQ =>
    intro X7 a0 w1 hF
    refine test_ok hF rfl (fun hb hF => ?_) (fun hb hF => ?_)
    · skip
      have hhas : el.has = true := by subst hB; exact hb
      apply region_okB hB T18_ok [3, 12] [0, 3] [] hF
      case hex => intro A X; conv => lhs; cbv
      case hob =>
        intro X
        have hkL : k1 ≤ L.length := by
          have h9 := hprm.length_eq
          rw [List.length_append, listA_len] at h9
          have := rowsL_len L
          omega
        subst hB
        repeat (first | exact trivial | refine ⟨⟨rfl, rfl, rfl⟩, ?_⟩ | refine ⟨rfl, ?_⟩ | refine ⟨⟨show k1 + 1 ≤ maxLen by omega, show (k1 + 1) * _ ≤ _ by omega⟩, ?_⟩)
      case hQ =>
      intro X8 a0 w1 hF
      replace hF := hF.headS (v' := .sl (some 3) ((X8 8).A 0) (B.nadd k1 1) ((X8 8).c 0) 8 (fun t => rowC (if t = k1 then el.w else h t))) (Sim.resl rfl (fun t ht => by
        subst hB
        have ht2 : t < k1 + 1 := ht
        show appC k1 (fun t => rowC (h t)) (chunk 8 (rowC el.w)) t = _
        unfold appC
        split
        · rw [if_neg (by omega)]
        · have : t = k1 := by omega
          subst this
          rw [if_pos rfl]
          simp [chunk])) rfl
      refine ⟨(k1 + 1, fun t => if t = k1 then el.w else h t, _, _, (fun x => left x && !x.sameKey kl), cnt'), ⟨?_, ?_, ?_⟩, hnx4, by rw [show k1 + 1 = B.nadd k1 1 by subst hB; rfl]; exact hF⟩
      · intro x hx
        simp only [Bool.and_eq_true] at hx
        exact hlft _ hx.1
      · have h9 := rows_step hSh.ris hSh.labs hp (hpk ▸ hnx2) hprm
        rw [hpk, if_pos (by rw [← hel_has]; exact hhas)] at h9
        have e9 : rwsA (fun t => if t = k1 then el.w else h t) (k1 + 1) = rwsA h k1 ++ [rowOf p] := by
          show listA RowA.abs _ (k1 + 1) = listA RowA.abs h k1 ++ _
          rw [listA_succ]
          simp only [if_true]
          congr 1
          · unfold listA
            apply List.map_congr_left
            intro t ht
            have h5 := List.mem_range.1 ht
            show RowA.abs (if t = k1 then el.w else h t) = _
            rw [if_neg (by omega)]
          · rw [hel, elA_abs]
        simp only
        rw [e9]
        exact h9
      · intro t ht
        simp only at ht ⊢
        by_cases he : t = k1
        · rw [if_pos he]; exact ⟨p, hp, by rw [hel]⟩
        · rw [if_neg he]; exact hels t (by omega)
    · skip
      have hhas : ¬ el.has = true := by subst hB; rw [show el.has = false from hb]; simp
      refine wp_skip ?_
      refine ⟨(k1, h, A1, c1, (fun x => left x && !x.sameKey kl), cnt'), ⟨?_, ?_, hels⟩, hnx4, hF.keep [3,12] [0,3]⟩
      · intro x hx
        simp only [Bool.and_eq_true] at hx
        exact hlft _ hx.1
      · have h9 := rows_step hSh.ris hSh.labs hp (hpk ▸ hnx2) hprm
        rw [hpk, if_neg (by rw [← hel_has]; exact hhas), List.append_nil] at h9
        exact h9
  · skip
    have hbb : bb = false := by subst hB; exact hb
    have hall := hn0 hbb
    replace hF := hF.withK (K' := shD D E bM L) hF.kept.1
    refine wp_exit ?_
    refine wp_seq ?_
    refine wp_region_lit ?_
    apply list_preB 0 1 hB T18_ok [29, 3] [0, 3] [] hF
    case hex => intro A X; conv => lhs; cbv
    case hob =>
      intro X
      subst hB
      simp only [AllOb, Ob.holds, BE.den, List.mem_cons, List.not_mem_nil, or_false, forall_eq_or_imp, forall_eq] <;> (and_intros <;> first | trivial | rfl | (intro h; first | trivial | rfl))
    case hQ =>
    intro X9_0 a0 w1 hF
    have hSh : ShD D E bM L _ _ := hF.kept
    have hprm2 : (rwsA h k1).Perm (rowsL L) := by
      have e9 : (L.filter fun q => left (keyL q.1)) = [] := List.filter_eq_nil_iff.2 fun q _ => by rw [hall]; simp
      rw [e9] at hprm
      simpa [rowsL] using hprm
    have hkL : k1 ≤ L.length := by
      have h9 := hprm2.length_eq
      rw [listA_len] at h9
      have := rowsL_len L
      omega
    obtain ⟨_, xs, hO⟩ := hF.gr 3 ⟨A1, k1, c1, 8, 61⟩ rfl
    have hs3 := hF.slot 3 rfl
    have hk3 : Ok _ w1 (.sl (some 3) A1 k1 c1 8 (fun t => rowC (h t))) := hs3.2
    have hd3 : a0.tmps[3]? = some (AV.sl (some 3) A1 k1 c1 8 (fun t => rowC (h t))).den := hs3.1
    have hfl := own_flat hO hk3
    rw [hfl] at hO
    have hO : Own w1 w.heap.size 61 8 (.slice A1 k1 c1) k1 (rowFlat (fun t => rowC (h t)) k1) := hO
    refine man_sorted rfl rfl rfl rfl rfl hF rfl rfl enters34 (fun w' => ∃ h' : Nat → RowA, ((List.range k1).map h').Perm ((List.range k1).map h) ∧ (∀ i j, i < j → j < k1 → labLt (h' j).lab (h' i).lab = false) ∧ Own w' w.heap.size 61 8 (.slice A1 k1 c1) k1 (rowFlat (fun t => rowC (h' t)) k1)) ((sortRow_c hO (by omega)).mono ?_) ?_
    · rintro e w2 ⟨he, h', g1, g2, g3, g4⟩
      exact ⟨he, ⟨h', g1, g2, g3⟩, g4⟩
    rintro w2 ⟨h', g1, g2, g3⟩ g4
    have hfin := rows_fin hSh.ris hprm2 g1 g2
    have hF2 := Fits.sorted hF g4 (l' := [(3, .sl none A1 k1 c1 8 (fun t => rowC (h' t)))]) (fun x hx => ?hl) (fun x e he v hv => ?hm)
    case hl =>
      by_cases hx3 : x = 3
      · subst hx3
        refine ⟨hd3, own_known g3 (fun _ _ => rfl) (Fits.notM hF) (fun i hi => ?_) none⟩
        have hmem := g1.mem_iff.1 (List.mem_map.2 ⟨i, List.mem_range.2 hi, rfl⟩)
        obtain ⟨j, hj, hje⟩ := List.mem_map.1 hmem
        obtain ⟨q, hq, hqe⟩ := hels j (List.mem_range.1 hj)
        rw [← hje, hqe]
        exact one_of_el (sorted_ok hF hpre g4 (hI.ok q hq))
      · have : look [(3, AV.sl none A1 k1 c1 8 (fun t => rowC (h' t)))] x = .undef := by rw [look_cons, if_neg (fun e => hx3 e.symm)]; rfl
        rw [this] at hx; cases hx
    case hm =>
      by_cases hx3 : 0 = x
      · subst hx3
        simp only [lookM, List.lookup, List.find?] at he
        simp at he
        subst he
        simp only [List.mem_cons, List.not_mem_nil, or_false] at hv
        rcases hv with rfl | rfl
        · exact .raw _
        · exact .int _ _
      · rw [lookM_cons, if_neg hx3] at he; cases he
    have hF : Fits _ _ (a0.put (some 30) (.tuple #[])) w2 := hF2.put (some 30) (fun t ht => by injection ht with ht; subst ht; exact Nat.le_of_ble_eq_true rfl) (.tup []) (fun _ => .tup _ fun u hu => by cases hu) _ fun _ => rfl
    refine wpList_nil ?_
    refine wp_seq ?_
    apply region_okB hB T18_ok [2] [0] [] hF
    case hex => intro A X; conv => lhs; cbv
    case hob =>
      intro X
      subst hB
      simp only [AllOb, Ob.holds, BE.den, List.mem_cons, List.not_mem_nil, or_false, forall_eq_or_imp, forall_eq] <;> (and_intros <;> first | trivial | rfl | (intro h; first | trivial | rfl))
    case hQ =>
    intro X10 a0 w1 hF
    refine wp_ret ?_
    refine (ret_x (fn := Try.f18) T18_ok hF (rs := [.tmp 2]) rfl (rfl) ?_ (rwY A1 c1 h' 0) [] ?_ ?_ ?_).1
    · subst hB; simp [AllOb, Ob.holds]
    · subst hB; exact rws_sim hfin
    · exact ⟨rfl, ⟨_, rfl, SimL.refl _⟩, trivial⟩
    · exact trivial
theorem rows_r (k0 : Nat) (b bM : Nat) (L : Shf) (hL : L.length ≤ 100000) (k : Int) : SpecR Try.prog (shK bM L) 18 [.ptr k0 b 0] [(k0, ⟨b, 68, [.raw (.map (some bM)), .int .i64 k]⟩)] (fun y => rowsV (y.A 0) (rowsL L).length (y.c 0) (rwAt y (rowsL L))) :=
  (rows_r0 b bM L hL k).re (by repeat (first | exact trivial | refine ⟨Sim.ptr, ?_⟩ | refine ⟨Sim.fn ⟨Sim.ptr, trivial⟩ trivial, ?_⟩ | refine ⟨Sim.fn trivial ⟨Sim.ptr, trivial⟩, ?_⟩ | refine ⟨Sim.refl _, ?_⟩)) rfl (fun x => Sim.refl _)
end Go.Proofs.Ythpbihppfijegaa.Sym

namespace Go.Proofs.Ythpbihppfijegaa.Sym
open Go Go.RowKit
set_option maxRecDepth 100000
set_option maxHeartbeats 1600000
set_option linter.unusedVariables false
set_option linter.unusedSimpArgs false
def T22 : List (Nat × TI) := [(3, ti3), (4, ti4), (33, ti33), (36, ti36)]
theorem T22_ok : TabOK Try.prog T22 := .cons t3 (.cons t4 (.cons t33 (.cons t36 (.nil))))
theorem enters22 : Enters Try.prog 22 := fun _ _ => by kernel_rfl
theorem less_s (a b : Lab) : Spec Try.prog 22 [labAV a, labAV b] (fun _ => .bool (.v (lessL a b))) := by
  intro m w hm hargs
  refine enter hm hargs Try.func22 rfl (by simp [Try.ntmps22]) fun a0 hF => ?_
  simp only [Try.ntmps22, startT] at hF
  obtain ⟨B, hB⟩ : ∃ B, B = std := ⟨_, rfl⟩
  refine wp_seq ?_
  apply region_okB hB T22_ok [2, 3] [2, 3] [] hF
  case hex => intro A X; conv => lhs; cbv
  case hob =>
    intro X
    subst hB
    simp [AllOb, Ob.holds, BE.den, std, stdCmp, stdArith] <;> omega
  case hQ =>
  intro X0 a0 w1 hF
  refine wp_seq ?_
  apply region_okB hB T22_ok [4] [] [] hF
  case hex => intro A X; conv => lhs; cbv
  case hob =>
    intro X
    subst hB
    simp only [AllOb, Ob.holds, BE.den, List.mem_cons, List.not_mem_nil, or_false, forall_eq_or_imp, forall_eq] <;> (and_intros <;> first | trivial | rfl | (intro h; first | trivial | rfl))
  case hQ =>
  intro X1 a0 w1 hF
  refine wp_ret ?_
  refine ret_sim (fn := Try.f22) T22_ok hF (rs := [.tmp 4]) rfl (rfl) ?_ noAtom ?_
  · simp [AllOb, Ob.holds]
  · subst hB
    exact Sim.bool (by show (if decide (a.bits < b.bits) = true then true else (if (a.bits == b.bits) = true then decide (a.len < b.len) else false)) = lessL a b; rw [ite_or, ite_and]; rfl)
def T31 : List (Nat × TI) := [(34, ti34), (38, ti38)]
theorem T31_ok : TabOK Try.prog T31 := .cons t34 (.cons t38 (.nil))
theorem enters31 : Enters Try.prog 31 := fun _ _ => by kernel_rfl
theorem rown_s (x : RA) (hn : x.r.n ≤ 1000000) : Spec Try.prog 31 [recV x] (fun y => recV ⟨y.A 0, y.c 0, x.r⟩) := by
  intro m w hm hargs
  have hmx : maxLen = 9223372036854775807 := rfl
  refine enter hm hargs Try.func31 rfl (by simp [Try.ntmps31]) fun a0 hF => ?_
  simp only [Try.ntmps31, startT] at hF
  obtain ⟨B, hB⟩ : ∃ B, B = std := ⟨_, rfl⟩
  refine wp_seq ?_
  apply region_okB hB T31_ok [1, 2] [1, 2] [] hF
  case hex => intro A X; conv => lhs; cbv
  case hob =>
    intro X
    subst hB
    simp [AllOb, Ob.holds, BE.den, std, stdCmp, stdArith] <;> omega
  case hQ =>
  intro X0 a0 w1 hF
  refine wp_seq ?_
  apply region_okB hB T31_ok [3, 1, 2] [1, 2, 3, 7] [] hF
  case hex => intro A X; conv => lhs; cbv
  case hob =>
    intro X
    subst hB
    simp [AllOb, Ob.holds, BE.den, std, stdCmp, stdArith] <;> omega
  case hQ =>
  intro X1 a0 w1 hF
  refine wp_seq ?_
  apply region_okB hB T31_ok [3, 1, 2] [1, 2, 3, 7] [] hF
  case hex => intro A X; conv => lhs; cbv
  case hob =>
    intro X
    subst hB
    repeat (first | exact trivial | refine ⟨⟨rfl, rfl, rfl⟩, ?_⟩ | refine ⟨rfl, ?_⟩ | refine ⟨⟨show 0 + x.r.n ≤ maxLen by omega, show (0 + x.r.n) * _ ≤ _ by omega⟩, ?_⟩)
  case hQ =>
  intro X2 a0 w1 hF
  refine wp_seq ?_
  apply region_okB hB T31_ok [1, 2] [1, 2] [] hF
  case hex => intro A X; conv => lhs; cbv
  case hob =>
    intro X
    subst hB
    simp only [AllOb, Ob.holds, BE.den, List.mem_cons, List.not_mem_nil, or_false, forall_eq_or_imp, forall_eq] <;> (and_intros <;> first | trivial | rfl | (intro h; first | trivial | rfl))
  case hQ =>
  intro X3 a0 w1 hF
  refine wp_seq ?_
  apply region_okB hB T31_ok [2] [2] [] hF
  case hex => intro A X; conv => lhs; cbv
  case hob =>
    intro X
    subst hB
    simp only [AllOb, Ob.holds, BE.den, List.mem_cons, List.not_mem_nil, or_false, forall_eq_or_imp, forall_eq] <;> (and_intros <;> first | trivial | rfl | (intro h; first | trivial | rfl))
  case hQ =>
  intro X4 a0 w1 hF
  refine wp_ret ?_
  refine ret_sim (fn := Try.f31) T31_ok hF (rs := [.cell 2 38]) rfl (by conv => lhs; cbv) ?_ (⟨0, fun _ => (X2 3).A 0, fun _ => (X2 3).c 0, fun _ => ⟨#[]⟩⟩) ?_
  · simp [AllOb, Ob.holds]
  · subst hB
    exact Sim.agg ⟨Sim.refl _, Sim.resl (Nat.zero_add _) (fun t ht => by show appC 0 _ (fun t => itC (x.r.f t)) t = _; unfold appC; rw [if_neg (Nat.not_lt_zero _)]; rfl), Sim.refl _, Sim.refl _, Sim.refl _, trivial⟩
def T27 : List (Nat × TI) := [(3, ti3), (4, ti4), (36, ti36), (49, ti49), (51, ti51), (61, ti61), (78, ti78)]
theorem T27_ok : TabOK Try.prog T27 := .cons t3 (.cons t4 (.cons t36 (.cons t49 (.cons t51 (.cons t61 (.cons t78 (.nil)))))))
theorem enters27 : Enters Try.prog 27 := fun _ _ => by kernel_rfl
theorem rat_x0 (b : Nat) (A : Option Addr) (n c : Nat) (g : Nat → SpA) (hn : n ≤ 100000) (wr : Int) (l : Lab) : SpecX Try.prog 27 [.ptr 0 b 0, labAV l] [(0, ⟨b, 51, [spsV A n c g, .int .i64 wr]⟩)] (fun _ => ⟨.tup [.int .i64 (posL l (shfA g n) : Nat), .bool (.v (hitL l (shfA g n)))], [(0, [spsV A n c g, .int .i64 wr])], []⟩) := by
  intro m w hm hargs hpre
  have hmx : maxLen = 9223372036854775807 := rfl
  have S := fun i => less_s (g i).w.lab l
  obtain ⟨ls, hls⟩ : ∃ h : Nat → Bool, ∀ i, h i = lessL (g i).w.lab l := ⟨_, fun _ => rfl⟩
  simp only [← hls, labAV] at S
  refine enterX hm hpre hargs Try.func27 rfl (by simp [Try.ntmps27]) fun a0 hF => ?_
  simp only [Try.ntmps27, startT] at hF
  obtain ⟨B, hB⟩ : ∃ B, B = std := ⟨_, rfl⟩
  refine wp_seq ?_
  apply region_okB hB T27_ok [3, 0] [0, 3] [] hF
  case hex => intro A X; conv => lhs; cbv
  case hob =>
    intro X
    subst hB
    simp [AllOb, Ob.holds, BE.den, std, stdCmp, stdArith] <;> omega
  case hQ =>
  intro X0 a0 w1 hF
  refine wp_seq ?_
  apply region_okB hB T27_ok [6, 0, 3] [0, 3] [] hF
  case hex => intro A X; conv => lhs; cbv
  case hob =>
    intro X
    subst hB
    simp [AllOb, Ob.holds, BE.den, std, stdCmp, stdArith] <;> omega
  case hQ =>
  intro X1 a0 w1 hF
  refine wp_seq ?_
  refine wp_block ?_
  refine loop_pre (ι := Nat) (fun p => [(6, .int .i64 (p : Int))]) (fun p => []) (fun p => []) (fun p => p ≤ n ∧ ∀ i, i < p → ls i = true) (fun p => n - p) 0 ⟨Nat.zero_le _, fun i hi => absurd hi (Nat.not_lt_zero _)⟩ hF ?_
  rintro i ⟨hi, hlt⟩ a0 w1 hF
  try dsimp only at hi
  try dsimp only at hlt
  refine wp_seq ?_
  refine wp_seq ?_
  apply drawn_okB hB (by kernel_rfl) T27_ok [26, 6, 0, 3] [0, 3] [(18, .r fun _ => .bool (.v (ls i)))] hF rfl
  case hex => intro A X; conv => lhs; cbv
  case hD => kernel_rfl
  case hlen => rfl
  case hob =>
    intro X
    subst hB
    simp only [AllOb, Ob.holds, BE.den, List.mem_cons, List.not_mem_nil, or_false, forall_eq_or_imp, forall_eq] <;> (and_intros <;> first | trivial | rfl | (intro h; first | trivial | rfl | exact ⟨Int.natCast_nonneg _, (of_decide_eq_true h)⟩ | exact ⟨enters22, S i⟩))
  case hQ =>
  intro X2 a0 w1 hF
  refine test_ok hF rfl (fun hb hF => ?_) (fun hb hF => ?_)
  · skip
    have h9 : (if decide ((i : Int) < (n : Int)) = true then ls i else false) = true := by subst hB; exact hb
    rw [ite_and, Bool.and_eq_true, decide_eq_true_eq] at h9
    have hin : i < n := by omega
    have hk := h9.2
    refine wp_skip ?_
    refine wp_block ?_
    apply region_okB hB T27_ok [6, 0, 3] [0, 3] [] hF
    case hex => intro A X; conv => lhs; cbv
    case hob =>
      intro X
      subst hB
      simp [AllOb, Ob.holds, BE.den, std, stdCmp, stdArith] <;> omega
    case hQ =>
    intro X3 a0 w1 hF
    have e : B.arith .add .i64 (i : Int) 1 = ((i + 1 : Nat) : Int) := by subst hB; exact wrap_succ (n := n) hin (by omega)
    refine ⟨i + 1, ⟨by omega, fun j hj => ?_⟩, by omega, by rw [← e]; exact hF⟩
    by_cases hij : j = i
    · rw [hij]; exact hk
    · exact hlt j (by omega)
  · skip
    have h9 : (if decide ((i : Int) < (n : Int)) = true then ls i else false) = false := by subst hB; exact hb
    have hend : i < n → ls i = false := fun h => by
      rw [if_pos (by simpa using h)] at h9; exact h9
    have hpos : posL l (shfA g n) = i := posL_of (by rw [listA_len]; exact hi) (fun j q hj hq => by rw [listA_get _ _ (by omega)] at hq; injection hq with hq; subst hq; exact (hls j).symm.trans (hlt j hj)) (fun q hq => by have hlt2 := (List.getElem?_eq_some_iff.1 hq).1; rw [listA_len] at hlt2; rw [listA_get _ _ hlt2] at hq; injection hq with hq; subst hq; exact (hls i).symm.trans (hend hlt2))
    have hhit : hitL l (shfA g n) = (decide (i < n) && decide ((g i).w.lab = l)) := by
      unfold hitL; rw [hpos]
      by_cases h : i < n
      · rw [listA_get _ _ h]; simp [h]; rfl
      · rw [List.getElem?_eq_none (by rw [listA_len]; omega)]; simp [h]
    rw [hpos, hhit]
    refine wp_exit ?_
    refine wp_seq ?_
    apply drawn_okB hB (by kernel_rfl) T27_ok [4, 5, 0] [0] [] hF rfl
    case hex => intro A X; conv => lhs; cbv
    case hD => kernel_rfl
    case hlen => rfl
    case hob =>
      intro X
      subst hB
      simp only [AllOb, Ob.holds, BE.den, List.mem_cons, List.not_mem_nil, or_false, forall_eq_or_imp, forall_eq] <;> (and_intros <;> first | trivial | rfl | (intro h; first | trivial | rfl | exact ⟨Int.natCast_nonneg _, (of_decide_eq_true h)⟩ | exact ob_lab (Kk := noK) _ _ _ _))
    case hQ =>
    intro X4 a0 w1 hF
    refine wp_ret ?_
    refine (ret_x (fn := Try.f27) T27_ok hF (rs := [.tmp 4, .tmp 5]) rfl (rfl) ?_ noAtom [] ?_ ?_ ?_).1
    · subst hB; simp [AllOb, Ob.holds]
    · subst hB; refine Sim.tup ⟨Sim.refl _, Sim.bool ?_, trivial⟩
      show (if decide ((i : Int) < (n : Int)) = true then eqL [.int .i64 (g i).w.lab.len, .int .u64 (g i).w.lab.bits] [.int .i64 l.len, .int .u64 l.bits] else false) = _
      rw [ite_and, eqL_lab]
      by_cases h : i < n
      · simp [h, canB, BE.den]
      · simp [h, canB, BE.den]
    · subst hB; exact ⟨rfl, ⟨_, rfl, SimL.refl _⟩, trivial⟩
    · exact trivial
theorem rat_x (k0 : Nat) (b : Nat) (A : Option Addr) (n c : Nat) (g : Nat → SpA) (hn : n ≤ 100000) (wr : Int) (l : Lab) : SpecX Try.prog 27 [.ptr k0 b 0, labAV l] [(k0, ⟨b, 51, [spsV A n c g, .int .i64 wr]⟩)] (fun _ => ⟨.tup [.int .i64 (posL l (shfA g n) : Nat), .bool (.v (hitL l (shfA g n)))], [(k0, [spsV A n c g, .int .i64 wr])], []⟩) :=
  (rat_x0 b A n c g hn wr l).re (by repeat (first | exact trivial | refine ⟨Sim.ptr, ?_⟩ | refine ⟨Sim.fn ⟨Sim.ptr, trivial⟩ trivial, ?_⟩ | refine ⟨Sim.fn trivial ⟨Sim.ptr, trivial⟩, ?_⟩ | refine ⟨Sim.refl _, ?_⟩)) rfl (fun x => ⟨rfl, rfl, Sim.refl _, rfl⟩)
def T30 : List (Nat × TI) := [(3, ti3), (4, ti4), (30, ti30), (36, ti36), (49, ti49), (51, ti51), (61, ti61), (78, ti78)]
theorem T30_ok : TabOK Try.prog T30 := .cons t3 (.cons t4 (.cons t30 (.cons t36 (.cons t49 (.cons t51 (.cons t61 (.cons t78 (.nil))))))))
theorem enters30 : Enters Try.prog 30 := fun _ _ => by kernel_rfl
theorem rput_x0 (b : Nat) (A : Option Addr) (n c : Nat) (g : Nat → SpA) (hn : n ≤ 100000) (wr : Int) (x : SpA) : SpecX Try.prog 30 [.ptr 0 b 0, .agg (spC x)] [(0, ⟨b, 51, [spsV A n c g, .int .i64 wr]⟩)] (fun y => ⟨.tup [], [(0, [spsV (y.A 0) (putL x.w.lab ⟨x.w.ver, x.has, x.w.x.r.abs⟩ (shfA g n)).length (y.c 0) (spAt y (putL x.w.lab ⟨x.w.ver, x.has, x.w.x.r.abs⟩ (shfA g n))), .int .i64 wr])], []⟩) := by
  intro m w hm hargs hpre
  have hmx : maxLen = 9223372036854775807 := rfl
  have S := rat_x0 b A n c g hn wr x.w.lab
  simp only [labAV] at S
  have hpn : posL x.w.lab (shfA g n) ≤ n := by have := posL_le x.w.lab (shfA g n); rwa [listA_len] at this
  have hph : hitL x.w.lab (shfA g n) = true → posL x.w.lab (shfA g n) < n := fun h => by
    unfold hitL at h
    cases hg : (shfA g n)[posL x.w.lab (shfA g n)]? with
    | none => rw [hg] at h; cases h
    | some q => have := (List.getElem?_eq_some_iff.1 hg).1; rwa [listA_len] at this
  have hput := putG_put (g := g) (n := n) x rfl
  generalize posL x.w.lab (shfA g n) = p at S hpn hph hput
  generalize hitL x.w.lab (shfA g n) = hh at S hph hput
  obtain ⟨M, hM⟩ : ∃ M, M = (putL x.w.lab ⟨x.w.ver, x.has, x.w.x.r.abs⟩ (shfA g n)) := ⟨_, rfl⟩
  rw [← hM] at hput ⊢
  obtain ⟨N, hN⟩ : ∃ N, N = n + 1 - (if hh then 1 else 0) := ⟨_, rfl⟩
  obtain ⟨G, hG⟩ : ∃ G, G = putG g p x (if hh then 1 else 0) := ⟨_, rfl⟩
  rw [← hN, ← hG] at hput
  refine enterX hm hpre hargs Try.func30 rfl (by simp [Try.ntmps30]) fun a0 hF => ?_
  simp only [Try.ntmps30, startT] at hF
  obtain ⟨B, hB⟩ : ∃ B, B = std := ⟨_, rfl⟩
  refine wp_seq ?_
  apply region_okB hB T30_ok [0, 3] [0, 3] [] hF
  case hex => intro A X; conv => lhs; cbv
  case hob =>
    intro X
    subst hB
    simp [AllOb, Ob.holds, BE.den, std, stdCmp, stdArith] <;> omega
  case hQ =>
  intro X0 a0 w1 hF
  refine wp_seq ?_
  apply region_okB hB T30_ok [4, 5, 0, 3] [0, 3] [(4, .x fun _ => ⟨.tup [.int .i64 (p : Int), .bool (.v hh)], [(0, [.sl none A n c 9 (fun i => spC (g i)), .int .i64 wr])], []⟩)] hF
  case hex => intro A X; conv => lhs; cbv
  case hob =>
    intro X
    subst hB; exact ⟨rfl, ⟨enters27, S⟩, trivial⟩
  case hQ =>
  intro X1 a0 w1 hF
  refine wp_seq ?_
  apply region_okB hB T30_ok [6, 4, 5, 0, 3] [0, 3, 6] [] hF
  case hex => intro A X; conv => lhs; cbv
  case hob =>
    intro X
    subst hB
    simp [AllOb, Ob.holds, BE.den, std, stdCmp, stdArith] <;> omega
  case hQ =>
  intro X2 a0 w1 hF
  refine wp_seq ?_
  apply region_okB hB T30_ok [6, 4, 5, 0, 3] [0, 3, 6] [] hF
  case hex => intro A X; conv => lhs; cbv
  case hob =>
    intro X
    subst hB
    repeat (first | exact trivial | refine ⟨⟨rfl, rfl, rfl⟩, ?_⟩ | refine ⟨rfl, ?_⟩ | refine ⟨⟨show (0 : Int) ≤ 0 by omega, show (0 : Int) ≤ (p : Int) by omega, show (p : Int) ≤ (n : Int) by omega⟩, ?_⟩ | refine ⟨⟨show 0 + ((p : Int).toNat - (0 : Int).toNat) ≤ maxLen by omega, show (0 + ((p : Int).toNat - (0 : Int).toNat)) * _ ≤ _ by omega⟩, ?_⟩)
  case hQ =>
  intro X3 a0 w1 hF
  replace hF := hF.headS (v' := .sl (some 6) ((X3 7).A 0) p ((X3 7).c 0) 9 (fun t => spC (g t))) (Sim.resl (by subst hB; show 0 + ((p : Int).toNat - (0 : Int).toNat) = p; omega) (fun t ht => by subst hB; show appC 0 _ (fromC 0 (fun t => spC (g t))) t = _; unfold appC fromC; rw [if_neg (Nat.not_lt_zero _), Nat.sub_zero, Nat.zero_add])) rfl
  replace hF := hF.regr (by subst hB; show 0 + ((p : Int).toNat - (0 : Int).toNat) = p; omega)
  refine wp_seq ?_
  apply region_okB hB T30_ok [6, 4, 5, 0] [0, 6] [] hF
  case hex => intro A X; conv => lhs; cbv
  case hob =>
    intro X
    subst hB
    repeat (first | exact trivial | refine ⟨⟨rfl, rfl, rfl⟩, ?_⟩ | refine ⟨rfl, ?_⟩ | refine ⟨⟨show p + 1 ≤ maxLen by omega, show (p + 1) * _ ≤ _ by omega⟩, ?_⟩)
  case hQ =>
  intro X4 a0 w1 hF
  replace hF := hF.headS (v' := .sl (some 6) ((X4 3).A 0) (B.nadd p 1) ((X4 3).c 0) 9 (fun t => spC (putG g p x 0 t))) (Sim.resl rfl (fun t ht => by
    subst hB
    have ht2 : t < p + 1 := ht
    show appC p (fun t => spC (g t)) (chunk 9 (spC x)) t = _
    unfold appC putG
    split
    · rfl
    · have : t = p := by omega
      subst this
      simp [chunk])) rfl
  refine wp_seq ?_
  refine wp_seq ?_
  apply region_okB hB T30_ok [27, 4, 6, 0] [0, 6] [] hF
  case hex => intro A X; conv => lhs; cbv
  case hob =>
    intro X
    subst hB
    simp [AllOb, Ob.holds, BE.den, std, stdCmp, stdArith] <;> omega
  case hQ =>
  intro X5 a0 w1 hF
  refine cut_one (ι := Nat) (S0 := [(27, _), (4, _)]) (M0 := []) (G0 := []) (fun q => [(4, .int .i64 (q : Int))]) (fun q => []) (fun q => []) (fun q => q = p + (if hh then 1 else 0) ∧ q ≤ n) hF ?_ ?_
  · skip
    refine test_ok hF rfl (fun hb hF => ?_) (fun hb hF => ?_)
    · skip
      have hh1 : hh = true := by simpa using hb
      have hpl := hph hh1
      apply region_okB hB T30_ok [4, 6, 0] [0, 6] [] hF
      case hex => intro A X; conv => lhs; cbv
      case hob =>
        intro X
        subst hB
        simp [AllOb, Ob.holds, BE.den, std, stdCmp, stdArith] <;> omega
      case hQ =>
      intro X6 a0 w1 hF
      have e : B.arith .add .i64 (p : Int) 1 = ((p + 1 : Nat) : Int) := by subst hB; exact wrap_succ (n := n) hpl (by omega)
      exact ⟨p + 1, ⟨by rw [hh1]; rfl, by omega⟩, by rw [← e]; exact hF⟩
    · skip
      have hh0 : hh = false := by simpa using hb
      refine wp_skip ?_
      exact ⟨p, ⟨by rw [hh0]; rfl, hpn⟩, hF⟩
  · rintro q ⟨hq, hqn⟩ a0 w1 hF
    try dsimp only at hq
    try dsimp only at hqn
    refine wp_seq ?_
    apply region_okB hB T30_ok [6, 0] [0, 6] [] hF
    case hex => intro A X; conv => lhs; cbv
    case hob =>
      intro X
      subst hB
      repeat (first | exact trivial | refine ⟨⟨rfl, rfl, rfl⟩, ?_⟩ | refine ⟨rfl, ?_⟩ | refine ⟨⟨show (0 : Int) ≤ (q : Int) by omega, show (q : Int) ≤ (n : Int) by omega, Int.le_refl _⟩, ?_⟩ | refine ⟨⟨show p + 1 + (n - q) ≤ maxLen by omega, show (p + 1 + (n - q)) * _ ≤ _ by omega⟩, ?_⟩)
    case hQ =>
    intro X7 a0 w1 hF
    replace hF := hF.headS (v' := .sl (some 6) ((X7 7).A 0) N ((X7 7).c 0) 9 (fun t => spC (G t))) (Sim.resl (by subst hB; show p + 1 + (n - q) = _; rw [hN]; subst hq; split <;> rename_i h5 <;> (try have := hph h5) <;> omega) (fun t ht => by
      subst hB
      rw [hG]
      show appC (p + 1) (fun t => spC (putG g p x 0 t)) (fromC q (fun t => spC (g t))) t = _
      unfold appC putG fromC
      by_cases h1 : t < p
      · simp [h1, show t < p + 1 by omega]
      · by_cases h2 : t = p
        · simp [h2]
        · rw [if_neg (show ¬ t < p + 1 by omega), if_neg h1, if_neg h2]
          show spC (g (q + (t - (p + 1)))) = _
          rw [show q + (t - (p + 1)) = t - 1 + (if hh then 1 else 0) by rw [hq]; omega])) rfl
    apply region_okB hB T30_ok [] [0] [] hF
    case hex => intro A X; conv => lhs; cbv
    case hob =>
      intro X
      subst hB
      simp only [AllOb, Ob.holds, BE.den, List.mem_cons, List.not_mem_nil, or_false, forall_eq_or_imp, forall_eq] <;> (and_intros <;> first | trivial | rfl | (intro h; first | trivial | rfl))
    case hQ =>
    intro X8 a0 w1 hF
    refine (ret_x (fn := Try.f30) T30_ok hF (rs := []) rfl (rfl) ?_ (spY ((X7 7).A 0) ((X7 7).c 0) G none 0 0) [] ?_ ?_ ?_).2
    · subst hB; simp [AllOb, Ob.holds]
    · subst hB; exact Sim.refl _
    · subst hB; exact ⟨rfl, ⟨_, rfl, ⟨sps_sim hput, Sim.refl _, trivial⟩⟩, trivial⟩
    · exact trivial
theorem rput_x (k0 : Nat) (b : Nat) (A : Option Addr) (n c : Nat) (g : Nat → SpA) (hn : n ≤ 100000) (wr : Int) (x : SpA) : SpecX Try.prog 30 [.ptr k0 b 0, .agg (spC x)] [(k0, ⟨b, 51, [spsV A n c g, .int .i64 wr]⟩)] (fun y => ⟨.tup [], [(k0, [spsV (y.A 0) (putL x.w.lab ⟨x.w.ver, x.has, x.w.x.r.abs⟩ (shfA g n)).length (y.c 0) (spAt y (putL x.w.lab ⟨x.w.ver, x.has, x.w.x.r.abs⟩ (shfA g n))), .int .i64 wr])], []⟩) :=
  (rput_x0 b A n c g hn wr x).re (by repeat (first | exact trivial | refine ⟨Sim.ptr, ?_⟩ | refine ⟨Sim.fn ⟨Sim.ptr, trivial⟩ trivial, ?_⟩ | refine ⟨Sim.fn trivial ⟨Sim.ptr, trivial⟩, ?_⟩ | refine ⟨Sim.refl _, ?_⟩)) rfl (fun x => ⟨rfl, rfl, Sim.refl _, rfl⟩)
def T11 : List (Nat × TI) := [(3, ti3), (4, ti4), (22, ti22), (27, ti27), (30, ti30), (33, ti33), (36, ti36), (38, ti38), (51, ti51), (61, ti61), (78, ti78)]
theorem T11_ok : TabOK Try.prog T11 := .cons t3 (.cons t4 (.cons t22 (.cons t27 (.cons t30 (.cons t33 (.cons t36 (.cons t38 (.cons t51 (.cons t61 (.cons t78 (.nil)))))))))))
theorem enters11 : Enters Try.prog 11 := fun _ _ => by kernel_rfl
theorem rnew_x (A : Option Addr) (n c : Nat) (f : Nat → RowA) (hn : n ≤ maxLen) (hN : ∀ i, i < n → (f i).x.r.n ≤ 1000000 ∧ U64 (f i).lab.bits ∧ U64 (f i).x.r.nx.bits) : SpecX Try.prog 11 [rowsV A n c f] [] (fun y => (match newS (rwsA f n) with | none => ⟨.tup [.nilp, .int .i64 1], [], []⟩ | some L => ⟨.tup [.ptr 9 y.b 0, .int .i64 0], [], [(9, ⟨y.b, 51, [spsV (y.A 0) L.length (y.c 0) (spAt y L), .int .i64 0]⟩)]⟩)) := by
  intro m w hm hargs hpre
  have hmx : maxLen = 9223372036854775807 := rfl
  refine enterX hm hpre hargs Try.func11 rfl (by simp [Try.ntmps11]) fun a0 hF => ?_
  simp only [Try.ntmps11, startT] at hF
  obtain ⟨B, hB⟩ : ∃ B, B = std := ⟨_, rfl⟩
  refine wp_seq ?_
  apply region_okB hB T11_ok [0] [] [] hF
  case hex => intro A X; conv => lhs; cbv
  case hob =>
    intro X
    subst hB
    simp [AllOb, Ob.holds, BE.den, std, stdCmp, stdArith] <;> omega
  case hQ =>
  intro X0 a0 w1 hF
  refine wp_seq ?_
  apply region_okB hB T11_ok [4, 0] [9] [] hF
  case hex => intro A X; conv => lhs; cbv
  case hob =>
    intro X
    subst hB
    simp [AllOb, Ob.holds, BE.den, std, stdCmp, stdArith] <;> omega
  case hQ =>
  intro X1 a0 w1 hF
  refine wp_seq ?_
  refine wp_seq ?_
  apply region_okB hB T11_ok [12, 4, 0] [9] [] hF
  case hex => intro A X; conv => lhs; cbv
  case hob =>
    intro X
    subst hB
    simp [AllOb, Ob.holds, BE.den, std, stdCmp, stdArith] <;> omega
  case hQ =>
  intro X2 a0 w1 hF
  refine test_ok hF rfl (fun hb hF => ?_) (fun hb hF => ?_)
  · skip
    have hbig : 2000 < n := by
      have : (2000 : Int) < (n : Int) := by subst hB; simpa [std, stdCmp] using hb
      omega
    have hW : newS (rwsA f n) = none := by unfold newS; rw [if_pos (by rw [listA_len]; exact hbig)]
    refine wp_seq ?_
    apply region_okB hB T11_ok [2, 3] [9] [] hF
    case hex => intro A X; conv => lhs; cbv
    case hob =>
      intro X
      subst hB
      simp [AllOb, Ob.holds, BE.den, std, stdCmp, stdArith] <;> omega
    case hQ =>
    intro X3 a0 w1 hF
    refine wp_ret ?_
    refine (ret_x (fn := Try.f11) T11_ok hF (rs := [.tmp 2, .tmp 3]) rfl (rfl) ?_ (⟨0, fun _ => none, fun _ => 0, fun _ => ⟨#[]⟩⟩) [] ?_ ?_ ?_).1
    · subst hB; simp [AllOb, Ob.holds]
    · subst hB; simp only [hW]; exact Sim.refl _
    · subst hB; simp only [hW]; exact trivial
    · subst hB; simp only [hW]; exact trivial
  · skip
    have hbig : n ≤ 2000 := by
      have : ¬ (2000 : Int) < (n : Int) := by subst hB; simpa [std, stdCmp] using hb
      omega
    have hS : newS (rwsA f n) = newL (rwsA f n) [] := by unfold newS; rw [if_neg (by rw [listA_len]; omega)]
    refine wp_skip ?_
    refine wp_seq ?_
    refine wp_seq ?_
    apply region_okB hB T11_ok [5, 4, 0] [9] [] hF
    case hex => intro A X; conv => lhs; cbv
    case hob =>
      intro X
      subst hB
      simp [AllOb, Ob.holds, BE.den, std, stdCmp, stdArith] <;> omega
    case hQ =>
    intro X4 a0 w1 hF
    refine wp_block ?_
    replace hF := hF.memS (cells' := [.sl none none 0 0 9 (fun t => spC zSp), .int .i64 0]) ⟨Sim.recell (fun i hi => absurd hi (Nat.not_lt_zero _)), Sim.refl _, trivial⟩
    refine loop_pre (ι := Nat × Nat × (Nat → SpA) × Option Addr × Nat) (fun p => [(5, .int .i64 (p.1 : Int))]) (fun p => [(9, ⟨(X1 1).b, 51, [.sl none p.2.2.2.1 p.2.1 p.2.2.2.2 9 (fun t => spC (p.2.2.1 t)), .int .i64 0]⟩)]) (fun p => []) (fun p => p.1 ≤ n ∧ p.2.1 ≤ p.1 ∧ newL (rwsA f n) [] = newL ((rwsA f n).drop p.1) (shfA p.2.2.1 p.2.1) ∧ Rises (shfA p.2.2.1 p.2.1)) (fun p => n - p.1) (0, 0, fun _ => zSp, none, 0) ⟨Nat.zero_le _, Nat.le_refl _, rfl, .nil⟩ hF ?_
    rintro ⟨i, k1, g, A1, c1⟩ ⟨hi, hk, hnew, hris⟩ a0 w1 hF
    try dsimp only at hi
    try dsimp only at hk
    try dsimp only at hnew
    try dsimp only at hris
    refine wp_seq ?_
    refine wp_seq ?_
    apply region_okB hB T11_ok [16, 5, 4, 0] [9] [] hF
    case hex => intro A X; conv => lhs; cbv
    case hob =>
      intro X
      subst hB
      simp [AllOb, Ob.holds, BE.den, std, stdCmp, stdArith] <;> omega
    case hQ =>
    intro X5 a0 w1 hF
    refine test_ok hF rfl (fun hb hF => ?_) (fun hb hF => ?_)
    · skip
      have hin : i < n := by
        have : (i : Int) < (n : Int) := by subst hB; simpa [std, stdCmp] using hb
        omega
      obtain ⟨hN1, hN2, hN3⟩ := hN i hin
      have S1 := rat_x 9 (X1 1).b A1 k1 c1 g (by omega) 0 (f i).lab
      have hstep := newL_step (f := f) (L := shfA g k1) hin
      rw [← hit_find hris] at hstep
      have S2 := risL_s (f i).lab hN2
      have S3 := risR_s (f i).x.A (f i).x.r.n (f i).x.c (f i).x.r.f (by omega) (f i).x.r.kd (f i).x.r.nx (f i).x.r.mrk hN3
      rw [← isR_abs] at S3
      simp only [labAV, recI, rowI] at S1 S2 S3
      obtain ⟨L2, hL2⟩ : ∃ L, L = putL (f i).lab ⟨(f i).ver, true, (f i).x.r.abs⟩ (shfA g k1) := ⟨_, rfl⟩
      rw [← hL2] at hstep
      generalize posL (f i).lab (shfA g k1) = p at S1
      obtain ⟨hh, hhh⟩ : ∃ h, h = hitL (f i).lab (shfA g k1) := ⟨_, rfl⟩
      rw [← hhh] at S1 hstep
      generalize isL (f i).lab = il at S2 hstep
      generalize isR (f i).x.r.abs = ir at S3 hstep
      refine wp_skip ?_
      refine wp_seq ?_
      refine wp_block ?_
      refine wp_seq ?_
      apply region_okB hB T11_ok [6, 7, 5, 4, 0] [9] [(6, .x fun _ => ⟨.tup [.int .i64 (p : Int), .bool (.v hh)], [(9, [.sl none A1 k1 c1 9 (fun i => spC (g i)), .int .i64 0])], []⟩)] hF
      case hex => intro A X; conv => lhs; cbv
      case hob =>
        intro X
        subst hB
        simp only [AllOb, Ob.holds, BE.den, List.mem_cons, List.not_mem_nil, or_false, forall_eq_or_imp, forall_eq] <;> (and_intros <;> first | trivial | rfl | exact (show (0 : Int) ≤ (i : Int) by omega) | exact (show (i : Int) < (n : Int) by omega) | exact enters27 | exact S1 | exact ⟨enters27, S1⟩ | (intro h; first | trivial | rfl | exact (show (0 : Int) ≤ (i : Int) by omega) | exact (show (i : Int) < (n : Int) by omega) | exact enters27 | exact S1 | exact ⟨enters27, S1⟩))
      case hQ =>
      intro X7 a0 w1 hF
      refine wp_seq ?_
      refine wp_seq ?_
      apply region_okB hB T11_ok [47, 5, 4, 0] [9] [(7, .r fun _ => .bool (.v il)), (16, .r fun _ => .bool (.v ir))] hF
      case hex => intro A X; conv => lhs; cbv
      case hob =>
        intro X
        subst hB
        simp only [AllOb, Ob.holds, BE.den, List.mem_cons, List.not_mem_nil, or_false, forall_eq_or_imp, forall_eq] <;> (and_intros <;> first | trivial | rfl | (intro h; first | trivial | rfl | exact ⟨show (0 : Int) ≤ (i : Int) by omega, show (i : Int) < (n : Int) by omega⟩ | exact ⟨enters28, S2⟩ | exact ⟨enters29, S3⟩))
      case hQ =>
      intro X8 a0 w1 hF
      refine test_ok hF rfl (fun hb hF => ?_) (fun hb hF => ?_)
      · skip
        have h9 : (if (if hh = true then true else !il) = true then true else !ir) = true := by subst hB; exact hb
        have hW : newS (rwsA f n) = none := by
          rw [hS, hnew, hstep]
          cases hh <;> cases il <;> cases ir <;> first | rfl | (simp at h9)
        refine wp_seq ?_
        apply region_okB hB T11_ok [2, 3] [9] [] hF
        case hex => intro A X; conv => lhs; cbv
        case hob =>
          intro X
          subst hB
          simp [AllOb, Ob.holds, BE.den, std, stdCmp, stdArith] <;> omega
        case hQ =>
        intro X9 a0 w1 hF
        refine wp_ret ?_
        refine (ret_x (fn := Try.f11) T11_ok hF (rs := [.tmp 2, .tmp 3]) rfl (rfl) ?_ (⟨0, fun _ => none, fun _ => 0, fun _ => ⟨#[]⟩⟩) [] ?_ ?_ ?_).1
        · subst hB; simp [AllOb, Ob.holds]
        · subst hB; simp only [hW]; exact Sim.refl _
        · subst hB; simp only [hW]; exact trivial
        · subst hB; simp only [hW]; exact trivial
      · skip
        have h9 : (if (if hh = true then true else !il) = true then true else !ir) = false := by subst hB; exact hb
        have h10 : (hh || !il || !ir) = false := by cases hh <;> cases il <;> cases ir <;> first | rfl | (simp at h9)
        rw [h10] at hstep
        have hh0 : hh = false := by cases hh <;> first | rfl | (simp at h10)
        have hstep : newL ((rwsA f n).drop i) (shfA g k1) = newL ((rwsA f n).drop (i + 1)) L2 := hstep
        have SO := rown_s (f i).x hN1
        have SP := fun (Az : Option Addr) (cz : Nat) => rput_x 9 (X1 1).b A1 k1 c1 g (by omega) 0 ⟨⟨(f i).lab, (f i).ver, ⟨Az, cz, (f i).x.r⟩⟩, true⟩
        simp only [← hL2] at SP
        obtain ⟨k2, hk2⟩ : ∃ k, k = L2.length := ⟨_, rfl⟩
        obtain ⟨G2, hG2⟩ : ∃ G : Atom → Nat → SpA, G = fun y => spAt y L2 := ⟨_, rfl⟩
        have hGG : ∀ y, spAt y L2 = G2 y := fun y => by rw [hG2]
        simp only [← hk2, hGG] at SP
        have hk2n : k2 ≤ i + 1 := by
          rw [hk2, hL2, put_len _ _ hris, listA_len]
          split <;> omega
        refine wp_skip ?_
        apply drawn_okB hB (by kernel_rfl) T11_ok [5, 4, 0] [9] [(16, .r fun x => .agg [.int .i64 (f i).x.r.kd, .sl none (x.A 0) (f i).x.r.n (x.c 0) 2 (fun t => itC ((f i).x.r.f t)), .int .i64 (f i).x.r.nx.len, .int .u64 (f i).x.r.nx.bits, .int .u64 (f i).x.r.mrk]), (19, .x fun x => ⟨.tup [], [(9, [.sl none (x.A 0) k2 (x.c 0) 9 (fun t => spC (G2 x t)), .int .i64 0])], []⟩)] hF rfl
        case hex => intro A X; conv => lhs; cbv
        case hD => kernel_rfl
        case hlen => rfl
        case hob =>
          intro X
          subst hB
          simp only [AllOb, Ob.holds, BE.den, List.mem_cons, List.not_mem_nil, or_false, forall_eq_or_imp, forall_eq] <;> (and_intros <;> first | trivial | rfl | exact (show (0 : Int) ≤ (i : Int) by omega) | exact (show (i : Int) < (n : Int) by omega) | exact enters31 | exact SO | exact ⟨enters31, SO⟩ | exact enters30 | exact (SP _ _).re ⟨Sim.refl _, Sim.agg ⟨Sim.refl _, Sim.refl _, Sim.refl _, Sim.refl _, Sim.refl _, Sim.refl _, Sim.refl _, Sim.refl _, Sim.tt, trivial⟩, trivial⟩ rfl (fun x => ⟨rfl, rfl, Sim.refl _, rfl⟩) | exact ⟨enters30, (SP _ _).re ⟨Sim.refl _, Sim.agg ⟨Sim.refl _, Sim.refl _, Sim.refl _, Sim.refl _, Sim.refl _, Sim.refl _, Sim.refl _, Sim.refl _, Sim.tt, trivial⟩, trivial⟩ rfl (fun x => ⟨rfl, rfl, Sim.refl _, rfl⟩)⟩ | (intro h; first | trivial | rfl | exact (show (0 : Int) ≤ (i : Int) by omega) | exact (show (i : Int) < (n : Int) by omega) | exact enters31 | exact SO | exact ⟨enters31, SO⟩ | exact enters30 | exact (SP _ _).re ⟨Sim.refl _, Sim.agg ⟨Sim.refl _, Sim.refl _, Sim.refl _, Sim.refl _, Sim.refl _, Sim.refl _, Sim.refl _, Sim.refl _, Sim.tt, trivial⟩, trivial⟩ rfl (fun x => ⟨rfl, rfl, Sim.refl _, rfl⟩) | exact ⟨enters30, (SP _ _).re ⟨Sim.refl _, Sim.agg ⟨Sim.refl _, Sim.refl _, Sim.refl _, Sim.refl _, Sim.refl _, Sim.refl _, Sim.refl _, Sim.refl _, Sim.tt, trivial⟩, trivial⟩ rfl (fun x => ⟨rfl, rfl, Sim.refl _, rfl⟩)⟩))
        case hQ =>
        intro X10 a0 w1 hF
        apply region_okB hB T11_ok [5, 4, 0] [9] [] hF
        case hex => intro A X; conv => lhs; cbv
        case hob =>
          intro X
          subst hB
          simp [AllOb, Ob.holds, BE.den, std, stdCmp, stdArith] <;> omega
        case hQ =>
        intro X6 a0 w1 hF
        have e : B.arith .add .i64 (i : Int) 1 = ((i + 1 : Nat) : Int) := by subst hB; exact wrap_succ (n := n) hin (by omega)
        refine ⟨(i + 1, k2, G2 (X10 19), (X10 19).A 0, (X10 19).c 0), ⟨by simp only; omega, hk2n, ?_, ?_⟩, by simp only; omega, by rw [← e]; exact hF⟩
        · simp only
          rw [hk2, hG2, shfA_spAt, ← hstep]; exact hnew
        · simp only
          rw [hk2, hG2, shfA_spAt, hL2]; exact put_rises hris
    · skip
      have hout : i = n := by
        have : ¬ (i : Int) < (n : Int) := by subst hB; simpa [std, stdCmp] using hb
        omega
      have hW : newS (rwsA f n) = some (shfA g k1) := by rw [hS, hnew, List.drop_eq_nil_of_le (by rw [listA_len]; omega)]; rfl
      refine wp_exit ?_
      refine wp_seq ?_
      apply region_okB hB T11_ok [2, 3] [9] [] hF
      case hex => intro A X; conv => lhs; cbv
      case hob =>
        intro X
        subst hB
        simp [AllOb, Ob.holds, BE.den, std, stdCmp, stdArith] <;> omega
      case hQ =>
      intro X11 a0 w1 hF
      refine wp_ret ?_
      refine (ret_x (fn := Try.f11) T11_ok hF (rs := [.tmp 2, .tmp 3]) rfl (rfl) ?_ (spY A1 c1 g none 0 (X1 1).b) [9] ?_ ?_ ?_).1
      · subst hB; simp [AllOb, Ob.holds]
      · subst hB; simp only [hW]; exact Sim.refl _
      · simp only [hW]; exact trivial
      · simp only [hW]
        exact ⟨⟨_, rfl, ⟨sps_sim (b := (X1 1).b) rfl, Sim.refl _, trivial⟩⟩, fun e he => (by cases he), (by simp), trivial⟩
end Go.Proofs.Ythpbihppfijegaa.Sym

namespace Go.Proofs.Ythpbihppfijegaa.Sym
open Go Go.RowKit
set_option maxRecDepth 100000
set_option maxHeartbeats 1600000
set_option linter.unusedVariables false
set_option linter.unusedSimpArgs false
theorem Fits.swap {C : Cx} {nt i j : Nat} {u v : AV} {l : List (Nat × AV)} {mem : List (Nat × Blk)} {gr : List (Nat × Gr)} {a : Act} {w : World} (h : Fits C ⟨nt, (i, u) :: (j, v) :: l, [], mem, gr⟩ a w) (hne : i ≠ j := by decide) : Fits C ⟨nt, (j, v) :: (i, u) :: l, [], mem, gr⟩ a w :=
  h.alike ⟨rfl, fun k => by
    simp only [look_cons]
    by_cases h1 : i = k
    · by_cases h2 : j = k
      · exact absurd (h1.trans h2.symm) hne
      · simp [h1, h2]
    · simp [h1], fun _ => rfl, fun _ => rfl, fun _ => rfl⟩
def T19 : List (Nat × TI) := [(3, ti3), (4, ti4), (22, ti22), (49, ti49), (51, ti51), (61, ti61), (78, ti78)]
theorem T19_ok : TabOK Try.prog T19 := .cons t3 (.cons t4 (.cons t22 (.cons t49 (.cons t51 (.cons t61 (.cons t78 (.nil)))))))
theorem enters19 : Enters Try.prog 19 := fun _ _ => by kernel_rfl
theorem rrows_x0 (b : Nat) (A : Option Addr) (n c : Nat) (g : Nat → SpA) (hn : n ≤ 100000) (wr : Int) : SpecX Try.prog 19 [.ptr 0 b 0] [(0, ⟨b, 51, [spsV A n c g, .int .i64 wr]⟩)] (fun y => ⟨rowsV (y.A 0) (rowsL (shfA g n)).length (y.c 0) (rwAt y (rowsL (shfA g n))), [(0, [spsV A n c g, .int .i64 wr])], []⟩) := by
  intro m w hm hargs hpre
  have hmx : maxLen = 9223372036854775807 := rfl
  refine enterX hm hpre hargs Try.func19 rfl (by simp [Try.ntmps19]) fun a0 hF => ?_
  simp only [Try.ntmps19, startT] at hF
  obtain ⟨B, hB⟩ : ∃ B, B = std := ⟨_, rfl⟩
  refine wp_seq ?_
  apply region_okB hB T19_ok [0] [0] [] hF
  case hex => intro A X; conv => lhs; cbv
  case hob =>
    intro X
    subst hB
    simp [AllOb, Ob.holds, BE.den, std, stdCmp, stdArith] <;> omega
  case hQ =>
  intro X0 a0 w1 hF
  refine wp_seq ?_
  apply region_okB hB T19_ok [3, 0] [0, 3] [] hF
  case hex => intro A X; conv => lhs; cbv
  case hob =>
    intro X
    subst hB
    simp [AllOb, Ob.holds, BE.den, std, stdCmp, stdArith] <;> omega
  case hQ =>
  intro X1 a0 w1 hF
  refine wp_seq ?_
  refine wp_seq ?_
  apply region_okB hB T19_ok [3, 4, 0] [0, 3] [] hF
  case hex => intro A X; conv => lhs; cbv
  case hob =>
    intro X
    subst hB
    simp [AllOb, Ob.holds, BE.den, std, stdCmp, stdArith] <;> omega
  case hQ =>
  intro X2 a0 w1 hF
  refine wp_block ?_
  replace hF := hF.headS (v' := .sl (some 3) none 0 0 8 (fun t => rowC zRow)) (Sim.recell (fun i hi => absurd hi (Nat.not_lt_zero _))) rfl
  refine loop_pre (ι := Nat × Nat × (Nat → RowA) × Option Addr × Nat) (fun p => [(3, .sl (some 3) p.2.2.2.1 p.2.1 p.2.2.2.2 8 (fun t => rowC (p.2.2.1 t))), (4, .int .i64 (p.1 : Int))]) (fun p => []) (fun p => [(3, ⟨p.2.2.2.1, p.2.1, p.2.2.2.2, 8, 61⟩)]) (fun p => p.1 ≤ n ∧ p.2.1 ≤ p.1 ∧ rwsA p.2.2.1 p.2.1 = rowsL (shfA g p.1)) (fun p => n - p.1) (0, 0, fun _ => zRow, none, 0) ⟨Nat.zero_le _, Nat.le_refl _, rfl⟩ hF ?_
  rintro ⟨i, k, h, A1, c1⟩ ⟨hi, hk, hrw⟩ a0 w1 hF
  try dsimp only at hi
  try dsimp only at hk
  try dsimp only at hrw
  refine wp_seq ?_
  refine wp_seq ?_
  apply region_okB hB T19_ok [11, 3, 4, 0] [0, 3] [] hF
  case hex => intro A X; conv => lhs; cbv
  case hob =>
    intro X
    subst hB
    simp only [AllOb, Ob.holds, BE.den, List.mem_cons, List.not_mem_nil, or_false, forall_eq_or_imp, forall_eq] <;> (and_intros <;> first | trivial | rfl | (intro h; first | trivial | rfl))
  case hQ =>
  intro X3 a0 w1 hF
  refine test_ok hF rfl (fun hb hF => ?_) (fun hb hF => ?_)
  · skip
    have hin : i < n := by
      have : (i : Int) < (n : Int) := by subst hB; simpa [std, stdCmp] using hb
      omega
    refine wp_skip ?_
    refine wp_seq ?_
    refine wp_block ?_
    refine wp_seq ?_
    apply region_okB hB T19_ok [21, 3, 4, 0] [0, 3] [] hF
    case hex => intro A X; conv => lhs; cbv
    case hob =>
      intro X
      subst hB
      simp only [AllOb, Ob.holds, BE.den, List.mem_cons, List.not_mem_nil, or_false, forall_eq_or_imp, forall_eq] <;> (and_intros <;> first | trivial | rfl | exact (show (0 : Int) ≤ (i : Int) by omega) | exact (show (i : Int) < (n : Int) by omega) | (intro h; first | trivial | rfl | exact (show (0 : Int) ≤ (i : Int) by omega) | exact (show (i : Int) < (n : Int) by omega)))
    case hQ =>
    intro X5 a0 w1 hF
    refine test_ok hF rfl (fun hb hF => ?_) (fun hb hF => ?_)
    · skip
      have hhas : (g i).has = true := by subst hB; exact hb
      apply region_okB hB T19_ok [3, 4, 0] [0, 3] [] hF
      case hex => intro A X; conv => lhs; cbv
      case hob =>
        intro X
        subst hB
        repeat (first | exact trivial | refine ⟨⟨rfl, rfl, rfl⟩, ?_⟩ | refine ⟨rfl, ?_⟩ | refine ⟨⟨show (0 : Int) ≤ (i : Int) by omega, show (i : Int) < (n : Int) by omega⟩, ?_⟩ | refine ⟨⟨show k + 1 ≤ maxLen by omega, show (k + 1) * _ ≤ _ by omega⟩, ?_⟩)
      case hQ =>
      intro X6 a0 w1 hF
      replace hF := hF.headS (v' := .sl (some 3) ((X6 10).A 0) (B.nadd k 1) ((X6 10).c 0) 8 (fun t => rowC (if t = k then (g i).w else h t))) (Sim.resl rfl (fun t ht => by
        subst hB
        have ht2 : t < k + 1 := ht
        show appC k (fun t => rowC (h t)) (chunk 8 (rowC (g i).w)) t = _
        unfold appC
        split
        · rw [if_neg (by omega)]
        · have : t = k := by omega
          subst this
          rw [if_pos rfl]
          simp [chunk])) rfl
      apply region_okB hB T19_ok [4, 3, 0] [0, 3] [] hF
      case hex => intro A X; conv => lhs; cbv
      case hob =>
        intro X
        subst hB
        simp [AllOb, Ob.holds, BE.den, std, stdCmp, stdArith] <;> omega
      case hQ =>
      intro X4 a0 w1 hF
      have e : B.arith .add .i64 (i : Int) 1 = ((i + 1 : Nat) : Int) := by subst hB; exact wrap_succ (n := n) hin (by omega)
      refine ⟨(i + 1, k + 1, fun t => if t = k then (g i).w else h t, _, _), ⟨by simp only; omega, by simp only; omega, ?_⟩, by simp only; omega, by rw [← e, show k + 1 = B.nadd k 1 by subst hB; rfl]; exact hF.swap⟩
      simp only
      rw [rowsL_succ, if_pos hhas, ← hrw]
      show listA RowA.abs _ (k + 1) = listA RowA.abs h k ++ _
      rw [listA_succ]
      simp only [if_true]
      congr 1
      unfold listA
      apply List.map_congr_left
      intro t ht
      have h5 := List.mem_range.1 ht
      show RowA.abs (if t = k then (g i).w else h t) = _
      rw [if_neg (by omega)]
    · skip
      have hhas : ¬ (g i).has = true := by subst hB; rw [show (g i).has = false from hb]; simp
      refine wp_skip ?_
      apply region_okB hB T19_ok [4, 3, 0] [0, 3] [] hF
      case hex => intro A X; conv => lhs; cbv
      case hob =>
        intro X
        subst hB
        simp [AllOb, Ob.holds, BE.den, std, stdCmp, stdArith] <;> omega
      case hQ =>
      intro X4 a0 w1 hF
      have e : B.arith .add .i64 (i : Int) 1 = ((i + 1 : Nat) : Int) := by subst hB; exact wrap_succ (n := n) hin (by omega)
      refine ⟨(i + 1, k, h, A1, c1), ⟨by simp only; omega, by simp only; omega, ?_⟩, by simp only; omega, by rw [← e]; exact hF.swap⟩
      simp only
      rw [rowsL_succ, if_neg hhas, List.append_nil]; exact hrw
  · skip
    have hout : i = n := by
      have : ¬ (i : Int) < (n : Int) := by subst hB; simpa [std, stdCmp] using hb
      omega
    refine wp_exit ?_
    refine wp_seq ?_
    apply region_okB hB T19_ok [2, 0] [0] [] hF
    case hex => intro A X; conv => lhs; cbv
    case hob =>
      intro X
      subst hB
      simp [AllOb, Ob.holds, BE.den, std, stdCmp, stdArith] <;> omega
    case hQ =>
    intro X7 a0 w1 hF
    refine wp_ret ?_
    refine (ret_x (fn := Try.f19) T19_ok hF (rs := [.tmp 2]) rfl (rfl) ?_ (rwY A1 c1 h 0) [] ?_ ?_ ?_).1
    · subst hB; simp [AllOb, Ob.holds]
    · subst hB; rw [hout] at hrw; exact rws_sim hrw
    · exact ⟨rfl, ⟨_, rfl, SimL.refl _⟩, trivial⟩
    · exact trivial
theorem rrows_x (k0 : Nat) (b : Nat) (A : Option Addr) (n c : Nat) (g : Nat → SpA) (hn : n ≤ 100000) (wr : Int) : SpecX Try.prog 19 [.ptr k0 b 0] [(k0, ⟨b, 51, [spsV A n c g, .int .i64 wr]⟩)] (fun y => ⟨rowsV (y.A 0) (rowsL (shfA g n)).length (y.c 0) (rwAt y (rowsL (shfA g n))), [(k0, [spsV A n c g, .int .i64 wr])], []⟩) :=
  (rrows_x0 b A n c g hn wr).re (by repeat (first | exact trivial | refine ⟨Sim.ptr, ?_⟩ | refine ⟨Sim.fn ⟨Sim.ptr, trivial⟩ trivial, ?_⟩ | refine ⟨Sim.fn trivial ⟨Sim.ptr, trivial⟩, ?_⟩ | refine ⟨Sim.refl _, ?_⟩)) rfl (fun x => ⟨rfl, rfl, Sim.refl _, rfl⟩)
def T14 : List (Nat × TI) := [(4, ti4), (27, ti27), (33, ti33), (38, ti38), (40, ti40)]
theorem T14_ok : TabOK Try.prog T14 := .cons t4 (.cons t27 (.cons t33 (.cons t38 (.cons t40 (.nil)))))
theorem enters14 : Enters Try.prog 14 := fun _ _ => by kernel_rfl
theorem sameg_s (a b : GotA) (hn : a.x.r.n ≤ maxLen) : Spec Try.prog 14 [gotV a, gotV b] (fun _ => .bool (.v (decide (a.abs = b.abs)))) := by
  intro m w hm hargs
  have S := same_s a.x.A a.x.r.n a.x.c a.x.r.f hn a.x.r.kd a.x.r.nx a.x.r.mrk b.x.A b.x.r.n b.x.c b.x.r.f b.x.r.kd b.x.r.nx b.x.r.mrk
  rw [sameR_abs] at S
  simp only [recI, rowI] at S
  obtain ⟨q, hq⟩ : ∃ q, q = decide (a.x.r.abs = b.x.r.abs) := ⟨_, rfl⟩
  rw [← hq] at S
  refine enter hm hargs Try.func14 rfl (by simp [Try.ntmps14]) fun a0 hF => ?_
  simp only [Try.ntmps14, startT] at hF
  obtain ⟨B, hB⟩ : ∃ B, B = std := ⟨_, rfl⟩
  refine wp_seq ?_
  apply region_okB hB T14_ok [2, 3] [2, 3] [] hF
  case hex => intro A X; conv => lhs; cbv
  case hob =>
    intro X
    subst hB
    simp [AllOb, Ob.holds, BE.den, std, stdCmp, stdArith] <;> omega
  case hQ =>
  intro X0 a0 w1 hF
  refine wp_seq ?_
  apply region_okB hB T14_ok [4] [] [(24, .r fun _ => .bool (.v q))] hF
  case hex => intro A X; conv => lhs; cbv
  case hob =>
    intro X
    subst hB
    simp only [AllOb, Ob.holds, BE.den, List.mem_cons, List.not_mem_nil, or_false, forall_eq_or_imp, forall_eq] <;> (and_intros <;> first | trivial | rfl | exact enters21 | exact S | exact ⟨enters21, S⟩ | (intro h; first | trivial | rfl | exact enters21 | exact S | exact ⟨enters21, S⟩))
  case hQ =>
  intro X1 a0 w1 hF
  refine wp_ret ?_
  refine ret_sim (fn := Try.f14) T14_ok hF (rs := [.tmp 4]) rfl (rfl) ?_ noAtom ?_
  · simp [AllOb, Ob.holds]
  · subst hB
    refine Sim.bool ?_
    show (if (if (if (a.code == b.code) = true then a.ver == b.ver else false) = true then a.has == b.has else false) = true then q else false) = _
    rw [hq, ite_and, ite_and, ite_and]
    obtain ⟨c1, v1, h1, x1⟩ := a
    obtain ⟨c2, v2, h2, x2⟩ := b
    unfold GotA.abs
    simp only [Got.mk.injEq]
    by_cases g1 : c1 = c2 <;> by_cases g2 : v1 = v2 <;> by_cases g4 : x1.r.abs = x2.r.abs <;> cases h1 <;> cases h2 <;> simp [g1, g2, g4, canB, BE.den]
def T17 : List (Nat × TI) := [(3, ti3), (4, ti4), (22, ti22), (33, ti33), (36, ti36), (38, ti38), (61, ti61)]
theorem T17_ok : TabOK Try.prog T17 := .cons t3 (.cons t4 (.cons t22 (.cons t33 (.cons t36 (.cons t38 (.cons t61 (.nil)))))))
theorem enters17 : Enters Try.prog 17 := fun _ _ => by kernel_rfl
theorem samerw_s (A : Option Addr) (n c : Nat) (f : Nat → RowA) (A2 : Option Addr) (n2 c2 : Nat) (f2 : Nat → RowA) (hn : n ≤ maxLen) : Spec Try.prog 17 [rowsV A n c f, rowsV A2 n2 c2 f2] (fun _ => .bool (.v (decide (rwsA f n = rwsA f2 n2)))) := by
  intro m w hm hargs
  have hmx : maxLen = 9223372036854775807 := rfl
  have hln := rows_len (hargs (rowsV A n c f) (by simp))
  refine enter hm hargs Try.func17 rfl (by simp [Try.ntmps17]) fun a0 hF => ?_
  simp only [Try.ntmps17, startT] at hF
  obtain ⟨B, hB⟩ : ∃ B, B = std := ⟨_, rfl⟩
  refine wp_seq ?_
  apply region_okB hB T17_ok [0, 1] [] [] hF
  case hex => intro A X; conv => lhs; cbv
  case hob =>
    intro X
    subst hB
    simp [AllOb, Ob.holds, BE.den, std, stdCmp, stdArith] <;> omega
  case hQ =>
  intro X0 a0 w1 hF
  refine wp_seq ?_
  refine wp_seq ?_
  apply region_okB hB T17_ok [10, 0, 1] [] [] hF
  case hex => intro A X; conv => lhs; cbv
  case hob =>
    intro X
    subst hB
    simp [AllOb, Ob.holds, BE.den, std, stdCmp, stdArith] <;> omega
  case hQ =>
  intro X1 a0 w1 hF
  refine test_ok hF rfl (fun hb hF => ?_) (fun hb hF => ?_)
  · skip
    have hne : n ≠ n2 := by
      have : ¬ (n : Int) = (n2 : Int) := by subst hB; simpa [std, stdCmp] using hb
      omega
    refine wp_seq ?_
    apply region_okB hB T17_ok [4] [] [] hF
    case hex => intro A X; conv => lhs; cbv
    case hob =>
      intro X
      subst hB
      simp [AllOb, Ob.holds, BE.den, std, stdCmp, stdArith] <;> omega
    case hQ =>
    intro X2 a0 w1 hF
    refine wp_ret ?_
    refine ret_sim (fn := Try.f17) T17_ok hF (rs := [.tmp 4]) rfl (rfl) ?_ noAtom ?_
    · simp [AllOb, Ob.holds]
    · subst hB
      refine Sim.bool ?_
      show false = decide _
      refine (decide_eq_false ?_).symm
      intro h
      have := congrArg List.length h
      rw [listA_len, listA_len] at this
      exact hne this
  · skip
    have hnn : n = n2 := by
      have : (n : Int) = (n2 : Int) := by subst hB; simpa [std, stdCmp] using hb
      omega
    refine wp_skip ?_
    refine wp_seq ?_
    refine wp_seq ?_
    apply region_okB hB T17_ok [5, 0, 1] [] [] hF
    case hex => intro A X; conv => lhs; cbv
    case hob =>
      intro X
      subst hB
      simp [AllOb, Ob.holds, BE.den, std, stdCmp, stdArith] <;> omega
    case hQ =>
    intro X3 a0 w1 hF
    refine wp_block ?_
    refine loop_pre (ι := Nat) (fun p => [(5, .int .i64 (p : Int))]) (fun p => []) (fun p => []) (fun p => p ≤ n ∧ rwsA f p = rwsA f2 p) (fun p => n - p) 0 ⟨Nat.zero_le _, rfl⟩ hF ?_
    rintro i ⟨hi, hall⟩ a0 w1 hF
    try dsimp only at hi
    try dsimp only at hall
    refine wp_seq ?_
    refine wp_seq ?_
    apply region_okB hB T17_ok [14, 5, 0, 1] [] [] hF
    case hex => intro A X; conv => lhs; cbv
    case hob =>
      intro X
      subst hB
      simp [AllOb, Ob.holds, BE.den, std, stdCmp, stdArith] <;> omega
    case hQ =>
    intro X4 a0 w1 hF
    refine test_ok hF rfl (fun hb hF => ?_) (fun hb hF => ?_)
    · skip
      have hin : i < n := by
        have : (i : Int) < (n : Int) := by subst hB; simpa [std, stdCmp] using hb
        omega
      obtain ⟨q, hq⟩ : ∃ q, q = decide ((f i).x.r.abs = (f2 i).x.r.abs) := ⟨_, rfl⟩
      have S := same_s (f i).x.A (f i).x.r.n (f i).x.c (f i).x.r.f (hln i hin) (f i).x.r.kd (f i).x.r.nx (f i).x.r.mrk (f2 i).x.A (f2 i).x.r.n (f2 i).x.c (f2 i).x.r.f (f2 i).x.r.kd (f2 i).x.r.nx (f2 i).x.r.mrk
      rw [sameR_abs, ← hq] at S
      simp only [recI, rowI] at S
      refine wp_skip ?_
      refine wp_seq ?_
      refine wp_block ?_
      refine wp_seq ?_
      apply drawn_okB hB (by kernel_rfl) T17_ok [54, 5, 0, 1] [] [(35, .r fun _ => .bool (.v q))] hF rfl
      case hex => intro A X; conv => lhs; cbv
      case hD => kernel_rfl
      case hlen => rfl
      case hob =>
        intro X
        subst hB
        simp only [AllOb, Ob.holds, BE.den, List.mem_cons, List.not_mem_nil, or_false, forall_eq_or_imp, forall_eq] <;> (and_intros <;> first | trivial | rfl | exact ob_lab (Kk := noK) _ _ _ _ | exact (show (0 : Int) ≤ (i : Int) by omega) | exact (show (i : Int) < (n : Int) by omega) | exact (show (i : Int) < (n2 : Int) by omega) | (intro h; first | trivial | rfl | exact ⟨show (0 : Int) ≤ (i : Int) by omega, show (i : Int) < (n : Int) by omega⟩ | exact ⟨show (0 : Int) ≤ (i : Int) by omega, show (i : Int) < (n2 : Int) by omega⟩ | exact ⟨enters21, S⟩))
      case hQ =>
      intro X6 a0 w1 hF
      refine test_ok hF rfl (fun hb hF => ?_) (fun hb hF => ?_)
      · skip
        have h9 : (if (if (!eqL [.int .i64 (f i).lab.len, .int .u64 (f i).lab.bits] [.int .i64 (f2 i).lab.len, .int .u64 (f2 i).lab.bits]) = true then true else ((f i).ver != (f2 i).ver)) = true then true else !q) = true := by subst hB; exact hb
        rw [eqL_lab, ite_or, ite_or] at h9
        have hne : ¬ (f i).abs = (f2 i).abs := fun h => by
          have h1 : (f i).lab = (f2 i).lab := congrArg Rw.lab h
          have h2 : (f i).ver = (f2 i).ver := congrArg Rw.ver h
          have h3 : (f i).x.r.abs = (f2 i).x.r.abs := congrArg Rw.r h
          rw [hq, decide_eq_true h3, decide_eq_true h1, h2] at h9
          simp at h9
        refine wp_seq ?_
        apply region_okB hB T17_ok [4] [] [] hF
        case hex => intro A X; conv => lhs; cbv
        case hob =>
          intro X
          subst hB
          simp [AllOb, Ob.holds, BE.den, std, stdCmp, stdArith] <;> omega
        case hQ =>
        intro X7 a0 w1 hF
        refine wp_ret ?_
        refine ret_sim (fn := Try.f17) T17_ok hF (rs := [.tmp 4]) rfl (rfl) ?_ noAtom ?_
        · simp [AllOb, Ob.holds]
        · subst hB
          refine Sim.bool ?_
          show false = decide _
          refine (decide_eq_false ?_).symm
          intro h
          have h1 := congrArg (fun l => l[i]?) h
          simp only [listA_get RowA.abs f hin, listA_get RowA.abs f2 (show i < n2 by omega)] at h1
          exact hne (Option.some.inj h1)
      · skip
        have h9 : (if (if (!eqL [.int .i64 (f i).lab.len, .int .u64 (f i).lab.bits] [.int .i64 (f2 i).lab.len, .int .u64 (f2 i).lab.bits]) = true then true else ((f i).ver != (f2 i).ver)) = true then true else !q) = false := by subst hB; exact hb
        rw [eqL_lab, ite_or, ite_or, hq] at h9
        have heq : (f i).abs = (f2 i).abs := by
          simp only [Bool.or_eq_false_iff, Bool.not_eq_false', decide_eq_true_eq] at h9
          unfold RowA.abs
          rw [h9.1.1, h9.2, (by simpa using h9.1.2 : (f i).ver = (f2 i).ver)]
        refine wp_skip ?_
        apply region_okB hB T17_ok [5, 0, 1] [] [] hF
        case hex => intro A X; conv => lhs; cbv
        case hob =>
          intro X
          subst hB
          simp [AllOb, Ob.holds, BE.den, std, stdCmp, stdArith] <;> omega
        case hQ =>
        intro X5 a0 w1 hF
        have e : B.arith .add .i64 (i : Int) 1 = ((i + 1 : Nat) : Int) := by subst hB; exact wrap_succ (n := n) hin (by omega)
        refine ⟨i + 1, ⟨by omega, ?_⟩, by omega, by rw [← e]; exact hF⟩
        show listA RowA.abs f (i + 1) = listA RowA.abs f2 (i + 1)
        rw [listA_succ, listA_succ, heq]
        exact congrArg (· ++ _) hall
    · skip
      have hout : i = n := by
        have : ¬ (i : Int) < (n : Int) := by subst hB; simpa [std, stdCmp] using hb
        omega
      refine wp_exit ?_
      refine wp_seq ?_
      apply region_okB hB T17_ok [4] [] [] hF
      case hex => intro A X; conv => lhs; cbv
      case hob =>
        intro X
        subst hB
        simp [AllOb, Ob.holds, BE.den, std, stdCmp, stdArith] <;> omega
      case hQ =>
      intro X8 a0 w1 hF
      refine wp_ret ?_
      refine ret_sim (fn := Try.f17) T17_ok hF (rs := [.tmp 4]) rfl (rfl) ?_ noAtom ?_
      · simp [AllOb, Ob.holds]
      · subst hB
        refine Sim.bool ?_
        show true = decide _
        refine (decide_eq_true ?_).symm
        rw [← hnn, ← hout]; exact hall
def T8 : List (Nat × TI) := [(3, ti3), (4, ti4), (22, ti22), (34, ti34), (38, ti38), (61, ti61)]
theorem T8_ok : TabOK Try.prog T8 := .cons t3 (.cons t4 (.cons t22 (.cons t34 (.cons t38 (.cons t61 (.nil))))))
theorem enters8 : Enters Try.prog 8 := fun _ _ => by kernel_rfl
theorem bigs_s (A : Option Addr) (n c : Nat) (f : Nat → RowA) (hn : n ≤ maxLen) : Spec Try.prog 8 [rowsV A n c f] (fun _ => .bool (.v (if n ≤ 300 then bigS n f else true))) := by
  intro m w hm hargs
  have hmx : maxLen = 9223372036854775807 := rfl
  have hln := rows_len (hargs (rowsV A n c f) (by simp))
  refine enter hm hargs Try.func8 rfl (by simp [Try.ntmps8]) fun a0 hF => ?_
  simp only [Try.ntmps8, startT] at hF
  obtain ⟨B, hB⟩ : ∃ B, B = std := ⟨_, rfl⟩
  refine wp_seq ?_
  apply region_okB hB T8_ok [0] [] [] hF
  case hex => intro A X; conv => lhs; cbv
  case hob =>
    intro X
    subst hB
    simp [AllOb, Ob.holds, BE.den, std, stdCmp, stdArith] <;> omega
  case hQ =>
  intro X0 a0 w1 hF
  refine wp_seq ?_
  apply region_okB hB T8_ok [3, 0] [] [] hF
  case hex => intro A X; conv => lhs; cbv
  case hob =>
    intro X
    subst hB
    simp [AllOb, Ob.holds, BE.den, std, stdCmp, stdArith] <;> omega
  case hQ =>
  intro X1 a0 w1 hF
  refine wp_seq ?_
  refine wp_seq ?_
  apply region_okB hB T8_ok [3, 4, 0] [] [] hF
  case hex => intro A X; conv => lhs; cbv
  case hob =>
    intro X
    subst hB
    simp [AllOb, Ob.holds, BE.den, std, stdCmp, stdArith] <;> omega
  case hQ =>
  intro X2 a0 w1 hF
  refine wp_block ?_
  refine loop_pre (ι := Nat × Int) (fun p => [(3, .int .i64 p.2), (4, .int .i64 (p.1 : Int))]) (fun p => []) (fun p => []) (fun p => p.1 ≤ n ∧ p.2 = sumW f p.1 ∧ ∀ i, i < p.1 → bigF (f i).x.r.n (f i).x.r.f = false) (fun p => n - p.1) (0, 0) ⟨Nat.zero_le _, rfl, fun i hi => absurd hi (Nat.not_lt_zero _)⟩ hF ?_
  rintro ⟨i, s⟩ ⟨hi, hs, hal⟩ a0 w1 hF
  try dsimp only at hi
  try dsimp only at hs
  try dsimp only at hal
  refine wp_seq ?_
  refine wp_seq ?_
  apply region_okB hB T8_ok [13, 3, 4, 0] [] [] hF
  case hex => intro A X; conv => lhs; cbv
  case hob =>
    intro X
    subst hB
    simp only [AllOb, Ob.holds, BE.den, List.mem_cons, List.not_mem_nil, or_false, forall_eq_or_imp, forall_eq] <;> (and_intros <;> first | trivial | rfl | (intro h; first | trivial | rfl))
  case hQ =>
  intro X3 a0 w1 hF
  refine test_ok hF rfl (fun hb hF => ?_) (fun hb hF => ?_)
  · skip
    have h9 : (if decide ((i : Int) < (n : Int)) = true then decide ((n : Int) ≤ 300) else false) = true := by subst hB; exact hb
    rw [ite_and, Bool.and_eq_true, decide_eq_true_eq, decide_eq_true_eq] at h9
    have hin : i < n := by omega
    have hsm : n ≤ 300 := by omega
    have S := big_s (f i).x.A (f i).x.r.n (f i).x.c (f i).x.r.f (hln i hin) (f i).x.r.kd (f i).x.r.nx (f i).x.r.mrk
    simp only [recI, rowI] at S
    obtain ⟨q, hq⟩ : ∃ q, q = bigF (f i).x.r.n (f i).x.r.f := ⟨_, rfl⟩
    rw [← hq] at S
    refine wp_skip ?_
    refine wp_seq ?_
    refine wp_block ?_
    refine wp_seq ?_
    refine wp_seq ?_
    apply region_okB hB T8_ok [21, 3, 4, 0] [] [(5, .r fun _ => .bool (.v q))] hF
    case hex => intro A X; conv => lhs; cbv
    case hob =>
      intro X
      subst hB
      simp only [AllOb, Ob.holds, BE.den, List.mem_cons, List.not_mem_nil, or_false, forall_eq_or_imp, forall_eq] <;> (and_intros <;> first | trivial | rfl | exact (show (0 : Int) ≤ (i : Int) by omega) | exact (show (i : Int) < (n : Int) by omega) | exact enters20 | exact S | exact ⟨enters20, S⟩ | (intro h; first | trivial | rfl | exact (show (0 : Int) ≤ (i : Int) by omega) | exact (show (i : Int) < (n : Int) by omega) | exact enters20 | exact S | exact ⟨enters20, S⟩))
    case hQ =>
    intro X5 a0 w1 hF
    refine test_ok hF rfl (fun hb hF => ?_) (fun hb hF => ?_)
    · skip
      have hbt : bigF (f i).x.r.n (f i).x.r.f = true := by rw [← hq]; exact hb
      refine wp_seq ?_
      apply region_okB hB T8_ok [2] [] [] hF
      case hex => intro A X; conv => lhs; cbv
      case hob =>
        intro X
        subst hB
        simp [AllOb, Ob.holds, BE.den, std, stdCmp, stdArith] <;> omega
      case hQ =>
      intro X6 a0 w1 hF
      refine wp_ret ?_
      refine ret_sim (fn := Try.f8) T8_ok hF (rs := [.tmp 2]) rfl (rfl) ?_ noAtom ?_
      · simp [AllOb, Ob.holds]
      · subst hB
        refine Sim.bool ?_
        show true = (if n ≤ 300 then bigS n f else true)
        rw [if_pos hsm]
        unfold bigS
        rw [anyB_true hin hbt]; simp
    · skip
      have hbf : bigF (f i).x.r.n (f i).x.r.f = false := by rw [← hq]; exact hb
      refine wp_skip ?_
      apply region_okB hB T8_ok [3, 4, 0] [] [] hF
      case hex => intro A X; conv => lhs; cbv
      case hob =>
        intro X
        subst hB
        simp only [AllOb, Ob.holds, BE.den, List.mem_cons, List.not_mem_nil, or_false, forall_eq_or_imp, forall_eq] <;> (and_intros <;> first | trivial | rfl | exact (show (0 : Int) ≤ (i : Int) by omega) | exact (show (i : Int) < (n : Int) by omega) | (intro h; first | trivial | rfl | exact (show (0 : Int) ≤ (i : Int) by omega) | exact (show (i : Int) < (n : Int) by omega)))
      case hQ =>
      intro X7 a0 w1 hF
      apply region_okB hB T8_ok [4, 3, 0] [] [] hF
      case hex => intro A X; conv => lhs; cbv
      case hob =>
        intro X
        subst hB
        simp [AllOb, Ob.holds, BE.den, std, stdCmp, stdArith] <;> omega
      case hQ =>
      intro X4 a0 w1 hF
      have e : B.arith .add .i64 (i : Int) 1 = ((i + 1 : Nat) : Int) := by subst hB; exact wrap_succ (n := n) hin (by omega)
      refine ⟨(i + 1, B.arith .add .i64 s (B.ofNat (f (B.toNat (i : Int))).x.r.n)), ⟨by simp only; omega, by subst hB; rw [hs]; rfl, fun j hj => ?_⟩, by simp only; omega, by rw [← e]; exact hF.swap⟩
      by_cases hij : j = i
      · rw [hij]; exact hbf
      · exact hal j (by simp only at hj; omega)
  · skip
    have h9 : (if decide ((i : Int) < (n : Int)) = true then decide ((n : Int) ≤ 300) else false) = false := by subst hB; exact hb
    rw [ite_and] at h9
    have hend : n ≤ 300 → i = n := fun h3 => by
      rw [decide_eq_true (show (n : Int) ≤ 300 by omega), Bool.and_true] at h9
      have := of_decide_eq_false h9
      omega
    refine wp_exit ?_
    refine wp_seq ?_
    apply region_okB hB T8_ok [2] [] [] hF
    case hex => intro A X; conv => lhs; cbv
    case hob =>
      intro X
      subst hB
      simp only [AllOb, Ob.holds, BE.den, List.mem_cons, List.not_mem_nil, or_false, forall_eq_or_imp, forall_eq] <;> (and_intros <;> first | trivial | rfl | (intro h; first | trivial | rfl))
    case hQ =>
    intro X8 a0 w1 hF
    refine wp_ret ?_
    refine ret_sim (fn := Try.f8) T8_ok hF (rs := [.tmp 2]) rfl (rfl) ?_ noAtom ?_
    · simp [AllOb, Ob.holds]
    · subst hB
      refine Sim.bool ?_
      show (if decide ((300 : Int) < (n : Int)) = true then true else decide (3000 < s)) = _
      rw [ite_or]
      by_cases h3 : n ≤ 300
      · rw [if_pos h3]
        unfold bigS
        rw [hend h3] at hs hal
        rw [anyB_none hal, hs, decide_eq_false (show ¬ (300 : Int) < (n : Int) by omega), decide_eq_false (show ¬ 300 < n by omega)]; rfl
      · rw [if_neg h3, decide_eq_true (show (300 : Int) < (n : Int) by omega)]; rfl
end Go.Proofs.Ythpbihppfijegaa.Sym

namespace Go.Proofs.Ythpbihppfijegaa.Sym
open Go Go.RowKit
set_option linter.unusedVariables false
set_option linter.unusedSimpArgs false
set_option maxRecDepth 100000

theorem Sim.nils {g g' : Option Nat} {k k' : Nat} {f f' : Nat → List AV} : Sim (.sl g none 0 0 k f) (.sl g' none 0 0 k' f') :=
  ⟨rfl, fun _ => rfl, fun _ _ _ => .sl _ _ _ _ _ _ (Nat.le_refl _) (Nat.zero_le _) (fun i hi => absurd hi (Nat.not_lt_zero _)) (fun i hi => absurd hi (Nat.not_lt_zero _)) (fun i hi => absurd hi (Nat.not_lt_zero _)) (fun i hi => absurd hi (Nat.not_lt_zero _)) (fun i hi => absurd hi (Nat.not_lt_zero _))⟩
theorem gotA_abs (y : Atom) (g : Got) : (gotA y g).abs = g := by
  unfold gotA GotA.abs
  simp only [rn_abs]
theorem SpecR.weaken {P : Program} {K K' : Kn} {f : FuncId} {args : List AV} {pre : List (Nat × Blk)} {res : Atom → AV} (h : SpecR P K f args pre res) (hk : ∀ m w, K'.p m w → K.p m w) : SpecR P K' f args pre res :=
  fun m w h1 h2 h3 h4 => h m w h1 h2 h3 (hk _ _ h4)
theorem writes_r (K : Kn) (k0 : Nat) (b bM : Nat) (k : Int) : SpecR Try.prog K 15 [.ptr k0 b 0] [(k0, ⟨b, 68, [.raw (.map (some bM)), .int .i64 k]⟩)] (fun _ => .int .i64 k) :=
  SpecR.of fun m w h1 h2 h3 _ => writes_x k0 b bM k m w h1 h2 h3
section
variable (A : Option Addr) (n c : Nat) (f : Nat → RowA) (hn : n ≤ maxLen) (hN : ∀ i, i < n → (f i).x.r.n ≤ 1000000 ∧ LabOk (f i).lab ∧ U64 (f i).lab.bits ∧ U64 (f i).x.r.nx.bits)
include hn hN
theorem new_no (h : newS (rwsA f n) = none) : SpecM Try.prog 10 [rowsV A n c f] [] none noK (fun y => ⟨.tup [.nilp, .int .i64 1], [], []⟩) (fun _ _ => noK) := by
  have := new_m A n c f hn hN
  rw [h] at this
  exact this
theorem new_yes (k0 : Nat) {L : Shf} (h : newS (rwsA f n) = some L) : SpecM Try.prog 10 [rowsV A n c f] [] none noK (fun y => ⟨.tup [.ptr k0 y.b 0, .int .i64 0], [], [(k0, ⟨y.b, 68, [.raw (.map (some (y.c 0))), .int .i64 0]⟩)]⟩) (fun N y => shF N (y.c 0) L) := by
  have := new_m A n c f hn hN
  rw [h] at this
  exact this.re ⟨Sim.refl _, trivial⟩ rfl fun x => ⟨rfl, rfl, Sim.tup ⟨Sim.ptr, Sim.refl _, trivial⟩, rfl⟩
end
section
variable (A : Option Addr) (n c : Nat) (f : Nat → RowA) (hn : n ≤ maxLen) (hN : ∀ i, i < n → (f i).x.r.n ≤ 1000000 ∧ U64 (f i).lab.bits ∧ U64 (f i).x.r.nx.bits)
include hn hN
theorem rnew_no (h : newS (rwsA f n) = none) : SpecX Try.prog 11 [rowsV A n c f] [] (fun y => ⟨.tup [.nilp, .int .i64 1], [], []⟩) := by
  have := rnew_x A n c f hn hN
  rw [h] at this
  exact this
theorem rnew_yes (k0 : Nat) {L : Shf} (h : newS (rwsA f n) = some L) : SpecX Try.prog 11 [rowsV A n c f] [] (fun y => ⟨.tup [.ptr k0 y.b 0, .int .i64 0], [], [(k0, ⟨y.b, 51, [spsV (y.A 0) L.length (y.c 0) (spAt y L), .int .i64 0]⟩)]⟩) := by
  have := rnew_x A n c f hn hN
  rw [h] at this
  exact this.re ⟨Sim.refl _, trivial⟩ rfl fun x => ⟨rfl, rfl, Sim.tup ⟨Sim.ptr, Sim.refl _, trivial⟩, rfl⟩
end
/-! ### what a shelf keeps -/
/-- labels right, and not too many -/
structure ShfOk (L : Shf) : Prop where
  ris : Rises L
  len : L.length ≤ 2000
  lab : ∀ p ∈ L, LabOk p.1
theorem doL_ok {L : Shf} (h : ShfOk L) {w : Wnt} (hl : LabOk w.lab) : ShfOk (doL L w).L := by
  unfold doL
  split
  · split
    · exact h
    · split
      · exact h
      · split
        · exact h
        · rename_i hf
          refine ⟨put_rises h.ris, ?_, fun p hp => ?_⟩
          · simp only
            rw [put_len _ _ h.ris]
            split
            · exact h.len
            · rename_i h1
              have : (findL w.lab L).isNone = true := by
                cases hx : findL w.lab L with
                | none => rfl
                | some x => rw [hx] at h1; exact absurd rfl h1
              have := fun h2 => hf ⟨this, h2⟩
              have h3 := h.len
              by_cases h4 : 2000 ≤ L.length
              · exact absurd h4 this
              · omega
          · rcases put_mem hp with rfl | hp
            · exact hl
            · exact h.lab p hp
  · exact h
theorem newL_ok : ∀ {l : List Rw} {L L' : Shf}, (∀ r ∈ l, LabOk r.lab) → Rises L → (∀ p ∈ L, LabOk p.1) → L.length + l.length ≤ 2000 → newL l L = some L' → ShfOk L'
  | [], L, L', _, h1, h2, h3, h => by
    simp only [newL, Option.some.injEq] at h
    subst h
    exact ⟨h1, by simp at h3; omega, h2⟩
  | r :: l, L, L', hr, h1, h2, h3, h => by
    unfold newL at h
    split at h
    · cases h
    · refine newL_ok (fun r hr' => hr r (by simp [hr'])) (put_rises h1) (fun p hp => ?_) ?_ h
      · rcases put_mem hp with rfl | hp
        · exact hr r (by simp)
        · exact h2 p hp
      · rw [put_len _ _ h1]
        simp only [List.length_cons] at h3
        split <;> omega
theorem newS_ok {l : List Rw} {L : Shf} (hr : ∀ r ∈ l, LabOk r.lab) (h : newS l = some L) : ShfOk L := by
  unfold newS at h
  split at h
  · cases h
  · exact newL_ok hr List.Pairwise.nil (fun p hp => by cases hp) (by simp; omega) h
end Go.Proofs.Ythpbihppfijegaa.Sym

namespace Go.Proofs.Ythpbihppfijegaa.Sym
open Go Go.RowKit
set_option maxRecDepth 100000
set_option maxHeartbeats 1600000
set_option linter.unusedVariables false
set_option linter.unusedSimpArgs false
theorem donil_s (q : WntA) : Spec Try.prog 12 [.nilp, wntV q] (fun _ => .tup [gotV zGot, .int .i64 6]) := by
  intro m w hm hargs
  refine enter hm hargs Try.func12 rfl (by simp [Try.ntmps12]) fun a0 hF => ?_
  simp only [Try.ntmps12, startT] at hF
  obtain ⟨B, hB⟩ : ∃ B, B = std := ⟨_, rfl⟩
  refine wp_seq ?_
  apply region_okB hB T12_ok [0, 4] [4] [] hF
  case hex => intro A X; conv => lhs; cbv
  case hob =>
    intro X
    subst hB
    simp only [AllOb, Ob.holds, BE.den, List.mem_cons, List.not_mem_nil, or_false, forall_eq_or_imp, forall_eq] <;> (and_intros <;> first | trivial | rfl | (intro h; first | trivial | rfl))
  case hQ =>
  intro X0 a0 w1 hF
  refine wp_seq ?_
  refine wp_seq ?_
  apply region_okB hB T12_ok [10, 4] [4] [] hF
  case hex => intro A X; conv => lhs; cbv
  case hob =>
    intro X
    subst hB
    simp only [AllOb, Ob.holds, BE.den, List.mem_cons, List.not_mem_nil, or_false, forall_eq_or_imp, forall_eq] <;> (and_intros <;> first | trivial | rfl | (intro h; first | trivial | rfl))
  case hQ =>
  intro X1 a0 w1 hF
  refine test_tt hF rfl (fun hF => ?_)
  refine wp_seq ?_
  apply region_okB hB T12_ok [4, 5] [4] [] hF
  case hex => intro A X; conv => lhs; cbv
  case hob =>
    intro X
    subst hB
    simp only [AllOb, Ob.holds, BE.den, List.mem_cons, List.not_mem_nil, or_false, forall_eq_or_imp, forall_eq] <;> (and_intros <;> first | trivial | rfl | (intro h; first | trivial | rfl))
  case hQ =>
  intro X2 a0 w1 hF
  refine wp_ret ?_
  refine ret_sim (fn := Try.f12) T12_ok hF (rs := [.cell 4 40, .tmp 5]) rfl (by conv => lhs; cbv) ?_ noAtom ?_
  · simp [AllOb, Ob.holds]
  · subst hB
    exact Sim.tup ⟨Sim.agg ⟨Sim.refl _, Sim.refl _, Sim.refl _, Sim.refl _, Sim.recell (fun i hi => absurd hi (Nat.not_lt_zero _)), Sim.refl _, Sim.refl _, Sim.refl _, trivial⟩, Sim.refl _, trivial⟩
theorem rownil_s : Spec Try.prog 18 [.nilp] (fun _ => rowsV none 0 0 (fun _ => zRow)) := by
  intro m w hm hargs
  refine enter hm hargs Try.func18 rfl (by simp [Try.ntmps18]) fun a0 hF => ?_
  simp only [Try.ntmps18, startT] at hF
  obtain ⟨B, hB⟩ : ∃ B, B = std := ⟨_, rfl⟩
  refine wp_seq ?_
  apply region_okB hB T18_ok [0] [] [] hF
  case hex => intro A X; conv => lhs; cbv
  case hob =>
    intro X
    subst hB
    simp only [AllOb, Ob.holds, BE.den, List.mem_cons, List.not_mem_nil, or_false, forall_eq_or_imp, forall_eq] <;> (and_intros <;> first | trivial | rfl | (intro h; first | trivial | rfl))
  case hQ =>
  intro X0 a0 w1 hF
  refine wp_seq ?_
  refine wp_seq ?_
  apply region_okB hB T18_ok [7, 0] [] [] hF
  case hex => intro A X; conv => lhs; cbv
  case hob =>
    intro X
    subst hB
    simp only [AllOb, Ob.holds, BE.den, List.mem_cons, List.not_mem_nil, or_false, forall_eq_or_imp, forall_eq] <;> (and_intros <;> first | trivial | rfl | (intro h; first | trivial | rfl))
  case hQ =>
  intro X1 a0 w1 hF
  refine test_tt hF rfl (fun hF => ?_)
  refine wp_seq ?_
  apply region_okB hB T18_ok [2] [2, 3, 28] [] hF
  case hex => intro A X; conv => lhs; cbv
  case hob =>
    intro X
    subst hB
    simp only [AllOb, Ob.holds, BE.den, List.mem_cons, List.not_mem_nil, or_false, forall_eq_or_imp, forall_eq] <;> (and_intros <;> first | trivial | rfl | (intro h; first | trivial | rfl))
  case hQ =>
  intro X2 a0 w1 hF
  refine wp_ret ?_
  refine ret_sim (fn := Try.f18) T18_ok hF (rs := [.tmp 2]) rfl (rfl) ?_ noAtom ?_
  · simp [AllOb, Ob.holds]
  · subst hB
    exact Sim.recell (fun i hi => absurd hi (Nat.not_lt_zero _))
theorem wrinil_s : Spec Try.prog 15 [.nilp] (fun _ => .int .i64 0) := by
  intro m w hm hargs
  refine enter hm hargs Try.func15 rfl (by simp [Try.ntmps15]) fun a0 hF => ?_
  simp only [Try.ntmps15, startT] at hF
  obtain ⟨B, hB⟩ : ∃ B, B = std := ⟨_, rfl⟩
  refine wp_seq ?_
  apply region_okB hB T15_ok [0] [] [] hF
  case hex => intro A X; conv => lhs; cbv
  case hob =>
    intro X
    subst hB
    simp only [AllOb, Ob.holds, BE.den, List.mem_cons, List.not_mem_nil, or_false, forall_eq_or_imp, forall_eq] <;> (and_intros <;> first | trivial | rfl | (intro h; first | trivial | rfl))
  case hQ =>
  intro X0 a0 w1 hF
  refine wp_seq ?_
  refine wp_seq ?_
  apply region_okB hB T15_ok [4, 0] [] [] hF
  case hex => intro A X; conv => lhs; cbv
  case hob =>
    intro X
    subst hB
    simp only [AllOb, Ob.holds, BE.den, List.mem_cons, List.not_mem_nil, or_false, forall_eq_or_imp, forall_eq] <;> (and_intros <;> first | trivial | rfl | (intro h; first | trivial | rfl))
  case hQ =>
  intro X1 a0 w1 hF
  refine test_tt hF rfl (fun hF => ?_)
  refine wp_seq ?_
  apply region_okB hB T15_ok [2] [] [] hF
  case hex => intro A X; conv => lhs; cbv
  case hob =>
    intro X
    subst hB
    simp only [AllOb, Ob.holds, BE.den, List.mem_cons, List.not_mem_nil, or_false, forall_eq_or_imp, forall_eq] <;> (and_intros <;> first | trivial | rfl | (intro h; first | trivial | rfl))
  case hQ =>
  intro X2 a0 w1 hF
  refine wp_ret ?_
  refine ret_spec (fn := Try.f15) T15_ok hF (rs := [.tmp 2]) rfl (rfl) ?_ noAtom ?_
  · subst hB; simp [AllOb, Ob.holds]
  · subst hB; rfl
end Go.Proofs.Ythpbihppfijegaa.Sym

namespace Go.Proofs.Ythpbihppfijegaa.Sym
open Go Go.RowKit
set_option maxRecDepth 100000
set_option maxHeartbeats 1600000
set_option linter.unusedVariables false
set_option linter.unusedSimpArgs false
def T16 : List (Nat × TI) := [(3, ti3), (4, ti4), (22, ti22), (26, ti26), (27, ti27), (33, ti33), (38, ti38), (40, ti40), (46, ti46)]
theorem T16_ok : TabOK Try.prog T16 := .cons t3 (.cons t4 (.cons t22 (.cons t26 (.cons t27 (.cons t33 (.cons t38 (.cons t40 (.cons t46 (.nil)))))))))
theorem enters16 : Enters Try.prog 16 := fun _ _ => by kernel_rfl
theorem shelved_s : Spec Try.prog 16 [] (fun _ => .bool .tt) := by
  intro m w hm hargs
  have U0n : U64 noneL.bits := ⟨Int.le_refl 0, show (0 : Int) < 18446744073709551616 by decide⟩
  have hnl := rnone_s
  obtain ⟨nl, hnle⟩ : ∃ l, l = noneL := ⟨_, rfl⟩
  rw [← hnle] at hnl
  refine enter hm hargs Try.func16 rfl (by simp [Try.ntmps16]) fun a0 hF => ?_
  simp only [Try.ntmps16, startT] at hF
  obtain ⟨B, hB⟩ : ∃ B, B = std := ⟨_, rfl⟩
  refine wp_seq ?_
  apply region_okB hB T16_ok [] [] [] hF
  case hex => intro A X; conv => lhs; cbv
  case hob =>
    intro X
    subst hB
    simp only [AllOb, Ob.holds, BE.den, List.mem_cons, List.not_mem_nil, or_false, forall_eq_or_imp, forall_eq] <;> (and_intros <;> first | trivial | rfl | (intro h; first | trivial | rfl))
  case hQ =>
  intro X0 a0 w1 hF
  refine wp_seq ?_
  refine wp_region_lit ?_
  have SN := new_yes none 0 0 (fun _ => zRow) (by decide) (fun i hi => absurd hi (Nat.not_lt_zero _)) 14 (L := []) rfl
  refine man_callM rfl rfl rfl rfl hF rfl rfl enters10 (SN) (fun _ _ _ => trivial) (fun b hb => by cases hb) ⟨Sim.nils, trivial⟩ (by intro e he; cases he) rfl rfl (fun y => shF w.heap.size (y.c 0) []) (fun n x m w m' w' hn _ _ h => ⟨Nat.le_trans hn h.1, h.2⟩) ?_
  intro y a0 w1 hF
  obtain ⟨sb, hsb⟩ : ∃ b, b = y.b := ⟨_, rfl⟩
  obtain ⟨bM, hbM⟩ : ∃ b, b = y.c 0 := ⟨_, rfl⟩
  rw [← hsb, ← hbM] at hF
  have hbfr : w.heap.size ≤ bM := hF.kept.1
  replace hF := hF.withK (K' := shK bM []) hF.kept.2
  apply list_endB 1 hB T16_ok [1, 2] [14] [] hF
  case hex => intro A X; conv => lhs; cbv
  case hob =>
    intro X
    subst hB
    simp only [AllOb, Ob.holds, BE.den, List.mem_cons, List.not_mem_nil, or_false, forall_eq_or_imp, forall_eq] <;> (and_intros <;> first | trivial | rfl | (intro h; first | trivial | rfl))
  case hQ =>
  intro X1 a0 w1 hF
  refine wp_seq ?_
  refine wp_seq ?_
  apply region_okB hB T16_ok [19, 1] [14] [] hF
  case hex => intro A X; conv => lhs; cbv
  case hob =>
    intro X
    subst hB
    simp only [AllOb, Ob.holds, BE.den, List.mem_cons, List.not_mem_nil, or_false, forall_eq_or_imp, forall_eq] <;> (and_intros <;> first | trivial | rfl | (intro h; first | trivial | rfl))
  case hQ =>
  intro X2 a0 w1 hF
  refine test_ok hF rfl (fun hb hF => ?_) (fun hb hF => ?_)
  · exfalso
    subst hB; simp [std, stdCmp, BE.den] at hb
  · skip
    refine wp_skip ?_
    refine wp_seq ?_
    apply region_okB hB T16_ok [1, 3] [14, 3] [(0, .r fun _ => .agg [.int .i64 nl.len, .int .u64 nl.bits])] hF
    case hex => intro A X; conv => lhs; cbv
    case hob =>
      intro X
      subst hB
      simp only [AllOb, Ob.holds, BE.den, List.mem_cons, List.not_mem_nil, or_false, forall_eq_or_imp, forall_eq] <;> (and_intros <;> first | trivial | rfl | exact enters33 | exact hnl | exact ⟨enters33, hnl⟩ | (intro h; first | trivial | rfl | exact enters33 | exact hnl | exact ⟨enters33, hnl⟩))
    case hQ =>
    intro X4 a0 w1 hF
    refine wp_seq ?_
    refine wp_region_lit ?_
    apply list_preB 0 3 hB T16_ok [23, 25, 1, 3] [14, 3] [] hF
    case hex => intro A X; conv => lhs; cbv
    case hob =>
      intro X
      subst hB
      simp only [AllOb, Ob.holds, BE.den, List.mem_cons, List.not_mem_nil, or_false, forall_eq_or_imp, forall_eq] <;> (and_intros <;> first | trivial | rfl | (intro h; first | trivial | rfl))
    case hQ =>
    intro X5_0 a0 w1 hF
    have SD := do_m 14 sb bM [] (Nat.zero_le _) 0 ⟨2, ⟨0, 0⟩, 0, ⟨none, 0, ⟨0, fun _ => zeroItm, 1, nl, 0⟩⟩, ⟨0, false, .empty, none, 0, 0, fun _ => zeroItm, 0, false⟩⟩ (Nat.zero_le _) ⟨by kernel_rfl, by kernel_rfl⟩ ⟨Int.le_refl 0, show (0 : Int) < 18446744073709551616 by decide⟩ (by rw [hnle]; exact U0n)
    obtain ⟨D1, hD1⟩ : ∃ D, D = doL [] (WntA.abs ⟨2, ⟨0, 0⟩, 0, ⟨none, 0, ⟨0, fun _ => zeroItm, 1, nl, 0⟩⟩, ⟨0, false, .empty, none, 0, 0, fun _ => zeroItm, 0, false⟩⟩) := ⟨_, rfl⟩
    rw [← hD1] at SD
    obtain ⟨GG1, hGG1⟩ : ∃ G : Atom → GotA, G = fun y => gotA y D1.got := ⟨_, rfl⟩
    have hGf1 : ∀ y, gotA y D1.got = GG1 y := fun y => by rw [hGG1]
    simp only [hGf1] at SD
    obtain ⟨k1, hk1⟩ : ∃ z, z = (if D1.wrote then IntKind.i64.wrap (0 + 1) else 0) := ⟨_, rfl⟩
    rw [← hk1] at SD
    obtain ⟨er1, her1⟩ : ∃ z, z = D1.err := ⟨_, rfl⟩
    rw [← her1] at SD
    obtain ⟨L1, hL1⟩ : ∃ z, z = D1.L := ⟨_, rfl⟩
    rw [← hL1] at SD
    refine man_callM rfl rfl rfl rfl hF rfl rfl enters12 SD (fun _ _ h => h) (fun b hb => by cases hb; exact fun h => absurd h (Nat.not_lt.2 hbfr)) ⟨Sim.refl _, Sim.agg (by repeat (first | exact trivial | refine ⟨Sim.refl _, ?_⟩ | refine ⟨Sim.ff, ?_⟩ | refine ⟨Sim.recell (fun i hi => absurd hi (Nat.not_lt_zero _)), ?_⟩)), trivial⟩ (by intro e he; simp only [List.mem_singleton] at he; subst he; rfl) rfl rfl (fun _ => shK bM L1) (fun _ _ _ _ _ _ _ _ _ h => h) ?_
    intro y a0 w1 hF
    obtain ⟨g1, hg1⟩ : ∃ g, g = GG1 y := ⟨_, rfl⟩
    rw [← hg1] at hF
    replace hF := hF.withK (K' := shK bM L1) hF.kept
    have hga1 : g1.abs = D1.got := by rw [hg1, ← hGf1, gotA_abs]
    have e1 : D1 = ⟨[((⟨0, 0⟩ : Lab), (⟨1, true, ⟨1, [], noneL, 0⟩⟩ : Spo))], true, ⟨0, 1, false, zeroRec⟩, 0⟩ := by rw [hD1, hnle]; kernel_rfl
    have f1 : L1 = [((⟨0, 0⟩ : Lab), (⟨1, true, ⟨1, [], noneL, 0⟩⟩ : Spo))] := by rw [hL1, e1]
    have f2 : k1 = 1 := by rw [hk1, e1]; rfl
    apply list_endB 4 hB T16_ok [1, 3, 4, 5] [14, 3, 4] [] hF
    case hex => intro A X; conv => lhs; cbv
    case hob =>
      intro X
      subst hB
      simp only [AllOb, Ob.holds, BE.den, List.mem_cons, List.not_mem_nil, or_false, forall_eq_or_imp, forall_eq] <;> (and_intros <;> first | trivial | rfl | (intro h; first | trivial | rfl))
    case hQ =>
    intro X5 a0 w1 hF
    refine wp_seq ?_
    refine wp_region_lit ?_
    apply list_preB 0 3 hB T16_ok [30, 32, 1, 3, 4, 5] [14, 3, 4] [] hF
    case hex => intro A X; conv => lhs; cbv
    case hob =>
      intro X
      subst hB
      simp only [AllOb, Ob.holds, BE.den, List.mem_cons, List.not_mem_nil, or_false, forall_eq_or_imp, forall_eq] <;> (and_intros <;> first | trivial | rfl | (intro h; first | trivial | rfl))
    case hQ =>
    intro X6_0 a0 w1 hF
    have SD := do_m 14 sb bM L1 (by rw [f1]; decide) k1 ⟨2, ⟨0, 0⟩, 0, ⟨none, 0, ⟨0, fun _ => zeroItm, 1, nl, 0⟩⟩, ⟨0, false, .empty, none, 0, 0, fun _ => zeroItm, 0, false⟩⟩ (Nat.zero_le _) ⟨by kernel_rfl, by kernel_rfl⟩ ⟨Int.le_refl 0, show (0 : Int) < 18446744073709551616 by decide⟩ (by rw [hnle]; exact U0n)
    obtain ⟨D2, hD2⟩ : ∃ D, D = doL L1 (WntA.abs ⟨2, ⟨0, 0⟩, 0, ⟨none, 0, ⟨0, fun _ => zeroItm, 1, nl, 0⟩⟩, ⟨0, false, .empty, none, 0, 0, fun _ => zeroItm, 0, false⟩⟩) := ⟨_, rfl⟩
    rw [← hD2] at SD
    obtain ⟨GG2, hGG2⟩ : ∃ G : Atom → GotA, G = fun y => gotA y D2.got := ⟨_, rfl⟩
    have hGf2 : ∀ y, gotA y D2.got = GG2 y := fun y => by rw [hGG2]
    simp only [hGf2] at SD
    obtain ⟨k2, hk2⟩ : ∃ z, z = (if D2.wrote then IntKind.i64.wrap (k1 + 1) else k1) := ⟨_, rfl⟩
    rw [← hk2] at SD
    obtain ⟨er2, her2⟩ : ∃ z, z = D2.err := ⟨_, rfl⟩
    rw [← her2] at SD
    obtain ⟨L2, hL2⟩ : ∃ z, z = D2.L := ⟨_, rfl⟩
    rw [← hL2] at SD
    refine man_callM rfl rfl rfl rfl hF rfl rfl enters12 SD (fun _ _ h => h) (fun b hb => by cases hb; exact fun h => absurd h (Nat.not_lt.2 hbfr)) ⟨Sim.refl _, Sim.agg (by repeat (first | exact trivial | refine ⟨Sim.refl _, ?_⟩ | refine ⟨Sim.ff, ?_⟩ | refine ⟨Sim.recell (fun i hi => absurd hi (Nat.not_lt_zero _)), ?_⟩)), trivial⟩ (by intro e he; simp only [List.mem_singleton] at he; subst he; rfl) rfl rfl (fun _ => shK bM L2) (fun _ _ _ _ _ _ _ _ _ h => h) ?_
    intro y a0 w1 hF
    obtain ⟨g2, hg2⟩ : ∃ g, g = GG2 y := ⟨_, rfl⟩
    rw [← hg2] at hF
    replace hF := hF.withK (K' := shK bM L2) hF.kept
    have hga2 : g2.abs = D2.got := by rw [hg2, ← hGf2, gotA_abs]
    have e2 : D2 = ⟨[((⟨0, 0⟩ : Lab), (⟨1, true, ⟨1, [], noneL, 0⟩⟩ : Spo))], false, ⟨8, 1, false, zeroRec⟩, 0⟩ := by rw [hD2, hnle, f1]; kernel_rfl
    have f3 : L2 = [((⟨0, 0⟩ : Lab), (⟨1, true, ⟨1, [], noneL, 0⟩⟩ : Spo))] := by rw [hL2, e2]
    have f4 : k2 = 1 := by rw [hk2, e2]; exact f2
    apply list_endB 4 hB T16_ok [1, 4, 5, 6, 7] [14, 4, 6] [] hF
    case hex => intro A X; conv => lhs; cbv
    case hob =>
      intro X
      subst hB
      simp only [AllOb, Ob.holds, BE.den, List.mem_cons, List.not_mem_nil, or_false, forall_eq_or_imp, forall_eq] <;> (and_intros <;> first | trivial | rfl | (intro h; first | trivial | rfl))
    case hQ =>
    intro X6 a0 w1 hF
    refine wp_seq ?_
    refine wp_region_lit ?_
    apply list_preB 0 2 hB T16_ok [37, 38, 1, 4, 5, 6, 7] [14, 4, 6] [] hF
    case hex => intro A X; conv => lhs; cbv
    case hob =>
      intro X
      subst hB
      simp only [AllOb, Ob.holds, BE.den, List.mem_cons, List.not_mem_nil, or_false, forall_eq_or_imp, forall_eq] <;> (and_intros <;> first | trivial | rfl | (intro h; first | trivial | rfl))
    case hQ =>
    intro X7_0 a0 w1 hF
    have SD := do_m 14 sb bM L2 (by rw [f3]; decide) k2 ⟨1, ⟨0, 0⟩, 0, zRA, ⟨0, false, .empty, none, 0, 0, fun _ => zeroItm, 0, false⟩⟩ (Nat.zero_le _) ⟨by kernel_rfl, by kernel_rfl⟩ ⟨Int.le_refl 0, show (0 : Int) < 18446744073709551616 by decide⟩ ⟨Int.le_refl 0, show (0 : Int) < 18446744073709551616 by decide⟩
    obtain ⟨D3, hD3⟩ : ∃ D, D = doL L2 (WntA.abs ⟨1, ⟨0, 0⟩, 0, zRA, ⟨0, false, .empty, none, 0, 0, fun _ => zeroItm, 0, false⟩⟩) := ⟨_, rfl⟩
    rw [← hD3] at SD
    obtain ⟨GG3, hGG3⟩ : ∃ G : Atom → GotA, G = fun y => gotA y D3.got := ⟨_, rfl⟩
    have hGf3 : ∀ y, gotA y D3.got = GG3 y := fun y => by rw [hGG3]
    simp only [hGf3] at SD
    obtain ⟨k3, hk3⟩ : ∃ z, z = (if D3.wrote then IntKind.i64.wrap (k2 + 1) else k2) := ⟨_, rfl⟩
    rw [← hk3] at SD
    obtain ⟨er3, her3⟩ : ∃ z, z = D3.err := ⟨_, rfl⟩
    rw [← her3] at SD
    obtain ⟨L3, hL3⟩ : ∃ z, z = D3.L := ⟨_, rfl⟩
    rw [← hL3] at SD
    refine man_callM rfl rfl rfl rfl hF rfl rfl enters12 SD (fun _ _ h => h) (fun b hb => by cases hb; exact fun h => absurd h (Nat.not_lt.2 hbfr)) ⟨Sim.refl _, Sim.agg (by repeat (first | exact trivial | refine ⟨Sim.refl _, ?_⟩ | refine ⟨Sim.ff, ?_⟩ | refine ⟨Sim.recell (fun i hi => absurd hi (Nat.not_lt_zero _)), ?_⟩)), trivial⟩ (by intro e he; simp only [List.mem_singleton] at he; subst he; rfl) rfl rfl (fun _ => shK bM L3) (fun _ _ _ _ _ _ _ _ _ h => h) ?_
    intro y a0 w1 hF
    obtain ⟨g3, hg3⟩ : ∃ g, g = GG3 y := ⟨_, rfl⟩
    rw [← hg3] at hF
    replace hF := hF.withK (K' := shK bM L3) hF.kept
    have hga3 : g3.abs = D3.got := by rw [hg3, ← hGf3, gotA_abs]
    have e3 : D3 = ⟨[((⟨0, 0⟩ : Lab), (⟨1, true, ⟨1, [], noneL, 0⟩⟩ : Spo))], false, ⟨0, 1, true, ⟨1, [], noneL, 0⟩⟩, 0⟩ := by rw [hD3, f3]; kernel_rfl
    have f5 : L3 = [((⟨0, 0⟩ : Lab), (⟨1, true, ⟨1, [], noneL, 0⟩⟩ : Spo))] := by rw [hL3, e3]
    have f6 : k3 = 1 := by rw [hk3, e3]; exact f4
    apply list_endB 3 hB T16_ok [1, 4, 5, 6, 7, 8, 9] [14, 4, 6, 8] [] hF
    case hex => intro A X; conv => lhs; cbv
    case hob =>
      intro X
      subst hB
      simp only [AllOb, Ob.holds, BE.den, List.mem_cons, List.not_mem_nil, or_false, forall_eq_or_imp, forall_eq] <;> (and_intros <;> first | trivial | rfl | (intro h; first | trivial | rfl))
    case hQ =>
    intro X7 a0 w1 hF
    have SR := rows_r 14 sb bM L3 (by rw [f5]; decide) k3
    have SW := writes_r (shK bM L3) 14 sb bM k3
    obtain ⟨RR, hRR⟩ : ∃ R, R = rowsL L3 := ⟨_, rfl⟩
    rw [← hRR] at SR
    obtain ⟨nR, hnR⟩ : ∃ n, n = RR.length := ⟨_, rfl⟩
    rw [← hnR] at SR
    have f7 : nR = 1 := by rw [hnR, hRR, f5]; kernel_rfl
    refine wp_seq ?_
    apply region_okB hB T16_ok [0] [] [(54, .g [14] fun y => .sl none (y.A 0) nR (y.c 0) 8 (fun i => rowC (rwAt y RR i))), (60, .g [14] fun _ => .int .i64 k3)] hF
    case hex => intro A X; conv => lhs; cbv
    case hob =>
      intro X
      subst hB
      simp only [AllOb, Ob.holds, BE.den, List.mem_cons, List.not_mem_nil, or_false, forall_eq_or_imp, forall_eq] <;> (and_intros <;> first | trivial | rfl | (intro h; first | trivial | rfl | exact ⟨enters18, SR⟩ | exact ⟨enters15, SW⟩))
    case hQ =>
    intro X8 a0 w1 hF
    refine wp_ret ?_
    refine ret_sim (fn := Try.f16) T16_ok hF (rs := [.tmp 0]) rfl (rfl) ?_ noAtom ?_
    · simp [AllOb, Ob.holds]
    · subst hB
      have c1 := congrArg Got.code hga1
      have c2 := congrArg Got.ver hga1
      have c3 := congrArg Got.code hga2
      have c4 := congrArg Got.ver hga2
      have c5 := congrArg Got.has hga2
      have c6 := congrArg Got.has hga3
      have c7 := congrArg Got.ver hga3
      have c8 := congrArg (fun g => g.r.kind) hga3
      rw [e1] at c1 c2 her1
      rw [e2] at c3 c4 c5 her2
      rw [e3] at c6 c7 c8 her3
      simp only [GotA.abs, RN.abs] at c1 c2 c3 c4 c5 c6 c7 c8
      refine Sim.bool ?_
      simp [std, stdCmp, BE.den, canB, c1, c2, c3, c4, c5, c6, c7, c8, her1, her2, her3, f6, f7]
end Go.Proofs.Ythpbihppfijegaa.Sym

namespace Go.Proofs.Ythpbihppfijegaa.Sym
open Go Go.RowKit
set_option maxRecDepth 100000
set_option maxHeartbeats 1600000
set_option linter.unusedVariables false
set_option linter.unusedSimpArgs false
def T7 : List (Nat × TI) := [(3, ti3), (4, ti4), (22, ti22), (26, ti26), (27, ti27), (40, ti40), (46, ti46)]
theorem T7_ok : TabOK Try.prog T7 := .cons t3 (.cons t4 (.cons t22 (.cons t26 (.cons t27 (.cons t40 (.cons t46 (.nil)))))))
theorem enters7 : Enters Try.prog 7 := fun _ _ => by kernel_rfl
theorem lawNil_s (q : WntA) : Spec Try.prog 7 [wntV q] (fun _ => .bool .tt) := by
  intro m w hm hargs
  have SD := donil_s q
  refine enter hm hargs Try.func7 rfl (by simp [Try.ntmps7]) fun a0 hF => ?_
  simp only [Try.ntmps7, startT] at hF
  obtain ⟨B, hB⟩ : ∃ B, B = std := ⟨_, rfl⟩
  refine wp_seq ?_
  apply region_okB hB T7_ok [1] [1] [] hF
  case hex => intro A X; conv => lhs; cbv
  case hob =>
    intro X
    subst hB
    simp only [AllOb, Ob.holds, BE.den, List.mem_cons, List.not_mem_nil, or_false, forall_eq_or_imp, forall_eq] <;> (and_intros <;> first | trivial | rfl | (intro h; first | trivial | rfl))
  case hQ =>
  intro X0 a0 w1 hF
  refine wp_seq ?_
  apply region_okB hB T7_ok [1, 3] [1] [] hF
  case hex => intro A X; conv => lhs; cbv
  case hob =>
    intro X
    subst hB
    simp only [AllOb, Ob.holds, BE.den, List.mem_cons, List.not_mem_nil, or_false, forall_eq_or_imp, forall_eq] <;> (and_intros <;> first | trivial | rfl | (intro h; first | trivial | rfl))
  case hQ =>
  intro X1 a0 w1 hF
  refine wp_seq ?_
  apply region_okB hB T7_ok [3, 5] [] [(2, .r fun _ => .tup [gotV zGot, .int .i64 6])] hF
  case hex => intro A X; conv => lhs; cbv
  case hob =>
    intro X
    subst hB
    simp only [AllOb, Ob.holds, BE.den, List.mem_cons, List.not_mem_nil, or_false, forall_eq_or_imp, forall_eq] <;> (and_intros <;> first | trivial | rfl | exact enters12 | exact SD | exact ⟨enters12, SD⟩ | (intro h; first | trivial | rfl | exact enters12 | exact SD | exact ⟨enters12, SD⟩))
  case hQ =>
  intro X2 a0 w1 hF
  refine wp_seq ?_
  apply region_okB hB T7_ok [2] [] [(0, .r fun _ => .bool .tt), (7, .r fun _ => .sl none none 0 0 8 (fun i => rowC zRow)), (13, .r fun _ => .int .i64 0)] hF
  case hex => intro A X; conv => lhs; cbv
  case hob =>
    intro X
    subst hB
    simp only [AllOb, Ob.holds, BE.den, List.mem_cons, List.not_mem_nil, or_false, forall_eq_or_imp, forall_eq] <;> (and_intros <;> first | trivial | rfl | exact enters16 | exact shelved_s | (intro h; first | trivial | rfl | exact ⟨enters16, shelved_s⟩ | exact ⟨enters18, rownil_s⟩ | exact ⟨enters15, wrinil_s⟩))
  case hQ =>
  intro X3 a0 w1 hF
  refine wp_ret ?_
  refine ret_sim (fn := Try.f7) T7_ok hF (rs := [.tmp 2]) rfl (rfl) ?_ noAtom ?_
  · simp [AllOb, Ob.holds]
  · subst hB
    refine Sim.bool ?_
    simp [std, stdCmp, BE.den, canB]
end Go.Proofs.Ythpbihppfijegaa.Sym

namespace Go.Proofs.Ythpbihppfijegaa.Sym
open Go Go.RowKit
set_option maxRecDepth 100000
set_option maxHeartbeats 1600000
set_option linter.unusedVariables false
set_option linter.unusedSimpArgs false
abbrev wntsV (A : Option Addr) (n c : Nat) (f : Nat → WntA) : AV := .sl none A n c 15 (fun i => wntC (f i))
def bigOne (q : WntA) : Bool := bigF q.x.r.n q.x.r.f
def bigW (n : Nat) (f : Nat → WntA) : Bool := decide (60 < n) || (List.range n).any fun i => bigOne (f i)
theorem bigW_tt {n i : Nat} {f : Nat → WntA} (hi : i < n) (h : bigOne (f i) = true) : bigW n f = true := by
  unfold bigW
  rw [Bool.or_eq_true]
  exact .inr (List.any_eq_true.2 ⟨i, List.mem_range.2 hi, h⟩)
theorem bigW_end {n i : Nat} {f : Nat → WntA} (hc : ¬ ((i : Int) < (n : Int) ∧ (n : Int) ≤ 60)) (hi : i ≤ n) (h : ∀ t, t < i → bigOne (f t) = false) : bigW n f = decide ((n : Int) > 60) := by
  unfold bigW
  by_cases h6 : 60 < n
  · rw [decide_eq_true h6, Bool.true_or, decide_eq_true (by omega)]
  · have : i = n := by omega
    subst this
    rw [decide_eq_false h6, Bool.false_or, decide_eq_false (by omega), List.any_eq_false]
    intro t ht
    rw [h t (List.mem_range.1 ht)]; simp
theorem bigW_ff {n : Nat} {f : Nat → WntA} (h : bigW n f = false) : n ≤ 60 ∧ ∀ i, i < n → (f i).x.r.n ≤ 40 := by
  unfold bigW at h
  rw [Bool.or_eq_false_iff] at h
  refine ⟨by have := of_decide_eq_false h.1; omega, fun i hi => ?_⟩
  have h2 := List.any_eq_false.1 h.2 i (List.mem_range.2 hi)
  exact bigF_len (by simpa [bigOne] using h2)
theorem wnts_len {m : Nat → Nat → Prop} {w : World} {g : Option Nat} {A : Option Addr} {n c : Nat} {f : Nat → WntA} (h : Ok m w (.sl g A n c 15 (fun i => wntC (f i)))) : ∀ i, i < n → (f i).x.r.n ≤ maxLen := by
  intro i hi
  have := ok_len (ok_cell h hi (.sl none (f i).x.A (f i).x.r.n (f i).x.c 2 (fun t => itC ((f i).x.r.f t))) (by simp))
  omega
def T9 : List (Nat × TI) := [(3, ti3), (4, ti4), (23, ti23), (38, ti38), (46, ti46)]
theorem T9_ok : TabOK Try.prog T9 := .cons t3 (.cons t4 (.cons t23 (.cons t38 (.cons t46 (.nil)))))
theorem enters9 : Enters Try.prog 9 := fun _ _ => by kernel_rfl
theorem bigw_s (A : Option Addr) (n c : Nat) (f : Nat → WntA) (hn : n ≤ maxLen) : Spec Try.prog 9 [wntsV A n c f] (fun _ => .bool (.v (bigW n f))) := by
  intro m w hm hargs
  have hmx : maxLen = 9223372036854775807 := rfl
  have hln := wnts_len (hargs (wntsV A n c f) (by simp))
  refine enter hm hargs Try.func9 rfl (by simp [Try.ntmps9]) fun a0 hF => ?_
  simp only [Try.ntmps9, startT] at hF
  obtain ⟨B, hB⟩ : ∃ B, B = std := ⟨_, rfl⟩
  refine wp_seq ?_
  apply region_okB hB T9_ok [0] [] [] hF
  case hex => intro A X; conv => lhs; cbv
  case hob =>
    intro X
    subst hB
    simp only [AllOb, Ob.holds, BE.den, List.mem_cons, List.not_mem_nil, or_false, forall_eq_or_imp, forall_eq] <;> (and_intros <;> first | trivial | rfl | (intro h; first | trivial | rfl))
  case hQ =>
  intro X0 a0 w1 hF
  refine wp_seq ?_
  refine wp_seq ?_
  apply region_okB hB T9_ok [3, 0] [] [] hF
  case hex => intro A X; conv => lhs; cbv
  case hob =>
    intro X
    subst hB
    simp only [AllOb, Ob.holds, BE.den, List.mem_cons, List.not_mem_nil, or_false, forall_eq_or_imp, forall_eq] <;> (and_intros <;> first | trivial | rfl | (intro h; first | trivial | rfl))
  case hQ =>
  intro X1 a0 w1 hF
  refine wp_block ?_
  refine loop_pre (ι := Nat) (fun p => [(3, .int .i64 (p : Int))]) (fun p => []) (fun p => []) (fun p => p ≤ n ∧ ∀ t, t < p → bigOne (f t) = false) (fun p => n - p) 0 ⟨Nat.zero_le _, fun t ht => absurd ht (Nat.not_lt_zero _)⟩ hF ?_
  rintro i ⟨hi, hall⟩ a0 w1 hF
  try dsimp only at hi
  try dsimp only at hall
  refine wp_seq ?_
  refine wp_seq ?_
  apply region_okB hB T9_ok [12, 3, 0] [] [] hF
  case hex => intro A X; conv => lhs; cbv
  case hob =>
    intro X
    subst hB
    simp only [AllOb, Ob.holds, BE.den, List.mem_cons, List.not_mem_nil, or_false, forall_eq_or_imp, forall_eq] <;> (and_intros <;> first | trivial | rfl | (intro h; first | trivial | rfl))
  case hQ =>
  intro X2 a0 w1 hF
  refine test_ok hF rfl (fun hb hF => ?_) (fun hb hF => ?_)
  · skip
    have hc : (i : Int) < (n : Int) ∧ (n : Int) ≤ 60 := by subst hB; simpa [std, stdCmp, BE.den] using hb
    have hin : i < n := by omega
    have h60 : n ≤ 60 := by omega
    have S := big_s (f i).x.A (f i).x.r.n (f i).x.c (f i).x.r.f (hln i hin) (f i).x.r.kd (f i).x.r.nx (f i).x.r.mrk
    simp only [recI, rowI] at S
    obtain ⟨q, hq⟩ : ∃ q, q = bigF (f i).x.r.n (f i).x.r.f := ⟨_, rfl⟩
    rw [← hq] at S
    refine wp_skip ?_
    refine wp_seq ?_
    refine wp_block ?_
    refine wp_seq ?_
    apply region_okB hB T9_ok [20, 3, 0] [] [(5, .r fun _ => .bool (.v q))] hF
    case hex => intro A X; conv => lhs; cbv
    case hob =>
      intro X
      subst hB
      simp only [AllOb, Ob.holds, BE.den, List.mem_cons, List.not_mem_nil, or_false, forall_eq_or_imp, forall_eq] <;> (and_intros <;> first | trivial | rfl | exact (show (0 : Int) ≤ (i : Int) by omega) | exact (show (i : Int) < (n : Int) by omega) | exact enters20 | exact S | exact ⟨enters20, S⟩ | (intro h; first | trivial | rfl | exact (show (0 : Int) ≤ (i : Int) by omega) | exact (show (i : Int) < (n : Int) by omega) | exact enters20 | exact S | exact ⟨enters20, S⟩))
    case hQ =>
    intro X4 a0 w1 hF
    refine test_ok hF rfl (fun hb hF => ?_) (fun hb hF => ?_)
    · skip
      have hone : bigOne (f i) = true := by
        have : q = true := hb
        rw [← this, hq]; rfl
      refine wp_seq ?_
      apply region_okB hB T9_ok [2] [] [] hF
      case hex => intro A X; conv => lhs; cbv
      case hob =>
        intro X
        subst hB
        simp only [AllOb, Ob.holds, BE.den, List.mem_cons, List.not_mem_nil, or_false, forall_eq_or_imp, forall_eq] <;> (and_intros <;> first | trivial | rfl | (intro h; first | trivial | rfl))
      case hQ =>
      intro X5 a0 w1 hF
      refine wp_ret ?_
      refine ret_sim (fn := Try.f9) T9_ok hF (rs := [.tmp 2]) rfl (rfl) ?_ noAtom ?_
      · simp [AllOb, Ob.holds]
      · subst hB
        refine Sim.bool ?_
        show true = bigW n f
        exact (bigW_tt hin hone).symm
    · skip
      have hone : bigOne (f i) = false := by
        have : q = false := hb
        rw [← this, hq]; rfl
      refine wp_skip ?_
      apply region_okB hB T9_ok [3, 0] [] [] hF
      case hex => intro A X; conv => lhs; cbv
      case hob =>
        intro X
        subst hB
        simp only [AllOb, Ob.holds, BE.den, List.mem_cons, List.not_mem_nil, or_false, forall_eq_or_imp, forall_eq] <;> (and_intros <;> first | trivial | rfl | (intro h; first | trivial | rfl))
      case hQ =>
      intro X3 a0 w1 hF
      have e : B.arith .add .i64 (i : Int) 1 = ((i + 1 : Nat) : Int) := by subst hB; exact wrap_succ (n := n) hin (by omega)
      refine ⟨i + 1, ⟨by omega, fun t ht => ?_⟩, by omega, by rw [← e]; exact hF⟩
      by_cases hti : t = i
      · subst hti; exact hone
      · exact hall t (by omega)
  · skip
    have hc : ¬ ((i : Int) < (n : Int) ∧ (n : Int) ≤ 60) := by subst hB; simpa [std, stdCmp, BE.den] using hb
    refine wp_exit ?_
    refine wp_seq ?_
    apply region_okB hB T9_ok [2] [] [] hF
    case hex => intro A X; conv => lhs; cbv
    case hob =>
      intro X
      subst hB
      simp only [AllOb, Ob.holds, BE.den, List.mem_cons, List.not_mem_nil, or_false, forall_eq_or_imp, forall_eq] <;> (and_intros <;> first | trivial | rfl | (intro h; first | trivial | rfl))
    case hQ =>
    intro X6 a0 w1 hF
    refine wp_ret ?_
    refine ret_sim (fn := Try.f9) T9_ok hF (rs := [.tmp 2]) rfl (rfl) ?_ noAtom ?_
    · simp [AllOb, Ob.holds]
    · subst hB
      refine Sim.bool ?_
      show decide ((n : Int) > 60) = bigW n f
      rw [bigW_end hc hi hall]
end Go.Proofs.Ythpbihppfijegaa.Sym
