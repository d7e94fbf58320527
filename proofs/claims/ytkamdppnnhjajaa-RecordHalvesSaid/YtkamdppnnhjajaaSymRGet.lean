/-
  Records read by the document (printed by a program of mine). Conditions: none.
-/
import Derived.Test.YtkamdppnnhjajaaPlBack
import Derived.Test.YtkamdppnnhjajaaSymRec3
namespace Go.Proofs.Ytkamdppnnhjajaa.Sym
open Go Go.RowKit
set_option maxRecDepth 100000
set_option linter.unusedVariables false
set_option linter.unusedSimpArgs false
theorem late_test2 (f : Nat → Itm) (i k : Nat) (hi : i ≤ 1000) : (if decide ((i : Int) > 0) = true then decide ((k : Int) ≤ (f (IntKind.i64.wrap ((i : Int) - 1)).toNat).key) else false) = late (lastK f i) k := by
  unfold late lastK
  by_cases h : i = 0
  · subst h; rfl
  · have h1 : decide ((i : Int) > 0) = true := by simp; omega
    rw [h1, if_pos rfl, if_neg h, wrap_in (by omega) (by omega), show ((i : Int) - 1).toNat = i - 1 by omega]
def itsV (s : ByteArray) : List Itm := (decItems (unB s)).val []
def itsE (s : ByteArray) : Int := (decItems (unB s)).err
def nxV (s : ByteArray) : Lab := (decNext (unB s)).val ⟨0, 0⟩
def nxE (s : ByteArray) : Int := (decNext (unB s)).err
def rgV (s : ByteArray) : Rec := (decM (unB s)).val zeroRec
def rgE (s : ByteArray) : Int := (decM (unB s)).err
theorem its_dec (s : ByteArray) : (itsE s ≠ 0 → decItems (unB s) = .error (itsE s)) ∧ (itsE s = 0 → ∃ r, decItems (unB s) = .ok (itsV s, r) ∧ ∀ t, restB (decItems (unB s)) t = mkB r) := by
  cases h : decItems (unB s) with
  | error e =>
    have he : itsE s = e := by simp only [itsE, h]; rfl
    rw [he]
    refine ⟨fun _ => rfl, fun h0 => ?_⟩
    rcases decItems_err h with rfl | rfl <;> exact absurd h0 (by decide)
  | ok x =>
    obtain ⟨l, r⟩ := x
    have hv : itsV s = l := by simp only [itsV, h]; rfl
    exact ⟨fun h0 => absurd (by simp only [itsE, h]; rfl) h0, fun _ => ⟨r, by rw [hv], fun t => rfl⟩⟩
theorem nx_dec (s : ByteArray) : (nxE s ≠ 0 → decNext (unB s) = .error (nxE s)) ∧ (nxE s = 0 → ∃ r, decNext (unB s) = .ok (nxV s, r) ∧ ∀ t, restB (decNext (unB s)) t = mkB r) := by
  cases h : decNext (unB s) with
  | error e =>
    have he : nxE s = e := by simp only [nxE, h]; rfl
    rw [he]
    refine ⟨fun _ => rfl, fun h0 => ?_⟩
    rcases decNext_err h with rfl | rfl <;> exact absurd h0 (by decide)
  | ok x =>
    obtain ⟨l, r⟩ := x
    have hv : nxV s = l := by simp only [nxV, h]; rfl
    exact ⟨fun h0 => absurd (by simp only [nxE, h]; rfl) h0, fun _ => ⟨r, by rw [hv], fun t => rfl⟩⟩
theorem rg_dec (s : ByteArray) : (rgE s ≠ 0 → decM (unB s) = .error (rgE s)) ∧ (rgE s = 0 → ∃ r, decM (unB s) = .ok (rgV s, r) ∧ ∀ t, restB (decM (unB s)) t = mkB r) := by
  cases h : decM (unB s) with
  | error e =>
    have he : rgE s = e := by simp only [rgE, h]; rfl
    rw [he]
    refine ⟨fun _ => rfl, fun h0 => ?_⟩
    rcases decM_err h with rfl | rfl <;> exact absurd h0 (by decide)
  | ok x =>
    obtain ⟨l, r⟩ := x
    have hv : rgV s = l := by simp only [rgV, h]; rfl
    exact ⟨fun h0 => absurd (by simp only [rgE, h]; rfl) h0, fun _ => ⟨r, by rw [hv], fun t => rfl⟩⟩
def T80 : List (Nat × TI) := [(3, ti3), (9, ti9), (22, ti22), (23, ti23), (29, ti29), (53, ti53), (76, ti76)]
theorem T80_ok : TabOK Try.prog T80 := .cons t3 (.cons t9 (.cons t22 (.cons t23 (.cons t29 (.cons t53 (.cons t76 (.nil)))))))
theorem enters80 : Enters Try.prog 80 := fun _ _ => by kernel_rfl
theorem ritems_m0 (b : Nat) (s : ByteArray) (hsz : s.size ≤ 1000000000) : SpecX Try.prog 80 [.ptr 0 b 0] [(0, ⟨b, 78, [.str s]⟩)] (fun x => ⟨.tup [rowI (x.A 0) (itsV s).length (x.c 0) (itF (itsV s)), .int .i64 (itsE s)], [(0, [.str (restB (decItems (unB s)) (x.s 0))])], []⟩) := by
  intro m w hm hargs hpre
  have hmx : maxLen = 9223372036854775807 := rfl
  have S1 := RNum_m0 b s hsz
  have D1 := num_dec s
  generalize numV s = v1 at S1 D1
  generalize numE s = e1 at S1 D1
  generalize numR s = q1 at S1 D1
  refine enterX hm hpre hargs Try.func80 rfl (by simp [Try.ntmps80]) fun a0 hF => ?_
  simp only [Try.ntmps80, startT] at hF
  obtain ⟨B, hB⟩ : ∃ B, B = std := ⟨_, rfl⟩
  refine wp_seq ?_
  apply region_okB hB T80_ok [0] [0] [] hF
  case hex => intro A X; conv => lhs; cbv
  case hob =>
    intro X
    subst hB
    simp [AllOb, Ob.holds, BE.den, std, stdCmp, stdArith] <;> omega
  case hQ =>
  intro X0 a0 w1 hF
  refine wp_seq ?_
  apply region_okB hB T80_ok [5, 4, 0] [0] [(1, .x fun _ => ⟨.tup [.int .u64 v1, .int .i64 e1], [(0, [.str q1])], []⟩)] hF
  case hex => intro A X; conv => lhs; cbv
  case hob =>
    intro X
    subst hB; exact ⟨⟨enters79, S1⟩, trivial⟩
  case hQ =>
  intro X1 a0 w1 hF
  refine wp_seq ?_
  refine wp_seq ?_
  apply region_okB hB T80_ok [18, 5, 4, 0] [0] [] hF
  case hex => intro A X; conv => lhs; cbv
  case hob =>
    intro X
    subst hB
    simp [AllOb, Ob.holds, BE.den, std, stdCmp, stdArith] <;> omega
  case hQ =>
  intro X2 a0 w1 hF
  refine test_ok hF rfl (fun hb hF => ?_) (fun hb hF => ?_)
  · skip
    have hc1 : e1 ≠ 0 := by subst hB; simpa [std, stdCmp] using hb
    have hd1 := D1.1 hc1
    have hdd : decItems (unB s) = .error e1 := by unfold decItems; rw [hd1]
    have hV : itsV s = [] := by simp only [itsV, hdd]; rfl
    have hE : itsE s = e1 := by simp only [itsE, hdd]; rfl
    have hR : ∀ t, restB (decItems (unB s)) t = t := by intro t; rw [hdd]; rfl
    refine wp_seq ?_
    apply region_okB hB T80_ok [2, 3] [0, 2, 6, 64] [] hF
    case hex => intro A X; conv => lhs; cbv
    case hob =>
      intro X
      subst hB
      simp [AllOb, Ob.holds, BE.den, std, stdCmp, stdArith] <;> omega
    case hQ =>
    intro X3 a0 w1 hF
    refine wp_ret ?_
    refine (ret_x (fn := Try.f80) T80_ok hF (rs := [.tmp 2, .tmp 3]) rfl (rfl) ?_ (⟨0, fun _ => none, fun _ => 0, fun _ => q1⟩) [] ?_ ?_ ?_).1
    · subst hB; simp [AllOb, Ob.holds]
    · subst hB; rw [hV, hE]
      exact Sim.tup ⟨Sim.recell (fun i hi => absurd hi (Nat.not_lt_zero _)), Sim.refl _, trivial⟩
    · subst hB; exact ⟨rfl, ⟨_, rfl, by rw [hR]; exact SimL.refl _⟩, trivial⟩
    · exact trivial
  · skip
    have hc1 : e1 = 0 := by subst hB; simpa [std, stdCmp] using hb
    subst hc1
    obtain ⟨k1, r1, hd1, hv1, hq1, hk1⟩ := D1.2 rfl
    have hs1 : q1.size ≤ 1000000000 := by
      rw [hq1, mk_size]
      have := decN_len hd1
      rw [un_size] at this
      omega
    refine wp_skip ?_
    refine wp_seq ?_
    refine wp_seq ?_
    apply region_okB hB T80_ok [21, 4, 0] [0] [] hF
    case hex => intro A X; conv => lhs; cbv
    case hob =>
      intro X
      subst hB
      simp [AllOb, Ob.holds, BE.den, std, stdCmp, stdArith] <;> omega
    case hQ =>
    intro X4 a0 w1 hF
    refine test_ok hF rfl (fun hb hF => ?_) (fun hb hF => ?_)
    · skip
      have hc2 : 16 < k1 := by
        have : (16 : Int) < v1 := by subst hB; simpa [std, stdCmp] using hb
        omega
      have hdd : decItems (unB s) = .error 3 := by unfold decItems; rw [hd1]; simp [hc2]
      have hV : itsV s = [] := by simp only [itsV, hdd]; rfl
      have hE : itsE s = 3 := by simp only [itsE, hdd]; rfl
      have hR : ∀ t, restB (decItems (unB s)) t = t := by intro t; rw [hdd]; rfl
      refine wp_seq ?_
      apply region_okB hB T80_ok [2, 3] [0, 2, 6, 64] [] hF
      case hex => intro A X; conv => lhs; cbv
      case hob =>
        intro X
        subst hB
        simp [AllOb, Ob.holds, BE.den, std, stdCmp, stdArith] <;> omega
      case hQ =>
      intro X5 a0 w1 hF
      refine wp_ret ?_
      refine (ret_x (fn := Try.f80) T80_ok hF (rs := [.tmp 2, .tmp 3]) rfl (rfl) ?_ (⟨0, fun _ => none, fun _ => 0, fun _ => q1⟩) [] ?_ ?_ ?_).1
      · subst hB; simp [AllOb, Ob.holds]
      · subst hB; rw [hV, hE]
        exact Sim.tup ⟨Sim.recell (fun i hi => absurd hi (Nat.not_lt_zero _)), Sim.refl _, trivial⟩
      · subst hB; exact ⟨rfl, ⟨_, rfl, by rw [hR]; exact SimL.refl _⟩, trivial⟩
      · exact trivial
    · skip
      have hc2 : ¬ 16 < k1 := by
        have : ¬ (16 : Int) < v1 := by subst hB; simpa [std, stdCmp] using hb
        omega
      refine wp_skip ?_
      refine wp_seq ?_
      apply region_okB hB T80_ok [6, 4, 0] [0, 6, 64] [] hF
      case hex => intro A X; conv => lhs; cbv
      case hob =>
        intro X
        subst hB
        simp [AllOb, Ob.holds, BE.den, std, stdCmp, stdArith] <;> omega
      case hQ =>
      intro X6 a0 w1 hF
      refine wp_seq ?_
      refine wp_seq ?_
      apply region_okB hB T80_ok [6, 7, 0, 4] [0, 6, 64] [] hF
      case hex => intro A X; conv => lhs; cbv
      case hob =>
        intro X
        subst hB
        simp [AllOb, Ob.holds, BE.den, std, stdCmp, stdArith] <;> omega
      case hQ =>
      intro X7 a0 w1 hF
      refine wp_block ?_
      have hJ0 : decItems (unB s) = app (firsts (fun _ => zeroItm) 0) (decIt (k1 - 0) (lastK (fun _ => zeroItm) 0) (unB q1)) := by
        unfold decItems
        rw [hd1, hq1, un_mk]
        simp only [hc2, if_false]
        exact (app_nil _).symm
      replace hF := hF.headS (v' := .sl (some 6) none 0 0 2 (fun t => itC zeroItm)) (Sim.recell (fun i hi => absurd hi (Nat.not_lt_zero _))) rfl
      refine loop_pre (ι := Nat × (Nat → Itm) × Option Addr × Nat × ByteArray) (fun p => [(6, .sl (some 6) p.2.2.1 p.1 p.2.2.2.1 2 (fun t => itC (p.2.1 t))), (7, .int .i64 (p.1 : Int))]) (fun p => [(0, ⟨b, 78, [.str p.2.2.2.2]⟩)]) (fun p => [(6, ⟨p.2.2.1, p.1, p.2.2.2.1, 2, 53⟩)]) (fun p => p.1 ≤ k1 ∧ decItems (unB s) = app (firsts p.2.1 p.1) (decIt (k1 - p.1) (lastK p.2.1 p.1) (unB p.2.2.2.2)) ∧ p.2.2.2.2.size ≤ 1000000000) (fun p => k1 - p.1) (0, fun _ => zeroItm, none, 0, q1) ⟨Nat.zero_le _, hJ0, hs1⟩ hF ?_
      rintro ⟨i, f, A, c, q⟩ ⟨hi, hdec, hqs⟩ a0 w1 hF
      try dsimp only at hi
      try dsimp only at hdec
      try dsimp only at hqs
      refine wp_seq ?_
      refine wp_seq ?_
      apply region_okB hB T80_ok [25, 6, 7, 0, 4] [0, 6, 64] [] hF
      case hex => intro A X; conv => lhs; cbv
      case hob =>
        intro X
        subst hB
        simp [AllOb, Ob.holds, BE.den, std, stdCmp, stdArith] <;> omega
      case hQ =>
      intro X8 a0 w1 hF
      refine test_ok hF rfl (fun hb hF => ?_) (fun hb hF => ?_)
      · skip
        have hin : i < k1 := by
          have : (i : Int) < IntKind.i64.wrap v1 := by subst hB; simpa [std, stdCmp] using hb
          rw [hv1, wrap_in (by omega) (by omega)] at this
          omega
        have hm : k1 - i = (k1 - i - 1) + 1 := by omega
        have S3 := RNum_m0 b q hqs
        have D3 := num_dec q
        generalize numV q = v3 at S3 D3
        generalize numE q = e3 at S3 D3
        generalize numR q = q3 at S3 D3
        refine wp_skip ?_
        refine wp_seq ?_
        refine wp_block ?_
        refine wp_seq ?_
        apply region_okB hB T80_ok [9, 8, 6, 7, 0, 4] [0, 6, 64] [(1, .x fun _ => ⟨.tup [.int .u64 v3, .int .i64 e3], [(0, [.str q3])], []⟩)] hF
        case hex => intro A X; conv => lhs; cbv
        case hob =>
          intro X
          subst hB; exact ⟨⟨enters79, S3⟩, trivial⟩
        case hQ =>
        intro X10 a0 w1 hF
        refine wp_seq ?_
        refine wp_seq ?_
        apply region_okB hB T80_ok [34, 9, 8, 6, 7, 0, 4] [0, 6, 64] [] hF
        case hex => intro A X; conv => lhs; cbv
        case hob =>
          intro X
          subst hB
          simp [AllOb, Ob.holds, BE.den, std, stdCmp, stdArith] <;> omega
        case hQ =>
        intro X11 a0 w1 hF
        refine test_ok hF rfl (fun hb hF => ?_) (fun hb hF => ?_)
        · skip
          have hc3 : e3 ≠ 0 := by subst hB; simpa [std, stdCmp] using hb
          have hd3 := D3.1 hc3
          have hdd : decItems (unB s) = .error e3 := by rw [hdec, hm, it_e1 hd3]; rfl
          have hV : itsV s = [] := by simp only [itsV, hdd]; rfl
          have hE : itsE s = e3 := by simp only [itsE, hdd]; rfl
          have hR : ∀ t, restB (decItems (unB s)) t = t := by intro t; rw [hdd]; rfl
          refine wp_seq ?_
          apply region_okB hB T80_ok [2, 3] [0, 2, 6, 64] [] hF
          case hex => intro A X; conv => lhs; cbv
          case hob =>
            intro X
            subst hB
            simp [AllOb, Ob.holds, BE.den, std, stdCmp, stdArith] <;> omega
          case hQ =>
          intro X12 a0 w1 hF
          refine wp_ret ?_
          refine (ret_x (fn := Try.f80) T80_ok hF (rs := [.tmp 2, .tmp 3]) rfl (rfl) ?_ (⟨0, fun _ => none, fun _ => 0, fun _ => q3⟩) [] ?_ ?_ ?_).1
          · subst hB; simp [AllOb, Ob.holds]
          · subst hB; rw [hV, hE]
            exact Sim.tup ⟨Sim.recell (fun i hi => absurd hi (Nat.not_lt_zero _)), Sim.refl _, trivial⟩
          · subst hB; exact ⟨rfl, ⟨_, rfl, by rw [hR]; exact SimL.refl _⟩, trivial⟩
          · exact trivial
        · skip
          have hc3 : e3 = 0 := by subst hB; simpa [std, stdCmp] using hb
          subst hc3
          obtain ⟨k3, r3, hd3, hv3, hq3, hk3⟩ := D3.2 rfl
          have hs3 : q3.size ≤ 1000000000 := by
            rw [hq3, mk_size]
            have := decN_len hd3
            rw [un_size] at this
            omega
          have hpi := late_test2 f i k3 (by omega)
          refine wp_skip ?_
          refine wp_seq ?_
          refine wp_seq ?_
          apply region_okB hB T80_ok [47, 8, 6, 7, 0, 4] [0, 6, 64] [] hF
          case hex => intro A X; conv => lhs; cbv
          case hob =>
            intro X
            subst hB
            have hix : ((i : Int) > 0) → 0 ≤ IntKind.i64.wrap ((i : Int) - 1) ∧ IntKind.i64.wrap ((i : Int) - 1) < (i : Int) := fun h => by rw [wrap_in (by omega) (by omega)]; omega
            have hix2 : decide ((i : Int) > 0) = true → 0 ≤ IntKind.i64.wrap ((i : Int) - 1) ∧ IntKind.i64.wrap ((i : Int) - 1) < (i : Int) := fun h => hix (of_decide_eq_true h)
            simp only [AllOb, Ob.holds, BE.den, List.mem_cons, List.not_mem_nil, or_false, forall_eq_or_imp, forall_eq]
            and_intros <;> first | trivial | (intro h; first | trivial | exact hix2 h)
          case hQ =>
          intro X13 a0 w1 hF
          refine test_ok hF rfl (fun hb hF => ?_) (fun hb hF => ?_)
          · skip
            have hlt : late (lastK f i) k3 = true := by
              rw [← hpi]
              subst hB
              rw [hv3] at hb
              exact hb
            have hdd : decItems (unB s) = .error 3 := by rw [hdec, hm, it_e2 hd3 hlt]; rfl
            have hV : itsV s = [] := by simp only [itsV, hdd]; rfl
            have hE : itsE s = 3 := by simp only [itsE, hdd]; rfl
            have hR : ∀ t, restB (decItems (unB s)) t = t := by intro t; rw [hdd]; rfl
            refine wp_seq ?_
            apply region_okB hB T80_ok [2, 3] [0, 2, 6, 64] [] hF
            case hex => intro A X; conv => lhs; cbv
            case hob =>
              intro X
              subst hB
              simp [AllOb, Ob.holds, BE.den, std, stdCmp, stdArith] <;> omega
            case hQ =>
            intro X14 a0 w1 hF
            refine wp_ret ?_
            refine (ret_x (fn := Try.f80) T80_ok hF (rs := [.tmp 2, .tmp 3]) rfl (rfl) ?_ (⟨0, fun _ => none, fun _ => 0, fun _ => q3⟩) [] ?_ ?_ ?_).1
            · subst hB; simp [AllOb, Ob.holds]
            · subst hB; rw [hV, hE]
              exact Sim.tup ⟨Sim.recell (fun i hi => absurd hi (Nat.not_lt_zero _)), Sim.refl _, trivial⟩
            · subst hB; exact ⟨rfl, ⟨_, rfl, by rw [hR]; exact SimL.refl _⟩, trivial⟩
            · exact trivial
          · skip
            have hlt : late (lastK f i) k3 = false := by
              rw [← hpi]
              subst hB
              rw [hv3] at hb
              exact hb
            have S5 := RTxt_m0 b q3 hs3
            have D5 := txt_dec q3
            generalize txtV q3 = v5 at S5 D5
            generalize txtE q3 = e5 at S5 D5
            generalize txtR q3 = q5 at S5 D5
            have hq3u : unB q3 = r3 := by rw [hq3, un_mk]
            refine wp_skip ?_
            refine wp_seq ?_
            apply region_okB hB T80_ok [11, 10, 8, 6, 7, 0, 4] [0, 6, 64] [(1, .x fun _ => ⟨.tup [.str v5, .int .i64 e5], [(0, [.str q5])], []⟩)] hF
            case hex => intro A X; conv => lhs; cbv
            case hob =>
              intro X
              subst hB; exact ⟨⟨enters101, S5⟩, trivial⟩
            case hQ =>
            intro X15 a0 w1 hF
            refine wp_seq ?_
            refine wp_seq ?_
            apply region_okB hB T80_ok [54, 11, 10, 8, 6, 7, 0, 4] [0, 6, 64] [] hF
            case hex => intro A X; conv => lhs; cbv
            case hob =>
              intro X
              subst hB
              simp [AllOb, Ob.holds, BE.den, std, stdCmp, stdArith] <;> omega
            case hQ =>
            intro X16 a0 w1 hF
            refine test_ok hF rfl (fun hb hF => ?_) (fun hb hF => ?_)
            · skip
              have hc5 : e5 ≠ 0 := by subst hB; simpa [std, stdCmp] using hb
              have hd5 := D5.1 hc5
              rw [hq3u] at hd5
              have hdd : decItems (unB s) = .error e5 := by rw [hdec, hm, it_e3 hd3 hlt hd5]; rfl
              have hV : itsV s = [] := by simp only [itsV, hdd]; rfl
              have hE : itsE s = e5 := by simp only [itsE, hdd]; rfl
              have hR : ∀ t, restB (decItems (unB s)) t = t := by intro t; rw [hdd]; rfl
              refine wp_seq ?_
              apply region_okB hB T80_ok [2, 3] [0, 2, 6, 64] [] hF
              case hex => intro A X; conv => lhs; cbv
              case hob =>
                intro X
                subst hB
                simp [AllOb, Ob.holds, BE.den, std, stdCmp, stdArith] <;> omega
              case hQ =>
              intro X17 a0 w1 hF
              refine wp_ret ?_
              refine (ret_x (fn := Try.f80) T80_ok hF (rs := [.tmp 2, .tmp 3]) rfl (rfl) ?_ (⟨0, fun _ => none, fun _ => 0, fun _ => q5⟩) [] ?_ ?_ ?_).1
              · subst hB; simp [AllOb, Ob.holds]
              · subst hB; rw [hV, hE]
                exact Sim.tup ⟨Sim.recell (fun i hi => absurd hi (Nat.not_lt_zero _)), Sim.refl _, trivial⟩
              · subst hB; exact ⟨rfl, ⟨_, rfl, by rw [hR]; exact SimL.refl _⟩, trivial⟩
              · exact trivial
            · skip
              have hc5 : e5 = 0 := by subst hB; simpa [std, stdCmp] using hb
              subst hc5
              obtain ⟨k5, r5, hd5, hv5, hq5⟩ := D5.2 rfl
              have hs5 : q5.size ≤ 1000000000 := by
                rw [hq5, mk_size]
                have := decT_len hd5
                rw [un_size] at this
                omega
              rw [hq3u] at hd5
              refine wp_skip ?_
              refine wp_seq ?_
              refine wp_seq ?_
              apply region_okB hB T80_ok [58, 10, 8, 6, 7, 0, 4] [0, 6, 64] [] hF
              case hex => intro A X; conv => lhs; cbv
              case hob =>
                intro X
                subst hB
                simp [AllOb, Ob.holds, BE.den, std, stdCmp, stdArith] <;> omega
              case hQ =>
              intro X18 a0 w1 hF
              refine test_ok hF rfl (fun hb hF => ?_) (fun hb hF => ?_)
              · skip
                have hc6 : 64 < k5.length := by
                  have : (64 : Int) < (v5.size : Int) := by subst hB; simpa [std, stdCmp] using hb
                  rw [hv5, mk_size] at this
                  omega
                have hdd : decItems (unB s) = .error 3 := by rw [hdec, hm, it_e4 hd3 hlt hd5 hc6]; rfl
                have hV : itsV s = [] := by simp only [itsV, hdd]; rfl
                have hE : itsE s = 3 := by simp only [itsE, hdd]; rfl
                have hR : ∀ t, restB (decItems (unB s)) t = t := by intro t; rw [hdd]; rfl
                refine wp_seq ?_
                apply region_okB hB T80_ok [2, 3] [0, 2, 6, 64] [] hF
                case hex => intro A X; conv => lhs; cbv
                case hob =>
                  intro X
                  subst hB
                  simp [AllOb, Ob.holds, BE.den, std, stdCmp, stdArith] <;> omega
                case hQ =>
                intro X19 a0 w1 hF
                refine wp_ret ?_
                refine (ret_x (fn := Try.f80) T80_ok hF (rs := [.tmp 2, .tmp 3]) rfl (rfl) ?_ (⟨0, fun _ => none, fun _ => 0, fun _ => q5⟩) [] ?_ ?_ ?_).1
                · subst hB; simp [AllOb, Ob.holds]
                · subst hB; rw [hV, hE]
                  exact Sim.tup ⟨Sim.recell (fun i hi => absurd hi (Nat.not_lt_zero _)), Sim.refl _, trivial⟩
                · subst hB; exact ⟨rfl, ⟨_, rfl, by rw [hR]; exact SimL.refl _⟩, trivial⟩
                · exact trivial
              · skip
                have hc6 : ¬ 64 < k5.length := by
                  have : ¬ (64 : Int) < (v5.size : Int) := by subst hB; simpa [std, stdCmp] using hb
                  rw [hv5, mk_size] at this
                  omega
                refine wp_skip ?_
                apply region_okB hB T80_ok [6, 7, 0, 4] [0, 6, 64] [] hF
                case hex => intro A X; conv => lhs; cbv
                case hob =>
                  intro X
                  subst hB
                  refine ⟨⟨rfl, rfl, rfl⟩, ⟨?_, ?_⟩, trivial⟩
                  · show i + 1 ≤ maxLen; simp only [maxLen]; omega
                  · show (i + 1) * _ ≤ _; omega
                case hQ =>
                intro X20 a0 w1 hF
                replace hF := hF.headS (v' := .sl (some 6) ((X20 5).A 0) (B.nadd i 1) ((X20 5).c 0) 2 (fun t => itC (fSet f i ⟨v3, v5⟩ t))) (Sim.resl rfl (fun t ht => by
                  subst hB
                  have ht2 : t < i + 1 := ht
                  show appC i (fun t => itC (f t)) (chunk 2 [.int .u64 v3, .str v5]) t = _
                  unfold appC fSet
                  split
                  · simp only; rw [if_neg (by omega)]
                  · have : t = i := by omega
                    subst this
                    simp [chunk, itC])) rfl
                apply region_okB hB T80_ok [6, 7, 0, 4] [0, 6, 64] [] hF
                case hex => intro A X; conv => lhs; cbv
                case hob =>
                  intro X
                  subst hB
                  simp [AllOb, Ob.holds, BE.den, std, stdCmp, stdArith] <;> omega
                case hQ =>
                intro X9 a0 w1 hF
                have e : B.arith .add .i64 (i : Int) 1 = ((i + 1 : Nat) : Int) := by subst hB; exact wrap_succ (n := k1) hin (by omega)
                refine ⟨(i + 1, fSet f i ⟨v3, v5⟩, _, _, q5), ⟨by simp only; omega, ?_, hs5⟩, by simp only; omega, by rw [← e, show i + 1 = B.nadd i 1 by subst hB; rfl]; exact hF⟩
                · rw [hdec, hm, it_ok hd3 hlt hd5 hc6, app_app, firsts_set, lastK_set, hv3, hv5, show k1 - (i + 1) = k1 - i - 1 by omega, hq5, un_mk]
      · skip
        have hout : i = k1 := by
          have : ¬ (i : Int) < IntKind.i64.wrap v1 := by subst hB; simpa [std, stdCmp] using hb
          rw [hv1, wrap_in (by omega) (by omega)] at this
          omega
        have hfin : decItems (unB s) = .ok (firsts f k1, unB q) := by
          rw [hdec, hout, Nat.sub_self]
          simp only [decIt, app, List.append_nil]
        have hV : itsV s = firsts f k1 := by simp only [itsV, hfin]; rfl
        have hE : itsE s = 0 := by simp only [itsE, hfin]; rfl
        have hR : ∀ t, restB (decItems (unB s)) t = q := by intro t; rw [hfin]; exact mk_un q
        refine wp_exit ?_
        refine wp_seq ?_
        apply region_okB hB T80_ok [2, 3] [0, 2, 6, 64] [] hF
        case hex => intro A X; conv => lhs; cbv
        case hob =>
          intro X
          subst hB
          simp [AllOb, Ob.holds, BE.den, std, stdCmp, stdArith] <;> omega
        case hQ =>
        intro X21 a0 w1 hF
        refine wp_ret ?_
        refine (ret_x (fn := Try.f80) T80_ok hF (rs := [.tmp 2, .tmp 3]) rfl (rfl) ?_ (⟨0, fun _ => A, fun _ => c, fun _ => ⟨#[]⟩⟩) [] ?_ ?_ ?_).1
        · subst hB; simp [AllOb, Ob.holds]
        · subst hB
          rw [hV, hE, hout]
          exact Sim.tup ⟨Sim.resl (firsts_len f k1).symm (fun t ht => by rw [firsts_len] at ht; rw [firsts_get f k1 t ht]), Sim.refl _, trivial⟩
        · subst hB; exact ⟨rfl, ⟨_, rfl, by rw [hR]; exact SimL.refl _⟩, trivial⟩
        · exact trivial
theorem ritems_m (k0 : Nat) (b : Nat) (s : ByteArray) (hsz : s.size ≤ 1000000000) : SpecX Try.prog 80 [.ptr k0 b 0] [(k0, ⟨b, 78, [.str s]⟩)] (fun x => ⟨.tup [rowI (x.A 0) (itsV s).length (x.c 0) (itF (itsV s)), .int .i64 (itsE s)], [(k0, [.str (restB (decItems (unB s)) (x.s 0))])], []⟩) :=
  (ritems_m0 b s hsz).re (by repeat (first | exact trivial | refine ⟨Sim.ptr, ?_⟩ | refine ⟨Sim.fn ⟨Sim.ptr, trivial⟩ trivial, ?_⟩ | refine ⟨Sim.refl _, ?_⟩)) rfl (fun x => ⟨rfl, rfl, Sim.refl _, rfl⟩)
def T81 : List (Nat × TI) := [(23, ti23), (25, ti25), (29, ti29), (76, ti76)]
theorem T81_ok : TabOK Try.prog T81 := .cons t23 (.cons t25 (.cons t29 (.cons t76 (.nil))))
theorem enters81 : Enters Try.prog 81 := fun _ _ => by kernel_rfl
theorem rnext_m0 (b : Nat) (s : ByteArray) (hsz : s.size ≤ 1000000000) : SpecX Try.prog 81 [.ptr 0 b 0] [(0, ⟨b, 78, [.str s]⟩)] (fun x => ⟨.tup [labAV (nxV s), .int .i64 (nxE s)], [(0, [.str (restB (decNext (unB s)) (x.s 0))])], []⟩) := by
  intro m w hm hargs hpre
  have S1 := RNum_m0 b s hsz
  have D1 := num_dec s
  generalize numV s = v1 at S1 D1
  generalize numE s = e1 at S1 D1
  generalize numR s = q1 at S1 D1
  rw [show labAV (nxV s) = .agg [.int .i64 (nxV s).len, .int .u64 (nxV s).bits] from rfl]
  refine enterX hm hpre hargs Try.func81 rfl (by simp [Try.ntmps81]) fun a0 hF => ?_
  simp only [Try.ntmps81, startT] at hF
  obtain ⟨B, hB⟩ : ∃ B, B = std := ⟨_, rfl⟩
  refine wp_seq ?_
  apply region_okB hB T81_ok [0, 2] [0, 2] [] hF
  case hex => intro A X; conv => lhs; cbv
  case hob =>
    intro X
    subst hB
    simp [AllOb, Ob.holds, BE.den, std, stdCmp, stdArith] <;> omega
  case hQ =>
  intro X0 a0 w1 hF
  refine wp_seq ?_
  apply region_okB hB T81_ok [0, 2, 4, 5] [0, 2] [(1, .x fun _ => ⟨.tup [.int .u64 v1, .int .i64 e1], [(0, [.str q1])], []⟩)] hF
  case hex => intro A X; conv => lhs; cbv
  case hob =>
    intro X
    subst hB; exact ⟨⟨enters79, S1⟩, trivial⟩
  case hQ =>
  intro X1 a0 w1 hF
  refine wp_seq ?_
  refine wp_seq ?_
  apply region_okB hB T81_ok [14, 0, 2, 4, 5] [0, 2] [] hF
  case hex => intro A X; conv => lhs; cbv
  case hob =>
    intro X
    subst hB
    simp [AllOb, Ob.holds, BE.den, std, stdCmp, stdArith] <;> omega
  case hQ =>
  intro X2 a0 w1 hF
  refine test_ok hF rfl (fun hb hF => ?_) (fun hb hF => ?_)
  · skip
    have hc1 : e1 ≠ 0 := by subst hB; simpa [std, stdCmp] using hb
    have hd1 := D1.1 hc1
    have hdd : decNext (unB s) = .error e1 := by unfold decNext; rw [hd1]
    have hV : nxV s = ⟨0, 0⟩ := by simp only [nxV, hdd]; rfl
    have hE : nxE s = e1 := by simp only [nxE, hdd]; rfl
    have hR : ∀ t, restB (decNext (unB s)) t = t := by intro t; rw [hdd]; rfl
    refine wp_seq ?_
    apply region_okB hB T81_ok [2, 3] [0, 2] [] hF
    case hex => intro A X; conv => lhs; cbv
    case hob =>
      intro X
      subst hB; repeat (first | exact trivial | refine ⟨rfl, ?_⟩)
    case hQ =>
    intro X3 a0 w1 hF
    refine wp_ret ?_
    refine (ret_x (fn := Try.f81) T81_ok hF (rs := [.cell 2 25, .tmp 3]) rfl (by conv => lhs; cbv) ?_ (⟨0, fun _ => none, fun _ => 0, fun _ => q1⟩) [] ?_ ?_ ?_).1
    · subst hB; simp [AllOb, Ob.holds]
    · subst hB; rw [hV, hE]; exact Sim.refl _
    · subst hB; exact ⟨rfl, ⟨_, rfl, by rw [hR]; exact SimL.refl _⟩, trivial⟩
    · exact trivial
  · skip
    have hc1 : e1 = 0 := by subst hB; simpa [std, stdCmp] using hb
    subst hc1
    obtain ⟨k1, r1, hd1, hv1, hq1, hk1⟩ := D1.2 rfl
    have hs1 : q1.size ≤ 1000000000 := by
      rw [hq1, mk_size]
      have := decN_len hd1
      rw [un_size] at this
      omega
    refine wp_skip ?_
    refine wp_seq ?_
    refine wp_seq ?_
    apply region_okB hB T81_ok [18, 0, 2, 4] [0, 2] [] hF
    case hex => intro A X; conv => lhs; cbv
    case hob =>
      intro X
      subst hB
      simp [AllOb, Ob.holds, BE.den, std, stdCmp, stdArith] <;> omega
    case hQ =>
    intro X4 a0 w1 hF
    refine test_ok hF rfl (fun hb hF => ?_) (fun hb hF => ?_)
    · skip
      have h1 : ¬ k1 = 0 ∧ ¬ k1 = 1 := by
        have : (1 : Int) < v1 := by subst hB; simpa [std, stdCmp] using hb
        omega
      have hdd : decNext (unB s) = .error 3 := by unfold decNext; rw [hd1]; simp only [h1.1, h1.2, if_false]
      have hV : nxV s = ⟨0, 0⟩ := by simp only [nxV, hdd]; rfl
      have hE : nxE s = 3 := by simp only [nxE, hdd]; rfl
      have hR : ∀ t, restB (decNext (unB s)) t = t := by intro t; rw [hdd]; rfl
      refine wp_seq ?_
      apply region_okB hB T81_ok [2, 3] [0, 2] [] hF
      case hex => intro A X; conv => lhs; cbv
      case hob =>
        intro X
        subst hB; repeat (first | exact trivial | refine ⟨rfl, ?_⟩)
      case hQ =>
      intro X5 a0 w1 hF
      refine wp_ret ?_
      refine (ret_x (fn := Try.f81) T81_ok hF (rs := [.cell 2 25, .tmp 3]) rfl (by conv => lhs; cbv) ?_ (⟨0, fun _ => none, fun _ => 0, fun _ => q1⟩) [] ?_ ?_ ?_).1
      · subst hB; simp [AllOb, Ob.holds]
      · subst hB; rw [hV, hE]; exact Sim.refl _
      · subst hB; exact ⟨rfl, ⟨_, rfl, by rw [hR]; exact SimL.refl _⟩, trivial⟩
      · exact trivial
    · skip
      have h1 : k1 = 0 ∨ k1 = 1 := by
        have : ¬ (1 : Int) < v1 := by subst hB; simpa [std, stdCmp] using hb
        omega
      refine wp_skip ?_
      refine wp_seq ?_
      refine wp_seq ?_
      apply region_okB hB T81_ok [21, 0, 2] [0, 2] [] hF
      case hex => intro A X; conv => lhs; cbv
      case hob =>
        intro X
        subst hB
        simp [AllOb, Ob.holds, BE.den, std, stdCmp, stdArith] <;> omega
      case hQ =>
      intro X6 a0 w1 hF
      refine test_ok hF rfl (fun hb hF => ?_) (fun hb hF => ?_)
      · skip
        have hz : k1 = 0 := by
          have : v1 = 0 := by subst hB; simpa [std, stdCmp] using hb
          omega
        have S2 := rnone_s
        simp only [labAV, noneL] at S2
        have hfin : decNext (unB s) = .ok (noneL, r1) := by unfold decNext; rw [hd1]; simp only [hz, if_true]
        have hV : nxV s = noneL := by simp only [nxV, hfin]; rfl
        have hE : nxE s = 0 := by simp only [nxE, hfin]; rfl
        have hR : ∀ t, restB (decNext (unB s)) t = q1 := by intro t; rw [hfin, hq1]; rfl
        refine wp_seq ?_
        apply region_okB hB T81_ok [2, 3] [0, 2] [(0, .r fun _ => .agg [.int .i64 (-1), .int .u64 0])] hF
        case hex => intro A X; conv => lhs; cbv
        case hob =>
          intro X
          subst hB; exact ⟨⟨enters41, S2⟩, rfl, trivial⟩
        case hQ =>
        intro X7 a0 w1 hF
        refine wp_ret ?_
        refine (ret_x (fn := Try.f81) T81_ok hF (rs := [.cell 2 25, .tmp 3]) rfl (by conv => lhs; cbv) ?_ (⟨0, fun _ => none, fun _ => 0, fun _ => q1⟩) [] ?_ ?_ ?_).1
        · subst hB; simp [AllOb, Ob.holds]
        · subst hB; rw [hV, hE]; exact Sim.refl _
        · subst hB; exact ⟨rfl, ⟨_, rfl, by rw [hR]; exact SimL.refl _⟩, trivial⟩
        · exact trivial
      · skip
        have hz : ¬ k1 = 0 := by
          have : ¬ v1 = 0 := by subst hB; simpa [std, stdCmp] using hb
          omega
        have ho : k1 = 1 := by omega
        have hq1u : unB q1 = r1 := by rw [hq1, un_mk]
        have hfin : decNext (unB s) = decL (unB q1) := by unfold decNext; rw [hd1, hq1u]; simp only [ho]; rfl
        have S3 := RLab_m0 b q1 hs1
        simp only [labAV] at S3
        have hV : nxV s = labV q1 := by simp only [nxV, hfin]; rfl
        have hE : nxE s = labE q1 := by simp only [nxE, hfin]; rfl
        have hR : restB (decNext (unB s)) (labR q1) = labR q1 := by
          rw [hfin]
          unfold labR
          cases decL (unB q1) with
          | error e => rfl
          | ok x => rfl
        generalize labV q1 = v3 at S3 hV
        generalize labE q1 = e3 at S3 hE
        generalize labR q1 = q3 at S3 hR
        refine wp_skip ?_
        refine wp_seq ?_
        apply region_okB hB T81_ok [2, 6, 7] [0, 2, 6] [(1, .x fun _ => ⟨.tup [.agg [.int .i64 v3.len, .int .u64 v3.bits], .int .i64 e3], [(0, [.str q3])], []⟩)] hF
        case hex => intro A X; conv => lhs; cbv
        case hob =>
          intro X
          subst hB; exact ⟨⟨enters102, S3⟩, rfl, trivial⟩
        case hQ =>
        intro X8 a0 w1 hF
        refine wp_seq ?_
        apply region_okB hB T81_ok [2, 3] [0, 2] [] hF
        case hex => intro A X; conv => lhs; cbv
        case hob =>
          intro X
          subst hB; repeat (first | exact trivial | refine ⟨rfl, ?_⟩)
        case hQ =>
        intro X9 a0 w1 hF
        refine wp_ret ?_
        refine (ret_x (fn := Try.f81) T81_ok hF (rs := [.cell 2 25, .tmp 3]) rfl (by conv => lhs; cbv) ?_ (⟨0, fun _ => none, fun _ => 0, fun _ => q3⟩) [] ?_ ?_ ?_).1
        · subst hB; simp [AllOb, Ob.holds]
        · subst hB; rw [hV, hE]; exact Sim.refl _
        · subst hB; exact ⟨rfl, ⟨_, rfl, by rw [hR]; exact SimL.refl _⟩, trivial⟩
        · exact trivial
theorem rnext_m (k0 : Nat) (b : Nat) (s : ByteArray) (hsz : s.size ≤ 1000000000) : SpecX Try.prog 81 [.ptr k0 b 0] [(k0, ⟨b, 78, [.str s]⟩)] (fun x => ⟨.tup [labAV (nxV s), .int .i64 (nxE s)], [(k0, [.str (restB (decNext (unB s)) (x.s 0))])], []⟩) :=
  (rnext_m0 b s hsz).re (by repeat (first | exact trivial | refine ⟨Sim.ptr, ?_⟩ | refine ⟨Sim.fn ⟨Sim.ptr, trivial⟩ trivial, ?_⟩ | refine ⟨Sim.refl _, ?_⟩)) rfl (fun x => ⟨rfl, rfl, Sim.refl _, rfl⟩)
def T51 : List (Nat × TI) := [(3, ti3), (22, ti22), (23, ti23), (25, ti25), (27, ti27), (29, ti29), (76, ti76)]
theorem T51_ok : TabOK Try.prog T51 := .cons t3 (.cons t22 (.cons t23 (.cons t25 (.cons t27 (.cons t29 (.cons t76 (.nil)))))))
theorem enters51 : Enters Try.prog 51 := fun _ _ => by kernel_rfl
theorem rget_m0 (b : Nat) (s : ByteArray) (hsz : s.size ≤ 1000000000) : SpecX Try.prog 51 [.ptr 0 b 0] [(0, ⟨b, 78, [.str s]⟩)] (fun x => ⟨.tup [recAV (x.A 0) (x.c 0) (rgV s), .int .i64 (rgE s)], [(0, [.str (restB (decM (unB s)) (x.s 0))])], []⟩) := by
  intro m w hm hargs hpre
  have S1 := RNum_m0 b s hsz
  have D1 := num_dec s
  generalize numV s = v1 at S1 D1
  generalize numE s = e1 at S1 D1
  generalize numR s = q1 at S1 D1
  have SN := rnone_s
  simp only [labAV, noneL] at SN
  refine enterX hm hpre hargs Try.func51 rfl (by simp [Try.ntmps51]) fun a0 hF => ?_
  simp only [Try.ntmps51, startT] at hF
  obtain ⟨B, hB⟩ : ∃ B, B = std := ⟨_, rfl⟩
  refine wp_seq ?_
  apply region_okB hB T51_ok [0, 2] [0, 2] [] hF
  case hex => intro A X; conv => lhs; cbv
  case hob =>
    intro X
    subst hB
    simp [AllOb, Ob.holds, BE.den, std, stdCmp, stdArith] <;> omega
  case hQ =>
  intro X0 a0 w1 hF
  refine wp_seq ?_
  apply region_okB hB T51_ok [0, 2, 4, 5] [0, 2] [(1, .x fun _ => ⟨.tup [.int .u64 v1, .int .i64 e1], [(0, [.str q1])], []⟩)] hF
  case hex => intro A X; conv => lhs; cbv
  case hob =>
    intro X
    subst hB; exact ⟨⟨enters79, S1⟩, trivial⟩
  case hQ =>
  intro X1 a0 w1 hF
  refine wp_seq ?_
  refine wp_seq ?_
  apply region_okB hB T51_ok [19, 0, 2, 4, 5] [0, 2] [] hF
  case hex => intro A X; conv => lhs; cbv
  case hob =>
    intro X
    subst hB
    simp [AllOb, Ob.holds, BE.den, std, stdCmp, stdArith] <;> omega
  case hQ =>
  intro X2 a0 w1 hF
  refine test_ok hF rfl (fun hb hF => ?_) (fun hb hF => ?_)
  · skip
    have hc1 : e1 ≠ 0 := by subst hB; simpa [std, stdCmp] using hb
    have hd1 := D1.1 hc1
    have hdd : decM (unB s) = .error e1 := by unfold decM; rw [hd1]
    have hV : rgV s = zeroRec := by simp only [rgV, hdd]; rfl
    have hE : rgE s = e1 := by simp only [rgE, hdd]; rfl
    have hR : ∀ t, restB (decM (unB s)) t = t := by intro t; rw [hdd]; rfl
    refine wp_seq ?_
    apply region_okB hB T51_ok [2, 3] [0, 2] [] hF
    case hex => intro A X; conv => lhs; cbv
    case hob =>
      intro X
      subst hB; repeat (first | exact trivial | refine ⟨rfl, ?_⟩)
    case hQ =>
    intro X3 a0 w1 hF
    refine wp_ret ?_
    refine (ret_x (fn := Try.f51) T51_ok hF (rs := [.cell 2 27, .tmp 3]) rfl (by conv => lhs; cbv) ?_ (⟨0, fun _ => none, fun _ => 0, fun _ => q1⟩) [] ?_ ?_ ?_).1
    · subst hB; simp [AllOb, Ob.holds]
    · subst hB; rw [hV, hE]
      exact Sim.tup ⟨Sim.agg ⟨Sim.refl _, Sim.recell (fun i hi => absurd hi (Nat.not_lt_zero _)), Sim.refl _, Sim.refl _, Sim.refl _, trivial⟩, Sim.refl _, trivial⟩
    · subst hB; exact ⟨rfl, ⟨_, rfl, by rw [hR]; exact SimL.refl _⟩, trivial⟩
    · exact trivial
  · skip
    have hc1 : e1 = 0 := by subst hB; simpa [std, stdCmp] using hb
    subst hc1
    obtain ⟨k1, r1, hd1, hv1, hq1, hk1⟩ := D1.2 rfl
    have hs1 : q1.size ≤ 1000000000 := by
      rw [hq1, mk_size]
      have := decN_len hd1
      rw [un_size] at this
      omega
    have hq1u : unB q1 = r1 := by rw [hq1, un_mk]
    refine wp_skip ?_
    refine wp_seq ?_
    refine wp_seq ?_
    apply region_okB hB T51_ok [27, 0, 2, 4] [0, 2] [] hF
    case hex => intro A X; conv => lhs; cbv
    case hob =>
      intro X
      subst hB
      simp [AllOb, Ob.holds, BE.den, std, stdCmp, stdArith] <;> omega
    case hQ =>
    intro X4 a0 w1 hF
    refine test_ok hF rfl (fun hb hF => ?_) (fun hb hF => ?_)
    · skip
      have hk15 : k1 < 1 ∨ 5 < k1 := by
        have h9 : (if decide (v1 < 1) = true then true else decide (v1 > 5)) = true := by subst hB; exact hb
        by_cases h1 : v1 < 1
        · omega
        · rw [if_neg (by simpa using h1)] at h9
          have := of_decide_eq_true h9
          omega
      have hdd : decM (unB s) = .error 3 := by unfold decM; rw [hd1]; simp only [hk15, if_true]
      have hV : rgV s = zeroRec := by simp only [rgV, hdd]; rfl
      have hE : rgE s = 3 := by simp only [rgE, hdd]; rfl
      have hR : ∀ t, restB (decM (unB s)) t = t := by intro t; rw [hdd]; rfl
      refine wp_seq ?_
      apply region_okB hB T51_ok [2, 3] [0, 2] [] hF
      case hex => intro A X; conv => lhs; cbv
      case hob =>
        intro X
        subst hB; repeat (first | exact trivial | refine ⟨rfl, ?_⟩)
      case hQ =>
      intro X5 a0 w1 hF
      refine wp_ret ?_
      refine (ret_x (fn := Try.f51) T51_ok hF (rs := [.cell 2 27, .tmp 3]) rfl (by conv => lhs; cbv) ?_ (⟨0, fun _ => none, fun _ => 0, fun _ => q1⟩) [] ?_ ?_ ?_).1
      · subst hB; simp [AllOb, Ob.holds]
      · subst hB; rw [hV, hE]
        exact Sim.tup ⟨Sim.agg ⟨Sim.refl _, Sim.recell (fun i hi => absurd hi (Nat.not_lt_zero _)), Sim.refl _, Sim.refl _, Sim.refl _, trivial⟩, Sim.refl _, trivial⟩
      · subst hB; exact ⟨rfl, ⟨_, rfl, by rw [hR]; exact SimL.refl _⟩, trivial⟩
      · exact trivial
    · skip
      have hk15 : ¬ (k1 < 1 ∨ 5 < k1) := by
        have h9 : (if decide (v1 < 1) = true then true else decide (v1 > 5)) = false := by subst hB; exact hb
        by_cases h1 : v1 < 1
        · simp [h1] at h9
        · rw [if_neg (by simpa using h1)] at h9
          have := of_decide_eq_false h9
          omega
      refine wp_skip ?_
      refine wp_seq ?_
      apply region_okB hB T51_ok [6, 2, 0] [0, 2, 6] [(2, .r fun _ => .agg [.int .i64 (-1), .int .u64 0])] hF
      case hex => intro A X; conv => lhs; cbv
      case hob =>
        intro X
        subst hB; first | exact ⟨⟨enters41, SN⟩, trivial⟩ | exact ⟨⟨enters41, SN⟩, rfl, trivial⟩
      case hQ =>
      intro X6 a0 w1 hF
      obtain ⟨kd, hkd⟩ : ∃ kd : Int, kd = B.conv .i64 v1 := ⟨_, rfl⟩
      replace hF : Fits ⟨m, w, ats [(0, ⟨b, 78, [.str s]⟩)], []⟩ ⟨74, [(6, .ptr 6 (X6 4).b 0), (2, .ptr 2 (X0 0).b 0), (0, .ptr 0 b 0)], [], [(0, ⟨b, 78, [.str q1]⟩), (2, ⟨(X0 0).b, 27, [.int .i64 0, .sl none none 0 0 2 fun x => [], .int .i64 0, .int .u64 0, .int .u64 0]⟩), (6, ⟨(X6 4).b, 27, [.int .i64 kd, .sl none none 0 0 2 fun x => [], .int .i64 (-1), .int .u64 0, .int .u64 0]⟩)], []⟩ a0 w1 := by rw [hkd]; exact hF
      have hkd2 : kd = (k1 : Int) := by
        rw [hkd]; subst hB; show IntKind.i64.wrap v1 = _; rw [hv1, wrap_in (by omega) (by omega)]
      have SB := bare_s kd
      obtain ⟨bk, hbk⟩ : ∃ bk, bk = bareK kd := ⟨_, rfl⟩
      rw [← hbk] at SB
      rw [hkd2] at hbk
      refine wp_seq ?_
      refine wp_seq ?_
      apply region_okB hB T51_ok [35, 0, 2, 6] [0, 2, 6] [(2, .r fun _ => .bool (.v bk))] hF
      case hex => intro A X; conv => lhs; cbv
      case hob =>
        intro X
        subst hB; exact ⟨rfl, ⟨enters39, SB⟩, trivial⟩
      case hQ =>
      intro X7 a0 w1 hF
      refine test_ok hF rfl (fun hb hF => ?_) (fun hb hF => ?_)
      · skip
        have hbt : bareK k1 = true := by rw [← hbk]; exact hb
        have hdd : decM (unB s) = .ok (⟨k1, [], noneL, 0⟩, r1) := by unfold decM; rw [hd1]; simp only [hk15, hbt, if_true, if_false]
        have hV : rgV s = ⟨k1, [], noneL, 0⟩ := by simp only [rgV, hdd]; rfl
        have hE : rgE s = 0 := by simp only [rgE, hdd]; rfl
        have hR : ∀ t, restB (decM (unB s)) t = q1 := by intro t; rw [hdd, hq1]; rfl
        refine wp_seq ?_
        apply region_okB hB T51_ok [2, 3] [0, 2] [] hF
        case hex => intro A X; conv => lhs; cbv
        case hob =>
          intro X
          subst hB; repeat (first | exact trivial | refine ⟨rfl, ?_⟩)
        case hQ =>
        intro X8 a0 w1 hF
        refine wp_ret ?_
        refine (ret_x (fn := Try.f51) T51_ok hF (rs := [.cell 2 27, .tmp 3]) rfl (by conv => lhs; cbv) ?_ (⟨0, fun _ => none, fun _ => 0, fun _ => q1⟩) [] ?_ ?_ ?_).1
        · subst hB; simp [AllOb, Ob.holds]
        · subst hB; rw [hV, hE]
          exact Sim.tup ⟨Sim.agg ⟨by first | exact Sim.refl _ | (rw [hkd2]; exact Sim.refl _), Sim.resl (by first | rfl | exact hn2) (fun t ht => by first | (rw [hf2]) | exact absurd ht (Nat.not_lt_zero _)), Sim.refl _, Sim.refl _, Sim.refl _, trivial⟩, Sim.refl _, trivial⟩
        · subst hB; exact ⟨rfl, ⟨_, rfl, by rw [hR]; exact SimL.refl _⟩, trivial⟩
        · exact trivial
      · skip
        have hbf : ¬ bareK k1 = true := by rw [← hbk]; intro h; rw [h] at hb; cases hb
        have hdb : decM (unB s) = decBody k1 (unB q1) := by unfold decM; rw [hd1, hq1u]; simp only [hk15, hbf, if_false]; rfl
        have S2 := ritems_m0 b q1 hs1
        simp only [rowI] at S2
        have D2 := its_dec q1
        obtain ⟨l2, hl2⟩ : ∃ l, l = itsV q1 := ⟨_, rfl⟩
        obtain ⟨g2, hg2⟩ : ∃ g, g = restB (decItems (unB q1)) := ⟨_, rfl⟩
        rw [← hl2, ← hg2] at D2
        rw [← hl2, ← hg2] at S2
        obtain ⟨n2, hn2⟩ : ∃ n, n = l2.length := ⟨_, rfl⟩
        obtain ⟨f2, hf2⟩ : ∃ f, f = itF l2 := ⟨_, rfl⟩
        rw [← hn2, ← hf2] at S2
        generalize itsE q1 = e2 at S2 D2
        refine wp_skip ?_
        refine wp_seq ?_
        apply region_okB hB T51_ok [0, 2, 6, 7, 8] [0, 2, 6] [(1, .x fun x => ⟨.tup [.sl none (x.A 0) n2 (x.c 0) 2 (fun i => itC (f2 i)), .int .i64 e2], [(0, [.str (g2 (x.s 0))])], []⟩)] hF
        case hex => intro A X; conv => lhs; cbv
        case hob =>
          intro X
          subst hB; exact ⟨⟨enters80, S2⟩, trivial⟩
        case hQ =>
        intro X9 a0 w1 hF
        refine wp_seq ?_
        refine wp_seq ?_
        apply region_okB hB T51_ok [43, 0, 2, 6, 7, 8] [0, 2, 6] [] hF
        case hex => intro A X; conv => lhs; cbv
        case hob =>
          intro X
          subst hB
          simp [AllOb, Ob.holds, BE.den, std, stdCmp, stdArith] <;> omega
        case hQ =>
        intro X10 a0 w1 hF
        refine test_ok hF rfl (fun hb hF => ?_) (fun hb hF => ?_)
        · skip
          have hc2 : e2 ≠ 0 := by subst hB; simpa [std, stdCmp] using hb
          have hd2 := D2.1 hc2
          have hdd : decM (unB s) = .error e2 := by rw [hdb]; unfold decBody; rw [hd2]
          have hV : rgV s = zeroRec := by simp only [rgV, hdd]; rfl
          have hE : rgE s = e2 := by simp only [rgE, hdd]; rfl
          have hR : ∀ t, restB (decM (unB s)) t = t := by intro t; rw [hdd]; rfl
          refine wp_seq ?_
          apply region_okB hB T51_ok [2, 3] [0, 2] [] hF
          case hex => intro A X; conv => lhs; cbv
          case hob =>
            intro X
            subst hB; repeat (first | exact trivial | refine ⟨rfl, ?_⟩)
          case hQ =>
          intro X11 a0 w1 hF
          refine wp_ret ?_
          refine (ret_x (fn := Try.f51) T51_ok hF (rs := [.cell 2 27, .tmp 3]) rfl (by conv => lhs; cbv) ?_ (⟨0, fun _ => none, fun _ => 0, fun _ => (g2 ((X9 1).s 0))⟩) [] ?_ ?_ ?_).1
          · subst hB; simp [AllOb, Ob.holds]
          · subst hB; rw [hV, hE]
            exact Sim.tup ⟨Sim.agg ⟨Sim.refl _, Sim.recell (fun i hi => absurd hi (Nat.not_lt_zero _)), Sim.refl _, Sim.refl _, Sim.refl _, trivial⟩, Sim.refl _, trivial⟩
          · subst hB; exact ⟨rfl, ⟨_, rfl, by rw [hR]; exact SimL.refl _⟩, trivial⟩
          · exact trivial
        · skip
          have hc2 : e2 = 0 := by subst hB; simpa [std, stdCmp] using hb
          subst hc2
          obtain ⟨r2, hd2, hq2⟩ := D2.2 rfl
          have hq2e : (g2 ((X9 1).s 0)) = mkB r2 := hq2 _
          have hs2 : (g2 ((X9 1).s 0)).size ≤ 1000000000 := by
            rw [hq2e, mk_size]
            have := decItems_len hd2
            rw [un_size] at this
            omega
          have hq2u : unB (g2 ((X9 1).s 0)) = r2 := by rw [hq2e, un_mk]
          have S3 := rnext_m0 b (g2 ((X9 1).s 0)) hs2
          simp only [labAV] at S3
          have D3 := nx_dec (g2 ((X9 1).s 0))
          obtain ⟨g3, hg3⟩ : ∃ g, g = restB (decNext (unB (g2 ((X9 1).s 0)))) := ⟨_, rfl⟩
          rw [← hg3] at D3
          rw [← hg3] at S3
          generalize nxV (g2 ((X9 1).s 0)) = v3 at S3 D3
          generalize nxE (g2 ((X9 1).s 0)) = e3 at S3 D3
          refine wp_skip ?_
          refine wp_seq ?_
          apply region_okB hB T51_ok [0, 2, 6, 7, 9, 10] [0, 2, 6, 9] [(1, .x fun x => ⟨.tup [.agg [.int .i64 v3.len, .int .u64 v3.bits], .int .i64 e3], [(0, [.str (g3 (x.s 0))])], []⟩)] hF
          case hex => intro A X; conv => lhs; cbv
          case hob =>
            intro X
            subst hB; exact ⟨⟨enters81, S3⟩, rfl, trivial⟩
          case hQ =>
          intro X12 a0 w1 hF
          refine wp_seq ?_
          refine wp_seq ?_
          apply region_okB hB T51_ok [52, 0, 2, 6, 7, 9, 10] [0, 2, 6, 9] [] hF
          case hex => intro A X; conv => lhs; cbv
          case hob =>
            intro X
            subst hB
            simp [AllOb, Ob.holds, BE.den, std, stdCmp, stdArith] <;> omega
          case hQ =>
          intro X13 a0 w1 hF
          refine test_ok hF rfl (fun hb hF => ?_) (fun hb hF => ?_)
          · skip
            have hc3 : e3 ≠ 0 := by subst hB; simpa [std, stdCmp] using hb
            have hd3 := D3.1 hc3
            rw [hq2u] at hd3
            have hdd : decM (unB s) = .error e3 := by rw [hdb]; unfold decBody; rw [hd2]; simp only; rw [hd3]
            have hV : rgV s = zeroRec := by simp only [rgV, hdd]; rfl
            have hE : rgE s = e3 := by simp only [rgE, hdd]; rfl
            have hR : ∀ t, restB (decM (unB s)) t = t := by intro t; rw [hdd]; rfl
            refine wp_seq ?_
            apply region_okB hB T51_ok [2, 3] [0, 2] [] hF
            case hex => intro A X; conv => lhs; cbv
            case hob =>
              intro X
              subst hB; repeat (first | exact trivial | refine ⟨rfl, ?_⟩)
            case hQ =>
            intro X14 a0 w1 hF
            refine wp_ret ?_
            refine (ret_x (fn := Try.f51) T51_ok hF (rs := [.cell 2 27, .tmp 3]) rfl (by conv => lhs; cbv) ?_ (⟨0, fun _ => none, fun _ => 0, fun _ => (g3 ((X12 1).s 0))⟩) [] ?_ ?_ ?_).1
            · subst hB; simp [AllOb, Ob.holds]
            · subst hB; rw [hV, hE]
              exact Sim.tup ⟨Sim.agg ⟨Sim.refl _, Sim.recell (fun i hi => absurd hi (Nat.not_lt_zero _)), Sim.refl _, Sim.refl _, Sim.refl _, trivial⟩, Sim.refl _, trivial⟩
            · subst hB; exact ⟨rfl, ⟨_, rfl, by rw [hR]; exact SimL.refl _⟩, trivial⟩
            · exact trivial
          · skip
            have hc3 : e3 = 0 := by subst hB; simpa [std, stdCmp] using hb
            subst hc3
            obtain ⟨r3, hd3, hq3⟩ := D3.2 rfl
            have hq3e : (g3 ((X12 1).s 0)) = mkB r3 := hq3 _
            have hs3 : (g3 ((X12 1).s 0)).size ≤ 1000000000 := by
              rw [hq3e, mk_size]
              have := decNext_len hd3
              rw [un_size] at this
              omega
            have hq3u : unB (g3 ((X12 1).s 0)) = r3 := by rw [hq3e, un_mk]
            rw [hq2u] at hd3
            have hdm : decM (unB s) = decMark k1 l2 v3 (unB (g3 ((X12 1).s 0))) := by rw [hdb, hq3u]; unfold decBody; rw [hd2]; simp only; rw [hd3]
            refine wp_skip ?_
            refine wp_seq ?_
            apply region_okB hB T51_ok [0, 2, 6, 9] [0, 2, 6, 9] [] hF
            case hex => intro A X; conv => lhs; cbv
            case hob =>
              intro X
              subst hB; repeat (first | exact trivial | refine ⟨rfl, ?_⟩)
            case hQ =>
            intro X15 a0 w1 hF
            refine wp_seq ?_
            apply region_okB hB T51_ok [0, 2, 6] [0, 2, 6] [] hF
            case hex => intro A X; conv => lhs; cbv
            case hob =>
              intro X
              subst hB; repeat (first | exact trivial | refine ⟨rfl, ?_⟩)
            case hQ =>
            intro X16 a0 w1 hF
            refine wp_seq ?_
            refine wp_seq ?_
            apply region_okB hB T51_ok [61, 0, 2, 6] [0, 2, 6] [] hF
            case hex => intro A X; conv => lhs; cbv
            case hob =>
              intro X
              subst hB; repeat (first | exact trivial | refine ⟨rfl, ?_⟩)
            case hQ =>
            intro X17 a0 w1 hF
            refine test_ok hF rfl (fun hb hF => ?_) (fun hb hF => ?_)
            · skip
              have h5 : k1 = 5 := by
                have : kd = 5 := by subst hB; simpa [std, stdCmp] using hb
                omega
              have S4 := RNum_m0 b (g3 ((X12 1).s 0)) hs3
              have D4 := num_dec (g3 ((X12 1).s 0))
              generalize numV (g3 ((X12 1).s 0)) = v4 at S4 D4
              generalize numE (g3 ((X12 1).s 0)) = e4 at S4 D4
              generalize numR (g3 ((X12 1).s 0)) = q4 at S4 D4
              refine wp_seq ?_
              apply region_okB hB T51_ok [12, 11, 6, 2, 0] [0, 2, 6] [(1, .x fun _ => ⟨.tup [.int .u64 v4, .int .i64 e4], [(0, [.str q4])], []⟩)] hF
              case hex => intro A X; conv => lhs; cbv
              case hob =>
                intro X
                subst hB; exact ⟨⟨enters79, S4⟩, trivial⟩
              case hQ =>
              intro X18 a0 w1 hF
              refine wp_seq ?_
              refine wp_seq ?_
              apply region_okB hB T51_ok [68, 2, 6, 11, 12] [0, 2, 6] [] hF
              case hex => intro A X; conv => lhs; cbv
              case hob =>
                intro X
                subst hB
                simp [AllOb, Ob.holds, BE.den, std, stdCmp, stdArith] <;> omega
              case hQ =>
              intro X19 a0 w1 hF
              refine test_ok hF rfl (fun hb hF => ?_) (fun hb hF => ?_)
              · skip
                have hc4 : e4 ≠ 0 := by subst hB; simpa [std, stdCmp] using hb
                have hd4 := D4.1 hc4
                have hdd : decM (unB s) = .error e4 := by rw [hdm]; unfold decMark; simp only [h5, if_true]; rw [hd4]
                have hV : rgV s = zeroRec := by simp only [rgV, hdd]; rfl
                have hE : rgE s = e4 := by simp only [rgE, hdd]; rfl
                have hR : ∀ t, restB (decM (unB s)) t = t := by intro t; rw [hdd]; rfl
                refine wp_seq ?_
                apply region_okB hB T51_ok [2, 3] [0, 2] [] hF
                case hex => intro A X; conv => lhs; cbv
                case hob =>
                  intro X
                  subst hB; repeat (first | exact trivial | refine ⟨rfl, ?_⟩)
                case hQ =>
                intro X20 a0 w1 hF
                refine wp_ret ?_
                refine (ret_x (fn := Try.f51) T51_ok hF (rs := [.cell 2 27, .tmp 3]) rfl (by conv => lhs; cbv) ?_ (⟨0, fun _ => none, fun _ => 0, fun _ => q4⟩) [] ?_ ?_ ?_).1
                · subst hB; simp [AllOb, Ob.holds]
                · subst hB; rw [hV, hE]
                  exact Sim.tup ⟨Sim.agg ⟨Sim.refl _, Sim.recell (fun i hi => absurd hi (Nat.not_lt_zero _)), Sim.refl _, Sim.refl _, Sim.refl _, trivial⟩, Sim.refl _, trivial⟩
                · subst hB; exact ⟨rfl, ⟨_, rfl, by rw [hR]; exact SimL.refl _⟩, trivial⟩
                · exact trivial
              · skip
                have hc4 : e4 = 0 := by subst hB; simpa [std, stdCmp] using hb
                subst hc4
                obtain ⟨k4, r4, hd4, hv4, hq4, hk4⟩ := D4.2 rfl
                have hdd : decM (unB s) = .ok (⟨k1, l2, v3, v4⟩, r4) := by rw [hdm, hv4]; unfold decMark; simp only [h5, if_true]; rw [hd4]
                have hV : rgV s = ⟨k1, l2, v3, v4⟩ := by simp only [rgV, hdd]; rfl
                have hE : rgE s = 0 := by simp only [rgE, hdd]; rfl
                have hR : ∀ t, restB (decM (unB s)) t = q4 := by intro t; rw [hdd, hq4]; rfl
                refine wp_skip ?_
                apply region_okB hB T51_ok [2, 6] [0, 2, 6] [] hF
                case hex => intro A X; conv => lhs; cbv
                case hob =>
                  intro X
                  subst hB; repeat (first | exact trivial | refine ⟨rfl, ?_⟩)
                case hQ =>
                intro X21 a0 w1 hF
                refine wp_seq ?_
                apply region_okB hB T51_ok [2, 3] [0, 2] [] hF
                case hex => intro A X; conv => lhs; cbv
                case hob =>
                  intro X
                  subst hB; repeat (first | exact trivial | refine ⟨rfl, ?_⟩)
                case hQ =>
                intro X22 a0 w1 hF
                refine wp_ret ?_
                refine (ret_x (fn := Try.f51) T51_ok hF (rs := [.cell 2 27, .tmp 3]) rfl (by conv => lhs; cbv) ?_ (⟨0, fun _ => (X9 1).A 0, fun _ => (X9 1).c 0, fun _ => q4⟩) [] ?_ ?_ ?_).1
                · subst hB; simp [AllOb, Ob.holds]
                · subst hB; rw [hV, hE]
                  exact Sim.tup ⟨Sim.agg ⟨by first | exact Sim.refl _ | (rw [hkd2]; exact Sim.refl _), Sim.resl (by first | rfl | exact hn2) (fun t ht => by first | (rw [hf2]) | exact absurd ht (Nat.not_lt_zero _)), Sim.refl _, Sim.refl _, Sim.refl _, trivial⟩, Sim.refl _, trivial⟩
                · subst hB; exact ⟨rfl, ⟨_, rfl, by rw [hR]; exact SimL.refl _⟩, trivial⟩
                · exact trivial
            · skip
              have h5 : ¬ k1 = 5 := by
                have : ¬ kd = 5 := by subst hB; simpa [std, stdCmp] using hb
                omega
              obtain ⟨mk, hmk⟩ : ∃ m : Int, m = 0 := ⟨_, rfl⟩
              have hdd : decM (unB s) = .ok (⟨k1, l2, v3, 0⟩, unB (g3 ((X12 1).s 0))) := by rw [hdm]; unfold decMark; simp only [h5, if_false]
              have hV : rgV s = ⟨k1, l2, v3, 0⟩ := by simp only [rgV, hdd]; rfl
              have hE : rgE s = 0 := by simp only [rgE, hdd]; rfl
              have hR : ∀ t, restB (decM (unB s)) t = (g3 ((X12 1).s 0)) := by intro t; rw [hdd]; exact mk_un _
              refine wp_skip ?_
              refine wp_seq ?_
              apply region_okB hB T51_ok [2, 3] [0, 2] [] hF
              case hex => intro A X; conv => lhs; cbv
              case hob =>
                intro X
                subst hB; repeat (first | exact trivial | refine ⟨rfl, ?_⟩)
              case hQ =>
              intro X22 a0 w1 hF
              refine wp_ret ?_
              refine (ret_x (fn := Try.f51) T51_ok hF (rs := [.cell 2 27, .tmp 3]) rfl (by conv => lhs; cbv) ?_ (⟨0, fun _ => (X9 1).A 0, fun _ => (X9 1).c 0, fun _ => (g3 ((X12 1).s 0))⟩) [] ?_ ?_ ?_).1
              · subst hB; simp [AllOb, Ob.holds]
              · subst hB; rw [hV, hE]
                exact Sim.tup ⟨Sim.agg ⟨by first | exact Sim.refl _ | (rw [hkd2]; exact Sim.refl _), Sim.resl (by first | rfl | exact hn2) (fun t ht => by first | (rw [hf2]) | exact absurd ht (Nat.not_lt_zero _)), Sim.refl _, Sim.refl _, Sim.refl _, trivial⟩, Sim.refl _, trivial⟩
              · subst hB; exact ⟨rfl, ⟨_, rfl, by rw [hR]; exact SimL.refl _⟩, trivial⟩
              · exact trivial
theorem rget_m (k0 : Nat) (b : Nat) (s : ByteArray) (hsz : s.size ≤ 1000000000) : SpecX Try.prog 51 [.ptr k0 b 0] [(k0, ⟨b, 78, [.str s]⟩)] (fun x => ⟨.tup [recAV (x.A 0) (x.c 0) (rgV s), .int .i64 (rgE s)], [(k0, [.str (restB (decM (unB s)) (x.s 0))])], []⟩) :=
  (rget_m0 b s hsz).re (by repeat (first | exact trivial | refine ⟨Sim.ptr, ?_⟩ | refine ⟨Sim.fn ⟨Sim.ptr, trivial⟩ trivial, ?_⟩ | refine ⟨Sim.refl _, ?_⟩)) rfl (fun x => ⟨rfl, rfl, Sim.refl _, rfl⟩)
def T13 : List (Nat × TI) := [(9, ti9), (27, ti27), (29, ti29), (76, ti76), (78, ti78)]
theorem T13_ok : TabOK Try.prog T13 := .cons t9 (.cons t27 (.cons t29 (.cons t76 (.cons t78 (.nil)))))
theorem enters13 : Enters Try.prog 13 := fun _ _ => by kernel_rfl
theorem rgot_s (s : ByteArray) (hsz : s.size ≤ 1000000000) : Spec Try.prog 13 [.str s] (fun x => .tup [recAV (x.A 0) (x.c 0) (gotR s), .int .i64 (gotE s)]) := by
  intro m w hm hargs
  refine enter hm hargs Try.func13 rfl (by simp [Try.ntmps13]) fun a0 hF => ?_
  simp only [Try.ntmps13, startT] at hF
  obtain ⟨B, hB⟩ : ∃ B, B = std := ⟨_, rfl⟩
  refine wp_seq ?_
  apply region_okB hB T13_ok [0, 2] [2] [] hF
  case hex => intro A X; conv => lhs; cbv
  case hob =>
    intro X
    subst hB
    simp [AllOb, Ob.holds, BE.den, std, stdCmp, stdArith] <;> omega
  case hQ =>
  intro X0 a0 w1 hF
  refine wp_seq ?_
  apply region_okB hB T13_ok [2, 4] [2, 9] [] hF
  case hex => intro A X; conv => lhs; cbv
  case hob =>
    intro X
    subst hB
    simp [AllOb, Ob.holds, BE.den, std, stdCmp, stdArith] <;> omega
  case hQ =>
  intro X1 a0 w1 hF
  have S2 := rget_m 9 (X1 2).b s hsz
  simp only [recAV, recI, rowI] at S2
  have D2 := rg_dec s
  obtain ⟨r, hr⟩ : ∃ l, l = rgV s := ⟨_, rfl⟩
  obtain ⟨g2, hg2⟩ : ∃ g, g = restB (decM (unB s)) := ⟨_, rfl⟩
  rw [← hr, ← hg2] at D2
  rw [← hr, ← hg2] at S2
  obtain ⟨n2, hn2⟩ : ∃ n, n = r.items.length := ⟨_, rfl⟩
  obtain ⟨f2, hf2⟩ : ∃ f, f = itF r.items := ⟨_, rfl⟩
  rw [← hn2, ← hf2] at S2
  generalize rgE s = e2 at S2 D2
  refine wp_seq ?_
  apply region_okB hB T13_ok [2, 4, 5, 6] [2, 5, 9] [(1, .x fun x => ⟨.tup [.agg [.int .i64 r.kind, .sl none (x.A 0) n2 (x.c 0) 2 (fun i => itC (f2 i)), .int .i64 r.next.len, .int .u64 r.next.bits, .int .u64 r.mark], .int .i64 e2], [(9, [.str (g2 (x.s 0))])], []⟩)] hF
  case hex => intro A X; conv => lhs; cbv
  case hob =>
    intro X
    subst hB; first | exact ⟨⟨enters51, S2⟩, rfl, trivial⟩ | exact ⟨rfl, ⟨enters51, S2⟩, rfl, trivial⟩ | exact ⟨⟨enters51, S2⟩, trivial⟩
  case hQ =>
  intro X2 a0 w1 hF
  refine wp_seq ?_
  refine wp_seq ?_
  apply region_okB hB T13_ok [16, 2, 4, 5, 6] [2, 5, 9] [] hF
  case hex => intro A X; conv => lhs; cbv
  case hob =>
    intro X
    subst hB
    simp [AllOb, Ob.holds, BE.den, std, stdCmp, stdArith] <;> omega
  case hQ =>
  intro X3 a0 w1 hF
  refine test_ok hF rfl (fun hb hF => ?_) (fun hb hF => ?_)
  · skip
    have hc2 : e2 ≠ 0 := by subst hB; simpa [std, stdCmp] using hb
    have hd2 := D2.1 hc2
    have hfin : decRec (unB s) = .error e2 := by unfold decRec; rw [hd2]
    refine wp_seq ?_
    apply region_okB hB T13_ok [2, 3] [2, 9] [] hF
    case hex => intro A X; conv => lhs; cbv
    case hob =>
      intro X
      subst hB; repeat (first | exact trivial | refine ⟨rfl, ?_⟩)
    case hQ =>
    intro X4 a0 w1 hF
    refine wp_ret ?_
    refine ret_sim (fn := Try.f13) T13_ok hF (rs := [.cell 2 27, .tmp 3]) rfl (by conv => lhs; cbv) ?_ (⟨0, fun _ => none, fun _ => 0, fun _ => ⟨#[]⟩⟩) ?_
    · simp [AllOb, Ob.holds]
    · have hV : gotR s = zeroRec := by simp only [gotR, hfin]
      have hE : gotE s = e2 := by simp only [gotE, hfin]; rfl
      subst hB; rw [hV, hE]
      exact Sim.tup ⟨Sim.agg ⟨Sim.refl _, Sim.recell (fun i hi => absurd hi (Nat.not_lt_zero _)), Sim.refl _, Sim.refl _, Sim.refl _, trivial⟩, Sim.refl _, trivial⟩
  · skip
    have hc2 : e2 = 0 := by subst hB; simpa [std, stdCmp] using hb
    subst hc2
    obtain ⟨r2, hd2, hq2⟩ := D2.2 rfl
    have hq2e : (g2 ((X2 1).s 0)) = mkB r2 := hq2 _
    refine wp_skip ?_
    refine wp_seq ?_
    refine wp_seq ?_
    apply region_okB hB T13_ok [23, 2, 5] [2, 5] [] hF
    case hex => intro A X; conv => lhs; cbv
    case hob =>
      intro X
      subst hB; repeat (first | exact trivial | refine ⟨rfl, ?_⟩)
    case hQ =>
    intro X5 a0 w1 hF
    refine test_ok hF rfl (fun hb hF => ?_) (fun hb hF => ?_)
    · skip
      have hne : ¬ r2 = [] := by
        have h9 : ((g2 ((X2 1).s 0)).toList == (ByteArray.mk #[]).toList) = false := by
          have h8 : (!((g2 ((X2 1).s 0)).toList == (ByteArray.mk #[]).toList)) = true := by subst hB; exact hb
          simpa using h8
        rw [eqB, hq2e, un_mk] at h9
        have h10 := of_decide_eq_false h9
        intro h; exact h10 (by rw [h]; rfl)
      have hfin : decRec (unB s) = .error 3 := by unfold decRec; rw [hd2]; simp only [fin, hne, if_false]
      refine wp_seq ?_
      apply region_okB hB T13_ok [2, 3] [2, 9] [] hF
      case hex => intro A X; conv => lhs; cbv
      case hob =>
        intro X
        subst hB; repeat (first | exact trivial | refine ⟨rfl, ?_⟩)
      case hQ =>
      intro X6 a0 w1 hF
      refine wp_ret ?_
      refine ret_sim (fn := Try.f13) T13_ok hF (rs := [.cell 2 27, .tmp 3]) rfl (by conv => lhs; cbv) ?_ (⟨0, fun _ => none, fun _ => 0, fun _ => ⟨#[]⟩⟩) ?_
      · simp [AllOb, Ob.holds]
      · have hV : gotR s = zeroRec := by simp only [gotR, hfin]
        have hE : gotE s = 3 := by simp only [gotE, hfin]; rfl
        subst hB; rw [hV, hE]
        exact Sim.tup ⟨Sim.agg ⟨Sim.refl _, Sim.recell (fun i hi => absurd hi (Nat.not_lt_zero _)), Sim.refl _, Sim.refl _, Sim.refl _, trivial⟩, Sim.refl _, trivial⟩
    · skip
      have hne : r2 = [] := by
        have h9 : ((g2 ((X2 1).s 0)).toList == (ByteArray.mk #[]).toList) = true := by
          have h8 : (!((g2 ((X2 1).s 0)).toList == (ByteArray.mk #[]).toList)) = false := by subst hB; exact hb
          simpa using h8
        rw [eqB, hq2e, un_mk] at h9
        have h10 := of_decide_eq_true h9
        rw [h10]; rfl
      have hfin : decRec (unB s) = .ok r := by unfold decRec; rw [hd2]; simp only [fin, hne, if_true]
      refine wp_skip ?_
      refine wp_seq ?_
      apply region_okB hB T13_ok [2, 3] [2, 9] [] hF
      case hex => intro A X; conv => lhs; cbv
      case hob =>
        intro X
        subst hB; repeat (first | exact trivial | refine ⟨rfl, ?_⟩)
      case hQ =>
      intro X7 a0 w1 hF
      refine wp_ret ?_
      refine ret_sim (fn := Try.f13) T13_ok hF (rs := [.cell 2 27, .tmp 3]) rfl (by conv => lhs; cbv) ?_ (⟨0, fun _ => (X2 1).A 0, fun _ => (X2 1).c 0, fun _ => ⟨#[]⟩⟩) ?_
      · simp [AllOb, Ob.holds]
      · have hV : gotR s = r := by simp only [gotR, hfin]
        have hE : gotE s = 0 := by simp only [gotE, hfin]; rfl
        subst hB; rw [hV, hE]
        exact Sim.tup ⟨Sim.agg ⟨Sim.refl _, Sim.resl hn2 (fun t ht => by rw [hf2]), Sim.refl _, Sim.refl _, Sim.refl _, trivial⟩, Sim.refl _, trivial⟩
end Go.Proofs.Ytkamdppnnhjajaa.Sym
