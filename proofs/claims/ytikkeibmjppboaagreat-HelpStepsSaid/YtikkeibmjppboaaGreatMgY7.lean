/-
  SymHe2, PlEx25, SymEx1, SymEx2, SymEx3, PlWok, PlGood, SymL25S, WalkHelpSteps: put together by a program of mine (a claim may have 60 files at most). Conditions: none.
-/
import Derived.WalkKit
import Derived.WalkLawsBesides
import Derived.WalkSpells
import Derived.Lib.Hide
import Derived.Deep.QuietTactic
import Derived.BigQuiet
import Derived.Deep.LoopGhost
import Derived.Deep.DeepCutAuto
import Derived.Deep.RegionLaw
import Derived.Lib.Overlaps
import Derived.Laws.CopyOwn
import Derived.IntWalk
import Derived.ProofKit
import Derived.OpenShut
import Derived.ShutString
import Derived.ChangeOld
import Derived.Deep.Slices
import Derived.Test.YtikkeibmjppboaaGreatProg
import Derived.Orders
import Derived.OrdersHeld
import Derived.Defers
import Derived.Recover
import Derived.Lib.BitFns
import Derived.ChangeKeysEq
import Derived.Test.YtikkeibmjppboaaGreatChecked
import Derived.Lib.BufferWrite
import Derived.Maps.OwnSet
import Derived.Maps.RangeWalk
import Derived.Maps.Ext
import Derived.DeepKeys4
import Derived.LoopN
import Derived.Shelf.SlSortCmp.WholeK
import Derived.Shelf.SlSortCmp.NoneTotal
import Derived.Deep.RegionHeld3
import Derived.Ground.SlsfProg
import Derived.Shelf.SlGeneric
import Derived.Test.YtikkeibmjppboaaGreatMgY1
import Derived.Test.YtikkeibmjppboaaGreatMgY2
import Derived.Test.YtikkeibmjppboaaGreatMgY3
import Derived.Test.YtikkeibmjppboaaGreatMgY4
import Derived.Test.YtikkeibmjppboaaGreatMgY5
import Derived.Test.YtikkeibmjppboaaGreatMgY6
set_option linter.unusedVariables false
set_option linter.unusedSimpArgs false
set_option maxRecDepth 100000
set_option maxHeartbeats 1600000
namespace Go.Proofs.YtikkeibmjppboaaGreat.Sym
open Go Go.RowKit
theorem enters75 : Enters Tryz.prog 75 := fun _ _ => by kernel_rfl
theorem dnew_s (J : JobA) (E : EnvA) : SpecX Tryz.prog 75 [jobV J, gotsV E.A E.n E.c E.f] [] (fun x => ⟨.ptr 9 x.b 0, [], [(9, ⟨x.b, 136, drunL J E 0 nt0⟩)]⟩) := by
 intro m w hm hargs hpre
 refine enterX hm hpre hargs Tryz.func75 rfl (by simp [Tryz.ntmps75]) fun a0 hF => ?_
 simp only [Tryz.ntmps75, startT] at hF
 obtain ⟨B, hB⟩ := eqv (std)
 apply wp_seq
 apply rgB hB TA_ok [1, 2] [2] [] hF
 ·intro A X; conv => lhs; cbv
 ·intro X; subst hB; simp [AO, Ob.holds, BE.den, std, sC, sAr] <;> omega
 intro X0 a0 w1 hF
 apply wp_seq
 apply rgB hB TA_ok [4] [9, 9] [] hF
 ·intro A X; conv => lhs; cbv
 ·intro X; subst hB; simp only [AO, Ob.holds, BE.den] <;> and_intros <;> intros <;> trivial
 intro X1 a0 w1 hF
 refine wp_ret ?_
 refine (ret_x (fn := Tryz.f75) TA_ok hF (rs := [.tmp 4]) rfl (rfl) ?_ (⟨(X1 4).b, fun _ => none, fun _ => 0, fun _ => .empty⟩) [9] ?_ ?_ ?_).1
 ·subst hB; simp [AO, Ob.holds]
 ·subst hB; exact Sim.ptr
 ·subst hB; first | exact trivial | exact ⟨rfl, ⟨_, rfl, zl⟩, trivial⟩
 exact ⟨⟨_, rfl, by subst hB; exact ⟨zr, zr, zr, zr, zr, zr, zr, zr, zr, zr, zr, zr, zr, zr, zr, zr, zr, zr, zr, zr, zr, zr, zr, zr, zr, zr, zr, zr, zr, zr, zr, zr, zr, zr, Sim.ff, zr, zr, zr, zr, trivial⟩⟩, (by intro e he; cases he), (by simp), trivial⟩
theorem enters82 : Enters Tryz.prog 82 := fun _ _ => by kernel_rfl
theorem told_y0 (b : Nat) (J : JobA) (E : EnvA) (N : Nat) (Q : WntA) (t : Nt) (h : N < E.n) : SpecX Tryz.prog 82 [.ptr 0 b 0] [(0, ⟨b, 136, drunS J E N Q t⟩)] (fun _ => ⟨.tup [.agg [.int .i64 0, .int .i64 0, .int .u64 0, .int .u64 0, .int .i64 0, .sl none none 0 0 2 (fun _ => []), .int .i64 0, .int .u64 0, .int .u64 0, .int .i64 0, .bool .ff, .str ⟨#[]⟩, .sl none none 0 0 2 (fun _ => []), .int .u64 0, .bool .ff], .int .i64 5], [(0, drunS J E N Q t)], []⟩) := by
 intro m w hm hargs hpre
 refine enterX hm hpre hargs Tryz.func82 rfl (by simp [Tryz.ntmps82]) fun a0 hF => ?_
 simp only [Tryz.ntmps82, startT] at hF
 obtain ⟨B, hB⟩ := eqv (std)
 apply wp_seq
 apply rgB hB TA_ok [0, 2] [0, 2] [] hF
 ·intro A X; conv => lhs; cbv
 ·intro X; subst hB; simp [AO, Ob.holds, BE.den, std, sC, sAr] <;> omega
 intro X0 a0 w1 hF
 refine wp_seq (wp_seq ?_)
 apply drB hB (by kernel_rfl) TA_ok [13, 0, 2] [0, 2] [] hF rfl
 case hex => intro A X; conv => lhs; cbv
 case hD => kernel_rfl
 case hlen => rfl
 case hob =>
  intro X
  subst hB
  simp only [AO, Ob.holds, BE.den] <;> and_intros <;> intros <;> trivial
 case hQ =>
 intro X1 a0 w1 hF
 apply test_ok hF rfl <;> intro hb hF
 ·skip
  apply wp_seq
  apply rgB hB TA_ok [2, 3] [0, 2] [] hF
  ·intro A X; conv => lhs; cbv
  ·intro X; subst hB; simp only [AO, Ob.holds, BE.den] <;> and_intros <;> intros <;> trivial
  intro X2 a0 w1 hF
  refine wp_ret ?_
  refine (ret_x (fn := Tryz.f82) TA_ok hF (rs := [.cell 2 58, .tmp 3]) rfl (by conv => lhs; cbv) ?_ nAt [] ?_ ?_ ?_).1
  ·subst hB; simp [AO, Ob.holds]
  ·subst hB; exact zr
  ·subst hB; first | exact trivial | exact ⟨rfl, ⟨_, rfl, zl⟩, trivial⟩
  exact trivial
 exfalso
 have h9 : ¬ N < E.n := by
  have : ¬ (N : Int) < (E.n : Int) := by subst hB; simpa [std, sC] using hb
  omega
 exact h9 h
theorem told_y (k0 : Nat) (b : Nat) (J : JobA) (E : EnvA) (N : Nat) (Q : WntA) (t : Nt) (h : N < E.n) : SpecX Tryz.prog 82 [.ptr k0 b 0] [(k0, ⟨b, 136, drunS J E N Q t⟩)] (fun _ => ⟨.tup [.agg [.int .i64 0, .int .i64 0, .int .u64 0, .int .u64 0, .int .i64 0, .sl none none 0 0 2 (fun _ => []), .int .i64 0, .int .u64 0, .int .u64 0, .int .i64 0, .bool .ff, .str ⟨#[]⟩, .sl none none 0 0 2 (fun _ => []), .int .u64 0, .bool .ff], .int .i64 5], [(k0, drunS J E N Q t)], []⟩) :=
 (told_y0 b J E N Q t h).re (by repeat (first | exact trivial | refine ⟨Sim.ptr, ?_⟩ | refine ⟨Sim.fn ⟨Sim.ptr, trivial⟩ trivial, ?_⟩ | refine ⟨Sim.fn trivial ⟨Sim.ptr, trivial⟩, ?_⟩ | refine ⟨zr, ?_⟩)) rfl (fun x => ⟨rfl, rfl, zr, rfl⟩)
theorem told_n0 (b : Nat) (J : JobA) (E : EnvA) (N : Nat) (Q : WntA) (t : Nt) (h : ¬ N < E.n) : SpecX Tryz.prog 82 [.ptr 0 b 0] [(0, ⟨b, 136, drunS J E N Q t⟩)] (fun _ => ⟨.tup [wntV Q, .int .i64 0], [(0, drunS J E N Q t)], []⟩) := by
 intro m w hm hargs hpre
 refine enterX hm hpre hargs Tryz.func82 rfl (by simp [Tryz.ntmps82]) fun a0 hF => ?_
 simp only [Tryz.ntmps82, startT] at hF
 obtain ⟨B, hB⟩ := eqv (std)
 apply wp_seq
 apply rgB hB TA_ok [0, 2] [0, 2] [] hF
 ·intro A X; conv => lhs; cbv
 ·intro X; subst hB; simp [AO, Ob.holds, BE.den, std, sC, sAr] <;> omega
 intro X0 a0 w1 hF
 refine wp_seq (wp_seq ?_)
 apply drB hB (by kernel_rfl) TA_ok [13, 0, 2] [0, 2] [] hF rfl
 case hex => intro A X; conv => lhs; cbv
 case hD => kernel_rfl
 case hlen => rfl
 case hob =>
  intro X
  subst hB
  simp only [AO, Ob.holds, BE.den] <;> and_intros <;> intros <;> trivial
 case hQ =>
 intro X1 a0 w1 hF
 apply test_ok hF rfl <;> intro hb hF
 ·exfalso
  have h9 : N < E.n := by
   have : (N : Int) < (E.n : Int) := by subst hB; simpa [std, sC] using hb
   omega
  exact h h9
 skip
 refine wp_skip ?_
 apply wp_seq
 apply rgB hB TA_ok [2, 3] [0, 2] [] hF
 ·intro A X; conv => lhs; cbv
 ·intro X; subst hB; simp only [AO, Ob.holds, BE.den] <;> and_intros <;> intros <;> trivial
 intro X3 a0 w1 hF
 refine wp_ret ?_
 refine (ret_x (fn := Tryz.f82) TA_ok hF (rs := [.cell 2 58, .tmp 3]) rfl (by conv => lhs; cbv) ?_ nAt [] ?_ ?_ ?_).1
 ·subst hB; simp [AO, Ob.holds]
 ·subst hB; exact zr
 ·subst hB; first | exact trivial | exact ⟨rfl, ⟨_, rfl, zl⟩, trivial⟩
 exact trivial
theorem told_n (k0 : Nat) (b : Nat) (J : JobA) (E : EnvA) (N : Nat) (Q : WntA) (t : Nt) (h : ¬ N < E.n) : SpecX Tryz.prog 82 [.ptr k0 b 0] [(k0, ⟨b, 136, drunS J E N Q t⟩)] (fun _ => ⟨.tup [wntV Q, .int .i64 0], [(k0, drunS J E N Q t)], []⟩) :=
 (told_n0 b J E N Q t h).re (by repeat (first | exact trivial | refine ⟨Sim.ptr, ?_⟩ | refine ⟨Sim.fn ⟨Sim.ptr, trivial⟩ trivial, ?_⟩ | refine ⟨Sim.fn trivial ⟨Sim.ptr, trivial⟩, ?_⟩ | refine ⟨zr, ?_⟩)) rfl (fun x => ⟨rfl, rfl, zr, rfl⟩)
theorem enters26 : Enters Tryz.prog 26 := fun _ _ => by kernel_rfl
theorem dnext_s (J : JobA) (hJ : JobIn J) (E : EnvA) (hEn : E.n ≤ 900000) (hin : ∀ j, j < E.n → InG (E.f j)) : Spec Tryz.prog 26 [jobV J, gotsV E.A E.n E.c E.f] (fun x => .tup [wntV (wqA x (helpN J E.n E.f).1), .int .i64 (helpN J E.n E.f).2]) := by
 intro m w hm hargs
 have S1 := drt_s J hJ.lab E.A E.n E.c E.f hin
 obtain ⟨rt, hrt⟩ := eqv ((allGot E.n E.f && isJobB J))
 rw [← hrt] at S1
 have SN := dnew_s J E
 refine enter hm hargs Tryz.func26 rfl (by simp [Tryz.ntmps26]) fun a0 hF => ?_
 simp only [Tryz.ntmps26, startT] at hF
 obtain ⟨B, hB⟩ := eqv (std)
 apply wp_seq
 apply rgB hB TA_ok [1, 2, 4] [6, 2, 4] [] hF
 ·intro A X; conv => lhs; cbv
 ·intro X; subst hB; simp [AO, Ob.holds, BE.den, std, sC, sAr] <;> omega
 intro X0 a0 w1 hF
 refine wp_seq (wp_seq ?_)
 apply rgB hB TA_ok [23, 1, 2, 4] [6, 2, 4] [(2, .r fun _ => .bool (.v rt))] hF
 ·intro A X; conv => lhs; cbv
 ·intro X; subst hB; simp only [AO, Ob.holds, BE.den] <;> (and_intros <;> repeat first | trivial | rfl | exact enters74 | exact S1 | refine ⟨?_, ?_⟩ | intro h)
 intro X1 a0 w1 hF
 apply test_ok hF rfl <;> intro hb hF
 ·have hf : (isJobB J && (decide (J.kind = 1) || decide (J.kind = 2)) && allGot E.n E.f) = false := by
   have h9 : (if (!rt) = true then true else (if (J.kind != 1) = true then (J.kind != 2) else false)) = true := by subst hB; exact hb
   cases hr : rt
   ·rw [hr] at hrt; cases h1 : allGot E.n E.f <;> cases h2 : isJobB J <;> simp [h1, h2] at hrt ⊢
   rw [hr] at h9; rw [ite_and] at h9; by_cases k1 : J.kind = 1 <;> by_cases k2 : J.kind = 2 <;> simp [k1, k2] at h9 ⊢
  apply wp_seq
  apply rgB hB TA_ok [4, 5] [6, 4] [] hF
  ·intro A X; conv => lhs; cbv
  ·intro X; subst hB; simp only [AO, Ob.holds, BE.den] <;> and_intros <;> intros <;> trivial
  intro X2 a0 w1 hF
  refine wp_ret ?_
  refine ret_sim (fn := Tryz.f26) TA_ok hF (rs := [.cell 4 58, .tmp 5]) rfl (by conv => lhs; cbv) ?_ (⟨0, fun _ => none, fun _ => 0, fun _ => .empty⟩) ?_
  ·simp [AO, Ob.holds]
  subst hB
  have ht9 : helpN J E.n E.f = (zWq, 1) := by unfold helpN; rw [hf]; rfl
  rw [ht9]; exact Sim.tup ⟨Sim.agg ⟨zr, zr, zr, zr, zr, zq0, zr, zr, zr, zr, zr, zr, zq0, zr, zr, trivial⟩, zr, trivial⟩
 have hf : (isJobB J && (decide (J.kind = 1) || decide (J.kind = 2)) && allGot E.n E.f) = true := by
  have h9 : (if (!rt) = true then true else (if (J.kind != 1) = true then (J.kind != 2) else false)) = false := by subst hB; exact hb
  cases hr : rt
  ·rw [hr] at h9; cases h9
  rw [hr] at h9 hrt; rw [ite_and] at h9
  cases h1 : allGot E.n E.f <;> cases h2 : isJobB J <;> simp [h1, h2] at hrt ⊢
  by_cases k1 : J.kind = 1 <;> by_cases k2 : J.kind = 2 <;> simp [k1, k2] at h9 ⊢
 have hjb : isJobB J = true := by
  simp only [Bool.and_eq_true] at hf; exact hf.1.1
 have hag : allGot E.n E.f = true := by
  simp only [Bool.and_eq_true] at hf; exact hf.2
 have hk12 : J.kind = 1 ∨ J.kind = 2 := by
  simp only [Bool.and_eq_true, Bool.or_eq_true, decide_eq_true_eq] at hf; exact hf.1.2
 have hJ1 : JobOk J := by
  have := job_ok (n := 0) hJ hjb (by omega)
  have e : J.less 0 = J := by unfold JobA.less; simp
  rwa [e] at this
 have hlab := job_lab hJ hjb
 have hE : E.n ≤ 1000000 := by omega
 obtain ⟨p0, hp0e⟩ := eqv (pst0 E.n E.f)
 have hp0 : PstOk p0 := by rw [hp0e]; exact pst_ok hin hag
 have hn0 : p0.n ≤ 1000000 := by rw [hp0e]; show E.n ≤ _; omega
 have hR0 : Rel E 0 p0 := by rw [hp0e]; exact ⟨rfl, fun j => by show E.f j = E.f (0 + j); rw [Nat.zero_add]⟩
 have hnt0 : p0.note = nt0 := by rw [hp0e]; rfl
 have hN0 : 0 = E.n - p0.n := by rw [hp0e]; show 0 = E.n - E.n; omega
 have hpE : p0.n = E.n := by rw [hp0e]; rfl
 have htot : helpN J E.n E.f = toldM (helpM J.bucket (J.budget - E.n) J p0) := by unfold helpN; rw [hf, ← hp0e]; rfl
 refine wp_skip ?_
 apply wp_seq
 apply rgB hB TA_ok [6, 2, 4] [6, 2, 4] [(2, .x fun x => ⟨.ptr 6 x.b 0, [], [(6, ⟨x.b, 136, drunL J E 0 nt0⟩)]⟩)] hF
 ·intro A X; conv => lhs; cbv
 ·intro X; subst hB; simp only [AO, Ob.holds, BE.den] <;> (and_intros <;> repeat first | trivial | rfl | exact enters75 | exact SpecX.re SN (zl) rfl fun _ => ⟨rfl, rfl, Sim.ptr, rfl⟩ | refine ⟨?_, ?_⟩ | intro h)
 intro X3 a0 w1 hF
 replace hF := hF.memS (cells' := drunL J E 0 p0.note) (by rw [hnt0]; exact zl)
 refine wp_seq (wp_seq ?_)
 apply rgB hB TA_ok [30, 2, 4, 6] [6, 2, 4] [] hF
 ·intro A X; conv => lhs; cbv
 ·intro X; subst hB; simp only [AO, Ob.holds, BE.den] <;> and_intros <;> intros <;> trivial
 intro X4 a0 w1 hF
 apply test_ok hF rfl <;> intro hb hF
 ·have t1 : J.kind = 2 := by subst hB; simpa [std, sC] using hb
  have S5 := dcln_c (p0.n + 1) 6 (X3 2).b J hJ1 E hE 0 p0 hR0 hp0 hn0 J.lab hlab (Nat.lt_succ_self _)
  rcases hm5 : clnM (J.budget - E.n) (p0.n + 1) J.lab p0 with ⟨v5, p5⟩ | ⟨wq5, p5⟩
  ·have hs5 := (fro_cln _ _ _ _).of hm5
   have hp5 := hp0.suf hs5
   have hn5 := Nat.le_trans hs5.le hn0
   have hR5 := hR0.suf hs5
   obtain ⟨N5, hN5⟩ := eqv (E.n - p5.n)
   rw [← hN5] at hR5
   apply rgB hB TA_ok [4, 6] [6, 4] [(3, .x fun x => ⟨unitV, [(6, drunL J E N5 p5.note)], []⟩)] hF
   ·intro A X; conv => lhs; cbv
   ·intro X; subst hB; simp only [AO, Ob.holds, BE.den] <;> (and_intros <;> repeat first | trivial | rfl | exact enters76 | exact S5.ok hm5 hN5 | refine ⟨?_, ?_⟩ | intro h)
   intro X5 a0 w1 hF
   apply wp_seq
   apply rgB hB TA_ok [4, 6] [6, 4] [(2, .x fun _ => ⟨unitV, [(6, drunS J E N5 ⟨4, ⟨0, 0⟩, 0, zRA, zRes⟩ p5.note)], []⟩)] hF
   ·intro A X; conv => lhs; cbv
   ·intro X; subst hB; simp only [AO, Ob.holds, BE.den] <;> (and_intros <;> repeat first | trivial | rfl | exact enters81 | exact SpecX.re (over_m 6 (X3 2).b J E hE N5 ⟨0, ⟨0, 0⟩, 0, zRA, zRes⟩ p5.note zRes) ⟨zr, Sim.agg ⟨zr, Sim.ff, zr, zq0, zr, Sim.ff, trivial⟩, trivial⟩ rfl fun _ => ⟨rfl, rfl, zr, rfl⟩ | refine ⟨?_, ?_⟩ | intro h)
   intro X11 a0 w1 hF
   apply wp_seq
   rcases Bool.eq_false_or_eq_true (decide (N5 < E.n)) with hlt | hlt
   ·apply rgB hB TA_ok [4, 8, 9] [6, 4, 8] [(1, .x fun _ => ⟨.tup [.agg [.int .i64 0, .int .i64 0, .int .u64 0, .int .u64 0, .int .i64 0, .sl none none 0 0 2 (fun _ => []), .int .i64 0, .int .u64 0, .int .u64 0, .int .i64 0, .bool .ff, .str ⟨#[]⟩, .sl none none 0 0 2 (fun _ => []), .int .u64 0, .bool .ff], .int .i64 5], [(6, drunS J E N5 ⟨4, ⟨0, 0⟩, 0, zRA, zRes⟩ p5.note)], []⟩)] hF
    ·intro A X; conv => lhs; cbv
    ·intro X; subst hB; simp only [AO, Ob.holds, BE.den] <;> (and_intros <;> repeat first | trivial | rfl | exact enters82 | exact told_y 6 (X3 2).b J E N5 ⟨4, ⟨0, 0⟩, 0, zRA, zRes⟩ p5.note (of_decide_eq_true hlt) | refine ⟨?_, ?_⟩ | intro h)
    intro X12 a0 w1 hF
    apply wp_seq
    have hr9 : helpM J.bucket (J.budget - E.n) J p0 = .ok zRsl p5 := by simp [helpM, Rs.bind, t1, hm5, hlt]
    have ht9 : helpN J E.n E.f = (zWq, 5) := by
     have h9 := of_decide_eq_true hlt
     rw [htot, hr9]; unfold toldM; simp only; rw [if_pos (by have := hN5; skip; have := hs5.le; omega)]
    apply rgB hB TA_ok [4, 5] [6, 4] [] hF
    ·intro A X; conv => lhs; cbv
    ·intro X; subst hB; simp only [AO, Ob.holds, BE.den] <;> and_intros <;> intros <;> trivial
    intro X13 a0 w1 hF
    refine wp_ret ?_
    refine ret_sim (fn := Tryz.f26) TA_ok hF (rs := [.cell 4 58, .tmp 5]) rfl (by conv => lhs; cbv) ?_ (⟨0, fun _ => none, fun _ => 0, fun _ => .empty⟩) ?_
    ·simp [AO, Ob.holds]
    subst hB
    rw [ht9]; exact Sim.tup ⟨Sim.agg ⟨zr, zr, zr, zr, zr, zq0, zr, zr, zr, zr, zr, zr, zq0, zr, zr, trivial⟩, zr, trivial⟩
   apply rgB hB TA_ok [4, 8, 9] [6, 4, 8] [(1, .x fun _ => ⟨.tup [wntV ⟨4, ⟨0, 0⟩, 0, zRA, zRes⟩, .int .i64 0], [(6, drunS J E N5 ⟨4, ⟨0, 0⟩, 0, zRA, zRes⟩ p5.note)], []⟩)] hF
   ·intro A X; conv => lhs; cbv
   ·intro X; subst hB; simp only [AO, Ob.holds, BE.den] <;> (and_intros <;> repeat first | trivial | rfl | exact enters82 | exact told_n 6 (X3 2).b J E N5 ⟨4, ⟨0, 0⟩, 0, zRA, zRes⟩ p5.note (of_decide_eq_false hlt) | refine ⟨?_, ?_⟩ | intro h)
   intro X12 a0 w1 hF
   apply wp_seq
   have hr9 : helpM J.bucket (J.budget - E.n) J p0 = .ok zRsl p5 := by simp [helpM, Rs.bind, t1, hm5, hlt]
   have ht9 : helpN J E.n E.f = (⟨4, ⟨0, 0⟩, 0, zeroRec, zRsl⟩, 0) := by
    have h9 := of_decide_eq_false hlt
    rw [htot, hr9]; unfold toldM; simp only; rw [if_neg (by have := hN5; skip; have := hs5.le; omega)]
   apply rgB hB TA_ok [4, 5] [6, 4] [] hF
   ·intro A X; conv => lhs; cbv
   ·intro X; subst hB; simp only [AO, Ob.holds, BE.den] <;> and_intros <;> intros <;> trivial
   intro X13 a0 w1 hF
   refine wp_ret ?_
   refine ret_sim (fn := Tryz.f26) TA_ok hF (rs := [.cell 4 58, .tmp 5]) rfl (by conv => lhs; cbv) ?_ (⟨0, fun _ => none, fun _ => 0, fun _ => .empty⟩) ?_
   ·simp [AO, Ob.holds]
   subst hB
   rw [ht9]; exact Sim.tup ⟨Sim.agg ⟨zr, zr, zr, zr, zr, zq0, zr, zr, zr, zr, zr, zr, zq0, zr, zr, trivial⟩, zr, trivial⟩
  have hs5 := (fro_cln _ _ _ _).ofs hm5
  obtain ⟨N5, hN5⟩ := eqv (E.n - p5.n)
  obtain ⟨rr5, hrr5⟩ := eqv (wq5.r.rn)
  obtain ⟨nn5, hnn5⟩ := eqv (wq5.res.items.length)
  obtain ⟨ff5, hff5⟩ := eqv (itF wq5.res.items)
  apply rgB hB TA_ok [4, 6] [6, 4] [(3, .x fun x => ⟨unitV, [(6, drunS J E N5 ⟨wq5.kind, wq5.lab, wq5.ver, ⟨x.A 1, x.c 1, rr5⟩, ⟨wq5.res.code, wq5.res.had, wq5.res.val, x.A 2, nn5, x.c 2, ff5, wq5.res.key, wq5.res.more⟩⟩ p5.note)], []⟩)] hF
  ·intro A X; conv => lhs; cbv
  ·intro X; subst hB; simp only [AO, Ob.holds, BE.den] <;> (and_intros <;> repeat first | trivial | rfl | exact enters76 | exact S5.stop hm5 hN5 hrr5 hnn5 hff5 | refine ⟨?_, ?_⟩ | intro h)
  intro X5 a0 w1 hF
  obtain ⟨Q5, hQ5⟩ := eqv ((wqD (X5 3) wq5 rr5 nn5 ff5))
  have hW5 : Q5 = wqA (X5 3) wq5 := by rw [hQ5, hrr5, hnn5, hff5]; rfl
  replace hF := hF.memS (cells' := drunS J E N5 Q5 p5.note) (by rw [hQ5]; exact zl)
  apply wp_seq
  apply rgB hB TA_ok [4, 6] [6, 4] [(2, .x fun _ => ⟨unitV, [(6, drunS J E N5 Q5 p5.note)], []⟩)] hF
  ·intro A X; conv => lhs; cbv
  ·intro X; subst hB; simp only [AO, Ob.holds, BE.den] <;> (and_intros <;> repeat first | trivial | rfl | exact enters81 | exact DeadS.re (over_d0 (X3 2).b J E hE N5 Q5 p5.note zRes) ⟨Sim.agg ⟨zr, Sim.ff, zr, zq0, zr, Sim.ff, trivial⟩, trivial⟩ | refine ⟨?_, ?_⟩ | intro h)
  intro X11 a0 w1 hF
  apply wp_seq
  rcases Bool.eq_false_or_eq_true (decide (N5 < E.n)) with hlt | hlt
  ·apply rgB hB TA_ok [4, 8, 9] [6, 4, 8] [(1, .x fun _ => ⟨.tup [.agg [.int .i64 0, .int .i64 0, .int .u64 0, .int .u64 0, .int .i64 0, .sl none none 0 0 2 (fun _ => []), .int .i64 0, .int .u64 0, .int .u64 0, .int .i64 0, .bool .ff, .str ⟨#[]⟩, .sl none none 0 0 2 (fun _ => []), .int .u64 0, .bool .ff], .int .i64 5], [(6, drunS J E N5 Q5 p5.note)], []⟩)] hF
   ·intro A X; conv => lhs; cbv
   ·intro X; subst hB; simp only [AO, Ob.holds, BE.den] <;> (and_intros <;> repeat first | trivial | rfl | exact enters82 | exact told_y 6 (X3 2).b J E N5 Q5 p5.note (of_decide_eq_true hlt) | refine ⟨?_, ?_⟩ | intro h)
   intro X12 a0 w1 hF
   apply wp_seq
   have hr9 : helpM J.bucket (J.budget - E.n) J p0 = .stop wq5 p5 := by simp [helpM, Rs.bind, t1, hm5, hlt]
   have ht9 : helpN J E.n E.f = (zWq, 5) := by
    have h9 := of_decide_eq_true hlt
    rw [htot, hr9]; unfold toldM; simp only; rw [if_pos (by have := hN5; skip; have := hs5.le; omega)]
   apply rgB hB TA_ok [4, 5] [6, 4] [] hF
   ·intro A X; conv => lhs; cbv
   ·intro X; subst hB; simp only [AO, Ob.holds, BE.den] <;> and_intros <;> intros <;> trivial
   intro X13 a0 w1 hF
   refine wp_ret ?_
   refine ret_sim (fn := Tryz.f26) TA_ok hF (rs := [.cell 4 58, .tmp 5]) rfl (by conv => lhs; cbv) ?_ (⟨0, fun _ => none, fun _ => 0, fun _ => .empty⟩) ?_
   ·simp [AO, Ob.holds]
   subst hB
   rw [ht9]; exact Sim.tup ⟨Sim.agg ⟨zr, zr, zr, zr, zr, zq0, zr, zr, zr, zr, zr, zr, zq0, zr, zr, trivial⟩, zr, trivial⟩
  apply rgB hB TA_ok [4, 8, 9] [6, 4, 8] [(1, .x fun _ => ⟨.tup [wntV Q5, .int .i64 0], [(6, drunS J E N5 Q5 p5.note)], []⟩)] hF
  ·intro A X; conv => lhs; cbv
  ·intro X; subst hB; simp only [AO, Ob.holds, BE.den] <;> (and_intros <;> repeat first | trivial | rfl | exact enters82 | exact told_n 6 (X3 2).b J E N5 Q5 p5.note (of_decide_eq_false hlt) | refine ⟨?_, ?_⟩ | intro h)
  intro X12 a0 w1 hF
  apply wp_seq
  have hr9 : helpM J.bucket (J.budget - E.n) J p0 = .stop wq5 p5 := by simp [helpM, Rs.bind, t1, hm5, hlt]
  have ht9 : helpN J E.n E.f = (wq5, 0) := by
   have h9 := of_decide_eq_false hlt
   rw [htot, hr9]; unfold toldM; simp only; rw [if_neg (by have := hN5; skip; have := hs5.le; omega)]
  apply rgB hB TA_ok [4, 5] [6, 4] [] hF
  ·intro A X; conv => lhs; cbv
  ·intro X; subst hB; simp only [AO, Ob.holds, BE.den] <;> and_intros <;> intros <;> trivial
  intro X13 a0 w1 hF
  refine wp_ret ?_
  refine ret_sim (fn := Tryz.f26) TA_ok hF (rs := [.cell 4 58, .tmp 5]) rfl (by conv => lhs; cbv) ?_ ((X5 3)) ?_
  ·simp [AO, Ob.holds]
  subst hB
  rw [ht9]; exact Sim.tup ⟨Sim.of_eq (by rw [hW5]), zr, trivial⟩
 have t1 : ¬ J.kind = 2 := by subst hB; simpa [std, sC] using hb
 have t2 : J.kind = 1 := hk12.resolve_right t1
 apply wp_seq
 have S6 := dget_m 6 (X3 2).b J hJ1 E hE 0 p0 hR0 hp0 hn0 J.lab
 rcases hm6 : getM (J.budget - E.n) J.lab p0 with ⟨g6, p6⟩ | ⟨wq6, p6⟩
 ·have hs6 := (fro_get _ _ _).of hm6
  have hp6 := hp0.suf hs6
  have hn6 := Nat.le_trans hs6.le hn0
  have hR6 := hR0.suf hs6
  obtain ⟨N6, hN6⟩ := eqv (E.n - p6.n)
  rw [← hN6] at hR6
  have hl6 := get_lt hm6
  have hg6 := hp0.get hm6
  apply rgB hB TA_ok [2, 4, 6, 7] [6, 2, 4, 7] [(3, .x fun x => ⟨gotV g6, [(6, drunL J E N6 p6.note)], []⟩)] hF
  ·intro A X; conv => lhs; cbv
  ·intro X; subst hB; simp only [AO, Ob.holds, BE.den] <;> (and_intros <;> repeat first | trivial | rfl | exact enters77 | exact S6.ok hm6 hN6 | refine ⟨?_, ?_⟩ | intro h)
  intro X6 a0 w1 hF
  refine wp_seq (wp_seq ?_)
  obtain ⟨q7, hq7⟩ := eqv (gk g6 3)
  obtain ⟨r7, hr7⟩ := eqv (gk g6 4)
  apply rgB hB TA_ok [51, 2, 4, 6, 7] [6, 2, 4, 7] [(7, .r fun _ => .bool (.v q7)), (10, .r fun _ => .bool (.v r7))] hF
  ·intro A X; conv => lhs; cbv
  ·intro X; subst hB; simp only [AO, Ob.holds, BE.den] <;> (and_intros <;> repeat first | trivial | rfl | exact enters78 | exact (by rw [hq7]; exact dis_s g6 3) | exact by rw [hq7]; exact dis_s g6 3 | exact (by rw [hr7]; exact dis_s g6 4) | exact by rw [hr7]; exact dis_s g6 4 | refine ⟨?_, ?_⟩ | intro h)
  intro X7 a0 w1 hF
  apply test_ok hF rfl <;> intro hb hF
  ·have tq7 : (gk g6 3 || gk g6 4) = true := by
    have h9 : (if q7 = true then true else r7) = true := by subst hB; exact hb
    rw [← hq7, ← hr7, ← h9]; cases q7 <;> rfl
   have hgh : g6.has = true := by
    unfold gk at tq7; revert tq7; cases g6.has <;> simp
   have S8 := dfin_c (p0.n + 1) 6 (X3 2).b J hJ1 E hE N6 p6 hR6 hp6 hn6 J.lab hlab g6 hg6 hgh (by have := hl6; omega)
   rcases hm8 : fnsM J.bucket (J.budget - E.n) (p0.n + 1) J.lab g6 p6 with ⟨v8, p8⟩ | ⟨wq8, p8⟩
   ·have hs8 := (fro_fns _ _ _ _ _ _).of hm8
    have hp8 := hp6.suf hs8
    have hn8 := Nat.le_trans hs8.le hn6
    have hR8 := hR6.suf hs8
    obtain ⟨N8, hN8⟩ := eqv (E.n - p8.n)
    rw [← hN8] at hR8
    apply rgB hB TA_ok [2, 4, 6, 7] [6, 2, 4, 7] [(4, .x fun x => ⟨unitV, [(6, drunL J E N8 p8.note)], []⟩)] hF
    ·intro A X; conv => lhs; cbv
    ·intro X; subst hB; simp only [AO, Ob.holds, BE.den] <;> (and_intros <;> repeat first | trivial | rfl | exact enters79 | exact S8.ok hm8 hN8 | refine ⟨?_, ?_⟩ | intro h)
    intro X8 a0 w1 hF
    apply wp_seq
    obtain ⟨q9, hq9⟩ := eqv (gk g6 5)
    apply rgB hB TA_ok [65, 2, 4, 6] [6, 2, 4] [(7, .r fun _ => .bool (.v q9))] hF
    ·intro A X; conv => lhs; cbv
    ·intro X; subst hB; simp only [AO, Ob.holds, BE.den] <;> (and_intros <;> repeat first | trivial | rfl | exact enters78 | exact (by rw [hq9]; exact dis_s g6 5) | exact by rw [hq9]; exact dis_s g6 5 | refine ⟨?_, ?_⟩ | intro h)
    intro X9 a0 w1 hF
    apply test_ok hF rfl <;> intro hb hF
    ·exfalso
     have h5 : gk g6 5 = true := by rw [← hq9]; exact hb
     unfold gk at tq7 h5
     cases hh : g6.has <;> simp [hh] at tq7 h5
     omega
    skip
    refine wp_skip ?_
    apply wp_seq
    apply rgB hB TA_ok [4, 6] [6, 4] [(2, .x fun _ => ⟨unitV, [(6, drunS J E N8 ⟨4, ⟨0, 0⟩, 0, zRA, zRes⟩ p8.note)], []⟩)] hF
    ·intro A X; conv => lhs; cbv
    ·intro X; subst hB; simp only [AO, Ob.holds, BE.den] <;> (and_intros <;> repeat first | trivial | rfl | exact enters81 | exact SpecX.re (over_m 6 (X3 2).b J E hE N8 ⟨0, ⟨0, 0⟩, 0, zRA, zRes⟩ p8.note zRes) ⟨zr, Sim.agg ⟨zr, Sim.ff, zr, zq0, zr, Sim.ff, trivial⟩, trivial⟩ rfl fun _ => ⟨rfl, rfl, zr, rfl⟩ | refine ⟨?_, ?_⟩ | intro h)
    intro X11 a0 w1 hF
    apply wp_seq
    rcases Bool.eq_false_or_eq_true (decide (N8 < E.n)) with hlt | hlt
    ·apply rgB hB TA_ok [4, 8, 9] [6, 4, 8] [(1, .x fun _ => ⟨.tup [.agg [.int .i64 0, .int .i64 0, .int .u64 0, .int .u64 0, .int .i64 0, .sl none none 0 0 2 (fun _ => []), .int .i64 0, .int .u64 0, .int .u64 0, .int .i64 0, .bool .ff, .str ⟨#[]⟩, .sl none none 0 0 2 (fun _ => []), .int .u64 0, .bool .ff], .int .i64 5], [(6, drunS J E N8 ⟨4, ⟨0, 0⟩, 0, zRA, zRes⟩ p8.note)], []⟩)] hF
     ·intro A X; conv => lhs; cbv
     ·intro X; subst hB; simp only [AO, Ob.holds, BE.den] <;> (and_intros <;> repeat first | trivial | rfl | exact enters82 | exact told_y 6 (X3 2).b J E N8 ⟨4, ⟨0, 0⟩, 0, zRA, zRes⟩ p8.note (of_decide_eq_true hlt) | refine ⟨?_, ?_⟩ | intro h)
     intro X12 a0 w1 hF
     apply wp_seq
     have hr9 : helpM J.bucket (J.budget - E.n) J p0 = .ok zRsl p8 := by simp [helpM, Rs.bind, t1, t2, hm6, tq7, hm8, hlt]
     have ht9 : helpN J E.n E.f = (zWq, 5) := by
      have h9 := of_decide_eq_true hlt
      rw [htot, hr9]; unfold toldM; simp only; rw [if_pos (by have := hN8; skip; have := hs6.le; have := hs8.le; omega)]
     apply rgB hB TA_ok [4, 5] [6, 4] [] hF
     ·intro A X; conv => lhs; cbv
     ·intro X; subst hB; simp only [AO, Ob.holds, BE.den] <;> and_intros <;> intros <;> trivial
     intro X13 a0 w1 hF
     refine wp_ret ?_
     refine ret_sim (fn := Tryz.f26) TA_ok hF (rs := [.cell 4 58, .tmp 5]) rfl (by conv => lhs; cbv) ?_ (⟨0, fun _ => none, fun _ => 0, fun _ => .empty⟩) ?_
     ·simp [AO, Ob.holds]
     subst hB
     rw [ht9]; exact Sim.tup ⟨Sim.agg ⟨zr, zr, zr, zr, zr, zq0, zr, zr, zr, zr, zr, zr, zq0, zr, zr, trivial⟩, zr, trivial⟩
    apply rgB hB TA_ok [4, 8, 9] [6, 4, 8] [(1, .x fun _ => ⟨.tup [wntV ⟨4, ⟨0, 0⟩, 0, zRA, zRes⟩, .int .i64 0], [(6, drunS J E N8 ⟨4, ⟨0, 0⟩, 0, zRA, zRes⟩ p8.note)], []⟩)] hF
    ·intro A X; conv => lhs; cbv
    ·intro X; subst hB; simp only [AO, Ob.holds, BE.den] <;> (and_intros <;> repeat first | trivial | rfl | exact enters82 | exact told_n 6 (X3 2).b J E N8 ⟨4, ⟨0, 0⟩, 0, zRA, zRes⟩ p8.note (of_decide_eq_false hlt) | refine ⟨?_, ?_⟩ | intro h)
    intro X12 a0 w1 hF
    apply wp_seq
    have hr9 : helpM J.bucket (J.budget - E.n) J p0 = .ok zRsl p8 := by simp [helpM, Rs.bind, t1, t2, hm6, tq7, hm8, hlt]
    have ht9 : helpN J E.n E.f = (⟨4, ⟨0, 0⟩, 0, zeroRec, zRsl⟩, 0) := by
     have h9 := of_decide_eq_false hlt
     rw [htot, hr9]; unfold toldM; simp only; rw [if_neg (by have := hN8; skip; have := hs6.le; have := hs8.le; omega)]
    apply rgB hB TA_ok [4, 5] [6, 4] [] hF
    ·intro A X; conv => lhs; cbv
    ·intro X; subst hB; simp only [AO, Ob.holds, BE.den] <;> and_intros <;> intros <;> trivial
    intro X13 a0 w1 hF
    refine wp_ret ?_
    refine ret_sim (fn := Tryz.f26) TA_ok hF (rs := [.cell 4 58, .tmp 5]) rfl (by conv => lhs; cbv) ?_ (⟨0, fun _ => none, fun _ => 0, fun _ => .empty⟩) ?_
    ·simp [AO, Ob.holds]
    subst hB
    rw [ht9]; exact Sim.tup ⟨Sim.agg ⟨zr, zr, zr, zr, zr, zq0, zr, zr, zr, zr, zr, zr, zq0, zr, zr, trivial⟩, zr, trivial⟩
   have hs8 := (fro_fns _ _ _ _ _ _).ofs hm8
   obtain ⟨N8, hN8⟩ := eqv (E.n - p8.n)
   obtain ⟨rr8, hrr8⟩ := eqv (wq8.r.rn)
   obtain ⟨nn8, hnn8⟩ := eqv (wq8.res.items.length)
   obtain ⟨ff8, hff8⟩ := eqv (itF wq8.res.items)
   apply rgB hB TA_ok [2, 4, 6, 7] [6, 2, 4, 7] [(4, .x fun x => ⟨unitV, [(6, drunS J E N8 ⟨wq8.kind, wq8.lab, wq8.ver, ⟨x.A 1, x.c 1, rr8⟩, ⟨wq8.res.code, wq8.res.had, wq8.res.val, x.A 2, nn8, x.c 2, ff8, wq8.res.key, wq8.res.more⟩⟩ p8.note)], []⟩)] hF
   ·intro A X; conv => lhs; cbv
   ·intro X; subst hB; simp only [AO, Ob.holds, BE.den] <;> (and_intros <;> repeat first | trivial | rfl | exact enters79 | exact S8.stop hm8 hN8 hrr8 hnn8 hff8 | refine ⟨?_, ?_⟩ | intro h)
   intro X8 a0 w1 hF
   obtain ⟨Q8, hQ8⟩ := eqv ((wqD (X8 4) wq8 rr8 nn8 ff8))
   have hW8 : Q8 = wqA (X8 4) wq8 := by rw [hQ8, hrr8, hnn8, hff8]; rfl
   replace hF := hF.memS (cells' := drunS J E N8 Q8 p8.note) (by rw [hQ8]; exact zl)
   apply wp_seq
   obtain ⟨bs, hbs⟩ : ∃ b : Bool, b = true := ⟨_, rfl⟩
   replace hF := hF.memS (drunV_to hbs J E N8 Q8 p8.note)
   obtain ⟨q9s, hq9s⟩ := eqv (gk g6 5)
   apply rgB hB TA_ok [65, 2, 4, 6] [6, 2, 4] [(7, .r fun _ => .bool (.v q9s))] hF
   ·intro A X; conv => lhs; cbv
   ·intro X; subst hB; simp only [AO, Ob.holds, BE.den] <;> (and_intros <;> repeat first | trivial | rfl | exact enters78 | exact (by rw [hq9s]; exact dis_s g6 5) | exact by rw [hq9s]; exact dis_s g6 5 | refine ⟨?_, ?_⟩ | intro h)
   intro X9 a0 w1 hF
   replace hF := hF.headS (v' := .bool .ff) (Sim.bool (by subst hB; rw [hbs]; rfl)) rfl
   replace hF := hF.memS (drunV_of hbs J E N8 Q8 p8.note)
   refine test_ff hF rfl (fun hF => ?_)
   refine wp_skip ?_
   apply wp_seq
   apply rgB hB TA_ok [4, 6] [6, 4] [(2, .x fun _ => ⟨unitV, [(6, drunS J E N8 Q8 p8.note)], []⟩)] hF
   ·intro A X; conv => lhs; cbv
   ·intro X; subst hB; simp only [AO, Ob.holds, BE.den] <;> (and_intros <;> repeat first | trivial | rfl | exact enters81 | exact DeadS.re (over_d0 (X3 2).b J E hE N8 Q8 p8.note zRes) ⟨Sim.agg ⟨zr, Sim.ff, zr, zq0, zr, Sim.ff, trivial⟩, trivial⟩ | refine ⟨?_, ?_⟩ | intro h)
   intro X11 a0 w1 hF
   apply wp_seq
   rcases Bool.eq_false_or_eq_true (decide (N8 < E.n)) with hlt | hlt
   ·apply rgB hB TA_ok [4, 8, 9] [6, 4, 8] [(1, .x fun _ => ⟨.tup [.agg [.int .i64 0, .int .i64 0, .int .u64 0, .int .u64 0, .int .i64 0, .sl none none 0 0 2 (fun _ => []), .int .i64 0, .int .u64 0, .int .u64 0, .int .i64 0, .bool .ff, .str ⟨#[]⟩, .sl none none 0 0 2 (fun _ => []), .int .u64 0, .bool .ff], .int .i64 5], [(6, drunS J E N8 Q8 p8.note)], []⟩)] hF
    ·intro A X; conv => lhs; cbv
    ·intro X; subst hB; simp only [AO, Ob.holds, BE.den] <;> (and_intros <;> repeat first | trivial | rfl | exact enters82 | exact told_y 6 (X3 2).b J E N8 Q8 p8.note (of_decide_eq_true hlt) | refine ⟨?_, ?_⟩ | intro h)
    intro X12 a0 w1 hF
    apply wp_seq
    have hr9 : helpM J.bucket (J.budget - E.n) J p0 = .stop wq8 p8 := by simp [helpM, Rs.bind, t1, t2, hm6, tq7, hm8, hlt]
    have ht9 : helpN J E.n E.f = (zWq, 5) := by
     have h9 := of_decide_eq_true hlt
     rw [htot, hr9]; unfold toldM; simp only; rw [if_pos (by have := hN8; skip; have := hs6.le; have := hs8.le; omega)]
    apply rgB hB TA_ok [4, 5] [6, 4] [] hF
    ·intro A X; conv => lhs; cbv
    ·intro X; subst hB; simp only [AO, Ob.holds, BE.den] <;> and_intros <;> intros <;> trivial
    intro X13 a0 w1 hF
    refine wp_ret ?_
    refine ret_sim (fn := Tryz.f26) TA_ok hF (rs := [.cell 4 58, .tmp 5]) rfl (by conv => lhs; cbv) ?_ (⟨0, fun _ => none, fun _ => 0, fun _ => .empty⟩) ?_
    ·simp [AO, Ob.holds]
    subst hB
    rw [ht9]; exact Sim.tup ⟨Sim.agg ⟨zr, zr, zr, zr, zr, zq0, zr, zr, zr, zr, zr, zr, zq0, zr, zr, trivial⟩, zr, trivial⟩
   apply rgB hB TA_ok [4, 8, 9] [6, 4, 8] [(1, .x fun _ => ⟨.tup [wntV Q8, .int .i64 0], [(6, drunS J E N8 Q8 p8.note)], []⟩)] hF
   ·intro A X; conv => lhs; cbv
   ·intro X; subst hB; simp only [AO, Ob.holds, BE.den] <;> (and_intros <;> repeat first | trivial | rfl | exact enters82 | exact told_n 6 (X3 2).b J E N8 Q8 p8.note (of_decide_eq_false hlt) | refine ⟨?_, ?_⟩ | intro h)
   intro X12 a0 w1 hF
   apply wp_seq
   have hr9 : helpM J.bucket (J.budget - E.n) J p0 = .stop wq8 p8 := by simp [helpM, Rs.bind, t1, t2, hm6, tq7, hm8, hlt]
   have ht9 : helpN J E.n E.f = (wq8, 0) := by
    have h9 := of_decide_eq_false hlt
    rw [htot, hr9]; unfold toldM; simp only; rw [if_neg (by have := hN8; skip; have := hs6.le; have := hs8.le; omega)]
   apply rgB hB TA_ok [4, 5] [6, 4] [] hF
   ·intro A X; conv => lhs; cbv
   ·intro X; subst hB; simp only [AO, Ob.holds, BE.den] <;> and_intros <;> intros <;> trivial
   intro X13 a0 w1 hF
   refine wp_ret ?_
   refine ret_sim (fn := Tryz.f26) TA_ok hF (rs := [.cell 4 58, .tmp 5]) rfl (by conv => lhs; cbv) ?_ ((X8 4)) ?_
   ·simp [AO, Ob.holds]
   subst hB
   rw [ht9]; exact Sim.tup ⟨Sim.of_eq (by rw [hW8]), zr, trivial⟩
  have tq7 : (gk g6 3 || gk g6 4) = false := by
   have h9 : (if q7 = true then true else r7) = false := by subst hB; exact hb
   rw [← hq7, ← hr7, ← h9]; cases q7 <;> rfl
  refine wp_skip ?_
  apply wp_seq
  obtain ⟨q9, hq9⟩ := eqv (gk g6 5)
  apply rgB hB TA_ok [65, 2, 4, 6] [6, 2, 4] [(7, .r fun _ => .bool (.v q9))] hF
  ·intro A X; conv => lhs; cbv
  ·intro X; subst hB; simp only [AO, Ob.holds, BE.den] <;> (and_intros <;> repeat first | trivial | rfl | exact enters78 | exact (by rw [hq9]; exact dis_s g6 5) | exact by rw [hq9]; exact dis_s g6 5 | refine ⟨?_, ?_⟩ | intro h)
  intro X9 a0 w1 hF
  apply test_ok hF rfl <;> intro hb hF
  ·have tq9 : gk g6 5 = true := by rw [← hq9]; exact hb
   have S10 := dthw_c (p0.n + 1) 6 (X3 2).b J hJ1 E hE N6 p6 hR6 hp6 hn6 J.lab hlab (by have := hl6; omega)
   rcases hm10 : thwM J.bucket (J.budget - E.n) (p0.n + 1) J.lab p6 with ⟨v10, p10⟩ | ⟨wq10, p10⟩
   ·have hs10 := (fro_thw _ _ _ _ _).of hm10
    have hp10 := hp6.suf hs10
    have hn10 := Nat.le_trans hs10.le hn6
    have hR10 := hR6.suf hs10
    obtain ⟨N10, hN10⟩ := eqv (E.n - p10.n)
    rw [← hN10] at hR10
    apply rgB hB TA_ok [4, 6] [6, 4] [(3, .x fun x => ⟨unitV, [(6, drunL J E N10 p10.note)], []⟩)] hF
    ·intro A X; conv => lhs; cbv
    ·intro X; subst hB; simp only [AO, Ob.holds, BE.den] <;> (and_intros <;> repeat first | trivial | rfl | exact enters80 | exact S10.ok hm10 hN10 | refine ⟨?_, ?_⟩ | intro h)
    intro X10 a0 w1 hF
    apply wp_seq
    apply rgB hB TA_ok [4, 6] [6, 4] [(2, .x fun _ => ⟨unitV, [(6, drunS J E N10 ⟨4, ⟨0, 0⟩, 0, zRA, zRes⟩ p10.note)], []⟩)] hF
    ·intro A X; conv => lhs; cbv
    ·intro X; subst hB; simp only [AO, Ob.holds, BE.den] <;> (and_intros <;> repeat first | trivial | rfl | exact enters81 | exact SpecX.re (over_m 6 (X3 2).b J E hE N10 ⟨0, ⟨0, 0⟩, 0, zRA, zRes⟩ p10.note zRes) ⟨zr, Sim.agg ⟨zr, Sim.ff, zr, zq0, zr, Sim.ff, trivial⟩, trivial⟩ rfl fun _ => ⟨rfl, rfl, zr, rfl⟩ | refine ⟨?_, ?_⟩ | intro h)
    intro X11 a0 w1 hF
    apply wp_seq
    rcases Bool.eq_false_or_eq_true (decide (N10 < E.n)) with hlt | hlt
    ·apply rgB hB TA_ok [4, 8, 9] [6, 4, 8] [(1, .x fun _ => ⟨.tup [.agg [.int .i64 0, .int .i64 0, .int .u64 0, .int .u64 0, .int .i64 0, .sl none none 0 0 2 (fun _ => []), .int .i64 0, .int .u64 0, .int .u64 0, .int .i64 0, .bool .ff, .str ⟨#[]⟩, .sl none none 0 0 2 (fun _ => []), .int .u64 0, .bool .ff], .int .i64 5], [(6, drunS J E N10 ⟨4, ⟨0, 0⟩, 0, zRA, zRes⟩ p10.note)], []⟩)] hF
     ·intro A X; conv => lhs; cbv
     ·intro X; subst hB; simp only [AO, Ob.holds, BE.den] <;> (and_intros <;> repeat first | trivial | rfl | exact enters82 | exact told_y 6 (X3 2).b J E N10 ⟨4, ⟨0, 0⟩, 0, zRA, zRes⟩ p10.note (of_decide_eq_true hlt) | refine ⟨?_, ?_⟩ | intro h)
     intro X12 a0 w1 hF
     apply wp_seq
     have hr9 : helpM J.bucket (J.budget - E.n) J p0 = .ok zRsl p10 := by simp [helpM, Rs.bind, t1, t2, hm6, tq7, tq9, hm10, hlt]
     have ht9 : helpN J E.n E.f = (zWq, 5) := by
      have h9 := of_decide_eq_true hlt
      rw [htot, hr9]; unfold toldM; simp only; rw [if_pos (by have := hN10; skip; have := hs6.le; have := hs10.le; omega)]
     apply rgB hB TA_ok [4, 5] [6, 4] [] hF
     ·intro A X; conv => lhs; cbv
     ·intro X; subst hB; simp only [AO, Ob.holds, BE.den] <;> and_intros <;> intros <;> trivial
     intro X13 a0 w1 hF
     refine wp_ret ?_
     refine ret_sim (fn := Tryz.f26) TA_ok hF (rs := [.cell 4 58, .tmp 5]) rfl (by conv => lhs; cbv) ?_ (⟨0, fun _ => none, fun _ => 0, fun _ => .empty⟩) ?_
     ·simp [AO, Ob.holds]
     subst hB
     rw [ht9]; exact Sim.tup ⟨Sim.agg ⟨zr, zr, zr, zr, zr, zq0, zr, zr, zr, zr, zr, zr, zq0, zr, zr, trivial⟩, zr, trivial⟩
    apply rgB hB TA_ok [4, 8, 9] [6, 4, 8] [(1, .x fun _ => ⟨.tup [wntV ⟨4, ⟨0, 0⟩, 0, zRA, zRes⟩, .int .i64 0], [(6, drunS J E N10 ⟨4, ⟨0, 0⟩, 0, zRA, zRes⟩ p10.note)], []⟩)] hF
    ·intro A X; conv => lhs; cbv
    ·intro X; subst hB; simp only [AO, Ob.holds, BE.den] <;> (and_intros <;> repeat first | trivial | rfl | exact enters82 | exact told_n 6 (X3 2).b J E N10 ⟨4, ⟨0, 0⟩, 0, zRA, zRes⟩ p10.note (of_decide_eq_false hlt) | refine ⟨?_, ?_⟩ | intro h)
    intro X12 a0 w1 hF
    apply wp_seq
    have hr9 : helpM J.bucket (J.budget - E.n) J p0 = .ok zRsl p10 := by simp [helpM, Rs.bind, t1, t2, hm6, tq7, tq9, hm10, hlt]
    have ht9 : helpN J E.n E.f = (⟨4, ⟨0, 0⟩, 0, zeroRec, zRsl⟩, 0) := by
     have h9 := of_decide_eq_false hlt
     rw [htot, hr9]; unfold toldM; simp only; rw [if_neg (by have := hN10; skip; have := hs6.le; have := hs10.le; omega)]
    apply rgB hB TA_ok [4, 5] [6, 4] [] hF
    ·intro A X; conv => lhs; cbv
    ·intro X; subst hB; simp only [AO, Ob.holds, BE.den] <;> and_intros <;> intros <;> trivial
    intro X13 a0 w1 hF
    refine wp_ret ?_
    refine ret_sim (fn := Tryz.f26) TA_ok hF (rs := [.cell 4 58, .tmp 5]) rfl (by conv => lhs; cbv) ?_ (⟨0, fun _ => none, fun _ => 0, fun _ => .empty⟩) ?_
    ·simp [AO, Ob.holds]
    subst hB
    rw [ht9]; exact Sim.tup ⟨Sim.agg ⟨zr, zr, zr, zr, zr, zq0, zr, zr, zr, zr, zr, zr, zq0, zr, zr, trivial⟩, zr, trivial⟩
   have hs10 := (fro_thw _ _ _ _ _).ofs hm10
   obtain ⟨N10, hN10⟩ := eqv (E.n - p10.n)
   obtain ⟨rr10, hrr10⟩ := eqv (wq10.r.rn)
   obtain ⟨nn10, hnn10⟩ := eqv (wq10.res.items.length)
   obtain ⟨ff10, hff10⟩ := eqv (itF wq10.res.items)
   apply rgB hB TA_ok [4, 6] [6, 4] [(3, .x fun x => ⟨unitV, [(6, drunS J E N10 ⟨wq10.kind, wq10.lab, wq10.ver, ⟨x.A 1, x.c 1, rr10⟩, ⟨wq10.res.code, wq10.res.had, wq10.res.val, x.A 2, nn10, x.c 2, ff10, wq10.res.key, wq10.res.more⟩⟩ p10.note)], []⟩)] hF
   ·intro A X; conv => lhs; cbv
   ·intro X; subst hB; simp only [AO, Ob.holds, BE.den] <;> (and_intros <;> repeat first | trivial | rfl | exact enters80 | exact S10.stop hm10 hN10 hrr10 hnn10 hff10 | refine ⟨?_, ?_⟩ | intro h)
   intro X10 a0 w1 hF
   obtain ⟨Q10, hQ10⟩ := eqv ((wqD (X10 3) wq10 rr10 nn10 ff10))
   have hW10 : Q10 = wqA (X10 3) wq10 := by rw [hQ10, hrr10, hnn10, hff10]; rfl
   replace hF := hF.memS (cells' := drunS J E N10 Q10 p10.note) (by rw [hQ10]; exact zl)
   apply wp_seq
   apply rgB hB TA_ok [4, 6] [6, 4] [(2, .x fun _ => ⟨unitV, [(6, drunS J E N10 Q10 p10.note)], []⟩)] hF
   ·intro A X; conv => lhs; cbv
   ·intro X; subst hB; simp only [AO, Ob.holds, BE.den] <;> (and_intros <;> repeat first | trivial | rfl | exact enters81 | exact DeadS.re (over_d0 (X3 2).b J E hE N10 Q10 p10.note zRes) ⟨Sim.agg ⟨zr, Sim.ff, zr, zq0, zr, Sim.ff, trivial⟩, trivial⟩ | refine ⟨?_, ?_⟩ | intro h)
   intro X11 a0 w1 hF
   apply wp_seq
   rcases Bool.eq_false_or_eq_true (decide (N10 < E.n)) with hlt | hlt
   ·apply rgB hB TA_ok [4, 8, 9] [6, 4, 8] [(1, .x fun _ => ⟨.tup [.agg [.int .i64 0, .int .i64 0, .int .u64 0, .int .u64 0, .int .i64 0, .sl none none 0 0 2 (fun _ => []), .int .i64 0, .int .u64 0, .int .u64 0, .int .i64 0, .bool .ff, .str ⟨#[]⟩, .sl none none 0 0 2 (fun _ => []), .int .u64 0, .bool .ff], .int .i64 5], [(6, drunS J E N10 Q10 p10.note)], []⟩)] hF
    ·intro A X; conv => lhs; cbv
    ·intro X; subst hB; simp only [AO, Ob.holds, BE.den] <;> (and_intros <;> repeat first | trivial | rfl | exact enters82 | exact told_y 6 (X3 2).b J E N10 Q10 p10.note (of_decide_eq_true hlt) | refine ⟨?_, ?_⟩ | intro h)
    intro X12 a0 w1 hF
    apply wp_seq
    have hr9 : helpM J.bucket (J.budget - E.n) J p0 = .stop wq10 p10 := by simp [helpM, Rs.bind, t1, t2, hm6, tq7, tq9, hm10, hlt]
    have ht9 : helpN J E.n E.f = (zWq, 5) := by
     have h9 := of_decide_eq_true hlt
     rw [htot, hr9]; unfold toldM; simp only; rw [if_pos (by have := hN10; skip; have := hs6.le; have := hs10.le; omega)]
    apply rgB hB TA_ok [4, 5] [6, 4] [] hF
    ·intro A X; conv => lhs; cbv
    ·intro X; subst hB; simp only [AO, Ob.holds, BE.den] <;> and_intros <;> intros <;> trivial
    intro X13 a0 w1 hF
    refine wp_ret ?_
    refine ret_sim (fn := Tryz.f26) TA_ok hF (rs := [.cell 4 58, .tmp 5]) rfl (by conv => lhs; cbv) ?_ (⟨0, fun _ => none, fun _ => 0, fun _ => .empty⟩) ?_
    ·simp [AO, Ob.holds]
    subst hB
    rw [ht9]; exact Sim.tup ⟨Sim.agg ⟨zr, zr, zr, zr, zr, zq0, zr, zr, zr, zr, zr, zr, zq0, zr, zr, trivial⟩, zr, trivial⟩
   apply rgB hB TA_ok [4, 8, 9] [6, 4, 8] [(1, .x fun _ => ⟨.tup [wntV Q10, .int .i64 0], [(6, drunS J E N10 Q10 p10.note)], []⟩)] hF
   ·intro A X; conv => lhs; cbv
   ·intro X; subst hB; simp only [AO, Ob.holds, BE.den] <;> (and_intros <;> repeat first | trivial | rfl | exact enters82 | exact told_n 6 (X3 2).b J E N10 Q10 p10.note (of_decide_eq_false hlt) | refine ⟨?_, ?_⟩ | intro h)
   intro X12 a0 w1 hF
   apply wp_seq
   have hr9 : helpM J.bucket (J.budget - E.n) J p0 = .stop wq10 p10 := by simp [helpM, Rs.bind, t1, t2, hm6, tq7, tq9, hm10, hlt]
   have ht9 : helpN J E.n E.f = (wq10, 0) := by
    have h9 := of_decide_eq_false hlt
    rw [htot, hr9]; unfold toldM; simp only; rw [if_neg (by have := hN10; skip; have := hs6.le; have := hs10.le; omega)]
   apply rgB hB TA_ok [4, 5] [6, 4] [] hF
   ·intro A X; conv => lhs; cbv
   ·intro X; subst hB; simp only [AO, Ob.holds, BE.den] <;> and_intros <;> intros <;> trivial
   intro X13 a0 w1 hF
   refine wp_ret ?_
   refine ret_sim (fn := Tryz.f26) TA_ok hF (rs := [.cell 4 58, .tmp 5]) rfl (by conv => lhs; cbv) ?_ ((X10 3)) ?_
   ·simp [AO, Ob.holds]
   subst hB
   rw [ht9]; exact Sim.tup ⟨Sim.of_eq (by rw [hW10]), zr, trivial⟩
  have tq9 : gk g6 5 = false := by rw [← hq9]; exact hb
  refine wp_skip ?_
  apply wp_seq
  apply rgB hB TA_ok [4, 6] [6, 4] [(2, .x fun _ => ⟨unitV, [(6, drunS J E N6 ⟨4, ⟨0, 0⟩, 0, zRA, zRes⟩ p6.note)], []⟩)] hF
  ·intro A X; conv => lhs; cbv
  ·intro X; subst hB; simp only [AO, Ob.holds, BE.den] <;> (and_intros <;> repeat first | trivial | rfl | exact enters81 | exact SpecX.re (over_m 6 (X3 2).b J E hE N6 ⟨0, ⟨0, 0⟩, 0, zRA, zRes⟩ p6.note zRes) ⟨zr, Sim.agg ⟨zr, Sim.ff, zr, zq0, zr, Sim.ff, trivial⟩, trivial⟩ rfl fun _ => ⟨rfl, rfl, zr, rfl⟩ | refine ⟨?_, ?_⟩ | intro h)
  intro X11 a0 w1 hF
  apply wp_seq
  rcases Bool.eq_false_or_eq_true (decide (N6 < E.n)) with hlt | hlt
  ·apply rgB hB TA_ok [4, 8, 9] [6, 4, 8] [(1, .x fun _ => ⟨.tup [.agg [.int .i64 0, .int .i64 0, .int .u64 0, .int .u64 0, .int .i64 0, .sl none none 0 0 2 (fun _ => []), .int .i64 0, .int .u64 0, .int .u64 0, .int .i64 0, .bool .ff, .str ⟨#[]⟩, .sl none none 0 0 2 (fun _ => []), .int .u64 0, .bool .ff], .int .i64 5], [(6, drunS J E N6 ⟨4, ⟨0, 0⟩, 0, zRA, zRes⟩ p6.note)], []⟩)] hF
   ·intro A X; conv => lhs; cbv
   ·intro X; subst hB; simp only [AO, Ob.holds, BE.den] <;> (and_intros <;> repeat first | trivial | rfl | exact enters82 | exact told_y 6 (X3 2).b J E N6 ⟨4, ⟨0, 0⟩, 0, zRA, zRes⟩ p6.note (of_decide_eq_true hlt) | refine ⟨?_, ?_⟩ | intro h)
   intro X12 a0 w1 hF
   apply wp_seq
   have hr9 : helpM J.bucket (J.budget - E.n) J p0 = .ok zRsl p6 := by simp [helpM, Rs.bind, t1, t2, hm6, tq7, tq9, hlt]
   have ht9 : helpN J E.n E.f = (zWq, 5) := by
    have h9 := of_decide_eq_true hlt
    rw [htot, hr9]; unfold toldM; simp only; rw [if_pos (by have := hN6; skip; have := hs6.le; omega)]
   apply rgB hB TA_ok [4, 5] [6, 4] [] hF
   ·intro A X; conv => lhs; cbv
   ·intro X; subst hB; simp only [AO, Ob.holds, BE.den] <;> and_intros <;> intros <;> trivial
   intro X13 a0 w1 hF
   refine wp_ret ?_
   refine ret_sim (fn := Tryz.f26) TA_ok hF (rs := [.cell 4 58, .tmp 5]) rfl (by conv => lhs; cbv) ?_ (⟨0, fun _ => none, fun _ => 0, fun _ => .empty⟩) ?_
   ·simp [AO, Ob.holds]
   subst hB
   rw [ht9]; exact Sim.tup ⟨Sim.agg ⟨zr, zr, zr, zr, zr, zq0, zr, zr, zr, zr, zr, zr, zq0, zr, zr, trivial⟩, zr, trivial⟩
  apply rgB hB TA_ok [4, 8, 9] [6, 4, 8] [(1, .x fun _ => ⟨.tup [wntV ⟨4, ⟨0, 0⟩, 0, zRA, zRes⟩, .int .i64 0], [(6, drunS J E N6 ⟨4, ⟨0, 0⟩, 0, zRA, zRes⟩ p6.note)], []⟩)] hF
  ·intro A X; conv => lhs; cbv
  ·intro X; subst hB; simp only [AO, Ob.holds, BE.den] <;> (and_intros <;> repeat first | trivial | rfl | exact enters82 | exact told_n 6 (X3 2).b J E N6 ⟨4, ⟨0, 0⟩, 0, zRA, zRes⟩ p6.note (of_decide_eq_false hlt) | refine ⟨?_, ?_⟩ | intro h)
  intro X12 a0 w1 hF
  apply wp_seq
  have hr9 : helpM J.bucket (J.budget - E.n) J p0 = .ok zRsl p6 := by simp [helpM, Rs.bind, t1, t2, hm6, tq7, tq9, hlt]
  have ht9 : helpN J E.n E.f = (⟨4, ⟨0, 0⟩, 0, zeroRec, zRsl⟩, 0) := by
   have h9 := of_decide_eq_false hlt
   rw [htot, hr9]; unfold toldM; simp only; rw [if_neg (by have := hN6; skip; have := hs6.le; omega)]
  apply rgB hB TA_ok [4, 5] [6, 4] [] hF
  ·intro A X; conv => lhs; cbv
  ·intro X; subst hB; simp only [AO, Ob.holds, BE.den] <;> and_intros <;> intros <;> trivial
  intro X13 a0 w1 hF
  refine wp_ret ?_
  refine ret_sim (fn := Tryz.f26) TA_ok hF (rs := [.cell 4 58, .tmp 5]) rfl (by conv => lhs; cbv) ?_ (⟨0, fun _ => none, fun _ => 0, fun _ => .empty⟩) ?_
  ·simp [AO, Ob.holds]
  subst hB
  rw [ht9]; exact Sim.tup ⟨Sim.agg ⟨zr, zr, zr, zr, zr, zq0, zr, zr, zr, zr, zr, zr, zq0, zr, zr, trivial⟩, zr, trivial⟩
 have hs6 := (fro_get _ _ _).ofs hm6
 obtain ⟨N6, hN6⟩ := eqv (E.n - p6.n)
 obtain ⟨rr6, hrr6⟩ := eqv (wq6.r.rn)
 obtain ⟨nn6, hnn6⟩ := eqv (wq6.res.items.length)
 obtain ⟨ff6, hff6⟩ := eqv (itF wq6.res.items)
 apply rgB hB TA_ok [2, 4, 6, 7] [6, 2, 4, 7] [(3, .x fun x => ⟨.agg [.int .i64 0, .int .u64 0, .bool .ff, .int .i64 0, .sl none none 0 0 2 (fun _ => []), .int .i64 0, .int .u64 0, .int .u64 0], [(6, drunS J E N6 ⟨wq6.kind, wq6.lab, wq6.ver, ⟨x.A 1, x.c 1, rr6⟩, ⟨wq6.res.code, wq6.res.had, wq6.res.val, x.A 2, nn6, x.c 2, ff6, wq6.res.key, wq6.res.more⟩⟩ p6.note)], []⟩)] hF
 ·intro A X; conv => lhs; cbv
 ·intro X; subst hB; simp only [AO, Ob.holds, BE.den] <;> (and_intros <;> repeat first | trivial | rfl | exact enters77 | exact S6.stop hm6 hN6 hrr6 hnn6 hff6 | refine ⟨?_, ?_⟩ | intro h)
 intro X6 a0 w1 hF
 obtain ⟨Q6, hQ6⟩ := eqv ((wqD (X6 3) wq6 rr6 nn6 ff6))
 have hW6 : Q6 = wqA (X6 3) wq6 := by rw [hQ6, hrr6, hnn6, hff6]; rfl
 replace hF := hF.memS (cells' := drunS J E N6 Q6 p6.note) (by rw [hQ6]; exact zl)
 refine wp_seq (wp_seq ?_)
 obtain ⟨bs, hbs⟩ : ∃ b : Bool, b = true := ⟨_, rfl⟩
 replace hF := hF.memS (drunV_to hbs J E N6 Q6 p6.note)
 apply rgB hB TA_ok [51, 2, 4, 6, 7] [6, 2, 4, 7] [(7, .r fun _ => .bool .ff), (10, .r fun _ => .bool .ff)] hF
 ·intro A X; conv => lhs; cbv
 ·intro X; subst hB; simp only [AO, Ob.holds, BE.den] <;> (and_intros <;> repeat first | trivial | rfl | exact enters78 | exact disz_s _ | refine ⟨?_, ?_⟩ | intro h)
 intro X7 a0 w1 hF
 replace hF := hF.headS (v' := .bool .ff) (Sim.bool (by subst hB; rw [hbs]; rfl)) rfl
 replace hF := hF.memS (drunV_of hbs J E N6 Q6 p6.note)
 refine test_ff hF rfl (fun hF => ?_)
 refine wp_skip ?_
 apply wp_seq
 obtain ⟨bs, hbs⟩ : ∃ b : Bool, b = true := ⟨_, rfl⟩
 replace hF := hF.memS (drunV_to hbs J E N6 Q6 p6.note)
 apply rgB hB TA_ok [65, 2, 4, 6] [6, 2, 4] [(7, .r fun _ => .bool .ff)] hF
 ·intro A X; conv => lhs; cbv
 ·intro X; subst hB; simp only [AO, Ob.holds, BE.den] <;> (and_intros <;> repeat first | trivial | rfl | exact enters78 | exact disz_s _ | refine ⟨?_, ?_⟩ | intro h)
 intro X9 a0 w1 hF
 replace hF := hF.headS (v' := .bool .ff) (Sim.bool (by subst hB; rw [hbs]; rfl)) rfl
 replace hF := hF.memS (drunV_of hbs J E N6 Q6 p6.note)
 refine test_ff hF rfl (fun hF => ?_)
 refine wp_skip ?_
 apply wp_seq
 apply rgB hB TA_ok [4, 6] [6, 4] [(2, .x fun _ => ⟨unitV, [(6, drunS J E N6 Q6 p6.note)], []⟩)] hF
 ·intro A X; conv => lhs; cbv
 ·intro X; subst hB; simp only [AO, Ob.holds, BE.den] <;> (and_intros <;> repeat first | trivial | rfl | exact enters81 | exact DeadS.re (over_d0 (X3 2).b J E hE N6 Q6 p6.note zRes) ⟨Sim.agg ⟨zr, Sim.ff, zr, zq0, zr, Sim.ff, trivial⟩, trivial⟩ | refine ⟨?_, ?_⟩ | intro h)
 intro X11 a0 w1 hF
 apply wp_seq
 rcases Bool.eq_false_or_eq_true (decide (N6 < E.n)) with hlt | hlt
 ·apply rgB hB TA_ok [4, 8, 9] [6, 4, 8] [(1, .x fun _ => ⟨.tup [.agg [.int .i64 0, .int .i64 0, .int .u64 0, .int .u64 0, .int .i64 0, .sl none none 0 0 2 (fun _ => []), .int .i64 0, .int .u64 0, .int .u64 0, .int .i64 0, .bool .ff, .str ⟨#[]⟩, .sl none none 0 0 2 (fun _ => []), .int .u64 0, .bool .ff], .int .i64 5], [(6, drunS J E N6 Q6 p6.note)], []⟩)] hF
  ·intro A X; conv => lhs; cbv
  ·intro X; subst hB; simp only [AO, Ob.holds, BE.den] <;> (and_intros <;> repeat first | trivial | rfl | exact enters82 | exact told_y 6 (X3 2).b J E N6 Q6 p6.note (of_decide_eq_true hlt) | refine ⟨?_, ?_⟩ | intro h)
  intro X12 a0 w1 hF
  apply wp_seq
  have hr9 : helpM J.bucket (J.budget - E.n) J p0 = .stop wq6 p6 := by simp [helpM, Rs.bind, t1, t2, hm6, hlt]
  have ht9 : helpN J E.n E.f = (zWq, 5) := by
   have h9 := of_decide_eq_true hlt
   rw [htot, hr9]; unfold toldM; simp only; rw [if_pos (by have := hN6; skip; have := hs6.le; omega)]
  apply rgB hB TA_ok [4, 5] [6, 4] [] hF
  ·intro A X; conv => lhs; cbv
  ·intro X; subst hB; simp only [AO, Ob.holds, BE.den] <;> and_intros <;> intros <;> trivial
  intro X13 a0 w1 hF
  refine wp_ret ?_
  refine ret_sim (fn := Tryz.f26) TA_ok hF (rs := [.cell 4 58, .tmp 5]) rfl (by conv => lhs; cbv) ?_ (⟨0, fun _ => none, fun _ => 0, fun _ => .empty⟩) ?_
  ·simp [AO, Ob.holds]
  subst hB
  rw [ht9]; exact Sim.tup ⟨Sim.agg ⟨zr, zr, zr, zr, zr, zq0, zr, zr, zr, zr, zr, zr, zq0, zr, zr, trivial⟩, zr, trivial⟩
 apply rgB hB TA_ok [4, 8, 9] [6, 4, 8] [(1, .x fun _ => ⟨.tup [wntV Q6, .int .i64 0], [(6, drunS J E N6 Q6 p6.note)], []⟩)] hF
 ·intro A X; conv => lhs; cbv
 ·intro X; subst hB; simp only [AO, Ob.holds, BE.den] <;> (and_intros <;> repeat first | trivial | rfl | exact enters82 | exact told_n 6 (X3 2).b J E N6 Q6 p6.note (of_decide_eq_false hlt) | refine ⟨?_, ?_⟩ | intro h)
 intro X12 a0 w1 hF
 apply wp_seq
 have hr9 : helpM J.bucket (J.budget - E.n) J p0 = .stop wq6 p6 := by simp [helpM, Rs.bind, t1, t2, hm6, hlt]
 have ht9 : helpN J E.n E.f = (wq6, 0) := by
  have h9 := of_decide_eq_false hlt
  rw [htot, hr9]; unfold toldM; simp only; rw [if_neg (by have := hN6; skip; have := hs6.le; omega)]
 apply rgB hB TA_ok [4, 5] [6, 4] [] hF
 ·intro A X; conv => lhs; cbv
 ·intro X; subst hB; simp only [AO, Ob.holds, BE.den] <;> and_intros <;> intros <;> trivial
 intro X13 a0 w1 hF
 refine wp_ret ?_
 refine ret_sim (fn := Tryz.f26) TA_ok hF (rs := [.cell 4 58, .tmp 5]) rfl (by conv => lhs; cbv) ?_ ((X6 3)) ?_
 ·simp [AO, Ob.holds]
 subst hB
 rw [ht9]; exact Sim.tup ⟨Sim.of_eq (by rw [hW6]), zr, trivial⟩
def exJ : JobA := ⟨1, ⟨0, 0⟩, 0, 0, ⟨#[]⟩, 0, none, 0, 0, fun _ => 0, 0, 0, 0, 0, 1, 1, 1000⟩
def exI (k : Int) : Itm := ⟨k, ⟨#[]⟩⟩
def exX : Rec := ⟨3, [exI 1, exI 9223372036854775808], noneL, 0⟩
def exA : Rec := ⟨1, [exI 1], ⟨1, 9223372036854775808⟩, 0⟩
def exB : Rec := ⟨1, [exI 9223372036854775808], noneL, 0⟩
def exS : Nat → Shf
 | 0 | 1 | 2 | 3 => [(⟨0, 0⟩, ⟨4, true, exX⟩)]
 | 4 | 5 | 6 => [(⟨0, 0⟩, ⟨4, true, exX⟩), (⟨1, 0⟩, ⟨1, true, exA⟩)]
 | 7 => [(⟨0, 0⟩, ⟨4, true, exX⟩), (⟨1, 0⟩, ⟨1, true, exA⟩), (⟨1, 9223372036854775808⟩, ⟨1, true, exB⟩)]
 | _ => [(⟨0, 0⟩, ⟨5, true, innerR⟩), (⟨1, 0⟩, ⟨1, true, exA⟩), (⟨1, 9223372036854775808⟩, ⟨1, true, exB⟩)]
def exN : Nat → Int
 | 0 | 1 | 2 | 3 => 0
 | 4 | 5 | 6 => 1
 | 7 => 2
 | _ => 3
def exQ (k : Int) (l : Lab) (v : Int) (r : Rec) : Wq := ⟨k, l, v, r, zRsl⟩
def exW : Nat → Wq
 | 0 => exQ 1 ⟨0, 0⟩ 0 zeroRec
 | 1 => exQ 1 ⟨1, 0⟩ 0 zeroRec
 | 2 => exQ 1 ⟨0, 0⟩ 0 zeroRec
 | 3 => exQ 2 ⟨1, 0⟩ 0 exA
 | 4 => exQ 1 ⟨1, 9223372036854775808⟩ 0 zeroRec
 | 5 => exQ 1 ⟨0, 0⟩ 0 zeroRec
 | 6 => exQ 2 ⟨1, 9223372036854775808⟩ 0 exB
 | 7 => exQ 2 ⟨0, 0⟩ 4 innerR
 | _ => exQ 4 ⟨0, 0⟩ 0 zeroRec
def exG : Nat → Got
 | 0 => ⟨0, 4, true, exX⟩
 | 1 => ⟨0, 0, false, zeroRec⟩
 | 2 => ⟨0, 4, true, exX⟩
 | 3 => ⟨0, 1, false, zeroRec⟩
 | 4 => ⟨0, 0, false, zeroRec⟩
 | 5 => ⟨0, 4, true, exX⟩
 | 6 => ⟨0, 1, false, zeroRec⟩
 | _ => ⟨0, 5, false, zeroRec⟩
def gotAt (A : Option Addr) (c : Nat) (g : Got) : GotA := ⟨g.code, g.ver, g.has, ⟨A, c, g.r.rn⟩⟩
def Exg (k : Nat) (f : Nat → GotA) : Prop := ∀ j, j < k → ∃ A c, f j = gotAt A c (exG j)
theorem ex_fun {k : Nat} {f : Nat → GotA} (h : Exg k f) : ∃ (A : Nat → Option Addr) (c : Nat → Nat), f = fun j => if j < k then gotAt (A j) (c j) (exG j) else f j := by
 have h2 : ∀ j, ∃ A c, j < k → f j = gotAt A c (exG j) := fun j => by
  by_cases hj : j < k
  ·obtain ⟨A, c, e⟩ := h j hj; exact ⟨A, c, fun _ => e⟩
  exact ⟨none, 0, fun h => absurd h hj⟩
 refine ⟨fun j => Classical.choose (h2 j), fun j => Classical.choose (Classical.choose_spec (h2 j)), funext fun j => ?_⟩
 have e := Classical.choose_spec (Classical.choose_spec (h2 j))
 by_cases hj : j < k
 ·simp only [if_pos hj]; exact e hj
 simp only [if_neg hj]
theorem ex_h0 (A : Nat → Option Addr) (c : Nat → Nat) (f : Nat → GotA) : helpN exJ 0 (fun j => if j < 0 then gotAt (A j) (c j) (exG j) else f j) = (exW 0, 0) := by kernel_rfl
theorem ex_h1 (A : Nat → Option Addr) (c : Nat → Nat) (f : Nat → GotA) : helpN exJ 1 (fun j => if j < 1 then gotAt (A j) (c j) (exG j) else f j) = (exW 1, 0) := by kernel_rfl
theorem ex_h2 (A : Nat → Option Addr) (c : Nat → Nat) (f : Nat → GotA) : helpN exJ 2 (fun j => if j < 2 then gotAt (A j) (c j) (exG j) else f j) = (exW 2, 0) := by kernel_rfl
theorem ex_h3 (A : Nat → Option Addr) (c : Nat → Nat) (f : Nat → GotA) : helpN exJ 3 (fun j => if j < 3 then gotAt (A j) (c j) (exG j) else f j) = (exW 3, 0) := by kernel_rfl
theorem ex_h4 (A : Nat → Option Addr) (c : Nat → Nat) (f : Nat → GotA) : helpN exJ 4 (fun j => if j < 4 then gotAt (A j) (c j) (exG j) else f j) = (exW 4, 0) := by kernel_rfl
theorem ex_h5 (A : Nat → Option Addr) (c : Nat → Nat) (f : Nat → GotA) : helpN exJ 5 (fun j => if j < 5 then gotAt (A j) (c j) (exG j) else f j) = (exW 5, 0) := by kernel_rfl
theorem ex_h6 (A : Nat → Option Addr) (c : Nat → Nat) (f : Nat → GotA) : helpN exJ 6 (fun j => if j < 6 then gotAt (A j) (c j) (exG j) else f j) = (exW 6, 0) := by kernel_rfl
theorem ex_h7 (A : Nat → Option Addr) (c : Nat → Nat) (f : Nat → GotA) : helpN exJ 7 (fun j => if j < 7 then gotAt (A j) (c j) (exG j) else f j) = (exW 7, 0) := by kernel_rfl
theorem ex_h8 (A : Nat → Option Addr) (c : Nat → Nat) (f : Nat → GotA) : helpN exJ 8 (fun j => if j < 8 then gotAt (A j) (c j) (exG j) else f j) = (exW 8, 0) := by kernel_rfl
theorem ex_d0 : doL (exS 0) ⟨(exW 0).kind, (exW 0).lab, (exW 0).ver, (exW 0).r⟩ = ⟨exS (0 + 1), decide (exN (0 + 1) ≠ exN 0), exG 0, 0⟩ := by kernel_rfl
theorem ex_d1 : doL (exS 1) ⟨(exW 1).kind, (exW 1).lab, (exW 1).ver, (exW 1).r⟩ = ⟨exS (1 + 1), decide (exN (1 + 1) ≠ exN 1), exG 1, 0⟩ := by kernel_rfl
theorem ex_d2 : doL (exS 2) ⟨(exW 2).kind, (exW 2).lab, (exW 2).ver, (exW 2).r⟩ = ⟨exS (2 + 1), decide (exN (2 + 1) ≠ exN 2), exG 2, 0⟩ := by kernel_rfl
theorem ex_d3 : doL (exS 3) ⟨(exW 3).kind, (exW 3).lab, (exW 3).ver, (exW 3).r⟩ = ⟨exS (3 + 1), decide (exN (3 + 1) ≠ exN 3), exG 3, 0⟩ := by kernel_rfl
theorem ex_d4 : doL (exS 4) ⟨(exW 4).kind, (exW 4).lab, (exW 4).ver, (exW 4).r⟩ = ⟨exS (4 + 1), decide (exN (4 + 1) ≠ exN 4), exG 4, 0⟩ := by kernel_rfl
theorem ex_d5 : doL (exS 5) ⟨(exW 5).kind, (exW 5).lab, (exW 5).ver, (exW 5).r⟩ = ⟨exS (5 + 1), decide (exN (5 + 1) ≠ exN 5), exG 5, 0⟩ := by kernel_rfl
theorem ex_d6 : doL (exS 6) ⟨(exW 6).kind, (exW 6).lab, (exW 6).ver, (exW 6).r⟩ = ⟨exS (6 + 1), decide (exN (6 + 1) ≠ exN 6), exG 6, 0⟩ := by kernel_rfl
theorem ex_d7 : doL (exS 7) ⟨(exW 7).kind, (exW 7).lab, (exW 7).ver, (exW 7).r⟩ = ⟨exS (7 + 1), decide (exN (7 + 1) ≠ exN 7), exG 7, 0⟩ := by kernel_rfl
theorem ex_help {k : Nat} {f : Nat → GotA} (hk : k ≤ 8) (h : Exg k f) : helpN exJ k f = (exW k, 0) := by
 obtain ⟨A, c, e⟩ := ex_fun h
 rw [e]
 clear e h
 match k, hk with
 | 0, _ => exact ex_h0 A c f
 | 1, _ => exact ex_h1 A c f
 | 2, _ => exact ex_h2 A c f
 | 3, _ => exact ex_h3 A c f
 | 4, _ => exact ex_h4 A c f
 | 5, _ => exact ex_h5 A c f
 | 6, _ => exact ex_h6 A c f
 | 7, _ => exact ex_h7 A c f
 | 8, _ => exact ex_h8 A c f
theorem ex_do {k : Nat} (hk : k < 8) : doL (exS k) ⟨(exW k).kind, (exW k).lab, (exW k).ver, (exW k).r⟩ = ⟨exS (k + 1), decide (exN (k + 1) ≠ exN k), exG k, 0⟩ := by
 match k, hk with
 | 0, _ => exact ex_d0
 | 1, _ => exact ex_d1
 | 2, _ => exact ex_d2
 | 3, _ => exact ex_d3
 | 4, _ => exact ex_d4
 | 5, _ => exact ex_d5
 | 6, _ => exact ex_d6
 | 7, _ => exact ex_d7
theorem ex_kind {k : Nat} (hk : k ≤ 8) : ((exW k).kind = 4) = (k = 8) := by
 match k, hk with
 | 0, _ => simp [exW, exQ]
 | 1, _ => simp [exW, exQ]
 | 2, _ => simp [exW, exQ]
 | 3, _ => simp [exW, exQ]
 | 4, _ => simp [exW, exQ]
 | 5, _ => simp [exW, exQ]
 | 6, _ => simp [exW, exQ]
 | 7, _ => simp [exW, exQ]
 | 8, _ => simp [exW, exQ]
theorem exg_succ {k : Nat} {f : Nat → GotA} (h : Exg k f) (A : Option Addr) (c : Nat) : Exg (k + 1) (fun j => if j = k then gotAt A c (exG k) else f j) := fun j hj => by
 by_cases e : j = k
 ·exact ⟨A, c, by simp only [if_pos e]; rw [e]⟩
 simp only [if_neg e]; exact h j (by omega)
theorem enters83 : Enters Tryz.prog 83 := fun _ _ => by kernel_rfl
theorem samers_y (cd : Int) (hd : Bool) (vl : ByteArray) (A : Option Addr) (n c : Nat) (A2 : Option Addr) (c2 : Nat) (f : Nat → Itm) (k : Int) (mr : Bool) : Spec Tryz.prog 83 [.agg [.int .i64 cd, .bool (.v hd), .str vl, .sl none A n c 2 (fun i => itC (f i)), .int .u64 k, .bool (.v mr)], .agg [.int .i64 cd, .bool (.v hd), .str vl, .sl none A2 n c2 2 (fun i => itC (f i)), .int .u64 k, .bool (.v mr)]] (fun _ => .bool .tt) := by
 intro m w hm hargs
 have hn : n ≤ maxLen := by
  have h9 := hargs _ (List.mem_cons_self ..)
  have := ok_len (ok_agg h9 (.sl none A n c 2 (fun i => itC (f i))) (by simp))
  omega
 have S := same7_s A n c f hn A2 n c2 f
 rw [show sameF n f n f = true from sameF_yes rfl fun _ _ => rfl] at S
 simp only [rowI] at S
 refine enter hm hargs Tryz.func83 rfl (by simp [Tryz.ntmps83]) fun a0 hF => ?_
 simp only [Tryz.ntmps83, startT] at hF
 obtain ⟨B, hB⟩ := eqv (std)
 apply wp_seq
 apply rgB hB TA_ok [2, 3] [2, 3] [] hF
 ·intro A X; conv => lhs; cbv
 ·intro X; subst hB; simp [AO, Ob.holds, BE.den, std, sC, sAr] <;> omega
 intro X0 a0 w1 hF
 apply wp_seq
 apply rgB hB TA_ok [4] [] [(24, .r fun _ => .bool (.v true))] hF
 ·intro A X; conv => lhs; cbv
 ·intro X; subst hB; simp only [AO, Ob.holds, BE.den] <;> (and_intros <;> repeat first | trivial | rfl | exact enters15 | exact S | refine ⟨?_, ?_⟩ | intro h)
 intro X1 a0 w1 hF
 refine wp_ret ?_
 refine ret_sim (fn := Tryz.f83) TA_ok hF (rs := [.tmp 4]) rfl (rfl) ?_ nAt ?_
 ·simp [AO, Ob.holds]
 subst hB
 refine Sim.bool ?_
 simp [std, sC, stdScmp, BE.den, canB]
 try exact String.beq_self _
theorem enters27 : Enters Tryz.prog 27 := fun _ _ => by kernel_rfl
theorem sameq_y (x y : Atom) (W : Wq) (rr : RN) (nn : Nat) (ff : Nat → Itm) : Spec Tryz.prog 27 [wntV (wqB x W rr nn ff), wntV (wqB y W rr nn ff)] (fun _ => .bool .tt) := by
 intro m w hm hargs
 have hn : rr.n ≤ maxLen := by
  have h9 := hargs _ (List.mem_cons_self ..)
  have := ok_len (ok_agg h9 (.sl none (x.A 1) rr.n (x.c 1) 2 (fun i => itC (rr.f i))) (by simp))
  omega
 have S := same_s (x.A 1) rr.n (x.c 1) rr.f hn rr.kd rr.nx rr.mrk (y.A 1) rr.n (y.c 1) rr.f rr.kd rr.nx rr.mrk
 rw [sameR_abs, decide_eq_true rfl] at S
 simp only [recI, rowI] at S
 have S2 := samers_y W.res.code W.res.had W.res.val (x.A 2) nn (x.c 2) (y.A 2) (y.c 2) ff W.res.key W.res.more
 refine enter hm hargs Tryz.func27 rfl (by simp [Tryz.ntmps27]) fun a0 hF => ?_
 simp only [Tryz.ntmps27, startT] at hF
 obtain ⟨B, hB⟩ := eqv (std)
 apply wp_seq
 apply rgB hB TA_ok [2, 3] [2, 3] [] hF
 ·intro A X; conv => lhs; cbv
 ·intro X; subst hB; simp [AO, Ob.holds, BE.den, std, sC, sAr] <;> omega
 intro X0 a0 w1 hF
 apply wp_seq
 apply rgB hB TA_ok [4] [] [(24, .r fun _ => .bool (.v true)), (31, .r fun _ => .bool .tt)] hF
 ·intro A X; conv => lhs; cbv
 ·intro X; subst hB; simp only [AO, Ob.holds, BE.den] <;> (and_intros <;> repeat first | trivial | rfl | exact ob_lab (Kk := noK) _ _ _ _ | exact enters64 | exact S | exact enters83 | exact S2 | refine ⟨?_, ?_⟩ | intro h)
 intro X1 a0 w1 hF
 refine wp_ret ?_
 refine ret_sim (fn := Tryz.f27) TA_ok hF (rs := [.tmp 4]) rfl (rfl) ?_ nAt ?_
 ·simp [AO, Ob.holds]
 subst hB
 refine Sim.bool ?_
 simp [std, sC, BE.den, canB, eqL_lab]
theorem gots_in {k : Nat} {f : Nat → GotA} (hk : k ≤ 8) (h : Exg k f) : ∀ j, j < k → InG (f j) := by
 intro j hj
 obtain ⟨A, c, e⟩ := h j hj
 rw [e]
 have hj8 : j < 8 := by omega
 have h2 : ∀ i, i < 8 → U64 (exG i).r.next.bits ∧ U64 (exG i).ver ∧ (exG i).r.items.length ≤ 2 ∧ ∀ t, t < 2 → U64 (itF (exG i).r.items t).key := by
  intro i hi
  have hu : ∀ z : Int, 0 ≤ z → z ≤ 9223372036854775808 → U64 z := fun z h1 h2 => ⟨h1, by omega⟩
  match i, hi with
  | 0, _ => exact ⟨hu _ (by decide) (by decide), hu _ (by decide) (by decide), by decide, fun t ht => match t, ht with | 0, _ => hu _ (by decide) (by decide) | 1, _ => hu _ (by decide) (by decide)⟩
  | 1, _ => exact ⟨hu _ (by decide) (by decide), hu _ (by decide) (by decide), by decide, fun t ht => match t, ht with | 0, _ => hu _ (by decide) (by decide) | 1, _ => hu _ (by decide) (by decide)⟩
  | 2, _ => exact ⟨hu _ (by decide) (by decide), hu _ (by decide) (by decide), by decide, fun t ht => match t, ht with | 0, _ => hu _ (by decide) (by decide) | 1, _ => hu _ (by decide) (by decide)⟩
  | 3, _ => exact ⟨hu _ (by decide) (by decide), hu _ (by decide) (by decide), by decide, fun t ht => match t, ht with | 0, _ => hu _ (by decide) (by decide) | 1, _ => hu _ (by decide) (by decide)⟩
  | 4, _ => exact ⟨hu _ (by decide) (by decide), hu _ (by decide) (by decide), by decide, fun t ht => match t, ht with | 0, _ => hu _ (by decide) (by decide) | 1, _ => hu _ (by decide) (by decide)⟩
  | 5, _ => exact ⟨hu _ (by decide) (by decide), hu _ (by decide) (by decide), by decide, fun t ht => match t, ht with | 0, _ => hu _ (by decide) (by decide) | 1, _ => hu _ (by decide) (by decide)⟩
  | 6, _ => exact ⟨hu _ (by decide) (by decide), hu _ (by decide) (by decide), by decide, fun t ht => match t, ht with | 0, _ => hu _ (by decide) (by decide) | 1, _ => hu _ (by decide) (by decide)⟩
  | 7, _ => exact ⟨hu _ (by decide) (by decide), hu _ (by decide) (by decide), by decide, fun t ht => match t, ht with | 0, _ => hu _ (by decide) (by decide) | 1, _ => hu _ (by decide) (by decide)⟩
 obtain ⟨h3, h4, h5, h6⟩ := h2 j hj8
 exact ⟨h3, h4, (by show (exG j).r.items.length ≤ maxLen; have : maxLen = 9223372036854775807 := rfl; omega), fun t ht => h6 t (Nat.lt_of_lt_of_le ht h5)⟩
theorem exJ_in : JobIn exJ := ⟨⟨by decide, by decide⟩, ⟨by decide, by decide⟩, ⟨by decide, by decide⟩⟩
structure WOk (W : Wq) : Prop where
 lab : LabOk W.lab
 bits : U64 W.lab.bits
 few : W.r.items.length ≤ 2
 nx : U64 W.r.next.bits
theorem exW_ok {k : Nat} (hk : k ≤ 8) : WOk (exW k) := by
 have hu : ∀ z : Int, 0 ≤ z → z ≤ 9223372036854775808 → U64 z := fun z h1 h2 => ⟨h1, by omega⟩
 match k, hk with
 | 0, _ => exact ⟨⟨by decide, by decide⟩, hu _ (by decide) (by decide), by decide, hu _ (by decide) (by decide)⟩
 | 1, _ => exact ⟨⟨by decide, by decide⟩, hu _ (by decide) (by decide), by decide, hu _ (by decide) (by decide)⟩
 | 2, _ => exact ⟨⟨by decide, by decide⟩, hu _ (by decide) (by decide), by decide, hu _ (by decide) (by decide)⟩
 | 3, _ => exact ⟨⟨by decide, by decide⟩, hu _ (by decide) (by decide), by decide, hu _ (by decide) (by decide)⟩
 | 4, _ => exact ⟨⟨by decide, by decide⟩, hu _ (by decide) (by decide), by decide, hu _ (by decide) (by decide)⟩
 | 5, _ => exact ⟨⟨by decide, by decide⟩, hu _ (by decide) (by decide), by decide, hu _ (by decide) (by decide)⟩
 | 6, _ => exact ⟨⟨by decide, by decide⟩, hu _ (by decide) (by decide), by decide, hu _ (by decide) (by decide)⟩
 | 7, _ => exact ⟨⟨by decide, by decide⟩, hu _ (by decide) (by decide), by decide, hu _ (by decide) (by decide)⟩
 | 8, _ => exact ⟨⟨by decide, by decide⟩, hu _ (by decide) (by decide), by decide, hu _ (by decide) (by decide)⟩
theorem exS_len (k : Nat) : (exS k).length ≤ 3 := by
 match k with
 | 0 | 1 | 2 | 3 | 4 | 5 | 6 | 7 => decide
 | n + 8 => show (3 : Nat) ≤ 3; decide
theorem exN_succ {k : Nat} (hk : k < 8) : (if decide (exN (k + 1) ≠ exN k) then IntKind.i64.wrap (exN k + 1) else exN k) = exN (k + 1) := by
 match k, hk with
 | 0, _ => decide
 | 1, _ => decide
 | 2, _ => decide
 | 3, _ => decide
 | 4, _ => decide
 | 5, _ => decide
 | 6, _ => decide
 | 7, _ => decide
theorem enters68 : Enters Tryz.prog 68 := fun _ _ => by kernel_rfl
theorem begun_s (k : Int) (l : Lab) (b : Int) : Spec Tryz.prog 68 [.int .i64 k, labAV l, .int .i64 b] (fun _ => jobV ⟨k, l, 0, 0, ⟨#[]⟩, 0, none, 0, 0, fun _ => 0, 0, 0, 0, 0, 1, b, 1000⟩) := by
 intro m w hm hargs
 refine enter hm hargs Tryz.func68 rfl (by simp [Tryz.ntmps68]) fun a0 hF => ?_
 simp only [Tryz.ntmps68, startT] at hF
 obtain ⟨B, hB⟩ := eqv (std)
 apply wp_seq
 apply rgB hB TA_ok [0, 2, 4, 6] [4, 6] [] hF
 ·intro A X; conv => lhs; cbv
 ·intro X; subst hB; simp only [AO, Ob.holds, BE.den] <;> and_intros <;> intros <;> trivial
 intro X0 a0 w1 hF
 apply wp_seq
 apply rgB hB TA_ok [6] [6] [] hF
 ·intro A X; conv => lhs; cbv
 ·intro X; subst hB; simp only [AO, Ob.holds, BE.den] <;> and_intros <;> intros <;> trivial
 intro X1 a0 w1 hF
 refine wp_ret ?_
 refine ret_sim (fn := Tryz.f68) TA_ok hF (rs := [.cell 6 47]) rfl (by conv => lhs; cbv) ?_ nAt ?_
 ·simp [AO, Ob.holds]
 subst hB
 exact Sim.agg ⟨zr, zr, zr, zr, zr, zr, zr, Sim.nils, zr, zr, zr, zr, zr, zr, zr, trivial⟩
theorem enters69 : Enters Tryz.prog 69 := fun _ _ => by kernel_rfl
theorem runx_m0 (b bM : Nat) : SpecM Tryz.prog 69 [.ptr 0 b 0, jobV exJ] [(0, ⟨b, 119, [.raw (.map (some bM)), .int .i64 0]⟩)] (some bM) (shK bM (exS 0)) (fun y => ⟨.tup [.agg [.int .i64 0, .bool .ff, .str ⟨#[]⟩, .sl none (y.A 2) 0 (y.c 2) 2 (fun _ => []), .int .u64 0, .bool .ff], .bool .tt], [(0, [.raw (.map (some bM)), .int .i64 3])], []⟩) (fun _ _ => shK bM (exS 8)) := by
 intro m w hm hargs hpre hI
 have hmx : maxLen = 9223372036854775807 := rfl
 have hmp := shK_map hI
 refine enterM (bo := some bM) hm hpre hI hargs Tryz.func69 rfl (by simp [Tryz.ntmps69]) fun a0 hF => ?_
 simp only [Tryz.ntmps69, startT] at hF
 obtain ⟨B, hB⟩ := eqv (std)
 apply wp_seq
 apply rgB hB TA_ok [0, 3, 4] [0, 3, 4] [] hF
 ·intro A X; conv => lhs; cbv
 ·intro X; subst hB; simp only [AO, Ob.holds, BE.den] <;> and_intros <;> intros <;> trivial
 intro X0 a0 w1 hF
 apply wp_seq
 apply rgB hB TA_ok [0, 3, 4, 6] [0, 3, 4, 6, 42] [] hF
 ·intro A X; conv => lhs; cbv
 ·intro X; subst hB; simp only [AO, Ob.holds, BE.den] <;> and_intros <;> intros <;> trivial
 intro X1 a0 w1 hF
 refine wp_seq (wp_seq ?_)
 apply rgB hB TA_ok [6, 7, 0, 3, 4] [0, 3, 4, 6, 42] [] hF
 ·intro A X; conv => lhs; cbv
 ·intro X; subst hB; simp only [AO, Ob.holds, BE.den] <;> and_intros <;> intros <;> trivial
 intro X2 a0 w1 hF
 refine wp_block ?_
 replace hF := hF.headS (v' := .sl (some 6) none 0 0 8 (fun t => gotC zGot)) (zq0) rfl
 refine loop_preK (ι := Nat × (Nat → GotA) × Option Addr × Nat) (fun p => shK bM (exS p.1)) (fun p => [(6, .sl (some 6) p.2.2.1 p.1 p.2.2.2 8 (fun t => gotC (p.2.1 t))), (7, .int .i64 (p.1 : Int))]) (fun p => [(0, ⟨b, 119, [.raw (.map (some bM)), .int .i64 (exN p.1)]⟩)]) (fun p => [(6, ⟨p.2.2.1, p.1, p.2.2.2, 8, 63⟩)]) (fun p => p.1 ≤ 8 ∧ Exg p.1 p.2.1) (fun p => 9 - p.1) (0, fun _ => zGot, none, 0) ⟨Nat.zero_le _, fun j hj => absurd hj (Nat.not_lt_zero _)⟩ hF ?_
 rintro ⟨k, f, A1, c1⟩ ⟨hk, hex⟩ a0 w1 hF
 try dsimp only at hk
 try dsimp only at hex
 replace hF := hF.withK (K' := shK bM (exS k)) hF.kept
 obtain ⟨W9, hW9⟩ := eqv (((exW k, (0 : Int))).1)
 obtain ⟨E9, hE9⟩ := eqv (((exW k, (0 : Int))).2)
 obtain ⟨rr9, hrr9⟩ := eqv (W9.r.rn)
 obtain ⟨nn9, hnn9⟩ := eqv (W9.res.items.length)
 obtain ⟨ff9, hff9⟩ := eqv (itF W9.res.items)
 have TA := Spec.wq (by have h := hnext_s exJ exJ_in A1 k c1 f (by omega) (gots_in hk hex); rw [ex_help hk hex] at h; exact h) hW9 hE9 hrr9 hnn9 hff9
 have S9 : Spec Tryz.prog 25 [jobV exJ, .sl (some 6) A1 k c1 8 (fun t => gotC (f t))] (fun x => .tup [wntV (wqB x W9 rr9 nn9 ff9), .int .i64 E9]) := TA.sim ⟨zr, Sim.recell (fun _ _ => rfl), trivial⟩
 refine wp_seq (wp_seq ?_)
 apply rgB hB TA_ok [13, 0, 3, 4, 6, 7] [0, 3, 4, 6, 42] [] hF
 ·intro A X; conv => lhs; cbv
 ·intro X; subst hB; simp only [AO, Ob.holds, BE.den] <;> and_intros <;> intros <;> trivial
 intro X3 a0 w1 hF
 apply test_ok hF rfl <;> intro hb hF
 ·skip
  refine wp_skip ?_
  apply wp_seq
  refine wp_block ?_
  apply wp_seq
  apply rgB hB TA_ok [0, 3, 4, 6, 7, 8, 9] [0, 3, 4, 6, 8, 42] [(2, .r fun x => .tup [.agg [.int .i64 W9.kind, .int .i64 W9.lab.len, .int .u64 W9.lab.bits, .int .u64 W9.ver, .int .i64 rr9.kd, .sl none (x.A 1) rr9.n (x.c 1) 2 (fun i => itC (rr9.f i)), .int .i64 rr9.nx.len, .int .u64 rr9.nx.bits, .int .u64 rr9.mrk, .int .i64 W9.res.code, .bool (.v W9.res.had), .str W9.res.val, .sl none (x.A 2) nn9 (x.c 2) 2 (fun i => itC (ff9 i)), .int .u64 W9.res.key, .bool (.v W9.res.more)], .int .i64 E9])] hF
  ·intro A X; conv => lhs; cbv
  ·intro X; subst hB; simp only [AO, Ob.holds, BE.den] <;> (and_intros <;> repeat first | trivial | rfl | exact enters25 | exact S9 | refine ⟨?_, ?_⟩ | intro h)
  intro X5 a0 w1 hF
  refine wp_seq (wp_seq ?_)
  apply rgB hB TA_ok [23, 0, 3, 4, 6, 7, 8] [0, 3, 4, 6, 8, 42] [] hF
  ·intro A X; conv => lhs; cbv
  ·intro X; subst hB; simp only [AO, Ob.holds, BE.den] <;> and_intros <;> intros <;> trivial
  intro X6 a0 w1 hF
  apply test_ok hF rfl <;> intro hb hF
  ·exfalso
   have h9 : ¬ E9 = 0 := by subst hB; simpa [std, sC] using hb
   exact h9 hE9
  skip
  refine wp_skip ?_
  refine wp_seq (wp_seq ?_)
  apply rgB hB TA_ok [27, 0, 3, 4, 6, 7, 8] [0, 3, 4, 6, 8, 42] [] hF
  ·intro A X; conv => lhs; cbv
  ·intro X; subst hB; simp only [AO, Ob.holds, BE.den] <;> and_intros <;> intros <;> trivial
  intro X8 a0 w1 hF
  apply test_ok hF rfl <;> intro hb hF
  ·have hk4 : W9.kind = 4 := by subst hB; simpa [std, sC] using hb
   have hk8 : k = 8 := by rw [hW9] at hk4; rwa [ex_kind hk] at hk4
   apply wp_seq
   apply rgB hB TA_ok [4, 5] [0, 4] [] hF
   ·intro A X; conv => lhs; cbv
   ·intro X; subst hB; simp only [AO, Ob.holds, BE.den] <;> and_intros <;> intros <;> trivial
   intro X9 a0 w1 hF
   refine wp_ret ?_
   refine (ret_m (fn := Tryz.f69) TA_ok hF (rs := [.cell 4 56, .tmp 5]) rfl (by conv => lhs; cbv) ?_ ((X5 2)) [] ?_ ?_ ?_ ?_ ?_).1
   ·subst hB; simp [AO, Ob.holds]
   ·intro b hb; cases hb; exact ⟨hmp, fun m h => shK_map h⟩
   ·subst hB
    have hz : W9 = exW 8 := by rw [hW9, hk8]
    have hnz : nn9 = 0 := by rw [hnn9, hz]; rfl
    rw [hz, hnz]
    exact Sim.tup ⟨Sim.agg ⟨zr, zr, zr, zq0, zr, zr, trivial⟩, zr, trivial⟩
   ·subst hB; rw [hk8]; exact ⟨rfl, ⟨_, rfl, zl⟩, trivial⟩
   ·exact trivial
   rw [hk8]; exact fun _ _ h => h
  have hk4 : ¬ W9.kind = 4 := by subst hB; simpa [std, sC] using hb
  have hk8 : k < 8 := by
   rw [hW9] at hk4
   rw [ex_kind hk] at hk4
   omega
  have hwo := exW_ok hk
  rw [show exW k = W9 from hW9.symm] at hwo
  refine wp_skip ?_
  apply wp_seq
  refine wp_region_lit ?_
  apply list_preB 0 2 hB TA_ok [31, 32, 6, 0, 7, 3, 4] [0, 4, 3, 6] [] hF
  ·intro A X; conv => lhs; cbv
  ·intro X; subst hB; simp only [AO, Ob.holds, BE.den] <;> and_intros <;> intros <;> trivial
  intro X10_0 a0 w1 hF
  have SD := do_m 0 b bM (exS k) (by have := exS_len k; omega) (exN k) (wqB (X5 2) W9 rr9 nn9 ff9) (by show rr9.n ≤ _; rw [hrr9]; have := hwo.few; show W9.r.items.length ≤ _; omega) hwo.lab hwo.bits (by show U64 rr9.nx.bits; rw [hrr9]; exact hwo.nx)
  obtain ⟨D1, hD1⟩ := eqv (doL (exS k) (WntA.abs (wqB (X5 2) W9 rr9 nn9 ff9)))
  rw [← hD1] at SD
  obtain ⟨GG1, hGG1⟩ : ∃ G : Atom → GotA, G = fun y => gotA y D1.got := ⟨_, rfl⟩
  have hGf1 : ∀ y, gotA y D1.got = GG1 y := fun y => by rw [hGG1]
  simp only [hGf1] at SD
  obtain ⟨k1, hk1⟩ := eqv ((if D1.wrote then IntKind.i64.wrap ((exN k) + 1) else (exN k)))
  rw [← hk1] at SD
  obtain ⟨er1, her1⟩ := eqv (D1.err)
  rw [← her1] at SD
  obtain ⟨L1, hL1⟩ := eqv (D1.L)
  rw [← hL1] at SD
  refine man_callM rfl rfl rfl rfl hF rfl rfl enters28 SD (fun _ _ h => h) (fun b hb => by cases hb; exact fun _ => .inr rfl) ⟨zr, Sim.agg (by repeat (first | exact trivial | refine ⟨zr, ?_⟩ | refine ⟨Sim.ff, ?_⟩ | refine ⟨zq0, ?_⟩)), trivial⟩ (by intro e he; simp only [List.mem_singleton] at he; subst he; rfl) rfl rfl (fun _ => shK bM L1) (fun _ _ _ _ _ _ _ _ _ h => h) ?_
  intro y a0 w1 hF
  obtain ⟨g1, hg1⟩ := eqv (GG1 y)
  rw [← hg1] at hF
  replace hF := hF.withK (K' := shK bM L1) hF.kept
  have hga1 : g1.abs = D1.got := by rw [hg1, ← hGf1, gotA_abs]
  have e1 : D1 = ⟨exS (k + 1), decide (exN (k + 1) ≠ exN k), exG k, 0⟩ := by
   rw [hD1, ← ex_do hk8]
   unfold WntA.abs wqB
   rw [hrr9, rn_abs, hW9]
  have her0 : er1 = 0 := by rw [her1, e1]
  have hLn : L1 = exS (k + 1) := by rw [hL1, e1]
  have hkn : k1 = exN (k + 1) := by rw [hk1, e1]; exact exN_succ hk8
  have hg1a : g1 = gotAt (y.A 1) (y.c 1) (exG k) := by rw [hg1, ← hGf1, e1]; rfl
  apply leB 3 hB TA_ok [0, 3, 4, 6, 7, 10, 11] [0, 3, 4, 6, 10, 42] [] hF
  ·intro A X; conv => lhs; cbv
  ·intro X; subst hB; simp only [AO, Ob.holds, BE.den] <;> and_intros <;> intros <;> trivial
  intro X10 a0 w1 hF
  refine wp_seq (wp_seq ?_)
  apply rgB hB TA_ok [37, 0, 3, 4, 6, 7, 10] [0, 3, 4, 6, 10, 42] [] hF
  ·intro A X; conv => lhs; cbv
  ·intro X; subst hB; simp only [AO, Ob.holds, BE.den] <;> and_intros <;> intros <;> trivial
  intro X11 a0 w1 hF
  apply test_ok hF rfl <;> intro hb hF
  ·exfalso
   have h9 : ¬ er1 = 0 := by subst hB; simpa [std, sC] using hb
   exact h9 her0
  skip
  refine wp_skip ?_
  apply rgB hB TA_ok [6, 7, 0, 3, 4] [0, 3, 4, 6, 42] [] hF
  ·intro A X; conv => lhs; cbv
  ·intro X; subst hB; simp only [AO, Ob.holds, BE.den] <;> (and_intros <;> repeat first | trivial | rfl | exact (show k + 1 ≤ maxLen by omega) | exact (show (k + 1) * 80 ≤ 140737488355328 by omega) | intro h)
  intro X13 a0 w1 hF
  replace hF := hF.headS (v' := .sl (some 6) ((X13 3).A 0) (B.nadd k 1) ((X13 3).c 0) 8 (fun t => gotC (if t = k then g1 else f t))) (Sim.resl rfl (fun t ht => by
   subst hB
   have ht2 : t < k + 1 := ht
   show appC k (fun t => gotC (f t)) (chunk 8 (gotC g1)) t = _
   unfold appC
   split
   ·rw [if_neg (by omega)]
   have : t = k := by omega
   subst this
   rw [if_pos rfl]
   simp [chunk])) rfl
  apply rgB hB TA_ok [6, 7, 0, 3, 4] [0, 3, 4, 6, 42] [] hF
  ·intro A X; conv => lhs; cbv
  ·intro X; subst hB; simp only [AO, Ob.holds, BE.den] <;> and_intros <;> intros <;> trivial
  intro X4 a0 w1 hF
  have e : B.arith .add .i64 (k : Int) 1 = ((k + 1 : Nat) : Int) := by subst hB; exact wrap_succ (n := 2000) (by omega) (by omega)
  have hLb : L1 = exS (B.nadd k 1) := by rw [hLn]; subst hB; rfl
  have hkb : k1 = exN (B.nadd k 1) := by rw [hkn]; subst hB; rfl
  rw [hLb, hkb] at hF
  refine ⟨(k + 1, fun t => if t = k then g1 else f t, _, _), ⟨by simp only; omega, by rw [hg1a]; exact exg_succ hex _ _⟩, by simp only; omega, by rw [← e, show k + 1 = B.nadd k 1 by subst hB; rfl]; exact hF⟩
 exfalso
 have h9 : ¬ (k : Int) ≤ 2000 := by subst hB; simpa [std, sC] using hb
 omega
theorem runx_m (k0 : Nat) (b bM : Nat) : SpecM Tryz.prog 69 [.ptr k0 b 0, jobV exJ] [(k0, ⟨b, 119, [.raw (.map (some bM)), .int .i64 0]⟩)] (some bM) (shK bM (exS 0)) (fun y => ⟨.tup [.agg [.int .i64 0, .bool .ff, .str ⟨#[]⟩, .sl none (y.A 2) 0 (y.c 2) 2 (fun _ => []), .int .u64 0, .bool .ff], .bool .tt], [(k0, [.raw (.map (some bM)), .int .i64 3])], []⟩) (fun _ _ => shK bM (exS 8)) :=
 (runx_m0 b bM).re (by repeat (first | exact trivial | refine ⟨Sim.ptr, ?_⟩ | refine ⟨Sim.fn ⟨Sim.ptr, trivial⟩ trivial, ?_⟩ | refine ⟨Sim.fn trivial ⟨Sim.ptr, trivial⟩, ?_⟩ | refine ⟨zr, ?_⟩)) rfl (fun x => ⟨rfl, rfl, zr, rfl⟩)
def zJ : JobA := ⟨0, ⟨0, 0⟩, 0, 0, ⟨#[]⟩, 0, none, 0, 0, fun _ => 0, 0, 0, 0, 0, 0, 0, 0⟩
theorem l0_ok : LabOk ⟨0, 0⟩ ∧ U64 (⟨0, 0⟩ : Lab).bits := ⟨⟨by decide, by decide⟩, ⟨by decide, by decide⟩⟩
theorem zJ_in : JobIn zJ := ⟨⟨by decide, by decide⟩, ⟨by decide, by decide⟩, ⟨by decide, by decide⟩⟩
theorem zJ_no : helpN zJ 0 (fun _ => zGot) = (zWq, 1) := by kernel_rfl
theorem enters24 : Enters Tryz.prog 24 := fun _ _ => by kernel_rfl
theorem helped_s : Spec Tryz.prog 24 [] (fun _ => .bool .tt) := by
 intro m w hm hargs
 have hmx : maxLen = 9223372036854775807 := rfl
 have SB : Spec Tryz.prog 68 [.int .i64 1, .agg [.int .i64 0, .int .u64 0], .int .i64 1] (fun _ => jobV exJ) := begun_s 1 ⟨0, 0⟩ 1
 have hnl := rnone_s
 obtain ⟨nl, hnle⟩ := eqv (noneL)
 rw [← hnle] at hnl
 obtain ⟨W0, hW0⟩ := eqv (((exW 0, (0 : Int))).1)
 obtain ⟨E0, hE0⟩ := eqv (((exW 0, (0 : Int))).2)
 obtain ⟨rr0, hrr0⟩ := eqv (W0.r.rn)
 obtain ⟨nn0, hnn0⟩ := eqv (W0.res.items.length)
 obtain ⟨ff0, hff0⟩ := eqv (itF W0.res.items)
 have TA := Spec.wq (by have h := hnext_s exJ exJ_in none 0 0 (fun _ => zGot) (by omega) (fun j hj => absurd hj (Nat.not_lt_zero _)); rw [show helpN exJ 0 (fun _ => zGot) = (exW 0, (0 : Int)) from ex_help (Nat.zero_le _) (fun j hj => absurd hj (Nat.not_lt_zero _))] at h; exact h) hW0 hE0 hrr0 hnn0 hff0
 have S0 : ∀ g k fz, Spec Tryz.prog 25 [jobV exJ, .sl g none 0 0 k fz] (fun x => .tup [wntV (wqB x W0 rr0 nn0 ff0), .int .i64 E0]) := fun g k fz => TA.sim ⟨zr, Sim.nils, trivial⟩
 obtain ⟨W1, hW1⟩ := eqv (((zWq, (1 : Int))).1)
 obtain ⟨E1, hE1⟩ := eqv (((zWq, (1 : Int))).2)
 obtain ⟨rr1, hrr1⟩ := eqv (W1.r.rn)
 obtain ⟨nn1, hnn1⟩ := eqv (W1.res.items.length)
 obtain ⟨ff1, hff1⟩ := eqv (itF W1.res.items)
 have TA := Spec.wq (by have h := hnext_s zJ zJ_in none 0 0 (fun _ => zGot) (by omega) (fun j hj => absurd hj (Nat.not_lt_zero _)); rw [show helpN zJ 0 (fun _ => zGot) = (zWq, (1 : Int)) from zJ_no] at h; exact h) hW1 hE1 hrr1 hnn1 hff1
 have S1 : ∀ g k fz, Spec Tryz.prog 25 [.agg [.int .i64 0, .int .i64 0, .int .u64 0, .int .u64 0, .int .u64 0, .str ⟨#[]⟩, .int .i64 0, .sl none none 0 0 1 (fun _ => []), .int .u32 0, .int .u32 0, .int .u32 0, .int .u32 0, .int .i64 0, .int .i64 0, .int .i64 0], .sl g none 0 0 k fz] (fun x => .tup [wntV (wqB x W1 rr1 nn1 ff1), .int .i64 E1]) := fun g k fz => TA.sim ⟨Sim.agg ⟨zr, zr, zr, zr, zr, zr, zr, Sim.nils, zr, zr, zr, zr, zr, zr, zr, trivial⟩, Sim.nils, trivial⟩
 refine enter hm hargs Tryz.func24 rfl (by simp [Tryz.ntmps24]) fun a0 hF => ?_
 simp only [Tryz.ntmps24, startT] at hF
 obtain ⟨B, hB⟩ := eqv (std)
 apply wp_seq
 apply rgB hB TA_ok [] [] [] hF
 ·intro A X; conv => lhs; cbv
 ·intro X; subst hB; simp only [AO, Ob.holds, BE.den] <;> and_intros <;> intros <;> trivial
 intro X0 a0 w1 hF
 apply wp_seq
 apply rgB hB TA_ok [1] [1] [(3, .r fun _ => .agg [.int .i64 nl.len, .int .u64 nl.bits])] hF
 ·intro A X; conv => lhs; cbv
 ·intro X; subst hB; simp only [AO, Ob.holds, BE.den] <;> (and_intros <;> repeat first | trivial | rfl | exact enters61 | exact hnl | refine ⟨?_, ?_⟩ | intro h)
 intro X1 a0 w1 hF
 obtain ⟨xa, hxa⟩ : ∃ z : RA, z = ⟨some { block := (X1 2).b, off := 0 }, 2, exX.rn⟩ := ⟨_, rfl⟩
 replace hF := hF.memS (cells' := recC xa) (by
  rw [hxa, hnle]
  refine ⟨zr, Sim.recell (fun i hi => ?_), zr, zr, zr, trivial⟩
  have h2 : i < 2 := hi
  match i, h2 with
  | 0, _ => rfl
  | 1, _ => rfl)
 apply wp_seq
 refine wp_region_lit ?_
 apply list_preB 0 3 hB TA_ok [19, 1] [1] [] hF
 ·intro A X; conv => lhs; cbv
 ·intro X; subst hB; simp only [AO, Ob.holds, BE.den] <;> and_intros <;> intros <;> trivial
 intro X2_0 a0 w1 hF
 obtain ⟨fr, hfr⟩ : ∃ z : Nat → RowA, z = fun _ => ⟨⟨0, 0⟩, 4, xa⟩ := ⟨_, rfl⟩
 have hxr : xa.r = exX.rn := by rw [hxa]
 have hnew : newS (rwsA fr 1) = some (exS 0) := by
  rw [show rwsA fr 1 = [⟨⟨0, 0⟩, 4, exX⟩] by
   rw [hfr]
   show [(RowA.mk ⟨0, 0⟩ 4 xa).abs] = _
   unfold RowA.abs
   rw [hxr, rn_abs]]
  kernel_rfl
 have SN := new_yes (some { block := (X2_0 2).b, off := 0 }) 1 1 fr (by omega) (fun i hi => by rw [hfr]; exact ⟨by show xa.r.n ≤ _; rw [hxr]; decide, l0_ok.1, l0_ok.2, by show U64 xa.r.nx.bits; rw [hxr]; exact ⟨by decide, by decide⟩⟩) 14 hnew
 refine man_callM rfl rfl rfl rfl hF rfl rfl enters23 (SN) (fun _ _ _ => trivial) (fun b hb => by cases hb) ⟨Sim.recell (fun i hi => by have h1 : i = 0 := (by omega); subst h1; rw [hfr]; rfl), trivial⟩ (by intro e he; cases he) rfl rfl (fun y => shF w.heap.size (y.c 0) (exS 0)) (fun n x m w m' w' hn _ _ h => ⟨Nat.le_trans hn h.1, h.2⟩) ?_
 intro y a0 w1 hF
 obtain ⟨sb, hsb⟩ := eqv (y.b)
 obtain ⟨bM, hbM⟩ := eqv (y.c 0)
 rw [← hsb, ← hbM] at hF
 have hbfr : w.heap.size ≤ bM := hF.kept.1
 replace hF := hF.withK (K' := shK bM (exS 0)) hF.kept.2
 apply leB 4 hB TA_ok [2, 3] [14] [] hF
 ·intro A X; conv => lhs; cbv
 ·intro X; subst hB; simp only [AO, Ob.holds, BE.den] <;> and_intros <;> intros <;> trivial
 intro X2 a0 w1 hF
 refine wp_seq (wp_seq ?_)
 apply rgB hB TA_ok [28, 2] [14] [] hF
 ·intro A X; conv => lhs; cbv
 ·intro X; subst hB; simp only [AO, Ob.holds, BE.den] <;> and_intros <;> intros <;> trivial
 intro X3 a0 w1 hF
 apply test_ok hF rfl <;> intro hb hF
 ·exfalso
  subst hB; simp [std, sC, BE.den] at hb
 refine wp_skip ?_
 apply wp_seq
 apply rgB hB TA_ok [2, 4, 5] [14, 4] [(1, .r fun _ => jobV exJ), (2, .r fun x => .tup [.agg [.int .i64 W0.kind, .int .i64 W0.lab.len, .int .u64 W0.lab.bits, .int .u64 W0.ver, .int .i64 rr0.kd, .sl none (x.A 1) rr0.n (x.c 1) 2 (fun i => itC (rr0.f i)), .int .i64 rr0.nx.len, .int .u64 rr0.nx.bits, .int .u64 rr0.mrk, .int .i64 W0.res.code, .bool (.v W0.res.had), .str W0.res.val, .sl none (x.A 2) nn0 (x.c 2) 2 (fun i => itC (ff0 i)), .int .u64 W0.res.key, .bool (.v W0.res.more)], .int .i64 E0])] hF
 ·intro A X; conv => lhs; cbv
 ·intro X; subst hB; simp only [AO, Ob.holds, BE.den] <;> (and_intros <;> repeat first | trivial | rfl | exact enters68 | exact SB | exact enters25 | exact S0 _ _ _ | refine ⟨?_, ?_⟩ | intro h)
 intro X5 a0 w1 hF
 apply wp_seq
 refine wp_region_lit ?_
 apply list_preB 0 3 hB TA_ok [36, 38, 2, 4, 5] [14, 4] [(2, .r fun _ => jobV exJ)] hF
 ·intro A X; conv => lhs; cbv
 ·intro X; subst hB; simp only [AO, Ob.holds, BE.den] <;> (and_intros <;> repeat first | trivial | rfl | exact enters68 | exact SB | refine ⟨?_, ?_⟩ | intro h)
 intro X6_0 a0 w1 hF
 have SD := runx_m 14 sb bM
 refine man_callM rfl rfl rfl rfl hF rfl rfl enters69 SD (fun _ _ h => h) (fun b hb => by cases hb; exact fun h => absurd h (Nat.not_lt.2 hbfr)) ⟨zr, zr, trivial⟩ (by intro e he; simp only [List.mem_singleton] at he; subst he; rfl) rfl rfl (fun _ => shK bM (exS 8)) (fun _ _ _ _ _ _ _ _ _ h => h) ?_
 intro y a0 w1 hF
 replace hF := hF.withK (K' := shK bM (exS 8)) hF.kept
 apply leB 4 hB TA_ok [2, 4, 5, 6, 7] [14, 4, 6] [(2, .r fun _ => jobV exJ)] hF
 ·intro A X; conv => lhs; cbv
 ·intro X; subst hB; simp only [AO, Ob.holds, BE.den] <;> and_intros <;> intros <;> trivial
 intro X6 a0 w1 hF
 have SR1 := rows_r 14 sb bM (exS 8) (by have := exS_len 8; omega) 3
 obtain ⟨RR1, hRR1⟩ := eqv (rowsL (exS 8))
 rw [← hRR1] at SR1
 obtain ⟨nR1, hnR1⟩ := eqv (RR1.length)
 rw [← hnR1] at SR1
 have hn3 : nR1 = 3 := by rw [hnR1, hRR1]; kernel_rfl
 have SW := writes_r (shK bM (exS 8)) 14 sb bM 3
 apply wp_seq
 apply rgB hB TA_ok [2, 4, 5, 6, 7, 8] [14, 4, 6] [(1, .g [14] fun y => .sl none (y.A 0) nR1 (y.c 0) 8 (fun i => rowC (rwAt y RR1 i)))] hF
 ·intro A X; conv => lhs; cbv
 ·intro X; subst hB; simp only [AO, Ob.holds, BE.den] <;> (and_intros <;> repeat first | trivial | rfl | exact enters70 | exact SR1 | refine ⟨?_, ?_⟩ | intro h)
 intro X7 a0 w1 hF
 obtain ⟨f2, hf2⟩ := eqv (rwAt (X7 1) RR1)
 rw [← hf2] at hF
 apply wp_seq
 apply rgB hB TA_ok [2, 4, 5, 6, 7, 8, 10] [14, 4, 6, 9] [(1, .r fun x => .tup [.agg [.int .i64 W1.kind, .int .i64 W1.lab.len, .int .u64 W1.lab.bits, .int .u64 W1.ver, .int .i64 rr1.kd, .sl none (x.A 1) rr1.n (x.c 1) 2 (fun i => itC (rr1.f i)), .int .i64 rr1.nx.len, .int .u64 rr1.nx.bits, .int .u64 rr1.mrk, .int .i64 W1.res.code, .bool (.v W1.res.had), .str W1.res.val, .sl none (x.A 2) nn1 (x.c 2) 2 (fun i => itC (ff1 i)), .int .u64 W1.res.key, .bool (.v W1.res.more)], .int .i64 E1])] hF
 ·intro A X; conv => lhs; cbv
 ·intro X; subst hB; simp only [AO, Ob.holds, BE.den] <;> (and_intros <;> repeat first | trivial | rfl | exact enters25 | exact S1 _ _ _ | refine ⟨?_, ?_⟩ | intro h)
 intro X8 a0 w1 hF
 apply wp_seq
 apply rgB hB TA_ok [0] [14] [(51, .g [14] fun _ => .int .i64 3)] hF
 ·intro A X; conv => lhs; cbv
 ·intro X; subst hB; simp only [AO, Ob.holds, BE.den] <;> (and_intros <;> repeat first | trivial | rfl | exact ob_lab (Kk := noK) _ _ _ _ | exact (show (0 : Int) ≤ 0 by omega) | exact enters71 | exact SW | exact ⟨show (0 : Int) ≤ 0 by omega, show (0 : Int) < (nR1 : Int) by omega⟩ | exact ⟨show (0 : Int) ≤ 1 by omega, show (1 : Int) < (nR1 : Int) by omega⟩ | exact ⟨show (0 : Int) ≤ 2 by omega, show (2 : Int) < (nR1 : Int) by omega⟩ | refine ⟨?_, ?_⟩ | intro h)
 intro X9 a0 w1 hF
 refine wp_ret ?_
 refine ret_sim (fn := Tryz.f24) TA_ok hF (rs := [.tmp 0]) rfl (rfl) ?_ nAt ?_
 ·simp [AO, Ob.holds]
 subst hB
 refine Sim.bool ?_
 have kk : ∀ i, i < 3 → (f2 i).x.r = ((rowsL (exS 8)).getD i zeroRw).r.rn := fun i hi => by rw [hf2]; unfold rwAt; rw [hRR1]
 have k0 : (f2 0).x.r.kd = 2 := by rw [kk 0 (by omega)]; kernel_rfl
 have k1 : (f2 1).x.r.kd = 1 := by rw [kk 1 (by omega)]; kernel_rfl
 have k2 : (f2 2).x.r.n = 1 := by rw [kk 2 (by omega)]; kernel_rfl
 have w0 : W0.kind = 1 := by rw [hW0]; rfl
 have t0 : std.toNat 0 = 0 := rfl
 have t1 : std.toNat 1 = 1 := rfl
 have t2 : std.toNat 2 = 2 := rfl
 simp [std, sC, BE.den, canB, k0, k1, k2, w0, hE0, hE1, hn3]
structure RecOk (r : Rec) : Prop where
 nx : U64 r.next.bits
 few : r.items.length ≤ 16
 key : ∀ x ∈ r.items, U64 x.key
structure WqOk (w : Wq) : Prop where
 lab : LOk w.lab
 r : RecOk w.r
def WOkR {α : Type} (r : Rs α) : Prop := match r with
 | .ok _ _ => True
 | .stop w _ => WqOk w
theorem rec_z : RecOk zeroRec := ⟨⟨by decide, by decide⟩, by decide, fun x hx => by cases hx⟩
theorem rec_in : RecOk innerR := ⟨⟨by decide, by decide⟩, by decide, fun x hx => by cases hx⟩
theorem RaOk.ro {x : RA} (h : RaOk x) : RecOk x.r.abs := by
 refine ⟨h.nx, ?_, fun y hy => ?_⟩
 ·show (firsts x.r.f x.r.n).length ≤ 16
  rw [firsts_len]; exact h.few
 obtain ⟨i, hi, rfl⟩ := List.mem_map.1 hy
 exact h.key i (List.mem_range.1 hi)
theorem wok_z : WqOk zWq := ⟨lok_z, rec_z⟩
theorem wok_bind {α β : Type} {m : Rs α} {f : α → Pst → Rs β} (h : WOkR m) (hf : ∀ a q, m = .ok a q → WOkR (f a q)) : WOkR (m.bind f) := by
 cases m with
 | ok a q => exact hf a q rfl
 | stop w q => exact h
theorem wok_ite {α : Type} {c : Prop} [Decidable c] {x y : Rs α} (hx : c → WOkR x) (hy : ¬ c → WOkR y) : WOkR (if c then x else y) := by
 by_cases h : c
 ·rw [if_pos h]; exact hx h
 rw [if_neg h]; exact hy h
theorem wok_ask {k : Int} {w : Wq} {p : Pst} (h : WqOk w) : WOkR (askM k w p) := by
 unfold askM
 refine wok_ite (fun _ => trivial) (fun _ => ?_)
 show WqOk _
 split
 ·exact ⟨lok_z, rec_z⟩
 exact h
theorem wok_get {k : Int} {l : Lab} {p : Pst} (h : LOk l) : WOkR (getM k l p) := wok_ask ⟨h, rec_z⟩
theorem wok_cas {k : Int} {l : Lab} {v : Int} {r : Rec} {p : Pst} (h : LOk l) (hr : RecOk r) : WOkR (casM k l v r p) := wok_bind (wok_ask ⟨h, hr⟩) fun _ _ _ => trivial
theorem wok_del {k : Int} {l : Lab} {v : Int} {p : Pst} (h : LOk l) : WOkR (drpM k l v p) := wok_bind (wok_ask ⟨h, rec_z⟩) fun _ _ _ => trivial
theorem wok_splC {k : Int} {l : Lab} {v : Int} {c : Lab} {x : Rec} (hl : LOk l) (hc : LOk c) (hx : RecOk x) : ∀ n p, WOkR (splC k l v c x n p)
 | 0, p => wok_z
 | n + 1, p => by
  unfold splC
  refine wok_bind (wok_get hc) fun g p1 _ => wok_ite (fun _ => trivial) fun _ => wok_bind (wok_get hl) fun q p2 _ => wok_ite (fun _ => ?_) fun _ => trivial
  exact wok_bind (wok_cas hc hx) fun d p3 _ => wok_ite (fun _ => trivial) fun _ => wok_splC hl hc hx n p3
theorem cov_sub {l : Lab} {its : List Itm} {x : Itm} (h : x ∈ covL l its) : x ∈ its := (List.mem_filter.1 h).1
theorem cov_le (l : Lab) (its : List Itm) : (covL l its).length ≤ its.length := List.length_filter_le _ _
theorem halv_ok {x : RA} {l : Lab} (h : RaOk x) (hl : LOk l) : RecOk (halvA x l).1 ∧ RecOk (halvA x l).2.1 := by
 have hr := h.ro
 unfold halvA halvR
 split
 ·exact ⟨rec_z, rec_z⟩
 split
 ·exact ⟨rec_z, rec_z⟩
 split
 ·exact ⟨rec_z, rec_z⟩
 rename_i h64
 refine ⟨⟨child_u hl.isl hl.u h64 1, Nat.le_trans (cov_le _ _) hr.few, fun y hy => hr.key y (cov_sub hy)⟩, ⟨h.nx, Nat.le_trans (cov_le _ _) hr.few, fun y hy => hr.key y (cov_sub hy)⟩⟩
theorem uni_ok {x y : RA} (h : RaOk x) (h' : RaOk y) : RecOk (uniA x y).1 := by
 have hr := h.ro
 have hr' := h'.ro
 unfold uniA uniR
 split
 ·exact rec_z
 split
 ·exact rec_z
 split
 ·exact rec_z
 split
 ·exact rec_z
 rename_i h16
 refine ⟨h'.nx, ?_, fun z hz => ?_⟩
 ·show (firsts x.r.f x.r.n ++ firsts y.r.f y.r.n).length ≤ 16
  rw [List.length_append, firsts_len, firsts_len]; omega
 rcases List.mem_append.1 hz with hz | hz
 ·exact hr.key z hz
 exact hr'.key z hz
theorem wok_split {k : Int} {n : Nat} {l : Lab} {v : Int} {x : RA} {p : Pst} (hl : LOk l) (hx : RaOk x) : WOkR (splitM k n l v x p) := by
 unfold splitM
 refine wok_ite (fun _ => ?_) fun _ => trivial
 refine wok_bind (wok_splC hl (hl.ch 0) (halv_ok hx hl).1 n p) fun go p1 _ => wok_ite (fun _ => ?_) fun _ => trivial
 refine wok_bind (wok_splC hl (hl.ch 1) (halv_ok hx hl).2 n p1) fun go p2 _ => wok_ite (fun _ => ?_) fun _ => trivial
 exact wok_bind (wok_cas hl rec_in) fun _ _ _ => trivial
theorem wok_frz {k : Int} {l : Lab} {v : Int} {c : Lab} (hl : LOk l) (hc : LOk c) : ∀ n p, PstOk p → WOkR (frzM k l v c n p)
 | 0, p, _ => wok_z
 | n + 1, p, hp => by
  unfold frzM
  refine wok_bind (wok_get hc) fun g p1 e1 => wok_ite (fun _ => wok_ite (fun _ => trivial) fun _ => ?_) fun _ => trivial
  have hp1 := hp.suf ((fro_get k c p).of e1)
  refine wok_bind (wok_get hl) fun q p2 e2 => wok_ite (fun _ => ?_) fun _ => trivial
  have hp2 := hp1.suf ((fro_get k l p1).of e2)
  refine wok_bind (wok_cas hc ((hp.get e1).ra.as 5 v).ro) fun d p3 e3 => wok_ite (fun _ => trivial) fun _ => ?_
  exact wok_frz hl hc n p3 (hp2.suf ((fro_cas _ _ _ _ _).of e3))
theorem wok_clnC {k : Int} {l : Lab} {cl : Lab → Pst → Rs Unit} {c : Lab} (hl : LOk l) (hc : LOk c) (hcl : ∀ c p, LOk c → WOkR (cl c p)) (p : Pst) : WOkR (clnC k l cl c p) := by
 unfold clnC
 refine wok_bind (wok_get hc) fun g p1 _ => wok_ite (fun _ => ?_) fun _ => trivial
 refine wok_bind (hcl c p1 hc) fun _ p2 _ => wok_bind (wok_get hl) fun q p3 _ => wok_ite (fun _ => ?_) fun _ => trivial
 exact wok_bind (wok_del hc) fun _ _ _ => trivial
theorem wok_cln {k : Int} : ∀ (n : Nat) (l : Lab) (p : Pst), LOk l → WOkR (clnM k n l p)
 | 0, l, p, _ => wok_z
 | n + 1, l, p, hl => by
  unfold clnM
  refine wok_ite (fun _ => trivial) fun _ => wok_bind (wok_clnC hl (hl.ch 0) (fun c p hc => wok_cln n c p hc) p) fun go p1 _ => wok_ite (fun _ => ?_) fun _ => trivial
  exact wok_bind (wok_clnC hl (hl.ch 1) (fun c p hc => wok_cln n c p hc) p1) fun _ _ _ => trivial
theorem wok_bck {k : Int} {th : Lab → Pst → Rs Unit} {l : Lab} {v : Int} (hl : LOk l) (hth : ∀ c p, LOk c → PstOk p → WOkR (th c p)) (hfr : ∀ c p, Fro p (th c p)) {p : Pst} (hp : PstOk p) : WOkR (bckM k th l v p) := by
 unfold bckM
 refine wok_bind (wok_cas hl rec_in) fun d p1 e1 => wok_ite (fun _ => ?_) fun _ => trivial
 have hp1 := hp.suf ((fro_cas _ _ _ _ _).of e1)
 exact wok_bind (hth _ _ (hl.ch 0) hp1) fun _ p2 e2 => hth _ _ (hl.ch 1) (hp1.suf ((hfr _ _).of e2))
theorem wok_mrg {bk k : Int} {n : Nat} {th : Lab → Pst → Rs Unit} {l : Lab} {v : Int} (hl : LOk l) (hth : ∀ c p, LOk c → PstOk p → WOkR (th c p)) (hfr : ∀ c p, Fro p (th c p)) {p : Pst} (hp : PstOk p) : WOkR (mrgM bk k n th l v p) := by
 unfold mrgM
 refine wok_bind (wok_frz hl (hl.ch 0) n p hp) fun a p1 e1 => ?_
 have hp1 := hp.suf ((fro_frz _ _ _ _ _ _).of e1)
 cases a with
 | over => trivial
 | unfit => exact wok_bck hl hth hfr hp1
 | fr a =>
  refine wok_bind (wok_frz hl (hl.ch 1) n p1 hp1) fun b p2 e2 => ?_
  have hp2 := hp1.suf ((fro_frz _ _ _ _ _ _).of e2)
  cases b with
  | over => trivial
  | unfit => exact wok_bck hl hth hfr hp2
  | fr b =>
   refine wok_ite (fun _ => ?_) fun _ => wok_bck hl hth hfr hp2
   exact wok_bind (wok_cas hl (uni_ok (frz_ok hp e1) (frz_ok hp1 e2))) fun d p3 _ => wok_ite (fun _ => wok_cln n l p3 hl) fun _ => trivial
theorem wok_fin {bk k : Int} {n : Nat} {th : Lab → Pst → Rs Unit} {l : Lab} {g : GotA} (hl : LOk l) (hg : GotOk g) (hth : ∀ c p, LOk c → PstOk p → WOkR (th c p)) (hfr : ∀ c p, Fro p (th c p)) {p : Pst} (hp : PstOk p) : WOkR (finM bk k n th l g p) := by
 unfold finM
 exact wok_ite (fun _ => wok_split hl hg.ra) fun _ => wok_ite (fun _ => wok_mrg hl hth hfr hp) fun _ => trivial
theorem fro_thwI (bk k : Int) (n : Nat) (c : Lab) (p : Pst) : Fro p (if parE c = 0 then thwL bk k n c (parV c) p else .ok () p : Rs Unit) := fro_ite (fro_thwL _ _ _ _ _ _) (fro_ok _ _)
theorem wok_thwL {bk k : Int} : ∀ (n : Nat) (l up : Lab) (p : Pst), LOk l → LOk up → PstOk p → WOkR (thwL bk k n l up p)
 | 0, l, up, p, _, _, _ => wok_z
 | n + 1, l, up, p, hl, hu, hp => by
  unfold thwL
  refine wok_bind (wok_get hl) fun g p1 e1 => wok_ite (fun _ => ?_) fun _ => trivial
  have hp1 := hp.suf ((fro_get _ _ _).of e1)
  refine wok_bind (wok_get hu) fun q p2 e2 => ?_
  have hp2 := hp1.suf ((fro_get _ _ _).of e2)
  refine wok_bind (wok_ite (fun _ => wok_fin hu (hp1.get e2) (fun c p hc hp => show WOkR (if parE c = 0 then thwL bk k n c (parV c) p else .ok () p : Rs Unit) from wok_ite (fun _ => wok_thwL n c (parV c) p hc hc.par hp) fun _ => trivial) (fro_thwI bk k n) hp2) fun _ => trivial) fun _ p3 e3 => wok_ite (fun _ => ?_) fun _ => trivial
  have hp3 := hp2.suf (Fro.of (fro_ite (fro_fin _ _ _ _ (fro_thwI bk k n) _ _ _) (fro_ok _ _)) e3)
  refine wok_bind (wok_cas hl ((hp.get e1).ra.as 1 0).ro) fun d p4 e4 => wok_ite (fun _ => trivial) fun _ => ?_
  exact wok_thwL n l up p4 hl hu (hp3.suf ((fro_cas _ _ _ _ _).of e4))
theorem wok_thw {bk k : Int} {n : Nat} {l : Lab} {p : Pst} (hl : LOk l) (hp : PstOk p) : WOkR (thwM bk k n l p) := wok_ite (fun _ => wok_thwL n l _ p hl hl.par hp) fun _ => trivial
theorem wok_fns {bk k : Int} {n : Nat} {l : Lab} {g : GotA} {p : Pst} (hl : LOk l) (hg : GotOk g) (hp : PstOk p) : WOkR (fnsM bk k n l g p) := wok_fin hl hg (fun c p hc hp => wok_thw hc hp) (fro_thw _ _ _) hp
theorem wok_help {bk k : Int} {J : JobA} {p : Pst} (hl : LOk J.lab) (hp : PstOk p) : WOkR (helpM bk k J p) := by
 unfold helpM
 refine wok_ite (fun _ => wok_bind (wok_cln _ _ _ hl) fun _ _ _ => trivial) fun _ => wok_ite (fun _ => ?_) fun _ => trivial
 refine wok_bind (wok_get hl) fun g q e1 => ?_
 have hq := hp.suf ((fro_get _ _ _).of e1)
 exact wok_bind (wok_ite (fun _ => wok_fns hl (hp.get e1) hq) fun _ => wok_ite (fun _ => wok_thw hl hq) fun _ => trivial) fun _ _ _ => trivial
theorem wok_told {r : Rs Rsl} (h : WOkR r) : WqOk (toldM r).1 := by
 cases r with
 | ok a p =>
  unfold toldM
  simp only
  split
  ·exact wok_z
  exact ⟨lok_z, rec_z⟩
 | stop w p =>
  unfold toldM
  simp only
  split
  ·exact wok_z
  exact h
theorem helpN_ok {J : JobA} (hJ : JobIn J) {n : Nat} {f : Nat → GotA} (hin : ∀ j, j < n → InG (f j)) : WqOk (helpN J n f).1 := by
 unfold helpN nextR
 split
 ·rename_i h
  simp only [Bool.and_eq_true] at h
  exact wok_told (wok_help (job_lab hJ h.1.1) (pst_ok hin h.2))
 exact wok_z
structure SpoOk (p : Lab × Spo) : Prop where
 ver : U64 p.2.ver
 r : RecOk p.2.r
structure ShfG (L : Shf) : Prop where
 ok : ShfOk L
 sp : ∀ p ∈ L, SpoOk p
theorem u64_0 : U64 0 := ⟨by decide, by decide⟩
theorem isR_few {r : Rec} (h : isR r = true) : r.items.length ≤ 16 := by
 have h2 : isRF r.kind r.items.length (itF r.items) r.next r.mark = true := by
  have h3 := isR_abs r.rn
  rw [rn_abs] at h3
  rw [h3] at h
  exact h
 exact (isRF_kind h2).2.2.1
theorem inc_u (v : Int) : U64 (inc v) := by
 unfold inc IntKind.wrap
 simp only [IntKind.bits, IntKind.signed]
 unfold U64
 constructor
 ·simp; omega
 simp; omega
theorem find_memL {l : Lab} {x : Spo} : ∀ {L : Shf}, findL l L = some x → ∃ p ∈ L, p.2 = x
 | [], h => by cases h
 | p :: L, h => by
  unfold findL at h
  split at h
  ·exact ⟨p, by simp, Option.some.inj h⟩
  obtain ⟨q, hq, e⟩ := find_memL h
  exact ⟨q, by simp [hq], e⟩
theorem spot_ok {L : Shf} (h : ∀ p ∈ L, SpoOk p) (l : Lab) : U64 (spotOf L l).ver ∧ RecOk (spotOf L l).r := by
 unfold spotOf
 cases e : findL l L with
 | none => exact ⟨u64_0, rec_z⟩
 | some x =>
  obtain ⟨p, hp, rfl⟩ := find_memL e
  exact ⟨(h p hp).ver, (h p hp).r⟩
structure WntG (w : Wnt) : Prop where
 lab : LabOk w.lab
 nx : U64 w.r.next.bits
 key : ∀ x ∈ w.r.items, U64 x.key
theorem doL_good {L : Shf} (h : ShfG L) {w : Wnt} (hw : WntG w) : ShfG (doL L w).L ∧ U64 (doL L w).got.ver ∧ RecOk (doL L w).got.r := by
 refine ⟨⟨doL_ok h.ok hw.lab, ?_⟩, ?_⟩
 ·unfold doL
  split
  ·rename_i hg
   split
   ·exact h.sp
   split
   ·exact h.sp
   split
   ·exact h.sp
   intro p hp
   rcases put_mem hp with rfl | hp
   ·refine ⟨inc_u _, ?_⟩
    show RecOk (if w.kind = 2 then w.r else zeroRec)
    split
    ·rename_i h2
     exact ⟨hw.nx, isR_few (hg.2.2 h2), hw.key⟩
    exact rec_z
   exact h.sp p hp
  exact h.sp
 have hs := spot_ok h.sp w.lab
 unfold doL
 split
 ·split
  ·exact hs
  split
  ·exact ⟨hs.1, rec_z⟩
  split
  ·exact ⟨u64_0, rec_z⟩
  exact ⟨inc_u _, rec_z⟩
 exact ⟨u64_0, rec_z⟩
structure RwG (r : Rw) : Prop where
 lab : LabOk r.lab
 ver : U64 r.ver
 nx : U64 r.r.next.bits
 key : ∀ x ∈ r.r.items, U64 x.key
theorem newL_good : ∀ {l : List Rw} {L L' : Shf}, (∀ r ∈ l, RwG r) → (∀ p ∈ L, SpoOk p) → newL l L = some L' → ∀ p ∈ L', SpoOk p
 | [], L, L', _, h2, h => by
  simp only [newL, Option.some.injEq] at h
  subst h; exact h2
 | r :: l, L, L', hr, h2, h => by
  unfold newL at h
  split at h
  ·cases h
  rename_i hc
  have hc2 : isR r.r = true := by
   simp only [Bool.or_eq_true, Bool.not_eq_true', not_or] at hc
   simpa using hc.2
  refine newL_good (fun r hr' => hr r (by simp [hr'])) (fun p hp => ?_) h
  rcases put_mem hp with rfl | hp
  ·have := hr r (by simp)
   exact ⟨this.ver, ⟨this.nx, isR_few hc2, this.key⟩⟩
  exact h2 p hp
theorem newS_good {l : List Rw} {L : Shf} (hr : ∀ r ∈ l, RwG r) (h : newS l = some L) : ShfG L := by
 refine ⟨newS_ok (fun r hr' => (hr r hr').lab) h, ?_⟩
 unfold newS at h
 split at h
 ·cases h
 exact newL_good hr (fun p hp => by cases hp) h
theorem got_in {g : GotA} {G : Got} (h : g.abs = G) (h1 : U64 G.ver) (h2 : RecOk G.r) : InG g := by
 subst h
 refine ⟨h2.nx, h1, ?_, fun i hi => ?_⟩
 ·have := h2.few
  have e : g.x.r.abs.items.length = g.x.r.n := firsts_len _ _
  show g.x.r.n ≤ maxLen
  have h3 : g.x.r.abs.items.length ≤ 16 := this
  have : maxLen = 9223372036854775807 := rfl
  omega
 exact h2.key _ (List.mem_map.2 ⟨i, List.mem_range.2 hi, rfl⟩)
theorem LOk.wf {l : Lab} (h : LOk l) : LabOk l := by
 obtain ⟨h1, h2, _⟩ := lab_parts h.isl
 have hb := h.u
 unfold U64 at hb
 constructor
 ·simp [Lit.wf, IntKind.min, IntKind.max, IntKind.signed, IntKind.bits]; omega
 simp [Lit.wf, IntKind.min, IntKind.max, IntKind.signed, IntKind.bits]; omega
theorem bigs_ff {n : Nat} {f : Nat → RowA} (h : (if n ≤ 300 then bigS n f else true) = false) : n ≤ 300 ∧ ∀ i, i < n → (f i).x.r.n ≤ 40 := by
 by_cases hn : n ≤ 300
 ·rw [if_pos hn] at h
  refine ⟨hn, fun i hi => ?_⟩
  unfold bigS at h
  simp only [Bool.or_eq_false_iff] at h
  exact bigF_len (anyB_false h.1.2 i hi)
 rw [if_neg hn] at h; cases h
theorem new_wf {n : Nat} {f : Nat → RowA} (hb : n ≤ 300 ∧ ∀ i, i < n → (f i).x.r.n ≤ 40) (hwf : ∀ i, i < n → LabOk (f i).lab ∧ U64 (f i).x.r.nx.bits) (hu : ∀ l, LabOk l → U64 l.bits) : ∀ i, i < n → (f i).x.r.n ≤ 1000000 ∧ LabOk (f i).lab ∧ U64 (f i).lab.bits ∧ U64 (f i).x.r.nx.bits := fun i hi => ⟨by have := hb.2 i hi; omega, (hwf i hi).1, hu _ (hwf i hi).1, (hwf i hi).2⟩
theorem lab_u64 (l : Lab) (h : LabOk l) : U64 l.bits := by
 have := h.2
 simp [Lit.wf, IntKind.min, IntKind.max, IntKind.signed, IntKind.bits] at this
 exact ⟨by omega, by omega⟩
theorem rws_good {n : Nat} {f : Nat → RowA} (hr : ∀ i, i < n → LabOk (f i).lab ∧ U64 (f i).ver ∧ U64 (f i).x.r.nx.bits ∧ ∀ t, t < (f i).x.r.n → U64 ((f i).x.r.f t).key) : ∀ r ∈ rwsA f n, RwG r := by
 intro r hr'
 obtain ⟨i, hi, rfl⟩ := List.mem_map.1 hr'
 obtain ⟨h1, h2, h3, h4⟩ := hr i (List.mem_range.1 hi)
 refine ⟨h1, h2, h3, fun x hx => ?_⟩
 obtain ⟨t, ht, rfl⟩ := List.mem_map.1 hx
 exact h4 t (List.mem_range.1 ht)
theorem lawSteps_no (A : Option Addr) (n c : Nat) (f : Nat → RowA) (hn : n ≤ maxLen) (hrw : ∀ i, i < n → LabOk (f i).lab ∧ U64 (f i).ver ∧ U64 (f i).x.r.nx.bits ∧ ∀ t, t < (f i).x.r.n → U64 ((f i).x.r.f t).key) (J : JobA) (hJ : JobIn J) (A2 : Option Addr) (n2 c2 : Nat) (f2 : Nat → WntA) (hn2 : n2 ≤ maxLen) (hw2 : ∀ i, i < n2 → (f2 i).x.r.n ≤ maxLen ∧ LabOk (f2 i).lab ∧ U64 (f2 i).x.r.nx.bits ∧ ∀ t, t < (f2 i).x.r.n → U64 ((f2 i).x.r.f t).key) (hnew : newS (rwsA f n) = none) : Spec Tryz.prog 5 [rowsV A n c f, jobV J, .sl none A2 n2 c2 15 (fun i => wntC (f2 i))] (fun _ => .bool .tt) := by
 intro m w hm hargs
 have hmx : maxLen = 9223372036854775807 := rfl
 have hwf : ∀ i, i < n → LabOk (f i).lab ∧ U64 (f i).x.r.nx.bits := fun i hi => ⟨(hrw i hi).1, (hrw i hi).2.2.1⟩
 have S1 := bigs_s A n c f hn
 obtain ⟨bl, hbl⟩ := eqv (if n ≤ 300 then bigS n f else true)
 rw [← hbl] at S1
 refine enter hm hargs Tryz.func5 rfl (by simp [Tryz.ntmps5]) fun a0 hF => ?_
 simp only [Tryz.ntmps5, startT] at hF
 obtain ⟨B, hB⟩ := eqv (std)
 apply wp_seq
 apply rgB hB TA_ok [0, 2, 4] [4] [] hF
 ·intro A X; conv => lhs; cbv
 ·intro X; subst hB; simp only [AO, Ob.holds, BE.den] <;> and_intros <;> intros <;> trivial
 intro X0 a0 w1 hF
 refine wp_seq (wp_seq ?_)
 apply rgB hB TA_ok [29, 0, 2, 4] [4] [(1, .r fun _ => .bool (.v bl))] hF
 ·intro A X; conv => lhs; cbv
 ·intro X; subst hB; simp only [AO, Ob.holds, BE.den] <;> (and_intros <;> repeat first | trivial | rfl | exact enters7 | exact S1 | refine ⟨?_, ?_⟩ | intro h)
 intro X1 a0 w1 hF
 apply test_ok hF rfl <;> intro hb hF
 ·apply wp_seq
  apply rgB hB TA_ok [6] [] [] hF
  ·intro A X; conv => lhs; cbv
  ·intro X; subst hB; simp only [AO, Ob.holds, BE.den] <;> and_intros <;> intros <;> trivial
  intro X2 a0 w1 hF
  refine wp_ret ?_
  refine ret_sim (fn := Tryz.f5) TA_ok hF (rs := [.tmp 6]) rfl (rfl) ?_ nAt ?_
  ·simp [AO, Ob.holds]
  subst hB
  exact Sim.bool rfl
 have hb0 : bl = false := by
  have h9 : (if (if bl = true then true else decide ((20 : Int) < (n2 : Int))) = true then true else decide ((600 : Int) < (J.pn : Int))) = false := by subst hB; exact hb
  revert h9; cases bl <;> simp
 have hb1 := bigs_ff (hbl ▸ hb0)
 have hN := new_wf hb1 hwf lab_u64
 refine wp_skip ?_
 apply wp_seq
 refine wp_region_lit ?_
 apply list_preB 0 1 hB TA_ok [31, 4] [4] [] hF
 ·intro A X; conv => lhs; cbv
 ·intro X; subst hB; simp only [AO, Ob.holds, BE.den] <;> and_intros <;> intros <;> trivial
 intro X3_0 a0 w1 hF
 have SN := new_no A n c f hn hN hnew
 refine man_callM rfl rfl rfl rfl hF rfl rfl enters23 SN (fun _ _ _ => trivial) (fun b hb => by cases hb) (zl) (by intro e he; cases he) rfl rfl (fun y => noK) (fun _ _ _ _ _ _ _ _ _ _ => trivial) ?_
 intro y a0 w1 hF
 apply leB 2 hB TA_ok [2, 4, 7, 8] [4] [] hF
 ·intro A X; conv => lhs; cbv
 ·intro X; subst hB; simp only [AO, Ob.holds, BE.den] <;> and_intros <;> intros <;> trivial
 intro X3 a0 w1 hF
 refine wp_seq (wp_seq ?_)
 apply rgB hB TA_ok [36, 2, 4, 7, 8] [4] [] hF
 ·intro A X; conv => lhs; cbv
 ·intro X; subst hB; simp only [AO, Ob.holds, BE.den] <;> and_intros <;> intros <;> trivial
 intro X4 a0 w1 hF
 refine test_tt hF rfl (fun hF => ?_)
 apply wp_seq
 apply rgB hB TA_ok [6] [] [(0, .r fun _ => .bool .tt)] hF
 ·intro A X; conv => lhs; cbv
 ·intro X; subst hB; simp only [AO, Ob.holds, BE.den] <;> (and_intros <;> repeat first | trivial | rfl | exact enters24 | exact helped_s | refine ⟨?_, ?_⟩ | intro h)
 intro X5 a0 w1 hF
 refine wp_ret ?_
 refine ret_sim (fn := Tryz.f5) TA_ok hF (rs := [.tmp 6]) rfl (rfl) ?_ nAt ?_
 ·simp [AO, Ob.holds]
 subst hB
 refine Sim.bool ?_
 simp [std, sC, BE.den, canB]
theorem lawSteps_yes (A : Option Addr) (n c : Nat) (f : Nat → RowA) (hn : n ≤ maxLen) (hrw : ∀ i, i < n → LabOk (f i).lab ∧ U64 (f i).ver ∧ U64 (f i).x.r.nx.bits ∧ ∀ t, t < (f i).x.r.n → U64 ((f i).x.r.f t).key) (J : JobA) (hJ : JobIn J) (A2 : Option Addr) (n2 c2 : Nat) (f2 : Nat → WntA) (hn2 : n2 ≤ maxLen) (hw2 : ∀ i, i < n2 → (f2 i).x.r.n ≤ maxLen ∧ LabOk (f2 i).lab ∧ U64 (f2 i).x.r.nx.bits ∧ ∀ t, t < (f2 i).x.r.n → U64 ((f2 i).x.r.f t).key) {L : Shf} (hnew : newS (rwsA f n) = some L) : Spec Tryz.prog 5 [rowsV A n c f, jobV J, .sl none A2 n2 c2 15 (fun i => wntC (f2 i))] (fun _ => .bool .tt) := by
 intro m w hm hargs
 have hmx : maxLen = 9223372036854775807 := rfl
 have hwf : ∀ i, i < n → LabOk (f i).lab ∧ U64 (f i).x.r.nx.bits := fun i hi => ⟨(hrw i hi).1, (hrw i hi).2.2.1⟩
 have S1 := bigs_s A n c f hn
 obtain ⟨bl, hbl⟩ := eqv (if n ≤ 300 then bigS n f else true)
 rw [← hbl] at S1
 refine enter hm hargs Tryz.func5 rfl (by simp [Tryz.ntmps5]) fun a0 hF => ?_
 simp only [Tryz.ntmps5, startT] at hF
 obtain ⟨B, hB⟩ := eqv (std)
 apply wp_seq
 apply rgB hB TA_ok [0, 2, 4] [4] [] hF
 ·intro A X; conv => lhs; cbv
 ·intro X; subst hB; simp only [AO, Ob.holds, BE.den] <;> and_intros <;> intros <;> trivial
 intro X0 a0 w1 hF
 refine wp_seq (wp_seq ?_)
 apply rgB hB TA_ok [29, 0, 2, 4] [4] [(1, .r fun _ => .bool (.v bl))] hF
 ·intro A X; conv => lhs; cbv
 ·intro X; subst hB; simp only [AO, Ob.holds, BE.den] <;> (and_intros <;> repeat first | trivial | rfl | exact enters7 | exact S1 | refine ⟨?_, ?_⟩ | intro h)
 intro X1 a0 w1 hF
 apply test_ok hF rfl <;> intro hb hF
 ·apply wp_seq
  apply rgB hB TA_ok [6] [] [] hF
  ·intro A X; conv => lhs; cbv
  ·intro X; subst hB; simp only [AO, Ob.holds, BE.den] <;> and_intros <;> intros <;> trivial
  intro X2 a0 w1 hF
  refine wp_ret ?_
  refine ret_sim (fn := Tryz.f5) TA_ok hF (rs := [.tmp 6]) rfl (rfl) ?_ nAt ?_
  ·simp [AO, Ob.holds]
  subst hB
  exact Sim.bool rfl
 have hb0 : bl = false := by
  have h9 : (if (if bl = true then true else decide ((20 : Int) < (n2 : Int))) = true then true else decide ((600 : Int) < (J.pn : Int))) = false := by subst hB; exact hb
  revert h9; cases bl <;> simp
 have hb1 := bigs_ff (hbl ▸ hb0)
 have hN := new_wf hb1 hwf lab_u64
 refine wp_skip ?_
 apply wp_seq
 refine wp_region_lit ?_
 apply list_preB 0 1 hB TA_ok [31, 4, 2] [4] [] hF
 ·intro A X; conv => lhs; cbv
 ·intro X; subst hB; simp only [AO, Ob.holds, BE.den] <;> and_intros <;> intros <;> trivial
 intro X3_0 a0 w1 hF
 have SN := new_yes A n c f hn hN 14 hnew
 have hg0 : ShfG L := newS_good (rws_good hrw) hnew
 refine man_callM rfl rfl rfl rfl hF rfl rfl enters23 (SN) (fun _ _ _ => trivial) (fun b hb => by cases hb) (zl) (by intro e he; cases he) rfl rfl (fun y => shF w.heap.size (y.c 0) L) (fun n x m w m' w' hn _ _ h => ⟨Nat.le_trans hn h.1, h.2⟩) ?_
 intro y a0 w1 hF
 obtain ⟨sb, hsb⟩ := eqv (y.b)
 obtain ⟨bM, hbM⟩ := eqv (y.c 0)
 rw [← hsb, ← hbM] at hF
 have hbfr : w.heap.size ≤ bM := hF.kept.1
 replace hF := hF.withK (K' := shK bM L) hF.kept.2
 apply leB 2 hB TA_ok [2, 4, 7, 8] [14, 4] [] hF
 ·intro A X; conv => lhs; cbv
 ·intro X; subst hB; simp only [AO, Ob.holds, BE.den] <;> and_intros <;> intros <;> trivial
 intro X3 a0 w1 hF
 refine wp_seq (wp_seq ?_)
 apply rgB hB TA_ok [36, 2, 4, 7, 8] [14, 4] [] hF
 ·intro A X; conv => lhs; cbv
 ·intro X; subst hB; simp only [AO, Ob.holds, BE.den] <;> and_intros <;> intros <;> trivial
 intro X4 a0 w1 hF
 refine test_ff hF rfl (fun hF => ?_)
 refine wp_skip ?_
 apply wp_seq
 apply rgB hB TA_ok [2, 4, 7, 9] [14, 4, 9] [] hF
 ·intro A X; conv => lhs; cbv
 ·intro X; subst hB; simp only [AO, Ob.holds, BE.den] <;> and_intros <;> intros <;> trivial
 intro X6 a0 w1 hF
 refine wp_seq (wp_seq ?_)
 apply rgB hB TA_ok [9, 10, 2, 4, 7] [14, 4, 9] [] hF
 ·intro A X; conv => lhs; cbv
 ·intro X; subst hB; simp only [AO, Ob.holds, BE.den] <;> and_intros <;> intros <;> trivial
 intro X7 a0 w1 hF
 refine wp_block ?_
 replace hF := hF.headS (v' := .sl (some 9) none 0 0 8 (fun t => gotC zGot)) (zq0) rfl
 refine loop_preK (ι := Nat × (Nat → GotA) × Option Addr × Nat × Shf × Int) (fun p => shK bM p.2.2.2.2.1) (fun p => [(9, .sl (some 9) p.2.2.1 p.1 p.2.2.2.1 8 (fun t => gotC (p.2.1 t))), (10, .int .i64 (p.1 : Int))]) (fun p => [(14, ⟨sb, 119, [.raw (.map (some bM)), .int .i64 p.2.2.2.2.2]⟩)]) (fun p => [(9, ⟨p.2.2.1, p.1, p.2.2.2.1, 8, 63⟩)]) (fun p => p.1 ≤ 60 ∧ ShfG p.2.2.2.2.1 ∧ ∀ j, j < p.1 → InG (p.2.1 j)) (fun p => 60 - p.1) (0, fun _ => zGot, none, 0, L, 0) ⟨Nat.zero_le _, hg0, fun j hj => absurd hj (Nat.not_lt_zero _)⟩ hF ?_
 rintro ⟨i, fz, A1, c1, Lc, kc⟩ ⟨hi, hg, hal⟩ a0 w1 hF
 try dsimp only at hi
 try dsimp only at hg
 try dsimp only at hal
 replace hF := hF.withK (K' := shK bM Lc) hF.kept
 have hwo := helpN_ok hJ hal
 obtain ⟨W9, hW9⟩ := eqv ((helpN J i fz).1)
 obtain ⟨E9, hE9⟩ := eqv ((helpN J i fz).2)
 obtain ⟨rr9, hrr9⟩ := eqv (W9.r.rn)
 obtain ⟨nn9, hnn9⟩ := eqv (W9.res.items.length)
 obtain ⟨ff9, hff9⟩ := eqv (itF W9.res.items)
 have TA := Spec.wq (hnext_s J hJ A1 i c1 fz (by omega) hal) hW9 hE9 hrr9 hnn9 hff9
 rw [← hW9] at hwo
 have U10 : Spec Tryz.prog 26 [jobV J, .sl none A1 i c1 8 (fun t => gotC (fz t))] (fun x => .tup [wntV (wqB x W9 rr9 nn9 ff9), .int .i64 E9]) := Spec.wq (dnext_s J hJ ⟨A1, i, c1, fz⟩ (by show i ≤ _; omega) hal) hW9 hE9 hrr9 hnn9 hff9
 have SS9 : Spec Tryz.prog 25 [jobV J, .sl (some 9) A1 i c1 8 (fun t => gotC (fz t))] (fun x => .tup [wntV (wqB x W9 rr9 nn9 ff9), .int .i64 E9]) := TA.sim ⟨zr, Sim.recell (fun _ _ => rfl), trivial⟩
 have SS10 : Spec Tryz.prog 26 [jobV J, .sl (some 9) A1 i c1 8 (fun t => gotC (fz t))] (fun x => .tup [wntV (wqB x W9 rr9 nn9 ff9), .int .i64 E9]) := U10.sim ⟨zr, Sim.recell (fun _ _ => rfl), trivial⟩
 refine wp_seq (wp_seq ?_)
 apply rgB hB TA_ok [43, 2, 4, 7, 9, 10] [14, 4, 9] [] hF
 ·intro A X; conv => lhs; cbv
 ·intro X; subst hB; simp only [AO, Ob.holds, BE.den] <;> and_intros <;> intros <;> trivial
 intro X8 a0 w1 hF
 apply test_ok hF rfl <;> intro hb hF
 ·have h60 : i < 60 := by
   have : (i : Int) < 60 := by subst hB; simpa [std, sC] using hb
   omega
  refine wp_skip ?_
  apply wp_seq
  refine wp_block ?_
  apply wp_seq
  apply rgB hB TA_ok [2, 4, 7, 9, 10, 11, 12] [14, 4, 9, 11] [(2, .r fun x => .tup [.agg [.int .i64 W9.kind, .int .i64 W9.lab.len, .int .u64 W9.lab.bits, .int .u64 W9.ver, .int .i64 rr9.kd, .sl none (x.A 1) rr9.n (x.c 1) 2 (fun i => itC (rr9.f i)), .int .i64 rr9.nx.len, .int .u64 rr9.nx.bits, .int .u64 rr9.mrk, .int .i64 W9.res.code, .bool (.v W9.res.had), .str W9.res.val, .sl none (x.A 2) nn9 (x.c 2) 2 (fun i => itC (ff9 i)), .int .u64 W9.res.key, .bool (.v W9.res.more)], .int .i64 E9])] hF
  ·intro A X; conv => lhs; cbv
  ·intro X; subst hB; simp only [AO, Ob.holds, BE.den] <;> (and_intros <;> repeat first | trivial | rfl | exact enters25 | exact SS9 | refine ⟨?_, ?_⟩ | intro h)
  intro X10 a0 w1 hF
  apply wp_seq
  apply rgB hB TA_ok [2, 4, 7, 9, 10, 11, 12, 13, 14] [14, 4, 9, 11, 13] [(2, .r fun x => .tup [.agg [.int .i64 W9.kind, .int .i64 W9.lab.len, .int .u64 W9.lab.bits, .int .u64 W9.ver, .int .i64 rr9.kd, .sl none (x.A 1) rr9.n (x.c 1) 2 (fun i => itC (rr9.f i)), .int .i64 rr9.nx.len, .int .u64 rr9.nx.bits, .int .u64 rr9.mrk, .int .i64 W9.res.code, .bool (.v W9.res.had), .str W9.res.val, .sl none (x.A 2) nn9 (x.c 2) 2 (fun i => itC (ff9 i)), .int .u64 W9.res.key, .bool (.v W9.res.more)], .int .i64 E9])] hF
  ·intro A X; conv => lhs; cbv
  ·intro X; subst hB; simp only [AO, Ob.holds, BE.den] <;> (and_intros <;> repeat first | trivial | rfl | exact enters26 | exact SS10 | refine ⟨?_, ?_⟩ | intro h)
  intro X11 a0 w1 hF
  refine wp_seq (wp_seq ?_)
  apply rgB hB TA_ok [66, 2, 4, 7, 9, 10, 11, 12] [14, 4, 9, 11] [(2, .r fun _ => .bool .tt)] hF
  ·intro A X; conv => lhs; cbv
  ·intro X; subst hB; simp only [AO, Ob.holds, BE.den] <;> (and_intros <;> repeat first | trivial | rfl | exact enters27 | exact sameq_y (X10 2) (X11 2) W9 rr9 nn9 ff9 | refine ⟨?_, ?_⟩ | intro h)
  intro X12 a0 w1 hF
  apply test_ok hF rfl <;> intro hb hF
  ·exfalso
   subst hB; simp [std, sC, BE.den] at hb
  skip
  refine wp_skip ?_
  refine wp_seq (wp_seq ?_)
  apply rgB hB TA_ok [73, 2, 4, 7, 9, 10, 11] [14, 4, 9, 11] [] hF
  ·intro A X; conv => lhs; cbv
  ·intro X; subst hB; simp only [AO, Ob.holds, BE.den] <;> and_intros <;> intros <;> trivial
  intro X14 a0 w1 hF
  apply test_ok hF rfl <;> intro hb hF
  ·skip
   refine wp_exit ?_
   apply wp_seq
   apply rgB hB TA_ok [6] [] [(0, .r fun _ => .bool .tt)] hF
   ·intro A X; conv => lhs; cbv
   ·intro X; subst hB; simp only [AO, Ob.holds, BE.den] <;> (and_intros <;> repeat first | trivial | rfl | exact enters24 | exact helped_s | refine ⟨?_, ?_⟩ | intro h)
   intro X20 a0 w1 hF
   refine wp_ret ?_
   refine ret_sim (fn := Tryz.f5) TA_ok hF (rs := [.tmp 6]) rfl (rfl) ?_ nAt ?_
   ·simp [AO, Ob.holds]
   subst hB
   refine Sim.bool ?_
   simp [std, sC, BE.den, canB]
  skip
  refine wp_skip ?_
  refine wp_seq (wp_seq ?_)
  apply rgB hB TA_ok [77, 2, 4, 7, 9, 10, 11] [14, 4, 9, 11] [] hF
  ·intro A X; conv => lhs; cbv
  ·intro X; subst hB; simp only [AO, Ob.holds, BE.den] <;> and_intros <;> intros <;> trivial
  intro X15 a0 w1 hF
  apply test_ok hF rfl <;> intro hb hF
  ·have hin : i < n2 := by
    have : (i : Int) < (n2 : Int) := by subst hB; simpa [std, sC] using hb
    omega
   refine wp_region_lit ?_
   apply list_preB 0 5 hB TA_ok [78, 82, 9, 10, 2, 4, 7, 11] [14, 4, 9, 11] [] hF
   ·intro A X; conv => lhs; cbv
   ·intro X; subst hB; simp only [AO, Ob.holds, BE.den] <;> (and_intros <;> repeat first | trivial | rfl | exact (show (0 : Int) ≤ (i : Int) by omega) | exact (show (i : Int) < (n2 : Int) by omega) | intro h)
   intro X16_0 a0 w1 hF
   have hqe : (f2 (B.toNat (i : Int))) = f2 i := by subst hB; rw [show std.toNat (i : Int) = i from Int.toNat_natCast i]
   obtain ⟨hq1, hq2, hq3, hq4⟩ := hw2 i hin
   have hq5 := lab_u64 _ hq2
   rw [← hqe] at hq1 hq2 hq3 hq4 hq5
   have SD := do_m 14 sb bM Lc (by have := hg.ok.len; omega) kc (f2 (B.toNat (i : Int))) hq1 hq2 hq5 hq3
   obtain ⟨D1, hD1⟩ := eqv (doL Lc (WntA.abs (f2 (B.toNat (i : Int)))))
   rw [← hD1] at SD
   obtain ⟨GG1, hGG1⟩ : ∃ G : Atom → GotA, G = fun y => gotA y D1.got := ⟨_, rfl⟩
   have hGf1 : ∀ y, gotA y D1.got = GG1 y := fun y => by rw [hGG1]
   simp only [hGf1] at SD
   obtain ⟨k1, hk1⟩ := eqv ((if D1.wrote then IntKind.i64.wrap (kc + 1) else kc))
   rw [← hk1] at SD
   obtain ⟨er1, her1⟩ := eqv (D1.err)
   rw [← her1] at SD
   obtain ⟨L1, hL1⟩ := eqv (D1.L)
   rw [← hL1] at SD
   refine man_callM rfl rfl rfl rfl hF rfl rfl enters28 SD (fun _ _ h => h) (fun b hb => by cases hb; exact fun h => absurd h (Nat.not_lt.2 hbfr)) ⟨zr, Sim.agg (by repeat (first | exact trivial | refine ⟨zr, ?_⟩ | refine ⟨Sim.ff, ?_⟩ | refine ⟨zq0, ?_⟩)), trivial⟩ (by intro e he; simp only [List.mem_singleton] at he; subst he; rfl) rfl rfl (fun _ => shK bM L1) (fun _ _ _ _ _ _ _ _ _ h => h) ?_
   intro y a0 w1 hF
   obtain ⟨g1, hg1⟩ := eqv (GG1 y)
   rw [← hg1] at hF
   replace hF := hF.withK (K' := shK bM L1) hF.kept
   have hga1 : g1.abs = D1.got := by rw [hg1, ← hGf1, gotA_abs]
   have hg1 : ShfG L1 := by
    rw [hL1, hD1]
    refine (doL_good hg ⟨hq2, hq3, fun x hx => ?_⟩).1
    obtain ⟨t, ht, rfl⟩ := List.mem_map.1 hx
    exact hq4 t (List.mem_range.1 ht)
   refine wpList_nil ?_
   apply wp_seq
   refine wp_region_lit ?_
   apply list_preB 0 2 hB TA_ok [85, 86, 9, 10, 2, 4, 7] [14, 4, 9] [] hF
   ·intro A X; conv => lhs; cbv
   ·intro X; subst hB; simp only [AO, Ob.holds, BE.den] <;> and_intros <;> intros <;> trivial
   intro X17_0 a0 w1 hF
   have SD := do_m 14 sb bM L1 (by have := hg1.ok.len; omega) k1 (wqB (X10 2) W9 rr9 nn9 ff9) (by show rr9.n ≤ _; rw [hrr9]; have := hwo.r.few; show W9.r.items.length ≤ _; omega) hwo.lab.wf hwo.lab.u (by show U64 rr9.nx.bits; rw [hrr9]; exact hwo.r.nx)
   obtain ⟨D2, hD2⟩ := eqv (doL L1 (WntA.abs (wqB (X10 2) W9 rr9 nn9 ff9)))
   rw [← hD2] at SD
   obtain ⟨GG2, hGG2⟩ : ∃ G : Atom → GotA, G = fun y => gotA y D2.got := ⟨_, rfl⟩
   have hGf2 : ∀ y, gotA y D2.got = GG2 y := fun y => by rw [hGG2]
   simp only [hGf2] at SD
   obtain ⟨k2, hk2⟩ := eqv ((if D2.wrote then IntKind.i64.wrap (k1 + 1) else k1))
   rw [← hk2] at SD
   obtain ⟨er2, her2⟩ := eqv (D2.err)
   rw [← her2] at SD
   obtain ⟨L2, hL2⟩ := eqv (D2.L)
   rw [← hL2] at SD
   refine man_callM rfl rfl rfl rfl hF rfl rfl enters28 SD (fun _ _ h => h) (fun b hb => by cases hb; exact fun h => absurd h (Nat.not_lt.2 hbfr)) ⟨zr, Sim.agg (by repeat (first | exact trivial | refine ⟨zr, ?_⟩ | refine ⟨Sim.ff, ?_⟩ | refine ⟨zq0, ?_⟩)), trivial⟩ (by intro e he; simp only [List.mem_singleton] at he; subst he; rfl) rfl rfl (fun _ => shK bM L2) (fun _ _ _ _ _ _ _ _ _ h => h) ?_
   intro y a0 w1 hF
   obtain ⟨g2, hg2⟩ := eqv (GG2 y)
   rw [← hg2] at hF
   replace hF := hF.withK (K' := shK bM L2) hF.kept
   have hga2 : g2.abs = D2.got := by rw [hg2, ← hGf2, gotA_abs]
   have hgd : ShfG D2.L ∧ U64 D2.got.ver ∧ RecOk D2.got.r := by
    rw [hD2]
    have hra : rr9.abs = W9.r := by rw [hrr9, rn_abs]
    refine doL_good hg1 ⟨hwo.lab.wf, ?_, ?_⟩
    ·show U64 rr9.abs.next.bits
     rw [hra]; exact hwo.r.nx
    show ∀ x ∈ rr9.abs.items, U64 x.key
    rw [hra]; exact hwo.r.key
   have hgi : InG g2 := got_in hga2 hgd.2.1 hgd.2.2
   have hg2 : ShfG L2 := by rw [hL2]; exact hgd.1
   apply leB 3 hB TA_ok [2, 4, 7, 9, 10, 15, 16] [14, 4, 9, 15] [] hF
   ·intro A X; conv => lhs; cbv
   ·intro X; subst hB; simp only [AO, Ob.holds, BE.den] <;> and_intros <;> intros <;> trivial
   intro X17 a0 w1 hF
   refine wp_seq (wp_seq ?_)
   apply rgB hB TA_ok [91, 2, 4, 7, 9, 10, 15] [14, 4, 9, 15] [] hF
   ·intro A X; conv => lhs; cbv
   ·intro X; subst hB; simp only [AO, Ob.holds, BE.den] <;> and_intros <;> intros <;> trivial
   intro X18 a0 w1 hF
   apply test_ok hF rfl <;> intro hb hF
   ·skip
    refine wp_exit ?_
    apply wp_seq
    apply rgB hB TA_ok [6] [] [(0, .r fun _ => .bool .tt)] hF
    ·intro A X; conv => lhs; cbv
    ·intro X; subst hB; simp only [AO, Ob.holds, BE.den] <;> (and_intros <;> repeat first | trivial | rfl | exact enters24 | exact helped_s | refine ⟨?_, ?_⟩ | intro h)
    intro X20 a0 w1 hF
    refine wp_ret ?_
    refine ret_sim (fn := Tryz.f5) TA_ok hF (rs := [.tmp 6]) rfl (rfl) ?_ nAt ?_
    ·simp [AO, Ob.holds]
    subst hB
    refine Sim.bool ?_
    simp [std, sC, BE.den, canB]
   skip
   refine wp_skip ?_
   apply rgB hB TA_ok [9, 10, 2, 4, 7] [14, 4, 9] [] hF
   ·intro A X; conv => lhs; cbv
   ·intro X; subst hB; simp only [AO, Ob.holds, BE.den] <;> (and_intros <;> repeat first | trivial | rfl | exact (show i + 1 ≤ maxLen by omega) | exact (show (i + 1) * 80 ≤ 140737488355328 by omega) | intro h)
   intro X19 a0 w1 hF
   replace hF := hF.headS (v' := .sl (some 9) ((X19 3).A 0) (B.nadd i 1) ((X19 3).c 0) 8 (fun t => gotC (if t = i then g2 else fz t))) (Sim.resl rfl (fun t ht => by
    subst hB
    have ht2 : t < i + 1 := ht
    show appC i (fun t => gotC (fz t)) (chunk 8 (gotC g2)) t = _
    unfold appC
    split
    ·rw [if_neg (by omega)]
    have : t = i := by omega
    subst this
    rw [if_pos rfl]
    simp [chunk])) rfl
   apply rgB hB TA_ok [9, 10, 2, 4, 7] [14, 4, 9] [] hF
   ·intro A X; conv => lhs; cbv
   ·intro X; subst hB; simp only [AO, Ob.holds, BE.den] <;> and_intros <;> intros <;> trivial
   intro X9 a0 w1 hF
   have e : B.arith .add .i64 (i : Int) 1 = ((i + 1 : Nat) : Int) := by subst hB; exact wrap_succ (n := 2000) (by omega) (by omega)
   refine ⟨(i + 1, fun t => if t = i then g2 else fz t, _, _, L2, k2), ⟨by simp only; omega, hg2, fun j hj => ?_⟩, by simp only; omega, by rw [← e, show i + 1 = B.nadd i 1 by subst hB; rfl]; exact hF⟩
   by_cases hji : j = i
   ·simp only [if_pos hji]; exact hgi
   simp only [if_neg hji]; exact hal j (by have h9 : j < i + 1 := hj; omega)
  skip
  refine wp_skip ?_
  apply wp_seq
  refine wp_region_lit ?_
  apply list_preB 0 2 hB TA_ok [85, 86, 9, 10, 2, 4, 7] [14, 4, 9] [] hF
  ·intro A X; conv => lhs; cbv
  ·intro X; subst hB; simp only [AO, Ob.holds, BE.den] <;> and_intros <;> intros <;> trivial
  intro X17_0 a0 w1 hF
  have SD := do_m 14 sb bM Lc (by have := hg.ok.len; omega) kc (wqB (X10 2) W9 rr9 nn9 ff9) (by show rr9.n ≤ _; rw [hrr9]; have := hwo.r.few; show W9.r.items.length ≤ _; omega) hwo.lab.wf hwo.lab.u (by show U64 rr9.nx.bits; rw [hrr9]; exact hwo.r.nx)
  obtain ⟨D2, hD2⟩ := eqv (doL Lc (WntA.abs (wqB (X10 2) W9 rr9 nn9 ff9)))
  rw [← hD2] at SD
  obtain ⟨GG2, hGG2⟩ : ∃ G : Atom → GotA, G = fun y => gotA y D2.got := ⟨_, rfl⟩
  have hGf2 : ∀ y, gotA y D2.got = GG2 y := fun y => by rw [hGG2]
  simp only [hGf2] at SD
  obtain ⟨k2, hk2⟩ := eqv ((if D2.wrote then IntKind.i64.wrap (kc + 1) else kc))
  rw [← hk2] at SD
  obtain ⟨er2, her2⟩ := eqv (D2.err)
  rw [← her2] at SD
  obtain ⟨L2, hL2⟩ := eqv (D2.L)
  rw [← hL2] at SD
  refine man_callM rfl rfl rfl rfl hF rfl rfl enters28 SD (fun _ _ h => h) (fun b hb => by cases hb; exact fun h => absurd h (Nat.not_lt.2 hbfr)) ⟨zr, Sim.agg (by repeat (first | exact trivial | refine ⟨zr, ?_⟩ | refine ⟨Sim.ff, ?_⟩ | refine ⟨zq0, ?_⟩)), trivial⟩ (by intro e he; simp only [List.mem_singleton] at he; subst he; rfl) rfl rfl (fun _ => shK bM L2) (fun _ _ _ _ _ _ _ _ _ h => h) ?_
  intro y a0 w1 hF
  obtain ⟨g2, hg2⟩ := eqv (GG2 y)
  rw [← hg2] at hF
  replace hF := hF.withK (K' := shK bM L2) hF.kept
  have hga2 : g2.abs = D2.got := by rw [hg2, ← hGf2, gotA_abs]
  have hgd : ShfG D2.L ∧ U64 D2.got.ver ∧ RecOk D2.got.r := by
   rw [hD2]
   have hra : rr9.abs = W9.r := by rw [hrr9, rn_abs]
   refine doL_good hg ⟨hwo.lab.wf, ?_, ?_⟩
   ·show U64 rr9.abs.next.bits
    rw [hra]; exact hwo.r.nx
   show ∀ x ∈ rr9.abs.items, U64 x.key
   rw [hra]; exact hwo.r.key
  have hgi : InG g2 := got_in hga2 hgd.2.1 hgd.2.2
  have hg2 : ShfG L2 := by rw [hL2]; exact hgd.1
  apply leB 3 hB TA_ok [2, 4, 7, 9, 10, 15, 16] [14, 4, 9, 15] [] hF
  ·intro A X; conv => lhs; cbv
  ·intro X; subst hB; simp only [AO, Ob.holds, BE.den] <;> and_intros <;> intros <;> trivial
  intro X17 a0 w1 hF
  refine wp_seq (wp_seq ?_)
  apply rgB hB TA_ok [91, 2, 4, 7, 9, 10, 15] [14, 4, 9, 15] [] hF
  ·intro A X; conv => lhs; cbv
  ·intro X; subst hB; simp only [AO, Ob.holds, BE.den] <;> and_intros <;> intros <;> trivial
  intro X18 a0 w1 hF
  apply test_ok hF rfl <;> intro hb hF
  ·skip
   refine wp_exit ?_
   apply wp_seq
   apply rgB hB TA_ok [6] [] [(0, .r fun _ => .bool .tt)] hF
   ·intro A X; conv => lhs; cbv
   ·intro X; subst hB; simp only [AO, Ob.holds, BE.den] <;> (and_intros <;> repeat first | trivial | rfl | exact enters24 | exact helped_s | refine ⟨?_, ?_⟩ | intro h)
   intro X20 a0 w1 hF
   refine wp_ret ?_
   refine ret_sim (fn := Tryz.f5) TA_ok hF (rs := [.tmp 6]) rfl (rfl) ?_ nAt ?_
   ·simp [AO, Ob.holds]
   subst hB
   refine Sim.bool ?_
   simp [std, sC, BE.den, canB]
  skip
  refine wp_skip ?_
  apply rgB hB TA_ok [9, 10, 2, 4, 7] [14, 4, 9] [] hF
  ·intro A X; conv => lhs; cbv
  ·intro X; subst hB; simp only [AO, Ob.holds, BE.den] <;> (and_intros <;> repeat first | trivial | rfl | exact (show i + 1 ≤ maxLen by omega) | exact (show (i + 1) * 80 ≤ 140737488355328 by omega) | intro h)
  intro X19 a0 w1 hF
  replace hF := hF.headS (v' := .sl (some 9) ((X19 3).A 0) (B.nadd i 1) ((X19 3).c 0) 8 (fun t => gotC (if t = i then g2 else fz t))) (Sim.resl rfl (fun t ht => by
   subst hB
   have ht2 : t < i + 1 := ht
   show appC i (fun t => gotC (fz t)) (chunk 8 (gotC g2)) t = _
   unfold appC
   split
   ·rw [if_neg (by omega)]
   have : t = i := by omega
   subst this
   rw [if_pos rfl]
   simp [chunk])) rfl
  apply rgB hB TA_ok [9, 10, 2, 4, 7] [14, 4, 9] [] hF
  ·intro A X; conv => lhs; cbv
  ·intro X; subst hB; simp only [AO, Ob.holds, BE.den] <;> and_intros <;> intros <;> trivial
  intro X9 a0 w1 hF
  have e : B.arith .add .i64 (i : Int) 1 = ((i + 1 : Nat) : Int) := by subst hB; exact wrap_succ (n := 2000) (by omega) (by omega)
  refine ⟨(i + 1, fun t => if t = i then g2 else fz t, _, _, L2, k2), ⟨by simp only; omega, hg2, fun j hj => ?_⟩, by simp only; omega, by rw [← e, show i + 1 = B.nadd i 1 by subst hB; rfl]; exact hF⟩
  by_cases hji : j = i
  ·simp only [if_pos hji]; exact hgi
  simp only [if_neg hji]; exact hal j (by have h9 : j < i + 1 := hj; omega)
 skip
 refine wp_exit ?_
 apply wp_seq
 apply rgB hB TA_ok [6] [] [(0, .r fun _ => .bool .tt)] hF
 ·intro A X; conv => lhs; cbv
 ·intro X; subst hB; simp only [AO, Ob.holds, BE.den] <;> (and_intros <;> repeat first | trivial | rfl | exact enters24 | exact helped_s | refine ⟨?_, ?_⟩ | intro h)
 intro X20 a0 w1 hF
 refine wp_ret ?_
 refine ret_sim (fn := Tryz.f5) TA_ok hF (rs := [.tmp 6]) rfl (rfl) ?_ nAt ?_
 ·simp [AO, Ob.holds]
 subst hB
 refine Sim.bool ?_
 simp [std, sC, BE.den, canB]
end Go.Proofs.YtikkeibmjppboaaGreat.Sym
namespace Go.Proofs.YtikkeibmjppboaaGreat
open Go Go.RowKit
theorem walkHelpSteps (W : World) (v0 v1 v2 : Value) (i0 : Sym.InRow W v0) (i1 : Sym.InJob W v1) (i2 : Sym.InWnts W v2) : Calls Tryz.prog 5 #[v0, v1, v2] W fun e w' => e = .returned (.bool true) ∧ Below W.heap.size W w' := by
 obtain ⟨A, n, c, f, rfl, h0, hn, hf⟩ := i0
 obtain ⟨J, rfl, h1, hJ⟩ := i1
 obtain ⟨A2, n2, c2, f2, rfl, h2, hn2, hf2⟩ := i2
 have hrw : ∀ i, i < n → Sym.LabOk (f i).lab ∧ U64 (f i).ver ∧ U64 (f i).x.r.nx.bits ∧ ∀ t, t < (f i).x.r.n → U64 ((f i).x.r.f t).key := fun i hi => by
  obtain ⟨_, _, a, b, c, d⟩ := hf i hi
  exact ⟨a, c, b.u64, d⟩
 have hw2 : ∀ i, i < n2 → (f2 i).x.r.n ≤ maxLen ∧ Sym.LabOk (f2 i).lab ∧ U64 (f2 i).x.r.nx.bits ∧ ∀ t, t < (f2 i).x.r.n → U64 ((f2 i).x.r.f t).key := fun i hi => by
  obtain ⟨_, a, b, c, d⟩ := hf2 i hi
  exact ⟨a, b, c.u64, d⟩
 have S : Sym.Spec Tryz.prog 5 [Sym.rowsV A n c f, Sym.jobV J, Sym.wntsV A2 n2 c2 f2] (fun _ => .bool .tt) := by
  cases hnew : newS (Sym.rwsA f n) with
  | none => exact Sym.lawSteps_no A n c f hn hrw J hJ A2 n2 c2 f2 hn2 hw2 hnew
  | some L => exact Sym.lawSteps_yes A n c f hn hrw J hJ A2 n2 c2 f2 hn2 hw2 hnew
 refine (S (fun _ _ => False) W (fun _ _ h => h.elim) (fun v hv => ?_)).mono ?_
 ·simp only [List.mem_cons, List.not_mem_nil, or_false] at hv
  rcases hv with rfl | rfl | rfl
  ·exact h0
  ·exact h1
  exact h2
 rintro e w' ⟨x, rfl, _, hb⟩
 exact ⟨rfl, hb⟩
end Go.Proofs.YtikkeibmjppboaaGreat
