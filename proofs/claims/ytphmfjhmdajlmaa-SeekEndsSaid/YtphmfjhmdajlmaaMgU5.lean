/-
  SymNx2, SymNx3, SymSk5, PlSeekOk, SymRun26, SymEx26, PlTree, PlDir, PlEnds, PlSeekEnd, SymMin, SymL26E, WalkSeekEnds: put together by a program of mine (a claim may have 60 files at most). Conditions: none.
-/
import Derived.WalkKit
import Derived.WalkLawsBesides
import Derived.WalkSpells
import Derived.Lib.Hide
import Derived.Deep.QuietTactic
import Derived.BigQuiet
import Derived.Deep.LoopGhost
import Derived.Deep.DeepCutAuto
import Derived.Deep.RegionLaw
import Derived.Lib.Overlaps
import Derived.Laws.CopyOwn
import Derived.IntWalk
import Derived.ProofKit
import Derived.OpenShut
import Derived.ShutString
import Derived.ChangeOld
import Derived.Deep.Slices
import Derived.Test.YtphmfjhmdajlmaaProg
import Derived.Orders
import Derived.OrdersHeld
import Derived.Defers
import Derived.Recover
import Derived.Lib.BitFns
import Derived.ChangeKeysEq
import Derived.Test.YtphmfjhmdajlmaaChecked
import Derived.Lib.BufferWrite
import Derived.Maps.OwnSet
import Derived.Maps.RangeWalk
import Derived.Maps.Ext
import Derived.DeepKeys4
import Derived.LoopN
import Derived.Shelf.SlSortCmp.WholeK
import Derived.Shelf.SlSortCmp.NoneTotal
import Derived.Deep.RegionHeld3
import Derived.Ground.SlsfProg
import Derived.Shelf.SlGeneric
import Derived.Test.YtphmfjhmdajlmaaMgU1
import Derived.Test.YtphmfjhmdajlmaaMgU2
import Derived.Test.YtphmfjhmdajlmaaMgU3
import Derived.Test.YtphmfjhmdajlmaaMgU4
set_option linter.unusedVariables false
set_option linter.unusedSimpArgs false
set_option maxRecDepth 100000
set_option maxHeartbeats 1600000
namespace Go.Proofs.Ytphmfjhmdajlmaa.Sym
open Go Go.RowKit
theorem enters56 : Enters Try.prog 56 := fun _ _ => by kernel_rfl
theorem nx2_no0 (Q q0 : WntA) (e : Int) (b8 b9 b11 br : Nat) (J : JobA) (A : Option Addr) (c : Nat) (p : Pst) (hz : p.n = 0) : SpecU Try.prog 56 .returning .returning .nili [.ptr 8 b8 0, .ptr 11 b11 0, .ptr 9 b9 0] [(8, ⟨b8, 43, wntC q0⟩), (11, ⟨b11, 109, [.ptr 32 br 0]⟩), (9, ⟨b9, 30, [.int .i64 e]⟩), (32, ⟨br, 111, runC J A c p⟩)] (fun _ => ⟨.tup [], [(8, wntC q0), (11, [.ptr 32 br 0]), (9, [.int .i64 e]), (32, runC J A c p)], []⟩) := by
 intro m w hm hargs hpre hx
 refine enterRec .no hm hpre hargs hx Try.func56 (by exact rfl) (by exact rfl) (by exact rfl) (by exact rfl) (by exact rfl) (by simp [Try.ntmps56]) (by simp [Try.ntmps56]) fun a0 hF => ?_
 simp only [Try.ntmps56, startT, St.put] at hF
 obtain ⟨B, hB⟩ := eqv std
 refine wp_block (wp_seq (rg hB TA_ok [8, 6, 0, 1, 2] [8, 11, 9, 32] [] hF fun X3 a0 w1 hF => ?_))
 refine test_tt hF rfl (fun hF => ?_)
 refine rg hB TA_ok [0, 1, 2] [8, 11, 9, 32] [] hF fun X4 a0 w1 hF => ?_
 refine wp_seq (rg hB TA_ok [18, 0, 2] [8, 11, 9, 32] [] hF fun X8 a0 w1 hF => ?_)
 apply test_ok hF rfl <;> intro hb hF
 ·exfalso
  have ht : 0 < p.n := by
   have : (0 : Int) < (p.n : Int) := by subst hB; simpa [std, sC] using hb
   omega
  omega
 skip
 refine wp_skip ((rx hB TA_ok hF nAt [] (hs := ?_)).2)
 subst hB; exact ⟨rfl, ⟨_, rfl, zl⟩, rfl, ⟨_, rfl, zl⟩, rfl, ⟨_, rfl, zl⟩, rfl, ⟨_, rfl, zl⟩, trivial⟩
theorem nx2_no1 (Q q0 : WntA) (e : Int) (b8 b9 b11 br : Nat) (J : JobA) (A : Option Addr) (c : Nat) (p : Pst) (hz : 0 < p.n) : SpecU Try.prog 56 .returning .returning .nili [.ptr 8 b8 0, .ptr 11 b11 0, .ptr 9 b9 0] [(8, ⟨b8, 43, wntC q0⟩), (11, ⟨b11, 109, [.ptr 32 br 0]⟩), (9, ⟨b9, 30, [.int .i64 e]⟩), (32, ⟨br, 111, runC J A c p⟩)] (fun _ => ⟨.tup [], [(8, [.int .i64 0, .int .i64 0, .int .u64 0, .int .u64 0, .int .i64 0, .sl none none 0 0 2 (fun _ => []), .int .i64 0, .int .u64 0, .int .u64 0, .int .i64 0, .bool .ff, .str ⟨#[]⟩, .sl none none 0 0 2 (fun _ => []), .int .u64 0, .bool .ff]), (11, [.ptr 32 br 0]), (9, [.int .i64 5]), (32, runC J A c p)], []⟩) := by
 intro m w hm hargs hpre hx
 refine enterRec .no hm hpre hargs hx Try.func56 (by exact rfl) (by exact rfl) (by exact rfl) (by exact rfl) (by exact rfl) (by simp [Try.ntmps56]) (by simp [Try.ntmps56]) fun a0 hF => ?_
 simp only [Try.ntmps56, startT, St.put] at hF
 obtain ⟨B, hB⟩ := eqv std
 refine wp_block (wp_seq (rg hB TA_ok [8, 6, 0, 1, 2] [8, 11, 9, 32] [] hF fun X3 a0 w1 hF => ?_))
 refine test_tt hF rfl (fun hF => ?_)
 refine rg hB TA_ok [0, 1, 2] [8, 11, 9, 32] [] hF fun X4 a0 w1 hF => ?_
 refine wp_seq (rg hB TA_ok [18, 0, 2] [8, 11, 9, 32] [] hF fun X8 a0 w1 hF => ?_)
 apply test_ok hF rfl <;> intro hb hF
 ·skip
  refine rg hB TA_ok [] [8, 11, 9, 32] [] hF fun X9 a0 w1 hF => ?_
  refine (rx hB TA_ok hF nAt [] (hs := ?_)).2
  subst hB; exact ⟨rfl, ⟨_, rfl, zl⟩, rfl, ⟨_, rfl, zl⟩, rfl, ⟨_, rfl, zl⟩, rfl, ⟨_, rfl, zl⟩, trivial⟩
 exfalso
 have ht : ¬ 0 < p.n := by
  have : ¬ (0 : Int) < (p.n : Int) := by subst hB; simpa [std, sC] using hb
  omega
 exact ht hz
theorem nx2_yes0 (Q q0 : WntA) (e : Int) (b8 b9 b11 br : Nat) (J : JobA) (A : Option Addr) (c : Nat) (p : Pst) (hz : p.n = 0) : SpecU Try.prog 56 (.panicking [{ v := .iface 43 (wntV Q).den, recovered := false }]) (.panicking [{ v := .iface 43 (wntV Q).den, recovered := true }]) (.ifc 43 (wntV Q)) [.ptr 8 b8 0, .ptr 11 b11 0, .ptr 9 b9 0] [(8, ⟨b8, 43, wntC q0⟩), (11, ⟨b11, 109, [.ptr 32 br 0]⟩), (9, ⟨b9, 30, [.int .i64 e]⟩), (32, ⟨br, 111, runC J A c p⟩)] (fun _ => ⟨.tup [], [(8, wntC Q), (11, [.ptr 32 br 0]), (9, [.int .i64 e]), (32, runC J A c p)], []⟩) := by
 intro m w hm hargs hpre hx
 refine enterRec (.yes 43 (wntV Q)) hm hpre hargs hx Try.func56 (by exact rfl) (by exact rfl) (by exact rfl) (by exact rfl) (by exact rfl) (by simp [Try.ntmps56]) (by simp [Try.ntmps56]) fun a0 hF => ?_
 simp only [Try.ntmps56, startT, St.put] at hF
 obtain ⟨B, hB⟩ := eqv std
 refine wp_block (wp_seq (rg hB TA_ok [8, 6, 0, 1, 2] [8, 11, 9, 32] [] hF fun X3 a0 w1 hF => ?_))
 refine test_ff hF rfl (fun hF => ?_)
 obtain ⟨dd, hu, hni⟩ := (lookT_ok TA_ok (t := 43) rfl).conc rfl
 refine wp_seq (wp_region_lit (man_tassert rfl rfl rfl rfl hF (Nat.le_of_ble_eq_true rfl) rfl hu hni ?_))
 intro a0 hF
 refine lnd 1 hB TA_ok [10, 11, 0, 1, 2] [8, 11, 9, 32] [] hF fun X5 a0 w1 hF => ?_
 refine test_tt hF rfl (fun hF => ?_)
 refine wp_seq (rg hB TA_ok [0, 1, 2, 4] [8, 11, 9, 32, 4] [] hF fun X6 a0 w1 hF => ?_)
 refine rg hB TA_ok [0, 1, 2] [8, 11, 9, 32] [] hF fun X7 a0 w1 hF => ?_
 refine wp_seq (rg hB TA_ok [18, 0, 2] [8, 11, 9, 32] [] hF fun X8 a0 w1 hF => ?_)
 apply test_ok hF rfl <;> intro hb hF
 ·exfalso
  have ht : 0 < p.n := by
   have : (0 : Int) < (p.n : Int) := by subst hB; simpa [std, sC] using hb
   omega
  omega
 skip
 refine wp_skip ((rx hB TA_ok hF nAt [] (hs := ?_)).2)
 subst hB; exact ⟨rfl, ⟨_, rfl, zl⟩, rfl, ⟨_, rfl, zl⟩, rfl, ⟨_, rfl, zl⟩, rfl, ⟨_, rfl, zl⟩, trivial⟩
theorem nx2_yes1 (Q q0 : WntA) (e : Int) (b8 b9 b11 br : Nat) (J : JobA) (A : Option Addr) (c : Nat) (p : Pst) (hz : 0 < p.n) : SpecU Try.prog 56 (.panicking [{ v := .iface 43 (wntV Q).den, recovered := false }]) (.panicking [{ v := .iface 43 (wntV Q).den, recovered := true }]) (.ifc 43 (wntV Q)) [.ptr 8 b8 0, .ptr 11 b11 0, .ptr 9 b9 0] [(8, ⟨b8, 43, wntC q0⟩), (11, ⟨b11, 109, [.ptr 32 br 0]⟩), (9, ⟨b9, 30, [.int .i64 e]⟩), (32, ⟨br, 111, runC J A c p⟩)] (fun _ => ⟨.tup [], [(8, [.int .i64 0, .int .i64 0, .int .u64 0, .int .u64 0, .int .i64 0, .sl none none 0 0 2 (fun _ => []), .int .i64 0, .int .u64 0, .int .u64 0, .int .i64 0, .bool .ff, .str ⟨#[]⟩, .sl none none 0 0 2 (fun _ => []), .int .u64 0, .bool .ff]), (11, [.ptr 32 br 0]), (9, [.int .i64 5]), (32, runC J A c p)], []⟩) := by
 intro m w hm hargs hpre hx
 refine enterRec (.yes 43 (wntV Q)) hm hpre hargs hx Try.func56 (by exact rfl) (by exact rfl) (by exact rfl) (by exact rfl) (by exact rfl) (by simp [Try.ntmps56]) (by simp [Try.ntmps56]) fun a0 hF => ?_
 simp only [Try.ntmps56, startT, St.put] at hF
 obtain ⟨B, hB⟩ := eqv std
 refine wp_block (wp_seq (rg hB TA_ok [8, 6, 0, 1, 2] [8, 11, 9, 32] [] hF fun X3 a0 w1 hF => ?_))
 refine test_ff hF rfl (fun hF => ?_)
 obtain ⟨dd, hu, hni⟩ := (lookT_ok TA_ok (t := 43) rfl).conc rfl
 refine wp_seq (wp_region_lit (man_tassert rfl rfl rfl rfl hF (Nat.le_of_ble_eq_true rfl) rfl hu hni ?_))
 intro a0 hF
 refine lnd 1 hB TA_ok [10, 11, 0, 1, 2] [8, 11, 9, 32] [] hF fun X5 a0 w1 hF => ?_
 refine test_tt hF rfl (fun hF => ?_)
 refine wp_seq (rg hB TA_ok [0, 1, 2, 4] [8, 11, 9, 32, 4] [] hF fun X6 a0 w1 hF => ?_)
 refine rg hB TA_ok [0, 1, 2] [8, 11, 9, 32] [] hF fun X7 a0 w1 hF => ?_
 refine wp_seq (rg hB TA_ok [18, 0, 2] [8, 11, 9, 32] [] hF fun X8 a0 w1 hF => ?_)
 apply test_ok hF rfl <;> intro hb hF
 ·skip
  refine rg hB TA_ok [] [8, 11, 9, 32] [] hF fun X9 a0 w1 hF => ?_
  refine (rx hB TA_ok hF nAt [] (hs := ?_)).2
  subst hB; exact ⟨rfl, ⟨_, rfl, zl⟩, rfl, ⟨_, rfl, zl⟩, rfl, ⟨_, rfl, zl⟩, rfl, ⟨_, rfl, zl⟩, trivial⟩
 exfalso
 have ht : ¬ 0 < p.n := by
  have : ¬ (0 : Int) < (p.n : Int) := by subst hB; simpa [std, sC] using hb
  omega
 exact ht hz
theorem sim_can {v v' : AV} (h : Sim v v') : Sim (can v) (can v') :=
 ⟨by rw [can_den, can_den]; exact h.1, by rw [can_one, can_one]; exact h.2.1, fun m w hv => (can_ok _).1 (h.2.2 _ _ ((can_ok _).2 hv))⟩
def dN (b8 b11 b9 : Nat) : Deferred := { target := .fn (.func 56) (AV.denL [.ptr 8 b8 0, .ptr 11 b11 0, .ptr 9 b9 0]).toArray, args := (AV.denL []).toArray }
def nxOut (r : Rs Rsl) : Atom → Out := fun x => .ret ⟨.tup [wntV (wqA x (toldM r).1), .int .i64 (toldM r).2], [], []⟩
theorem dptrs_ok {m : Nat → Nat → Prop} {w : World} {b8 b11 b9 : Nat} : ∀ v ∈ ([] : List AV) ++ [.ptr 8 b8 0, .ptr 11 b11 0, .ptr 9 b9 0], Ok m w v := by
 intro v hv
 simp only [List.nil_append, List.mem_cons, List.not_mem_nil, or_false] at hv
 rcases hv with rfl | rfl | rfl <;> exact .ptr _ _ _
section
variable {m : Nat → Nat → Prop} {w0 w : World} {a : Act} {b8 b9 b11 br : Nat} {q0 Q : WntA} {J : JobA} {A : Option Addr} {c : Nat} {p : Pst} {r : Rs Rsl}
theorem nx_thr {x : Atom} {wq : Wq} (h : Fits ⟨m, w0, ats [], [dN b8 b11 b9], noK⟩ ⟨49, [(8, .ptr 8 b8 0), (9, .ptr 9 b9 0)], [], [(8, ⟨b8, 43, wntC q0⟩), (9, ⟨b9, 30, [.int .i64 0]⟩), (11, ⟨b11, 109, [.ptr 32 br 0]⟩), (32, ⟨br, 111, runC J A c p⟩)], []⟩ a w) (hok : Ok (St.m ⟨49, [(8, .ptr 8 b8 0), (9, .ptr 9 b9 0)], [], [(8, ⟨b8, 43, wntC q0⟩), (9, ⟨b9, 30, [.int .i64 0]⟩), (11, ⟨b11, 109, [.ptr 32 br 0]⟩), (32, ⟨br, 111, runC J A c p⟩)], []⟩ ⟨m, w0, ats [], [], noK⟩) w (wntV Q)) (hQ : Q = wqA x wq) (hr : r = .stop wq p) :
  bodyPostD Try.prog Try.f36 (OPost m w0 [] (nxOut r)) (.panic [{ v := .iface 43 (wntV Q).den, recovered := false }]) a w := by
 subst hr
 show Leaves _ _ a.tmps _ a.defers (.panicking _) w
 by_cases hz : p.n = 0
 ·have ht : toldM (.stop wq p) = (wq, 0) := by simp [toldM, hz]
  refine leave_u (C := ⟨m, w0, ats [], [], noK⟩) (l := []) (r := [.ptr 8 b8 0, .ptr 11 b11 0, .ptr 9 b9 0]) (ds := []) (x := (.ifc 43 (wntV Q))) h (by simp) enters56 (nx2_yes0 Q q0 0 b8 b9 b11 br J A c p hz) dptrs_ok (.ifc _ _ hok) (by intro e he; simp only [List.mem_cons, List.not_mem_nil, or_false] at he; rcases he with rfl | rfl | rfl | rfl <;> rfl) rfl fun w2 h2 => ?_
  show Leaves _ _ a.tmps _ [] .returning w2
  refine leave_end (a := { tmps := a.tmps, defers := [] }) TA_ok h2 (rs := [.cell 8 43, .cell 9 30]) rfl (by conv => lhs; cbv) ?_ x rfl [] ?_ trivial trivial
  ·simp [AO, Ob.holds]
  rw [ht, hQ]; exact zr
 have hz : 0 < p.n := by omega
 have ht : toldM (.stop wq p) = (zWq, 5) := by simp [toldM, hz]
 refine leave_u (C := ⟨m, w0, ats [], [], noK⟩) (l := []) (r := [.ptr 8 b8 0, .ptr 11 b11 0, .ptr 9 b9 0]) (ds := []) (x := (.ifc 43 (wntV Q))) h (by simp) enters56 (nx2_yes1 Q q0 0 b8 b9 b11 br J A c p hz) dptrs_ok (.ifc _ _ hok) (by intro e he; simp only [List.mem_cons, List.not_mem_nil, or_false] at he; rcases he with rfl | rfl | rfl | rfl <;> rfl) rfl fun w2 h2 => ?_
 show Leaves _ _ a.tmps _ [] .returning w2
 refine leave_end (a := { tmps := a.tmps, defers := [] }) TA_ok h2 (rs := [.cell 8 43, .cell 9 30]) rfl (by conv => lhs; cbv) ?_ ⟨0, fun _ => none, fun _ => 0, fun _ => .empty⟩ rfl [] ?_ trivial trivial
 ·simp [AO, Ob.holds]
 rw [ht]; exact Sim.tup ⟨Sim.agg ⟨zr, zr, zr, zr, zr, zq0, zr, zr, zr, zr, zr, zr, zq0, zr, zr, trivial⟩, zr, trivial⟩
theorem nx_ret {x : Atom} {r1 : Rsl} (h : Fits ⟨m, w0, ats [], [dN b8 b11 b9], noK⟩ ⟨49, [(8, .ptr 8 b8 0), (9, .ptr 9 b9 0)], [], [(8, ⟨b8, 43, wntC q0⟩), (9, ⟨b9, 30, [.int .i64 0]⟩), (11, ⟨b11, 109, [.ptr 32 br 0]⟩), (32, ⟨br, 111, runC J A c p⟩)], []⟩ a w) (hq : Sim (wntV q0) (wntV (wqA x ⟨4, ⟨0, 0⟩, 0, zeroRec, r1⟩))) (hr : r = .ok r1 p) :
  bodyPostD Try.prog Try.f36 (OPost m w0 [] (nxOut r)) .ret a w := by
 subst hr
 show Leaves _ _ a.tmps _ a.defers .returning w
 by_cases hz : p.n = 0
 ·have ht : toldM (.ok r1 p) = (⟨4, ⟨0, 0⟩, 0, zeroRec, r1⟩, 0) := by simp [toldM, hz]
  refine leave_u (C := ⟨m, w0, ats [], [], noK⟩) (l := []) (r := [.ptr 8 b8 0, .ptr 11 b11 0, .ptr 9 b9 0]) (ds := []) (x := .nili) h (by simp) enters56 (nx2_no0 q0 q0 0 b8 b9 b11 br J A c p hz) dptrs_ok .nili (by intro e he; simp only [List.mem_cons, List.not_mem_nil, or_false] at he; rcases he with rfl | rfl | rfl | rfl <;> rfl) rfl fun w2 h2 => ?_
  show Leaves _ _ a.tmps _ [] .returning w2
  refine leave_end (a := { tmps := a.tmps, defers := [] }) TA_ok h2 (rs := [.cell 8 43, .cell 9 30]) rfl (by conv => lhs; cbv) ?_ x rfl [] ?_ trivial trivial
  ·simp [AO, Ob.holds]
  rw [ht]; exact Sim.tup ⟨sim_can hq, zr, trivial⟩
 have hz : 0 < p.n := by omega
 have ht : toldM (.ok r1 p) = (zWq, 5) := by simp [toldM, hz]
 refine leave_u (C := ⟨m, w0, ats [], [], noK⟩) (l := []) (r := [.ptr 8 b8 0, .ptr 11 b11 0, .ptr 9 b9 0]) (ds := []) (x := .nili) h (by simp) enters56 (nx2_no1 q0 q0 0 b8 b9 b11 br J A c p hz) dptrs_ok .nili (by intro e he; simp only [List.mem_cons, List.not_mem_nil, or_false] at he; rcases he with rfl | rfl | rfl | rfl <;> rfl) rfl fun w2 h2 => ?_
 show Leaves _ _ a.tmps _ [] .returning w2
 refine leave_end (a := { tmps := a.tmps, defers := [] }) TA_ok h2 (rs := [.cell 8 43, .cell 9 30]) rfl (by conv => lhs; cbv) ?_ ⟨0, fun _ => none, fun _ => 0, fun _ => .empty⟩ rfl [] ?_ trivial trivial
 ·simp [AO, Ob.holds]
 rw [ht]; exact Sim.tup ⟨Sim.agg ⟨zr, zr, zr, zr, zr, zq0, zr, zr, zr, zr, zr, zr, zq0, zr, zr, trivial⟩, zr, trivial⟩
end
theorem next_d (F : FuncId) (r : Rs Rsl) (J : JobA) (hJ : JobIn J) (A : Option Addr) (n c : Nat) (f : Nat → GotA) (hn : n ≤ 900000) (hin : ∀ j, j < n → InG (f j)) (kG : Option Nat) (kA : Option Addr) (kn kc : Nat) (kf : Nat → Int) (hdo : (isJobB J && anyF kn kf J.kind && allGot n f) = true → ∀ k0 b, RunA F k0 b (J.less n) A c (pst0 n f) [] r) (hen : Enters Try.prog F) : SpecO Try.prog 36 [jobV J, gotsV A n c f, .sl kG kA kn kc 1 (fun i => [.int .i64 (kf i)]), .fn F [] []] [] (fun x => .ret ⟨.tup [wntV (wqA x (nextR (isJobB J && anyF kn kf J.kind && allGot n f) r).1), .int .i64 (nextR (isJobB J && anyF kn kf J.kind && allGot n f) r).2], [], []⟩) := by
 intro m w hm hargs hpre
 have S1 := isJ_s J hJ.lab
 have S2 : Spec Try.prog 54 [.sl kG kA kn kc 1 (fun i => [.int .i64 (kf i)]), .int .i64 J.kind] (fun _ => .bool (.v (anyF kn kf J.kind))) := (coni_s kA kn kc kf J.kind).sim ⟨Sim.recell (fun _ _ => rfl), zr, trivial⟩
 have S3 := ctG_s A n c f hin
 obtain ⟨okb, hokb⟩ := eqv ((isJobB J && anyF kn kf J.kind && allGot n f))
 rw [← hokb] at hdo ⊢
 obtain ⟨ij, hij⟩ := eqv (isJobB J)
 rw [← hij] at S1 hokb
 obtain ⟨ck, hck⟩ := eqv (anyF kn kf J.kind)
 rw [← hck] at S2 hokb
 obtain ⟨ag, hag⟩ := eqv (allGot n f)
 rw [← hag] at S3 hokb
 refine enterD hm hpre hargs Try.func36 rfl (by simp [Try.ntmps36]) fun a0 hF => ?_
 simp only [Try.ntmps36, startT] at hF
 obtain ⟨B, hB⟩ := eqv std
 refine wp_seq (rg hB TA_ok [1, 2, 3, 4, 8, 9] [4, 8, 9] [] hF fun X0 a0 w1 hF => ?_)
 refine wp_seq (rg hB TA_ok [1, 2, 3, 4, 8, 9, 10] [4, 8, 9] [] hF fun X1 a0 w1 hF => ?_)
 have O1 := S1
 have O2 := S2
 have O3 := S3
 refine wp_seq (wp_seq (rg hB TA_ok [26, 1, 3, 4, 8, 9] [4, 8, 9] [(1, .r fun _ => .bool (.v ij)), (7, .r fun _ => .bool (.v ck)), (13, .r fun _ => .bool (.v (!ag)))] hF fun X2 a0 w1 hF => ?_))
 apply test_ok hF rfl <;> intro hb hF
 ·have hf : okb = false := by
   have h9 : (if (if (!ij) = true then true else !ck) = true then true else !ag) = true := by subst hB; exact hb
   rw [hokb]; cases ij <;> cases ck <;> cases ag <;> first | rfl | cases h9
  refine wp_seq (rg hB TA_ok [8, 9] [8, 9] [] hF fun X3 a0 w1 hF => ?_)
  refine wp_ret (ret_d (fn := Try.f36) TA_ok hF (rs := [.cell 8 43, .cell 9 30]) rfl (by conv => lhs; cbv) ?_ ⟨0, fun _ => none, fun _ => 0, fun _ => .empty⟩ rfl [] ?_ trivial trivial)
  ·subst hB; simp [AO, Ob.holds]
  rw [hf]; subst hB; exact Sim.tup ⟨Sim.agg ⟨zr, zr, zr, zr, zr, zq0, zr, zr, zr, zr, zr, zr, zq0, zr, zr, trivial⟩, zr, trivial⟩
 have hf : okb = true := by
  have h9 : (if (if (!ij) = true then true else !ck) = true then true else !ag) = false := by subst hB; exact hb
  rw [hokb]; cases ij <;> cases ck <;> cases ag <;> first | rfl | cases h9
 have hjb : isJobB J = true := by
  rw [← hij]; rw [hokb] at hf; revert hf; cases ij <;> simp
 have hjo := job_ok hJ hjb hn
 have e1 : IntKind.i64.wrap (J.budget - (n : Int)) = (J.less n).budget := wrap_in (by have := hjo.lo; show -9223372036854775808 ≤ (J.less n).budget; omega) (by have := hjo.hi; show (J.less n).budget ≤ 9223372036854775807; omega)
 refine wp_skip (wp_seq (rg hB TA_ok [1, 3, 8, 9, 11] [32, 8, 9, 11] [] hF fun X4 a0 w1 hF => ?_))
 refine wp_seq (rg hB TA_ok [3, 8, 9, 11] [32, 8, 9, 11] [] hF fun X5 a0 w1 hF => ?_)
 replace hF := hF.memS (cells' := runC (J.less n) A c (pst0 n f)) (by subst hB; exact ⟨zr, zr, zr, zr, zr, zr, zr, zr, zr, zr, zr, zr, zr, zr, Sim.of_eq (congrArg (AV.int .i64) e1), zr, zr, Sim.ff, zr, zr, zr, zr, trivial⟩)
 refine wp_seq (wp_region_lit (lpr 0 1 hB TA_ok [44, 3, 8, 9, 11] [32, 8, 9, 11] [] hF fun X6_0 a0 w1 hF => ?_))
 refine man_defer rfl rfl rfl rfl rfl hF rfl rfl ?_
 intro a0 hF
 replace hF : Fits ⟨m, w, ats [], [dN (X0 1).b (X4 5).b (X0 2).b], noK⟩ _ _ _ := hF
 refine wpList_nil (wp_seq (wp_region_lit (lpr 0 2 hB TA_ok [45, 46, 8, 9] [32, 8, 9, 11] [] hF fun X7_0 a0 w1 hF => ?_)))
 have SD := hdo hf 32 (X4 4).b
 rcases hmd : r with ⟨r1, p1⟩ | ⟨w1_, p1⟩
 ·obtain ⟨rl, hrl⟩ : ∃ y_, y_ = r1.items.length := ⟨_, rfl⟩
  obtain ⟨rf, hrf⟩ := eqv (itF r1.items)
  refine man_outT rfl rfl rfl rfl hF rfl rfl hen (SD.ok' hmd hrl hrf) (by subst hB; exact zl) (mem1 rfl) rfl rfl ?_
  intro x w' a0 hF
  apply leB 3 hB TA_ok [8, 9] [8, 9, 11, 32] [] hF
  ·intro A X; conv => lhs; cbv
  ·intro X; subst hB; first | exact trivial | (repeat (first | exact trivial | refine ⟨rfl, ?_⟩))
  intro X7 a0 w1 hF
  obtain ⟨q0, hq0⟩ := eqv ((⟨4, ⟨0, 0⟩, 0, zRA, ⟨r1.code, r1.had, r1.val, x.A 2, rl, x.c 2, rf, r1.key, r1.more⟩⟩ : WntA))
  replace hF := hF.memS (cells' := wntC q0) (by rw [hq0]; subst hB; exact ⟨zr, zr, zr, zr, zr, zq0, zr, zr, zr, zr, zr, zr, zr, zr, zr, trivial⟩)
  refine wp_ret ?_
  rw [show nextR okb (.ok r1 p1) = toldM (.ok r1 p1) by rw [hf]; rfl]
  exact nx_ret (x := ⟨0, fun i => if i = 1 then none else x.A i, fun i => if i = 1 then 0 else x.c i, fun _ => .empty⟩) (q0 := q0) (J := J.less n) (A := x.A 0) (c := x.c 0) (p := p1) hF (by rw [hq0, hrl, hrf]; exact Sim.agg ⟨zr, zr, zr, zr, zr, zq0, zr, zr, zr, zr, zr, zr, zr, zr, zr, trivial⟩) rfl
 refine man_outT rfl rfl rfl rfl hF rfl rfl hen (SD.stop hmd) (by subst hB; exact zl) (mem1 rfl) rfl rfl ?_
 intro x w' hF hok
 replace hF := hF.keep [8, 9] [8, 9, 11, 32]
 replace hF := hF.memS (cells' := wntC ⟨0, ⟨0, 0⟩, 0, zRA, zRes⟩) (by exact ⟨zr, zr, zr, zr, zr, zq0, zr, zr, zr, zr, Sim.ff, zr, zq0, zr, Sim.ff, trivial⟩)
 rw [show nextR okb (.stop w1_ p1) = toldM (.stop w1_ p1) by rw [hf]; rfl]
 refine nx_thr (x := x) (wq := w1_) (q0 := ⟨0, ⟨0, 0⟩, 0, zRA, zRes⟩) (J := J.less n) (A := x.A 0) (c := x.c 0) (p := p1) hF (hok.mono fun b o u h1 h2 => ⟨h1, fun hh => h2 ?_⟩) rfl rfl
 refine m_sub (fun _ _ h => h) ?_ rfl hh
 intro y hy
 simp only [List.mem_cons, List.not_mem_nil, or_false] at hy
 rcases hy with rfl | rfl | rfl | rfl <;> first | exact ⟨8, _, rfl, rfl⟩ | exact ⟨9, _, rfl, rfl⟩ | exact ⟨11, _, rfl, rfl⟩ | exact ⟨32, _, rfl, rfl⟩
theorem enters38 : Enters Try.prog 38 := fun _ _ => by kernel_rfl
theorem looks_m0 (b : Nat) (J : JobA) (hJ : JobOk J) (A : Option Addr) (c : Nat) (p : Pst) (hp : PstOk p) (hn : p.n ≤ 1000000) (hh : J.how = 1 ∨ J.how = 2) : RunS 38 0 b J A c p [] (rslZ) (lokM J.bucket J.budget J.how J.key (p.n + 1) p) := by
 intro m w hm hargs hpre
 refine enX 28 hm hpre hargs Try.func38 fun B hB a0 hF => ?_
 refine wp_seq (rg hB TA_ok [0, 2] [0, 2] [] hF fun X0 a0 w1 hF => ?_)
 apply wp_seq
 rcases (sek_m 0 b J hJ A c p hp hn J.key hJ.key (p.n + 1) (Nat.lt_succ_self _) hh).two (fro_sek _ _ _ _ _ _) hp hn with ⟨w1, p1, hm1, O1⟩ | ⟨s1, p1, hm1, hs1, hp1, hn1, S1⟩
 ·refine stp 6 hB TA_ok [6, 11] [0] [] hF O1 fun _ _ _ _ hF hk => ?_
  exact thm (P := Try.prog) (fn := Try.f38) (q := p1) hF hk (by simp [lokM, Rs.bind, hm1])
 have hs := sek_ok hJ.key hp hm1
 have SF := find_s s1.g.x hs.ok.ra J.key
 obtain ⟨fv, hfv⟩ := eqv (finV s1.g.x J.key)
 rw [← hfv] at SF
 obtain ⟨fb, hfb⟩ := eqv (finB s1.g.x J.key)
 rw [← hfb] at SF
 have O1 := S1
 refine rg hB TA_ok [0, 2, 3] [0, 2, 3] [(6, rc J (sptV s1) p1)] hF fun X1 a0 w1 hF => ?_
 have O1 := SF
 refine wp_seq (drg hB TA_ok [2, 4, 5] [0, 2] [(8, .r fun _ => .tup [.str fv, .bool (.v fb)])] hF fun X2 a0 w1 hF => ?_)
 refine wp_seq (rg hB TA_ok [2] [0, 2] [] hF fun X3 a0 w1 hF => ?_)
 exact wp_ret ((rmm hB TA_ok hF (v := (⟨0, fb, fv, [], 0, false⟩ : Rsl)) (q := p1) ((X1 6).A 0) ((X1 6).c 0) (by simp [lokM, Rs.bind, hm1, ← hfv, ← hfb])).1)
theorem looks_m (k0 b : Nat) (J : JobA) (hJ : JobOk J) (A : Option Addr) (c : Nat) (p : Pst) (hp : PstOk p) (hn : p.n ≤ 1000000) (hh : J.how = 1 ∨ J.how = 2) : RunS 38 k0 b J A c p [] (rslZ) (lokM J.bucket J.budget J.how J.key (p.n + 1) p) := RunS.re (looks_m0 b J hJ A c p hp hn hh) (by repeat (first | exact trivial | refine ⟨zr, ?_⟩))
def seekN (J : JobA) (n : Nat) (f : Nat → GotA) : Wq × Int := nextR (isJobB J && (decide (J.kind = 3)) && allGot n f) (lokM J.bucket (J.budget - n) J.how J.key (n + 1) (pst0 n f))
theorem lok_items {bk k how key : Int} {n : Nat} {p q : Pst} {a : Rsl} (h : lokM bk k how key n p = .ok a q) : a.items = [] := by
 unfold lokM at h
 cases hs : sekM bk k how key n p with
 | ok v p1 => rw [hs] at h; injection h with h _; rw [← h]
 | stop w p1 => rw [hs] at h; cases h
theorem job_how {J : JobA} (h : isJobB J = true) : J.how = 1 ∨ J.how = 2 := by
 unfold isJobB btw at h
 simp only [Bool.and_eq_true, decide_eq_true_eq] at h
 omega
theorem snext_s (J : JobA) (hJ : JobIn J) (A : Option Addr) (n c : Nat) (f : Nat → GotA) (hn : n ≤ 900000) (hin : ∀ j, j < n → InG (f j)) : Spec Try.prog 18 [jobV J, gotsV A n c f] (fun x => .tup [wntV (wqA x (seekN J n f).1), .int .i64 (seekN J n f).2]) := by
 intro m w hm hargs
 have hk : anyF 1 (fun _ => 3) J.kind = (decide (J.kind = 3)) := by rw [anyF1]; simp only [dcomm J.kind] <;> rfl
 have hdo : (isJobB J && anyF 1 (fun _ => 3) J.kind && allGot n f) = true → ∀ k0 b, RunA 38 k0 b (J.less n) A c (pst0 n f) [] (lokM J.bucket (J.budget - n) J.how J.key (n + 1) (pst0 n f)) := by
  intro hok k0 b
  rw [hk] at hok
  simp only [Bool.and_eq_true] at hok
  obtain ⟨⟨h1, h2⟩, h3⟩ := hok
  exact (looks_m k0 b (J.less n) (job_ok hJ h1 hn) A c (pst0 n f) (pst_ok hin h3) (by show n ≤ 1000000; omega) (by have h := job_how h1; exact h)).a fun a q h => lok_items h
 have S : ∀ kG kA cells, cells 0 = [.int .i64 3] → Spec Try.prog 36 [jobV J, gotsV A n c f, .sl kG kA 1 1 1 cells, .fn 38 [] []] (fun x => .tup [wntV (wqA x (seekN J n f).1), .int .i64 (seekN J n f).2]) := by
  intro kG kA cells h10
  unfold seekN
  rw [← hk]
  refine (((next_d 38 _ J hJ A n c f hn hin kG kA 1 1 (fun _ => 3) hdo enters38).x (fun _ => rfl)).pure (fun _ => rfl)).sim ⟨zr, zr, Sim.recell (fun i hi => ?_), zr, trivial⟩
  match i, hi with
  | 0, _ => rw [h10] <;> rfl
 obtain ⟨W9, hW9⟩ := eqv ((seekN J n f).1)
 obtain ⟨E9, hE9⟩ := eqv ((seekN J n f).2)
 obtain ⟨rr9, hrr9⟩ := eqv (W9.r.rn)
 obtain ⟨nn9, hnn9⟩ := eqv (W9.res.items.length)
 obtain ⟨ff9, hff9⟩ := eqv (itF W9.res.items)
 have T9 := Spec.wq (S none none (fun i => [.int .i64 ((fun _ => 3) i)]) rfl) hW9 hE9 hrr9 hnn9 hff9
 have T : ∀ kG kA cells, cells 0 = [.int .i64 3] → Spec Try.prog 36 [jobV J, gotsV A n c f, .sl kG kA 1 1 1 cells, .fn 38 [] []] (fun x => .tup [wntV (wqB x W9 rr9 nn9 ff9), .int .i64 E9]) := fun kG kA cells h10 => Spec.wq (S kG kA cells h10) hW9 hE9 hrr9 hnn9 hff9
 refine en 12 hm hargs Try.func18 fun B hB a0 hF => ?_
 refine wp_seq (rg hB TA_ok [1, 2, 4] [2, 4] [] hF fun X0 a0 w1 hF => ?_)
 apply wp_seq
 refine rg hB TA_ok [4, 5] [4, 8] [(3, .r fun x => .tup [.agg [.int .i64 W9.kind, .int .i64 W9.lab.len, .int .u64 W9.lab.bits, .int .u64 W9.ver, .int .i64 rr9.kd, .sl none (x.A 1) rr9.n (x.c 1) 2 (fun i => itC (rr9.f i)), .int .i64 rr9.nx.len, .int .u64 rr9.nx.bits, .int .u64 rr9.mrk, .int .i64 W9.res.code, .bool (.v W9.res.had), .str W9.res.val, .sl none (x.A 2) nn9 (x.c 2) 2 (fun i => itC (ff9 i)), .int .u64 W9.res.key, .bool (.v W9.res.more)], .int .i64 E9])] hF (hob := by intro X; subst hB; simp only [AO, Ob.holds, BE.den] <;> and_intros <;> repeat first | trivial | rfl | exact T _ _ _ rfl | exact (fun _ _ => by kernel_rfl) | refine ⟨?_, ?_⟩ | intro h | exact Int.le_refl _ | decide | omega) fun X1 a0 w1 hF => ?_
 refine wp_ret ((rsi hB TA_ok hF ((X1 3)) (he := ?_)))
 subst hB
 rw [← hW9, ← hE9]
 unfold wqA
 rw [← hrr9, ← hnn9, ← hff9]
 exact zr
theorem rec_leaf : RecOk leafR := ⟨⟨by decide, by decide⟩, by decide, fun x hx => by cases hx⟩
theorem wok_lin {bk k key : Int} (hk : U64 key) : ∀ (n : Nat) (l : Lab) (p : Pst), LOk l → PstOk p → WOkR (linM bk k key n l p)
 | 0, l, p, _, _ => wok_z
 | n + 1, l, p, hl, hp => by
  unfold linM
  refine wok_bind (wok_get hl) fun g p1 e1 => ?_
  have hp1 := hp.suf ((fro_get _ _ _).of e1)
  refine wok_ite (fun _ => trivial) fun _ => wok_ite (fun _ => wok_bind (wok_fns hl (hp.get e1) hp1) fun _ p2 e2 => wok_lin hk n l p2 hl (hp1.suf ((fro_fns _ _ _ _ _ _).of e2))) fun _ => wok_ite (fun _ => wok_lin hk n _ p1 (ofV_ok hk _) hp1) fun _ => wok_ite (fun _ => wok_bind (wok_thw hl hp1) fun _ p2 e2 => wok_lin hk n _ p2 lok_z (hp1.suf ((fro_thw _ _ _ _ _).of e2))) fun _ => wok_ite (fun _ => wok_bind (wok_cas lok_z rec_leaf) fun _ p2 e2 => wok_lin hk n _ p2 lok_z (hp1.suf ((fro_cas _ _ _ _ _).of e2))) fun _ => wok_lin hk n _ p1 lok_z hp1
theorem wok_lft {bk k : Int} {n : Nat} {l : Lab} {p : Pst} (hl : LOk l) (hp : PstOk p) : WOkR (lftM bk k n l p) := by
 unfold lftM
 refine wok_ite (fun _ => wok_bind (wok_get hl.par) fun q p1 e1 => wok_ite (fun _ => ?_) fun _ => trivial) fun _ => trivial
 exact wok_bind (wok_thw hl (hp.suf ((fro_get _ _ _).of e1))) fun _ _ _ => trivial
theorem wok_bin {bk k key : Int} (hk : U64 key) : ∀ (n : Nat) (lo hi : Int) (p : Pst), PstOk p → WOkR (binM bk k key n lo hi p)
 | 0, lo, hi, p, _ => wok_z
 | n + 1, lo, hi, p, hp => by
  unfold binM
  refine wok_ite (fun _ => ?_) fun _ => wok_lin hk _ _ p lok_z hp
  have hl := ofV_ok hk ((lo + hi) / 2)
  refine wok_bind (wok_get hl) fun g p1 e1 => ?_
  have hp1 := hp.suf ((fro_get _ _ _).of e1)
  refine wok_ite (fun _ => trivial) fun _ => wok_ite (fun _ => wok_bin hk n _ _ p1 hp1) fun _ => wok_ite (fun _ => wok_bind (wok_fns hl (hp.get e1) hp1) fun _ p2 e2 => wok_bin hk n _ _ p2 (hp1.suf ((fro_fns _ _ _ _ _ _).of e2))) fun _ => wok_ite (fun _ => wok_bind (wok_lft hl hp1) fun b p2 e2 => ?_) fun _ => wok_bin hk n _ _ p1 hp1
  have hp2 := hp1.suf ((fro_lft _ _ _ _ _).of e2)
  exact wok_ite (fun _ => wok_bin hk n _ _ p2 hp2) fun _ => wok_bin hk n _ _ p2 hp2
theorem wok_sek {bk k how key : Int} (hk : U64 key) {n : Nat} {p : Pst} (hp : PstOk p) : WOkR (sekM bk k how key n p) := wok_ite (fun _ => wok_lin hk _ _ _ lok_z hp) fun _ => wok_bin hk _ _ _ _ hp
theorem wok_lok {bk k how key : Int} (hk : U64 key) {n : Nat} {p : Pst} (hp : PstOk p) : WOkR (lokM bk k how key n p) := wok_bind (wok_sek hk hp) fun _ _ _ => trivial
theorem seek_ok {J : JobA} (hJ : JobIn J) : NxOk (seekN J) where
 er := fun n f => by
  unfold seekN
  rw [← nextR_er, er_lok]
  rfl
 ok := fun n f hin => by
  unfold seekN nextR
  split
  ·rename_i h
   simp only [Bool.and_eq_true] at h
   exact wok_told (wok_lok hJ.key (pst_ok hin h.2))
  exact wok_z
theorem enters20 : Enters Try.prog 20 := fun _ _ => by kernel_rfl
theorem run26_m0 (b bM : Nat) (J : JobA) (hJ : JobIn J) (L : Shf) (hL : ShfG L) (k : Int) : SpecM Try.prog 20 [.ptr 0 b 0, jobV J] [(0, ⟨b, 78, [.raw (.map (some bM)), .int .i64 k]⟩)] (some bM) (shK bM L) (fun y => ⟨.tup [rslV y (runQ (seekN J) 3000 2001 [] L k).res, .int .i64 (if (runQ (seekN J) 3000 2001 [] L k).st = 2 then ((runQ (seekN J) 3000 2001 [] L k).n : Int) else 0), .bool (.v (decide ((runQ (seekN J) 3000 2001 [] L k).st = 2)))], [(0, [.raw (.map (some bM)), .int .i64 (runQ (seekN J) 3000 2001 [] L k).k])], []⟩) (fun _ _ => shK bM (runQ (seekN J) 3000 2001 [] L k).L) := by
 intro m w hm hargs hpre hI
 have hmx : maxLen = 9223372036854775807 := rfl
 have hmp := shK_map hI
 have hNx : NxOk (seekN J) := seek_ok hJ
 obtain ⟨RQ, hRQ⟩ := eqv (runQ (seekN J) 3000 2001 [] L k)
 rw [← hRQ] at ⊢
 refine enM (bo := some bM) 47 hm hpre hI hargs Try.func20 fun B hB a0 hF => ?_
 refine wp_seq (rg hB TA_ok [0, 3, 4] [0, 3, 4] [] hF fun X0 a0 w1 hF => ?_)
 refine wp_seq (rg hB TA_ok [0, 3, 4, 7] [0, 3, 4, 7, 45] [] hF fun X1 a0 w1 hF => ?_)
 refine wp_seq (wp_seq (rg hB TA_ok [7, 8, 0, 3, 4] [0, 3, 4, 7, 45] [] hF fun X2 a0 w1 hF => ?_))
 replace hF := hF.headS (v' := .sl (some 7) none 0 0 8 (fun t => gotC (gotOf zeroGot))) (zq0) rfl
 refine wp_block (loop_preK (ι := Nat × (Nat → GotA) × Option Addr × Nat × Shf × Int × List Got) (fun q => shK bM q.2.2.2.2.1) (fun q => [(7, .sl (some 7) q.2.2.1 q.1 q.2.2.2.1 8 (fun t => gotC (q.2.1 t))), (8, .int .i64 (q.1 : Int))]) (fun q => [(0, ⟨b, 78, [.raw (.map (some bM)), .int .i64 q.2.2.2.2.2.1]⟩)]) (fun q => [(7, ⟨q.2.2.1, q.1, q.2.2.2.1, 8, 37⟩)]) (fun q => q.1 ≤ 2001 ∧ ShfG q.2.2.2.2.1 ∧ (∀ j, j < q.1 → InG (q.2.1 j)) ∧ q.2.2.2.2.2.2.length = q.1 ∧ Lies q.2.2.2.2.2.2 q.2.1 ∧ RQ = runQ (seekN J) 3000 (2001 - q.1) q.2.2.2.2.2.2 q.2.2.2.2.1 q.2.2.2.2.2.1) (fun q => 2001 - q.1) (0, fun _ => gotOf zeroGot, none, 0, L, k, []) ⟨Nat.zero_le _, hL, fun j hj => absurd hj (Nat.not_lt_zero _), rfl, Lies.nil, hRQ⟩ hF ?_)
 rintro ⟨i, fz, A1, c1, Lc, kc, gs⟩ ⟨hi, hg, hal, hgl, hlie, hrun⟩ a0 w1 hF
 try dsimp only at hi
 try dsimp only at hg
 try dsimp only at hal
 try dsimp only at hgl
 try dsimp only at hlie
 try dsimp only at hrun
 replace hF := hF.withK (K' := shK bM Lc) hF.kept
 refine wp_seq (wp_seq (rg hB TA_ok [14, 0, 3, 4, 7, 8] [0, 3, 4, 7, 45] [] hF fun X3 a0 w1 hF => ?_))
 apply test_ok hF rfl <;> intro hb hF
 ·have hi0 : i < 2001 := by
   have : (i : Int) ≤ 2000 := by subst hB; simpa [std, sC] using hb
   omega
  obtain ⟨m0, hm0⟩ : ∃ m, 2001 - i = m + 1 := ⟨2000 - i, by omega⟩
  rw [hm0] at hrun
  have hwo := hNx.ok i fz hal
  obtain ⟨W9, hW9⟩ := eqv ((seekN J i fz).1)
  obtain ⟨E9, hE9⟩ := eqv ((seekN J i fz).2)
  obtain ⟨rr9, hrr9⟩ := eqv (W9.r.rn)
  obtain ⟨nn9, hnn9⟩ := eqv (W9.res.items.length)
  obtain ⟨ff9, hff9⟩ := eqv (itF W9.res.items)
  have T9 := Spec.wq (snext_s J hJ A1 i c1 fz (by omega) hal) hW9 hE9 hrr9 hnn9 hff9
  rw [← hW9] at hwo
  have S9 : Spec Try.prog 18 [jobV J, .sl (some 7) A1 i c1 8 (fun t => gotC (fz t))] (fun x => .tup [wntV (wqB x W9 rr9 nn9 ff9), .int .i64 E9]) := T9.sim ⟨zr, Sim.recell (fun _ _ => rfl), trivial⟩
  have hq9 : seekN J gs.length (ansF gs) = (W9, E9) := by
   rw [← hlie.next hNx.er, hgl, hW9, hE9]
  have O1 := S9
  refine wp_skip (wp_seq (wp_block (wp_seq (rg hB TA_ok [0, 3, 4, 7, 8, 9, 10] [0, 3, 4, 7, 9, 45] [(2, .r fun x => .tup [.agg [.int .i64 W9.kind, .int .i64 W9.lab.len, .int .u64 W9.lab.bits, .int .u64 W9.ver, .int .i64 rr9.kd, .sl none (x.A 1) rr9.n (x.c 1) 2 (fun i => itC (rr9.f i)), .int .i64 rr9.nx.len, .int .u64 rr9.nx.bits, .int .u64 rr9.mrk, .int .i64 W9.res.code, .bool (.v W9.res.had), .str W9.res.val, .sl none (x.A 2) nn9 (x.c 2) 2 (fun i => itC (ff9 i)), .int .u64 W9.res.key, .bool (.v W9.res.more)], .int .i64 E9])] hF fun X5 a0 w1 hF => ?_))))
  refine wp_seq (wp_seq (rg hB TA_ok [24, 0, 3, 4, 7, 8, 9] [0, 3, 4, 7, 9, 45] [] hF fun X6 a0 w1 hF => ?_))
  apply test_ok hF rfl <;> intro hb hF
  ·have he : E9 ≠ 0 := by subst hB; simpa [std, sC] using hb
   have hq : RQ = ⟨1, zRsl, gs.length, 0, Lc, kc⟩ := by rw [hrun]; exact run_no hq9 he
   refine wp_seq (rg hB TA_ok [4, 5, 6] [0, 4, 7, 45] [] hF fun X7 a0 w1 hF => ?_)
   refine wp_ret ((rm hB TA_ok hF (⟨0, fun _ => none, fun _ => 0, fun _ => .empty⟩) [] (hmap := ?_) (he := ?_) (hs := ?_) (hJ := ?_)).1)
   ·intro b hb; cases hb; exact ⟨hmp, fun m h => shK_map h⟩
   ·rw [hq]; subst hB
    exact Sim.tup ⟨Sim.agg ⟨zr, zr, zr, zq0, zr, zr, trivial⟩, zr, zr, trivial⟩
   ·rw [hq]; subst hB; exact ⟨rfl, ⟨_, rfl, zl⟩, trivial⟩
   rw [hq]; exact fun _ _ h => h
  have he : E9 = 0 := by subst hB; simpa [std, sC] using hb
  rw [he] at hq9
  refine wp_skip (wp_seq (wp_seq (rg hB TA_ok [28, 0, 3, 4, 7, 8, 9] [0, 3, 4, 7, 9, 45] [] hF fun X8 a0 w1 hF => ?_)))
  apply test_ok hF rfl <;> intro hb hF
  ·have hk4 : W9.kind = 4 := by subst hB; simpa [std, sC] using hb
   have hq : RQ = ⟨2, W9.res, gs.length, 0, Lc, kc⟩ := by rw [hrun]; exact run_end hq9 hk4
   refine wp_seq (rg hB TA_ok [4, 5, 6] [0, 4, 7, 45] [] hF fun X9 a0 w1 hF => ?_)
   refine wp_ret ((rm hB TA_ok hF ((X5 2)) [] (hmap := ?_) (he := ?_) (hs := ?_) (hJ := ?_)).1)
   ·intro b hb; cases hb; exact ⟨hmp, fun m h => shK_map h⟩
   ·rw [hq]; subst hB
    rw [show nn9 = W9.res.items.length from hnn9, show ff9 = itF W9.res.items from hff9]
    exact Sim.tup ⟨zr, Sim.of_int (by show ((i : Nat) : Int) = ((gs.length : Nat) : Int); rw [hgl]), zr, trivial⟩
   ·rw [hq]; subst hB; exact ⟨rfl, ⟨_, rfl, zl⟩, trivial⟩
   rw [hq]; exact fun _ _ h => h
  have hk4 : ¬ W9.kind = 4 := by subst hB; simpa [std, sC] using hb
  refine wp_skip (wp_seq (wp_region_lit (lpr 0 2 hB TA_ok [34, 35, 7, 0, 8, 3, 4] [0, 4, 3, 7] [] hF fun X10_0 a0 w1 hF => ?_)))
  have SD := do_m 0 b bM Lc (by have := hg.ok.len; omega) kc (wqB (X5 2) W9 rr9 nn9 ff9) (by show rr9.n ≤ _; rw [hrr9]; have := hwo.r.few; show W9.r.items.length ≤ _; omega) hwo.lab.wf hwo.lab.u (by show U64 rr9.nx.bits; rw [hrr9]; exact hwo.r.nx)
  obtain ⟨D1, hD1⟩ := eqv (doL Lc (WntA.abs (wqB (X5 2) W9 rr9 nn9 ff9)))
  rw [← hD1] at SD
  obtain ⟨GG1, hGG1⟩ : ∃ G : Atom → GotA, G = fun y => gotA y D1.got := ⟨_, rfl⟩
  have hGf1 : ∀ y, gotA y D1.got = GG1 y := fun y => by rw [hGG1]
  simp only [hGf1] at SD
  obtain ⟨k1, hk1⟩ := eqv ((if D1.wrote then IntKind.i64.wrap (kc + 1) else kc))
  rw [← hk1] at SD
  obtain ⟨er1, her1⟩ := eqv (D1.err)
  rw [← her1] at SD
  obtain ⟨L1, hL1⟩ := eqv (D1.L)
  rw [← hL1] at SD
  refine man_callM rfl rfl rfl rfl hF rfl rfl enters10 SD (fun _ _ h => h) (fun b hb => by cases hb; exact fun _ => .inr rfl) ⟨zr, Sim.agg (by repeat (first | exact trivial | refine ⟨zr, ?_⟩ | refine ⟨Sim.ff, ?_⟩ | refine ⟨zq0, ?_⟩)), trivial⟩ (by intro e he; simp only [List.mem_singleton] at he; subst he; rfl) rfl rfl (fun _ => shK bM L1) (fun _ _ _ _ _ _ _ _ _ h => h) ?_
  intro y a0 w1 hF
  obtain ⟨g1, hg1⟩ := eqv (GG1 y)
  rw [← hg1] at hF
  replace hF := hF.withK (K' := shK bM L1) hF.kept
  have hga1 : g1.abs = D1.got := by rw [hg1, ← hGf1, gotA_abs]
  have hra : rr9.abs = W9.r := by rw [hrr9, rn_abs]
  have hD1w : D1 = doL Lc (wntOf W9) := by
   rw [hD1]
   unfold WntA.abs wqB wntOf
   simp only [hra]
  have hgd : ShfG D1.L ∧ U64 D1.got.ver ∧ RecOk D1.got.r := by
   rw [hD1w]
   exact doL_good hg ⟨hwo.lab.wf, hwo.r.nx, hwo.r.key⟩
  have hgi : InG g1 := got_in hga1 hgd.2.1 hgd.2.2
  have hg1s : ShfG L1 := by rw [hL1]; exact hgd.1
  have hge : g1.er = gotOf D1.got := by rw [hg1, ← hGf1]; rfl
  refine lnd 3 hB TA_ok [0, 3, 4, 7, 8, 11, 12] [0, 3, 4, 7, 11, 45] [] hF fun X10 a0 w1 hF => ?_
  refine wp_seq (wp_seq (rg hB TA_ok [40, 0, 3, 4, 7, 8, 11] [0, 3, 4, 7, 11, 45] [] hF fun X11 a0 w1 hF => ?_))
  apply test_ok hF rfl <;> intro hb hF
  ·have he1 : er1 ≠ 0 := by subst hB; simpa [std, sC] using hb
   have hq : RQ = ⟨4, zRsl, gs.length, D1.err, L1, k1⟩ := by rw [hrun, hL1, hk1]; exact run_err hq9 hk4 (by omega) hD1w (by rw [← her1]; exact he1)
   refine wp_seq (rg hB TA_ok [4, 5, 6] [0, 4, 7, 45] [] hF fun X12 a0 w1 hF => ?_)
   refine wp_ret ((rm hB TA_ok hF (⟨0, fun _ => none, fun _ => 0, fun _ => .empty⟩) [] (hmap := ?_) (he := ?_) (hs := ?_) (hJ := ?_)).1)
   ·intro b hb; cases hb; exact ⟨hmp, fun m h => shK_map h⟩
   ·rw [hq]; subst hB
    exact Sim.tup ⟨Sim.agg ⟨zr, zr, zr, zq0, zr, zr, trivial⟩, zr, zr, trivial⟩
   ·rw [hq]; subst hB; exact ⟨rfl, ⟨_, rfl, zl⟩, trivial⟩
   rw [hq]; exact fun _ _ h => h
  have he1 : er1 = 0 := by subst hB; simpa [std, sC] using hb
  refine wp_skip ?_
  refine rg hB TA_ok [7, 8, 0, 3, 4] [0, 3, 4, 7, 45] [] hF (hob := by intro X; subst hB; simp only [AO, Ob.holds, BE.den] <;> and_intros <;> repeat first | trivial | rfl | exact (show i + 1 ≤ maxLen by omega) | exact (show (i + 1) * 80 ≤ 140737488355328 by omega) | exact (fun _ _ => by kernel_rfl) | refine ⟨?_, ?_⟩ | intro h | exact Int.le_refl _ | decide | omega) fun X13 a0 w1 hF => ?_
  replace hF := hF.headS (v' := .sl (some 7) ((X13 3).A 0) (B.nadd i 1) ((X13 3).c 0) 8 (fun t => gotC (if t = i then g1 else fz t))) (Sim.resl rfl (fun t ht => by
   subst hB
   have ht2 : t < i + 1 := ht
   show appC i (fun t => gotC (fz t)) (chunk 8 (gotC g1)) t = _
   unfold appC
   split
   ·rw [if_neg (by omega)]
   have : t = i := by omega
   subst this
   rw [if_pos rfl]
   simp [chunk])) rfl
  refine rg hB TA_ok [7, 8, 0, 3, 4] [0, 3, 4, 7, 45] [] hF fun X4 a0 w1 hF => ?_
  have e : B.arith .add .i64 (i : Int) 1 = ((i + 1 : Nat) : Int) := by subst hB; exact wrap_succ (n := 2001) (by omega) (by omega)
  refine ⟨(i + 1, fun t => if t = i then g1 else fz t, _, _, L1, k1, gs ++ [D1.got]), ⟨by simp only; omega, hg1s, fun j hj => ?_, by simp [hgl], ?_, ?_⟩, by simp only; omega, by rw [← e, show i + 1 = B.nadd i 1 by subst hB; rfl]; exact hF⟩
  ·by_cases hji : j = i
   ·simp only [if_pos hji]; exact hgi
   simp only [if_neg hji]; exact hal j (by have h9 : j < i + 1 := hj; omega)
  ·have := hlie.add hge
   rw [hgl] at this; exact this
  rw [hrun, run_go hq9 hk4 (by omega) hD1w (by rw [← her1]; exact he1), hL1, hk1, show 2001 - (i + 1) = m0 by omega]
 have hi0 : i = 2001 := by
  have : ¬ (i : Int) ≤ 2000 := by subst hB; simpa [std, sC] using hb
  omega
 have hq : RQ = ⟨0, zRsl, gs.length, 0, Lc, kc⟩ := by rw [hrun, hi0]; rfl
 refine wp_exit (wp_seq (rg hB TA_ok [4, 5, 6] [0, 4, 7, 45] [] hF fun X14 a0 w1 hF => ?_))
 refine wp_ret ((rm hB TA_ok hF (⟨0, fun _ => none, fun _ => 0, fun _ => .empty⟩) [] (hmap := ?_) (he := ?_) (hs := ?_) (hJ := ?_)).1)
 ·intro b hb; cases hb; exact ⟨hmp, fun m h => shK_map h⟩
 ·rw [hq]; subst hB
  exact Sim.tup ⟨Sim.agg ⟨zr, zr, zr, zq0, zr, zr, trivial⟩, zr, zr, trivial⟩
 ·rw [hq]; subst hB; exact ⟨rfl, ⟨_, rfl, zl⟩, trivial⟩
 rw [hq]; exact fun _ _ h => h
theorem run26_m (k0 : Nat) (b bM : Nat) (J : JobA) (hJ : JobIn J) (L : Shf) (hL : ShfG L) (k : Int) : SpecM Try.prog 20 [.ptr k0 b 0, jobV J] [(k0, ⟨b, 78, [.raw (.map (some bM)), .int .i64 k]⟩)] (some bM) (shK bM L) (fun y => ⟨.tup [rslV y (runQ (seekN J) 3000 2001 [] L k).res, .int .i64 (if (runQ (seekN J) 3000 2001 [] L k).st = 2 then ((runQ (seekN J) 3000 2001 [] L k).n : Int) else 0), .bool (.v (decide ((runQ (seekN J) 3000 2001 [] L k).st = 2)))], [(k0, [.raw (.map (some bM)), .int .i64 (runQ (seekN J) 3000 2001 [] L k).k])], []⟩) (fun _ _ => shK bM (runQ (seekN J) 3000 2001 [] L k).L) :=
 (run26_m0 b bM J hJ L hL k).re (by repeat (first | exact trivial | refine ⟨Sim.ptr, ?_⟩ | refine ⟨Sim.fn ⟨Sim.ptr, trivial⟩ trivial, ?_⟩ | refine ⟨Sim.fn trivial ⟨Sim.ptr, trivial⟩, ?_⟩ | refine ⟨zr, ?_⟩)) rfl (fun x => ⟨rfl, rfl, zr, rfl⟩)
def zJ : JobA := ⟨0, ⟨0, 0⟩, 0, 0, ⟨#[]⟩, 0, none, 0, 0, fun _ => 0, 0, 0, 0, 0, 0, 0, 0⟩
theorem zJ_in : JobIn zJ := ⟨⟨by decide, by decide⟩, ⟨by decide, by decide⟩, ⟨by decide, by decide⟩⟩
theorem zJ_sim (g : Option Nat) (k : Nat) (f : Nat → List AV) : SimL [.agg [.int .i64 0, .int .i64 0, .int .u64 0, .int .u64 0, .int .u64 0, .str ⟨#[]⟩, .int .i64 0, .sl none none 0 0 1 (fun _ => []), .int .u32 0, .int .u32 0, .int .u32 0, .int .u32 0, .int .i64 0, .int .i64 0, .int .i64 0], .sl g none 0 0 k f] [jobV zJ, gotsV none 0 0 (fun _ => zGot)] := ⟨Sim.agg ⟨zr, zr, zr, zr, zr, zr, zr, Sim.nils, zr, zr, zr, zr, zr, zr, zr, trivial⟩, Sim.nils, trivial⟩
theorem zJ_26 : seekN zJ 0 (fun _ => zGot) = (zWq, 1) := by kernel_rfl
def skJ (key : Int) (how b : Int) : JobA := ⟨3, ⟨0, 0⟩, key, 0, ⟨#[]⟩, 0, none, 0, 0, fun _ => 0, 0, 0, 0, 0, how, b, 1500⟩
theorem skJ_in {key : Int} (hk : U64 key) (how b : Int) : JobIn (skJ key how b) := ⟨u64_0, hk, u64_0⟩
def skL : Shf := [(⟨0, 0⟩, ⟨1, true, leafR⟩)]
theorem sk_run : runQ (seekN (skJ 7 1 2)) 3000 2001 [] [] 0 = ⟨2, zRsl, 3, 0, skL, 1⟩ := by kernel_rfl
theorem nil_good : ShfG [] := newS_good (l := []) (fun r h => by cases h) rfl
theorem lkp_s (key how b : Int) : Spec Try.prog 39 [.int .u64 key, .int .i64 how, .int .i64 b] (fun _ => jobV (skJ key how b)) := by
 intro m w hm hargs
 refine en 11 hm hargs Try.func39 fun B hB a0 hF => ?_
 refine wp_seq (rg hB TA_ok [0, 1, 2, 6] [6] [] hF fun X0 a0 w1 hF => ?_)
 refine wp_seq (rg hB TA_ok [6] [6] [] hF fun X1 a0 w1 hF => ?_)
 refine wp_ret ((rsi hB TA_ok hF nAt (he := ?_)))
 subst hB
 exact Sim.agg ⟨zr, zr, zr, zr, zr, zr, zr, Sim.nils, zr, zr, zr, zr, zr, zr, zr, trivial⟩
theorem sought_s : Spec Try.prog 19 [] (fun _ => .bool .tt) := by
 intro m w hm hargs
 have hmx : maxLen = 9223372036854775807 := rfl
 have SL : Spec Try.prog 39 [.int .u64 7, .int .i64 1, .int .i64 2] (fun _ => jobV (skJ 7 1 2)) := lkp_s 7 1 2
 obtain ⟨W1, hW1⟩ := eqv (((zWq, (1 : Int))).1)
 obtain ⟨E1, hE1⟩ := eqv (((zWq, (1 : Int))).2)
 obtain ⟨rr1, hrr1⟩ := eqv (W1.r.rn)
 obtain ⟨nn1, hnn1⟩ := eqv (W1.res.items.length)
 obtain ⟨ff1, hff1⟩ := eqv (itF W1.res.items)
 have T1 := Spec.wq (by have h := (snext_s zJ zJ_in none 0 0 (fun _ => zGot) (by omega) (fun j hj => absurd hj (Nat.not_lt_zero _))); rw [zJ_26] at h; exact h) hW1 hE1 hrr1 hnn1 hff1
 have S1 : ∀ g k fz, Spec Try.prog 18 [.agg [.int .i64 0, .int .i64 0, .int .u64 0, .int .u64 0, .int .u64 0, .str ⟨#[]⟩, .int .i64 0, .sl none none 0 0 1 (fun _ => []), .int .u32 0, .int .u32 0, .int .u32 0, .int .u32 0, .int .i64 0, .int .i64 0, .int .i64 0], .sl g none 0 0 k fz] (fun x => .tup [wntV (wqB x W1 rr1 nn1 ff1), .int .i64 E1]) := fun g k fz => T1.sim (zJ_sim g k fz)
 refine en 65 hm hargs Try.func19 fun B hB a0 hF => ?_
 refine wp_seq (rg hB TA_ok [] [] [] hF fun X0 a0 w1 hF => ?_)
 have SN := new_yes none 0 0 (fun _ => zRow) (by omega) (fun i hi => absurd hi (Nat.not_lt_zero _)) 14 (L := []) rfl
 refine wp_seq (wp_region_lit (man_callM rfl rfl rfl rfl hF rfl rfl enters9 (SN) (fun _ _ _ => trivial) (fun b hb => by cases hb) ⟨Sim.nils, trivial⟩ (by intro e he; cases he) rfl rfl (fun y => shF w.heap.size (y.c 0) ([] : Shf)) (fun n x m w m' w' hn _ _ h => ⟨Nat.le_trans hn h.1, h.2⟩) ?_))
 intro y a0 w1 hF
 obtain ⟨sb, hsb⟩ := eqv (y.b)
 obtain ⟨bM, hbM⟩ := eqv (y.c 0)
 rw [← hsb, ← hbM] at hF
 have hbfr : w.heap.size ≤ bM := hF.kept.1
 replace hF := hF.withK (K' := shK bM ([] : Shf)) hF.kept.2
 refine lnd 1 hB TA_ok [1, 2] [14] [] hF fun X1 a0 w1 hF => ?_
 refine wp_seq (wp_seq (rg hB TA_ok [18, 1] [14] [] hF fun X2 a0 w1 hF => ?_))
 apply test_ok hF rfl <;> intro hb hF
 ·exfalso
  subst hB; simp [std, sC, BE.den] at hb
 have O1 := SL
 refine wp_skip (wp_seq (wp_region_lit (lpr 0 2 hB TA_ok [20, 21, 1, 2] [14] [(1, .r fun _ => jobV (skJ 7 1 2))] hF fun X4_0 a0 w1 hF => ?_)))
 have SD := run26_m 14 sb bM (skJ 7 1 2) (skJ_in ⟨by decide, by decide⟩ 1 2) [] nil_good 0
 rw [sk_run] at SD
 refine man_callM rfl rfl rfl rfl hF rfl rfl enters20 SD (fun _ _ h => h) (fun b hb => by cases hb; exact fun h => absurd h (Nat.not_lt.2 hbfr)) ⟨zr, zr, trivial⟩ (by intro e he; simp only [List.mem_singleton] at he; subst he; rfl) rfl rfl (fun _ => shK bM skL) (fun _ _ _ _ _ _ _ _ _ h => h) ?_
 intro y a0 w1 hF
 replace hF := hF.withK (K' := shK bM skL) hF.kept
 refine lnd 3 hB TA_ok [1, 3, 4, 5] [14, 3] [(1, .r fun _ => jobV (skJ 7 1 2))] hF fun X4 a0 w1 hF => ?_
 have SR1 := rows_r 14 sb bM skL (by decide) 1
 obtain ⟨RR1, hRR1⟩ := eqv (rowsL skL)
 rw [← hRR1] at SR1
 obtain ⟨nR1, hnR1⟩ := eqv (RR1.length)
 rw [← hnR1] at SR1
 have hn3 : nR1 = 1 := by rw [hnR1, hRR1]; kernel_rfl
 have O1 := SR1
 refine wp_seq (rg hB TA_ok [3, 4, 5, 6] [14, 3] [(1, .g [14] fun y => .sl none (y.A 0) nR1 (y.c 0) 8 (fun i => rowC (rwAt y RR1 i)))] hF fun X5 a0 w1 hF => ?_)
 obtain ⟨f2, hf2⟩ := eqv (rwAt (X5 1) RR1)
 rw [← hf2] at hF
 apply wp_seq
 refine rg hB TA_ok [3, 4, 5, 6, 8] [14, 3] [(1, .r fun x => .tup [.agg [.int .i64 W1.kind, .int .i64 W1.lab.len, .int .u64 W1.lab.bits, .int .u64 W1.ver, .int .i64 rr1.kd, .sl none (x.A 1) rr1.n (x.c 1) 2 (fun i => itC (rr1.f i)), .int .i64 rr1.nx.len, .int .u64 rr1.nx.bits, .int .u64 rr1.mrk, .int .i64 W1.res.code, .bool (.v W1.res.had), .str W1.res.val, .sl none (x.A 2) nn1 (x.c 2) 2 (fun i => itC (ff1 i)), .int .u64 W1.res.key, .bool (.v W1.res.more)], .int .i64 E1])] hF (hob := by intro X; subst hB; simp only [AO, Ob.holds, BE.den] <;> and_intros <;> repeat first | trivial | rfl | exact S1 _ _ _ | exact (fun _ _ => by kernel_rfl) | refine ⟨?_, ?_⟩ | intro h | exact Int.le_refl _ | decide | omega) fun X6 a0 w1 hF => ?_
 refine wp_seq (rg hB TA_ok [0] [14, 3] [] hF fun X7 a0 w1 hF => ?_)
 refine wp_ret ((rsi hB TA_ok hF nAt (he := ?_)))
 subst hB
 have k0 : (f2 0).x.r.kd = 1 := by rw [hf2]; unfold rwAt; rw [hRR1]; kernel_rfl
 have t0 : std.toNat 0 = 0 := rfl
 refine Sim.bool ?_
 simp [std, sC, BE.den, canB, k0, hE1, hn3]
inductive Tr (α : Type) where
 | ret (a : α)
 | dead
 | note (x : Nt) (t : Tr α)
 | ask (w : Wq) (f : GotA → Tr α)
def Tr.bind {α β : Type} : Tr α → (α → Tr β) → Tr β
 | .ret a, f => f a
 | .dead, _ => .dead
 | .note x t, f => .note x (t.bind f)
 | .ask w g, f => .ask w fun a => (g a).bind f
def Tr.run {α : Type} (k : Int) : Tr α → Pst → Rs α
 | .ret a, p => .ok a p
 | .dead, p => .stop zWq p
 | .note x t, p => t.run k ⟨p.n, p.g, x⟩
 | .ask w f, p => (askM k w p).bind fun g p => (f g).run k p
theorem Rs.assoc {α β γ : Type} (m : Rs α) (f : α → Pst → Rs β) (g : β → Pst → Rs γ) : (m.bind f).bind g = m.bind fun a p => (f a p).bind g := by cases m <;> rfl
theorem run_bind {α β : Type} {k : Int} : ∀ (t : Tr α) (f : α → Tr β) (p : Pst), (t.bind f).run k p = (t.run k p).bind fun a q => (f a).run k q
 | .ret a, f, p => rfl
 | .dead, f, p => rfl
 | .note x t, f, p => run_bind t f _
 | .ask w g, f, p => by
  show (askM k w p).bind (fun a q => ((g a).bind f).run k q) = ((askM k w p).bind fun a q => (g a).run k q).bind _
  rw [Rs.assoc]
  congr 1
  funext a q
  exact run_bind (g a) f q
section
variable {α β : Type} {k : Int} {p : Pst}
theorem rb {t : Tr α} {m : Rs α} {f : α → Tr β} {f' : α → Pst → Rs β} (h : t.run k p = m) (hf : ∀ a q, (f a).run k q = f' a q) : (t.bind f).run k p = m.bind f' := by
 subst h
 rw [run_bind]
 congr 1
 funext a q
 exact hf a q
theorem ri {c : Prop} [Decidable c] {x y : Tr α} {x' y' : Rs α} (hx : x.run k p = x') (hy : y.run k p = y') : (if c then x else y).run k p = if c then x' else y' := by
 by_cases h : c
 ·rw [if_pos h, if_pos h]; exact hx
 rw [if_neg h, if_neg h]; exact hy
end
def askT (w : Wq) : Tr GotA := .ask w .ret
def getT (l : Lab) : Tr GotA := askT ⟨1, l, 0, zeroRec, zRsl⟩
def casT (l : Lab) (v : Int) (r : Rec) : Tr Bool := (askT ⟨2, l, v, r, zRsl⟩).bind fun g => .ret (decide (g.code = 0))
def drpT (l : Lab) (v : Int) : Tr Bool := (askT ⟨3, l, v, zeroRec, zRsl⟩).bind fun g => .ret (decide (g.code = 0))
def splCT (l : Lab) (v : Int) (c : Lab) (x : Rec) : Nat → Tr Bool
 | 0 => .dead
 | n + 1 => (getT c).bind fun g => if (g.has && !decide (g.x.r.kd = 5)) = true then .ret true else (getT l).bind fun q => if q.ver = v then (casT c g.ver x).bind fun d => if d = true then .ret true else splCT l v c x n else .ret false
def splitT (n : Nat) (l : Lab) (v : Int) (x : RA) : Tr Unit :=
 if (halvA x l).2.2 = 0 then
  (splCT l v (chV l 0) (halvA x l).1 n).bind fun go => if go = true then (splCT l v (chV l 1) (halvA x l).2.1 n).bind fun go => if go = true then (casT l v innerR).bind fun _ => .ret () else .ret () else .ret ()
 else .ret ()
def frzT (l : Lab) (v : Int) (c : Lab) : Nat → Tr Fz
 | 0 => .dead
 | n + 1 => (getT c).bind fun g => if (gk g 1 || gk g 5) = true then (if (gk g 5 && decide (g.x.r.mrk = v)) = true then .ret (.fr g.x) else (getT l).bind fun q => if q.ver = v then (casT c g.ver (asR 5 g.x v).r.abs).bind fun d => if d = true then .ret (.fr (asR 5 g.x v)) else frzT l v c n else .ret .over) else .ret .unfit
def clnCT (l : Lab) (cl : Lab → Tr Unit) (c : Lab) : Tr Bool :=
 (getT c).bind fun g => if gk g 5 = true then (cl c).bind fun _ => (getT l).bind fun q => if (gk q 1 || gk q 5) = true then (drpT c g.ver).bind fun _ => .ret true else .ret false else .ret true
def clnT : Nat → Lab → Tr Unit
 | 0, _ => .dead
 | n + 1, l => if l.len = 64 then .ret () else (clnCT l (clnT n) (chV l 0)).bind fun go => if go = true then (clnCT l (clnT n) (chV l 1)).bind fun _ => .ret () else .ret ()
def bckT (th : Lab → Tr Unit) (l : Lab) (v : Int) : Tr Unit := (casT l v innerR).bind fun d => if d = true then (th (chV l 0)).bind fun _ => th (chV l 1) else .ret ()
def mrgT (bk : Int) (n : Nat) (th : Lab → Tr Unit) (l : Lab) (v : Int) : Tr Unit :=
 (frzT l v (chV l 0) n).bind fun a => match a with
  | .over => .ret ()
  | .unfit => bckT th l v
  | .fr a => (frzT l v (chV l 1) n).bind fun b => match b with
   | .over => .ret ()
   | .unfit => bckT th l v
   | .fr b => if (uniA a b).2 = 0 ∧ ((uniA a b).1.items.length : Int) ≤ bk then (casT l v (uniA a b).1).bind fun d => if d = true then clnT n l else .ret () else bckT th l v
def finT (bk : Int) (n : Nat) (th : Lab → Tr Unit) (l : Lab) (g : GotA) : Tr Unit :=
 if gk g 3 = true then splitT n l g.ver g.x else if l.len < 64 then mrgT bk n th l g.ver else .ret ()
def thwLT (bk : Int) : Nat → Lab → Lab → Tr Unit
 | 0, _, _ => .dead
 | n + 1, l, up => (getT l).bind fun g => if gk g 5 = true then (getT up).bind fun q =>
   (if (gk q 3 || gk q 4) = true then finT bk n (fun c => if parE c = 0 then thwLT bk n c (parV c) else .ret ()) up q else .ret ()).bind fun _ =>
    if gk q 2 = true then (casT l g.ver (asR 1 g.x 0).r.abs).bind fun d => if d = true then .ret () else thwLT bk n l up else .ret () else .ret ()
def thwT (bk : Int) (n : Nat) (l : Lab) : Tr Unit := if parE l = 0 then thwLT bk n l (parV l) else .ret ()
def fnsT (bk : Int) (n : Nat) (l : Lab) (g : GotA) : Tr Unit := finT bk n (thwT bk n) l g
def linT (bk key : Int) : Nat → Lab → Tr Spt
 | 0, _ => .dead
 | n + 1, l => (getT l).bind fun g =>
   if gk g 1 = true then .ret ⟨l, g⟩
   else if (gk g 3 || gk g 4) = true then (fnsT bk n l g).bind fun _ => linT bk key n l
   else if (gk g 2 && decide (l.len < 64)) = true then linT bk key n (ofV key (l.len + 1))
   else if gk g 5 = true then (thwT bk n l).bind fun _ => linT bk key n rootL
   else if (!g.has && decide (l = rootL)) = true then (casT rootL g.ver leafR).bind fun _ => linT bk key n rootL
   else linT bk key n rootL
def lftT (bk : Int) (n : Nat) (l : Lab) : Tr Bool :=
 if parE l = 0 then (getT (parV l)).bind fun q => if (gk q 2 || gk q 3 || gk q 4) = true then (thwT bk n l).bind fun _ => .ret false else .ret true else .ret true
def binT (bk key : Int) : Nat → Int → Int → Tr Spt
 | 0, _, _ => .dead
 | n + 1, lo, hi =>
   if lo ≤ hi then (getT (ofV key ((lo + hi) / 2))).bind fun g =>
    if gk g 1 = true then .ret ⟨ofV key ((lo + hi) / 2), g⟩
    else if gk g 2 = true then binT bk key n ((lo + hi) / 2 + 1) hi
    else if (gk g 3 || gk g 4) = true then (fnsT bk n (ofV key ((lo + hi) / 2)) g).bind fun _ => binT bk key n lo hi
    else if gk g 5 = true then (lftT bk n (ofV key ((lo + hi) / 2))).bind fun b => if b = true then binT bk key n lo ((lo + hi) / 2 - 1) else binT bk key n lo hi
    else binT bk key n lo ((lo + hi) / 2 - 1)
   else linT bk key (n + 1) rootL
def sekT (bk how key : Int) (n : Nat) : Tr Spt := if how = 1 then linT bk key n rootL else binT bk key n 0 64
def lokT (bk how key : Int) (n : Nat) : Tr Rsl := (sekT bk how key n).bind fun s => .ret ⟨0, finB s.g.x key, finV s.g.x key, [], 0, false⟩
section
variable {k bk key : Int}
theorem run_ask (w : Wq) (p : Pst) : (askT w).run k p = askM k w p := by
 show (askM k w p).bind (fun g p => .ok g p) = _
 cases askM k w p <;> rfl
theorem run_get (l : Lab) (p : Pst) : (getT l).run k p = getM k l p := run_ask _ _
theorem run_cas (l : Lab) (v : Int) (r : Rec) (p : Pst) : (casT l v r).run k p = casM k l v r p := rb (run_ask _ _) fun _ _ => rfl
theorem run_drp (l : Lab) (v : Int) (p : Pst) : (drpT l v).run k p = drpM k l v p := rb (run_ask _ _) fun _ _ => rfl
theorem run_splC (l : Lab) (v : Int) (c : Lab) (x : Rec) : ∀ n p, (splCT l v c x n).run k p = splC k l v c x n p
 | 0, p => rfl
 | n + 1, p => rb (run_get _ _) fun _ _ => ri rfl (rb (run_get _ _) fun _ _ => ri (rb (run_cas _ _ _ _) fun _ _ => ri rfl (run_splC l v c x n _)) rfl)
theorem run_split (n : Nat) (l : Lab) (v : Int) (x : RA) (p : Pst) : (splitT n l v x).run k p = splitM k n l v x p :=
 ri (rb (run_splC _ _ _ _ _ _) fun _ _ => ri (rb (run_splC _ _ _ _ _ _) fun _ _ => ri (rb (run_cas _ _ _ _) fun _ _ => rfl) rfl) rfl) rfl
theorem run_frz (l : Lab) (v : Int) (c : Lab) : ∀ n p, (frzT l v c n).run k p = frzM k l v c n p
 | 0, p => rfl
 | n + 1, p => rb (run_get _ _) fun _ _ => ri (ri rfl (rb (run_get _ _) fun _ _ => ri (rb (run_cas _ _ _ _) fun _ _ => ri rfl (run_frz l v c n _)) rfl)) rfl
theorem run_clnC (l : Lab) {cl : Lab → Tr Unit} {cl' : Lab → Pst → Rs Unit} (h : ∀ c p, (cl c).run k p = cl' c p) (c : Lab) (p : Pst) : (clnCT l cl c).run k p = clnC k l cl' c p :=
 rb (run_get _ _) fun _ _ => ri (rb (h _ _) fun _ _ => rb (run_get _ _) fun _ _ => ri (rb (run_drp _ _ _) fun _ _ => rfl) rfl) rfl
theorem run_cln : ∀ n l p, (clnT n l).run k p = clnM k n l p
 | 0, l, p => rfl
 | n + 1, l, p => ri rfl (rb (run_clnC _ (run_cln n) _ _) fun _ _ => ri (rb (run_clnC _ (run_cln n) _ _) fun _ _ => rfl) rfl)
theorem run_bck {th : Lab → Tr Unit} {th' : Lab → Pst → Rs Unit} (h : ∀ c p, (th c).run k p = th' c p) (l : Lab) (v : Int) (p : Pst) : (bckT th l v).run k p = bckM k th' l v p :=
 rb (run_cas _ _ _ _) fun _ _ => ri (rb (h _ _) fun _ _ => h _ _) rfl
theorem run_mrg (n : Nat) {th : Lab → Tr Unit} {th' : Lab → Pst → Rs Unit} (h : ∀ c p, (th c).run k p = th' c p) (l : Lab) (v : Int) (p : Pst) : (mrgT bk n th l v).run k p = mrgM bk k n th' l v p :=
 rb (run_frz _ _ _ _ _) fun a _ => match a with
  | .over => rfl
  | .unfit => run_bck h _ _ _
  | .fr a => rb (run_frz _ _ _ _ _) fun b _ => match b with
   | .over => rfl
   | .unfit => run_bck h _ _ _
   | .fr b => ri (rb (run_cas _ _ _ _) fun _ _ => ri (run_cln _ _ _) rfl) (run_bck h _ _ _)
theorem run_fin (n : Nat) {th : Lab → Tr Unit} {th' : Lab → Pst → Rs Unit} (h : ∀ c p, (th c).run k p = th' c p) (l : Lab) (g : GotA) (p : Pst) : (finT bk n th l g).run k p = finM bk k n th' l g p :=
 ri (run_split _ _ _ _ _) (ri (run_mrg _ h _ _ _) rfl)
theorem run_thwL : ∀ n l up p, (thwLT bk n l up).run k p = thwL bk k n l up p
 | 0, l, up, p => rfl
 | n + 1, l, up, p => rb (run_get _ _) fun _ _ => ri (rb (run_get _ _) fun _ _ => rb (ri (run_fin _ (fun c p => ri (run_thwL n _ _ _) rfl) _ _ _) rfl) fun _ _ => ri (rb (run_cas _ _ _ _) fun _ _ => ri rfl (run_thwL n _ _ _)) rfl) rfl
theorem run_thw (n : Nat) (l : Lab) (p : Pst) : (thwT bk n l).run k p = thwM bk k n l p := ri (run_thwL _ _ _ _) rfl
theorem run_fns (n : Nat) (l : Lab) (g : GotA) (p : Pst) : (fnsT bk n l g).run k p = fnsM bk k n l g p := run_fin _ (run_thw n) _ _ _
theorem run_lin : ∀ n l p, (linT bk key n l).run k p = linM bk k key n l p
 | 0, l, p => rfl
 | n + 1, l, p => rb (run_get _ _) fun _ _ => ri rfl (ri (rb (run_fns _ _ _ _) fun _ _ => run_lin n _ _) (ri (run_lin n _ _) (ri (rb (run_thw _ _ _) fun _ _ => run_lin n _ _) (ri (rb (run_cas _ _ _ _) fun _ _ => run_lin n _ _) (run_lin n _ _)))))
theorem run_lft (n : Nat) (l : Lab) (p : Pst) : (lftT bk n l).run k p = lftM bk k n l p :=
 ri (rb (run_get _ _) fun _ _ => ri (rb (run_thw _ _ _) fun _ _ => rfl) rfl) rfl
theorem run_bin : ∀ n lo hi p, (binT bk key n lo hi).run k p = binM bk k key n lo hi p
 | 0, lo, hi, p => rfl
 | n + 1, lo, hi, p => ri (rb (run_get _ _) fun _ _ => ri rfl (ri (run_bin n _ _ _) (ri (rb (run_fns _ _ _ _) fun _ _ => run_bin n _ _ _) (ri (rb (run_lft _ _ _) fun _ _ => ri (run_bin n _ _ _) (run_bin n _ _ _)) (run_bin n _ _ _))))) (run_lin _ _ _)
theorem run_sek (how : Int) (n : Nat) (p : Pst) : (sekT bk how key n).run k p = sekM bk k how key n p := ri (run_lin _ _ _) (run_bin _ _ _ _)
theorem run_lok (how : Int) (n : Nat) (p : Pst) : (lokT bk how key n).run k p = lokM bk k how key n p := rb (run_sek _ _ _) fun _ _ => rfl
end
inductive App {α : Type} : Nat → Tr α → Tr α → Prop
 | zero {t t' : Tr α} : App 0 t t'
 | ret {d : Nat} (a : α) : App d (.ret a) (.ret a)
 | note {d : Nat} {x : Nt} {t t' : Tr α} (h : App d t t') : App d (.note x t) (.note x t')
 | ask {d : Nat} {w : Wq} {f f' : GotA → Tr α} (h : ∀ g, App d (f g) (f' g)) : App (d + 1) (.ask w f) (.ask w f')
section
variable {α β : Type} {d e : Nat}
theorem App.mono {t t' : Tr α} (h : App d t t') : ∀ {e : Nat}, e ≤ d → App e t t' := by
  induction h with
  | zero => intro e he; have : e = 0 := by omega
            subst this; exact .zero
  | ret a => intro e he; exact .ret a
  | note h ih => intro e he; exact .note (ih he)
  | ask h ih =>
    intro e he
    cases e with
    | zero => exact .zero
    | succ e => exact .ask fun g => ih g (by omega)
theorem App.bind {t t' : Tr α} (h : App d t t') : ∀ {f f' : α → Tr β}, (∀ a, App d (f a) (f' a)) → App d (t.bind f) (t'.bind f') := by
 induction h with
 | zero => intro f f' hf; exact .zero
 | ret a => intro f f' hf; exact hf a
 | note h ih => intro f f' hf; exact .note (ih hf)
 | ask h ih => intro f f' hf; exact .ask fun g => ih g fun a => (hf a).mono (by omega)
theorem app_ite {c : Prop} [Decidable c] {x y x' y' : Tr α} (hx : App d x x') (hy : App d y y') : App d (if c then x else y) (if c then x' else y') := by split <;> assumption
theorem run_app {k : Int} {t t' : Tr α} (h : App d t t') : ∀ {p : Pst}, p.n < d → t.run k p = t'.run k p := by
 induction h with
 | zero => intro p hp; omega
 | ret a => intro p _; rfl
 | note h ih => intro p hp; exact ih hp
 | @ask d w f f' h ih =>
  intro p hp
  show (askM k w p).bind _ = (askM k w p).bind _
  unfold askM
  split
  ·rename_i h0
   refine ih _ ?_
   show p.n - 1 < d
   omega
  rfl
end
theorem app_ask {d : Nat} (w : Wq) : App d (askT w) (askT w) := by
 cases d with
 | zero => exact .zero
 | succ d => exact .ask fun g => .ret g
theorem app_get {d : Nat} (l : Lab) : App d (getT l) (getT l) := app_ask _
theorem app_cas {d : Nat} (l : Lab) (v : Int) (r : Rec) : App d (casT l v r) (casT l v r) := (app_ask _).bind fun _ => .ret _
theorem app_drp {d : Nat} (l : Lab) (v : Int) : App d (drpT l v) (drpT l v) := (app_ask _).bind fun _ => .ret _
theorem app_get1 {α : Type} {d : Nat} {l : Lab} {f f' : GotA → Tr α} (h : ∀ g, App d (f g) (f' g)) : App (d + 1) ((getT l).bind f) ((getT l).bind f') := .ask h
section
variable {bk key : Int}
theorem app_splC (l : Lab) (v : Int) (c : Lab) (x : Rec) : ∀ {d n n' : Nat}, d ≤ n → d ≤ n' → App d (splCT l v c x n) (splCT l v c x n')
 | 0, _, _, _, _ => .zero
 | d + 1, n + 1, n' + 1, h, h' => app_get1 fun _ => app_ite (.ret _) ((app_get _).bind fun _ => app_ite ((app_cas _ _ _).bind fun _ => app_ite (.ret _) (app_splC l v c x (by omega) (by omega))) (.ret _))
theorem app_split {d n n' : Nat} (l : Lab) (v : Int) (x : RA) (h : d ≤ n) (h' : d ≤ n') : App d (splitT n l v x) (splitT n' l v x) :=
 app_ite ((app_splC _ _ _ _ h h').bind fun _ => app_ite ((app_splC _ _ _ _ h h').bind fun _ => app_ite ((app_cas _ _ _).bind fun _ => .ret _) (.ret _)) (.ret _)) (.ret _)
theorem app_frz (l : Lab) (v : Int) (c : Lab) : ∀ {d n n' : Nat}, d ≤ n → d ≤ n' → App d (frzT l v c n) (frzT l v c n')
 | 0, _, _, _, _ => .zero
 | d + 1, n + 1, n' + 1, h, h' => app_get1 fun _ => app_ite (app_ite (.ret _) ((app_get _).bind fun _ => app_ite ((app_cas _ _ _).bind fun _ => app_ite (.ret _) (app_frz l v c (by omega) (by omega))) (.ret _))) (.ret _)
theorem app_clnC (l : Lab) {d : Nat} {cl cl' : Lab → Tr Unit} (h : ∀ c, App d (cl c) (cl' c)) (c : Lab) : App (d + 1) (clnCT l cl c) (clnCT l cl' c) :=
 app_get1 fun _ => app_ite ((h _).bind fun _ => (app_get _).bind fun _ => app_ite ((app_drp _ _).bind fun _ => .ret _) (.ret _)) (.ret _)
theorem app_cln : ∀ {d n n' : Nat} (l : Lab), d ≤ n → d ≤ n' → App d (clnT n l) (clnT n' l)
 | 0, _, _, _, _, _ => .zero
 | d + 1, n + 1, n' + 1, l, h, h' => app_ite (.ret _) ((app_clnC _ (fun c => app_cln c (by omega) (by omega)) _).bind fun _ => app_ite ((app_clnC _ (fun c => app_cln c (by omega) (by omega)) _).bind fun _ => .ret _) (.ret _))
theorem app_bck {d : Nat} {th th' : Lab → Tr Unit} (h : ∀ c, App d (th c) (th' c)) (l : Lab) (v : Int) : App d (bckT th l v) (bckT th' l v) :=
 (app_cas _ _ _).bind fun _ => app_ite ((h _).bind fun _ => h _) (.ret _)
theorem app_mrg {d n n' : Nat} {th th' : Lab → Tr Unit} (hn : d ≤ n) (hn' : d ≤ n') (h : ∀ c, App d (th c) (th' c)) (l : Lab) (v : Int) : App d (mrgT bk n th l v) (mrgT bk n' th' l v) :=
 (app_frz _ _ _ hn hn').bind fun a => match a with
  | .over => .ret _
  | .unfit => app_bck h _ _
  | .fr a => (app_frz _ _ _ hn hn').bind fun b => match b with
   | .over => .ret _
   | .unfit => app_bck h _ _
   | .fr b => app_ite ((app_cas _ _ _).bind fun _ => app_ite (app_cln _ hn hn') (.ret _)) (app_bck h _ _)
theorem app_fin {d n n' : Nat} {th th' : Lab → Tr Unit} (hn : d ≤ n) (hn' : d ≤ n') (h : ∀ c, App d (th c) (th' c)) (l : Lab) (g : GotA) : App d (finT bk n th l g) (finT bk n' th' l g) :=
 app_ite (app_split _ _ _ hn hn') (app_ite (app_mrg hn hn' h _ _) (.ret _))
theorem app_thwL : ∀ {d n n' : Nat} (l up : Lab), d ≤ n → d ≤ n' → App d (thwLT bk n l up) (thwLT bk n' l up)
 | 0, _, _, _, _, _, _ => .zero
 | d + 1, n + 1, n' + 1, l, up, h, h' => app_get1 fun _ => app_ite ((app_get _).bind fun _ => (app_ite (app_fin (by omega) (by omega) (fun c => app_ite (app_thwL _ _ (by omega) (by omega)) (.ret _)) _ _) (.ret _)).bind fun _ => app_ite ((app_cas _ _ _).bind fun _ => app_ite (.ret _) (app_thwL _ _ (by omega) (by omega))) (.ret _)) (.ret _)
theorem app_thw {d n n' : Nat} (l : Lab) (h : d ≤ n) (h' : d ≤ n') : App d (thwT bk n l) (thwT bk n' l) := app_ite (app_thwL _ _ h h') (.ret _)
theorem app_fns {d n n' : Nat} (l : Lab) (g : GotA) (h : d ≤ n) (h' : d ≤ n') : App d (fnsT bk n l g) (fnsT bk n' l g) := app_fin h h' (fun c => app_thw c h h') _ _
theorem app_lin : ∀ {d n n' : Nat} (l : Lab), d ≤ n → d ≤ n' → App d (linT bk key n l) (linT bk key n' l)
 | 0, _, _, _, _, _ => .zero
 | d + 1, n + 1, n' + 1, l, h, h' => by
  have H : ∀ l, App d (linT bk key n l) (linT bk key n' l) := fun l => app_lin l (by omega) (by omega)
  exact app_get1 fun _ => app_ite (.ret _) (app_ite ((app_fns _ _ (by omega) (by omega)).bind fun _ => H _) (app_ite (H _) (app_ite ((app_thw _ (by omega) (by omega)).bind fun _ => H _) (app_ite ((app_cas _ _ _).bind fun _ => H _) (H _)))))
theorem app_lft {d n n' : Nat} (l : Lab) (h : d ≤ n) (h' : d ≤ n') : App d (lftT bk n l) (lftT bk n' l) :=
 app_ite ((app_get _).bind fun _ => app_ite ((app_thw _ h h').bind fun _ => .ret _) (.ret _)) (.ret _)
theorem app_bin : ∀ {d n n' : Nat} (lo hi : Int), d ≤ n → d ≤ n' → App d (binT bk key n lo hi) (binT bk key n' lo hi)
 | 0, _, _, _, _, _, _ => .zero
 | d + 1, n + 1, n' + 1, lo, hi, h, h' => by
  have H : ∀ lo hi, App d (binT bk key n lo hi) (binT bk key n' lo hi) := fun lo hi => app_bin lo hi (by omega) (by omega)
  exact app_ite (app_get1 fun _ => app_ite (.ret _) (app_ite (H _ _) (app_ite ((app_fns _ _ (by omega) (by omega)).bind fun _ => H _ _) (app_ite ((app_lft _ (by omega) (by omega)).bind fun _ => app_ite (H _ _) (H _ _)) (H _ _))))) (app_lin _ h h')
theorem app_sek {d n n' : Nat} (how : Int) (h : d ≤ n) (h' : d ≤ n') : App d (sekT bk how key n) (sekT bk how key n') := app_ite (app_lin _ h h') (app_bin _ _ h h')
theorem app_lok {d n n' : Nat} (how : Int) (h : d ≤ n) (h' : d ≤ n') : App d (lokT bk how key n) (lokT bk how key n') := (app_sek _ h h').bind fun _ => .ret _
end
def Tr.All {α : Type} (A : GotA → Prop) (W : Wq → Prop) (X : Nt → Prop) (Q : α → Prop) : Tr α → Prop
 | .ret a => Q a
 | .dead => True
 | .note x t => X x ∧ t.All A W X Q
 | .ask w f => W w ∧ ∀ g, A g → (f g).All A W X Q
section
variable {α β : Type} {A : GotA → Prop} {W : Wq → Prop} {X : Nt → Prop}
theorem all_bind {Q : α → Prop} {R : β → Prop} : ∀ {t : Tr α} {f : α → Tr β}, t.All A W X Q → (∀ a, Q a → (f a).All A W X R) → (t.bind f).All A W X R
 | .ret a, f, h, hf => hf a h
 | .dead, f, h, hf => trivial
 | .note x t, f, h, hf => ⟨h.1, all_bind (t := t) h.2 hf⟩
 | .ask w g, f, h, hf => ⟨h.1, fun a ha => all_bind (t := g a) (h.2 a ha) hf⟩
theorem all_ite {Q : α → Prop} {c : Prop} [Decidable c] {x y : Tr α} (hx : c → x.All A W X Q) (hy : ¬ c → y.All A W X Q) : (if c then x else y).All A W X Q := by
 by_cases h : c
 ·rw [if_pos h]; exact hx h
 rw [if_neg h]; exact hy h
theorem all_ask {w : Wq} (h : W w) : (askT w).All A W X A := ⟨h, fun _ h => h⟩
theorem Tr.All.mono {Q R : α → Prop} : ∀ {t : Tr α}, t.All A W X Q → (∀ a, Q a → R a) → t.All A W X R
 | .ret a, h, hq => hq a h
 | .dead, h, hq => trivial
 | .note x t, h, hq => ⟨h.1, Tr.All.mono (t := t) h.2 hq⟩
 | .ask w g, h, hq => ⟨h.1, fun a ha => Tr.All.mono (t := g a) (h.2 a ha) hq⟩
end
def ntR (x : Nt) : Rsl := ⟨x.code, x.had, x.val, [], 0, false⟩
def Tr.dir (most b : Int) : Tr Rsl → Nt → Nat → Shf → Int → RunR
 | .ret a, x, n, L, k => ⟨2, a, n, 0, L, k⟩
 | .dead, x, n, L, k => ⟨5, zRsl, n, 0, L, k⟩
 | .note y t, x, n, L, k => t.dir most b y n L k
 | .ask w f, x, n, L, k =>
  if b ≤ n then ⟨2, ntR x, n, 0, L, k⟩
  else if most ≤ n then ⟨3, zRsl, n, 0, L, k⟩
  else if (doL L (wntOf w)).err ≠ 0 then ⟨4, zRsl, n, (doL L (wntOf w)).err, (doL L (wntOf w)).L, if (doL L (wntOf w)).wrote then IntKind.i64.wrap (k + 1) else k⟩
  else (f (gotOf (doL L (wntOf w)).got)).dir most b x (n + 1) (doL L (wntOf w)).L (if (doL L (wntOf w)).wrote then IntKind.i64.wrap (k + 1) else k)
def Tr.feed {α : Type} : Tr α → Nt → List Got → Option (Tr α × Nt)
 | .note y t, _, gs => t.feed y gs
 | .ret a, x, [] => some (.ret a, x)
 | .ret _, _, _ :: _ => none
 | .dead, x, [] => some (.dead, x)
 | .dead, _, _ :: _ => none
 | .ask w f, x, [] => some (.ask w f, x)
 | .ask w f, x, g :: gs => (f (gotOf g)).feed x gs
def Tr.noNote {α : Type} : Tr α → Prop
 | .note _ _ => False
 | _ => True
theorem feed_add {α : Type} {w : Wq} {f : GotA → Tr α} {y : Nt} {g : Got} : ∀ (t : Tr α) (x : Nt) (gs : List Got), t.feed x gs = some (.ask w f, y) → t.feed x (gs ++ [g]) = (f (gotOf g)).feed y []
 | .note z t, x, gs, h => by
  show t.feed z (gs ++ [g]) = _
  exact feed_add t z gs (by simpa [Tr.feed] using h)
 | .ret a, x, [], h => by simp [Tr.feed] at h
 | .ret a, x, _ :: _, h => by simp [Tr.feed] at h
 | .dead, x, [], h => by simp [Tr.feed] at h
 | .dead, x, _ :: _, h => by simp [Tr.feed] at h
 | .ask w' f', x, [], h => by
  simp only [Tr.feed, Option.some.injEq, Prod.mk.injEq, Tr.ask.injEq] at h
  obtain ⟨⟨h1, h2⟩, h3⟩ := h
  subst h1; subst h2; subst h3
  rfl
 | .ask w' f', x, g' :: gs, h => by
  show (f' (gotOf g')).feed x (gs ++ [g]) = _
  exact feed_add _ x gs (by simpa [Tr.feed] using h)
theorem feed_nil {α : Type} {A : GotA → Prop} {W : Wq → Prop} {X : Nt → Prop} {Q : α → Prop} : ∀ (t : Tr α) (x : Nt), ∃ t' x', t.feed x [] = some (t', x') ∧ t'.noNote ∧ (∀ d, App d t t → App d t' t') ∧ (t.All A W X Q → t'.All A W X Q)
 | .note z t, x => by
  obtain ⟨t', x', h1, h2, h3, h4⟩ := feed_nil t z
  refine ⟨t', x', by simpa [Tr.feed] using h1, h2, fun d hd => h3 d ?_, fun h => h4 h.2⟩
  cases hd with
  | zero => exact .zero
  | note h => exact h
 | .ret a, x => ⟨.ret a, x, by simp [Tr.feed], trivial, fun _ h => h, fun h => h⟩
 | .dead, x => ⟨.dead, x, by simp [Tr.feed], trivial, fun _ h => h, fun h => h⟩
 | .ask w f, x => ⟨.ask w f, x, by simp [Tr.feed], trivial, fun _ h => h, fun h => h⟩
theorem feed_dir {most b : Int} : ∀ (t : Tr Rsl) (x : Nt) {t' : Tr Rsl} {x' : Nt} (n : Nat) (L : Shf) (k : Int), t.feed x [] = some (t', x') → t'.dir most b x' n L k = t.dir most b x n L k
 | .note z t, x, t', x', n, L, k, h => feed_dir t z n L k (by simpa [Tr.feed] using h)
 | .ret a, x, t', x', n, L, k, h => by simp [Tr.feed] at h; obtain ⟨rfl, rfl⟩ := h; rfl
 | .dead, x, t', x', n, L, k, h => by simp [Tr.feed] at h; obtain ⟨rfl, rfl⟩ := h; rfl
 | .ask w f, x, t', x', n, L, k, h => by simp [Tr.feed] at h; obtain ⟨rfl, rfl⟩ := h; rfl
theorem run_feed {α : Type} {k : Int} (hk : 0 ≤ k) {t' : Tr α} {x' : Nt} : ∀ (t : Tr α) (x : Nt) (gs : List Got), t.feed x gs = some (t', x') → ∀ p : Pst, p.n = gs.length → (∀ j, j < gs.length → p.g j = gotOf (gs.getD j zeroGot)) → p.note = x → ∃ q : Pst, q.n = 0 ∧ q.note = x' ∧ t.run k p = t'.run k q
 | .note z t, x, gs, h, p, hn, hg, hx => run_feed hk t z gs (by simpa [Tr.feed] using h) ⟨p.n, p.g, z⟩ hn hg rfl
 | .ret a, x, [], h, p, hn, hg, hx => by simp [Tr.feed] at h; obtain ⟨rfl, rfl⟩ := h; exact ⟨p, hn, hx, rfl⟩
 | .ret a, x, _ :: _, h, p, hn, hg, hx => by simp [Tr.feed] at h
 | .dead, x, [], h, p, hn, hg, hx => by simp [Tr.feed] at h; obtain ⟨rfl, rfl⟩ := h; exact ⟨p, hn, hx, rfl⟩
 | .dead, x, _ :: _, h, p, hn, hg, hx => by simp [Tr.feed] at h
 | .ask w f, x, [], h, p, hn, hg, hx => by simp [Tr.feed] at h; obtain ⟨rfl, rfl⟩ := h; exact ⟨p, hn, hx, rfl⟩
 | .ask w f, x, g :: gs, h, p, hn, hg, hx => by
  have hn2 : p.n = gs.length + 1 := hn
  have h0 : p.g 0 = gotOf g := hg 0 (by simp)
  obtain ⟨q, h1, h2, h3⟩ := run_feed hk (f (gotOf g)) x gs (by simpa [Tr.feed] using h) p.tl (by show p.n - 1 = _; omega) (fun j hj => by show p.g (j + 1) = _; rw [hg (j + 1) (by simp; omega)]; rfl) hx
  refine ⟨q, h1, h2, ?_⟩
  rw [← h3]
  show (askM k w p).bind _ = _
  unfold askM
  rw [if_pos ⟨by omega, by omega⟩]
  show (f (p.g 0)).run k p.tl = _
  rw [h0]
structure TrN (N : NextF) (b : Int) (T : Nat → Tr Rsl) : Prop where
 nxt : ∀ n f, allGot n f = true → N n f = toldM ((T (n + 1)).run (b - n) (pst0 n f))
 app : ∀ {d n n' : Nat}, d ≤ n → d ≤ n' → App d (T n) (T n')
section
variable {N : NextF} {b : Int} {T : Nat → Tr Rsl} {most : Int} {A : GotA → Prop} {W : Wq → Prop} {X : Nt → Prop} {Q : Rsl → Prop} {R : Shf → Prop}
theorem next_at (hN : TrN N b T) {m : Nat} {gs : List Got} {t : Tr Rsl} {x : Nt} (hf : (T m).feed nt0 gs = some (t, x)) (hg : ∀ j, j < gs.length → isGotB (gotOf (gs.getD j zeroGot)) = true) (hb : (gs.length : Int) ≤ b) (hm : gs.length < m) : ∃ q : Pst, q.n = 0 ∧ q.note = x ∧ N gs.length (ansF gs) = toldM (t.run (b - gs.length) q) := by
 have h1 := hN.nxt gs.length (ansF gs) (allGot_yes hg)
 obtain ⟨q, h2, h3, h4⟩ := run_feed (k := b - gs.length) (by omega) (T m) nt0 gs hf (pst0 gs.length (ansF gs)) rfl (fun j hj => rfl) rfl
 refine ⟨q, h2, h3, ?_⟩
 rw [h1, ← h4]
 congr 1
 exact run_app (hN.app (d := gs.length + 1) (Nat.le_refl _) (by omega)) (by show gs.length < _; omega)
theorem told_ret {a : Rsl} {q : Pst} (h : q.n = 0) : toldM (.ok a q) = (⟨4, ⟨0, 0⟩, 0, zeroRec, a⟩, 0) := by
 unfold toldM; dsimp only; rw [if_neg (by omega)]
theorem told_stop {w : Wq} {q : Pst} (h : q.n = 0) : toldM (.stop w q) = (w, 0) := by
 unfold toldM; dsimp only; rw [if_neg (by omega)]
theorem ask_none {k : Int} {w : Wq} {q : Pst} {f : GotA → Tr Rsl} (h : q.n = 0) : (Tr.ask w f).run k q = .stop (if k ≤ 0 then overW q else w) q := by
 show (askM k w q).bind _ = _
 unfold askM
 rw [if_neg (by omega), h]
 simp only [Int.natCast_zero, Int.zero_add]
 rfl
theorem dir_go (hN : TrN N b T) {m : Nat} (hm : b < m) (hWk : ∀ w, W w → w.kind ≠ 4) (hR : ∀ L w, R L → W w → (doL L (wntOf w)).err = 0 → R (doL L (wntOf w)).L ∧ isGotB (gotOf (doL L (wntOf w)).got) = true ∧ A (gotOf (doL L (wntOf w)).got)) :
  ∀ (fuel : Nat) (t : Tr Rsl) (x : Nt) (gs : List Got) (L : Shf) (k : Int) (d : Nat), (T m).feed nt0 gs = some (t, x) → t.noNote → App d t t → t.All A W X Q → R L → (∀ j, j < gs.length → isGotB (gotOf (gs.getD j zeroGot)) = true) → (gs.length : Int) ≤ b → b - gs.length < d → b - gs.length < fuel →
   runQ N most fuel gs L k = t.dir most b x gs.length L k
 | 0, t, x, gs, L, k, d, hf, hnn, ha, hall, hL, hg, hb, hd, hfu => by omega
 | fuel + 1, t, x, gs, L, k, d, hf, hnn, ha, hall, hL, hg, hb, hd, hfu => by
  obtain ⟨q, h1, h2, h3⟩ := next_at hN hf hg hb (by omega)
  cases t with
  | note y t => exact absurd hnn (fun h => h)
  | ret a => exact run_end (h3.trans (told_ret h1)) rfl
  | dead =>
   cases ha with
   | zero => omega
  | ask w f =>
   rw [ask_none h1] at h3
   have h4 := h3.trans (told_stop h1)
   by_cases hov : b ≤ (gs.length : Int)
   ·rw [if_pos (by omega)] at h4
    rw [run_end h4 rfl]
    unfold Tr.dir
    rw [if_pos hov]
    unfold overW ntR
    rw [h2]
   rw [if_neg (by omega)] at h4
   have hk := hWk w hall.1
   unfold Tr.dir
   rw [if_neg hov]
   by_cases hmo : most ≤ (gs.length : Int)
   ·rw [if_pos hmo, run_cut h4 hk hmo]
   rw [if_neg hmo]
   by_cases he : (doL L (wntOf w)).err = 0
   ·rw [if_neg (fun h => h he), run_go h4 hk hmo rfl he]
    obtain ⟨r1, r2, r3⟩ := hR L w hL hall.1 he
    cases ha with
    | zero => omega
    | @ask d' _ _ _ ha =>
     obtain ⟨t', x', f1, f2, f3, f4⟩ := feed_nil (A := A) (W := W) (X := X) (Q := Q) (f (gotOf (doL L (wntOf w)).got)) x
     have hfe : (T m).feed nt0 (gs ++ [(doL L (wntOf w)).got]) = some (t', x') := by rw [feed_add _ _ _ hf, f1]
     have hlen : (gs ++ [(doL L (wntOf w)).got]).length = gs.length + 1 := by simp
     rw [dir_go hN hm hWk hR fuel t' x' _ _ _ d' hfe f2 (f3 _ (ha _)) (f4 (hall.2 _ r3)) r1 ?_ (by rw [hlen]; omega) (by rw [hlen]; omega) (by rw [hlen]; omega), hlen]
     ·exact feed_dir _ _ _ _ _ f1
     intro j hj
     rw [hlen] at hj
     by_cases hjl : j < gs.length
     ·have := hg j hjl
      rw [List.getD_eq_getElem?_getD, List.getElem?_append_left hjl, ← List.getD_eq_getElem?_getD]
      exact this
     have : j = gs.length := by omega
     subst this
     simpa [List.getD] using r2
   rw [if_pos he, run_err h4 hk hmo rfl he]
theorem dir_run (hN : TrN N b T) {m : Nat} (hm : b < m) (h0 : 0 ≤ b) (hWk : ∀ w, W w → w.kind ≠ 4) (hR : ∀ L w, R L → W w → (doL L (wntOf w)).err = 0 → R (doL L (wntOf w)).L ∧ isGotB (gotOf (doL L (wntOf w)).got) = true ∧ A (gotOf (doL L (wntOf w)).got))
  (hall : (T m).All A W X Q) {fuel : Nat} (hfu : b < fuel) {L : Shf} (hL : R L) (k : Int) : runQ N most fuel [] L k = (T m).dir most b nt0 0 L k := by
 obtain ⟨t', x', f1, f2, f3, f4⟩ := feed_nil (A := A) (W := W) (X := X) (Q := Q) (T m) nt0
 rw [dir_go hN hm hWk hR fuel t' x' [] L k m f1 f2 (f3 _ (hN.app (Nat.le_refl _) (Nat.le_refl _))) (f4 hall) hL (fun j hj => absurd hj (Nat.not_lt_zero _)) (by simpa using h0) (by simp; omega) (by simp; omega)]
 exact feed_dir _ _ _ _ _ f1
theorem dir_ends (hR : ∀ L w, R L → W w → (L.length : Int) < 2000 → (doL L (wntOf w)).err = 0 ∧ (doL L (wntOf w)).L.length ≤ L.length + 1 ∧ R (doL L (wntOf w)).L ∧ A (gotOf (doL L (wntOf w)).got)) :
  ∀ (t : Tr Rsl) (x : Nt) (n : Nat) (L : Shf) (k : Int) (d : Nat), t.All A W X Q → X x → App d t t → R L → (n : Int) ≤ b → b - n < d → b < most → (L.length : Int) + (b - n) ≤ 2000 →
   (t.dir most b x n L k).st = 2 ∧ ((t.dir most b x n L k).n : Int) ≤ b ∧ (Q (t.dir most b x n L k).res ∨ (((t.dir most b x n L k).n : Int) = b ∧ ∃ y, X y ∧ (t.dir most b x n L k).res = ntR y))
 | .ret a, x, n, L, k, d, hall, hx, ha, hL, hn, hd, hmo, hl => ⟨rfl, hn, .inl hall⟩
 | .dead, x, n, L, k, d, hall, hx, ha, hL, hn, hd, hmo, hl => by
  cases ha with
  | zero => omega
 | .note y t, x, n, L, k, d, hall, hx, ha, hL, hn, hd, hmo, hl => by
  have ha2 : App d t t := by
   cases ha with
   | zero => omega
   | note h => exact h
  exact dir_ends hR t y n L k d hall.2 hall.1 ha2 hL hn hd hmo hl
 | .ask w f, x, n, L, k, d, hall, hx, ha, hL, hn, hd, hmo, hl => by
  unfold Tr.dir
  by_cases hov : b ≤ (n : Int)
  ·rw [if_pos hov]; exact ⟨rfl, hn, .inr ⟨by show (n : Int) = b; omega, _, hx, rfl⟩⟩
  rw [if_neg hov, if_neg (by omega)]
  obtain ⟨r1, r2, r3, r4⟩ := hR L w hL hall.1 (by omega)
  rw [if_neg (fun h => h r1)]
  cases ha with
  | zero => omega
  | @ask d' _ _ _ ha => exact dir_ends hR (f (gotOf (doL L (wntOf w)).got)) x (n + 1) _ _ d' (hall.2 _ r4) hx (ha _) r3 (by omega) (by omega) hmo (by omega)
end
theorem rises_ok {l : List Itm} (hs : Srt l) (hv : ∀ x ∈ l, x.val.size ≤ 64) : okF (itF l) l.length = true := by
 unfold okF
 rw [List.all_eq_true]
 intro i hi
 have hi := List.mem_range.1 hi
 have e : ∀ t (h : t < l.length), itF l t = l[t] := fun t h => by simp [itF, List.getD, h]
 unfold okAt
 rw [e i hi]
 cases i with
 | zero => simpa using hv _ (List.getElem_mem hi)
 | succ i =>
  have h2 : l[i].key < l[i + 1].key := (List.pairwise_iff_getElem.1 hs) i (i + 1) (by omega) hi (by omega)
  simp
  refine ⟨hv _ (List.getElem_mem hi), ?_⟩
  rw [e i (by omega)]
  exact h2
theorem rf_of {kd : Int} {n : Nat} {f : Nat → Itm} {nx : Lab} {mk : Int} (hok : okF f n = true) (hn : n ≤ 16) (hx : nx = noneL ∨ isL nx = true) (hk : (kd = 1 ∧ mk = 0) ∨ kd = 5) : isRF kd n f nx mk = true := by
 unfold isRF rowF bareK
 rcases hk with ⟨rfl, rfl⟩ | rfl
 ·rcases hx with hx | hx <;> simp [hok, hn, hx]
 rcases hx with hx | hx <;> simp [hok, hn, hx]
theorem short_items {f : Nat → Itm} {n : Nat} (h : okF f n = true) : ∀ x ∈ firsts f n, x.val.size ≤ 64 := by
 intro x hx
 obtain ⟨i, hi, rfl⟩ := List.mem_map.1 hx
 have := okF_at (List.mem_range.1 hi) h
 unfold okAt at this
 simp only [Bool.and_eq_true, decide_eq_true_eq] at this
 exact this.1
theorem r_inner : isR innerR = true := by decide
theorem r_leaf : isR leafR = true := by decide
theorem gk_at {g : GotA} {k : Int} (h : gk g k = true) : g.has = true ∧ g.x.r.kd = k := by
 unfold gk at h
 simp only [Bool.and_eq_true, decide_eq_true_eq] at h
 exact h
theorem r_as {g : GotA} (h : GotR g) {kd mk k : Int} (hg : gk g k = true) (hk : (kd = 1 ∧ mk = 0) ∨ kd = 5) : isR (asR kd g.x mk).r.abs = true := by
 rw [isR_abs]
 obtain ⟨_, _, h3, h4, h5⟩ := isRF_kind (h.rf (gk_at hg).1)
 exact rf_of h5 h3 h4 hk
theorem halv_r {x : RA} {l : Lab} (hl : LOk l) (h : (halvA x l).2.2 = 0) : isR (halvA x l).1 = true ∧ isR (halvA x l).2.1 = true := by
 unfold halvA halvR at h ⊢
 split at h
 ·cases h
 rename_i h1
 rw [if_neg h1]
 split at h
 ·cases h
 rename_i h2
 rw [if_neg h2]
 split at h
 ·cases h
 rename_i h3
 rw [if_neg h3]
 have h4 : isRF x.r.kd x.r.n x.r.f x.r.nx x.r.mrk = true := by
  simp only [Bool.not_eq_false, Bool.and_eq_true] at h1
  exact h1.1.1
 obtain ⟨_, _, k3, k4, k5⟩ := isRF_kind h4
 have hc : ∀ c, okF (itF (covL c (firsts x.r.f x.r.n))) (covL c (firsts x.r.f x.r.n)).length = true ∧ (covL c (firsts x.r.f x.r.n)).length ≤ 16 := fun c => by
  refine ⟨rises_ok (List.Pairwise.filter _ (okF_Srt k5)) fun y hy => short_items k5 y (cov_sub hy), Nat.le_trans (cov_le _ _) ?_⟩
  rw [firsts_len]; exact k3
 exact ⟨rf_of (hc _).1 (hc _).2 (.inr (child_isL hl.isl hl.u h3 1)) (.inl ⟨rfl, rfl⟩), rf_of (hc _).1 (hc _).2 k4 (.inl ⟨rfl, rfl⟩)⟩
theorem uni_r {x y : RA} (h : (uniA x y).2 = 0) : isR (uniA x y).1 = true := by
 unfold uniA uniR at h ⊢
 split at h
 ·cases h
 rename_i h1
 rw [if_neg h1]
 split at h
 ·cases h
 rename_i h2
 rw [if_neg h2]
 split at h
 ·cases h
 rename_i h3
 rw [if_neg h3]
 split at h
 ·cases h
 rename_i h4
 rw [if_neg h4]
 simp only [Bool.not_eq_false, Bool.and_eq_true] at h1
 obtain ⟨_, _, a3, a4, a5⟩ := isRF_kind h1.1
 obtain ⟨_, _, b3, b4, b5⟩ := isRF_kind h1.2
 refine rf_of (rises_ok ?_ fun z hz => ?_) ?_ b4 (.inl ⟨rfl, rfl⟩)
 ·refine List.pairwise_append.2 ⟨okF_Srt a5, okF_Srt b5, fun u hu v hv => ?_⟩
  obtain ⟨i, hi, rfl⟩ := List.mem_map.1 hu
  obtain ⟨j, hj, rfl⟩ := List.mem_map.1 hv
  have hi := List.mem_range.1 hi
  have hj := List.mem_range.1 hj
  have h5 : (x.r.f (x.r.n - 1)).key < (y.r.f 0).key := by
   unfold ovl at h2
   simp only [Bool.and_eq_true, decide_eq_true_eq, not_and] at h2
   have := h2 (by omega) (by omega)
   omega
  have h6 : (x.r.f i).key ≤ (x.r.f (x.r.n - 1)).key := by
   by_cases he : i = x.r.n - 1
   ·rw [he]; exact Int.le_refl _
   exact Int.le_of_lt (okF_srt a5 _ _ (by omega) (by omega))
  have h7 : (y.r.f 0).key ≤ (y.r.f j).key := by
   by_cases he : j = 0
   ·rw [he]; exact Int.le_refl _
   exact Int.le_of_lt (okF_srt b5 _ _ (by omega) (by omega))
  omega
 ·rcases List.mem_append.1 hz with hz | hz
  ·exact short_items a5 z hz
  exact short_items b5 z hz
 show (firsts x.r.f x.r.n ++ firsts y.r.f y.r.n).length ≤ 16
 rw [List.length_append, firsts_len, firsts_len]; omega
structure WqR (w : Wq) : Prop where
 ok : WqOk w
 kd : w.kind = 1 ∨ w.kind = 2 ∨ w.kind = 3
 put : w.kind = 2 → isR w.r = true
def GA (g : GotA) : Prop := GotOk g ∧ GotR g
section
variable {X : Nt → Prop} {bk key : Int}
abbrev AllA {α : Type} (X : Nt → Prop) (Q : α → Prop) (t : Tr α) : Prop := t.All GA WqR X Q
abbrev Any {α : Type} : α → Prop := fun _ => True
theorem all_get {l : Lab} (h : LOk l) : AllA X GA (getT l) := all_ask ⟨⟨h, rec_z⟩, .inl rfl, fun h => absurd h (by show ¬ (1 : Int) = 2; decide)⟩
theorem all_cas {l : Lab} {v : Int} {r : Rec} (h : LOk l) (hr : RecOk r) (h2 : isR r = true) : AllA X Any (casT l v r) := all_bind (all_ask (w := ⟨2, l, v, r, zRsl⟩) ⟨⟨h, hr⟩, .inr (.inl rfl), fun _ => h2⟩) fun _ _ => trivial
theorem all_drp {l : Lab} {v : Int} (h : LOk l) : AllA X Any (drpT l v) := all_bind (all_ask (w := ⟨3, l, v, zeroRec, zRsl⟩) ⟨⟨h, rec_z⟩, .inr (.inr rfl), fun h => absurd h (by show ¬ (3 : Int) = 2; decide)⟩) fun _ _ => trivial
theorem all_splC {l : Lab} {v : Int} {c : Lab} {x : Rec} (hl : LOk l) (hc : LOk c) (hx : RecOk x) (hr : isR x = true) : ∀ n, AllA X Any (splCT l v c x n)
 | 0 => trivial
 | n + 1 => all_bind (all_get hc) fun _ _ => all_ite (fun _ => trivial) fun _ => all_bind (all_get hl) fun _ _ => all_ite (fun _ => all_bind (all_cas hc hx hr) fun _ _ => all_ite (fun _ => trivial) fun _ => all_splC hl hc hx hr n) fun _ => trivial
theorem all_split {n : Nat} {l : Lab} {v : Int} {x : RA} (hl : LOk l) (hx : RaOk x) : AllA X Any (splitT n l v x) :=
 all_ite (fun h => all_bind (all_splC hl (hl.ch 0) (halv_ok hx hl).1 (halv_r hl h).1 n) fun _ _ => all_ite (fun _ => all_bind (all_splC hl (hl.ch 1) (halv_ok hx hl).2 (halv_r hl h).2 n) fun _ _ => all_ite (fun _ => all_bind (all_cas hl rec_in r_inner) fun _ _ => trivial) fun _ => trivial) fun _ => trivial) fun _ => trivial
def FzOk : Fz → Prop
 | .fr x => RaOk x
 | _ => True
theorem all_frz {l : Lab} {v : Int} {c : Lab} (hl : LOk l) (hc : LOk c) : ∀ n, AllA X FzOk (frzT l v c n)
 | 0 => trivial
 | n + 1 => all_bind (all_get hc) fun g hg => all_ite (fun hk => all_ite (fun _ => hg.1.ra) fun _ => all_bind (all_get hl) fun _ _ => all_ite (fun _ => all_bind (all_cas hc (hg.1.ra.as 5 v).ro (by
   rcases Bool.or_eq_true _ _ ▸ hk with h | h
   ·exact r_as hg.2 h (.inr rfl)
   exact r_as hg.2 h (.inr rfl))) fun _ _ => all_ite (fun _ => hg.1.ra.as 5 v) fun _ => all_frz hl hc n) fun _ => trivial) fun _ => trivial
theorem all_clnC {l : Lab} {cl : Lab → Tr Unit} {c : Lab} (hl : LOk l) (hc : LOk c) (h : ∀ c, LOk c → AllA X Any (cl c)) : AllA X Any (clnCT l cl c) :=
 all_bind (all_get hc) fun _ _ => all_ite (fun _ => all_bind (h c hc) fun _ _ => all_bind (all_get hl) fun _ _ => all_ite (fun _ => all_bind (all_drp hc) fun _ _ => trivial) fun _ => trivial) fun _ => trivial
theorem all_cln : ∀ (n : Nat) (l : Lab), LOk l → AllA X Any (clnT n l)
 | 0, l, _ => trivial
 | n + 1, l, hl => all_ite (fun _ => trivial) fun _ => all_bind (all_clnC hl (hl.ch 0) fun c hc => all_cln n c hc) fun _ _ => all_ite (fun _ => all_bind (all_clnC hl (hl.ch 1) fun c hc => all_cln n c hc) fun _ _ => trivial) fun _ => trivial
theorem all_bck {th : Lab → Tr Unit} {l : Lab} {v : Int} (hl : LOk l) (h : ∀ c, LOk c → AllA X Any (th c)) : AllA X Any (bckT th l v) :=
 all_bind (all_cas hl rec_in r_inner) fun _ _ => all_ite (fun _ => all_bind (h _ (hl.ch 0)) fun _ _ => h _ (hl.ch 1)) fun _ => trivial
theorem all_mrg {n : Nat} {th : Lab → Tr Unit} {l : Lab} {v : Int} (hl : LOk l) (h : ∀ c, LOk c → AllA X Any (th c)) : AllA X Any (mrgT bk n th l v) :=
 all_bind (all_frz hl (hl.ch 0) n) fun a ha => match a, ha with
  | .over, _ => trivial
  | .unfit, _ => all_bck hl h
  | .fr a, ha => all_bind (all_frz hl (hl.ch 1) n) fun b hb => match b, hb with
   | .over, _ => trivial
   | .unfit, _ => all_bck hl h
   | .fr b, hb => all_ite (fun hu => all_bind (all_cas hl (uni_ok ha hb) (uni_r hu.1)) fun _ _ => all_ite (fun _ => all_cln n l hl) fun _ => trivial) fun _ => all_bck hl h
theorem all_fin {n : Nat} {th : Lab → Tr Unit} {l : Lab} {g : GotA} (hl : LOk l) (hg : GA g) (h : ∀ c, LOk c → AllA X Any (th c)) : AllA X Any (finT bk n th l g) :=
 all_ite (fun _ => all_split hl hg.1.ra) fun _ => all_ite (fun _ => all_mrg hl h) fun _ => trivial
theorem all_thwL : ∀ (n : Nat) (l up : Lab), LOk l → LOk up → AllA X Any (thwLT bk n l up)
 | 0, l, up, _, _ => trivial
 | n + 1, l, up, hl, hu => all_bind (all_get hl) fun g hg => all_ite (fun hk => all_bind (all_get hu) fun q hq => all_bind (Q := Any) (all_ite (fun _ => all_fin hu hq fun c hc => all_ite (fun _ => all_thwL n c (parV c) hc hc.par) fun _ => trivial) fun _ => trivial) fun _ _ => all_ite (fun _ => all_bind (all_cas hl (hg.1.ra.as 1 0).ro (r_as hg.2 hk (.inl ⟨rfl, rfl⟩))) fun _ _ => all_ite (fun _ => trivial) fun _ => all_thwL n l up hl hu) fun _ => trivial) fun _ => trivial
theorem all_thw {n : Nat} {l : Lab} (hl : LOk l) : AllA X Any (thwT bk n l) := all_ite (fun _ => all_thwL n l _ hl hl.par) fun _ => trivial
theorem all_fns {n : Nat} {l : Lab} {g : GotA} (hl : LOk l) (hg : GA g) : AllA X Any (fnsT bk n l g) := all_fin hl hg fun _ hc => all_thw hc
theorem lok_of {key : Int} (hk : U64 key) (n : Int) : LOk (ofV key n) := ⟨ofV_isL _, ofV_u hk _⟩
theorem all_lin (hk : U64 key) : ∀ (n : Nat) (l : Lab), LOk l → AllA X SptOk (linT bk key n l)
 | 0, l, _ => trivial
 | n + 1, l, hl => all_bind (all_get hl) fun g hg => all_ite (fun h => ⟨hg.1, hg.2, h, hl.isl, hl.u⟩) fun _ => all_ite (fun _ => all_bind (all_fns hl hg) fun _ _ => all_lin hk n l hl) fun _ => all_ite (fun _ => all_lin hk n _ (lok_of hk _)) fun _ => all_ite (fun _ => all_bind (all_thw hl) fun _ _ => all_lin hk n _ lok_z) fun _ => all_ite (fun _ => all_bind (all_cas lok_z ⟨⟨by decide, by decide⟩, by decide, fun x hx => by cases hx⟩ r_leaf) fun _ _ => all_lin hk n _ lok_z) fun _ => all_lin hk n _ lok_z
theorem all_lft {n : Nat} {l : Lab} (hl : LOk l) : AllA X Any (lftT bk n l) :=
 all_ite (fun _ => all_bind (all_get hl.par) fun _ _ => all_ite (fun _ => all_bind (all_thw hl) fun _ _ => trivial) fun _ => trivial) fun _ => trivial
theorem all_bin (hk : U64 key) : ∀ (n : Nat) (lo hi : Int), AllA X SptOk (binT bk key n lo hi)
 | 0, lo, hi => trivial
 | n + 1, lo, hi => all_ite (fun _ => all_bind (all_get (lok_of hk _)) fun g hg => all_ite (fun h => ⟨hg.1, hg.2, h, ofV_isL _, ofV_u hk _⟩) fun _ => all_ite (fun _ => all_bin hk n _ _) fun _ => all_ite (fun _ => all_bind (all_fns (lok_of hk _) hg) fun _ _ => all_bin hk n _ _) fun _ => all_ite (fun _ => all_bind (all_lft (lok_of hk _)) fun _ _ => all_ite (fun _ => all_bin hk n _ _) fun _ => all_bin hk n _ _) fun _ => all_bin hk n _ _) fun _ => all_lin hk _ _ lok_z
theorem all_sek (hk : U64 key) {how : Int} {n : Nat} : AllA X SptOk (sekT bk how key n) := all_ite (fun _ => all_lin hk _ _ lok_z) fun _ => all_bin hk _ _ _
theorem all_lok (hk : U64 key) {how : Int} {n : Nat} : AllA X (fun a => a.code = 0) (lokT bk how key n) := all_bind (all_sek hk) fun _ _ => rfl
end
def SpoR (p : Lab × Spo) : Prop := (p.2.has = true → isR p.2.r = true) ∧ (p.2.has = false → p.2.r = zeroRec)
structure ShfR (L : Shf) : Prop where
 good : ShfG L
 sp : ∀ p ∈ L, SpoR p
theorem find_spo {L : Shf} (h : ∀ p ∈ L, SpoR p) (l : Lab) : ((spotOf L l).has = true → isR (spotOf L l).r = true) ∧ ((spotOf L l).has = false → (spotOf L l).r = zeroRec) := by
 unfold spotOf
 cases e : findL l L with
 | none => exact ⟨fun h => (by cases h), fun _ => rfl⟩
 | some x =>
  obtain ⟨p, hp, rfl⟩ := find_memL e
  exact h p hp
theorem newL_right : ∀ {l : List Rw} {L L' : Shf}, (∀ p ∈ L, SpoR p) → newL l L = some L' → ∀ p ∈ L', SpoR p
 | [], L, L', h2, h => by
  simp only [newL, Option.some.injEq] at h
  subst h; exact h2
 | r :: l, L, L', h2, h => by
  unfold newL at h
  split at h
  ·cases h
  rename_i hc
  have hc2 : isR r.r = true := by
   simp only [Bool.or_eq_true, Bool.not_eq_true', not_or] at hc
   simpa using hc.2
  refine newL_right (fun p hp => ?_) h
  rcases put_mem hp with rfl | hp
  ·exact ⟨fun _ => hc2, fun h => (by cases h)⟩
  exact h2 p hp
theorem newS_right {l : List Rw} {L : Shf} (hr : ∀ r ∈ l, RwG r) (h : newS l = some L) : ShfR L := by
 refine ⟨newS_good hr h, ?_⟩
 unfold newS at h
 split at h
 ·cases h
 exact newL_right (fun p hp => by cases hp) h
theorem newL_len : ∀ {l : List Rw} {L L' : Shf}, Rises L → newL l L = some L' → L'.length = L.length + l.length
 | [], L, L', hr, h => by
  simp only [newL, Option.some.injEq] at h
  subst h; rfl
 | r :: l, L, L', hr, h => by
  unfold newL at h
  split at h
  ·cases h
  rename_i hc
  have hn : (findL r.lab L).isSome = false := by
   simp only [Bool.or_eq_true, Bool.not_eq_true', not_or] at hc
   simpa using hc.1.1
  rw [newL_len (put_rises hr) h, put_len _ _ hr, hn]
  simp; omega
theorem newS_len {l : List Rw} {L : Shf} (h : newS l = some L) : L.length = l.length := by
 unfold newS at h
 split at h
 ·cases h
 have := newL_len .nil h
 simpa using this
theorem gotB_of {G : Got} (hc : G.code = 0 ∨ G.code = 8) (h : (G.has = true → isR G.r = true) ∧ (G.has = false → G.r = zeroRec)) : isGotB (gotOf G) = true := by
 unfold isGotB gotOf
 simp only [Bool.and_eq_true, Bool.or_eq_true, decide_eq_true_eq]
 refine ⟨hc, ?_⟩
 by_cases hh : G.has = true
 ·rw [if_pos hh]
  have := h.1 hh
  rw [← rn_abs G.r, isR_abs] at this
  exact this
 rw [if_neg hh, h.2 (by simpa using hh)]
 rfl
theorem do_right {L : Shf} (hL : ShfR L) {w : Wq} (hw : WqR w) :
  ((L.length : Int) < 2000 → (doL L (wntOf w)).err = 0) ∧ (doL L (wntOf w)).L.length ≤ L.length + 1 ∧ ShfR (doL L (wntOf w)).L ∧ isGotB (gotOf (doL L (wntOf w)).got) = true ∧ GA (gotOf (doL L (wntOf w)).got) := by
 obtain ⟨hgd, hv, hr⟩ := doL_good hL.good (w := wntOf w) ⟨hw.ok.lab.wf, hw.ok.r.nx, hw.ok.r.key⟩
 have hs := find_spo hL.sp w.lab
 have hcond : ((wntOf w).kind = 1 ∨ (wntOf w).kind = 2 ∨ (wntOf w).kind = 3) ∧ isL (wntOf w).lab = true ∧ ((wntOf w).kind = 2 → isR (wntOf w).r = true) := ⟨hw.kd, hw.ok.lab.isl, hw.put⟩
 have H : ((L.length : Int) < 2000 → (doL L (wntOf w)).err = 0) ∧ (doL L (wntOf w)).L.length ≤ L.length + 1 ∧ (∀ p ∈ (doL L (wntOf w)).L, SpoR p) ∧ isGotB (gotOf (doL L (wntOf w)).got) = true := by
  unfold doL
  rw [if_pos hcond]
  split
  ·exact ⟨fun _ => rfl, Nat.le_succ _, hL.sp, gotB_of (.inl rfl) hs⟩
  split
  ·exact ⟨fun _ => rfl, Nat.le_succ _, hL.sp, gotB_of (.inr rfl) ⟨fun h => (by cases h), fun _ => rfl⟩⟩
  split
  ·rename_i hfull
   exact ⟨fun h => by omega, Nat.le_succ _, hL.sp, gotB_of (.inl rfl) ⟨fun h => (by cases h), fun _ => rfl⟩⟩
  refine ⟨fun _ => rfl, ?_, fun p hp => ?_, gotB_of (.inl rfl) ⟨fun h => (by cases h), fun _ => rfl⟩⟩
  ·show (putL _ _ L).length ≤ _
   rw [put_len _ _ hL.good.ok.ris]
   split <;> omega
  rcases put_mem hp with rfl | hp
  ·refine ⟨fun h => ?_, fun h => ?_⟩
   ·have h2 : (wntOf w).kind = 2 := of_decide_eq_true h
    show isR (if (wntOf w).kind = 2 then (wntOf w).r else zeroRec) = true
    rw [if_pos h2]; exact hw.put h2
   have h2 : ¬ (wntOf w).kind = 2 := of_decide_eq_false h
   show (if (wntOf w).kind = 2 then (wntOf w).r else zeroRec) = zeroRec
   rw [if_neg h2]
  exact hL.sp p hp
 obtain ⟨h1, h2, h3, h4⟩ := H
 have hi : InG (gotOf (doL L (wntOf w)).got) := by
  refine got_in (G := (doL L (wntOf w)).got) ?_ hv hr
  unfold gotOf GotA.abs
  simp only [rn_abs]
 exact ⟨h1, h2, ⟨hgd, h3⟩, h4, got_ok hi h4, got_r h4⟩
theorem seek_tr {J : JobA} (hj : isJobB J = true) (hk : J.kind = 3) : TrN (seekN J) J.budget (lokT J.bucket J.how J.key) where
 nxt := fun n f hg => by
  unfold seekN nextR
  rw [if_pos (by simp [hj, hk, hg]), run_lok]
 app := fun h h' => app_lok _ h h'
theorem budget_in {J : JobA} (hj : isJobB J = true) : 0 ≤ J.budget ∧ J.budget ≤ 2000 := by
 unfold isJobB btw at hj
 simp only [Bool.and_eq_true, decide_eq_true_eq] at hj
 omega
theorem seek_dir {J : JobA} (hJ : JobIn J) (hj : isJobB J = true) (hk : J.kind = 3) {L : Shf} (hL : ShfR L) (k : Int) : runQ (seekN J) 3000 2001 [] L k = (lokT J.bucket J.how J.key 2001).dir 3000 J.budget nt0 0 L k := by
 have hb := budget_in hj
 exact dir_run (A := GA) (W := WqR) (X := fun _ => True) (Q := fun a => a.code = 0) (R := ShfR) (seek_tr hj hk) (m := 2001) (by omega) hb.1 (fun w hw => by rcases hw.kd with h | h | h <;> omega) (fun L w hL hw he => by
  obtain ⟨_, _, h3, h4, h5⟩ := do_right hL hw
  exact ⟨h3, h4, h5⟩) (all_lok hJ.key) (by omega) hL k
theorem seek_ends {J : JobA} (hJ : JobIn J) (hj : isJobB J = true) (hk : J.kind = 3) (hb : J.budget ≤ 120) {L : Shf} (hL : ShfR L) (hn : L.length ≤ 60) (k : Int) :
  (runQ (seekN J) 3000 2001 [] L k).st = 2 ∧ ((runQ (seekN J) 3000 2001 [] L k).n : Int) ≤ J.budget ∧ ((runQ (seekN J) 3000 2001 [] L k).res.code = 0 ∨ ((runQ (seekN J) 3000 2001 [] L k).res.code = 11 ∧ ((runQ (seekN J) 3000 2001 [] L k).n : Int) = J.budget ∧ (runQ (seekN J) 3000 2001 [] L k).res.had = false)) := by
 have hb0 := budget_in hj
 rw [seek_dir hJ hj hk hL k]
 obtain ⟨h1, h2, h3⟩ := dir_ends (A := GA) (W := WqR) (X := fun x => x = nt0) (Q := fun a => a.code = 0) (R := ShfR) (b := J.budget) (most := 3000) (fun L w hL hw hlen => by
  obtain ⟨h1, h2, h3, h4, h5⟩ := do_right hL hw
  exact ⟨h1 hlen, h2, h3, h5⟩) (lokT J.bucket J.how J.key 2001) nt0 0 L k 2001 (all_lok hJ.key) rfl (app_lok _ (Nat.le_refl _) (Nat.le_refl _)) hL (by simpa using hb0.1) (by simp; omega) (by omega) (by simp; omega)
 refine ⟨h1, h2, ?_⟩
 rcases h3 with h3 | ⟨h3, y, hy, h4⟩
 ·exact .inl h3
 subst hy
 rw [h4]
 exact .inr ⟨rfl, h3, rfl⟩
theorem seek_first {J : JobA} {f : Nat → GotA} (h : (seekN J 0 f).2 = 0) : isJobB J = true ∧ J.kind = 3 := by
 unfold seekN nextR at h
 split at h
 ·rename_i h0
  simp only [Bool.and_eq_true, decide_eq_true_eq] at h0
  exact ⟨h0.1.1, h0.1.2⟩
 cases h
def JobA.cut (J : JobA) (b : Int) : JobA := { J with budget := b }
theorem job_cut {J : JobA} (hj : isJobB J = true) {b : Int} (h0 : 0 ≤ b) (h : b ≤ J.budget) : isJobB (J.cut b) = true := by
 unfold isJobB btw JobA.cut at *
 simp only [Bool.and_eq_true, decide_eq_true_eq] at *
 exact ⟨⟨⟨⟨⟨hj.1.1.1.1.1, by omega, by omega⟩, hj.1.1.1.2⟩, hj.1.1.2⟩, hj.1.2⟩, hj.2⟩
end Go.Proofs.Ytphmfjhmdajlmaa.Sym
namespace Go.Proofs.Ytphmfjhmdajlmaa.Sym
open Go
open Go.RowKit
variable {C : Cx} {P : Program} {Q : Exit → Act → World → Prop} {ops : Array Oper} {s : St} {a : Act} {w : World} {L rest : List Oper} {o : Oper}
theorem man_min {x y : Operand} {k k' : IntKind} {i j r : Int} {d : Nat} {c : Call} (hL : L = o :: rest) (hg : o.guard = none) (hop : o.op = .call c) (hc1 : c.callee = .builtin .min) (hc2 : c.args = #[x, y]) (hdst : o.dst = some d) (h : Fits C s a w) (hd : d < s.nt) (hx : val s [] x = .int k i) (hy : val s [] y = .int k' j)
  (hr : r = if j < i then j else i) (K' : ∀ a', Fits C (s.put (some d) (.int k r)) a' w → wpList P ops Q rest a' w) : wpList P ops Q L a w := by
 have hxv := (val_ok h (q := []) (fun _ h => by cases h) (x := x) (by rw [hx]; rfl)).1
 have hyv := (val_ok h (q := []) (fun _ h => by cases h) (x := y) (by rw [hy]; rfl)).1
 rw [hx] at hxv
 rw [hy] at hyv
 refine man_val hL hg hdst h hd (v := .int k r) ?_ (.int _ _) K'
 subst hr
 simp [execOp, hop, hc1, hc2, resolve, invoke, builtin, Builtin.min_, Builtin.min2, hxv, hyv, Result.andThen, AV.den]
end Go.Proofs.Ytphmfjhmdajlmaa.Sym
namespace Go.Proofs.Ytphmfjhmdajlmaa.Sym
open Go Go.RowKit
theorem bigs_ff {n : Nat} {f : Nat → RowA} (h : (if n ≤ 300 then bigS n f else true) = false) : n ≤ 300 ∧ ∀ i, i < n → (f i).x.r.n ≤ 40 := by
 by_cases hn : n ≤ 300
 ·rw [if_pos hn] at h
  refine ⟨hn, fun i hi => ?_⟩
  unfold bigS at h
  simp only [Bool.or_eq_false_iff] at h
  exact bigF_len (anyB_false h.1.2 i hi)
 rw [if_neg hn] at h; cases h
theorem new_wf {n : Nat} {f : Nat → RowA} (hb : n ≤ 300 ∧ ∀ i, i < n → (f i).x.r.n ≤ 40) (hwf : ∀ i, i < n → LabOk (f i).lab ∧ U64 (f i).x.r.nx.bits) (hu : ∀ l, LabOk l → U64 l.bits) : ∀ i, i < n → (f i).x.r.n ≤ 1000000 ∧ LabOk (f i).lab ∧ U64 (f i).lab.bits ∧ U64 (f i).x.r.nx.bits := fun i hi => ⟨by have := hb.2 i hi; omega, (hwf i hi).1, hu _ (hwf i hi).1, (hwf i hi).2⟩
theorem lab_u64 (l : Lab) (h : LabOk l) : U64 l.bits := by
 have := h.2
 simp [Lit.wf, IntKind.min, IntKind.max, IntKind.signed, IntKind.bits] at this
 exact ⟨by omega, by omega⟩
theorem rws_good {n : Nat} {f : Nat → RowA} (hr : ∀ i, i < n → LabOk (f i).lab ∧ U64 (f i).ver ∧ U64 (f i).x.r.nx.bits ∧ ∀ t, t < (f i).x.r.n → U64 ((f i).x.r.f t).key) : ∀ r ∈ rwsA f n, RwG r := by
 intro r hr'
 obtain ⟨i, hi, rfl⟩ := List.mem_map.1 hr'
 obtain ⟨h1, h2, h3, h4⟩ := hr i (List.mem_range.1 hi)
 refine ⟨h1, h2, h3, fun x hx => ?_⟩
 obtain ⟨t, ht, rfl⟩ := List.mem_map.1 hx
 exact h4 t (List.mem_range.1 ht)
theorem lawEnds_no (A : Option Addr) (n c : Nat) (f : Nat → RowA) (hn : n ≤ maxLen) (hrw : ∀ i, i < n → LabOk (f i).lab ∧ U64 (f i).ver ∧ U64 (f i).x.r.nx.bits ∧ ∀ t, t < (f i).x.r.n → U64 ((f i).x.r.f t).key) (J : JobA) (hJ : JobIn J) (hnew : newS (rwsA f n) = none) : Spec Try.prog 5 [rowsV A n c f, jobV J] (fun _ => .bool .tt) := by
 intro m w hm hargs
 have hmx : maxLen = 9223372036854775807 := rfl
 have hwf : ∀ i, i < n → LabOk (f i).lab ∧ U64 (f i).x.r.nx.bits := fun i hi => ⟨(hrw i hi).1, (hrw i hi).2.2.1⟩
 have S1 := bigs_s A n c f hn
 obtain ⟨bl, hbl⟩ := eqv (if n ≤ 300 then bigS n f else true)
 rw [← hbl] at S1
 obtain ⟨W9, hW9⟩ := eqv ((seekN J 0 (fun _ => zGot)).1)
 obtain ⟨E9, hE9⟩ := eqv ((seekN J 0 (fun _ => zGot)).2)
 obtain ⟨rr9, hrr9⟩ := eqv (W9.r.rn)
 obtain ⟨nn9, hnn9⟩ := eqv (W9.res.items.length)
 obtain ⟨ff9, hff9⟩ := eqv (itF W9.res.items)
 have T9 := Spec.wq (snext_s J hJ none 0 0 (fun _ => zGot) (by omega) (fun j hj => absurd hj (Nat.not_lt_zero _))) hW9 hE9 hrr9 hnn9 hff9
 have S9 : ∀ g k fz, Spec Try.prog 18 [jobV J, .sl g none 0 0 k fz] (fun x => .tup [wntV (wqB x W9 rr9 nn9 ff9), .int .i64 E9]) := fun g k fz => T9.sim ⟨zr, Sim.nils, trivial⟩
 refine en 94 hm hargs Try.func5 fun B hB a0 hF => ?_
 refine wp_seq (rg hB TA_ok [0, 3] [3] [] hF fun X0 a0 w1 hF => ?_)
 have O1 := S1
 refine wp_seq (wp_seq (rg hB TA_ok [25, 0, 3] [3] [(1, .r fun _ => .bool (.v bl))] hF fun X1 a0 w1 hF => ?_))
 apply test_ok hF rfl <;> intro hb hF
 ·refine wp_seq (rg hB TA_ok [4] [] [] hF fun X2 a0 w1 hF => ?_)
  refine wp_ret ((rsi hB TA_ok hF nAt (he := ?_)))
  subst hB
  exact Sim.bool rfl
 have hb0 : bl = false ∧ n ≤ 60 := by
  have h9 : (if (if bl = true then true else decide ((60 : Int) < (n : Int))) = true then true else decide ((600 : Int) < (J.pn : Int))) = false := by subst hB; exact hb
  by_cases h60 : (60 : Int) < (n : Int)
  ·revert h9; cases bl <;> simp [h60]
  exact ⟨by revert h9; cases bl <;> simp, by omega⟩
 have hb1 := bigs_ff (hbl ▸ hb0.1)
 have hN := new_wf hb1 hwf lab_u64
 refine wp_skip (wp_seq (wp_region_lit (lpr 0 1 hB TA_ok [27, 3] [3] [] hF fun X3_0 a0 w1 hF => ?_)))
 have SN := new_no A n c f hn hN hnew
 refine man_callM rfl rfl rfl rfl hF rfl rfl enters9 SN (fun _ _ _ => trivial) (fun b hb => by cases hb) (zl) (by intro e he; cases he) rfl rfl (fun y => noK) (fun _ _ _ _ _ _ _ _ _ _ => trivial) ?_
 intro y a0 w1 hF
 refine lnd 2 hB TA_ok [3, 5, 6] [3] [] hF fun X3 a0 w1 hF => ?_
 apply wp_seq
 refine rg hB TA_ok [3, 5, 6, 8] [3] [(1, .r fun x => .tup [.agg [.int .i64 W9.kind, .int .i64 W9.lab.len, .int .u64 W9.lab.bits, .int .u64 W9.ver, .int .i64 rr9.kd, .sl none (x.A 1) rr9.n (x.c 1) 2 (fun i => itC (rr9.f i)), .int .i64 rr9.nx.len, .int .u64 rr9.nx.bits, .int .u64 rr9.mrk, .int .i64 W9.res.code, .bool (.v W9.res.had), .str W9.res.val, .sl none (x.A 2) nn9 (x.c 2) 2 (fun i => itC (ff9 i)), .int .u64 W9.res.key, .bool (.v W9.res.more)], .int .i64 E9])] hF (hob := by intro X; subst hB; simp only [AO, Ob.holds, BE.den] <;> and_intros <;> repeat first | trivial | rfl | exact S9 _ _ _ | exact (fun _ _ => by kernel_rfl) | refine ⟨?_, ?_⟩ | intro h | exact Int.le_refl _ | decide | omega) fun X4 a0 w1 hF => ?_
 refine wp_seq (wp_seq (rg hB TA_ok [41, 3, 5, 6] [3] [] hF fun X5 a0 w1 hF => ?_))
 refine test_tt hF rfl (fun hF => ?_)
 have O1 := sought_s
 refine wp_seq (rg hB TA_ok [4] [] [(0, .r fun _ => .bool .tt)] hF fun X6 a0 w1 hF => ?_)
 refine wp_ret ((rsi hB TA_ok hF nAt (he := ?_)))
 subst hB
 refine Sim.bool ?_
 simp [std, sC, BE.den, canB]
theorem lawEnds_yes (A : Option Addr) (n c : Nat) (f : Nat → RowA) (hn : n ≤ maxLen) (hrw : ∀ i, i < n → LabOk (f i).lab ∧ U64 (f i).ver ∧ U64 (f i).x.r.nx.bits ∧ ∀ t, t < (f i).x.r.n → U64 ((f i).x.r.f t).key) (J : JobA) (hJ : JobIn J) {L : Shf} (hnew : newS (rwsA f n) = some L) : Spec Try.prog 5 [rowsV A n c f, jobV J] (fun _ => .bool .tt) := by
 intro m w hm hargs
 have hmx : maxLen = 9223372036854775807 := rfl
 have hwf : ∀ i, i < n → LabOk (f i).lab ∧ U64 (f i).x.r.nx.bits := fun i hi => ⟨(hrw i hi).1, (hrw i hi).2.2.1⟩
 have S1 := bigs_s A n c f hn
 obtain ⟨bl, hbl⟩ := eqv (if n ≤ 300 then bigS n f else true)
 rw [← hbl] at S1
 obtain ⟨W9, hW9⟩ := eqv ((seekN J 0 (fun _ => zGot)).1)
 obtain ⟨E9, hE9⟩ := eqv ((seekN J 0 (fun _ => zGot)).2)
 obtain ⟨rr9, hrr9⟩ := eqv (W9.r.rn)
 obtain ⟨nn9, hnn9⟩ := eqv (W9.res.items.length)
 obtain ⟨ff9, hff9⟩ := eqv (itF W9.res.items)
 have T9 := Spec.wq (snext_s J hJ none 0 0 (fun _ => zGot) (by omega) (fun j hj => absurd hj (Nat.not_lt_zero _))) hW9 hE9 hrr9 hnn9 hff9
 have S9 : ∀ g k fz, Spec Try.prog 18 [jobV J, .sl g none 0 0 k fz] (fun x => .tup [wntV (wqB x W9 rr9 nn9 ff9), .int .i64 E9]) := fun g k fz => T9.sim ⟨zr, Sim.nils, trivial⟩
 refine en 94 hm hargs Try.func5 fun B hB a0 hF => ?_
 refine wp_seq (rg hB TA_ok [0, 3] [3] [] hF fun X0 a0 w1 hF => ?_)
 have O1 := S1
 refine wp_seq (wp_seq (rg hB TA_ok [25, 0, 3] [3] [(1, .r fun _ => .bool (.v bl))] hF fun X1 a0 w1 hF => ?_))
 apply test_ok hF rfl <;> intro hb hF
 ·refine wp_seq (rg hB TA_ok [4] [] [] hF fun X2 a0 w1 hF => ?_)
  refine wp_ret ((rsi hB TA_ok hF nAt (he := ?_)))
  subst hB
  exact Sim.bool rfl
 have hb0 : bl = false ∧ n ≤ 60 := by
  have h9 : (if (if bl = true then true else decide ((60 : Int) < (n : Int))) = true then true else decide ((600 : Int) < (J.pn : Int))) = false := by subst hB; exact hb
  by_cases h60 : (60 : Int) < (n : Int)
  ·revert h9; cases bl <;> simp [h60]
  exact ⟨by revert h9; cases bl <;> simp, by omega⟩
 have hb1 := bigs_ff (hbl ▸ hb0.1)
 have hN := new_wf hb1 hwf lab_u64
 refine wp_skip (wp_seq (wp_region_lit (lpr 0 1 hB TA_ok [27, 3] [3] [] hF fun X3_0 a0 w1 hF => ?_)))
 have SN := new_yes A n c f hn hN 14 hnew
 have hR0 : ShfR L := newS_right (rws_good hrw) hnew
 refine man_callM rfl rfl rfl rfl hF rfl rfl enters9 (SN) (fun _ _ _ => trivial) (fun b hb => by cases hb) (zl) (by intro e he; cases he) rfl rfl (fun y => shF w.heap.size (y.c 0) L) (fun n x m w m' w' hn _ _ h => ⟨Nat.le_trans hn h.1, h.2⟩) ?_
 intro y a0 w1 hF
 obtain ⟨sb, hsb⟩ := eqv (y.b)
 obtain ⟨bM, hbM⟩ := eqv (y.c 0)
 rw [← hsb, ← hbM] at hF
 have hbfr : w.heap.size ≤ bM := hF.kept.1
 replace hF := hF.withK (K' := shK bM L) hF.kept.2
 refine lnd 2 hB TA_ok [3, 5, 6] [14, 3] [] hF fun X3 a0 w1 hF => ?_
 apply wp_seq
 refine rg hB TA_ok [3, 5, 6, 8] [14, 3] [(1, .r fun x => .tup [.agg [.int .i64 W9.kind, .int .i64 W9.lab.len, .int .u64 W9.lab.bits, .int .u64 W9.ver, .int .i64 rr9.kd, .sl none (x.A 1) rr9.n (x.c 1) 2 (fun i => itC (rr9.f i)), .int .i64 rr9.nx.len, .int .u64 rr9.nx.bits, .int .u64 rr9.mrk, .int .i64 W9.res.code, .bool (.v W9.res.had), .str W9.res.val, .sl none (x.A 2) nn9 (x.c 2) 2 (fun i => itC (ff9 i)), .int .u64 W9.res.key, .bool (.v W9.res.more)], .int .i64 E9])] hF (hob := by intro X; subst hB; simp only [AO, Ob.holds, BE.den] <;> and_intros <;> repeat first | trivial | rfl | exact S9 _ _ _ | exact (fun _ _ => by kernel_rfl) | refine ⟨?_, ?_⟩ | intro h | exact Int.le_refl _ | decide | omega) fun X4 a0 w1 hF => ?_
 refine wp_seq (wp_seq (rg hB TA_ok [41, 3, 5, 6] [14, 3] [] hF fun X5 a0 w1 hF => ?_))
 apply test_ok hF rfl <;> intro hb hF
 ·skip
  have O1 := sought_s
  refine wp_seq (rg hB TA_ok [4] [] [(0, .r fun _ => .bool .tt)] hF fun X6 a0 w1 hF => ?_)
  refine wp_ret ((rsi hB TA_ok hF nAt (he := ?_)))
  subst hB
  refine Sim.bool ?_
  simp [std, sC, BE.den, canB]
 have hE0 : E9 = 0 := by subst hB; simpa [std, sC] using hb
 have hj := seek_first (J := J) (f := fun _ => zGot) (by rw [← hE9]; exact hE0)
 have hbu := budget_in hj.1
 obtain ⟨bq, hbq⟩ := eqv (if 120 < J.budget then 120 else J.budget)
 have hbq2 : 0 ≤ bq ∧ bq ≤ J.budget ∧ bq ≤ 120 := by rw [hbq]; split <;> omega
 have hends := seek_ends (J := J.cut bq) ⟨hJ.lab, hJ.key, hJ.hi⟩ (job_cut hj.1 hbq2.1 hbq2.2.1) hj.2 hbq2.2.2 hR0 (by rw [newS_len hnew]; show ((List.range n).map _).length ≤ _; simp; exact hb0.2) 0
 have SD := run26_m 14 sb bM (J.cut bq) ⟨hJ.lab, hJ.key, hJ.hi⟩ L hR0.good 0
 obtain ⟨RQ, hRQ⟩ := eqv (runQ (seekN (J.cut bq)) 3000 2001 [] L 0)
 rw [← hRQ] at SD hends
 obtain ⟨he1, he2, he3⟩ := hends
 rw [he1] at SD
 rw [if_pos rfl] at SD
 obtain ⟨nq, hnq⟩ := eqv ((RQ.n : Int))
 rw [← hnq] at SD he2 he3
 obtain ⟨nr, hnr⟩ := eqv (RQ.res.items.length)
 obtain ⟨fr, hfr⟩ := eqv (itF RQ.res.items)
 have SE : SpecM Try.prog 20 [.ptr 14 sb 0, jobV (J.cut bq)] [(14, ⟨sb, 78, [.raw (.map (some bM)), .int .i64 0]⟩)] (some bM) (shK bM L) (fun y => ⟨.tup [.agg [.int .i64 RQ.res.code, .bool (.v RQ.res.had), .str RQ.res.val, .sl none (y.A 2) nr (y.c 2) 2 (fun i => itC (fr i)), .int .u64 RQ.res.key, .bool (.v RQ.res.more)], .int .i64 nq, .bool (.v true)], [(14, [.raw (.map (some bM)), .int .i64 RQ.k])], []⟩) (fun _ _ => shK bM RQ.L) := by rw [hnr, hfr]; exact SD
 refine wp_skip (wp_seq (rg hB TA_ok [3, 5, 9] [14, 3, 9] [] hF fun X7 a0 w1 hF => ?_))
 refine wp_seq (wp_region_lit (lpr 0 2 hB TA_ok [53, 3, 5, 9] [14, 3, 9] [] hF fun X8_0 a0 w1 hF => ?_))
 refine man_min (r := bq) rfl rfl rfl rfl rfl rfl hF (show 54 < 94 by decide) rfl rfl hbq ?_
 intro a0 hF
 refine lnd 3 hB TA_ok [5, 9] [14, 9] [] hF fun X8 a0 w1 hF => ?_
 refine wp_seq (wp_region_lit (lpr 0 2 hB TA_ok [57, 58, 9] [14, 9] [] hF fun X9_0 a0 w1 hF => ?_))
 refine man_callM rfl rfl rfl rfl hF rfl rfl enters20 SE (fun _ _ h => h) (fun b hb => by cases hb; exact fun h => absurd h (Nat.not_lt.2 hbfr)) ⟨zr, zr, trivial⟩ (by intro e he; simp only [List.mem_singleton] at he; subst he; rfl) rfl rfl (fun _ => shK bM RQ.L) (fun _ _ _ _ _ _ _ _ _ h => h) ?_
 intro y a0 w1 hF
 replace hF := hF.withK (K' := shK bM RQ.L) hF.kept
 refine lnd 3 hB TA_ok [9, 10, 11, 12] [14, 9, 10] [] hF fun X9 a0 w1 hF => ?_
 have O1 := sought_s
 refine wp_seq (rg hB TA_ok [4] [9, 10] [(0, .r fun _ => .bool .tt)] hF fun X10 a0 w1 hF => ?_)
 refine wp_ret ((rsi hB TA_ok hF nAt (he := ?_)))
 subst hB
 refine Sim.bool ?_
 rcases he3 with h | ⟨h, h5, h6⟩
 ·simp [std, sC, BE.den, canB, h]; exact he2
 have h7 : nq = bq := h5
 simp [std, sC, BE.den, canB, h, h6, h7]
end Go.Proofs.Ytphmfjhmdajlmaa.Sym
namespace Go.Proofs.Ytphmfjhmdajlmaa
open Go Go.RowKit
theorem walkSeekEnds (W : World) (v0 v1 : Value) (i0 : Sym.InRow W v0) (i1 : Sym.InJob W v1) : Calls Try.prog 5 #[v0, v1] W fun e w' => e = .returned (.bool true) ∧ Below W.heap.size W w' := by
 obtain ⟨A, n, c, f, rfl, h0, hn, hf⟩ := i0
 obtain ⟨J, rfl, h1, hJ⟩ := i1
 have hrw : ∀ i, i < n → Sym.LabOk (f i).lab ∧ U64 (f i).ver ∧ U64 (f i).x.r.nx.bits ∧ ∀ t, t < (f i).x.r.n → U64 ((f i).x.r.f t).key := fun i hi => by
  obtain ⟨_, _, a, b, c, d⟩ := hf i hi
  exact ⟨a, c, b.u64, d⟩
 have S : Sym.Spec Try.prog 5 [Sym.rowsV A n c f, Sym.jobV J] (fun _ => .bool .tt) := by
  cases hnew : newS (Sym.rwsA f n) with
  | none => exact Sym.lawEnds_no A n c f hn hrw J hJ hnew
  | some L => exact Sym.lawEnds_yes A n c f hn hrw J hJ hnew
 refine (S (fun _ _ => False) W (fun _ _ h => h.elim) (fun v hv => ?_)).mono ?_
 ·simp only [List.mem_cons, List.not_mem_nil, or_false] at hv
  rcases hv with rfl | rfl
  ·exact h0
  exact h1
 rintro e w' ⟨x, rfl, _, hb⟩
 exact ⟨rfl, hb⟩
end Go.Proofs.Ytphmfjhmdajlmaa
