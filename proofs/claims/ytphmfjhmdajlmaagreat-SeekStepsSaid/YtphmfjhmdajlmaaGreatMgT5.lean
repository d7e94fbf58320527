/-
  SymShD, SortGen, CmpRow, LaySort, SortRow, SymRow0, SymShR, SymRSh3, SymLw0, PlGood, PlRun, SymSk1, SymSk2, SymStl, SymSk3, SymSk4, SymDr0, SymDr1, SymDr2, SymDr3, SymDr4, SymDr5: put together by a program of mine (a claim may have 60 files at most). Conditions: none.
-/
import Derived.WalkKit
import Derived.WalkLawsBesides
import Derived.WalkSpells
import Derived.Lib.Hide
import Derived.Deep.QuietTactic
import Derived.BigQuiet
import Derived.Deep.LoopGhost
import Derived.Deep.DeepCutAuto
import Derived.Deep.RegionLaw
import Derived.Lib.Overlaps
import Derived.Laws.CopyOwn
import Derived.IntWalk
import Derived.ProofKit
import Derived.OpenShut
import Derived.ShutString
import Derived.ChangeOld
import Derived.Deep.Slices
import Derived.Test.YtphmfjhmdajlmaaGreatProg
import Derived.Orders
import Derived.OrdersHeld
import Derived.Defers
import Derived.Recover
import Derived.Lib.BitFns
import Derived.ChangeKeysEq
import Derived.Test.YtphmfjhmdajlmaaGreatChecked
import Derived.Lib.BufferWrite
import Derived.Maps.OwnSet
import Derived.Maps.RangeWalk
import Derived.Maps.Ext
import Derived.DeepKeys4
import Derived.LoopN
import Derived.Shelf.SlSortCmp.WholeK
import Derived.Shelf.SlSortCmp.NoneTotal
import Derived.Deep.RegionHeld3
import Derived.Ground.SlsfProg
import Derived.Shelf.SlGeneric
import Derived.Test.YtphmfjhmdajlmaaGreatMgT1
import Derived.Test.YtphmfjhmdajlmaaGreatMgT2
import Derived.Test.YtphmfjhmdajlmaaGreatMgT3
import Derived.Test.YtphmfjhmdajlmaaGreatMgT4
set_option linter.unusedVariables false
set_option linter.unusedSimpArgs false
set_option maxRecDepth 100000
set_option maxHeartbeats 1600000
namespace Go.Proofs.YtphmfjhmdajlmaaGreat.Sym
open Go Go.RowKit
theorem chg_m (k0 : Nat) (b bM : Nat) (L : Shf) (hL : L.length ≤ 100000) (k : Int) (q : WntA) (hl : LabOk q.lab) (x z : SpA) (hh : Bool) : SpecM Tryz.prog 47 [.ptr k0 b 0, wntV q, .agg (elC x), .agg (elC z), .bool (.v hh)] [(k0, ⟨b, 82, [.raw (.map (some bM)), .int .i64 k]⟩)] (some bM) (shK bM L) (fun y => ⟨.tup [gotV (gotA y (chgL L q.lab q.ver x.w.ver hh ⟨z.w.ver, z.has, z.w.x.r.abs⟩).got), .int .i64 (chgL L q.lab q.ver x.w.ver hh ⟨z.w.ver, z.has, z.w.x.r.abs⟩).err], [(k0, [.raw (.map (some bM)), .int .i64 (if (chgL L q.lab q.ver x.w.ver hh ⟨z.w.ver, z.has, z.w.x.r.abs⟩).wrote then IntKind.i64.wrap (k + 1) else k)])], []⟩) (fun _ _ => shK bM (chgL L q.lab q.ver x.w.ver hh ⟨z.w.ver, z.has, z.w.x.r.abs⟩).L) := by
 cases hh with
 | true => exact (chg_tt k0 b bM L hL k q hl x z).args ⟨zr, zr, zr, zr, Sim.bool rfl, trivial⟩
 | false => exact (chg_ff k0 b bM L hL k q hl x z).args ⟨zr, zr, zr, zr, Sim.bool rfl, trivial⟩
theorem doL_chg {L : Shf} {w : Wnt} (hg : (w.kind = 1 ∨ w.kind = 2 ∨ w.kind = 3) ∧ isL w.lab = true ∧ (w.kind = 2 → isR w.r = true)) (hk : ¬ w.kind = 1) : doL L w = chgL L w.lab w.ver (spotOf L w.lab).ver (findL w.lab L).isSome ⟨inc (spotOf L w.lab).ver, decide (w.kind = 2), if w.kind = 2 then w.r else zeroRec⟩ := by
 refine (if_pos hg).trans ((if_neg hk).trans ?_)
 unfold chgL
 by_cases hv : w.ver = (spotOf L w.lab).ver
 ·have h1 : ¬ w.ver ≠ (spotOf L w.lab).ver := fun h => h hv
  have e : ((findL w.lab L).isNone = true ∧ 2000 ≤ L.length) = ((findL w.lab L).isSome = false ∧ 2000 ≤ L.length) := by
   cases findL w.lab L <;> simp
  refine (if_neg h1).trans (Eq.symm ((if_neg h1).trans ?_))
  rw [← hv]
  simp only [← e]
  rfl
 exact (if_pos hv).trans (if_pos hv).symm
theorem enters19 : Enters Tryz.prog 19 := fun _ _ => by kernel_rfl
theorem do_m0 (b bM : Nat) (L : Shf) (hL : L.length ≤ 100000) (k : Int) (q : WntA) (hwn : q.x.r.n ≤ maxLen) (hl : LabOk q.lab) (hwb : U64 q.lab.bits) (hwx : U64 q.x.r.nx.bits) : SpecM Tryz.prog 19 [.ptr 0 b 0, wntV q] [(0, ⟨b, 82, [.raw (.map (some bM)), .int .i64 k]⟩)] (some bM) (shK bM L) (fun y => ⟨.tup [gotV (gotA y (doL L q.abs).got), .int .i64 (doL L q.abs).err], [(0, [.raw (.map (some bM)), .int .i64 (if (doL L q.abs).wrote then IntKind.i64.wrap (k + 1) else k)])], []⟩) (fun _ _ => shK bM (doL L q.abs).L) := by
 intro m w hm hargs hpre hI
 have hmx : maxLen = 9223372036854775807 := rfl
 have hmp := shK_map hI
 have S1 := isL_s q.lab hwb
 have S2 := isR_s q.x.A q.x.r.n q.x.c q.x.r.f (by omega) q.x.r.kd q.x.r.nx q.x.r.mrk hwx
 rw [← isR_abs] at S2
 simp only [labAV, recI, rowI] at S1 S2
 obtain ⟨il, hil⟩ := eqv (isL q.lab)
 obtain ⟨ir, hir⟩ := eqv (isR q.x.r.abs)
 rw [← hil] at S1
 rw [← hir] at S2
 obtain ⟨D0, hD⟩ := eqv ((doL L q.abs))
 rw [← hD]
 skip
 refine enM (bo := some bM) 70 hm hpre hI hargs Tryz.func19 fun B hB a0 hF => ?_
 refine wp_seq (rg hB TA_ok [0, 3, 4] [0, 3, 4] [] hF fun X0 a0 w1 hF => ?_)
 refine wp_seq (wp_seq (rg hB TA_ok [10, 0, 3, 4] [0, 3, 4] [] hF fun X1 a0 w1 hF => ?_))
 refine test_ff hF rfl (fun hF => ?_)
 obtain ⟨DM, E, hSh⟩ := hF.kept
 replace hF := hF.withK (K' := shD DM E bM L) hSh
 obtain ⟨el, hel⟩ := eqv (elA (adr E L) q.lab (spotOf L q.lab))
 obtain ⟨hh, hhh⟩ := eqv ((findL q.lab L).isSome)
 refine wp_skip (wp_seq ?_)
 apply drawn2_okB hB 13 (some (6, [.tmp 16, .tmp 18], [.raw (.map (some bM)), .agg [.int .i64 q.lab.len, .int .u64 q.lab.bits]], .tup [.agg [.int .u64 el.w.ver, .bool (.v el.has), .int .i64 el.w.x.r.kd, .sl none el.w.x.A el.w.x.r.n el.w.x.c 2 (fun i => itC (el.w.x.r.f i)), .int .i64 el.w.x.r.nx.len, .int .u64 el.w.x.r.nx.bits, .int .u64 el.w.x.r.mrk], .bool (.v hh)])) ?hH (by kernel_rfl) TA_ok [0, 3, 4, 6, 7] [0, 3, 4, 6] [] hF rfl
 case hH => exact hand_look hl hel hhh (fun o h => by cases h; rfl)
 case hex => intro A X; conv => lhs; cbv
 case hD => kernel_rfl
 case hZ => kernel_rfl
 case hlen => rfl
 case hob =>
  intro X
  subst hB
  simp only [AO, Ob.holds, BE.den] <;> and_intros <;> intros <;> trivial
 case hQ =>
 intro X3 a0 w1 hF
 replace hF := hF.withK (K' := shK bM L) ⟨DM, E, hF.kept⟩
 have hev : el.w.ver = (spotOf L q.lab).ver := by rw [hel]
 have heh : el.has = (spotOf L q.lab).has := by rw [hel]
 have her : el.w.x.r.abs = (spotOf L q.lab).r := by rw [hel]; exact abs_rn _
 refine wpList_nil (wp_seq (rg hB TA_ok [0, 3, 4, 6, 7, 8] [8, 0, 3, 4, 6] [] hF fun X4 a0 w1 hF => ?_))
 obtain ⟨vi, hvi⟩ := eqv (inc (spotOf L q.lab).ver)
 replace hF := hF.memS (cells' := [.int .u64 vi, .bool .ff, .int .i64 0, .sl none none 0 0 2 (fun _ => []), .int .i64 0, .int .u64 0, .int .u64 0]) ⟨(by subst hB; rw [hvi, ← hev]; exact zr), zr, zr, zr, zr, zr, zr, trivial⟩
 refine wp_seq (wp_block (wp_seq (cut_one (ι := SpA) (S0 := []) (M0 := [(8, _)]) (G0 := []) (fun z => []) (fun z => [(8, ⟨(X4 4).b, 84, elC z⟩)]) (fun z => []) (fun z => ¬ q.kind = 1 ∧ z.w.ver = vi ∧ ((q.kind = 1 ∨ q.kind = 2 ∨ q.kind = 3) ∧ isL q.lab = true ∧ (q.kind = 2 → isR q.x.r.abs = true)) ∧ z.has = decide (q.kind = 2) ∧ z.w.x.r.abs = (if q.kind = 2 then q.x.r.abs else zeroRec)) hF ?_ ?_)))
 ·have O1 := S1
  refine wp_block (wp_seq (wp_block (wp_seq (wp_block (wp_seq (wp_block (wp_seq (wp_seq (wp_seq (rg hB TA_ok [26, 0, 3, 4, 6, 7, 8] [8, 0, 3, 4, 6] [(2, .r fun _ => .bool (.v il))] hF fun X5 a0 w1 hF => ?_))))))))))
  apply test_ok hF rfl <;> intro hb hF
  ·have h9 : (!il) = true := by subst hB; exact hb
   have hbad : ¬ ((q.kind = 1 ∨ q.kind = 2 ∨ q.kind = 3) ∧ isL q.lab = true ∧ (q.kind = 2 → isR q.x.r.abs = true)) := by rw [← hil]; intro h; rw [h.2.1] at h9; cases h9
   have hW : D0 = ⟨L, false, zeroGot, 1⟩ := by rw [hD]; exact if_neg hbad
   refine wp_exit (wp_seq (wp_seq (rg hB TA_ok [4, 5] [0, 4] [] hF fun X9 a0 w1 hF => ?_)))
   refine wp_ret ((rm hB TA_ok hF (⟨0, fun _ => none, fun _ => 0, fun _ => ⟨#[]⟩⟩) [] (hmap := ?_) (he := ?_) (hs := ?_) (hJ := ?_)).1)
   ·intro b hb; cases hb; exact ⟨hmp, fun m h => shK_map h⟩
   ·subst hB; simp only [hW]
    exact Sim.tup ⟨Sim.agg ⟨zr, zr, zr, zr, zq0, zr, zr, zr, trivial⟩, zr, trivial⟩
   ·subst hB; simp only [hW]
    exact ⟨rfl, ⟨_, rfl, zl⟩, trivial⟩
   simp only [hW]; exact fun _ _ h => h
  have hl1 : isL q.lab = true := by
   have h9 : (!il) = false := by subst hB; exact hb
   rw [← hil]; simpa using h9
  refine wp_skip (wp_seq (wp_seq (rg hB TA_ok [31, 0, 3, 4, 6, 7, 8] [8, 0, 3, 4, 6] [] hF fun X6 a0 w1 hF => ?_)))
  apply test_ok hF rfl <;> intro hb hF
  ·have hk1 : q.kind = 1 := by subst hB; simpa [std, sC] using hb
   have hgd : ((q.kind = 1 ∨ q.kind = 2 ∨ q.kind = 3) ∧ isL q.lab = true ∧ (q.kind = 2 → isR q.x.r.abs = true)) := ⟨.inl hk1, hl1, fun h => by omega⟩
   have hW : D0 = ⟨L, false, ⟨0, el.w.ver, el.has, el.w.x.r.abs⟩, 0⟩ := by rw [hD, hev, heh, her]; refine (if_pos hgd).trans ?_; exact if_pos hk1
   refine wp_exit (wp_seq (wp_seq (rg hB TA_ok [4, 5] [0, 4] [] hF fun X10 a0 w1 hF => ?_)))
   refine wp_ret ((rm hB TA_ok hF (spY none 0 (fun _ => zSp) el.w.x.A el.w.x.c 0) [] (hmap := ?_) (he := ?_) (hs := ?_) (hJ := ?_)).1)
   ·intro b hb; cases hb; exact ⟨hmp, fun m h => shK_map h⟩
   ·subst hB; simp only [hW]
    exact Sim.tup ⟨Sim.agg (got_sim (v := ⟨0, el.w.ver, el.has, el.w.x⟩) rfl rfl rfl), zr, trivial⟩
   ·subst hB; simp only [hW]
    exact ⟨rfl, ⟨_, rfl, zl⟩, trivial⟩
   simp only [hW]; exact fun _ _ h => h
  have hk1 : ¬ q.kind = 1 := by subst hB; simpa [std, sC] using hb
  refine wp_skip (wp_seq (wp_seq (rg hB TA_ok [35, 0, 3, 4, 6, 7, 8] [8, 0, 3, 4, 6] [] hF fun X7 a0 w1 hF => ?_)))
  apply test_ok hF rfl <;> intro hb hF
  ·have hk2 : q.kind = 2 := by subst hB; simpa [std, sC] using hb
   have O1 := S2
   refine wp_exit (wp_seq (wp_seq (rg hB TA_ok [54, 0, 3, 4, 6, 7, 8] [8, 0, 3, 4, 6] [(2, .r fun _ => .bool (.v ir))] hF fun X11 a0 w1 hF => ?_)))
   apply test_ok hF rfl <;> intro hb hF
   ·have h9 : (!ir) = true := by subst hB; exact hb
    have hbad : ¬ ((q.kind = 1 ∨ q.kind = 2 ∨ q.kind = 3) ∧ isL q.lab = true ∧ (q.kind = 2 → isR q.x.r.abs = true)) := by rw [← hir]; intro h; rw [h.2.2 hk2] at h9; cases h9
    have hW : D0 = ⟨L, false, zeroGot, 1⟩ := by rw [hD]; exact if_neg hbad
    refine wp_seq (rg hB TA_ok [4, 5] [0, 4] [] hF fun X12 a0 w1 hF => ?_)
    refine wp_ret ((rm hB TA_ok hF (⟨0, fun _ => none, fun _ => 0, fun _ => ⟨#[]⟩⟩) [] (hmap := ?_) (he := ?_) (hs := ?_) (hJ := ?_)).1)
    ·intro b hb; cases hb; exact ⟨hmp, fun m h => shK_map h⟩
    ·subst hB; simp only [hW]
     exact Sim.tup ⟨Sim.agg ⟨zr, zr, zr, zr, zq0, zr, zr, zr, trivial⟩, zr, trivial⟩
    ·subst hB; simp only [hW]
     exact ⟨rfl, ⟨_, rfl, zl⟩, trivial⟩
    simp only [hW]; exact fun _ _ h => h
   have hr1 : isR q.x.r.abs = true := by
    have h9 : (!ir) = false := by subst hB; exact hb
    rw [← hir]; simpa using h9
   have S3 := own_s q.x (by have h8 := hr1; rw [isR_abs] at h8; have := (isRF_kind h8).2.2.1; omega)
   have O1 := S3
   refine wp_skip (rg hB TA_ok [0, 3, 4, 6, 7, 8] [8, 0, 3, 4, 6] [(2, .r fun y => .agg [.int .i64 q.x.r.kd, .sl none (y.A 0) q.x.r.n (y.c 0) 2 (fun t => itC (q.x.r.f t)), .int .i64 q.x.r.nx.len, .int .u64 q.x.r.nx.bits, .int .u64 q.x.r.mrk])] hF fun X13 a0 w1 hF => ?_)
   refine ⟨⟨⟨q.lab, vi, ⟨(X13 2).A 0, (X13 2).c 0, q.x.r⟩⟩, true⟩, ⟨hk1, rfl, ⟨.inr (.inl hk2), hl1, fun _ => hr1⟩, ?_, ?_⟩, hF.memS (cells' := elC ⟨⟨q.lab, vi, ⟨(X13 2).A 0, (X13 2).c 0, q.x.r⟩⟩, true⟩) ⟨zr, Sim.tt, zr, zr, zr, zr, zr, trivial⟩⟩
   ·rw [decide_eq_true hk2]
   rw [if_pos hk2]
  have hk2 : ¬ q.kind = 2 := by subst hB; simpa [std, sC] using hb
  refine wp_skip (wp_seq (rg hB TA_ok [39, 0, 3, 4, 6, 7, 8] [8, 0, 3, 4, 6] [] hF fun X8 a0 w1 hF => ?_))
  apply test_ok hF rfl <;> intro hb hF
  ·have hk3 : q.kind = 3 := by subst hB; simpa [std, sC] using hb
   refine wp_exit (⟨⟨⟨q.lab, vi, zRA⟩, false⟩, ⟨hk1, rfl, ⟨.inr (.inr hk3), hl1, fun h => by omega⟩, ?_, ?_⟩, hF.memS (cells' := elC ⟨⟨q.lab, vi, zRA⟩, false⟩) ⟨zr, Sim.ff, zr, zq0, zr, zr, zr, trivial⟩⟩)
   ·rw [decide_eq_false (by omega)]
   rw [if_neg (by omega)]; rfl
  have hk3 : ¬ q.kind = 3 := by subst hB; simpa [std, sC] using hb
  have hbad : ¬ ((q.kind = 1 ∨ q.kind = 2 ∨ q.kind = 3) ∧ isL q.lab = true ∧ (q.kind = 2 → isR q.x.r.abs = true)) := fun h => by rcases h.1 with h | h | h; exact hk1 h; exact hk2 h; exact hk3 h
  have hW : D0 = ⟨L, false, zeroGot, 1⟩ := by rw [hD]; exact if_neg hbad
  refine wp_skip (wp_exit (wp_seq (rg hB TA_ok [4, 5] [0, 4] [] hF fun X15 a0 w1 hF => ?_)))
  refine wp_ret ((rm hB TA_ok hF (⟨0, fun _ => none, fun _ => 0, fun _ => ⟨#[]⟩⟩) [] (hmap := ?_) (he := ?_) (hs := ?_) (hJ := ?_)).1)
  ·intro b hb; cases hb; exact ⟨hmp, fun m h => shK_map h⟩
  ·subst hB; simp only [hW]
   exact Sim.tup ⟨Sim.agg ⟨zr, zr, zr, zr, zq0, zr, zr, zr, trivial⟩, zr, trivial⟩
  ·subst hB; simp only [hW]
   exact ⟨rfl, ⟨_, rfl, zl⟩, trivial⟩
  simp only [hW]; exact fun _ _ h => h
 rintro z ⟨hk1, hz1, hgd, hz2, hz3⟩ a0 w1 hF
 try dsimp only at hk1
 try dsimp only at hz1
 try dsimp only at hgd
 try dsimp only at hz2
 try dsimp only at hz3
 have SC := chg_m 0 b bM L hL k q hl el z hh
 obtain ⟨CD, hCD⟩ := eqv (chgL L q.lab q.ver el.w.ver hh ⟨z.w.ver, z.has, z.w.x.r.abs⟩)
 rw [← hCD] at SC
 have hDC : D0 = CD := by
  rw [hD, hCD, doL_chg (w := q.abs) hgd hk1, hz1, hz2, hz3, hvi, hev, hhh]; rfl
 obtain ⟨G, hG⟩ : ∃ G : Atom → GotA, G = fun y => gotA y CD.got := ⟨_, rfl⟩
 have hGG : ∀ y, gotA y CD.got = G y := fun y => by rw [hG]
 simp only [hGG] at SC
 obtain ⟨k2, hk2⟩ := eqv ((if CD.wrote then IntKind.i64.wrap (k + 1) else k))
 rw [← hk2] at SC
 refine wp_seq (wp_seq (wp_region_lit (lpr 0 5 hB TA_ok [61, 62, 63, 64, 65, 4] [0, 4] [] hF fun X14_0 a0 w1 hF => ?_)))
 refine man_callM rfl rfl rfl rfl hF rfl rfl enters47 SC (fun _ _ h => h) (fun b hb => by cases hb; exact fun _ => .inr rfl) (zl) (by intro e he; simp only [List.mem_singleton] at he; subst he; rfl) rfl rfl (fun _ => shK bM CD.L) (fun _ _ _ _ _ _ _ _ _ h => h) ?_
 intro y a0 w1 hF
 refine lnd 6 hB TA_ok [4, 5] [0, 4] [] hF fun X14 a0 w1 hF => ?_
 refine wp_ret ((rm hB TA_ok hF (y) [] (hmap := ?_) (he := ?_) (hs := ?_) (hJ := ?_)).1)
 ·intro b hb; cases hb; exact ⟨hmp, fun m h => shK_map h⟩
 ·subst hB; rw [hDC, hGG]; exact zr
 ·rw [hDC, ← hk2]
  exact ⟨rfl, ⟨_, rfl, zl⟩, trivial⟩
 rw [hDC]; exact fun _ _ h => h
theorem do_m (k0 : Nat) (b bM : Nat) (L : Shf) (hL : L.length ≤ 100000) (k : Int) (q : WntA) (hwn : q.x.r.n ≤ maxLen) (hl : LabOk q.lab) (hwb : U64 q.lab.bits) (hwx : U64 q.x.r.nx.bits) : SpecM Tryz.prog 19 [.ptr k0 b 0, wntV q] [(k0, ⟨b, 82, [.raw (.map (some bM)), .int .i64 k]⟩)] (some bM) (shK bM L) (fun y => ⟨.tup [gotV (gotA y (doL L q.abs).got), .int .i64 (doL L q.abs).err], [(k0, [.raw (.map (some bM)), .int .i64 (if (doL L q.abs).wrote then IntKind.i64.wrap (k + 1) else k)])], []⟩) (fun _ _ => shK bM (doL L q.abs).L) :=
 (do_m0 b bM L hL k q hwn hl hwb hwx).re (by repeat (first | exact trivial | refine ⟨Sim.ptr, ?_⟩ | refine ⟨Sim.fn ⟨Sim.ptr, trivial⟩ trivial, ?_⟩ | refine ⟨Sim.fn trivial ⟨Sim.ptr, trivial⟩, ?_⟩ | refine ⟨zr, ?_⟩)) rfl (fun x => ⟨rfl, rfl, zr, rfl⟩)
end Go.Proofs.YtphmfjhmdajlmaaGreat.Sym
namespace Go.Proofs.YtphmfjhmdajlmaaGreat.Sym
open Go Go.RowKit
open Go.Sort (flatK HoldsK putRowK get_flatK size_flatK)
section
variable {α : Type} [Inhabited α] {k : Nat} {cells : α → List AV} {w w' : World} {B e : Nat} {A : Option Addr} {n c : Nat} {h : Nat → α}
abbrev encV (cells : α → List AV) : α → List Value := fun x => (cells x).map AV.den
theorem flat_at (hk : ∀ x, (cells x).length = k) (d : Array α) (i j : Nat) (hi : i < d.size) (hj : j < k) : (flatK (encV cells) k d)[i * k + j]! = ((cells d[i]!).map AV.den)[j]! := by
 have hlt : i * k + j < d.size * k := by
  have : (i + 1) * k ≤ d.size * k := Nat.mul_le_mul_right k hi
  rw [Nat.add_mul, Nat.one_mul] at this
  omega
 rw [get_flatK _ _ _ _ hlt]
 have h1 : (i * k + j) / k = i := by rw [Nat.mul_comm, Nat.mul_add_div (by omega), Nat.div_eq_of_lt hj, Nat.add_zero]
 have h2 : (i * k + j) % k = j := by rw [Nat.mul_comm, Nat.mul_add_mod, Nat.mod_eq_of_lt hj]
 rw [h1, h2]
theorem holds_of_own (hk : ∀ x, (cells x).length = k) (hO : Own w B e k (.slice A n c) n (rowFlat (fun t => cells (h t)) n)) (hn : 0 < n) : ∃ b, A = some ⟨b, 0, none⟩ ∧ B ≤ b ∧ b < w.heap.size ∧ HoldsK (encV cells) k w b 0 ((List.range n).map h).toArray := by
 obtain ⟨b, hA, hb⟩ := own_head hO hn
 obtain ⟨h1, h2⟩ := hO.lt b hb
 refine ⟨b, hA, h1, h2, fun t ht => ?_⟩
 have hsz : ((List.range n).map h).toArray.size = n := by simp
 rw [size_flatK, hsz] at ht
 have hk0 : 0 < k := by rcases Nat.eq_zero_or_pos k with h0 | h0; rw [h0] at ht; omega; exact h0
 obtain ⟨i, j, hj, rfl⟩ : ∃ i j, j < k ∧ t = i * k + j := ⟨t / k, t % k, Nat.mod_lt _ hk0, by rw [Nat.mul_comm]; exact (Nat.div_add_mod t k).symm⟩
 have hi : i < n := by
  refine Nat.lt_of_not_le fun hle => ?_
  have := Nat.mul_le_mul_right k hle
  omega
 have hd : ((List.range n).map h).toArray[i]! = h i := by
  rw [getElem!_pos _ i (by rw [hsz]; exact hi)]; simp
 rw [flat_at hk _ i j (by rw [hsz]; exact hi) hj, hd, Nat.zero_add]
 have hg := rowFlat_get (cells := fun t => cells (h t)) (n := n) (fun i _ => hk _) hi hj
 have hjl : j < ((cells (h i)).map AV.den).length := by rw [List.length_map, hk]; exact hj
 rw [List.getElem?_eq_getElem hjl] at hg
 refine ⟨?_, ?_⟩
 ·rw [own_cells hO hb _ _ hg, getElem!_pos _ j hjl]; rfl
 obtain ⟨_, h2 | ⟨g, cap, cur, hv, _, hcur, _⟩⟩ := hO
 ·obtain ⟨h0, _⟩ := h2; omega
 injection hv with e1
 rw [hA] at e1
 injection e1 with e1
 injection e1 with e1
 subst e1
 simp [World.frozen?, hcur]
theorem heap_sort (d' : Array α) (m : Nat) (os : Array Obj) {b : Nat} (hb : b < w.heap.size) : (sortWorldK (encV cells) k w b 0 m d' os).heap[b]? = (w.heap[b]?).map (Go.Sort.onCells (Go.Sort.putCells id 0 (flatK (encV cells) k d'))) ∧ ∀ x, x < w.heap.size → x ≠ b → (sortWorldK (encV cells) k w b 0 m d' os).heap[x]? = w.heap[x]? := by
 have hsz : (putRowK (encV cells) k (Go.Sort.ahead w m) b 0 d').heap.size = w.heap.size := by simp [putRowK, Go.Sort.putRow, Go.Sort.mapBlock, Go.Sort.ahead]
 refine ⟨?_, fun x hx hne => ?_⟩
 ·unfold sortWorldK Go.Sort.grow
  simp only
  rw [Array.getElem?_append_left (by rw [hsz]; exact hb)]
  simp [putRowK, Go.Sort.putRow, Go.Sort.mapBlock, Go.Sort.ahead, Array.getElem?_modify]
 unfold sortWorldK Go.Sort.grow
 simp only
 rw [Array.getElem?_append_left (by rw [hsz]; exact hx)]
 simp [putRowK, Go.Sort.putRow, Go.Sort.mapBlock, Go.Sort.ahead, Array.getElem?_modify]
 intro e; exact absurd e.symm hne
theorem own_sort (hk : ∀ x, (cells x).length = k) (hO : Own w B e k (.slice A n c) n (rowFlat (fun t => cells (h t)) n)) (hn : 0 < n) {b : Nat} (hA : A = some ⟨b, 0, none⟩) (hb : b < w.heap.size) (d' : Array α) (hd : d'.size = n) (m : Nat) (os : Array Obj) :
  Own (sortWorldK (encV cells) k w b 0 m d' os) B e k (.slice A n c) n (rowFlat (fun t => cells d'[t]!) n) := by
 have hlen : (rowFlat (fun t => cells d'[t]!) n).length = n * k := rowFlat_len fun i _ => hk _
 refine ⟨hlen, ?_⟩
 rcases hO.2 with ⟨h0, _⟩ | ⟨g, cap, cur, hv, h1, h2, h3, h4, h5, h6, h7⟩
 ·omega
 injection hv with e1 e2 e3
 subst e3
 have : g = b := by rw [hA] at e1; injection e1 with e1; injection e1 with e1; exact e1.symm
 subst this
 subst e1
 right
 refine ⟨g, c, Go.Sort.putCells id 0 (flatK (encV cells) k d') cur, rfl, h1, ?_, h3, h4, h5, ?_, ?_⟩
 ·rw [(heap_sort d' m os hb).1, h2]; rfl
 ·simp [Go.Sort.putCells, h6]
 apply List.ext_getElem?
 intro t
 by_cases ht : t < n * k
 ·have hcs : t < cur.size := by
   rw [h6]; have := Nat.mul_le_mul_right k h3; omega
  rw [List.getElem?_take_of_lt ht]
  have hk0 : 0 < k := by rcases Nat.eq_zero_or_pos k with h0 | h0; rw [h0] at ht; omega; exact h0
  obtain ⟨i, j, hj, rfl⟩ : ∃ i j, j < k ∧ t = i * k + j := ⟨t / k, t % k, Nat.mod_lt _ hk0, by rw [Nat.mul_comm]; exact (Nat.div_add_mod t k).symm⟩
  have hi : i < n := by
   refine Nat.lt_of_not_le fun hle => ?_
   have := Nat.mul_le_mul_right k hle
   omega
  rw [rowFlat_get (cells := fun t => cells d'[t]!) (n := n) (fun i _ => hk _) hi hj]
  have hf := flat_at hk d' i j (by rw [hd]; exact hi) hj
  have hjl : j < ((cells d'[i]!).map AV.den).length := by rw [List.length_map, hk]; exact hj
  rw [getElem!_pos _ j hjl] at hf
  simp only [Array.getElem?_toList, Go.Sort.putCells, Array.getElem?_mapIdx, Array.getElem?_eq_getElem hcs, Option.map_some, Nat.zero_le, true_and, Nat.zero_add, Nat.sub_zero, size_flatK, hd, ht, if_true, id]
  rw [hf, List.getElem?_eq_getElem hjl]
 rw [List.getElem?_eq_none (by rw [List.length_take]; omega), List.getElem?_eq_none (by rw [hlen]; omega)]
theorem sorted_c {P : Program} {f : Nat} {fv : Value} {lt : α → α → Bool} (hk : ∀ x, (cells x).length = k) (hO : Own w B e k (.slice A n c) n (rowFlat (fun t => cells (h t)) n))
  (hc : ∀ b (d : Array α), d.size = n → HoldsK (encV cells) k w b 0 d → b < w.heap.size → Calls P f #[.slice (some ⟨b, 0, none⟩) d.size c, fv] w fun e w' => e = .returned (.tuple #[]) ∧ ∃ d' m os, Go.Sort.PermIn 0 d.size d d' ∧ Go.Sort.SortedIn lt 0 d.size d' ∧ w' = sortWorldK (encV cells) k w b 0 m d' os)
  (h0 : n = 0 → Calls P f #[.slice A 0 c, fv] w fun e w' => e = .returned (.tuple #[]) ∧ w' = w) :
  Calls P f #[.slice A n c, fv] w fun e' w' => e' = .returned (.tuple #[]) ∧ ∃ h' : Nat → α, ((List.range n).map h').Perm ((List.range n).map h) ∧ (∀ i j, i < j → j < n → lt (h' j) (h' i) = false) ∧ Own w' B e k (.slice A n c) n (rowFlat (fun t => cells (h' t)) n) ∧ Chg (fun x => ownB (.slice A n c) = some x) w w' := by
 rcases Nat.eq_zero_or_pos n with hn | hn
 ·subst hn
  refine (h0 rfl).mono ?_
  rintro e' w' ⟨rfl, rfl⟩
  exact ⟨rfl, h, .refl _, fun i j _ hj => absurd hj (Nat.not_lt_zero _), hO, Chg.refl _ _⟩
 obtain ⟨b, hA, hB, hb, hH⟩ := holds_of_own hk hO hn
 have hsz : ((List.range n).map h).toArray.size = n := by simp
 have := hc b _ hsz hH hb
 rw [hsz, ← hA] at this
 refine this.mono ?_
 rintro e' w' ⟨rfl, d', m, os, hp, hs, rfl⟩
 have hd : d'.size = n := by rw [hp.1, hsz]
 refine ⟨rfl, fun i => d'[i]!, ?_, fun i j hij hj => hs i j (Nat.zero_le _) hij hj, own_sort hk hO hn hA hb d' hd m os, ?_⟩
 ·have h3 := hp.2.2
  have e1 : (d'.extract 0 n).toList = (List.range n).map fun i => d'[i]! := by
   apply List.ext_getElem
   ·simp [hd]
   intro i g1 g2
   have hi : i < n := by simpa using g2
   simp [getElem!_pos d' i (by rw [hd]; exact hi)]
  have e2 : (((List.range n).map h).toArray.extract 0 n).toList = (List.range n).map h := by
   simp [List.take_of_length_le]
  rw [e1, e2] at h3
  exact h3
 have hown : ownB (.slice A n c) = some b := by
  obtain ⟨b', hA', hb'⟩ := own_head hO hn
  rw [hA] at hA'
  injection hA' with hA'; injection hA' with hA'
  rw [hA']; exact hb'
 refine ⟨rfl, rfl, rfl, ?_, fun x hx hne => (heap_sort d' m os hb).2 x hx (fun e => hne (by rw [e]; exact hown))⟩
 exact size_sortWorldK_c (encV cells) k w b 0 m d' os
end
theorem own_known {m : Nat → Nat → Prop} {w : World} {B e k : Nat} {A : Option Addr} {n c : Nat} {f : Nat → List AV} (hO : Own w B e k (.slice A n c) n (rowFlat f n)) (hk : ∀ i, i < n → (f i).length = k) (hm : ∀ b, ownB (.slice A n c) = some b → ∀ o, ¬ m b o) (h1 : ∀ i, i < n → ∀ v ∈ f i, v.one = true ∧ Ok m w v) (g : Option Nat) : Ok m w (.sl g A n c k f) := by
 obtain ⟨A', c', he, h2, h3⟩ := hO.isSlice
 injection he with e1 e2 e3; subst e3
 refine .sl _ _ _ _ _ _ h2 h3 hk (fun i hi => ?_) (fun i hi => ?_) (fun i hi v hv => (h1 i hi v hv).1) (fun i hi v hv => (h1 i hi v hv).2)
 ·obtain ⟨b, hA, _⟩ := own_head hO (by omega)
  exact ⟨b, 0, hA⟩
 obtain ⟨b, hA, hb⟩ := own_head hO (by omega)
 intro j u hu
 have hj : j < k := by
  have := (List.getElem?_eq_some_iff.1 hu).1
  rwa [List.length_map, hk i hi] at this
 have hget := rowFlat_get (cells := f) hk hi hj
 rw [hu] at hget
 exact ⟨b, 0, hA, by rw [Nat.zero_add]; exact own_cells hO hb _ u hget, hm b hb _⟩
theorem Fits.sorted {m0 : Nat → Nat → Prop} {w0 : World} {S : Nat → Prop} {ds : List Deferred} {K : Kn} {nt key : Nat} {t : Gr} {l l' : List (Nat × AV)} {mem : List (Nat × Blk)} {a : Act} {w w' : World} (h : Fits ⟨m0, w0, S, ds, K⟩ ⟨nt, l, [], mem, [(key, t)]⟩ a w) (hc : Chg (fun x => ownB t.v = some x) w w')
  (hl : ∀ x, (look l' x).known = true → a.tmps[x]? = some (look l' x).den ∧ Ok (St.m ⟨nt, l', [], mem, []⟩ ⟨m0, w0, S, ds, noK⟩) w' (look l' x)) (hm : ∀ k e, lookM mem k = some e → ∀ v ∈ e.cells, Ok (St.m ⟨nt, l', [], mem, []⟩ ⟨m0, w0, S, ds, noK⟩) w' v) : Fits ⟨m0, w0, S, ds, noK⟩ ⟨nt, l', [], mem, []⟩ a w' := by
 have hlt : ∀ b, ownB t.v = some b → w0.heap.size ≤ b := fun b hb => by
  obtain ⟨_, xs, ho⟩ := h.gr key t (by simp [lookM])
  exact (ho.lt b hb).1
 refine ⟨h.size, h.defers, hl, (fun t p v hg => by cases hg), fun k e he => ?_, h.nodup, (fun k t ht => by cases ht), (fun k t k' e ht => by cases ht), (fun k t k' t' b ht => by cases ht), ?_, h.m0, trivial⟩
 ·obtain ⟨h1, h2, h3⟩ := h.mem k e he
  refine ⟨?_, fun v hv => ⟨(h2 v hv).1, hm k e he v hv⟩, h3⟩
  rw [hc.block _ (lt_heap h1) (fun hb => h.sepm key t k e (by simp [lookM]) he hb)]
  exact h1
 exact h.chg.trans hc fun k hk hb => absurd hk (Nat.not_lt.2 (hlt k hb))
theorem Fits.notM {m0 : Nat → Nat → Prop} {w0 : World} {S : Nat → Prop} {ds : List Deferred} {K : Kn} {nt key : Nat} {t : Gr} {l l' : List (Nat × AV)} {mem : List (Nat × Blk)} {a : Act} {w : World} (h : Fits ⟨m0, w0, S, ds, K⟩ ⟨nt, l, [], mem, [(key, t)]⟩ a w) : ∀ b, ownB t.v = some b → ∀ o, ¬ St.m ⟨nt, l', [], mem, []⟩ ⟨m0, w0, S, ds, noK⟩ b o := by
 intro b hb o hm
 obtain ⟨_, xs, ho⟩ := h.gr key t (by simp [lookM])
 have h1 := (ho.lt b hb).1
 rcases hm with hm | ⟨k, e, he, hm⟩ | ⟨k, t', ht, _⟩
 ·exact absurd (h.m0 _ _ hm) (Nat.not_lt.2 h1)
 ·subst hm
  exact h.sepm key t k e (by simp [lookM]) he hb
 cases ht
end Go.Proofs.YtphmfjhmdajlmaaGreat.Sym
namespace Go.Proofs.YtphmfjhmdajlmaaGreat.Sym
open Go Go.RowKit
def cmpI (x y : Int) : Int := if x < y then -1 else if y < x then 1 else 0
theorem cmpU_c (x y : Int) (w : World) : Calls Tryz.prog 84 #[.int .u64 x, .int .u64 y] w fun e w' => e = .returned (.int .i64 (cmpI x y)) ∧ w' = w := by
 have hn : ∀ (x : Int) (w : World), Calls Tryz.prog 153 #[.int .u64 x] w fun e w' => e = .returned (.bool false) ∧ w' = w := by
  intro x w
  go_enter Tryz.func153, Tryz.ntmps153
  go_wp2_with fail
  go_ret
  simp
 unfold cmpI
 go_enter Tryz.func84, Tryz.ntmps84
 go_wp2_with (go_at_call 153; refine (hn _ _).mono ?_; rintro e w' ⟨rfl, rfl⟩)
 all_goals (go_ret; exact ⟨rfl, rfl⟩)
theorem cmpN_c (x y : Int) (w : World) : Calls Tryz.prog 85 #[.int .i64 x, .int .i64 y] w fun e w' => e = .returned (.int .i64 (cmpI x y)) ∧ w' = w := by
 have hn : ∀ (x : Int) (w : World), Calls Tryz.prog 154 #[.int .i64 x] w fun e w' => e = .returned (.bool false) ∧ w' = w := by
  intro x w
  go_enter Tryz.func154, Tryz.ntmps154
  go_wp2_with fail
  go_ret
  simp
 unfold cmpI
 go_enter Tryz.func85, Tryz.ntmps85
 go_wp2_with (go_at_call 154; refine (hn _ _).mono ?_; rintro e w' ⟨rfl, rfl⟩)
 all_goals (go_ret; exact ⟨rfl, rfl⟩)
theorem or_c (b : Nat) (x y : Int) (w : World) (h0 : w.cell? ⟨b, 0, none⟩ = some (.int .i64 x)) (h1 : w.cell? ⟨b, 1, none⟩ = some (.int .i64 y)) : Calls Tryz.prog 83 #[.slice (some ⟨b, 0, none⟩) 2 2] w fun e w' => e = .returned (.int .i64 (if x ≠ 0 then x else y)) ∧ w' = w := by
 go_enter Tryz.func83, Tryz.ntmps83
 go_wp2_with fail
 refine wp_loop_rounds 3 ?_
 simp only [Code.rounds]
 go_wp2_with fail
 all_goals (go_ret; first | exact ⟨rfl, rfl⟩ | (exfalso; simp_all; done) | (refine ⟨?_, rfl⟩; simp_all; done))
def GrF (W w : World) : Prop := ∃ q os, w = Go.Sort.grow (W.drewN q) os
theorem GrF.refl (W : World) : GrF W W := ⟨0, #[], by simp [Go.Sort.grow, World.drewN]⟩
theorem GrF.drew {W w : World} (h : GrF W w) : GrF W w.drew := by
 obtain ⟨q, os, rfl⟩ := h
 exact ⟨q + 1, os, rfl⟩
theorem GrF.alloc {W w : World} (h : GrF W w) (o : Obj) : GrF W (w.alloc o) := by
 obtain ⟨q, os, rfl⟩ := h
 exact ⟨q, os.push o, by simp [Go.Sort.grow, World.alloc, World.drewN]⟩
theorem GrF.size {W w : World} (h : GrF W w) : W.heap.size ≤ w.heap.size := by
 obtain ⟨q, os, rfl⟩ := h
 simp [Go.Sort.grow, World.drewN]
theorem cell_alloc {w : World} {a : Addr} {u : Value} (h : w.cell? a = some u) (o : Obj) : (w.alloc o).cell? a = some u := by
 have hl := World.block_lt_of_cell? w _ h
 unfold World.cell? at h ⊢
 rw [Below.heap_alloc _ _ _ hl]; exact h
theorem cell_drew {w : World} {a : Addr} {u : Value} (h : w.cell? a = some u) : w.drew.cell? a = some u := h
theorem new2_0 (w : World) (x y : Value) (t : TypeId) : (w.alloc (.cells #[x, y] t)).cell? ⟨w.heap.size, 0, none⟩ = some x := cell_of_row _ _ 0 _ _ _ (heap_alloc_new w _)
theorem new2_1 (w : World) (x y : Value) (t : TypeId) : (w.alloc (.cells #[x, y] t)).cell? ⟨w.heap.size, 1, none⟩ = some y := cell_of_row _ _ 1 _ _ _ (heap_alloc_new w _)
theorem size_alloc {n : Nat} {w : World} (h : n ≤ w.heap.size) (o : Obj) : n ≤ (w.alloc o).heap.size := by simp; omega
def cmpLab (a b : Lab) : Int := if cmpI a.bits b.bits ≠ 0 then cmpI a.bits b.bits else cmpI a.len b.len
theorem rowCmp_c (a b : RowA) (W : World) : Calls Tryz.prog 82 #[.agg ((rowC a).map AV.den).toArray, .agg ((rowC b).map AV.den).toArray] W fun e w' => e = .returned (.int .i64 (cmpLab a.lab b.lab)) ∧ GrF W w' := by
 obtain ⟨⟨al, ab⟩, av, ⟨aA, ac, ⟨an, af, ak, ⟨anl, anb⟩, am⟩⟩⟩ := a
 obtain ⟨⟨bl, bb⟩, bv, ⟨bA, bc, ⟨bn, bf, bk, ⟨bnl, bnb⟩, bm⟩⟩⟩ := b
 simp only [rowC, List.map_cons, List.map_nil, AV.den, cmpLab]
 have hU := fun w => cmpU_c ab bb w
 have hN := fun w => cmpN_c al bl w
 generalize cmpI ab bb = x at hU ⊢
 generalize cmpI al bl = y at hN ⊢
 have hO := fun b w h0 h1 => or_c b x y w h0 h1
 generalize (if x ≠ 0 then x else y) = r at hO ⊢
 go_enter Tryz.func82, Tryz.ntmps82
 go_wp2_with fail
 obtain ⟨W5, hW5⟩ := eqv ((W.alloc (.cells #[.int .i64 al, .int .u64 ab, .int .u64 av, .int .i64 ak, .slice aA an ac, .int .i64 anl, .int .u64 anb, .int .u64 am] 77)).alloc (.cells #[.int .i64 bl, .int .u64 bb, .int .u64 bv, .int .i64 bk, .slice bA bn bc, .int .i64 bnl, .int .u64 bnb, .int .u64 bm] 77))
 have hG : GrF W W5 := by rw [hW5]; exact ((GrF.refl W).alloc _).alloc _
 have hs : W5.heap.size = W.heap.size + 1 + 1 := by rw [hW5]; simp
 have z0 : W5.heap[W.heap.size]? = some (.cells #[.int .i64 al, .int .u64 ab, .int .u64 av, .int .i64 ak, .slice aA an ac, .int .i64 anl, .int .u64 anb, .int .u64 am] 77 (0, 0)) := by
  rw [hW5, Below.heap_alloc _ _ _ (by simp)]; exact heap_alloc_new W _
 have z1 : W5.heap[W.heap.size + 1]? = some (.cells #[.int .i64 bl, .int .u64 bb, .int .u64 bv, .int .i64 bk, .slice bA bn bc, .int .i64 bnl, .int .u64 bnb, .int .u64 bm] 77 (0, 0)) := by
  have := heap_alloc_new (W.alloc (.cells #[.int .i64 al, .int .u64 ab, .int .u64 av, .int .i64 ak, .slice aA an ac, .int .i64 anl, .int .u64 anb, .int .u64 am] 77)) (.cells #[.int .i64 bl, .int .u64 bb, .int .u64 bv, .int .i64 bk, .slice bA bn bc, .int .i64 bnl, .int .u64 bnb, .int .u64 bm] 77)
  rw [hW5]; simpa using this
 have c0 : W5.cell? ⟨W.heap.size, 0, none⟩ = some (.int .i64 al) := cell_of_row W5 _ 0 _ _ _ z0
 have c1 : W5.cell? ⟨W.heap.size, 1, none⟩ = some (.int .u64 ab) := cell_of_row W5 _ 1 _ _ _ z0
 have c2 : W5.cell? ⟨W.heap.size + 1, 0, none⟩ = some (.int .i64 bl) := cell_of_row W5 _ 0 _ _ _ z1
 have c3 : W5.cell? ⟨W.heap.size + 1, 1, none⟩ = some (.int .u64 bb) := cell_of_row W5 _ 1 _ _ _ z1
 clear z0 z1
 rw [← hW5]
 clear hW5
 clear hs
 go_region_held3 (fun w' => w'.cell? ⟨W.heap.size, 0, none⟩ = some (.int .i64 al) ∧ w'.cell? ⟨W.heap.size, 1, none⟩ = some (.int .u64 ab) ∧ w'.cell? ⟨W.heap.size + 1, 0, none⟩ = some (.int .i64 bl) ∧ w'.cell? ⟨W.heap.size + 1, 1, none⟩ = some (.int .u64 bb) ∧ W5.heap.size ≤ w'.heap.size ∧ GrF W w')
  ((go_split_ands; (repeat' apply And.intro) <;> first | with_reducible assumption | with_reducible exact GrF.drew (by assumption) | with_reducible exact GrF.alloc (by assumption) _ | with_reducible exact GrF.drew (GrF.alloc (by assumption) _) | with_reducible exact cell_alloc (by assumption) _ | with_reducible exact size_alloc (by assumption) _ | go_keep))
  (first | (go_at_call 84; refine (hU _).mono ?_; rintro e w' ⟨rfl, rfl⟩) | (go_at_call 85; refine (hN _).mono ?_; rintro e w' ⟨rfl, rfl⟩) | (go_at_call 83; refine (hO _ _ (by first | exact new2_0 _ _ _ _ | exact cell_drew (new2_0 _ _ _ _)) (by first | exact new2_1 _ _ _ _ | exact cell_drew (new2_1 _ _ _ _))).mono ?_; rintro e w' ⟨rfl, rfl⟩))
 all_goals (go_wp2_with fail; go_ret; exact ⟨rfl, by first | exact (hG.alloc _).drew | exact hG.alloc _⟩)
end Go.Proofs.YtphmfjhmdajlmaaGreat.Sym
namespace Go.Proofs
open Go.Shelf
def Tryz.sortRow_ren : Go.Shelf.Ren := ⟨fun | 6 => 81 | 15 => 152 | 14 => 151 | 28 => 211 | 29 => 212 | 20 => 203 | 21 => 204 | 22 => 205 | 23 => 206 | 24 => 207 | 25 => 208 | 26 => 209 | 27 => 210 | 46 => 237 | 47 => 238 | 48 => 239 | 49 => 240 | 50 => 241 | 57 => 272 | n => n, fun | 22 => 46 | 24 => 77 | 25 => 124 | 3 => 3 | 39 => 189 | 0 => 0 | 53 => 26 | 55 => 22 | 4 => 4 | 46 => 223 | 45 => 222 | 50 => 227 | 5 => 5 | 9 => 9 | 66 => 255 | 70 => 258 | 76 => 277 | 77 => 278 | n => n, fun | n => n⟩
theorem Tryz.sortRow : Go.Proofs.SlLaysF0.n6 Tryz.prog Tryz.sortRow_ren := {
 mixed := by kernel_rfl
 f6 := ⟨Tryz.f81.name, by decide, Tryz.func81.trans (congrArg some (by kernel_rfl))⟩
 f14 := ⟨Tryz.f151.name, by decide, Tryz.func151.trans (congrArg some (by kernel_rfl))⟩
 f15 := Tryz.func152.trans (congrArg some (by kernel_rfl))
 f20 := ⟨Tryz.f203.name, by decide, Tryz.func203.trans (congrArg some (by kernel_rfl))⟩
 f21 := ⟨Tryz.f204.name, by decide, Tryz.func204.trans (congrArg some (by kernel_rfl))⟩
 f22 := ⟨Tryz.f205.name, by decide, Tryz.func205.trans (congrArg some (by kernel_rfl))⟩
 f23 := ⟨Tryz.f206.name, by decide, Tryz.func206.trans (congrArg some (by kernel_rfl))⟩
 f24 := ⟨Tryz.f207.name, by decide, Tryz.func207.trans (congrArg some (by kernel_rfl))⟩
 f25 := ⟨Tryz.f208.name, by decide, Tryz.func208.trans (congrArg some (by kernel_rfl))⟩
 f26 := ⟨Tryz.f209.name, by decide, Tryz.func209.trans (congrArg some (by kernel_rfl))⟩
 f27 := ⟨Tryz.f210.name, by decide, Tryz.func210.trans (congrArg some (by kernel_rfl))⟩
 f28 := Tryz.func211.trans (congrArg some (by kernel_rfl))
 f29 := Tryz.func212.trans (congrArg some (by kernel_rfl))
 f46 := ⟨Tryz.f237.name, by decide, Tryz.func237.trans (congrArg some (by kernel_rfl))⟩
 f47 := Tryz.func238.trans (congrArg some (by kernel_rfl))
 f48 := Tryz.func239.trans (congrArg some (by kernel_rfl))
 f49 := ⟨Tryz.f240.name, by decide, Tryz.func240.trans (congrArg some (by kernel_rfl))⟩
 f50 := ⟨Tryz.f241.name, by decide, Tryz.func241.trans (congrArg some (by kernel_rfl))⟩
 f57 := ⟨Tryz.f272.name, by decide, Tryz.func272.trans (congrArg some (by kernel_rfl))⟩
 t0 := Tryz.underlying0
 a0 := Tryz.isAgg0
 z0 := Tryz.sizeOf0
 v0 := Tryz.zeroValue0
 t3 := Tryz.underlying3
 a3 := Tryz.isAgg3
 z3 := Tryz.sizeOf3
 v3 := Tryz.zeroValue3
 t4 := Tryz.underlying4
 a4 := Tryz.isAgg4
 z4 := Tryz.sizeOf4
 v4 := Tryz.zeroValue4
 t5 := Tryz.underlying5
 a5 := Tryz.isAgg5
 z5 := Tryz.sizeOf5
 v5 := Tryz.zeroValue5
 t9 := Tryz.underlying9
 a9 := Tryz.isAgg9
 z9 := Tryz.sizeOf9
 v9 := Tryz.zeroValue9
 t22 := Tryz.underlying46
 a22 := Tryz.isAgg46
 z22 := Tryz.sizeOf46
 v22 := Tryz.zeroValue46
 t25 := Tryz.underlying124
 a25 := Tryz.isAgg124
 z25 := Tryz.sizeOf124
 v25 := Tryz.zeroValue124
 t39 := Tryz.underlying189
 a39 := Tryz.isAgg189
 z39 := Tryz.sizeOf189
 v39 := Tryz.zeroValue189
 t45 := Tryz.underlying222
 a45 := Tryz.isAgg222
 z45 := Tryz.sizeOf222
 v45 := Tryz.zeroValue222
 t46 := Tryz.underlying223
 a46 := Tryz.isAgg223
 z46 := Tryz.sizeOf223
 v46 := Tryz.zeroValue223
 t50 := Tryz.underlying227
 a50 := Tryz.isAgg227
 z50 := Tryz.sizeOf227
 v50 := Tryz.zeroValue227
 t53 := Tryz.underlying26
 a53 := Tryz.isAgg26
 z53 := Tryz.sizeOf26
 v53 := Tryz.zeroValue26
 t55 := Tryz.underlying22
 a55 := Tryz.isAgg22
 z55 := Tryz.sizeOf22
 v55 := Tryz.zeroValue22
 t66 := Tryz.underlying255
 a66 := Tryz.isAgg255
 z66 := Tryz.sizeOf255
 v66 := Tryz.zeroValue255
 t70 := Tryz.underlying258
 a70 := Tryz.isAgg258
 z70 := Tryz.sizeOf258
 v70 := Tryz.zeroValue258
 t76 := Tryz.underlying277
 a76 := Tryz.isAgg277
 z76 := Tryz.sizeOf277
 v76 := Tryz.zeroValue277
 t77 := Tryz.underlying278
 a77 := Tryz.isAgg278
 z77 := Tryz.sizeOf278
 v77 := Tryz.zeroValue278 }
end Go.Proofs
namespace Go.Proofs.YtphmfjhmdajlmaaGreat.Sym
open Go Go.RowKit Go.Sort
instance : Inhabited RowA := ⟨zRow⟩
def labLt (a b : Lab) : Bool := decide (cmpLab a b < 0)
theorem labLt_iff (a b : Lab) : labLt a b = true ↔ a.bits < b.bits ∨ (a.bits = b.bits ∧ a.len < b.len) := by
 unfold labLt cmpLab cmpI
 rw [decide_eq_true_iff]
 split <;> rename_i h <;> (repeat' split at h) <;> (repeat' split) <;> omega
theorem labLt_not (a b : Lab) : labLt a b = false ↔ ¬ (a.bits < b.bits ∨ (a.bits = b.bits ∧ a.len < b.len)) := by
 rw [← labLt_iff]; simp
def cfRow (x y : RowA) : Int := cmpLab x.lab y.lab
theorem cfRow_lt (x y : RowA) : ltOf cfRow x y = labLt x.lab y.lab := rfl
theorem swoRow : SWO (ltOf cfRow) := by
 refine ⟨fun x => ?_, fun x y z h1 h2 => ?_, fun x y z h1 h2 => ?_⟩
 ·rw [cfRow_lt, labLt_not]; omega
 ·rw [cfRow_lt, labLt_iff] at *; omega
 rw [cfRow_lt, labLt_not] at *; omega
theorem sortRow_c {n B e : Nat} {A : Option Addr} {c : Nat} {h : Nat → RowA} {w : World} (hO : Own w B e 8 (.slice A n c) n (rowFlat (fun t => rowC (h t)) n)) (hn : n < 4611686018427387904) :
  Calls Tryz.prog 81 #[.slice A n c, .func (.func 82) #[] #[]] w fun e' w' => e' = .returned (.tuple #[]) ∧ ∃ h' : Nat → RowA, ((List.range n).map h').Perm ((List.range n).map h) ∧ (∀ i j, i < j → j < n → labLt (h' j).lab (h' i).lab = false) ∧ Own w' B e 8 (.slice A n c) n (rowFlat (fun t => rowC (h' t)) n) ∧ Chg (fun x => ownB (.slice A n c) = some x) w w' := by
 refine sorted_c (cells := rowC) (lt := ltOf cfRow) (k := 8) (fun _ => rfl) hO (fun b d hd hH hb => ?_) (fun h0 => ?_)
 ·have eg : ∀ args w, (callFunc 82 args).run Tryz.prog w = .ok (.enter 82 args) w := enters_of Tryz.func82 (by kernel_rfl) rfl
  have hcmp : CmpLays Tryz.prog 82 #[] (encV rowC) 8 cfRow b 0 d.size w := by
   intro m os dk hdk x y
   refine (rowCmp_c x y _).mono ?_
   rintro e w' ⟨rfl, q, os', rfl⟩
   exact ⟨rfl, q, os', rfl⟩
  have := AnyQ.slices_SortFunc Tryz.sortRow 8 (fun _ => by kernel_rfl) (fun _ => by kernel_rfl) (encV rowC) (fun _ => rfl) (fun x v hv => by
   simp only [encV, rowC, List.map_cons, List.map_nil, AV.den, List.mem_cons, List.not_mem_nil, or_false] at hv
   rcases hv with rfl | rfl | rfl | rfl | rfl | rfl | rfl | rfl <;> rfl) cfRow swoRow 82 #[] b 0 c d w eg hcmp hH hb (by omega)
  exact this
 exact AnyF.slices_SortFunc_none (P := Tryz.prog) (ρ := Tryz.sortRow_ren) { Tryz.sortRow with } A c _ w
end Go.Proofs.YtphmfjhmdajlmaaGreat.Sym
namespace Go.Proofs.YtphmfjhmdajlmaaGreat.Sym
open Go Go.RowKit
section
variable {m0 : Nat → Nat → Prop} {w0 : World} {S : Nat → Prop} {ds : List Deferred} {K : Kn} {P : Program} {Q : Exit → Act → World → Prop} {ops : Array Oper} {s : St} {a : Act} {w : World} {L rest : List Oper} {o : Oper}
open Go.Maps in
theorem man_next1 {it : Operand} {k : TypeId} {d b r n cnt : Nat} {D : DataW Value} {left : Lit → Bool} (hL : L = o :: rest) (hg : o.guard = none) (hop : o.op = .next it false) (hdst : o.dst = some d) (h : Fits ⟨m0, w0, S, ds, K⟩ s a w) (hd : d < s.nt) (hit : val s [] it = .raw (.pointer (some ⟨r, 0, none⟩)))
  (Kd : Keyed P k) (hM : w.ranges P k hR b r n D left cnt) (hC : r < w0.heap.size → S r)
  (K1 : Bool → Value → Value → Lit → Nat → Kn) (hK0 : ∀ m, K.p m w → (∀ kl, left kl = false) → (K1 false (.bool false) (.bool false) (.bool false) 0).p m w) (hK1 : ∀ key v kl cnt' m w', K.p m w → KeepB (some r) w m w' m → w'.ranges P k hR b r n D (fun x => left x && !x.sameKey kl) cnt' → EntryAt P w' r key v → (K1 true key v kl cnt').p m w')
  (K' : ∀ a' w' bb rest' key v kl cnt', (bb = false → ∀ kl, left kl = false) → (bb = true → Go.keyOf P k key = some kl ∧ left kl = true ∧ (∀ zd, D.atKey kl zd = .held v) ∧ cnt' < cnt) → Fits ⟨m0, w0, S, ds, K1 bb key v kl cnt'⟩ (s.put (some d) (.tup (.bool (.v bb) :: rest'))) a' w' → wpList P ops Q rest a' w') : wpList P ops Q L a w := by
 have hiv := (val_ok h (q := []) (fun _ h => by cases h) (x := it) (by rw [hit]; rfl)).1
 rw [hit] at hiv
 have hr0 : ∃ o', w.heap[r]? = some o' ∧ ∀ c t f, o' ≠ Obj.cells c t f := by
  obtain ⟨es, clock, since, seen, c0, _, _, _, _, hr, _⟩ := hM
  exact ⟨_, hr, fun c t f e => by cases e⟩
 obtain ⟨o', hr, hro⟩ := hr0
 refine man_op hL hg ?_
 unfold Oper.wp
 rcases hM.next Kd o.type with ⟨h0, hl, hrun⟩ | ⟨key, v, kl, y, w', cnt', hkey, hlk, hv, hat, hrun, hrg, hlt, hgr, hsz, hen⟩
 ·have e1 : (execOp a.eval o).run P w = .ok (.value (.tuple #[.bool false])) w := by simp [execOp, hop, hiv, hrun, Result.andThen, AV.den]
  rw [e1]
  simp only [Oper.upon]
  rw [hdst]
  exact K' _ _ false [] (.bool false) (.bool false) (.bool false) 0 (fun _ => hl) (fun h => by cases h) ((h.withK (hK0 _ h.kept hl)).put (some d) (fun t ht => by injection ht with ht; subst ht; exact hd) (.tup [.bool (.v false)]) (fun _ => .tup _ fun u hu => by simp at hu; subst hu; exact .bool _) _ fun _ => rfl)
 have e1 : (execOp a.eval o).run P w = .ok (.value (.tuple #[.bool true, key, v])) w' := by simp [execOp, hop, hiv, hrun, Result.andThen, AV.den]
 rw [e1]
 simp only [Oper.upon]
 rw [hdst]
 have hv' : y.1 = .held v := by unfold hR at hv; injection hv with hv; rw [← hv]
 have hea : EntryAt P w' r key v := by
  obtain ⟨es, clock, since, seen, c0, hb', _, _, _, hr', _⟩ := hrg
  exact ⟨⟨_, _, _, _, _, _, hr', hb'⟩, hen⟩
 have h2 := h.turn hr hro hgr hC (hK1 key v kl cnt' _ _ h.kept (turn_keepB hr hro hgr) hrg hea)
 refine K' _ _ true [.raw key, .raw v] key v kl cnt' (fun h => by cases h) (fun _ => ⟨hkey, hlk, fun zd => (hat zd).trans hv', hlt⟩) (h2.put (some d) (fun t ht => by injection ht with ht; subst ht; exact hd) (.tup [.bool (.v true), .raw key, .raw v]) (fun _ => .tup _ fun u hu => ?_) _ fun _ => rfl)
 simp only [List.mem_cons, List.not_mem_nil, or_false] at hu
 rcases hu with rfl | rfl | rfl
 ·exact .bool _
 ·exact .raw _
 exact .raw _
theorem own_flat {m : Nat → Nat → Prop} {w : World} {B e k : Nat} {g : Option Nat} {A : Option Addr} {n c : Nat} {f : Nat → List AV} {xs : List Value} (hO : Own w B e k (.slice A n c) n xs) (hk : Ok m w (.sl g A n c k f)) : xs = rowFlat f n := by
 cases hk with
 | sl _ _ _ _ _ _ h1 h2 h3 h4 h5 h6 h7 =>
  have hl1 := hO.1
  have hl2 := rowFlat_len (cells := f) (k := k) (n := n) h3
  apply List.ext_getElem
  ·rw [hl1, hl2]
  intro t g1 g2
  have ht : t < n * k := by rw [hl1] at g1; exact g1
  have hk0 : 0 < k := by rcases Nat.eq_zero_or_pos k with h0 | h0; rw [h0] at ht; omega; exact h0
  obtain ⟨i, j, hj, rfl⟩ : ∃ i j, j < k ∧ t = i * k + j := ⟨t / k, t % k, Nat.mod_lt _ hk0, by rw [Nat.mul_comm]; exact (Nat.div_add_mod t k).symm⟩
  have hi : i < n := by
   refine Nat.lt_of_not_le fun hle => ?_
   have := Nat.mul_le_mul_right k hle
   omega
  obtain ⟨b, hA, hb⟩ := own_head hO (by omega)
  have e1 := own_cells hO hb (i * k + j) _ (List.getElem?_eq_getElem g1)
  have hjl : j < ((f i).map AV.den).length := by rw [List.length_map, h3 i hi]; exact hj
  obtain ⟨b', off, hA', e2, _⟩ := h5 i hi j _ (List.getElem?_eq_getElem hjl)
  have hg := rowFlat_get (cells := f) h3 hi hj
  rw [List.getElem?_eq_getElem g2, List.getElem?_eq_getElem hjl] at hg
  rw [hA] at hA'
  injection hA' with hA'; injection hA' with q1 q2
  subst q1; subst q2
  rw [Nat.zero_add] at e2
  rw [e1] at e2
  injection e2 with e2
  injection hg with hg
  rw [e2, hg]
theorem man_sorted {nt key d : Nat} {t : Gr} {l : List (Nat × AV)} {mem : List (Nat × Blk)} {c : Call} {g : Operand} {f : FuncId} {args : List AV} (hL : L = o :: rest) (hg : o.guard = none) (hop : o.op = .call c) (hcal : c.callee = .value g) (hdst : o.dst = some d) (h : Fits ⟨m0, w0, S, ds, K⟩ ⟨nt, l, [], mem, [(key, t)]⟩ a w) (hgv : val ⟨nt, l, [], mem, [(key, t)]⟩ [] g = .fn f [] []) (hl : vals ⟨nt, l, [], mem, [(key, t)]⟩ [] c.args.toList = some args) (hen : Enters P f)
  (R : World → Prop) (hc : Calls P f (args.map AV.den).toArray w fun e w' => e = .returned (.tuple #[]) ∧ R w' ∧ Chg (fun x => ownB t.v = some x) w w')
  (K' : ∀ w', R w' → Chg (fun x => ownB t.v = some x) w w' → wpList P ops Q rest (a.put (some d) (.tuple #[])) w') : wpList P ops Q L a w := by
 refine man_op hL hg ?_
 obtain ⟨hrun, _⟩ := call_run hop hcal h hgv hl hen
 unfold Oper.wp
 rw [hrun]
 simp only [Oper.upon]
 simp only [List.nil_append, List.append_nil]
 refine hc.mono ?_
 rintro e w' ⟨rfl, h1, h2⟩
 rw [hdst]
 exact K' w' h1 h2
end
def rngK (D : DataW Value) (E : Adr) (b r : Nat) (L : Shf) (left : Lit → Bool) (cnt : Nat) : Kn := ⟨fun m w => ShD D E b L m w ∧ w.ranges Tryz.prog 24 hR b r L.length D left cnt, fun k h => ⟨h.1.keep k, ranges_keep k h.2⟩⟩
def stpK (D : DataW Value) (E : Adr) (b r : Nat) (L : Shf) (left : Lit → Bool) (bb : Bool) (key v : Value) (kl : Lit) (cnt : Nat) : Kn := ⟨fun m w => ShD D E b L m w ∧ (bb = true → w.ranges Tryz.prog 24 hR b r L.length D (fun x => left x && !x.sameKey kl) cnt ∧ EntryAt Tryz.prog w r key v), fun k h => ⟨h.1.keep k, fun hb => ⟨ranges_keep k (h.2 hb).1, entry_keep k (h.2 hb).2⟩⟩⟩
def entK (D : DataW Value) (E : Adr) (b r : Nat) (L : Shf) (left : Lit → Bool) (key v : Value) (cnt : Nat) : Kn := ⟨fun m w => ShD D E b L m w ∧ w.ranges Tryz.prog 24 hR b r L.length D left cnt ∧ EntryAt Tryz.prog w r key v, fun k h => ⟨h.1.keep k, ranges_keep k h.2.1, entry_keep k h.2.2⟩⟩
theorem ShD.entry {D : DataW Value} {E : Adr} {b : Nat} {L : Shf} {m : Nat → Nat → Prop} {w : World} (h : ShD D E b L m w) {key v : Value} {kl : Lit} (hk : Go.keyOf Tryz.prog 24 key = some kl) (hh : Maps.has D kl = true) (ha : ∀ zd, D.atKey kl zd = .held v) : ∃ p ∈ L, keyL p.1 = kl ∧ key = (labAV p.1).den ∧ v = (AV.agg (elC (elA E p.1 p.2))).den := by
 obtain ⟨p, hp, he⟩ := (h.has kl).1 hh
 refine ⟨p, hp, he, ?_, ?_⟩
 ·exact labK.inj hk (he ▸ key_lab (h.labs p hp))
 have h1 := h.at_ p hp (.held v)
 rw [he, ha] at h1
 injection h1
def rowOf (p : Lab × Spo) : Rw := ⟨p.1, p.2.ver, p.2.r⟩
theorem rowsL_eq (L : Shf) : rowsL L = (L.filter (fun p => p.2.has)).map rowOf := rfl
theorem rowsL_cons (p : Lab × Spo) (L : Shf) : rowsL (p :: L) = (if p.2.has then [rowOf p] else []) ++ rowsL L := by
 unfold rowsL
 rw [List.filter_cons]
 split <;> rfl
theorem rowsL_perm {L M : Shf} (h : L.Perm M) : (rowsL L).Perm (rowsL M) := (h.filter _).map _
theorem rowsL_len (L : Shf) : (rowsL L).length ≤ L.length := by
 rw [rowsL_eq, List.length_map]; exact List.length_filter_le _ _
theorem same_refl (l : Lab) : (keyL l).sameKey (keyL l) = true := by simp [keyL, Lit.sameKey]
theorem same_iff {l l' : Lab} (h : LabOk l) (h' : LabOk l') : (keyL l).sameKey (keyL l') = decide (l = l') := by
 by_cases he : l = l'
 ·subst he; rw [same_refl, decide_eq_true rfl]
 rw [decide_eq_false he]
 have : keyL l ≠ keyL l' := fun e => he (keyL_inj h h' e)
 unfold keyL at this ⊢
 simp only [Lit.sameKey]
 simpa using this
theorem left_step {left : Lit → Bool} {p : Lab × Spo} : ∀ {L : Shf}, Rises L → (∀ q ∈ L, LabOk q.1) → p ∈ L → left (keyL p.1) = true →
  (L.filter fun q => left (keyL q.1)).Perm (p :: L.filter fun q => left (keyL q.1) && !(keyL q.1).sameKey (keyL p.1))
 | q :: L, hr, hl, hp, h1 => by
  have hr' := List.pairwise_cons.1 hr
  rcases List.mem_cons.1 hp with rfl | hp
  ·rw [List.filter_cons, if_pos h1, List.filter_cons, same_refl]
   simp only [Bool.not_true, Bool.and_false, Bool.false_eq_true, if_false]
   refine List.Perm.cons _ ?_
   have : ∀ q ∈ L, (left (keyL q.1)) = (left (keyL q.1) && !(keyL q.1).sameKey (keyL p.1)) := by
    intro q hq
    rw [same_iff (hl q (by simp [hq])) (hl p (by simp)), decide_eq_false (fun e => less_ne (hr'.1 q hq) e.symm)]
    simp
   rw [List.filter_congr this]
  have hne : q.1 ≠ p.1 := less_ne (hr'.1 p hp)
  have ih := left_step hr'.2 (fun q hq => hl q (by simp [hq])) hp h1
  rw [List.filter_cons, List.filter_cons, same_iff (hl q (by simp)) (hl p (by simp [hp])), decide_eq_false hne]
  simp only [Bool.not_false, Bool.and_true]
  split
  ·exact (List.Perm.cons _ ih).trans (List.Perm.swap _ _ _)
  exact ih
theorem rows_step {left : Lit → Bool} {p : Lab × Spo} {L : Shf} (hr : Rises L) (hl : ∀ q ∈ L, LabOk q.1) (hp : p ∈ L) (h1 : left (keyL p.1) = true) {R : List Rw} (h : (R ++ rowsL (L.filter fun q => left (keyL q.1))).Perm (rowsL L)) :
  ((R ++ if p.2.has = true then [rowOf p] else []) ++ rowsL (L.filter fun q => left (keyL q.1) && !(keyL q.1).sameKey (keyL p.1))).Perm (rowsL L) := by
 refine List.Perm.trans ?_ h
 rw [List.append_assoc]
 refine List.Perm.append_left _ ?_
 have := rowsL_perm (left_step hr hl hp h1)
 rw [rowsL_cons] at this
 exact this.symm
theorem rowsL_mem {L : Shf} {x : Rw} (h : x ∈ rowsL L) : ∃ p ∈ L, p.2.has = true ∧ rowOf p = x := by
 rw [rowsL_eq] at h
 obtain ⟨p, hp, he⟩ := List.mem_map.1 h
 have := List.mem_filter.1 hp
 exact ⟨p, this.1, this.2, he⟩
theorem rowsL_rises {L : Shf} (h : Rises L) : (rowsL L).Pairwise fun a b => lessL a.lab b.lab = true := by
 rw [rowsL_eq, List.pairwise_map]
 exact (List.Pairwise.filter _ h)
theorem labLt_less (a b : Lab) : labLt a b = lessL a b := by
 rw [Bool.eq_iff_iff, labLt_iff]
 simp [lessL]
def leRw (a b : Rw) : Prop := labLt b.lab a.lab = false
theorem rows_sorted {L : Shf} (hr : Rises L) {R : List Rw} (hp : R.Perm (rowsL L)) (hs : R.Pairwise leRw) : R = rowsL L := by
 refine List.Perm.eq_of_pairwise (le := leRw) ?_ hs ?_ hp
 ·intro a b ha hb h1 h2
  have hl : a.lab = b.lab := by
   unfold leRw at h1 h2
   rw [labLt_less] at h1 h2
   rcases less_total a.lab b.lab with h | h | h
   ·rw [h] at h2; cases h2
   ·exact h
   rw [h] at h1; cases h1
  obtain ⟨p, hp1, _, rfl⟩ := rowsL_mem (hp.mem_iff.1 ha)
  obtain ⟨q, hq1, _, rfl⟩ := rowsL_mem hb
  have e1 := mem_find hr hp1
  have e2 := mem_find hr hq1
  have hl' : p.1 = q.1 := hl
  rw [hl', e2] at e1
  injection e1 with e1
  have : p = q := Prod.ext hl' e1.symm
  rw [this]
 refine (rowsL_rises hr).imp ?_
 intro a b h
 unfold leRw
 rw [labLt_less]
 rcases hx : lessL b.lab a.lab with _ | _
 ·rfl
 have := less_trans h hx
 rw [less_irr] at this; cases this
theorem rows_fin {L : Shf} (hr : Rises L) {h h' : Nat → RowA} {k : Nat} (hp : (rwsA h k).Perm (rowsL L)) (hp' : ((List.range k).map h').Perm ((List.range k).map h)) (hs : ∀ i j, i < j → j < k → labLt (h' j).lab (h' i).lab = false) : rwsA h' k = rowsL L := by
 refine rows_sorted hr ?_ ?_
 ·refine List.Perm.trans ?_ hp
  have := hp'.map RowA.abs
  simp only [List.map_map] at this
  exact this
 rw [List.pairwise_iff_getElem]
 intro i j hi hj hij
 have hj' : j < k := by rw [listA_len] at hj; exact hj
 have hi' : i < k := by omega
 have e : ∀ t (g : t < (rwsA h' k).length), t < k → (rwsA h' k)[t] = (h' t).abs := by
  intro t g ht
  have := listA_get RowA.abs h' ht
  rw [List.getElem?_eq_getElem g] at this
  exact Option.some.inj this
 rw [e i hi hi', e j hj hj']
 exact hs i j hij hj'
theorem one_of_el {m : Nat → Nat → Prop} {w : World} {el : SpA} (h : Ok m w (.agg (elC el))) : ∀ v ∈ rowC el.w, v.one = true ∧ Ok m w v := by
 cases h with
 | agg _ h1 h2 =>
  intro v hv
  simp only [rowC, List.mem_cons, List.not_mem_nil, or_false] at hv
  rcases hv with rfl | rfl | rfl | rfl | rfl | rfl | rfl | rfl
  ·exact ⟨rfl, .int _ _⟩
  ·exact ⟨rfl, .int _ _⟩
  ·exact ⟨rfl, .int _ _⟩
  ·exact ⟨rfl, .int _ _⟩
  ·exact ⟨h1 _ (by simp [elC]), h2 _ (by simp [elC])⟩
  ·exact ⟨rfl, .int _ _⟩
  ·exact ⟨rfl, .int _ _⟩
  exact ⟨rfl, .int _ _⟩
theorem sorted_ok {m : Nat → Nat → Prop} {w w1 w' : World} {pre : List (Nat × Blk)} {ds : List Deferred} {K : Kn} {nt key : Nat} {t : Gr} {l l' : List (Nat × AV)} {mem : List (Nat × Blk)} {a : Act} (h : Fits ⟨m, w, ats pre, ds, K⟩ ⟨nt, l, [], mem, [(key, t)]⟩ a w1) (hp : PreOk m w pre) (hc : Chg (fun x => ownB t.v = some x) w1 w') {v : AV} (hv : Ok m w v) : Ok (St.m ⟨nt, l', [], mem, []⟩ ⟨m, w, ats pre, ds, noK⟩) w' v := by
 refine hv.mono fun b o u hcell hn => ?_
 have hlt := World.block_lt_of_cell? w _ hcell
 have hna : ¬ ats pre b := by
  rintro ⟨e, he, rfl⟩
  exact hn (hp.free e he o)
 have hown : ownB t.v ≠ some b := by
  intro hb
  obtain ⟨_, xs, ho⟩ := h.gr key t (by simp [lookM])
  exact absurd hlt (Nat.not_lt.2 (ho.lt b hb).1)
 refine ⟨?_, ?_⟩
 ·have e1 := h.chg.block b hlt hna
  have e2 := hc.block b (Nat.lt_of_lt_of_le hlt h.chg.size) hown
  unfold World.cell? at hcell ⊢
  rw [e2, e1]; exact hcell
 rintro (h1 | ⟨k, e, he, h1⟩ | ⟨k, t', ht, _⟩)
 ·exact hn h1
 ·subst h1
  rcases (h.mem k e he).2.2 with h2 | h2
  ·exact absurd hlt (Nat.not_lt.2 h2)
  exact hna h2
 cases ht
theorem SpecR.re {P : Program} {K : Kn} {f : FuncId} {args args' : List AV} {pre pre' : List (Nat × Blk)} {res res' : Atom → AV} (h : SpecR P K f args pre res) (ha : SimL args' args) (hp : pre'.map (·.2) = pre.map (·.2)) (hr : ∀ x, Sim (res x) (res' x)) : SpecR P K f args' pre' res' := by
 intro m w h1 h2 h3 hI
 rw [ha.map]
 refine (h m w h1 (ha.ok h2) (h3.re hp.symm) hI).mono ?_
 rintro e w' ⟨x, rfl, hok, hl⟩
 exact ⟨x, by rw [(hr x).1], (hr x).2.2 _ _ hok, hl⟩
theorem lab_ok' {m : Nat → Nat → Prop} {w : World} (x y : Int) : Ok m w (.agg [.int .i64 x, .int .u64 y]) := by
 refine .agg _ (fun v hv => ?_) fun v hv => ?_
 ·simp only [List.mem_cons, List.not_mem_nil, or_false] at hv
  rcases hv with rfl | rfl <;> rfl
 simp only [List.mem_cons, List.not_mem_nil, or_false] at hv
 rcases hv with rfl | rfl <;> exact .int _ _
theorem elA_abs (E : Adr) (p : Lab × Spo) : (elA E p.1 p.2).w.abs = rowOf p := by
 unfold elA RowA.abs rowOf
 simp only [rn_abs]
theorem enters81 : Enters Tryz.prog 81 := fun _ _ => by kernel_rfl
theorem rows_start {D : DataW Value} {E : Adr} {b : Nat} {L : Shf} {m : Nat → Nat → Prop} {w : World} (h : ShD D E b L m w) : (rwsA (fun _ => zRow) 0 ++ rowsL (L.filter fun q => Maps.has D (keyL q.1))).Perm (rowsL L) := by
 have : L.filter (fun q => Maps.has D (keyL q.1)) = L := List.filter_eq_self.2 fun q hq => (h.has _).2 ⟨q, hq, rfl⟩
 rw [this]
 exact List.Perm.refl _
theorem rows_r0 (b bM : Nat) (L : Shf) (hL : L.length ≤ 100000) (k : Int) : SpecR Tryz.prog (shK bM L) 41 [.ptr 0 b 0] [(0, ⟨b, 82, [.raw (.map (some bM)), .int .i64 k]⟩)] (fun y => rowsV (y.A 0) (rowsL L).length (y.c 0) (rwAt y (rowsL L))) := by
 apply SpecR.of
 intro m w hm hargs hpre hI
 have hmx : maxLen = 9223372036854775807 := rfl
 obtain ⟨D, E, hI1⟩ := hI
 obtain ⟨es0, cl0, hmap0, _⟩ := hI1.map
 have hlt : bM < w.heap.size := lt_heap hmap0
 have hI : (shD D E bM L).p m w := hI1
 refine enR 32 hm hpre hI hargs Tryz.func41 fun B hB a0 hF => ?_
 refine wp_seq (rg hB TA_ok [0] [0] [] hF fun X0 a0 w1 hF => ?_)
 refine wp_seq (wp_seq (rg hB TA_ok [7, 0] [0] [] hF fun X1 a0 w1 hF => ?_))
 refine test_ff hF rfl (fun hF => ?_)
 refine wp_skip (wp_seq (rg hB TA_ok [3, 0] [0, 3] [] hF fun X3 a0 w1 hF => ?_))
 refine wp_seq (wp_seq (wp_region_lit (lpr 0 4 hB TA_ok [11, 3] [0, 3] [] hF fun X4_0 a0 w1 hF => ?_)))
 have hSh : ShD D E bM L _ _ := hF.kept
 obtain ⟨rr, hrr⟩ := eqv (w1.heap.size)
 refine man_range rfl rfl rfl rfl hF (Nat.le_of_ble_eq_true rfl) rfl labK map_und' hSh.map (rngK D E bM rr L (Maps.has D) (Maps.size D)) (fun m w' h1 h2 h3 => ⟨h1.keep h2, by rw [hrr]; exact h3⟩) ?_
 rw [← hrr]
 intro a0 w1 hfr hF
 have hne : some rr ≠ some bM := by
  intro e; injection e with e
  have : w.heap.size ≤ rr := hfr
  omega
 have hF : Fits ⟨m, w, ats [(0, ⟨b, 82, [.raw (.map (some bM)), .int .i64 k]⟩)], [], rngK D E bM rr L (Maps.has D) (Maps.size D)⟩ ⟨32, [(3, .sl (some 3) none 0 0 8 (fun _ => [])), (12, .raw (.pointer (some ⟨rr, 0, none⟩)))], [], [(0, ⟨b, 82, [.raw (.map (some bM)), .int .i64 k]⟩)], [(3, ⟨none, 0, 0, 8, 77⟩)]⟩ a0 w1 := hF.keep [3,12] [0,3]
 replace hF := hF.headS (v' := .sl (some 3) none 0 0 8 (fun t => rowC zRow)) (zq0) rfl
 refine wpList_nil (wp_block (loop_preK (ι := Nat × (Nat → RowA) × Option Addr × Nat × (Lit → Bool) × Nat) (fun p => rngK D E bM rr L p.2.2.2.2.1 p.2.2.2.2.2) (fun p => [(3, .sl (some 3) p.2.2.1 p.1 p.2.2.2.1 8 (fun t => rowC (p.2.1 t)))]) (fun p => []) (fun p => [(3, ⟨p.2.2.1, p.1, p.2.2.2.1, 8, 77⟩)]) (fun p => (∀ kl, p.2.2.2.2.1 kl = true → Maps.has D kl = true) ∧ (rwsA p.2.1 p.1 ++ rowsL (L.filter fun q => p.2.2.2.2.1 (keyL q.1))).Perm (rowsL L) ∧ ∀ t, t < p.1 → ∃ q ∈ L, p.2.1 t = (elA E q.1 q.2).w) (fun p => p.2.2.2.2.2) (0, fun _ => zRow, none, 0, Maps.has D, Maps.size D) ⟨fun _ h => h, rows_start hI, fun t ht => absurd ht (Nat.not_lt_zero _)⟩ hF ?_))
 rintro ⟨k1, h, A1, c1, left, cnt⟩ ⟨hlft, hprm, hels⟩ a0 w1 hF
 try dsimp only at hlft
 try dsimp only at hprm
 try dsimp only at hels
 replace hF := hF.withK (K' := rngK D E bM rr L left cnt) hF.kept
 refine wp_seq (wp_region_lit (man_next1 rfl rfl rfl rfl hF (Nat.le_of_ble_eq_true rfl) rfl labK hF.kept.2 (fun h => absurd h (Nat.not_lt.2 hfr)) (stpK D E bM rr L left) (fun m h _ => ⟨h.1, fun h => by cases h⟩) (fun key v kl cnt' m w' h1 h2 h3 h4 => ⟨h1.1.keepB h2 hne, fun _ => ⟨h3, h4⟩⟩) ?_))
 intro a0 w1 bb rest' key v kl cnt' hn0 hn1 hF
 refine lnd 1 hB TA_ok [14, 3, 12] [0, 3] [] hF fun X5 a0 w1 hF => ?_
 refine wp_seq (test_ok hF rfl (fun hb hF => ?_) (fun hb hF => ?_))
 ·have hbb : bb = true := by subst hB; exact hb
  obtain ⟨hnx1, hnx2, hnx3, hnx4⟩ := hn1 hbb
  replace hF := hF.withK (K' := entK D E bM rr L (fun x => left x && !x.sameKey kl) key v cnt') ⟨hF.kept.1, hF.kept.2 hbb⟩
  obtain ⟨hSh, hrg, hent⟩ := hF.kept
  obtain ⟨p, hp, hpk, hpkey, hpv⟩ := hSh.entry hnx1 (hlft _ hnx2) hnx3
  have hok := hSh.ok p hp
  obtain ⟨el, hel⟩ := eqv (elA E p.1 p.2)
  rw [← hel] at hok hpv
  have hel_has : el.has = p.2.has := by rw [hel]
  have hkd : key = (AV.agg [.int .i64 el.w.lab.len, .int .u64 el.w.lab.bits]).den := by rw [hel]; exact hpkey
  refine wp_skip (wp_block (wp_seq (wp_region_lit ?_)))
  rw [hkd, hpv] at hent
  refine man_entry rfl rfl rfl rfl hF (Nat.le_of_ble_eq_true rfl) rfl hent (lab_ok' _ _) hok ?_
  intro a0 hF
  refine lnd 1 hB TA_ok [3, 12, 4, 5] [0, 4, 5, 3] [] hF fun X6 a0 w1 hF => ?_
  replace hF := hF.withK (K' := rngK D E bM rr L (fun x => left x && !x.sameKey kl) cnt') ⟨hF.kept.1, hF.kept.2.1⟩
  refine wp_seq (rg hB TA_ok [19, 3, 12, 4, 5] [0, 4, 5, 3] [] hF fun X7 a0 w1 hF => ?_)
  apply test_ok hF rfl <;> intro hb hF
  ·have hhas : el.has = true := by subst hB; exact hb
   refine rg hB TA_ok [3, 12] [0, 3] [] hF (hob := ?hob) fun X8 a0 w1 hF => ?_
   case hob =>
    intro X
    have hkL : k1 ≤ L.length := by
     have h9 := hprm.length_eq
     rw [List.length_append, listA_len] at h9
     have := rowsL_len L
     omega
    subst hB
    repeat (first | exact trivial | refine ⟨⟨rfl, rfl, rfl⟩, ?_⟩ | refine ⟨rfl, ?_⟩ | refine ⟨⟨show k1 + 1 ≤ maxLen by omega, show (k1 + 1) * _ ≤ _ by omega⟩, ?_⟩)
   replace hF := hF.headS (v' := .sl (some 3) ((X8 8).A 0) (B.nadd k1 1) ((X8 8).c 0) 8 (fun t => rowC (if t = k1 then el.w else h t))) (Sim.resl rfl (fun t ht => by
    subst hB
    have ht2 : t < k1 + 1 := ht
    show appC k1 (fun t => rowC (h t)) (chunk 8 (rowC el.w)) t = _
    unfold appC
    split
    ·rw [if_neg (by omega)]
    have : t = k1 := by omega
    subst this
    rw [if_pos rfl]
    simp [chunk])) rfl
   refine ⟨(k1 + 1, fun t => if t = k1 then el.w else h t, _, _, (fun x => left x && !x.sameKey kl), cnt'), ⟨?_, ?_, ?_⟩, hnx4, by rw [show k1 + 1 = B.nadd k1 1 by subst hB; rfl]; exact hF⟩
   ·intro x hx
    simp only [Bool.and_eq_true] at hx
    exact hlft _ hx.1
   ·have h9 := rows_step hSh.ris hSh.labs hp (hpk ▸ hnx2) hprm
    rw [hpk, if_pos (by rw [← hel_has]; exact hhas)] at h9
    have e9 : rwsA (fun t => if t = k1 then el.w else h t) (k1 + 1) = rwsA h k1 ++ [rowOf p] := by
     show listA RowA.abs _ (k1 + 1) = listA RowA.abs h k1 ++ _
     rw [listA_succ]
     simp only [if_true]
     congr 1
     ·unfold listA
      apply List.map_congr_left
      intro t ht
      have h5 := List.mem_range.1 ht
      show RowA.abs (if t = k1 then el.w else h t) = _
      rw [if_neg (by omega)]
     rw [hel, elA_abs]
    simp only
    rw [e9]
    exact h9
   intro t ht
   simp only at ht ⊢
   by_cases he : t = k1
   ·rw [if_pos he]; exact ⟨p, hp, by rw [hel]⟩
   rw [if_neg he]; exact hels t (by omega)
  have hhas : ¬ el.has = true := by subst hB; rw [show el.has = false from hb]; simp
  refine wp_skip (⟨(k1, h, A1, c1, (fun x => left x && !x.sameKey kl), cnt'), ⟨?_, ?_, hels⟩, hnx4, hF.keep [3,12] [0,3]⟩)
  ·intro x hx
   simp only [Bool.and_eq_true] at hx
   exact hlft _ hx.1
  have h9 := rows_step hSh.ris hSh.labs hp (hpk ▸ hnx2) hprm
  rw [hpk, if_neg (by rw [← hel_has]; exact hhas), List.append_nil] at h9
  exact h9
 have hbb : bb = false := by subst hB; exact hb
 have hall := hn0 hbb
 replace hF := hF.withK (K' := shD D E bM L) hF.kept.1
 refine wp_exit (wp_seq (wp_region_lit (lpr 0 1 hB TA_ok [29, 3] [0, 3] [] hF fun X9_0 a0 w1 hF => ?_)))
 have hSh : ShD D E bM L _ _ := hF.kept
 have hprm2 : (rwsA h k1).Perm (rowsL L) := by
  have e9 : (L.filter fun q => left (keyL q.1)) = [] := List.filter_eq_nil_iff.2 fun q _ => by rw [hall]; simp
  rw [e9] at hprm
  simpa [rowsL] using hprm
 have hkL : k1 ≤ L.length := by
  have h9 := hprm2.length_eq
  rw [listA_len] at h9
  have := rowsL_len L
  omega
 obtain ⟨_, xs, hO⟩ := hF.gr 3 ⟨A1, k1, c1, 8, 77⟩ rfl
 have hs3 := hF.slot 3 rfl
 have hk3 : Ok _ w1 (.sl (some 3) A1 k1 c1 8 (fun t => rowC (h t))) := hs3.2
 have hd3 : a0.tmps[3]? = some (AV.sl (some 3) A1 k1 c1 8 (fun t => rowC (h t))).den := hs3.1
 have hfl := own_flat hO hk3
 rw [hfl] at hO
 have hO : Own w1 w.heap.size 77 8 (.slice A1 k1 c1) k1 (rowFlat (fun t => rowC (h t)) k1) := hO
 refine man_sorted rfl rfl rfl rfl rfl hF rfl rfl enters81 (fun w' => ∃ h' : Nat → RowA, ((List.range k1).map h').Perm ((List.range k1).map h) ∧ (∀ i j, i < j → j < k1 → labLt (h' j).lab (h' i).lab = false) ∧ Own w' w.heap.size 77 8 (.slice A1 k1 c1) k1 (rowFlat (fun t => rowC (h' t)) k1)) ((sortRow_c hO (by omega)).mono ?_) ?_
 ·rintro e w2 ⟨he, h', g1, g2, g3, g4⟩
  exact ⟨he, ⟨h', g1, g2, g3⟩, g4⟩
 rintro w2 ⟨h', g1, g2, g3⟩ g4
 have hfin := rows_fin hSh.ris hprm2 g1 g2
 have hF2 := Fits.sorted hF g4 (l' := [(3, .sl none A1 k1 c1 8 (fun t => rowC (h' t)))]) (fun x hx => ?hl) (fun x e he v hv => ?hm)
 case hl =>
  by_cases hx3 : x = 3
  ·subst hx3
   refine ⟨hd3, own_known g3 (fun _ _ => rfl) (Fits.notM hF) (fun i hi => ?_) none⟩
   have hmem := g1.mem_iff.1 (List.mem_map.2 ⟨i, List.mem_range.2 hi, rfl⟩)
   obtain ⟨j, hj, hje⟩ := List.mem_map.1 hmem
   obtain ⟨q, hq, hqe⟩ := hels j (List.mem_range.1 hj)
   rw [← hje, hqe]
   exact one_of_el (sorted_ok hF hpre g4 (hI.ok q hq))
  have : look [(3, AV.sl none A1 k1 c1 8 (fun t => rowC (h' t)))] x = .undef := by rw [look_cons, if_neg (fun e => hx3 e.symm)]; rfl
  rw [this] at hx; cases hx
 case hm =>
  by_cases hx3 : 0 = x
  ·subst hx3
   simp only [lookM, List.lookup, List.find?] at he
   simp at he
   subst he
   simp only [List.mem_cons, List.not_mem_nil, or_false] at hv
   rcases hv with rfl | rfl
   ·exact .raw _
   exact .int _ _
  rw [lookM_cons, if_neg hx3] at he; cases he
 have hF : Fits _ _ (a0.put (some 30) (.tuple #[])) w2 := hF2.put (some 30) (fun t ht => by injection ht with ht; subst ht; exact Nat.le_of_ble_eq_true rfl) (.tup []) (fun _ => .tup _ fun u hu => by cases hu) _ fun _ => rfl
 refine wpList_nil (wp_seq (rg hB TA_ok [2] [0] [] hF fun X10 a0 w1 hF => ?_))
 refine wp_ret ((rx hB TA_ok hF (rwY A1 c1 h' 0) [] (he := ?_) (hs := ?_)).1)
 ·subst hB; exact rws_sim hfin
 exact ⟨rfl, ⟨_, rfl, zl⟩, trivial⟩
theorem rows_r (k0 : Nat) (b bM : Nat) (L : Shf) (hL : L.length ≤ 100000) (k : Int) : SpecR Tryz.prog (shK bM L) 41 [.ptr k0 b 0] [(k0, ⟨b, 82, [.raw (.map (some bM)), .int .i64 k]⟩)] (fun y => rowsV (y.A 0) (rowsL L).length (y.c 0) (rwAt y (rowsL L))) :=
 (rows_r0 b bM L hL k).re (by repeat (first | exact trivial | refine ⟨Sim.ptr, ?_⟩ | refine ⟨Sim.fn ⟨Sim.ptr, trivial⟩ trivial, ?_⟩ | refine ⟨Sim.fn trivial ⟨Sim.ptr, trivial⟩, ?_⟩ | refine ⟨zr, ?_⟩)) rfl (fun x => zr)
theorem Fits.swap {C : Cx} {nt i j : Nat} {u v : AV} {l : List (Nat × AV)} {mem : List (Nat × Blk)} {gr : List (Nat × Gr)} {a : Act} {w : World} (h : Fits C ⟨nt, (i, u) :: (j, v) :: l, [], mem, gr⟩ a w) (hne : i ≠ j := by decide) : Fits C ⟨nt, (j, v) :: (i, u) :: l, [], mem, gr⟩ a w :=
 h.alike ⟨rfl, fun k => by
  simp only [look_cons]
  by_cases h1 : i = k
  ·by_cases h2 : j = k
   ·exact absurd (h1.trans h2.symm) hne
   simp [h1, h2]
  simp [h1], fun _ => rfl, fun _ => rfl, fun _ => rfl⟩
theorem bigs_s (A : Option Addr) (n c : Nat) (f : Nat → RowA) (hn : n ≤ maxLen) : Spec Tryz.prog 17 [rowsV A n c f] (fun _ => .bool (.v (if n ≤ 300 then bigS n f else true))) := by
 intro m w hm hargs
 have hmx : maxLen = 9223372036854775807 := rfl
 have hln := rows_len (hargs (rowsV A n c f) (by simp))
 refine en 38 hm hargs Tryz.func17 fun B hB a0 hF => ?_
 refine wp_seq (rg hB TA_ok [0] [] [] hF fun X0 a0 w1 hF => ?_)
 refine wp_seq (rg hB TA_ok [3, 0] [] [] hF fun X1 a0 w1 hF => ?_)
 refine wp_seq (wp_seq (rg hB TA_ok [3, 4, 0] [] [] hF fun X2 a0 w1 hF => ?_))
 refine wp_block (loop_pre (ι := Nat × Int) (fun p => [(3, .int .i64 p.2), (4, .int .i64 (p.1 : Int))]) (fun p => []) (fun p => []) (fun p => p.1 ≤ n ∧ p.2 = sumW f p.1 ∧ ∀ i, i < p.1 → bigF (f i).x.r.n (f i).x.r.f = false) (fun p => n - p.1) (0, 0) ⟨Nat.zero_le _, rfl, fun i hi => absurd hi (Nat.not_lt_zero _)⟩ hF ?_)
 rintro ⟨i, s⟩ ⟨hi, hs, hal⟩ a0 w1 hF
 try dsimp only at hi
 try dsimp only at hs
 try dsimp only at hal
 refine wp_seq (wp_seq (rg hB TA_ok [13, 3, 4, 0] [] [] hF fun X3 a0 w1 hF => ?_))
 apply test_ok hF rfl <;> intro hb hF
 ·have h9 : (if decide ((i : Int) < (n : Int)) = true then decide ((n : Int) ≤ 300) else false) = true := by subst hB; exact hb
  rw [ite_and, Bool.and_eq_true, decide_eq_true_eq, decide_eq_true_eq] at h9
  have hin : i < n := by omega
  have hsm : n ≤ 300 := by omega
  have S := big_s (f i).x.A (f i).x.r.n (f i).x.c (f i).x.r.f (hln i hin) (f i).x.r.kd (f i).x.r.nx (f i).x.r.mrk
  simp only [recI, rowI] at S
  obtain ⟨q, hq⟩ := eqv (bigF (f i).x.r.n (f i).x.r.f)
  rw [← hq] at S
  refine wp_skip (wp_seq (wp_block (wp_seq (wp_seq ?_))))
  refine rg hB TA_ok [21, 3, 4, 0] [] [(5, .r fun _ => .bool (.v q))] hF (hob := by intro X; subst hB; simp only [AO, Ob.holds, BE.den] <;> and_intros <;> repeat first | trivial | rfl | exact (show (0 : Int) ≤ (i : Int) by omega) | exact (show (i : Int) < (n : Int) by omega) | exact S | exact (fun _ _ => by kernel_rfl) | refine ⟨?_, ?_⟩ | intro h | decide) fun X5 a0 w1 hF => ?_
  apply test_ok hF rfl <;> intro hb hF
  ·have hbt : bigF (f i).x.r.n (f i).x.r.f = true := by rw [← hq]; exact hb
   refine wp_seq (rg hB TA_ok [2] [] [] hF fun X6 a0 w1 hF => ?_)
   refine wp_ret ((rsi hB TA_ok hF nAt (he := ?_)))
   subst hB
   refine Sim.bool ?_
   show true = (if n ≤ 300 then bigS n f else true)
   rw [if_pos hsm]
   unfold bigS
   rw [anyB_true hin hbt]; simp
  have hbf : bigF (f i).x.r.n (f i).x.r.f = false := by rw [← hq]; exact hb
  refine wp_skip ?_
  refine rg hB TA_ok [3, 4, 0] [] [] hF (hob := by intro X; subst hB; simp only [AO, Ob.holds, BE.den] <;> and_intros <;> repeat first | trivial | rfl | exact (show (0 : Int) ≤ (i : Int) by omega) | exact (show (i : Int) < (n : Int) by omega) | exact (fun _ _ => by kernel_rfl) | refine ⟨?_, ?_⟩ | intro h | decide) fun X7 a0 w1 hF => ?_
  refine rg hB TA_ok [4, 3, 0] [] [] hF fun X4 a0 w1 hF => ?_
  have e : B.arith .add .i64 (i : Int) 1 = ((i + 1 : Nat) : Int) := by subst hB; exact wrap_succ (n := n) hin (by omega)
  refine ⟨(i + 1, B.arith .add .i64 s (B.ofNat (f (B.toNat (i : Int))).x.r.n)), ⟨by simp only; omega, by subst hB; rw [hs]; rfl, fun j hj => ?_⟩, by simp only; omega, by rw [← e]; exact hF.swap⟩
  by_cases hij : j = i
  ·rw [hij]; exact hbf
  exact hal j (by simp only at hj; omega)
 have h9 : (if decide ((i : Int) < (n : Int)) = true then decide ((n : Int) ≤ 300) else false) = false := by subst hB; exact hb
 rw [ite_and] at h9
 have hend : n ≤ 300 → i = n := fun h3 => by
  rw [decide_eq_true (show (n : Int) ≤ 300 by omega), Bool.and_true] at h9
  have := of_decide_eq_false h9
  omega
 refine wp_exit (wp_seq (rg hB TA_ok [2] [] [] hF fun X8 a0 w1 hF => ?_))
 refine wp_ret ((rsi hB TA_ok hF nAt (he := ?_)))
 subst hB
 refine Sim.bool ?_
 show (if decide ((300 : Int) < (n : Int)) = true then true else decide (3000 < s)) = _
 rw [ite_or]
 by_cases h3 : n ≤ 300
 ·rw [if_pos h3]
  unfold bigS
  rw [hend h3] at hs hal
  rw [anyB_none hal, hs, decide_eq_false (show ¬ (300 : Int) < (n : Int) by omega), decide_eq_false (show ¬ 300 < n by omega)]; rfl
 rw [if_neg h3, decide_eq_true (show (300 : Int) < (n : Int) by omega)]; rfl
theorem Sim.nils {g g' : Option Nat} {k k' : Nat} {f f' : Nat → List AV} : Sim (.sl g none 0 0 k f) (.sl g' none 0 0 k' f') :=
 ⟨rfl, fun _ => rfl, fun _ _ _ => .sl _ _ _ _ _ _ (Nat.le_refl _) (Nat.zero_le _) (fun i hi => absurd hi (Nat.not_lt_zero _)) (fun i hi => absurd hi (Nat.not_lt_zero _)) (fun i hi => absurd hi (Nat.not_lt_zero _)) (fun i hi => absurd hi (Nat.not_lt_zero _)) (fun i hi => absurd hi (Nat.not_lt_zero _))⟩
theorem gotA_abs (y : Atom) (g : Got) : (gotA y g).abs = g := by
 unfold gotA GotA.abs
 simp only [rn_abs]
section
variable (A : Option Addr) (n c : Nat) (f : Nat → RowA) (hn : n ≤ maxLen) (hN : ∀ i, i < n → (f i).x.r.n ≤ 1000000 ∧ LabOk (f i).lab ∧ U64 (f i).lab.bits ∧ U64 (f i).x.r.nx.bits)
include hn hN
theorem new_no (h : newS (rwsA f n) = none) : SpecM Tryz.prog 18 [rowsV A n c f] [] none noK (fun y => ⟨.tup [.nilp, .int .i64 1], [], []⟩) (fun _ _ => noK) := by
 have := new_m A n c f hn hN
 rw [h] at this
 exact this
theorem new_yes (k0 : Nat) {L : Shf} (h : newS (rwsA f n) = some L) : SpecM Tryz.prog 18 [rowsV A n c f] [] none noK (fun y => ⟨.tup [.ptr k0 y.b 0, .int .i64 0], [], [(k0, ⟨y.b, 82, [.raw (.map (some (y.c 0))), .int .i64 0]⟩)]⟩) (fun N y => shF N (y.c 0) L) := by
 have := new_m A n c f hn hN
 rw [h] at this
 exact this.re ⟨zr, trivial⟩ rfl fun x => ⟨rfl, rfl, Sim.tup ⟨Sim.ptr, zr, trivial⟩, rfl⟩
end
structure ShfOk (L : Shf) : Prop where
 ris : Rises L
 len : L.length ≤ 2000
 lab : ∀ p ∈ L, LabOk p.1
theorem doL_ok {L : Shf} (h : ShfOk L) {w : Wnt} (hl : LabOk w.lab) : ShfOk (doL L w).L := by
 unfold doL
 split
 ·split
  ·exact h
  split
  ·exact h
  split
  ·exact h
  rename_i hf
  refine ⟨put_rises h.ris, ?_, fun p hp => ?_⟩
  ·simp only
   rw [put_len _ _ h.ris]
   split
   ·exact h.len
   rename_i h1
   have : (findL w.lab L).isNone = true := by
    cases hx : findL w.lab L with
    | none => rfl
    | some x => rw [hx] at h1; exact absurd rfl h1
   have := fun h2 => hf ⟨this, h2⟩
   have h3 := h.len
   by_cases h4 : 2000 ≤ L.length
   ·exact absurd h4 this
   omega
  rcases put_mem hp with rfl | hp
  ·exact hl
  exact h.lab p hp
 exact h
theorem newL_ok : ∀ {l : List Rw} {L L' : Shf}, (∀ r ∈ l, LabOk r.lab) → Rises L → (∀ p ∈ L, LabOk p.1) → L.length + l.length ≤ 2000 → newL l L = some L' → ShfOk L'
 | [], L, L', _, h1, h2, h3, h => by
  simp only [newL, Option.some.injEq] at h
  subst h
  exact ⟨h1, by simp at h3; omega, h2⟩
 | r :: l, L, L', hr, h1, h2, h3, h => by
  unfold newL at h
  split at h
  ·cases h
  refine newL_ok (fun r hr' => hr r (by simp [hr'])) (put_rises h1) (fun p hp => ?_) ?_ h
  ·rcases put_mem hp with rfl | hp
   ·exact hr r (by simp)
   exact h2 p hp
  rw [put_len _ _ h1]
  simp only [List.length_cons] at h3
  split <;> omega
theorem newS_ok {l : List Rw} {L : Shf} (hr : ∀ r ∈ l, LabOk r.lab) (h : newS l = some L) : ShfOk L := by
 unfold newS at h
 split at h
 ·cases h
 exact newL_ok hr List.Pairwise.nil (fun p hp => by cases hp) (by simp; omega) h
structure SpoOk (p : Lab × Spo) : Prop where
 ver : U64 p.2.ver
 r : RecOk p.2.r
structure ShfG (L : Shf) : Prop where
 ok : ShfOk L
 sp : ∀ p ∈ L, SpoOk p
theorem u64_0 : U64 0 := ⟨by decide, by decide⟩
theorem isR_few {r : Rec} (h : isR r = true) : r.items.length ≤ 16 := by
 have h2 : isRF r.kind r.items.length (itF r.items) r.next r.mark = true := by
  have h3 := isR_abs r.rn
  rw [rn_abs] at h3
  rw [h3] at h
  exact h
 exact (isRF_kind h2).2.2.1
theorem inc_u (v : Int) : U64 (inc v) := by
 unfold inc IntKind.wrap
 simp only [IntKind.bits, IntKind.signed]
 unfold U64
 constructor
 ·simp; omega
 simp; omega
theorem find_memL {l : Lab} {x : Spo} : ∀ {L : Shf}, findL l L = some x → ∃ p ∈ L, p.2 = x
 | [], h => by cases h
 | p :: L, h => by
  unfold findL at h
  split at h
  ·exact ⟨p, by simp, Option.some.inj h⟩
  obtain ⟨q, hq, e⟩ := find_memL h
  exact ⟨q, by simp [hq], e⟩
theorem spot_ok {L : Shf} (h : ∀ p ∈ L, SpoOk p) (l : Lab) : U64 (spotOf L l).ver ∧ RecOk (spotOf L l).r := by
 unfold spotOf
 cases e : findL l L with
 | none => exact ⟨u64_0, rec_z⟩
 | some x =>
  obtain ⟨p, hp, rfl⟩ := find_memL e
  exact ⟨(h p hp).ver, (h p hp).r⟩
structure WntG (w : Wnt) : Prop where
 lab : LabOk w.lab
 nx : U64 w.r.next.bits
 key : ∀ x ∈ w.r.items, U64 x.key
theorem doL_good {L : Shf} (h : ShfG L) {w : Wnt} (hw : WntG w) : ShfG (doL L w).L ∧ U64 (doL L w).got.ver ∧ RecOk (doL L w).got.r := by
 refine ⟨⟨doL_ok h.ok hw.lab, ?_⟩, ?_⟩
 ·unfold doL
  split
  ·rename_i hg
   split
   ·exact h.sp
   split
   ·exact h.sp
   split
   ·exact h.sp
   intro p hp
   rcases put_mem hp with rfl | hp
   ·refine ⟨inc_u _, ?_⟩
    show RecOk (if w.kind = 2 then w.r else zeroRec)
    split
    ·rename_i h2
     exact ⟨hw.nx, isR_few (hg.2.2 h2), hw.key⟩
    exact rec_z
   exact h.sp p hp
  exact h.sp
 have hs := spot_ok h.sp w.lab
 unfold doL
 split
 ·split
  ·exact hs
  split
  ·exact ⟨hs.1, rec_z⟩
  split
  ·exact ⟨u64_0, rec_z⟩
  exact ⟨inc_u _, rec_z⟩
 exact ⟨u64_0, rec_z⟩
structure RwG (r : Rw) : Prop where
 lab : LabOk r.lab
 ver : U64 r.ver
 nx : U64 r.r.next.bits
 key : ∀ x ∈ r.r.items, U64 x.key
theorem newL_good : ∀ {l : List Rw} {L L' : Shf}, (∀ r ∈ l, RwG r) → (∀ p ∈ L, SpoOk p) → newL l L = some L' → ∀ p ∈ L', SpoOk p
 | [], L, L', _, h2, h => by
  simp only [newL, Option.some.injEq] at h
  subst h; exact h2
 | r :: l, L, L', hr, h2, h => by
  unfold newL at h
  split at h
  ·cases h
  rename_i hc
  have hc2 : isR r.r = true := by
   simp only [Bool.or_eq_true, Bool.not_eq_true', not_or] at hc
   simpa using hc.2
  refine newL_good (fun r hr' => hr r (by simp [hr'])) (fun p hp => ?_) h
  rcases put_mem hp with rfl | hp
  ·have := hr r (by simp)
   exact ⟨this.ver, ⟨this.nx, isR_few hc2, this.key⟩⟩
  exact h2 p hp
theorem newS_good {l : List Rw} {L : Shf} (hr : ∀ r ∈ l, RwG r) (h : newS l = some L) : ShfG L := by
 refine ⟨newS_ok (fun r hr' => (hr r hr').lab) h, ?_⟩
 unfold newS at h
 split at h
 ·cases h
 exact newL_good hr (fun p hp => by cases hp) h
theorem got_in {g : GotA} {G : Got} (h : g.abs = G) (h1 : U64 G.ver) (h2 : RecOk G.r) : InG g := by
 subst h
 refine ⟨h2.nx, h1, ?_, fun i hi => ?_⟩
 ·have := h2.few
  have e : g.x.r.abs.items.length = g.x.r.n := firsts_len _ _
  show g.x.r.n ≤ maxLen
  have h3 : g.x.r.abs.items.length ≤ 16 := this
  have : maxLen = 9223372036854775807 := rfl
  omega
 exact h2.key _ (List.mem_map.2 ⟨i, List.mem_range.2 hi, rfl⟩)
theorem LOk.wf {l : Lab} (h : LOk l) : LabOk l := by
 obtain ⟨h1, h2, _⟩ := lab_parts h.isl
 have hb := h.u
 unfold U64 at hb
 constructor
 ·simp [Lit.wf, IntKind.min, IntKind.max, IntKind.signed, IntKind.bits]; omega
 simp [Lit.wf, IntKind.min, IntKind.max, IntKind.signed, IntKind.bits]; omega
def gotOf (G : Got) : GotA := ⟨G.code, G.ver, G.has, ⟨none, 0, G.r.rn⟩⟩
abbrev ansF (gs : List Got) : Nat → GotA := fun j => gotOf (gs.getD j zeroGot)
abbrev NextF := Nat → (Nat → GotA) → Wq × Int
def ErN (N : NextF) : Prop := ∀ n f, N n f = N n (fun j => (f j).er)
def Lies (gs : List Got) (f : Nat → GotA) : Prop := ∀ j, (f j).er = gotOf (gs.getD j zeroGot)
theorem Lies.nil : Lies [] (fun _ => gotOf zeroGot) := fun _ => rfl
theorem Lies.next {N : NextF} (hN : ErN N) {gs : List Got} {f : Nat → GotA} (h : Lies gs f) : N gs.length f = N gs.length (ansF gs) := by
 rw [hN]
 congr 1
 funext j
 exact h j
theorem Lies.add {gs : List Got} {f : Nat → GotA} (h : Lies gs f) {g : GotA} {G : Got} (hg : g.er = gotOf G) : Lies (gs ++ [G]) (fun j => if j = gs.length then g else f j) := by
 intro j
 by_cases e : j = gs.length
 ·simp only [if_pos e]; rw [hg, e]; congr 1; simp [List.getD]
 simp only [if_neg e]; rw [h j]; congr 1
 simp only [List.getD_eq_getElem?_getD]
 by_cases hj : j < gs.length
 ·rw [List.getElem?_append_left hj]
 rw [List.getElem?_eq_none (by omega), List.getElem?_eq_none (by simp; omega)]
structure RunR where
 /-- 0: too many wants, 1: refused, 2: it is over, 3: cut off, 4: a want was not done -/
 st : Nat
 res : Rsl
 n : Nat
 err : Int
 L : Shf
 k : Int
def wntOf (w : Wq) : Wnt := ⟨w.kind, w.lab, w.ver, w.r⟩
def runQ (N : NextF) (most : Int) : Nat → List Got → Shf → Int → RunR
 | 0, gs, L, k => ⟨0, zRsl, gs.length, 0, L, k⟩
 | n + 1, gs, L, k =>
  if (N gs.length (ansF gs)).2 ≠ 0 then ⟨1, zRsl, gs.length, 0, L, k⟩
  else if (N gs.length (ansF gs)).1.kind = 4 then ⟨2, (N gs.length (ansF gs)).1.res, gs.length, 0, L, k⟩
  else if most ≤ gs.length then ⟨3, zRsl, gs.length, 0, L, k⟩
  else if (doL L (wntOf (N gs.length (ansF gs)).1)).err ≠ 0 then ⟨4, zRsl, gs.length, (doL L (wntOf (N gs.length (ansF gs)).1)).err, (doL L (wntOf (N gs.length (ansF gs)).1)).L, if (doL L (wntOf (N gs.length (ansF gs)).1)).wrote then IntKind.i64.wrap (k + 1) else k⟩
  else runQ N most n (gs ++ [(doL L (wntOf (N gs.length (ansF gs)).1)).got]) (doL L (wntOf (N gs.length (ansF gs)).1)).L (if (doL L (wntOf (N gs.length (ansF gs)).1)).wrote then IntKind.i64.wrap (k + 1) else k)
section
variable {N : NextF} {most : Int} {n : Nat} {gs : List Got} {L : Shf} {k : Int} {w : Wq} {e : Int}
theorem run_no (h : N gs.length (ansF gs) = (w, e)) (he : e ≠ 0) : runQ N most (n + 1) gs L k = ⟨1, zRsl, gs.length, 0, L, k⟩ := by
 unfold runQ
 rw [h, if_pos he]
theorem run_end (h : N gs.length (ansF gs) = (w, 0)) (hk : w.kind = 4) : runQ N most (n + 1) gs L k = ⟨2, w.res, gs.length, 0, L, k⟩ := by
 unfold runQ
 rw [h, if_neg (fun h => h rfl), if_pos hk]
theorem run_err (h : N gs.length (ansF gs) = (w, 0)) (hk : ¬ w.kind = 4) (hm : ¬ most ≤ gs.length) {D : Did} (hD : D = doL L (wntOf w)) (he : D.err ≠ 0) : runQ N most (n + 1) gs L k = ⟨4, zRsl, gs.length, D.err, D.L, if D.wrote then IntKind.i64.wrap (k + 1) else k⟩ := by
 subst hD
 unfold runQ
 rw [h, if_neg (fun h => h rfl), if_neg hk, if_neg hm, if_pos he]
theorem run_go (h : N gs.length (ansF gs) = (w, 0)) (hk : ¬ w.kind = 4) (hm : ¬ most ≤ gs.length) {D : Did} (hD : D = doL L (wntOf w)) (he : D.err = 0) : runQ N most (n + 1) gs L k = runQ N most n (gs ++ [D.got]) D.L (if D.wrote then IntKind.i64.wrap (k + 1) else k) := by
 subst hD
 conv => lhs; unfold runQ
 rw [h, if_neg (fun h => h rfl), if_neg hk, if_neg hm, if_neg (fun h => h he)]
end
theorem nextR_er (b : Bool) (r : Rs Rsl) : nextR b (r.er id) = nextR b r := by
 unfold nextR; rw [told_er]
structure NxOk (N : NextF) : Prop where
 er : ErN N
 ok : ∀ n f, (∀ j, j < n → InG (f j)) → WqOk (N n f).1
theorem lof_s (key n : Int) (hk : U64 key) : Spec Tryz.prog 199 [.int .u64 key, .int .i64 n] (fun _ => .tup [labAV (ofV key n), .int .i64 (ofE n)]) := by
 intro m w hm hargs
 refine en 18 hm hargs Tryz.func199 fun B hB a0 hF => ?_
 refine wp_seq (rg hB TA_ok [0, 1, 4] [4] [] hF fun X0 a0 w1 hF => ?_)
 refine wp_seq (wp_seq (rg hB TA_ok [11, 0, 1, 4] [4] [] hF fun X1 a0 w1 hF => ?_))
 apply test_ok hF rfl <;> intro hb hF
 ·have h9 : (if decide (n < 0) = true then true else decide (n > 64)) = true := by subst hB; exact hb
  have hr : n < 0 ∨ 64 < n := by
   by_cases h : n < 0
   ·exact .inl h
   simp [h] at h9; exact .inr h9
  have hV : ofV key n = ⟨0, 0⟩ := if_pos hr
  have hE : ofE n = 1 := if_pos hr
  refine wp_seq (rg hB TA_ok [4, 5] [4] [] hF fun X2 a0 w1 hF => ?_)
  refine wp_ret ((rsi hB TA_ok hF nAt (he := ?_)))
  rw [hV, hE]; subst hB; exact zr
 have h9 : (if decide (n < 0) = true then true else decide (n > 64)) = false := by subst hB; exact hb
 have hr : 0 ≤ n ∧ n ≤ 64 := by
  by_cases h : n < 0
  ·simp [h] at h9
  simp [h] at h9; omega
 have hV : ofV key n = ⟨n, (headN key.toNat n.toNat : Nat)⟩ := if_neg (by omega)
 have hE : ofE n = 0 := if_neg (by omega)
 have S := head_s key n hk hr.1 hr.2
 obtain ⟨hd, hhd⟩ := eqv (((headN key.toNat n.toNat : Nat) : Int))
 rw [← hhd] at S hV
 have O1 := S
 refine wp_skip (wp_seq (rg hB TA_ok [4, 5] [4] [(3, .r fun _ => .int .u64 hd)] hF fun X3 a0 w1 hF => ?_))
 refine wp_ret ((rsi hB TA_ok hF nAt (he := ?_)))
 rw [hV, hE]; subst hB; exact zr
theorem rof_s (key n : Int) (hk : U64 key) : Spec Tryz.prog 149 [.int .u64 key, .int .i64 n] (fun _ => .tup [labAV (ofV key n), .int .i64 (ofE n)]) := by
 intro m w hm hargs
 refine en 18 hm hargs Tryz.func149 fun B hB a0 hF => ?_
 refine wp_seq (rg hB TA_ok [0, 1, 4] [4] [] hF fun X0 a0 w1 hF => ?_)
 refine wp_seq (wp_seq (rg hB TA_ok [11, 0, 1, 4] [4] [] hF fun X1 a0 w1 hF => ?_))
 apply test_ok hF rfl <;> intro hb hF
 ·have h9 : (if decide (n < 0) = true then true else decide (n > 64)) = true := by subst hB; exact hb
  have hr : n < 0 ∨ 64 < n := by
   by_cases h : n < 0
   ·exact .inl h
   simp [h] at h9; exact .inr h9
  have hV : ofV key n = ⟨0, 0⟩ := if_pos hr
  have hE : ofE n = 1 := if_pos hr
  refine wp_seq (rg hB TA_ok [4, 5] [4] [] hF fun X2 a0 w1 hF => ?_)
  refine wp_ret ((rsi hB TA_ok hF nAt (he := ?_)))
  rw [hV, hE]; subst hB; exact zr
 have h9 : (if decide (n < 0) = true then true else decide (n > 64)) = false := by subst hB; exact hb
 have hr : 0 ≤ n ∧ n ≤ 64 := by
  by_cases h : n < 0
  ·simp [h] at h9
  simp [h] at h9; omega
 have hV : ofV key n = ⟨n, (headN key.toNat n.toNat : Nat)⟩ := if_neg (by omega)
 have hE : ofE n = 0 := if_neg (by omega)
 have SD := bits_s key hk
 obtain ⟨d, hd⟩ := eqv (mkB (lowB 64 key.toNat))
 rw [← hd] at SD
 have hds : d.size = 64 := by rw [hd, mk_size, lowB_len]
 have hdx : unB (d.extract 0 n.toNat) = (lowB 64 key.toNat).take n.toNat := by
  rw [hd, mk_extract, un_mk, List.drop_zero]
 have hxs : (d.extract 0 n.toNat).size = n.toNat := by rw [ByteArray.size_extract]; omega
 have SO := of_s (d.extract 0 n.toNat) (fun x hx => by rw [hdx] at hx; exact lowB_mem x (List.mem_of_mem_take hx)) (by omega)
 have hk0 : ofT (d.extract 0 n.toNat) = ⟨n, (headN key.toNat n.toNat : Nat)⟩ := by
  unfold ofT; rw [hdx, hxs, of_head (u64_lt hk) (by omega)]; congr 1; omega
 refine wp_skip (wp_seq ?_)
 rw [hk0, ← hV] at SO
 simp only [labAV] at SO
 obtain ⟨k, hk⟩ := eqv (ofV key n)
 rw [← hk] at SO
 refine rg hB TA_ok [4, 5] [4] [(1, .r fun _ => .str d), (4, .r fun _ => .agg [.int .i64 k.len, .int .u64 k.bits])] hF (hob := by intro X; subst hB; simp only [AO, Ob.holds, BE.den] <;> and_intros <;> repeat first | trivial | rfl | exact SD | exact SO | exact ⟨by decide, hr.1, by rw [show ((d.size : Nat) : Int) = 64 by omega]; exact hr.2⟩ | exact hr.1 | exact (show n ≤ (d.size : Int) by omega) | exact (fun _ _ => by kernel_rfl) | refine ⟨?_, ?_⟩ | intro h | exact Int.le_refl _ | decide | omega) fun X3 a0 w1 hF => ?_
 refine wp_ret ((rsi hB TA_ok hF nAt (he := ?_)))
 rw [hE, ← hk]; subst hB; exact zr
abbrev leafV : AV := .agg [.int .i64 1, .sl none none 0 0 2 (fun _ => []), .int .i64 (-1), .int .u64 0, .int .u64 0]
abbrev sptV (s : Spt) : AV := .agg [.int .i64 s.lab.len, .int .u64 s.lab.bits, .int .i64 s.g.code, .int .u64 s.g.ver, .bool (.v s.g.has), .int .i64 s.g.x.r.kd, .sl none s.g.x.A s.g.x.r.n s.g.x.c 2 (fun i => itC (s.g.x.r.f i)), .int .i64 s.g.x.r.nx.len, .int .u64 s.g.x.r.nx.bits, .int .u64 s.g.x.r.mrk]
theorem ofV_ok {key : Int} (hk : U64 key) (n : Int) : LOk (ofV key n) := ⟨ofV_isL n, ofV_u hk n⟩
theorem leaf_s : Spec Tryz.prog 193 [] (fun _ => leafV) := by
 intro m w hm hargs
 have SN := none_s
 simp only [labAV, noneL] at SN
 refine en 3 hm hargs Tryz.func193 fun B hB a0 hF => ?_
 refine wp_seq (rg hB TA_ok [0] [0] [] hF fun X0 a0 w1 hF => ?_)
 have O1 := SN
 refine wp_seq (rg hB TA_ok [0] [0] [(0, .r fun _ => .agg [.int .i64 (-1), .int .u64 0])] hF fun X1 a0 w1 hF => ?_)
 exact wp_ret ((rsp hB TA_ok hF nAt).1)
theorem fin1_m0 (b : Nat) (key k : Int) (v : ByteArray) : SpecX Tryz.prog 146 [.agg [.int .u64 k, .str v], .ptr 0 b 0] [(0, ⟨b, 22, [.int .u64 key]⟩)] (fun _ => ⟨.bool (.v (decide (k = key))), [(0, [.int .u64 key])], []⟩) := by
 intro m w hm hargs hpre
 refine enX 8 hm hpre hargs Tryz.func146 fun B hB a0 hF => ?_
 refine wp_seq (rg hB TA_ok [1, 2] [0, 2] [] hF fun X0 a0 w1 hF => ?_)
 refine wp_seq (rg hB TA_ok [3] [0] [] hF fun X1 a0 w1 hF => ?_)
 refine wp_ret ((rx hB TA_ok hF nAt [] (he := ?_)).1)
 subst hB; refine Sim.bool ?_
 show (k == key) = decide (k = key)
 exact rfl
theorem idxf_m0 (b : Nat) (A : Option Addr) (n c : Nat) (f : Nat → Itm) (hn : n ≤ 1000000) (key : Int) : SpecX Tryz.prog 145 [.sl none A n c 2 (fun i => itC (f i)), .fn 146 [] [.ptr 0 b 0]] [(0, ⟨b, 22, [.int .u64 key]⟩)] (fun _ => ⟨.int .i64 (idxF (fun t => decide ((f t).key = key)) n), [(0, [.int .u64 key])], []⟩) := by
 intro m w hm hargs hpre
 have hmx : maxLen = 9223372036854775807 := rfl
 refine enX 19 hm hpre hargs Tryz.func145 fun B hB a0 hF => ?_
 refine wp_seq (rg hB TA_ok [0, 1] [0] [] hF fun X0 a0 w1 hF => ?_)
 refine wp_seq (wp_seq (rg hB TA_ok [8, 0, 1, 7] [0] [] hF fun X1 a0 w1 hF => ?_))
 refine wp_block (loop_pre (ι := Nat) (fun p => [(8, .int .i64 (p : Int))]) (fun p => []) (fun p => []) (fun p => p ≤ n ∧ ∀ t, t < p → decide ((f t).key = key) = false) (fun p => n - p) 0 ⟨Nat.zero_le _, fun t ht => absurd ht (Nat.not_lt_zero _)⟩ hF ?_)
 rintro i ⟨hi, hlt⟩ a0 w1 hF
 try dsimp only at hi
 try dsimp only at hlt
 refine wp_seq (rg hB TA_ok [9, 8, 0, 1, 7] [0] [] hF fun X2 a0 w1 hF => ?_)
 refine wp_seq (test_ok hF rfl (fun hb hF => ?_) (fun hb hF => ?_))
 ·have hin : i < n := by
   have : (i : Int) < (n : Int) := by subst hB; simpa [std, sC] using hb
   omega
  have S := fin1_m0 b key (f i).key (f i).val
  obtain ⟨q, hq⟩ := eqv (decide ((f i).key = key))
  rw [← hq] at S
  refine wp_skip (wp_seq (wp_block (wp_seq (rg hB TA_ok [5, 8, 0, 1, 7] [0] [] hF fun X3 a0 w1 hF => ?_))))
  apply wp_seq
  refine rg hB TA_ok [16, 5, 8, 0, 1, 7] [0] [(5, .x fun _ => ⟨.bool (.v q), [(0, [.int .u64 key])], []⟩)] hF (hob := by intro X; subst hB; simp only [AO, Ob.holds, BE.den] <;> and_intros <;> repeat first | trivial | rfl | exact S | exact (show (0 : Int) ≤ (i : Int) by omega) | exact (show (i : Int) < (n : Int) by omega) | exact (fun _ _ => by kernel_rfl) | refine ⟨?_, ?_⟩ | intro h | exact Int.le_refl _ | decide | omega) fun X4 a0 w1 hF => ?_
  apply test_ok hF rfl <;> intro hb hF
  ·have hqt : q = true := hb
   refine wp_seq (rg hB TA_ok [4] [0] [] hF fun X5 a0 w1 hF => ?_)
   refine wp_ret ((rx hB TA_ok hF nAt [] (he := ?_)).1)
   rw [idx_hit (p := (fun t => decide ((f t).key = key))) hin hlt (by show decide ((f i).key = key) = true; rw [← hq]; exact hqt)]; subst hB; exact zr
  have hqf : q = false := hb
  refine wp_skip (rg hB TA_ok [8, 0, 1, 7] [0] [] hF fun X6 a0 w1 hF => ?_)
  have e : B.arith .add .i64 (i : Int) 1 = ((i + 1 : Nat) : Int) := by subst hB; exact wrap_succ (n := n) hin (by omega)
  refine ⟨i + 1, ⟨by omega, fun t ht => ?_⟩, by omega, by rw [← e]; exact hF⟩
  by_cases h : t = i
  ·rw [h, ← hq]; exact hqf
  exact hlt t (by omega)
 have hout : i = n := by
  have : ¬ (i : Int) < (n : Int) := by subst hB; simpa [std, sC] using hb
  omega
 rw [hout] at hlt
 refine wp_exit (wp_seq (rg hB TA_ok [4] [0] [] hF fun X7 a0 w1 hF => ?_))
 refine wp_ret ((rx hB TA_ok hF nAt [] (he := ?_)).1)
 rw [idx_miss (p := (fun t => decide ((f t).key = key))) hlt]; subst hB; exact zr
theorem idxf_m (k0 : Nat) (b : Nat) (A : Option Addr) (n c : Nat) (f : Nat → Itm) (hn : n ≤ 1000000) (key : Int) : SpecX Tryz.prog 145 [.sl none A n c 2 (fun i => itC (f i)), .fn 146 [] [.ptr k0 b 0]] [(k0, ⟨b, 22, [.int .u64 key]⟩)] (fun _ => ⟨.int .i64 (idxF (fun t => decide ((f t).key = key)) n), [(k0, [.int .u64 key])], []⟩) :=
 (idxf_m0 b A n c f hn key).re (by repeat (first | exact trivial | refine ⟨Sim.ptr, ?_⟩ | refine ⟨Sim.fn ⟨Sim.ptr, trivial⟩ trivial, ?_⟩ | refine ⟨Sim.fn trivial ⟨Sim.ptr, trivial⟩, ?_⟩ | refine ⟨zr, ?_⟩)) rfl (fun x => ⟨rfl, rfl, zr, rfl⟩)
theorem find_s (x : RA) (hx : RaOk x) (key : Int) : Spec Tryz.prog 76 [recV x, .int .u64 key] (fun _ => .tup [.str (finV x key), .bool (.v (finB x key))]) := by
 intro m w hm hargs
 have hf := hx.few
 have HC := idx_cases (fun t => decide ((x.r.f t).key = key)) x.r.n
 have hV : finV x key = if 0 ≤ finI x key then (x.r.f (finI x key).toNat).val else ⟨#[]⟩ := rfl
 have hI : finB x key = decide (0 ≤ finI x key) := rfl
 refine en 19 hm hargs Tryz.func76 fun B hB a0 hF => ?_
 refine wp_seq (rg hB TA_ok [2, 3] [2, 3] [] hF fun X0 a0 w1 hF => ?_)
 have S := idxf_m 3 (X0 1).b x.A x.r.n x.c x.r.f (by omega) key
 rw [show idxF (fun t => decide ((x.r.f t).key = key)) x.r.n = finI x key from rfl] at S HC
 obtain ⟨ix, hix⟩ := eqv (finI x key)
 rw [← hix] at S HC hV hI
 have O1 := S
 refine wp_seq (rg hB TA_ok [2, 6] [2] [(3, .x fun _ => ⟨.int .i64 ix, [(3, [.int .u64 key])], []⟩)] hF fun X1 a0 w1 hF => ?_)
 refine wp_seq (wp_seq (rg hB TA_ok [12, 2, 6] [2] [] hF fun X2 a0 w1 hF => ?_))
 apply test_ok hF rfl <;> intro hb hF
 ·have hr : ix < 0 := by subst hB; simpa [std, sC] using hb
  refine wp_seq (rg hB TA_ok [4, 5] [] [] hF fun X3 a0 w1 hF => ?_)
  refine wp_ret ((rsi hB TA_ok hF nAt (he := ?_)))
  rw [hV, hI, if_neg (by omega), decide_eq_false (by omega)]; subst hB; exact zr
 have hr : ¬ ix < 0 := by subst hB; simpa [std, sC] using hb
 obtain ⟨j, hj1, hj2⟩ : ∃ j, j < x.r.n ∧ ix = (j : Int) := by
  rcases HC with ⟨i, h1, h2, _⟩ | ⟨h1, _⟩
  ·exact ⟨i, h1, h2⟩
  omega
 rw [hj2, if_pos (by omega), Int.toNat_natCast] at hV
 refine wp_skip (wp_seq ?_)
 refine rg hB TA_ok [4, 5] [] [] hF (hob := by intro X; subst hB; simp only [AO, Ob.holds, BE.den] <;> and_intros <;> repeat first | trivial | rfl | exact ⟨(show (0 : Int) ≤ ix by omega), (show ix < (x.r.n : Int) by omega)⟩ | exact (show (0 : Int) ≤ ix by omega) | exact (show ix < (x.r.n : Int) by omega) | exact (fun _ _ => by kernel_rfl) | refine ⟨?_, ?_⟩ | intro h | exact Int.le_refl _ | decide | omega) fun X4 a0 w1 hF => ?_
 refine wp_ret ((rsi hB TA_ok hF nAt (he := ?_)))
 rw [hV, hI, decide_eq_true (by omega)]; subst hB; subst hj2; exact zr
theorem rfind_s (x : RA) (hx : RaOk x) (key : Int) : Spec Tryz.prog 36 [recV x, .int .u64 key] (fun _ => .tup [.str (finV x key), .bool (.v (finB x key))]) := by
 intro m w hm hargs
 have hf := hx.few
 have hmx : maxLen = 9223372036854775807 := rfl
 have hV : finV x key = if 0 ≤ finI x key then (x.r.f (finI x key).toNat).val else ⟨#[]⟩ := rfl
 have hI : finB x key = decide (0 ≤ finI x key) := rfl
 refine en 28 hm hargs Tryz.func36 fun B hB a0 hF => ?_
 refine wp_seq (rg hB TA_ok [1, 2] [2] [] hF fun X0 a0 w1 hF => ?_)
 refine wp_seq (wp_seq (rg hB TA_ok [6, 1, 2] [2] [] hF fun X1 a0 w1 hF => ?_))
 refine wp_block (loop_pre (ι := Nat) (fun p => [(6, .int .i64 (p : Int))]) (fun p => []) (fun p => []) (fun p => p ≤ x.r.n ∧ ∀ t, t < p → decide ((x.r.f t).key = key) = false) (fun p => x.r.n - p) 0 ⟨Nat.zero_le _, fun t ht => absurd ht (Nat.not_lt_zero _)⟩ hF ?_)
 rintro i ⟨hi, hlt⟩ a0 w1 hF
 try dsimp only at hi
 try dsimp only at hlt
 refine wp_seq (wp_seq (rg hB TA_ok [11, 1, 2, 6] [2] [] hF fun X2 a0 w1 hF => ?_))
 apply test_ok hF rfl <;> intro hb hF
 ·have hin : i < x.r.n := by
   have : (i : Int) < (x.r.n : Int) := by subst hB; simpa [std, sC] using hb
   omega
  refine wp_skip (wp_seq (wp_block (wp_seq ?_)))
  refine rg hB TA_ok [21, 1, 2, 6] [2] [] hF (hob := by intro X; subst hB; simp only [AO, Ob.holds, BE.den] <;> and_intros <;> repeat first | trivial | rfl | exact (show (0 : Int) ≤ (i : Int) by omega) | exact (show (i : Int) < (x.r.n : Int) by omega) | exact (fun _ _ => by kernel_rfl) | refine ⟨?_, ?_⟩ | intro h | exact Int.le_refl _ | decide | omega) fun X4 a0 w1 hF => ?_
  apply test_ok hF rfl <;> intro hb hF
  ·have heq : (x.r.f i).key = key := by
    have : ((x.r.f i).key == key) = true := by subst hB; exact hb
    simpa using this
   have hix : finI x key = (i : Int) := idx_hit (p := (fun t => decide ((x.r.f t).key = key))) hin hlt (by simp [heq])
   apply wp_seq
   refine rg hB TA_ok [4, 5] [] [] hF (hob := by intro X; subst hB; simp only [AO, Ob.holds, BE.den] <;> and_intros <;> repeat first | trivial | rfl | exact (show (0 : Int) ≤ (i : Int) by omega) | exact (show (i : Int) < (x.r.n : Int) by omega) | exact (fun _ _ => by kernel_rfl) | refine ⟨?_, ?_⟩ | intro h | exact Int.le_refl _ | decide | omega) fun X5 a0 w1 hF => ?_
   refine wp_ret ((rsi hB TA_ok hF nAt (he := ?_)))
   rw [hV, hI, hix, if_pos (by omega), decide_eq_true (by omega), Int.toNat_natCast]; subst hB; exact zr
  have hne : ¬ (x.r.f i).key = key := by
   have : ((x.r.f i).key == key) = false := by subst hB; exact hb
   simpa using this
  refine wp_skip (rg hB TA_ok [6, 1, 2] [2] [] hF fun X3 a0 w1 hF => ?_)
  have e : B.arith .add .i64 (i : Int) 1 = ((i + 1 : Nat) : Int) := by subst hB; exact wrap_succ (n := x.r.n) hin (by omega)
  refine ⟨i + 1, ⟨by omega, fun t ht => ?_⟩, by omega, by rw [← e]; exact hF⟩
  by_cases h : t = i
  ·rw [h]; exact decide_eq_false hne
  exact hlt t (by omega)
 have hout : i = x.r.n := by
  have : ¬ (i : Int) < (x.r.n : Int) := by subst hB; simpa [std, sC] using hb
  omega
 rw [hout] at hlt
 have hix : finI x key = -1 := idx_miss (p := (fun t => decide ((x.r.f t).key = key))) hlt
 refine wp_exit (wp_seq (rg hB TA_ok [4, 5] [] [] hF fun X6 a0 w1 hF => ?_))
 refine wp_ret ((rsi hB TA_ok hF nAt (he := ?_)))
 rw [hV, hI, hix]; subst hB; exact zr
theorem casl_m (k0 b : Nat) (J : JobA) (hJ : JobOk J) (A : Option Addr) (c : Nat) (p : Pst) (hp : PstOk p) (hn : p.n ≤ 1000000) (l : Lab) (v : Int) : RunS 134 k0 b J A c p [labAV l, .int .u64 v, leafV] (fun d => .bool (.v d)) (casM J.budget l v leafR p) :=
 RunS.re (cas_m 0 b J hJ A c p hp hn l v ⟨none, 0, leafR.rn⟩) ⟨zr, zr, Sim.agg ⟨zr, rowz_sim, zr, zr, zr, trivial⟩, trivial⟩
theorem from_m0 (b : Nat) (J : JobA) (hJ : JobOk J) (A : Option Addr) (c : Nat) (p : Pst) (hp : PstOk p) (hn : p.n ≤ 1000000) (key : Int) (hk : U64 key) (l : Lab) (hl : LOk l) (n : Nat) (hf : p.n < n) : RunS 158 0 b J A c p [.int .u64 key, labAV l] (sptV) (linM J.bucket J.budget key n l p) := by
 intro m w hm hargs hpre
 refine enX 68 hm hpre hargs Tryz.func158 fun B hB a0 hF => ?_
 refine wp_seq (rg hB TA_ok [0, 1, 5, 6] [0, 5, 6] [] hF fun X0 a0 w1 hF => ?_)
 refine wp_seq (rg hB TA_ok [0, 1, 5, 6, 7] [0, 5, 6, 7] [] hF fun X1 a0 w1 hF => ?_)
 refine wp_block (loop_pre (ι := Nat × Pst × Option Addr × Nat × Lab) (fun q => []) (fun q => [(0, ⟨b, 114, runC J q.2.2.1 q.2.2.2.1 q.2.1⟩), (5, ⟨(X0 0).b, 24, [.int .i64 q.2.2.2.2.len, .int .u64 q.2.2.2.2.bits]⟩)]) (fun q => []) (fun q => linM J.bucket J.budget key n l p = linM J.bucket J.budget key q.1 q.2.2.2.2 q.2.1 ∧ PstOk q.2.1 ∧ q.2.1.n ≤ 1000000 ∧ q.2.1.n < q.1 ∧ LOk q.2.2.2.2) (fun q => q.1) (n, p, A, c, l) ⟨rfl, hp, hn, hf, hl⟩ hF ?_)
 rintro ⟨nn, p0, A0, c0, l0⟩ ⟨hrun, hp0, hn0, hf0, hl0⟩ a0 w1 hF
 try dsimp only at hrun
 try dsimp only at hp0
 try dsimp only at hn0
 try dsimp only at hf0
 try dsimp only at hl0
 obtain ⟨m0, rfl⟩ : ∃ n2, nn = n2 + 1 := ⟨nn - 1, by omega⟩
 refine wp_block (wp_seq ?_)
 rcases (get_m 0 b J hJ A0 c0 p0 hp0 hn0 l0).two (fro_get _ _ _) hp0 hn0 with ⟨w2, p2, hm2, O1⟩ | ⟨g2, p2, hm2, hs2, hp2, hn2, S2⟩
 ·refine stp 2 hB TA_ok [10, 11] [0] [] hF O1 fun _ _ _ _ hF hk => ?_
  exact thm (P := Tryz.prog) (fn := Tryz.f158) (q := p2) hF hk (by simp [hrun, linM, Rs.bind, hm2])
 have hl2 := get_lt hm2
 have hg2 := hp0.get hm2
 have O1 := S2
 refine rg hB TA_ok [0, 1, 5, 6, 7, 8] [0, 5, 6, 7, 8] [(2, rc J (gotV g2) p2)] hF fun X2 a0 w1 hF => ?_
 obtain ⟨q3, hq3⟩ := eqv (gk g2 1)
 refine wp_seq (wp_block (wp_seq ?_))
 refine rg hB TA_ok [13, 0, 1, 5, 6, 7, 8] [0, 5, 6, 7, 8, 15] [(2, .r fun _ => .bool (.v q3))] hF (hob := by intro X; subst hB; simp only [AO, Ob.holds, BE.den] <;> and_intros <;> repeat first | trivial | rfl | exact (by rw [hq3]; exact is1_s g2 _ _ 1 _ rfl) | exact by rw [hq3]; exact is1_s g2 _ _ 1 _ rfl | exact (fun _ _ => by kernel_rfl) | refine ⟨?_, ?_⟩ | intro h | exact Int.le_refl _ | decide | omega) fun X3 a0 w1 hF => ?_
 apply test_ok hF rfl <;> intro hb hF
 ·have tq3 : gk g2 1 = true := by rw [← hq3]; exact hb
  refine wp_seq (rg hB TA_ok [6] [0, 6] [] hF fun X4 a0 w1 hF => ?_)
  exact wp_ret ((rmm hB TA_ok hF (v := (⟨l0, g2⟩ : Spt)) (q := p2) ((X2 2).A 0) ((X2 2).c 0) (by simp [hrun, linM, Rs.bind, hm2, tq3])).1)
 have tq3 : gk g2 1 = false := by rw [← hq3]; exact hb
 obtain ⟨q5, hq5⟩ := eqv ((gk g2 3 || gk g2 4))
 apply wp_seq
 refine rg hB TA_ok [20, 0, 1, 5, 6, 7, 8] [0, 5, 6, 7, 8, 22] [(2, .r fun _ => .bool (.v q5))] hF (hob := by intro X; subst hB; simp only [AO, Ob.holds, BE.den] <;> and_intros <;> repeat first | trivial | rfl | exact (by rw [hq5]; exact is2_s g2 _ _ 3 4 _ rfl rfl) | exact by rw [hq5]; exact is2_s g2 _ _ 3 4 _ rfl rfl | exact (fun _ _ => by kernel_rfl) | refine ⟨?_, ?_⟩ | intro h | exact Int.le_refl _ | decide | omega) fun X5 a0 w1 hF => ?_
 apply test_ok hF rfl <;> intro hb hF
 ·have tq5 : (gk g2 3 || gk g2 4) = true := by rw [← hq5]; exact hb
  apply wp_seq
  rcases (fin_c m0 0 b J hJ ((X2 2).A 0) ((X2 2).c 0) p2 hp2 hn2 l0 hl0 g2 hg2 (by have := hl2; have := hf0; omega)).two (fro_fns _ _ _ _ _ _) hp2 hn2 with ⟨w6, p6, hm6, O1⟩ | ⟨v6, p6, hm6, hs6, hp6, hn6, S6⟩
  ·refine stp 3 hB TA_ok [24, 25, 26] [0] [] hF O1 fun _ _ _ _ hF hk => ?_
   exact thm (P := Tryz.prog) (fn := Tryz.f158) (q := p6) hF hk (by simp [hrun, linM, Rs.bind, hm2, tq3, tq5, hm6])
  have O1 := S6
  refine rg hB TA_ok [0, 1, 5, 6, 7] [0, 5, 6, 7] [(3, rc J (unitV) p6)] hF fun X6 a0 w1 hF => ?_
  replace hF := hF.keep [0, 1, 5, 6, 7] [0, 5, 6, 7]
  exact wp_exit (⟨(m0, p6, _, _, l0), ⟨by rw [hrun]; simp [linM, Rs.bind, hm2, tq3, tq5, hm6], hp6, hn6, by dsimp only; have := hf0; have := hl2; have := hs6.le; omega, hl0⟩, by simp only; omega, hF⟩)
 have tq5 : (gk g2 3 || gk g2 4) = false := by rw [← hq5]; exact hb
 obtain ⟨q7, hq7⟩ := eqv (gk g2 2)
 apply wp_seq
 refine rg hB TA_ok [28, 0, 1, 5, 6, 7, 8] [0, 5, 6, 7, 8] [(2, .r fun _ => .bool (.v q7))] hF (hob := by intro X; subst hB; simp only [AO, Ob.holds, BE.den] <;> and_intros <;> repeat first | trivial | rfl | exact (by rw [hq7]; exact is1_s g2 _ _ 2 _ rfl) | exact by rw [hq7]; exact is1_s g2 _ _ 2 _ rfl | exact (fun _ _ => by kernel_rfl) | refine ⟨?_, ?_⟩ | intro h | exact Int.le_refl _ | decide | omega) fun X7 a0 w1 hF => ?_
 apply test_ok hF rfl <;> intro hb hF
 ·have t7 : (gk g2 2 && decide (l0.len < 64)) = true := by subst hB; rw [← hq7]; revert hb; cases q7 <;> simp [std, sC]
  have h64 : l0.len < 64 := by simp at t7; exact t7.2
  have h0l := (lab_parts hl0.isl).1
  have S8 := lof_s key (l0.len + 1) hk
  simp only [labAV] at S8
  have e1 : IntKind.i64.wrap (l0.len + 1) = l0.len + 1 := wrap_in (by omega) (by omega)
  have hk8 := ofV_ok hk (l0.len + 1)
  obtain ⟨k, hk⟩ := eqv (ofV key (l0.len + 1))
  rw [← hk] at S8 hk8
  obtain ⟨ke, hke⟩ := eqv (ofE (l0.len + 1))
  rw [← hke] at S8
  rw [← e1] at S8
  have O1 := S8
  refine wp_seq (rg hB TA_ok [0, 1, 5, 6, 7] [0, 5, 6, 7] [(4, .r fun _ => .tup [.agg [.int .i64 k.len, .int .u64 k.bits], .int .i64 ke])] hF fun X8 a0 w1 hF => ?_)
  replace hF := hF.keep [0, 1, 5, 6, 7] [0, 5, 6, 7]
  exact wp_exit (⟨(m0, p2, _, _, k), ⟨by rw [hrun]; simp [linM, Rs.bind, hm2, tq3, tq5, t7, ← hk], hp2, hn2, by dsimp only; have := hf0; have := hl2; omega, hk8⟩, by simp only; omega, hF⟩)
 have t7 : (gk g2 2 && decide (l0.len < 64)) = false := by subst hB; rw [← hq7]; revert hb; cases q7 <;> simp [std, sC]
 obtain ⟨q9, hq9⟩ := eqv (gk g2 5)
 apply wp_seq
 refine rg hB TA_ok [45, 0, 1, 5, 6, 7, 8] [0, 5, 6, 7, 8, 47] [(2, .r fun _ => .bool (.v q9))] hF (hob := by intro X; subst hB; simp only [AO, Ob.holds, BE.den] <;> and_intros <;> repeat first | trivial | rfl | exact (by rw [hq9]; exact is1_s g2 _ _ 5 _ rfl) | exact by rw [hq9]; exact is1_s g2 _ _ 5 _ rfl | exact (fun _ _ => by kernel_rfl) | refine ⟨?_, ?_⟩ | intro h | exact Int.le_refl _ | decide | omega) fun X9 a0 w1 hF => ?_
 apply test_ok hF rfl <;> intro hb hF
 ·have tq9 : gk g2 5 = true := by rw [← hq9]; exact hb
  rcases (thw_c m0 0 b J hJ ((X2 2).A 0) ((X2 2).c 0) p2 hp2 hn2 l0 hl0 (by have := hl2; have := hf0; omega)).two (fro_thw _ _ _ _ _) hp2 hn2 with ⟨w10, p10, hm10, O1⟩ | ⟨v10, p10, hm10, hs10, hp10, hn10, S10⟩
  ·refine stp 2 hB TA_ok [49, 50] [0] [] hF O1 fun _ _ _ _ hF hk => ?_
   exact thm (P := Tryz.prog) (fn := Tryz.f158) (q := p10) hF hk (by simp [hrun, linM, Rs.bind, hm2, tq3, tq5, t7, tq9, hm10])
  have O1 := S10
  refine rg hB TA_ok [0, 1, 5, 6, 7] [0, 5, 6, 7] [(2, rc J (unitV) p10)] hF fun X10 a0 w1 hF => ?_
  refine rg hB TA_ok [0, 1, 5, 6, 7] [0, 5, 6, 7] [] hF fun X13 a0 w1 hF => ?_
  replace hF := hF.keep [0, 1, 5, 6, 7] [0, 5, 6, 7]
  exact ⟨(m0, p10, _, _, rootL), ⟨by rw [hrun]; simp [linM, Rs.bind, hm2, tq3, tq5, t7, tq9, hm10], hp10, hn10, by dsimp only; have := hf0; have := hl2; have := hs10.le; omega, lok_z⟩, by simp only; omega, hF⟩
 have tq9 : gk g2 5 = false := by rw [← hq9]; exact hb
 apply wp_seq
 refine rg hB TA_ok [52, 0, 1, 5, 6, 7, 8] [0, 5, 6, 7, 8] [] hF (hob := by intro X; subst hB; simp only [AO, Ob.holds, BE.den] <;> and_intros <;> repeat first | trivial | rfl | exact ob_lab (Kk := noK) _ _ _ _ | exact (fun _ _ => by kernel_rfl) | refine ⟨?_, ?_⟩ | intro h | exact Int.le_refl _ | decide | omega) fun X11 a0 w1 hF => ?_
 apply test_ok hF rfl <;> intro hb hF
 ·have t11 : (!g2.has && decide (l0 = rootL)) = true := by
   have h9 : (if (!g2.has) = true then eqL [.int .i64 l0.len, .int .u64 l0.bits] [.int .i64 0, .int .u64 0] else false) = true := by subst hB; exact hb
   rw [show eqL [.int .i64 l0.len, .int .u64 l0.bits] [.int .i64 0, .int .u64 0] = decide (l0 = rootL) from eqL_lab l0 rootL] at h9
   rw [← h9]; cases g2.has <;> rfl
  rcases (casl_m 0 b J hJ ((X2 2).A 0) ((X2 2).c 0) p2 hp2 hn2 rootL g2.ver).two (fro_cas _ _ _ _ _) hp2 hn2 with ⟨w12, p12, hm12, O1⟩ | ⟨d12, p12, hm12, hs12, hp12, hn12, S12⟩
  ·have O2 := leaf_s
   refine stpD 5 hB TA_ok [61, 62, 64, 65] [0] [(4, .r fun _ => leafV)] hF O1 fun _ _ _ _ hF hk => ?_
   exact thm (P := Tryz.prog) (fn := Tryz.f158) (q := p12) hF hk (by simp [hrun, linM, Rs.bind, hm2, tq3, tq5, t7, tq9, t11, hm12])
  have O1 := leaf_s
  have O2 := S12
  refine drg hB TA_ok [0, 1, 5, 6, 7] [0, 5, 6, 7] [(4, .r fun _ => leafV), (5, rc J (.bool (.v d12)) p12)] hF fun X12 a0 w1 hF => ?_
  refine rg hB TA_ok [0, 1, 5, 6, 7] [0, 5, 6, 7] [] hF fun X13 a0 w1 hF => ?_
  replace hF := hF.keep [0, 1, 5, 6, 7] [0, 5, 6, 7]
  exact ⟨(m0, p12, _, _, rootL), ⟨by rw [hrun]; simp [linM, Rs.bind, hm2, tq3, tq5, t7, tq9, t11, hm12], hp12, hn12, by dsimp only; have := hf0; have := hl2; have := hs12.le; omega, lok_z⟩, by simp only; omega, hF⟩
 have t11 : (!g2.has && decide (l0 = rootL)) = false := by
  have h9 : (if (!g2.has) = true then eqL [.int .i64 l0.len, .int .u64 l0.bits] [.int .i64 0, .int .u64 0] else false) = false := by subst hB; exact hb
  rw [show eqL [.int .i64 l0.len, .int .u64 l0.bits] [.int .i64 0, .int .u64 0] = decide (l0 = rootL) from eqL_lab l0 rootL] at h9
  rw [← h9]; cases g2.has <;> rfl
 refine wp_skip (rg hB TA_ok [0, 1, 5, 6, 7] [0, 5, 6, 7] [] hF fun X13 a0 w1 hF => ?_)
 replace hF := hF.keep [0, 1, 5, 6, 7] [0, 5, 6, 7]
 exact ⟨(m0, p2, _, _, rootL), ⟨by rw [hrun]; simp [linM, Rs.bind, hm2, tq3, tq5, t7, tq9, t11], hp2, hn2, by dsimp only; have := hf0; have := hl2; omega, lok_z⟩, by simp only; omega, hF⟩
theorem from_m (k0 b : Nat) (J : JobA) (hJ : JobOk J) (A : Option Addr) (c : Nat) (p : Pst) (hp : PstOk p) (hn : p.n ≤ 1000000) (key : Int) (hk : U64 key) (l : Lab) (hl : LOk l) (n : Nat) (hf : p.n < n) : RunS 158 k0 b J A c p [.int .u64 key, labAV l] (sptV) (linM J.bucket J.budget key n l p) := RunS.re (from_m0 b J hJ A c p hp hn key hk l hl n hf) (by repeat (first | exact trivial | refine ⟨zr, ?_⟩))
theorem lin_m0 (b : Nat) (J : JobA) (hJ : JobOk J) (A : Option Addr) (c : Nat) (p : Pst) (hp : PstOk p) (hn : p.n ≤ 1000000) (key : Int) (hk : U64 key) (n : Nat) (hf : p.n < n) : RunS 143 0 b J A c p [.int .u64 key] (sptV) (linM J.bucket J.budget key n rootL p) := by
 intro m w hm hargs hpre
 refine enX 9 hm hpre hargs Tryz.func143 fun B hB a0 hF => ?_
 refine wp_seq (rg hB TA_ok [0, 1, 4] [0, 4] [] hF fun X0 a0 w1 hF => ?_)
 apply wp_seq
 rcases (from_m 0 b J hJ A c p hp hn key hk rootL lok_z n hf).two (fro_lin _ _ _ _ _ _) hp hn with ⟨w1, p1, hm1, O1⟩ | ⟨s1, p1, hm1, hs1, hp1, hn1, S1⟩
 ·refine stp 3 hB TA_ok [5, 6, 7] [0] [] hF O1 fun _ _ _ _ hF hk => ?_
  exact thm (P := Tryz.prog) (fn := Tryz.f143) (q := p1) hF hk (by simp [Rs.bind, hm1])
 have O1 := S1
 refine rg hB TA_ok [4] [0, 4] [(3, rc J (sptV s1) p1)] hF fun X1 a0 w1 hF => ?_
 exact wp_ret ((rmm hB TA_ok hF (v := s1) (q := p1) ((X1 3).A 0) ((X1 3).c 0) (by simp [Rs.bind, hm1])).1)
theorem lin_m (k0 b : Nat) (J : JobA) (hJ : JobOk J) (A : Option Addr) (c : Nat) (p : Pst) (hp : PstOk p) (hn : p.n ≤ 1000000) (key : Int) (hk : U64 key) (n : Nat) (hf : p.n < n) : RunS 143 k0 b J A c p [.int .u64 key] (sptV) (linM J.bucket J.budget key n rootL p) := RunS.re (lin_m0 b J hJ A c p hp hn key hk n hf) (by repeat (first | exact trivial | refine ⟨zr, ?_⟩))
section
variable {C : Cx} {P : Program} {Q : Exit → Act → World → Prop} {T : List (Nat × TI)} {s : St} {a : Act} {w : World} {B : Alg} {f : FuncId} {k : Nat} {blk : Blk} {ty : Nat} {v : Atom → AV} {sets : Atom → List (Nat × List AV)} {args' : List AV} {id : Nat} {all L rest : List Oper} {R : Alg → (Nat → Atom) → St × List Ob} {o : Oper} {c : Call} {g : Operand} {l r args : (Nat → Atom) → List AV}
theorem stl (i n : Nat) (hB : B = std) (hT : TabOK P T) (kp km : List Nat) (cs : List (Nat × CS)) (h : Fits C s a w) (hsp : SpecT P f args' [(k, blk)] (fun x => .thr ty (v x) (sets x)))
  (K : ∀ X x a w', Fits C ((R B X).1.eff (.sets (upd [(k, blk)] (sets x)))) a w' → Ok (((R B X).1.eff (.sets (upd [(k, blk)] (sets x)))).m C) w' (v x) → Q (.panic [{ v := .iface ty (v x).den, recovered := false }]) a w')
  (hex : ∀ A X, (exec A T cs X all (number i (L.take n)) s).map (fun r => (r.1.keep kp km, r.2.1)) = some (R A X) := by intro A X; conv => lhs; cbv) (hob : ∀ X, AO P C.K (R B X).2 := by
   intro X; subst hB
   first
   | exact trivial
   | (simp only [AO, Ob.holds, BE.den] <;> and_intros <;> (repeat first | trivial | rfl | exact O1 | exact O2 | exact O3 | exact (fun _ _ => by kernel_rfl) | exact O1 _ _ _ rfl | exact O2 _ _ _ rfl | refine ⟨?_, ?_⟩ | intro h | decide | omega) <;> done)
   | (simp [AO, Ob.holds, BE.den, std, sC, sAr] <;> omega))
  (hL : L.drop n = o :: rest := by rfl) (hop : o.op = .call c := by rfl) (hcal : c.callee = .value g := by rfl) (hg : ∀ X, goes all (R B X).1 o = true := by intro X; rfl) (hgv : ∀ X, val (R B X).1 [] g = .fn f (l X) (r X) := by intro X; rfl) (hl : ∀ X, vals (R B X).1 [] c.args.toList = some (args X) := by intro X; rfl) (hsim : ∀ X, SimL (l X ++ args X ++ r X) args' := by intro X; subst hB; exact zl)
  (hpre : ∀ X, lookM (R B X).1.mem k = some blk := by intro X; rfl) (hd : ∀ X, inNt (R B X).1 o.dst = true := by intro X; rfl) (hen : Enters P f := by exact fun _ _ => by kernel_rfl) : wpList P all.toArray Q L a w :=
 list_preB i n hB hT kp km cs h hex hob fun X a1 w1 hF => man_outT hL (hg X) hop hcal hF (hgv X) (hl X) hen hsp (hsim X) (mem1 (hpre X)) rfl (hd X) fun x w' hF hok => K X x _ w' hF hok
end
theorem Sim.of_int {k : IntKind} {x y : Int} (h : x = y) : Sim (.int k x) (.int k y) := h ▸ zr
theorem anyF3 (f : Nat → Int) (v : Int) : anyF 3 f v = (decide (f 0 = v) || decide (f 1 = v) || decide (f 2 = v)) := by
 show (decide (f 0 = v) || (decide (f 1 = v) || (decide (f 2 = v) || false))) = _
 rw [Bool.or_false, Bool.or_assoc]
theorem is30 (g : GotA) (A : Option Addr) (k k2 k3 : Int) (f : Nat → Int) (h0 : f 0 = k) (h1 : f 1 = k2) (h2 : f 2 = k3) : Spec Tryz.prog 133 [gotV g, .sl none A 3 3 1 (fun i => [.int .i64 (f i)])] (fun _ => .bool (.v (gk g k || gk g k2 || gk g k3))) := by
 intro m w hm hargs
 have S := coni_s A 3 3 f g.x.r.kd
 obtain ⟨q, hq⟩ := eqv (anyF 3 f g.x.r.kd)
 rw [← hq] at S
 refine en 14 hm hargs Tryz.func133 fun B hB a0 hF => ?_
 refine wp_seq (rg hB TA_ok [1, 2] [2] [] hF fun X0 a0 w1 hF => ?_)
 have O1 := S
 refine wp_seq (rg hB TA_ok [4] [] [(7, .r fun _ => .bool (.v q))] hF fun X1 a0 w1 hF => ?_)
 refine wp_ret ((rsi hB TA_ok hF nAt (he := ?_)))
 subst hB
 refine Sim.bool ?_
 show (if g.has = true then q else false) = _
 rw [hq, anyF3, h0, h1, h2]; unfold gk; simp only [dcomm g.x.r.kd]; cases g.has <;> rfl
theorem is3_s (g : GotA) (G : Option Nat) (A : Option Addr) (k k2 k3 : Int) (cells : Nat → List AV) (h0 : cells 0 = [.int .i64 k]) (h1 : cells 1 = [.int .i64 k2]) (h2 : cells 2 = [.int .i64 k3]) : Spec Tryz.prog 133 [gotV g, .sl G A 3 3 1 cells] (fun _ => .bool (.v (gk g k || gk g k2 || gk g k3))) :=
 (is30 g A k k2 k3 (fun i => if i = 0 then k else if i = 1 then k2 else k3) rfl rfl rfl).sim ⟨zr, Sim.recell (fun i hi => by
  match i, hi with
  | 0, _ => rw [h0]; rfl
  | 1, _ => rw [h1]; rfl
  | 2, _ => rw [h2]; rfl), trivial⟩
theorem lft_m0 (b : Nat) (J : JobA) (hJ : JobOk J) (A : Option Addr) (c : Nat) (p : Pst) (hp : PstOk p) (hn : p.n ≤ 1000000) (l : Lab) (hl : LOk l) (n : Nat) (hf : p.n < n) : RunS 200 0 b J A c p [labAV l] (fun b : Bool => .bool (.v b)) (lftM J.bucket J.budget n l p) := by
 intro m w hm hargs hpre
 have SP := par_s l hl.u
 simp only [labAV] at SP
 obtain ⟨up, hup⟩ := eqv (parV l)
 rw [← hup] at SP
 obtain ⟨ue, hue⟩ := eqv (parE l)
 rw [← hue] at SP
 refine enX 25 hm hpre hargs Tryz.func200 fun B hB a0 hF => ?_
 refine wp_seq (rg hB TA_ok [0, 3] [0, 3] [] hF fun X0 a0 w1 hF => ?_)
 have O1 := SP
 refine wp_seq (rg hB TA_ok [0, 3, 5, 6] [0, 3, 5] [(1, .r fun _ => .tup [.agg [.int .i64 up.len, .int .u64 up.bits], .int .i64 ue])] hF fun X1 a0 w1 hF => ?_)
 refine wp_seq (wp_seq ?_)
 rcases Bool.eq_false_or_eq_true (decide (ue = 0)) with t8 | t8
 ·have t9 := of_decide_eq_true t8
  refine wp_region_lit (lpr 0 3 hB TA_ok [14, 0, 3, 5] [0, 3, 5] [] hF fun X2_0 a0 w1 hF => ?_)
  replace hF := hF.headS (v' := .bool .ff) (Sim.bool (by subst hB; have h9 := t8; simp [std, sC, BE.den] at h9 ⊢; exact h9)) rfl
  rcases (get_m 0 b J hJ A c p hp hn up).two (fro_get _ _ _) hp hn with ⟨w2, p2, hm2, O1⟩ | ⟨q2, p2, hm2, hs2, hp2, hn2, S2⟩
  ·refine stl 3 2 hB TA_ok [14, 15, 16] [0] [] hF O1 fun _ _ _ _ hF hk => ?_
   exact thm (P := Tryz.prog) (fn := Tryz.f200) (q := p2) hF hk (by simp [lftM, ← hup, ← hue, Rs.bind, t8, t9, hm2])
  have hl2 := get_lt hm2
  have hg2 := hp.get hm2
  obtain ⟨r2, hr2⟩ := eqv ((gk q2 2 || gk q2 3 || gk q2 4))
  refine lnd 3 hB TA_ok [21, 0, 3] [0, 3] [(7, .r fun _ => .bool (.v r2)), (5, rc J (gotV q2) p2)] hF (hob := by intro X; subst hB; simp only [AO, Ob.holds, BE.den] <;> and_intros <;> repeat first | trivial | rfl | exact S2 | exact (by rw [hr2]; exact is3_s q2 _ _ 2 3 4 _ rfl rfl rfl) | exact by rw [hr2]; exact is3_s q2 _ _ 2 3 4 _ rfl rfl rfl | exact (fun _ _ => by kernel_rfl) | refine ⟨?_, ?_⟩ | intro h | exact Int.le_refl _ | decide | omega) fun X2 a0 w1 hF => ?_
  apply test_ok hF rfl <;> intro hb hF
  ·have tr : (gk q2 2 || gk q2 3 || gk q2 4) = false := by subst hB; rw [← hr2]; revert hb; cases r2 <;> simp [std]
   refine wp_seq (rg hB TA_ok [4] [0] [] hF fun X3 a0 w1 hF => ?_)
   exact wp_ret ((rmm hB TA_ok hF (v := true) (q := p2) ((X2 5).A 0) ((X2 5).c 0) (by simp [lftM, ← hup, ← hue, Rs.bind, t8, t9, hm2, tr])).1)
  have tr : (gk q2 2 || gk q2 3 || gk q2 4) = true := by subst hB; rw [← hr2]; revert hb; cases r2 <;> simp [std]
  refine wp_skip (wp_seq ?_)
  rcases (thw_c n 0 b J hJ ((X2 5).A 0) ((X2 5).c 0) p2 hp2 hn2 l hl (by have := hs2.le; omega)).two (fro_thw _ _ _ _ _) hp2 hn2 with ⟨w4, p4, hm4, O1⟩ | ⟨v4, p4, hm4, hs4, hp4, hn4, S4⟩
  ·refine stp 2 hB TA_ok [22, 23] [0] [] hF O1 fun _ _ _ _ hF hk => ?_
   exact thm (P := Tryz.prog) (fn := Tryz.f200) (q := p4) hF hk (by simp [lftM, ← hup, ← hue, Rs.bind, t8, t9, hm2, tr, hm4])
  have O1 := S4
  refine rg hB TA_ok [] [0] [(2, rc J (unitV) p4)] hF fun X4 a0 w1 hF => ?_
  refine wp_seq (rg hB TA_ok [4] [0] [] hF fun X5 a0 w1 hF => ?_)
  exact wp_ret ((rmm hB TA_ok hF (v := false) (q := p4) ((X4 2).A 0) ((X4 2).c 0) (by simp [lftM, ← hup, ← hue, Rs.bind, t8, t9, hm2, tr, hm4])).1)
 have t9 := of_decide_eq_false t8
 refine wp_region_lit (lpr 0 3 hB TA_ok [14, 0, 3, 5] [0, 3, 5] [] hF fun X2_0 a0 w1 hF => ?_)
 replace hF := hF.headS (v' := .bool .tt) (Sim.bool (by subst hB; have h9 := t8; simp [std, sC, BE.den] at h9 ⊢; exact h9)) rfl
 refine lnd 3 hB TA_ok [21, 0, 3] [0, 3] [] hF fun X2 a0 w1 hF => ?_
 refine test_tt hF rfl (fun hF => ?_)
 refine wp_seq (rg hB TA_ok [4] [0] [] hF fun X3 a0 w1 hF => ?_)
 exact wp_ret ((rmm hB TA_ok hF (v := true) (q := p) A c (by simp [lftM, ← hup, ← hue, Rs.bind, t8, t9])).1)
theorem lft_m (k0 b : Nat) (J : JobA) (hJ : JobOk J) (A : Option Addr) (c : Nat) (p : Pst) (hp : PstOk p) (hn : p.n ≤ 1000000) (l : Lab) (hl : LOk l) (n : Nat) (hf : p.n < n) : RunS 200 k0 b J A c p [labAV l] (fun b : Bool => .bool (.v b)) (lftM J.bucket J.budget n l p) := RunS.re (lft_m0 b J hJ A c p hp hn l hl n hf) (by repeat (first | exact trivial | refine ⟨zr, ?_⟩))
theorem bin_m0 (b : Nat) (J : JobA) (hJ : JobOk J) (A : Option Addr) (c : Nat) (p : Pst) (hp : PstOk p) (hn : p.n ≤ 1000000) (key : Int) (hk : U64 key) (n : Nat) (hf : p.n < n) : RunS 144 0 b J A c p [.int .u64 key] (sptV) (binM J.bucket J.budget key n 0 64 p) := by
 intro m w hm hargs hpre
 refine enX 63 hm hpre hargs Tryz.func144 fun B hB a0 hF => ?_
 refine wp_seq (rg hB TA_ok [0, 1, 4] [0, 4] [] hF fun X0 a0 w1 hF => ?_)
 refine wp_scope_straight (wp_seq (rg hB TA_ok [5, 6, 0, 1, 4] [0, 4] [] hF fun X1 a0 w1 hF => ?_))
 refine wp_seq (wp_label (wp_seq (wp_block (loop_pre (ι := Nat × Pst × Option Addr × Nat × Int × Int) (fun q => [(5, .int .i64 q.2.2.2.2.1), (6, .int .i64 q.2.2.2.2.2)]) (fun q => [(0, ⟨b, 114, runC J q.2.2.1 q.2.2.2.1 q.2.1⟩)]) (fun q => []) (fun q => binM J.bucket J.budget key n 0 64 p = binM J.bucket J.budget key q.1 q.2.2.2.2.1 q.2.2.2.2.2 q.2.1 ∧ PstOk q.2.1 ∧ q.2.1.n ≤ 1000000 ∧ q.2.1.n < q.1 ∧ 0 ≤ q.2.2.2.2.1 ∧ q.2.2.2.2.1 ≤ 65 ∧ -1 ≤ q.2.2.2.2.2 ∧ q.2.2.2.2.2 ≤ 64) (fun q => q.1) (n, p, A, c, 0, 64) ⟨rfl, hp, hn, hf, (by dsimp only; omega), (by dsimp only; omega), (by dsimp only; omega), (by dsimp only; omega)⟩ hF ?_))))
 rintro ⟨nn, p0, A0, c0, lo0, hi0⟩ ⟨hrun, hp0, hn0, hf0, ha0, ha1, hb0, hb1⟩ a0 w1 hF
 try dsimp only at hrun
 try dsimp only at hp0
 try dsimp only at hn0
 try dsimp only at hf0
 try dsimp only at ha0
 try dsimp only at ha1
 try dsimp only at hb0
 try dsimp only at hb1
 obtain ⟨m0, rfl⟩ : ∃ n2, nn = n2 + 1 := ⟨nn - 1, by omega⟩
 refine wp_seq (wp_seq (rg hB TA_ok [13, 0, 1, 4, 5, 6] [0, 4] [] hF fun X2 a0 w1 hF => ?_))
 apply test_ok hF rfl <;> intro hb hF
 ·have tl : lo0 ≤ hi0 := by subst hB; simpa [std, sC] using hb
  obtain ⟨md, hmd⟩ := eqv ((lo0 + hi0) / 2)
  have hm0 : 0 ≤ md ∧ md ≤ 64 := by omega
  have e3 : stdDiv .quo .i64 (sAr .add .i64 lo0 hi0) 2 = md := by
   show IntKind.i64.wrap (Int.tdiv (IntKind.i64.wrap (lo0 + hi0)) 2) = md
   rw [wrap_in (x := lo0 + hi0) (by omega) (by omega), Int.tdiv_eq_ediv_of_nonneg (by omega), ← hmd]; exact wrap_in (by omega) (by omega)
  have e9 : sAr .add .i64 md 1 = md + 1 := wrap_in (by omega) (by omega)
  have e13 : sAr .sub .i64 md 1 = md - 1 := wrap_in (by omega) (by omega)
  have S8 := lof_s key md hk
  simp only [labAV] at S8
  have hk9 := ofV_ok hk md
  obtain ⟨k, hkk⟩ := eqv (ofV key md)
  rw [← hkk] at S8 hk9
  have hk8 := hkk
  obtain ⟨ke, hke⟩ := eqv (ofE md)
  rw [← hke] at S8
  refine wp_skip (wp_block (wp_seq (rg hB TA_ok [7, 0, 1, 4, 5, 6] [0, 4] [] hF fun X3 a0 w1 hF => ?_)))
  replace hF := hF.headS (v' := .int .i64 md) (by subst hB; exact Sim.of_int e3) rfl
  have O1 := S8
  refine wp_seq (rg hB TA_ok [0, 1, 4, 5, 6, 7, 8] [0, 4, 8] [(2, .r fun _ => .tup [.agg [.int .i64 k.len, .int .u64 k.bits], .int .i64 ke])] hF fun X4 a0 w1 hF => ?_)
  apply wp_seq
  rcases (get_m 0 b J hJ A0 c0 p0 hp0 hn0 k).two (fro_get _ _ _) hp0 hn0 with ⟨w5, p5, hm5, O1⟩ | ⟨g5, p5, hm5, hs5, hp5, hn5, S5⟩
  ·refine stp 2 hB TA_ok [24, 25] [0] [] hF O1 fun _ _ _ _ hF hk => ?_
   exact thm (P := Tryz.prog) (fn := Tryz.f144) (q := p5) hF hk (by simp [hrun, binM, Rs.bind, tl, ← hmd, ← hk8, hm5])
  have hl5 := get_lt hm5
  have hg5 := hp0.get hm5
  have O1 := S5
  refine rg hB TA_ok [0, 1, 4, 5, 6, 7, 8, 10] [0, 4, 8, 10] [(2, rc J (gotV g5) p5)] hF fun X5 a0 w1 hF => ?_
  obtain ⟨q6, hq6⟩ := eqv (gk g5 1)
  refine wp_seq (wp_block (wp_seq ?_))
  refine rg hB TA_ok [27, 0, 1, 4, 5, 6, 7, 8, 10] [0, 4, 8, 10, 29] [(2, .r fun _ => .bool (.v q6))] hF (hob := by intro X; subst hB; simp only [AO, Ob.holds, BE.den] <;> and_intros <;> repeat first | trivial | rfl | exact (by rw [hq6]; exact is1_s g5 _ _ 1 _ rfl) | exact by rw [hq6]; exact is1_s g5 _ _ 1 _ rfl | exact (fun _ _ => by kernel_rfl) | refine ⟨?_, ?_⟩ | intro h | exact Int.le_refl _ | decide | omega) fun X6 a0 w1 hF => ?_
  apply test_ok hF rfl <;> intro hb hF
  ·have tq6 : gk g5 1 = true := by rw [← hq6]; exact hb
   refine wp_seq (rg hB TA_ok [4] [0, 4] [] hF fun X7 a0 w1 hF => ?_)
   exact wp_ret ((rmm hB TA_ok hF (v := (⟨k, g5⟩ : Spt)) (q := p5) ((X5 2).A 0) ((X5 2).c 0) (by simp [hrun, binM, Rs.bind, tl, ← hmd, ← hk8, hm5, tq6])).1)
  have tq6 : gk g5 1 = false := by rw [← hq6]; exact hb
  obtain ⟨q8, hq8⟩ := eqv (gk g5 2)
  apply wp_seq
  refine rg hB TA_ok [34, 0, 1, 4, 5, 6, 7, 8, 10] [0, 4, 8, 10, 36] [(2, .r fun _ => .bool (.v q8))] hF (hob := by intro X; subst hB; simp only [AO, Ob.holds, BE.den] <;> and_intros <;> repeat first | trivial | rfl | exact (by rw [hq8]; exact is1_s g5 _ _ 2 _ rfl) | exact by rw [hq8]; exact is1_s g5 _ _ 2 _ rfl | exact (fun _ _ => by kernel_rfl) | refine ⟨?_, ?_⟩ | intro h | exact Int.le_refl _ | decide | omega) fun X8 a0 w1 hF => ?_
  apply test_ok hF rfl <;> intro hb hF
  ·have tq8 : gk g5 2 = true := by rw [← hq8]; exact hb
   refine wp_seq (rg hB TA_ok [5, 0, 1, 4, 6] [0, 4] [] hF fun X9 a0 w1 hF => ?_)
   have e9' : B.arith .add .i64 md 1 = md + 1 := by subst hB; exact e9
   replace hF := hF.keep [5, 6, 0, 1, 4] [0, 4]
   exact wp_exit (⟨(m0, p5, _, _, (md + 1), hi0), ⟨by rw [hrun]; simp [binM, Rs.bind, tl, ← hmd, ← hk8, hm5, tq6, tq8], hp5, hn5, (by dsimp only; have := hf0; have := hl5; omega), (by dsimp only; omega), (by dsimp only; omega), (by dsimp only; omega), (by dsimp only; omega)⟩, by simp only; omega, by dsimp only; rw [← e9']; exact hF⟩)
  have tq8 : gk g5 2 = false := by rw [← hq8]; exact hb
  obtain ⟨q10, hq10⟩ := eqv ((gk g5 3 || gk g5 4))
  apply wp_seq
  refine rg hB TA_ok [40, 0, 1, 4, 5, 6, 7, 8, 10] [0, 4, 8, 10, 42] [(2, .r fun _ => .bool (.v q10))] hF (hob := by intro X; subst hB; simp only [AO, Ob.holds, BE.den] <;> and_intros <;> repeat first | trivial | rfl | exact (by rw [hq10]; exact is2_s g5 _ _ 3 4 _ rfl rfl) | exact by rw [hq10]; exact is2_s g5 _ _ 3 4 _ rfl rfl | exact (fun _ _ => by kernel_rfl) | refine ⟨?_, ?_⟩ | intro h | exact Int.le_refl _ | decide | omega) fun X10 a0 w1 hF => ?_
  apply test_ok hF rfl <;> intro hb hF
  ·have tq10 : (gk g5 3 || gk g5 4) = true := by rw [← hq10]; exact hb
   apply wp_seq
   rcases (fin_c m0 0 b J hJ ((X5 2).A 0) ((X5 2).c 0) p5 hp5 hn5 k hk9 g5 hg5 (by have := hl5; have := hf0; omega)).two (fro_fns _ _ _ _ _ _) hp5 hn5 with ⟨w11, p11, hm11, O1⟩ | ⟨v11, p11, hm11, hs11, hp11, hn11, S11⟩
   ·refine stp 3 hB TA_ok [44, 45, 46] [0] [] hF O1 fun _ _ _ _ hF hk => ?_
    exact thm (P := Tryz.prog) (fn := Tryz.f144) (q := p11) hF hk (by simp [hrun, binM, Rs.bind, tl, ← hmd, ← hk8, hm5, tq6, tq8, tq10, hm11])
   have O1 := S11
   refine rg hB TA_ok [0, 1, 4, 5, 6] [0, 4] [(3, rc J (unitV) p11)] hF fun X11 a0 w1 hF => ?_
   replace hF := hF.keep [5, 6, 0, 1, 4] [0, 4]
   exact wp_exit (⟨(m0, p11, _, _, lo0, hi0), ⟨by rw [hrun]; simp [binM, Rs.bind, tl, ← hmd, ← hk8, hm5, tq6, tq8, tq10, hm11], hp11, hn11, (by dsimp only; have := hf0; have := hl5; have := hs11.le; omega), (by dsimp only; omega), (by dsimp only; omega), (by dsimp only; omega), (by dsimp only; omega)⟩, by simp only; omega, by exact hF⟩)
  have tq10 : (gk g5 3 || gk g5 4) = false := by rw [← hq10]; exact hb
  apply wp_seq
  rcases Bool.eq_false_or_eq_true (gk g5 5) with t8 | t8
  ·rcases (lft_m 0 b J hJ ((X5 2).A 0) ((X5 2).c 0) p5 hp5 hn5 k hk9 m0 (by have := hl5; have := hf0; omega)).two (fro_lft _ _ _ _ _) hp5 hn5 with ⟨w12, p12, hm12, O1⟩ | ⟨b12, p12, hm12, hs12, hp12, hn12, S12⟩
   ·refine stp 6 hB TA_ok [52, 53, 54] [0] [(2, .r fun _ => .bool .tt)] hF O1 (hob := by intro X; subst hB; simp only [AO, Ob.holds, BE.den] <;> and_intros <;> repeat first | trivial | rfl | exact ((is1_s g5 _ _ 5 _ rfl).res fun _ => Sim.bool (by rw [t8]; rfl)) | exact (fun _ _ => by kernel_rfl) | refine ⟨?_, ?_⟩ | intro h | exact Int.le_refl _ | decide | omega) fun _ _ _ _ hF hk => ?_
    exact thm (P := Tryz.prog) (fn := Tryz.f144) (q := p12) hF hk (by simp [hrun, binM, Rs.bind, tl, ← hmd, ← hk8, hm5, tq6, tq8, tq10, t8, hm12])
   refine rg hB TA_ok [48, 0, 1, 4, 5, 6, 7] [0, 4] [(2, .r fun _ => .bool .tt), (6, rc J (.bool (.v b12)) p12)] hF (hob := by intro X; subst hB; simp only [AO, Ob.holds, BE.den] <;> and_intros <;> repeat first | trivial | rfl | exact ((is1_s g5 _ _ 5 _ rfl).res fun _ => Sim.bool (by rw [t8]; rfl)) | exact S12 | exact (fun _ _ => by kernel_rfl) | refine ⟨?_, ?_⟩ | intro h | exact Int.le_refl _ | decide | omega) fun X12 a0 w1 hF => ?_
   apply test_ok hF rfl <;> intro hb hF
   ·have tb : b12 = false := by subst hB; revert hb; cases b12 <;> simp [std]
    replace hF := hF.keep [5, 6, 0, 1, 4] [0, 4]
    exact wp_exit (⟨(m0, p12, _, _, lo0, hi0), ⟨by rw [hrun]; simp [binM, Rs.bind, tl, ← hmd, ← hk8, hm5, tq6, tq8, tq10, t8, hm12, tb], hp12, hn12, (by dsimp only; have := hf0; have := hl5; have := hs12.le; omega), (by dsimp only; omega), (by dsimp only; omega), (by dsimp only; omega), (by dsimp only; omega)⟩, by simp only; omega, by exact hF⟩)
   have tb : b12 = true := by subst hB; revert hb; cases b12 <;> simp [std]
   refine wp_skip (rg hB TA_ok [0, 1, 4, 5, 6] [0, 4] [] hF fun X13 a0 w1 hF => ?_)
   have e13' : B.arith .sub .i64 md 1 = md - 1 := by subst hB; exact e13
   replace hF := hF.keep [5, 6, 0, 1, 4] [0, 4]
   exact ⟨(m0, p12, _, _, lo0, (md - 1)), ⟨by rw [hrun]; simp [binM, Rs.bind, tl, ← hmd, ← hk8, hm5, tq6, tq8, tq10, t8, hm12, tb], hp12, hn12, (by dsimp only; have := hf0; have := hl5; have := hs12.le; omega), (by dsimp only; omega), (by dsimp only; omega), (by dsimp only; omega), (by dsimp only; omega)⟩, by simp only; omega, by dsimp only; rw [← e13']; exact hF⟩
  refine rg hB TA_ok [48, 0, 1, 4, 5, 6, 7] [0, 4] [(2, .r fun _ => .bool .ff)] hF (hob := by intro X; subst hB; simp only [AO, Ob.holds, BE.den] <;> and_intros <;> repeat first | trivial | rfl | exact ((is1_s g5 _ _ 5 _ rfl).res fun _ => Sim.bool (by rw [t8]; rfl)) | exact (fun _ _ => by kernel_rfl) | refine ⟨?_, ?_⟩ | intro h | exact Int.le_refl _ | decide | omega) fun X12 a0 w1 hF => ?_
  refine test_ff hF rfl (fun hF => ?_)
  refine wp_skip (rg hB TA_ok [0, 1, 4, 5, 6] [0, 4] [] hF fun X13 a0 w1 hF => ?_)
  have e13' : B.arith .sub .i64 md 1 = md - 1 := by subst hB; exact e13
  replace hF := hF.keep [5, 6, 0, 1, 4] [0, 4]
  exact ⟨(m0, p5, _, _, lo0, (md - 1)), ⟨by rw [hrun]; simp [binM, Rs.bind, tl, ← hmd, ← hk8, hm5, tq6, tq8, tq10, t8], hp5, hn5, (by dsimp only; have := hf0; have := hl5; omega), (by dsimp only; omega), (by dsimp only; omega), (by dsimp only; omega), (by dsimp only; omega)⟩, by simp only; omega, by dsimp only; rw [← e13']; exact hF⟩
 have tl : ¬ lo0 ≤ hi0 := by subst hB; simpa [std, sC] using hb
 refine wp_exit (wp_seq ?_)
 rcases (lin_m 0 b J hJ A0 c0 p0 hp0 hn0 key hk (m0 + 1) hf0).two (fro_lin _ _ _ _ _ _) hp0 hn0 with ⟨w14, p14, hm14, O1⟩ | ⟨s14, p14, hm14, hs14, hp14, hn14, S14⟩
 ·refine stp 2 hB TA_ok [60, 61] [0] [] hF O1 fun _ _ _ _ hF hk => ?_
  exact thm (P := Tryz.prog) (fn := Tryz.f144) (q := p14) hF hk (by simp [hrun, binM, Rs.bind, tl, hm14])
 have O1 := S14
 refine rg hB TA_ok [4] [0, 4] [(2, rc J (sptV s14) p14)] hF fun X14 a0 w1 hF => ?_
 exact wp_ret ((rmm hB TA_ok hF (v := s14) (q := p14) ((X14 2).A 0) ((X14 2).c 0) (by simp [hrun, binM, Rs.bind, tl, hm14])).1)
theorem bin_m (k0 b : Nat) (J : JobA) (hJ : JobOk J) (A : Option Addr) (c : Nat) (p : Pst) (hp : PstOk p) (hn : p.n ≤ 1000000) (key : Int) (hk : U64 key) (n : Nat) (hf : p.n < n) : RunS 144 k0 b J A c p [.int .u64 key] (sptV) (binM J.bucket J.budget key n 0 64 p) := RunS.re (bin_m0 b J hJ A c p hp hn key hk n hf) (by repeat (first | exact trivial | refine ⟨zr, ?_⟩))
theorem sek1_m0 (b : Nat) (J : JobA) (hJ : JobOk J) (A : Option Addr) (c : Nat) (p : Pst) (hp : PstOk p) (hn : p.n ≤ 1000000) (key : Int) (hk : U64 key) (n : Nat) (hf : p.n < n) (hh : J.how = 1) : RunS 75 0 b J A c p [.int .u64 key] (sptV) (linM J.bucket J.budget key n rootL p) := by
 intro m w hm hargs hpre
 refine enX 17 hm hpre hargs Tryz.func75 fun B hB a0 hF => ?_
 refine wp_seq (rg hB TA_ok [0, 1, 4] [0, 4] [] hF fun X0 a0 w1 hF => ?_)
 refine wp_seq (rg hB TA_ok [0, 1, 4, 5] [0, 4, 5] [] hF fun X1 a0 w1 hF => ?_)
 refine wp_seq (wp_region_lit (lpr 0 5 hB TA_ok [11, 0, 1, 4, 5] [0, 4, 5] [] hF fun X2_0 a0 w1 hF => ?_))
 replace hF := hF.headS (v' := .int .i64 1) (Sim.of_int hh) rfl
 rcases (lin_m 0 b J hJ A c p hp hn key hk n hf).two (fro_lin _ _ _ _ _ _) hp hn with ⟨w2, p2, hm2, O1⟩ | ⟨s2, p2, hm2, hs2, hp2, hn2, S2⟩
 ·refine stl 5 4 hB TA_ok [13, 14, 15] [0] [] hF O1 fun _ _ _ _ hF hk => ?_
  exact thm (P := Tryz.prog) (fn := Tryz.f75) (q := p2) hF hk (by simp [Rs.bind, hm2])
 have O1 := S2
 refine lnd 5 hB TA_ok [4] [0, 4] [(9, rc J (sptV s2) p2)] hF fun X2 a0 w1 hF => ?_
 exact wp_ret ((rmm hB TA_ok hF (v := s2) (q := p2) ((X2 9).A 0) ((X2 9).c 0) (by simp [Rs.bind, hm2])).1)
theorem sek1_m (k0 b : Nat) (J : JobA) (hJ : JobOk J) (A : Option Addr) (c : Nat) (p : Pst) (hp : PstOk p) (hn : p.n ≤ 1000000) (key : Int) (hk : U64 key) (n : Nat) (hf : p.n < n) (hh : J.how = 1) : RunS 75 k0 b J A c p [.int .u64 key] (sptV) (linM J.bucket J.budget key n rootL p) := RunS.re (sek1_m0 b J hJ A c p hp hn key hk n hf hh) (by repeat (first | exact trivial | refine ⟨zr, ?_⟩))
theorem sek2_m0 (b : Nat) (J : JobA) (hJ : JobOk J) (A : Option Addr) (c : Nat) (p : Pst) (hp : PstOk p) (hn : p.n ≤ 1000000) (key : Int) (hk : U64 key) (n : Nat) (hf : p.n < n) (hh : J.how = 2) : RunS 75 0 b J A c p [.int .u64 key] (sptV) (binM J.bucket J.budget key n 0 64 p) := by
 intro m w hm hargs hpre
 refine enX 17 hm hpre hargs Tryz.func75 fun B hB a0 hF => ?_
 refine wp_seq (rg hB TA_ok [0, 1, 4] [0, 4] [] hF fun X0 a0 w1 hF => ?_)
 refine wp_seq (rg hB TA_ok [0, 1, 4, 5] [0, 4, 5] [] hF fun X1 a0 w1 hF => ?_)
 refine wp_seq (wp_region_lit (lpr 0 5 hB TA_ok [11, 0, 1, 4, 5] [0, 4, 5] [] hF fun X2_0 a0 w1 hF => ?_))
 replace hF := hF.headS (v' := .int .i64 2) (Sim.of_int hh) rfl
 rcases (bin_m 0 b J hJ A c p hp hn key hk n hf).two (fro_bin _ _ _ _ _ _ _) hp hn with ⟨w2, p2, hm2, O1⟩ | ⟨s2, p2, hm2, hs2, hp2, hn2, S2⟩
 ·refine stl 5 4 hB TA_ok [13, 14, 15] [0] [] hF O1 fun _ _ _ _ hF hk => ?_
  exact thm (P := Tryz.prog) (fn := Tryz.f75) (q := p2) hF hk (by simp [Rs.bind, hm2])
 have O1 := S2
 refine lnd 5 hB TA_ok [4] [0, 4] [(9, rc J (sptV s2) p2)] hF fun X2 a0 w1 hF => ?_
 exact wp_ret ((rmm hB TA_ok hF (v := s2) (q := p2) ((X2 9).A 0) ((X2 9).c 0) (by simp [Rs.bind, hm2])).1)
theorem sek2_m (k0 b : Nat) (J : JobA) (hJ : JobOk J) (A : Option Addr) (c : Nat) (p : Pst) (hp : PstOk p) (hn : p.n ≤ 1000000) (key : Int) (hk : U64 key) (n : Nat) (hf : p.n < n) (hh : J.how = 2) : RunS 75 k0 b J A c p [.int .u64 key] (sptV) (binM J.bucket J.budget key n 0 64 p) := RunS.re (sek2_m0 b J hJ A c p hp hn key hk n hf hh) (by repeat (first | exact trivial | refine ⟨zr, ?_⟩))
theorem sek_m (k0 b : Nat) (J : JobA) (hJ : JobOk J) (A : Option Addr) (c : Nat) (p : Pst) (hp : PstOk p) (hn : p.n ≤ 1000000) (key : Int) (hk : U64 key) (n : Nat) (hf : p.n < n) (hh : J.how = 1 ∨ J.how = 2) : RunS 75 k0 b J A c p [.int .u64 key] sptV (sekM J.bucket J.budget J.how key n p) := by
 unfold sekM
 rcases hh with hh | hh
 ·rw [if_pos hh]; exact sek1_m k0 b J hJ A c p hp hn key hk n hf hh
 rw [if_neg (by omega)]; exact sek2_m k0 b J hJ A c p hp hn key hk n hf hh
structure EnvA where
 A : Option Addr
 n : Nat
 c : Nat
 f : Nat → GotA
structure Rel (E : EnvA) (N : Nat) (p : Pst) : Prop where
 n : p.n + N = E.n
 g : ∀ j, p.g j = E.f (N + j)
theorem Rel.suf {E : EnvA} {N : Nat} {p q : Pst} (h : Rel E N p) (hs : Suf p q) : Rel E (E.n - q.n) q := by
 obtain ⟨d, h1, h2⟩ := hs
 have h3 := h.n
 refine ⟨by omega, fun j => ?_⟩
 rw [h2, h.g]
 congr 1
 omega
abbrev drunL (J : JobA) (E : EnvA) (N : Nat) (t : Nt) : List AV := [.int .i64 J.kind, .int .i64 J.lab.len, .int .u64 J.lab.bits, .int .u64 J.key, .int .u64 J.hi, .str J.val, .int .i64 J.most, .sl none J.pA J.pn J.pc 1 (fun i => [.int .i64 (J.pf i)]), .int .u32 J.x1, .int .u32 J.x2, .int .u32 J.y1, .int .u32 J.y2, .int .i64 J.how, .int .i64 J.bucket, .int .i64 J.budget,
 .sl none E.A E.n E.c 8 (fun j => gotC (E.f j)), .int .i64 (N : Int), .bool .ff,
 .int .i64 0, .int .i64 0, .int .u64 0, .int .u64 0, .int .i64 0, .sl none none 0 0 2 (fun _ => []), .int .i64 0, .int .u64 0, .int .u64 0, .int .i64 0, .bool .ff, .str ⟨#[]⟩, .sl none none 0 0 2 (fun _ => []), .int .u64 0, .bool .ff,
 .int .i64 t.code, .bool (.v t.had), .str t.val, .sl none none 0 0 2 (fun _ => []), .int .u64 0, .bool .ff]
abbrev drunS (J : JobA) (E : EnvA) (N : Nat) (w : WntA) (t : Nt) : List AV := [.int .i64 J.kind, .int .i64 J.lab.len, .int .u64 J.lab.bits, .int .u64 J.key, .int .u64 J.hi, .str J.val, .int .i64 J.most, .sl none J.pA J.pn J.pc 1 (fun i => [.int .i64 (J.pf i)]), .int .u32 J.x1, .int .u32 J.x2, .int .u32 J.y1, .int .u32 J.y2, .int .i64 J.how, .int .i64 J.bucket, .int .i64 J.budget,
 .sl none E.A E.n E.c 8 (fun j => gotC (E.f j)), .int .i64 (N : Int), .bool .tt,
 .int .i64 w.kind, .int .i64 w.lab.len, .int .u64 w.lab.bits, .int .u64 w.ver, .int .i64 w.x.r.kd, .sl none w.x.A w.x.r.n w.x.c 2 (fun i => itC (w.x.r.f i)), .int .i64 w.x.r.nx.len, .int .u64 w.x.r.nx.bits, .int .u64 w.x.r.mrk, .int .i64 w.s.code, .bool (.v w.s.had), .str w.s.val, .sl none w.s.A w.s.n w.s.c 2 (fun i => itC (w.s.f i)), .int .u64 w.s.key, .bool (.v w.s.more),
 .int .i64 t.code, .bool (.v t.had), .str t.val, .sl none none 0 0 2 (fun _ => []), .int .u64 0, .bool .ff]
abbrev drunV (b : Bool) (J : JobA) (E : EnvA) (N : Nat) (w : WntA) (t : Nt) : List AV := [.int .i64 J.kind, .int .i64 J.lab.len, .int .u64 J.lab.bits, .int .u64 J.key, .int .u64 J.hi, .str J.val, .int .i64 J.most, .sl none J.pA J.pn J.pc 1 (fun i => [.int .i64 (J.pf i)]), .int .u32 J.x1, .int .u32 J.x2, .int .u32 J.y1, .int .u32 J.y2, .int .i64 J.how, .int .i64 J.bucket, .int .i64 J.budget,
 .sl none E.A E.n E.c 8 (fun j => gotC (E.f j)), .int .i64 (N : Int), .bool (.v b),
 .int .i64 w.kind, .int .i64 w.lab.len, .int .u64 w.lab.bits, .int .u64 w.ver, .int .i64 w.x.r.kd, .sl none w.x.A w.x.r.n w.x.c 2 (fun i => itC (w.x.r.f i)), .int .i64 w.x.r.nx.len, .int .u64 w.x.r.nx.bits, .int .u64 w.x.r.mrk, .int .i64 w.s.code, .bool (.v w.s.had), .str w.s.val, .sl none w.s.A w.s.n w.s.c 2 (fun i => itC (w.s.f i)), .int .u64 w.s.key, .bool (.v w.s.more),
 .int .i64 t.code, .bool (.v t.had), .str t.val, .sl none none 0 0 2 (fun _ => []), .int .u64 0, .bool .ff]
theorem drunV_to {b : Bool} (h : b = true) (J : JobA) (E : EnvA) (N : Nat) (w : WntA) (t : Nt) : SimL (drunS J E N w t) (drunV b J E N w t) := by
 subst h
 exact ⟨zr, zr, zr, zr, zr, zr, zr, zr, zr, zr, zr, zr, zr, zr, zr, zr, zr, Sim.bool rfl, zr, zr, zr, zr, zr, zr, zr, zr, zr, zr, zr, zr, zr, zr, zr, zr, zr, zr, zr, zr, zr, trivial⟩
theorem drunV_of {b : Bool} (h : b = true) (J : JobA) (E : EnvA) (N : Nat) (w : WntA) (t : Nt) : SimL (drunV b J E N w t) (drunS J E N w t) := by
 subst h
 exact ⟨zr, zr, zr, zr, zr, zr, zr, zr, zr, zr, zr, zr, zr, zr, zr, zr, zr, Sim.bool rfl, zr, zr, zr, zr, zr, zr, zr, zr, zr, zr, zr, zr, zr, zr, zr, zr, zr, zr, zr, zr, zr, trivial⟩
def dout {α : Type} (k0 : Nat) (J : JobA) (E : EnvA) (enc : α → AV) (dfl : AV) (r : Rs α) (x : Atom) : CR := match r with
 | .ok a p => ⟨enc a, [(k0, drunL J E (E.n - p.n) p.note)], []⟩
 | .stop w p => ⟨dfl, [(k0, drunS J E (E.n - p.n) (wqA x w) p.note)], []⟩
def DocS {α : Type} (f : FuncId) (k0 b : Nat) (J : JobA) (E : EnvA) (N : Nat) (p : Pst) (args : List AV) (enc : α → AV) (dfl : AV) (r : Rs α) : Prop :=
 SpecX Tryz.prog f (.ptr k0 b 0 :: args) [(k0, ⟨b, 118, drunL J E N p.note⟩)] (fun x => dout k0 J E enc dfl r x)
theorem DocS.ok {α : Type} {f : FuncId} {k0 b : Nat} {J : JobA} {E : EnvA} {N M : Nat} {p q : Pst} {args : List AV} {enc : α → AV} {dfl : AV} {r : Rs α} {a : α} (h : DocS f k0 b J E N p args enc dfl r) (e : r = .ok a q) (hM : M = E.n - q.n) :
  SpecX Tryz.prog f (.ptr k0 b 0 :: args) [(k0, ⟨b, 118, drunL J E N p.note⟩)] (fun x => ⟨enc a, [(k0, drunL J E M q.note)], []⟩) := by
 subst e; subst hM
 exact h
theorem DocS.stop {α : Type} {f : FuncId} {k0 b : Nat} {J : JobA} {E : EnvA} {N M : Nat} {p q : Pst} {args : List AV} {enc : α → AV} {dfl : AV} {r : Rs α} {w : Wq} (h : DocS f k0 b J E N p args enc dfl r) (e : r = .stop w q) (hM : M = E.n - q.n)
  {rr : RN} {nn : Nat} {ff : Nat → Itm} (h1 : rr = w.r.rn) (h2 : nn = w.res.items.length) (h3 : ff = itF w.res.items) :
  SpecX Tryz.prog f (.ptr k0 b 0 :: args) [(k0, ⟨b, 118, drunL J E N p.note⟩)] (fun x => ⟨dfl, [(k0, drunS J E M ⟨w.kind, w.lab, w.ver, ⟨x.A 1, x.c 1, rr⟩, ⟨w.res.code, w.res.had, w.res.val, x.A 2, nn, x.c 2, ff, w.res.key, w.res.more⟩⟩ q.note)], []⟩) := by
 subst e; subst hM; subst h1; subst h2; subst h3
 exact h
theorem DocS.re {α : Type} {f : FuncId} {k0 b : Nat} {J : JobA} {E : EnvA} {N : Nat} {p : Pst} {args args' : List AV} {enc : α → AV} {dfl : AV} {r : Rs α} (h : DocS f 0 b J E N p args enc dfl r) (ha : SimL args' args) : DocS f k0 b J E N p args' enc dfl r :=
 SpecX.re h ⟨Sim.ptr, ha⟩ rfl fun x => by
  cases r with
  | ok a p => exact ⟨rfl, rfl, zr, rfl⟩
  | stop w p => exact ⟨rfl, rfl, zr, rfl⟩
def DeadS (f : FuncId) (k0 b : Nat) (J : JobA) (E : EnvA) (N : Nat) (q : WntA) (t : Nt) (args : List AV) (dfl : AV) : Prop :=
 SpecX Tryz.prog f (.ptr k0 b 0 :: args) [(k0, ⟨b, 118, drunS J E N q t⟩)] (fun _ => ⟨dfl, [(k0, drunS J E N q t)], []⟩)
theorem DeadS.re {f : FuncId} {k0 b : Nat} {J : JobA} {E : EnvA} {N : Nat} {q : WntA} {t : Nt} {args args' : List AV} {dfl : AV} (h : DeadS f 0 b J E N q t args dfl) (ha : SimL args' args) : DeadS f k0 b J E N q t args' dfl :=
 SpecX.re h ⟨Sim.ptr, ha⟩ rfl fun x => ⟨rfl, rfl, zr, rfl⟩
section
variable {P : Program} {T : List (Nat × TI)} {s : St} {a : Act} {w : World} {α : Type} {Kk : Kn} {m : Nat → Nat → Prop} {w0 : World} {b k0 ty : Nat} {cs : List AV} {fn : Func} {enc : α → AV} {dfl : AV} {J : JobA} {E : EnvA} {r : Rs α}
theorem ret_go (hT : TabOK P T) (h : Fits ⟨m, w0, ats [(k0, ⟨b, ty, cs⟩)], [], Kk⟩ s a w) {rs : List ResultVar} (hfn : fn.results = rs.toArray) {rr : List AV × List Ob} (hrr : resL T s rs = some rr) (ho : AO P Kk rr.2)
  {v : α} {q : Pst} {M : Nat} (hr : r = .ok v q) (hM : M = E.n - q.n) (he : Sim (can (resA rr.1)) (can (enc v))) (hs : SetsOk s [(k0, ⟨b, ty, cs⟩)] [(k0, drunL J E M q.note)]) :
  bodyPost P fn (XPost m w0 [(k0, ⟨b, ty, cs⟩)] (fun x => dout k0 J E enc dfl r x)) .ret a w ∧ bodyPost P fn (XPost m w0 [(k0, ⟨b, ty, cs⟩)] (fun x => dout k0 J E enc dfl r x)) .normal a w := by
 subst hr; subst hM
 exact ret_x (res := fun x => dout k0 J E enc dfl (.ok v q) x) hT h hfn hrr ho ⟨0, fun _ => none, fun _ => 0, fun _ => .empty⟩ [] he hs trivial
theorem ret_st (hT : TabOK P T) (h : Fits ⟨m, w0, ats [(k0, ⟨b, ty, cs⟩)], [], Kk⟩ s a w) {rs : List ResultVar} (hfn : fn.results = rs.toArray) {rr : List AV × List Ob} (hrr : resL T s rs = some rr) (ho : AO P Kk rr.2)
  {q : Pst} {wq : Wq} {Q : WntA} {M : Nat} (x : Atom) (hr : r = .stop wq q) (hM : M = E.n - q.n) (hq : Q = wqA x wq) (he : Sim (can (resA rr.1)) (can dfl)) (hs : SetsOk s [(k0, ⟨b, ty, cs⟩)] [(k0, drunS J E M Q q.note)]) :
  bodyPost P fn (XPost m w0 [(k0, ⟨b, ty, cs⟩)] (fun x => dout k0 J E enc dfl r x)) .ret a w ∧ bodyPost P fn (XPost m w0 [(k0, ⟨b, ty, cs⟩)] (fun x => dout k0 J E enc dfl r x)) .normal a w := by
 subst hr; subst hM; subst hq
 exact ret_x (res := fun x => dout k0 J E enc dfl (.stop wq q) x) hT h hfn hrr ho x [] he hs trivial
theorem ret_dead (hT : TabOK P T) (h : Fits ⟨m, w0, ats [(k0, ⟨b, ty, cs⟩)], [], Kk⟩ s a w) {rs : List ResultVar} (hfn : fn.results = rs.toArray) {rr : List AV × List Ob} (hrr : resL T s rs = some rr) (ho : AO P Kk rr.2)
  {sets : List (Nat × List AV)} (he : Sim (can (resA rr.1)) (can dfl)) (hs : SetsOk s [(k0, ⟨b, ty, cs⟩)] sets) :
  bodyPost P fn (XPost m w0 [(k0, ⟨b, ty, cs⟩)] (fun _ => ⟨dfl, sets, []⟩)) .ret a w ∧ bodyPost P fn (XPost m w0 [(k0, ⟨b, ty, cs⟩)] (fun _ => ⟨dfl, sets, []⟩)) .normal a w :=
 ret_x (res := fun _ => ⟨dfl, sets, []⟩) hT h hfn hrr ho ⟨0, fun _ => none, fun _ => 0, fun _ => .empty⟩ [] he hs trivial
end
abbrev zGotV : AV := .agg [.int .i64 0, .int .u64 0, .bool .ff, .int .i64 0, .sl none none 0 0 2 (fun _ => []), .int .i64 0, .int .u64 0, .int .u64 0]
theorem rel_ask {J : JobA} {E : EnvA} {N : Nat} {p : Pst} (h : Rel E N p) : ((p.n : Int) + (J.budget - E.n) ≤ 0 ↔ J.budget ≤ (N : Int)) ∧ (0 < p.n ↔ N < E.n) := by
 have := h.n
 omega
inductive LSt where
 | go (n : Nat) (p : Pst) (N : Nat)
 | dn (p : Pst) (N : Nat)
 | sp (N : Nat) (Q : WntA) (t : Nt)
abbrev lsC (J : JobA) (E : EnvA) : LSt → List AV
 | .go _ p N => drunL J E N p.note
 | .dn p N => drunL J E N p.note
 | .sp N Q t => drunS J E N Q t
abbrev lsB : LSt → BE
 | .dn .. => .tt
 | _ => .ff
def lsM : LSt → Nat
 | .go n _ _ => n + 1
 | _ => 0
abbrev rsAV (x : ResA) : AV := .agg [.int .i64 x.code, .bool (.v x.had), .str x.val, .sl none x.A x.n x.c 2 (fun i => itC (x.f i)), .int .u64 x.key, .bool (.v x.more)]
section
variable {P : Program} {T : List (Nat × TI)} {s : St} {a : Act} {w : World} {α : Type} {Kk : Kn} {m : Nat → Nat → Prop} {w0 : World} {b k0 ty : Nat} {cs : List AV} {fn : Func} {enc : α → AV} {dfl : AV} {J : JobA} {E : EnvA} {r : Rs α} {rs : List ResultVar} {rr : List AV × List Ob} {B : Alg}
theorem DocS.two {f : FuncId} {N : Nat} {p : Pst} {args : List AV} (h : DocS f k0 b J E N p args enc dfl r) (hf : Fro p r) (hp : PstOk p) (hn : p.n ≤ 1000000) (hR : Rel E N p) :
  (∃ v q M, r = .ok v q ∧ Suf p q ∧ PstOk q ∧ q.n ≤ 1000000 ∧ Rel E M q ∧ M = E.n - q.n ∧ SpecX Tryz.prog f (.ptr k0 b 0 :: args) [(k0, ⟨b, 118, drunL J E N p.note⟩)] (fun _ => ⟨enc v, [(k0, drunL J E M q.note)], []⟩)) ∨
  ∃ wq q M, ∃ W : Atom → WntA, r = .stop wq q ∧ Suf p q ∧ M = E.n - q.n ∧ (∀ x, W x = wqA x wq) ∧ SpecX Tryz.prog f (.ptr k0 b 0 :: args) [(k0, ⟨b, 118, drunL J E N p.note⟩)] (fun x => ⟨dfl, [(k0, drunS J E M (W x) q.note)], []⟩) := by
 cases hr : r with
 | ok v q => have hs := hf.of hr; exact .inl ⟨v, q, _, rfl, hs, hp.suf hs, Nat.le_trans hs.le hn, hR.suf hs, rfl, h.ok hr rfl⟩
 | stop wq q => exact .inr ⟨wq, q, _, fun x => wqA x wq, rfl, hf.ofs hr, rfl, fun _ => rfl, h.stop hr rfl rfl rfl rfl⟩
abbrev lc (J : JobA) (E : EnvA) (v : AV) (N : Nat) (p : Pst) : CS := .x fun _ => ⟨v, [(0, drunL J E N p.note)], []⟩
abbrev sc (J : JobA) (E : EnvA) (v : AV) (N : Nat) (W : Atom → WntA) (t : Nt) : CS := .x fun x => ⟨v, [(0, drunS J E N (W x) t)], []⟩
abbrev dc (J : JobA) (E : EnvA) (v : AV) (N : Nat) (W : WntA) (t : Nt) : CS := .x fun _ => ⟨v, [(0, drunS J E N W t)], []⟩
theorem rgo (hB : B = std) (hT : TabOK P T) (h : Fits ⟨m, w0, ats [(k0, ⟨b, ty, cs⟩)], [], Kk⟩ s a w) {v : α} {q : Pst} {M : Nat} (hr0 : r = .ok v q) (hM : M = E.n - q.n) (hfn : fn.results = rs.toArray := by rfl) (hr : resL T s rs = some rr := by first | rfl | (conv => lhs; cbv)) (ho : AO P Kk rr.2 := by first | exact trivial | (subst hB; simp [AO, Ob.holds])) (he : Sim (can (resA rr.1)) (can (enc v)) := by subst hB; exact zr) (hs : SetsOk s [(k0, ⟨b, ty, cs⟩)] [(k0, drunL J E M q.note)] := by subst hB; exact ⟨rfl, ⟨_, rfl, zl⟩, trivial⟩) :
  bodyPost P fn (XPost m w0 [(k0, ⟨b, ty, cs⟩)] (fun x => dout k0 J E enc dfl r x)) .ret a w ∧ bodyPost P fn (XPost m w0 [(k0, ⟨b, ty, cs⟩)] (fun x => dout k0 J E enc dfl r x)) .normal a w := ret_go hT h hfn hr ho hr0 hM he hs
theorem rst (hB : B = std) (hT : TabOK P T) (h : Fits ⟨m, w0, ats [(k0, ⟨b, ty, cs⟩)], [], Kk⟩ s a w) {q : Pst} {wq : Wq} {Q : WntA} {M : Nat} (x : Atom) (hr0 : r = .stop wq q) (hM : M = E.n - q.n) (hq : Q = wqA x wq) (hfn : fn.results = rs.toArray := by rfl) (hr : resL T s rs = some rr := by first | rfl | (conv => lhs; cbv)) (ho : AO P Kk rr.2 := by first | exact trivial | (subst hB; simp [AO, Ob.holds])) (he : Sim (can (resA rr.1)) (can dfl) := by subst hB; exact zr) (hs : SetsOk s [(k0, ⟨b, ty, cs⟩)] [(k0, drunS J E M Q q.note)] := by subst hB; exact ⟨rfl, ⟨_, rfl, zl⟩, trivial⟩) :
  bodyPost P fn (XPost m w0 [(k0, ⟨b, ty, cs⟩)] (fun x => dout k0 J E enc dfl r x)) .ret a w ∧ bodyPost P fn (XPost m w0 [(k0, ⟨b, ty, cs⟩)] (fun x => dout k0 J E enc dfl r x)) .normal a w := ret_st hT h hfn hr ho x hr0 hM hq he hs
theorem rdd (hB : B = std) (hT : TabOK P T) (h : Fits ⟨m, w0, ats [(k0, ⟨b, ty, cs⟩)], [], Kk⟩ s a w) {sets : List (Nat × List AV)} (hfn : fn.results = rs.toArray := by rfl) (hr : resL T s rs = some rr := by first | rfl | (conv => lhs; cbv)) (ho : AO P Kk rr.2 := by first | exact trivial | (subst hB; simp [AO, Ob.holds])) (he : Sim (can (resA rr.1)) (can dfl) := by subst hB; exact zr) (hs : SetsOk s [(k0, ⟨b, ty, cs⟩)] sets := by subst hB; exact ⟨rfl, ⟨_, rfl, zl⟩, trivial⟩) :
  bodyPost P fn (XPost m w0 [(k0, ⟨b, ty, cs⟩)] (fun _ => ⟨dfl, sets, []⟩)) .ret a w ∧ bodyPost P fn (XPost m w0 [(k0, ⟨b, ty, cs⟩)] (fun _ => ⟨dfl, sets, []⟩)) .normal a w := ret_dead hT h hfn hr ho he hs
end
theorem over_m0 (b : Nat) (J : JobA) (E : EnvA) (hE : E.n ≤ 1000000) (N : Nat) (q : WntA) (t : Nt) (x : ResA) : SpecX Tryz.prog 37 [.ptr 0 b 0, rsAV x] [(0, ⟨b, 118, drunL J E N t⟩)] (fun _ => ⟨unitV, [(0, drunS J E N ⟨4, ⟨0, 0⟩, 0, zRA, x⟩ t)], []⟩) := by
 intro m w hm hargs hpre
 refine enX 17 hm hpre hargs Tryz.func37 fun B hB a0 hF => ?_
 refine wp_seq (rg hB TA_ok [0, 3] [0, 3] [] hF fun X0 a0 w1 hF => ?_)
 refine wp_seq (rg hB TA_ok [8, 0, 3] [0, 3] [] hF fun X1 a0 w1 hF => ?_)
 refine test_tt hF rfl (fun hF => ?_)
 refine wp_seq (rg hB TA_ok [0, 3] [0, 3] [] hF fun X2 a0 w1 hF => ?_)
 refine rg hB TA_ok [] [0] [] hF fun X3 a0 w1 hF => ?_
 refine (rx hB TA_ok hF nAt [] (hs := ?_)).2
 subst hB; exact ⟨rfl, ⟨_, rfl, ⟨zr, zr, zr, zr, zr, zr, zr, zr, zr, zr, zr, zr, zr, zr, zr, zr, zr, zr, zr, zr, zr, zr, zr, zq0, zr, zr, zr, zr, zr, zr, zr, zr, zr, zr, zr, zr, zr, zr, zr, trivial⟩⟩, trivial⟩
theorem over_m (k0 b : Nat) (J : JobA) (E : EnvA) (hE : E.n ≤ 1000000) (N : Nat) (q : WntA) (t : Nt) (x : ResA) : SpecX Tryz.prog 37 [.ptr k0 b 0, rsAV x] [(k0, ⟨b, 118, drunL J E N t⟩)] (fun _ => ⟨unitV, [(k0, drunS J E N ⟨4, ⟨0, 0⟩, 0, zRA, x⟩ t)], []⟩) :=
 SpecX.re (over_m0 b J E hE N q t x) ⟨Sim.ptr, zr, trivial⟩ rfl fun x => ⟨rfl, rfl, zr, rfl⟩
theorem over_d0 (b : Nat) (J : JobA) (E : EnvA) (hE : E.n ≤ 1000000) (N : Nat) (q : WntA) (t : Nt) (x : ResA) : DeadS 37 0 b J E N q t [rsAV x] (unitV) := by
 intro m w hm hargs hpre
 refine enX 17 hm hpre hargs Tryz.func37 fun B hB a0 hF => ?_
 refine wp_seq (rg hB TA_ok [0, 3] [0, 3] [] hF fun X0 a0 w1 hF => ?_)
 refine wp_seq (rg hB TA_ok [8, 0, 3] [0, 3] [] hF fun X1 a0 w1 hF => ?_)
 refine test_ff hF rfl (fun hF => ?_)
 exact wp_skip ((rdd hB TA_ok hF).2)
theorem dask_m0 (b : Nat) (J : JobA) (hJ : JobOk J) (E : EnvA) (hE : E.n ≤ 1000000) (N : Nat) (p : Pst) (hR : Rel E N p) (hp : PstOk p) (hn : p.n ≤ 1000000) (q : WntA) : DocS 163 0 b J E N p [wntV q] (gotV) (zGotV) (askM (J.budget - E.n) q.absQ p) := by
 intro m w hm hargs hpre
 have hN0 : N = E.n - p.n := by have := hR.n; omega
 obtain ⟨ha, hbu, _, _, _⟩ := hJ
 have hmx : maxLen = 9223372036854775807 := rfl
 obtain ⟨hq1, hq2⟩ := rel_ask (J := J) hR
 have hrn := hR.n
 have e1 : IntKind.i64.wrap ((N : Int) + 1) = ((N + 1 : Nat) : Int) := by rw [wrap_in (by omega) (by omega)]; omega
 have e2 : IntKind.i64.wrap (((N + 1 : Nat) : Int) - 1) = (N : Int) := by rw [wrap_in (by omega) (by omega)]; omega
 refine enX 64 hm hpre hargs Tryz.func163 fun B hB a0 hF => ?_
 refine wp_seq (rg hB TA_ok [0, 3, 4] [0, 3, 4] [] hF fun X0 a0 w1 hF => ?_)
 refine wp_seq (wp_seq (rg hB TA_ok [8, 0, 3, 4] [0, 3, 4] [] hF fun X1 a0 w1 hF => ?_))
 refine test_ff hF rfl (fun hF => ?_)
 refine wp_skip (wp_seq (wp_seq (drg hB TA_ok [19, 0, 3, 4] [0, 3, 4] [] hF fun X3 a0 w1 hF => ?_)))
 apply test_ok hF rfl <;> intro hb hF
 ·have ho : J.budget ≤ (N : Int) := by subst hB; simpa [std, sC] using hb
  have SO : SpecX Tryz.prog 37 [.ptr 0 b 0, .agg [.int .i64 p.note.code, .bool (.v p.note.had), .str p.note.val, .sl none none 0 0 2 (fun _ => []), .int .u64 0, .bool .ff]] [(0, ⟨b, 118, drunL J E N p.note⟩)] (fun _ => ⟨unitV, [(0, drunS J E N ⟨4, ⟨0, 0⟩, 0, zRA, ⟨p.note.code, p.note.had, p.note.val, none, 0, 0, fun _ => zeroItm, 0, false⟩⟩ p.note)], []⟩) := SpecX.re (over_m 0 b J E hE N q p.note ⟨p.note.code, p.note.had, p.note.val, none, 0, 0, fun _ => zeroItm, 0, false⟩) ⟨zr, Sim.agg ⟨zr, zr, zr, zq0, zr, Sim.ff, trivial⟩, trivial⟩ rfl fun x => ⟨rfl, rfl, zr, rfl⟩
  have O1 := SO
  refine wp_seq (rg hB TA_ok [4] [0, 4] [(5, .x fun _ => ⟨unitV, [(0, drunS J E N ⟨4, ⟨0, 0⟩, 0, zRA, ⟨p.note.code, p.note.had, p.note.val, none, 0, 0, fun _ => zeroItm, 0, false⟩⟩ p.note)], []⟩)] hF fun X4 a0 w1 hF => ?_)
  refine wp_seq (rg hB TA_ok [4] [0, 4] [] hF fun X5 a0 w1 hF => ?_)
  refine wp_ret ((rst hB TA_ok hF (q := p) (wq := (overW p)) ⟨0, fun _ => none, fun _ => 0, fun _ => .empty⟩ (by unfold askM; rw [if_neg (by omega), if_pos (hq1.2 ho)]) hN0 rfl (hs := ?_)).1)
  subst hB; exact ⟨rfl, ⟨_, rfl, ⟨zr, zr, zr, zr, zr, zr, zr, zr, zr, zr, zr, zr, zr, zr, zr, zr, zr, zr, zr, zr, zr, zr, zr, zq0, zr, zr, zr, zr, zr, zr, zq0, zr, zr, zr, zr, zr, zr, zr, zr, trivial⟩⟩, trivial⟩
 have ho : ¬ J.budget ≤ (N : Int) := by subst hB; simpa [std, sC] using hb
 refine wp_skip (wp_seq (wp_seq (drg hB TA_ok [36, 0, 3, 4] [0, 3, 4] [] hF fun X6 a0 w1 hF => ?_)))
 apply test_ok hF rfl <;> intro hb hF
 ·have hl : ¬ 0 < p.n := by
   have : (N : Int) ≥ (E.n : Int) := by subst hB; simpa [std, sC] using hb
   omega
  refine wp_seq (rg hB TA_ok [0, 3, 4] [0, 3, 4] [] hF fun X7 a0 w1 hF => ?_)
  refine wp_seq (rg hB TA_ok [4] [0, 4] [] hF fun X8 a0 w1 hF => ?_)
  refine wp_seq (rg hB TA_ok [4] [0, 4] [] hF fun X9 a0 w1 hF => ?_)
  refine wp_ret ((rst hB TA_ok hF (q := p) (wq := q.absQ) ⟨0, fun i => if i = 1 then q.x.A else q.s.A, fun i => if i = 1 then q.x.c else q.s.c, fun _ => .empty⟩ (by unfold askM; rw [if_neg (by omega), if_neg (fun h => ho (hq1.1 h))]) hN0 rfl (hs := ?_)).1)
  subst hB; exact ⟨rfl, ⟨_, rfl, ⟨zr, zr, zr, zr, zr, zr, zr, zr, zr, zr, zr, zr, zr, zr, zr, zr, zr, zr, zr, zr, zr, zr, zr, row_sim _ _ _ _, zr, zr, zr, zr, zr, zr, row_sim _ _ _ _, zr, zr, zr, zr, zr, zr, zr, zr, trivial⟩⟩, trivial⟩
 have hl : 0 < p.n := by
  have : ¬ (N : Int) ≥ (E.n : Int) := by subst hB; simpa [std, sC] using hb
  omega
 refine wp_skip (wp_seq (rg hB TA_ok [0, 4] [0, 4] [] hF fun X10 a0 w1 hF => ?_))
 apply wp_seq
 refine drg hB TA_ok [4] [0, 4] [] hF (hob := by intro X; subst hB; simp only [AO, Ob.holds, BE.den] <;> and_intros <;> repeat first | trivial | rfl | exact ⟨(show (0 : Int) ≤ IntKind.i64.wrap (IntKind.i64.wrap ((N : Int) + 1) - 1) by rw [e1, e2]; omega), (show IntKind.i64.wrap (IntKind.i64.wrap ((N : Int) + 1) - 1) < (E.n : Int) by rw [e1, e2]; omega)⟩ | exact (show (0 : Int) ≤ IntKind.i64.wrap (IntKind.i64.wrap ((N : Int) + 1) - 1) by rw [e1, e2]; omega) | exact (show IntKind.i64.wrap (IntKind.i64.wrap ((N : Int) + 1) - 1) < (E.n : Int) by rw [e1, e2]; omega) | exact (fun _ _ => by kernel_rfl) | refine ⟨?_, ?_⟩ | intro h | exact Int.le_refl _ | decide | omega) fun X11 a0 w1 hF => ?_
 refine wp_ret ((rgo hB TA_ok hF (v := (p.g 0)) (q := p.tl) (by unfold askM; rw [if_pos (by omega)]) (by show N + 1 = E.n - (p.n - 1); omega) (he := ?_) (hs := ?_)).1)
 ·subst hB
  rw [hR.g 0]
  show Sim (.agg (gotC (E.f (IntKind.i64.wrap (IntKind.i64.wrap ((N : Int) + 1) - 1)).toNat))) (gotV (E.f (N + 0)))
  rw [e1, e2]
  exact zr
 subst hB
 refine ⟨rfl, ⟨_, rfl, ⟨zr, zr, zr, zr, zr, zr, zr, zr, zr, zr, zr, zr, zr, zr, zr, zr, ?_, zr, zr, zr, zr, zr, zr, zr, zr, zr, zr, zr, zr, zr, zr, zr, zr, zr, zr, zr, zr, zr, zr, trivial⟩⟩, trivial⟩
 show Sim (.int .i64 (IntKind.i64.wrap ((N : Int) + 1))) _
 rw [e1]; exact zr
theorem dask_m (k0 b : Nat) (J : JobA) (hJ : JobOk J) (E : EnvA) (hE : E.n ≤ 1000000) (N : Nat) (p : Pst) (hR : Rel E N p) (hp : PstOk p) (hn : p.n ≤ 1000000) (q : WntA) : DocS 163 k0 b J E N p [wntV q] (gotV) (zGotV) (askM (J.budget - E.n) q.absQ p) := DocS.re (dask_m0 b J hJ E hE N p hR hp hn q) (by repeat (first | exact trivial | refine ⟨zr, ?_⟩))
theorem dask_d0 (b : Nat) (J : JobA) (E : EnvA) (hE : E.n ≤ 1000000) (N : Nat) (q : WntA) (t : Nt) (r : WntA) : DeadS 163 0 b J E N q t [wntV r] (zGotV) := by
 intro m w hm hargs hpre
 refine enX 64 hm hpre hargs Tryz.func163 fun B hB a0 hF => ?_
 refine wp_seq (rg hB TA_ok [0, 3, 4] [0, 3, 4] [] hF fun X0 a0 w1 hF => ?_)
 refine wp_seq (wp_seq (rg hB TA_ok [8, 0, 3, 4] [0, 3, 4] [] hF fun X1 a0 w1 hF => ?_))
 refine test_tt hF rfl (fun hF => ?_)
 refine wp_seq (rg hB TA_ok [4] [0, 4] [] hF fun X2 a0 w1 hF => ?_)
 exact wp_ret ((rdd hB TA_ok hF).1)
theorem dask_d (k0 b : Nat) (J : JobA) (E : EnvA) (hE : E.n ≤ 1000000) (N : Nat) (q : WntA) (t : Nt) (r : WntA) : DeadS 163 k0 b J E N q t [wntV r] (zGotV) := DeadS.re (dask_d0 b J E hE N q t r) (by repeat (first | exact trivial | refine ⟨zr, ?_⟩))
theorem daskg_m (k0 b : Nat) (J : JobA) (hJ : JobOk J) (E : EnvA) (hE : E.n ≤ 1000000) (N : Nat) (p : Pst) (hR : Rel E N p) (hp : PstOk p) (hn : p.n ≤ 1000000) (l : Lab) : DocS 163 k0 b J E N p [.agg [.int .i64 1, .int .i64 l.len, .int .u64 l.bits, .int .u64 0, .int .i64 0, .sl none none 0 0 2 (fun _ => []), .int .i64 0, .int .u64 0, .int .u64 0, .int .i64 0, .bool .ff, .str ⟨#[]⟩, .sl none none 0 0 2 (fun _ => []), .int .u64 0, .bool .ff]] gotV zGotV (getM (J.budget - E.n) l p) :=
 DocS.re (dask_m 0 b J hJ E hE N p hR hp hn ⟨1, l, 0, zRA, zRes⟩) ⟨Sim.agg ⟨zr, zr, zr, zr, zr, zq0, zr, zr, zr, zr, Sim.ff, zr, zq0, zr, Sim.ff, trivial⟩, trivial⟩
theorem daskg_d (k0 b : Nat) (J : JobA) (E : EnvA) (hE : E.n ≤ 1000000) (N : Nat) (q : WntA) (t : Nt) (l : Lab) : DeadS 163 k0 b J E N q t [.agg [.int .i64 1, .int .i64 l.len, .int .u64 l.bits, .int .u64 0, .int .i64 0, .sl none none 0 0 2 (fun _ => []), .int .i64 0, .int .u64 0, .int .u64 0, .int .i64 0, .bool .ff, .str ⟨#[]⟩, .sl none none 0 0 2 (fun _ => []), .int .u64 0, .bool .ff]] zGotV :=
 DeadS.re (dask_d 0 b J E hE N q t ⟨1, l, 0, zRA, zRes⟩) ⟨Sim.agg ⟨zr, zr, zr, zr, zr, zq0, zr, zr, zr, zr, Sim.ff, zr, zq0, zr, Sim.ff, trivial⟩, trivial⟩
theorem daskc_m (k0 b : Nat) (J : JobA) (hJ : JobOk J) (E : EnvA) (hE : E.n ≤ 1000000) (N : Nat) (p : Pst) (hR : Rel E N p) (hp : PstOk p) (hn : p.n ≤ 1000000) (l : Lab) (v : Int) (x : RA) : DocS 163 k0 b J E N p [.agg [.int .i64 2, .int .i64 l.len, .int .u64 l.bits, .int .u64 v, .int .i64 x.r.kd, .sl none x.A x.r.n x.c 2 (fun i => itC (x.r.f i)), .int .i64 x.r.nx.len, .int .u64 x.r.nx.bits, .int .u64 x.r.mrk, .int .i64 0, .bool .ff, .str ⟨#[]⟩, .sl none none 0 0 2 (fun _ => []), .int .u64 0, .bool .ff]] gotV zGotV (askM (J.budget - E.n) ⟨2, l, v, x.r.abs, zRsl⟩ p) :=
 DocS.re (dask_m 0 b J hJ E hE N p hR hp hn ⟨2, l, v, x, zRes⟩) ⟨Sim.agg ⟨zr, zr, zr, zr, zr, zr, zr, zr, zr, zr, Sim.ff, zr, zq0, zr, Sim.ff, trivial⟩, trivial⟩
theorem daskc_d (k0 b : Nat) (J : JobA) (E : EnvA) (hE : E.n ≤ 1000000) (N : Nat) (q : WntA) (t : Nt) (l : Lab) (v : Int) (x : RA) : DeadS 163 k0 b J E N q t [.agg [.int .i64 2, .int .i64 l.len, .int .u64 l.bits, .int .u64 v, .int .i64 x.r.kd, .sl none x.A x.r.n x.c 2 (fun i => itC (x.r.f i)), .int .i64 x.r.nx.len, .int .u64 x.r.nx.bits, .int .u64 x.r.mrk, .int .i64 0, .bool .ff, .str ⟨#[]⟩, .sl none none 0 0 2 (fun _ => []), .int .u64 0, .bool .ff]] zGotV :=
 DeadS.re (dask_d 0 b J E hE N q t ⟨2, l, v, x, zRes⟩) ⟨Sim.agg ⟨zr, zr, zr, zr, zr, zr, zr, zr, zr, zr, Sim.ff, zr, zq0, zr, Sim.ff, trivial⟩, trivial⟩
theorem daskd_m (k0 b : Nat) (J : JobA) (hJ : JobOk J) (E : EnvA) (hE : E.n ≤ 1000000) (N : Nat) (p : Pst) (hR : Rel E N p) (hp : PstOk p) (hn : p.n ≤ 1000000) (l : Lab) (v : Int) : DocS 163 k0 b J E N p [.agg [.int .i64 3, .int .i64 l.len, .int .u64 l.bits, .int .u64 v, .int .i64 0, .sl none none 0 0 2 (fun _ => []), .int .i64 0, .int .u64 0, .int .u64 0, .int .i64 0, .bool .ff, .str ⟨#[]⟩, .sl none none 0 0 2 (fun _ => []), .int .u64 0, .bool .ff]] gotV zGotV (askM (J.budget - E.n) ⟨3, l, v, zeroRec, zRsl⟩ p) :=
 DocS.re (dask_m 0 b J hJ E hE N p hR hp hn ⟨3, l, v, zRA, zRes⟩) ⟨Sim.agg ⟨zr, zr, zr, zr, zr, zq0, zr, zr, zr, zr, Sim.ff, zr, zq0, zr, Sim.ff, trivial⟩, trivial⟩
theorem dget_m0 (b : Nat) (J : JobA) (hJ : JobOk J) (E : EnvA) (hE : E.n ≤ 1000000) (N : Nat) (p : Pst) (hR : Rel E N p) (hp : PstOk p) (hn : p.n ≤ 1000000) (l : Lab) : DocS 111 0 b J E N p [labAV l] (gotV) (zGotV) (getM (J.budget - E.n) l p) := by
 intro m w hm hargs hpre
 have hN0 : N = E.n - p.n := by have := hR.n; omega
 refine enX 9 hm hpre hargs Tryz.func111 fun B hB a0 hF => ?_
 refine wp_seq (rg hB TA_ok [0, 3, 4] [0, 3, 4] [] hF fun X0 a0 w1 hF => ?_)
 apply wp_seq
 rcases (daskg_m 0 b J hJ E hE N p hR hp hn l).two (fro_ask _ _ _) hp hn hR with ⟨g1, p1, N1, hm1, hs1, hp1, hn1, hR1, hN1, S1⟩ | ⟨wq1, p1, N1, W1, hm1, hs1, hN1, hW1, S1⟩
 ·have O1 := S1
  refine rg hB TA_ok [4] [0, 4] [(3, lc J E (gotV g1) N1 p1)] hF fun X1 a0 w1 hF => ?_
  exact wp_ret ((rgo hB TA_ok hF (v := g1) (q := p1) (by simp [Rs.bind, hm1]) hN1).1)
 have O1 := S1
 refine rg hB TA_ok [4] [0, 4] [(3, sc J E (.agg [.int .i64 0, .int .u64 0, .bool .ff, .int .i64 0, .sl none none 0 0 2 (fun _ => []), .int .i64 0, .int .u64 0, .int .u64 0]) N1 W1 p1.note)] hF fun X1 a0 w1 hF => ?_
 exact wp_ret ((rst hB TA_ok hF (q := p1) (wq := wq1) (X1 3) (by simp [Rs.bind, hm1]) hN1 (hW1 _)).1)
theorem dget_m (k0 b : Nat) (J : JobA) (hJ : JobOk J) (E : EnvA) (hE : E.n ≤ 1000000) (N : Nat) (p : Pst) (hR : Rel E N p) (hp : PstOk p) (hn : p.n ≤ 1000000) (l : Lab) : DocS 111 k0 b J E N p [labAV l] (gotV) (zGotV) (getM (J.budget - E.n) l p) := DocS.re (dget_m0 b J hJ E hE N p hR hp hn l) (by repeat (first | exact trivial | refine ⟨zr, ?_⟩))
theorem dget_d0 (b : Nat) (J : JobA) (E : EnvA) (hE : E.n ≤ 1000000) (N : Nat) (q : WntA) (t : Nt) (l : Lab) : DeadS 111 0 b J E N q t [labAV l] (zGotV) := by
 intro m w hm hargs hpre
 refine enX 9 hm hpre hargs Tryz.func111 fun B hB a0 hF => ?_
 refine wp_seq (rg hB TA_ok [0, 3, 4] [0, 3, 4] [] hF fun X0 a0 w1 hF => ?_)
 have O1 := daskg_d 0 b J E hE N q t l
 refine wp_seq (rg hB TA_ok [4] [0, 4] [(3, dc J E (.agg [.int .i64 0, .int .u64 0, .bool .ff, .int .i64 0, .sl none none 0 0 2 (fun _ => []), .int .i64 0, .int .u64 0, .int .u64 0]) N q t)] hF fun X1 a0 w1 hF => ?_)
 exact wp_ret ((rdd hB TA_ok hF).1)
theorem dget_d (k0 b : Nat) (J : JobA) (E : EnvA) (hE : E.n ≤ 1000000) (N : Nat) (q : WntA) (t : Nt) (l : Lab) : DeadS 111 k0 b J E N q t [labAV l] (zGotV) := DeadS.re (dget_d0 b J E hE N q t l) (by repeat (first | exact trivial | refine ⟨zr, ?_⟩))
theorem dcas_m0 (b : Nat) (J : JobA) (hJ : JobOk J) (E : EnvA) (hE : E.n ≤ 1000000) (N : Nat) (p : Pst) (hR : Rel E N p) (hp : PstOk p) (hn : p.n ≤ 1000000) (l : Lab) (v : Int) (x : RA) : DocS 96 0 b J E N p [labAV l, .int .u64 v, recV x] (fun d => .bool (.v d)) (.bool .ff) (casM (J.budget - E.n) l v x.r.abs p) := by
 intro m w hm hargs hpre
 have hN0 : N = E.n - p.n := by have := hR.n; omega
 refine enX 26 hm hpre hargs Tryz.func96 fun B hB a0 hF => ?_
 refine wp_seq (rg hB TA_ok [0, 2, 5, 7] [0, 5, 7] [] hF fun X0 a0 w1 hF => ?_)
 apply wp_seq
 rcases (daskc_m 0 b J hJ E hE N p hR hp hn l v x).two (fro_ask _ _ _) hp hn hR with ⟨g1, p1, N1, hm1, hs1, hp1, hn1, hR1, hN1, S1⟩ | ⟨wq1, p1, N1, W1, hm1, hs1, hN1, hW1, S1⟩
 ·have O1 := S1
  refine rg hB TA_ok [0, 9] [0, 9] [(5, lc J E (gotV g1) N1 p1)] hF fun X1 a0 w1 hF => ?_
  refine wp_seq (rg hB TA_ok [8] [0] [] hF fun X2 a0 w1 hF => ?_)
  refine wp_ret ((rgo hB TA_ok hF (v := decide (g1.code = 0)) (q := p1) (by simp [casM, Rs.bind, hm1]) hN1 (he := ?_)).1)
  subst hB; exact zr
 have O1 := S1
 refine rg hB TA_ok [0, 9] [0, 9] [(5, sc J E (.agg [.int .i64 0, .int .u64 0, .bool .ff, .int .i64 0, .sl none none 0 0 2 (fun _ => []), .int .i64 0, .int .u64 0, .int .u64 0]) N1 W1 p1.note)] hF fun X1 a0 w1 hF => ?_
 refine wp_seq (rg hB TA_ok [8] [0] [] hF fun X2 a0 w1 hF => ?_)
 exact wp_ret ((rst hB TA_ok hF (q := p1) (wq := wq1) (X1 5) (by simp [casM, Rs.bind, hm1]) hN1 (hW1 _)).1)
theorem dcas_m (k0 b : Nat) (J : JobA) (hJ : JobOk J) (E : EnvA) (hE : E.n ≤ 1000000) (N : Nat) (p : Pst) (hR : Rel E N p) (hp : PstOk p) (hn : p.n ≤ 1000000) (l : Lab) (v : Int) (x : RA) : DocS 96 k0 b J E N p [labAV l, .int .u64 v, recV x] (fun d => .bool (.v d)) (.bool .ff) (casM (J.budget - E.n) l v x.r.abs p) := DocS.re (dcas_m0 b J hJ E hE N p hR hp hn l v x) (by repeat (first | exact trivial | refine ⟨zr, ?_⟩))
theorem dcas_d0 (b : Nat) (J : JobA) (E : EnvA) (hE : E.n ≤ 1000000) (N : Nat) (q : WntA) (t : Nt) (l : Lab) (v : Int) (x : RA) : DeadS 96 0 b J E N q t [labAV l, .int .u64 v, recV x] (.bool .ff) := by
 intro m w hm hargs hpre
 refine enX 26 hm hpre hargs Tryz.func96 fun B hB a0 hF => ?_
 refine wp_seq (rg hB TA_ok [0, 2, 5, 7] [0, 5, 7] [] hF fun X0 a0 w1 hF => ?_)
 have O1 := daskc_d 0 b J E hE N q t l v x
 refine wp_seq (rg hB TA_ok [0, 9] [0, 9] [(5, dc J E (.agg [.int .i64 0, .int .u64 0, .bool .ff, .int .i64 0, .sl none none 0 0 2 (fun _ => []), .int .i64 0, .int .u64 0, .int .u64 0]) N q t)] hF fun X1 a0 w1 hF => ?_)
 refine wp_seq (rg hB TA_ok [8] [0] [] hF fun X2 a0 w1 hF => ?_)
 exact wp_ret ((rdd hB TA_ok hF).1)
theorem dcas_d (k0 b : Nat) (J : JobA) (E : EnvA) (hE : E.n ≤ 1000000) (N : Nat) (q : WntA) (t : Nt) (l : Lab) (v : Int) (x : RA) : DeadS 96 k0 b J E N q t [labAV l, .int .u64 v, recV x] (.bool .ff) := DeadS.re (dcas_d0 b J E hE N q t l v x) (by repeat (first | exact trivial | refine ⟨zr, ?_⟩))
theorem ddel_m0 (b : Nat) (J : JobA) (hJ : JobOk J) (E : EnvA) (hE : E.n ≤ 1000000) (N : Nat) (p : Pst) (hR : Rel E N p) (hp : PstOk p) (hn : p.n ≤ 1000000) (l : Lab) (v : Int) : DocS 195 0 b J E N p [labAV l, .int .u64 v] (fun d => .bool (.v d)) (.bool .ff) (drpM (J.budget - E.n) l v p) := by
 intro m w hm hargs hpre
 have hN0 : N = E.n - p.n := by have := hR.n; omega
 refine enX 23 hm hpre hargs Tryz.func195 fun B hB a0 hF => ?_
 refine wp_seq (rg hB TA_ok [0, 2, 4] [0, 4] [] hF fun X0 a0 w1 hF => ?_)
 apply wp_seq
 rcases (daskd_m 0 b J hJ E hE N p hR hp hn l v).two (fro_ask _ _ _) hp hn hR with ⟨g1, p1, N1, hm1, hs1, hp1, hn1, hR1, hN1, S1⟩ | ⟨wq1, p1, N1, W1, hm1, hs1, hN1, hW1, S1⟩
 ·have O1 := S1
  refine rg hB TA_ok [0, 7] [0, 7] [(4, lc J E (gotV g1) N1 p1)] hF fun X1 a0 w1 hF => ?_
  refine wp_seq (rg hB TA_ok [6] [0] [] hF fun X2 a0 w1 hF => ?_)
  refine wp_ret ((rgo hB TA_ok hF (v := decide (g1.code = 0)) (q := p1) (by simp [drpM, Rs.bind, hm1]) hN1 (he := ?_)).1)
  subst hB; exact zr
 have O1 := S1
 refine rg hB TA_ok [0, 7] [0, 7] [(4, sc J E (.agg [.int .i64 0, .int .u64 0, .bool .ff, .int .i64 0, .sl none none 0 0 2 (fun _ => []), .int .i64 0, .int .u64 0, .int .u64 0]) N1 W1 p1.note)] hF fun X1 a0 w1 hF => ?_
 refine wp_seq (rg hB TA_ok [6] [0] [] hF fun X2 a0 w1 hF => ?_)
 exact wp_ret ((rst hB TA_ok hF (q := p1) (wq := wq1) (X1 4) (by simp [drpM, Rs.bind, hm1]) hN1 (hW1 _)).1)
theorem ddel_m (k0 b : Nat) (J : JobA) (hJ : JobOk J) (E : EnvA) (hE : E.n ≤ 1000000) (N : Nat) (p : Pst) (hR : Rel E N p) (hp : PstOk p) (hn : p.n ≤ 1000000) (l : Lab) (v : Int) : DocS 195 k0 b J E N p [labAV l, .int .u64 v] (fun d => .bool (.v d)) (.bool .ff) (drpM (J.budget - E.n) l v p) := DocS.re (ddel_m0 b J hJ E hE N p hR hp hn l v) (by repeat (first | exact trivial | refine ⟨zr, ?_⟩))
theorem dis_s (g : GotA) (k : Int) : Spec Tryz.prog 112 [gotV g, .int .i64 k] (fun _ => .bool (.v (gk g k))) := by
 intro m w hm hargs
 refine en 14 hm hargs Tryz.func112 fun B hB a0 hF => ?_
 refine wp_seq (rg hB TA_ok [1, 2] [2] [] hF fun X0 a0 w1 hF => ?_)
 refine wp_seq (rg hB TA_ok [4] [] [] hF fun X1 a0 w1 hF => ?_)
 refine wp_ret ((rsi hB TA_ok hF nAt (he := ?_)))
 subst hB
 refine Sim.bool ?_
 show (if g.has = true then decide (g.x.r.kd = k) else false) = _
 unfold gk; cases g.has <;> rfl
theorem dinn_s : Spec Tryz.prog 221 [] (fun _ => innV) := by
 intro m w hm hargs
 have SN := rnone_s
 simp only [labAV, noneL] at SN
 refine en 3 hm hargs Tryz.func221 fun B hB a0 hF => ?_
 refine wp_seq (rg hB TA_ok [0] [0] [] hF fun X0 a0 w1 hF => ?_)
 have O1 := SN
 refine wp_seq (rg hB TA_ok [0] [0] [(0, .r fun _ => .agg [.int .i64 (-1), .int .u64 0])] hF fun X1 a0 w1 hF => ?_)
 exact wp_ret ((rsp hB TA_ok hF nAt).1)
theorem disz_s (k : Int) : Spec Tryz.prog 112 [zGotV, .int .i64 k] (fun _ => .bool .ff) :=
 have h : Spec Tryz.prog 112 [zGotV, .int .i64 k] (fun _ => .bool (.v (gk zGot k))) := (dis_s zGot k).sim ⟨Sim.agg ⟨zr, zr, Sim.ff, zr, zq0, zr, zr, zr, trivial⟩, zr, trivial⟩
 h.res fun _ => Sim.bool rfl
theorem dcasi_m (k0 b : Nat) (J : JobA) (hJ : JobOk J) (E : EnvA) (hE : E.n ≤ 1000000) (N : Nat) (p : Pst) (hR : Rel E N p) (hp : PstOk p) (hn : p.n ≤ 1000000) (l : Lab) (v : Int) : DocS 96 k0 b J E N p [labAV l, .int .u64 v, innV] (fun d => .bool (.v d)) (.bool .ff) (casM (J.budget - E.n) l v innerR p) :=
 DocS.re (dcas_m 0 b J hJ E hE N p hR hp hn l v ⟨none, 0, innerR.rn⟩) ⟨zr, zr, Sim.agg ⟨zr, rowz_sim, zr, zr, zr, trivial⟩, trivial⟩
theorem dcasi_d (k0 b : Nat) (J : JobA) (E : EnvA) (hE : E.n ≤ 1000000) (N : Nat) (q : WntA) (t : Nt) (l : Lab) (v : Int) : DeadS 96 k0 b J E N q t [labAV l, .int .u64 v, innV] (.bool .ff) :=
 DeadS.re (dcas_d 0 b J E hE N q t l v ⟨none, 0, innerR.rn⟩) ⟨zr, zr, Sim.agg ⟨zr, rowz_sim, zr, zr, zr, trivial⟩, trivial⟩
def fzJ : Fz → Int
 | .over => -1
 | .unfit => 0
 | .fr _ => 1
def encDz (z : Fz) : AV := .tup [recV (fzR z), .int .i64 (fzJ z)]
theorem dz_0 {z : Fz} (h : fzJ z < 0) : z = .over := by cases z <;> first | rfl | (simp [fzJ] at h)
theorem dz_1 {z : Fz} (h : fzJ z = 0) : z = .unfit := by cases z <;> first | rfl | (simp [fzJ] at h)
theorem dz_2 {z : Fz} (h0 : ¬ fzJ z < 0) (h1 : ¬ fzJ z = 0) : z = .fr (fzR z) := by cases z <;> first | rfl | exact absurd rfl h1 | exact absurd (by decide) h0
theorem zra_ok : RaOk zRA := ⟨⟨by decide, by decide⟩, fun i hi => absurd hi (Nat.not_lt_zero _), by decide⟩
theorem dfrz_m0 (b : Nat) (J : JobA) (hJ : JobOk J) (E : EnvA) (hE : E.n ≤ 1000000) (N : Nat) (p : Pst) (hR : Rel E N p) (hp : PstOk p) (hn : p.n ≤ 1000000) (l : Lab) (v : Int) (d : Lab) (n : Nat) (hf : p.n < n) : DocS 222 0 b J E N p [labAV l, .int .u64 v, labAV d] (encDz) (.tup [.agg [.int .i64 0, .sl none none 0 0 2 (fun _ => []), .int .i64 0, .int .u64 0, .int .u64 0], .int .i64 (-1)]) (frzM (J.budget - E.n) l v d n p) := by
 intro m w hm hargs hpre
 have hN0 : N = E.n - p.n := by have := hR.n; omega
 refine enX 76 hm hpre hargs Tryz.func222 fun B hB a0 hF => ?_
 refine wp_seq (rg hB TA_ok [0, 2, 5, 7, 8] [0, 5, 7, 8] [] hF fun X0 a0 w1 hF => ?_)
 refine wp_seq (wp_block (loop_pre (ι := LSt) (fun q => []) (fun q => [(0, ⟨b, 118, lsC J E q⟩)]) (fun q => []) (fun q => match q with | .go a r M => frzM (J.budget - E.n) l v d n p = frzM (J.budget - E.n) l v d a r ∧ PstOk r ∧ r.n ≤ 1000000 ∧ Rel E M r ∧ r.n < a ∧ r.n ≤ p.n | .dn r M => False | .sp M Q u => ∃ (X : Atom) (wq : Wq) (pp : Pst), frzM (J.budget - E.n) l v d n p = .stop wq pp ∧ M = E.n - pp.n ∧ Q = wqA X wq ∧ u = pp.note) (fun q => lsM q) (.go n p N) ⟨rfl, hp, hn, hR, (by skip; omega), (by skip; omega)⟩ hF ?_))
 rintro q hJ a0 w1 hF
 rcases q with ⟨nn0, p0, N0⟩ | ⟨p9, N9⟩ | ⟨N0, Q0, t0⟩
 ·dsimp only [lsC, lsB] at hJ hF
  obtain ⟨hrun0, hp0, hn0, hR0, hf0, hle0⟩ := hJ
  obtain ⟨m0, rfl⟩ : ∃ n2, nn0 = n2 + 1 := ⟨nn0 - 1, by omega⟩
  have hN0 : N0 = E.n - p0.n := by have := hR0.n; omega
  refine wp_seq (wp_seq (rg hB TA_ok [17, 0, 2, 5, 7, 8] [0, 5, 7, 8] [] hF fun X1 a0 w1 hF => ?_))
  refine test_tt hF rfl (fun hF => ?_)
  refine wp_skip (wp_block (wp_seq ?_))
  rcases (dget_m 0 b J hJ E hE N0 p0 hR0 hp0 hn0 d).two (fro_get _ _ _) hp0 hn0 hR0 with ⟨g1, p2, N2, hm2, hs2, hp2, hn2, hR2, hN2, S2⟩ | ⟨wq2, p2, N2, W2, hm2, hs2, hN2, hW2, S2⟩
  ·have hl2 := get_lt hm2
   have hg2 := hp0.get hm2
   have O1 := S2
   refine rg hB TA_ok [0, 2, 5, 7, 8, 10] [0, 5, 7, 8, 10] [(2, lc J E (gotV g1) N2 p2)] hF fun X2 a0 w1 hF => ?_
   refine wp_seq (wp_seq (rg hB TA_ok [24, 0, 2, 5, 7, 8, 10] [0, 5, 7, 8, 10] [] hF fun X3 a0 w1 hF => ?_))
   refine test_ff hF rfl (fun hF => ?_)
   obtain ⟨q5, hq5⟩ := eqv (gk g1 1)
   obtain ⟨r5, hr5⟩ := eqv (gk g1 5)
   refine wp_skip (wp_seq (wp_seq ?_))
   refine rg hB TA_ok [33, 0, 2, 5, 7, 8, 10] [0, 5, 7, 8, 10] [(1, .r fun _ => .bool (.v q5)), (5, .r fun _ => .bool (.v r5))] hF (hob := by intro X; subst hB; simp only [AO, Ob.holds, BE.den] <;> and_intros <;> repeat first | trivial | rfl | exact (by rw [hq5]; exact dis_s g1 1) | exact by rw [hq5]; exact dis_s g1 1 | exact (by rw [hr5]; exact dis_s g1 5) | exact by rw [hr5]; exact dis_s g1 5 | exact (fun _ _ => by kernel_rfl) | refine ⟨?_, ?_⟩ | intro h | exact Int.le_refl _ | decide | omega) fun X5 a0 w1 hF => ?_
   apply test_ok hF rfl <;> intro hb hF
   ·have t5 : (gk g1 1 || gk g1 5) = false := by subst hB; rw [← hq5, ← hr5]; revert hb; cases q5 <;> cases r5 <;> simp [std]
    refine wp_seq (rg hB TA_ok [8, 9] [0, 8] [] hF fun X6 a0 w1 hF => ?_)
    refine wp_ret ((rgo hB TA_ok hF (v := Fz.unfit) (q := p2) (by simp [Rs.bind, hrun0, frzM, hm2, t5]) hN2 (he := ?_)).1)
    subst hB; exact Sim.tup ⟨Sim.agg ⟨zr, rowz_sim, zr, zr, zr, trivial⟩, zr, trivial⟩
   have t5 : (gk g1 1 || gk g1 5) = true := by subst hB; rw [← hq5, ← hr5]; revert hb; cases q5 <;> cases r5 <;> simp [std]
   obtain ⟨q7, hq7⟩ := eqv (gk g1 5)
   refine wp_skip (wp_seq (wp_seq ?_))
   refine rg hB TA_ok [43, 0, 2, 5, 7, 8, 10] [0, 5, 7, 8, 10] [(1, .r fun _ => .bool (.v q7))] hF (hob := by intro X; subst hB; simp only [AO, Ob.holds, BE.den] <;> and_intros <;> repeat first | trivial | rfl | exact (by rw [hq7]; exact dis_s g1 5) | exact by rw [hq7]; exact dis_s g1 5 | exact (fun _ _ => by kernel_rfl) | refine ⟨?_, ?_⟩ | intro h | exact Int.le_refl _ | decide | omega) fun X7 a0 w1 hF => ?_
   apply test_ok hF rfl <;> intro hb hF
   ·have t7 : (gk g1 5 && decide (g1.x.r.mrk = v)) = true := by subst hB; rw [← hq7]; revert hb; cases q7 <;> simp [std, sC]
    refine wp_seq (rg hB TA_ok [8, 9] [0, 8] [] hF fun X8 a0 w1 hF => ?_)
    exact wp_ret ((rgo hB TA_ok hF (v := (Fz.fr g1.x)) (q := p2) (by simp [Rs.bind, hrun0, frzM, hm2, t5, t7]) hN2).1)
   have t7 : (gk g1 5 && decide (g1.x.r.mrk = v)) = false := by subst hB; rw [← hq7]; revert hb; cases q7 <;> simp [std, sC]
   refine wp_skip (wp_seq ?_)
   rcases (dget_m 0 b J hJ E hE N2 p2 hR2 hp2 hn2 l).two (fro_get _ _ _) hp2 hn2 hR2 with ⟨g9, p9, N9, hm9, hs9, hp9, hn9, hR9, hN9, S9⟩ | ⟨wq9, p9, N9, W9, hm9, hs9, hN9, hW9, S9⟩
   ·have hl9 := get_lt hm9
    have hg9 := hp2.get hm9
    have O1 := S9
    refine rg hB TA_ok [0, 2, 5, 7, 8, 10, 11] [0, 5, 7, 8, 10, 11] [(2, lc J E (gotV g9) N9 p9)] hF fun X9 a0 w1 hF => ?_
    refine wp_seq (wp_seq (rg hB TA_ok [58, 0, 2, 5, 7, 8, 10] [0, 5, 7, 8, 10] [] hF fun X10 a0 w1 hF => ?_))
    apply test_ok hF rfl <;> intro hb hF
    ·have t10 : ¬ g9.ver = v := by
      have h9 : (g9.ver != v) = true := by subst hB; exact hb
      simpa using h9
     refine wp_seq (rg hB TA_ok [8, 9] [0, 8] [] hF fun X11 a0 w1 hF => ?_)
     refine wp_ret ((rgo hB TA_ok hF (v := Fz.over) (q := p9) (by simp [Rs.bind, hrun0, frzM, hm2, t5, t7, hm9, t10]) hN9 (he := ?_)).1)
     subst hB; exact Sim.tup ⟨Sim.agg ⟨zr, rowz_sim, zr, zr, zr, trivial⟩, zr, trivial⟩
    have t10 : g9.ver = v := by
     have h9 : (g9.ver != v) = false := by subst hB; exact hb
     simpa using h9
    refine wp_skip (wp_seq (rg hB TA_ok [0, 2, 5, 7, 8, 10, 12] [0, 5, 7, 8, 10, 12] [] hF fun X12 a0 w1 hF => ?_))
    apply wp_seq
    rcases (dcas_m 0 b J hJ E hE N9 p9 hR9 hp9 hn9 d g1.ver (asR 5 g1.x v)).two (fro_cas _ _ _ _ _) hp9 hn9 hR9 with ⟨d9, p13, N13, hm13, hs13, hp13, hn13, hR13, hN13, S13⟩ | ⟨wq13, p13, N13, W13, hm13, hs13, hN13, hW13, S13⟩
    ·have O1 := S13
     refine rg hB TA_ok [73, 0, 2, 5, 7, 8, 12] [0, 5, 7, 8, 12] [(5, lc J E (.bool (.v d9)) N13 p13)] hF fun X13 a0 w1 hF => ?_
     apply test_ok hF rfl <;> intro hb hF
     ·have t13 : d9 = true := by exact hb
      refine wp_seq (rg hB TA_ok [8, 9] [0, 8] [] hF fun X14 a0 w1 hF => ?_)
      exact wp_ret ((rgo hB TA_ok hF (v := (Fz.fr (asR 5 g1.x v))) (q := p13) (by simp [Rs.bind, hrun0, frzM, hm2, t5, t7, hm9, t10, hm13, t13]) hN13).1)
     have t13 : d9 = false := by exact hb
     replace hF := hF.keep [0, 2, 5, 7, 8] [0, 5, 7, 8]
     exact wp_skip (⟨.go m0 p13 N13, ⟨by rw [hrun0]; simp [frzM, Rs.bind, hrun0, frzM, hm2, t5, t7, hm9, t10, hm13, t13], hp13, hn13, hR13, by have := hl2; have := hs9.le; have := hs13.le; have := hf0; omega, by have := hl2; have := hs9.le; have := hs13.le; have := hle0; omega⟩, by simp [lsM], hF⟩)
    have O1 := S13
    refine rg hB TA_ok [73, 0, 2, 5, 7, 8, 12] [0, 5, 7, 8, 12] [(5, sc J E (.bool .ff) N13 W13 p13.note)] hF fun X13 a0 w1 hF => ?_
    refine test_ff hF rfl (fun hF => ?_)
    replace hF := hF.keep [0, 2, 5, 7, 8] [0, 5, 7, 8]
    exact wp_skip (⟨.sp N13 (W13 (X13 5)) p13.note, ⟨(X13 5), wq13, p13, by simp [Rs.bind, hrun0, frzM, hm2, t5, t7, hm9, t10, hm13], hN13, (hW13 _), rfl⟩, by simp [lsM], hF⟩)
   have O1 := S9
   refine rg hB TA_ok [0, 2, 5, 7, 8, 10, 11] [0, 5, 7, 8, 10, 11] [(2, sc J E (.agg [.int .i64 0, .int .u64 0, .bool .ff, .int .i64 0, .sl none none 0 0 2 (fun _ => []), .int .i64 0, .int .u64 0, .int .u64 0]) N9 W9 p9.note)] hF fun X9 a0 w1 hF => ?_
   refine wp_seq (wp_seq (rg hB TA_ok [58, 0, 2, 5, 7, 8, 10] [0, 5, 7, 8, 10] [] hF fun X10 a0 w1 hF => ?_))
   refine test_tt hF rfl (fun hF => ?_)
   refine wp_seq (rg hB TA_ok [8, 9] [0, 8] [] hF fun X11 a0 w1 hF => ?_)
   exact wp_ret ((rst hB TA_ok hF (q := p9) (wq := wq9) (X9 2) (by simp [Rs.bind, hrun0, frzM, hm2, t5, t7, hm9]) hN9 (hW9 _)).1)
  have O1 := S2
  refine rg hB TA_ok [0, 2, 5, 7, 8, 10] [0, 5, 7, 8, 10] [(2, sc J E (.agg [.int .i64 0, .int .u64 0, .bool .ff, .int .i64 0, .sl none none 0 0 2 (fun _ => []), .int .i64 0, .int .u64 0, .int .u64 0]) N2 W2 p2.note)] hF fun X2 a0 w1 hF => ?_
  refine wp_seq (wp_seq (rg hB TA_ok [24, 0, 2, 5, 7, 8, 10] [0, 5, 7, 8, 10] [] hF fun X3 a0 w1 hF => ?_))
  refine test_tt hF rfl (fun hF => ?_)
  refine wp_seq (rg hB TA_ok [8, 9] [0, 8] [] hF fun X4 a0 w1 hF => ?_)
  exact wp_ret ((rst hB TA_ok hF (q := p2) (wq := wq2) (X2 2) (by simp [Rs.bind, hrun0, frzM, hm2]) hN2 (hW2 _)).1)
 ·exact (hJ : False).elim
 dsimp only [lsC, lsB] at hJ hF
 obtain ⟨X0, wq0, pp0, hsp0, hN0, hW0, ht0⟩ := hJ
 subst ht0
 refine wp_seq (wp_seq (rg hB TA_ok [17, 0, 2, 5, 7, 8] [0, 5, 7, 8] [] hF fun X1 a0 w1 hF => ?_))
 refine test_ff hF rfl (fun hF => ?_)
 refine wp_exit (wp_seq (rg hB TA_ok [8, 9] [0, 8] [] hF fun X15 a0 w1 hF => ?_))
 exact wp_ret ((rst hB TA_ok hF (q := pp0) (wq := wq0) X0 (hsp0) hN0 hW0).1)
theorem dfrz_m (k0 b : Nat) (J : JobA) (hJ : JobOk J) (E : EnvA) (hE : E.n ≤ 1000000) (N : Nat) (p : Pst) (hR : Rel E N p) (hp : PstOk p) (hn : p.n ≤ 1000000) (l : Lab) (v : Int) (d : Lab) (n : Nat) (hf : p.n < n) : DocS 222 k0 b J E N p [labAV l, .int .u64 v, labAV d] (encDz) (.tup [.agg [.int .i64 0, .sl none none 0 0 2 (fun _ => []), .int .i64 0, .int .u64 0, .int .u64 0], .int .i64 (-1)]) (frzM (J.budget - E.n) l v d n p) := DocS.re (dfrz_m0 b J hJ E hE N p hR hp hn l v d n hf) (by repeat (first | exact trivial | refine ⟨zr, ?_⟩))
def DThC (n : Nat) : Prop := ∀ (k0 b : Nat) (J : JobA) (hJ : JobOk J) (E : EnvA) (hE : E.n ≤ 1000000) (N : Nat) (p : Pst) (hR : Rel E N p) (hp : PstOk p) (hn : p.n ≤ 1000000) (l : Lab) (hl : LOk l), p.n < n → DocS 137 k0 b J E N p [labAV l] (fun _ => unitV) unitV (thwM J.bucket (J.budget - E.n) n l p)
def DClC (n : Nat) : Prop := ∀ (k0 b : Nat) (J : JobA) (hJ : JobOk J) (E : EnvA) (hE : E.n ≤ 1000000) (N : Nat) (p : Pst) (hR : Rel E N p) (hp : PstOk p) (hn : p.n ≤ 1000000) (l : Lab) (hl : LOk l), p.n < n → DocS 135 k0 b J E N p [labAV l] (fun _ => unitV) unitV (clnM (J.budget - E.n) n l p)
def DFinC (n : Nat) : Prop := ∀ (k0 b : Nat) (J : JobA) (hJ : JobOk J) (E : EnvA) (hE : E.n ≤ 1000000) (N : Nat) (p : Pst) (hR : Rel E N p) (hp : PstOk p) (hn : p.n ≤ 1000000) (l : Lab) (hl : LOk l) (g : GotA) (hg : GotOk g) (hgh : g.has = true), p.n < n → DocS 97 k0 b J E N p [labAV l, gotV g] (fun _ => unitV) unitV (fnsM J.bucket (J.budget - E.n) n l g p)
theorem dthw_d0 (b : Nat) (J : JobA) (E : EnvA) (hE : E.n ≤ 1000000) (N : Nat) (q : WntA) (t : Nt) (l : Lab) (hl : LOk l) : DeadS 137 0 b J E N q t [labAV l] (unitV) := by
 intro m w hm hargs hpre
 have SP := rpar_s l hl.u
 simp only [labAV] at SP
 obtain ⟨up, hup⟩ := eqv (parV l)
 rw [← hup] at SP
 obtain ⟨ue, hue⟩ := eqv (parE l)
 rw [← hue] at SP
 refine enX 66 hm hpre hargs Tryz.func137 fun B hB a0 hF => ?_
 refine wp_seq (rg hB TA_ok [0, 3] [0, 3] [] hF fun X0 a0 w1 hF => ?_)
 have O1 := SP
 refine wp_seq (rg hB TA_ok [0, 3, 4, 5] [0, 3, 4] [(1, .r fun _ => .tup [.agg [.int .i64 up.len, .int .u64 up.bits], .int .i64 ue])] hF fun X1 a0 w1 hF => ?_)
 refine wp_seq (wp_seq (rg hB TA_ok [14, 0, 3, 4] [0, 3, 4] [] hF fun X2 a0 w1 hF => ?_))
 apply test_ok hF rfl <;> intro hb hF
 ·have t0 : ¬ ue = 0 := by subst hB; simpa [std, sC] using hb
  exact wp_ret ((rdd hB TA_ok hF).1)
 have t0 : ue = 0 := by subst hB; simpa [std, sC] using hb
 refine wp_skip (wp_block (wp_loop_rounds 2 (rounds_first (wp_seq (wp_seq (rg hB TA_ok [19, 0, 3, 4] [0, 3, 4] [] hF fun X3 a0 w1 hF => ?_))))))
 refine test_ff hF rfl (fun hF => ?_)
 exact wp_exit ((rdd hB TA_ok hF).2)
theorem dthw_d (k0 b : Nat) (J : JobA) (E : EnvA) (hE : E.n ≤ 1000000) (N : Nat) (q : WntA) (t : Nt) (l : Lab) (hl : LOk l) : DeadS 137 k0 b J E N q t [labAV l] (unitV) := DeadS.re (dthw_d0 b J E hE N q t l hl) (by repeat (first | exact trivial | refine ⟨zr, ?_⟩))
theorem dbck_m0 (b : Nat) (J : JobA) (hJ : JobOk J) (E : EnvA) (hE : E.n ≤ 1000000) (N : Nat) (p : Pst) (hR : Rel E N p) (hp : PstOk p) (hn : p.n ≤ 1000000) (l : Lab) (hl : LOk l) (v : Int) (x0 x1 : Lab) (hx0 : x0 = chV l 0) (hx1 : x1 = chV l 1) (n : Nat) (hth : DThC n) (hf : p.n < n) : DocS 223 0 b J E N p [labAV l, .int .u64 v, labAV x0, labAV x1] (fun _ => unitV) (unitV) (bckM (J.budget - E.n) (thwM J.bucket (J.budget - E.n) n) l v p) := by
 intro m w hm hargs hpre
 have hN0 : N = E.n - p.n := by have := hR.n; omega
 have hk0 : LOk x0 := by rw [hx0]; exact hl.ch 0
 have hk1 : LOk x1 := by rw [hx1]; exact hl.ch 1
 refine enX 21 hm hpre hargs Tryz.func223 fun B hB a0 hF => ?_
 refine wp_seq (rg hB TA_ok [0, 2, 6, 8, 9] [0, 6, 8, 9] [] hF fun X0 a0 w1 hF => ?_)
 apply wp_seq
 rcases (dcasi_m 0 b J hJ E hE N p hR hp hn l v).two (fro_cas _ _ _ _ _) hp hn hR with ⟨d1, p1, N1, hm1, hs1, hp1, hn1, hR1, hN1, S1⟩ | ⟨wq1, p1, N1, W1, hm1, hs1, hN1, hW1, S1⟩
 ·have O1 := dinn_s
  have O2 := S1
  refine drg hB TA_ok [14, 0, 8, 9] [0, 8, 9] [(3, .r fun _ => .agg [.int .i64 2, .sl none none 0 0 2 (fun _ => []), .int .i64 (-1), .int .u64 0, .int .u64 0]), (4, lc J E (.bool (.v d1)) N1 p1)] hF fun X1 a0 w1 hF => ?_
  apply test_ok hF rfl <;> intro hb hF
  ·have t1 : d1 = true := by exact hb
   apply wp_seq
   rcases (hth 0 b J hJ E hE N1 p1 hR1 hp1 hn1 x0 hk0 (by have := hs1.le; omega)).two (fro_thw _ _ _ _ _) hp1 hn1 hR1 with ⟨v2, p2, N2, hm2, hs2, hp2, hn2, hR2, hN2, S2⟩ | ⟨wq2, p2, N2, W2, hm2, hs2, hN2, hW2, S2⟩
   ·have O1 := S2
    refine rg hB TA_ok [0, 9] [0, 9] [(2, lc J E (unitV) N2 p2)] hF fun X2 a0 w1 hF => ?_
    rcases (hth 0 b J hJ E hE N2 p2 hR2 hp2 hn2 x1 hk1 (by have := hs1.le; have := hs2.le; omega)).two (fro_thw _ _ _ _ _) hp2 hn2 hR2 with ⟨v3, p3, N3, hm3, hs3, hp3, hn3, hR3, hN3, S3⟩ | ⟨wq3, p3, N3, W3, hm3, hs3, hN3, hW3, S3⟩
    ·have O1 := S3
     refine rg hB TA_ok [] [0] [(2, lc J E (unitV) N3 p3)] hF fun X3 a0 w1 hF => ?_
     exact (rgo hB TA_ok hF (v := ()) (q := p3) (by simp [bckM, ← hx0, ← hx1, Rs.bind, hm1, t1, hm2, hm3]) hN3).2
    have O1 := S3
    refine rg hB TA_ok [] [0] [(2, sc J E (unitV) N3 W3 p3.note)] hF fun X3 a0 w1 hF => ?_
    exact (rst hB TA_ok hF (q := p3) (wq := wq3) (X3 2) (by simp [bckM, ← hx0, ← hx1, Rs.bind, hm1, t1, hm2, hm3]) hN3 (hW3 _)).2
   have O1 := S2
   refine rg hB TA_ok [0, 9] [0, 9] [(2, sc J E (unitV) N2 W2 p2.note)] hF fun X2 a0 w1 hF => ?_
   have O1 := dthw_d 0 b J E hE N2 (W2 (X2 2)) p2.note x1 hk1
   refine rg hB TA_ok [] [0] [(2, dc J E (unitV) N2 (W2 (X2 2)) p2.note)] hF fun X3 a0 w1 hF => ?_
   exact (rst hB TA_ok hF (q := p2) (wq := wq2) (X2 2) (by simp [bckM, ← hx0, ← hx1, Rs.bind, hm1, t1, hm2]) hN2 (hW2 _)).2
  have t1 : d1 = false := by exact hb
  exact wp_skip ((rgo hB TA_ok hF (v := ()) (q := p1) (by simp [bckM, ← hx0, ← hx1, Rs.bind, hm1, t1]) hN1).2)
 have O1 := dinn_s
 have O2 := S1
 refine drg hB TA_ok [14, 0, 8, 9] [0, 8, 9] [(3, .r fun _ => .agg [.int .i64 2, .sl none none 0 0 2 (fun _ => []), .int .i64 (-1), .int .u64 0, .int .u64 0]), (4, sc J E (.bool .ff) N1 W1 p1.note)] hF fun X1 a0 w1 hF => ?_
 refine test_ff hF rfl (fun hF => ?_)
 exact wp_skip ((rst hB TA_ok hF (q := p1) (wq := wq1) (X1 4) (by simp [bckM, ← hx0, ← hx1, Rs.bind, hm1]) hN1 (hW1 _)).2)
theorem dbck_m (k0 b : Nat) (J : JobA) (hJ : JobOk J) (E : EnvA) (hE : E.n ≤ 1000000) (N : Nat) (p : Pst) (hR : Rel E N p) (hp : PstOk p) (hn : p.n ≤ 1000000) (l : Lab) (hl : LOk l) (v : Int) (x0 x1 : Lab) (hx0 : x0 = chV l 0) (hx1 : x1 = chV l 1) (n : Nat) (hth : DThC n) (hf : p.n < n) : DocS 223 k0 b J E N p [labAV l, .int .u64 v, labAV x0, labAV x1] (fun _ => unitV) (unitV) (bckM (J.budget - E.n) (thwM J.bucket (J.budget - E.n) n) l v p) := DocS.re (dbck_m0 b J hJ E hE N p hR hp hn l hl v x0 x1 hx0 hx1 n hth hf) (by repeat (first | exact trivial | refine ⟨zr, ?_⟩))
theorem dclns_m0 (b : Nat) (J : JobA) (hJ : JobOk J) (E : EnvA) (hE : E.n ≤ 1000000) (N : Nat) (p : Pst) (hR : Rel E N p) (hp : PstOk p) (hn : p.n ≤ 1000000) (l : Lab) (hl : LOk l) (n : Nat) (ih : DClC n) (hf : p.n < n + 1) : DocS 135 0 b J E N p [labAV l] (fun _ => unitV) (unitV) (clnM (J.budget - E.n) (n + 1) l p) := by
 intro m w hm hargs hpre
 have hN0 : N = E.n - p.n := by have := hR.n; omega
 have SC0 := rchild_s l hl.u 0 (.inl rfl)
 have SC1 := rchild_s l hl.u 1 (.inr rfl)
 have hk0 := hl.ch 0
 have hk1 := hl.ch 1
 simp only [labAV] at SC0 SC1
 obtain ⟨x0, hx0⟩ := eqv (chV l 0)
 rw [← hx0] at SC0 hk0
 obtain ⟨x1, hx1⟩ := eqv (chV l 1)
 rw [← hx1] at SC1 hk1
 obtain ⟨y0, hy0⟩ := eqv (chE l 0)
 rw [← hy0] at SC0
 obtain ⟨y1, hy1⟩ := eqv (chE l 1)
 rw [← hy1] at SC1
 have hlp := lab_parts hl.isl
 refine enX 59 hm hpre hargs Tryz.func135 fun B hB a0 hF => ?_
 refine wp_seq (rg hB TA_ok [0, 3] [0, 3] [] hF fun X0 a0 w1 hF => ?_)
 refine wp_seq (rg hB TA_ok [4, 0, 3] [0, 3] [] hF fun X1 a0 w1 hF => ?_)
 refine wp_block (wp_loop_rounds 3 (rounds_first (wp_seq (wp_seq (rg hB TA_ok [15, 0, 3, 4] [0, 3] [] hF fun X2 a0 w1 hF => ?_)))))
 apply test_ok hF rfl <;> intro hb hF
 ·have h6 : l.len < 64 := by subst hB; simpa [std, sC] using hb
  have t64 : ¬ l.len = 64 := by omega
  have O1 := SC0
  refine wp_skip (wp_seq (wp_block (wp_seq (rg hB TA_ok [0, 3, 4, 5] [0, 3, 5] [(2, .r fun _ => .tup [.agg [.int .i64 x0.len, .int .u64 x0.bits], .int .i64 y0])] hF fun X4 a0 w1 hF => ?_))))
  apply wp_seq
  rcases (dget_m 0 b J hJ E hE N p hR hp hn x0).two (fro_get _ _ _) hp hn hR with ⟨g0, p50, N50, hm50, hs50, hp50, hn50, hR50, hN50, S50⟩ | ⟨wq50, p50, N50, W50, hm50, hs50, hN50, hW50, S50⟩
  ·have hl50 := get_lt hm50
   have hg50 := hp.get hm50
   have O1 := S50
   refine rg hB TA_ok [0, 3, 4, 5, 7] [0, 3, 5, 7] [(2, lc J E (gotV g0) N50 p50)] hF fun X5 a0 w1 hF => ?_
   refine wp_seq (wp_seq (rg hB TA_ok [30, 0, 3, 4, 5, 7] [0, 3, 5, 7] [] hF fun X6 a0 w1 hF => ?_))
   refine test_ff hF rfl (fun hF => ?_)
   obtain ⟨q0, hq0⟩ := eqv (gk g0 5)
   refine wp_skip (wp_seq (wp_seq ?_))
   refine rg hB TA_ok [33, 0, 3, 4, 5, 7] [0, 3, 5, 7] [(1, .r fun _ => .bool (.v q0))] hF (hob := by intro X; subst hB; simp only [AO, Ob.holds, BE.den] <;> and_intros <;> repeat first | trivial | rfl | exact (by rw [hq0]; exact dis_s g0 5) | exact by rw [hq0]; exact dis_s g0 5 | exact (fun _ _ => by kernel_rfl) | refine ⟨?_, ?_⟩ | intro h | exact Int.le_refl _ | decide | omega) fun X7 a0 w1 hF => ?_
   apply test_ok hF rfl <;> intro hb hF
   ·have tq0 : gk g0 5 = false := by subst hB; rw [← hq0]; revert hb; cases q0 <;> simp [std]
    refine wp_exit (rg hB TA_ok [4, 0, 3] [0, 3] [] hF fun X3 a0 w1 hF => ?_)
    replace hF := hF.headS (v' := .int .i64 1) (by subst hB; exact zr) rfl
    refine rounds_next (wp_seq (wp_seq (rg hB TA_ok [15, 0, 3, 4] [0, 3] [] hF fun X2 a0 w1 hF => ?_)))
    apply test_ok hF rfl <;> intro hb hF
    ·skip
     have O1 := SC1
     refine wp_skip (wp_seq (wp_block (wp_seq (rg hB TA_ok [0, 3, 4, 5] [0, 3, 5] [(2, .r fun _ => .tup [.agg [.int .i64 x1.len, .int .u64 x1.bits], .int .i64 y1])] hF fun X4 a0 w1 hF => ?_))))
     apply wp_seq
     rcases (dget_m 0 b J hJ E hE N50 p50 hR50 hp50 hn50 x1).two (fro_get _ _ _) hp50 hn50 hR50 with ⟨g1, p51, N51, hm51, hs51, hp51, hn51, hR51, hN51, S51⟩ | ⟨wq51, p51, N51, W51, hm51, hs51, hN51, hW51, S51⟩
     ·have hl51 := get_lt hm51
      have hg51 := hp50.get hm51
      have O1 := S51
      refine rg hB TA_ok [0, 3, 4, 5, 7] [0, 3, 5, 7] [(2, lc J E (gotV g1) N51 p51)] hF fun X5 a0 w1 hF => ?_
      refine wp_seq (wp_seq (rg hB TA_ok [30, 0, 3, 4, 5, 7] [0, 3, 5, 7] [] hF fun X6 a0 w1 hF => ?_))
      refine test_ff hF rfl (fun hF => ?_)
      obtain ⟨q1, hq1⟩ := eqv (gk g1 5)
      refine wp_skip (wp_seq (wp_seq ?_))
      refine rg hB TA_ok [33, 0, 3, 4, 5, 7] [0, 3, 5, 7] [(1, .r fun _ => .bool (.v q1))] hF (hob := by intro X; subst hB; simp only [AO, Ob.holds, BE.den] <;> and_intros <;> repeat first | trivial | rfl | exact (by rw [hq1]; exact dis_s g1 5) | exact by rw [hq1]; exact dis_s g1 5 | exact (fun _ _ => by kernel_rfl) | refine ⟨?_, ?_⟩ | intro h | exact Int.le_refl _ | decide | omega) fun X7 a0 w1 hF => ?_
      apply test_ok hF rfl <;> intro hb hF
      ·have tq1 : gk g1 5 = false := by subst hB; rw [← hq1]; revert hb; cases q1 <;> simp [std]
       refine wp_exit (rg hB TA_ok [4, 0, 3] [0, 3] [] hF fun X3 a0 w1 hF => ?_)
       replace hF := hF.headS (v' := .int .i64 2) (by subst hB; exact zr) rfl
       refine rounds_next (wp_seq (wp_seq (rg hB TA_ok [15, 0, 3, 4] [0, 3] [] hF fun X2 a0 w1 hF => ?_)))
       replace hF := hF.headS (v' := .bool .ff) (Sim.bool (by subst hB; rfl)) rfl
       refine test_ff hF rfl (fun hF => ?_)
       exact wp_exit ((rgo hB TA_ok hF (v := ()) (q := p51) (by simp [clnM, clnC, ← hx0, ← hx1, Rs.bind, t64, hm50, tq0, hm51, tq1]) hN51).2)
      have tq1 : gk g1 5 = true := by subst hB; rw [← hq1]; revert hb; cases q1 <;> simp [std]
      refine wp_skip (wp_seq ?_)
      rcases (ih 0 b J hJ E hE N51 p51 hR51 hp51 hn51 x1 hk1 (by skip; have := hl50; have := hl51; omega)).two (fro_cln _ _ _ _) hp51 hn51 hR51 with ⟨v81, p81, N81, hm81, hs81, hp81, hn81, hR81, hN81, S81⟩ | ⟨wq81, p81, N81, W81, hm81, hs81, hN81, hW81, S81⟩
      ·have O1 := S81
       refine rg hB TA_ok [0, 3, 4, 5, 7] [0, 3, 5, 7] [(2, lc J E (unitV) N81 p81)] hF fun X8 a0 w1 hF => ?_
       apply wp_seq
       rcases (dget_m 0 b J hJ E hE N81 p81 hR81 hp81 hn81 l).two (fro_get _ _ _) hp81 hn81 hR81 with ⟨h1, p91, N91, hm91, hs91, hp91, hn91, hR91, hN91, S91⟩ | ⟨wq91, p91, N91, W91, hm91, hs91, hN91, hW91, S91⟩
       ·have hl91 := get_lt hm91
        have hg91 := hp81.get hm91
        have O1 := S91
        refine rg hB TA_ok [0, 3, 4, 5, 7, 8] [0, 3, 5, 7, 8] [(2, lc J E (gotV h1) N91 p91)] hF fun X9 a0 w1 hF => ?_
        obtain ⟨r1, hr1⟩ := eqv (gk h1 1)
        obtain ⟨s1, hs1⟩ := eqv (gk h1 5)
        refine wp_seq (wp_seq ?_)
        refine rg hB TA_ok [53, 0, 3, 4, 5, 7] [0, 3, 5, 7] [(6, .r fun _ => .bool (.v r1)), (10, .r fun _ => .bool (.v s1))] hF (hob := by intro X; subst hB; simp only [AO, Ob.holds, BE.den] <;> and_intros <;> repeat first | trivial | rfl | exact (by rw [hr1]; exact dis_s h1 1) | exact by rw [hr1]; exact dis_s h1 1 | exact (by rw [hs1]; exact dis_s h1 5) | exact by rw [hs1]; exact dis_s h1 5 | exact (fun _ _ => by kernel_rfl) | refine ⟨?_, ?_⟩ | intro h | exact Int.le_refl _ | decide | omega) fun X10 a0 w1 hF => ?_
        apply test_ok hF rfl <;> intro hb hF
        ·have tr1 : (gk h1 1 || gk h1 5) = false := by subst hB; rw [← hr1, ← hs1]; revert hb; cases r1 <;> cases s1 <;> simp [std]
         exact wp_ret ((rgo hB TA_ok hF (v := ()) (q := p91) (by simp [clnM, clnC, ← hx0, ← hx1, Rs.bind, t64, hm50, tq0, hm51, tq1, hm81, hm91, tr1]) hN91).1)
        have tr1 : (gk h1 1 || gk h1 5) = true := by subst hB; rw [← hr1, ← hs1]; revert hb; cases r1 <;> cases s1 <;> simp [std]
        refine wp_skip ?_
        rcases (ddel_m 0 b J hJ E hE N91 p91 hR91 hp91 hn91 x1 g1.ver).two (fro_del _ _ _ _) hp91 hn91 hR91 with ⟨d1, p111, N111, hm111, hs111, hp111, hn111, hR111, hN111, S111⟩ | ⟨wq111, p111, N111, W111, hm111, hs111, hN111, hW111, S111⟩
        ·have O1 := S111
         refine rg hB TA_ok [0, 3, 4] [0, 3] [(4, lc J E (.bool (.v d1)) N111 p111)] hF fun X11 a0 w1 hF => ?_
         refine rg hB TA_ok [4, 0, 3] [0, 3] [] hF fun X3 a0 w1 hF => ?_
         replace hF := hF.headS (v' := .int .i64 2) (by subst hB; exact zr) rfl
         refine rounds_next (wp_seq (wp_seq (rg hB TA_ok [15, 0, 3, 4] [0, 3] [] hF fun X2 a0 w1 hF => ?_)))
         replace hF := hF.headS (v' := .bool .ff) (Sim.bool (by subst hB; rfl)) rfl
         refine test_ff hF rfl (fun hF => ?_)
         exact wp_exit ((rgo hB TA_ok hF (v := ()) (q := p111) (by simp [clnM, clnC, ← hx0, ← hx1, Rs.bind, t64, hm50, tq0, hm51, tq1, hm81, hm91, tr1, hm111]) hN111).2)
        have O1 := S111
        refine rg hB TA_ok [0, 3, 4] [0, 3] [(4, sc J E (.bool .ff) N111 W111 p111.note)] hF fun X11 a0 w1 hF => ?_
        refine rg hB TA_ok [4, 0, 3] [0, 3] [] hF fun X3 a0 w1 hF => ?_
        replace hF := hF.headS (v' := .int .i64 2) (by subst hB; exact zr) rfl
        refine rounds_next (wp_seq (wp_seq (rg hB TA_ok [15, 0, 3, 4] [0, 3] [] hF fun X2 a0 w1 hF => ?_)))
        replace hF := hF.headS (v' := .bool .ff) (Sim.bool (by subst hB; rfl)) rfl
        refine test_ff hF rfl (fun hF => ?_)
        exact wp_exit ((rst hB TA_ok hF (q := p111) (wq := wq111) (X11 4) (by simp [clnM, clnC, ← hx0, ← hx1, Rs.bind, t64, hm50, tq0, hm51, tq1, hm81, hm91, tr1, hm111]) hN111 (hW111 _)).2)
       have O1 := S91
       refine rg hB TA_ok [0, 3, 4, 5, 7, 8] [0, 3, 5, 7, 8] [(2, sc J E (.agg [.int .i64 0, .int .u64 0, .bool .ff, .int .i64 0, .sl none none 0 0 2 (fun _ => []), .int .i64 0, .int .u64 0, .int .u64 0]) N91 W91 p91.note)] hF fun X9 a0 w1 hF => ?_
       obtain ⟨bs, hbs⟩ : ∃ b : Bool, b = true := ⟨_, rfl⟩
       replace hF := hF.memS (drunV_to hbs J E N91 (W91 (X9 2)) p91.note)
       refine wp_seq (wp_seq ?_)
       refine rg hB TA_ok [53, 0, 3, 4, 5, 7] [0, 3, 5, 7] [(6, .r fun _ => .bool .ff), (10, .r fun _ => .bool .ff)] hF (hob := by intro X; subst hB; simp only [AO, Ob.holds, BE.den] <;> and_intros <;> repeat first | trivial | rfl | exact disz_s _ | exact (fun _ _ => by kernel_rfl) | refine ⟨?_, ?_⟩ | intro h | exact Int.le_refl _ | decide | omega) fun X10 a0 w1 hF => ?_
       replace hF := hF.headS (v' := .bool .tt) (Sim.bool (by subst hB; rw [hbs]; rfl)) rfl
       replace hF := hF.memS (drunV_of hbs J E N91 (W91 (X9 2)) p91.note)
       refine test_tt hF rfl (fun hF => ?_)
       exact wp_ret ((rst hB TA_ok hF (q := p91) (wq := wq91) (X9 2) (by simp [clnM, clnC, ← hx0, ← hx1, Rs.bind, t64, hm50, tq0, hm51, tq1, hm81, hm91]) hN91 (hW91 _)).1)
      have O1 := S81
      refine rg hB TA_ok [0, 3, 4, 5, 7] [0, 3, 5, 7] [(2, sc J E (unitV) N81 W81 p81.note)] hF fun X8 a0 w1 hF => ?_
      have O1 := dget_d 0 b J E hE N81 (W81 (X8 2)) p81.note l
      refine wp_seq (rg hB TA_ok [0, 3, 4, 5, 7, 8] [0, 3, 5, 7, 8] [(2, dc J E (.agg [.int .i64 0, .int .u64 0, .bool .ff, .int .i64 0, .sl none none 0 0 2 (fun _ => []), .int .i64 0, .int .u64 0, .int .u64 0]) N81 (W81 (X8 2)) p81.note)] hF fun X9 a0 w1 hF => ?_)
      obtain ⟨bs, hbs⟩ : ∃ b : Bool, b = true := ⟨_, rfl⟩
      replace hF := hF.memS (drunV_to hbs J E N81 (W81 (X8 2)) p81.note)
      refine wp_seq (wp_seq ?_)
      refine rg hB TA_ok [53, 0, 3, 4, 5, 7] [0, 3, 5, 7] [(6, .r fun _ => .bool .ff), (10, .r fun _ => .bool .ff)] hF (hob := by intro X; subst hB; simp only [AO, Ob.holds, BE.den] <;> and_intros <;> repeat first | trivial | rfl | exact disz_s _ | exact (fun _ _ => by kernel_rfl) | refine ⟨?_, ?_⟩ | intro h | exact Int.le_refl _ | decide | omega) fun X10 a0 w1 hF => ?_
      replace hF := hF.headS (v' := .bool .tt) (Sim.bool (by subst hB; rw [hbs]; rfl)) rfl
      replace hF := hF.memS (drunV_of hbs J E N81 (W81 (X8 2)) p81.note)
      refine test_tt hF rfl (fun hF => ?_)
      exact wp_ret ((rst hB TA_ok hF (q := p81) (wq := wq81) (X8 2) (by simp [clnM, clnC, ← hx0, ← hx1, Rs.bind, t64, hm50, tq0, hm51, tq1, hm81]) hN81 (hW81 _)).1)
     have O1 := S51
     refine rg hB TA_ok [0, 3, 4, 5, 7] [0, 3, 5, 7] [(2, sc J E (.agg [.int .i64 0, .int .u64 0, .bool .ff, .int .i64 0, .sl none none 0 0 2 (fun _ => []), .int .i64 0, .int .u64 0, .int .u64 0]) N51 W51 p51.note)] hF fun X5 a0 w1 hF => ?_
     refine wp_seq (wp_seq (rg hB TA_ok [30, 0, 3, 4, 5, 7] [0, 3, 5, 7] [] hF fun X6 a0 w1 hF => ?_))
     refine test_tt hF rfl (fun hF => ?_)
     exact wp_ret ((rst hB TA_ok hF (q := p51) (wq := wq51) (X5 2) (by simp [clnM, clnC, ← hx0, ← hx1, Rs.bind, t64, hm50, tq0, hm51]) hN51 (hW51 _)).1)
    exfalso
    have h7 : ¬ l.len < 64 := by subst hB; simpa [std, sC] using hb
    exact h7 h6
   have tq0 : gk g0 5 = true := by subst hB; rw [← hq0]; revert hb; cases q0 <;> simp [std]
   refine wp_skip (wp_seq ?_)
   rcases (ih 0 b J hJ E hE N50 p50 hR50 hp50 hn50 x0 hk0 (by skip; have := hl50; omega)).two (fro_cln _ _ _ _) hp50 hn50 hR50 with ⟨v80, p80, N80, hm80, hs80, hp80, hn80, hR80, hN80, S80⟩ | ⟨wq80, p80, N80, W80, hm80, hs80, hN80, hW80, S80⟩
   ·have O1 := S80
    refine rg hB TA_ok [0, 3, 4, 5, 7] [0, 3, 5, 7] [(2, lc J E (unitV) N80 p80)] hF fun X8 a0 w1 hF => ?_
    apply wp_seq
    rcases (dget_m 0 b J hJ E hE N80 p80 hR80 hp80 hn80 l).two (fro_get _ _ _) hp80 hn80 hR80 with ⟨h0, p90, N90, hm90, hs90, hp90, hn90, hR90, hN90, S90⟩ | ⟨wq90, p90, N90, W90, hm90, hs90, hN90, hW90, S90⟩
    ·have hl90 := get_lt hm90
     have hg90 := hp80.get hm90
     have O1 := S90
     refine rg hB TA_ok [0, 3, 4, 5, 7, 8] [0, 3, 5, 7, 8] [(2, lc J E (gotV h0) N90 p90)] hF fun X9 a0 w1 hF => ?_
     obtain ⟨r0, hr0⟩ := eqv (gk h0 1)
     obtain ⟨s0, hs0⟩ := eqv (gk h0 5)
     refine wp_seq (wp_seq ?_)
     refine rg hB TA_ok [53, 0, 3, 4, 5, 7] [0, 3, 5, 7] [(6, .r fun _ => .bool (.v r0)), (10, .r fun _ => .bool (.v s0))] hF (hob := by intro X; subst hB; simp only [AO, Ob.holds, BE.den] <;> and_intros <;> repeat first | trivial | rfl | exact (by rw [hr0]; exact dis_s h0 1) | exact by rw [hr0]; exact dis_s h0 1 | exact (by rw [hs0]; exact dis_s h0 5) | exact by rw [hs0]; exact dis_s h0 5 | exact (fun _ _ => by kernel_rfl) | refine ⟨?_, ?_⟩ | intro h | exact Int.le_refl _ | decide | omega) fun X10 a0 w1 hF => ?_
     apply test_ok hF rfl <;> intro hb hF
     ·have tr0 : (gk h0 1 || gk h0 5) = false := by subst hB; rw [← hr0, ← hs0]; revert hb; cases r0 <;> cases s0 <;> simp [std]
      exact wp_ret ((rgo hB TA_ok hF (v := ()) (q := p90) (by simp [clnM, clnC, ← hx0, ← hx1, Rs.bind, t64, hm50, tq0, hm80, hm90, tr0]) hN90).1)
     have tr0 : (gk h0 1 || gk h0 5) = true := by subst hB; rw [← hr0, ← hs0]; revert hb; cases r0 <;> cases s0 <;> simp [std]
     refine wp_skip ?_
     rcases (ddel_m 0 b J hJ E hE N90 p90 hR90 hp90 hn90 x0 g0.ver).two (fro_del _ _ _ _) hp90 hn90 hR90 with ⟨d0, p110, N110, hm110, hs110, hp110, hn110, hR110, hN110, S110⟩ | ⟨wq110, p110, N110, W110, hm110, hs110, hN110, hW110, S110⟩
     ·have O1 := S110
      refine rg hB TA_ok [0, 3, 4] [0, 3] [(4, lc J E (.bool (.v d0)) N110 p110)] hF fun X11 a0 w1 hF => ?_
      refine rg hB TA_ok [4, 0, 3] [0, 3] [] hF fun X3 a0 w1 hF => ?_
      replace hF := hF.headS (v' := .int .i64 1) (by subst hB; exact zr) rfl
      refine rounds_next (wp_seq (wp_seq (rg hB TA_ok [15, 0, 3, 4] [0, 3] [] hF fun X2 a0 w1 hF => ?_)))
      apply test_ok hF rfl <;> intro hb hF
      ·skip
       have O1 := SC1
       refine wp_skip (wp_seq (wp_block (wp_seq (rg hB TA_ok [0, 3, 4, 5] [0, 3, 5] [(2, .r fun _ => .tup [.agg [.int .i64 x1.len, .int .u64 x1.bits], .int .i64 y1])] hF fun X4 a0 w1 hF => ?_))))
       apply wp_seq
       rcases (dget_m 0 b J hJ E hE N110 p110 hR110 hp110 hn110 x1).two (fro_get _ _ _) hp110 hn110 hR110 with ⟨g1, p51, N51, hm51, hs51, hp51, hn51, hR51, hN51, S51⟩ | ⟨wq51, p51, N51, W51, hm51, hs51, hN51, hW51, S51⟩
       ·have hl51 := get_lt hm51
        have hg51 := hp110.get hm51
        have O1 := S51
        refine rg hB TA_ok [0, 3, 4, 5, 7] [0, 3, 5, 7] [(2, lc J E (gotV g1) N51 p51)] hF fun X5 a0 w1 hF => ?_
        refine wp_seq (wp_seq (rg hB TA_ok [30, 0, 3, 4, 5, 7] [0, 3, 5, 7] [] hF fun X6 a0 w1 hF => ?_))
        refine test_ff hF rfl (fun hF => ?_)
        obtain ⟨q1, hq1⟩ := eqv (gk g1 5)
        refine wp_skip (wp_seq (wp_seq ?_))
        refine rg hB TA_ok [33, 0, 3, 4, 5, 7] [0, 3, 5, 7] [(1, .r fun _ => .bool (.v q1))] hF (hob := by intro X; subst hB; simp only [AO, Ob.holds, BE.den] <;> and_intros <;> repeat first | trivial | rfl | exact (by rw [hq1]; exact dis_s g1 5) | exact by rw [hq1]; exact dis_s g1 5 | exact (fun _ _ => by kernel_rfl) | refine ⟨?_, ?_⟩ | intro h | exact Int.le_refl _ | decide | omega) fun X7 a0 w1 hF => ?_
        apply test_ok hF rfl <;> intro hb hF
        ·have tq1 : gk g1 5 = false := by subst hB; rw [← hq1]; revert hb; cases q1 <;> simp [std]
         refine wp_exit (rg hB TA_ok [4, 0, 3] [0, 3] [] hF fun X3 a0 w1 hF => ?_)
         replace hF := hF.headS (v' := .int .i64 2) (by subst hB; exact zr) rfl
         refine rounds_next (wp_seq (wp_seq (rg hB TA_ok [15, 0, 3, 4] [0, 3] [] hF fun X2 a0 w1 hF => ?_)))
         replace hF := hF.headS (v' := .bool .ff) (Sim.bool (by subst hB; rfl)) rfl
         refine test_ff hF rfl (fun hF => ?_)
         exact wp_exit ((rgo hB TA_ok hF (v := ()) (q := p51) (by simp [clnM, clnC, ← hx0, ← hx1, Rs.bind, t64, hm50, tq0, hm80, hm90, tr0, hm110, hm51, tq1]) hN51).2)
        have tq1 : gk g1 5 = true := by subst hB; rw [← hq1]; revert hb; cases q1 <;> simp [std]
        refine wp_skip (wp_seq ?_)
        rcases (ih 0 b J hJ E hE N51 p51 hR51 hp51 hn51 x1 hk1 (by skip; have := hl50; have := hs80.le; have := hs90.le; have := hs110.le; have := hl51; omega)).two (fro_cln _ _ _ _) hp51 hn51 hR51 with ⟨v81, p81, N81, hm81, hs81, hp81, hn81, hR81, hN81, S81⟩ | ⟨wq81, p81, N81, W81, hm81, hs81, hN81, hW81, S81⟩
        ·have O1 := S81
         refine rg hB TA_ok [0, 3, 4, 5, 7] [0, 3, 5, 7] [(2, lc J E (unitV) N81 p81)] hF fun X8 a0 w1 hF => ?_
         apply wp_seq
         rcases (dget_m 0 b J hJ E hE N81 p81 hR81 hp81 hn81 l).two (fro_get _ _ _) hp81 hn81 hR81 with ⟨h1, p91, N91, hm91, hs91, hp91, hn91, hR91, hN91, S91⟩ | ⟨wq91, p91, N91, W91, hm91, hs91, hN91, hW91, S91⟩
         ·have hl91 := get_lt hm91
          have hg91 := hp81.get hm91
          have O1 := S91
          refine rg hB TA_ok [0, 3, 4, 5, 7, 8] [0, 3, 5, 7, 8] [(2, lc J E (gotV h1) N91 p91)] hF fun X9 a0 w1 hF => ?_
          obtain ⟨r1, hr1⟩ := eqv (gk h1 1)
          obtain ⟨s1, hs1⟩ := eqv (gk h1 5)
          refine wp_seq (wp_seq ?_)
          refine rg hB TA_ok [53, 0, 3, 4, 5, 7] [0, 3, 5, 7] [(6, .r fun _ => .bool (.v r1)), (10, .r fun _ => .bool (.v s1))] hF (hob := by intro X; subst hB; simp only [AO, Ob.holds, BE.den] <;> and_intros <;> repeat first | trivial | rfl | exact (by rw [hr1]; exact dis_s h1 1) | exact by rw [hr1]; exact dis_s h1 1 | exact (by rw [hs1]; exact dis_s h1 5) | exact by rw [hs1]; exact dis_s h1 5 | exact (fun _ _ => by kernel_rfl) | refine ⟨?_, ?_⟩ | intro h | exact Int.le_refl _ | decide | omega) fun X10 a0 w1 hF => ?_
          apply test_ok hF rfl <;> intro hb hF
          ·have tr1 : (gk h1 1 || gk h1 5) = false := by subst hB; rw [← hr1, ← hs1]; revert hb; cases r1 <;> cases s1 <;> simp [std]
           exact wp_ret ((rgo hB TA_ok hF (v := ()) (q := p91) (by simp [clnM, clnC, ← hx0, ← hx1, Rs.bind, t64, hm50, tq0, hm80, hm90, tr0, hm110, hm51, tq1, hm81, hm91, tr1]) hN91).1)
          have tr1 : (gk h1 1 || gk h1 5) = true := by subst hB; rw [← hr1, ← hs1]; revert hb; cases r1 <;> cases s1 <;> simp [std]
          refine wp_skip ?_
          rcases (ddel_m 0 b J hJ E hE N91 p91 hR91 hp91 hn91 x1 g1.ver).two (fro_del _ _ _ _) hp91 hn91 hR91 with ⟨d1, p111, N111, hm111, hs111, hp111, hn111, hR111, hN111, S111⟩ | ⟨wq111, p111, N111, W111, hm111, hs111, hN111, hW111, S111⟩
          ·have O1 := S111
           refine rg hB TA_ok [0, 3, 4] [0, 3] [(4, lc J E (.bool (.v d1)) N111 p111)] hF fun X11 a0 w1 hF => ?_
           refine rg hB TA_ok [4, 0, 3] [0, 3] [] hF fun X3 a0 w1 hF => ?_
           replace hF := hF.headS (v' := .int .i64 2) (by subst hB; exact zr) rfl
           refine rounds_next (wp_seq (wp_seq (rg hB TA_ok [15, 0, 3, 4] [0, 3] [] hF fun X2 a0 w1 hF => ?_)))
           replace hF := hF.headS (v' := .bool .ff) (Sim.bool (by subst hB; rfl)) rfl
           refine test_ff hF rfl (fun hF => ?_)
           exact wp_exit ((rgo hB TA_ok hF (v := ()) (q := p111) (by simp [clnM, clnC, ← hx0, ← hx1, Rs.bind, t64, hm50, tq0, hm80, hm90, tr0, hm110, hm51, tq1, hm81, hm91, tr1, hm111]) hN111).2)
          have O1 := S111
          refine rg hB TA_ok [0, 3, 4] [0, 3] [(4, sc J E (.bool .ff) N111 W111 p111.note)] hF fun X11 a0 w1 hF => ?_
          refine rg hB TA_ok [4, 0, 3] [0, 3] [] hF fun X3 a0 w1 hF => ?_
          replace hF := hF.headS (v' := .int .i64 2) (by subst hB; exact zr) rfl
          refine rounds_next (wp_seq (wp_seq (rg hB TA_ok [15, 0, 3, 4] [0, 3] [] hF fun X2 a0 w1 hF => ?_)))
          replace hF := hF.headS (v' := .bool .ff) (Sim.bool (by subst hB; rfl)) rfl
          refine test_ff hF rfl (fun hF => ?_)
          exact wp_exit ((rst hB TA_ok hF (q := p111) (wq := wq111) (X11 4) (by simp [clnM, clnC, ← hx0, ← hx1, Rs.bind, t64, hm50, tq0, hm80, hm90, tr0, hm110, hm51, tq1, hm81, hm91, tr1, hm111]) hN111 (hW111 _)).2)
         have O1 := S91
         refine rg hB TA_ok [0, 3, 4, 5, 7, 8] [0, 3, 5, 7, 8] [(2, sc J E (.agg [.int .i64 0, .int .u64 0, .bool .ff, .int .i64 0, .sl none none 0 0 2 (fun _ => []), .int .i64 0, .int .u64 0, .int .u64 0]) N91 W91 p91.note)] hF fun X9 a0 w1 hF => ?_
         obtain ⟨bs, hbs⟩ : ∃ b : Bool, b = true := ⟨_, rfl⟩
         replace hF := hF.memS (drunV_to hbs J E N91 (W91 (X9 2)) p91.note)
         refine wp_seq (wp_seq ?_)
         refine rg hB TA_ok [53, 0, 3, 4, 5, 7] [0, 3, 5, 7] [(6, .r fun _ => .bool .ff), (10, .r fun _ => .bool .ff)] hF (hob := by intro X; subst hB; simp only [AO, Ob.holds, BE.den] <;> and_intros <;> repeat first | trivial | rfl | exact disz_s _ | exact (fun _ _ => by kernel_rfl) | refine ⟨?_, ?_⟩ | intro h | exact Int.le_refl _ | decide | omega) fun X10 a0 w1 hF => ?_
         replace hF := hF.headS (v' := .bool .tt) (Sim.bool (by subst hB; rw [hbs]; rfl)) rfl
         replace hF := hF.memS (drunV_of hbs J E N91 (W91 (X9 2)) p91.note)
         refine test_tt hF rfl (fun hF => ?_)
         exact wp_ret ((rst hB TA_ok hF (q := p91) (wq := wq91) (X9 2) (by simp [clnM, clnC, ← hx0, ← hx1, Rs.bind, t64, hm50, tq0, hm80, hm90, tr0, hm110, hm51, tq1, hm81, hm91]) hN91 (hW91 _)).1)
        have O1 := S81
        refine rg hB TA_ok [0, 3, 4, 5, 7] [0, 3, 5, 7] [(2, sc J E (unitV) N81 W81 p81.note)] hF fun X8 a0 w1 hF => ?_
        have O1 := dget_d 0 b J E hE N81 (W81 (X8 2)) p81.note l
        refine wp_seq (rg hB TA_ok [0, 3, 4, 5, 7, 8] [0, 3, 5, 7, 8] [(2, dc J E (.agg [.int .i64 0, .int .u64 0, .bool .ff, .int .i64 0, .sl none none 0 0 2 (fun _ => []), .int .i64 0, .int .u64 0, .int .u64 0]) N81 (W81 (X8 2)) p81.note)] hF fun X9 a0 w1 hF => ?_)
        obtain ⟨bs, hbs⟩ : ∃ b : Bool, b = true := ⟨_, rfl⟩
        replace hF := hF.memS (drunV_to hbs J E N81 (W81 (X8 2)) p81.note)
        refine wp_seq (wp_seq ?_)
        refine rg hB TA_ok [53, 0, 3, 4, 5, 7] [0, 3, 5, 7] [(6, .r fun _ => .bool .ff), (10, .r fun _ => .bool .ff)] hF (hob := by intro X; subst hB; simp only [AO, Ob.holds, BE.den] <;> and_intros <;> repeat first | trivial | rfl | exact disz_s _ | exact (fun _ _ => by kernel_rfl) | refine ⟨?_, ?_⟩ | intro h | exact Int.le_refl _ | decide | omega) fun X10 a0 w1 hF => ?_
        replace hF := hF.headS (v' := .bool .tt) (Sim.bool (by subst hB; rw [hbs]; rfl)) rfl
        replace hF := hF.memS (drunV_of hbs J E N81 (W81 (X8 2)) p81.note)
        refine test_tt hF rfl (fun hF => ?_)
        exact wp_ret ((rst hB TA_ok hF (q := p81) (wq := wq81) (X8 2) (by simp [clnM, clnC, ← hx0, ← hx1, Rs.bind, t64, hm50, tq0, hm80, hm90, tr0, hm110, hm51, tq1, hm81]) hN81 (hW81 _)).1)
       have O1 := S51
       refine rg hB TA_ok [0, 3, 4, 5, 7] [0, 3, 5, 7] [(2, sc J E (.agg [.int .i64 0, .int .u64 0, .bool .ff, .int .i64 0, .sl none none 0 0 2 (fun _ => []), .int .i64 0, .int .u64 0, .int .u64 0]) N51 W51 p51.note)] hF fun X5 a0 w1 hF => ?_
       refine wp_seq (wp_seq (rg hB TA_ok [30, 0, 3, 4, 5, 7] [0, 3, 5, 7] [] hF fun X6 a0 w1 hF => ?_))
       refine test_tt hF rfl (fun hF => ?_)
       exact wp_ret ((rst hB TA_ok hF (q := p51) (wq := wq51) (X5 2) (by simp [clnM, clnC, ← hx0, ← hx1, Rs.bind, t64, hm50, tq0, hm80, hm90, tr0, hm110, hm51]) hN51 (hW51 _)).1)
      exfalso
      have h7 : ¬ l.len < 64 := by subst hB; simpa [std, sC] using hb
      exact h7 h6
     have O1 := S110
     refine rg hB TA_ok [0, 3, 4] [0, 3] [(4, sc J E (.bool .ff) N110 W110 p110.note)] hF fun X11 a0 w1 hF => ?_
     refine rg hB TA_ok [4, 0, 3] [0, 3] [] hF fun X3 a0 w1 hF => ?_
     replace hF := hF.headS (v' := .int .i64 1) (by subst hB; exact zr) rfl
     refine rounds_next (wp_seq (wp_seq (rg hB TA_ok [15, 0, 3, 4] [0, 3] [] hF fun X2 a0 w1 hF => ?_)))
     apply test_ok hF rfl <;> intro hb hF
     ·skip
      have O1 := SC1
      refine wp_skip (wp_seq (wp_block (wp_seq (rg hB TA_ok [0, 3, 4, 5] [0, 3, 5] [(2, .r fun _ => .tup [.agg [.int .i64 x1.len, .int .u64 x1.bits], .int .i64 y1])] hF fun X4 a0 w1 hF => ?_))))
      have O1 := dget_d 0 b J E hE N110 (W110 (X11 4)) p110.note x1
      refine wp_seq (rg hB TA_ok [0, 3, 4, 5, 7] [0, 3, 5, 7] [(2, dc J E (.agg [.int .i64 0, .int .u64 0, .bool .ff, .int .i64 0, .sl none none 0 0 2 (fun _ => []), .int .i64 0, .int .u64 0, .int .u64 0]) N110 (W110 (X11 4)) p110.note)] hF fun X5 a0 w1 hF => ?_)
      refine wp_seq (wp_seq (rg hB TA_ok [30, 0, 3, 4, 5, 7] [0, 3, 5, 7] [] hF fun X6 a0 w1 hF => ?_))
      refine test_tt hF rfl (fun hF => ?_)
      exact wp_ret ((rst hB TA_ok hF (q := p110) (wq := wq110) (X11 4) (by simp [clnM, clnC, ← hx0, ← hx1, Rs.bind, t64, hm50, tq0, hm80, hm90, tr0, hm110]) hN110 (hW110 _)).1)
     exfalso
     have h7 : ¬ l.len < 64 := by subst hB; simpa [std, sC] using hb
     exact h7 h6
    have O1 := S90
    refine rg hB TA_ok [0, 3, 4, 5, 7, 8] [0, 3, 5, 7, 8] [(2, sc J E (.agg [.int .i64 0, .int .u64 0, .bool .ff, .int .i64 0, .sl none none 0 0 2 (fun _ => []), .int .i64 0, .int .u64 0, .int .u64 0]) N90 W90 p90.note)] hF fun X9 a0 w1 hF => ?_
    obtain ⟨bs, hbs⟩ : ∃ b : Bool, b = true := ⟨_, rfl⟩
    replace hF := hF.memS (drunV_to hbs J E N90 (W90 (X9 2)) p90.note)
    refine wp_seq (wp_seq ?_)
    refine rg hB TA_ok [53, 0, 3, 4, 5, 7] [0, 3, 5, 7] [(6, .r fun _ => .bool .ff), (10, .r fun _ => .bool .ff)] hF (hob := by intro X; subst hB; simp only [AO, Ob.holds, BE.den] <;> and_intros <;> repeat first | trivial | rfl | exact disz_s _ | exact (fun _ _ => by kernel_rfl) | refine ⟨?_, ?_⟩ | intro h | exact Int.le_refl _ | decide | omega) fun X10 a0 w1 hF => ?_
    replace hF := hF.headS (v' := .bool .tt) (Sim.bool (by subst hB; rw [hbs]; rfl)) rfl
    replace hF := hF.memS (drunV_of hbs J E N90 (W90 (X9 2)) p90.note)
    refine test_tt hF rfl (fun hF => ?_)
    exact wp_ret ((rst hB TA_ok hF (q := p90) (wq := wq90) (X9 2) (by simp [clnM, clnC, ← hx0, ← hx1, Rs.bind, t64, hm50, tq0, hm80, hm90]) hN90 (hW90 _)).1)
   have O1 := S80
   refine rg hB TA_ok [0, 3, 4, 5, 7] [0, 3, 5, 7] [(2, sc J E (unitV) N80 W80 p80.note)] hF fun X8 a0 w1 hF => ?_
   have O1 := dget_d 0 b J E hE N80 (W80 (X8 2)) p80.note l
   refine wp_seq (rg hB TA_ok [0, 3, 4, 5, 7, 8] [0, 3, 5, 7, 8] [(2, dc J E (.agg [.int .i64 0, .int .u64 0, .bool .ff, .int .i64 0, .sl none none 0 0 2 (fun _ => []), .int .i64 0, .int .u64 0, .int .u64 0]) N80 (W80 (X8 2)) p80.note)] hF fun X9 a0 w1 hF => ?_)
   obtain ⟨bs, hbs⟩ : ∃ b : Bool, b = true := ⟨_, rfl⟩
   replace hF := hF.memS (drunV_to hbs J E N80 (W80 (X8 2)) p80.note)
   refine wp_seq (wp_seq ?_)
   refine rg hB TA_ok [53, 0, 3, 4, 5, 7] [0, 3, 5, 7] [(6, .r fun _ => .bool .ff), (10, .r fun _ => .bool .ff)] hF (hob := by intro X; subst hB; simp only [AO, Ob.holds, BE.den] <;> and_intros <;> repeat first | trivial | rfl | exact disz_s _ | exact (fun _ _ => by kernel_rfl) | refine ⟨?_, ?_⟩ | intro h | exact Int.le_refl _ | decide | omega) fun X10 a0 w1 hF => ?_
   replace hF := hF.headS (v' := .bool .tt) (Sim.bool (by subst hB; rw [hbs]; rfl)) rfl
   replace hF := hF.memS (drunV_of hbs J E N80 (W80 (X8 2)) p80.note)
   refine test_tt hF rfl (fun hF => ?_)
   exact wp_ret ((rst hB TA_ok hF (q := p80) (wq := wq80) (X8 2) (by simp [clnM, clnC, ← hx0, ← hx1, Rs.bind, t64, hm50, tq0, hm80]) hN80 (hW80 _)).1)
  have O1 := S50
  refine rg hB TA_ok [0, 3, 4, 5, 7] [0, 3, 5, 7] [(2, sc J E (.agg [.int .i64 0, .int .u64 0, .bool .ff, .int .i64 0, .sl none none 0 0 2 (fun _ => []), .int .i64 0, .int .u64 0, .int .u64 0]) N50 W50 p50.note)] hF fun X5 a0 w1 hF => ?_
  refine wp_seq (wp_seq (rg hB TA_ok [30, 0, 3, 4, 5, 7] [0, 3, 5, 7] [] hF fun X6 a0 w1 hF => ?_))
  refine test_tt hF rfl (fun hF => ?_)
  exact wp_ret ((rst hB TA_ok hF (q := p50) (wq := wq50) (X5 2) (by simp [clnM, clnC, ← hx0, ← hx1, Rs.bind, t64, hm50]) hN50 (hW50 _)).1)
 have h6 : ¬ l.len < 64 := by subst hB; simpa [std, sC] using hb
 have t64 : l.len = 64 := by omega
 exact wp_exit ((rgo hB TA_ok hF (v := ()) (q := p) (by simp [clnM, clnC, ← hx0, ← hx1, Rs.bind, t64]) hN0).2)
theorem dclns_m (k0 b : Nat) (J : JobA) (hJ : JobOk J) (E : EnvA) (hE : E.n ≤ 1000000) (N : Nat) (p : Pst) (hR : Rel E N p) (hp : PstOk p) (hn : p.n ≤ 1000000) (l : Lab) (hl : LOk l) (n : Nat) (ih : DClC n) (hf : p.n < n + 1) : DocS 135 k0 b J E N p [labAV l] (fun _ => unitV) (unitV) (clnM (J.budget - E.n) (n + 1) l p) := DocS.re (dclns_m0 b J hJ E hE N p hR hp hn l hl n ih hf) (by repeat (first | exact trivial | refine ⟨zr, ?_⟩))
theorem dcln_c : ∀ n, DClC n
 | 0 => fun _ _ _ _ _ _ _ _ _ _ _ _ _ h => absurd h (Nat.not_lt_zero _)
 | n + 1 => fun k0 b J hJ E hE N p hR hp hn l hl hf => dclns_m k0 b J hJ E hE N p hR hp hn l hl n (dcln_c n) hf
theorem dhalv_c (x : RA) (h : RaOk x) (l : Lab) (hl : U64 l.bits) : Spec Tryz.prog 220 [recV x, labAV l] (fun y => .tup [recV ⟨y.A 0, y.c 0, (halvA x l).1.rn⟩, recV ⟨y.A 1, y.c 1, (halvA x l).2.1.rn⟩, .int .i64 (halvA x l).2.2]) := by
 have hf := h.few
 exact rhalves_s x.A x.r.n x.c x.r.f (by omega) x.r.kd x.r.nx x.r.mrk h.nx h.key l hl
theorem duni_c (x y : RA) (h : RaOk x) (h' : RaOk y) : Spec Tryz.prog 224 [recV x, recV y] (fun z => .tup [recV ⟨z.A 0, z.c 0, (uniA x y).1.rn⟩, .int .i64 (uniA x y).2]) := by
 have hf := h.few
 have hf' := h'.few
 exact runion_s x.A x.r.n x.c x.r.f (by omega) x.r.kd x.r.nx x.r.mrk h.nx y.A y.r.n y.c y.r.f (by omega) y.r.kd y.r.nx y.r.mrk h'.nx
theorem dspl_m0 (b : Nat) (J : JobA) (hJ : JobOk J) (E : EnvA) (hE : E.n ≤ 1000000) (N : Nat) (p : Pst) (hR : Rel E N p) (hp : PstOk p) (hn : p.n ≤ 1000000) (l : Lab) (hl : LOk l) (v : Int) (x : RA) (hx : RaOk x) (n : Nat) (hf : p.n < n) : DocS 164 0 b J E N p [labAV l, .int .u64 v, recV x] (fun _ => unitV) (unitV) (splitM (J.budget - E.n) n l v x p) := by
 intro m w hm hargs hpre
 have hN0 : N = E.n - p.n := by have := hR.n; omega
 have SC0 := rchild_s l hl.u 0 (.inl rfl)
 have SC1 := rchild_s l hl.u 1 (.inr rfl)
 have hk0 := hl.ch 0
 have hk1 := hl.ch 1
 simp only [labAV] at SC0 SC1
 obtain ⟨x0, hx0⟩ := eqv (chV l 0)
 rw [← hx0] at SC0 hk0
 obtain ⟨x1, hx1⟩ := eqv (chV l 1)
 rw [← hx1] at SC1 hk1
 obtain ⟨y0, hy0⟩ := eqv (chE l 0)
 rw [← hy0] at SC0
 obtain ⟨y1, hy1⟩ := eqv (chE l 1)
 rw [← hy1] at SC1
 have SH := dhalv_c x hx l hl.u
 obtain ⟨e, he⟩ := eqv ((halvA x l).2.2)
 rw [← he] at SH
 obtain ⟨r0, hr0⟩ := eqv ((halvA x l).1.rn)
 rw [← hr0] at SH
 obtain ⟨r1, hr1⟩ := eqv ((halvA x l).2.1.rn)
 rw [← hr1] at SH
 simp only [labAV] at SH
 refine enX 87 hm hpre hargs Tryz.func164 fun B hB a0 hF => ?_
 refine wp_seq (rg hB TA_ok [0, 2, 5, 7] [0, 5, 7] [] hF fun X0 a0 w1 hF => ?_)
 have O1 := SH
 refine wp_seq (rg hB TA_ok [0, 2, 5, 8, 9, 10] [0, 5, 8, 9] [(2, .r fun y => .tup [.agg [.int .i64 r0.kd, .sl none (y.A 0) r0.n (y.c 0) 2 (fun i => itC (r0.f i)), .int .i64 r0.nx.len, .int .u64 r0.nx.bits, .int .u64 r0.mrk], .agg [.int .i64 r1.kd, .sl none (y.A 1) r1.n (y.c 1) 2 (fun i => itC (r1.f i)), .int .i64 r1.nx.len, .int .u64 r1.nx.bits, .int .u64 r1.mrk], .int .i64 e])] hF fun X1 a0 w1 hF => ?_)
 refine wp_seq (wp_seq (rg hB TA_ok [26, 0, 2, 5, 8, 9] [0, 5, 8, 9] [] hF fun X2 a0 w1 hF => ?_))
 apply test_ok hF rfl <;> intro hb hF
 ·have t0 : ¬ e = 0 := by subst hB; simpa [std, sC] using hb
  exact wp_ret ((rgo hB TA_ok hF (v := ()) (q := p) (by simp [splitM, splC, ← hx0, ← hx1, ← he, Rs.bind, t0]) hN0).1)
 have t0 : e = 0 := by subst hB; simpa [std, sC] using hb
 refine wp_skip (wp_seq (rg hB TA_ok [11, 0, 2, 5] [0, 5, 29] [] hF fun X3 a0 w1 hF => ?_))
 obtain ⟨hv, hhv⟩ : ∃ f : Nat → RA, f = fun i => if i = 0 then ⟨(X1 2).A 0, (X1 2).c 0, r0⟩ else ⟨(X1 2).A 1, (X1 2).c 1, r1⟩ := ⟨_, rfl⟩
 have hv0 : (hv 0).r.abs = (halvA x l).1 := by rw [hhv]; show r0.abs = _; rw [hr0]; exact rn_abs _
 have hv1 : (hv 1).r.abs = (halvA x l).2.1 := by rw [hhv]; show r1.abs = _; rw [hr1]; exact rn_abs _
 replace hF := hF.headS (v' := .sl (some 11) (some ⟨(X3 2).b, 0, none⟩) 2 2 5 (fun i => recC (hv i))) (Sim.recell (fun i hi => by
   subst hhv
   match i, hi with
   | 0, _ => rfl
   | 1, _ => rfl)) rfl
 refine wp_seq (wp_seq (rg hB TA_ok [12, 0, 2, 5, 11] [0, 5, 29] [] hF fun X4 a0 w1 hF => ?_))
 refine wp_block (wp_loop_rounds 3 (rounds_first (wp_seq (wp_seq (rg hB TA_ok [31, 0, 2, 5, 11, 12] [0, 5, 29] [] hF fun X5 a0 w1 hF => ?_)))))
 replace hF := hF.headS (v' := .bool .tt) (Sim.bool (by subst hB; rfl)) rfl
 refine test_tt hF rfl (fun hF => ?_)
 have O1 := SC0
 refine wp_skip (wp_seq (wp_block (wp_seq (rg hB TA_ok [0, 2, 5, 11, 12, 13] [0, 5, 13, 29] [(2, .r fun _ => .tup [.agg [.int .i64 x0.len, .int .u64 x0.bits], .int .i64 y0])] hF fun X7 a0 w1 hF => ?_))))
 refine wp_seq (rg hB TA_ok [15, 0, 2, 5, 11, 12, 13] [0, 5, 13, 29] [] hF fun X8 a0 w1 hF => ?_)
 refine wp_block (loop_pre (ι := LSt) (fun q => [(15, .bool (lsB q))]) (fun q => [(0, ⟨b, 118, lsC J E q⟩)]) (fun q => []) (fun q => match q with | .go a r M => splC (J.budget - E.n) l v x0 (hv 0).r.abs n p = splC (J.budget - E.n) l v x0 (hv 0).r.abs a r ∧ PstOk r ∧ r.n ≤ 1000000 ∧ Rel E M r ∧ r.n < a ∧ r.n ≤ p.n | .dn r M => splC (J.budget - E.n) l v x0 (hv 0).r.abs n p = .ok true r ∧ PstOk r ∧ r.n ≤ 1000000 ∧ Rel E M r ∧ r.n ≤ p.n | .sp M Q u => ∃ (X : Atom) (wq : Wq) (pp : Pst), splitM (J.budget - E.n) n l v x p = .stop wq pp ∧ M = E.n - pp.n ∧ Q = wqA X wq ∧ u = pp.note) (fun q => lsM q) (.go n p N) ⟨rfl, hp, hn, hR, (by skip; omega), (by skip; omega)⟩ hF ?_)
 rintro q hJ a0 w1 hF
 rcases q with ⟨nn0, p0, N0⟩ | ⟨p0, N0⟩ | ⟨N0, Q0, t0⟩
 ·dsimp only [lsC, lsB] at hJ hF
  obtain ⟨hrun0, hp0, hn0, hR0, hf0, hle0⟩ := hJ
  obtain ⟨m0, rfl⟩ : ∃ n2, nn0 = n2 + 1 := ⟨nn0 - 1, by omega⟩
  have hN0 : N0 = E.n - p0.n := by have := hR0.n; omega
  refine wp_seq (wp_seq (rg hB TA_ok [48, 0, 2, 5, 11, 12, 13] [0, 5, 13, 29] [] hF fun X9 a0 w1 hF => ?_))
  refine test_tt hF rfl (fun hF => ?_)
  refine wp_skip (wp_block (wp_seq ?_))
  rcases (dget_m 0 b J hJ E hE N0 p0 hR0 hp0 hn0 x0).two (fro_get _ _ _) hp0 hn0 hR0 with ⟨g0, p100, N100, hm100, hs100, hp100, hn100, hR100, hN100, S100⟩ | ⟨wq100, p100, N100, W100, hm100, hs100, hN100, hW100, S100⟩
  ·have hl100 := get_lt hm100
   have hg100 := hp0.get hm100
   have O1 := S100
   refine rg hB TA_ok [0, 2, 5, 11, 12, 13, 16] [0, 5, 13, 16, 29] [(2, lc J E (gotV g0) N100 p100)] hF fun X10 a0 w1 hF => ?_
   refine wp_seq (wp_seq (rg hB TA_ok [59, 0, 2, 5, 11, 12, 13, 16] [0, 5, 13, 16, 29] [] hF fun X11 a0 w1 hF => ?_))
   apply test_ok hF rfl <;> intro hb hF
   ·have tq0 : (g0.has && !decide (g0.x.r.kd = 5)) = true := by
     have h9 : (if g0.has = true then !decide (g0.x.r.kd = 5) else false) = true := by
      have h8 : (if g0.has = true then (g0.x.r.kd != 5) else false) = true := by subst hB; exact hb
      exact h8
     rw [← h9]; cases g0.has <;> rfl
    refine wp_seq (rg hB TA_ok [0, 2, 5, 11, 12, 13, 15] [0, 5, 13, 29] [] hF fun X12 a0 w1 hF => ?_)
    replace hF := hF.keep [15, 0, 2, 5, 11, 12, 13] [0, 5, 13, 29]
    exact wp_exit (⟨.dn p100 N100, ⟨by rw [hrun0]; simp [splC, Rs.bind, t0, ← hv0, ← hv1, hrun0, splC, hm100, tq0], hp100, hn100, hR100, by have := hl100; have := hle0; omega⟩, by simp [lsM], hF⟩)
   have tq0 : (g0.has && !decide (g0.x.r.kd = 5)) = false := by
    have h9 : (if g0.has = true then !decide (g0.x.r.kd = 5) else false) = false := by
     have h8 : (if g0.has = true then (g0.x.r.kd != 5) else false) = false := by subst hB; exact hb
     exact h8
    rw [← h9]; cases g0.has <;> rfl
   refine wp_skip (wp_seq ?_)
   rcases (dget_m 0 b J hJ E hE N100 p100 hR100 hp100 hn100 l).two (fro_get _ _ _) hp100 hn100 hR100 with ⟨h0, p130, N130, hm130, hs130, hp130, hn130, hR130, hN130, S130⟩ | ⟨wq130, p130, N130, W130, hm130, hs130, hN130, hW130, S130⟩
   ·have hl130 := get_lt hm130
    have hg130 := hp100.get hm130
    have O1 := S130
    refine rg hB TA_ok [0, 2, 5, 11, 12, 13, 16, 17] [0, 5, 13, 16, 17, 29] [(2, lc J E (gotV h0) N130 p130)] hF fun X13 a0 w1 hF => ?_
    refine wp_seq (wp_seq (rg hB TA_ok [72, 0, 2, 5, 11, 12, 13, 16] [0, 5, 13, 16, 29] [] hF fun X14 a0 w1 hF => ?_))
    apply test_ok hF rfl <;> intro hb hF
    ·have tv0 : ¬ h0.ver = v := by
      have h9 : (h0.ver != v) = true := by subst hB; exact hb
      simpa using h9
     exact wp_ret ((rgo hB TA_ok hF (v := ()) (q := p130) (by simp [splitM, splC, ← hx0, ← hx1, ← he, Rs.bind, t0, ← hv0, ← hv1, hrun0, splC, hm100, tq0, hm130, tv0]) hN130).1)
    have tv0 : h0.ver = v := by
     have h9 : (h0.ver != v) = false := by subst hB; exact hb
     simpa using h9
    refine wp_skip ?_
    rcases (dcas_m 0 b J hJ E hE N130 p130 hR130 hp130 hn130 x0 g0.ver (hv 0)).two (fro_cas _ _ _ _ _) hp130 hn130 hR130 with ⟨d0, p150, N150, hm150, hs150, hp150, hn150, hR150, hN150, S150⟩ | ⟨wq150, p150, N150, W150, hm150, hs150, hN150, hW150, S150⟩
    ·have O1 := S150
     refine drg hB TA_ok [0, 2, 5, 11, 12, 13, 15] [0, 5, 13, 29] [(8, lc J E (.bool (.v d0)) N150 p150)] hF fun X15 a0 w1 hF => ?_
     replace hF := hF.keep [15, 0, 2, 5, 11, 12, 13] [0, 5, 13, 29]
     rcases Bool.eq_false_or_eq_true d0 with hd | hd
     ·exact ⟨.dn p150 N150, ⟨by rw [hrun0]; simp [splC, Rs.bind, hd, t0, ← hv0, ← hv1, hrun0, splC, hm100, tq0, hm130, tv0, hm150], hp150, hn150, hR150, by have := hl100; have := hs130.le; have := hs150.le; have := hle0; omega⟩, by simp [lsM], hF.headS (v' := .bool .tt) (Sim.bool hd) rfl⟩
     exact ⟨.go m0 p150 N150, ⟨by rw [hrun0]; simp [splC, Rs.bind, hd, t0, ← hv0, ← hv1, hrun0, splC, hm100, tq0, hm130, tv0, hm150], hp150, hn150, hR150, by have := hl100; have := hs130.le; have := hs150.le; have := hf0; omega, by have := hl100; have := hs130.le; have := hs150.le; have := hle0; omega⟩, by simp [lsM], hF.headS (v' := .bool .ff) (Sim.bool hd) rfl⟩
    have O1 := S150
    refine drg hB TA_ok [0, 2, 5, 11, 12, 13, 15] [0, 5, 13, 29] [(8, sc J E (.bool .ff) N150 W150 p150.note)] hF fun X15 a0 w1 hF => ?_
    replace hF := hF.keep [15, 0, 2, 5, 11, 12, 13] [0, 5, 13, 29]
    exact ⟨.sp N150 (W150 (X15 8)) p150.note, ⟨(X15 8), wq150, p150, by simp [splitM, splC, ← hx0, ← hx1, ← he, Rs.bind, t0, ← hv0, ← hv1, hrun0, splC, hm100, tq0, hm130, tv0, hm150], hN150, (hW150 _), rfl⟩, by simp [lsM], hF⟩
   have O1 := S130
   refine rg hB TA_ok [0, 2, 5, 11, 12, 13, 16, 17] [0, 5, 13, 16, 17, 29] [(2, sc J E (.agg [.int .i64 0, .int .u64 0, .bool .ff, .int .i64 0, .sl none none 0 0 2 (fun _ => []), .int .i64 0, .int .u64 0, .int .u64 0]) N130 W130 p130.note)] hF fun X13 a0 w1 hF => ?_
   refine wp_seq (wp_seq (rg hB TA_ok [72, 0, 2, 5, 11, 12, 13, 16] [0, 5, 13, 16, 29] [] hF fun X14 a0 w1 hF => ?_))
   refine test_tt hF rfl (fun hF => ?_)
   exact wp_ret ((rst hB TA_ok hF (q := p130) (wq := wq130) (X13 2) (by simp [splitM, splC, ← hx0, ← hx1, ← he, Rs.bind, t0, ← hv0, ← hv1, hrun0, splC, hm100, tq0, hm130]) hN130 (hW130 _)).1)
  have O1 := S100
  refine rg hB TA_ok [0, 2, 5, 11, 12, 13, 16] [0, 5, 13, 16, 29] [(2, sc J E (.agg [.int .i64 0, .int .u64 0, .bool .ff, .int .i64 0, .sl none none 0 0 2 (fun _ => []), .int .i64 0, .int .u64 0, .int .u64 0]) N100 W100 p100.note)] hF fun X10 a0 w1 hF => ?_
  refine wp_seq (wp_seq (rg hB TA_ok [59, 0, 2, 5, 11, 12, 13, 16] [0, 5, 13, 16, 29] [] hF fun X11 a0 w1 hF => ?_))
  refine test_ff hF rfl (fun hF => ?_)
  have O1 := dget_d 0 b J E hE N100 (W100 (X10 2)) p100.note l
  refine wp_skip (wp_seq (rg hB TA_ok [0, 2, 5, 11, 12, 13, 16, 17] [0, 5, 13, 16, 17, 29] [(2, dc J E (.agg [.int .i64 0, .int .u64 0, .bool .ff, .int .i64 0, .sl none none 0 0 2 (fun _ => []), .int .i64 0, .int .u64 0, .int .u64 0]) N100 (W100 (X10 2)) p100.note)] hF fun X13 a0 w1 hF => ?_))
  refine wp_seq (wp_seq (rg hB TA_ok [72, 0, 2, 5, 11, 12, 13, 16] [0, 5, 13, 16, 29] [] hF fun X14 a0 w1 hF => ?_))
  refine test_tt hF rfl (fun hF => ?_)
  exact wp_ret ((rst hB TA_ok hF (q := p100) (wq := wq100) (X10 2) (by simp [splitM, splC, ← hx0, ← hx1, ← he, Rs.bind, t0, ← hv0, ← hv1, hrun0, splC, hm100]) hN100 (hW100 _)).1)
 ·dsimp only [lsC, lsB] at hJ hF
  obtain ⟨hdn0, hp0, hn0, hR0, hle0⟩ := hJ
  have hN0 : N0 = E.n - p0.n := by have := hR0.n; omega
  refine wp_seq (wp_seq (rg hB TA_ok [48, 0, 2, 5, 11, 12, 13] [0, 5, 13, 29] [] hF fun X9 a0 w1 hF => ?_))
  refine test_ff hF rfl (fun hF => ?_)
  refine wp_exit (rg hB TA_ok [12, 0, 2, 5, 11] [0, 5, 29] [] hF fun X6 a0 w1 hF => ?_)
  replace hF := hF.headS (v' := .int .i64 1) (by subst hB; exact zr) rfl
  refine rounds_next (wp_seq (wp_seq (rg hB TA_ok [31, 0, 2, 5, 11, 12] [0, 5, 29] [] hF fun X5 a0 w1 hF => ?_)))
  replace hF := hF.headS (v' := .bool .tt) (Sim.bool (by subst hB; rfl)) rfl
  refine test_tt hF rfl (fun hF => ?_)
  have O1 := SC1
  refine wp_skip (wp_seq (wp_block (wp_seq (rg hB TA_ok [0, 2, 5, 11, 12, 13] [0, 5, 13, 29] [(2, .r fun _ => .tup [.agg [.int .i64 x1.len, .int .u64 x1.bits], .int .i64 y1])] hF fun X7 a0 w1 hF => ?_))))
  refine wp_seq (rg hB TA_ok [15, 0, 2, 5, 11, 12, 13] [0, 5, 13, 29] [] hF fun X8 a0 w1 hF => ?_)
  refine wp_block (loop_pre (ι := LSt) (fun q => [(15, .bool (lsB q))]) (fun q => [(0, ⟨b, 118, lsC J E q⟩)]) (fun q => []) (fun q => match q with | .go a r M => splC (J.budget - E.n) l v x1 (hv 1).r.abs n p0 = splC (J.budget - E.n) l v x1 (hv 1).r.abs a r ∧ PstOk r ∧ r.n ≤ 1000000 ∧ Rel E M r ∧ r.n < a ∧ r.n ≤ p.n | .dn r M => splC (J.budget - E.n) l v x1 (hv 1).r.abs n p0 = .ok true r ∧ PstOk r ∧ r.n ≤ 1000000 ∧ Rel E M r ∧ r.n ≤ p.n | .sp M Q u => ∃ (X : Atom) (wq : Wq) (pp : Pst), splitM (J.budget - E.n) n l v x p = .stop wq pp ∧ M = E.n - pp.n ∧ Q = wqA X wq ∧ u = pp.note) (fun q => lsM q) (.go n p0 N0) ⟨rfl, hp0, hn0, hR0, (by have := hle0; omega), (by have := hle0; omega)⟩ hF ?_)
  rintro q hJ a0 w1 hF
  rcases q with ⟨nn1, p1, N1⟩ | ⟨p1, N1⟩ | ⟨N1, Q1, t1⟩
  ·dsimp only [lsC, lsB] at hJ hF
   obtain ⟨hrun1, hp1, hn1, hR1, hf1, hle1⟩ := hJ
   obtain ⟨m1, rfl⟩ : ∃ n2, nn1 = n2 + 1 := ⟨nn1 - 1, by omega⟩
   have hN1 : N1 = E.n - p1.n := by have := hR1.n; omega
   refine wp_seq (wp_seq (rg hB TA_ok [48, 0, 2, 5, 11, 12, 13] [0, 5, 13, 29] [] hF fun X9 a0 w1 hF => ?_))
   refine test_tt hF rfl (fun hF => ?_)
   refine wp_skip (wp_block (wp_seq ?_))
   rcases (dget_m 0 b J hJ E hE N1 p1 hR1 hp1 hn1 x1).two (fro_get _ _ _) hp1 hn1 hR1 with ⟨g1, p101, N101, hm101, hs101, hp101, hn101, hR101, hN101, S101⟩ | ⟨wq101, p101, N101, W101, hm101, hs101, hN101, hW101, S101⟩
   ·have hl101 := get_lt hm101
    have hg101 := hp1.get hm101
    have O1 := S101
    refine rg hB TA_ok [0, 2, 5, 11, 12, 13, 16] [0, 5, 13, 16, 29] [(2, lc J E (gotV g1) N101 p101)] hF fun X10 a0 w1 hF => ?_
    refine wp_seq (wp_seq (rg hB TA_ok [59, 0, 2, 5, 11, 12, 13, 16] [0, 5, 13, 16, 29] [] hF fun X11 a0 w1 hF => ?_))
    apply test_ok hF rfl <;> intro hb hF
    ·have tq1 : (g1.has && !decide (g1.x.r.kd = 5)) = true := by
      have h9 : (if g1.has = true then !decide (g1.x.r.kd = 5) else false) = true := by
       have h8 : (if g1.has = true then (g1.x.r.kd != 5) else false) = true := by subst hB; exact hb
       exact h8
      rw [← h9]; cases g1.has <;> rfl
     refine wp_seq (rg hB TA_ok [0, 2, 5, 11, 12, 13, 15] [0, 5, 13, 29] [] hF fun X12 a0 w1 hF => ?_)
     replace hF := hF.keep [15, 0, 2, 5, 11, 12, 13] [0, 5, 13, 29]
     exact wp_exit (⟨.dn p101 N101, ⟨by rw [hrun1]; simp [splC, Rs.bind, t0, ← hv0, ← hv1, hdn0, hrun1, splC, hm101, tq1], hp101, hn101, hR101, by have := hl101; have := hle1; omega⟩, by simp [lsM], hF⟩)
    have tq1 : (g1.has && !decide (g1.x.r.kd = 5)) = false := by
     have h9 : (if g1.has = true then !decide (g1.x.r.kd = 5) else false) = false := by
      have h8 : (if g1.has = true then (g1.x.r.kd != 5) else false) = false := by subst hB; exact hb
      exact h8
     rw [← h9]; cases g1.has <;> rfl
    refine wp_skip (wp_seq ?_)
    rcases (dget_m 0 b J hJ E hE N101 p101 hR101 hp101 hn101 l).two (fro_get _ _ _) hp101 hn101 hR101 with ⟨h1, p131, N131, hm131, hs131, hp131, hn131, hR131, hN131, S131⟩ | ⟨wq131, p131, N131, W131, hm131, hs131, hN131, hW131, S131⟩
    ·have hl131 := get_lt hm131
     have hg131 := hp101.get hm131
     have O1 := S131
     refine rg hB TA_ok [0, 2, 5, 11, 12, 13, 16, 17] [0, 5, 13, 16, 17, 29] [(2, lc J E (gotV h1) N131 p131)] hF fun X13 a0 w1 hF => ?_
     refine wp_seq (wp_seq (rg hB TA_ok [72, 0, 2, 5, 11, 12, 13, 16] [0, 5, 13, 16, 29] [] hF fun X14 a0 w1 hF => ?_))
     apply test_ok hF rfl <;> intro hb hF
     ·have tv1 : ¬ h1.ver = v := by
       have h9 : (h1.ver != v) = true := by subst hB; exact hb
       simpa using h9
      exact wp_ret ((rgo hB TA_ok hF (v := ()) (q := p131) (by simp [splitM, splC, ← hx0, ← hx1, ← he, Rs.bind, t0, ← hv0, ← hv1, hdn0, hrun1, splC, hm101, tq1, hm131, tv1]) hN131).1)
     have tv1 : h1.ver = v := by
      have h9 : (h1.ver != v) = false := by subst hB; exact hb
      simpa using h9
     refine wp_skip ?_
     rcases (dcas_m 0 b J hJ E hE N131 p131 hR131 hp131 hn131 x1 g1.ver (hv 1)).two (fro_cas _ _ _ _ _) hp131 hn131 hR131 with ⟨d1, p151, N151, hm151, hs151, hp151, hn151, hR151, hN151, S151⟩ | ⟨wq151, p151, N151, W151, hm151, hs151, hN151, hW151, S151⟩
     ·have O1 := S151
      refine drg hB TA_ok [0, 2, 5, 11, 12, 13, 15] [0, 5, 13, 29] [(8, lc J E (.bool (.v d1)) N151 p151)] hF fun X15 a0 w1 hF => ?_
      replace hF := hF.keep [15, 0, 2, 5, 11, 12, 13] [0, 5, 13, 29]
      rcases Bool.eq_false_or_eq_true d1 with hd | hd
      ·exact ⟨.dn p151 N151, ⟨by rw [hrun1]; simp [splC, Rs.bind, hd, t0, ← hv0, ← hv1, hdn0, hrun1, splC, hm101, tq1, hm131, tv1, hm151], hp151, hn151, hR151, by have := hl101; have := hs131.le; have := hs151.le; have := hle1; omega⟩, by simp [lsM], hF.headS (v' := .bool .tt) (Sim.bool hd) rfl⟩
      exact ⟨.go m1 p151 N151, ⟨by rw [hrun1]; simp [splC, Rs.bind, hd, t0, ← hv0, ← hv1, hdn0, hrun1, splC, hm101, tq1, hm131, tv1, hm151], hp151, hn151, hR151, by have := hl101; have := hs131.le; have := hs151.le; have := hf1; omega, by have := hl101; have := hs131.le; have := hs151.le; have := hle1; omega⟩, by simp [lsM], hF.headS (v' := .bool .ff) (Sim.bool hd) rfl⟩
     have O1 := S151
     refine drg hB TA_ok [0, 2, 5, 11, 12, 13, 15] [0, 5, 13, 29] [(8, sc J E (.bool .ff) N151 W151 p151.note)] hF fun X15 a0 w1 hF => ?_
     replace hF := hF.keep [15, 0, 2, 5, 11, 12, 13] [0, 5, 13, 29]
     exact ⟨.sp N151 (W151 (X15 8)) p151.note, ⟨(X15 8), wq151, p151, by simp [splitM, splC, ← hx0, ← hx1, ← he, Rs.bind, t0, ← hv0, ← hv1, hdn0, hrun1, splC, hm101, tq1, hm131, tv1, hm151], hN151, (hW151 _), rfl⟩, by simp [lsM], hF⟩
    have O1 := S131
    refine rg hB TA_ok [0, 2, 5, 11, 12, 13, 16, 17] [0, 5, 13, 16, 17, 29] [(2, sc J E (.agg [.int .i64 0, .int .u64 0, .bool .ff, .int .i64 0, .sl none none 0 0 2 (fun _ => []), .int .i64 0, .int .u64 0, .int .u64 0]) N131 W131 p131.note)] hF fun X13 a0 w1 hF => ?_
    refine wp_seq (wp_seq (rg hB TA_ok [72, 0, 2, 5, 11, 12, 13, 16] [0, 5, 13, 16, 29] [] hF fun X14 a0 w1 hF => ?_))
    refine test_tt hF rfl (fun hF => ?_)
    exact wp_ret ((rst hB TA_ok hF (q := p131) (wq := wq131) (X13 2) (by simp [splitM, splC, ← hx0, ← hx1, ← he, Rs.bind, t0, ← hv0, ← hv1, hdn0, hrun1, splC, hm101, tq1, hm131]) hN131 (hW131 _)).1)
   have O1 := S101
   refine rg hB TA_ok [0, 2, 5, 11, 12, 13, 16] [0, 5, 13, 16, 29] [(2, sc J E (.agg [.int .i64 0, .int .u64 0, .bool .ff, .int .i64 0, .sl none none 0 0 2 (fun _ => []), .int .i64 0, .int .u64 0, .int .u64 0]) N101 W101 p101.note)] hF fun X10 a0 w1 hF => ?_
   refine wp_seq (wp_seq (rg hB TA_ok [59, 0, 2, 5, 11, 12, 13, 16] [0, 5, 13, 16, 29] [] hF fun X11 a0 w1 hF => ?_))
   refine test_ff hF rfl (fun hF => ?_)
   have O1 := dget_d 0 b J E hE N101 (W101 (X10 2)) p101.note l
   refine wp_skip (wp_seq (rg hB TA_ok [0, 2, 5, 11, 12, 13, 16, 17] [0, 5, 13, 16, 17, 29] [(2, dc J E (.agg [.int .i64 0, .int .u64 0, .bool .ff, .int .i64 0, .sl none none 0 0 2 (fun _ => []), .int .i64 0, .int .u64 0, .int .u64 0]) N101 (W101 (X10 2)) p101.note)] hF fun X13 a0 w1 hF => ?_))
   refine wp_seq (wp_seq (rg hB TA_ok [72, 0, 2, 5, 11, 12, 13, 16] [0, 5, 13, 16, 29] [] hF fun X14 a0 w1 hF => ?_))
   refine test_tt hF rfl (fun hF => ?_)
   exact wp_ret ((rst hB TA_ok hF (q := p101) (wq := wq101) (X10 2) (by simp [splitM, splC, ← hx0, ← hx1, ← he, Rs.bind, t0, ← hv0, ← hv1, hdn0, hrun1, splC, hm101]) hN101 (hW101 _)).1)
  ·dsimp only [lsC, lsB] at hJ hF
   obtain ⟨hdn1, hp1, hn1, hR1, hle1⟩ := hJ
   have hN1 : N1 = E.n - p1.n := by have := hR1.n; omega
   refine wp_seq (wp_seq (rg hB TA_ok [48, 0, 2, 5, 11, 12, 13] [0, 5, 13, 29] [] hF fun X9 a0 w1 hF => ?_))
   refine test_ff hF rfl (fun hF => ?_)
   refine wp_exit (rg hB TA_ok [12, 0, 2, 5, 11] [0, 5, 29] [] hF fun X6 a0 w1 hF => ?_)
   replace hF := hF.headS (v' := .int .i64 2) (by subst hB; exact zr) rfl
   refine rounds_next (wp_seq (wp_seq (rg hB TA_ok [31, 0, 2, 5, 11, 12] [0, 5, 29] [] hF fun X5 a0 w1 hF => ?_)))
   replace hF := hF.headS (v' := .bool .ff) (Sim.bool (by subst hB; rfl)) rfl
   refine test_ff hF rfl (fun hF => ?_)
   refine wp_exit ?_
   rcases (dcasi_m 0 b J hJ E hE N1 p1 hR1 hp1 hn1 l v).two (fro_cas _ _ _ _ _) hp1 hn1 hR1 with ⟨d2, p16, N16, hm16, hs16, hp16, hn16, hR16, hN16, S16⟩ | ⟨wq16, p16, N16, W16, hm16, hs16, hN16, hW16, S16⟩
   ·have O1 := dinn_s
    have O2 := S16
    refine drg hB TA_ok [] [0] [(3, .r fun _ => .agg [.int .i64 2, .sl none none 0 0 2 (fun _ => []), .int .i64 (-1), .int .u64 0, .int .u64 0]), (4, lc J E (.bool (.v d2)) N16 p16)] hF fun X16 a0 w1 hF => ?_
    exact (rgo hB TA_ok hF (v := ()) (q := p16) (by simp [splitM, splC, ← hx0, ← hx1, ← he, Rs.bind, t0, ← hv0, ← hv1, hdn0, hdn1, hm16]) hN16).2
   have O1 := dinn_s
   have O2 := S16
   refine drg hB TA_ok [] [0] [(3, .r fun _ => .agg [.int .i64 2, .sl none none 0 0 2 (fun _ => []), .int .i64 (-1), .int .u64 0, .int .u64 0]), (4, sc J E (.bool .ff) N16 W16 p16.note)] hF fun X16 a0 w1 hF => ?_
   exact (rst hB TA_ok hF (q := p16) (wq := wq16) (X16 4) (by simp [splitM, splC, ← hx0, ← hx1, ← he, Rs.bind, t0, ← hv0, ← hv1, hdn0, hdn1, hm16]) hN16 (hW16 _)).2
  dsimp only [lsC, lsB] at hJ hF
  obtain ⟨X1, wq1, pp1, hsp1, hN1, hW1, ht1⟩ := hJ
  subst ht1
  refine wp_seq (wp_seq (rg hB TA_ok [48, 0, 2, 5, 11, 12, 13] [0, 5, 13, 29] [] hF fun X9 a0 w1 hF => ?_))
  refine test_ff hF rfl (fun hF => ?_)
  refine wp_exit (rg hB TA_ok [12, 0, 2, 5, 11] [0, 5, 29] [] hF fun X6 a0 w1 hF => ?_)
  replace hF := hF.headS (v' := .int .i64 2) (by subst hB; exact zr) rfl
  refine rounds_next (wp_seq (wp_seq (rg hB TA_ok [31, 0, 2, 5, 11, 12] [0, 5, 29] [] hF fun X5 a0 w1 hF => ?_)))
  replace hF := hF.headS (v' := .bool .ff) (Sim.bool (by subst hB; rfl)) rfl
  refine test_ff hF rfl (fun hF => ?_)
  have O1 := dinn_s
  have O2 := dcasi_d 0 b J E hE N1 Q1 pp1.note l v
  refine wp_exit (drg hB TA_ok [] [0] [(3, .r fun _ => .agg [.int .i64 2, .sl none none 0 0 2 (fun _ => []), .int .i64 (-1), .int .u64 0, .int .u64 0]), (4, dc J E (.bool .ff) N1 Q1 pp1.note)] hF fun X16 a0 w1 hF => ?_)
  exact (rst hB TA_ok hF (q := pp1) (wq := wq1) X1 (hsp1) hN1 hW1).2
 dsimp only [lsC, lsB] at hJ hF
 obtain ⟨X0, wq0, pp0, hsp0, hN0, hW0, ht0⟩ := hJ
 subst ht0
 refine wp_seq (wp_seq (rg hB TA_ok [48, 0, 2, 5, 11, 12, 13] [0, 5, 13, 29] [] hF fun X9 a0 w1 hF => ?_))
 refine test_ff hF rfl (fun hF => ?_)
 refine wp_exit (rg hB TA_ok [12, 0, 2, 5, 11] [0, 5, 29] [] hF fun X6 a0 w1 hF => ?_)
 replace hF := hF.headS (v' := .int .i64 1) (by subst hB; exact zr) rfl
 refine rounds_next (wp_seq (wp_seq (rg hB TA_ok [31, 0, 2, 5, 11, 12] [0, 5, 29] [] hF fun X5 a0 w1 hF => ?_)))
 replace hF := hF.headS (v' := .bool .tt) (Sim.bool (by subst hB; rfl)) rfl
 refine test_tt hF rfl (fun hF => ?_)
 have O1 := SC1
 refine wp_skip (wp_seq (wp_block (wp_seq (rg hB TA_ok [0, 2, 5, 11, 12, 13] [0, 5, 13, 29] [(2, .r fun _ => .tup [.agg [.int .i64 x1.len, .int .u64 x1.bits], .int .i64 y1])] hF fun X7 a0 w1 hF => ?_))))
 refine wp_seq (rg hB TA_ok [15, 0, 2, 5, 11, 12, 13] [0, 5, 13, 29] [] hF fun X8 a0 w1 hF => ?_)
 refine wp_block (loop_pre (ι := LSt) (fun q => [(15, .bool (lsB q))]) (fun q => [(0, ⟨b, 118, lsC J E q⟩)]) (fun q => []) (fun q => match q with | .sp M Q u => N0 = M ∧ Q0 = Q ∧ pp0.note = u | _ => False) (fun q => lsM q) (.sp N0 Q0 pp0.note) ⟨rfl, rfl, rfl⟩ hF ?_)
 rintro q hJ a0 w1 hF
 rcases q with ⟨nn, pp, NN⟩ | ⟨pp, NN⟩ | ⟨NN, QQ, tt⟩
 ·exact (hJ : False).elim
 ·exact (hJ : False).elim
 dsimp only [lsC, lsB] at hJ hF
 obtain ⟨rfl, rfl, rfl⟩ := hJ
 refine wp_seq (wp_seq (rg hB TA_ok [48, 0, 2, 5, 11, 12, 13] [0, 5, 13, 29] [] hF fun X9 a0 w1 hF => ?_))
 refine test_ff hF rfl (fun hF => ?_)
 refine wp_exit (rg hB TA_ok [12, 0, 2, 5, 11] [0, 5, 29] [] hF fun X6 a0 w1 hF => ?_)
 replace hF := hF.headS (v' := .int .i64 2) (by subst hB; exact zr) rfl
 refine rounds_next (wp_seq (wp_seq (rg hB TA_ok [31, 0, 2, 5, 11, 12] [0, 5, 29] [] hF fun X5 a0 w1 hF => ?_)))
 replace hF := hF.headS (v' := .bool .ff) (Sim.bool (by subst hB; rfl)) rfl
 refine test_ff hF rfl (fun hF => ?_)
 have O1 := dinn_s
 have O2 := dcasi_d 0 b J E hE N0 Q0 pp0.note l v
 refine wp_exit (drg hB TA_ok [] [0] [(3, .r fun _ => .agg [.int .i64 2, .sl none none 0 0 2 (fun _ => []), .int .i64 (-1), .int .u64 0, .int .u64 0]), (4, dc J E (.bool .ff) N0 Q0 pp0.note)] hF fun X16 a0 w1 hF => ?_)
 exact (rst hB TA_ok hF (q := pp0) (wq := wq0) X0 (hsp0) hN0 hW0).2
theorem dspl_m (k0 b : Nat) (J : JobA) (hJ : JobOk J) (E : EnvA) (hE : E.n ≤ 1000000) (N : Nat) (p : Pst) (hR : Rel E N p) (hp : PstOk p) (hn : p.n ≤ 1000000) (l : Lab) (hl : LOk l) (v : Int) (x : RA) (hx : RaOk x) (n : Nat) (hf : p.n < n) : DocS 164 k0 b J E N p [labAV l, .int .u64 v, recV x] (fun _ => unitV) (unitV) (splitM (J.budget - E.n) n l v x p) := DocS.re (dspl_m0 b J hJ E hE N p hR hp hn l hl v x hx n hf) (by repeat (first | exact trivial | refine ⟨zr, ?_⟩))
end Go.Proofs.YtphmfjhmdajlmaaGreat.Sym
