/-
  SymDr4, SymDr5, SymDr6, SymDr7, SymNx1, SymNx2, SymNx3, SymHe1: put together by a program of mine (a claim may have 60 files at most). Conditions: none.
-/
import Derived.WalkKit
import Derived.WalkLawsBesides
import Derived.WalkSpells
import Derived.Lib.Hide
import Derived.Deep.QuietTactic
import Derived.BigQuiet
import Derived.Deep.LoopGhost
import Derived.Deep.DeepCutAuto
import Derived.Deep.RegionLaw
import Derived.Lib.Overlaps
import Derived.Laws.CopyOwn
import Derived.IntWalk
import Derived.ProofKit
import Derived.OpenShut
import Derived.ShutString
import Derived.ChangeOld
import Derived.Deep.Slices
import Derived.Test.YtikkeibmjppboaaGreatProg
import Derived.Orders
import Derived.OrdersHeld
import Derived.Defers
import Derived.Recover
import Derived.Lib.BitFns
import Derived.ChangeKeysEq
import Derived.Test.YtikkeibmjppboaaGreatChecked
import Derived.Lib.BufferWrite
import Derived.Maps.OwnSet
import Derived.Maps.RangeWalk
import Derived.Maps.Ext
import Derived.DeepKeys4
import Derived.LoopN
import Derived.Shelf.SlSortCmp.WholeK
import Derived.Shelf.SlSortCmp.NoneTotal
import Derived.Deep.RegionHeld3
import Derived.Ground.SlsfProg
import Derived.Shelf.SlGeneric
import Derived.Test.YtikkeibmjppboaaGreatMgY1
import Derived.Test.YtikkeibmjppboaaGreatMgY2
import Derived.Test.YtikkeibmjppboaaGreatMgY3
import Derived.Test.YtikkeibmjppboaaGreatMgY4
import Derived.Test.YtikkeibmjppboaaGreatMgY5
set_option linter.unusedVariables false
set_option linter.unusedSimpArgs false
set_option maxRecDepth 100000
set_option maxHeartbeats 1600000
namespace Go.Proofs.YtikkeibmjppboaaGreat.Sym
open Go Go.RowKit
theorem dclns_m0 (b : Nat) (J : JobA) (hJ : JobOk J) (E : EnvA) (hE : E.n ≤ 1000000) (N : Nat) (p : Pst) (hR : Rel E N p) (hp : PstOk p) (hn : p.n ≤ 1000000) (l : Lab) (hl : LOk l) (n : Nat) (ih : DClC n) (hf : p.n < n + 1) : DocS 76 0 b J E N p [labAV l] (fun _ => unitV) (unitV) (clnM (J.budget - E.n) (n + 1) l p) := by
 intro m w hm hargs hpre
 have hN0 : N = E.n - p.n := by have := hR.n; omega
 have SC0 := rchild_s l hl.u 0 (.inl rfl)
 have SC1 := rchild_s l hl.u 1 (.inr rfl)
 have hk0 := hl.ch 0
 have hk1 := hl.ch 1
 simp only [labAV] at SC0 SC1
 obtain ⟨x0, hx0⟩ := eqv (chV l 0)
 rw [← hx0] at SC0 hk0
 obtain ⟨x1, hx1⟩ := eqv (chV l 1)
 rw [← hx1] at SC1 hk1
 obtain ⟨y0, hy0⟩ := eqv (chE l 0)
 rw [← hy0] at SC0
 obtain ⟨y1, hy1⟩ := eqv (chE l 1)
 rw [← hy1] at SC1
 have hlp := lab_parts hl.isl
 refine enterX hm hpre hargs Tryz.func76 rfl (by simp [Tryz.ntmps76]) fun a0 hF => ?_
 simp only [Tryz.ntmps76, startT] at hF
 obtain ⟨B, hB⟩ := eqv (std)
 apply wp_seq
 apply rgB hB TA_ok [0, 3] [0, 3] [] hF
 ·intro A X; conv => lhs; cbv
 ·intro X; subst hB; simp [AO, Ob.holds, BE.den, std, sC, sAr] <;> omega
 intro X0 a0 w1 hF
 apply wp_seq
 apply rgB hB TA_ok [4, 0, 3] [0, 3] [] hF
 ·intro A X; conv => lhs; cbv
 ·intro X; subst hB; simp [AO, Ob.holds, BE.den, std, sC, sAr] <;> omega
 intro X1 a0 w1 hF
 refine wp_block ?_
 refine wp_loop_rounds 3 ?_
 refine rounds_first ?_
 refine wp_seq (wp_seq ?_)
 apply rgB hB TA_ok [15, 0, 3, 4] [0, 3] [] hF
 ·intro A X; conv => lhs; cbv
 ·intro X; subst hB; simp only [AO, Ob.holds, BE.den] <;> and_intros <;> intros <;> trivial
 intro X2 a0 w1 hF
 apply test_ok hF rfl <;> intro hb hF
 ·have h6 : l.len < 64 := by subst hB; simpa [std, sC] using hb
  have t64 : ¬ l.len = 64 := by omega
  refine wp_skip ?_
  apply wp_seq
  refine wp_block ?_
  apply wp_seq
  apply rgB hB TA_ok [0, 3, 4, 5] [0, 3, 5] [(2, .r fun _ => .tup [.agg [.int .i64 x0.len, .int .u64 x0.bits], .int .i64 y0])] hF
  ·intro A X; conv => lhs; cbv
  ·intro X; subst hB; simp only [AO, Ob.holds, BE.den] <;> (and_intros <;> repeat first | trivial | rfl | exact enters92 | exact SC0 | refine ⟨?_, ?_⟩ | intro h)
  intro X4 a0 w1 hF
  apply wp_seq
  have S50 := dget_m 0 b J hJ E hE N p hR hp hn x0
  rcases hm50 : getM (J.budget - E.n) x0 p with ⟨g0, p50⟩ | ⟨wq50, p50⟩
  ·have hs50 := (fro_get _ _ _).of hm50
   have hp50 := hp.suf hs50
   have hn50 := Nat.le_trans hs50.le hn
   have hR50 := hR.suf hs50
   obtain ⟨N50, hN50⟩ := eqv (E.n - p50.n)
   rw [← hN50] at hR50
   have hl50 := get_lt hm50
   have hg50 := hp.get hm50
   apply rgB hB TA_ok [0, 3, 4, 5, 7] [0, 3, 5, 7] [(2, .x fun x => ⟨gotV g0, [(0, drunL J E N50 p50.note)], []⟩)] hF
   ·intro A X; conv => lhs; cbv
   ·intro X; subst hB; simp only [AO, Ob.holds, BE.den] <;> (and_intros <;> repeat first | trivial | rfl | exact enters77 | exact S50.ok hm50 hN50 | refine ⟨?_, ?_⟩ | intro h)
   intro X5 a0 w1 hF
   refine wp_seq (wp_seq ?_)
   apply rgB hB TA_ok [30, 0, 3, 4, 5, 7] [0, 3, 5, 7] [] hF
   ·intro A X; conv => lhs; cbv
   ·intro X; subst hB; simp only [AO, Ob.holds, BE.den] <;> and_intros <;> intros <;> trivial
   intro X6 a0 w1 hF
   refine test_ff hF rfl (fun hF => ?_)
   refine wp_skip ?_
   refine wp_seq (wp_seq ?_)
   obtain ⟨q0, hq0⟩ := eqv (gk g0 5)
   apply rgB hB TA_ok [33, 0, 3, 4, 5, 7] [0, 3, 5, 7] [(1, .r fun _ => .bool (.v q0))] hF
   ·intro A X; conv => lhs; cbv
   ·intro X; subst hB; simp only [AO, Ob.holds, BE.den] <;> (and_intros <;> repeat first | trivial | rfl | exact enters78 | exact (by rw [hq0]; exact dis_s g0 5) | exact by rw [hq0]; exact dis_s g0 5 | refine ⟨?_, ?_⟩ | intro h)
   intro X7 a0 w1 hF
   apply test_ok hF rfl <;> intro hb hF
   ·have tq0 : gk g0 5 = false := by subst hB; rw [← hq0]; revert hb; cases q0 <;> simp [std]
    refine wp_exit ?_
    apply rgB hB TA_ok [4, 0, 3] [0, 3] [] hF
    ·intro A X; conv => lhs; cbv
    ·intro X; subst hB; simp only [AO, Ob.holds, BE.den] <;> and_intros <;> intros <;> trivial
    intro X3 a0 w1 hF
    replace hF := hF.headS (v' := .int .i64 1) (by subst hB; exact zr) rfl
    refine rounds_next ?_
    refine wp_seq (wp_seq ?_)
    apply rgB hB TA_ok [15, 0, 3, 4] [0, 3] [] hF
    ·intro A X; conv => lhs; cbv
    ·intro X; subst hB; simp only [AO, Ob.holds, BE.den] <;> and_intros <;> intros <;> trivial
    intro X2 a0 w1 hF
    apply test_ok hF rfl <;> intro hb hF
    ·skip
     refine wp_skip ?_
     apply wp_seq
     refine wp_block ?_
     apply wp_seq
     apply rgB hB TA_ok [0, 3, 4, 5] [0, 3, 5] [(2, .r fun _ => .tup [.agg [.int .i64 x1.len, .int .u64 x1.bits], .int .i64 y1])] hF
     ·intro A X; conv => lhs; cbv
     ·intro X; subst hB; simp only [AO, Ob.holds, BE.den] <;> (and_intros <;> repeat first | trivial | rfl | exact enters92 | exact SC1 | refine ⟨?_, ?_⟩ | intro h)
     intro X4 a0 w1 hF
     apply wp_seq
     have S51 := dget_m 0 b J hJ E hE N50 p50 hR50 hp50 hn50 x1
     rcases hm51 : getM (J.budget - E.n) x1 p50 with ⟨g1, p51⟩ | ⟨wq51, p51⟩
     ·have hs51 := (fro_get _ _ _).of hm51
      have hp51 := hp50.suf hs51
      have hn51 := Nat.le_trans hs51.le hn50
      have hR51 := hR50.suf hs51
      obtain ⟨N51, hN51⟩ := eqv (E.n - p51.n)
      rw [← hN51] at hR51
      have hl51 := get_lt hm51
      have hg51 := hp50.get hm51
      apply rgB hB TA_ok [0, 3, 4, 5, 7] [0, 3, 5, 7] [(2, .x fun x => ⟨gotV g1, [(0, drunL J E N51 p51.note)], []⟩)] hF
      ·intro A X; conv => lhs; cbv
      ·intro X; subst hB; simp only [AO, Ob.holds, BE.den] <;> (and_intros <;> repeat first | trivial | rfl | exact enters77 | exact S51.ok hm51 hN51 | refine ⟨?_, ?_⟩ | intro h)
      intro X5 a0 w1 hF
      refine wp_seq (wp_seq ?_)
      apply rgB hB TA_ok [30, 0, 3, 4, 5, 7] [0, 3, 5, 7] [] hF
      ·intro A X; conv => lhs; cbv
      ·intro X; subst hB; simp only [AO, Ob.holds, BE.den] <;> and_intros <;> intros <;> trivial
      intro X6 a0 w1 hF
      refine test_ff hF rfl (fun hF => ?_)
      refine wp_skip ?_
      refine wp_seq (wp_seq ?_)
      obtain ⟨q1, hq1⟩ := eqv (gk g1 5)
      apply rgB hB TA_ok [33, 0, 3, 4, 5, 7] [0, 3, 5, 7] [(1, .r fun _ => .bool (.v q1))] hF
      ·intro A X; conv => lhs; cbv
      ·intro X; subst hB; simp only [AO, Ob.holds, BE.den] <;> (and_intros <;> repeat first | trivial | rfl | exact enters78 | exact (by rw [hq1]; exact dis_s g1 5) | exact by rw [hq1]; exact dis_s g1 5 | refine ⟨?_, ?_⟩ | intro h)
      intro X7 a0 w1 hF
      apply test_ok hF rfl <;> intro hb hF
      ·have tq1 : gk g1 5 = false := by subst hB; rw [← hq1]; revert hb; cases q1 <;> simp [std]
       refine wp_exit ?_
       apply rgB hB TA_ok [4, 0, 3] [0, 3] [] hF
       ·intro A X; conv => lhs; cbv
       ·intro X; subst hB; simp only [AO, Ob.holds, BE.den] <;> and_intros <;> intros <;> trivial
       intro X3 a0 w1 hF
       replace hF := hF.headS (v' := .int .i64 2) (by subst hB; exact zr) rfl
       refine rounds_next ?_
       refine wp_seq (wp_seq ?_)
       apply rgB hB TA_ok [15, 0, 3, 4] [0, 3] [] hF
       ·intro A X; conv => lhs; cbv
       ·intro X; subst hB; simp only [AO, Ob.holds, BE.den] <;> and_intros <;> intros <;> trivial
       intro X2 a0 w1 hF
       replace hF := hF.headS (v' := .bool .ff) (Sim.bool (by subst hB; rfl)) rfl
       refine test_ff hF rfl (fun hF => ?_)
       refine wp_exit ?_
       refine (ret_go (fn := Tryz.f76) TA_ok hF (rs := []) rfl (rfl) ?_ (v := ()) (q := p51) (M := N51) (by simp [clnM, clnC, ← hx0, ← hx1, Rs.bind, t64, hm50, tq0, hm51, tq1]) hN51 ?_ ?_).2
       ·subst hB; simp [AO, Ob.holds]
       ·subst hB; exact zr
       subst hB; exact ⟨rfl, ⟨_, rfl, zl⟩, trivial⟩
      have tq1 : gk g1 5 = true := by subst hB; rw [← hq1]; revert hb; cases q1 <;> simp [std]
      refine wp_skip ?_
      apply wp_seq
      have S81 := ih 0 b J hJ E hE N51 p51 hR51 hp51 hn51 x1 hk1 (by skip; have := hl50; have := hl51; omega)
      rcases hm81 : clnM (J.budget - E.n) n x1 p51 with ⟨v81, p81⟩ | ⟨wq81, p81⟩
      ·have hs81 := (fro_cln _ _ _ _).of hm81
       have hp81 := hp51.suf hs81
       have hn81 := Nat.le_trans hs81.le hn51
       have hR81 := hR51.suf hs81
       obtain ⟨N81, hN81⟩ := eqv (E.n - p81.n)
       rw [← hN81] at hR81
       apply rgB hB TA_ok [0, 3, 4, 5, 7] [0, 3, 5, 7] [(2, .x fun x => ⟨unitV, [(0, drunL J E N81 p81.note)], []⟩)] hF
       ·intro A X; conv => lhs; cbv
       ·intro X; subst hB; simp only [AO, Ob.holds, BE.den] <;> (and_intros <;> repeat first | trivial | rfl | exact enters76 | exact S81.ok hm81 hN81 | refine ⟨?_, ?_⟩ | intro h)
       intro X8 a0 w1 hF
       apply wp_seq
       have S91 := dget_m 0 b J hJ E hE N81 p81 hR81 hp81 hn81 l
       rcases hm91 : getM (J.budget - E.n) l p81 with ⟨h1, p91⟩ | ⟨wq91, p91⟩
       ·have hs91 := (fro_get _ _ _).of hm91
        have hp91 := hp81.suf hs91
        have hn91 := Nat.le_trans hs91.le hn81
        have hR91 := hR81.suf hs91
        obtain ⟨N91, hN91⟩ := eqv (E.n - p91.n)
        rw [← hN91] at hR91
        have hl91 := get_lt hm91
        have hg91 := hp81.get hm91
        apply rgB hB TA_ok [0, 3, 4, 5, 7, 8] [0, 3, 5, 7, 8] [(2, .x fun x => ⟨gotV h1, [(0, drunL J E N91 p91.note)], []⟩)] hF
        ·intro A X; conv => lhs; cbv
        ·intro X; subst hB; simp only [AO, Ob.holds, BE.den] <;> (and_intros <;> repeat first | trivial | rfl | exact enters77 | exact S91.ok hm91 hN91 | refine ⟨?_, ?_⟩ | intro h)
        intro X9 a0 w1 hF
        refine wp_seq (wp_seq ?_)
        obtain ⟨r1, hr1⟩ := eqv (gk h1 1)
        obtain ⟨s1, hs1⟩ := eqv (gk h1 5)
        apply rgB hB TA_ok [53, 0, 3, 4, 5, 7] [0, 3, 5, 7] [(6, .r fun _ => .bool (.v r1)), (10, .r fun _ => .bool (.v s1))] hF
        ·intro A X; conv => lhs; cbv
        ·intro X; subst hB; simp only [AO, Ob.holds, BE.den] <;> (and_intros <;> repeat first | trivial | rfl | exact enters78 | exact (by rw [hr1]; exact dis_s h1 1) | exact by rw [hr1]; exact dis_s h1 1 | exact (by rw [hs1]; exact dis_s h1 5) | exact by rw [hs1]; exact dis_s h1 5 | refine ⟨?_, ?_⟩ | intro h)
        intro X10 a0 w1 hF
        apply test_ok hF rfl <;> intro hb hF
        ·have tr1 : (gk h1 1 || gk h1 5) = false := by subst hB; rw [← hr1, ← hs1]; revert hb; cases r1 <;> cases s1 <;> simp [std]
         refine wp_ret ?_
         refine (ret_go (fn := Tryz.f76) TA_ok hF (rs := []) rfl (rfl) ?_ (v := ()) (q := p91) (M := N91) (by simp [clnM, clnC, ← hx0, ← hx1, Rs.bind, t64, hm50, tq0, hm51, tq1, hm81, hm91, tr1]) hN91 ?_ ?_).1
         ·subst hB; simp [AO, Ob.holds]
         ·subst hB; exact zr
         subst hB; exact ⟨rfl, ⟨_, rfl, zl⟩, trivial⟩
        have tr1 : (gk h1 1 || gk h1 5) = true := by subst hB; rw [← hr1, ← hs1]; revert hb; cases r1 <;> cases s1 <;> simp [std]
        refine wp_skip ?_
        have S111 := ddel_m 0 b J hJ E hE N91 p91 hR91 hp91 hn91 x1 g1.ver
        rcases hm111 : drpM (J.budget - E.n) x1 g1.ver p91 with ⟨d1, p111⟩ | ⟨wq111, p111⟩
        ·have hs111 := (fro_del _ _ _ _).of hm111
         have hp111 := hp91.suf hs111
         have hn111 := Nat.le_trans hs111.le hn91
         have hR111 := hR91.suf hs111
         obtain ⟨N111, hN111⟩ := eqv (E.n - p111.n)
         rw [← hN111] at hR111
         apply rgB hB TA_ok [0, 3, 4] [0, 3] [(4, .x fun x => ⟨.bool (.v d1), [(0, drunL J E N111 p111.note)], []⟩)] hF
         ·intro A X; conv => lhs; cbv
         ·intro X; subst hB; simp only [AO, Ob.holds, BE.den] <;> (and_intros <;> repeat first | trivial | rfl | exact enters121 | exact S111.ok hm111 hN111 | refine ⟨?_, ?_⟩ | intro h)
         intro X11 a0 w1 hF
         apply rgB hB TA_ok [4, 0, 3] [0, 3] [] hF
         ·intro A X; conv => lhs; cbv
         ·intro X; subst hB; simp only [AO, Ob.holds, BE.den] <;> and_intros <;> intros <;> trivial
         intro X3 a0 w1 hF
         replace hF := hF.headS (v' := .int .i64 2) (by subst hB; exact zr) rfl
         refine rounds_next ?_
         refine wp_seq (wp_seq ?_)
         apply rgB hB TA_ok [15, 0, 3, 4] [0, 3] [] hF
         ·intro A X; conv => lhs; cbv
         ·intro X; subst hB; simp only [AO, Ob.holds, BE.den] <;> and_intros <;> intros <;> trivial
         intro X2 a0 w1 hF
         replace hF := hF.headS (v' := .bool .ff) (Sim.bool (by subst hB; rfl)) rfl
         refine test_ff hF rfl (fun hF => ?_)
         refine wp_exit ?_
         refine (ret_go (fn := Tryz.f76) TA_ok hF (rs := []) rfl (rfl) ?_ (v := ()) (q := p111) (M := N111) (by simp [clnM, clnC, ← hx0, ← hx1, Rs.bind, t64, hm50, tq0, hm51, tq1, hm81, hm91, tr1, hm111]) hN111 ?_ ?_).2
         ·subst hB; simp [AO, Ob.holds]
         ·subst hB; exact zr
         subst hB; exact ⟨rfl, ⟨_, rfl, zl⟩, trivial⟩
        have hs111 := (fro_del _ _ _ _).ofs hm111
        obtain ⟨N111, hN111⟩ := eqv (E.n - p111.n)
        obtain ⟨rr111, hrr111⟩ := eqv (wq111.r.rn)
        obtain ⟨nn111, hnn111⟩ := eqv (wq111.res.items.length)
        obtain ⟨ff111, hff111⟩ := eqv (itF wq111.res.items)
        apply rgB hB TA_ok [0, 3, 4] [0, 3] [(4, .x fun x => ⟨.bool .ff, [(0, drunS J E N111 ⟨wq111.kind, wq111.lab, wq111.ver, ⟨x.A 1, x.c 1, rr111⟩, ⟨wq111.res.code, wq111.res.had, wq111.res.val, x.A 2, nn111, x.c 2, ff111, wq111.res.key, wq111.res.more⟩⟩ p111.note)], []⟩)] hF
        ·intro A X; conv => lhs; cbv
        ·intro X; subst hB; simp only [AO, Ob.holds, BE.den] <;> (and_intros <;> repeat first | trivial | rfl | exact enters121 | exact S111.stop hm111 hN111 hrr111 hnn111 hff111 | refine ⟨?_, ?_⟩ | intro h)
        intro X11 a0 w1 hF
        obtain ⟨Q111, hQ111⟩ := eqv ((wqD (X11 4) wq111 rr111 nn111 ff111))
        have hW111 : Q111 = wqA (X11 4) wq111 := by rw [hQ111, hrr111, hnn111, hff111]; rfl
        replace hF := hF.memS (cells' := drunS J E N111 Q111 p111.note) (by rw [hQ111]; exact zl)
        apply rgB hB TA_ok [4, 0, 3] [0, 3] [] hF
        ·intro A X; conv => lhs; cbv
        ·intro X; subst hB; simp only [AO, Ob.holds, BE.den] <;> and_intros <;> intros <;> trivial
        intro X3 a0 w1 hF
        replace hF := hF.headS (v' := .int .i64 2) (by subst hB; exact zr) rfl
        refine rounds_next ?_
        refine wp_seq (wp_seq ?_)
        apply rgB hB TA_ok [15, 0, 3, 4] [0, 3] [] hF
        ·intro A X; conv => lhs; cbv
        ·intro X; subst hB; simp only [AO, Ob.holds, BE.den] <;> and_intros <;> intros <;> trivial
        intro X2 a0 w1 hF
        replace hF := hF.headS (v' := .bool .ff) (Sim.bool (by subst hB; rfl)) rfl
        refine test_ff hF rfl (fun hF => ?_)
        refine wp_exit ?_
        refine (ret_st (fn := Tryz.f76) TA_ok hF (rs := []) rfl (rfl) ?_ (q := p111) (wq := wq111) (Q := Q111) (M := N111) (X11 4) (by simp [clnM, clnC, ← hx0, ← hx1, Rs.bind, t64, hm50, tq0, hm51, tq1, hm81, hm91, tr1, hm111]) hN111 hW111 ?_ ?_).2
        ·subst hB; simp [AO, Ob.holds]
        ·subst hB; exact zr
        subst hB; exact ⟨rfl, ⟨_, rfl, zl⟩, trivial⟩
       have hs91 := (fro_get _ _ _).ofs hm91
       obtain ⟨N91, hN91⟩ := eqv (E.n - p91.n)
       obtain ⟨rr91, hrr91⟩ := eqv (wq91.r.rn)
       obtain ⟨nn91, hnn91⟩ := eqv (wq91.res.items.length)
       obtain ⟨ff91, hff91⟩ := eqv (itF wq91.res.items)
       apply rgB hB TA_ok [0, 3, 4, 5, 7, 8] [0, 3, 5, 7, 8] [(2, .x fun x => ⟨.agg [.int .i64 0, .int .u64 0, .bool .ff, .int .i64 0, .sl none none 0 0 2 (fun _ => []), .int .i64 0, .int .u64 0, .int .u64 0], [(0, drunS J E N91 ⟨wq91.kind, wq91.lab, wq91.ver, ⟨x.A 1, x.c 1, rr91⟩, ⟨wq91.res.code, wq91.res.had, wq91.res.val, x.A 2, nn91, x.c 2, ff91, wq91.res.key, wq91.res.more⟩⟩ p91.note)], []⟩)] hF
       ·intro A X; conv => lhs; cbv
       ·intro X; subst hB; simp only [AO, Ob.holds, BE.den] <;> (and_intros <;> repeat first | trivial | rfl | exact enters77 | exact S91.stop hm91 hN91 hrr91 hnn91 hff91 | refine ⟨?_, ?_⟩ | intro h)
       intro X9 a0 w1 hF
       obtain ⟨Q91, hQ91⟩ := eqv ((wqD (X9 2) wq91 rr91 nn91 ff91))
       have hW91 : Q91 = wqA (X9 2) wq91 := by rw [hQ91, hrr91, hnn91, hff91]; rfl
       replace hF := hF.memS (cells' := drunS J E N91 Q91 p91.note) (by rw [hQ91]; exact zl)
       refine wp_seq (wp_seq ?_)
       obtain ⟨bs, hbs⟩ : ∃ b : Bool, b = true := ⟨_, rfl⟩
       replace hF := hF.memS (drunV_to hbs J E N91 Q91 p91.note)
       apply rgB hB TA_ok [53, 0, 3, 4, 5, 7] [0, 3, 5, 7] [(6, .r fun _ => .bool .ff), (10, .r fun _ => .bool .ff)] hF
       ·intro A X; conv => lhs; cbv
       ·intro X; subst hB; simp only [AO, Ob.holds, BE.den] <;> (and_intros <;> repeat first | trivial | rfl | exact enters78 | exact disz_s _ | refine ⟨?_, ?_⟩ | intro h)
       intro X10 a0 w1 hF
       replace hF := hF.headS (v' := .bool .tt) (Sim.bool (by subst hB; rw [hbs]; rfl)) rfl
       replace hF := hF.memS (drunV_of hbs J E N91 Q91 p91.note)
       refine test_tt hF rfl (fun hF => ?_)
       refine wp_ret ?_
       refine (ret_st (fn := Tryz.f76) TA_ok hF (rs := []) rfl (rfl) ?_ (q := p91) (wq := wq91) (Q := Q91) (M := N91) (X9 2) (by simp [clnM, clnC, ← hx0, ← hx1, Rs.bind, t64, hm50, tq0, hm51, tq1, hm81, hm91]) hN91 hW91 ?_ ?_).1
       ·subst hB; simp [AO, Ob.holds]
       ·subst hB; exact zr
       subst hB; exact ⟨rfl, ⟨_, rfl, zl⟩, trivial⟩
      have hs81 := (fro_cln _ _ _ _).ofs hm81
      obtain ⟨N81, hN81⟩ := eqv (E.n - p81.n)
      obtain ⟨rr81, hrr81⟩ := eqv (wq81.r.rn)
      obtain ⟨nn81, hnn81⟩ := eqv (wq81.res.items.length)
      obtain ⟨ff81, hff81⟩ := eqv (itF wq81.res.items)
      apply rgB hB TA_ok [0, 3, 4, 5, 7] [0, 3, 5, 7] [(2, .x fun x => ⟨unitV, [(0, drunS J E N81 ⟨wq81.kind, wq81.lab, wq81.ver, ⟨x.A 1, x.c 1, rr81⟩, ⟨wq81.res.code, wq81.res.had, wq81.res.val, x.A 2, nn81, x.c 2, ff81, wq81.res.key, wq81.res.more⟩⟩ p81.note)], []⟩)] hF
      ·intro A X; conv => lhs; cbv
      ·intro X; subst hB; simp only [AO, Ob.holds, BE.den] <;> (and_intros <;> repeat first | trivial | rfl | exact enters76 | exact S81.stop hm81 hN81 hrr81 hnn81 hff81 | refine ⟨?_, ?_⟩ | intro h)
      intro X8 a0 w1 hF
      obtain ⟨Q81, hQ81⟩ := eqv ((wqD (X8 2) wq81 rr81 nn81 ff81))
      have hW81 : Q81 = wqA (X8 2) wq81 := by rw [hQ81, hrr81, hnn81, hff81]; rfl
      replace hF := hF.memS (cells' := drunS J E N81 Q81 p81.note) (by rw [hQ81]; exact zl)
      apply wp_seq
      apply rgB hB TA_ok [0, 3, 4, 5, 7, 8] [0, 3, 5, 7, 8] [(2, .x fun _ => ⟨.agg [.int .i64 0, .int .u64 0, .bool .ff, .int .i64 0, .sl none none 0 0 2 (fun _ => []), .int .i64 0, .int .u64 0, .int .u64 0], [(0, drunS J E N81 Q81 p81.note)], []⟩)] hF
      ·intro A X; conv => lhs; cbv
      ·intro X; subst hB; simp only [AO, Ob.holds, BE.den] <;> (and_intros <;> repeat first | trivial | rfl | exact enters77 | exact dget_d 0 b J E hE N81 Q81 p81.note l | refine ⟨?_, ?_⟩ | intro h)
      intro X9 a0 w1 hF
      refine wp_seq (wp_seq ?_)
      obtain ⟨bs, hbs⟩ : ∃ b : Bool, b = true := ⟨_, rfl⟩
      replace hF := hF.memS (drunV_to hbs J E N81 Q81 p81.note)
      apply rgB hB TA_ok [53, 0, 3, 4, 5, 7] [0, 3, 5, 7] [(6, .r fun _ => .bool .ff), (10, .r fun _ => .bool .ff)] hF
      ·intro A X; conv => lhs; cbv
      ·intro X; subst hB; simp only [AO, Ob.holds, BE.den] <;> (and_intros <;> repeat first | trivial | rfl | exact enters78 | exact disz_s _ | refine ⟨?_, ?_⟩ | intro h)
      intro X10 a0 w1 hF
      replace hF := hF.headS (v' := .bool .tt) (Sim.bool (by subst hB; rw [hbs]; rfl)) rfl
      replace hF := hF.memS (drunV_of hbs J E N81 Q81 p81.note)
      refine test_tt hF rfl (fun hF => ?_)
      refine wp_ret ?_
      refine (ret_st (fn := Tryz.f76) TA_ok hF (rs := []) rfl (rfl) ?_ (q := p81) (wq := wq81) (Q := Q81) (M := N81) (X8 2) (by simp [clnM, clnC, ← hx0, ← hx1, Rs.bind, t64, hm50, tq0, hm51, tq1, hm81]) hN81 hW81 ?_ ?_).1
      ·subst hB; simp [AO, Ob.holds]
      ·subst hB; exact zr
      subst hB; exact ⟨rfl, ⟨_, rfl, zl⟩, trivial⟩
     have hs51 := (fro_get _ _ _).ofs hm51
     obtain ⟨N51, hN51⟩ := eqv (E.n - p51.n)
     obtain ⟨rr51, hrr51⟩ := eqv (wq51.r.rn)
     obtain ⟨nn51, hnn51⟩ := eqv (wq51.res.items.length)
     obtain ⟨ff51, hff51⟩ := eqv (itF wq51.res.items)
     apply rgB hB TA_ok [0, 3, 4, 5, 7] [0, 3, 5, 7] [(2, .x fun x => ⟨.agg [.int .i64 0, .int .u64 0, .bool .ff, .int .i64 0, .sl none none 0 0 2 (fun _ => []), .int .i64 0, .int .u64 0, .int .u64 0], [(0, drunS J E N51 ⟨wq51.kind, wq51.lab, wq51.ver, ⟨x.A 1, x.c 1, rr51⟩, ⟨wq51.res.code, wq51.res.had, wq51.res.val, x.A 2, nn51, x.c 2, ff51, wq51.res.key, wq51.res.more⟩⟩ p51.note)], []⟩)] hF
     ·intro A X; conv => lhs; cbv
     ·intro X; subst hB; simp only [AO, Ob.holds, BE.den] <;> (and_intros <;> repeat first | trivial | rfl | exact enters77 | exact S51.stop hm51 hN51 hrr51 hnn51 hff51 | refine ⟨?_, ?_⟩ | intro h)
     intro X5 a0 w1 hF
     obtain ⟨Q51, hQ51⟩ := eqv ((wqD (X5 2) wq51 rr51 nn51 ff51))
     have hW51 : Q51 = wqA (X5 2) wq51 := by rw [hQ51, hrr51, hnn51, hff51]; rfl
     replace hF := hF.memS (cells' := drunS J E N51 Q51 p51.note) (by rw [hQ51]; exact zl)
     refine wp_seq (wp_seq ?_)
     apply rgB hB TA_ok [30, 0, 3, 4, 5, 7] [0, 3, 5, 7] [] hF
     ·intro A X; conv => lhs; cbv
     ·intro X; subst hB; simp only [AO, Ob.holds, BE.den] <;> and_intros <;> intros <;> trivial
     intro X6 a0 w1 hF
     refine test_tt hF rfl (fun hF => ?_)
     refine wp_ret ?_
     refine (ret_st (fn := Tryz.f76) TA_ok hF (rs := []) rfl (rfl) ?_ (q := p51) (wq := wq51) (Q := Q51) (M := N51) (X5 2) (by simp [clnM, clnC, ← hx0, ← hx1, Rs.bind, t64, hm50, tq0, hm51]) hN51 hW51 ?_ ?_).1
     ·subst hB; simp [AO, Ob.holds]
     ·subst hB; exact zr
     subst hB; exact ⟨rfl, ⟨_, rfl, zl⟩, trivial⟩
    exfalso
    have h7 : ¬ l.len < 64 := by subst hB; simpa [std, sC] using hb
    exact h7 h6
   have tq0 : gk g0 5 = true := by subst hB; rw [← hq0]; revert hb; cases q0 <;> simp [std]
   refine wp_skip ?_
   apply wp_seq
   have S80 := ih 0 b J hJ E hE N50 p50 hR50 hp50 hn50 x0 hk0 (by skip; have := hl50; omega)
   rcases hm80 : clnM (J.budget - E.n) n x0 p50 with ⟨v80, p80⟩ | ⟨wq80, p80⟩
   ·have hs80 := (fro_cln _ _ _ _).of hm80
    have hp80 := hp50.suf hs80
    have hn80 := Nat.le_trans hs80.le hn50
    have hR80 := hR50.suf hs80
    obtain ⟨N80, hN80⟩ := eqv (E.n - p80.n)
    rw [← hN80] at hR80
    apply rgB hB TA_ok [0, 3, 4, 5, 7] [0, 3, 5, 7] [(2, .x fun x => ⟨unitV, [(0, drunL J E N80 p80.note)], []⟩)] hF
    ·intro A X; conv => lhs; cbv
    ·intro X; subst hB; simp only [AO, Ob.holds, BE.den] <;> (and_intros <;> repeat first | trivial | rfl | exact enters76 | exact S80.ok hm80 hN80 | refine ⟨?_, ?_⟩ | intro h)
    intro X8 a0 w1 hF
    apply wp_seq
    have S90 := dget_m 0 b J hJ E hE N80 p80 hR80 hp80 hn80 l
    rcases hm90 : getM (J.budget - E.n) l p80 with ⟨h0, p90⟩ | ⟨wq90, p90⟩
    ·have hs90 := (fro_get _ _ _).of hm90
     have hp90 := hp80.suf hs90
     have hn90 := Nat.le_trans hs90.le hn80
     have hR90 := hR80.suf hs90
     obtain ⟨N90, hN90⟩ := eqv (E.n - p90.n)
     rw [← hN90] at hR90
     have hl90 := get_lt hm90
     have hg90 := hp80.get hm90
     apply rgB hB TA_ok [0, 3, 4, 5, 7, 8] [0, 3, 5, 7, 8] [(2, .x fun x => ⟨gotV h0, [(0, drunL J E N90 p90.note)], []⟩)] hF
     ·intro A X; conv => lhs; cbv
     ·intro X; subst hB; simp only [AO, Ob.holds, BE.den] <;> (and_intros <;> repeat first | trivial | rfl | exact enters77 | exact S90.ok hm90 hN90 | refine ⟨?_, ?_⟩ | intro h)
     intro X9 a0 w1 hF
     refine wp_seq (wp_seq ?_)
     obtain ⟨r0, hr0⟩ := eqv (gk h0 1)
     obtain ⟨s0, hs0⟩ := eqv (gk h0 5)
     apply rgB hB TA_ok [53, 0, 3, 4, 5, 7] [0, 3, 5, 7] [(6, .r fun _ => .bool (.v r0)), (10, .r fun _ => .bool (.v s0))] hF
     ·intro A X; conv => lhs; cbv
     ·intro X; subst hB; simp only [AO, Ob.holds, BE.den] <;> (and_intros <;> repeat first | trivial | rfl | exact enters78 | exact (by rw [hr0]; exact dis_s h0 1) | exact by rw [hr0]; exact dis_s h0 1 | exact (by rw [hs0]; exact dis_s h0 5) | exact by rw [hs0]; exact dis_s h0 5 | refine ⟨?_, ?_⟩ | intro h)
     intro X10 a0 w1 hF
     apply test_ok hF rfl <;> intro hb hF
     ·have tr0 : (gk h0 1 || gk h0 5) = false := by subst hB; rw [← hr0, ← hs0]; revert hb; cases r0 <;> cases s0 <;> simp [std]
      refine wp_ret ?_
      refine (ret_go (fn := Tryz.f76) TA_ok hF (rs := []) rfl (rfl) ?_ (v := ()) (q := p90) (M := N90) (by simp [clnM, clnC, ← hx0, ← hx1, Rs.bind, t64, hm50, tq0, hm80, hm90, tr0]) hN90 ?_ ?_).1
      ·subst hB; simp [AO, Ob.holds]
      ·subst hB; exact zr
      subst hB; exact ⟨rfl, ⟨_, rfl, zl⟩, trivial⟩
     have tr0 : (gk h0 1 || gk h0 5) = true := by subst hB; rw [← hr0, ← hs0]; revert hb; cases r0 <;> cases s0 <;> simp [std]
     refine wp_skip ?_
     have S110 := ddel_m 0 b J hJ E hE N90 p90 hR90 hp90 hn90 x0 g0.ver
     rcases hm110 : drpM (J.budget - E.n) x0 g0.ver p90 with ⟨d0, p110⟩ | ⟨wq110, p110⟩
     ·have hs110 := (fro_del _ _ _ _).of hm110
      have hp110 := hp90.suf hs110
      have hn110 := Nat.le_trans hs110.le hn90
      have hR110 := hR90.suf hs110
      obtain ⟨N110, hN110⟩ := eqv (E.n - p110.n)
      rw [← hN110] at hR110
      apply rgB hB TA_ok [0, 3, 4] [0, 3] [(4, .x fun x => ⟨.bool (.v d0), [(0, drunL J E N110 p110.note)], []⟩)] hF
      ·intro A X; conv => lhs; cbv
      ·intro X; subst hB; simp only [AO, Ob.holds, BE.den] <;> (and_intros <;> repeat first | trivial | rfl | exact enters121 | exact S110.ok hm110 hN110 | refine ⟨?_, ?_⟩ | intro h)
      intro X11 a0 w1 hF
      apply rgB hB TA_ok [4, 0, 3] [0, 3] [] hF
      ·intro A X; conv => lhs; cbv
      ·intro X; subst hB; simp only [AO, Ob.holds, BE.den] <;> and_intros <;> intros <;> trivial
      intro X3 a0 w1 hF
      replace hF := hF.headS (v' := .int .i64 1) (by subst hB; exact zr) rfl
      refine rounds_next ?_
      refine wp_seq (wp_seq ?_)
      apply rgB hB TA_ok [15, 0, 3, 4] [0, 3] [] hF
      ·intro A X; conv => lhs; cbv
      ·intro X; subst hB; simp only [AO, Ob.holds, BE.den] <;> and_intros <;> intros <;> trivial
      intro X2 a0 w1 hF
      apply test_ok hF rfl <;> intro hb hF
      ·skip
       refine wp_skip ?_
       apply wp_seq
       refine wp_block ?_
       apply wp_seq
       apply rgB hB TA_ok [0, 3, 4, 5] [0, 3, 5] [(2, .r fun _ => .tup [.agg [.int .i64 x1.len, .int .u64 x1.bits], .int .i64 y1])] hF
       ·intro A X; conv => lhs; cbv
       ·intro X; subst hB; simp only [AO, Ob.holds, BE.den] <;> (and_intros <;> repeat first | trivial | rfl | exact enters92 | exact SC1 | refine ⟨?_, ?_⟩ | intro h)
       intro X4 a0 w1 hF
       apply wp_seq
       have S51 := dget_m 0 b J hJ E hE N110 p110 hR110 hp110 hn110 x1
       rcases hm51 : getM (J.budget - E.n) x1 p110 with ⟨g1, p51⟩ | ⟨wq51, p51⟩
       ·have hs51 := (fro_get _ _ _).of hm51
        have hp51 := hp110.suf hs51
        have hn51 := Nat.le_trans hs51.le hn110
        have hR51 := hR110.suf hs51
        obtain ⟨N51, hN51⟩ := eqv (E.n - p51.n)
        rw [← hN51] at hR51
        have hl51 := get_lt hm51
        have hg51 := hp110.get hm51
        apply rgB hB TA_ok [0, 3, 4, 5, 7] [0, 3, 5, 7] [(2, .x fun x => ⟨gotV g1, [(0, drunL J E N51 p51.note)], []⟩)] hF
        ·intro A X; conv => lhs; cbv
        ·intro X; subst hB; simp only [AO, Ob.holds, BE.den] <;> (and_intros <;> repeat first | trivial | rfl | exact enters77 | exact S51.ok hm51 hN51 | refine ⟨?_, ?_⟩ | intro h)
        intro X5 a0 w1 hF
        refine wp_seq (wp_seq ?_)
        apply rgB hB TA_ok [30, 0, 3, 4, 5, 7] [0, 3, 5, 7] [] hF
        ·intro A X; conv => lhs; cbv
        ·intro X; subst hB; simp only [AO, Ob.holds, BE.den] <;> and_intros <;> intros <;> trivial
        intro X6 a0 w1 hF
        refine test_ff hF rfl (fun hF => ?_)
        refine wp_skip ?_
        refine wp_seq (wp_seq ?_)
        obtain ⟨q1, hq1⟩ := eqv (gk g1 5)
        apply rgB hB TA_ok [33, 0, 3, 4, 5, 7] [0, 3, 5, 7] [(1, .r fun _ => .bool (.v q1))] hF
        ·intro A X; conv => lhs; cbv
        ·intro X; subst hB; simp only [AO, Ob.holds, BE.den] <;> (and_intros <;> repeat first | trivial | rfl | exact enters78 | exact (by rw [hq1]; exact dis_s g1 5) | exact by rw [hq1]; exact dis_s g1 5 | refine ⟨?_, ?_⟩ | intro h)
        intro X7 a0 w1 hF
        apply test_ok hF rfl <;> intro hb hF
        ·have tq1 : gk g1 5 = false := by subst hB; rw [← hq1]; revert hb; cases q1 <;> simp [std]
         refine wp_exit ?_
         apply rgB hB TA_ok [4, 0, 3] [0, 3] [] hF
         ·intro A X; conv => lhs; cbv
         ·intro X; subst hB; simp only [AO, Ob.holds, BE.den] <;> and_intros <;> intros <;> trivial
         intro X3 a0 w1 hF
         replace hF := hF.headS (v' := .int .i64 2) (by subst hB; exact zr) rfl
         refine rounds_next ?_
         refine wp_seq (wp_seq ?_)
         apply rgB hB TA_ok [15, 0, 3, 4] [0, 3] [] hF
         ·intro A X; conv => lhs; cbv
         ·intro X; subst hB; simp only [AO, Ob.holds, BE.den] <;> and_intros <;> intros <;> trivial
         intro X2 a0 w1 hF
         replace hF := hF.headS (v' := .bool .ff) (Sim.bool (by subst hB; rfl)) rfl
         refine test_ff hF rfl (fun hF => ?_)
         refine wp_exit ?_
         refine (ret_go (fn := Tryz.f76) TA_ok hF (rs := []) rfl (rfl) ?_ (v := ()) (q := p51) (M := N51) (by simp [clnM, clnC, ← hx0, ← hx1, Rs.bind, t64, hm50, tq0, hm80, hm90, tr0, hm110, hm51, tq1]) hN51 ?_ ?_).2
         ·subst hB; simp [AO, Ob.holds]
         ·subst hB; exact zr
         subst hB; exact ⟨rfl, ⟨_, rfl, zl⟩, trivial⟩
        have tq1 : gk g1 5 = true := by subst hB; rw [← hq1]; revert hb; cases q1 <;> simp [std]
        refine wp_skip ?_
        apply wp_seq
        have S81 := ih 0 b J hJ E hE N51 p51 hR51 hp51 hn51 x1 hk1 (by skip; have := hl50; have := hs80.le; have := hs90.le; have := hs110.le; have := hl51; omega)
        rcases hm81 : clnM (J.budget - E.n) n x1 p51 with ⟨v81, p81⟩ | ⟨wq81, p81⟩
        ·have hs81 := (fro_cln _ _ _ _).of hm81
         have hp81 := hp51.suf hs81
         have hn81 := Nat.le_trans hs81.le hn51
         have hR81 := hR51.suf hs81
         obtain ⟨N81, hN81⟩ := eqv (E.n - p81.n)
         rw [← hN81] at hR81
         apply rgB hB TA_ok [0, 3, 4, 5, 7] [0, 3, 5, 7] [(2, .x fun x => ⟨unitV, [(0, drunL J E N81 p81.note)], []⟩)] hF
         ·intro A X; conv => lhs; cbv
         ·intro X; subst hB; simp only [AO, Ob.holds, BE.den] <;> (and_intros <;> repeat first | trivial | rfl | exact enters76 | exact S81.ok hm81 hN81 | refine ⟨?_, ?_⟩ | intro h)
         intro X8 a0 w1 hF
         apply wp_seq
         have S91 := dget_m 0 b J hJ E hE N81 p81 hR81 hp81 hn81 l
         rcases hm91 : getM (J.budget - E.n) l p81 with ⟨h1, p91⟩ | ⟨wq91, p91⟩
         ·have hs91 := (fro_get _ _ _).of hm91
          have hp91 := hp81.suf hs91
          have hn91 := Nat.le_trans hs91.le hn81
          have hR91 := hR81.suf hs91
          obtain ⟨N91, hN91⟩ := eqv (E.n - p91.n)
          rw [← hN91] at hR91
          have hl91 := get_lt hm91
          have hg91 := hp81.get hm91
          apply rgB hB TA_ok [0, 3, 4, 5, 7, 8] [0, 3, 5, 7, 8] [(2, .x fun x => ⟨gotV h1, [(0, drunL J E N91 p91.note)], []⟩)] hF
          ·intro A X; conv => lhs; cbv
          ·intro X; subst hB; simp only [AO, Ob.holds, BE.den] <;> (and_intros <;> repeat first | trivial | rfl | exact enters77 | exact S91.ok hm91 hN91 | refine ⟨?_, ?_⟩ | intro h)
          intro X9 a0 w1 hF
          refine wp_seq (wp_seq ?_)
          obtain ⟨r1, hr1⟩ := eqv (gk h1 1)
          obtain ⟨s1, hs1⟩ := eqv (gk h1 5)
          apply rgB hB TA_ok [53, 0, 3, 4, 5, 7] [0, 3, 5, 7] [(6, .r fun _ => .bool (.v r1)), (10, .r fun _ => .bool (.v s1))] hF
          ·intro A X; conv => lhs; cbv
          ·intro X; subst hB; simp only [AO, Ob.holds, BE.den] <;> (and_intros <;> repeat first | trivial | rfl | exact enters78 | exact (by rw [hr1]; exact dis_s h1 1) | exact by rw [hr1]; exact dis_s h1 1 | exact (by rw [hs1]; exact dis_s h1 5) | exact by rw [hs1]; exact dis_s h1 5 | refine ⟨?_, ?_⟩ | intro h)
          intro X10 a0 w1 hF
          apply test_ok hF rfl <;> intro hb hF
          ·have tr1 : (gk h1 1 || gk h1 5) = false := by subst hB; rw [← hr1, ← hs1]; revert hb; cases r1 <;> cases s1 <;> simp [std]
           refine wp_ret ?_
           refine (ret_go (fn := Tryz.f76) TA_ok hF (rs := []) rfl (rfl) ?_ (v := ()) (q := p91) (M := N91) (by simp [clnM, clnC, ← hx0, ← hx1, Rs.bind, t64, hm50, tq0, hm80, hm90, tr0, hm110, hm51, tq1, hm81, hm91, tr1]) hN91 ?_ ?_).1
           ·subst hB; simp [AO, Ob.holds]
           ·subst hB; exact zr
           subst hB; exact ⟨rfl, ⟨_, rfl, zl⟩, trivial⟩
          have tr1 : (gk h1 1 || gk h1 5) = true := by subst hB; rw [← hr1, ← hs1]; revert hb; cases r1 <;> cases s1 <;> simp [std]
          refine wp_skip ?_
          have S111 := ddel_m 0 b J hJ E hE N91 p91 hR91 hp91 hn91 x1 g1.ver
          rcases hm111 : drpM (J.budget - E.n) x1 g1.ver p91 with ⟨d1, p111⟩ | ⟨wq111, p111⟩
          ·have hs111 := (fro_del _ _ _ _).of hm111
           have hp111 := hp91.suf hs111
           have hn111 := Nat.le_trans hs111.le hn91
           have hR111 := hR91.suf hs111
           obtain ⟨N111, hN111⟩ := eqv (E.n - p111.n)
           rw [← hN111] at hR111
           apply rgB hB TA_ok [0, 3, 4] [0, 3] [(4, .x fun x => ⟨.bool (.v d1), [(0, drunL J E N111 p111.note)], []⟩)] hF
           ·intro A X; conv => lhs; cbv
           ·intro X; subst hB; simp only [AO, Ob.holds, BE.den] <;> (and_intros <;> repeat first | trivial | rfl | exact enters121 | exact S111.ok hm111 hN111 | refine ⟨?_, ?_⟩ | intro h)
           intro X11 a0 w1 hF
           apply rgB hB TA_ok [4, 0, 3] [0, 3] [] hF
           ·intro A X; conv => lhs; cbv
           ·intro X; subst hB; simp only [AO, Ob.holds, BE.den] <;> and_intros <;> intros <;> trivial
           intro X3 a0 w1 hF
           replace hF := hF.headS (v' := .int .i64 2) (by subst hB; exact zr) rfl
           refine rounds_next ?_
           refine wp_seq (wp_seq ?_)
           apply rgB hB TA_ok [15, 0, 3, 4] [0, 3] [] hF
           ·intro A X; conv => lhs; cbv
           ·intro X; subst hB; simp only [AO, Ob.holds, BE.den] <;> and_intros <;> intros <;> trivial
           intro X2 a0 w1 hF
           replace hF := hF.headS (v' := .bool .ff) (Sim.bool (by subst hB; rfl)) rfl
           refine test_ff hF rfl (fun hF => ?_)
           refine wp_exit ?_
           refine (ret_go (fn := Tryz.f76) TA_ok hF (rs := []) rfl (rfl) ?_ (v := ()) (q := p111) (M := N111) (by simp [clnM, clnC, ← hx0, ← hx1, Rs.bind, t64, hm50, tq0, hm80, hm90, tr0, hm110, hm51, tq1, hm81, hm91, tr1, hm111]) hN111 ?_ ?_).2
           ·subst hB; simp [AO, Ob.holds]
           ·subst hB; exact zr
           subst hB; exact ⟨rfl, ⟨_, rfl, zl⟩, trivial⟩
          have hs111 := (fro_del _ _ _ _).ofs hm111
          obtain ⟨N111, hN111⟩ := eqv (E.n - p111.n)
          obtain ⟨rr111, hrr111⟩ := eqv (wq111.r.rn)
          obtain ⟨nn111, hnn111⟩ := eqv (wq111.res.items.length)
          obtain ⟨ff111, hff111⟩ := eqv (itF wq111.res.items)
          apply rgB hB TA_ok [0, 3, 4] [0, 3] [(4, .x fun x => ⟨.bool .ff, [(0, drunS J E N111 ⟨wq111.kind, wq111.lab, wq111.ver, ⟨x.A 1, x.c 1, rr111⟩, ⟨wq111.res.code, wq111.res.had, wq111.res.val, x.A 2, nn111, x.c 2, ff111, wq111.res.key, wq111.res.more⟩⟩ p111.note)], []⟩)] hF
          ·intro A X; conv => lhs; cbv
          ·intro X; subst hB; simp only [AO, Ob.holds, BE.den] <;> (and_intros <;> repeat first | trivial | rfl | exact enters121 | exact S111.stop hm111 hN111 hrr111 hnn111 hff111 | refine ⟨?_, ?_⟩ | intro h)
          intro X11 a0 w1 hF
          obtain ⟨Q111, hQ111⟩ := eqv ((wqD (X11 4) wq111 rr111 nn111 ff111))
          have hW111 : Q111 = wqA (X11 4) wq111 := by rw [hQ111, hrr111, hnn111, hff111]; rfl
          replace hF := hF.memS (cells' := drunS J E N111 Q111 p111.note) (by rw [hQ111]; exact zl)
          apply rgB hB TA_ok [4, 0, 3] [0, 3] [] hF
          ·intro A X; conv => lhs; cbv
          ·intro X; subst hB; simp only [AO, Ob.holds, BE.den] <;> and_intros <;> intros <;> trivial
          intro X3 a0 w1 hF
          replace hF := hF.headS (v' := .int .i64 2) (by subst hB; exact zr) rfl
          refine rounds_next ?_
          refine wp_seq (wp_seq ?_)
          apply rgB hB TA_ok [15, 0, 3, 4] [0, 3] [] hF
          ·intro A X; conv => lhs; cbv
          ·intro X; subst hB; simp only [AO, Ob.holds, BE.den] <;> and_intros <;> intros <;> trivial
          intro X2 a0 w1 hF
          replace hF := hF.headS (v' := .bool .ff) (Sim.bool (by subst hB; rfl)) rfl
          refine test_ff hF rfl (fun hF => ?_)
          refine wp_exit ?_
          refine (ret_st (fn := Tryz.f76) TA_ok hF (rs := []) rfl (rfl) ?_ (q := p111) (wq := wq111) (Q := Q111) (M := N111) (X11 4) (by simp [clnM, clnC, ← hx0, ← hx1, Rs.bind, t64, hm50, tq0, hm80, hm90, tr0, hm110, hm51, tq1, hm81, hm91, tr1, hm111]) hN111 hW111 ?_ ?_).2
          ·subst hB; simp [AO, Ob.holds]
          ·subst hB; exact zr
          subst hB; exact ⟨rfl, ⟨_, rfl, zl⟩, trivial⟩
         have hs91 := (fro_get _ _ _).ofs hm91
         obtain ⟨N91, hN91⟩ := eqv (E.n - p91.n)
         obtain ⟨rr91, hrr91⟩ := eqv (wq91.r.rn)
         obtain ⟨nn91, hnn91⟩ := eqv (wq91.res.items.length)
         obtain ⟨ff91, hff91⟩ := eqv (itF wq91.res.items)
         apply rgB hB TA_ok [0, 3, 4, 5, 7, 8] [0, 3, 5, 7, 8] [(2, .x fun x => ⟨.agg [.int .i64 0, .int .u64 0, .bool .ff, .int .i64 0, .sl none none 0 0 2 (fun _ => []), .int .i64 0, .int .u64 0, .int .u64 0], [(0, drunS J E N91 ⟨wq91.kind, wq91.lab, wq91.ver, ⟨x.A 1, x.c 1, rr91⟩, ⟨wq91.res.code, wq91.res.had, wq91.res.val, x.A 2, nn91, x.c 2, ff91, wq91.res.key, wq91.res.more⟩⟩ p91.note)], []⟩)] hF
         ·intro A X; conv => lhs; cbv
         ·intro X; subst hB; simp only [AO, Ob.holds, BE.den] <;> (and_intros <;> repeat first | trivial | rfl | exact enters77 | exact S91.stop hm91 hN91 hrr91 hnn91 hff91 | refine ⟨?_, ?_⟩ | intro h)
         intro X9 a0 w1 hF
         obtain ⟨Q91, hQ91⟩ := eqv ((wqD (X9 2) wq91 rr91 nn91 ff91))
         have hW91 : Q91 = wqA (X9 2) wq91 := by rw [hQ91, hrr91, hnn91, hff91]; rfl
         replace hF := hF.memS (cells' := drunS J E N91 Q91 p91.note) (by rw [hQ91]; exact zl)
         refine wp_seq (wp_seq ?_)
         obtain ⟨bs, hbs⟩ : ∃ b : Bool, b = true := ⟨_, rfl⟩
         replace hF := hF.memS (drunV_to hbs J E N91 Q91 p91.note)
         apply rgB hB TA_ok [53, 0, 3, 4, 5, 7] [0, 3, 5, 7] [(6, .r fun _ => .bool .ff), (10, .r fun _ => .bool .ff)] hF
         ·intro A X; conv => lhs; cbv
         ·intro X; subst hB; simp only [AO, Ob.holds, BE.den] <;> (and_intros <;> repeat first | trivial | rfl | exact enters78 | exact disz_s _ | refine ⟨?_, ?_⟩ | intro h)
         intro X10 a0 w1 hF
         replace hF := hF.headS (v' := .bool .tt) (Sim.bool (by subst hB; rw [hbs]; rfl)) rfl
         replace hF := hF.memS (drunV_of hbs J E N91 Q91 p91.note)
         refine test_tt hF rfl (fun hF => ?_)
         refine wp_ret ?_
         refine (ret_st (fn := Tryz.f76) TA_ok hF (rs := []) rfl (rfl) ?_ (q := p91) (wq := wq91) (Q := Q91) (M := N91) (X9 2) (by simp [clnM, clnC, ← hx0, ← hx1, Rs.bind, t64, hm50, tq0, hm80, hm90, tr0, hm110, hm51, tq1, hm81, hm91]) hN91 hW91 ?_ ?_).1
         ·subst hB; simp [AO, Ob.holds]
         ·subst hB; exact zr
         subst hB; exact ⟨rfl, ⟨_, rfl, zl⟩, trivial⟩
        have hs81 := (fro_cln _ _ _ _).ofs hm81
        obtain ⟨N81, hN81⟩ := eqv (E.n - p81.n)
        obtain ⟨rr81, hrr81⟩ := eqv (wq81.r.rn)
        obtain ⟨nn81, hnn81⟩ := eqv (wq81.res.items.length)
        obtain ⟨ff81, hff81⟩ := eqv (itF wq81.res.items)
        apply rgB hB TA_ok [0, 3, 4, 5, 7] [0, 3, 5, 7] [(2, .x fun x => ⟨unitV, [(0, drunS J E N81 ⟨wq81.kind, wq81.lab, wq81.ver, ⟨x.A 1, x.c 1, rr81⟩, ⟨wq81.res.code, wq81.res.had, wq81.res.val, x.A 2, nn81, x.c 2, ff81, wq81.res.key, wq81.res.more⟩⟩ p81.note)], []⟩)] hF
        ·intro A X; conv => lhs; cbv
        ·intro X; subst hB; simp only [AO, Ob.holds, BE.den] <;> (and_intros <;> repeat first | trivial | rfl | exact enters76 | exact S81.stop hm81 hN81 hrr81 hnn81 hff81 | refine ⟨?_, ?_⟩ | intro h)
        intro X8 a0 w1 hF
        obtain ⟨Q81, hQ81⟩ := eqv ((wqD (X8 2) wq81 rr81 nn81 ff81))
        have hW81 : Q81 = wqA (X8 2) wq81 := by rw [hQ81, hrr81, hnn81, hff81]; rfl
        replace hF := hF.memS (cells' := drunS J E N81 Q81 p81.note) (by rw [hQ81]; exact zl)
        apply wp_seq
        apply rgB hB TA_ok [0, 3, 4, 5, 7, 8] [0, 3, 5, 7, 8] [(2, .x fun _ => ⟨.agg [.int .i64 0, .int .u64 0, .bool .ff, .int .i64 0, .sl none none 0 0 2 (fun _ => []), .int .i64 0, .int .u64 0, .int .u64 0], [(0, drunS J E N81 Q81 p81.note)], []⟩)] hF
        ·intro A X; conv => lhs; cbv
        ·intro X; subst hB; simp only [AO, Ob.holds, BE.den] <;> (and_intros <;> repeat first | trivial | rfl | exact enters77 | exact dget_d 0 b J E hE N81 Q81 p81.note l | refine ⟨?_, ?_⟩ | intro h)
        intro X9 a0 w1 hF
        refine wp_seq (wp_seq ?_)
        obtain ⟨bs, hbs⟩ : ∃ b : Bool, b = true := ⟨_, rfl⟩
        replace hF := hF.memS (drunV_to hbs J E N81 Q81 p81.note)
        apply rgB hB TA_ok [53, 0, 3, 4, 5, 7] [0, 3, 5, 7] [(6, .r fun _ => .bool .ff), (10, .r fun _ => .bool .ff)] hF
        ·intro A X; conv => lhs; cbv
        ·intro X; subst hB; simp only [AO, Ob.holds, BE.den] <;> (and_intros <;> repeat first | trivial | rfl | exact enters78 | exact disz_s _ | refine ⟨?_, ?_⟩ | intro h)
        intro X10 a0 w1 hF
        replace hF := hF.headS (v' := .bool .tt) (Sim.bool (by subst hB; rw [hbs]; rfl)) rfl
        replace hF := hF.memS (drunV_of hbs J E N81 Q81 p81.note)
        refine test_tt hF rfl (fun hF => ?_)
        refine wp_ret ?_
        refine (ret_st (fn := Tryz.f76) TA_ok hF (rs := []) rfl (rfl) ?_ (q := p81) (wq := wq81) (Q := Q81) (M := N81) (X8 2) (by simp [clnM, clnC, ← hx0, ← hx1, Rs.bind, t64, hm50, tq0, hm80, hm90, tr0, hm110, hm51, tq1, hm81]) hN81 hW81 ?_ ?_).1
        ·subst hB; simp [AO, Ob.holds]
        ·subst hB; exact zr
        subst hB; exact ⟨rfl, ⟨_, rfl, zl⟩, trivial⟩
       have hs51 := (fro_get _ _ _).ofs hm51
       obtain ⟨N51, hN51⟩ := eqv (E.n - p51.n)
       obtain ⟨rr51, hrr51⟩ := eqv (wq51.r.rn)
       obtain ⟨nn51, hnn51⟩ := eqv (wq51.res.items.length)
       obtain ⟨ff51, hff51⟩ := eqv (itF wq51.res.items)
       apply rgB hB TA_ok [0, 3, 4, 5, 7] [0, 3, 5, 7] [(2, .x fun x => ⟨.agg [.int .i64 0, .int .u64 0, .bool .ff, .int .i64 0, .sl none none 0 0 2 (fun _ => []), .int .i64 0, .int .u64 0, .int .u64 0], [(0, drunS J E N51 ⟨wq51.kind, wq51.lab, wq51.ver, ⟨x.A 1, x.c 1, rr51⟩, ⟨wq51.res.code, wq51.res.had, wq51.res.val, x.A 2, nn51, x.c 2, ff51, wq51.res.key, wq51.res.more⟩⟩ p51.note)], []⟩)] hF
       ·intro A X; conv => lhs; cbv
       ·intro X; subst hB; simp only [AO, Ob.holds, BE.den] <;> (and_intros <;> repeat first | trivial | rfl | exact enters77 | exact S51.stop hm51 hN51 hrr51 hnn51 hff51 | refine ⟨?_, ?_⟩ | intro h)
       intro X5 a0 w1 hF
       obtain ⟨Q51, hQ51⟩ := eqv ((wqD (X5 2) wq51 rr51 nn51 ff51))
       have hW51 : Q51 = wqA (X5 2) wq51 := by rw [hQ51, hrr51, hnn51, hff51]; rfl
       replace hF := hF.memS (cells' := drunS J E N51 Q51 p51.note) (by rw [hQ51]; exact zl)
       refine wp_seq (wp_seq ?_)
       apply rgB hB TA_ok [30, 0, 3, 4, 5, 7] [0, 3, 5, 7] [] hF
       ·intro A X; conv => lhs; cbv
       ·intro X; subst hB; simp only [AO, Ob.holds, BE.den] <;> and_intros <;> intros <;> trivial
       intro X6 a0 w1 hF
       refine test_tt hF rfl (fun hF => ?_)
       refine wp_ret ?_
       refine (ret_st (fn := Tryz.f76) TA_ok hF (rs := []) rfl (rfl) ?_ (q := p51) (wq := wq51) (Q := Q51) (M := N51) (X5 2) (by simp [clnM, clnC, ← hx0, ← hx1, Rs.bind, t64, hm50, tq0, hm80, hm90, tr0, hm110, hm51]) hN51 hW51 ?_ ?_).1
       ·subst hB; simp [AO, Ob.holds]
       ·subst hB; exact zr
       subst hB; exact ⟨rfl, ⟨_, rfl, zl⟩, trivial⟩
      exfalso
      have h7 : ¬ l.len < 64 := by subst hB; simpa [std, sC] using hb
      exact h7 h6
     have hs110 := (fro_del _ _ _ _).ofs hm110
     obtain ⟨N110, hN110⟩ := eqv (E.n - p110.n)
     obtain ⟨rr110, hrr110⟩ := eqv (wq110.r.rn)
     obtain ⟨nn110, hnn110⟩ := eqv (wq110.res.items.length)
     obtain ⟨ff110, hff110⟩ := eqv (itF wq110.res.items)
     apply rgB hB TA_ok [0, 3, 4] [0, 3] [(4, .x fun x => ⟨.bool .ff, [(0, drunS J E N110 ⟨wq110.kind, wq110.lab, wq110.ver, ⟨x.A 1, x.c 1, rr110⟩, ⟨wq110.res.code, wq110.res.had, wq110.res.val, x.A 2, nn110, x.c 2, ff110, wq110.res.key, wq110.res.more⟩⟩ p110.note)], []⟩)] hF
     ·intro A X; conv => lhs; cbv
     ·intro X; subst hB; simp only [AO, Ob.holds, BE.den] <;> (and_intros <;> repeat first | trivial | rfl | exact enters121 | exact S110.stop hm110 hN110 hrr110 hnn110 hff110 | refine ⟨?_, ?_⟩ | intro h)
     intro X11 a0 w1 hF
     obtain ⟨Q110, hQ110⟩ := eqv ((wqD (X11 4) wq110 rr110 nn110 ff110))
     have hW110 : Q110 = wqA (X11 4) wq110 := by rw [hQ110, hrr110, hnn110, hff110]; rfl
     replace hF := hF.memS (cells' := drunS J E N110 Q110 p110.note) (by rw [hQ110]; exact zl)
     apply rgB hB TA_ok [4, 0, 3] [0, 3] [] hF
     ·intro A X; conv => lhs; cbv
     ·intro X; subst hB; simp only [AO, Ob.holds, BE.den] <;> and_intros <;> intros <;> trivial
     intro X3 a0 w1 hF
     replace hF := hF.headS (v' := .int .i64 1) (by subst hB; exact zr) rfl
     refine rounds_next ?_
     refine wp_seq (wp_seq ?_)
     apply rgB hB TA_ok [15, 0, 3, 4] [0, 3] [] hF
     ·intro A X; conv => lhs; cbv
     ·intro X; subst hB; simp only [AO, Ob.holds, BE.den] <;> and_intros <;> intros <;> trivial
     intro X2 a0 w1 hF
     apply test_ok hF rfl <;> intro hb hF
     ·skip
      refine wp_skip ?_
      apply wp_seq
      refine wp_block ?_
      apply wp_seq
      apply rgB hB TA_ok [0, 3, 4, 5] [0, 3, 5] [(2, .r fun _ => .tup [.agg [.int .i64 x1.len, .int .u64 x1.bits], .int .i64 y1])] hF
      ·intro A X; conv => lhs; cbv
      ·intro X; subst hB; simp only [AO, Ob.holds, BE.den] <;> (and_intros <;> repeat first | trivial | rfl | exact enters92 | exact SC1 | refine ⟨?_, ?_⟩ | intro h)
      intro X4 a0 w1 hF
      apply wp_seq
      apply rgB hB TA_ok [0, 3, 4, 5, 7] [0, 3, 5, 7] [(2, .x fun _ => ⟨.agg [.int .i64 0, .int .u64 0, .bool .ff, .int .i64 0, .sl none none 0 0 2 (fun _ => []), .int .i64 0, .int .u64 0, .int .u64 0], [(0, drunS J E N110 Q110 p110.note)], []⟩)] hF
      ·intro A X; conv => lhs; cbv
      ·intro X; subst hB; simp only [AO, Ob.holds, BE.den] <;> (and_intros <;> repeat first | trivial | rfl | exact enters77 | exact dget_d 0 b J E hE N110 Q110 p110.note x1 | refine ⟨?_, ?_⟩ | intro h)
      intro X5 a0 w1 hF
      refine wp_seq (wp_seq ?_)
      apply rgB hB TA_ok [30, 0, 3, 4, 5, 7] [0, 3, 5, 7] [] hF
      ·intro A X; conv => lhs; cbv
      ·intro X; subst hB; simp only [AO, Ob.holds, BE.den] <;> and_intros <;> intros <;> trivial
      intro X6 a0 w1 hF
      refine test_tt hF rfl (fun hF => ?_)
      refine wp_ret ?_
      refine (ret_st (fn := Tryz.f76) TA_ok hF (rs := []) rfl (rfl) ?_ (q := p110) (wq := wq110) (Q := Q110) (M := N110) (X11 4) (by simp [clnM, clnC, ← hx0, ← hx1, Rs.bind, t64, hm50, tq0, hm80, hm90, tr0, hm110]) hN110 hW110 ?_ ?_).1
      ·subst hB; simp [AO, Ob.holds]
      ·subst hB; exact zr
      subst hB; exact ⟨rfl, ⟨_, rfl, zl⟩, trivial⟩
     exfalso
     have h7 : ¬ l.len < 64 := by subst hB; simpa [std, sC] using hb
     exact h7 h6
    have hs90 := (fro_get _ _ _).ofs hm90
    obtain ⟨N90, hN90⟩ := eqv (E.n - p90.n)
    obtain ⟨rr90, hrr90⟩ := eqv (wq90.r.rn)
    obtain ⟨nn90, hnn90⟩ := eqv (wq90.res.items.length)
    obtain ⟨ff90, hff90⟩ := eqv (itF wq90.res.items)
    apply rgB hB TA_ok [0, 3, 4, 5, 7, 8] [0, 3, 5, 7, 8] [(2, .x fun x => ⟨.agg [.int .i64 0, .int .u64 0, .bool .ff, .int .i64 0, .sl none none 0 0 2 (fun _ => []), .int .i64 0, .int .u64 0, .int .u64 0], [(0, drunS J E N90 ⟨wq90.kind, wq90.lab, wq90.ver, ⟨x.A 1, x.c 1, rr90⟩, ⟨wq90.res.code, wq90.res.had, wq90.res.val, x.A 2, nn90, x.c 2, ff90, wq90.res.key, wq90.res.more⟩⟩ p90.note)], []⟩)] hF
    ·intro A X; conv => lhs; cbv
    ·intro X; subst hB; simp only [AO, Ob.holds, BE.den] <;> (and_intros <;> repeat first | trivial | rfl | exact enters77 | exact S90.stop hm90 hN90 hrr90 hnn90 hff90 | refine ⟨?_, ?_⟩ | intro h)
    intro X9 a0 w1 hF
    obtain ⟨Q90, hQ90⟩ := eqv ((wqD (X9 2) wq90 rr90 nn90 ff90))
    have hW90 : Q90 = wqA (X9 2) wq90 := by rw [hQ90, hrr90, hnn90, hff90]; rfl
    replace hF := hF.memS (cells' := drunS J E N90 Q90 p90.note) (by rw [hQ90]; exact zl)
    refine wp_seq (wp_seq ?_)
    obtain ⟨bs, hbs⟩ : ∃ b : Bool, b = true := ⟨_, rfl⟩
    replace hF := hF.memS (drunV_to hbs J E N90 Q90 p90.note)
    apply rgB hB TA_ok [53, 0, 3, 4, 5, 7] [0, 3, 5, 7] [(6, .r fun _ => .bool .ff), (10, .r fun _ => .bool .ff)] hF
    ·intro A X; conv => lhs; cbv
    ·intro X; subst hB; simp only [AO, Ob.holds, BE.den] <;> (and_intros <;> repeat first | trivial | rfl | exact enters78 | exact disz_s _ | refine ⟨?_, ?_⟩ | intro h)
    intro X10 a0 w1 hF
    replace hF := hF.headS (v' := .bool .tt) (Sim.bool (by subst hB; rw [hbs]; rfl)) rfl
    replace hF := hF.memS (drunV_of hbs J E N90 Q90 p90.note)
    refine test_tt hF rfl (fun hF => ?_)
    refine wp_ret ?_
    refine (ret_st (fn := Tryz.f76) TA_ok hF (rs := []) rfl (rfl) ?_ (q := p90) (wq := wq90) (Q := Q90) (M := N90) (X9 2) (by simp [clnM, clnC, ← hx0, ← hx1, Rs.bind, t64, hm50, tq0, hm80, hm90]) hN90 hW90 ?_ ?_).1
    ·subst hB; simp [AO, Ob.holds]
    ·subst hB; exact zr
    subst hB; exact ⟨rfl, ⟨_, rfl, zl⟩, trivial⟩
   have hs80 := (fro_cln _ _ _ _).ofs hm80
   obtain ⟨N80, hN80⟩ := eqv (E.n - p80.n)
   obtain ⟨rr80, hrr80⟩ := eqv (wq80.r.rn)
   obtain ⟨nn80, hnn80⟩ := eqv (wq80.res.items.length)
   obtain ⟨ff80, hff80⟩ := eqv (itF wq80.res.items)
   apply rgB hB TA_ok [0, 3, 4, 5, 7] [0, 3, 5, 7] [(2, .x fun x => ⟨unitV, [(0, drunS J E N80 ⟨wq80.kind, wq80.lab, wq80.ver, ⟨x.A 1, x.c 1, rr80⟩, ⟨wq80.res.code, wq80.res.had, wq80.res.val, x.A 2, nn80, x.c 2, ff80, wq80.res.key, wq80.res.more⟩⟩ p80.note)], []⟩)] hF
   ·intro A X; conv => lhs; cbv
   ·intro X; subst hB; simp only [AO, Ob.holds, BE.den] <;> (and_intros <;> repeat first | trivial | rfl | exact enters76 | exact S80.stop hm80 hN80 hrr80 hnn80 hff80 | refine ⟨?_, ?_⟩ | intro h)
   intro X8 a0 w1 hF
   obtain ⟨Q80, hQ80⟩ := eqv ((wqD (X8 2) wq80 rr80 nn80 ff80))
   have hW80 : Q80 = wqA (X8 2) wq80 := by rw [hQ80, hrr80, hnn80, hff80]; rfl
   replace hF := hF.memS (cells' := drunS J E N80 Q80 p80.note) (by rw [hQ80]; exact zl)
   apply wp_seq
   apply rgB hB TA_ok [0, 3, 4, 5, 7, 8] [0, 3, 5, 7, 8] [(2, .x fun _ => ⟨.agg [.int .i64 0, .int .u64 0, .bool .ff, .int .i64 0, .sl none none 0 0 2 (fun _ => []), .int .i64 0, .int .u64 0, .int .u64 0], [(0, drunS J E N80 Q80 p80.note)], []⟩)] hF
   ·intro A X; conv => lhs; cbv
   ·intro X; subst hB; simp only [AO, Ob.holds, BE.den] <;> (and_intros <;> repeat first | trivial | rfl | exact enters77 | exact dget_d 0 b J E hE N80 Q80 p80.note l | refine ⟨?_, ?_⟩ | intro h)
   intro X9 a0 w1 hF
   refine wp_seq (wp_seq ?_)
   obtain ⟨bs, hbs⟩ : ∃ b : Bool, b = true := ⟨_, rfl⟩
   replace hF := hF.memS (drunV_to hbs J E N80 Q80 p80.note)
   apply rgB hB TA_ok [53, 0, 3, 4, 5, 7] [0, 3, 5, 7] [(6, .r fun _ => .bool .ff), (10, .r fun _ => .bool .ff)] hF
   ·intro A X; conv => lhs; cbv
   ·intro X; subst hB; simp only [AO, Ob.holds, BE.den] <;> (and_intros <;> repeat first | trivial | rfl | exact enters78 | exact disz_s _ | refine ⟨?_, ?_⟩ | intro h)
   intro X10 a0 w1 hF
   replace hF := hF.headS (v' := .bool .tt) (Sim.bool (by subst hB; rw [hbs]; rfl)) rfl
   replace hF := hF.memS (drunV_of hbs J E N80 Q80 p80.note)
   refine test_tt hF rfl (fun hF => ?_)
   refine wp_ret ?_
   refine (ret_st (fn := Tryz.f76) TA_ok hF (rs := []) rfl (rfl) ?_ (q := p80) (wq := wq80) (Q := Q80) (M := N80) (X8 2) (by simp [clnM, clnC, ← hx0, ← hx1, Rs.bind, t64, hm50, tq0, hm80]) hN80 hW80 ?_ ?_).1
   ·subst hB; simp [AO, Ob.holds]
   ·subst hB; exact zr
   subst hB; exact ⟨rfl, ⟨_, rfl, zl⟩, trivial⟩
  have hs50 := (fro_get _ _ _).ofs hm50
  obtain ⟨N50, hN50⟩ := eqv (E.n - p50.n)
  obtain ⟨rr50, hrr50⟩ := eqv (wq50.r.rn)
  obtain ⟨nn50, hnn50⟩ := eqv (wq50.res.items.length)
  obtain ⟨ff50, hff50⟩ := eqv (itF wq50.res.items)
  apply rgB hB TA_ok [0, 3, 4, 5, 7] [0, 3, 5, 7] [(2, .x fun x => ⟨.agg [.int .i64 0, .int .u64 0, .bool .ff, .int .i64 0, .sl none none 0 0 2 (fun _ => []), .int .i64 0, .int .u64 0, .int .u64 0], [(0, drunS J E N50 ⟨wq50.kind, wq50.lab, wq50.ver, ⟨x.A 1, x.c 1, rr50⟩, ⟨wq50.res.code, wq50.res.had, wq50.res.val, x.A 2, nn50, x.c 2, ff50, wq50.res.key, wq50.res.more⟩⟩ p50.note)], []⟩)] hF
  ·intro A X; conv => lhs; cbv
  ·intro X; subst hB; simp only [AO, Ob.holds, BE.den] <;> (and_intros <;> repeat first | trivial | rfl | exact enters77 | exact S50.stop hm50 hN50 hrr50 hnn50 hff50 | refine ⟨?_, ?_⟩ | intro h)
  intro X5 a0 w1 hF
  obtain ⟨Q50, hQ50⟩ := eqv ((wqD (X5 2) wq50 rr50 nn50 ff50))
  have hW50 : Q50 = wqA (X5 2) wq50 := by rw [hQ50, hrr50, hnn50, hff50]; rfl
  replace hF := hF.memS (cells' := drunS J E N50 Q50 p50.note) (by rw [hQ50]; exact zl)
  refine wp_seq (wp_seq ?_)
  apply rgB hB TA_ok [30, 0, 3, 4, 5, 7] [0, 3, 5, 7] [] hF
  ·intro A X; conv => lhs; cbv
  ·intro X; subst hB; simp only [AO, Ob.holds, BE.den] <;> and_intros <;> intros <;> trivial
  intro X6 a0 w1 hF
  refine test_tt hF rfl (fun hF => ?_)
  refine wp_ret ?_
  refine (ret_st (fn := Tryz.f76) TA_ok hF (rs := []) rfl (rfl) ?_ (q := p50) (wq := wq50) (Q := Q50) (M := N50) (X5 2) (by simp [clnM, clnC, ← hx0, ← hx1, Rs.bind, t64, hm50]) hN50 hW50 ?_ ?_).1
  ·subst hB; simp [AO, Ob.holds]
  ·subst hB; exact zr
  subst hB; exact ⟨rfl, ⟨_, rfl, zl⟩, trivial⟩
 have h6 : ¬ l.len < 64 := by subst hB; simpa [std, sC] using hb
 have t64 : l.len = 64 := by omega
 refine wp_exit ?_
 refine (ret_go (fn := Tryz.f76) TA_ok hF (rs := []) rfl (rfl) ?_ (v := ()) (q := p) (M := N) (by simp [clnM, clnC, ← hx0, ← hx1, Rs.bind, t64]) hN0 ?_ ?_).2
 ·subst hB; simp [AO, Ob.holds]
 ·subst hB; exact zr
 subst hB; exact ⟨rfl, ⟨_, rfl, zl⟩, trivial⟩
theorem dclns_m (k0 b : Nat) (J : JobA) (hJ : JobOk J) (E : EnvA) (hE : E.n ≤ 1000000) (N : Nat) (p : Pst) (hR : Rel E N p) (hp : PstOk p) (hn : p.n ≤ 1000000) (l : Lab) (hl : LOk l) (n : Nat) (ih : DClC n) (hf : p.n < n + 1) : DocS 76 k0 b J E N p [labAV l] (fun _ => unitV) (unitV) (clnM (J.budget - E.n) (n + 1) l p) := DocS.re (dclns_m0 b J hJ E hE N p hR hp hn l hl n ih hf) (by repeat (first | exact trivial | refine ⟨zr, ?_⟩))
theorem dcln_c : ∀ n, DClC n
 | 0 => fun _ _ _ _ _ _ _ _ _ _ _ _ _ h => absurd h (Nat.not_lt_zero _)
 | n + 1 => fun k0 b J hJ E hE N p hR hp hn l hl hf => dclns_m k0 b J hJ E hE N p hR hp hn l hl n (dcln_c n) hf
theorem dhalv_c (x : RA) (h : RaOk x) (l : Lab) (hl : U64 l.bits) : Spec Tryz.prog 161 [recV x, labAV l] (fun y => .tup [recV ⟨y.A 0, y.c 0, (halvA x l).1.rn⟩, recV ⟨y.A 1, y.c 1, (halvA x l).2.1.rn⟩, .int .i64 (halvA x l).2.2]) := by
 have hf := h.few
 exact rhalves_s x.A x.r.n x.c x.r.f (by omega) x.r.kd x.r.nx x.r.mrk h.nx h.key l hl
theorem duni_c (x y : RA) (h : RaOk x) (h' : RaOk y) : Spec Tryz.prog 165 [recV x, recV y] (fun z => .tup [recV ⟨z.A 0, z.c 0, (uniA x y).1.rn⟩, .int .i64 (uniA x y).2]) := by
 have hf := h.few
 have hf' := h'.few
 exact runion_s x.A x.r.n x.c x.r.f (by omega) x.r.kd x.r.nx x.r.mrk h.nx y.A y.r.n y.c y.r.f (by omega) y.r.kd y.r.nx y.r.mrk h'.nx
theorem enters123 : Enters Tryz.prog 123 := fun _ _ => by kernel_rfl
theorem dspl_m0 (b : Nat) (J : JobA) (hJ : JobOk J) (E : EnvA) (hE : E.n ≤ 1000000) (N : Nat) (p : Pst) (hR : Rel E N p) (hp : PstOk p) (hn : p.n ≤ 1000000) (l : Lab) (hl : LOk l) (v : Int) (x : RA) (hx : RaOk x) (n : Nat) (hf : p.n < n) : DocS 123 0 b J E N p [labAV l, .int .u64 v, recV x] (fun _ => unitV) (unitV) (splitM (J.budget - E.n) n l v x p) := by
 intro m w hm hargs hpre
 have hN0 : N = E.n - p.n := by have := hR.n; omega
 have SC0 := rchild_s l hl.u 0 (.inl rfl)
 have SC1 := rchild_s l hl.u 1 (.inr rfl)
 have hk0 := hl.ch 0
 have hk1 := hl.ch 1
 simp only [labAV] at SC0 SC1
 obtain ⟨x0, hx0⟩ := eqv (chV l 0)
 rw [← hx0] at SC0 hk0
 obtain ⟨x1, hx1⟩ := eqv (chV l 1)
 rw [← hx1] at SC1 hk1
 obtain ⟨y0, hy0⟩ := eqv (chE l 0)
 rw [← hy0] at SC0
 obtain ⟨y1, hy1⟩ := eqv (chE l 1)
 rw [← hy1] at SC1
 have SH := dhalv_c x hx l hl.u
 obtain ⟨e, he⟩ := eqv ((halvA x l).2.2)
 rw [← he] at SH
 obtain ⟨r0, hr0⟩ := eqv ((halvA x l).1.rn)
 rw [← hr0] at SH
 obtain ⟨r1, hr1⟩ := eqv ((halvA x l).2.1.rn)
 rw [← hr1] at SH
 simp only [labAV] at SH
 refine enterX hm hpre hargs Tryz.func123 rfl (by simp [Tryz.ntmps123]) fun a0 hF => ?_
 simp only [Tryz.ntmps123, startT] at hF
 obtain ⟨B, hB⟩ := eqv (std)
 apply wp_seq
 apply rgB hB TA_ok [0, 2, 5, 7] [0, 5, 7] [] hF
 ·intro A X; conv => lhs; cbv
 ·intro X; subst hB; simp [AO, Ob.holds, BE.den, std, sC, sAr] <;> omega
 intro X0 a0 w1 hF
 apply wp_seq
 apply rgB hB TA_ok [0, 2, 5, 8, 9, 10] [0, 5, 8, 9] [(2, .r fun y => .tup [.agg [.int .i64 r0.kd, .sl none (y.A 0) r0.n (y.c 0) 2 (fun i => itC (r0.f i)), .int .i64 r0.nx.len, .int .u64 r0.nx.bits, .int .u64 r0.mrk], .agg [.int .i64 r1.kd, .sl none (y.A 1) r1.n (y.c 1) 2 (fun i => itC (r1.f i)), .int .i64 r1.nx.len, .int .u64 r1.nx.bits, .int .u64 r1.mrk], .int .i64 e])] hF
 ·intro A X; conv => lhs; cbv
 ·intro X; subst hB; simp only [AO, Ob.holds, BE.den] <;> (and_intros <;> repeat first | trivial | rfl | exact enters161 | exact SH | refine ⟨?_, ?_⟩ | intro h)
 intro X1 a0 w1 hF
 refine wp_seq (wp_seq ?_)
 apply rgB hB TA_ok [26, 0, 2, 5, 8, 9] [0, 5, 8, 9] [] hF
 ·intro A X; conv => lhs; cbv
 ·intro X; subst hB; simp [AO, Ob.holds, BE.den, std, sC, sAr] <;> omega
 intro X2 a0 w1 hF
 apply test_ok hF rfl <;> intro hb hF
 ·have t0 : ¬ e = 0 := by subst hB; simpa [std, sC] using hb
  refine wp_ret ?_
  refine (ret_go (fn := Tryz.f123) TA_ok hF (rs := []) rfl (rfl) ?_ (v := ()) (q := p) (M := N) (by simp [splitM, splC, ← hx0, ← hx1, ← he, Rs.bind, t0]) hN0 ?_ ?_).1
  ·subst hB; simp [AO, Ob.holds]
  ·subst hB; exact zr
  subst hB; exact ⟨rfl, ⟨_, rfl, zl⟩, trivial⟩
 have t0 : e = 0 := by subst hB; simpa [std, sC] using hb
 refine wp_skip ?_
 apply wp_seq
 apply rgB hB TA_ok [11, 0, 2, 5] [0, 5, 29] [] hF
 ·intro A X; conv => lhs; cbv
 ·intro X; subst hB; simp only [AO, Ob.holds, BE.den] <;> and_intros <;> intros <;> trivial
 intro X3 a0 w1 hF
 obtain ⟨hv, hhv⟩ : ∃ f : Nat → RA, f = fun i => if i = 0 then ⟨(X1 2).A 0, (X1 2).c 0, r0⟩ else ⟨(X1 2).A 1, (X1 2).c 1, r1⟩ := ⟨_, rfl⟩
 have hv0 : (hv 0).r.abs = (halvA x l).1 := by rw [hhv]; show r0.abs = _; rw [hr0]; exact rn_abs _
 have hv1 : (hv 1).r.abs = (halvA x l).2.1 := by rw [hhv]; show r1.abs = _; rw [hr1]; exact rn_abs _
 replace hF := hF.headS (v' := .sl (some 11) (some ⟨(X3 2).b, 0, none⟩) 2 2 5 (fun i => recC (hv i))) (Sim.recell (fun i hi => by
   subst hhv
   match i, hi with
   | 0, _ => rfl
   | 1, _ => rfl)) rfl
 refine wp_seq (wp_seq ?_)
 apply rgB hB TA_ok [12, 0, 2, 5, 11] [0, 5, 29] [] hF
 ·intro A X; conv => lhs; cbv
 ·intro X; subst hB; simp [AO, Ob.holds, BE.den, std, sC, sAr] <;> omega
 intro X4 a0 w1 hF
 refine wp_block ?_
 refine wp_loop_rounds 3 ?_
 refine rounds_first ?_
 refine wp_seq (wp_seq ?_)
 apply rgB hB TA_ok [31, 0, 2, 5, 11, 12] [0, 5, 29] [] hF
 ·intro A X; conv => lhs; cbv
 ·intro X; subst hB; simp only [AO, Ob.holds, BE.den] <;> and_intros <;> intros <;> trivial
 intro X5 a0 w1 hF
 replace hF := hF.headS (v' := .bool .tt) (Sim.bool (by subst hB; rfl)) rfl
 refine test_tt hF rfl (fun hF => ?_)
 refine wp_skip ?_
 apply wp_seq
 refine wp_block ?_
 apply wp_seq
 apply rgB hB TA_ok [0, 2, 5, 11, 12, 13] [0, 5, 13, 29] [(2, .r fun _ => .tup [.agg [.int .i64 x0.len, .int .u64 x0.bits], .int .i64 y0])] hF
 ·intro A X; conv => lhs; cbv
 ·intro X; subst hB; simp only [AO, Ob.holds, BE.den] <;> (and_intros <;> repeat first | trivial | rfl | exact enters92 | exact SC0 | refine ⟨?_, ?_⟩ | intro h)
 intro X7 a0 w1 hF
 apply wp_seq
 apply rgB hB TA_ok [15, 0, 2, 5, 11, 12, 13] [0, 5, 13, 29] [] hF
 ·intro A X; conv => lhs; cbv
 ·intro X; subst hB; simp only [AO, Ob.holds, BE.den] <;> and_intros <;> intros <;> trivial
 intro X8 a0 w1 hF
 refine wp_block ?_
 refine loop_pre (ι := LSt) (fun q => [(15, .bool (lsB q))]) (fun q => [(0, ⟨b, 136, lsC J E q⟩)]) (fun q => []) (fun q => match q with | .go a r M => splC (J.budget - E.n) l v x0 (hv 0).r.abs n p = splC (J.budget - E.n) l v x0 (hv 0).r.abs a r ∧ PstOk r ∧ r.n ≤ 1000000 ∧ Rel E M r ∧ r.n < a ∧ r.n ≤ p.n | .dn r M => splC (J.budget - E.n) l v x0 (hv 0).r.abs n p = .ok true r ∧ PstOk r ∧ r.n ≤ 1000000 ∧ Rel E M r ∧ r.n ≤ p.n | .sp M Q u => ∃ (X : Atom) (wq : Wq) (pp : Pst), splitM (J.budget - E.n) n l v x p = .stop wq pp ∧ M = E.n - pp.n ∧ Q = wqA X wq ∧ u = pp.note) (fun q => lsM q) (.go n p N) ⟨rfl, hp, hn, hR, (by skip; omega), (by skip; omega)⟩ hF ?_
 rintro q hJ a0 w1 hF
 rcases q with ⟨nn0, p0, N0⟩ | ⟨p0, N0⟩ | ⟨N0, Q0, t0⟩
 ·dsimp only [lsC, lsB] at hJ hF
  obtain ⟨hrun0, hp0, hn0, hR0, hf0, hle0⟩ := hJ
  obtain ⟨m0, rfl⟩ : ∃ n2, nn0 = n2 + 1 := ⟨nn0 - 1, by omega⟩
  have hN0 : N0 = E.n - p0.n := by have := hR0.n; omega
  refine wp_seq (wp_seq ?_)
  apply rgB hB TA_ok [48, 0, 2, 5, 11, 12, 13] [0, 5, 13, 29] [] hF
  ·intro A X; conv => lhs; cbv
  ·intro X; subst hB; simp only [AO, Ob.holds, BE.den] <;> and_intros <;> intros <;> trivial
  intro X9 a0 w1 hF
  refine test_tt hF rfl (fun hF => ?_)
  refine wp_skip ?_
  refine wp_block ?_
  apply wp_seq
  have S100 := dget_m 0 b J hJ E hE N0 p0 hR0 hp0 hn0 x0
  rcases hm100 : getM (J.budget - E.n) x0 p0 with ⟨g0, p100⟩ | ⟨wq100, p100⟩
  ·have hs100 := (fro_get _ _ _).of hm100
   have hp100 := hp0.suf hs100
   have hn100 := Nat.le_trans hs100.le hn0
   have hR100 := hR0.suf hs100
   obtain ⟨N100, hN100⟩ := eqv (E.n - p100.n)
   rw [← hN100] at hR100
   have hl100 := get_lt hm100
   have hg100 := hp0.get hm100
   apply rgB hB TA_ok [0, 2, 5, 11, 12, 13, 16] [0, 5, 13, 16, 29] [(2, .x fun x => ⟨gotV g0, [(0, drunL J E N100 p100.note)], []⟩)] hF
   ·intro A X; conv => lhs; cbv
   ·intro X; subst hB; simp only [AO, Ob.holds, BE.den] <;> (and_intros <;> repeat first | trivial | rfl | exact enters77 | exact S100.ok hm100 hN100 | refine ⟨?_, ?_⟩ | intro h)
   intro X10 a0 w1 hF
   refine wp_seq (wp_seq ?_)
   apply rgB hB TA_ok [59, 0, 2, 5, 11, 12, 13, 16] [0, 5, 13, 16, 29] [] hF
   ·intro A X; conv => lhs; cbv
   ·intro X; subst hB; simp only [AO, Ob.holds, BE.den] <;> and_intros <;> intros <;> trivial
   intro X11 a0 w1 hF
   apply test_ok hF rfl <;> intro hb hF
   ·have tq0 : (g0.has && !decide (g0.x.r.kd = 5)) = true := by
     have h9 : (if g0.has = true then !decide (g0.x.r.kd = 5) else false) = true := by
      have h8 : (if g0.has = true then (g0.x.r.kd != 5) else false) = true := by subst hB; exact hb
      exact h8
     rw [← h9]; cases g0.has <;> rfl
    apply wp_seq
    apply rgB hB TA_ok [0, 2, 5, 11, 12, 13, 15] [0, 5, 13, 29] [] hF
    ·intro A X; conv => lhs; cbv
    ·intro X; subst hB; simp only [AO, Ob.holds, BE.den] <;> and_intros <;> intros <;> trivial
    intro X12 a0 w1 hF
    refine wp_exit ?_
    replace hF := hF.keep [15, 0, 2, 5, 11, 12, 13] [0, 5, 13, 29]
    exact ⟨.dn p100 N100, ⟨by rw [hrun0]; simp [splC, Rs.bind, t0, ← hv0, ← hv1, hrun0, splC, hm100, tq0], hp100, hn100, hR100, by have := hl100; have := hle0; omega⟩, by simp [lsM], hF⟩
   have tq0 : (g0.has && !decide (g0.x.r.kd = 5)) = false := by
    have h9 : (if g0.has = true then !decide (g0.x.r.kd = 5) else false) = false := by
     have h8 : (if g0.has = true then (g0.x.r.kd != 5) else false) = false := by subst hB; exact hb
     exact h8
    rw [← h9]; cases g0.has <;> rfl
   refine wp_skip ?_
   apply wp_seq
   have S130 := dget_m 0 b J hJ E hE N100 p100 hR100 hp100 hn100 l
   rcases hm130 : getM (J.budget - E.n) l p100 with ⟨h0, p130⟩ | ⟨wq130, p130⟩
   ·have hs130 := (fro_get _ _ _).of hm130
    have hp130 := hp100.suf hs130
    have hn130 := Nat.le_trans hs130.le hn100
    have hR130 := hR100.suf hs130
    obtain ⟨N130, hN130⟩ := eqv (E.n - p130.n)
    rw [← hN130] at hR130
    have hl130 := get_lt hm130
    have hg130 := hp100.get hm130
    apply rgB hB TA_ok [0, 2, 5, 11, 12, 13, 16, 17] [0, 5, 13, 16, 17, 29] [(2, .x fun x => ⟨gotV h0, [(0, drunL J E N130 p130.note)], []⟩)] hF
    ·intro A X; conv => lhs; cbv
    ·intro X; subst hB; simp only [AO, Ob.holds, BE.den] <;> (and_intros <;> repeat first | trivial | rfl | exact enters77 | exact S130.ok hm130 hN130 | refine ⟨?_, ?_⟩ | intro h)
    intro X13 a0 w1 hF
    refine wp_seq (wp_seq ?_)
    apply rgB hB TA_ok [72, 0, 2, 5, 11, 12, 13, 16] [0, 5, 13, 16, 29] [] hF
    ·intro A X; conv => lhs; cbv
    ·intro X; subst hB; simp only [AO, Ob.holds, BE.den] <;> and_intros <;> intros <;> trivial
    intro X14 a0 w1 hF
    apply test_ok hF rfl <;> intro hb hF
    ·have tv0 : ¬ h0.ver = v := by
      have h9 : (h0.ver != v) = true := by subst hB; exact hb
      simpa using h9
     refine wp_ret ?_
     refine (ret_go (fn := Tryz.f123) TA_ok hF (rs := []) rfl (rfl) ?_ (v := ()) (q := p130) (M := N130) (by simp [splitM, splC, ← hx0, ← hx1, ← he, Rs.bind, t0, ← hv0, ← hv1, hrun0, splC, hm100, tq0, hm130, tv0]) hN130 ?_ ?_).1
     ·subst hB; simp [AO, Ob.holds]
     ·subst hB; exact zr
     subst hB; exact ⟨rfl, ⟨_, rfl, zl⟩, trivial⟩
    have tv0 : h0.ver = v := by
     have h9 : (h0.ver != v) = false := by subst hB; exact hb
     simpa using h9
    refine wp_skip ?_
    have S150 := dcas_m 0 b J hJ E hE N130 p130 hR130 hp130 hn130 x0 g0.ver (hv 0)
    rcases hm150 : casM (J.budget - E.n) x0 g0.ver (hv 0).r.abs p130 with ⟨d0, p150⟩ | ⟨wq150, p150⟩
    ·have hs150 := (fro_cas _ _ _ _ _).of hm150
     have hp150 := hp130.suf hs150
     have hn150 := Nat.le_trans hs150.le hn130
     have hR150 := hR130.suf hs150
     obtain ⟨N150, hN150⟩ := eqv (E.n - p150.n)
     rw [← hN150] at hR150
     apply drB hB (by kernel_rfl) TA_ok [0, 2, 5, 11, 12, 13, 15] [0, 5, 13, 29] [(8, .x fun x => ⟨.bool (.v d0), [(0, drunL J E N150 p150.note)], []⟩)] hF rfl
     case hex => intro A X; conv => lhs; cbv
     case hD => kernel_rfl
     case hlen => rfl
     case hob =>
      intro X
      subst hB
      simp only [AO, Ob.holds, BE.den] <;> (and_intros <;> repeat first | trivial | rfl | exact enters125 | exact S150.ok hm150 hN150 | exact ⟨(show (0 : Int) ≤ 0 by decide), (show (0 : Int) < 2 by decide)⟩ | exact ⟨(show (0 : Int) ≤ 1 by decide), (show (1 : Int) < 2 by decide)⟩ | exact (show (0 : Int) ≤ 0 by decide) | exact (show (0 : Int) ≤ 1 by decide) | exact (show (0 : Int) < 2 by decide) | exact (show (1 : Int) < 2 by decide) | refine ⟨?_, ?_⟩ | intro h)
     case hQ =>
     intro X15 a0 w1 hF
     replace hF := hF.keep [15, 0, 2, 5, 11, 12, 13] [0, 5, 13, 29]
     rcases Bool.eq_false_or_eq_true d0 with hd | hd
     ·exact ⟨.dn p150 N150, ⟨by rw [hrun0]; simp [splC, Rs.bind, hd, t0, ← hv0, ← hv1, hrun0, splC, hm100, tq0, hm130, tv0, hm150], hp150, hn150, hR150, by have := hl100; have := hs130.le; have := hs150.le; have := hle0; omega⟩, by simp [lsM], hF.headS (v' := .bool .tt) (Sim.bool hd) rfl⟩
     exact ⟨.go m0 p150 N150, ⟨by rw [hrun0]; simp [splC, Rs.bind, hd, t0, ← hv0, ← hv1, hrun0, splC, hm100, tq0, hm130, tv0, hm150], hp150, hn150, hR150, by have := hl100; have := hs130.le; have := hs150.le; have := hf0; omega, by have := hl100; have := hs130.le; have := hs150.le; have := hle0; omega⟩, by simp [lsM], hF.headS (v' := .bool .ff) (Sim.bool hd) rfl⟩
    have hs150 := (fro_cas _ _ _ _ _).ofs hm150
    obtain ⟨N150, hN150⟩ := eqv (E.n - p150.n)
    obtain ⟨rr150, hrr150⟩ := eqv (wq150.r.rn)
    obtain ⟨nn150, hnn150⟩ := eqv (wq150.res.items.length)
    obtain ⟨ff150, hff150⟩ := eqv (itF wq150.res.items)
    apply drB hB (by kernel_rfl) TA_ok [0, 2, 5, 11, 12, 13, 15] [0, 5, 13, 29] [(8, .x fun x => ⟨.bool .ff, [(0, drunS J E N150 ⟨wq150.kind, wq150.lab, wq150.ver, ⟨x.A 1, x.c 1, rr150⟩, ⟨wq150.res.code, wq150.res.had, wq150.res.val, x.A 2, nn150, x.c 2, ff150, wq150.res.key, wq150.res.more⟩⟩ p150.note)], []⟩)] hF rfl
    case hex => intro A X; conv => lhs; cbv
    case hD => kernel_rfl
    case hlen => rfl
    case hob =>
     intro X
     subst hB
     simp only [AO, Ob.holds, BE.den] <;> (and_intros <;> repeat first | trivial | rfl | exact enters125 | exact S150.stop hm150 hN150 hrr150 hnn150 hff150 | exact ⟨(show (0 : Int) ≤ 0 by decide), (show (0 : Int) < 2 by decide)⟩ | exact ⟨(show (0 : Int) ≤ 1 by decide), (show (1 : Int) < 2 by decide)⟩ | exact (show (0 : Int) ≤ 0 by decide) | exact (show (0 : Int) ≤ 1 by decide) | exact (show (0 : Int) < 2 by decide) | exact (show (1 : Int) < 2 by decide) | refine ⟨?_, ?_⟩ | intro h)
    case hQ =>
    intro X15 a0 w1 hF
    obtain ⟨Q150, hQ150⟩ := eqv ((wqD (X15 8) wq150 rr150 nn150 ff150))
    have hW150 : Q150 = wqA (X15 8) wq150 := by rw [hQ150, hrr150, hnn150, hff150]; rfl
    replace hF := hF.memS (cells' := drunS J E N150 Q150 p150.note) (by rw [hQ150]; exact zl)
    replace hF := hF.keep [15, 0, 2, 5, 11, 12, 13] [0, 5, 13, 29]
    exact ⟨.sp N150 Q150 p150.note, ⟨(X15 8), wq150, p150, by simp [splitM, splC, ← hx0, ← hx1, ← he, Rs.bind, t0, ← hv0, ← hv1, hrun0, splC, hm100, tq0, hm130, tv0, hm150], hN150, hW150, rfl⟩, by simp [lsM], hF⟩
   have hs130 := (fro_get _ _ _).ofs hm130
   obtain ⟨N130, hN130⟩ := eqv (E.n - p130.n)
   obtain ⟨rr130, hrr130⟩ := eqv (wq130.r.rn)
   obtain ⟨nn130, hnn130⟩ := eqv (wq130.res.items.length)
   obtain ⟨ff130, hff130⟩ := eqv (itF wq130.res.items)
   apply rgB hB TA_ok [0, 2, 5, 11, 12, 13, 16, 17] [0, 5, 13, 16, 17, 29] [(2, .x fun x => ⟨.agg [.int .i64 0, .int .u64 0, .bool .ff, .int .i64 0, .sl none none 0 0 2 (fun _ => []), .int .i64 0, .int .u64 0, .int .u64 0], [(0, drunS J E N130 ⟨wq130.kind, wq130.lab, wq130.ver, ⟨x.A 1, x.c 1, rr130⟩, ⟨wq130.res.code, wq130.res.had, wq130.res.val, x.A 2, nn130, x.c 2, ff130, wq130.res.key, wq130.res.more⟩⟩ p130.note)], []⟩)] hF
   ·intro A X; conv => lhs; cbv
   ·intro X; subst hB; simp only [AO, Ob.holds, BE.den] <;> (and_intros <;> repeat first | trivial | rfl | exact enters77 | exact S130.stop hm130 hN130 hrr130 hnn130 hff130 | refine ⟨?_, ?_⟩ | intro h)
   intro X13 a0 w1 hF
   obtain ⟨Q130, hQ130⟩ := eqv ((wqD (X13 2) wq130 rr130 nn130 ff130))
   have hW130 : Q130 = wqA (X13 2) wq130 := by rw [hQ130, hrr130, hnn130, hff130]; rfl
   replace hF := hF.memS (cells' := drunS J E N130 Q130 p130.note) (by rw [hQ130]; exact zl)
   refine wp_seq (wp_seq ?_)
   apply rgB hB TA_ok [72, 0, 2, 5, 11, 12, 13, 16] [0, 5, 13, 16, 29] [] hF
   ·intro A X; conv => lhs; cbv
   ·intro X; subst hB; simp only [AO, Ob.holds, BE.den] <;> and_intros <;> intros <;> trivial
   intro X14 a0 w1 hF
   refine test_tt hF rfl (fun hF => ?_)
   refine wp_ret ?_
   refine (ret_st (fn := Tryz.f123) TA_ok hF (rs := []) rfl (rfl) ?_ (q := p130) (wq := wq130) (Q := Q130) (M := N130) (X13 2) (by simp [splitM, splC, ← hx0, ← hx1, ← he, Rs.bind, t0, ← hv0, ← hv1, hrun0, splC, hm100, tq0, hm130]) hN130 hW130 ?_ ?_).1
   ·subst hB; simp [AO, Ob.holds]
   ·subst hB; exact zr
   subst hB; exact ⟨rfl, ⟨_, rfl, zl⟩, trivial⟩
  have hs100 := (fro_get _ _ _).ofs hm100
  obtain ⟨N100, hN100⟩ := eqv (E.n - p100.n)
  obtain ⟨rr100, hrr100⟩ := eqv (wq100.r.rn)
  obtain ⟨nn100, hnn100⟩ := eqv (wq100.res.items.length)
  obtain ⟨ff100, hff100⟩ := eqv (itF wq100.res.items)
  apply rgB hB TA_ok [0, 2, 5, 11, 12, 13, 16] [0, 5, 13, 16, 29] [(2, .x fun x => ⟨.agg [.int .i64 0, .int .u64 0, .bool .ff, .int .i64 0, .sl none none 0 0 2 (fun _ => []), .int .i64 0, .int .u64 0, .int .u64 0], [(0, drunS J E N100 ⟨wq100.kind, wq100.lab, wq100.ver, ⟨x.A 1, x.c 1, rr100⟩, ⟨wq100.res.code, wq100.res.had, wq100.res.val, x.A 2, nn100, x.c 2, ff100, wq100.res.key, wq100.res.more⟩⟩ p100.note)], []⟩)] hF
  ·intro A X; conv => lhs; cbv
  ·intro X; subst hB; simp only [AO, Ob.holds, BE.den] <;> (and_intros <;> repeat first | trivial | rfl | exact enters77 | exact S100.stop hm100 hN100 hrr100 hnn100 hff100 | refine ⟨?_, ?_⟩ | intro h)
  intro X10 a0 w1 hF
  obtain ⟨Q100, hQ100⟩ := eqv ((wqD (X10 2) wq100 rr100 nn100 ff100))
  have hW100 : Q100 = wqA (X10 2) wq100 := by rw [hQ100, hrr100, hnn100, hff100]; rfl
  replace hF := hF.memS (cells' := drunS J E N100 Q100 p100.note) (by rw [hQ100]; exact zl)
  refine wp_seq (wp_seq ?_)
  apply rgB hB TA_ok [59, 0, 2, 5, 11, 12, 13, 16] [0, 5, 13, 16, 29] [] hF
  ·intro A X; conv => lhs; cbv
  ·intro X; subst hB; simp only [AO, Ob.holds, BE.den] <;> and_intros <;> intros <;> trivial
  intro X11 a0 w1 hF
  refine test_ff hF rfl (fun hF => ?_)
  refine wp_skip ?_
  apply wp_seq
  apply rgB hB TA_ok [0, 2, 5, 11, 12, 13, 16, 17] [0, 5, 13, 16, 17, 29] [(2, .x fun _ => ⟨.agg [.int .i64 0, .int .u64 0, .bool .ff, .int .i64 0, .sl none none 0 0 2 (fun _ => []), .int .i64 0, .int .u64 0, .int .u64 0], [(0, drunS J E N100 Q100 p100.note)], []⟩)] hF
  ·intro A X; conv => lhs; cbv
  ·intro X; subst hB; simp only [AO, Ob.holds, BE.den] <;> (and_intros <;> repeat first | trivial | rfl | exact enters77 | exact dget_d 0 b J E hE N100 Q100 p100.note l | refine ⟨?_, ?_⟩ | intro h)
  intro X13 a0 w1 hF
  refine wp_seq (wp_seq ?_)
  apply rgB hB TA_ok [72, 0, 2, 5, 11, 12, 13, 16] [0, 5, 13, 16, 29] [] hF
  ·intro A X; conv => lhs; cbv
  ·intro X; subst hB; simp only [AO, Ob.holds, BE.den] <;> and_intros <;> intros <;> trivial
  intro X14 a0 w1 hF
  refine test_tt hF rfl (fun hF => ?_)
  refine wp_ret ?_
  refine (ret_st (fn := Tryz.f123) TA_ok hF (rs := []) rfl (rfl) ?_ (q := p100) (wq := wq100) (Q := Q100) (M := N100) (X10 2) (by simp [splitM, splC, ← hx0, ← hx1, ← he, Rs.bind, t0, ← hv0, ← hv1, hrun0, splC, hm100]) hN100 hW100 ?_ ?_).1
  ·subst hB; simp [AO, Ob.holds]
  ·subst hB; exact zr
  subst hB; exact ⟨rfl, ⟨_, rfl, zl⟩, trivial⟩
 ·dsimp only [lsC, lsB] at hJ hF
  obtain ⟨hdn0, hp0, hn0, hR0, hle0⟩ := hJ
  have hN0 : N0 = E.n - p0.n := by have := hR0.n; omega
  refine wp_seq (wp_seq ?_)
  apply rgB hB TA_ok [48, 0, 2, 5, 11, 12, 13] [0, 5, 13, 29] [] hF
  ·intro A X; conv => lhs; cbv
  ·intro X; subst hB; simp only [AO, Ob.holds, BE.den] <;> and_intros <;> intros <;> trivial
  intro X9 a0 w1 hF
  refine test_ff hF rfl (fun hF => ?_)
  refine wp_exit ?_
  apply rgB hB TA_ok [12, 0, 2, 5, 11] [0, 5, 29] [] hF
  ·intro A X; conv => lhs; cbv
  ·intro X; subst hB; simp only [AO, Ob.holds, BE.den] <;> and_intros <;> intros <;> trivial
  intro X6 a0 w1 hF
  replace hF := hF.headS (v' := .int .i64 1) (by subst hB; exact zr) rfl
  refine rounds_next ?_
  refine wp_seq (wp_seq ?_)
  apply rgB hB TA_ok [31, 0, 2, 5, 11, 12] [0, 5, 29] [] hF
  ·intro A X; conv => lhs; cbv
  ·intro X; subst hB; simp only [AO, Ob.holds, BE.den] <;> and_intros <;> intros <;> trivial
  intro X5 a0 w1 hF
  replace hF := hF.headS (v' := .bool .tt) (Sim.bool (by subst hB; rfl)) rfl
  refine test_tt hF rfl (fun hF => ?_)
  refine wp_skip ?_
  apply wp_seq
  refine wp_block ?_
  apply wp_seq
  apply rgB hB TA_ok [0, 2, 5, 11, 12, 13] [0, 5, 13, 29] [(2, .r fun _ => .tup [.agg [.int .i64 x1.len, .int .u64 x1.bits], .int .i64 y1])] hF
  ·intro A X; conv => lhs; cbv
  ·intro X; subst hB; simp only [AO, Ob.holds, BE.den] <;> (and_intros <;> repeat first | trivial | rfl | exact enters92 | exact SC1 | refine ⟨?_, ?_⟩ | intro h)
  intro X7 a0 w1 hF
  apply wp_seq
  apply rgB hB TA_ok [15, 0, 2, 5, 11, 12, 13] [0, 5, 13, 29] [] hF
  ·intro A X; conv => lhs; cbv
  ·intro X; subst hB; simp only [AO, Ob.holds, BE.den] <;> and_intros <;> intros <;> trivial
  intro X8 a0 w1 hF
  refine wp_block ?_
  refine loop_pre (ι := LSt) (fun q => [(15, .bool (lsB q))]) (fun q => [(0, ⟨b, 136, lsC J E q⟩)]) (fun q => []) (fun q => match q with | .go a r M => splC (J.budget - E.n) l v x1 (hv 1).r.abs n p0 = splC (J.budget - E.n) l v x1 (hv 1).r.abs a r ∧ PstOk r ∧ r.n ≤ 1000000 ∧ Rel E M r ∧ r.n < a ∧ r.n ≤ p.n | .dn r M => splC (J.budget - E.n) l v x1 (hv 1).r.abs n p0 = .ok true r ∧ PstOk r ∧ r.n ≤ 1000000 ∧ Rel E M r ∧ r.n ≤ p.n | .sp M Q u => ∃ (X : Atom) (wq : Wq) (pp : Pst), splitM (J.budget - E.n) n l v x p = .stop wq pp ∧ M = E.n - pp.n ∧ Q = wqA X wq ∧ u = pp.note) (fun q => lsM q) (.go n p0 N0) ⟨rfl, hp0, hn0, hR0, (by have := hle0; omega), (by have := hle0; omega)⟩ hF ?_
  rintro q hJ a0 w1 hF
  rcases q with ⟨nn1, p1, N1⟩ | ⟨p1, N1⟩ | ⟨N1, Q1, t1⟩
  ·dsimp only [lsC, lsB] at hJ hF
   obtain ⟨hrun1, hp1, hn1, hR1, hf1, hle1⟩ := hJ
   obtain ⟨m1, rfl⟩ : ∃ n2, nn1 = n2 + 1 := ⟨nn1 - 1, by omega⟩
   have hN1 : N1 = E.n - p1.n := by have := hR1.n; omega
   refine wp_seq (wp_seq ?_)
   apply rgB hB TA_ok [48, 0, 2, 5, 11, 12, 13] [0, 5, 13, 29] [] hF
   ·intro A X; conv => lhs; cbv
   ·intro X; subst hB; simp only [AO, Ob.holds, BE.den] <;> and_intros <;> intros <;> trivial
   intro X9 a0 w1 hF
   refine test_tt hF rfl (fun hF => ?_)
   refine wp_skip ?_
   refine wp_block ?_
   apply wp_seq
   have S101 := dget_m 0 b J hJ E hE N1 p1 hR1 hp1 hn1 x1
   rcases hm101 : getM (J.budget - E.n) x1 p1 with ⟨g1, p101⟩ | ⟨wq101, p101⟩
   ·have hs101 := (fro_get _ _ _).of hm101
    have hp101 := hp1.suf hs101
    have hn101 := Nat.le_trans hs101.le hn1
    have hR101 := hR1.suf hs101
    obtain ⟨N101, hN101⟩ := eqv (E.n - p101.n)
    rw [← hN101] at hR101
    have hl101 := get_lt hm101
    have hg101 := hp1.get hm101
    apply rgB hB TA_ok [0, 2, 5, 11, 12, 13, 16] [0, 5, 13, 16, 29] [(2, .x fun x => ⟨gotV g1, [(0, drunL J E N101 p101.note)], []⟩)] hF
    ·intro A X; conv => lhs; cbv
    ·intro X; subst hB; simp only [AO, Ob.holds, BE.den] <;> (and_intros <;> repeat first | trivial | rfl | exact enters77 | exact S101.ok hm101 hN101 | refine ⟨?_, ?_⟩ | intro h)
    intro X10 a0 w1 hF
    refine wp_seq (wp_seq ?_)
    apply rgB hB TA_ok [59, 0, 2, 5, 11, 12, 13, 16] [0, 5, 13, 16, 29] [] hF
    ·intro A X; conv => lhs; cbv
    ·intro X; subst hB; simp only [AO, Ob.holds, BE.den] <;> and_intros <;> intros <;> trivial
    intro X11 a0 w1 hF
    apply test_ok hF rfl <;> intro hb hF
    ·have tq1 : (g1.has && !decide (g1.x.r.kd = 5)) = true := by
      have h9 : (if g1.has = true then !decide (g1.x.r.kd = 5) else false) = true := by
       have h8 : (if g1.has = true then (g1.x.r.kd != 5) else false) = true := by subst hB; exact hb
       exact h8
      rw [← h9]; cases g1.has <;> rfl
     apply wp_seq
     apply rgB hB TA_ok [0, 2, 5, 11, 12, 13, 15] [0, 5, 13, 29] [] hF
     ·intro A X; conv => lhs; cbv
     ·intro X; subst hB; simp only [AO, Ob.holds, BE.den] <;> and_intros <;> intros <;> trivial
     intro X12 a0 w1 hF
     refine wp_exit ?_
     replace hF := hF.keep [15, 0, 2, 5, 11, 12, 13] [0, 5, 13, 29]
     exact ⟨.dn p101 N101, ⟨by rw [hrun1]; simp [splC, Rs.bind, t0, ← hv0, ← hv1, hdn0, hrun1, splC, hm101, tq1], hp101, hn101, hR101, by have := hl101; have := hle1; omega⟩, by simp [lsM], hF⟩
    have tq1 : (g1.has && !decide (g1.x.r.kd = 5)) = false := by
     have h9 : (if g1.has = true then !decide (g1.x.r.kd = 5) else false) = false := by
      have h8 : (if g1.has = true then (g1.x.r.kd != 5) else false) = false := by subst hB; exact hb
      exact h8
     rw [← h9]; cases g1.has <;> rfl
    refine wp_skip ?_
    apply wp_seq
    have S131 := dget_m 0 b J hJ E hE N101 p101 hR101 hp101 hn101 l
    rcases hm131 : getM (J.budget - E.n) l p101 with ⟨h1, p131⟩ | ⟨wq131, p131⟩
    ·have hs131 := (fro_get _ _ _).of hm131
     have hp131 := hp101.suf hs131
     have hn131 := Nat.le_trans hs131.le hn101
     have hR131 := hR101.suf hs131
     obtain ⟨N131, hN131⟩ := eqv (E.n - p131.n)
     rw [← hN131] at hR131
     have hl131 := get_lt hm131
     have hg131 := hp101.get hm131
     apply rgB hB TA_ok [0, 2, 5, 11, 12, 13, 16, 17] [0, 5, 13, 16, 17, 29] [(2, .x fun x => ⟨gotV h1, [(0, drunL J E N131 p131.note)], []⟩)] hF
     ·intro A X; conv => lhs; cbv
     ·intro X; subst hB; simp only [AO, Ob.holds, BE.den] <;> (and_intros <;> repeat first | trivial | rfl | exact enters77 | exact S131.ok hm131 hN131 | refine ⟨?_, ?_⟩ | intro h)
     intro X13 a0 w1 hF
     refine wp_seq (wp_seq ?_)
     apply rgB hB TA_ok [72, 0, 2, 5, 11, 12, 13, 16] [0, 5, 13, 16, 29] [] hF
     ·intro A X; conv => lhs; cbv
     ·intro X; subst hB; simp only [AO, Ob.holds, BE.den] <;> and_intros <;> intros <;> trivial
     intro X14 a0 w1 hF
     apply test_ok hF rfl <;> intro hb hF
     ·have tv1 : ¬ h1.ver = v := by
       have h9 : (h1.ver != v) = true := by subst hB; exact hb
       simpa using h9
      refine wp_ret ?_
      refine (ret_go (fn := Tryz.f123) TA_ok hF (rs := []) rfl (rfl) ?_ (v := ()) (q := p131) (M := N131) (by simp [splitM, splC, ← hx0, ← hx1, ← he, Rs.bind, t0, ← hv0, ← hv1, hdn0, hrun1, splC, hm101, tq1, hm131, tv1]) hN131 ?_ ?_).1
      ·subst hB; simp [AO, Ob.holds]
      ·subst hB; exact zr
      subst hB; exact ⟨rfl, ⟨_, rfl, zl⟩, trivial⟩
     have tv1 : h1.ver = v := by
      have h9 : (h1.ver != v) = false := by subst hB; exact hb
      simpa using h9
     refine wp_skip ?_
     have S151 := dcas_m 0 b J hJ E hE N131 p131 hR131 hp131 hn131 x1 g1.ver (hv 1)
     rcases hm151 : casM (J.budget - E.n) x1 g1.ver (hv 1).r.abs p131 with ⟨d1, p151⟩ | ⟨wq151, p151⟩
     ·have hs151 := (fro_cas _ _ _ _ _).of hm151
      have hp151 := hp131.suf hs151
      have hn151 := Nat.le_trans hs151.le hn131
      have hR151 := hR131.suf hs151
      obtain ⟨N151, hN151⟩ := eqv (E.n - p151.n)
      rw [← hN151] at hR151
      apply drB hB (by kernel_rfl) TA_ok [0, 2, 5, 11, 12, 13, 15] [0, 5, 13, 29] [(8, .x fun x => ⟨.bool (.v d1), [(0, drunL J E N151 p151.note)], []⟩)] hF rfl
      case hex => intro A X; conv => lhs; cbv
      case hD => kernel_rfl
      case hlen => rfl
      case hob =>
       intro X
       subst hB
       simp only [AO, Ob.holds, BE.den] <;> (and_intros <;> repeat first | trivial | rfl | exact enters125 | exact S151.ok hm151 hN151 | exact ⟨(show (0 : Int) ≤ 0 by decide), (show (0 : Int) < 2 by decide)⟩ | exact ⟨(show (0 : Int) ≤ 1 by decide), (show (1 : Int) < 2 by decide)⟩ | exact (show (0 : Int) ≤ 0 by decide) | exact (show (0 : Int) ≤ 1 by decide) | exact (show (0 : Int) < 2 by decide) | exact (show (1 : Int) < 2 by decide) | refine ⟨?_, ?_⟩ | intro h)
      case hQ =>
      intro X15 a0 w1 hF
      replace hF := hF.keep [15, 0, 2, 5, 11, 12, 13] [0, 5, 13, 29]
      rcases Bool.eq_false_or_eq_true d1 with hd | hd
      ·exact ⟨.dn p151 N151, ⟨by rw [hrun1]; simp [splC, Rs.bind, hd, t0, ← hv0, ← hv1, hdn0, hrun1, splC, hm101, tq1, hm131, tv1, hm151], hp151, hn151, hR151, by have := hl101; have := hs131.le; have := hs151.le; have := hle1; omega⟩, by simp [lsM], hF.headS (v' := .bool .tt) (Sim.bool hd) rfl⟩
      exact ⟨.go m1 p151 N151, ⟨by rw [hrun1]; simp [splC, Rs.bind, hd, t0, ← hv0, ← hv1, hdn0, hrun1, splC, hm101, tq1, hm131, tv1, hm151], hp151, hn151, hR151, by have := hl101; have := hs131.le; have := hs151.le; have := hf1; omega, by have := hl101; have := hs131.le; have := hs151.le; have := hle1; omega⟩, by simp [lsM], hF.headS (v' := .bool .ff) (Sim.bool hd) rfl⟩
     have hs151 := (fro_cas _ _ _ _ _).ofs hm151
     obtain ⟨N151, hN151⟩ := eqv (E.n - p151.n)
     obtain ⟨rr151, hrr151⟩ := eqv (wq151.r.rn)
     obtain ⟨nn151, hnn151⟩ := eqv (wq151.res.items.length)
     obtain ⟨ff151, hff151⟩ := eqv (itF wq151.res.items)
     apply drB hB (by kernel_rfl) TA_ok [0, 2, 5, 11, 12, 13, 15] [0, 5, 13, 29] [(8, .x fun x => ⟨.bool .ff, [(0, drunS J E N151 ⟨wq151.kind, wq151.lab, wq151.ver, ⟨x.A 1, x.c 1, rr151⟩, ⟨wq151.res.code, wq151.res.had, wq151.res.val, x.A 2, nn151, x.c 2, ff151, wq151.res.key, wq151.res.more⟩⟩ p151.note)], []⟩)] hF rfl
     case hex => intro A X; conv => lhs; cbv
     case hD => kernel_rfl
     case hlen => rfl
     case hob =>
      intro X
      subst hB
      simp only [AO, Ob.holds, BE.den] <;> (and_intros <;> repeat first | trivial | rfl | exact enters125 | exact S151.stop hm151 hN151 hrr151 hnn151 hff151 | exact ⟨(show (0 : Int) ≤ 0 by decide), (show (0 : Int) < 2 by decide)⟩ | exact ⟨(show (0 : Int) ≤ 1 by decide), (show (1 : Int) < 2 by decide)⟩ | exact (show (0 : Int) ≤ 0 by decide) | exact (show (0 : Int) ≤ 1 by decide) | exact (show (0 : Int) < 2 by decide) | exact (show (1 : Int) < 2 by decide) | refine ⟨?_, ?_⟩ | intro h)
     case hQ =>
     intro X15 a0 w1 hF
     obtain ⟨Q151, hQ151⟩ := eqv ((wqD (X15 8) wq151 rr151 nn151 ff151))
     have hW151 : Q151 = wqA (X15 8) wq151 := by rw [hQ151, hrr151, hnn151, hff151]; rfl
     replace hF := hF.memS (cells' := drunS J E N151 Q151 p151.note) (by rw [hQ151]; exact zl)
     replace hF := hF.keep [15, 0, 2, 5, 11, 12, 13] [0, 5, 13, 29]
     exact ⟨.sp N151 Q151 p151.note, ⟨(X15 8), wq151, p151, by simp [splitM, splC, ← hx0, ← hx1, ← he, Rs.bind, t0, ← hv0, ← hv1, hdn0, hrun1, splC, hm101, tq1, hm131, tv1, hm151], hN151, hW151, rfl⟩, by simp [lsM], hF⟩
    have hs131 := (fro_get _ _ _).ofs hm131
    obtain ⟨N131, hN131⟩ := eqv (E.n - p131.n)
    obtain ⟨rr131, hrr131⟩ := eqv (wq131.r.rn)
    obtain ⟨nn131, hnn131⟩ := eqv (wq131.res.items.length)
    obtain ⟨ff131, hff131⟩ := eqv (itF wq131.res.items)
    apply rgB hB TA_ok [0, 2, 5, 11, 12, 13, 16, 17] [0, 5, 13, 16, 17, 29] [(2, .x fun x => ⟨.agg [.int .i64 0, .int .u64 0, .bool .ff, .int .i64 0, .sl none none 0 0 2 (fun _ => []), .int .i64 0, .int .u64 0, .int .u64 0], [(0, drunS J E N131 ⟨wq131.kind, wq131.lab, wq131.ver, ⟨x.A 1, x.c 1, rr131⟩, ⟨wq131.res.code, wq131.res.had, wq131.res.val, x.A 2, nn131, x.c 2, ff131, wq131.res.key, wq131.res.more⟩⟩ p131.note)], []⟩)] hF
    ·intro A X; conv => lhs; cbv
    ·intro X; subst hB; simp only [AO, Ob.holds, BE.den] <;> (and_intros <;> repeat first | trivial | rfl | exact enters77 | exact S131.stop hm131 hN131 hrr131 hnn131 hff131 | refine ⟨?_, ?_⟩ | intro h)
    intro X13 a0 w1 hF
    obtain ⟨Q131, hQ131⟩ := eqv ((wqD (X13 2) wq131 rr131 nn131 ff131))
    have hW131 : Q131 = wqA (X13 2) wq131 := by rw [hQ131, hrr131, hnn131, hff131]; rfl
    replace hF := hF.memS (cells' := drunS J E N131 Q131 p131.note) (by rw [hQ131]; exact zl)
    refine wp_seq (wp_seq ?_)
    apply rgB hB TA_ok [72, 0, 2, 5, 11, 12, 13, 16] [0, 5, 13, 16, 29] [] hF
    ·intro A X; conv => lhs; cbv
    ·intro X; subst hB; simp only [AO, Ob.holds, BE.den] <;> and_intros <;> intros <;> trivial
    intro X14 a0 w1 hF
    refine test_tt hF rfl (fun hF => ?_)
    refine wp_ret ?_
    refine (ret_st (fn := Tryz.f123) TA_ok hF (rs := []) rfl (rfl) ?_ (q := p131) (wq := wq131) (Q := Q131) (M := N131) (X13 2) (by simp [splitM, splC, ← hx0, ← hx1, ← he, Rs.bind, t0, ← hv0, ← hv1, hdn0, hrun1, splC, hm101, tq1, hm131]) hN131 hW131 ?_ ?_).1
    ·subst hB; simp [AO, Ob.holds]
    ·subst hB; exact zr
    subst hB; exact ⟨rfl, ⟨_, rfl, zl⟩, trivial⟩
   have hs101 := (fro_get _ _ _).ofs hm101
   obtain ⟨N101, hN101⟩ := eqv (E.n - p101.n)
   obtain ⟨rr101, hrr101⟩ := eqv (wq101.r.rn)
   obtain ⟨nn101, hnn101⟩ := eqv (wq101.res.items.length)
   obtain ⟨ff101, hff101⟩ := eqv (itF wq101.res.items)
   apply rgB hB TA_ok [0, 2, 5, 11, 12, 13, 16] [0, 5, 13, 16, 29] [(2, .x fun x => ⟨.agg [.int .i64 0, .int .u64 0, .bool .ff, .int .i64 0, .sl none none 0 0 2 (fun _ => []), .int .i64 0, .int .u64 0, .int .u64 0], [(0, drunS J E N101 ⟨wq101.kind, wq101.lab, wq101.ver, ⟨x.A 1, x.c 1, rr101⟩, ⟨wq101.res.code, wq101.res.had, wq101.res.val, x.A 2, nn101, x.c 2, ff101, wq101.res.key, wq101.res.more⟩⟩ p101.note)], []⟩)] hF
   ·intro A X; conv => lhs; cbv
   ·intro X; subst hB; simp only [AO, Ob.holds, BE.den] <;> (and_intros <;> repeat first | trivial | rfl | exact enters77 | exact S101.stop hm101 hN101 hrr101 hnn101 hff101 | refine ⟨?_, ?_⟩ | intro h)
   intro X10 a0 w1 hF
   obtain ⟨Q101, hQ101⟩ := eqv ((wqD (X10 2) wq101 rr101 nn101 ff101))
   have hW101 : Q101 = wqA (X10 2) wq101 := by rw [hQ101, hrr101, hnn101, hff101]; rfl
   replace hF := hF.memS (cells' := drunS J E N101 Q101 p101.note) (by rw [hQ101]; exact zl)
   refine wp_seq (wp_seq ?_)
   apply rgB hB TA_ok [59, 0, 2, 5, 11, 12, 13, 16] [0, 5, 13, 16, 29] [] hF
   ·intro A X; conv => lhs; cbv
   ·intro X; subst hB; simp only [AO, Ob.holds, BE.den] <;> and_intros <;> intros <;> trivial
   intro X11 a0 w1 hF
   refine test_ff hF rfl (fun hF => ?_)
   refine wp_skip ?_
   apply wp_seq
   apply rgB hB TA_ok [0, 2, 5, 11, 12, 13, 16, 17] [0, 5, 13, 16, 17, 29] [(2, .x fun _ => ⟨.agg [.int .i64 0, .int .u64 0, .bool .ff, .int .i64 0, .sl none none 0 0 2 (fun _ => []), .int .i64 0, .int .u64 0, .int .u64 0], [(0, drunS J E N101 Q101 p101.note)], []⟩)] hF
   ·intro A X; conv => lhs; cbv
   ·intro X; subst hB; simp only [AO, Ob.holds, BE.den] <;> (and_intros <;> repeat first | trivial | rfl | exact enters77 | exact dget_d 0 b J E hE N101 Q101 p101.note l | refine ⟨?_, ?_⟩ | intro h)
   intro X13 a0 w1 hF
   refine wp_seq (wp_seq ?_)
   apply rgB hB TA_ok [72, 0, 2, 5, 11, 12, 13, 16] [0, 5, 13, 16, 29] [] hF
   ·intro A X; conv => lhs; cbv
   ·intro X; subst hB; simp only [AO, Ob.holds, BE.den] <;> and_intros <;> intros <;> trivial
   intro X14 a0 w1 hF
   refine test_tt hF rfl (fun hF => ?_)
   refine wp_ret ?_
   refine (ret_st (fn := Tryz.f123) TA_ok hF (rs := []) rfl (rfl) ?_ (q := p101) (wq := wq101) (Q := Q101) (M := N101) (X10 2) (by simp [splitM, splC, ← hx0, ← hx1, ← he, Rs.bind, t0, ← hv0, ← hv1, hdn0, hrun1, splC, hm101]) hN101 hW101 ?_ ?_).1
   ·subst hB; simp [AO, Ob.holds]
   ·subst hB; exact zr
   subst hB; exact ⟨rfl, ⟨_, rfl, zl⟩, trivial⟩
  ·dsimp only [lsC, lsB] at hJ hF
   obtain ⟨hdn1, hp1, hn1, hR1, hle1⟩ := hJ
   have hN1 : N1 = E.n - p1.n := by have := hR1.n; omega
   refine wp_seq (wp_seq ?_)
   apply rgB hB TA_ok [48, 0, 2, 5, 11, 12, 13] [0, 5, 13, 29] [] hF
   ·intro A X; conv => lhs; cbv
   ·intro X; subst hB; simp only [AO, Ob.holds, BE.den] <;> and_intros <;> intros <;> trivial
   intro X9 a0 w1 hF
   refine test_ff hF rfl (fun hF => ?_)
   refine wp_exit ?_
   apply rgB hB TA_ok [12, 0, 2, 5, 11] [0, 5, 29] [] hF
   ·intro A X; conv => lhs; cbv
   ·intro X; subst hB; simp only [AO, Ob.holds, BE.den] <;> and_intros <;> intros <;> trivial
   intro X6 a0 w1 hF
   replace hF := hF.headS (v' := .int .i64 2) (by subst hB; exact zr) rfl
   refine rounds_next ?_
   refine wp_seq (wp_seq ?_)
   apply rgB hB TA_ok [31, 0, 2, 5, 11, 12] [0, 5, 29] [] hF
   ·intro A X; conv => lhs; cbv
   ·intro X; subst hB; simp only [AO, Ob.holds, BE.den] <;> and_intros <;> intros <;> trivial
   intro X5 a0 w1 hF
   replace hF := hF.headS (v' := .bool .ff) (Sim.bool (by subst hB; rfl)) rfl
   refine test_ff hF rfl (fun hF => ?_)
   refine wp_exit ?_
   have S16 := dcasi_m 0 b J hJ E hE N1 p1 hR1 hp1 hn1 l v
   rcases hm16 : casM (J.budget - E.n) l v innerR p1 with ⟨d2, p16⟩ | ⟨wq16, p16⟩
   ·have hs16 := (fro_cas _ _ _ _ _).of hm16
    have hp16 := hp1.suf hs16
    have hn16 := Nat.le_trans hs16.le hn1
    have hR16 := hR1.suf hs16
    obtain ⟨N16, hN16⟩ := eqv (E.n - p16.n)
    rw [← hN16] at hR16
    apply drB hB (by kernel_rfl) TA_ok [] [0] [(3, .r fun _ => .agg [.int .i64 2, .sl none none 0 0 2 (fun _ => []), .int .i64 (-1), .int .u64 0, .int .u64 0]), (4, .x fun x => ⟨.bool (.v d2), [(0, drunL J E N16 p16.note)], []⟩)] hF rfl
    case hex => intro A X; conv => lhs; cbv
    case hD => kernel_rfl
    case hlen => rfl
    case hob =>
     intro X
     subst hB
     simp only [AO, Ob.holds, BE.den] <;> (and_intros <;> repeat first | trivial | rfl | exact enters162 | exact dinn_s | exact enters125 | exact S16.ok hm16 hN16 | refine ⟨?_, ?_⟩ | intro h)
    case hQ =>
    intro X16 a0 w1 hF
    refine (ret_go (fn := Tryz.f123) TA_ok hF (rs := []) rfl (rfl) ?_ (v := ()) (q := p16) (M := N16) (by simp [splitM, splC, ← hx0, ← hx1, ← he, Rs.bind, t0, ← hv0, ← hv1, hdn0, hdn1, hm16]) hN16 ?_ ?_).2
    ·subst hB; simp [AO, Ob.holds]
    ·subst hB; exact zr
    subst hB; exact ⟨rfl, ⟨_, rfl, zl⟩, trivial⟩
   have hs16 := (fro_cas _ _ _ _ _).ofs hm16
   obtain ⟨N16, hN16⟩ := eqv (E.n - p16.n)
   obtain ⟨rr16, hrr16⟩ := eqv (wq16.r.rn)
   obtain ⟨nn16, hnn16⟩ := eqv (wq16.res.items.length)
   obtain ⟨ff16, hff16⟩ := eqv (itF wq16.res.items)
   apply drB hB (by kernel_rfl) TA_ok [] [0] [(3, .r fun _ => .agg [.int .i64 2, .sl none none 0 0 2 (fun _ => []), .int .i64 (-1), .int .u64 0, .int .u64 0]), (4, .x fun x => ⟨.bool .ff, [(0, drunS J E N16 ⟨wq16.kind, wq16.lab, wq16.ver, ⟨x.A 1, x.c 1, rr16⟩, ⟨wq16.res.code, wq16.res.had, wq16.res.val, x.A 2, nn16, x.c 2, ff16, wq16.res.key, wq16.res.more⟩⟩ p16.note)], []⟩)] hF rfl
   case hex => intro A X; conv => lhs; cbv
   case hD => kernel_rfl
   case hlen => rfl
   case hob =>
    intro X
    subst hB
    simp only [AO, Ob.holds, BE.den] <;> (and_intros <;> repeat first | trivial | rfl | exact enters162 | exact dinn_s | exact enters125 | exact S16.stop hm16 hN16 hrr16 hnn16 hff16 | refine ⟨?_, ?_⟩ | intro h)
   case hQ =>
   intro X16 a0 w1 hF
   obtain ⟨Q16, hQ16⟩ := eqv ((wqD (X16 4) wq16 rr16 nn16 ff16))
   have hW16 : Q16 = wqA (X16 4) wq16 := by rw [hQ16, hrr16, hnn16, hff16]; rfl
   replace hF := hF.memS (cells' := drunS J E N16 Q16 p16.note) (by rw [hQ16]; exact zl)
   refine (ret_st (fn := Tryz.f123) TA_ok hF (rs := []) rfl (rfl) ?_ (q := p16) (wq := wq16) (Q := Q16) (M := N16) (X16 4) (by simp [splitM, splC, ← hx0, ← hx1, ← he, Rs.bind, t0, ← hv0, ← hv1, hdn0, hdn1, hm16]) hN16 hW16 ?_ ?_).2
   ·subst hB; simp [AO, Ob.holds]
   ·subst hB; exact zr
   subst hB; exact ⟨rfl, ⟨_, rfl, zl⟩, trivial⟩
  dsimp only [lsC, lsB] at hJ hF
  obtain ⟨X1, wq1, pp1, hsp1, hN1, hW1, ht1⟩ := hJ
  subst ht1
  refine wp_seq (wp_seq ?_)
  apply rgB hB TA_ok [48, 0, 2, 5, 11, 12, 13] [0, 5, 13, 29] [] hF
  ·intro A X; conv => lhs; cbv
  ·intro X; subst hB; simp only [AO, Ob.holds, BE.den] <;> and_intros <;> intros <;> trivial
  intro X9 a0 w1 hF
  refine test_ff hF rfl (fun hF => ?_)
  refine wp_exit ?_
  apply rgB hB TA_ok [12, 0, 2, 5, 11] [0, 5, 29] [] hF
  ·intro A X; conv => lhs; cbv
  ·intro X; subst hB; simp only [AO, Ob.holds, BE.den] <;> and_intros <;> intros <;> trivial
  intro X6 a0 w1 hF
  replace hF := hF.headS (v' := .int .i64 2) (by subst hB; exact zr) rfl
  refine rounds_next ?_
  refine wp_seq (wp_seq ?_)
  apply rgB hB TA_ok [31, 0, 2, 5, 11, 12] [0, 5, 29] [] hF
  ·intro A X; conv => lhs; cbv
  ·intro X; subst hB; simp only [AO, Ob.holds, BE.den] <;> and_intros <;> intros <;> trivial
  intro X5 a0 w1 hF
  replace hF := hF.headS (v' := .bool .ff) (Sim.bool (by subst hB; rfl)) rfl
  refine test_ff hF rfl (fun hF => ?_)
  refine wp_exit ?_
  apply drB hB (by kernel_rfl) TA_ok [] [0] [(3, .r fun _ => .agg [.int .i64 2, .sl none none 0 0 2 (fun _ => []), .int .i64 (-1), .int .u64 0, .int .u64 0]), (4, .x fun _ => ⟨.bool .ff, [(0, drunS J E N1 Q1 pp1.note)], []⟩)] hF rfl
  case hex => intro A X; conv => lhs; cbv
  case hD => kernel_rfl
  case hlen => rfl
  case hob =>
   intro X
   subst hB
   simp only [AO, Ob.holds, BE.den] <;> (and_intros <;> repeat first | trivial | rfl | exact enters162 | exact dinn_s | exact enters125 | exact dcasi_d 0 b J E hE N1 Q1 pp1.note l v | refine ⟨?_, ?_⟩ | intro h)
  case hQ =>
  intro X16 a0 w1 hF
  refine (ret_st (fn := Tryz.f123) TA_ok hF (rs := []) rfl (rfl) ?_ (q := pp1) (wq := wq1) (Q := Q1) (M := N1) X1 (hsp1) hN1 hW1 ?_ ?_).2
  ·subst hB; simp [AO, Ob.holds]
  ·subst hB; exact zr
  subst hB; exact ⟨rfl, ⟨_, rfl, zl⟩, trivial⟩
 dsimp only [lsC, lsB] at hJ hF
 obtain ⟨X0, wq0, pp0, hsp0, hN0, hW0, ht0⟩ := hJ
 subst ht0
 refine wp_seq (wp_seq ?_)
 apply rgB hB TA_ok [48, 0, 2, 5, 11, 12, 13] [0, 5, 13, 29] [] hF
 ·intro A X; conv => lhs; cbv
 ·intro X; subst hB; simp only [AO, Ob.holds, BE.den] <;> and_intros <;> intros <;> trivial
 intro X9 a0 w1 hF
 refine test_ff hF rfl (fun hF => ?_)
 refine wp_exit ?_
 apply rgB hB TA_ok [12, 0, 2, 5, 11] [0, 5, 29] [] hF
 ·intro A X; conv => lhs; cbv
 ·intro X; subst hB; simp only [AO, Ob.holds, BE.den] <;> and_intros <;> intros <;> trivial
 intro X6 a0 w1 hF
 replace hF := hF.headS (v' := .int .i64 1) (by subst hB; exact zr) rfl
 refine rounds_next ?_
 refine wp_seq (wp_seq ?_)
 apply rgB hB TA_ok [31, 0, 2, 5, 11, 12] [0, 5, 29] [] hF
 ·intro A X; conv => lhs; cbv
 ·intro X; subst hB; simp only [AO, Ob.holds, BE.den] <;> and_intros <;> intros <;> trivial
 intro X5 a0 w1 hF
 replace hF := hF.headS (v' := .bool .tt) (Sim.bool (by subst hB; rfl)) rfl
 refine test_tt hF rfl (fun hF => ?_)
 refine wp_skip ?_
 apply wp_seq
 refine wp_block ?_
 apply wp_seq
 apply rgB hB TA_ok [0, 2, 5, 11, 12, 13] [0, 5, 13, 29] [(2, .r fun _ => .tup [.agg [.int .i64 x1.len, .int .u64 x1.bits], .int .i64 y1])] hF
 ·intro A X; conv => lhs; cbv
 ·intro X; subst hB; simp only [AO, Ob.holds, BE.den] <;> (and_intros <;> repeat first | trivial | rfl | exact enters92 | exact SC1 | refine ⟨?_, ?_⟩ | intro h)
 intro X7 a0 w1 hF
 apply wp_seq
 apply rgB hB TA_ok [15, 0, 2, 5, 11, 12, 13] [0, 5, 13, 29] [] hF
 ·intro A X; conv => lhs; cbv
 ·intro X; subst hB; simp only [AO, Ob.holds, BE.den] <;> and_intros <;> intros <;> trivial
 intro X8 a0 w1 hF
 refine wp_block ?_
 refine loop_pre (ι := LSt) (fun q => [(15, .bool (lsB q))]) (fun q => [(0, ⟨b, 136, lsC J E q⟩)]) (fun q => []) (fun q => match q with | .sp M Q u => N0 = M ∧ Q0 = Q ∧ pp0.note = u | _ => False) (fun q => lsM q) (.sp N0 Q0 pp0.note) ⟨rfl, rfl, rfl⟩ hF ?_
 rintro q hJ a0 w1 hF
 rcases q with ⟨nn, pp, NN⟩ | ⟨pp, NN⟩ | ⟨NN, QQ, tt⟩
 ·exact (hJ : False).elim
 ·exact (hJ : False).elim
 dsimp only [lsC, lsB] at hJ hF
 obtain ⟨rfl, rfl, rfl⟩ := hJ
 refine wp_seq (wp_seq ?_)
 apply rgB hB TA_ok [48, 0, 2, 5, 11, 12, 13] [0, 5, 13, 29] [] hF
 ·intro A X; conv => lhs; cbv
 ·intro X; subst hB; simp only [AO, Ob.holds, BE.den] <;> and_intros <;> intros <;> trivial
 intro X9 a0 w1 hF
 refine test_ff hF rfl (fun hF => ?_)
 refine wp_exit ?_
 apply rgB hB TA_ok [12, 0, 2, 5, 11] [0, 5, 29] [] hF
 ·intro A X; conv => lhs; cbv
 ·intro X; subst hB; simp only [AO, Ob.holds, BE.den] <;> and_intros <;> intros <;> trivial
 intro X6 a0 w1 hF
 replace hF := hF.headS (v' := .int .i64 2) (by subst hB; exact zr) rfl
 refine rounds_next ?_
 refine wp_seq (wp_seq ?_)
 apply rgB hB TA_ok [31, 0, 2, 5, 11, 12] [0, 5, 29] [] hF
 ·intro A X; conv => lhs; cbv
 ·intro X; subst hB; simp only [AO, Ob.holds, BE.den] <;> and_intros <;> intros <;> trivial
 intro X5 a0 w1 hF
 replace hF := hF.headS (v' := .bool .ff) (Sim.bool (by subst hB; rfl)) rfl
 refine test_ff hF rfl (fun hF => ?_)
 refine wp_exit ?_
 apply drB hB (by kernel_rfl) TA_ok [] [0] [(3, .r fun _ => .agg [.int .i64 2, .sl none none 0 0 2 (fun _ => []), .int .i64 (-1), .int .u64 0, .int .u64 0]), (4, .x fun _ => ⟨.bool .ff, [(0, drunS J E N0 Q0 pp0.note)], []⟩)] hF rfl
 case hex => intro A X; conv => lhs; cbv
 case hD => kernel_rfl
 case hlen => rfl
 case hob =>
  intro X
  subst hB
  simp only [AO, Ob.holds, BE.den] <;> (and_intros <;> repeat first | trivial | rfl | exact enters162 | exact dinn_s | exact enters125 | exact dcasi_d 0 b J E hE N0 Q0 pp0.note l v | refine ⟨?_, ?_⟩ | intro h)
 case hQ =>
 intro X16 a0 w1 hF
 refine (ret_st (fn := Tryz.f123) TA_ok hF (rs := []) rfl (rfl) ?_ (q := pp0) (wq := wq0) (Q := Q0) (M := N0) X0 (hsp0) hN0 hW0 ?_ ?_).2
 ·subst hB; simp [AO, Ob.holds]
 ·subst hB; exact zr
 subst hB; exact ⟨rfl, ⟨_, rfl, zl⟩, trivial⟩
theorem dspl_m (k0 b : Nat) (J : JobA) (hJ : JobOk J) (E : EnvA) (hE : E.n ≤ 1000000) (N : Nat) (p : Pst) (hR : Rel E N p) (hp : PstOk p) (hn : p.n ≤ 1000000) (l : Lab) (hl : LOk l) (v : Int) (x : RA) (hx : RaOk x) (n : Nat) (hf : p.n < n) : DocS 123 k0 b J E N p [labAV l, .int .u64 v, recV x] (fun _ => unitV) (unitV) (splitM (J.budget - E.n) n l v x p) := DocS.re (dspl_m0 b J hJ E hE N p hR hp hn l hl v x hx n hf) (by repeat (first | exact trivial | refine ⟨zr, ?_⟩))
theorem enters124 : Enters Tryz.prog 124 := fun _ _ => by kernel_rfl
theorem dmrg_m0 (b : Nat) (J : JobA) (hJ : JobOk J) (E : EnvA) (hE : E.n ≤ 1000000) (N : Nat) (p : Pst) (hR : Rel E N p) (hp : PstOk p) (hn : p.n ≤ 1000000) (l : Lab) (hl : LOk l) (v : Int) (n : Nat) (hth : DThC n) (hf : p.n < n) : DocS 124 0 b J E N p [labAV l, .int .u64 v] (fun _ => unitV) (unitV) (mrgM J.bucket (J.budget - E.n) n (thwM J.bucket (J.budget - E.n) n) l v p) := by
 intro m w hm hargs hpre
 have hN0 : N = E.n - p.n := by have := hR.n; omega
 have SC0 := rchild_s l hl.u 0 (.inl rfl)
 have SC1 := rchild_s l hl.u 1 (.inr rfl)
 have hk0 := hl.ch 0
 have hk1 := hl.ch 1
 simp only [labAV] at SC0 SC1
 obtain ⟨x0, hx0⟩ := eqv (chV l 0)
 rw [← hx0] at SC0 hk0
 obtain ⟨x1, hx1⟩ := eqv (chV l 1)
 rw [← hx1] at SC1 hk1
 obtain ⟨y0, hy0⟩ := eqv (chE l 0)
 rw [← hy0] at SC0
 obtain ⟨y1, hy1⟩ := eqv (chE l 1)
 rw [← hy1] at SC1
 refine enterX hm hpre hargs Tryz.func124 rfl (by simp [Tryz.ntmps124]) fun a0 hF => ?_
 simp only [Tryz.ntmps124, startT] at hF
 obtain ⟨B, hB⟩ := eqv (std)
 apply wp_seq
 apply rgB hB TA_ok [0, 2, 4] [0, 4] [] hF
 ·intro A X; conv => lhs; cbv
 ·intro X; subst hB; simp [AO, Ob.holds, BE.den, std, sC, sAr] <;> omega
 intro X0 a0 w1 hF
 apply wp_seq
 apply rgB hB TA_ok [0, 2, 4, 6] [0, 4, 6] [(1, .r fun _ => .tup [.agg [.int .i64 x0.len, .int .u64 x0.bits], .int .i64 y0])] hF
 ·intro A X; conv => lhs; cbv
 ·intro X; subst hB; simp only [AO, Ob.holds, BE.den] <;> (and_intros <;> repeat first | trivial | rfl | exact enters92 | exact SC0 | refine ⟨?_, ?_⟩ | intro h)
 intro X1 a0 w1 hF
 apply wp_seq
 apply rgB hB TA_ok [0, 2, 4, 6, 8] [0, 4, 6, 8] [(1, .r fun _ => .tup [.agg [.int .i64 x1.len, .int .u64 x1.bits], .int .i64 y1])] hF
 ·intro A X; conv => lhs; cbv
 ·intro X; subst hB; simp only [AO, Ob.holds, BE.den] <;> (and_intros <;> repeat first | trivial | rfl | exact enters92 | exact SC1 | refine ⟨?_, ?_⟩ | intro h)
 intro X2 a0 w1 hF
 apply wp_seq
 have S3 := dfrz_m 0 b J hJ E hE N p hR hp hn l v x0 n (by skip; omega)
 rcases hm3 : frzM (J.budget - E.n) l v x0 n p with ⟨z0, p3⟩ | ⟨wq3, p3⟩
 ·have hs3 := (fro_frz _ _ _ _ _ _).of hm3
  have hp3 := hp.suf hs3
  have hn3 := Nat.le_trans hs3.le hn
  have hR3 := hR.suf hs3
  obtain ⟨N3, hN3⟩ := eqv (E.n - p3.n)
  rw [← hN3] at hR3
  have hz0 : ∀ y, z0 = .fr y → RaOk y := fun y hy => frz_ok hp (by rw [hm3, hy])
  have TA := S3.ok hm3 hN3
  unfold encDz at TA
  obtain ⟨y0_, hy0_⟩ := eqv (fzR z0)
  rw [← hy0_] at TA
  obtain ⟨i0, hi0⟩ := eqv (fzJ z0)
  rw [← hi0] at TA
  apply rgB hB TA_ok [0, 2, 4, 6, 8, 10, 11] [0, 4, 6, 8, 10] [(4, .x fun x => ⟨.tup [.agg [.int .i64 y0_.r.kd, .sl none y0_.A y0_.r.n y0_.c 2 (fun i => itC (y0_.r.f i)), .int .i64 y0_.r.nx.len, .int .u64 y0_.r.nx.bits, .int .u64 y0_.r.mrk], .int .i64 i0], [(0, drunL J E N3 p3.note)], []⟩)] hF
  ·intro A X; conv => lhs; cbv
  ·intro X; subst hB; simp only [AO, Ob.holds, BE.den] <;> (and_intros <;> repeat first | trivial | rfl | exact enters163 | exact TA | exact S3.ok hm3 hN3 | refine ⟨?_, ?_⟩ | intro h)
  intro X3 a0 w1 hF
  refine wp_seq (wp_seq ?_)
  apply rgB hB TA_ok [35, 0, 2, 4, 6, 8, 10, 11] [0, 4, 6, 8, 10] [] hF
  ·intro A X; conv => lhs; cbv
  ·intro X; subst hB; simp [AO, Ob.holds, BE.den, std, sC, sAr] <;> omega
  intro X4 a0 w1 hF
  apply test_ok hF rfl <;> intro hb hF
  ·have tz0 : z0 = .over := dz_0 (by rw [← hi0]; subst hB; simpa [std, sC] using hb)
   refine wp_ret ?_
   refine (ret_go (fn := Tryz.f124) TA_ok hF (rs := []) rfl (rfl) ?_ (v := ()) (q := p3) (M := N3) (by simp [mrgM, ← hx0, ← hx1, Rs.bind, hm3, tz0]) hN3 ?_ ?_).1
   ·subst hB; simp [AO, Ob.holds]
   ·subst hB; exact zr
   subst hB; exact ⟨rfl, ⟨_, rfl, zl⟩, trivial⟩
  have ta0 : ¬ fzJ z0 < 0 := by
   have : ¬ i0 < 0 := by subst hB; simpa [std, sC] using hb
   rw [← hi0]; exact this
  refine wp_skip ?_
  refine wp_seq (wp_seq ?_)
  apply rgB hB TA_ok [37, 0, 2, 4, 6, 8, 10] [0, 4, 6, 8, 10] [] hF
  ·intro A X; conv => lhs; cbv
  ·intro X; subst hB; simp [AO, Ob.holds, BE.den, std, sC, sAr] <;> omega
  intro X5 a0 w1 hF
  apply test_ok hF rfl <;> intro hb hF
  ·have tz0 : z0 = .unfit := dz_1 (by rw [← hi0]; subst hB; simpa [std, sC] using hb)
   apply wp_seq
   have S6 := dbck_m 0 b J hJ E hE N3 p3 hR3 hp3 hn3 l hl v x0 x1 hx0 hx1 n hth (by skip; have := hs3.le; omega)
   rcases hm6 : bckM (J.budget - E.n) (thwM J.bucket (J.budget - E.n) n) l v p3 with ⟨v6, p6⟩ | ⟨wq6, p6⟩
   ·have hs6 := (fro_bck _ _ (fro_thw _ _ _) _ _ _).of hm6
    have hp6 := hp3.suf hs6
    have hn6 := Nat.le_trans hs6.le hn3
    have hR6 := hR3.suf hs6
    obtain ⟨N6, hN6⟩ := eqv (E.n - p6.n)
    rw [← hN6] at hR6
    apply rgB hB TA_ok [] [0] [(5, .x fun x => ⟨unitV, [(0, drunL J E N6 p6.note)], []⟩)] hF
    ·intro A X; conv => lhs; cbv
    ·intro X; subst hB; simp only [AO, Ob.holds, BE.den] <;> (and_intros <;> repeat first | trivial | rfl | exact enters164 | exact S6.ok hm6 hN6 | refine ⟨?_, ?_⟩ | intro h)
    intro X6 a0 w1 hF
    refine wp_ret ?_
    refine (ret_go (fn := Tryz.f124) TA_ok hF (rs := []) rfl (rfl) ?_ (v := ()) (q := p6) (M := N6) (by simp [mrgM, ← hx0, ← hx1, Rs.bind, hm3, tz0, hm6]) hN6 ?_ ?_).1
    ·subst hB; simp [AO, Ob.holds]
    ·subst hB; exact zr
    subst hB; exact ⟨rfl, ⟨_, rfl, zl⟩, trivial⟩
   have hs6 := (fro_bck _ _ (fro_thw _ _ _) _ _ _).ofs hm6
   obtain ⟨N6, hN6⟩ := eqv (E.n - p6.n)
   obtain ⟨rr6, hrr6⟩ := eqv (wq6.r.rn)
   obtain ⟨nn6, hnn6⟩ := eqv (wq6.res.items.length)
   obtain ⟨ff6, hff6⟩ := eqv (itF wq6.res.items)
   apply rgB hB TA_ok [] [0] [(5, .x fun x => ⟨unitV, [(0, drunS J E N6 ⟨wq6.kind, wq6.lab, wq6.ver, ⟨x.A 1, x.c 1, rr6⟩, ⟨wq6.res.code, wq6.res.had, wq6.res.val, x.A 2, nn6, x.c 2, ff6, wq6.res.key, wq6.res.more⟩⟩ p6.note)], []⟩)] hF
   ·intro A X; conv => lhs; cbv
   ·intro X; subst hB; simp only [AO, Ob.holds, BE.den] <;> (and_intros <;> repeat first | trivial | rfl | exact enters164 | exact S6.stop hm6 hN6 hrr6 hnn6 hff6 | refine ⟨?_, ?_⟩ | intro h)
   intro X6 a0 w1 hF
   obtain ⟨Q6, hQ6⟩ := eqv ((wqD (X6 5) wq6 rr6 nn6 ff6))
   have hW6 : Q6 = wqA (X6 5) wq6 := by rw [hQ6, hrr6, hnn6, hff6]; rfl
   replace hF := hF.memS (cells' := drunS J E N6 Q6 p6.note) (by rw [hQ6]; exact zl)
   refine wp_ret ?_
   refine (ret_st (fn := Tryz.f124) TA_ok hF (rs := []) rfl (rfl) ?_ (q := p6) (wq := wq6) (Q := Q6) (M := N6) (X6 5) (by simp [mrgM, ← hx0, ← hx1, Rs.bind, hm3, tz0, hm6]) hN6 hW6 ?_ ?_).1
   ·subst hB; simp [AO, Ob.holds]
   ·subst hB; exact zr
   subst hB; exact ⟨rfl, ⟨_, rfl, zl⟩, trivial⟩
  have tz0 : z0 = .fr y0_ := by
   rw [hy0_]
   refine dz_2 ta0 ?_
   have : ¬ i0 = 0 := by subst hB; simpa [std, sC] using hb
   rw [← hi0]; exact this
  have ty0 := hz0 _ tz0
  refine wp_skip ?_
  apply wp_seq
  have S7 := dfrz_m 0 b J hJ E hE N3 p3 hR3 hp3 hn3 l v x1 n (by skip; have := hs3.le; omega)
  rcases hm7 : frzM (J.budget - E.n) l v x1 n p3 with ⟨z1, p7⟩ | ⟨wq7, p7⟩
  ·have hs7 := (fro_frz _ _ _ _ _ _).of hm7
   have hp7 := hp3.suf hs7
   have hn7 := Nat.le_trans hs7.le hn3
   have hR7 := hR3.suf hs7
   obtain ⟨N7, hN7⟩ := eqv (E.n - p7.n)
   rw [← hN7] at hR7
   have hz1 : ∀ y, z1 = .fr y → RaOk y := fun y hy => frz_ok hp3 (by rw [hm7, hy])
   have TA := S7.ok hm7 hN7
   unfold encDz at TA
   obtain ⟨y1_, hy1_⟩ := eqv (fzR z1)
   rw [← hy1_] at TA
   obtain ⟨i1, hi1⟩ := eqv (fzJ z1)
   rw [← hi1] at TA
   apply rgB hB TA_ok [0, 2, 4, 6, 8, 10, 12, 13] [0, 4, 6, 8, 10, 12] [(4, .x fun x => ⟨.tup [.agg [.int .i64 y1_.r.kd, .sl none y1_.A y1_.r.n y1_.c 2 (fun i => itC (y1_.r.f i)), .int .i64 y1_.r.nx.len, .int .u64 y1_.r.nx.bits, .int .u64 y1_.r.mrk], .int .i64 i1], [(0, drunL J E N7 p7.note)], []⟩)] hF
   ·intro A X; conv => lhs; cbv
   ·intro X; subst hB; simp only [AO, Ob.holds, BE.den] <;> (and_intros <;> repeat first | trivial | rfl | exact enters163 | exact TA | exact S7.ok hm7 hN7 | refine ⟨?_, ?_⟩ | intro h)
   intro X7 a0 w1 hF
   refine wp_seq (wp_seq ?_)
   apply rgB hB TA_ok [53, 0, 2, 4, 6, 8, 10, 12, 13] [0, 4, 6, 8, 10, 12] [] hF
   ·intro A X; conv => lhs; cbv
   ·intro X; subst hB; simp [AO, Ob.holds, BE.den, std, sC, sAr] <;> omega
   intro X8 a0 w1 hF
   apply test_ok hF rfl <;> intro hb hF
   ·have tz1 : z1 = .over := dz_0 (by rw [← hi1]; subst hB; simpa [std, sC] using hb)
    refine wp_ret ?_
    refine (ret_go (fn := Tryz.f124) TA_ok hF (rs := []) rfl (rfl) ?_ (v := ()) (q := p7) (M := N7) (by simp [mrgM, ← hx0, ← hx1, Rs.bind, hm3, tz0, hm7, tz1]) hN7 ?_ ?_).1
    ·subst hB; simp [AO, Ob.holds]
    ·subst hB; exact zr
    subst hB; exact ⟨rfl, ⟨_, rfl, zl⟩, trivial⟩
   have ta1 : ¬ fzJ z1 < 0 := by
    have : ¬ i1 < 0 := by subst hB; simpa [std, sC] using hb
    rw [← hi1]; exact this
   refine wp_skip ?_
   apply wp_seq
   have ty1 : RaOk y1_ := by
    rw [hy1_]
    cases hz : z1 with
    | fr y => exact hz1 y hz
    | over => exact zra_ok
    | unfit => exact zra_ok
   have SU := duni_c y0_ y1_ ty0 ty1
   obtain ⟨r2, hr2⟩ := eqv ((uniA y0_ y1_).1.rn)
   rw [← hr2] at SU
   obtain ⟨e2, he2⟩ := eqv ((uniA y0_ y1_).2)
   rw [← he2] at SU
   have ha2 : r2.abs = (uniA y0_ y1_).1 := by rw [hr2]; exact rn_abs _
   have hl2 : r2.abs.items.length = r2.n := by rw [ha2, hr2]; rfl
   apply rgB hB TA_ok [0, 2, 4, 6, 8, 13, 14, 15] [0, 4, 6, 8, 14] [(2, .r fun z => .tup [.agg [.int .i64 r2.kd, .sl none (z.A 0) r2.n (z.c 0) 2 (fun i => itC (r2.f i)), .int .i64 r2.nx.len, .int .u64 r2.nx.bits, .int .u64 r2.mrk], .int .i64 e2])] hF
   ·intro A X; conv => lhs; cbv
   ·intro X; subst hB; simp only [AO, Ob.holds, BE.den] <;> (and_intros <;> repeat first | trivial | rfl | exact enters165 | exact SU | refine ⟨?_, ?_⟩ | intro h)
   intro X9 a0 w1 hF
   refine wp_seq (wp_seq ?_)
   apply drB hB (by kernel_rfl) TA_ok [76, 0, 2, 4, 6, 8, 14] [0, 4, 6, 8, 14] [] hF rfl
   case hex => intro A X; conv => lhs; cbv
   case hD => kernel_rfl
   case hlen => rfl
   case hob =>
    intro X
    subst hB
    simp only [AO, Ob.holds, BE.den] <;> and_intros <;> intros <;> trivial
   case hQ =>
   intro X10 a0 w1 hF
   apply test_ok hF rfl <;> intro hb hF
   ·have h9 : (if (if decide (i1 = 0) = true then true else !decide (e2 = 0)) = true then true else decide ((r2.n : Int) > J.bucket)) = true := by subst hB; exact hb
    have htot : mrgM J.bucket (J.budget - E.n) n (thwM J.bucket (J.budget - E.n) n) l v p = bckM (J.budget - E.n) (thwM J.bucket (J.budget - E.n) n) l v p7 := by
     by_cases hi : i1 = 0
     ·have hz := dz_1 (by rw [← hi1]; exact hi)
      simp [mrgM, Rs.bind, ← hx0, ← hx1, hm3, tz0, hm7, hz]
     have hz : z1 = .fr y1_ := by rw [hy1_]; exact dz_2 ta1 (by rw [← hi1]; exact hi)
     have tu : ¬ ((uniA y0_ y1_).2 = 0 ∧ (r2.abs.items.length : Int) ≤ J.bucket) := by
      rw [← he2, hl2]
      intro h; simp [hi, h.1] at h9; omega
     simp [mrgM, Rs.bind, ← hx0, ← hx1, hm3, tz0, hm7, hz, ← ha2, if_neg tu]
    apply wp_seq
    have S11 := dbck_m 0 b J hJ E hE N7 p7 hR7 hp7 hn7 l hl v x0 x1 hx0 hx1 n hth (by skip; have := hs3.le; have := hs7.le; omega)
    rcases hm11 : bckM (J.budget - E.n) (thwM J.bucket (J.budget - E.n) n) l v p7 with ⟨v11, p11⟩ | ⟨wq11, p11⟩
    ·have hs11 := (fro_bck _ _ (fro_thw _ _ _) _ _ _).of hm11
     have hp11 := hp7.suf hs11
     have hn11 := Nat.le_trans hs11.le hn7
     have hR11 := hR7.suf hs11
     obtain ⟨N11, hN11⟩ := eqv (E.n - p11.n)
     rw [← hN11] at hR11
     apply rgB hB TA_ok [] [0] [(5, .x fun x => ⟨unitV, [(0, drunL J E N11 p11.note)], []⟩)] hF
     ·intro A X; conv => lhs; cbv
     ·intro X; subst hB; simp only [AO, Ob.holds, BE.den] <;> (and_intros <;> repeat first | trivial | rfl | exact enters164 | exact S11.ok hm11 hN11 | refine ⟨?_, ?_⟩ | intro h)
     intro X11 a0 w1 hF
     refine wp_ret ?_
     refine (ret_go (fn := Tryz.f124) TA_ok hF (rs := []) rfl (rfl) ?_ (v := ()) (q := p11) (M := N11) (by rw [htot, hm11]) hN11 ?_ ?_).1
     ·subst hB; simp [AO, Ob.holds]
     ·subst hB; exact zr
     subst hB; exact ⟨rfl, ⟨_, rfl, zl⟩, trivial⟩
    have hs11 := (fro_bck _ _ (fro_thw _ _ _) _ _ _).ofs hm11
    obtain ⟨N11, hN11⟩ := eqv (E.n - p11.n)
    obtain ⟨rr11, hrr11⟩ := eqv (wq11.r.rn)
    obtain ⟨nn11, hnn11⟩ := eqv (wq11.res.items.length)
    obtain ⟨ff11, hff11⟩ := eqv (itF wq11.res.items)
    apply rgB hB TA_ok [] [0] [(5, .x fun x => ⟨unitV, [(0, drunS J E N11 ⟨wq11.kind, wq11.lab, wq11.ver, ⟨x.A 1, x.c 1, rr11⟩, ⟨wq11.res.code, wq11.res.had, wq11.res.val, x.A 2, nn11, x.c 2, ff11, wq11.res.key, wq11.res.more⟩⟩ p11.note)], []⟩)] hF
    ·intro A X; conv => lhs; cbv
    ·intro X; subst hB; simp only [AO, Ob.holds, BE.den] <;> (and_intros <;> repeat first | trivial | rfl | exact enters164 | exact S11.stop hm11 hN11 hrr11 hnn11 hff11 | refine ⟨?_, ?_⟩ | intro h)
    intro X11 a0 w1 hF
    obtain ⟨Q11, hQ11⟩ := eqv ((wqD (X11 5) wq11 rr11 nn11 ff11))
    have hW11 : Q11 = wqA (X11 5) wq11 := by rw [hQ11, hrr11, hnn11, hff11]; rfl
    replace hF := hF.memS (cells' := drunS J E N11 Q11 p11.note) (by rw [hQ11]; exact zl)
    refine wp_ret ?_
    refine (ret_st (fn := Tryz.f124) TA_ok hF (rs := []) rfl (rfl) ?_ (q := p11) (wq := wq11) (Q := Q11) (M := N11) (X11 5) (by rw [htot, hm11]) hN11 hW11 ?_ ?_).1
    ·subst hB; simp [AO, Ob.holds]
    ·subst hB; exact zr
    subst hB; exact ⟨rfl, ⟨_, rfl, zl⟩, trivial⟩
   have h9 : (if (if decide (i1 = 0) = true then true else !decide (e2 = 0)) = true then true else decide ((r2.n : Int) > J.bucket)) = false := by subst hB; exact hb
   have hi : ¬ i1 = 0 := by intro h; simp [h] at h9
   have tz1 : z1 = .fr y1_ := by rw [hy1_]; exact dz_2 ta1 (by rw [← hi1]; exact hi)
   have tu : (uniA y0_ y1_).2 = 0 ∧ (r2.abs.items.length : Int) ≤ J.bucket := by
    rw [← he2, hl2]
    simp [hi] at h9; exact ⟨h9.1, by omega⟩
   refine wp_skip ?_
   apply wp_seq
   have S12 := dcas_m 0 b J hJ E hE N7 p7 hR7 hp7 hn7 l v ⟨(X9 2).A 0, (X9 2).c 0, r2⟩
   rcases hm12 : casM (J.budget - E.n) l v r2.abs p7 with ⟨d5, p12⟩ | ⟨wq12, p12⟩
   ·have hs12 := (fro_cas _ _ _ _ _).of hm12
    have hp12 := hp7.suf hs12
    have hn12 := Nat.le_trans hs12.le hn7
    have hR12 := hR7.suf hs12
    obtain ⟨N12, hN12⟩ := eqv (E.n - p12.n)
    rw [← hN12] at hR12
    apply rgB hB TA_ok [87, 0, 4] [0, 4] [(4, .x fun x => ⟨.bool (.v d5), [(0, drunL J E N12 p12.note)], []⟩)] hF
    ·intro A X; conv => lhs; cbv
    ·intro X; subst hB; simp only [AO, Ob.holds, BE.den] <;> (and_intros <;> repeat first | trivial | rfl | exact enters125 | exact S12.ok hm12 hN12 | refine ⟨?_, ?_⟩ | intro h)
    intro X12 a0 w1 hF
    apply test_ok hF rfl <;> intro hb hF
    ·have t5 : d5 = true := by exact hb
     have S13 := dcln_c n 0 b J hJ E hE N12 p12 hR12 hp12 hn12 l hl (by skip; have := hs3.le; have := hs7.le; have := hs12.le; omega)
     rcases hm13 : clnM (J.budget - E.n) n l p12 with ⟨v13, p13⟩ | ⟨wq13, p13⟩
     ·have hs13 := (fro_cln _ _ _ _).of hm13
      have hp13 := hp12.suf hs13
      have hn13 := Nat.le_trans hs13.le hn12
      have hR13 := hR12.suf hs13
      obtain ⟨N13, hN13⟩ := eqv (E.n - p13.n)
      rw [← hN13] at hR13
      apply rgB hB TA_ok [] [0] [(2, .x fun x => ⟨unitV, [(0, drunL J E N13 p13.note)], []⟩)] hF
      ·intro A X; conv => lhs; cbv
      ·intro X; subst hB; simp only [AO, Ob.holds, BE.den] <;> (and_intros <;> repeat first | trivial | rfl | exact enters76 | exact S13.ok hm13 hN13 | refine ⟨?_, ?_⟩ | intro h)
      intro X13 a0 w1 hF
      refine (ret_go (fn := Tryz.f124) TA_ok hF (rs := []) rfl (rfl) ?_ (v := ()) (q := p13) (M := N13) (by simp [mrgM, ← hx0, ← hx1, Rs.bind, hm3, tz0, hm7, ← ha2, tz1, if_pos tu, hm12, t5, hm13]) hN13 ?_ ?_).2
      ·subst hB; simp [AO, Ob.holds]
      ·subst hB; exact zr
      subst hB; exact ⟨rfl, ⟨_, rfl, zl⟩, trivial⟩
     have hs13 := (fro_cln _ _ _ _).ofs hm13
     obtain ⟨N13, hN13⟩ := eqv (E.n - p13.n)
     obtain ⟨rr13, hrr13⟩ := eqv (wq13.r.rn)
     obtain ⟨nn13, hnn13⟩ := eqv (wq13.res.items.length)
     obtain ⟨ff13, hff13⟩ := eqv (itF wq13.res.items)
     apply rgB hB TA_ok [] [0] [(2, .x fun x => ⟨unitV, [(0, drunS J E N13 ⟨wq13.kind, wq13.lab, wq13.ver, ⟨x.A 1, x.c 1, rr13⟩, ⟨wq13.res.code, wq13.res.had, wq13.res.val, x.A 2, nn13, x.c 2, ff13, wq13.res.key, wq13.res.more⟩⟩ p13.note)], []⟩)] hF
     ·intro A X; conv => lhs; cbv
     ·intro X; subst hB; simp only [AO, Ob.holds, BE.den] <;> (and_intros <;> repeat first | trivial | rfl | exact enters76 | exact S13.stop hm13 hN13 hrr13 hnn13 hff13 | refine ⟨?_, ?_⟩ | intro h)
     intro X13 a0 w1 hF
     obtain ⟨Q13, hQ13⟩ := eqv ((wqD (X13 2) wq13 rr13 nn13 ff13))
     have hW13 : Q13 = wqA (X13 2) wq13 := by rw [hQ13, hrr13, hnn13, hff13]; rfl
     replace hF := hF.memS (cells' := drunS J E N13 Q13 p13.note) (by rw [hQ13]; exact zl)
     refine (ret_st (fn := Tryz.f124) TA_ok hF (rs := []) rfl (rfl) ?_ (q := p13) (wq := wq13) (Q := Q13) (M := N13) (X13 2) (by simp [mrgM, ← hx0, ← hx1, Rs.bind, hm3, tz0, hm7, ← ha2, tz1, if_pos tu, hm12, t5, hm13]) hN13 hW13 ?_ ?_).2
     ·subst hB; simp [AO, Ob.holds]
     ·subst hB; exact zr
     subst hB; exact ⟨rfl, ⟨_, rfl, zl⟩, trivial⟩
    have t5 : d5 = false := by exact hb
    refine wp_skip ?_
    refine (ret_go (fn := Tryz.f124) TA_ok hF (rs := []) rfl (rfl) ?_ (v := ()) (q := p12) (M := N12) (by simp [mrgM, ← hx0, ← hx1, Rs.bind, hm3, tz0, hm7, ← ha2, tz1, if_pos tu, hm12, t5]) hN12 ?_ ?_).2
    ·subst hB; simp [AO, Ob.holds]
    ·subst hB; exact zr
    subst hB; exact ⟨rfl, ⟨_, rfl, zl⟩, trivial⟩
   have hs12 := (fro_cas _ _ _ _ _).ofs hm12
   obtain ⟨N12, hN12⟩ := eqv (E.n - p12.n)
   obtain ⟨rr12, hrr12⟩ := eqv (wq12.r.rn)
   obtain ⟨nn12, hnn12⟩ := eqv (wq12.res.items.length)
   obtain ⟨ff12, hff12⟩ := eqv (itF wq12.res.items)
   apply rgB hB TA_ok [87, 0, 4] [0, 4] [(4, .x fun x => ⟨.bool .ff, [(0, drunS J E N12 ⟨wq12.kind, wq12.lab, wq12.ver, ⟨x.A 1, x.c 1, rr12⟩, ⟨wq12.res.code, wq12.res.had, wq12.res.val, x.A 2, nn12, x.c 2, ff12, wq12.res.key, wq12.res.more⟩⟩ p12.note)], []⟩)] hF
   ·intro A X; conv => lhs; cbv
   ·intro X; subst hB; simp only [AO, Ob.holds, BE.den] <;> (and_intros <;> repeat first | trivial | rfl | exact enters125 | exact S12.stop hm12 hN12 hrr12 hnn12 hff12 | refine ⟨?_, ?_⟩ | intro h)
   intro X12 a0 w1 hF
   obtain ⟨Q12, hQ12⟩ := eqv ((wqD (X12 4) wq12 rr12 nn12 ff12))
   have hW12 : Q12 = wqA (X12 4) wq12 := by rw [hQ12, hrr12, hnn12, hff12]; rfl
   replace hF := hF.memS (cells' := drunS J E N12 Q12 p12.note) (by rw [hQ12]; exact zl)
   refine test_ff hF rfl (fun hF => ?_)
   refine wp_skip ?_
   refine (ret_st (fn := Tryz.f124) TA_ok hF (rs := []) rfl (rfl) ?_ (q := p12) (wq := wq12) (Q := Q12) (M := N12) (X12 4) (by simp [mrgM, ← hx0, ← hx1, Rs.bind, hm3, tz0, hm7, ← ha2, tz1, if_pos tu, hm12]) hN12 hW12 ?_ ?_).2
   ·subst hB; simp [AO, Ob.holds]
   ·subst hB; exact zr
   subst hB; exact ⟨rfl, ⟨_, rfl, zl⟩, trivial⟩
  have hs7 := (fro_frz _ _ _ _ _ _).ofs hm7
  obtain ⟨N7, hN7⟩ := eqv (E.n - p7.n)
  obtain ⟨rr7, hrr7⟩ := eqv (wq7.r.rn)
  obtain ⟨nn7, hnn7⟩ := eqv (wq7.res.items.length)
  obtain ⟨ff7, hff7⟩ := eqv (itF wq7.res.items)
  apply rgB hB TA_ok [0, 2, 4, 6, 8, 10, 12, 13] [0, 4, 6, 8, 10, 12] [(4, .x fun x => ⟨.tup [.agg [.int .i64 0, .sl none none 0 0 2 (fun _ => []), .int .i64 0, .int .u64 0, .int .u64 0], .int .i64 (-1)], [(0, drunS J E N7 ⟨wq7.kind, wq7.lab, wq7.ver, ⟨x.A 1, x.c 1, rr7⟩, ⟨wq7.res.code, wq7.res.had, wq7.res.val, x.A 2, nn7, x.c 2, ff7, wq7.res.key, wq7.res.more⟩⟩ p7.note)], []⟩)] hF
  ·intro A X; conv => lhs; cbv
  ·intro X; subst hB; simp only [AO, Ob.holds, BE.den] <;> (and_intros <;> repeat first | trivial | rfl | exact enters163 | exact S7.stop hm7 hN7 hrr7 hnn7 hff7 | refine ⟨?_, ?_⟩ | intro h)
  intro X7 a0 w1 hF
  obtain ⟨Q7, hQ7⟩ := eqv ((wqD (X7 4) wq7 rr7 nn7 ff7))
  have hW7 : Q7 = wqA (X7 4) wq7 := by rw [hQ7, hrr7, hnn7, hff7]; rfl
  replace hF := hF.memS (cells' := drunS J E N7 Q7 p7.note) (by rw [hQ7]; exact zl)
  refine wp_seq (wp_seq ?_)
  apply rgB hB TA_ok [53, 0, 2, 4, 6, 8, 10, 12, 13] [0, 4, 6, 8, 10, 12] [] hF
  ·intro A X; conv => lhs; cbv
  ·intro X; subst hB; simp [AO, Ob.holds, BE.den, std, sC, sAr] <;> omega
  intro X8 a0 w1 hF
  apply test_ok hF rfl <;> intro hb hF
  ·skip
   refine wp_ret ?_
   refine (ret_st (fn := Tryz.f124) TA_ok hF (rs := []) rfl (rfl) ?_ (q := p7) (wq := wq7) (Q := Q7) (M := N7) (X7 4) (by simp [mrgM, ← hx0, ← hx1, Rs.bind, hm3, tz0, hm7]) hN7 hW7 ?_ ?_).1
   ·subst hB; simp [AO, Ob.holds]
   ·subst hB; exact zr
   subst hB; exact ⟨rfl, ⟨_, rfl, zl⟩, trivial⟩
  exfalso
  have h9 : decide ((-1 : Int) < 0) = false := by subst hB; exact hb
  exact absurd h9 (by decide)
 have hs3 := (fro_frz _ _ _ _ _ _).ofs hm3
 obtain ⟨N3, hN3⟩ := eqv (E.n - p3.n)
 obtain ⟨rr3, hrr3⟩ := eqv (wq3.r.rn)
 obtain ⟨nn3, hnn3⟩ := eqv (wq3.res.items.length)
 obtain ⟨ff3, hff3⟩ := eqv (itF wq3.res.items)
 apply rgB hB TA_ok [0, 2, 4, 6, 8, 10, 11] [0, 4, 6, 8, 10] [(4, .x fun x => ⟨.tup [.agg [.int .i64 0, .sl none none 0 0 2 (fun _ => []), .int .i64 0, .int .u64 0, .int .u64 0], .int .i64 (-1)], [(0, drunS J E N3 ⟨wq3.kind, wq3.lab, wq3.ver, ⟨x.A 1, x.c 1, rr3⟩, ⟨wq3.res.code, wq3.res.had, wq3.res.val, x.A 2, nn3, x.c 2, ff3, wq3.res.key, wq3.res.more⟩⟩ p3.note)], []⟩)] hF
 ·intro A X; conv => lhs; cbv
 ·intro X; subst hB; simp only [AO, Ob.holds, BE.den] <;> (and_intros <;> repeat first | trivial | rfl | exact enters163 | exact S3.stop hm3 hN3 hrr3 hnn3 hff3 | refine ⟨?_, ?_⟩ | intro h)
 intro X3 a0 w1 hF
 obtain ⟨Q3, hQ3⟩ := eqv ((wqD (X3 4) wq3 rr3 nn3 ff3))
 have hW3 : Q3 = wqA (X3 4) wq3 := by rw [hQ3, hrr3, hnn3, hff3]; rfl
 replace hF := hF.memS (cells' := drunS J E N3 Q3 p3.note) (by rw [hQ3]; exact zl)
 refine wp_seq (wp_seq ?_)
 apply rgB hB TA_ok [35, 0, 2, 4, 6, 8, 10, 11] [0, 4, 6, 8, 10] [] hF
 ·intro A X; conv => lhs; cbv
 ·intro X; subst hB; simp [AO, Ob.holds, BE.den, std, sC, sAr] <;> omega
 intro X4 a0 w1 hF
 apply test_ok hF rfl <;> intro hb hF
 ·skip
  refine wp_ret ?_
  refine (ret_st (fn := Tryz.f124) TA_ok hF (rs := []) rfl (rfl) ?_ (q := p3) (wq := wq3) (Q := Q3) (M := N3) (X3 4) (by simp [mrgM, ← hx0, ← hx1, Rs.bind, hm3]) hN3 hW3 ?_ ?_).1
  ·subst hB; simp [AO, Ob.holds]
  ·subst hB; exact zr
  subst hB; exact ⟨rfl, ⟨_, rfl, zl⟩, trivial⟩
 exfalso
 have h9 : decide ((-1 : Int) < 0) = false := by subst hB; exact hb
 exact absurd h9 (by decide)
theorem dmrg_m (k0 b : Nat) (J : JobA) (hJ : JobOk J) (E : EnvA) (hE : E.n ≤ 1000000) (N : Nat) (p : Pst) (hR : Rel E N p) (hp : PstOk p) (hn : p.n ≤ 1000000) (l : Lab) (hl : LOk l) (v : Int) (n : Nat) (hth : DThC n) (hf : p.n < n) : DocS 124 k0 b J E N p [labAV l, .int .u64 v] (fun _ => unitV) (unitV) (mrgM J.bucket (J.budget - E.n) n (thwM J.bucket (J.budget - E.n) n) l v p) := DocS.re (dmrg_m0 b J hJ E hE N p hR hp hn l hl v n hth hf) (by repeat (first | exact trivial | refine ⟨zr, ?_⟩))
theorem dfin_m0 (b : Nat) (J : JobA) (hJ : JobOk J) (E : EnvA) (hE : E.n ≤ 1000000) (N : Nat) (p : Pst) (hR : Rel E N p) (hp : PstOk p) (hn : p.n ≤ 1000000) (l : Lab) (hl : LOk l) (g : GotA) (hg : GotOk g) (hgh : g.has = true) (n : Nat) (hth : DThC n) (hf : p.n < n) : DocS 79 0 b J E N p [labAV l, gotV g] (fun _ => unitV) (unitV) (fnsM J.bucket (J.budget - E.n) n l g p) := by
 intro m w hm hargs hpre
 have hN0 : N = E.n - p.n := by have := hR.n; omega
 refine enterX hm hpre hargs Tryz.func79 rfl (by simp [Tryz.ntmps79]) fun a0 hF => ?_
 simp only [Tryz.ntmps79, startT] at hF
 obtain ⟨B, hB⟩ := eqv (std)
 apply wp_seq
 apply rgB hB TA_ok [0, 4, 5] [0, 4, 5] [] hF
 ·intro A X; conv => lhs; cbv
 ·intro X; subst hB; simp [AO, Ob.holds, BE.den, std, sC, sAr] <;> omega
 intro X0 a0 w1 hF
 apply wp_seq
 apply rgB hB TA_ok [9, 0, 4, 5] [0, 4, 5] [] hF
 ·intro A X; conv => lhs; cbv
 ·intro X; subst hB; simp only [AO, Ob.holds, BE.den] <;> and_intros <;> intros <;> trivial
 intro X1 a0 w1 hF
 apply test_ok hF rfl <;> intro hb hF
 ·have t1 : gk g 3 = true := by
   have h : decide (g.x.r.kd = 3) = true := by subst hB; exact hb
   unfold gk; rw [hgh, h]; rfl
  have S2 := dspl_m 0 b J hJ E hE N p hR hp hn l hl g.ver g.x hg.ra n hf
  rcases hm2 : splitM (J.budget - E.n) n l g.ver g.x p with ⟨v2, p2⟩ | ⟨wq2, p2⟩
  ·have hs2 := (fro_split _ _ _ _ _ _).of hm2
   have hp2 := hp.suf hs2
   have hn2 := Nat.le_trans hs2.le hn
   have hR2 := hR.suf hs2
   obtain ⟨N2, hN2⟩ := eqv (E.n - p2.n)
   rw [← hN2] at hR2
   apply rgB hB TA_ok [] [0] [(6, .x fun x => ⟨unitV, [(0, drunL J E N2 p2.note)], []⟩)] hF
   ·intro A X; conv => lhs; cbv
   ·intro X; subst hB; simp only [AO, Ob.holds, BE.den] <;> (and_intros <;> repeat first | trivial | rfl | exact enters123 | exact S2.ok hm2 hN2 | refine ⟨?_, ?_⟩ | intro h)
   intro X2 a0 w1 hF
   refine (ret_go (fn := Tryz.f79) TA_ok hF (rs := []) rfl (rfl) ?_ (v := ()) (q := p2) (M := N2) (by simp [fnsM, finM, Rs.bind, t1, hm2]) hN2 ?_ ?_).2
   ·subst hB; simp [AO, Ob.holds]
   ·subst hB; exact zr
   subst hB; exact ⟨rfl, ⟨_, rfl, zl⟩, trivial⟩
  have hs2 := (fro_split _ _ _ _ _ _).ofs hm2
  obtain ⟨N2, hN2⟩ := eqv (E.n - p2.n)
  obtain ⟨rr2, hrr2⟩ := eqv (wq2.r.rn)
  obtain ⟨nn2, hnn2⟩ := eqv (wq2.res.items.length)
  obtain ⟨ff2, hff2⟩ := eqv (itF wq2.res.items)
  apply rgB hB TA_ok [] [0] [(6, .x fun x => ⟨unitV, [(0, drunS J E N2 ⟨wq2.kind, wq2.lab, wq2.ver, ⟨x.A 1, x.c 1, rr2⟩, ⟨wq2.res.code, wq2.res.had, wq2.res.val, x.A 2, nn2, x.c 2, ff2, wq2.res.key, wq2.res.more⟩⟩ p2.note)], []⟩)] hF
  ·intro A X; conv => lhs; cbv
  ·intro X; subst hB; simp only [AO, Ob.holds, BE.den] <;> (and_intros <;> repeat first | trivial | rfl | exact enters123 | exact S2.stop hm2 hN2 hrr2 hnn2 hff2 | refine ⟨?_, ?_⟩ | intro h)
  intro X2 a0 w1 hF
  obtain ⟨Q2, hQ2⟩ := eqv ((wqD (X2 6) wq2 rr2 nn2 ff2))
  have hW2 : Q2 = wqA (X2 6) wq2 := by rw [hQ2, hrr2, hnn2, hff2]; rfl
  replace hF := hF.memS (cells' := drunS J E N2 Q2 p2.note) (by rw [hQ2]; exact zl)
  refine (ret_st (fn := Tryz.f79) TA_ok hF (rs := []) rfl (rfl) ?_ (q := p2) (wq := wq2) (Q := Q2) (M := N2) (X2 6) (by simp [fnsM, finM, Rs.bind, t1, hm2]) hN2 hW2 ?_ ?_).2
  ·subst hB; simp [AO, Ob.holds]
  ·subst hB; exact zr
  subst hB; exact ⟨rfl, ⟨_, rfl, zl⟩, trivial⟩
 have t1 : gk g 3 = false := by
  have h : decide (g.x.r.kd = 3) = false := by subst hB; exact hb
  unfold gk; rw [hgh, h]; rfl
 apply wp_seq
 apply rgB hB TA_ok [19, 0, 4, 5] [0, 4, 5] [] hF
 ·intro A X; conv => lhs; cbv
 ·intro X; subst hB; simp only [AO, Ob.holds, BE.den] <;> and_intros <;> intros <;> trivial
 intro X3 a0 w1 hF
 apply test_ok hF rfl <;> intro hb hF
 ·have t2 : l.len < 64 := by subst hB; simpa [std, sC] using hb
  have S4 := dmrg_m 0 b J hJ E hE N p hR hp hn l hl g.ver n hth hf
  rcases hm4 : mrgM J.bucket (J.budget - E.n) n (thwM J.bucket (J.budget - E.n) n) l g.ver p with ⟨v4, p4⟩ | ⟨wq4, p4⟩
  ·have hs4 := (fro_mrg _ _ _ _ (fro_thw _ _ _) _ _ _).of hm4
   have hp4 := hp.suf hs4
   have hn4 := Nat.le_trans hs4.le hn
   have hR4 := hR.suf hs4
   obtain ⟨N4, hN4⟩ := eqv (E.n - p4.n)
   rw [← hN4] at hR4
   apply rgB hB TA_ok [] [0] [(4, .x fun x => ⟨unitV, [(0, drunL J E N4 p4.note)], []⟩)] hF
   ·intro A X; conv => lhs; cbv
   ·intro X; subst hB; simp only [AO, Ob.holds, BE.den] <;> (and_intros <;> repeat first | trivial | rfl | exact enters124 | exact S4.ok hm4 hN4 | refine ⟨?_, ?_⟩ | intro h)
   intro X4 a0 w1 hF
   refine (ret_go (fn := Tryz.f79) TA_ok hF (rs := []) rfl (rfl) ?_ (v := ()) (q := p4) (M := N4) (by simp [fnsM, finM, Rs.bind, t1, t2, hm4]) hN4 ?_ ?_).2
   ·subst hB; simp [AO, Ob.holds]
   ·subst hB; exact zr
   subst hB; exact ⟨rfl, ⟨_, rfl, zl⟩, trivial⟩
  have hs4 := (fro_mrg _ _ _ _ (fro_thw _ _ _) _ _ _).ofs hm4
  obtain ⟨N4, hN4⟩ := eqv (E.n - p4.n)
  obtain ⟨rr4, hrr4⟩ := eqv (wq4.r.rn)
  obtain ⟨nn4, hnn4⟩ := eqv (wq4.res.items.length)
  obtain ⟨ff4, hff4⟩ := eqv (itF wq4.res.items)
  apply rgB hB TA_ok [] [0] [(4, .x fun x => ⟨unitV, [(0, drunS J E N4 ⟨wq4.kind, wq4.lab, wq4.ver, ⟨x.A 1, x.c 1, rr4⟩, ⟨wq4.res.code, wq4.res.had, wq4.res.val, x.A 2, nn4, x.c 2, ff4, wq4.res.key, wq4.res.more⟩⟩ p4.note)], []⟩)] hF
  ·intro A X; conv => lhs; cbv
  ·intro X; subst hB; simp only [AO, Ob.holds, BE.den] <;> (and_intros <;> repeat first | trivial | rfl | exact enters124 | exact S4.stop hm4 hN4 hrr4 hnn4 hff4 | refine ⟨?_, ?_⟩ | intro h)
  intro X4 a0 w1 hF
  obtain ⟨Q4, hQ4⟩ := eqv ((wqD (X4 4) wq4 rr4 nn4 ff4))
  have hW4 : Q4 = wqA (X4 4) wq4 := by rw [hQ4, hrr4, hnn4, hff4]; rfl
  replace hF := hF.memS (cells' := drunS J E N4 Q4 p4.note) (by rw [hQ4]; exact zl)
  refine (ret_st (fn := Tryz.f79) TA_ok hF (rs := []) rfl (rfl) ?_ (q := p4) (wq := wq4) (Q := Q4) (M := N4) (X4 4) (by simp [fnsM, finM, Rs.bind, t1, t2, hm4]) hN4 hW4 ?_ ?_).2
  ·subst hB; simp [AO, Ob.holds]
  ·subst hB; exact zr
  subst hB; exact ⟨rfl, ⟨_, rfl, zl⟩, trivial⟩
 have t2 : ¬ l.len < 64 := by subst hB; simpa [std, sC] using hb
 refine wp_skip ?_
 refine (ret_go (fn := Tryz.f79) TA_ok hF (rs := []) rfl (rfl) ?_ (v := ()) (q := p) (M := N) (by simp [fnsM, finM, Rs.bind, t1, t2]) hN0 ?_ ?_).2
 ·subst hB; simp [AO, Ob.holds]
 ·subst hB; exact zr
 subst hB; exact ⟨rfl, ⟨_, rfl, zl⟩, trivial⟩
theorem dfin_m (k0 b : Nat) (J : JobA) (hJ : JobOk J) (E : EnvA) (hE : E.n ≤ 1000000) (N : Nat) (p : Pst) (hR : Rel E N p) (hp : PstOk p) (hn : p.n ≤ 1000000) (l : Lab) (hl : LOk l) (g : GotA) (hg : GotOk g) (hgh : g.has = true) (n : Nat) (hth : DThC n) (hf : p.n < n) : DocS 79 k0 b J E N p [labAV l, gotV g] (fun _ => unitV) (unitV) (fnsM J.bucket (J.budget - E.n) n l g p) := DocS.re (dfin_m0 b J hJ E hE N p hR hp hn l hl g hg hgh n hth hf) (by repeat (first | exact trivial | refine ⟨zr, ?_⟩))
theorem dthw_m0 (b : Nat) (J : JobA) (hJ : JobOk J) (E : EnvA) (hE : E.n ≤ 1000000) (N : Nat) (p : Pst) (hR : Rel E N p) (hp : PstOk p) (hn : p.n ≤ 1000000) (l : Lab) (hl : LOk l) (n : Nat) (hfin : ∀ j, j < n → DFinC j) (hf : p.n < n) : DocS 80 0 b J E N p [labAV l] (fun _ => unitV) (unitV) (thwM J.bucket (J.budget - E.n) n l p) := by
 intro m w hm hargs hpre
 have hN0 : N = E.n - p.n := by have := hR.n; omega
 have SP := rpar_s l hl.u
 have hpar := hl.par
 simp only [labAV] at SP
 obtain ⟨up, hup⟩ := eqv (parV l)
 rw [← hup] at SP hpar
 obtain ⟨ue, hue⟩ := eqv (parE l)
 rw [← hue] at SP
 refine enterX hm hpre hargs Tryz.func80 rfl (by simp [Tryz.ntmps80]) fun a0 hF => ?_
 simp only [Tryz.ntmps80, startT] at hF
 obtain ⟨B, hB⟩ := eqv (std)
 apply wp_seq
 apply rgB hB TA_ok [0, 3] [0, 3] [] hF
 ·intro A X; conv => lhs; cbv
 ·intro X; subst hB; simp [AO, Ob.holds, BE.den, std, sC, sAr] <;> omega
 intro X0 a0 w1 hF
 apply wp_seq
 apply rgB hB TA_ok [0, 3, 4, 5] [0, 3, 4] [(1, .r fun _ => .tup [.agg [.int .i64 up.len, .int .u64 up.bits], .int .i64 ue])] hF
 ·intro A X; conv => lhs; cbv
 ·intro X; subst hB; simp only [AO, Ob.holds, BE.den] <;> (and_intros <;> repeat first | trivial | rfl | exact enters100 | exact SP | refine ⟨?_, ?_⟩ | intro h)
 intro X1 a0 w1 hF
 refine wp_seq (wp_seq ?_)
 apply rgB hB TA_ok [14, 0, 3, 4] [0, 3, 4] [] hF
 ·intro A X; conv => lhs; cbv
 ·intro X; subst hB; simp [AO, Ob.holds, BE.den, std, sC, sAr] <;> omega
 intro X2 a0 w1 hF
 apply test_ok hF rfl <;> intro hb hF
 ·have t0 : ¬ ue = 0 := by subst hB; simpa [std, sC] using hb
  refine wp_ret ?_
  refine (ret_go (fn := Tryz.f80) TA_ok hF (rs := []) rfl (rfl) ?_ (v := ()) (q := p) (M := N) (by simp [thwM, ← hup, ← hue, Rs.bind, t0]) hN0 ?_ ?_).1
  ·subst hB; simp [AO, Ob.holds]
  ·subst hB; exact zr
  subst hB; exact ⟨rfl, ⟨_, rfl, zl⟩, trivial⟩
 have t0 : ue = 0 := by subst hB; simpa [std, sC] using hb
 refine wp_skip ?_
 refine wp_block ?_
 refine loop_pre (ι := LSt) (fun q => []) (fun q => [(0, ⟨b, 136, lsC J E q⟩)]) (fun q => []) (fun q => match q with | .go a r M => thwL J.bucket (J.budget - E.n) n l up p = thwL J.bucket (J.budget - E.n) a l up r ∧ PstOk r ∧ r.n ≤ 1000000 ∧ Rel E M r ∧ r.n < a ∧ r.n ≤ p.n ∧ a ≤ n | .dn r M => False | .sp M Q u => ∃ (X : Atom) (wq : Wq) (pp : Pst), thwM J.bucket (J.budget - E.n) n l p = .stop wq pp ∧ M = E.n - pp.n ∧ Q = wqA X wq ∧ u = pp.note) (fun q => lsM q) (.go n p N) ⟨rfl, hp, hn, hR, (by skip; omega), (by skip; omega), Nat.le_refl _⟩ hF ?_
 rintro q hJ a0 w1 hF
 rcases q with ⟨nn0, p0, N0⟩ | ⟨p9, N9⟩ | ⟨N0, Q0, t0⟩
 ·dsimp only [lsC, lsB] at hJ hF
  obtain ⟨hrun0, hp0, hn0, hR0, hf0, hle0, hnn0⟩ := hJ
  obtain ⟨m0, rfl⟩ : ∃ n2, nn0 = n2 + 1 := ⟨nn0 - 1, by omega⟩
  have hN0 : N0 = E.n - p0.n := by have := hR0.n; omega
  refine wp_seq (wp_seq ?_)
  apply rgB hB TA_ok [19, 0, 3, 4] [0, 3, 4] [] hF
  ·intro A X; conv => lhs; cbv
  ·intro X; subst hB; simp only [AO, Ob.holds, BE.den] <;> and_intros <;> intros <;> trivial
  intro X3 a0 w1 hF
  refine test_tt hF rfl (fun hF => ?_)
  refine wp_skip ?_
  refine wp_block ?_
  apply wp_seq
  have S4 := dget_m 0 b J hJ E hE N0 p0 hR0 hp0 hn0 l
  rcases hm4 : getM (J.budget - E.n) l p0 with ⟨g3, p4⟩ | ⟨wq4, p4⟩
  ·have hs4 := (fro_get _ _ _).of hm4
   have hp4 := hp0.suf hs4
   have hn4 := Nat.le_trans hs4.le hn0
   have hR4 := hR0.suf hs4
   obtain ⟨N4, hN4⟩ := eqv (E.n - p4.n)
   rw [← hN4] at hR4
   have hl4 := get_lt hm4
   have hg4 := hp0.get hm4
   apply rgB hB TA_ok [0, 3, 4, 6] [0, 3, 4, 6] [(2, .x fun x => ⟨gotV g3, [(0, drunL J E N4 p4.note)], []⟩)] hF
   ·intro A X; conv => lhs; cbv
   ·intro X; subst hB; simp only [AO, Ob.holds, BE.den] <;> (and_intros <;> repeat first | trivial | rfl | exact enters77 | exact S4.ok hm4 hN4 | refine ⟨?_, ?_⟩ | intro h)
   intro X4 a0 w1 hF
   refine wp_seq (wp_seq ?_)
   obtain ⟨q4, hq4⟩ := eqv (gk g3 5)
   apply rgB hB TA_ok [31, 0, 3, 4, 6] [0, 3, 4, 6] [(6, .r fun _ => .bool (.v q4))] hF
   ·intro A X; conv => lhs; cbv
   ·intro X; subst hB; simp only [AO, Ob.holds, BE.den] <;> (and_intros <;> repeat first | trivial | rfl | exact enters78 | exact (by rw [hq4]; exact dis_s g3 5) | exact by rw [hq4]; exact dis_s g3 5 | refine ⟨?_, ?_⟩ | intro h)
   intro X5 a0 w1 hF
   apply test_ok hF rfl <;> intro hb hF
   ·have tq4 : gk g3 5 = false := by subst hB; rw [← hq4]; revert hb; cases q4 <;> simp [std]
    refine wp_ret ?_
    refine (ret_go (fn := Tryz.f80) TA_ok hF (rs := []) rfl (rfl) ?_ (v := ()) (q := p4) (M := N4) (by simp [thwM, ← hup, ← hue, Rs.bind, t0, hrun0, thwL_succ, hm4, tq4]) hN4 ?_ ?_).1
    ·subst hB; simp [AO, Ob.holds]
    ·subst hB; exact zr
    subst hB; exact ⟨rfl, ⟨_, rfl, zl⟩, trivial⟩
   have tq4 : gk g3 5 = true := by subst hB; rw [← hq4]; revert hb; cases q4 <;> simp [std]
   refine wp_skip ?_
   apply wp_seq
   have S6 := dget_m 0 b J hJ E hE N4 p4 hR4 hp4 hn4 up
   rcases hm6 : getM (J.budget - E.n) up p4 with ⟨g5, p6⟩ | ⟨wq6, p6⟩
   ·have hs6 := (fro_get _ _ _).of hm6
    have hp6 := hp4.suf hs6
    have hn6 := Nat.le_trans hs6.le hn4
    have hR6 := hR4.suf hs6
    obtain ⟨N6, hN6⟩ := eqv (E.n - p6.n)
    rw [← hN6] at hR6
    have hl6 := get_lt hm6
    have hg6 := hp4.get hm6
    apply rgB hB TA_ok [0, 3, 4, 6, 7] [0, 3, 4, 6, 7] [(2, .x fun x => ⟨gotV g5, [(0, drunL J E N6 p6.note)], []⟩)] hF
    ·intro A X; conv => lhs; cbv
    ·intro X; subst hB; simp only [AO, Ob.holds, BE.den] <;> (and_intros <;> repeat first | trivial | rfl | exact enters77 | exact S6.ok hm6 hN6 | refine ⟨?_, ?_⟩ | intro h)
    intro X6 a0 w1 hF
    refine wp_seq (wp_seq ?_)
    apply rgB hB TA_ok [38, 0, 3, 4, 6, 7] [0, 3, 4, 6, 7] [] hF
    ·intro A X; conv => lhs; cbv
    ·intro X; subst hB; simp only [AO, Ob.holds, BE.den] <;> and_intros <;> intros <;> trivial
    intro X7 a0 w1 hF
    refine test_ff hF rfl (fun hF => ?_)
    refine wp_skip ?_
    refine wp_seq (wp_seq ?_)
    obtain ⟨q6, hq6⟩ := eqv (gk g5 3)
    obtain ⟨r6, hr6⟩ := eqv (gk g5 4)
    apply rgB hB TA_ok [44, 0, 3, 4, 6, 7] [0, 3, 4, 6, 7] [(1, .r fun _ => .bool (.v q6)), (4, .r fun _ => .bool (.v r6))] hF
    ·intro A X; conv => lhs; cbv
    ·intro X; subst hB; simp only [AO, Ob.holds, BE.den] <;> (and_intros <;> repeat first | trivial | rfl | exact enters78 | exact (by rw [hq6]; exact dis_s g5 3) | exact by rw [hq6]; exact dis_s g5 3 | exact (by rw [hr6]; exact dis_s g5 4) | exact by rw [hr6]; exact dis_s g5 4 | refine ⟨?_, ?_⟩ | intro h)
    intro X8 a0 w1 hF
    apply test_ok hF rfl <;> intro hb hF
    ·have tq6 : (gk g5 3 || gk g5 4) = true := by
      have h9 : (if q6 = true then true else r6) = true := by subst hB; exact hb
      rw [← hq6, ← hr6, ← h9]; cases q6 <;> rfl
     have hgh : g5.has = true := by
      unfold gk at tq6; revert tq6; cases g5.has <;> simp
     have tn2 : gk g5 2 = false := by
      unfold gk at tq6 ⊢; revert tq6; cases g5.has <;> simp <;> omega
     apply wp_seq
     have S9 := hfin m0 (by omega) 0 b J hJ E hE N6 p6 hR6 hp6 hn6 up hpar g5 hg6 hgh (by have := hl4; have := hl6; omega)
     rcases hm9 : fnsM J.bucket (J.budget - E.n) m0 up g5 p6 with ⟨v9, p9⟩ | ⟨wq9, p9⟩
     ·have hs9 := (fro_fns _ _ _ _ _ _).of hm9
      have hp9 := hp6.suf hs9
      have hn9 := Nat.le_trans hs9.le hn6
      have hR9 := hR6.suf hs9
      obtain ⟨N9, hN9⟩ := eqv (E.n - p9.n)
      rw [← hN9] at hR9
      apply rgB hB TA_ok [] [0] [(3, .x fun x => ⟨unitV, [(0, drunL J E N9 p9.note)], []⟩)] hF
      ·intro A X; conv => lhs; cbv
      ·intro X; subst hB; simp only [AO, Ob.holds, BE.den] <;> (and_intros <;> repeat first | trivial | rfl | exact enters79 | exact S9.ok hm9 hN9 | refine ⟨?_, ?_⟩ | intro h)
      intro X9 a0 w1 hF
      refine wp_ret ?_
      refine (ret_go (fn := Tryz.f80) TA_ok hF (rs := []) rfl (rfl) ?_ (v := ()) (q := p9) (M := N9) (by simp [thwM, ← hup, ← hue, Rs.bind, t0, hrun0, thwL_succ, hm4, tq4, hm6, tq6, tn2, hm9]) hN9 ?_ ?_).1
      ·subst hB; simp [AO, Ob.holds]
      ·subst hB; exact zr
      subst hB; exact ⟨rfl, ⟨_, rfl, zl⟩, trivial⟩
     have hs9 := (fro_fns _ _ _ _ _ _).ofs hm9
     obtain ⟨N9, hN9⟩ := eqv (E.n - p9.n)
     obtain ⟨rr9, hrr9⟩ := eqv (wq9.r.rn)
     obtain ⟨nn9, hnn9⟩ := eqv (wq9.res.items.length)
     obtain ⟨ff9, hff9⟩ := eqv (itF wq9.res.items)
     apply rgB hB TA_ok [] [0] [(3, .x fun x => ⟨unitV, [(0, drunS J E N9 ⟨wq9.kind, wq9.lab, wq9.ver, ⟨x.A 1, x.c 1, rr9⟩, ⟨wq9.res.code, wq9.res.had, wq9.res.val, x.A 2, nn9, x.c 2, ff9, wq9.res.key, wq9.res.more⟩⟩ p9.note)], []⟩)] hF
     ·intro A X; conv => lhs; cbv
     ·intro X; subst hB; simp only [AO, Ob.holds, BE.den] <;> (and_intros <;> repeat first | trivial | rfl | exact enters79 | exact S9.stop hm9 hN9 hrr9 hnn9 hff9 | refine ⟨?_, ?_⟩ | intro h)
     intro X9 a0 w1 hF
     obtain ⟨Q9, hQ9⟩ := eqv ((wqD (X9 3) wq9 rr9 nn9 ff9))
     have hW9 : Q9 = wqA (X9 3) wq9 := by rw [hQ9, hrr9, hnn9, hff9]; rfl
     replace hF := hF.memS (cells' := drunS J E N9 Q9 p9.note) (by rw [hQ9]; exact zl)
     refine wp_ret ?_
     refine (ret_st (fn := Tryz.f80) TA_ok hF (rs := []) rfl (rfl) ?_ (q := p9) (wq := wq9) (Q := Q9) (M := N9) (X9 3) (by simp [thwM, ← hup, ← hue, Rs.bind, t0, hrun0, thwL_succ, hm4, tq4, hm6, tq6, tn2, hm9]) hN9 hW9 ?_ ?_).1
     ·subst hB; simp [AO, Ob.holds]
     ·subst hB; exact zr
     subst hB; exact ⟨rfl, ⟨_, rfl, zl⟩, trivial⟩
    have tq6 : (gk g5 3 || gk g5 4) = false := by
     have h9 : (if q6 = true then true else r6) = false := by subst hB; exact hb
     rw [← hq6, ← hr6, ← h9]; cases q6 <;> rfl
    refine wp_skip ?_
    apply wp_seq
    rcases Bool.eq_false_or_eq_true (gk g5 2) with t8 | t8
    ·have S10 := dcas_m 0 b J hJ E hE N6 p6 hR6 hp6 hn6 l g3.ver (asR 1 g3.x 0)
     rcases hm10 : casM (J.budget - E.n) l g3.ver (asR 1 g3.x 0).r.abs p6 with ⟨d8, p10⟩ | ⟨wq10, p10⟩
     ·have hs10 := (fro_cas _ _ _ _ _).of hm10
      have hp10 := hp6.suf hs10
      have hn10 := Nat.le_trans hs10.le hn6
      have hR10 := hR6.suf hs10
      obtain ⟨N10, hN10⟩ := eqv (E.n - p10.n)
      rw [← hN10] at hR10
      apply rgB hB TA_ok [65, 0, 3, 4] [0, 3, 4] [(1, .r fun _ => .bool .tt), (15, .x fun x => ⟨.bool (.v d8), [(0, drunL J E N10 p10.note)], []⟩)] hF
      ·intro A X; conv => lhs; cbv
      ·intro X; subst hB; simp only [AO, Ob.holds, BE.den] <;> (and_intros <;> repeat first | trivial | rfl | exact enters78 | exact ((dis_s g5 2).res fun _ => Sim.bool (by rw [t8]; rfl)) | exact enters125 | exact S10.ok hm10 hN10 | refine ⟨?_, ?_⟩ | intro h)
      intro X10 a0 w1 hF
      apply test_ok hF rfl <;> intro hb hF
      ·have t9 : d8 = true := by exact hb
       refine wp_ret ?_
       refine (ret_go (fn := Tryz.f80) TA_ok hF (rs := []) rfl (rfl) ?_ (v := ()) (q := p10) (M := N10) (by simp [thwM, ← hup, ← hue, Rs.bind, t0, hrun0, thwL_succ, hm4, tq4, hm6, tq6, t8, hm10, t9]) hN10 ?_ ?_).1
       ·subst hB; simp [AO, Ob.holds]
       ·subst hB; exact zr
       subst hB; exact ⟨rfl, ⟨_, rfl, zl⟩, trivial⟩
      have t9 : d8 = false := by exact hb
      refine wp_skip ?_
      replace hF := hF.keep [0, 3, 4] [0, 3, 4]
      exact ⟨.go m0 p10 N10, ⟨by rw [hrun0]; simp [thwL_succ, Rs.bind, t0, hrun0, thwL_succ, hm4, tq4, hm6, tq6, t8, hm10, t9], hp10, hn10, hR10, by have := hl4; have := hs6.le; have := hs10.le; have := hf0; omega, by have := hl4; have := hs6.le; have := hs10.le; have := hle0; omega, by omega⟩, by simp [lsM], hF⟩
     have hs10 := (fro_cas _ _ _ _ _).ofs hm10
     obtain ⟨N10, hN10⟩ := eqv (E.n - p10.n)
     obtain ⟨rr10, hrr10⟩ := eqv (wq10.r.rn)
     obtain ⟨nn10, hnn10⟩ := eqv (wq10.res.items.length)
     obtain ⟨ff10, hff10⟩ := eqv (itF wq10.res.items)
     apply rgB hB TA_ok [65, 0, 3, 4] [0, 3, 4] [(1, .r fun _ => .bool .tt), (15, .x fun x => ⟨.bool .ff, [(0, drunS J E N10 ⟨wq10.kind, wq10.lab, wq10.ver, ⟨x.A 1, x.c 1, rr10⟩, ⟨wq10.res.code, wq10.res.had, wq10.res.val, x.A 2, nn10, x.c 2, ff10, wq10.res.key, wq10.res.more⟩⟩ p10.note)], []⟩)] hF
     ·intro A X; conv => lhs; cbv
     ·intro X; subst hB; simp only [AO, Ob.holds, BE.den] <;> (and_intros <;> repeat first | trivial | rfl | exact enters78 | exact ((dis_s g5 2).res fun _ => Sim.bool (by rw [t8]; rfl)) | exact enters125 | exact S10.stop hm10 hN10 hrr10 hnn10 hff10 | refine ⟨?_, ?_⟩ | intro h)
     intro X10 a0 w1 hF
     obtain ⟨Q10, hQ10⟩ := eqv ((wqD (X10 15) wq10 rr10 nn10 ff10))
     have hW10 : Q10 = wqA (X10 15) wq10 := by rw [hQ10, hrr10, hnn10, hff10]; rfl
     replace hF := hF.memS (cells' := drunS J E N10 Q10 p10.note) (by rw [hQ10]; exact zl)
     refine test_ff hF rfl (fun hF => ?_)
     refine wp_skip ?_
     replace hF := hF.keep [0, 3, 4] [0, 3, 4]
     exact ⟨.sp N10 Q10 p10.note, ⟨(X10 15), wq10, p10, by simp [thwM, ← hup, ← hue, Rs.bind, t0, hrun0, thwL_succ, hm4, tq4, hm6, tq6, t8, hm10], hN10, hW10, rfl⟩, by simp [lsM], hF⟩
    apply rgB hB TA_ok [65, 0, 3, 4] [0, 3, 4] [(1, .r fun _ => .bool .ff)] hF
    ·intro A X; conv => lhs; cbv
    ·intro X; subst hB; simp only [AO, Ob.holds, BE.den] <;> (and_intros <;> repeat first | trivial | rfl | exact enters78 | exact ((dis_s g5 2).res fun _ => Sim.bool (by rw [t8]; rfl)) | refine ⟨?_, ?_⟩ | intro h)
    intro X10 a0 w1 hF
    refine test_tt hF rfl (fun hF => ?_)
    refine wp_ret ?_
    refine (ret_go (fn := Tryz.f80) TA_ok hF (rs := []) rfl (rfl) ?_ (v := ()) (q := p6) (M := N6) (by simp [thwM, ← hup, ← hue, Rs.bind, t0, hrun0, thwL_succ, hm4, tq4, hm6, tq6, t8]) hN6 ?_ ?_).1
    ·subst hB; simp [AO, Ob.holds]
    ·subst hB; exact zr
    subst hB; exact ⟨rfl, ⟨_, rfl, zl⟩, trivial⟩
   have hs6 := (fro_get _ _ _).ofs hm6
   obtain ⟨N6, hN6⟩ := eqv (E.n - p6.n)
   obtain ⟨rr6, hrr6⟩ := eqv (wq6.r.rn)
   obtain ⟨nn6, hnn6⟩ := eqv (wq6.res.items.length)
   obtain ⟨ff6, hff6⟩ := eqv (itF wq6.res.items)
   apply rgB hB TA_ok [0, 3, 4, 6, 7] [0, 3, 4, 6, 7] [(2, .x fun x => ⟨.agg [.int .i64 0, .int .u64 0, .bool .ff, .int .i64 0, .sl none none 0 0 2 (fun _ => []), .int .i64 0, .int .u64 0, .int .u64 0], [(0, drunS J E N6 ⟨wq6.kind, wq6.lab, wq6.ver, ⟨x.A 1, x.c 1, rr6⟩, ⟨wq6.res.code, wq6.res.had, wq6.res.val, x.A 2, nn6, x.c 2, ff6, wq6.res.key, wq6.res.more⟩⟩ p6.note)], []⟩)] hF
   ·intro A X; conv => lhs; cbv
   ·intro X; subst hB; simp only [AO, Ob.holds, BE.den] <;> (and_intros <;> repeat first | trivial | rfl | exact enters77 | exact S6.stop hm6 hN6 hrr6 hnn6 hff6 | refine ⟨?_, ?_⟩ | intro h)
   intro X6 a0 w1 hF
   obtain ⟨Q6, hQ6⟩ := eqv ((wqD (X6 2) wq6 rr6 nn6 ff6))
   have hW6 : Q6 = wqA (X6 2) wq6 := by rw [hQ6, hrr6, hnn6, hff6]; rfl
   replace hF := hF.memS (cells' := drunS J E N6 Q6 p6.note) (by rw [hQ6]; exact zl)
   refine wp_seq (wp_seq ?_)
   apply rgB hB TA_ok [38, 0, 3, 4, 6, 7] [0, 3, 4, 6, 7] [] hF
   ·intro A X; conv => lhs; cbv
   ·intro X; subst hB; simp only [AO, Ob.holds, BE.den] <;> and_intros <;> intros <;> trivial
   intro X7 a0 w1 hF
   refine test_tt hF rfl (fun hF => ?_)
   refine wp_ret ?_
   refine (ret_st (fn := Tryz.f80) TA_ok hF (rs := []) rfl (rfl) ?_ (q := p6) (wq := wq6) (Q := Q6) (M := N6) (X6 2) (by simp [thwM, ← hup, ← hue, Rs.bind, t0, hrun0, thwL_succ, hm4, tq4, hm6]) hN6 hW6 ?_ ?_).1
   ·subst hB; simp [AO, Ob.holds]
   ·subst hB; exact zr
   subst hB; exact ⟨rfl, ⟨_, rfl, zl⟩, trivial⟩
  have hs4 := (fro_get _ _ _).ofs hm4
  obtain ⟨N4, hN4⟩ := eqv (E.n - p4.n)
  obtain ⟨rr4, hrr4⟩ := eqv (wq4.r.rn)
  obtain ⟨nn4, hnn4⟩ := eqv (wq4.res.items.length)
  obtain ⟨ff4, hff4⟩ := eqv (itF wq4.res.items)
  apply rgB hB TA_ok [0, 3, 4, 6] [0, 3, 4, 6] [(2, .x fun x => ⟨.agg [.int .i64 0, .int .u64 0, .bool .ff, .int .i64 0, .sl none none 0 0 2 (fun _ => []), .int .i64 0, .int .u64 0, .int .u64 0], [(0, drunS J E N4 ⟨wq4.kind, wq4.lab, wq4.ver, ⟨x.A 1, x.c 1, rr4⟩, ⟨wq4.res.code, wq4.res.had, wq4.res.val, x.A 2, nn4, x.c 2, ff4, wq4.res.key, wq4.res.more⟩⟩ p4.note)], []⟩)] hF
  ·intro A X; conv => lhs; cbv
  ·intro X; subst hB; simp only [AO, Ob.holds, BE.den] <;> (and_intros <;> repeat first | trivial | rfl | exact enters77 | exact S4.stop hm4 hN4 hrr4 hnn4 hff4 | refine ⟨?_, ?_⟩ | intro h)
  intro X4 a0 w1 hF
  obtain ⟨Q4, hQ4⟩ := eqv ((wqD (X4 2) wq4 rr4 nn4 ff4))
  have hW4 : Q4 = wqA (X4 2) wq4 := by rw [hQ4, hrr4, hnn4, hff4]; rfl
  replace hF := hF.memS (cells' := drunS J E N4 Q4 p4.note) (by rw [hQ4]; exact zl)
  refine wp_seq (wp_seq ?_)
  apply rgB hB TA_ok [31, 0, 3, 4, 6] [0, 3, 4, 6] [] hF
  ·intro A X; conv => lhs; cbv
  ·intro X; subst hB; simp only [AO, Ob.holds, BE.den] <;> and_intros <;> intros <;> trivial
  intro X5 a0 w1 hF
  refine test_tt hF rfl (fun hF => ?_)
  refine wp_ret ?_
  refine (ret_st (fn := Tryz.f80) TA_ok hF (rs := []) rfl (rfl) ?_ (q := p4) (wq := wq4) (Q := Q4) (M := N4) (X4 2) (by simp [thwM, ← hup, ← hue, Rs.bind, t0, hrun0, thwL_succ, hm4]) hN4 hW4 ?_ ?_).1
  ·subst hB; simp [AO, Ob.holds]
  ·subst hB; exact zr
  subst hB; exact ⟨rfl, ⟨_, rfl, zl⟩, trivial⟩
 ·exact (hJ : False).elim
 dsimp only [lsC, lsB] at hJ hF
 obtain ⟨X0, wq0, pp0, hsp0, hN0, hW0, ht0⟩ := hJ
 subst ht0
 refine wp_seq (wp_seq ?_)
 apply rgB hB TA_ok [19, 0, 3, 4] [0, 3, 4] [] hF
 ·intro A X; conv => lhs; cbv
 ·intro X; subst hB; simp only [AO, Ob.holds, BE.den] <;> and_intros <;> intros <;> trivial
 intro X3 a0 w1 hF
 refine test_ff hF rfl (fun hF => ?_)
 refine wp_exit ?_
 refine (ret_st (fn := Tryz.f80) TA_ok hF (rs := []) rfl (rfl) ?_ (q := pp0) (wq := wq0) (Q := Q0) (M := N0) X0 (hsp0) hN0 hW0 ?_ ?_).2
 ·subst hB; simp [AO, Ob.holds]
 ·subst hB; exact zr
 subst hB; exact ⟨rfl, ⟨_, rfl, zl⟩, trivial⟩
theorem dthw_m (k0 b : Nat) (J : JobA) (hJ : JobOk J) (E : EnvA) (hE : E.n ≤ 1000000) (N : Nat) (p : Pst) (hR : Rel E N p) (hp : PstOk p) (hn : p.n ≤ 1000000) (l : Lab) (hl : LOk l) (n : Nat) (hfin : ∀ j, j < n → DFinC j) (hf : p.n < n) : DocS 80 k0 b J E N p [labAV l] (fun _ => unitV) (unitV) (thwM J.bucket (J.budget - E.n) n l p) := DocS.re (dthw_m0 b J hJ E hE N p hR hp hn l hl n hfin hf) (by repeat (first | exact trivial | refine ⟨zr, ?_⟩))
theorem dth_fin : ∀ n, DThC n ∧ DFinC n := by
 intro n
 induction n using Nat.strongRecOn with
 | _ n ih =>
  have h1 : DThC n := fun k0 b J hJ E hE N p hR hp hn l hl hf => dthw_m k0 b J hJ E hE N p hR hp hn l hl n (fun j hj => (ih j hj).2) hf
  exact ⟨h1, fun k0 b J hJ E hE N p hR hp hn l hl g hg hgh hf => dfin_m k0 b J hJ E hE N p hR hp hn l hl g hg hgh n h1 hf⟩
theorem dthw_c (n : Nat) : DThC n := (dth_fin n).1
theorem dfin_c (n : Nat) : DFinC n := (dth_fin n).2
theorem enters126 : Enters Tryz.prog 126 := fun _ _ => by kernel_rfl
theorem btw_s (v lo hi : Int) : Spec Tryz.prog 126 [.int .i64 v, .int .i64 lo, .int .i64 hi] (fun _ => .bool (.v (btw v lo hi))) := by
 intro m w hm hargs
 refine enter hm hargs Tryz.func126 rfl (by simp [Tryz.ntmps126]) fun a0 hF => ?_
 simp only [Tryz.ntmps126, startT] at hF
 obtain ⟨B, hB⟩ := eqv (std)
 apply wp_seq
 apply rgB hB TA_ok [0, 1, 2] [] [] hF
 ·intro A X; conv => lhs; cbv
 ·intro X; subst hB; simp [AO, Ob.holds, BE.den, std, sC, sAr] <;> omega
 intro X0 a0 w1 hF
 apply wp_seq
 apply rgB hB TA_ok [6] [] [] hF
 ·intro A X; conv => lhs; cbv
 ·intro X; subst hB; simp only [AO, Ob.holds, BE.den] <;> and_intros <;> intros <;> trivial
 intro X1 a0 w1 hF
 refine wp_ret ?_
 refine ret_sim (fn := Tryz.f126) TA_ok hF (rs := [.tmp 6]) rfl (rfl) ?_ nAt ?_
 ·simp [AO, Ob.holds]
 subst hB
 refine Sim.bool ?_
 show (if decide (lo ≤ v) = true then decide (v ≤ hi) else false) = _
 rw [ite_and]; rfl
theorem enters85 : Enters Tryz.prog 85 := fun _ _ => by kernel_rfl
theorem isJ_s (J : JobA) (hl : U64 J.lab.bits) : Spec Tryz.prog 85 [jobV J] (fun _ => .bool (.v (isJobB J))) := by
 intro m w hm hargs
 have S1 := btw_s J.bucket 1 16
 have S2 := btw_s J.budget 0 2000
 have S3 := btw_s J.how 1 2
 have S4 := btw_s J.most 0 500
 have SL := isL_s J.lab hl
 simp only [labAV] at SL
 obtain ⟨q1, hq1⟩ := eqv (btw J.bucket 1 16)
 rw [← hq1] at S1
 obtain ⟨q2, hq2⟩ := eqv (btw J.budget 0 2000)
 rw [← hq2] at S2
 obtain ⟨q3, hq3⟩ := eqv (btw J.how 1 2)
 rw [← hq3] at S3
 obtain ⟨q4, hq4⟩ := eqv (btw J.most 0 500)
 rw [← hq4] at S4
 obtain ⟨ql, hql⟩ := eqv (isL J.lab)
 rw [← hql] at SL
 refine enter hm hargs Tryz.func85 rfl (by simp [Tryz.ntmps85]) fun a0 hF => ?_
 simp only [Tryz.ntmps85, startT] at hF
 obtain ⟨B, hB⟩ := eqv (std)
 apply wp_seq
 apply rgB hB TA_ok [1] [1] [] hF
 ·intro A X; conv => lhs; cbv
 ·intro X; subst hB; simp [AO, Ob.holds, BE.den, std, sC, sAr] <;> omega
 intro X0 a0 w1 hF
 apply wp_seq
 apply rgB hB TA_ok [1, 3] [1] [] hF
 ·intro A X; conv => lhs; cbv
 ·intro X; subst hB; simp only [AO, Ob.holds, BE.den] <;> and_intros <;> intros <;> trivial
 intro X1 a0 w1 hF
 apply wp_seq
 apply rgB hB TA_ok [2] [] [(3, .r fun _ => .bool (.v q1)), (8, .r fun _ => .bool (.v q2)), (14, .r fun _ => .bool (.v q3)), (20, .r fun _ => .bool (.v q4)), (31, .r fun _ => .bool (.v ql))] hF
 ·intro A X; conv => lhs; cbv
 ·intro X; subst hB; simp only [AO, Ob.holds, BE.den] <;> (and_intros <;> repeat first | trivial | rfl | exact enters126 | exact S1 | exact S2 | exact S3 | exact S4 | exact enters65 | exact SL | refine ⟨?_, ?_⟩ | intro h)
 intro X2 a0 w1 hF
 refine wp_ret ?_
 refine ret_sim (fn := Tryz.f85) TA_ok hF (rs := [.tmp 2]) rfl (rfl) ?_ nAt ?_
 ·simp [AO, Ob.holds]
 subst hB
 refine Sim.bool ?_
 show (if (if (if (if (if q1 = true then q2 else false) = true then q3 else false) = true then q4 else false) = true then decide ((J.pn : Int) ≤ 500) else false) = true then ql else false) = _
 simp only [ite_and]
 unfold isJobB
 rw [← hq1, ← hq2, ← hq3, ← hq4, ← hql]; rfl
theorem enters31 : Enters Tryz.prog 31 := fun _ _ => by kernel_rfl
theorem disJ_s (J : JobA) (hl : U64 J.lab.bits) : Spec Tryz.prog 31 [jobV J] (fun _ => .bool (.v (isJobB J))) := by
 intro m w hm hargs
 have SL := risL_s J.lab hl
 simp only [labAV] at SL
 obtain ⟨ql, hql⟩ := eqv (isL J.lab)
 rw [← hql] at SL
 refine enter hm hargs Tryz.func31 rfl (by simp [Tryz.ntmps31]) fun a0 hF => ?_
 simp only [Tryz.ntmps31, startT] at hF
 obtain ⟨B, hB⟩ := eqv (std)
 apply wp_seq
 apply rgB hB TA_ok [1] [1] [] hF
 ·intro A X; conv => lhs; cbv
 ·intro X; subst hB; simp [AO, Ob.holds, BE.den, std, sC, sAr] <;> omega
 intro X0 a0 w1 hF
 apply wp_seq
 apply rgB hB TA_ok [2] [] [(47, .r fun _ => .bool (.v ql))] hF
 ·intro A X; conv => lhs; cbv
 ·intro X; subst hB; simp only [AO, Ob.holds, BE.den] <;> (and_intros <;> repeat first | trivial | rfl | exact enters86 | exact SL | refine ⟨?_, ?_⟩ | intro h)
 intro X1 a0 w1 hF
 refine wp_ret ?_
 refine ret_sim (fn := Tryz.f31) TA_ok hF (rs := [.tmp 2]) rfl (rfl) ?_ nAt ?_
 ·simp [AO, Ob.holds]
 subst hB
 refine Sim.bool ?_
 show (if (if (if (if (if (if (if (if decide (J.bucket ≥ 1) = true then decide (J.bucket ≤ 16) else false) = true then decide (J.budget ≥ 0) else false) = true then decide (J.budget ≤ 2000) else false) = true then (if (J.how == 1) = true then true else (J.how == 2)) else false) = true then decide (J.most ≥ 0) else false) = true then decide (J.most ≤ 500) else false) = true then decide ((J.pn : Int) ≤ 500) else false) = true then ql else false) = isJobB J
 simp only [ite_and, ite_or]
 unfold isJobB btw
 rw [← hql, Bool.eq_iff_iff]
 cases ql
 ·simp
 simp only [Bool.and_eq_true, Bool.or_eq_true, decide_eq_true_eq, beq_iff_eq, and_true]
 omega
theorem enters87 : Enters Tryz.prog 87 := fun _ _ => by kernel_rfl
theorem isG_s (g : GotA) (hg : InG g) : Spec Tryz.prog 87 [gotV g] (fun _ => .bool (.v (isGotB g))) := by
 intro m w hm hargs
 have SR := isR_s g.x.A g.x.r.n g.x.c g.x.r.f hg.len g.x.r.kd g.x.r.nx g.x.r.mrk hg.nx
 unfold recI rowI at SR
 obtain ⟨ir, hir⟩ := eqv (isRF g.x.r.kd g.x.r.n g.x.r.f g.x.r.nx g.x.r.mrk)
 rw [← hir] at SR
 refine enter hm hargs Tryz.func87 rfl (by simp [Tryz.ntmps87]) fun a0 hF => ?_
 simp only [Tryz.ntmps87, startT] at hF
 obtain ⟨B, hB⟩ := eqv (std)
 apply wp_seq
 apply rgB hB TA_ok [1] [1] [] hF
 ·intro A X; conv => lhs; cbv
 ·intro X; subst hB; simp [AO, Ob.holds, BE.den, std, sC, sAr] <;> omega
 intro X0 a0 w1 hF
 apply wp_seq
 refine wp_block ?_
 apply wp_seq
 apply rgB hB TA_ok [4, 1] [1] [] hF
 ·intro A X; conv => lhs; cbv
 ·intro X; subst hB; simp only [AO, Ob.holds, BE.den] <;> and_intros <;> intros <;> trivial
 intro X1 a0 w1 hF
 apply test_ok hF rfl <;> intro hb hF
 ·have hc : (decide (g.code = 0) || decide (g.code = 8)) = false := by
   have h9 : (if (g.code != 0) = true then (g.code != 8) else false) = true := by subst hB; exact hb
   rw [ite_and] at h9
   by_cases h1 : g.code = 0 <;> by_cases h2 : g.code = 8 <;> simp [h1, h2] at h9 ⊢
  apply wp_seq
  apply rgB hB TA_ok [2] [] [] hF
  ·intro A X; conv => lhs; cbv
  ·intro X; subst hB; simp [AO, Ob.holds, BE.den, std, sC, sAr] <;> omega
  intro X2 a0 w1 hF
  refine wp_ret ?_
  refine ret_sim (fn := Tryz.f87) TA_ok hF (rs := [.tmp 2]) rfl (rfl) ?_ nAt ?_
  ·simp [AO, Ob.holds]
  subst hB
  refine Sim.bool ?_
  show false = _
  unfold isGotB; rw [hc]; rfl
 have hc : (decide (g.code = 0) || decide (g.code = 8)) = true := by
  have h9 : (if (g.code != 0) = true then (g.code != 8) else false) = false := by subst hB; exact hb
  rw [ite_and] at h9
  by_cases h1 : g.code = 0 <;> by_cases h2 : g.code = 8 <;> simp [h1, h2] at h9 ⊢
 apply wp_seq
 apply rgB hB TA_ok [13, 1] [1] [] hF
 ·intro A X; conv => lhs; cbv
 ·intro X; subst hB; simp only [AO, Ob.holds, BE.den] <;> and_intros <;> intros <;> trivial
 intro X3 a0 w1 hF
 apply test_ok hF rfl <;> intro hb hF
 ·have hh : g.has = true := hb
  apply wp_seq
  apply rgB hB TA_ok [2] [] [(2, .r fun _ => .bool (.v ir))] hF
  ·intro A X; conv => lhs; cbv
  ·intro X; subst hB; simp only [AO, Ob.holds, BE.den] <;> (and_intros <;> repeat first | trivial | rfl | exact enters66 | exact SR | refine ⟨?_, ?_⟩ | intro h)
  intro X4 a0 w1 hF
  refine wp_ret ?_
  refine ret_sim (fn := Tryz.f87) TA_ok hF (rs := [.tmp 2]) rfl (rfl) ?_ nAt ?_
  ·simp [AO, Ob.holds]
  subst hB
  refine Sim.bool ?_
  show ir = _
  unfold isGotB; rw [hc, if_pos hh, ← hir]; rfl
 have hh : ¬ g.has = true := by rw [Bool.not_eq_true]; exact hb
 refine wp_skip ?_
 apply wp_seq
 apply rgB hB TA_ok [3] [3] [] hF
 ·intro A X; conv => lhs; cbv
 ·intro X; subst hB; simp only [AO, Ob.holds, BE.den] <;> and_intros <;> intros <;> trivial
 intro X5 a0 w1 hF
 apply wp_seq
 apply rgB hB TA_ok [2] [] [] hF
 ·intro A X; conv => lhs; cbv
 ·intro X; subst hB; simp only [AO, Ob.holds, BE.den] <;> (and_intros <;> repeat first | trivial | rfl | exact ob_lab (Kk := noK) _ _ _ _ | intro h)
 intro X6 a0 w1 hF
 refine wp_ret ?_
 refine ret_sim (fn := Tryz.f87) TA_ok hF (rs := [.tmp 2]) rfl (rfl) ?_ nAt ?_
 ·simp [AO, Ob.holds]
 subst hB
 refine Sim.bool ?_
 show (if (if (if (g.x.r.kd == 0) = true then (((g.x.r.n : Nat) : Int) == 0) else false) = true then eqL [.int .i64 g.x.r.nx.len, .int .u64 g.x.r.nx.bits] [.int .i64 0, .int .u64 0] else false) = true then (g.x.r.mrk == 0) else false) = _
 rw [eqL_lab g.x.r.nx ⟨0, 0⟩]
 simp only [ite_and]
 have hn0 : (((g.x.r.n : Nat) : Int) == 0) = decide (g.x.r.n = 0) := by
  rw [Bool.eq_iff_iff, beq_iff_eq, decide_eq_true_eq]; omega
 unfold isGotB; rw [hc, if_neg hh, hn0]; rfl
theorem enters33 : Enters Tryz.prog 33 := fun _ _ => by kernel_rfl
theorem disG_s (g : GotA) (hg : InG g) : Spec Tryz.prog 33 [gotV g] (fun _ => .bool (.v (isGotB g))) := by
 intro m w hm hargs
 have SR := risR_s g.x.A g.x.r.n g.x.c g.x.r.f hg.len g.x.r.kd g.x.r.nx g.x.r.mrk hg.nx
 unfold recI rowI at SR
 obtain ⟨ir, hir⟩ := eqv (isRF g.x.r.kd g.x.r.n g.x.r.f g.x.r.nx g.x.r.mrk)
 rw [← hir] at SR
 have SS0 := same_s g.x.A g.x.r.n g.x.c g.x.r.f hg.len g.x.r.kd g.x.r.nx g.x.r.mrk none 0 0 (fun _ => zeroItm) 0 ⟨0, 0⟩ 0
 unfold recI rowI at SS0
 have SS : Spec Tryz.prog 64 [recV g.x, .agg [.int .i64 0, .sl none none 0 0 2 (fun _ => []), .int .i64 0, .int .u64 0, .int .u64 0]] (fun _ => .bool (.v (sameRF g.x.r.kd g.x.r.n g.x.r.f g.x.r.nx g.x.r.mrk 0 0 (fun _ => zeroItm) ⟨0, 0⟩ 0))) := SS0.sim ⟨zr, Sim.agg ⟨zr, rowz_sim, zr, zr, zr, trivial⟩, trivial⟩
 obtain ⟨sr, hsr⟩ := eqv (sameRF g.x.r.kd g.x.r.n g.x.r.f g.x.r.nx g.x.r.mrk 0 0 (fun _ => zeroItm) ⟨0, 0⟩ 0)
 rw [← hsr] at SS
 refine enter hm hargs Tryz.func33 rfl (by simp [Tryz.ntmps33]) fun a0 hF => ?_
 simp only [Tryz.ntmps33, startT] at hF
 obtain ⟨B, hB⟩ := eqv (std)
 apply wp_seq
 apply rgB hB TA_ok [1] [1] [] hF
 ·intro A X; conv => lhs; cbv
 ·intro X; subst hB; simp [AO, Ob.holds, BE.den, std, sC, sAr] <;> omega
 intro X0 a0 w1 hF
 refine wp_seq (wp_seq ?_)
 apply rgB hB TA_ok [10, 1] [1] [] hF
 ·intro A X; conv => lhs; cbv
 ·intro X; subst hB; simp only [AO, Ob.holds, BE.den] <;> and_intros <;> intros <;> trivial
 intro X1 a0 w1 hF
 apply test_ok hF rfl <;> intro hb hF
 ·have hc : (decide (g.code = 0) || decide (g.code = 8)) = false := by
   have h9 : (if (g.code != 0) = true then (g.code != 8) else false) = true := by subst hB; exact hb
   rw [ite_and] at h9
   by_cases h1 : g.code = 0 <;> by_cases h2 : g.code = 8 <;> simp [h1, h2] at h9 ⊢
  apply wp_seq
  apply rgB hB TA_ok [2] [] [] hF
  ·intro A X; conv => lhs; cbv
  ·intro X; subst hB; simp [AO, Ob.holds, BE.den, std, sC, sAr] <;> omega
  intro X2 a0 w1 hF
  refine wp_ret ?_
  refine ret_sim (fn := Tryz.f33) TA_ok hF (rs := [.tmp 2]) rfl (rfl) ?_ nAt ?_
  ·simp [AO, Ob.holds]
  subst hB
  refine Sim.bool ?_
  show false = _
  unfold isGotB; rw [hc]; rfl
 have hc : (decide (g.code = 0) || decide (g.code = 8)) = true := by
  have h9 : (if (g.code != 0) = true then (g.code != 8) else false) = false := by subst hB; exact hb
  rw [ite_and] at h9
  by_cases h1 : g.code = 0 <;> by_cases h2 : g.code = 8 <;> simp [h1, h2] at h9 ⊢
 refine wp_skip ?_
 refine wp_seq (wp_seq ?_)
 apply rgB hB TA_ok [12, 1] [1] [] hF
 ·intro A X; conv => lhs; cbv
 ·intro X; subst hB; simp only [AO, Ob.holds, BE.den] <;> and_intros <;> intros <;> trivial
 intro X3 a0 w1 hF
 apply test_ok hF rfl <;> intro hb hF
 ·have hh : g.has = true := hb
  apply wp_seq
  apply rgB hB TA_ok [2] [] [(2, .r fun _ => .bool (.v ir))] hF
  ·intro A X; conv => lhs; cbv
  ·intro X; subst hB; simp only [AO, Ob.holds, BE.den] <;> (and_intros <;> repeat first | trivial | rfl | exact enters88 | exact SR | refine ⟨?_, ?_⟩ | intro h)
  intro X4 a0 w1 hF
  refine wp_ret ?_
  refine ret_sim (fn := Tryz.f33) TA_ok hF (rs := [.tmp 2]) rfl (rfl) ?_ nAt ?_
  ·simp [AO, Ob.holds]
  subst hB
  refine Sim.bool ?_
  show ir = _
  unfold isGotB; rw [hc, if_pos hh, ← hir]; rfl
 have hh : ¬ g.has = true := by rw [Bool.not_eq_true]; exact hb
 refine wp_skip ?_
 apply wp_seq
 apply rgB hB TA_ok [2] [] [(3, .r fun _ => .bool (.v sr))] hF
 ·intro A X; conv => lhs; cbv
 ·intro X; subst hB; simp only [AO, Ob.holds, BE.den] <;> (and_intros <;> repeat first | trivial | rfl | exact enters64 | exact SS | refine ⟨?_, ?_⟩ | intro h)
 intro X5 a0 w1 hF
 refine wp_ret ?_
 refine ret_sim (fn := Tryz.f33) TA_ok hF (rs := [.tmp 2]) rfl (rfl) ?_ nAt ?_
 ·simp [AO, Ob.holds]
 subst hB
 refine Sim.bool ?_
 show sr = _
 have hs : sameRF g.x.r.kd g.x.r.n g.x.r.f g.x.r.nx g.x.r.mrk 0 0 (fun _ => zeroItm) ⟨0, 0⟩ 0 = (decide (g.x.r.kd = 0) && decide (g.x.r.n = 0) && decide (g.x.r.nx = ⟨0, 0⟩) && decide (g.x.r.mrk = 0)) := by
  unfold sameRF sameF
  by_cases hn0 : g.x.r.n = 0
  ·simp [hn0]
  simp [hn0]
 rw [hsr, hs]
 unfold isGotB; rw [hc, if_neg hh]; rfl
theorem enters112 : Enters Tryz.prog 112 := fun _ _ => by kernel_rfl
theorem odd_s (g : GotA) (hg : InG g) : Spec Tryz.prog 112 [gotV g] (fun _ => .bool (.v (!isGotB g))) := by
 intro m w hm hargs
 have S := isG_s g hg
 obtain ⟨q, hq⟩ := eqv (isGotB g)
 rw [← hq] at S ⊢
 refine enter hm hargs Tryz.func112 rfl (by simp [Tryz.ntmps112]) fun a0 hF => ?_
 simp only [Tryz.ntmps112, startT] at hF
 obtain ⟨B, hB⟩ := eqv (std)
 apply wp_seq
 apply rgB hB TA_ok [1] [1] [] hF
 ·intro A X; conv => lhs; cbv
 ·intro X; subst hB; simp [AO, Ob.holds, BE.den, std, sC, sAr] <;> omega
 intro X0 a0 w1 hF
 apply wp_seq
 apply rgB hB TA_ok [2] [] [(1, .r fun _ => .bool (.v q))] hF
 ·intro A X; conv => lhs; cbv
 ·intro X; subst hB; simp only [AO, Ob.holds, BE.den] <;> (and_intros <;> repeat first | trivial | rfl | exact enters87 | exact S | refine ⟨?_, ?_⟩ | intro h)
 intro X1 a0 w1 hF
 refine wp_ret ?_
 refine ret_sim (fn := Tryz.f112) TA_ok hF (rs := [.tmp 2]) rfl (rfl) ?_ nAt ?_
 ·simp [AO, Ob.holds]
 subst hB
 exact zr
theorem enters153 : Enters Tryz.prog 153 := fun _ _ => by kernel_rfl
theorem ixG_s (A : Option Addr) (n c : Nat) (f : Nat → GotA) (hin : ∀ j, j < n → InG (f j)) : Spec Tryz.prog 153 [gotsV A n c f, .fn 112 [] []] (fun x => .int .i64 (if allGot n f = true then -1 else (x.b : Int))) := by
 intro m w hm hargs
 have hlen := ok_len (hargs (gotsV A n c f) (by simp))
 have hmx : maxLen = 9223372036854775807 := rfl
 refine enter hm hargs Tryz.func153 rfl (by simp [Tryz.ntmps153]) fun a0 hF => ?_
 simp only [Tryz.ntmps153, startT] at hF
 obtain ⟨B, hB⟩ := eqv (std)
 apply wp_seq
 apply rgB hB TA_ok [0, 1] [] [] hF
 ·intro A X; conv => lhs; cbv
 ·intro X; subst hB; simp [AO, Ob.holds, BE.den, std, sC, sAr] <;> omega
 intro X0 a0 w1 hF
 refine wp_seq (wp_seq ?_)
 apply rgB hB TA_ok [8, 0, 1, 7] [] [] hF
 ·intro A X; conv => lhs; cbv
 ·intro X; subst hB; simp [AO, Ob.holds, BE.den, std, sC, sAr] <;> omega
 intro X1 a0 w1 hF
 refine wp_block ?_
 refine loop_pre (ι := Nat) (fun p => [(8, .int .i64 (p : Int))]) (fun p => []) (fun p => []) (fun p => p ≤ n ∧ ∀ j, j < p → isGotB (f j) = true) (fun p => n - p) 0 ⟨Nat.zero_le _, fun i hi => absurd hi (Nat.not_lt_zero _)⟩ hF ?_
 rintro i ⟨hi, hall⟩ a0 w1 hF
 try dsimp only at hi
 try dsimp only at hall
 apply wp_seq
 apply rgB hB TA_ok [9, 0, 1, 7, 8] [] [] hF
 ·intro A X; conv => lhs; cbv
 ·intro X; subst hB; simp [AO, Ob.holds, BE.den, std, sC, sAr] <;> omega
 intro X2 a0 w1 hF
 apply wp_seq
 apply test_ok hF rfl <;> intro hb hF
 ·have hin_ : i < n := by
   have : (i : Int) < (n : Int) := by subst hB; simpa [std, sC] using hb
   omega
  have S := odd_s (f i) (hin i hin_)
  obtain ⟨q, hq⟩ := eqv (isGotB (f i))
  rw [← hq] at S
  refine wp_skip ?_
  apply wp_seq
  refine wp_block ?_
  apply wp_seq
  apply rgB hB TA_ok [0, 1, 5, 7, 8] [] [] hF
  ·intro A X; conv => lhs; cbv
  ·intro X; subst hB; simp [AO, Ob.holds, BE.den, std, sC, sAr] <;> omega
  intro X3 a0 w1 hF
  apply wp_seq
  apply rgB hB TA_ok [16, 0, 1, 5, 7, 8] [] [(5, .r fun _ => .bool (.v (!q)))] hF
  ·intro A X; conv => lhs; cbv
  ·intro X; subst hB; simp only [AO, Ob.holds, BE.den] <;> (and_intros <;> repeat first | trivial | rfl | exact (show (0 : Int) ≤ (i : Int) by omega) | exact (show (i : Int) < (n : Int) by omega) | exact enters112 | exact S | exact ⟨(show (0 : Int) ≤ (i : Int) by omega), (show (i : Int) < (n : Int) by omega)⟩ | refine ⟨?_, ?_⟩ | intro h)
  intro X4 a0 w1 hF
  apply test_ok hF rfl <;> intro hb hF
  ·have hne : isGotB (f i) = false := by
    rw [← hq]; have : (!q) = true := hb
    simpa using this
   apply wp_seq
   apply rgB hB TA_ok [4] [] [] hF
   ·intro A X; conv => lhs; cbv
   ·intro X; subst hB; simp [AO, Ob.holds, BE.den, std, sC, sAr] <;> omega
   intro X5 a0 w1 hF
   refine wp_ret ?_
   refine ret_spec (fn := Tryz.f153) TA_ok hF (rs := [.tmp 4]) rfl (rfl) ?_ (⟨i, fun _ => none, fun _ => 0, fun _ => .empty⟩) ?_
   ·subst hB; simp [AO, Ob.holds]
   subst hB
   rw [allGot_no hin_ hne]; rfl
  have hne : isGotB (f i) = true := by
   rw [← hq]; have : (!q) = false := hb
   simpa using this
  refine wp_skip ?_
  apply rgB hB TA_ok [8, 0, 1, 7] [] [] hF
  ·intro A X; conv => lhs; cbv
  ·intro X; subst hB; simp [AO, Ob.holds, BE.den, std, sC, sAr] <;> omega
  intro X6 a0 w1 hF
  have e : B.arith .add .i64 (i : Int) 1 = ((i + 1 : Nat) : Int) := by subst hB; exact wrap_succ (n := n) hin_ (by omega)
  refine ⟨i + 1, ⟨by omega, fun j hj => ?_⟩, by omega, by rw [← e]; exact hF⟩
  by_cases hij : j = i
  ·rw [hij]; exact hne
  exact hall j (by omega)
 have hout : i = n := by
  have : ¬ (i : Int) < (n : Int) := by subst hB; simpa [std, sC] using hb
  omega
 refine wp_exit ?_
 apply wp_seq
 apply rgB hB TA_ok [4] [] [] hF
 ·intro A X; conv => lhs; cbv
 ·intro X; subst hB; simp [AO, Ob.holds, BE.den, std, sC, sAr] <;> omega
 intro X7 a0 w1 hF
 refine wp_ret ?_
 refine ret_spec (fn := Tryz.f153) TA_ok hF (rs := [.tmp 4]) rfl (rfl) ?_ nAt ?_
 ·subst hB; simp [AO, Ob.holds]
 subst hB
 rw [hout] at hall
 rw [allGot_yes hall]; rfl
theorem enters114 : Enters Tryz.prog 114 := fun _ _ => by kernel_rfl
theorem ctG_s (A : Option Addr) (n c : Nat) (f : Nat → GotA) (hin : ∀ j, j < n → InG (f j)) : Spec Tryz.prog 114 [gotsV A n c f, .fn 112 [] []] (fun _ => .bool (.v (!allGot n f))) := by
 intro m w hm hargs
 have S0 := ixG_s A n c f hin
 obtain ⟨q, hq⟩ := eqv (allGot n f)
 rw [← hq] at S0 ⊢
 refine enter hm hargs Tryz.func114 rfl (by simp [Tryz.ntmps114]) fun a0 hF => ?_
 simp only [Tryz.ntmps114, startT] at hF
 obtain ⟨B, hB⟩ := eqv (std)
 apply wp_seq
 apply rgB hB TA_ok [0, 1] [] [] hF
 ·intro A X; conv => lhs; cbv
 ·intro X; subst hB; simp [AO, Ob.holds, BE.den, std, sC, sAr] <;> omega
 intro X0 a0 w1 hF
 apply wp_seq
 apply rgB hB TA_ok [4] [] [(2, .r fun x => .int .i64 (if q = true then -1 else (x.b : Int)))] hF
 ·intro A X; conv => lhs; cbv
 ·intro X; subst hB; simp only [AO, Ob.holds, BE.den] <;> (and_intros <;> repeat first | trivial | rfl | exact enters153 | exact S0 | refine ⟨?_, ?_⟩ | intro h)
 intro X1 a0 w1 hF
 refine wp_ret ?_
 refine ret_sim (fn := Tryz.f114) TA_ok hF (rs := [.tmp 4]) rfl (rfl) ?_ nAt ?_
 ·simp [AO, Ob.holds]
 subst hB
 refine Sim.bool ?_
 show decide ((if q = true then -1 else (((X1 2).b : Nat) : Int)) ≥ 0) = !q
 cases q
 ·simp
 rfl
theorem enters74 : Enters Tryz.prog 74 := fun _ _ => by kernel_rfl
theorem drt_s (J : JobA) (hl : U64 J.lab.bits) (A : Option Addr) (n c : Nat) (f : Nat → GotA) (hin : ∀ j, j < n → InG (f j)) : Spec Tryz.prog 74 [jobV J, gotsV A n c f] (fun _ => .bool (.v (allGot n f && isJobB J))) := by
 intro m w hm hargs
 have hlen := ok_len (hargs (gotsV A n c f) (by simp))
 have hmx : maxLen = 9223372036854775807 := rfl
 have SJ := disJ_s J hl
 obtain ⟨ij, hij⟩ := eqv (isJobB J)
 rw [← hij] at SJ
 refine enter hm hargs Tryz.func74 rfl (by simp [Tryz.ntmps74]) fun a0 hF => ?_
 simp only [Tryz.ntmps74, startT] at hF
 obtain ⟨B, hB⟩ := eqv (std)
 apply wp_seq
 apply rgB hB TA_ok [1, 2] [2] [] hF
 ·intro A X; conv => lhs; cbv
 ·intro X; subst hB; simp [AO, Ob.holds, BE.den, std, sC, sAr] <;> omega
 intro X0 a0 w1 hF
 refine wp_seq (wp_seq ?_)
 apply rgB hB TA_ok [5, 1, 2] [2] [] hF
 ·intro A X; conv => lhs; cbv
 ·intro X; subst hB; simp [AO, Ob.holds, BE.den, std, sC, sAr] <;> omega
 intro X1 a0 w1 hF
 refine wp_block ?_
 refine loop_pre (ι := Nat) (fun p => [(5, .int .i64 (p : Int))]) (fun p => []) (fun p => []) (fun p => p ≤ n ∧ ∀ j, j < p → isGotB (f j) = true) (fun p => n - p) 0 ⟨Nat.zero_le _, fun i hi => absurd hi (Nat.not_lt_zero _)⟩ hF ?_
 rintro i ⟨hi, hall⟩ a0 w1 hF
 try dsimp only at hi
 try dsimp only at hall
 refine wp_seq (wp_seq ?_)
 apply rgB hB TA_ok [9, 1, 2, 5] [2] [] hF
 ·intro A X; conv => lhs; cbv
 ·intro X; subst hB; simp only [AO, Ob.holds, BE.den] <;> and_intros <;> intros <;> trivial
 intro X2 a0 w1 hF
 apply test_ok hF rfl <;> intro hb hF
 ·have hin_ : i < n := by
   have : (i : Int) < (n : Int) := by subst hB; simpa [std, sC] using hb
   omega
  have S := disG_s (f i) (hin i hin_)
  obtain ⟨q, hq⟩ := eqv (isGotB (f i))
  rw [← hq] at S
  refine wp_skip ?_
  apply wp_seq
  refine wp_block ?_
  apply wp_seq
  apply rgB hB TA_ok [17, 1, 2, 5] [2] [(4, .r fun _ => .bool (.v q))] hF
  ·intro A X; conv => lhs; cbv
  ·intro X; subst hB; simp only [AO, Ob.holds, BE.den] <;> (and_intros <;> repeat first | trivial | rfl | exact (show (0 : Int) ≤ (i : Int) by omega) | exact (show (i : Int) < (n : Int) by omega) | exact enters33 | exact S | exact ⟨(show (0 : Int) ≤ (i : Int) by omega), (show (i : Int) < (n : Int) by omega)⟩ | refine ⟨?_, ?_⟩ | intro h)
  intro X4 a0 w1 hF
  apply test_ok hF rfl <;> intro hb hF
  ·have hne : isGotB (f i) = false := by
    rw [← hq]; have : (!q) = true := by subst hB; exact hb
    simpa using this
   apply wp_seq
   apply rgB hB TA_ok [4] [] [] hF
   ·intro A X; conv => lhs; cbv
   ·intro X; subst hB; simp [AO, Ob.holds, BE.den, std, sC, sAr] <;> omega
   intro X5 a0 w1 hF
   refine wp_ret ?_
   refine ret_spec (fn := Tryz.f74) TA_ok hF (rs := [.tmp 4]) rfl (rfl) ?_ nAt ?_
   ·subst hB; simp [AO, Ob.holds]
   subst hB
   rw [allGot_no hin_ hne]; rfl
  have hne : isGotB (f i) = true := by
   rw [← hq]; have : (!q) = false := by subst hB; exact hb
   simpa using this
  refine wp_skip ?_
  apply rgB hB TA_ok [5, 1, 2] [2] [] hF
  ·intro A X; conv => lhs; cbv
  ·intro X; subst hB; simp [AO, Ob.holds, BE.den, std, sC, sAr] <;> omega
  intro X3 a0 w1 hF
  have e : B.arith .add .i64 (i : Int) 1 = ((i + 1 : Nat) : Int) := by subst hB; exact wrap_succ (n := n) hin_ (by omega)
  refine ⟨i + 1, ⟨by omega, fun j hj => ?_⟩, by omega, by rw [← e]; exact hF⟩
  by_cases hij : j = i
  ·rw [hij]; exact hne
  exact hall j (by omega)
 have hout : i = n := by
  have : ¬ (i : Int) < (n : Int) := by subst hB; simpa [std, sC] using hb
  omega
 refine wp_exit ?_
 apply wp_seq
 apply rgB hB TA_ok [4] [] [(1, .r fun _ => .bool (.v ij))] hF
 ·intro A X; conv => lhs; cbv
 ·intro X; subst hB; simp only [AO, Ob.holds, BE.den] <;> (and_intros <;> repeat first | trivial | rfl | exact enters31 | exact SJ | refine ⟨?_, ?_⟩ | intro h)
 intro X6 a0 w1 hF
 refine wp_ret ?_
 refine ret_spec (fn := Tryz.f74) TA_ok hF (rs := [.tmp 4]) rfl (rfl) ?_ nAt ?_
 ·subst hB; simp [AO, Ob.holds]
 subst hB
 rw [hout] at hall
 rw [allGot_yes hall, ← hij]; rfl
theorem enters115 : Enters Tryz.prog 115 := fun _ _ => by kernel_rfl
theorem nx2_no0 (Q q0 : WntA) (e : Int) (b8 b9 b11 br : Nat) (J : JobA) (A : Option Addr) (c : Nat) (p : Pst) (hz : p.n = 0) : SpecU Tryz.prog 115 .returning .returning .nili [.ptr 8 b8 0, .ptr 11 b11 0, .ptr 9 b9 0] [(8, ⟨b8, 58, wntC q0⟩), (11, ⟨b11, 164, [.ptr 32 br 0]⟩), (9, ⟨b9, 25, [.int .i64 e]⟩), (32, ⟨br, 166, runC J A c p⟩)] (fun _ => ⟨.tup [], [(8, wntC q0), (11, [.ptr 32 br 0]), (9, [.int .i64 e]), (32, runC J A c p)], []⟩) := by
 intro m w hm hargs hpre hx
 refine enterRec .no hm hpre hargs hx Tryz.func115 (by exact rfl) (by exact rfl) (by exact rfl) (by exact rfl) (by exact rfl) (by simp [Tryz.ntmps115]) (by simp [Tryz.ntmps115]) fun a0 hF => ?_
 simp only [Tryz.ntmps115, startT, St.put] at hF
 obtain ⟨B, hB⟩ := eqv (std)
 refine wp_block ?_
 apply wp_seq
 apply rgB hB TA_ok [8, 6, 0, 1, 2] [8, 11, 9, 32] [] hF
 ·intro A X; conv => lhs; cbv
 ·intro X; subst hB; simp only [AO, Ob.holds, BE.den] <;> and_intros <;> intros <;> trivial
 intro X3 a0 w1 hF
 refine test_tt hF rfl (fun hF => ?_)
 apply rgB hB TA_ok [0, 1, 2] [8, 11, 9, 32] [] hF
 ·intro A X; conv => lhs; cbv
 ·intro X; subst hB; simp only [AO, Ob.holds, BE.den] <;> and_intros <;> intros <;> trivial
 intro X4 a0 w1 hF
 apply wp_seq
 apply rgB hB TA_ok [18, 0, 2] [8, 11, 9, 32] [] hF
 ·intro A X; conv => lhs; cbv
 ·intro X; subst hB; simp only [AO, Ob.holds, BE.den] <;> and_intros <;> intros <;> trivial
 intro X8 a0 w1 hF
 apply test_ok hF rfl <;> intro hb hF
 ·exfalso
  have ht : 0 < p.n := by
   have : (0 : Int) < (p.n : Int) := by subst hB; simpa [std, sC] using hb
   omega
  omega
 skip
 refine wp_skip ?_
 refine (ret_x (fn := Tryz.f115) TA_ok hF (rs := []) rfl (rfl) ?_ nAt [] ?_ ?_ ?_).2
 ·subst hB; simp [AO, Ob.holds]
 ·subst hB; exact zr
 ·subst hB; exact ⟨rfl, ⟨_, rfl, zl⟩, rfl, ⟨_, rfl, zl⟩, rfl, ⟨_, rfl, zl⟩, rfl, ⟨_, rfl, zl⟩, trivial⟩
 exact trivial
theorem nx2_no1 (Q q0 : WntA) (e : Int) (b8 b9 b11 br : Nat) (J : JobA) (A : Option Addr) (c : Nat) (p : Pst) (hz : 0 < p.n) : SpecU Tryz.prog 115 .returning .returning .nili [.ptr 8 b8 0, .ptr 11 b11 0, .ptr 9 b9 0] [(8, ⟨b8, 58, wntC q0⟩), (11, ⟨b11, 164, [.ptr 32 br 0]⟩), (9, ⟨b9, 25, [.int .i64 e]⟩), (32, ⟨br, 166, runC J A c p⟩)] (fun _ => ⟨.tup [], [(8, [.int .i64 0, .int .i64 0, .int .u64 0, .int .u64 0, .int .i64 0, .sl none none 0 0 2 (fun _ => []), .int .i64 0, .int .u64 0, .int .u64 0, .int .i64 0, .bool .ff, .str ⟨#[]⟩, .sl none none 0 0 2 (fun _ => []), .int .u64 0, .bool .ff]), (11, [.ptr 32 br 0]), (9, [.int .i64 5]), (32, runC J A c p)], []⟩) := by
 intro m w hm hargs hpre hx
 refine enterRec .no hm hpre hargs hx Tryz.func115 (by exact rfl) (by exact rfl) (by exact rfl) (by exact rfl) (by exact rfl) (by simp [Tryz.ntmps115]) (by simp [Tryz.ntmps115]) fun a0 hF => ?_
 simp only [Tryz.ntmps115, startT, St.put] at hF
 obtain ⟨B, hB⟩ := eqv (std)
 refine wp_block ?_
 apply wp_seq
 apply rgB hB TA_ok [8, 6, 0, 1, 2] [8, 11, 9, 32] [] hF
 ·intro A X; conv => lhs; cbv
 ·intro X; subst hB; simp only [AO, Ob.holds, BE.den] <;> and_intros <;> intros <;> trivial
 intro X3 a0 w1 hF
 refine test_tt hF rfl (fun hF => ?_)
 apply rgB hB TA_ok [0, 1, 2] [8, 11, 9, 32] [] hF
 ·intro A X; conv => lhs; cbv
 ·intro X; subst hB; simp only [AO, Ob.holds, BE.den] <;> and_intros <;> intros <;> trivial
 intro X4 a0 w1 hF
 apply wp_seq
 apply rgB hB TA_ok [18, 0, 2] [8, 11, 9, 32] [] hF
 ·intro A X; conv => lhs; cbv
 ·intro X; subst hB; simp only [AO, Ob.holds, BE.den] <;> and_intros <;> intros <;> trivial
 intro X8 a0 w1 hF
 apply test_ok hF rfl <;> intro hb hF
 ·skip
  apply rgB hB TA_ok [] [8, 11, 9, 32] [] hF
  ·intro A X; conv => lhs; cbv
  ·intro X; subst hB; simp only [AO, Ob.holds, BE.den] <;> and_intros <;> intros <;> trivial
  intro X9 a0 w1 hF
  refine (ret_x (fn := Tryz.f115) TA_ok hF (rs := []) rfl (rfl) ?_ nAt [] ?_ ?_ ?_).2
  ·subst hB; simp [AO, Ob.holds]
  ·subst hB; exact zr
  ·subst hB; exact ⟨rfl, ⟨_, rfl, zl⟩, rfl, ⟨_, rfl, zl⟩, rfl, ⟨_, rfl, zl⟩, rfl, ⟨_, rfl, zl⟩, trivial⟩
  exact trivial
 exfalso
 have ht : ¬ 0 < p.n := by
  have : ¬ (0 : Int) < (p.n : Int) := by subst hB; simpa [std, sC] using hb
  omega
 exact ht hz
theorem nx2_yes0 (Q q0 : WntA) (e : Int) (b8 b9 b11 br : Nat) (J : JobA) (A : Option Addr) (c : Nat) (p : Pst) (hz : p.n = 0) : SpecU Tryz.prog 115 (.panicking [{ v := .iface 58 (wntV Q).den, recovered := false }]) (.panicking [{ v := .iface 58 (wntV Q).den, recovered := true }]) (.ifc 58 (wntV Q)) [.ptr 8 b8 0, .ptr 11 b11 0, .ptr 9 b9 0] [(8, ⟨b8, 58, wntC q0⟩), (11, ⟨b11, 164, [.ptr 32 br 0]⟩), (9, ⟨b9, 25, [.int .i64 e]⟩), (32, ⟨br, 166, runC J A c p⟩)] (fun _ => ⟨.tup [], [(8, wntC Q), (11, [.ptr 32 br 0]), (9, [.int .i64 e]), (32, runC J A c p)], []⟩) := by
 intro m w hm hargs hpre hx
 refine enterRec (.yes 58 (wntV Q)) hm hpre hargs hx Tryz.func115 (by exact rfl) (by exact rfl) (by exact rfl) (by exact rfl) (by exact rfl) (by simp [Tryz.ntmps115]) (by simp [Tryz.ntmps115]) fun a0 hF => ?_
 simp only [Tryz.ntmps115, startT, St.put] at hF
 obtain ⟨B, hB⟩ := eqv (std)
 refine wp_block ?_
 apply wp_seq
 apply rgB hB TA_ok [8, 6, 0, 1, 2] [8, 11, 9, 32] [] hF
 ·intro A X; conv => lhs; cbv
 ·intro X; subst hB; simp only [AO, Ob.holds, BE.den] <;> and_intros <;> intros <;> trivial
 intro X3 a0 w1 hF
 refine test_ff hF rfl (fun hF => ?_)
 apply wp_seq
 refine wp_region_lit ?_
 obtain ⟨dd, hu, hni⟩ := (lookT_ok TA_ok (t := 58) rfl).conc rfl
 refine man_tassert rfl rfl rfl rfl hF (Nat.le_of_ble_eq_true rfl) rfl hu hni ?_
 intro a0 hF
 apply leB 1 hB TA_ok [10, 11, 0, 1, 2] [8, 11, 9, 32] [] hF
 ·intro A X; conv => lhs; cbv
 ·intro X; subst hB; simp only [AO, Ob.holds, BE.den] <;> and_intros <;> intros <;> trivial
 intro X5 a0 w1 hF
 refine test_tt hF rfl (fun hF => ?_)
 apply wp_seq
 apply rgB hB TA_ok [0, 1, 2, 4] [8, 11, 9, 32, 4] [] hF
 ·intro A X; conv => lhs; cbv
 ·intro X; subst hB; simp only [AO, Ob.holds, BE.den] <;> and_intros <;> intros <;> trivial
 intro X6 a0 w1 hF
 apply rgB hB TA_ok [0, 1, 2] [8, 11, 9, 32] [] hF
 ·intro A X; conv => lhs; cbv
 ·intro X; subst hB; simp only [AO, Ob.holds, BE.den] <;> and_intros <;> intros <;> trivial
 intro X7 a0 w1 hF
 apply wp_seq
 apply rgB hB TA_ok [18, 0, 2] [8, 11, 9, 32] [] hF
 ·intro A X; conv => lhs; cbv
 ·intro X; subst hB; simp only [AO, Ob.holds, BE.den] <;> and_intros <;> intros <;> trivial
 intro X8 a0 w1 hF
 apply test_ok hF rfl <;> intro hb hF
 ·exfalso
  have ht : 0 < p.n := by
   have : (0 : Int) < (p.n : Int) := by subst hB; simpa [std, sC] using hb
   omega
  omega
 skip
 refine wp_skip ?_
 refine (ret_x (fn := Tryz.f115) TA_ok hF (rs := []) rfl (rfl) ?_ nAt [] ?_ ?_ ?_).2
 ·subst hB; simp [AO, Ob.holds]
 ·subst hB; exact zr
 ·subst hB; exact ⟨rfl, ⟨_, rfl, zl⟩, rfl, ⟨_, rfl, zl⟩, rfl, ⟨_, rfl, zl⟩, rfl, ⟨_, rfl, zl⟩, trivial⟩
 exact trivial
theorem nx2_yes1 (Q q0 : WntA) (e : Int) (b8 b9 b11 br : Nat) (J : JobA) (A : Option Addr) (c : Nat) (p : Pst) (hz : 0 < p.n) : SpecU Tryz.prog 115 (.panicking [{ v := .iface 58 (wntV Q).den, recovered := false }]) (.panicking [{ v := .iface 58 (wntV Q).den, recovered := true }]) (.ifc 58 (wntV Q)) [.ptr 8 b8 0, .ptr 11 b11 0, .ptr 9 b9 0] [(8, ⟨b8, 58, wntC q0⟩), (11, ⟨b11, 164, [.ptr 32 br 0]⟩), (9, ⟨b9, 25, [.int .i64 e]⟩), (32, ⟨br, 166, runC J A c p⟩)] (fun _ => ⟨.tup [], [(8, [.int .i64 0, .int .i64 0, .int .u64 0, .int .u64 0, .int .i64 0, .sl none none 0 0 2 (fun _ => []), .int .i64 0, .int .u64 0, .int .u64 0, .int .i64 0, .bool .ff, .str ⟨#[]⟩, .sl none none 0 0 2 (fun _ => []), .int .u64 0, .bool .ff]), (11, [.ptr 32 br 0]), (9, [.int .i64 5]), (32, runC J A c p)], []⟩) := by
 intro m w hm hargs hpre hx
 refine enterRec (.yes 58 (wntV Q)) hm hpre hargs hx Tryz.func115 (by exact rfl) (by exact rfl) (by exact rfl) (by exact rfl) (by exact rfl) (by simp [Tryz.ntmps115]) (by simp [Tryz.ntmps115]) fun a0 hF => ?_
 simp only [Tryz.ntmps115, startT, St.put] at hF
 obtain ⟨B, hB⟩ := eqv (std)
 refine wp_block ?_
 apply wp_seq
 apply rgB hB TA_ok [8, 6, 0, 1, 2] [8, 11, 9, 32] [] hF
 ·intro A X; conv => lhs; cbv
 ·intro X; subst hB; simp only [AO, Ob.holds, BE.den] <;> and_intros <;> intros <;> trivial
 intro X3 a0 w1 hF
 refine test_ff hF rfl (fun hF => ?_)
 apply wp_seq
 refine wp_region_lit ?_
 obtain ⟨dd, hu, hni⟩ := (lookT_ok TA_ok (t := 58) rfl).conc rfl
 refine man_tassert rfl rfl rfl rfl hF (Nat.le_of_ble_eq_true rfl) rfl hu hni ?_
 intro a0 hF
 apply leB 1 hB TA_ok [10, 11, 0, 1, 2] [8, 11, 9, 32] [] hF
 ·intro A X; conv => lhs; cbv
 ·intro X; subst hB; simp only [AO, Ob.holds, BE.den] <;> and_intros <;> intros <;> trivial
 intro X5 a0 w1 hF
 refine test_tt hF rfl (fun hF => ?_)
 apply wp_seq
 apply rgB hB TA_ok [0, 1, 2, 4] [8, 11, 9, 32, 4] [] hF
 ·intro A X; conv => lhs; cbv
 ·intro X; subst hB; simp only [AO, Ob.holds, BE.den] <;> and_intros <;> intros <;> trivial
 intro X6 a0 w1 hF
 apply rgB hB TA_ok [0, 1, 2] [8, 11, 9, 32] [] hF
 ·intro A X; conv => lhs; cbv
 ·intro X; subst hB; simp only [AO, Ob.holds, BE.den] <;> and_intros <;> intros <;> trivial
 intro X7 a0 w1 hF
 apply wp_seq
 apply rgB hB TA_ok [18, 0, 2] [8, 11, 9, 32] [] hF
 ·intro A X; conv => lhs; cbv
 ·intro X; subst hB; simp only [AO, Ob.holds, BE.den] <;> and_intros <;> intros <;> trivial
 intro X8 a0 w1 hF
 apply test_ok hF rfl <;> intro hb hF
 ·skip
  apply rgB hB TA_ok [] [8, 11, 9, 32] [] hF
  ·intro A X; conv => lhs; cbv
  ·intro X; subst hB; simp only [AO, Ob.holds, BE.den] <;> and_intros <;> intros <;> trivial
  intro X9 a0 w1 hF
  refine (ret_x (fn := Tryz.f115) TA_ok hF (rs := []) rfl (rfl) ?_ nAt [] ?_ ?_ ?_).2
  ·subst hB; simp [AO, Ob.holds]
  ·subst hB; exact zr
  ·subst hB; exact ⟨rfl, ⟨_, rfl, zl⟩, rfl, ⟨_, rfl, zl⟩, rfl, ⟨_, rfl, zl⟩, rfl, ⟨_, rfl, zl⟩, trivial⟩
  exact trivial
 exfalso
 have ht : ¬ 0 < p.n := by
  have : ¬ (0 : Int) < (p.n : Int) := by subst hB; simpa [std, sC] using hb
  omega
 exact ht hz
theorem sim_can {v v' : AV} (h : Sim v v') : Sim (can v) (can v') :=
 ⟨by rw [can_den, can_den]; exact h.1, by rw [can_one, can_one]; exact h.2.1, fun m w hv => (can_ok _).1 (h.2.2 _ _ ((can_ok _).2 hv))⟩
def dN (b8 b11 b9 : Nat) : Deferred := { target := .fn (.func 115) (AV.denL [.ptr 8 b8 0, .ptr 11 b11 0, .ptr 9 b9 0]).toArray, args := (AV.denL []).toArray }
def nxOut (r : Rs Rsl) : Atom → Out := fun x => .ret ⟨.tup [wntV (wqA x (toldM r).1), .int .i64 (toldM r).2], [], []⟩
theorem dptrs_ok {m : Nat → Nat → Prop} {w : World} {b8 b11 b9 : Nat} : ∀ v ∈ ([] : List AV) ++ [.ptr 8 b8 0, .ptr 11 b11 0, .ptr 9 b9 0], Ok m w v := by
 intro v hv
 simp only [List.nil_append, List.mem_cons, List.not_mem_nil, or_false] at hv
 rcases hv with rfl | rfl | rfl <;> exact .ptr _ _ _
section
variable {m : Nat → Nat → Prop} {w0 w : World} {a : Act} {b8 b9 b11 br : Nat} {q0 Q : WntA} {J : JobA} {A : Option Addr} {c : Nat} {p : Pst} {r : Rs Rsl}
theorem nx_thr {x : Atom} {wq : Wq} (h : Fits ⟨m, w0, ats [], [dN b8 b11 b9], noK⟩ ⟨49, [(8, .ptr 8 b8 0), (9, .ptr 9 b9 0)], [], [(8, ⟨b8, 58, wntC q0⟩), (9, ⟨b9, 25, [.int .i64 0]⟩), (11, ⟨b11, 164, [.ptr 32 br 0]⟩), (32, ⟨br, 166, runC J A c p⟩)], []⟩ a w) (hok : Ok (St.m ⟨49, [(8, .ptr 8 b8 0), (9, .ptr 9 b9 0)], [], [(8, ⟨b8, 58, wntC q0⟩), (9, ⟨b9, 25, [.int .i64 0]⟩), (11, ⟨b11, 164, [.ptr 32 br 0]⟩), (32, ⟨br, 166, runC J A c p⟩)], []⟩ ⟨m, w0, ats [], [], noK⟩) w (wntV Q)) (hQ : Q = wqA x wq) (hr : r = .stop wq p) :
  bodyPostD Tryz.prog Tryz.f72 (OPost m w0 [] (nxOut r)) (.panic [{ v := .iface 58 (wntV Q).den, recovered := false }]) a w := by
 subst hr
 show Leaves _ _ a.tmps _ a.defers (.panicking _) w
 by_cases hz : p.n = 0
 ·have ht : toldM (.stop wq p) = (wq, 0) := by simp [toldM, hz]
  refine leave_u (C := ⟨m, w0, ats [], [], noK⟩) (l := []) (r := [.ptr 8 b8 0, .ptr 11 b11 0, .ptr 9 b9 0]) (ds := []) (x := (.ifc 58 (wntV Q))) h (by simp) enters115 (nx2_yes0 Q q0 0 b8 b9 b11 br J A c p hz) dptrs_ok (.ifc _ _ hok) (by intro e he; simp only [List.mem_cons, List.not_mem_nil, or_false] at he; rcases he with rfl | rfl | rfl | rfl <;> rfl) rfl fun w2 h2 => ?_
  show Leaves _ _ a.tmps _ [] .returning w2
  refine leave_end (a := { tmps := a.tmps, defers := [] }) TA_ok h2 (rs := [.cell 8 58, .cell 9 25]) rfl (by conv => lhs; cbv) ?_ x rfl [] ?_ trivial trivial
  ·simp [AO, Ob.holds]
  rw [ht, hQ]; exact zr
 have hz : 0 < p.n := by omega
 have ht : toldM (.stop wq p) = (zWq, 5) := by simp [toldM, hz]
 refine leave_u (C := ⟨m, w0, ats [], [], noK⟩) (l := []) (r := [.ptr 8 b8 0, .ptr 11 b11 0, .ptr 9 b9 0]) (ds := []) (x := (.ifc 58 (wntV Q))) h (by simp) enters115 (nx2_yes1 Q q0 0 b8 b9 b11 br J A c p hz) dptrs_ok (.ifc _ _ hok) (by intro e he; simp only [List.mem_cons, List.not_mem_nil, or_false] at he; rcases he with rfl | rfl | rfl | rfl <;> rfl) rfl fun w2 h2 => ?_
 show Leaves _ _ a.tmps _ [] .returning w2
 refine leave_end (a := { tmps := a.tmps, defers := [] }) TA_ok h2 (rs := [.cell 8 58, .cell 9 25]) rfl (by conv => lhs; cbv) ?_ ⟨0, fun _ => none, fun _ => 0, fun _ => .empty⟩ rfl [] ?_ trivial trivial
 ·simp [AO, Ob.holds]
 rw [ht]; exact Sim.tup ⟨Sim.agg ⟨zr, zr, zr, zr, zr, zq0, zr, zr, zr, zr, zr, zr, zq0, zr, zr, trivial⟩, zr, trivial⟩
theorem nx_ret {x : Atom} {r1 : Rsl} (h : Fits ⟨m, w0, ats [], [dN b8 b11 b9], noK⟩ ⟨49, [(8, .ptr 8 b8 0), (9, .ptr 9 b9 0)], [], [(8, ⟨b8, 58, wntC q0⟩), (9, ⟨b9, 25, [.int .i64 0]⟩), (11, ⟨b11, 164, [.ptr 32 br 0]⟩), (32, ⟨br, 166, runC J A c p⟩)], []⟩ a w) (hq : Sim (wntV q0) (wntV (wqA x ⟨4, ⟨0, 0⟩, 0, zeroRec, r1⟩))) (hr : r = .ok r1 p) :
  bodyPostD Tryz.prog Tryz.f72 (OPost m w0 [] (nxOut r)) .ret a w := by
 subst hr
 show Leaves _ _ a.tmps _ a.defers .returning w
 by_cases hz : p.n = 0
 ·have ht : toldM (.ok r1 p) = (⟨4, ⟨0, 0⟩, 0, zeroRec, r1⟩, 0) := by simp [toldM, hz]
  refine leave_u (C := ⟨m, w0, ats [], [], noK⟩) (l := []) (r := [.ptr 8 b8 0, .ptr 11 b11 0, .ptr 9 b9 0]) (ds := []) (x := .nili) h (by simp) enters115 (nx2_no0 q0 q0 0 b8 b9 b11 br J A c p hz) dptrs_ok .nili (by intro e he; simp only [List.mem_cons, List.not_mem_nil, or_false] at he; rcases he with rfl | rfl | rfl | rfl <;> rfl) rfl fun w2 h2 => ?_
  show Leaves _ _ a.tmps _ [] .returning w2
  refine leave_end (a := { tmps := a.tmps, defers := [] }) TA_ok h2 (rs := [.cell 8 58, .cell 9 25]) rfl (by conv => lhs; cbv) ?_ x rfl [] ?_ trivial trivial
  ·simp [AO, Ob.holds]
  rw [ht]; exact Sim.tup ⟨sim_can hq, zr, trivial⟩
 have hz : 0 < p.n := by omega
 have ht : toldM (.ok r1 p) = (zWq, 5) := by simp [toldM, hz]
 refine leave_u (C := ⟨m, w0, ats [], [], noK⟩) (l := []) (r := [.ptr 8 b8 0, .ptr 11 b11 0, .ptr 9 b9 0]) (ds := []) (x := .nili) h (by simp) enters115 (nx2_no1 q0 q0 0 b8 b9 b11 br J A c p hz) dptrs_ok .nili (by intro e he; simp only [List.mem_cons, List.not_mem_nil, or_false] at he; rcases he with rfl | rfl | rfl | rfl <;> rfl) rfl fun w2 h2 => ?_
 show Leaves _ _ a.tmps _ [] .returning w2
 refine leave_end (a := { tmps := a.tmps, defers := [] }) TA_ok h2 (rs := [.cell 8 58, .cell 9 25]) rfl (by conv => lhs; cbv) ?_ ⟨0, fun _ => none, fun _ => 0, fun _ => .empty⟩ rfl [] ?_ trivial trivial
 ·simp [AO, Ob.holds]
 rw [ht]; exact Sim.tup ⟨Sim.agg ⟨zr, zr, zr, zr, zr, zq0, zr, zr, zr, zr, zr, zr, zq0, zr, zr, trivial⟩, zr, trivial⟩
end
theorem enters72 : Enters Tryz.prog 72 := fun _ _ => by kernel_rfl
theorem next_d (F : FuncId) (r : Rs Rsl) (J : JobA) (hJ : JobIn J) (A : Option Addr) (n c : Nat) (f : Nat → GotA) (hn : n ≤ 900000) (hin : ∀ j, j < n → InG (f j)) (kG : Option Nat) (kA : Option Addr) (kn kc : Nat) (kf : Nat → Int) (hdo : (isJobB J && anyF kn kf J.kind && allGot n f) = true → ∀ k0 b, RunA F k0 b (J.less n) A c (pst0 n f) [] r) (hen : Enters Tryz.prog F) : SpecO Tryz.prog 72 [jobV J, gotsV A n c f, .sl kG kA kn kc 1 (fun i => [.int .i64 (kf i)]), .fn F [] []] [] (fun x => .ret ⟨.tup [wntV (wqA x (nextR (isJobB J && anyF kn kf J.kind && allGot n f) r).1), .int .i64 (nextR (isJobB J && anyF kn kf J.kind && allGot n f) r).2], [], []⟩) := by
 intro m w hm hargs hpre
 have S1 := isJ_s J hJ.lab
 have S2 : Spec Tryz.prog 113 [.sl kG kA kn kc 1 (fun i => [.int .i64 (kf i)]), .int .i64 J.kind] (fun _ => .bool (.v (anyF kn kf J.kind))) := (coni_s kA kn kc kf J.kind).sim ⟨Sim.recell (fun _ _ => rfl), zr, trivial⟩
 have S3 := ctG_s A n c f hin
 obtain ⟨okb, hokb⟩ := eqv ((isJobB J && anyF kn kf J.kind && allGot n f))
 rw [← hokb] at hdo ⊢
 obtain ⟨ij, hij⟩ := eqv (isJobB J)
 rw [← hij] at S1 hokb
 obtain ⟨ck, hck⟩ := eqv (anyF kn kf J.kind)
 rw [← hck] at S2 hokb
 obtain ⟨ag, hag⟩ := eqv (allGot n f)
 rw [← hag] at S3 hokb
 refine enterD hm hpre hargs Tryz.func72 rfl (by simp [Tryz.ntmps72]) fun a0 hF => ?_
 simp only [Tryz.ntmps72, startT] at hF
 obtain ⟨B, hB⟩ := eqv (std)
 apply wp_seq
 apply rgB hB TA_ok [1, 2, 3, 4, 8, 9] [4, 8, 9] [] hF
 ·intro A X; conv => lhs; cbv
 ·intro X; subst hB; simp [AO, Ob.holds, BE.den, std, sC, sAr] <;> omega
 intro X0 a0 w1 hF
 apply wp_seq
 apply rgB hB TA_ok [1, 2, 3, 4, 8, 9, 10] [4, 8, 9] [] hF
 ·intro A X; conv => lhs; cbv
 ·intro X; subst hB; simp [AO, Ob.holds, BE.den, std, sC, sAr] <;> omega
 intro X1 a0 w1 hF
 refine wp_seq (wp_seq ?_)
 apply rgB hB TA_ok [26, 1, 3, 4, 8, 9] [4, 8, 9] [(1, .r fun _ => .bool (.v ij)), (7, .r fun _ => .bool (.v ck)), (13, .r fun _ => .bool (.v (!ag)))] hF
 ·intro A X; conv => lhs; cbv
 ·intro X; subst hB; simp only [AO, Ob.holds, BE.den] <;> (and_intros <;> repeat first | trivial | rfl | exact enters85 | exact S1 | exact enters113 | exact S2 | exact enters114 | exact S3 | refine ⟨?_, ?_⟩ | intro h)
 intro X2 a0 w1 hF
 apply test_ok hF rfl <;> intro hb hF
 ·have hf : okb = false := by
   have h9 : (if (if (!ij) = true then true else !ck) = true then true else !ag) = true := by subst hB; exact hb
   rw [hokb]; cases ij <;> cases ck <;> cases ag <;> first | rfl | cases h9
  apply wp_seq
  apply rgB hB TA_ok [8, 9] [8, 9] [] hF
  ·intro A X; conv => lhs; cbv
  ·intro X; subst hB; simp only [AO, Ob.holds, BE.den] <;> and_intros <;> intros <;> trivial
  intro X3 a0 w1 hF
  refine wp_ret ?_
  refine ret_d (fn := Tryz.f72) TA_ok hF (rs := [.cell 8 58, .cell 9 25]) rfl (by conv => lhs; cbv) ?_ ⟨0, fun _ => none, fun _ => 0, fun _ => .empty⟩ rfl [] ?_ trivial trivial
  ·subst hB; simp [AO, Ob.holds]
  rw [hf]; subst hB; exact Sim.tup ⟨Sim.agg ⟨zr, zr, zr, zr, zr, zq0, zr, zr, zr, zr, zr, zr, zq0, zr, zr, trivial⟩, zr, trivial⟩
 have hf : okb = true := by
  have h9 : (if (if (!ij) = true then true else !ck) = true then true else !ag) = false := by subst hB; exact hb
  rw [hokb]; cases ij <;> cases ck <;> cases ag <;> first | rfl | cases h9
 have hjb : isJobB J = true := by
  rw [← hij]; rw [hokb] at hf; revert hf; cases ij <;> simp
 have hjo := job_ok hJ hjb hn
 have e1 : IntKind.i64.wrap (J.budget - (n : Int)) = (J.less n).budget := wrap_in (by have := hjo.lo; show -9223372036854775808 ≤ (J.less n).budget; omega) (by have := hjo.hi; show (J.less n).budget ≤ 9223372036854775807; omega)
 refine wp_skip ?_
 apply wp_seq
 apply rgB hB TA_ok [1, 3, 8, 9, 11] [32, 8, 9, 11] [] hF
 ·intro A X; conv => lhs; cbv
 ·intro X; subst hB; simp only [AO, Ob.holds, BE.den] <;> and_intros <;> intros <;> trivial
 intro X4 a0 w1 hF
 apply wp_seq
 apply rgB hB TA_ok [3, 8, 9, 11] [32, 8, 9, 11] [] hF
 ·intro A X; conv => lhs; cbv
 ·intro X; subst hB; simp only [AO, Ob.holds, BE.den] <;> and_intros <;> intros <;> trivial
 intro X5 a0 w1 hF
 replace hF := hF.memS (cells' := runC (J.less n) A c (pst0 n f)) (by subst hB; exact ⟨zr, zr, zr, zr, zr, zr, zr, zr, zr, zr, zr, zr, zr, zr, Sim.of_eq (congrArg (AV.int .i64) e1), zr, zr, Sim.ff, zr, zr, zr, zr, trivial⟩)
 apply wp_seq
 refine wp_region_lit ?_
 apply list_preB 0 1 hB TA_ok [44, 3, 8, 9, 11] [32, 8, 9, 11] [] hF
 ·intro A X; conv => lhs; cbv
 ·intro X; subst hB; simp only [AO, Ob.holds, BE.den] <;> and_intros <;> intros <;> trivial
 intro X6_0 a0 w1 hF
 refine man_defer rfl rfl rfl rfl rfl hF rfl rfl ?_
 intro a0 hF
 replace hF : Fits ⟨m, w, ats [], [dN (X0 1).b (X4 5).b (X0 2).b], noK⟩ _ _ _ := hF
 refine wpList_nil ?_
 apply wp_seq
 refine wp_region_lit ?_
 apply list_preB 0 2 hB TA_ok [45, 46, 8, 9] [32, 8, 9, 11] [] hF
 ·intro A X; conv => lhs; cbv
 ·intro X; subst hB; simp only [AO, Ob.holds, BE.den] <;> and_intros <;> intros <;> trivial
 intro X7_0 a0 w1 hF
 have SD := hdo hf 32 (X4 4).b
 rcases hmd : r with ⟨r1, p1⟩ | ⟨w1_, p1⟩
 ·obtain ⟨rl, hrl⟩ : ∃ y_, y_ = r1.items.length := ⟨_, rfl⟩
  obtain ⟨rf, hrf⟩ := eqv (itF r1.items)
  refine man_outT rfl rfl rfl rfl hF rfl rfl hen (SD.ok' hmd hrl hrf) (by subst hB; exact zl) (mem1 rfl) rfl rfl ?_
  intro x w' a0 hF
  apply leB 3 hB TA_ok [8, 9] [8, 9, 11, 32] [] hF
  ·intro A X; conv => lhs; cbv
  ·intro X; subst hB; first | exact trivial | (repeat (first | exact trivial | refine ⟨rfl, ?_⟩))
  intro X7 a0 w1 hF
  obtain ⟨q0, hq0⟩ := eqv ((⟨4, ⟨0, 0⟩, 0, zRA, ⟨r1.code, r1.had, r1.val, x.A 2, rl, x.c 2, rf, r1.key, r1.more⟩⟩ : WntA))
  replace hF := hF.memS (cells' := wntC q0) (by rw [hq0]; subst hB; exact ⟨zr, zr, zr, zr, zr, zq0, zr, zr, zr, zr, zr, zr, zr, zr, zr, trivial⟩)
  refine wp_ret ?_
  rw [show nextR okb (.ok r1 p1) = toldM (.ok r1 p1) by rw [hf]; rfl]
  exact nx_ret (x := ⟨0, fun i => if i = 1 then none else x.A i, fun i => if i = 1 then 0 else x.c i, fun _ => .empty⟩) (q0 := q0) (J := J.less n) (A := x.A 0) (c := x.c 0) (p := p1) hF (by rw [hq0, hrl, hrf]; exact Sim.agg ⟨zr, zr, zr, zr, zr, zq0, zr, zr, zr, zr, zr, zr, zr, zr, zr, trivial⟩) rfl
 refine man_outT rfl rfl rfl rfl hF rfl rfl hen (SD.stop hmd) (by subst hB; exact zl) (mem1 rfl) rfl rfl ?_
 intro x w' hF hok
 replace hF := hF.keep [8, 9] [8, 9, 11, 32]
 replace hF := hF.memS (cells' := wntC ⟨0, ⟨0, 0⟩, 0, zRA, zRes⟩) (by exact ⟨zr, zr, zr, zr, zr, zq0, zr, zr, zr, zr, Sim.ff, zr, zq0, zr, Sim.ff, trivial⟩)
 rw [show nextR okb (.stop w1_ p1) = toldM (.stop w1_ p1) by rw [hf]; rfl]
 refine nx_thr (x := x) (wq := w1_) (q0 := ⟨0, ⟨0, 0⟩, 0, zRA, zRes⟩) (J := J.less n) (A := x.A 0) (c := x.c 0) (p := p1) hF (hok.mono fun b o u h1 h2 => ⟨h1, fun hh => h2 ?_⟩) rfl rfl
 refine m_sub (fun _ _ h => h) ?_ rfl hh
 intro y hy
 simp only [List.mem_cons, List.not_mem_nil, or_false] at hy
 rcases hy with rfl | rfl | rfl | rfl <;> first | exact ⟨8, _, rfl, rfl⟩ | exact ⟨9, _, rfl, rfl⟩ | exact ⟨11, _, rfl, rfl⟩ | exact ⟨32, _, rfl, rfl⟩
theorem enters73 : Enters Tryz.prog 73 := fun _ _ => by kernel_rfl
theorem helps_m0 (b : Nat) (J : JobA) (hJ : JobOk J) (A : Option Addr) (c : Nat) (p : Pst) (hp : PstOk p) (hn : p.n ≤ 1000000) (hlab : LOk J.lab) : RunS 73 0 b J A c p [] (rslZ) (helpM J.bucket J.budget J p) := by
 intro m w hm hargs hpre
 refine enterX hm hpre hargs Tryz.func73 rfl (by simp [Tryz.ntmps73]) fun a0 hF => ?_
 simp only [Tryz.ntmps73, startT] at hF
 obtain ⟨B, hB⟩ := eqv (std)
 apply wp_seq
 apply rgB hB TA_ok [0, 2] [0, 2] [] hF
 ·intro A X; conv => lhs; cbv
 ·intro X; subst hB; simp [AO, Ob.holds, BE.den, std, sC, sAr] <;> omega
 intro X0 a0 w1 hF
 refine wp_seq (wp_seq ?_)
 apply rgB hB TA_ok [0, 2, 8] [0, 2] [] hF
 ·intro A X; conv => lhs; cbv
 ·intro X; subst hB; simp only [AO, Ob.holds, BE.den] <;> and_intros <;> intros <;> trivial
 intro X1 a0 w1 hF
 refine wp_block ?_
 apply wp_seq
 apply rgB hB TA_ok [9, 0, 2, 8] [0, 2] [] hF
 ·intro A X; conv => lhs; cbv
 ·intro X; subst hB; simp [AO, Ob.holds, BE.den, std, sC, sAr] <;> omega
 intro X2 a0 w1 hF
 apply test_ok hF rfl <;> intro hb hF
 ·have t1 : J.kind = 2 := by subst hB; simpa [std, sC] using hb
  have S3 := cln_c (p.n + 1) 0 b J hJ A c p hp hn J.lab hlab (Nat.lt_succ_self _)
  rcases hm3 : clnM J.budget (p.n + 1) J.lab p with ⟨v3, p3⟩ | ⟨w3, p3⟩
  rotate_left
  ·refine wp_region_lit ?_
   apply list_preB 0 6 hB TA_ok [11, 16] [0] [] hF
   ·intro A X; conv => lhs; cbv
   ·intro X; subst hB; first | exact trivial | (repeat (first | exact trivial | refine ⟨rfl, ?_⟩))
   intro X3_t a0 w1 hF
   refine man_outT rfl rfl rfl rfl hF rfl rfl enters116 (S3.stop hm3) (by subst hB; exact zl) (mem1 rfl) rfl rfl ?_
   intro x w' hF hok
   exact thr_m (P := Tryz.prog) (fn := Tryz.f73) hF hok (by simp [helpM, Rs.bind, t1, hm3]) ⟨rfl, ⟨_, rfl, zl⟩, trivial⟩
  have hs3 := (fro_cln _ _ _ _).of hm3
  have hp3 := hp.suf hs3
  have hn3 := Nat.le_trans hs3.le hn
  apply rgB hB TA_ok [2] [0, 2] [(6, .x fun x => ⟨unitV, [(0, runC J (x.A 0) (x.c 0) p3)], []⟩)] hF
  ·intro A X; conv => lhs; cbv
  ·intro X; subst hB; simp only [AO, Ob.holds, BE.den] <;> (and_intros <;> repeat first | trivial | rfl | exact enters116 | exact S3.ok hm3 | refine ⟨?_, ?_⟩ | intro h)
  intro X3 a0 w1 hF
  apply wp_seq
  apply rgB hB TA_ok [2] [0, 2] [] hF
  ·intro A X; conv => lhs; cbv
  ·intro X; subst hB; simp only [AO, Ob.holds, BE.den] <;> and_intros <;> intros <;> trivial
  intro X10 a0 w1 hF
  refine wp_ret ?_
  refine (ret_mm (fn := Tryz.f73) TA_ok hF (rs := [.cell 2 56]) rfl (by conv => lhs; cbv) ?_ ((X3 6).A 0) ((X3 6).c 0) (v := zRsl) (q := p3) (by simp [helpM, Rs.bind, t1, hm3]) ?_ ?_).1
  ·subst hB; simp [AO, Ob.holds]
  ·subst hB; exact zr
  subst hB; exact ⟨rfl, ⟨_, rfl, zl⟩, trivial⟩
 have t1 : ¬ J.kind = 2 := by subst hB; simpa [std, sC] using hb
 apply wp_seq
 apply rgB hB TA_ok [18, 0, 2] [0, 2] [] hF
 ·intro A X; conv => lhs; cbv
 ·intro X; subst hB; simp [AO, Ob.holds, BE.den, std, sC, sAr] <;> omega
 intro X4 a0 w1 hF
 apply test_ok hF rfl <;> intro hb hF
 ·have t2 : J.kind = 1 := by subst hB; simpa [std, sC] using hb
  apply wp_seq
  have S5 := get_m 0 b J hJ A c p hp hn J.lab
  rcases hm5 : getM J.budget J.lab p with ⟨g5, p5⟩ | ⟨w5, p5⟩
  rotate_left
  ·refine wp_region_lit ?_
   apply list_preB 0 6 hB TA_ok [20, 25] [0] [] hF
   ·intro A X; conv => lhs; cbv
   ·intro X; subst hB; first | exact trivial | (repeat (first | exact trivial | refine ⟨rfl, ?_⟩))
   intro X5_t a0 w1 hF
   refine man_outT rfl rfl rfl rfl hF rfl rfl enters117 (S5.stop hm5) (by subst hB; exact zl) (mem1 rfl) rfl rfl ?_
   intro x w' hF hok
   exact thr_m (P := Tryz.prog) (fn := Tryz.f73) hF hok (by simp [helpM, Rs.bind, t1, t2, hm5]) ⟨rfl, ⟨_, rfl, zl⟩, trivial⟩
  have hs5 := (fro_get _ _ _).of hm5
  have hp5 := hp.suf hs5
  have hn5 := Nat.le_trans hs5.le hn
  have hl5 := get_lt hm5
  have hg5 := hp.get hm5
  apply rgB hB TA_ok [0, 2, 3] [0, 2, 3] [(6, .x fun x => ⟨gotV g5, [(0, runC J (x.A 0) (x.c 0) p5)], []⟩)] hF
  ·intro A X; conv => lhs; cbv
  ·intro X; subst hB; simp only [AO, Ob.holds, BE.den] <;> (and_intros <;> repeat first | trivial | rfl | exact enters117 | exact S5.ok hm5 | refine ⟨?_, ?_⟩ | intro h)
  intro X5 a0 w1 hF
  refine wp_block ?_
  apply wp_seq
  obtain ⟨q6, hq6⟩ := eqv ((gk g5 3 || gk g5 4))
  apply rgB hB TA_ok [27, 0, 2, 3] [0, 2, 3, 29] [(2, .r fun _ => .bool (.v q6))] hF
  ·intro A X; conv => lhs; cbv
  ·intro X; subst hB; simp only [AO, Ob.holds, BE.den] <;> (and_intros <;> repeat first | trivial | rfl | exact enters118 | exact (by rw [hq6]; exact is2_s g5 _ _ 3 4 _ rfl rfl) | exact by rw [hq6]; exact is2_s g5 _ _ 3 4 _ rfl rfl | refine ⟨?_, ?_⟩ | intro h)
  intro X6 a0 w1 hF
  apply test_ok hF rfl <;> intro hb hF
  ·have tq6 : (gk g5 3 || gk g5 4) = true := by rw [← hq6]; exact hb
   have S7 := fin_c (p.n + 1) 0 b J hJ ((X5 6).A 0) ((X5 6).c 0) p5 hp5 hn5 J.lab hlab g5 hg5 (by have := hl5; omega)
   rcases hm7 : fnsM J.bucket J.budget (p.n + 1) J.lab g5 p5 with ⟨v7, p7⟩ | ⟨w7, p7⟩
   rotate_left
   ·apply drawn3_okB hB 7 none handOK_none (by kernel_rfl) TA_ok [31, 36, 37] [0] [] hF rfl
    case hex => intro A X; conv => lhs; cbv
    case hD => kernel_rfl
    case hZ => kernel_rfl
    case hlen => rfl
    case hob =>
     intro X
     subst hB; first | exact trivial | (repeat (first | exact trivial | refine ⟨rfl, ?_⟩))
    case hQ =>
    intro X7_t a0 w1 hF
    refine man_outT rfl rfl rfl rfl hF rfl rfl enters119 (S7.stop hm7) (by subst hB; exact zl) (mem1 rfl) rfl rfl ?_
    intro x w' hF hok
    exact thr_m (P := Tryz.prog) (fn := Tryz.f73) hF hok (by simp [helpM, Rs.bind, t1, t2, hm5, tq6, hm7]) ⟨rfl, ⟨_, rfl, zl⟩, trivial⟩
   have hs7 := (fro_fns _ _ _ _ _ _).of hm7
   have hp7 := hp5.suf hs7
   have hn7 := Nat.le_trans hs7.le hn5
   apply drB hB (by kernel_rfl) TA_ok [2] [0, 2] [(7, .x fun x => ⟨unitV, [(0, runC J (x.A 0) (x.c 0) p7)], []⟩)] hF rfl
   case hex => intro A X; conv => lhs; cbv
   case hD => kernel_rfl
   case hlen => rfl
   case hob =>
    intro X
    subst hB
    simp only [AO, Ob.holds, BE.den] <;> (and_intros <;> repeat first | trivial | rfl | exact enters119 | exact S7.ok hm7 | refine ⟨?_, ?_⟩ | intro h)
   case hQ =>
   intro X7 a0 w1 hF
   apply wp_seq
   apply rgB hB TA_ok [2] [0, 2] [] hF
   ·intro A X; conv => lhs; cbv
   ·intro X; subst hB; simp only [AO, Ob.holds, BE.den] <;> and_intros <;> intros <;> trivial
   intro X10 a0 w1 hF
   refine wp_ret ?_
   refine (ret_mm (fn := Tryz.f73) TA_ok hF (rs := [.cell 2 56]) rfl (by conv => lhs; cbv) ?_ ((X7 7).A 0) ((X7 7).c 0) (v := zRsl) (q := p7) (by simp [helpM, Rs.bind, t1, t2, hm5, tq6, hm7]) ?_ ?_).1
   ·subst hB; simp [AO, Ob.holds]
   ·subst hB; exact zr
   subst hB; exact ⟨rfl, ⟨_, rfl, zl⟩, trivial⟩
  have tq6 : (gk g5 3 || gk g5 4) = false := by rw [← hq6]; exact hb
  apply wp_seq
  obtain ⟨q8, hq8⟩ := eqv (gk g5 5)
  apply rgB hB TA_ok [39, 0, 2] [0, 2, 41] [(2, .r fun _ => .bool (.v q8))] hF
  ·intro A X; conv => lhs; cbv
  ·intro X; subst hB; simp only [AO, Ob.holds, BE.den] <;> (and_intros <;> repeat first | trivial | rfl | exact enters118 | exact (by rw [hq8]; exact is1_s g5 _ _ 5 _ rfl) | exact by rw [hq8]; exact is1_s g5 _ _ 5 _ rfl | refine ⟨?_, ?_⟩ | intro h)
  intro X8 a0 w1 hF
  apply test_ok hF rfl <;> intro hb hF
  ·have tq8 : gk g5 5 = true := by rw [← hq8]; exact hb
   have S9 := thw_c (p.n + 1) 0 b J hJ ((X5 6).A 0) ((X5 6).c 0) p5 hp5 hn5 J.lab hlab (by have := hl5; omega)
   rcases hm9 : thwM J.bucket J.budget (p.n + 1) J.lab p5 with ⟨v9, p9⟩ | ⟨w9, p9⟩
   rotate_left
   ·refine wp_region_lit ?_
    apply list_preB 0 6 hB TA_ok [43, 48] [0] [] hF
    ·intro A X; conv => lhs; cbv
    ·intro X; subst hB; first | exact trivial | (repeat (first | exact trivial | refine ⟨rfl, ?_⟩))
    intro X9_t a0 w1 hF
    refine man_outT rfl rfl rfl rfl hF rfl rfl enters120 (S9.stop hm9) (by subst hB; exact zl) (mem1 rfl) rfl rfl ?_
    intro x w' hF hok
    exact thr_m (P := Tryz.prog) (fn := Tryz.f73) hF hok (by simp [helpM, Rs.bind, t1, t2, hm5, tq6, tq8, hm9]) ⟨rfl, ⟨_, rfl, zl⟩, trivial⟩
   have hs9 := (fro_thw _ _ _ _ _).of hm9
   have hp9 := hp5.suf hs9
   have hn9 := Nat.le_trans hs9.le hn5
   apply rgB hB TA_ok [2] [0, 2] [(6, .x fun x => ⟨unitV, [(0, runC J (x.A 0) (x.c 0) p9)], []⟩)] hF
   ·intro A X; conv => lhs; cbv
   ·intro X; subst hB; simp only [AO, Ob.holds, BE.den] <;> (and_intros <;> repeat first | trivial | rfl | exact enters120 | exact S9.ok hm9 | refine ⟨?_, ?_⟩ | intro h)
   intro X9 a0 w1 hF
   apply wp_seq
   apply rgB hB TA_ok [2] [0, 2] [] hF
   ·intro A X; conv => lhs; cbv
   ·intro X; subst hB; simp only [AO, Ob.holds, BE.den] <;> and_intros <;> intros <;> trivial
   intro X10 a0 w1 hF
   refine wp_ret ?_
   refine (ret_mm (fn := Tryz.f73) TA_ok hF (rs := [.cell 2 56]) rfl (by conv => lhs; cbv) ?_ ((X9 6).A 0) ((X9 6).c 0) (v := zRsl) (q := p9) (by simp [helpM, Rs.bind, t1, t2, hm5, tq6, tq8, hm9]) ?_ ?_).1
   ·subst hB; simp [AO, Ob.holds]
   ·subst hB; exact zr
   subst hB; exact ⟨rfl, ⟨_, rfl, zl⟩, trivial⟩
  have tq8 : gk g5 5 = false := by rw [← hq8]; exact hb
  refine wp_skip ?_
  apply wp_seq
  apply rgB hB TA_ok [2] [0, 2] [] hF
  ·intro A X; conv => lhs; cbv
  ·intro X; subst hB; simp only [AO, Ob.holds, BE.den] <;> and_intros <;> intros <;> trivial
  intro X10 a0 w1 hF
  refine wp_ret ?_
  refine (ret_mm (fn := Tryz.f73) TA_ok hF (rs := [.cell 2 56]) rfl (by conv => lhs; cbv) ?_ ((X5 6).A 0) ((X5 6).c 0) (v := zRsl) (q := p5) (by simp [helpM, Rs.bind, t1, t2, hm5, tq6, tq8]) ?_ ?_).1
  ·subst hB; simp [AO, Ob.holds]
  ·subst hB; exact zr
  subst hB; exact ⟨rfl, ⟨_, rfl, zl⟩, trivial⟩
 have t2 : ¬ J.kind = 1 := by subst hB; simpa [std, sC] using hb
 refine wp_skip ?_
 apply wp_seq
 apply rgB hB TA_ok [2] [0, 2] [] hF
 ·intro A X; conv => lhs; cbv
 ·intro X; subst hB; simp only [AO, Ob.holds, BE.den] <;> and_intros <;> intros <;> trivial
 intro X10 a0 w1 hF
 refine wp_ret ?_
 refine (ret_mm (fn := Tryz.f73) TA_ok hF (rs := [.cell 2 56]) rfl (by conv => lhs; cbv) ?_ A c (v := zRsl) (q := p) (by simp [helpM, Rs.bind, t1, t2]) ?_ ?_).1
 ·subst hB; simp [AO, Ob.holds]
 ·subst hB; exact zr
 subst hB; exact ⟨rfl, ⟨_, rfl, zl⟩, trivial⟩
theorem helps_m (k0 b : Nat) (J : JobA) (hJ : JobOk J) (A : Option Addr) (c : Nat) (p : Pst) (hp : PstOk p) (hn : p.n ≤ 1000000) (hlab : LOk J.lab) : RunS 73 k0 b J A c p [] (rslZ) (helpM J.bucket J.budget J p) := RunS.re (helps_m0 b J hJ A c p hp hn hlab) (by repeat (first | exact trivial | refine ⟨zr, ?_⟩))
theorem enters25 : Enters Tryz.prog 25 := fun _ _ => by kernel_rfl
theorem hnext_s (J : JobA) (hJ : JobIn J) (A : Option Addr) (n c : Nat) (f : Nat → GotA) (hn : n ≤ 900000) (hin : ∀ j, j < n → InG (f j)) : Spec Tryz.prog 25 [jobV J, gotsV A n c f] (fun x => .tup [wntV (wqA x (helpN J n f).1), .int .i64 (helpN J n f).2]) := by
 intro m w hm hargs
 have hk : anyF 2 (fun i => if i = 0 then 1 else 2) J.kind = (decide (J.kind = 1) || decide (J.kind = 2)) := by rw [anyF2]; simp only [dcomm J.kind]; rfl
 have hdo : (isJobB J && anyF 2 (fun i => if i = 0 then 1 else 2) J.kind && allGot n f) = true → ∀ k0 b, RunA 73 k0 b (J.less n) A c (pst0 n f) [] (helpM J.bucket (J.budget - n) J (pst0 n f)) := by
  intro hok k0 b
  simp only [Bool.and_eq_true] at hok
  obtain ⟨⟨h1, _⟩, h3⟩ := hok
  exact (helps_m k0 b (J.less n) (job_ok hJ h1 hn) A c (pst0 n f) (pst_ok hin h3) (by show n ≤ 1000000; omega) (by have h := job_lab hJ h1; exact h)).a fun a q h => helpM_items h
 have S0 : ∀ kG kA, Spec Tryz.prog 72 [jobV J, gotsV A n c f, .sl kG kA 2 2 1 (fun i => [.int .i64 ((fun i => if i = 0 then 1 else 2) i)]), .fn 73 [] []] (fun x => .tup [wntV (wqA x (helpN J n f).1), .int .i64 (helpN J n f).2]) := by
  intro kG kA
  unfold helpN
  rw [← hk]
  exact ((next_d 73 _ J hJ A n c f hn hin kG kA 2 2 (fun i => if i = 0 then 1 else 2) hdo enters73).x (fun _ => rfl)).pure (fun _ => rfl)
 have S : ∀ kG kA cells, cells 0 = [.int .i64 1] → cells 1 = [.int .i64 2] → Spec Tryz.prog 72 [jobV J, gotsV A n c f, .sl kG kA 2 2 1 cells, .fn 73 [] []] (fun x => .tup [wntV (wqA x (helpN J n f).1), .int .i64 (helpN J n f).2]) := by
  intro kG kA cells h0 h1
  refine (S0 kG kA).sim ⟨zr, zr, Sim.recell (fun i hi => ?_), zr, trivial⟩
  match i, hi with
  | 0, _ => rw [h0]; rfl
  | 1, _ => rw [h1]; rfl
 obtain ⟨W9, hW9⟩ := eqv ((helpN J n f).1)
 obtain ⟨E9, hE9⟩ := eqv ((helpN J n f).2)
 obtain ⟨rr9, hrr9⟩ := eqv (W9.r.rn)
 obtain ⟨nn9, hnn9⟩ := eqv (W9.res.items.length)
 obtain ⟨ff9, hff9⟩ := eqv (itF W9.res.items)
 have TA := Spec.wq (S none none (fun i => [.int .i64 ((fun i => if i = 0 then 1 else 2) i)]) rfl rfl) hW9 hE9 hrr9 hnn9 hff9
 have T : ∀ kG kA cells, cells 0 = [.int .i64 1] → cells 1 = [.int .i64 2] → Spec Tryz.prog 72 [jobV J, gotsV A n c f, .sl kG kA 2 2 1 cells, .fn 73 [] []] (fun x => .tup [wntV (wqB x W9 rr9 nn9 ff9), .int .i64 E9]) := fun kG kA cells h0 h1 => Spec.wq (S kG kA cells h0 h1) hW9 hE9 hrr9 hnn9 hff9
 refine enter hm hargs Tryz.func25 rfl (by simp [Tryz.ntmps25]) fun a0 hF => ?_
 simp only [Tryz.ntmps25, startT] at hF
 obtain ⟨B, hB⟩ := eqv (std)
 apply wp_seq
 apply rgB hB TA_ok [1, 2, 4] [2, 4] [] hF
 ·intro A X; conv => lhs; cbv
 ·intro X; subst hB; simp [AO, Ob.holds, BE.den, std, sC, sAr] <;> omega
 intro X0 a0 w1 hF
 apply wp_seq
 apply rgB hB TA_ok [4, 5] [4, 8] [(3, .r fun x => .tup [.agg [.int .i64 W9.kind, .int .i64 W9.lab.len, .int .u64 W9.lab.bits, .int .u64 W9.ver, .int .i64 rr9.kd, .sl none (x.A 1) rr9.n (x.c 1) 2 (fun i => itC (rr9.f i)), .int .i64 rr9.nx.len, .int .u64 rr9.nx.bits, .int .u64 rr9.mrk, .int .i64 W9.res.code, .bool (.v W9.res.had), .str W9.res.val, .sl none (x.A 2) nn9 (x.c 2) 2 (fun i => itC (ff9 i)), .int .u64 W9.res.key, .bool (.v W9.res.more)], .int .i64 E9])] hF
 ·intro A X; conv => lhs; cbv
 ·intro X; subst hB; simp only [AO, Ob.holds, BE.den] <;> (and_intros <;> repeat first | trivial | rfl | exact enters72 | exact T _ _ _ rfl rfl | refine ⟨?_, ?_⟩ | intro h)
 intro X1 a0 w1 hF
 refine wp_ret ?_
 refine ret_sim (fn := Tryz.f25) TA_ok hF (rs := [.cell 4 58, .tmp 5]) rfl (by conv => lhs; cbv) ?_ ((X1 3)) ?_
 ·simp [AO, Ob.holds]
 subst hB
 rw [← hW9, ← hE9]
 unfold wqA
 rw [← hrr9, ← hnn9, ← hff9]
 exact zr
end Go.Proofs.YtikkeibmjppboaaGreat.Sym
