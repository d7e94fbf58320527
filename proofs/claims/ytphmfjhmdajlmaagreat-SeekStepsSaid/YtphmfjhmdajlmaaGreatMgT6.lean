/-
  SymDr6, SymDr7, SymNx1, SymNx2, SymNx3, SymSk5, PlSeekOk, SymRun26, SymEx26, SymSam, SymSd1, SymSd2, SymSd3, SymDn, SymSd4, SymL26S, WalkSeekSteps: put together by a program of mine (a claim may have 60 files at most). Conditions: none.
-/
import Derived.WalkKit
import Derived.WalkLawsBesides
import Derived.WalkSpells
import Derived.Lib.Hide
import Derived.Deep.QuietTactic
import Derived.BigQuiet
import Derived.Deep.LoopGhost
import Derived.Deep.DeepCutAuto
import Derived.Deep.RegionLaw
import Derived.Lib.Overlaps
import Derived.Laws.CopyOwn
import Derived.IntWalk
import Derived.ProofKit
import Derived.OpenShut
import Derived.ShutString
import Derived.ChangeOld
import Derived.Deep.Slices
import Derived.Test.YtphmfjhmdajlmaaGreatProg
import Derived.Orders
import Derived.OrdersHeld
import Derived.Defers
import Derived.Recover
import Derived.Lib.BitFns
import Derived.ChangeKeysEq
import Derived.Test.YtphmfjhmdajlmaaGreatChecked
import Derived.Lib.BufferWrite
import Derived.Maps.OwnSet
import Derived.Maps.RangeWalk
import Derived.Maps.Ext
import Derived.DeepKeys4
import Derived.LoopN
import Derived.Shelf.SlSortCmp.WholeK
import Derived.Shelf.SlSortCmp.NoneTotal
import Derived.Deep.RegionHeld3
import Derived.Ground.SlsfProg
import Derived.Shelf.SlGeneric
import Derived.Test.YtphmfjhmdajlmaaGreatMgT1
import Derived.Test.YtphmfjhmdajlmaaGreatMgT2
import Derived.Test.YtphmfjhmdajlmaaGreatMgT3
import Derived.Test.YtphmfjhmdajlmaaGreatMgT4
import Derived.Test.YtphmfjhmdajlmaaGreatMgT5
set_option linter.unusedVariables false
set_option linter.unusedSimpArgs false
set_option maxRecDepth 100000
set_option maxHeartbeats 1600000
namespace Go.Proofs.YtphmfjhmdajlmaaGreat.Sym
open Go Go.RowKit
theorem dmrg_m0 (b : Nat) (J : JobA) (hJ : JobOk J) (E : EnvA) (hE : E.n ≤ 1000000) (N : Nat) (p : Pst) (hR : Rel E N p) (hp : PstOk p) (hn : p.n ≤ 1000000) (l : Lab) (hl : LOk l) (v : Int) (n : Nat) (hth : DThC n) (hf : p.n < n) : DocS 165 0 b J E N p [labAV l, .int .u64 v] (fun _ => unitV) (unitV) (mrgM J.bucket (J.budget - E.n) n (thwM J.bucket (J.budget - E.n) n) l v p) := by
 intro m w hm hargs hpre
 have hN0 : N = E.n - p.n := by have := hR.n; omega
 have SC0 := rchild_s l hl.u 0 (.inl rfl)
 have SC1 := rchild_s l hl.u 1 (.inr rfl)
 have hk0 := hl.ch 0
 have hk1 := hl.ch 1
 simp only [labAV] at SC0 SC1
 obtain ⟨x0, hx0⟩ := eqv (chV l 0)
 rw [← hx0] at SC0 hk0
 obtain ⟨x1, hx1⟩ := eqv (chV l 1)
 rw [← hx1] at SC1 hk1
 obtain ⟨y0, hy0⟩ := eqv (chE l 0)
 rw [← hy0] at SC0
 obtain ⟨y1, hy1⟩ := eqv (chE l 1)
 rw [← hy1] at SC1
 refine enX 91 hm hpre hargs Tryz.func165 fun B hB a0 hF => ?_
 refine wp_seq (rg hB TA_ok [0, 2, 4] [0, 4] [] hF fun X0 a0 w1 hF => ?_)
 have O1 := SC0
 refine wp_seq (rg hB TA_ok [0, 2, 4, 6] [0, 4, 6] [(1, .r fun _ => .tup [.agg [.int .i64 x0.len, .int .u64 x0.bits], .int .i64 y0])] hF fun X1 a0 w1 hF => ?_)
 have O1 := SC1
 refine wp_seq (rg hB TA_ok [0, 2, 4, 6, 8] [0, 4, 6, 8] [(1, .r fun _ => .tup [.agg [.int .i64 x1.len, .int .u64 x1.bits], .int .i64 y1])] hF fun X2 a0 w1 hF => ?_)
 apply wp_seq
 rcases (dfrz_m 0 b J hJ E hE N p hR hp hn l v x0 n (by skip; omega)).two (fro_frz _ _ _ _ _ _) hp hn hR with ⟨z0, p3, N3, hm3, hs3, hp3, hn3, hR3, hN3, S3⟩ | ⟨wq3, p3, N3, W3, hm3, hs3, hN3, hW3, S3⟩
 ·have hz0 : ∀ y, z0 = .fr y → RaOk y := fun y hy => frz_ok hp (by rw [hm3, hy])
  have T3 := S3
  unfold encDz at T3
  obtain ⟨y0_, hy0_⟩ := eqv (fzR z0)
  rw [← hy0_] at T3
  obtain ⟨i0, hi0⟩ := eqv (fzJ z0)
  rw [← hi0] at T3
  have O1 := T3
  have O2 := S3
  refine rg hB TA_ok [0, 2, 4, 6, 8, 10, 11] [0, 4, 6, 8, 10] [(4, lc J E (.tup [.agg [.int .i64 y0_.r.kd, .sl none y0_.A y0_.r.n y0_.c 2 (fun i => itC (y0_.r.f i)), .int .i64 y0_.r.nx.len, .int .u64 y0_.r.nx.bits, .int .u64 y0_.r.mrk], .int .i64 i0]) N3 p3)] hF fun X3 a0 w1 hF => ?_
  refine wp_seq (wp_seq (rg hB TA_ok [35, 0, 2, 4, 6, 8, 10, 11] [0, 4, 6, 8, 10] [] hF fun X4 a0 w1 hF => ?_))
  apply test_ok hF rfl <;> intro hb hF
  ·have tz0 : z0 = .over := dz_0 (by rw [← hi0]; subst hB; simpa [std, sC] using hb)
   exact wp_ret ((rgo hB TA_ok hF (v := ()) (q := p3) (by simp [mrgM, ← hx0, ← hx1, Rs.bind, hm3, tz0]) hN3).1)
  have ta0 : ¬ fzJ z0 < 0 := by
   have : ¬ i0 < 0 := by subst hB; simpa [std, sC] using hb
   rw [← hi0]; exact this
  refine wp_skip (wp_seq (wp_seq (rg hB TA_ok [37, 0, 2, 4, 6, 8, 10] [0, 4, 6, 8, 10] [] hF fun X5 a0 w1 hF => ?_)))
  apply test_ok hF rfl <;> intro hb hF
  ·have tz0 : z0 = .unfit := dz_1 (by rw [← hi0]; subst hB; simpa [std, sC] using hb)
   apply wp_seq
   rcases (dbck_m 0 b J hJ E hE N3 p3 hR3 hp3 hn3 l hl v x0 x1 hx0 hx1 n hth (by skip; have := hs3.le; omega)).two (fro_bck _ _ (fro_thw _ _ _) _ _ _) hp3 hn3 hR3 with ⟨v6, p6, N6, hm6, hs6, hp6, hn6, hR6, hN6, S6⟩ | ⟨wq6, p6, N6, W6, hm6, hs6, hN6, hW6, S6⟩
   ·have O1 := S6
    refine rg hB TA_ok [] [0] [(5, lc J E (unitV) N6 p6)] hF fun X6 a0 w1 hF => ?_
    exact wp_ret ((rgo hB TA_ok hF (v := ()) (q := p6) (by simp [mrgM, ← hx0, ← hx1, Rs.bind, hm3, tz0, hm6]) hN6).1)
   have O1 := S6
   refine rg hB TA_ok [] [0] [(5, sc J E (unitV) N6 W6 p6.note)] hF fun X6 a0 w1 hF => ?_
   exact wp_ret ((rst hB TA_ok hF (q := p6) (wq := wq6) (X6 5) (by simp [mrgM, ← hx0, ← hx1, Rs.bind, hm3, tz0, hm6]) hN6 (hW6 _)).1)
  have tz0 : z0 = .fr y0_ := by
   rw [hy0_]
   refine dz_2 ta0 ?_
   have : ¬ i0 = 0 := by subst hB; simpa [std, sC] using hb
   rw [← hi0]; exact this
  have ty0 := hz0 _ tz0
  refine wp_skip (wp_seq ?_)
  rcases (dfrz_m 0 b J hJ E hE N3 p3 hR3 hp3 hn3 l v x1 n (by skip; have := hs3.le; omega)).two (fro_frz _ _ _ _ _ _) hp3 hn3 hR3 with ⟨z1, p7, N7, hm7, hs7, hp7, hn7, hR7, hN7, S7⟩ | ⟨wq7, p7, N7, W7, hm7, hs7, hN7, hW7, S7⟩
  ·have hz1 : ∀ y, z1 = .fr y → RaOk y := fun y hy => frz_ok hp3 (by rw [hm7, hy])
   have T7 := S7
   unfold encDz at T7
   obtain ⟨y1_, hy1_⟩ := eqv (fzR z1)
   rw [← hy1_] at T7
   obtain ⟨i1, hi1⟩ := eqv (fzJ z1)
   rw [← hi1] at T7
   have O1 := T7
   have O2 := S7
   refine rg hB TA_ok [0, 2, 4, 6, 8, 10, 12, 13] [0, 4, 6, 8, 10, 12] [(4, lc J E (.tup [.agg [.int .i64 y1_.r.kd, .sl none y1_.A y1_.r.n y1_.c 2 (fun i => itC (y1_.r.f i)), .int .i64 y1_.r.nx.len, .int .u64 y1_.r.nx.bits, .int .u64 y1_.r.mrk], .int .i64 i1]) N7 p7)] hF fun X7 a0 w1 hF => ?_
   refine wp_seq (wp_seq (rg hB TA_ok [53, 0, 2, 4, 6, 8, 10, 12, 13] [0, 4, 6, 8, 10, 12] [] hF fun X8 a0 w1 hF => ?_))
   apply test_ok hF rfl <;> intro hb hF
   ·have tz1 : z1 = .over := dz_0 (by rw [← hi1]; subst hB; simpa [std, sC] using hb)
    exact wp_ret ((rgo hB TA_ok hF (v := ()) (q := p7) (by simp [mrgM, ← hx0, ← hx1, Rs.bind, hm3, tz0, hm7, tz1]) hN7).1)
   have ta1 : ¬ fzJ z1 < 0 := by
    have : ¬ i1 < 0 := by subst hB; simpa [std, sC] using hb
    rw [← hi1]; exact this
   have ty1 : RaOk y1_ := by
    rw [hy1_]
    cases hz : z1 with
    | fr y => exact hz1 y hz
    | over => exact zra_ok
    | unfit => exact zra_ok
   have SU := duni_c y0_ y1_ ty0 ty1
   obtain ⟨r2, hr2⟩ := eqv ((uniA y0_ y1_).1.rn)
   rw [← hr2] at SU
   obtain ⟨e2, he2⟩ := eqv ((uniA y0_ y1_).2)
   rw [← he2] at SU
   have ha2 : r2.abs = (uniA y0_ y1_).1 := by rw [hr2]; exact rn_abs _
   have hl2 : r2.abs.items.length = r2.n := by rw [ha2, hr2]; rfl
   have O1 := SU
   refine wp_skip (wp_seq (rg hB TA_ok [0, 2, 4, 6, 8, 13, 14, 15] [0, 4, 6, 8, 14] [(2, .r fun z => .tup [.agg [.int .i64 r2.kd, .sl none (z.A 0) r2.n (z.c 0) 2 (fun i => itC (r2.f i)), .int .i64 r2.nx.len, .int .u64 r2.nx.bits, .int .u64 r2.mrk], .int .i64 e2])] hF fun X9 a0 w1 hF => ?_))
   refine wp_seq (wp_seq (drg hB TA_ok [76, 0, 2, 4, 6, 8, 14] [0, 4, 6, 8, 14] [] hF fun X10 a0 w1 hF => ?_))
   apply test_ok hF rfl <;> intro hb hF
   ·have h9 : (if (if decide (i1 = 0) = true then true else !decide (e2 = 0)) = true then true else decide ((r2.n : Int) > J.bucket)) = true := by subst hB; exact hb
    have htot : mrgM J.bucket (J.budget - E.n) n (thwM J.bucket (J.budget - E.n) n) l v p = bckM (J.budget - E.n) (thwM J.bucket (J.budget - E.n) n) l v p7 := by
     by_cases hi : i1 = 0
     ·have hz := dz_1 (by rw [← hi1]; exact hi)
      simp [mrgM, Rs.bind, ← hx0, ← hx1, hm3, tz0, hm7, hz]
     have hz : z1 = .fr y1_ := by rw [hy1_]; exact dz_2 ta1 (by rw [← hi1]; exact hi)
     have tu : ¬ ((uniA y0_ y1_).2 = 0 ∧ (r2.abs.items.length : Int) ≤ J.bucket) := by
      rw [← he2, hl2]
      intro h; simp [hi, h.1] at h9; omega
     simp [mrgM, Rs.bind, ← hx0, ← hx1, hm3, tz0, hm7, hz, ← ha2, if_neg tu]
    apply wp_seq
    rcases (dbck_m 0 b J hJ E hE N7 p7 hR7 hp7 hn7 l hl v x0 x1 hx0 hx1 n hth (by skip; have := hs3.le; have := hs7.le; omega)).two (fro_bck _ _ (fro_thw _ _ _) _ _ _) hp7 hn7 hR7 with ⟨v11, p11, N11, hm11, hs11, hp11, hn11, hR11, hN11, S11⟩ | ⟨wq11, p11, N11, W11, hm11, hs11, hN11, hW11, S11⟩
    ·have O1 := S11
     refine rg hB TA_ok [] [0] [(5, lc J E (unitV) N11 p11)] hF fun X11 a0 w1 hF => ?_
     exact wp_ret ((rgo hB TA_ok hF (v := ()) (q := p11) (by rw [htot, hm11]) hN11).1)
    have O1 := S11
    refine rg hB TA_ok [] [0] [(5, sc J E (unitV) N11 W11 p11.note)] hF fun X11 a0 w1 hF => ?_
    exact wp_ret ((rst hB TA_ok hF (q := p11) (wq := wq11) (X11 5) (by rw [htot, hm11]) hN11 (hW11 _)).1)
   have h9 : (if (if decide (i1 = 0) = true then true else !decide (e2 = 0)) = true then true else decide ((r2.n : Int) > J.bucket)) = false := by subst hB; exact hb
   have hi : ¬ i1 = 0 := by intro h; simp [h] at h9
   have tz1 : z1 = .fr y1_ := by rw [hy1_]; exact dz_2 ta1 (by rw [← hi1]; exact hi)
   have tu : (uniA y0_ y1_).2 = 0 ∧ (r2.abs.items.length : Int) ≤ J.bucket := by
    rw [← he2, hl2]
    simp [hi] at h9; exact ⟨h9.1, by omega⟩
   refine wp_skip (wp_seq ?_)
   rcases (dcas_m 0 b J hJ E hE N7 p7 hR7 hp7 hn7 l v ⟨(X9 2).A 0, (X9 2).c 0, r2⟩).two (fro_cas _ _ _ _ _) hp7 hn7 hR7 with ⟨d5, p12, N12, hm12, hs12, hp12, hn12, hR12, hN12, S12⟩ | ⟨wq12, p12, N12, W12, hm12, hs12, hN12, hW12, S12⟩
   ·have O1 := S12
    refine rg hB TA_ok [87, 0, 4] [0, 4] [(4, lc J E (.bool (.v d5)) N12 p12)] hF fun X12 a0 w1 hF => ?_
    apply test_ok hF rfl <;> intro hb hF
    ·have t5 : d5 = true := by exact hb
     rcases (dcln_c n 0 b J hJ E hE N12 p12 hR12 hp12 hn12 l hl (by skip; have := hs3.le; have := hs7.le; have := hs12.le; omega)).two (fro_cln _ _ _ _) hp12 hn12 hR12 with ⟨v13, p13, N13, hm13, hs13, hp13, hn13, hR13, hN13, S13⟩ | ⟨wq13, p13, N13, W13, hm13, hs13, hN13, hW13, S13⟩
     ·have O1 := S13
      refine rg hB TA_ok [] [0] [(2, lc J E (unitV) N13 p13)] hF fun X13 a0 w1 hF => ?_
      exact (rgo hB TA_ok hF (v := ()) (q := p13) (by simp [mrgM, ← hx0, ← hx1, Rs.bind, hm3, tz0, hm7, ← ha2, tz1, if_pos tu, hm12, t5, hm13]) hN13).2
     have O1 := S13
     refine rg hB TA_ok [] [0] [(2, sc J E (unitV) N13 W13 p13.note)] hF fun X13 a0 w1 hF => ?_
     exact (rst hB TA_ok hF (q := p13) (wq := wq13) (X13 2) (by simp [mrgM, ← hx0, ← hx1, Rs.bind, hm3, tz0, hm7, ← ha2, tz1, if_pos tu, hm12, t5, hm13]) hN13 (hW13 _)).2
    have t5 : d5 = false := by exact hb
    exact wp_skip ((rgo hB TA_ok hF (v := ()) (q := p12) (by simp [mrgM, ← hx0, ← hx1, Rs.bind, hm3, tz0, hm7, ← ha2, tz1, if_pos tu, hm12, t5]) hN12).2)
   have O1 := S12
   refine rg hB TA_ok [87, 0, 4] [0, 4] [(4, sc J E (.bool .ff) N12 W12 p12.note)] hF fun X12 a0 w1 hF => ?_
   refine test_ff hF rfl (fun hF => ?_)
   exact wp_skip ((rst hB TA_ok hF (q := p12) (wq := wq12) (X12 4) (by simp [mrgM, ← hx0, ← hx1, Rs.bind, hm3, tz0, hm7, ← ha2, tz1, if_pos tu, hm12]) hN12 (hW12 _)).2)
  have O1 := S7
  refine rg hB TA_ok [0, 2, 4, 6, 8, 10, 12, 13] [0, 4, 6, 8, 10, 12] [(4, sc J E (.tup [.agg [.int .i64 0, .sl none none 0 0 2 (fun _ => []), .int .i64 0, .int .u64 0, .int .u64 0], .int .i64 (-1)]) N7 W7 p7.note)] hF fun X7 a0 w1 hF => ?_
  refine wp_seq (wp_seq (rg hB TA_ok [53, 0, 2, 4, 6, 8, 10, 12, 13] [0, 4, 6, 8, 10, 12] [] hF fun X8 a0 w1 hF => ?_))
  apply test_ok hF rfl <;> intro hb hF
  ·skip
   exact wp_ret ((rst hB TA_ok hF (q := p7) (wq := wq7) (X7 4) (by simp [mrgM, ← hx0, ← hx1, Rs.bind, hm3, tz0, hm7]) hN7 (hW7 _)).1)
  exfalso
  have h9 : decide ((-1 : Int) < 0) = false := by subst hB; exact hb
  exact absurd h9 (by decide)
 have O1 := S3
 refine rg hB TA_ok [0, 2, 4, 6, 8, 10, 11] [0, 4, 6, 8, 10] [(4, sc J E (.tup [.agg [.int .i64 0, .sl none none 0 0 2 (fun _ => []), .int .i64 0, .int .u64 0, .int .u64 0], .int .i64 (-1)]) N3 W3 p3.note)] hF fun X3 a0 w1 hF => ?_
 refine wp_seq (wp_seq (rg hB TA_ok [35, 0, 2, 4, 6, 8, 10, 11] [0, 4, 6, 8, 10] [] hF fun X4 a0 w1 hF => ?_))
 apply test_ok hF rfl <;> intro hb hF
 ·skip
  exact wp_ret ((rst hB TA_ok hF (q := p3) (wq := wq3) (X3 4) (by simp [mrgM, ← hx0, ← hx1, Rs.bind, hm3]) hN3 (hW3 _)).1)
 exfalso
 have h9 : decide ((-1 : Int) < 0) = false := by subst hB; exact hb
 exact absurd h9 (by decide)
theorem dmrg_m (k0 b : Nat) (J : JobA) (hJ : JobOk J) (E : EnvA) (hE : E.n ≤ 1000000) (N : Nat) (p : Pst) (hR : Rel E N p) (hp : PstOk p) (hn : p.n ≤ 1000000) (l : Lab) (hl : LOk l) (v : Int) (n : Nat) (hth : DThC n) (hf : p.n < n) : DocS 165 k0 b J E N p [labAV l, .int .u64 v] (fun _ => unitV) (unitV) (mrgM J.bucket (J.budget - E.n) n (thwM J.bucket (J.budget - E.n) n) l v p) := DocS.re (dmrg_m0 b J hJ E hE N p hR hp hn l hl v n hth hf) (by repeat (first | exact trivial | refine ⟨zr, ?_⟩))
theorem dfin_m0 (b : Nat) (J : JobA) (hJ : JobOk J) (E : EnvA) (hE : E.n ≤ 1000000) (N : Nat) (p : Pst) (hR : Rel E N p) (hp : PstOk p) (hn : p.n ≤ 1000000) (l : Lab) (hl : LOk l) (g : GotA) (hg : GotOk g) (hgh : g.has = true) (n : Nat) (hth : DThC n) (hf : p.n < n) : DocS 97 0 b J E N p [labAV l, gotV g] (fun _ => unitV) (unitV) (fnsM J.bucket (J.budget - E.n) n l g p) := by
 intro m w hm hargs hpre
 have hN0 : N = E.n - p.n := by have := hR.n; omega
 refine enX 25 hm hpre hargs Tryz.func97 fun B hB a0 hF => ?_
 refine wp_seq (rg hB TA_ok [0, 4, 5] [0, 4, 5] [] hF fun X0 a0 w1 hF => ?_)
 refine wp_seq (rg hB TA_ok [9, 0, 4, 5] [0, 4, 5] [] hF fun X1 a0 w1 hF => ?_)
 apply test_ok hF rfl <;> intro hb hF
 ·have t1 : gk g 3 = true := by
   have h : decide (g.x.r.kd = 3) = true := by subst hB; exact hb
   unfold gk; rw [hgh, h]; rfl
  rcases (dspl_m 0 b J hJ E hE N p hR hp hn l hl g.ver g.x hg.ra n hf).two (fro_split _ _ _ _ _ _) hp hn hR with ⟨v2, p2, N2, hm2, hs2, hp2, hn2, hR2, hN2, S2⟩ | ⟨wq2, p2, N2, W2, hm2, hs2, hN2, hW2, S2⟩
  ·have O1 := S2
   refine rg hB TA_ok [] [0] [(6, lc J E (unitV) N2 p2)] hF fun X2 a0 w1 hF => ?_
   exact (rgo hB TA_ok hF (v := ()) (q := p2) (by simp [fnsM, finM, Rs.bind, t1, hm2]) hN2).2
  have O1 := S2
  refine rg hB TA_ok [] [0] [(6, sc J E (unitV) N2 W2 p2.note)] hF fun X2 a0 w1 hF => ?_
  exact (rst hB TA_ok hF (q := p2) (wq := wq2) (X2 6) (by simp [fnsM, finM, Rs.bind, t1, hm2]) hN2 (hW2 _)).2
 have t1 : gk g 3 = false := by
  have h : decide (g.x.r.kd = 3) = false := by subst hB; exact hb
  unfold gk; rw [hgh, h]; rfl
 refine wp_seq (rg hB TA_ok [19, 0, 4, 5] [0, 4, 5] [] hF fun X3 a0 w1 hF => ?_)
 apply test_ok hF rfl <;> intro hb hF
 ·have t2 : l.len < 64 := by subst hB; simpa [std, sC] using hb
  rcases (dmrg_m 0 b J hJ E hE N p hR hp hn l hl g.ver n hth hf).two (fro_mrg _ _ _ _ (fro_thw _ _ _) _ _ _) hp hn hR with ⟨v4, p4, N4, hm4, hs4, hp4, hn4, hR4, hN4, S4⟩ | ⟨wq4, p4, N4, W4, hm4, hs4, hN4, hW4, S4⟩
  ·have O1 := S4
   refine rg hB TA_ok [] [0] [(4, lc J E (unitV) N4 p4)] hF fun X4 a0 w1 hF => ?_
   exact (rgo hB TA_ok hF (v := ()) (q := p4) (by simp [fnsM, finM, Rs.bind, t1, t2, hm4]) hN4).2
  have O1 := S4
  refine rg hB TA_ok [] [0] [(4, sc J E (unitV) N4 W4 p4.note)] hF fun X4 a0 w1 hF => ?_
  exact (rst hB TA_ok hF (q := p4) (wq := wq4) (X4 4) (by simp [fnsM, finM, Rs.bind, t1, t2, hm4]) hN4 (hW4 _)).2
 have t2 : ¬ l.len < 64 := by subst hB; simpa [std, sC] using hb
 exact wp_skip ((rgo hB TA_ok hF (v := ()) (q := p) (by simp [fnsM, finM, Rs.bind, t1, t2]) hN0).2)
theorem dfin_m (k0 b : Nat) (J : JobA) (hJ : JobOk J) (E : EnvA) (hE : E.n ≤ 1000000) (N : Nat) (p : Pst) (hR : Rel E N p) (hp : PstOk p) (hn : p.n ≤ 1000000) (l : Lab) (hl : LOk l) (g : GotA) (hg : GotOk g) (hgh : g.has = true) (n : Nat) (hth : DThC n) (hf : p.n < n) : DocS 97 k0 b J E N p [labAV l, gotV g] (fun _ => unitV) (unitV) (fnsM J.bucket (J.budget - E.n) n l g p) := DocS.re (dfin_m0 b J hJ E hE N p hR hp hn l hl g hg hgh n hth hf) (by repeat (first | exact trivial | refine ⟨zr, ?_⟩))
theorem dthw_m0 (b : Nat) (J : JobA) (hJ : JobOk J) (E : EnvA) (hE : E.n ≤ 1000000) (N : Nat) (p : Pst) (hR : Rel E N p) (hp : PstOk p) (hn : p.n ≤ 1000000) (l : Lab) (hl : LOk l) (n : Nat) (hfin : ∀ j, j < n → DFinC j) (hf : p.n < n) : DocS 137 0 b J E N p [labAV l] (fun _ => unitV) (unitV) (thwM J.bucket (J.budget - E.n) n l p) := by
 intro m w hm hargs hpre
 have hN0 : N = E.n - p.n := by have := hR.n; omega
 have SP := rpar_s l hl.u
 have hpar := hl.par
 simp only [labAV] at SP
 obtain ⟨up, hup⟩ := eqv (parV l)
 rw [← hup] at SP hpar
 obtain ⟨ue, hue⟩ := eqv (parE l)
 rw [← hue] at SP
 refine enX 66 hm hpre hargs Tryz.func137 fun B hB a0 hF => ?_
 refine wp_seq (rg hB TA_ok [0, 3] [0, 3] [] hF fun X0 a0 w1 hF => ?_)
 have O1 := SP
 refine wp_seq (rg hB TA_ok [0, 3, 4, 5] [0, 3, 4] [(1, .r fun _ => .tup [.agg [.int .i64 up.len, .int .u64 up.bits], .int .i64 ue])] hF fun X1 a0 w1 hF => ?_)
 refine wp_seq (wp_seq (rg hB TA_ok [14, 0, 3, 4] [0, 3, 4] [] hF fun X2 a0 w1 hF => ?_))
 apply test_ok hF rfl <;> intro hb hF
 ·have t0 : ¬ ue = 0 := by subst hB; simpa [std, sC] using hb
  exact wp_ret ((rgo hB TA_ok hF (v := ()) (q := p) (by simp [thwM, ← hup, ← hue, Rs.bind, t0]) hN0).1)
 have t0 : ue = 0 := by subst hB; simpa [std, sC] using hb
 refine wp_skip (wp_block (loop_pre (ι := LSt) (fun q => []) (fun q => [(0, ⟨b, 118, lsC J E q⟩)]) (fun q => []) (fun q => match q with | .go a r M => thwL J.bucket (J.budget - E.n) n l up p = thwL J.bucket (J.budget - E.n) a l up r ∧ PstOk r ∧ r.n ≤ 1000000 ∧ Rel E M r ∧ r.n < a ∧ r.n ≤ p.n ∧ a ≤ n | .dn r M => False | .sp M Q u => ∃ (X : Atom) (wq : Wq) (pp : Pst), thwM J.bucket (J.budget - E.n) n l p = .stop wq pp ∧ M = E.n - pp.n ∧ Q = wqA X wq ∧ u = pp.note) (fun q => lsM q) (.go n p N) ⟨rfl, hp, hn, hR, (by skip; omega), (by skip; omega), Nat.le_refl _⟩ hF ?_))
 rintro q hJ a0 w1 hF
 rcases q with ⟨nn0, p0, N0⟩ | ⟨p9, N9⟩ | ⟨N0, Q0, t0⟩
 ·dsimp only [lsC, lsB] at hJ hF
  obtain ⟨hrun0, hp0, hn0, hR0, hf0, hle0, hnn0⟩ := hJ
  obtain ⟨m0, rfl⟩ : ∃ n2, nn0 = n2 + 1 := ⟨nn0 - 1, by omega⟩
  have hN0 : N0 = E.n - p0.n := by have := hR0.n; omega
  refine wp_seq (wp_seq (rg hB TA_ok [19, 0, 3, 4] [0, 3, 4] [] hF fun X3 a0 w1 hF => ?_))
  refine test_tt hF rfl (fun hF => ?_)
  refine wp_skip (wp_block (wp_seq ?_))
  rcases (dget_m 0 b J hJ E hE N0 p0 hR0 hp0 hn0 l).two (fro_get _ _ _) hp0 hn0 hR0 with ⟨g3, p4, N4, hm4, hs4, hp4, hn4, hR4, hN4, S4⟩ | ⟨wq4, p4, N4, W4, hm4, hs4, hN4, hW4, S4⟩
  ·have hl4 := get_lt hm4
   have hg4 := hp0.get hm4
   have O1 := S4
   refine rg hB TA_ok [0, 3, 4, 6] [0, 3, 4, 6] [(2, lc J E (gotV g3) N4 p4)] hF fun X4 a0 w1 hF => ?_
   obtain ⟨q4, hq4⟩ := eqv (gk g3 5)
   refine wp_seq (wp_seq ?_)
   refine rg hB TA_ok [31, 0, 3, 4, 6] [0, 3, 4, 6] [(6, .r fun _ => .bool (.v q4))] hF (hob := by intro X; subst hB; simp only [AO, Ob.holds, BE.den] <;> and_intros <;> repeat first | trivial | rfl | exact (by rw [hq4]; exact dis_s g3 5) | exact by rw [hq4]; exact dis_s g3 5 | exact (fun _ _ => by kernel_rfl) | refine ⟨?_, ?_⟩ | intro h | exact Int.le_refl _ | decide | omega) fun X5 a0 w1 hF => ?_
   apply test_ok hF rfl <;> intro hb hF
   ·have tq4 : gk g3 5 = false := by subst hB; rw [← hq4]; revert hb; cases q4 <;> simp [std]
    exact wp_ret ((rgo hB TA_ok hF (v := ()) (q := p4) (by simp [thwM, ← hup, ← hue, Rs.bind, t0, hrun0, thwL_succ, hm4, tq4]) hN4).1)
   have tq4 : gk g3 5 = true := by subst hB; rw [← hq4]; revert hb; cases q4 <;> simp [std]
   refine wp_skip (wp_seq ?_)
   rcases (dget_m 0 b J hJ E hE N4 p4 hR4 hp4 hn4 up).two (fro_get _ _ _) hp4 hn4 hR4 with ⟨g5, p6, N6, hm6, hs6, hp6, hn6, hR6, hN6, S6⟩ | ⟨wq6, p6, N6, W6, hm6, hs6, hN6, hW6, S6⟩
   ·have hl6 := get_lt hm6
    have hg6 := hp4.get hm6
    have O1 := S6
    refine rg hB TA_ok [0, 3, 4, 6, 7] [0, 3, 4, 6, 7] [(2, lc J E (gotV g5) N6 p6)] hF fun X6 a0 w1 hF => ?_
    refine wp_seq (wp_seq (rg hB TA_ok [38, 0, 3, 4, 6, 7] [0, 3, 4, 6, 7] [] hF fun X7 a0 w1 hF => ?_))
    refine test_ff hF rfl (fun hF => ?_)
    obtain ⟨q6, hq6⟩ := eqv (gk g5 3)
    obtain ⟨r6, hr6⟩ := eqv (gk g5 4)
    refine wp_skip (wp_seq (wp_seq ?_))
    refine rg hB TA_ok [44, 0, 3, 4, 6, 7] [0, 3, 4, 6, 7] [(1, .r fun _ => .bool (.v q6)), (4, .r fun _ => .bool (.v r6))] hF (hob := by intro X; subst hB; simp only [AO, Ob.holds, BE.den] <;> and_intros <;> repeat first | trivial | rfl | exact (by rw [hq6]; exact dis_s g5 3) | exact by rw [hq6]; exact dis_s g5 3 | exact (by rw [hr6]; exact dis_s g5 4) | exact by rw [hr6]; exact dis_s g5 4 | exact (fun _ _ => by kernel_rfl) | refine ⟨?_, ?_⟩ | intro h | exact Int.le_refl _ | decide | omega) fun X8 a0 w1 hF => ?_
    apply test_ok hF rfl <;> intro hb hF
    ·have tq6 : (gk g5 3 || gk g5 4) = true := by
      have h9 : (if q6 = true then true else r6) = true := by subst hB; exact hb
      rw [← hq6, ← hr6, ← h9]; cases q6 <;> rfl
     have hgh : g5.has = true := by
      unfold gk at tq6; revert tq6; cases g5.has <;> simp
     have tn2 : gk g5 2 = false := by
      unfold gk at tq6 ⊢; revert tq6; cases g5.has <;> simp <;> omega
     apply wp_seq
     rcases (hfin m0 (by omega) 0 b J hJ E hE N6 p6 hR6 hp6 hn6 up hpar g5 hg6 hgh (by have := hl4; have := hl6; omega)).two (fro_fns _ _ _ _ _ _) hp6 hn6 hR6 with ⟨v9, p9, N9, hm9, hs9, hp9, hn9, hR9, hN9, S9⟩ | ⟨wq9, p9, N9, W9, hm9, hs9, hN9, hW9, S9⟩
     ·have O1 := S9
      refine rg hB TA_ok [] [0] [(3, lc J E (unitV) N9 p9)] hF fun X9 a0 w1 hF => ?_
      exact wp_ret ((rgo hB TA_ok hF (v := ()) (q := p9) (by simp [thwM, ← hup, ← hue, Rs.bind, t0, hrun0, thwL_succ, hm4, tq4, hm6, tq6, tn2, hm9]) hN9).1)
     have O1 := S9
     refine rg hB TA_ok [] [0] [(3, sc J E (unitV) N9 W9 p9.note)] hF fun X9 a0 w1 hF => ?_
     exact wp_ret ((rst hB TA_ok hF (q := p9) (wq := wq9) (X9 3) (by simp [thwM, ← hup, ← hue, Rs.bind, t0, hrun0, thwL_succ, hm4, tq4, hm6, tq6, tn2, hm9]) hN9 (hW9 _)).1)
    have tq6 : (gk g5 3 || gk g5 4) = false := by
     have h9 : (if q6 = true then true else r6) = false := by subst hB; exact hb
     rw [← hq6, ← hr6, ← h9]; cases q6 <;> rfl
    refine wp_skip (wp_seq ?_)
    rcases Bool.eq_false_or_eq_true (gk g5 2) with t8 | t8
    ·rcases (dcas_m 0 b J hJ E hE N6 p6 hR6 hp6 hn6 l g3.ver (asR 1 g3.x 0)).two (fro_cas _ _ _ _ _) hp6 hn6 hR6 with ⟨d8, p10, N10, hm10, hs10, hp10, hn10, hR10, hN10, S10⟩ | ⟨wq10, p10, N10, W10, hm10, hs10, hN10, hW10, S10⟩
     ·refine rg hB TA_ok [65, 0, 3, 4] [0, 3, 4] [(1, .r fun _ => .bool .tt), (15, lc J E (.bool (.v d8)) N10 p10)] hF (hob := by intro X; subst hB; simp only [AO, Ob.holds, BE.den] <;> and_intros <;> repeat first | trivial | rfl | exact ((dis_s g5 2).res fun _ => Sim.bool (by rw [t8]; rfl)) | exact S10 | exact (fun _ _ => by kernel_rfl) | refine ⟨?_, ?_⟩ | intro h | exact Int.le_refl _ | decide | omega) fun X10 a0 w1 hF => ?_
      apply test_ok hF rfl <;> intro hb hF
      ·have t9 : d8 = true := by exact hb
       exact wp_ret ((rgo hB TA_ok hF (v := ()) (q := p10) (by simp [thwM, ← hup, ← hue, Rs.bind, t0, hrun0, thwL_succ, hm4, tq4, hm6, tq6, t8, hm10, t9]) hN10).1)
      have t9 : d8 = false := by exact hb
      replace hF := hF.keep [0, 3, 4] [0, 3, 4]
      exact wp_skip (⟨.go m0 p10 N10, ⟨by rw [hrun0]; simp [thwL_succ, Rs.bind, t0, hrun0, thwL_succ, hm4, tq4, hm6, tq6, t8, hm10, t9], hp10, hn10, hR10, by have := hl4; have := hs6.le; have := hs10.le; have := hf0; omega, by have := hl4; have := hs6.le; have := hs10.le; have := hle0; omega, by omega⟩, by simp [lsM], hF⟩)
     refine rg hB TA_ok [65, 0, 3, 4] [0, 3, 4] [(1, .r fun _ => .bool .tt), (15, sc J E (.bool .ff) N10 W10 p10.note)] hF (hob := by intro X; subst hB; simp only [AO, Ob.holds, BE.den] <;> and_intros <;> repeat first | trivial | rfl | exact ((dis_s g5 2).res fun _ => Sim.bool (by rw [t8]; rfl)) | exact S10 | exact (fun _ _ => by kernel_rfl) | refine ⟨?_, ?_⟩ | intro h | exact Int.le_refl _ | decide | omega) fun X10 a0 w1 hF => ?_
     refine test_ff hF rfl (fun hF => ?_)
     replace hF := hF.keep [0, 3, 4] [0, 3, 4]
     exact wp_skip (⟨.sp N10 (W10 (X10 15)) p10.note, ⟨(X10 15), wq10, p10, by simp [thwM, ← hup, ← hue, Rs.bind, t0, hrun0, thwL_succ, hm4, tq4, hm6, tq6, t8, hm10], hN10, (hW10 _), rfl⟩, by simp [lsM], hF⟩)
    refine rg hB TA_ok [65, 0, 3, 4] [0, 3, 4] [(1, .r fun _ => .bool .ff)] hF (hob := by intro X; subst hB; simp only [AO, Ob.holds, BE.den] <;> and_intros <;> repeat first | trivial | rfl | exact ((dis_s g5 2).res fun _ => Sim.bool (by rw [t8]; rfl)) | exact (fun _ _ => by kernel_rfl) | refine ⟨?_, ?_⟩ | intro h | exact Int.le_refl _ | decide | omega) fun X10 a0 w1 hF => ?_
    refine test_tt hF rfl (fun hF => ?_)
    exact wp_ret ((rgo hB TA_ok hF (v := ()) (q := p6) (by simp [thwM, ← hup, ← hue, Rs.bind, t0, hrun0, thwL_succ, hm4, tq4, hm6, tq6, t8]) hN6).1)
   have O1 := S6
   refine rg hB TA_ok [0, 3, 4, 6, 7] [0, 3, 4, 6, 7] [(2, sc J E (.agg [.int .i64 0, .int .u64 0, .bool .ff, .int .i64 0, .sl none none 0 0 2 (fun _ => []), .int .i64 0, .int .u64 0, .int .u64 0]) N6 W6 p6.note)] hF fun X6 a0 w1 hF => ?_
   refine wp_seq (wp_seq (rg hB TA_ok [38, 0, 3, 4, 6, 7] [0, 3, 4, 6, 7] [] hF fun X7 a0 w1 hF => ?_))
   refine test_tt hF rfl (fun hF => ?_)
   exact wp_ret ((rst hB TA_ok hF (q := p6) (wq := wq6) (X6 2) (by simp [thwM, ← hup, ← hue, Rs.bind, t0, hrun0, thwL_succ, hm4, tq4, hm6]) hN6 (hW6 _)).1)
  have O1 := S4
  refine rg hB TA_ok [0, 3, 4, 6] [0, 3, 4, 6] [(2, sc J E (.agg [.int .i64 0, .int .u64 0, .bool .ff, .int .i64 0, .sl none none 0 0 2 (fun _ => []), .int .i64 0, .int .u64 0, .int .u64 0]) N4 W4 p4.note)] hF fun X4 a0 w1 hF => ?_
  refine wp_seq (wp_seq (rg hB TA_ok [31, 0, 3, 4, 6] [0, 3, 4, 6] [] hF fun X5 a0 w1 hF => ?_))
  refine test_tt hF rfl (fun hF => ?_)
  exact wp_ret ((rst hB TA_ok hF (q := p4) (wq := wq4) (X4 2) (by simp [thwM, ← hup, ← hue, Rs.bind, t0, hrun0, thwL_succ, hm4]) hN4 (hW4 _)).1)
 ·exact (hJ : False).elim
 dsimp only [lsC, lsB] at hJ hF
 obtain ⟨X0, wq0, pp0, hsp0, hN0, hW0, ht0⟩ := hJ
 subst ht0
 refine wp_seq (wp_seq (rg hB TA_ok [19, 0, 3, 4] [0, 3, 4] [] hF fun X3 a0 w1 hF => ?_))
 refine test_ff hF rfl (fun hF => ?_)
 exact wp_exit ((rst hB TA_ok hF (q := pp0) (wq := wq0) X0 (hsp0) hN0 hW0).2)
theorem dthw_m (k0 b : Nat) (J : JobA) (hJ : JobOk J) (E : EnvA) (hE : E.n ≤ 1000000) (N : Nat) (p : Pst) (hR : Rel E N p) (hp : PstOk p) (hn : p.n ≤ 1000000) (l : Lab) (hl : LOk l) (n : Nat) (hfin : ∀ j, j < n → DFinC j) (hf : p.n < n) : DocS 137 k0 b J E N p [labAV l] (fun _ => unitV) (unitV) (thwM J.bucket (J.budget - E.n) n l p) := DocS.re (dthw_m0 b J hJ E hE N p hR hp hn l hl n hfin hf) (by repeat (first | exact trivial | refine ⟨zr, ?_⟩))
theorem dth_fin : ∀ n, DThC n ∧ DFinC n := by
 intro n
 induction n using Nat.strongRecOn with
 | _ n ih =>
  have h1 : DThC n := fun k0 b J hJ E hE N p hR hp hn l hl hf => dthw_m k0 b J hJ E hE N p hR hp hn l hl n (fun j hj => (ih j hj).2) hf
  exact ⟨h1, fun k0 b J hJ E hE N p hR hp hn l hl g hg hgh hf => dfin_m k0 b J hJ E hE N p hR hp hn l hl g hg hgh n h1 hf⟩
theorem dthw_c (n : Nat) : DThC n := (dth_fin n).1
theorem dfin_c (n : Nat) : DFinC n := (dth_fin n).2
theorem btw_s (v lo hi : Int) : Spec Tryz.prog 140 [.int .i64 v, .int .i64 lo, .int .i64 hi] (fun _ => .bool (.v (btw v lo hi))) := by
 intro m w hm hargs
 refine en 15 hm hargs Tryz.func140 fun B hB a0 hF => ?_
 refine wp_seq (rg hB TA_ok [0, 1, 2] [] [] hF fun X0 a0 w1 hF => ?_)
 refine wp_seq (rg hB TA_ok [6] [] [] hF fun X1 a0 w1 hF => ?_)
 refine wp_ret ((rsi hB TA_ok hF nAt (he := ?_)))
 subst hB
 refine Sim.bool ?_
 show (if decide (lo ≤ v) = true then decide (v ≤ hi) else false) = _
 rw [ite_and]; rfl
theorem isJ_s (J : JobA) (hl : U64 J.lab.bits) : Spec Tryz.prog 71 [jobV J] (fun _ => .bool (.v (isJobB J))) := by
 intro m w hm hargs
 have S1 := btw_s J.bucket 1 16
 have S2 := btw_s J.budget 0 2000
 have S3 := btw_s J.how 1 2
 have S4 := btw_s J.most 0 500
 have SL := isL_s J.lab hl
 simp only [labAV] at SL
 obtain ⟨q1, hq1⟩ := eqv (btw J.bucket 1 16)
 rw [← hq1] at S1
 obtain ⟨q2, hq2⟩ := eqv (btw J.budget 0 2000)
 rw [← hq2] at S2
 obtain ⟨q3, hq3⟩ := eqv (btw J.how 1 2)
 rw [← hq3] at S3
 obtain ⟨q4, hq4⟩ := eqv (btw J.most 0 500)
 rw [← hq4] at S4
 obtain ⟨ql, hql⟩ := eqv (isL J.lab)
 rw [← hql] at SL
 refine en 37 hm hargs Tryz.func71 fun B hB a0 hF => ?_
 refine wp_seq (rg hB TA_ok [1] [1] [] hF fun X0 a0 w1 hF => ?_)
 refine wp_seq (rg hB TA_ok [1, 3] [1] [] hF fun X1 a0 w1 hF => ?_)
 apply wp_seq
 refine rg hB TA_ok [2] [] [(3, .r fun _ => .bool (.v q1)), (8, .r fun _ => .bool (.v q2)), (14, .r fun _ => .bool (.v q3)), (20, .r fun _ => .bool (.v q4)), (31, .r fun _ => .bool (.v ql))] hF (hob := by intro X; subst hB; simp only [AO, Ob.holds, BE.den] <;> and_intros <;> repeat first | trivial | rfl | exact S1 | exact S2 | exact S3 | exact S4 | exact SL | exact (fun _ _ => by kernel_rfl) | refine ⟨?_, ?_⟩ | intro h | exact Int.le_refl _ | decide | omega) fun X2 a0 w1 hF => ?_
 refine wp_ret ((rsi hB TA_ok hF nAt (he := ?_)))
 subst hB
 refine Sim.bool ?_
 show (if (if (if (if (if q1 = true then q2 else false) = true then q3 else false) = true then q4 else false) = true then decide ((J.pn : Int) ≤ 500) else false) = true then ql else false) = _
 simp only [ite_and]
 unfold isJobB
 rw [← hq1, ← hq2, ← hq3, ← hq4, ← hql]; rfl
theorem disJ_s (J : JobA) (hl : U64 J.lab.bits) : Spec Tryz.prog 78 [jobV J] (fun _ => .bool (.v (isJobB J))) := by
 intro m w hm hargs
 have SL := risL_s J.lab hl
 simp only [labAV] at SL
 obtain ⟨ql, hql⟩ := eqv (isL J.lab)
 rw [← hql] at SL
 refine en 52 hm hargs Tryz.func78 fun B hB a0 hF => ?_
 refine wp_seq (rg hB TA_ok [1] [1] [] hF fun X0 a0 w1 hF => ?_)
 have O1 := SL
 refine wp_seq (rg hB TA_ok [2] [] [(47, .r fun _ => .bool (.v ql))] hF fun X1 a0 w1 hF => ?_)
 refine wp_ret ((rsi hB TA_ok hF nAt (he := ?_)))
 subst hB
 refine Sim.bool ?_
 show (if (if (if (if (if (if (if (if decide (J.bucket ≥ 1) = true then decide (J.bucket ≤ 16) else false) = true then decide (J.budget ≥ 0) else false) = true then decide (J.budget ≤ 2000) else false) = true then (if (J.how == 1) = true then true else (J.how == 2)) else false) = true then decide (J.most ≥ 0) else false) = true then decide (J.most ≤ 500) else false) = true then decide ((J.pn : Int) ≤ 500) else false) = true then ql else false) = isJobB J
 simp only [ite_and, ite_or]
 unfold isJobB btw
 rw [← hql, Bool.eq_iff_iff]
 cases ql
 ·simp
 simp only [Bool.and_eq_true, Bool.or_eq_true, decide_eq_true_eq, beq_iff_eq, and_true]
 omega
theorem isG_s (g : GotA) (hg : InG g) : Spec Tryz.prog 70 [gotV g] (fun _ => .bool (.v (isGotB g))) := by
 intro m w hm hargs
 have SR := isR_s g.x.A g.x.r.n g.x.c g.x.r.f hg.len g.x.r.kd g.x.r.nx g.x.r.mrk hg.nx
 unfold recI rowI at SR
 obtain ⟨ir, hir⟩ := eqv (isRF g.x.r.kd g.x.r.n g.x.r.f g.x.r.nx g.x.r.mrk)
 rw [← hir] at SR
 refine en 41 hm hargs Tryz.func70 fun B hB a0 hF => ?_
 refine wp_seq (rg hB TA_ok [1] [1] [] hF fun X0 a0 w1 hF => ?_)
 refine wp_seq (wp_block (wp_seq (rg hB TA_ok [4, 1] [1] [] hF fun X1 a0 w1 hF => ?_)))
 apply test_ok hF rfl <;> intro hb hF
 ·have hc : (decide (g.code = 0) || decide (g.code = 8)) = false := by
   have h9 : (if (g.code != 0) = true then (g.code != 8) else false) = true := by subst hB; exact hb
   rw [ite_and] at h9
   by_cases h1 : g.code = 0 <;> by_cases h2 : g.code = 8 <;> simp [h1, h2] at h9 ⊢
  refine wp_seq (rg hB TA_ok [2] [] [] hF fun X2 a0 w1 hF => ?_)
  refine wp_ret ((rsi hB TA_ok hF nAt (he := ?_)))
  subst hB
  refine Sim.bool ?_
  show false = _
  unfold isGotB; rw [hc]; rfl
 have hc : (decide (g.code = 0) || decide (g.code = 8)) = true := by
  have h9 : (if (g.code != 0) = true then (g.code != 8) else false) = false := by subst hB; exact hb
  rw [ite_and] at h9
  by_cases h1 : g.code = 0 <;> by_cases h2 : g.code = 8 <;> simp [h1, h2] at h9 ⊢
 refine wp_seq (rg hB TA_ok [13, 1] [1] [] hF fun X3 a0 w1 hF => ?_)
 apply test_ok hF rfl <;> intro hb hF
 ·have hh : g.has = true := hb
  have O1 := SR
  refine wp_seq (rg hB TA_ok [2] [] [(2, .r fun _ => .bool (.v ir))] hF fun X4 a0 w1 hF => ?_)
  refine wp_ret ((rsi hB TA_ok hF nAt (he := ?_)))
  subst hB
  refine Sim.bool ?_
  show ir = _
  unfold isGotB; rw [hc, if_pos hh, ← hir]; rfl
 have hh : ¬ g.has = true := by rw [Bool.not_eq_true]; exact hb
 refine wp_skip (wp_seq (rg hB TA_ok [3] [3] [] hF fun X5 a0 w1 hF => ?_))
 apply wp_seq
 refine rg hB TA_ok [2] [] [] hF (hob := by intro X; subst hB; simp only [AO, Ob.holds, BE.den] <;> and_intros <;> repeat first | trivial | rfl | exact ob_lab (Kk := noK) _ _ _ _ | exact (fun _ _ => by kernel_rfl) | refine ⟨?_, ?_⟩ | intro h | exact Int.le_refl _ | decide | omega) fun X6 a0 w1 hF => ?_
 refine wp_ret ((rsi hB TA_ok hF nAt (he := ?_)))
 subst hB
 refine Sim.bool ?_
 show (if (if (if (g.x.r.kd == 0) = true then (((g.x.r.n : Nat) : Int) == 0) else false) = true then eqL [.int .i64 g.x.r.nx.len, .int .u64 g.x.r.nx.bits] [.int .i64 0, .int .u64 0] else false) = true then (g.x.r.mrk == 0) else false) = _
 rw [eqL_lab g.x.r.nx ⟨0, 0⟩]
 simp only [ite_and]
 have hn0 : (((g.x.r.n : Nat) : Int) == 0) = decide (g.x.r.n = 0) := by
  rw [Bool.eq_iff_iff, beq_iff_eq, decide_eq_true_eq]; omega
 unfold isGotB; rw [hc, if_neg hh, hn0]; rfl
theorem disG_s (g : GotA) (hg : InG g) : Spec Tryz.prog 77 [gotV g] (fun _ => .bool (.v (isGotB g))) := by
 intro m w hm hargs
 have SR := risR_s g.x.A g.x.r.n g.x.c g.x.r.f hg.len g.x.r.kd g.x.r.nx g.x.r.mrk hg.nx
 unfold recI rowI at SR
 obtain ⟨ir, hir⟩ := eqv (isRF g.x.r.kd g.x.r.n g.x.r.f g.x.r.nx g.x.r.mrk)
 rw [← hir] at SR
 have SS0 := same_s g.x.A g.x.r.n g.x.c g.x.r.f hg.len g.x.r.kd g.x.r.nx g.x.r.mrk none 0 0 (fun _ => zeroItm) 0 ⟨0, 0⟩ 0
 unfold recI rowI at SS0
 have SS : Spec Tryz.prog 42 [recV g.x, .agg [.int .i64 0, .sl none none 0 0 2 (fun _ => []), .int .i64 0, .int .u64 0, .int .u64 0]] (fun _ => .bool (.v (sameRF g.x.r.kd g.x.r.n g.x.r.f g.x.r.nx g.x.r.mrk 0 0 (fun _ => zeroItm) ⟨0, 0⟩ 0))) := SS0.sim ⟨zr, Sim.agg ⟨zr, rowz_sim, zr, zr, zr, trivial⟩, trivial⟩
 obtain ⟨sr, hsr⟩ := eqv (sameRF g.x.r.kd g.x.r.n g.x.r.f g.x.r.nx g.x.r.mrk 0 0 (fun _ => zeroItm) ⟨0, 0⟩ 0)
 rw [← hsr] at SS
 refine en 20 hm hargs Tryz.func77 fun B hB a0 hF => ?_
 refine wp_seq (rg hB TA_ok [1] [1] [] hF fun X0 a0 w1 hF => ?_)
 refine wp_seq (wp_seq (rg hB TA_ok [10, 1] [1] [] hF fun X1 a0 w1 hF => ?_))
 apply test_ok hF rfl <;> intro hb hF
 ·have hc : (decide (g.code = 0) || decide (g.code = 8)) = false := by
   have h9 : (if (g.code != 0) = true then (g.code != 8) else false) = true := by subst hB; exact hb
   rw [ite_and] at h9
   by_cases h1 : g.code = 0 <;> by_cases h2 : g.code = 8 <;> simp [h1, h2] at h9 ⊢
  refine wp_seq (rg hB TA_ok [2] [] [] hF fun X2 a0 w1 hF => ?_)
  refine wp_ret ((rsi hB TA_ok hF nAt (he := ?_)))
  subst hB
  refine Sim.bool ?_
  show false = _
  unfold isGotB; rw [hc]; rfl
 have hc : (decide (g.code = 0) || decide (g.code = 8)) = true := by
  have h9 : (if (g.code != 0) = true then (g.code != 8) else false) = false := by subst hB; exact hb
  rw [ite_and] at h9
  by_cases h1 : g.code = 0 <;> by_cases h2 : g.code = 8 <;> simp [h1, h2] at h9 ⊢
 refine wp_skip (wp_seq (wp_seq (rg hB TA_ok [12, 1] [1] [] hF fun X3 a0 w1 hF => ?_)))
 apply test_ok hF rfl <;> intro hb hF
 ·have hh : g.has = true := hb
  have O1 := SR
  refine wp_seq (rg hB TA_ok [2] [] [(2, .r fun _ => .bool (.v ir))] hF fun X4 a0 w1 hF => ?_)
  refine wp_ret ((rsi hB TA_ok hF nAt (he := ?_)))
  subst hB
  refine Sim.bool ?_
  show ir = _
  unfold isGotB; rw [hc, if_pos hh, ← hir]; rfl
 have hh : ¬ g.has = true := by rw [Bool.not_eq_true]; exact hb
 have O1 := SS
 refine wp_skip (wp_seq (rg hB TA_ok [2] [] [(3, .r fun _ => .bool (.v sr))] hF fun X5 a0 w1 hF => ?_))
 refine wp_ret ((rsi hB TA_ok hF nAt (he := ?_)))
 subst hB
 refine Sim.bool ?_
 show sr = _
 have hs : sameRF g.x.r.kd g.x.r.n g.x.r.f g.x.r.nx g.x.r.mrk 0 0 (fun _ => zeroItm) ⟨0, 0⟩ 0 = (decide (g.x.r.kd = 0) && decide (g.x.r.n = 0) && decide (g.x.r.nx = ⟨0, 0⟩) && decide (g.x.r.mrk = 0)) := by
  unfold sameRF sameF
  by_cases hn0 : g.x.r.n = 0
  ·simp [hn0]
  simp [hn0]
 rw [hsr, hs]
 unfold isGotB; rw [hc, if_neg hh]; rfl
theorem odd_s (g : GotA) (hg : InG g) : Spec Tryz.prog 69 [gotV g] (fun _ => .bool (.v (!isGotB g))) := by
 intro m w hm hargs
 have S := isG_s g hg
 obtain ⟨q, hq⟩ := eqv (isGotB g)
 rw [← hq] at S ⊢
 refine en 6 hm hargs Tryz.func69 fun B hB a0 hF => ?_
 refine wp_seq (rg hB TA_ok [1] [1] [] hF fun X0 a0 w1 hF => ?_)
 have O1 := S
 refine wp_seq (rg hB TA_ok [2] [] [(1, .r fun _ => .bool (.v q))] hF fun X1 a0 w1 hF => ?_)
 refine wp_ret ((rsi hB TA_ok hF nAt (he := ?_)))
 subst hB
 exact zr
theorem ixG_s (A : Option Addr) (n c : Nat) (f : Nat → GotA) (hin : ∀ j, j < n → InG (f j)) : Spec Tryz.prog 142 [gotsV A n c f, .fn 69 [] []] (fun x => .int .i64 (if allGot n f = true then -1 else (x.b : Int))) := by
 intro m w hm hargs
 have hlen := ok_len (hargs (gotsV A n c f) (by simp))
 have hmx : maxLen = 9223372036854775807 := rfl
 refine en 19 hm hargs Tryz.func142 fun B hB a0 hF => ?_
 refine wp_seq (rg hB TA_ok [0, 1] [] [] hF fun X0 a0 w1 hF => ?_)
 refine wp_seq (wp_seq (rg hB TA_ok [8, 0, 1, 7] [] [] hF fun X1 a0 w1 hF => ?_))
 refine wp_block (loop_pre (ι := Nat) (fun p => [(8, .int .i64 (p : Int))]) (fun p => []) (fun p => []) (fun p => p ≤ n ∧ ∀ j, j < p → isGotB (f j) = true) (fun p => n - p) 0 ⟨Nat.zero_le _, fun i hi => absurd hi (Nat.not_lt_zero _)⟩ hF ?_)
 rintro i ⟨hi, hall⟩ a0 w1 hF
 try dsimp only at hi
 try dsimp only at hall
 refine wp_seq (rg hB TA_ok [9, 0, 1, 7, 8] [] [] hF fun X2 a0 w1 hF => ?_)
 refine wp_seq (test_ok hF rfl (fun hb hF => ?_) (fun hb hF => ?_))
 ·have hin_ : i < n := by
   have : (i : Int) < (n : Int) := by subst hB; simpa [std, sC] using hb
   omega
  have S := odd_s (f i) (hin i hin_)
  obtain ⟨q, hq⟩ := eqv (isGotB (f i))
  rw [← hq] at S
  refine wp_skip (wp_seq (wp_block (wp_seq (rg hB TA_ok [0, 1, 5, 7, 8] [] [] hF fun X3 a0 w1 hF => ?_))))
  apply wp_seq
  refine rg hB TA_ok [16, 0, 1, 5, 7, 8] [] [(5, .r fun _ => .bool (.v (!q)))] hF (hob := by intro X; subst hB; simp only [AO, Ob.holds, BE.den] <;> and_intros <;> repeat first | trivial | rfl | exact (show (0 : Int) ≤ (i : Int) by omega) | exact (show (i : Int) < (n : Int) by omega) | exact S | exact ⟨(show (0 : Int) ≤ (i : Int) by omega), (show (i : Int) < (n : Int) by omega)⟩ | exact (fun _ _ => by kernel_rfl) | refine ⟨?_, ?_⟩ | intro h | exact Int.le_refl _ | decide | omega) fun X4 a0 w1 hF => ?_
  apply test_ok hF rfl <;> intro hb hF
  ·have hne : isGotB (f i) = false := by
    rw [← hq]; have : (!q) = true := hb
    simpa using this
   refine wp_seq (rg hB TA_ok [4] [] [] hF fun X5 a0 w1 hF => ?_)
   refine wp_ret ((rsp hB TA_ok hF (⟨i, fun _ => none, fun _ => 0, fun _ => .empty⟩) (he := ?_)).1)
   subst hB
   rw [allGot_no hin_ hne]; rfl
  have hne : isGotB (f i) = true := by
   rw [← hq]; have : (!q) = false := hb
   simpa using this
  refine wp_skip (rg hB TA_ok [8, 0, 1, 7] [] [] hF fun X6 a0 w1 hF => ?_)
  have e : B.arith .add .i64 (i : Int) 1 = ((i + 1 : Nat) : Int) := by subst hB; exact wrap_succ (n := n) hin_ (by omega)
  refine ⟨i + 1, ⟨by omega, fun j hj => ?_⟩, by omega, by rw [← e]; exact hF⟩
  by_cases hij : j = i
  ·rw [hij]; exact hne
  exact hall j (by omega)
 have hout : i = n := by
  have : ¬ (i : Int) < (n : Int) := by subst hB; simpa [std, sC] using hb
  omega
 refine wp_exit (wp_seq (rg hB TA_ok [4] [] [] hF fun X7 a0 w1 hF => ?_))
 refine wp_ret ((rsp hB TA_ok hF nAt (he := ?_)).1)
 subst hB
 rw [hout] at hall
 rw [allGot_yes hall]; rfl
theorem ctG_s (A : Option Addr) (n c : Nat) (f : Nat → GotA) (hin : ∀ j, j < n → InG (f j)) : Spec Tryz.prog 73 [gotsV A n c f, .fn 69 [] []] (fun _ => .bool (.v (!allGot n f))) := by
 intro m w hm hargs
 have S0 := ixG_s A n c f hin
 obtain ⟨q, hq⟩ := eqv (allGot n f)
 rw [← hq] at S0 ⊢
 refine en 9 hm hargs Tryz.func73 fun B hB a0 hF => ?_
 refine wp_seq (rg hB TA_ok [0, 1] [] [] hF fun X0 a0 w1 hF => ?_)
 have O1 := S0
 refine wp_seq (rg hB TA_ok [4] [] [(2, .r fun x => .int .i64 (if q = true then -1 else (x.b : Int)))] hF fun X1 a0 w1 hF => ?_)
 refine wp_ret ((rsi hB TA_ok hF nAt (he := ?_)))
 subst hB
 refine Sim.bool ?_
 show decide ((if q = true then -1 else (((X1 2).b : Nat) : Int)) ≥ 0) = !q
 cases q
 ·simp
 rfl
theorem drt_s (J : JobA) (hl : U64 J.lab.bits) (A : Option Addr) (n c : Nat) (f : Nat → GotA) (hin : ∀ j, j < n → InG (f j)) : Spec Tryz.prog 33 [jobV J, gotsV A n c f] (fun _ => .bool (.v (allGot n f && isJobB J))) := by
 intro m w hm hargs
 have hlen := ok_len (hargs (gotsV A n c f) (by simp))
 have hmx : maxLen = 9223372036854775807 := rfl
 have SJ := disJ_s J hl
 obtain ⟨ij, hij⟩ := eqv (isJobB J)
 rw [← hij] at SJ
 refine en 20 hm hargs Tryz.func33 fun B hB a0 hF => ?_
 refine wp_seq (rg hB TA_ok [1, 2] [2] [] hF fun X0 a0 w1 hF => ?_)
 refine wp_seq (wp_seq (rg hB TA_ok [5, 1, 2] [2] [] hF fun X1 a0 w1 hF => ?_))
 refine wp_block (loop_pre (ι := Nat) (fun p => [(5, .int .i64 (p : Int))]) (fun p => []) (fun p => []) (fun p => p ≤ n ∧ ∀ j, j < p → isGotB (f j) = true) (fun p => n - p) 0 ⟨Nat.zero_le _, fun i hi => absurd hi (Nat.not_lt_zero _)⟩ hF ?_)
 rintro i ⟨hi, hall⟩ a0 w1 hF
 try dsimp only at hi
 try dsimp only at hall
 refine wp_seq (wp_seq (rg hB TA_ok [9, 1, 2, 5] [2] [] hF fun X2 a0 w1 hF => ?_))
 apply test_ok hF rfl <;> intro hb hF
 ·have hin_ : i < n := by
   have : (i : Int) < (n : Int) := by subst hB; simpa [std, sC] using hb
   omega
  have S := disG_s (f i) (hin i hin_)
  obtain ⟨q, hq⟩ := eqv (isGotB (f i))
  rw [← hq] at S
  refine wp_skip (wp_seq (wp_block (wp_seq ?_)))
  refine rg hB TA_ok [17, 1, 2, 5] [2] [(4, .r fun _ => .bool (.v q))] hF (hob := by intro X; subst hB; simp only [AO, Ob.holds, BE.den] <;> and_intros <;> repeat first | trivial | rfl | exact (show (0 : Int) ≤ (i : Int) by omega) | exact (show (i : Int) < (n : Int) by omega) | exact S | exact ⟨(show (0 : Int) ≤ (i : Int) by omega), (show (i : Int) < (n : Int) by omega)⟩ | exact (fun _ _ => by kernel_rfl) | refine ⟨?_, ?_⟩ | intro h | exact Int.le_refl _ | decide | omega) fun X4 a0 w1 hF => ?_
  apply test_ok hF rfl <;> intro hb hF
  ·have hne : isGotB (f i) = false := by
    rw [← hq]; have : (!q) = true := by subst hB; exact hb
    simpa using this
   refine wp_seq (rg hB TA_ok [4] [] [] hF fun X5 a0 w1 hF => ?_)
   refine wp_ret ((rsp hB TA_ok hF nAt (he := ?_)).1)
   subst hB
   rw [allGot_no hin_ hne]; rfl
  have hne : isGotB (f i) = true := by
   rw [← hq]; have : (!q) = false := by subst hB; exact hb
   simpa using this
  refine wp_skip (rg hB TA_ok [5, 1, 2] [2] [] hF fun X3 a0 w1 hF => ?_)
  have e : B.arith .add .i64 (i : Int) 1 = ((i + 1 : Nat) : Int) := by subst hB; exact wrap_succ (n := n) hin_ (by omega)
  refine ⟨i + 1, ⟨by omega, fun j hj => ?_⟩, by omega, by rw [← e]; exact hF⟩
  by_cases hij : j = i
  ·rw [hij]; exact hne
  exact hall j (by omega)
 have hout : i = n := by
  have : ¬ (i : Int) < (n : Int) := by subst hB; simpa [std, sC] using hb
  omega
 have O1 := SJ
 refine wp_exit (wp_seq (rg hB TA_ok [4] [] [(1, .r fun _ => .bool (.v ij))] hF fun X6 a0 w1 hF => ?_))
 refine wp_ret ((rsp hB TA_ok hF nAt (he := ?_)).1)
 subst hB
 rw [hout] at hall
 rw [allGot_yes hall, ← hij]; rfl
theorem enters74 : Enters Tryz.prog 74 := fun _ _ => by kernel_rfl
theorem nx2_no0 (Q q0 : WntA) (e : Int) (b8 b9 b11 br : Nat) (J : JobA) (A : Option Addr) (c : Nat) (p : Pst) (hz : p.n = 0) : SpecU Tryz.prog 74 .returning .returning .nili [.ptr 8 b8 0, .ptr 11 b11 0, .ptr 9 b9 0] [(8, ⟨b8, 40, wntC q0⟩), (11, ⟨b11, 93, [.ptr 32 br 0]⟩), (9, ⟨b9, 36, [.int .i64 e]⟩), (32, ⟨br, 114, runC J A c p⟩)] (fun _ => ⟨.tup [], [(8, wntC q0), (11, [.ptr 32 br 0]), (9, [.int .i64 e]), (32, runC J A c p)], []⟩) := by
 intro m w hm hargs hpre hx
 refine enterRec .no hm hpre hargs hx Tryz.func74 (by exact rfl) (by exact rfl) (by exact rfl) (by exact rfl) (by exact rfl) (by simp [Tryz.ntmps74]) (by simp [Tryz.ntmps74]) fun a0 hF => ?_
 simp only [Tryz.ntmps74, startT, St.put] at hF
 obtain ⟨B, hB⟩ := eqv std
 refine wp_block (wp_seq (rg hB TA_ok [8, 6, 0, 1, 2] [8, 11, 9, 32] [] hF fun X3 a0 w1 hF => ?_))
 refine test_tt hF rfl (fun hF => ?_)
 refine rg hB TA_ok [0, 1, 2] [8, 11, 9, 32] [] hF fun X4 a0 w1 hF => ?_
 refine wp_seq (rg hB TA_ok [18, 0, 2] [8, 11, 9, 32] [] hF fun X8 a0 w1 hF => ?_)
 apply test_ok hF rfl <;> intro hb hF
 ·exfalso
  have ht : 0 < p.n := by
   have : (0 : Int) < (p.n : Int) := by subst hB; simpa [std, sC] using hb
   omega
  omega
 skip
 refine wp_skip ((rx hB TA_ok hF nAt [] (hs := ?_)).2)
 subst hB; exact ⟨rfl, ⟨_, rfl, zl⟩, rfl, ⟨_, rfl, zl⟩, rfl, ⟨_, rfl, zl⟩, rfl, ⟨_, rfl, zl⟩, trivial⟩
theorem nx2_no1 (Q q0 : WntA) (e : Int) (b8 b9 b11 br : Nat) (J : JobA) (A : Option Addr) (c : Nat) (p : Pst) (hz : 0 < p.n) : SpecU Tryz.prog 74 .returning .returning .nili [.ptr 8 b8 0, .ptr 11 b11 0, .ptr 9 b9 0] [(8, ⟨b8, 40, wntC q0⟩), (11, ⟨b11, 93, [.ptr 32 br 0]⟩), (9, ⟨b9, 36, [.int .i64 e]⟩), (32, ⟨br, 114, runC J A c p⟩)] (fun _ => ⟨.tup [], [(8, [.int .i64 0, .int .i64 0, .int .u64 0, .int .u64 0, .int .i64 0, .sl none none 0 0 2 (fun _ => []), .int .i64 0, .int .u64 0, .int .u64 0, .int .i64 0, .bool .ff, .str ⟨#[]⟩, .sl none none 0 0 2 (fun _ => []), .int .u64 0, .bool .ff]), (11, [.ptr 32 br 0]), (9, [.int .i64 5]), (32, runC J A c p)], []⟩) := by
 intro m w hm hargs hpre hx
 refine enterRec .no hm hpre hargs hx Tryz.func74 (by exact rfl) (by exact rfl) (by exact rfl) (by exact rfl) (by exact rfl) (by simp [Tryz.ntmps74]) (by simp [Tryz.ntmps74]) fun a0 hF => ?_
 simp only [Tryz.ntmps74, startT, St.put] at hF
 obtain ⟨B, hB⟩ := eqv std
 refine wp_block (wp_seq (rg hB TA_ok [8, 6, 0, 1, 2] [8, 11, 9, 32] [] hF fun X3 a0 w1 hF => ?_))
 refine test_tt hF rfl (fun hF => ?_)
 refine rg hB TA_ok [0, 1, 2] [8, 11, 9, 32] [] hF fun X4 a0 w1 hF => ?_
 refine wp_seq (rg hB TA_ok [18, 0, 2] [8, 11, 9, 32] [] hF fun X8 a0 w1 hF => ?_)
 apply test_ok hF rfl <;> intro hb hF
 ·skip
  refine rg hB TA_ok [] [8, 11, 9, 32] [] hF fun X9 a0 w1 hF => ?_
  refine (rx hB TA_ok hF nAt [] (hs := ?_)).2
  subst hB; exact ⟨rfl, ⟨_, rfl, zl⟩, rfl, ⟨_, rfl, zl⟩, rfl, ⟨_, rfl, zl⟩, rfl, ⟨_, rfl, zl⟩, trivial⟩
 exfalso
 have ht : ¬ 0 < p.n := by
  have : ¬ (0 : Int) < (p.n : Int) := by subst hB; simpa [std, sC] using hb
  omega
 exact ht hz
theorem nx2_yes0 (Q q0 : WntA) (e : Int) (b8 b9 b11 br : Nat) (J : JobA) (A : Option Addr) (c : Nat) (p : Pst) (hz : p.n = 0) : SpecU Tryz.prog 74 (.panicking [{ v := .iface 40 (wntV Q).den, recovered := false }]) (.panicking [{ v := .iface 40 (wntV Q).den, recovered := true }]) (.ifc 40 (wntV Q)) [.ptr 8 b8 0, .ptr 11 b11 0, .ptr 9 b9 0] [(8, ⟨b8, 40, wntC q0⟩), (11, ⟨b11, 93, [.ptr 32 br 0]⟩), (9, ⟨b9, 36, [.int .i64 e]⟩), (32, ⟨br, 114, runC J A c p⟩)] (fun _ => ⟨.tup [], [(8, wntC Q), (11, [.ptr 32 br 0]), (9, [.int .i64 e]), (32, runC J A c p)], []⟩) := by
 intro m w hm hargs hpre hx
 refine enterRec (.yes 40 (wntV Q)) hm hpre hargs hx Tryz.func74 (by exact rfl) (by exact rfl) (by exact rfl) (by exact rfl) (by exact rfl) (by simp [Tryz.ntmps74]) (by simp [Tryz.ntmps74]) fun a0 hF => ?_
 simp only [Tryz.ntmps74, startT, St.put] at hF
 obtain ⟨B, hB⟩ := eqv std
 refine wp_block (wp_seq (rg hB TA_ok [8, 6, 0, 1, 2] [8, 11, 9, 32] [] hF fun X3 a0 w1 hF => ?_))
 refine test_ff hF rfl (fun hF => ?_)
 obtain ⟨dd, hu, hni⟩ := (lookT_ok TA_ok (t := 40) rfl).conc rfl
 refine wp_seq (wp_region_lit (man_tassert rfl rfl rfl rfl hF (Nat.le_of_ble_eq_true rfl) rfl hu hni ?_))
 intro a0 hF
 refine lnd 1 hB TA_ok [10, 11, 0, 1, 2] [8, 11, 9, 32] [] hF fun X5 a0 w1 hF => ?_
 refine test_tt hF rfl (fun hF => ?_)
 refine wp_seq (rg hB TA_ok [0, 1, 2, 4] [8, 11, 9, 32, 4] [] hF fun X6 a0 w1 hF => ?_)
 refine rg hB TA_ok [0, 1, 2] [8, 11, 9, 32] [] hF fun X7 a0 w1 hF => ?_
 refine wp_seq (rg hB TA_ok [18, 0, 2] [8, 11, 9, 32] [] hF fun X8 a0 w1 hF => ?_)
 apply test_ok hF rfl <;> intro hb hF
 ·exfalso
  have ht : 0 < p.n := by
   have : (0 : Int) < (p.n : Int) := by subst hB; simpa [std, sC] using hb
   omega
  omega
 skip
 refine wp_skip ((rx hB TA_ok hF nAt [] (hs := ?_)).2)
 subst hB; exact ⟨rfl, ⟨_, rfl, zl⟩, rfl, ⟨_, rfl, zl⟩, rfl, ⟨_, rfl, zl⟩, rfl, ⟨_, rfl, zl⟩, trivial⟩
theorem nx2_yes1 (Q q0 : WntA) (e : Int) (b8 b9 b11 br : Nat) (J : JobA) (A : Option Addr) (c : Nat) (p : Pst) (hz : 0 < p.n) : SpecU Tryz.prog 74 (.panicking [{ v := .iface 40 (wntV Q).den, recovered := false }]) (.panicking [{ v := .iface 40 (wntV Q).den, recovered := true }]) (.ifc 40 (wntV Q)) [.ptr 8 b8 0, .ptr 11 b11 0, .ptr 9 b9 0] [(8, ⟨b8, 40, wntC q0⟩), (11, ⟨b11, 93, [.ptr 32 br 0]⟩), (9, ⟨b9, 36, [.int .i64 e]⟩), (32, ⟨br, 114, runC J A c p⟩)] (fun _ => ⟨.tup [], [(8, [.int .i64 0, .int .i64 0, .int .u64 0, .int .u64 0, .int .i64 0, .sl none none 0 0 2 (fun _ => []), .int .i64 0, .int .u64 0, .int .u64 0, .int .i64 0, .bool .ff, .str ⟨#[]⟩, .sl none none 0 0 2 (fun _ => []), .int .u64 0, .bool .ff]), (11, [.ptr 32 br 0]), (9, [.int .i64 5]), (32, runC J A c p)], []⟩) := by
 intro m w hm hargs hpre hx
 refine enterRec (.yes 40 (wntV Q)) hm hpre hargs hx Tryz.func74 (by exact rfl) (by exact rfl) (by exact rfl) (by exact rfl) (by exact rfl) (by simp [Tryz.ntmps74]) (by simp [Tryz.ntmps74]) fun a0 hF => ?_
 simp only [Tryz.ntmps74, startT, St.put] at hF
 obtain ⟨B, hB⟩ := eqv std
 refine wp_block (wp_seq (rg hB TA_ok [8, 6, 0, 1, 2] [8, 11, 9, 32] [] hF fun X3 a0 w1 hF => ?_))
 refine test_ff hF rfl (fun hF => ?_)
 obtain ⟨dd, hu, hni⟩ := (lookT_ok TA_ok (t := 40) rfl).conc rfl
 refine wp_seq (wp_region_lit (man_tassert rfl rfl rfl rfl hF (Nat.le_of_ble_eq_true rfl) rfl hu hni ?_))
 intro a0 hF
 refine lnd 1 hB TA_ok [10, 11, 0, 1, 2] [8, 11, 9, 32] [] hF fun X5 a0 w1 hF => ?_
 refine test_tt hF rfl (fun hF => ?_)
 refine wp_seq (rg hB TA_ok [0, 1, 2, 4] [8, 11, 9, 32, 4] [] hF fun X6 a0 w1 hF => ?_)
 refine rg hB TA_ok [0, 1, 2] [8, 11, 9, 32] [] hF fun X7 a0 w1 hF => ?_
 refine wp_seq (rg hB TA_ok [18, 0, 2] [8, 11, 9, 32] [] hF fun X8 a0 w1 hF => ?_)
 apply test_ok hF rfl <;> intro hb hF
 ·skip
  refine rg hB TA_ok [] [8, 11, 9, 32] [] hF fun X9 a0 w1 hF => ?_
  refine (rx hB TA_ok hF nAt [] (hs := ?_)).2
  subst hB; exact ⟨rfl, ⟨_, rfl, zl⟩, rfl, ⟨_, rfl, zl⟩, rfl, ⟨_, rfl, zl⟩, rfl, ⟨_, rfl, zl⟩, trivial⟩
 exfalso
 have ht : ¬ 0 < p.n := by
  have : ¬ (0 : Int) < (p.n : Int) := by subst hB; simpa [std, sC] using hb
  omega
 exact ht hz
theorem sim_can {v v' : AV} (h : Sim v v') : Sim (can v) (can v') :=
 ⟨by rw [can_den, can_den]; exact h.1, by rw [can_one, can_one]; exact h.2.1, fun m w hv => (can_ok _).1 (h.2.2 _ _ ((can_ok _).2 hv))⟩
def dN (b8 b11 b9 : Nat) : Deferred := { target := .fn (.func 74) (AV.denL [.ptr 8 b8 0, .ptr 11 b11 0, .ptr 9 b9 0]).toArray, args := (AV.denL []).toArray }
def nxOut (r : Rs Rsl) : Atom → Out := fun x => .ret ⟨.tup [wntV (wqA x (toldM r).1), .int .i64 (toldM r).2], [], []⟩
theorem dptrs_ok {m : Nat → Nat → Prop} {w : World} {b8 b11 b9 : Nat} : ∀ v ∈ ([] : List AV) ++ [.ptr 8 b8 0, .ptr 11 b11 0, .ptr 9 b9 0], Ok m w v := by
 intro v hv
 simp only [List.nil_append, List.mem_cons, List.not_mem_nil, or_false] at hv
 rcases hv with rfl | rfl | rfl <;> exact .ptr _ _ _
section
variable {m : Nat → Nat → Prop} {w0 w : World} {a : Act} {b8 b9 b11 br : Nat} {q0 Q : WntA} {J : JobA} {A : Option Addr} {c : Nat} {p : Pst} {r : Rs Rsl}
theorem nx_thr {x : Atom} {wq : Wq} (h : Fits ⟨m, w0, ats [], [dN b8 b11 b9], noK⟩ ⟨49, [(8, .ptr 8 b8 0), (9, .ptr 9 b9 0)], [], [(8, ⟨b8, 40, wntC q0⟩), (9, ⟨b9, 36, [.int .i64 0]⟩), (11, ⟨b11, 93, [.ptr 32 br 0]⟩), (32, ⟨br, 114, runC J A c p⟩)], []⟩ a w) (hok : Ok (St.m ⟨49, [(8, .ptr 8 b8 0), (9, .ptr 9 b9 0)], [], [(8, ⟨b8, 40, wntC q0⟩), (9, ⟨b9, 36, [.int .i64 0]⟩), (11, ⟨b11, 93, [.ptr 32 br 0]⟩), (32, ⟨br, 114, runC J A c p⟩)], []⟩ ⟨m, w0, ats [], [], noK⟩) w (wntV Q)) (hQ : Q = wqA x wq) (hr : r = .stop wq p) :
  bodyPostD Tryz.prog Tryz.f31 (OPost m w0 [] (nxOut r)) (.panic [{ v := .iface 40 (wntV Q).den, recovered := false }]) a w := by
 subst hr
 show Leaves _ _ a.tmps _ a.defers (.panicking _) w
 by_cases hz : p.n = 0
 ·have ht : toldM (.stop wq p) = (wq, 0) := by simp [toldM, hz]
  refine leave_u (C := ⟨m, w0, ats [], [], noK⟩) (l := []) (r := [.ptr 8 b8 0, .ptr 11 b11 0, .ptr 9 b9 0]) (ds := []) (x := (.ifc 40 (wntV Q))) h (by simp) enters74 (nx2_yes0 Q q0 0 b8 b9 b11 br J A c p hz) dptrs_ok (.ifc _ _ hok) (by intro e he; simp only [List.mem_cons, List.not_mem_nil, or_false] at he; rcases he with rfl | rfl | rfl | rfl <;> rfl) rfl fun w2 h2 => ?_
  show Leaves _ _ a.tmps _ [] .returning w2
  refine leave_end (a := { tmps := a.tmps, defers := [] }) TA_ok h2 (rs := [.cell 8 40, .cell 9 36]) rfl (by conv => lhs; cbv) ?_ x rfl [] ?_ trivial trivial
  ·simp [AO, Ob.holds]
  rw [ht, hQ]; exact zr
 have hz : 0 < p.n := by omega
 have ht : toldM (.stop wq p) = (zWq, 5) := by simp [toldM, hz]
 refine leave_u (C := ⟨m, w0, ats [], [], noK⟩) (l := []) (r := [.ptr 8 b8 0, .ptr 11 b11 0, .ptr 9 b9 0]) (ds := []) (x := (.ifc 40 (wntV Q))) h (by simp) enters74 (nx2_yes1 Q q0 0 b8 b9 b11 br J A c p hz) dptrs_ok (.ifc _ _ hok) (by intro e he; simp only [List.mem_cons, List.not_mem_nil, or_false] at he; rcases he with rfl | rfl | rfl | rfl <;> rfl) rfl fun w2 h2 => ?_
 show Leaves _ _ a.tmps _ [] .returning w2
 refine leave_end (a := { tmps := a.tmps, defers := [] }) TA_ok h2 (rs := [.cell 8 40, .cell 9 36]) rfl (by conv => lhs; cbv) ?_ ⟨0, fun _ => none, fun _ => 0, fun _ => .empty⟩ rfl [] ?_ trivial trivial
 ·simp [AO, Ob.holds]
 rw [ht]; exact Sim.tup ⟨Sim.agg ⟨zr, zr, zr, zr, zr, zq0, zr, zr, zr, zr, zr, zr, zq0, zr, zr, trivial⟩, zr, trivial⟩
theorem nx_ret {x : Atom} {r1 : Rsl} (h : Fits ⟨m, w0, ats [], [dN b8 b11 b9], noK⟩ ⟨49, [(8, .ptr 8 b8 0), (9, .ptr 9 b9 0)], [], [(8, ⟨b8, 40, wntC q0⟩), (9, ⟨b9, 36, [.int .i64 0]⟩), (11, ⟨b11, 93, [.ptr 32 br 0]⟩), (32, ⟨br, 114, runC J A c p⟩)], []⟩ a w) (hq : Sim (wntV q0) (wntV (wqA x ⟨4, ⟨0, 0⟩, 0, zeroRec, r1⟩))) (hr : r = .ok r1 p) :
  bodyPostD Tryz.prog Tryz.f31 (OPost m w0 [] (nxOut r)) .ret a w := by
 subst hr
 show Leaves _ _ a.tmps _ a.defers .returning w
 by_cases hz : p.n = 0
 ·have ht : toldM (.ok r1 p) = (⟨4, ⟨0, 0⟩, 0, zeroRec, r1⟩, 0) := by simp [toldM, hz]
  refine leave_u (C := ⟨m, w0, ats [], [], noK⟩) (l := []) (r := [.ptr 8 b8 0, .ptr 11 b11 0, .ptr 9 b9 0]) (ds := []) (x := .nili) h (by simp) enters74 (nx2_no0 q0 q0 0 b8 b9 b11 br J A c p hz) dptrs_ok .nili (by intro e he; simp only [List.mem_cons, List.not_mem_nil, or_false] at he; rcases he with rfl | rfl | rfl | rfl <;> rfl) rfl fun w2 h2 => ?_
  show Leaves _ _ a.tmps _ [] .returning w2
  refine leave_end (a := { tmps := a.tmps, defers := [] }) TA_ok h2 (rs := [.cell 8 40, .cell 9 36]) rfl (by conv => lhs; cbv) ?_ x rfl [] ?_ trivial trivial
  ·simp [AO, Ob.holds]
  rw [ht]; exact Sim.tup ⟨sim_can hq, zr, trivial⟩
 have hz : 0 < p.n := by omega
 have ht : toldM (.ok r1 p) = (zWq, 5) := by simp [toldM, hz]
 refine leave_u (C := ⟨m, w0, ats [], [], noK⟩) (l := []) (r := [.ptr 8 b8 0, .ptr 11 b11 0, .ptr 9 b9 0]) (ds := []) (x := .nili) h (by simp) enters74 (nx2_no1 q0 q0 0 b8 b9 b11 br J A c p hz) dptrs_ok .nili (by intro e he; simp only [List.mem_cons, List.not_mem_nil, or_false] at he; rcases he with rfl | rfl | rfl | rfl <;> rfl) rfl fun w2 h2 => ?_
 show Leaves _ _ a.tmps _ [] .returning w2
 refine leave_end (a := { tmps := a.tmps, defers := [] }) TA_ok h2 (rs := [.cell 8 40, .cell 9 36]) rfl (by conv => lhs; cbv) ?_ ⟨0, fun _ => none, fun _ => 0, fun _ => .empty⟩ rfl [] ?_ trivial trivial
 ·simp [AO, Ob.holds]
 rw [ht]; exact Sim.tup ⟨Sim.agg ⟨zr, zr, zr, zr, zr, zq0, zr, zr, zr, zr, zr, zr, zq0, zr, zr, trivial⟩, zr, trivial⟩
end
theorem next_d (F : FuncId) (r : Rs Rsl) (J : JobA) (hJ : JobIn J) (A : Option Addr) (n c : Nat) (f : Nat → GotA) (hn : n ≤ 900000) (hin : ∀ j, j < n → InG (f j)) (kG : Option Nat) (kA : Option Addr) (kn kc : Nat) (kf : Nat → Int) (hdo : (isJobB J && anyF kn kf J.kind && allGot n f) = true → ∀ k0 b, RunA F k0 b (J.less n) A c (pst0 n f) [] r) (hen : Enters Tryz.prog F) : SpecO Tryz.prog 31 [jobV J, gotsV A n c f, .sl kG kA kn kc 1 (fun i => [.int .i64 (kf i)]), .fn F [] []] [] (fun x => .ret ⟨.tup [wntV (wqA x (nextR (isJobB J && anyF kn kf J.kind && allGot n f) r).1), .int .i64 (nextR (isJobB J && anyF kn kf J.kind && allGot n f) r).2], [], []⟩) := by
 intro m w hm hargs hpre
 have S1 := isJ_s J hJ.lab
 have S2 : Spec Tryz.prog 72 [.sl kG kA kn kc 1 (fun i => [.int .i64 (kf i)]), .int .i64 J.kind] (fun _ => .bool (.v (anyF kn kf J.kind))) := (coni_s kA kn kc kf J.kind).sim ⟨Sim.recell (fun _ _ => rfl), zr, trivial⟩
 have S3 := ctG_s A n c f hin
 obtain ⟨okb, hokb⟩ := eqv ((isJobB J && anyF kn kf J.kind && allGot n f))
 rw [← hokb] at hdo ⊢
 obtain ⟨ij, hij⟩ := eqv (isJobB J)
 rw [← hij] at S1 hokb
 obtain ⟨ck, hck⟩ := eqv (anyF kn kf J.kind)
 rw [← hck] at S2 hokb
 obtain ⟨ag, hag⟩ := eqv (allGot n f)
 rw [← hag] at S3 hokb
 refine enterD hm hpre hargs Tryz.func31 rfl (by simp [Tryz.ntmps31]) fun a0 hF => ?_
 simp only [Tryz.ntmps31, startT] at hF
 obtain ⟨B, hB⟩ := eqv std
 refine wp_seq (rg hB TA_ok [1, 2, 3, 4, 8, 9] [4, 8, 9] [] hF fun X0 a0 w1 hF => ?_)
 refine wp_seq (rg hB TA_ok [1, 2, 3, 4, 8, 9, 10] [4, 8, 9] [] hF fun X1 a0 w1 hF => ?_)
 have O1 := S1
 have O2 := S2
 have O3 := S3
 refine wp_seq (wp_seq (rg hB TA_ok [26, 1, 3, 4, 8, 9] [4, 8, 9] [(1, .r fun _ => .bool (.v ij)), (7, .r fun _ => .bool (.v ck)), (13, .r fun _ => .bool (.v (!ag)))] hF fun X2 a0 w1 hF => ?_))
 apply test_ok hF rfl <;> intro hb hF
 ·have hf : okb = false := by
   have h9 : (if (if (!ij) = true then true else !ck) = true then true else !ag) = true := by subst hB; exact hb
   rw [hokb]; cases ij <;> cases ck <;> cases ag <;> first | rfl | cases h9
  refine wp_seq (rg hB TA_ok [8, 9] [8, 9] [] hF fun X3 a0 w1 hF => ?_)
  refine wp_ret (ret_d (fn := Tryz.f31) TA_ok hF (rs := [.cell 8 40, .cell 9 36]) rfl (by conv => lhs; cbv) ?_ ⟨0, fun _ => none, fun _ => 0, fun _ => .empty⟩ rfl [] ?_ trivial trivial)
  ·subst hB; simp [AO, Ob.holds]
  rw [hf]; subst hB; exact Sim.tup ⟨Sim.agg ⟨zr, zr, zr, zr, zr, zq0, zr, zr, zr, zr, zr, zr, zq0, zr, zr, trivial⟩, zr, trivial⟩
 have hf : okb = true := by
  have h9 : (if (if (!ij) = true then true else !ck) = true then true else !ag) = false := by subst hB; exact hb
  rw [hokb]; cases ij <;> cases ck <;> cases ag <;> first | rfl | cases h9
 have hjb : isJobB J = true := by
  rw [← hij]; rw [hokb] at hf; revert hf; cases ij <;> simp
 have hjo := job_ok hJ hjb hn
 have e1 : IntKind.i64.wrap (J.budget - (n : Int)) = (J.less n).budget := wrap_in (by have := hjo.lo; show -9223372036854775808 ≤ (J.less n).budget; omega) (by have := hjo.hi; show (J.less n).budget ≤ 9223372036854775807; omega)
 refine wp_skip (wp_seq (rg hB TA_ok [1, 3, 8, 9, 11] [32, 8, 9, 11] [] hF fun X4 a0 w1 hF => ?_))
 refine wp_seq (rg hB TA_ok [3, 8, 9, 11] [32, 8, 9, 11] [] hF fun X5 a0 w1 hF => ?_)
 replace hF := hF.memS (cells' := runC (J.less n) A c (pst0 n f)) (by subst hB; exact ⟨zr, zr, zr, zr, zr, zr, zr, zr, zr, zr, zr, zr, zr, zr, Sim.of_eq (congrArg (AV.int .i64) e1), zr, zr, Sim.ff, zr, zr, zr, zr, trivial⟩)
 refine wp_seq (wp_region_lit (lpr 0 1 hB TA_ok [44, 3, 8, 9, 11] [32, 8, 9, 11] [] hF fun X6_0 a0 w1 hF => ?_))
 refine man_defer rfl rfl rfl rfl rfl hF rfl rfl ?_
 intro a0 hF
 replace hF : Fits ⟨m, w, ats [], [dN (X0 1).b (X4 5).b (X0 2).b], noK⟩ _ _ _ := hF
 refine wpList_nil (wp_seq (wp_region_lit (lpr 0 2 hB TA_ok [45, 46, 8, 9] [32, 8, 9, 11] [] hF fun X7_0 a0 w1 hF => ?_)))
 have SD := hdo hf 32 (X4 4).b
 rcases hmd : r with ⟨r1, p1⟩ | ⟨w1_, p1⟩
 ·obtain ⟨rl, hrl⟩ : ∃ y_, y_ = r1.items.length := ⟨_, rfl⟩
  obtain ⟨rf, hrf⟩ := eqv (itF r1.items)
  refine man_outT rfl rfl rfl rfl hF rfl rfl hen (SD.ok' hmd hrl hrf) (by subst hB; exact zl) (mem1 rfl) rfl rfl ?_
  intro x w' a0 hF
  apply leB 3 hB TA_ok [8, 9] [8, 9, 11, 32] [] hF
  ·intro A X; conv => lhs; cbv
  ·intro X; subst hB; first | exact trivial | (repeat (first | exact trivial | refine ⟨rfl, ?_⟩))
  intro X7 a0 w1 hF
  obtain ⟨q0, hq0⟩ := eqv ((⟨4, ⟨0, 0⟩, 0, zRA, ⟨r1.code, r1.had, r1.val, x.A 2, rl, x.c 2, rf, r1.key, r1.more⟩⟩ : WntA))
  replace hF := hF.memS (cells' := wntC q0) (by rw [hq0]; subst hB; exact ⟨zr, zr, zr, zr, zr, zq0, zr, zr, zr, zr, zr, zr, zr, zr, zr, trivial⟩)
  refine wp_ret ?_
  rw [show nextR okb (.ok r1 p1) = toldM (.ok r1 p1) by rw [hf]; rfl]
  exact nx_ret (x := ⟨0, fun i => if i = 1 then none else x.A i, fun i => if i = 1 then 0 else x.c i, fun _ => .empty⟩) (q0 := q0) (J := J.less n) (A := x.A 0) (c := x.c 0) (p := p1) hF (by rw [hq0, hrl, hrf]; exact Sim.agg ⟨zr, zr, zr, zr, zr, zq0, zr, zr, zr, zr, zr, zr, zr, zr, zr, trivial⟩) rfl
 refine man_outT rfl rfl rfl rfl hF rfl rfl hen (SD.stop hmd) (by subst hB; exact zl) (mem1 rfl) rfl rfl ?_
 intro x w' hF hok
 replace hF := hF.keep [8, 9] [8, 9, 11, 32]
 replace hF := hF.memS (cells' := wntC ⟨0, ⟨0, 0⟩, 0, zRA, zRes⟩) (by exact ⟨zr, zr, zr, zr, zr, zq0, zr, zr, zr, zr, Sim.ff, zr, zq0, zr, Sim.ff, trivial⟩)
 rw [show nextR okb (.stop w1_ p1) = toldM (.stop w1_ p1) by rw [hf]; rfl]
 refine nx_thr (x := x) (wq := w1_) (q0 := ⟨0, ⟨0, 0⟩, 0, zRA, zRes⟩) (J := J.less n) (A := x.A 0) (c := x.c 0) (p := p1) hF (hok.mono fun b o u h1 h2 => ⟨h1, fun hh => h2 ?_⟩) rfl rfl
 refine m_sub (fun _ _ h => h) ?_ rfl hh
 intro y hy
 simp only [List.mem_cons, List.not_mem_nil, or_false] at hy
 rcases hy with rfl | rfl | rfl | rfl <;> first | exact ⟨8, _, rfl, rfl⟩ | exact ⟨9, _, rfl, rfl⟩ | exact ⟨11, _, rfl, rfl⟩ | exact ⟨32, _, rfl, rfl⟩
theorem enters32 : Enters Tryz.prog 32 := fun _ _ => by kernel_rfl
theorem looks_m0 (b : Nat) (J : JobA) (hJ : JobOk J) (A : Option Addr) (c : Nat) (p : Pst) (hp : PstOk p) (hn : p.n ≤ 1000000) (hh : J.how = 1 ∨ J.how = 2) : RunS 32 0 b J A c p [] (rslZ) (lokM J.bucket J.budget J.how J.key (p.n + 1) p) := by
 intro m w hm hargs hpre
 refine enX 28 hm hpre hargs Tryz.func32 fun B hB a0 hF => ?_
 refine wp_seq (rg hB TA_ok [0, 2] [0, 2] [] hF fun X0 a0 w1 hF => ?_)
 apply wp_seq
 rcases (sek_m 0 b J hJ A c p hp hn J.key hJ.key (p.n + 1) (Nat.lt_succ_self _) hh).two (fro_sek _ _ _ _ _ _) hp hn with ⟨w1, p1, hm1, O1⟩ | ⟨s1, p1, hm1, hs1, hp1, hn1, S1⟩
 ·refine stp 6 hB TA_ok [6, 11] [0] [] hF O1 fun _ _ _ _ hF hk => ?_
  exact thm (P := Tryz.prog) (fn := Tryz.f32) (q := p1) hF hk (by simp [lokM, Rs.bind, hm1])
 have hs := sek_ok hJ.key hp hm1
 have SF := find_s s1.g.x hs.ok.ra J.key
 obtain ⟨fv, hfv⟩ := eqv (finV s1.g.x J.key)
 rw [← hfv] at SF
 obtain ⟨fb, hfb⟩ := eqv (finB s1.g.x J.key)
 rw [← hfb] at SF
 have O1 := S1
 refine rg hB TA_ok [0, 2, 3] [0, 2, 3] [(6, rc J (sptV s1) p1)] hF fun X1 a0 w1 hF => ?_
 have O1 := SF
 refine wp_seq (drg hB TA_ok [2, 4, 5] [0, 2] [(8, .r fun _ => .tup [.str fv, .bool (.v fb)])] hF fun X2 a0 w1 hF => ?_)
 refine wp_seq (rg hB TA_ok [2] [0, 2] [] hF fun X3 a0 w1 hF => ?_)
 exact wp_ret ((rmm hB TA_ok hF (v := (⟨0, fb, fv, [], 0, false⟩ : Rsl)) (q := p1) ((X1 6).A 0) ((X1 6).c 0) (by simp [lokM, Rs.bind, hm1, ← hfv, ← hfb])).1)
theorem looks_m (k0 b : Nat) (J : JobA) (hJ : JobOk J) (A : Option Addr) (c : Nat) (p : Pst) (hp : PstOk p) (hn : p.n ≤ 1000000) (hh : J.how = 1 ∨ J.how = 2) : RunS 32 k0 b J A c p [] (rslZ) (lokM J.bucket J.budget J.how J.key (p.n + 1) p) := RunS.re (looks_m0 b J hJ A c p hp hn hh) (by repeat (first | exact trivial | refine ⟨zr, ?_⟩))
def seekN (J : JobA) (n : Nat) (f : Nat → GotA) : Wq × Int := nextR (isJobB J && (decide (J.kind = 3)) && allGot n f) (lokM J.bucket (J.budget - n) J.how J.key (n + 1) (pst0 n f))
theorem lok_items {bk k how key : Int} {n : Nat} {p q : Pst} {a : Rsl} (h : lokM bk k how key n p = .ok a q) : a.items = [] := by
 unfold lokM at h
 cases hs : sekM bk k how key n p with
 | ok v p1 => rw [hs] at h; injection h with h _; rw [← h]
 | stop w p1 => rw [hs] at h; cases h
theorem job_how {J : JobA} (h : isJobB J = true) : J.how = 1 ∨ J.how = 2 := by
 unfold isJobB btw at h
 simp only [Bool.and_eq_true, decide_eq_true_eq] at h
 omega
theorem snext_s (J : JobA) (hJ : JobIn J) (A : Option Addr) (n c : Nat) (f : Nat → GotA) (hn : n ≤ 900000) (hin : ∀ j, j < n → InG (f j)) : Spec Tryz.prog 13 [jobV J, gotsV A n c f] (fun x => .tup [wntV (wqA x (seekN J n f).1), .int .i64 (seekN J n f).2]) := by
 intro m w hm hargs
 have hk : anyF 1 (fun _ => 3) J.kind = (decide (J.kind = 3)) := by rw [anyF1]; simp only [dcomm J.kind] <;> rfl
 have hdo : (isJobB J && anyF 1 (fun _ => 3) J.kind && allGot n f) = true → ∀ k0 b, RunA 32 k0 b (J.less n) A c (pst0 n f) [] (lokM J.bucket (J.budget - n) J.how J.key (n + 1) (pst0 n f)) := by
  intro hok k0 b
  rw [hk] at hok
  simp only [Bool.and_eq_true] at hok
  obtain ⟨⟨h1, h2⟩, h3⟩ := hok
  exact (looks_m k0 b (J.less n) (job_ok hJ h1 hn) A c (pst0 n f) (pst_ok hin h3) (by show n ≤ 1000000; omega) (by have h := job_how h1; exact h)).a fun a q h => lok_items h
 have S : ∀ kG kA cells, cells 0 = [.int .i64 3] → Spec Tryz.prog 31 [jobV J, gotsV A n c f, .sl kG kA 1 1 1 cells, .fn 32 [] []] (fun x => .tup [wntV (wqA x (seekN J n f).1), .int .i64 (seekN J n f).2]) := by
  intro kG kA cells h10
  unfold seekN
  rw [← hk]
  refine (((next_d 32 _ J hJ A n c f hn hin kG kA 1 1 (fun _ => 3) hdo enters32).x (fun _ => rfl)).pure (fun _ => rfl)).sim ⟨zr, zr, Sim.recell (fun i hi => ?_), zr, trivial⟩
  match i, hi with
  | 0, _ => rw [h10] <;> rfl
 obtain ⟨W9, hW9⟩ := eqv ((seekN J n f).1)
 obtain ⟨E9, hE9⟩ := eqv ((seekN J n f).2)
 obtain ⟨rr9, hrr9⟩ := eqv (W9.r.rn)
 obtain ⟨nn9, hnn9⟩ := eqv (W9.res.items.length)
 obtain ⟨ff9, hff9⟩ := eqv (itF W9.res.items)
 have T9 := Spec.wq (S none none (fun i => [.int .i64 ((fun _ => 3) i)]) rfl) hW9 hE9 hrr9 hnn9 hff9
 have T : ∀ kG kA cells, cells 0 = [.int .i64 3] → Spec Tryz.prog 31 [jobV J, gotsV A n c f, .sl kG kA 1 1 1 cells, .fn 32 [] []] (fun x => .tup [wntV (wqB x W9 rr9 nn9 ff9), .int .i64 E9]) := fun kG kA cells h10 => Spec.wq (S kG kA cells h10) hW9 hE9 hrr9 hnn9 hff9
 refine en 12 hm hargs Tryz.func13 fun B hB a0 hF => ?_
 refine wp_seq (rg hB TA_ok [1, 2, 4] [2, 4] [] hF fun X0 a0 w1 hF => ?_)
 apply wp_seq
 refine rg hB TA_ok [4, 5] [4, 8] [(3, .r fun x => .tup [.agg [.int .i64 W9.kind, .int .i64 W9.lab.len, .int .u64 W9.lab.bits, .int .u64 W9.ver, .int .i64 rr9.kd, .sl none (x.A 1) rr9.n (x.c 1) 2 (fun i => itC (rr9.f i)), .int .i64 rr9.nx.len, .int .u64 rr9.nx.bits, .int .u64 rr9.mrk, .int .i64 W9.res.code, .bool (.v W9.res.had), .str W9.res.val, .sl none (x.A 2) nn9 (x.c 2) 2 (fun i => itC (ff9 i)), .int .u64 W9.res.key, .bool (.v W9.res.more)], .int .i64 E9])] hF (hob := by intro X; subst hB; simp only [AO, Ob.holds, BE.den] <;> and_intros <;> repeat first | trivial | rfl | exact T _ _ _ rfl | exact (fun _ _ => by kernel_rfl) | refine ⟨?_, ?_⟩ | intro h | exact Int.le_refl _ | decide | omega) fun X1 a0 w1 hF => ?_
 refine wp_ret ((rsi hB TA_ok hF ((X1 3)) (he := ?_)))
 subst hB
 rw [← hW9, ← hE9]
 unfold wqA
 rw [← hrr9, ← hnn9, ← hff9]
 exact zr
theorem rec_leaf : RecOk leafR := ⟨⟨by decide, by decide⟩, by decide, fun x hx => by cases hx⟩
theorem wok_lin {bk k key : Int} (hk : U64 key) : ∀ (n : Nat) (l : Lab) (p : Pst), LOk l → PstOk p → WOkR (linM bk k key n l p)
 | 0, l, p, _, _ => wok_z
 | n + 1, l, p, hl, hp => by
  unfold linM
  refine wok_bind (wok_get hl) fun g p1 e1 => ?_
  have hp1 := hp.suf ((fro_get _ _ _).of e1)
  refine wok_ite (fun _ => trivial) fun _ => wok_ite (fun _ => wok_bind (wok_fns hl (hp.get e1) hp1) fun _ p2 e2 => wok_lin hk n l p2 hl (hp1.suf ((fro_fns _ _ _ _ _ _).of e2))) fun _ => wok_ite (fun _ => wok_lin hk n _ p1 (ofV_ok hk _) hp1) fun _ => wok_ite (fun _ => wok_bind (wok_thw hl hp1) fun _ p2 e2 => wok_lin hk n _ p2 lok_z (hp1.suf ((fro_thw _ _ _ _ _).of e2))) fun _ => wok_ite (fun _ => wok_bind (wok_cas lok_z rec_leaf) fun _ p2 e2 => wok_lin hk n _ p2 lok_z (hp1.suf ((fro_cas _ _ _ _ _).of e2))) fun _ => wok_lin hk n _ p1 lok_z hp1
theorem wok_lft {bk k : Int} {n : Nat} {l : Lab} {p : Pst} (hl : LOk l) (hp : PstOk p) : WOkR (lftM bk k n l p) := by
 unfold lftM
 refine wok_ite (fun _ => wok_bind (wok_get hl.par) fun q p1 e1 => wok_ite (fun _ => ?_) fun _ => trivial) fun _ => trivial
 exact wok_bind (wok_thw hl (hp.suf ((fro_get _ _ _).of e1))) fun _ _ _ => trivial
theorem wok_bin {bk k key : Int} (hk : U64 key) : ∀ (n : Nat) (lo hi : Int) (p : Pst), PstOk p → WOkR (binM bk k key n lo hi p)
 | 0, lo, hi, p, _ => wok_z
 | n + 1, lo, hi, p, hp => by
  unfold binM
  refine wok_ite (fun _ => ?_) fun _ => wok_lin hk _ _ p lok_z hp
  have hl := ofV_ok hk ((lo + hi) / 2)
  refine wok_bind (wok_get hl) fun g p1 e1 => ?_
  have hp1 := hp.suf ((fro_get _ _ _).of e1)
  refine wok_ite (fun _ => trivial) fun _ => wok_ite (fun _ => wok_bin hk n _ _ p1 hp1) fun _ => wok_ite (fun _ => wok_bind (wok_fns hl (hp.get e1) hp1) fun _ p2 e2 => wok_bin hk n _ _ p2 (hp1.suf ((fro_fns _ _ _ _ _ _).of e2))) fun _ => wok_ite (fun _ => wok_bind (wok_lft hl hp1) fun b p2 e2 => ?_) fun _ => wok_bin hk n _ _ p1 hp1
  have hp2 := hp1.suf ((fro_lft _ _ _ _ _).of e2)
  exact wok_ite (fun _ => wok_bin hk n _ _ p2 hp2) fun _ => wok_bin hk n _ _ p2 hp2
theorem wok_sek {bk k how key : Int} (hk : U64 key) {n : Nat} {p : Pst} (hp : PstOk p) : WOkR (sekM bk k how key n p) := wok_ite (fun _ => wok_lin hk _ _ _ lok_z hp) fun _ => wok_bin hk _ _ _ _ hp
theorem wok_lok {bk k how key : Int} (hk : U64 key) {n : Nat} {p : Pst} (hp : PstOk p) : WOkR (lokM bk k how key n p) := wok_bind (wok_sek hk hp) fun _ _ _ => trivial
theorem seek_ok {J : JobA} (hJ : JobIn J) : NxOk (seekN J) where
 er := fun n f => by
  unfold seekN
  rw [← nextR_er, er_lok]
  rfl
 ok := fun n f hin => by
  unfold seekN nextR
  split
  ·rename_i h
   simp only [Bool.and_eq_true] at h
   exact wok_told (wok_lok hJ.key (pst_ok hin h.2))
  exact wok_z
theorem enters39 : Enters Tryz.prog 39 := fun _ _ => by kernel_rfl
theorem run26_m0 (b bM : Nat) (J : JobA) (hJ : JobIn J) (L : Shf) (hL : ShfG L) (k : Int) : SpecM Tryz.prog 39 [.ptr 0 b 0, jobV J] [(0, ⟨b, 82, [.raw (.map (some bM)), .int .i64 k]⟩)] (some bM) (shK bM L) (fun y => ⟨.tup [rslV y (runQ (seekN J) 3000 2001 [] L k).res, .int .i64 (if (runQ (seekN J) 3000 2001 [] L k).st = 2 then ((runQ (seekN J) 3000 2001 [] L k).n : Int) else 0), .bool (.v (decide ((runQ (seekN J) 3000 2001 [] L k).st = 2)))], [(0, [.raw (.map (some bM)), .int .i64 (runQ (seekN J) 3000 2001 [] L k).k])], []⟩) (fun _ _ => shK bM (runQ (seekN J) 3000 2001 [] L k).L) := by
 intro m w hm hargs hpre hI
 have hmx : maxLen = 9223372036854775807 := rfl
 have hmp := shK_map hI
 have hNx : NxOk (seekN J) := seek_ok hJ
 obtain ⟨RQ, hRQ⟩ := eqv (runQ (seekN J) 3000 2001 [] L k)
 rw [← hRQ] at ⊢
 refine enM (bo := some bM) 47 hm hpre hI hargs Tryz.func39 fun B hB a0 hF => ?_
 refine wp_seq (rg hB TA_ok [0, 3, 4] [0, 3, 4] [] hF fun X0 a0 w1 hF => ?_)
 refine wp_seq (rg hB TA_ok [0, 3, 4, 7] [0, 3, 4, 7, 45] [] hF fun X1 a0 w1 hF => ?_)
 refine wp_seq (wp_seq (rg hB TA_ok [7, 8, 0, 3, 4] [0, 3, 4, 7, 45] [] hF fun X2 a0 w1 hF => ?_))
 replace hF := hF.headS (v' := .sl (some 7) none 0 0 8 (fun t => gotC (gotOf zeroGot))) (zq0) rfl
 refine wp_block (loop_preK (ι := Nat × (Nat → GotA) × Option Addr × Nat × Shf × Int × List Got) (fun q => shK bM q.2.2.2.2.1) (fun q => [(7, .sl (some 7) q.2.2.1 q.1 q.2.2.2.1 8 (fun t => gotC (q.2.1 t))), (8, .int .i64 (q.1 : Int))]) (fun q => [(0, ⟨b, 82, [.raw (.map (some bM)), .int .i64 q.2.2.2.2.2.1]⟩)]) (fun q => [(7, ⟨q.2.2.1, q.1, q.2.2.2.1, 8, 53⟩)]) (fun q => q.1 ≤ 2001 ∧ ShfG q.2.2.2.2.1 ∧ (∀ j, j < q.1 → InG (q.2.1 j)) ∧ q.2.2.2.2.2.2.length = q.1 ∧ Lies q.2.2.2.2.2.2 q.2.1 ∧ RQ = runQ (seekN J) 3000 (2001 - q.1) q.2.2.2.2.2.2 q.2.2.2.2.1 q.2.2.2.2.2.1) (fun q => 2001 - q.1) (0, fun _ => gotOf zeroGot, none, 0, L, k, []) ⟨Nat.zero_le _, hL, fun j hj => absurd hj (Nat.not_lt_zero _), rfl, Lies.nil, hRQ⟩ hF ?_)
 rintro ⟨i, fz, A1, c1, Lc, kc, gs⟩ ⟨hi, hg, hal, hgl, hlie, hrun⟩ a0 w1 hF
 try dsimp only at hi
 try dsimp only at hg
 try dsimp only at hal
 try dsimp only at hgl
 try dsimp only at hlie
 try dsimp only at hrun
 replace hF := hF.withK (K' := shK bM Lc) hF.kept
 refine wp_seq (wp_seq (rg hB TA_ok [14, 0, 3, 4, 7, 8] [0, 3, 4, 7, 45] [] hF fun X3 a0 w1 hF => ?_))
 apply test_ok hF rfl <;> intro hb hF
 ·have hi0 : i < 2001 := by
   have : (i : Int) ≤ 2000 := by subst hB; simpa [std, sC] using hb
   omega
  obtain ⟨m0, hm0⟩ : ∃ m, 2001 - i = m + 1 := ⟨2000 - i, by omega⟩
  rw [hm0] at hrun
  have hwo := hNx.ok i fz hal
  obtain ⟨W9, hW9⟩ := eqv ((seekN J i fz).1)
  obtain ⟨E9, hE9⟩ := eqv ((seekN J i fz).2)
  obtain ⟨rr9, hrr9⟩ := eqv (W9.r.rn)
  obtain ⟨nn9, hnn9⟩ := eqv (W9.res.items.length)
  obtain ⟨ff9, hff9⟩ := eqv (itF W9.res.items)
  have T9 := Spec.wq (snext_s J hJ A1 i c1 fz (by omega) hal) hW9 hE9 hrr9 hnn9 hff9
  rw [← hW9] at hwo
  have S9 : Spec Tryz.prog 13 [jobV J, .sl (some 7) A1 i c1 8 (fun t => gotC (fz t))] (fun x => .tup [wntV (wqB x W9 rr9 nn9 ff9), .int .i64 E9]) := T9.sim ⟨zr, Sim.recell (fun _ _ => rfl), trivial⟩
  have hq9 : seekN J gs.length (ansF gs) = (W9, E9) := by
   rw [← hlie.next hNx.er, hgl, hW9, hE9]
  have O1 := S9
  refine wp_skip (wp_seq (wp_block (wp_seq (rg hB TA_ok [0, 3, 4, 7, 8, 9, 10] [0, 3, 4, 7, 9, 45] [(2, .r fun x => .tup [.agg [.int .i64 W9.kind, .int .i64 W9.lab.len, .int .u64 W9.lab.bits, .int .u64 W9.ver, .int .i64 rr9.kd, .sl none (x.A 1) rr9.n (x.c 1) 2 (fun i => itC (rr9.f i)), .int .i64 rr9.nx.len, .int .u64 rr9.nx.bits, .int .u64 rr9.mrk, .int .i64 W9.res.code, .bool (.v W9.res.had), .str W9.res.val, .sl none (x.A 2) nn9 (x.c 2) 2 (fun i => itC (ff9 i)), .int .u64 W9.res.key, .bool (.v W9.res.more)], .int .i64 E9])] hF fun X5 a0 w1 hF => ?_))))
  refine wp_seq (wp_seq (rg hB TA_ok [24, 0, 3, 4, 7, 8, 9] [0, 3, 4, 7, 9, 45] [] hF fun X6 a0 w1 hF => ?_))
  apply test_ok hF rfl <;> intro hb hF
  ·have he : E9 ≠ 0 := by subst hB; simpa [std, sC] using hb
   have hq : RQ = ⟨1, zRsl, gs.length, 0, Lc, kc⟩ := by rw [hrun]; exact run_no hq9 he
   refine wp_seq (rg hB TA_ok [4, 5, 6] [0, 4, 7, 45] [] hF fun X7 a0 w1 hF => ?_)
   refine wp_ret ((rm hB TA_ok hF (⟨0, fun _ => none, fun _ => 0, fun _ => .empty⟩) [] (hmap := ?_) (he := ?_) (hs := ?_) (hJ := ?_)).1)
   ·intro b hb; cases hb; exact ⟨hmp, fun m h => shK_map h⟩
   ·rw [hq]; subst hB
    exact Sim.tup ⟨Sim.agg ⟨zr, zr, zr, zq0, zr, zr, trivial⟩, zr, zr, trivial⟩
   ·rw [hq]; subst hB; exact ⟨rfl, ⟨_, rfl, zl⟩, trivial⟩
   rw [hq]; exact fun _ _ h => h
  have he : E9 = 0 := by subst hB; simpa [std, sC] using hb
  rw [he] at hq9
  refine wp_skip (wp_seq (wp_seq (rg hB TA_ok [28, 0, 3, 4, 7, 8, 9] [0, 3, 4, 7, 9, 45] [] hF fun X8 a0 w1 hF => ?_)))
  apply test_ok hF rfl <;> intro hb hF
  ·have hk4 : W9.kind = 4 := by subst hB; simpa [std, sC] using hb
   have hq : RQ = ⟨2, W9.res, gs.length, 0, Lc, kc⟩ := by rw [hrun]; exact run_end hq9 hk4
   refine wp_seq (rg hB TA_ok [4, 5, 6] [0, 4, 7, 45] [] hF fun X9 a0 w1 hF => ?_)
   refine wp_ret ((rm hB TA_ok hF ((X5 2)) [] (hmap := ?_) (he := ?_) (hs := ?_) (hJ := ?_)).1)
   ·intro b hb; cases hb; exact ⟨hmp, fun m h => shK_map h⟩
   ·rw [hq]; subst hB
    rw [show nn9 = W9.res.items.length from hnn9, show ff9 = itF W9.res.items from hff9]
    exact Sim.tup ⟨zr, Sim.of_int (by show ((i : Nat) : Int) = ((gs.length : Nat) : Int); rw [hgl]), zr, trivial⟩
   ·rw [hq]; subst hB; exact ⟨rfl, ⟨_, rfl, zl⟩, trivial⟩
   rw [hq]; exact fun _ _ h => h
  have hk4 : ¬ W9.kind = 4 := by subst hB; simpa [std, sC] using hb
  refine wp_skip (wp_seq (wp_region_lit (lpr 0 2 hB TA_ok [34, 35, 7, 0, 8, 3, 4] [0, 4, 3, 7] [] hF fun X10_0 a0 w1 hF => ?_)))
  have SD := do_m 0 b bM Lc (by have := hg.ok.len; omega) kc (wqB (X5 2) W9 rr9 nn9 ff9) (by show rr9.n ≤ _; rw [hrr9]; have := hwo.r.few; show W9.r.items.length ≤ _; omega) hwo.lab.wf hwo.lab.u (by show U64 rr9.nx.bits; rw [hrr9]; exact hwo.r.nx)
  obtain ⟨D1, hD1⟩ := eqv (doL Lc (WntA.abs (wqB (X5 2) W9 rr9 nn9 ff9)))
  rw [← hD1] at SD
  obtain ⟨GG1, hGG1⟩ : ∃ G : Atom → GotA, G = fun y => gotA y D1.got := ⟨_, rfl⟩
  have hGf1 : ∀ y, gotA y D1.got = GG1 y := fun y => by rw [hGG1]
  simp only [hGf1] at SD
  obtain ⟨k1, hk1⟩ := eqv ((if D1.wrote then IntKind.i64.wrap (kc + 1) else kc))
  rw [← hk1] at SD
  obtain ⟨er1, her1⟩ := eqv (D1.err)
  rw [← her1] at SD
  obtain ⟨L1, hL1⟩ := eqv (D1.L)
  rw [← hL1] at SD
  refine man_callM rfl rfl rfl rfl hF rfl rfl enters19 SD (fun _ _ h => h) (fun b hb => by cases hb; exact fun _ => .inr rfl) ⟨zr, Sim.agg (by repeat (first | exact trivial | refine ⟨zr, ?_⟩ | refine ⟨Sim.ff, ?_⟩ | refine ⟨zq0, ?_⟩)), trivial⟩ (by intro e he; simp only [List.mem_singleton] at he; subst he; rfl) rfl rfl (fun _ => shK bM L1) (fun _ _ _ _ _ _ _ _ _ h => h) ?_
  intro y a0 w1 hF
  obtain ⟨g1, hg1⟩ := eqv (GG1 y)
  rw [← hg1] at hF
  replace hF := hF.withK (K' := shK bM L1) hF.kept
  have hga1 : g1.abs = D1.got := by rw [hg1, ← hGf1, gotA_abs]
  have hra : rr9.abs = W9.r := by rw [hrr9, rn_abs]
  have hD1w : D1 = doL Lc (wntOf W9) := by
   rw [hD1]
   unfold WntA.abs wqB wntOf
   simp only [hra]
  have hgd : ShfG D1.L ∧ U64 D1.got.ver ∧ RecOk D1.got.r := by
   rw [hD1w]
   exact doL_good hg ⟨hwo.lab.wf, hwo.r.nx, hwo.r.key⟩
  have hgi : InG g1 := got_in hga1 hgd.2.1 hgd.2.2
  have hg1s : ShfG L1 := by rw [hL1]; exact hgd.1
  have hge : g1.er = gotOf D1.got := by rw [hg1, ← hGf1]; rfl
  refine lnd 3 hB TA_ok [0, 3, 4, 7, 8, 11, 12] [0, 3, 4, 7, 11, 45] [] hF fun X10 a0 w1 hF => ?_
  refine wp_seq (wp_seq (rg hB TA_ok [40, 0, 3, 4, 7, 8, 11] [0, 3, 4, 7, 11, 45] [] hF fun X11 a0 w1 hF => ?_))
  apply test_ok hF rfl <;> intro hb hF
  ·have he1 : er1 ≠ 0 := by subst hB; simpa [std, sC] using hb
   have hq : RQ = ⟨4, zRsl, gs.length, D1.err, L1, k1⟩ := by rw [hrun, hL1, hk1]; exact run_err hq9 hk4 (by omega) hD1w (by rw [← her1]; exact he1)
   refine wp_seq (rg hB TA_ok [4, 5, 6] [0, 4, 7, 45] [] hF fun X12 a0 w1 hF => ?_)
   refine wp_ret ((rm hB TA_ok hF (⟨0, fun _ => none, fun _ => 0, fun _ => .empty⟩) [] (hmap := ?_) (he := ?_) (hs := ?_) (hJ := ?_)).1)
   ·intro b hb; cases hb; exact ⟨hmp, fun m h => shK_map h⟩
   ·rw [hq]; subst hB
    exact Sim.tup ⟨Sim.agg ⟨zr, zr, zr, zq0, zr, zr, trivial⟩, zr, zr, trivial⟩
   ·rw [hq]; subst hB; exact ⟨rfl, ⟨_, rfl, zl⟩, trivial⟩
   rw [hq]; exact fun _ _ h => h
  have he1 : er1 = 0 := by subst hB; simpa [std, sC] using hb
  refine wp_skip ?_
  refine rg hB TA_ok [7, 8, 0, 3, 4] [0, 3, 4, 7, 45] [] hF (hob := by intro X; subst hB; simp only [AO, Ob.holds, BE.den] <;> and_intros <;> repeat first | trivial | rfl | exact (show i + 1 ≤ maxLen by omega) | exact (show (i + 1) * 80 ≤ 140737488355328 by omega) | exact (fun _ _ => by kernel_rfl) | refine ⟨?_, ?_⟩ | intro h | exact Int.le_refl _ | decide | omega) fun X13 a0 w1 hF => ?_
  replace hF := hF.headS (v' := .sl (some 7) ((X13 3).A 0) (B.nadd i 1) ((X13 3).c 0) 8 (fun t => gotC (if t = i then g1 else fz t))) (Sim.resl rfl (fun t ht => by
   subst hB
   have ht2 : t < i + 1 := ht
   show appC i (fun t => gotC (fz t)) (chunk 8 (gotC g1)) t = _
   unfold appC
   split
   ·rw [if_neg (by omega)]
   have : t = i := by omega
   subst this
   rw [if_pos rfl]
   simp [chunk])) rfl
  refine rg hB TA_ok [7, 8, 0, 3, 4] [0, 3, 4, 7, 45] [] hF fun X4 a0 w1 hF => ?_
  have e : B.arith .add .i64 (i : Int) 1 = ((i + 1 : Nat) : Int) := by subst hB; exact wrap_succ (n := 2001) (by omega) (by omega)
  refine ⟨(i + 1, fun t => if t = i then g1 else fz t, _, _, L1, k1, gs ++ [D1.got]), ⟨by simp only; omega, hg1s, fun j hj => ?_, by simp [hgl], ?_, ?_⟩, by simp only; omega, by rw [← e, show i + 1 = B.nadd i 1 by subst hB; rfl]; exact hF⟩
  ·by_cases hji : j = i
   ·simp only [if_pos hji]; exact hgi
   simp only [if_neg hji]; exact hal j (by have h9 : j < i + 1 := hj; omega)
  ·have := hlie.add hge
   rw [hgl] at this; exact this
  rw [hrun, run_go hq9 hk4 (by omega) hD1w (by rw [← her1]; exact he1), hL1, hk1, show 2001 - (i + 1) = m0 by omega]
 have hi0 : i = 2001 := by
  have : ¬ (i : Int) ≤ 2000 := by subst hB; simpa [std, sC] using hb
  omega
 have hq : RQ = ⟨0, zRsl, gs.length, 0, Lc, kc⟩ := by rw [hrun, hi0]; rfl
 refine wp_exit (wp_seq (rg hB TA_ok [4, 5, 6] [0, 4, 7, 45] [] hF fun X14 a0 w1 hF => ?_))
 refine wp_ret ((rm hB TA_ok hF (⟨0, fun _ => none, fun _ => 0, fun _ => .empty⟩) [] (hmap := ?_) (he := ?_) (hs := ?_) (hJ := ?_)).1)
 ·intro b hb; cases hb; exact ⟨hmp, fun m h => shK_map h⟩
 ·rw [hq]; subst hB
  exact Sim.tup ⟨Sim.agg ⟨zr, zr, zr, zq0, zr, zr, trivial⟩, zr, zr, trivial⟩
 ·rw [hq]; subst hB; exact ⟨rfl, ⟨_, rfl, zl⟩, trivial⟩
 rw [hq]; exact fun _ _ h => h
theorem run26_m (k0 : Nat) (b bM : Nat) (J : JobA) (hJ : JobIn J) (L : Shf) (hL : ShfG L) (k : Int) : SpecM Tryz.prog 39 [.ptr k0 b 0, jobV J] [(k0, ⟨b, 82, [.raw (.map (some bM)), .int .i64 k]⟩)] (some bM) (shK bM L) (fun y => ⟨.tup [rslV y (runQ (seekN J) 3000 2001 [] L k).res, .int .i64 (if (runQ (seekN J) 3000 2001 [] L k).st = 2 then ((runQ (seekN J) 3000 2001 [] L k).n : Int) else 0), .bool (.v (decide ((runQ (seekN J) 3000 2001 [] L k).st = 2)))], [(k0, [.raw (.map (some bM)), .int .i64 (runQ (seekN J) 3000 2001 [] L k).k])], []⟩) (fun _ _ => shK bM (runQ (seekN J) 3000 2001 [] L k).L) :=
 (run26_m0 b bM J hJ L hL k).re (by repeat (first | exact trivial | refine ⟨Sim.ptr, ?_⟩ | refine ⟨Sim.fn ⟨Sim.ptr, trivial⟩ trivial, ?_⟩ | refine ⟨Sim.fn trivial ⟨Sim.ptr, trivial⟩, ?_⟩ | refine ⟨zr, ?_⟩)) rfl (fun x => ⟨rfl, rfl, zr, rfl⟩)
def zJ : JobA := ⟨0, ⟨0, 0⟩, 0, 0, ⟨#[]⟩, 0, none, 0, 0, fun _ => 0, 0, 0, 0, 0, 0, 0, 0⟩
theorem zJ_in : JobIn zJ := ⟨⟨by decide, by decide⟩, ⟨by decide, by decide⟩, ⟨by decide, by decide⟩⟩
theorem zJ_sim (g : Option Nat) (k : Nat) (f : Nat → List AV) : SimL [.agg [.int .i64 0, .int .i64 0, .int .u64 0, .int .u64 0, .int .u64 0, .str ⟨#[]⟩, .int .i64 0, .sl none none 0 0 1 (fun _ => []), .int .u32 0, .int .u32 0, .int .u32 0, .int .u32 0, .int .i64 0, .int .i64 0, .int .i64 0], .sl g none 0 0 k f] [jobV zJ, gotsV none 0 0 (fun _ => zGot)] := ⟨Sim.agg ⟨zr, zr, zr, zr, zr, zr, zr, Sim.nils, zr, zr, zr, zr, zr, zr, zr, trivial⟩, Sim.nils, trivial⟩
theorem zJ_26 : seekN zJ 0 (fun _ => zGot) = (zWq, 1) := by kernel_rfl
def skJ (key : Int) (how b : Int) : JobA := ⟨3, ⟨0, 0⟩, key, 0, ⟨#[]⟩, 0, none, 0, 0, fun _ => 0, 0, 0, 0, 0, how, b, 1500⟩
theorem skJ_in {key : Int} (hk : U64 key) (how b : Int) : JobIn (skJ key how b) := ⟨u64_0, hk, u64_0⟩
def skL : Shf := [(⟨0, 0⟩, ⟨1, true, leafR⟩)]
theorem sk_run : runQ (seekN (skJ 7 1 2)) 3000 2001 [] [] 0 = ⟨2, zRsl, 3, 0, skL, 1⟩ := by kernel_rfl
theorem nil_good : ShfG [] := newS_good (l := []) (fun r h => by cases h) rfl
theorem lkp_s (key how b : Int) : Spec Tryz.prog 40 [.int .u64 key, .int .i64 how, .int .i64 b] (fun _ => jobV (skJ key how b)) := by
 intro m w hm hargs
 refine en 11 hm hargs Tryz.func40 fun B hB a0 hF => ?_
 refine wp_seq (rg hB TA_ok [0, 1, 2, 6] [6] [] hF fun X0 a0 w1 hF => ?_)
 refine wp_seq (rg hB TA_ok [6] [6] [] hF fun X1 a0 w1 hF => ?_)
 refine wp_ret ((rsi hB TA_ok hF nAt (he := ?_)))
 subst hB
 exact Sim.agg ⟨zr, zr, zr, zr, zr, zr, zr, Sim.nils, zr, zr, zr, zr, zr, zr, zr, trivial⟩
theorem sought_s : Spec Tryz.prog 15 [] (fun _ => .bool .tt) := by
 intro m w hm hargs
 have hmx : maxLen = 9223372036854775807 := rfl
 have SL : Spec Tryz.prog 40 [.int .u64 7, .int .i64 1, .int .i64 2] (fun _ => jobV (skJ 7 1 2)) := lkp_s 7 1 2
 obtain ⟨W1, hW1⟩ := eqv (((zWq, (1 : Int))).1)
 obtain ⟨E1, hE1⟩ := eqv (((zWq, (1 : Int))).2)
 obtain ⟨rr1, hrr1⟩ := eqv (W1.r.rn)
 obtain ⟨nn1, hnn1⟩ := eqv (W1.res.items.length)
 obtain ⟨ff1, hff1⟩ := eqv (itF W1.res.items)
 have T1 := Spec.wq (by have h := (snext_s zJ zJ_in none 0 0 (fun _ => zGot) (by omega) (fun j hj => absurd hj (Nat.not_lt_zero _))); rw [zJ_26] at h; exact h) hW1 hE1 hrr1 hnn1 hff1
 have S1 : ∀ g k fz, Spec Tryz.prog 13 [.agg [.int .i64 0, .int .i64 0, .int .u64 0, .int .u64 0, .int .u64 0, .str ⟨#[]⟩, .int .i64 0, .sl none none 0 0 1 (fun _ => []), .int .u32 0, .int .u32 0, .int .u32 0, .int .u32 0, .int .i64 0, .int .i64 0, .int .i64 0], .sl g none 0 0 k fz] (fun x => .tup [wntV (wqB x W1 rr1 nn1 ff1), .int .i64 E1]) := fun g k fz => T1.sim (zJ_sim g k fz)
 refine en 65 hm hargs Tryz.func15 fun B hB a0 hF => ?_
 refine wp_seq (rg hB TA_ok [] [] [] hF fun X0 a0 w1 hF => ?_)
 have SN := new_yes none 0 0 (fun _ => zRow) (by omega) (fun i hi => absurd hi (Nat.not_lt_zero _)) 14 (L := []) rfl
 refine wp_seq (wp_region_lit (man_callM rfl rfl rfl rfl hF rfl rfl enters18 (SN) (fun _ _ _ => trivial) (fun b hb => by cases hb) ⟨Sim.nils, trivial⟩ (by intro e he; cases he) rfl rfl (fun y => shF w.heap.size (y.c 0) ([] : Shf)) (fun n x m w m' w' hn _ _ h => ⟨Nat.le_trans hn h.1, h.2⟩) ?_))
 intro y a0 w1 hF
 obtain ⟨sb, hsb⟩ := eqv (y.b)
 obtain ⟨bM, hbM⟩ := eqv (y.c 0)
 rw [← hsb, ← hbM] at hF
 have hbfr : w.heap.size ≤ bM := hF.kept.1
 replace hF := hF.withK (K' := shK bM ([] : Shf)) hF.kept.2
 refine lnd 1 hB TA_ok [1, 2] [14] [] hF fun X1 a0 w1 hF => ?_
 refine wp_seq (wp_seq (rg hB TA_ok [18, 1] [14] [] hF fun X2 a0 w1 hF => ?_))
 apply test_ok hF rfl <;> intro hb hF
 ·exfalso
  subst hB; simp [std, sC, BE.den] at hb
 have O1 := SL
 refine wp_skip (wp_seq (wp_region_lit (lpr 0 2 hB TA_ok [20, 21, 1, 2] [14] [(1, .r fun _ => jobV (skJ 7 1 2))] hF fun X4_0 a0 w1 hF => ?_)))
 have SD := run26_m 14 sb bM (skJ 7 1 2) (skJ_in ⟨by decide, by decide⟩ 1 2) [] nil_good 0
 rw [sk_run] at SD
 refine man_callM rfl rfl rfl rfl hF rfl rfl enters39 SD (fun _ _ h => h) (fun b hb => by cases hb; exact fun h => absurd h (Nat.not_lt.2 hbfr)) ⟨zr, zr, trivial⟩ (by intro e he; simp only [List.mem_singleton] at he; subst he; rfl) rfl rfl (fun _ => shK bM skL) (fun _ _ _ _ _ _ _ _ _ h => h) ?_
 intro y a0 w1 hF
 replace hF := hF.withK (K' := shK bM skL) hF.kept
 refine lnd 3 hB TA_ok [1, 3, 4, 5] [14, 3] [(1, .r fun _ => jobV (skJ 7 1 2))] hF fun X4 a0 w1 hF => ?_
 have SR1 := rows_r 14 sb bM skL (by decide) 1
 obtain ⟨RR1, hRR1⟩ := eqv (rowsL skL)
 rw [← hRR1] at SR1
 obtain ⟨nR1, hnR1⟩ := eqv (RR1.length)
 rw [← hnR1] at SR1
 have hn3 : nR1 = 1 := by rw [hnR1, hRR1]; kernel_rfl
 have O1 := SR1
 refine wp_seq (rg hB TA_ok [3, 4, 5, 6] [14, 3] [(1, .g [14] fun y => .sl none (y.A 0) nR1 (y.c 0) 8 (fun i => rowC (rwAt y RR1 i)))] hF fun X5 a0 w1 hF => ?_)
 obtain ⟨f2, hf2⟩ := eqv (rwAt (X5 1) RR1)
 rw [← hf2] at hF
 apply wp_seq
 refine rg hB TA_ok [3, 4, 5, 6, 8] [14, 3] [(1, .r fun x => .tup [.agg [.int .i64 W1.kind, .int .i64 W1.lab.len, .int .u64 W1.lab.bits, .int .u64 W1.ver, .int .i64 rr1.kd, .sl none (x.A 1) rr1.n (x.c 1) 2 (fun i => itC (rr1.f i)), .int .i64 rr1.nx.len, .int .u64 rr1.nx.bits, .int .u64 rr1.mrk, .int .i64 W1.res.code, .bool (.v W1.res.had), .str W1.res.val, .sl none (x.A 2) nn1 (x.c 2) 2 (fun i => itC (ff1 i)), .int .u64 W1.res.key, .bool (.v W1.res.more)], .int .i64 E1])] hF (hob := by intro X; subst hB; simp only [AO, Ob.holds, BE.den] <;> and_intros <;> repeat first | trivial | rfl | exact S1 _ _ _ | exact (fun _ _ => by kernel_rfl) | refine ⟨?_, ?_⟩ | intro h | exact Int.le_refl _ | decide | omega) fun X6 a0 w1 hF => ?_
 refine wp_seq (rg hB TA_ok [0] [14, 3] [] hF fun X7 a0 w1 hF => ?_)
 refine wp_ret ((rsi hB TA_ok hF nAt (he := ?_)))
 subst hB
 have k0 : (f2 0).x.r.kd = 1 := by rw [hf2]; unfold rwAt; rw [hRR1]; kernel_rfl
 have t0 : std.toNat 0 = 0 := rfl
 refine Sim.bool ?_
 simp [std, sC, BE.den, canB, k0, hE1, hn3]
theorem samers_y (cd : Int) (hd : Bool) (vl : ByteArray) (A : Option Addr) (n c : Nat) (A2 : Option Addr) (c2 : Nat) (f : Nat → Itm) (k : Int) (mr : Bool) : Spec Tryz.prog 43 [.agg [.int .i64 cd, .bool (.v hd), .str vl, .sl none A n c 2 (fun i => itC (f i)), .int .u64 k, .bool (.v mr)], .agg [.int .i64 cd, .bool (.v hd), .str vl, .sl none A2 n c2 2 (fun i => itC (f i)), .int .u64 k, .bool (.v mr)]] (fun _ => .bool .tt) := by
 intro m w hm hargs
 have hn : n ≤ maxLen := by
  have h9 := hargs _ (List.mem_cons_self ..)
  have := ok_len (ok_agg h9 (.sl none A n c 2 (fun i => itC (f i))) (by simp))
  omega
 have S := same7_s A n c f hn A2 n c2 f
 rw [show sameF n f n f = true from sameF_yes rfl fun _ _ => rfl] at S
 simp only [rowI] at S
 refine en 45 hm hargs Tryz.func43 fun B hB a0 hF => ?_
 refine wp_seq (rg hB TA_ok [2, 3] [2, 3] [] hF fun X0 a0 w1 hF => ?_)
 have O1 := S
 refine wp_seq (rg hB TA_ok [4] [] [(24, .r fun _ => .bool (.v true))] hF fun X1 a0 w1 hF => ?_)
 refine wp_ret ((rsi hB TA_ok hF nAt (he := ?_)))
 subst hB
 refine Sim.bool ?_
 simp [std, sC, stdScmp, BE.den, canB]
 try exact String.beq_self _
theorem sameq_y (x y : Atom) (W : Wq) (rr : RN) (nn : Nat) (ff : Nat → Itm) : Spec Tryz.prog 16 [wntV (wqB x W rr nn ff), wntV (wqB y W rr nn ff)] (fun _ => .bool .tt) := by
 intro m w hm hargs
 have hn : rr.n ≤ maxLen := by
  have h9 := hargs _ (List.mem_cons_self ..)
  have := ok_len (ok_agg h9 (.sl none (x.A 1) rr.n (x.c 1) 2 (fun i => itC (rr.f i))) (by simp))
  omega
 have S := same_s (x.A 1) rr.n (x.c 1) rr.f hn rr.kd rr.nx rr.mrk (y.A 1) rr.n (y.c 1) rr.f rr.kd rr.nx rr.mrk
 rw [sameR_abs, decide_eq_true rfl] at S
 simp only [recI, rowI] at S
 have S2 := samers_y W.res.code W.res.had W.res.val (x.A 2) nn (x.c 2) (y.A 2) (y.c 2) ff W.res.key W.res.more
 refine en 38 hm hargs Tryz.func16 fun B hB a0 hF => ?_
 refine wp_seq (rg hB TA_ok [2, 3] [2, 3] [] hF fun X0 a0 w1 hF => ?_)
 apply wp_seq
 refine rg hB TA_ok [4] [] [(24, .r fun _ => .bool (.v true)), (31, .r fun _ => .bool .tt)] hF (hob := by intro X; subst hB; simp only [AO, Ob.holds, BE.den] <;> and_intros <;> repeat first | trivial | rfl | exact ob_lab (Kk := noK) _ _ _ _ | exact (fun _ _ => by kernel_rfl) | refine ⟨?_, ?_⟩ | intro h | exact Int.le_refl _ | decide | omega) fun X1 a0 w1 hF => ?_
 refine wp_ret ((rsi hB TA_ok hF nAt (he := ?_)))
 subst hB
 refine Sim.bool ?_
 simp [std, sC, BE.den, canB, eqL_lab]
abbrev zSptV : AV := .agg [.int .i64 0, .int .u64 0, .int .i64 0, .int .u64 0, .bool .ff, .int .i64 0, .sl none none 0 0 2 (fun _ => []), .int .i64 0, .int .u64 0, .int .u64 0]
theorem LOk.zero {l : Lab} (h : LOk l) : l.len = 0 ↔ l = rootL := by
 obtain ⟨_, _, h3⟩ := lab_parts h.isl
 constructor
 ·intro h0
  obtain ⟨a, b⟩ := l
  dsimp only at h0 h3
  subst h0
  have hu := h.u
  unfold U64 at hu
  dsimp only at hu
  have : headN b.toNat (0 : Int).toNat = 0 := by
   show b.toNat / 2 ^ 64 * 2 ^ 64 = 0
   rw [Nat.div_eq_of_lt (by omega), Nat.zero_mul]
  rw [this] at h3
  simp at h3
  rw [← h3]
 intro h0; rw [h0]
theorem dcasl_m (k0 b : Nat) (J : JobA) (hJ : JobOk J) (E : EnvA) (hE : E.n ≤ 1000000) (N : Nat) (p : Pst) (hR : Rel E N p) (hp : PstOk p) (hn : p.n ≤ 1000000) (l : Lab) (v : Int) : DocS 96 k0 b J E N p [labAV l, .int .u64 v, leafV] (fun d => .bool (.v d)) (.bool .ff) (casM (J.budget - E.n) l v leafR p) :=
 DocS.re (dcas_m 0 b J hJ E hE N p hR hp hn l v ⟨none, 0, leafR.rn⟩) ⟨zr, zr, Sim.agg ⟨zr, rowz_sim, zr, zr, zr, trivial⟩, trivial⟩
theorem ofE_0 {n : Int} (h : ofE n = 0) (h0 : 0 ≤ n) : n ≤ 64 := by
 unfold ofE at h
 split at h
 ·cases h
 omega
theorem ofE_1 {n : Int} (h : ¬ ofE n = 0) (h0 : 0 ≤ n) : 64 < n := by
 unfold ofE at h
 split at h
 ·omega
 exact absurd rfl h
theorem dlin_m0 (b : Nat) (J : JobA) (hJ : JobOk J) (E : EnvA) (hE : E.n ≤ 1000000) (N : Nat) (p : Pst) (hR : Rel E N p) (hp : PstOk p) (hn : p.n ≤ 1000000) (key : Int) (hk : U64 key) (l : Lab) (hl : LOk l) (n : Nat) (hf : p.n < n) : DocS 79 0 b J E N p [.int .u64 key, labAV l] (sptV) (zSptV) (linM J.bucket (J.budget - E.n) key n l p) := by
 intro m w hm hargs hpre
 have hN0 : N = E.n - p.n := by have := hR.n; omega
 have SN := rnone_s
 simp only [labAV, noneL] at SN
 refine enX 70 hm hpre hargs Tryz.func79 fun B hB a0 hF => ?_
 refine wp_seq (rg hB TA_ok [0, 1, 5, 6] [0, 5, 6] [] hF fun X0 a0 w1 hF => ?_)
 refine wp_seq (wp_block (loop_pre (ι := LSt × Lab) (fun q => []) (fun q => [(0, ⟨b, 118, lsC J E q.1⟩), (5, ⟨(X0 0).b, 24, [.int .i64 q.2.len, .int .u64 q.2.bits]⟩)]) (fun q => []) (fun q => match q.1 with | .go a r M => linM J.bucket (J.budget - E.n) key n l p = linM J.bucket (J.budget - E.n) key a q.2 r ∧ PstOk r ∧ r.n ≤ 1000000 ∧ Rel E M r ∧ r.n < a ∧ r.n ≤ p.n ∧ LOk q.2 | .dn r M => False | .sp M Q u => ∃ (X : Atom) (wq : Wq) (pp : Pst), linM J.bucket (J.budget - E.n) key n l p = .stop wq pp ∧ M = E.n - pp.n ∧ Q = wqA X wq ∧ u = pp.note) (fun q => lsM q.1) (.go n p N, l) ⟨rfl, hp, hn, hR, (by skip; omega), (by skip; omega), hl⟩ hF ?_))
 rintro q hJ a0 w1 hF
 rcases q with ⟨⟨nn0, p0, N0⟩ | ⟨p9, N9⟩ | ⟨N0, Q0, t0⟩, l0⟩
 ·dsimp only [lsC, lsB] at hJ hF
  obtain ⟨hrun0, hp0, hn0, hR0, hf0, hle0, hl0⟩ := hJ
  obtain ⟨m0, rfl⟩ : ∃ n2, nn0 = n2 + 1 := ⟨nn0 - 1, by omega⟩
  have hN0 : N0 = E.n - p0.n := by have := hR0.n; omega
  refine wp_seq (wp_seq (rg hB TA_ok [14, 0, 1, 5, 6] [0, 5, 6] [] hF fun X1 a0 w1 hF => ?_))
  refine test_tt hF rfl (fun hF => ?_)
  refine wp_skip (wp_block (wp_seq ?_))
  rcases (dget_m 0 b J hJ E hE N0 p0 hR0 hp0 hn0 l0).two (fro_get _ _ _) hp0 hn0 hR0 with ⟨g2, p2, N2, hm2, hs2, hp2, hn2, hR2, hN2, S2⟩ | ⟨wq2, p2, N2, W2, hm2, hs2, hN2, hW2, S2⟩
  ·have hl2 := get_lt hm2
   have hg2 := hp0.get hm2
   have hr2 := hp0.getR hm2
   have O1 := S2
   refine rg hB TA_ok [0, 1, 5, 6, 7] [0, 5, 6, 7] [(2, lc J E (gotV g2) N2 p2)] hF fun X2 a0 w1 hF => ?_
   refine wp_seq (wp_seq (rg hB TA_ok [21, 0, 1, 5, 6, 7] [0, 5, 6, 7] [] hF fun X3 a0 w1 hF => ?_))
   refine test_ff hF rfl (fun hF => ?_)
   refine wp_skip (wp_seq (wp_seq (rg hB TA_ok [25, 0, 1, 5, 6, 7] [0, 5, 6, 7] [] hF fun X5 a0 w1 hF => ?_)))
   apply test_ok hF rfl <;> intro hb hF
   ·have hh : g2.has = false := by
     have h9 : (!g2.has) = true := by subst hB; exact hb
     simpa using h9
    refine wp_seq (wp_seq (rg hB TA_ok [28, 0, 1, 5, 6, 7] [0, 5, 6, 7] [] hF fun X6 a0 w1 hF => ?_))
    apply test_ok hF rfl <;> intro hb hF
    ·have h0 : l0.len = 0 := by subst hB; simpa [std, sC] using hb
     have tz := hl0.zero.1 h0
     subst tz
     rcases (dcasl_m 0 b J hJ E hE N2 p2 hR2 hp2 hn2 rootL g2.ver).two (fro_cas _ _ _ _ _) hp2 hn2 hR2 with ⟨d7, p7, N7, hm7, hs7, hp7, hn7, hR7, hN7, S7⟩ | ⟨wq7, p7, N7, W7, hm7, hs7, hN7, hW7, S7⟩
     ·have O1 := SN
      have O2 := S7
      refine drg hB TA_ok [0, 1, 5, 6] [0, 5, 6] [(4, .r fun _ => .agg [.int .i64 (-1), .int .u64 0]), (6, lc J E (.bool (.v d7)) N7 p7)] hF fun X7 a0 w1 hF => ?_
      refine wp_seq (rg hB TA_ok [0, 1, 5, 6] [0, 5, 6] [] hF fun X8 a0 w1 hF => ?_)
      replace hF := hF.keep [0, 1, 5, 6] [0, 5, 6]
      exact wp_exit (⟨(.go m0 p7 N7, rootL), ⟨by rw [hrun0]; simp [linM, Rs.bind, hrun0, linM, hm2, gk, hh, hm7], hp7, hn7, hR7, (by have := hf0; have := hle0; have := hl2; have := hs7.le; omega), (by have := hf0; have := hle0; have := hl2; have := hs7.le; omega), lok_z⟩, by simp [lsM], hF⟩)
     have O1 := SN
     have O2 := S7
     refine drg hB TA_ok [0, 1, 5, 6] [0, 5, 6] [(4, .r fun _ => .agg [.int .i64 (-1), .int .u64 0]), (6, sc J E (.bool .ff) N7 W7 p7.note)] hF fun X7 a0 w1 hF => ?_
     refine wp_seq (rg hB TA_ok [0, 1, 5, 6] [0, 5, 6] [] hF fun X8 a0 w1 hF => ?_)
     replace hF := hF.keep [0, 1, 5, 6] [0, 5, 6]
     exact wp_exit (⟨(.sp N7 (W7 (X7 6)) p7.note, rootL), ⟨(X7 6), wq7, p7, by simp [Rs.bind, hrun0, linM, hm2, gk, hh, hm7], hN7, (hW7 _), rfl⟩, by simp [lsM], hF⟩)
    have h0 : ¬ l0.len = 0 := by subst hB; simpa [std, sC] using hb
    have tz : ¬ l0 = rootL := fun h => h0 (hl0.zero.2 h)
    refine wp_skip (wp_seq (rg hB TA_ok [0, 1, 5, 6] [0, 5, 6] [] hF fun X8 a0 w1 hF => ?_))
    replace hF := hF.keep [0, 1, 5, 6] [0, 5, 6]
    exact wp_exit (⟨(.go m0 p2 N2, rootL), ⟨by rw [hrun0]; simp [linM, Rs.bind, hrun0, linM, hm2, gk, hh, tz], hp2, hn2, hR2, (by have := hf0; have := hle0; have := hl2; omega), (by have := hf0; have := hle0; have := hl2; omega), lok_z⟩, by simp [lsM], hF⟩)
   have hh : g2.has = true := by
    have h9 : (!g2.has) = false := by subst hB; exact hb
    simpa using h9
   refine wp_skip (wp_seq (rg hB TA_ok [0, 1, 5, 6, 7, 39] [0, 5, 6, 7] [] hF fun X9 a0 w1 hF => ?_))
   refine wp_block (wp_seq (rg hB TA_ok [44, 0, 1, 5, 6, 7, 39] [0, 5, 6, 7] [] hF fun X11 a0 w1 hF => ?_))
   apply test_ok hF rfl <;> intro hb hF
   ·have k1 : g2.x.r.kd = 1 := by subst hB; simpa [std, sC] using hb
    refine wp_seq (rg hB TA_ok [6] [0, 6] [] hF fun X12 a0 w1 hF => ?_)
    exact wp_ret ((rgo hB TA_ok hF (v := (⟨l0, g2⟩ : Spt)) (q := p2) (by simp [Rs.bind, hrun0, linM, hm2, gk, hh, k1]) hN2).1)
   have k1 : ¬ g2.x.r.kd = 1 := by subst hB; simpa [std, sC] using hb
   refine wp_seq (rg hB TA_ok [49, 0, 1, 5, 6, 7, 39] [0, 5, 6, 7] [] hF fun X13 a0 w1 hF => ?_)
   apply test_ok hF rfl <;> intro hb hF
   ·have k2 : g2.x.r.kd = 2 := by subst hB; simpa [std, sC] using hb
    have h0l := lab_parts hl0.isl
    have S14 := rof_s key (l0.len + 1) hk
    simp only [labAV] at S14
    have e1 : IntKind.i64.wrap (l0.len + 1) = l0.len + 1 := wrap_in (by omega) (by omega)
    have hk9 := ofV_ok hk (l0.len + 1)
    obtain ⟨k, hk_⟩ := eqv (ofV key (l0.len + 1))
    rw [← hk_] at S14 hk9
    obtain ⟨ke, hke⟩ := eqv (ofE (l0.len + 1))
    rw [← hke] at S14
    rw [← e1] at S14
    have O1 := S14
    refine wp_seq (rg hB TA_ok [0, 1, 5, 6, 8, 9] [0, 5, 6, 8] [(4, .r fun _ => .tup [.agg [.int .i64 k.len, .int .u64 k.bits], .int .i64 ke])] hF fun X14 a0 w1 hF => ?_)
    refine wp_seq (rg hB TA_ok [0, 1, 5, 6, 9] [0, 5, 6] [] hF fun X15 a0 w1 hF => ?_)
    refine wp_seq (rg hB TA_ok [61, 0, 1, 5, 6] [0, 5, 6] [] hF fun X16 a0 w1 hF => ?_)
    apply test_ok hF rfl <;> intro hb hF
    ·have he : ¬ ke = 0 := by subst hB; simpa [std, sC] using hb
     have h64 : ¬ l0.len < 64 := by
      have := ofE_1 (by rw [← hke]; exact he) (by omega); omega
     refine rg hB TA_ok [0, 1, 5, 6] [0, 5, 6] [] hF fun X17 a0 w1 hF => ?_
     replace hF := hF.keep [0, 1, 5, 6] [0, 5, 6]
     exact ⟨(.go m0 p2 N2, rootL), ⟨by rw [hrun0]; simp [linM, Rs.bind, hrun0, linM, hm2, gk, hh, k1, k2, ← hk_, h64], hp2, hn2, hR2, (by have := hf0; have := hle0; have := hl2; omega), (by have := hf0; have := hle0; have := hl2; omega), lok_z⟩, by simp [lsM], hF⟩
    have he : ke = 0 := by subst hB; simpa [std, sC] using hb
    have h64 : l0.len < 64 := by
     have := ofE_0 (by rw [← hke]; exact he) (by omega); omega
    replace hF := hF.keep [0, 1, 5, 6] [0, 5, 6]
    exact wp_skip (⟨(.go m0 p2 N2, k), ⟨by rw [hrun0]; simp [linM, Rs.bind, hrun0, linM, hm2, gk, hh, k1, k2, ← hk_, h64], hp2, hn2, hR2, (by have := hf0; have := hle0; have := hl2; omega), (by have := hf0; have := hle0; have := hl2; omega), hk9⟩, by simp [lsM], hF⟩)
   have k2 : ¬ g2.x.r.kd = 2 := by subst hB; simpa [std, sC] using hb
   refine wp_seq (rg hB TA_ok [63, 0, 1, 5, 6, 7] [0, 5, 6, 7] [] hF fun X18 a0 w1 hF => ?_)
   apply test_ok hF rfl <;> intro hb hF
   ·have k5 : g2.x.r.kd = 5 := by subst hB; simpa [std, sC] using hb
    apply wp_seq
    rcases (dthw_c m0 0 b J hJ E hE N2 p2 hR2 hp2 hn2 l0 hl0 (by have := hf0; have := hle0; have := hl2; omega)).two (fro_thw _ _ _ _ _) hp2 hn2 hR2 with ⟨v19, p19, N19, hm19, hs19, hp19, hn19, hR19, hN19, S19⟩ | ⟨wq19, p19, N19, W19, hm19, hs19, hN19, hW19, S19⟩
    ·have O1 := S19
     refine rg hB TA_ok [0, 1, 5, 6] [0, 5, 6] [(2, lc J E (unitV) N19 p19)] hF fun X19 a0 w1 hF => ?_
     refine rg hB TA_ok [0, 1, 5, 6] [0, 5, 6] [] hF fun X20 a0 w1 hF => ?_
     replace hF := hF.keep [0, 1, 5, 6] [0, 5, 6]
     exact ⟨(.go m0 p19 N19, rootL), ⟨by rw [hrun0]; simp [linM, Rs.bind, hrun0, linM, hm2, gk, hh, k1, k2, k5, hm19], hp19, hn19, hR19, (by have := hf0; have := hle0; have := hl2; have := hs19.le; omega), (by have := hf0; have := hle0; have := hl2; have := hs19.le; omega), lok_z⟩, by simp [lsM], hF⟩
    have O1 := S19
    refine rg hB TA_ok [0, 1, 5, 6] [0, 5, 6] [(2, sc J E (unitV) N19 W19 p19.note)] hF fun X19 a0 w1 hF => ?_
    refine rg hB TA_ok [0, 1, 5, 6] [0, 5, 6] [] hF fun X20 a0 w1 hF => ?_
    replace hF := hF.keep [0, 1, 5, 6] [0, 5, 6]
    exact ⟨(.sp N19 (W19 (X19 2)) p19.note, rootL), ⟨(X19 2), wq19, p19, by simp [Rs.bind, hrun0, linM, hm2, gk, hh, k1, k2, k5, hm19], hN19, (hW19 _), rfl⟩, by simp [lsM], hF⟩
   have k5 : ¬ g2.x.r.kd = 5 := by subst hB; simpa [std, sC] using hb
   have t34 : g2.x.r.kd = 3 ∨ g2.x.r.kd = 4 := by have := hr2.kd hh; omega
   rcases (dfin_c m0 0 b J hJ E hE N2 p2 hR2 hp2 hn2 l0 hl0 g2 hg2 hh (by have := hf0; have := hle0; have := hl2; omega)).two (fro_fns _ _ _ _ _ _) hp2 hn2 hR2 with ⟨v10, p10, N10, hm10, hs10, hp10, hn10, hR10, hN10, S10⟩ | ⟨wq10, p10, N10, W10, hm10, hs10, hN10, hW10, S10⟩
   ·have O1 := S10
    refine rg hB TA_ok [0, 1, 5, 6] [0, 5, 6] [(3, lc J E (unitV) N10 p10)] hF fun X10 a0 w1 hF => ?_
    replace hF := hF.keep [0, 1, 5, 6] [0, 5, 6]
    exact ⟨(.go m0 p10 N10, l0), ⟨by rw [hrun0]; simp [linM, Rs.bind, hrun0, linM, hm2, gk, hh, k1, k2, k5, t34, hm10], hp10, hn10, hR10, (by have := hf0; have := hle0; have := hl2; have := hs10.le; omega), (by have := hf0; have := hle0; have := hl2; have := hs10.le; omega), hl0⟩, by simp [lsM], hF⟩
   have O1 := S10
   refine rg hB TA_ok [0, 1, 5, 6] [0, 5, 6] [(3, sc J E (unitV) N10 W10 p10.note)] hF fun X10 a0 w1 hF => ?_
   replace hF := hF.keep [0, 1, 5, 6] [0, 5, 6]
   exact ⟨(.sp N10 (W10 (X10 3)) p10.note, l0), ⟨(X10 3), wq10, p10, by simp [Rs.bind, hrun0, linM, hm2, gk, hh, k1, k2, k5, t34, hm10], hN10, (hW10 _), rfl⟩, by simp [lsM], hF⟩
  have O1 := S2
  refine rg hB TA_ok [0, 1, 5, 6, 7] [0, 5, 6, 7] [(2, sc J E (.agg [.int .i64 0, .int .u64 0, .bool .ff, .int .i64 0, .sl none none 0 0 2 (fun _ => []), .int .i64 0, .int .u64 0, .int .u64 0]) N2 W2 p2.note)] hF fun X2 a0 w1 hF => ?_
  refine wp_seq (wp_seq (rg hB TA_ok [21, 0, 1, 5, 6, 7] [0, 5, 6, 7] [] hF fun X3 a0 w1 hF => ?_))
  refine test_tt hF rfl (fun hF => ?_)
  refine wp_seq (rg hB TA_ok [6] [0, 6] [] hF fun X4 a0 w1 hF => ?_)
  exact wp_ret ((rst hB TA_ok hF (q := p2) (wq := wq2) (X2 2) (by simp [Rs.bind, hrun0, linM, hm2]) hN2 (hW2 _)).1)
 ·exact (hJ : False).elim
 dsimp only [lsC, lsB] at hJ hF
 obtain ⟨X0, wq0, pp0, hsp0, hN0, hW0, ht0⟩ := hJ
 subst ht0
 refine wp_seq (wp_seq (rg hB TA_ok [14, 0, 1, 5, 6] [0, 5, 6] [] hF fun X1 a0 w1 hF => ?_))
 refine test_ff hF rfl (fun hF => ?_)
 refine wp_exit (wp_seq (rg hB TA_ok [6] [0, 6] [] hF fun X21 a0 w1 hF => ?_))
 exact wp_ret ((rst hB TA_ok hF (q := pp0) (wq := wq0) X0 (hsp0) hN0 hW0).1)
theorem dlin_m (k0 b : Nat) (J : JobA) (hJ : JobOk J) (E : EnvA) (hE : E.n ≤ 1000000) (N : Nat) (p : Pst) (hR : Rel E N p) (hp : PstOk p) (hn : p.n ≤ 1000000) (key : Int) (hk : U64 key) (l : Lab) (hl : LOk l) (n : Nat) (hf : p.n < n) : DocS 79 k0 b J E N p [.int .u64 key, labAV l] (sptV) (zSptV) (linM J.bucket (J.budget - E.n) key n l p) := DocS.re (dlin_m0 b J hJ E hE N p hR hp hn key hk l hl n hf) (by repeat (first | exact trivial | refine ⟨zr, ?_⟩))
theorem dlin_d0 (b : Nat) (J : JobA) (E : EnvA) (hE : E.n ≤ 1000000) (N : Nat) (q : WntA) (t : Nt) (key : Int) (l : Lab) : DeadS 79 0 b J E N q t [.int .u64 key, labAV l] (zSptV) := by
 intro m w hm hargs hpre
 refine enX 70 hm hpre hargs Tryz.func79 fun B hB a0 hF => ?_
 refine wp_seq (rg hB TA_ok [0, 1, 5, 6] [0, 5, 6] [] hF fun X0 a0 w1 hF => ?_)
 refine wp_seq (wp_block (wp_loop_rounds 2 (rounds_first (wp_seq (wp_seq (rg hB TA_ok [14, 0, 1, 5, 6] [0, 5, 6] [] hF fun X1 a0 w1 hF => ?_))))))
 refine test_ff hF rfl (fun hF => ?_)
 refine wp_exit (wp_seq (rg hB TA_ok [6] [0, 6] [] hF fun X21 a0 w1 hF => ?_))
 exact wp_ret ((rdd hB TA_ok hF).1)
theorem dlin_d (k0 b : Nat) (J : JobA) (E : EnvA) (hE : E.n ≤ 1000000) (N : Nat) (q : WntA) (t : Nt) (key : Int) (l : Lab) : DeadS 79 k0 b J E N q t [.int .u64 key, labAV l] (zSptV) := DeadS.re (dlin_d0 b J E hE N q t key l) (by repeat (first | exact trivial | refine ⟨zr, ?_⟩))
def lowD (k : Int) (l : Lab) (p : Pst) : Bool := match getM k (parV l) p with
 | .stop .. => true
 | .ok .. => false
theorem lft_root {bk k : Int} {n : Nat} {l : Lab} {p q : Pst} {b : Bool} (h : lftM bk k n l p = .ok b q) (hl : l.len = 0) : b = true := by
 unfold lftM at h
 have : ¬ parE l = 0 := by
  unfold parE
  rw [if_pos hl]
  split <;> decide
 rw [if_neg this] at h
 injection h with h _
 exact h.symm
theorem dlow_m0 (b : Nat) (J : JobA) (hJ : JobOk J) (E : EnvA) (hE : E.n ≤ 1000000) (N : Nat) (p : Pst) (hR : Rel E N p) (hp : PstOk p) (hn : p.n ≤ 1000000) (l : Lab) (hl : LOk l) (n : Nat) (hf : p.n < n) : DocS 150 0 b J E N p [labAV l] (fun b : Bool => .bool (.v b)) (.bool (.v (lowD (J.budget - E.n) l p))) (lftM J.bucket (J.budget - E.n) n l p) := by
 intro m w hm hargs hpre
 have hN0 : N = E.n - p.n := by have := hR.n; omega
 have SP := rpar_s l hl.u
 simp only [labAV] at SP
 obtain ⟨up, hup⟩ := eqv (parV l)
 rw [← hup] at SP
 obtain ⟨ue, hue⟩ := eqv (parE l)
 rw [← hue] at SP
 refine enX 31 hm hpre hargs Tryz.func150 fun B hB a0 hF => ?_
 refine wp_seq (rg hB TA_ok [0, 3] [0, 3] [] hF fun X0 a0 w1 hF => ?_)
 have O1 := SP
 refine wp_seq (rg hB TA_ok [0, 3, 5, 6] [0, 3, 5] [(1, .r fun _ => .tup [.agg [.int .i64 up.len, .int .u64 up.bits], .int .i64 ue])] hF fun X1 a0 w1 hF => ?_)
 refine wp_seq (wp_seq (rg hB TA_ok [14, 0, 3, 5] [0, 3, 5] [] hF fun X2 a0 w1 hF => ?_))
 apply test_ok hF rfl <;> intro hb hF
 ·have t0 : ¬ ue = 0 := by subst hB; simpa [std, sC] using hb
  refine wp_seq (rg hB TA_ok [4] [0] [] hF fun X3 a0 w1 hF => ?_)
  exact wp_ret ((rgo hB TA_ok hF (v := true) (q := p) (by simp [lftM, ← hup, ← hue, Rs.bind, t0]) hN0).1)
 have t0 : ue = 0 := by subst hB; simpa [std, sC] using hb
 refine wp_skip (wp_seq ?_)
 rcases (dget_m 0 b J hJ E hE N p hR hp hn up).two (fro_get _ _ _) hp hn hR with ⟨q4, p4, N4, hm4, hs4, hp4, hn4, hR4, hN4, S4⟩ | ⟨wq4, p4, N4, W4, hm4, hs4, hN4, hW4, S4⟩
 ·have hl4 := get_lt hm4
  have hg4 := hp.get hm4
  have O1 := S4
  refine rg hB TA_ok [0, 3, 7] [0, 3, 7] [(2, lc J E (gotV q4) N4 p4)] hF fun X4 a0 w1 hF => ?_
  obtain ⟨r2, hr2⟩ := eqv (gk q4 2)
  obtain ⟨r3, hr3⟩ := eqv (gk q4 3)
  obtain ⟨r4, hr4⟩ := eqv (gk q4 4)
  refine wp_seq (wp_seq ?_)
  refine rg hB TA_ok [27, 0, 3] [0, 3] [(1, .r fun _ => .bool (.v r2)), (4, .r fun _ => .bool (.v r3)), (8, .r fun _ => .bool (.v r4))] hF (hob := by intro X; subst hB; simp only [AO, Ob.holds, BE.den] <;> and_intros <;> repeat first | trivial | rfl | exact (by rw [hr2]; exact dis_s q4 2) | exact by rw [hr2]; exact dis_s q4 2 | exact (by rw [hr3]; exact dis_s q4 3) | exact by rw [hr3]; exact dis_s q4 3 | exact (by rw [hr4]; exact dis_s q4 4) | exact by rw [hr4]; exact dis_s q4 4 | exact (fun _ _ => by kernel_rfl) | refine ⟨?_, ?_⟩ | intro h | exact Int.le_refl _ | decide | omega) fun X5 a0 w1 hF => ?_
  apply test_ok hF rfl <;> intro hb hF
  ·have tr : (gk q4 2 || gk q4 3 || gk q4 4) = true := by
    have h9 : (if (if r2 = true then true else r3) = true then true else r4) = true := by subst hB; exact hb
    rw [← hr2, ← hr3, ← hr4, ← h9]; cases r2 <;> cases r3 <;> rfl
   apply wp_seq
   rcases (dthw_c n 0 b J hJ E hE N4 p4 hR4 hp4 hn4 l hl (by have := hl4; omega)).two (fro_thw _ _ _ _ _) hp4 hn4 hR4 with ⟨v6, p6, N6, hm6, hs6, hp6, hn6, hR6, hN6, S6⟩ | ⟨wq6, p6, N6, W6, hm6, hs6, hN6, hW6, S6⟩
   ·have O1 := S6
    refine rg hB TA_ok [] [0] [(2, lc J E (unitV) N6 p6)] hF fun X6 a0 w1 hF => ?_
    refine wp_seq (rg hB TA_ok [4] [0] [] hF fun X7 a0 w1 hF => ?_)
    exact wp_ret ((rgo hB TA_ok hF (v := false) (q := p6) (by simp [lftM, ← hup, ← hue, Rs.bind, t0, hm4, tr, hm6]) hN6).1)
   have O1 := S6
   refine rg hB TA_ok [] [0] [(2, sc J E (unitV) N6 W6 p6.note)] hF fun X6 a0 w1 hF => ?_
   refine wp_seq (rg hB TA_ok [4] [0] [] hF fun X7 a0 w1 hF => ?_)
   refine wp_ret ((rst hB TA_ok hF (q := p6) (wq := wq6) (X6 2) (by simp [lftM, ← hup, ← hue, Rs.bind, t0, hm4, tr, hm6]) hN6 (hW6 _) (he := ?_)).1)
   rw [show lowD (J.budget - E.n) l p = false by unfold lowD; rw [← hup, hm4]]; subst hB; exact zr
  have tr : (gk q4 2 || gk q4 3 || gk q4 4) = false := by
   have h9 : (if (if r2 = true then true else r3) = true then true else r4) = false := by subst hB; exact hb
   rw [← hr2, ← hr3, ← hr4, ← h9]; cases r2 <;> cases r3 <;> rfl
  refine wp_skip (wp_seq (rg hB TA_ok [4] [0] [] hF fun X8 a0 w1 hF => ?_))
  exact wp_ret ((rgo hB TA_ok hF (v := true) (q := p4) (by simp [lftM, ← hup, ← hue, Rs.bind, t0, hm4, tr]) hN4).1)
 have O1 := S4
 refine rg hB TA_ok [0, 3, 7] [0, 3, 7] [(2, sc J E (.agg [.int .i64 0, .int .u64 0, .bool .ff, .int .i64 0, .sl none none 0 0 2 (fun _ => []), .int .i64 0, .int .u64 0, .int .u64 0]) N4 W4 p4.note)] hF fun X4 a0 w1 hF => ?_
 refine wp_seq (wp_seq ?_)
 refine rg hB TA_ok [27, 0, 3] [0, 3] [(1, .r fun _ => .bool .ff), (4, .r fun _ => .bool .ff), (8, .r fun _ => .bool .ff)] hF (hob := by intro X; subst hB; simp only [AO, Ob.holds, BE.den] <;> and_intros <;> repeat first | trivial | rfl | exact disz_s _ | exact (fun _ _ => by kernel_rfl) | refine ⟨?_, ?_⟩ | intro h | exact Int.le_refl _ | decide | omega) fun X5 a0 w1 hF => ?_
 refine test_ff hF rfl (fun hF => ?_)
 refine wp_skip (wp_seq (rg hB TA_ok [4] [0] [] hF fun X8 a0 w1 hF => ?_))
 refine wp_ret ((rst hB TA_ok hF (q := p4) (wq := wq4) (X4 2) (by simp [lftM, ← hup, ← hue, Rs.bind, t0, hm4]) hN4 (hW4 _) (he := ?_)).1)
 rw [show lowD (J.budget - E.n) l p = true by unfold lowD; rw [← hup, hm4]]; subst hB; exact zr
theorem dlow_m (k0 b : Nat) (J : JobA) (hJ : JobOk J) (E : EnvA) (hE : E.n ≤ 1000000) (N : Nat) (p : Pst) (hR : Rel E N p) (hp : PstOk p) (hn : p.n ≤ 1000000) (l : Lab) (hl : LOk l) (n : Nat) (hf : p.n < n) : DocS 150 k0 b J E N p [labAV l] (fun b : Bool => .bool (.v b)) (.bool (.v (lowD (J.budget - E.n) l p))) (lftM J.bucket (J.budget - E.n) n l p) := DocS.re (dlow_m0 b J hJ E hE N p hR hp hn l hl n hf) (by repeat (first | exact trivial | refine ⟨zr, ?_⟩))
theorem dbin_m0 (b : Nat) (J : JobA) (hJ : JobOk J) (E : EnvA) (hE : E.n ≤ 1000000) (N : Nat) (p : Pst) (hR : Rel E N p) (hp : PstOk p) (hn : p.n ≤ 1000000) (key : Int) (hk : U64 key) (n : Nat) (hf : p.n < n) : DocS 80 0 b J E N p [.int .u64 key] (sptV) (zSptV) (binM J.bucket (J.budget - E.n) key n 0 64 p) := by
 intro m w hm hargs hpre
 have hN0 : N = E.n - p.n := by have := hR.n; omega
 refine enX 75 hm hpre hargs Tryz.func80 fun B hB a0 hF => ?_
 refine wp_seq (rg hB TA_ok [0, 1, 4] [0, 4] [] hF fun X0 a0 w1 hF => ?_)
 refine wp_seq (rg hB TA_ok [5, 0, 1, 4] [0, 4] [] hF fun X1 a0 w1 hF => ?_)
 refine wp_seq (rg hB TA_ok [5, 6, 0, 1, 4] [0, 4] [] hF fun X2 a0 w1 hF => ?_)
 refine wp_seq (wp_block (loop_pre (ι := LSt × Int × Int) (fun q => [(5, .int .i64 q.2.1), (6, .int .i64 q.2.2)]) (fun q => [(0, ⟨b, 118, lsC J E q.1⟩)]) (fun q => []) (fun q => match q.1 with | .go a r M => binM J.bucket (J.budget - E.n) key n 0 64 p = binM J.bucket (J.budget - E.n) key a q.2.1 q.2.2 r ∧ PstOk r ∧ r.n ≤ 1000000 ∧ Rel E M r ∧ r.n < a ∧ r.n ≤ p.n ∧ 0 ≤ q.2.1 ∧ q.2.1 ≤ 65 ∧ -1 ≤ q.2.2 ∧ q.2.2 ≤ 64 | .dn r M => False | .sp M Q u => ∃ (X : Atom) (wq : Wq) (pp : Pst), binM J.bucket (J.budget - E.n) key n 0 64 p = .stop wq pp ∧ M = E.n - pp.n ∧ Q = wqA X wq ∧ u = pp.note) (fun q => lsM q.1) (.go n p N, 0, 64) ⟨rfl, hp, hn, hR, (by skip; omega), (by skip; omega), (by dsimp only; omega), (by dsimp only; omega), (by dsimp only; omega), (by dsimp only; omega)⟩ hF ?_))
 rintro q hJ a0 w1 hF
 rcases q with ⟨⟨nn0, p0, N0⟩ | ⟨p9, N9⟩ | ⟨N0, Q0, t0⟩, lo0, hi0⟩
 ·dsimp only [lsC, lsB] at hJ hF
  obtain ⟨hrun0, hp0, hn0, hR0, hf0, hle0, ha0, ha1, hb0, hb1⟩ := hJ
  obtain ⟨m0, rfl⟩ : ∃ n2, nn0 = n2 + 1 := ⟨nn0 - 1, by omega⟩
  have hN0 : N0 = E.n - p0.n := by have := hR0.n; omega
  refine wp_seq (wp_seq (rg hB TA_ok [21, 0, 1, 4, 5, 6] [0, 4] [] hF fun X3 a0 w1 hF => ?_))
  apply test_ok hF rfl <;> intro hb hF
  ·have tl : lo0 ≤ hi0 := by subst hB; simpa [std, sC, BE.den] using hb
   obtain ⟨md, hmd⟩ := eqv ((lo0 + hi0) / 2)
   have hm0 : 0 ≤ md ∧ md ≤ 64 := by omega
   have e3 : stdDiv .quo .i64 (sAr .add .i64 lo0 hi0) 2 = md := by
    show IntKind.i64.wrap (Int.tdiv (IntKind.i64.wrap (lo0 + hi0)) 2) = md
    rw [wrap_in (x := lo0 + hi0) (by omega) (by omega), Int.tdiv_eq_ediv_of_nonneg (by omega), ← hmd]; exact wrap_in (by omega) (by omega)
   have e9 : sAr .add .i64 md 1 = md + 1 := wrap_in (by omega) (by omega)
   have e13 : sAr .sub .i64 md 1 = md - 1 := wrap_in (by omega) (by omega)
   have S8 := rof_s key md hk
   simp only [labAV] at S8
   have hk9 := ofV_ok hk md
   obtain ⟨k, hk8⟩ := eqv (ofV key md)
   rw [← hk8] at S8 hk9
   obtain ⟨ke, hke⟩ := eqv (ofE md)
   rw [← hke] at S8
   refine wp_skip (wp_block (wp_seq (rg hB TA_ok [7, 0, 1, 4, 5, 6] [0, 4] [] hF fun X4 a0 w1 hF => ?_)))
   replace hF := hF.headS (v' := .int .i64 md) (by subst hB; exact Sim.of_int e3) rfl
   have O1 := S8
   refine wp_seq (rg hB TA_ok [0, 1, 4, 5, 6, 7, 8] [0, 4, 8] [(2, .r fun _ => .tup [.agg [.int .i64 k.len, .int .u64 k.bits], .int .i64 ke])] hF fun X5 a0 w1 hF => ?_)
   apply wp_seq
   rcases (dget_m 0 b J hJ E hE N0 p0 hR0 hp0 hn0 k).two (fro_get _ _ _) hp0 hn0 hR0 with ⟨g6, p6, N6, hm6, hs6, hp6, hn6, hR6, hN6, S6⟩ | ⟨wq6, p6, N6, W6, hm6, hs6, hN6, hW6, S6⟩
   ·have hl6 := get_lt hm6
    have hg6 := hp0.get hm6
    have hr6 := hp0.getR hm6
    have O1 := S6
    refine rg hB TA_ok [0, 1, 4, 5, 6, 7, 8, 10] [0, 4, 8, 10] [(2, lc J E (gotV g6) N6 p6)] hF fun X6 a0 w1 hF => ?_
    refine wp_seq (wp_seq (rg hB TA_ok [38, 0, 1, 4, 5, 6, 7, 8, 10] [0, 4, 8, 10] [] hF fun X7 a0 w1 hF => ?_))
    refine test_ff hF rfl (fun hF => ?_)
    refine wp_skip (wp_seq (wp_seq (rg hB TA_ok [42, 0, 1, 4, 5, 6, 7, 8, 10] [0, 4, 8, 10] [] hF fun X9 a0 w1 hF => ?_)))
    apply test_ok hF rfl <;> intro hb hF
    ·have hh : g6.has = false := by
      have h9 : (!g6.has) = true := by subst hB; exact hb
      simpa using h9
     refine wp_seq (rg hB TA_ok [0, 1, 4, 5, 6] [0, 4] [] hF fun X10 a0 w1 hF => ?_)
     have e13' : B.arith .sub .i64 md 1 = md - 1 := by subst hB; exact e13
     replace hF := hF.keep [5, 6, 0, 1, 4] [0, 4]
     exact wp_exit (⟨(.go m0 p6 N6, lo0, (md - 1)), ⟨by rw [hrun0]; simp [binM, Rs.bind, hrun0, binM, tl, ← hmd, ← hk8, hm6, gk, hh], hp6, hn6, hR6, (by have := hf0; have := hle0; have := hl6; omega), (by have := hf0; have := hle0; have := hl6; omega), (by dsimp only; omega), (by dsimp only; omega), (by dsimp only; omega), (by dsimp only; omega)⟩, by simp [lsM], by dsimp only; rw [← e13']; exact hF⟩)
    have hh : g6.has = true := by
     have h9 : (!g6.has) = false := by subst hB; exact hb
     simpa using h9
    refine wp_skip (wp_seq (rg hB TA_ok [0, 1, 4, 5, 6, 7, 8, 10, 47] [0, 4, 8, 10] [] hF fun X11 a0 w1 hF => ?_))
    refine wp_block (wp_seq (rg hB TA_ok [52, 0, 1, 4, 5, 6, 7, 8, 10, 47] [0, 4, 8, 10] [] hF fun X13 a0 w1 hF => ?_))
    apply test_ok hF rfl <;> intro hb hF
    ·have k1 : g6.x.r.kd = 1 := by subst hB; simpa [std, sC] using hb
     refine wp_seq (rg hB TA_ok [4] [0, 4] [] hF fun X14 a0 w1 hF => ?_)
     exact wp_ret ((rgo hB TA_ok hF (v := (⟨k, g6⟩ : Spt)) (q := p6) (by simp [Rs.bind, hrun0, binM, tl, ← hmd, ← hk8, hm6, gk, hh, k1]) hN6).1)
    have k1 : ¬ g6.x.r.kd = 1 := by subst hB; simpa [std, sC] using hb
    refine wp_seq (rg hB TA_ok [57, 0, 1, 4, 5, 6, 7, 8, 10, 47] [0, 4, 8, 10] [] hF fun X15 a0 w1 hF => ?_)
    apply test_ok hF rfl <;> intro hb hF
    ·have k2 : g6.x.r.kd = 2 := by subst hB; simpa [std, sC] using hb
     refine rg hB TA_ok [5, 0, 1, 4, 6] [0, 4] [] hF fun X16 a0 w1 hF => ?_
     have e9' : B.arith .add .i64 md 1 = md + 1 := by subst hB; exact e9
     replace hF := hF.keep [5, 6, 0, 1, 4] [0, 4]
     exact ⟨(.go m0 p6 N6, (md + 1), hi0), ⟨by rw [hrun0]; simp [binM, Rs.bind, hrun0, binM, tl, ← hmd, ← hk8, hm6, gk, hh, k1, k2], hp6, hn6, hR6, (by have := hf0; have := hle0; have := hl6; omega), (by have := hf0; have := hle0; have := hl6; omega), (by dsimp only; omega), (by dsimp only; omega), (by dsimp only; omega), (by dsimp only; omega)⟩, by simp [lsM], by dsimp only; rw [← e9']; exact hF⟩
    have k2 : ¬ g6.x.r.kd = 2 := by subst hB; simpa [std, sC] using hb
    refine wp_seq (rg hB TA_ok [61, 0, 1, 4, 5, 6, 7, 8, 10] [0, 4, 8, 10] [] hF fun X17 a0 w1 hF => ?_)
    apply test_ok hF rfl <;> intro hb hF
    ·have k5 : g6.x.r.kd = 5 := by subst hB; simpa [std, sC] using hb
     refine wp_seq (wp_seq ?_)
     rcases (dlow_m 0 b J hJ E hE N6 p6 hR6 hp6 hn6 k hk9 m0 (by have := hf0; have := hle0; have := hl6; omega)).two (fro_lft _ _ _ _ _) hp6 hn6 hR6 with ⟨b18, p18, N18, hm18, hs18, hp18, hn18, hR18, hN18, S18⟩ | ⟨wq18, p18, N18, W18, hm18, hs18, hN18, hW18, S18⟩
     ·have O1 := S18
      refine rg hB TA_ok [65, 0, 1, 4, 5, 6, 7] [0, 4] [(2, lc J E (.bool (.v b18)) N18 p18)] hF fun X18 a0 w1 hF => ?_
      apply test_ok hF rfl <;> intro hb hF
      ·have tb : b18 = true := by exact hb
       refine rg hB TA_ok [6, 0, 1, 4, 5, 7] [0, 4] [] hF fun X19 a0 w1 hF => ?_
       have e13' : B.arith .sub .i64 md 1 = md - 1 := by subst hB; exact e13
       refine wp_seq (rg hB TA_ok [69, 0, 1, 4, 5, 6] [0, 4] [] hF fun X20 a0 w1 hF => ?_)
       apply test_ok hF rfl <;> intro hb hF
       ·have hz : md = 0 := by subst hB; simpa [std, sC] using hb
        refine rg hB TA_ok [6, 0, 1, 4, 5] [0, 4] [] hF fun X21 a0 w1 hF => ?_
        have hz1 : md - 1 = -1 := by omega
        replace hF := hF.keep [5, 6, 0, 1, 4] [0, 4]
        exact ⟨(.go m0 p18 N18, lo0, (-1)), ⟨by rw [hrun0]; simp [binM, Rs.bind, hrun0, binM, tl, ← hmd, ← hk8, hm6, gk, hh, k1, k2, k5, hm18, tb, hz1], hp18, hn18, hR18, (by have := hf0; have := hle0; have := hl6; have := hs18.le; omega), (by have := hf0; have := hle0; have := hl6; have := hs18.le; omega), (by dsimp only; omega), (by dsimp only; omega), (by dsimp only; omega), (by dsimp only; omega)⟩, by simp [lsM], by exact hF⟩
       have hz : ¬ md = 0 := by subst hB; simpa [std, sC] using hb
       replace hF := hF.keep [5, 6, 0, 1, 4] [0, 4]
       exact wp_skip (⟨(.go m0 p18 N18, lo0, (md - 1)), ⟨by rw [hrun0]; simp [binM, Rs.bind, hrun0, binM, tl, ← hmd, ← hk8, hm6, gk, hh, k1, k2, k5, hm18, tb], hp18, hn18, hR18, (by have := hf0; have := hle0; have := hl6; have := hs18.le; omega), (by have := hf0; have := hle0; have := hl6; have := hs18.le; omega), (by dsimp only; omega), (by dsimp only; omega), (by dsimp only; omega), (by dsimp only; omega)⟩, by simp [lsM], by dsimp only; rw [← e13']; exact hF⟩)
      have tb : b18 = false := by exact hb
      refine wp_skip (wp_seq (rg hB TA_ok [69, 0, 1, 4, 5, 6] [0, 4] [] hF fun X20 a0 w1 hF => ?_))
      apply test_ok hF rfl <;> intro hb hF
      ·exfalso
       have hz : md = 0 := by subst hB; simpa [std, sC] using hb
       have hb9 : b18 = true := lft_root hm18 (by rw [hk8, hz]; rfl)
       rw [tb] at hb9; cases hb9
      have hz : ¬ md = 0 := by subst hB; simpa [std, sC] using hb
      replace hF := hF.keep [5, 6, 0, 1, 4] [0, 4]
      exact wp_skip (⟨(.go m0 p18 N18, lo0, hi0), ⟨by rw [hrun0]; simp [binM, Rs.bind, hrun0, binM, tl, ← hmd, ← hk8, hm6, gk, hh, k1, k2, k5, hm18, tb], hp18, hn18, hR18, (by have := hf0; have := hle0; have := hl6; have := hs18.le; omega), (by have := hf0; have := hle0; have := hl6; have := hs18.le; omega), (by dsimp only; omega), (by dsimp only; omega), (by dsimp only; omega), (by dsimp only; omega)⟩, by simp [lsM], by exact hF⟩)
     obtain ⟨bd, hbd⟩ := eqv (lowD (J.budget - E.n) k p6)
     rw [← hbd] at S18
     have O1 := S18
     refine rg hB TA_ok [65, 0, 1, 4, 5, 6, 7] [0, 4] [(2, sc J E (.bool (.v bd)) N18 W18 p18.note)] hF fun X18 a0 w1 hF => ?_
     apply test_ok hF rfl <;> intro hb hF
     ·skip
      refine rg hB TA_ok [6, 0, 1, 4, 5, 7] [0, 4] [] hF fun X19 a0 w1 hF => ?_
      have e13' : B.arith .sub .i64 md 1 = md - 1 := by subst hB; exact e13
      refine wp_seq (rg hB TA_ok [69, 0, 1, 4, 5, 6] [0, 4] [] hF fun X20 a0 w1 hF => ?_)
      apply test_ok hF rfl <;> intro hb hF
      ·have hz : md = 0 := by subst hB; simpa [std, sC] using hb
       refine rg hB TA_ok [6, 0, 1, 4, 5] [0, 4] [] hF fun X21 a0 w1 hF => ?_
       have hz1 : md - 1 = -1 := by omega
       replace hF := hF.keep [5, 6, 0, 1, 4] [0, 4]
       exact ⟨(.sp N18 (W18 (X18 2)) p18.note, lo0, (-1)), ⟨(X18 2), wq18, p18, by simp [Rs.bind, hrun0, binM, tl, ← hmd, ← hk8, hm6, gk, hh, k1, k2, k5, hm18, hz1], hN18, (hW18 _), rfl⟩, by simp [lsM], by exact hF⟩
      have hz : ¬ md = 0 := by subst hB; simpa [std, sC] using hb
      replace hF := hF.keep [5, 6, 0, 1, 4] [0, 4]
      exact wp_skip (⟨(.sp N18 (W18 (X18 2)) p18.note, lo0, (md - 1)), ⟨(X18 2), wq18, p18, by simp [Rs.bind, hrun0, binM, tl, ← hmd, ← hk8, hm6, gk, hh, k1, k2, k5, hm18], hN18, (hW18 _), rfl⟩, by simp [lsM], by dsimp only; rw [← e13']; exact hF⟩)
     skip
     refine wp_skip (wp_seq (rg hB TA_ok [69, 0, 1, 4, 5, 6] [0, 4] [] hF fun X20 a0 w1 hF => ?_))
     apply test_ok hF rfl <;> intro hb hF
     ·have hz : md = 0 := by subst hB; simpa [std, sC] using hb
      refine rg hB TA_ok [6, 0, 1, 4, 5] [0, 4] [] hF fun X21 a0 w1 hF => ?_
      have hz1 : md - 1 = -1 := by omega
      replace hF := hF.keep [5, 6, 0, 1, 4] [0, 4]
      exact ⟨(.sp N18 (W18 (X18 2)) p18.note, lo0, (-1)), ⟨(X18 2), wq18, p18, by simp [Rs.bind, hrun0, binM, tl, ← hmd, ← hk8, hm6, gk, hh, k1, k2, k5, hm18, hz1], hN18, (hW18 _), rfl⟩, by simp [lsM], by exact hF⟩
     have hz : ¬ md = 0 := by subst hB; simpa [std, sC] using hb
     replace hF := hF.keep [5, 6, 0, 1, 4] [0, 4]
     exact wp_skip (⟨(.sp N18 (W18 (X18 2)) p18.note, lo0, hi0), ⟨(X18 2), wq18, p18, by simp [Rs.bind, hrun0, binM, tl, ← hmd, ← hk8, hm6, gk, hh, k1, k2, k5, hm18], hN18, (hW18 _), rfl⟩, by simp [lsM], by exact hF⟩)
    have k5 : ¬ g6.x.r.kd = 5 := by subst hB; simpa [std, sC] using hb
    have t34 : g6.x.r.kd = 3 ∨ g6.x.r.kd = 4 := by have := hr6.kd hh; omega
    rcases (dfin_c m0 0 b J hJ E hE N6 p6 hR6 hp6 hn6 k hk9 g6 hg6 hh (by have := hf0; have := hle0; have := hl6; omega)).two (fro_fns _ _ _ _ _ _) hp6 hn6 hR6 with ⟨v12, p12, N12, hm12, hs12, hp12, hn12, hR12, hN12, S12⟩ | ⟨wq12, p12, N12, W12, hm12, hs12, hN12, hW12, S12⟩
    ·have O1 := S12
     refine rg hB TA_ok [0, 1, 4, 5, 6] [0, 4] [(3, lc J E (unitV) N12 p12)] hF fun X12 a0 w1 hF => ?_
     replace hF := hF.keep [5, 6, 0, 1, 4] [0, 4]
     exact ⟨(.go m0 p12 N12, lo0, hi0), ⟨by rw [hrun0]; simp [binM, Rs.bind, hrun0, binM, tl, ← hmd, ← hk8, hm6, gk, hh, k1, k2, k5, t34, hm12], hp12, hn12, hR12, (by have := hf0; have := hle0; have := hl6; have := hs12.le; omega), (by have := hf0; have := hle0; have := hl6; have := hs12.le; omega), (by dsimp only; omega), (by dsimp only; omega), (by dsimp only; omega), (by dsimp only; omega)⟩, by simp [lsM], by exact hF⟩
    have O1 := S12
    refine rg hB TA_ok [0, 1, 4, 5, 6] [0, 4] [(3, sc J E (unitV) N12 W12 p12.note)] hF fun X12 a0 w1 hF => ?_
    replace hF := hF.keep [5, 6, 0, 1, 4] [0, 4]
    exact ⟨(.sp N12 (W12 (X12 3)) p12.note, lo0, hi0), ⟨(X12 3), wq12, p12, by simp [Rs.bind, hrun0, binM, tl, ← hmd, ← hk8, hm6, gk, hh, k1, k2, k5, t34, hm12], hN12, (hW12 _), rfl⟩, by simp [lsM], by exact hF⟩
   have O1 := S6
   refine rg hB TA_ok [0, 1, 4, 5, 6, 7, 8, 10] [0, 4, 8, 10] [(2, sc J E (.agg [.int .i64 0, .int .u64 0, .bool .ff, .int .i64 0, .sl none none 0 0 2 (fun _ => []), .int .i64 0, .int .u64 0, .int .u64 0]) N6 W6 p6.note)] hF fun X6 a0 w1 hF => ?_
   refine wp_seq (wp_seq (rg hB TA_ok [38, 0, 1, 4, 5, 6, 7, 8, 10] [0, 4, 8, 10] [] hF fun X7 a0 w1 hF => ?_))
   refine test_tt hF rfl (fun hF => ?_)
   refine wp_seq (rg hB TA_ok [4] [0, 4] [] hF fun X8 a0 w1 hF => ?_)
   exact wp_ret ((rst hB TA_ok hF (q := p6) (wq := wq6) (X6 2) (by simp [Rs.bind, hrun0, binM, tl, ← hmd, ← hk8, hm6]) hN6 (hW6 _)).1)
  have tl : ¬ lo0 ≤ hi0 := by subst hB; simpa [std, sC, BE.den] using hb
  refine wp_exit (wp_seq ?_)
  rcases (dlin_m 0 b J hJ E hE N0 p0 hR0 hp0 hn0 key hk rootL lok_z (m0 + 1) hf0).two (fro_lin _ _ _ _ _ _) hp0 hn0 hR0 with ⟨s22, p22, N22, hm22, hs22, hp22, hn22, hR22, hN22, S22⟩ | ⟨wq22, p22, N22, W22, hm22, hs22, hN22, hW22, S22⟩
  ·have O1 := S22
   refine rg hB TA_ok [4, 11] [0, 4, 11] [(3, lc J E (sptV s22) N22 p22)] hF fun X22 a0 w1 hF => ?_
   refine wp_seq (rg hB TA_ok [4] [0, 4] [] hF fun X23 a0 w1 hF => ?_)
   exact wp_ret ((rgo hB TA_ok hF (v := s22) (q := p22) (by simp [Rs.bind, hrun0, binM, tl, hm22]) hN22).1)
  have O1 := S22
  refine rg hB TA_ok [4, 11] [0, 4, 11] [(3, sc J E (zSptV) N22 W22 p22.note)] hF fun X22 a0 w1 hF => ?_
  refine wp_seq (rg hB TA_ok [4] [0, 4] [] hF fun X23 a0 w1 hF => ?_)
  exact wp_ret ((rst hB TA_ok hF (q := p22) (wq := wq22) (X22 3) (by simp [Rs.bind, hrun0, binM, tl, hm22]) hN22 (hW22 _)).1)
 ·exact (hJ : False).elim
 dsimp only [lsC, lsB] at hJ hF
 obtain ⟨X0, wq0, pp0, hsp0, hN0, hW0, ht0⟩ := hJ
 subst ht0
 refine wp_seq (wp_seq (rg hB TA_ok [21, 0, 1, 4, 5, 6] [0, 4] [] hF fun X3 a0 w1 hF => ?_))
 apply test_ok hF rfl <;> intro hb hF
 ·exfalso
  subst hB; revert hb; simp [std, BE.den]
 skip
 have O1 := dlin_d 0 b J E hE N0 Q0 pp0.note key rootL
 refine wp_exit (wp_seq (rg hB TA_ok [4, 11] [0, 4, 11] [(3, dc J E (zSptV) N0 Q0 pp0.note)] hF fun X22 a0 w1 hF => ?_))
 refine wp_seq (rg hB TA_ok [4] [0, 4] [] hF fun X23 a0 w1 hF => ?_)
 exact wp_ret ((rst hB TA_ok hF (q := pp0) (wq := wq0) X0 (hsp0) hN0 hW0).1)
theorem dbin_m (k0 b : Nat) (J : JobA) (hJ : JobOk J) (E : EnvA) (hE : E.n ≤ 1000000) (N : Nat) (p : Pst) (hR : Rel E N p) (hp : PstOk p) (hn : p.n ≤ 1000000) (key : Int) (hk : U64 key) (n : Nat) (hf : p.n < n) : DocS 80 k0 b J E N p [.int .u64 key] (sptV) (zSptV) (binM J.bucket (J.budget - E.n) key n 0 64 p) := DocS.re (dbin_m0 b J hJ E hE N p hR hp hn key hk n hf) (by repeat (first | exact trivial | refine ⟨zr, ?_⟩))
theorem dsk1_m0 (b : Nat) (J : JobA) (hJ : JobOk J) (E : EnvA) (hE : E.n ≤ 1000000) (N : Nat) (p : Pst) (hR : Rel E N p) (hp : PstOk p) (hn : p.n ≤ 1000000) (key : Int) (hk : U64 key) (n : Nat) (hf : p.n < n) (hh : J.how = 1) : DocS 35 0 b J E N p [.int .u64 key] (sptV) (zSptV) (linM J.bucket (J.budget - E.n) key n rootL p) := by
 intro m w hm hargs hpre
 have hN0 : N = E.n - p.n := by have := hR.n; omega
 refine enX 22 hm hpre hargs Tryz.func35 fun B hB a0 hF => ?_
 refine wp_seq (rg hB TA_ok [0, 1, 4] [0, 4] [] hF fun X0 a0 w1 hF => ?_)
 refine wp_seq (wp_seq (rg hB TA_ok [12, 0, 1, 4] [0, 4] [] hF fun X1 a0 w1 hF => ?_))
 apply test_ok hF rfl <;> intro hb hF
 ·skip
  apply wp_seq
  rcases (dlin_m 0 b J hJ E hE N p hR hp hn key hk rootL lok_z n hf).two (fro_lin _ _ _ _ _ _) hp hn hR with ⟨s2, p2, N2, hm2, hs2, hp2, hn2, hR2, hN2, S2⟩ | ⟨wq2, p2, N2, W2, hm2, hs2, hN2, hW2, S2⟩
  ·have O1 := S2
   refine rg hB TA_ok [4, 5] [0, 4, 5] [(3, lc J E (sptV s2) N2 p2)] hF fun X2 a0 w1 hF => ?_
   refine wp_seq (rg hB TA_ok [4] [0, 4] [] hF fun X3 a0 w1 hF => ?_)
   exact wp_ret ((rgo hB TA_ok hF (v := s2) (q := p2) (by simp [Rs.bind, hm2]) hN2).1)
  have O1 := S2
  refine rg hB TA_ok [4, 5] [0, 4, 5] [(3, sc J E (zSptV) N2 W2 p2.note)] hF fun X2 a0 w1 hF => ?_
  refine wp_seq (rg hB TA_ok [4] [0, 4] [] hF fun X3 a0 w1 hF => ?_)
  exact wp_ret ((rst hB TA_ok hF (q := p2) (wq := wq2) (X2 3) (by simp [Rs.bind, hm2]) hN2 (hW2 _)).1)
 exfalso
 have hc : ¬ J.how = 1 := by subst hB; simpa [std, sC] using hb
 exact hc hh
theorem dsk1_m (k0 b : Nat) (J : JobA) (hJ : JobOk J) (E : EnvA) (hE : E.n ≤ 1000000) (N : Nat) (p : Pst) (hR : Rel E N p) (hp : PstOk p) (hn : p.n ≤ 1000000) (key : Int) (hk : U64 key) (n : Nat) (hf : p.n < n) (hh : J.how = 1) : DocS 35 k0 b J E N p [.int .u64 key] (sptV) (zSptV) (linM J.bucket (J.budget - E.n) key n rootL p) := DocS.re (dsk1_m0 b J hJ E hE N p hR hp hn key hk n hf hh) (by repeat (first | exact trivial | refine ⟨zr, ?_⟩))
theorem dsk2_m0 (b : Nat) (J : JobA) (hJ : JobOk J) (E : EnvA) (hE : E.n ≤ 1000000) (N : Nat) (p : Pst) (hR : Rel E N p) (hp : PstOk p) (hn : p.n ≤ 1000000) (key : Int) (hk : U64 key) (n : Nat) (hf : p.n < n) (hh : ¬ J.how = 1) : DocS 35 0 b J E N p [.int .u64 key] (sptV) (zSptV) (binM J.bucket (J.budget - E.n) key n 0 64 p) := by
 intro m w hm hargs hpre
 have hN0 : N = E.n - p.n := by have := hR.n; omega
 refine enX 22 hm hpre hargs Tryz.func35 fun B hB a0 hF => ?_
 refine wp_seq (rg hB TA_ok [0, 1, 4] [0, 4] [] hF fun X0 a0 w1 hF => ?_)
 refine wp_seq (wp_seq (rg hB TA_ok [12, 0, 1, 4] [0, 4] [] hF fun X1 a0 w1 hF => ?_))
 apply test_ok hF rfl <;> intro hb hF
 ·exfalso
  have hc : J.how = 1 := by subst hB; simpa [std, sC] using hb
  exact hh hc
 skip
 refine wp_skip (wp_seq ?_)
 rcases (dbin_m 0 b J hJ E hE N p hR hp hn key hk n hf).two (fro_bin _ _ _ _ _ _ _) hp hn hR with ⟨s2, p2, N2, hm2, hs2, hp2, hn2, hR2, hN2, S2⟩ | ⟨wq2, p2, N2, W2, hm2, hs2, hN2, hW2, S2⟩
 ·have O1 := S2
  refine rg hB TA_ok [4, 6] [0, 4, 6] [(2, lc J E (sptV s2) N2 p2)] hF fun X4 a0 w1 hF => ?_
  refine wp_seq (rg hB TA_ok [4] [0, 4] [] hF fun X5 a0 w1 hF => ?_)
  exact wp_ret ((rgo hB TA_ok hF (v := s2) (q := p2) (by simp [Rs.bind, hm2]) hN2).1)
 have O1 := S2
 refine rg hB TA_ok [4, 6] [0, 4, 6] [(2, sc J E (zSptV) N2 W2 p2.note)] hF fun X4 a0 w1 hF => ?_
 refine wp_seq (rg hB TA_ok [4] [0, 4] [] hF fun X5 a0 w1 hF => ?_)
 exact wp_ret ((rst hB TA_ok hF (q := p2) (wq := wq2) (X4 2) (by simp [Rs.bind, hm2]) hN2 (hW2 _)).1)
theorem dsk2_m (k0 b : Nat) (J : JobA) (hJ : JobOk J) (E : EnvA) (hE : E.n ≤ 1000000) (N : Nat) (p : Pst) (hR : Rel E N p) (hp : PstOk p) (hn : p.n ≤ 1000000) (key : Int) (hk : U64 key) (n : Nat) (hf : p.n < n) (hh : ¬ J.how = 1) : DocS 35 k0 b J E N p [.int .u64 key] (sptV) (zSptV) (binM J.bucket (J.budget - E.n) key n 0 64 p) := DocS.re (dsk2_m0 b J hJ E hE N p hR hp hn key hk n hf hh) (by repeat (first | exact trivial | refine ⟨zr, ?_⟩))
theorem dsee_m (k0 b : Nat) (J : JobA) (hJ : JobOk J) (E : EnvA) (hE : E.n ≤ 1000000) (N : Nat) (p : Pst) (hR : Rel E N p) (hp : PstOk p) (hn : p.n ≤ 1000000) (key : Int) (hk : U64 key) (n : Nat) (hf : p.n < n) : DocS 35 k0 b J E N p [.int .u64 key] sptV zSptV (sekM J.bucket (J.budget - E.n) J.how key n p) := by
 unfold sekM
 by_cases hh : J.how = 1
 ·rw [if_pos hh]; exact dsk1_m k0 b J hJ E hE N p hR hp hn key hk n hf hh
 rw [if_neg hh]; exact dsk2_m k0 b J hJ E hE N p hR hp hn key hk n hf hh
theorem dnew_s (J : JobA) (E : EnvA) : SpecX Tryz.prog 34 [jobV J, gotsV E.A E.n E.c E.f] [] (fun x => ⟨.ptr 9 x.b 0, [], [(9, ⟨x.b, 118, drunL J E 0 nt0⟩)]⟩) := by
 intro m w hm hargs hpre
 refine enX 10 hm hpre hargs Tryz.func34 fun B hB a0 hF => ?_
 refine wp_seq (rg hB TA_ok [1, 2] [2] [] hF fun X0 a0 w1 hF => ?_)
 refine wp_seq (rg hB TA_ok [4] [9, 9] [] hF fun X1 a0 w1 hF => ?_)
 refine wp_ret ((rx hB TA_ok hF (⟨(X1 4).b, fun _ => none, fun _ => 0, fun _ => .empty⟩) [9] (he := ?_) (hn := ?_)).1)
 ·subst hB; exact Sim.ptr
 exact ⟨⟨_, rfl, by subst hB; exact ⟨zr, zr, zr, zr, zr, zr, zr, zr, zr, zr, zr, zr, zr, zr, zr, zr, zr, zr, zr, zr, zr, zr, zr, zr, zr, zr, zr, zr, zr, zr, zr, zr, zr, zr, Sim.ff, zr, zr, zr, zr, trivial⟩⟩, (by intro e he; cases he), (by simp), trivial⟩
theorem told_y0 (b : Nat) (J : JobA) (E : EnvA) (N : Nat) (Q : WntA) (t : Nt) (h : N < E.n) : SpecX Tryz.prog 38 [.ptr 0 b 0] [(0, ⟨b, 118, drunS J E N Q t⟩)] (fun _ => ⟨.tup [.agg [.int .i64 0, .int .i64 0, .int .u64 0, .int .u64 0, .int .i64 0, .sl none none 0 0 2 (fun _ => []), .int .i64 0, .int .u64 0, .int .u64 0, .int .i64 0, .bool .ff, .str ⟨#[]⟩, .sl none none 0 0 2 (fun _ => []), .int .u64 0, .bool .ff], .int .i64 5], [(0, drunS J E N Q t)], []⟩) := by
 intro m w hm hargs hpre
 refine enX 19 hm hpre hargs Tryz.func38 fun B hB a0 hF => ?_
 refine wp_seq (rg hB TA_ok [0, 2] [0, 2] [] hF fun X0 a0 w1 hF => ?_)
 refine wp_seq (wp_seq (drg hB TA_ok [13, 0, 2] [0, 2] [] hF fun X1 a0 w1 hF => ?_))
 apply test_ok hF rfl <;> intro hb hF
 ·skip
  refine wp_seq (rg hB TA_ok [2, 3] [0, 2] [] hF fun X2 a0 w1 hF => ?_)
  exact wp_ret ((rx hB TA_ok hF nAt []).1)
 exfalso
 have h9 : ¬ N < E.n := by
  have : ¬ (N : Int) < (E.n : Int) := by subst hB; simpa [std, sC] using hb
  omega
 exact h9 h
theorem told_y (k0 : Nat) (b : Nat) (J : JobA) (E : EnvA) (N : Nat) (Q : WntA) (t : Nt) (h : N < E.n) : SpecX Tryz.prog 38 [.ptr k0 b 0] [(k0, ⟨b, 118, drunS J E N Q t⟩)] (fun _ => ⟨.tup [.agg [.int .i64 0, .int .i64 0, .int .u64 0, .int .u64 0, .int .i64 0, .sl none none 0 0 2 (fun _ => []), .int .i64 0, .int .u64 0, .int .u64 0, .int .i64 0, .bool .ff, .str ⟨#[]⟩, .sl none none 0 0 2 (fun _ => []), .int .u64 0, .bool .ff], .int .i64 5], [(k0, drunS J E N Q t)], []⟩) :=
 (told_y0 b J E N Q t h).re (by repeat (first | exact trivial | refine ⟨Sim.ptr, ?_⟩ | refine ⟨Sim.fn ⟨Sim.ptr, trivial⟩ trivial, ?_⟩ | refine ⟨Sim.fn trivial ⟨Sim.ptr, trivial⟩, ?_⟩ | refine ⟨zr, ?_⟩)) rfl (fun x => ⟨rfl, rfl, zr, rfl⟩)
theorem told_n0 (b : Nat) (J : JobA) (E : EnvA) (N : Nat) (Q : WntA) (t : Nt) (h : ¬ N < E.n) : SpecX Tryz.prog 38 [.ptr 0 b 0] [(0, ⟨b, 118, drunS J E N Q t⟩)] (fun _ => ⟨.tup [wntV Q, .int .i64 0], [(0, drunS J E N Q t)], []⟩) := by
 intro m w hm hargs hpre
 refine enX 19 hm hpre hargs Tryz.func38 fun B hB a0 hF => ?_
 refine wp_seq (rg hB TA_ok [0, 2] [0, 2] [] hF fun X0 a0 w1 hF => ?_)
 refine wp_seq (wp_seq (drg hB TA_ok [13, 0, 2] [0, 2] [] hF fun X1 a0 w1 hF => ?_))
 apply test_ok hF rfl <;> intro hb hF
 ·exfalso
  have h9 : N < E.n := by
   have : (N : Int) < (E.n : Int) := by subst hB; simpa [std, sC] using hb
   omega
  exact h h9
 skip
 refine wp_skip (wp_seq (rg hB TA_ok [2, 3] [0, 2] [] hF fun X3 a0 w1 hF => ?_))
 exact wp_ret ((rx hB TA_ok hF nAt []).1)
theorem told_n (k0 : Nat) (b : Nat) (J : JobA) (E : EnvA) (N : Nat) (Q : WntA) (t : Nt) (h : ¬ N < E.n) : SpecX Tryz.prog 38 [.ptr k0 b 0] [(k0, ⟨b, 118, drunS J E N Q t⟩)] (fun _ => ⟨.tup [wntV Q, .int .i64 0], [(k0, drunS J E N Q t)], []⟩) :=
 (told_n0 b J E N Q t h).re (by repeat (first | exact trivial | refine ⟨Sim.ptr, ?_⟩ | refine ⟨Sim.fn ⟨Sim.ptr, trivial⟩ trivial, ?_⟩ | refine ⟨Sim.fn trivial ⟨Sim.ptr, trivial⟩, ?_⟩ | refine ⟨zr, ?_⟩)) rfl (fun x => ⟨rfl, rfl, zr, rfl⟩)
theorem rfindz_s (key : Int) : Spec Tryz.prog 36 [.agg [.int .i64 0, .sl none none 0 0 2 (fun _ => []), .int .i64 0, .int .u64 0, .int .u64 0], .int .u64 key] (fun _ => .tup [.str ⟨#[]⟩, .bool .ff]) :=
 have h : Spec Tryz.prog 36 [.agg [.int .i64 0, .sl none none 0 0 2 (fun _ => []), .int .i64 0, .int .u64 0, .int .u64 0], .int .u64 key] (fun _ => .tup [.str (finV zRA key), .bool (.v (finB zRA key))]) := (rfind_s zRA zra_ok key).sim ⟨Sim.agg ⟨zr, rowz_sim, zr, zr, zr, trivial⟩, zr, trivial⟩
 h.res fun _ => Sim.tup ⟨zr, Sim.bool rfl, trivial⟩
theorem dsnx_s (J : JobA) (hJ : JobIn J) (E : EnvA) (hEn : E.n ≤ 900000) (hin : ∀ j, j < E.n → InG (E.f j)) : Spec Tryz.prog 14 [jobV J, gotsV E.A E.n E.c E.f] (fun x => .tup [wntV (wqA x (seekN J E.n E.f).1), .int .i64 (seekN J E.n E.f).2]) := by
 intro m w hm hargs
 have S1 := drt_s J hJ.lab E.A E.n E.c E.f hin
 obtain ⟨rt, hrt⟩ := eqv ((allGot E.n E.f && isJobB J))
 rw [← hrt] at S1
 have SN := dnew_s J E
 refine en 50 hm hargs Tryz.func14 fun B hB a0 hF => ?_
 refine wp_seq (rg hB TA_ok [1, 2, 4] [6, 2, 4] [] hF fun X0 a0 w1 hF => ?_)
 have O1 := S1
 refine wp_seq (wp_seq (rg hB TA_ok [20, 1, 2, 4] [6, 2, 4] [(2, .r fun _ => .bool (.v rt))] hF fun X1 a0 w1 hF => ?_))
 apply test_ok hF rfl <;> intro hb hF
 ·have hf : (isJobB J && (decide (J.kind = 3)) && allGot E.n E.f) = false := by
   have h9 : (if (!rt) = true then true else (J.kind != 3)) = true := by subst hB; exact hb
   cases hr : rt
   ·rw [hr] at hrt; cases h1 : allGot E.n E.f <;> cases h2 : isJobB J <;> simp [h1, h2] at hrt ⊢
   rw [hr] at h9; by_cases k3 : J.kind = 3 <;> simp [k3] at h9 ⊢
  refine wp_seq (rg hB TA_ok [4, 5] [6, 4] [] hF fun X2 a0 w1 hF => ?_)
  refine wp_ret ((rsi hB TA_ok hF (⟨0, fun _ => none, fun _ => 0, fun _ => .empty⟩) (he := ?_)))
  subst hB
  have ht9 : seekN J E.n E.f = (zWq, 1) := by unfold seekN; rw [hf]; rfl
  rw [ht9]; exact Sim.tup ⟨Sim.agg ⟨zr, zr, zr, zr, zr, zq0, zr, zr, zr, zr, zr, zr, zq0, zr, zr, trivial⟩, zr, trivial⟩
 have hf : (isJobB J && (decide (J.kind = 3)) && allGot E.n E.f) = true := by
  have h9 : (if (!rt) = true then true else (J.kind != 3)) = false := by subst hB; exact hb
  cases hr : rt
  ·rw [hr] at h9; cases h9
  rw [hr] at h9 hrt; cases h1 : allGot E.n E.f <;> cases h2 : isJobB J <;> simp [h1, h2] at hrt ⊢
  by_cases k3 : J.kind = 3 <;> simp [k3] at h9 ⊢
 have hjb : isJobB J = true := by
  simp only [Bool.and_eq_true] at hf; exact hf.1.1
 have hag : allGot E.n E.f = true := by
  simp only [Bool.and_eq_true] at hf; exact hf.2
 have hkd : J.kind = 3 := by
  simp only [Bool.and_eq_true, Bool.or_eq_true, decide_eq_true_eq] at hf; exact hf.1.2
 have hJ1 : JobOk J := by
  have := job_ok (n := 0) hJ hjb (by omega)
  have e : J.less 0 = J := by unfold JobA.less; simp
  rwa [e] at this
 have hE : E.n ≤ 1000000 := by omega
 obtain ⟨p0, hp0e⟩ := eqv (pst0 E.n E.f)
 have hp0 : PstOk p0 := by rw [hp0e]; exact pst_ok hin hag
 have hn0 : p0.n ≤ 1000000 := by rw [hp0e]; show E.n ≤ _; omega
 have hR0 : Rel E 0 p0 := by rw [hp0e]; exact ⟨rfl, fun j => by show E.f j = E.f (0 + j); rw [Nat.zero_add]⟩
 have hnt0 : p0.note = nt0 := by rw [hp0e]; rfl
 have hN0 : 0 = E.n - p0.n := by rw [hp0e]; show 0 = E.n - E.n; omega
 have hpE : p0.n = E.n := by rw [hp0e]; rfl
 have htot : seekN J E.n E.f = toldM (lokM J.bucket (J.budget - E.n) J.how J.key (E.n + 1) p0) := by unfold seekN; rw [hf, ← hp0e]; rfl
 refine wp_skip (wp_seq ?_)
 refine rg hB TA_ok [6, 2, 4] [6, 2, 4] [(2, .x fun x => ⟨.ptr 6 x.b 0, [], [(6, ⟨x.b, 118, drunL J E 0 nt0⟩)]⟩)] hF (hob := by intro X; subst hB; simp only [AO, Ob.holds, BE.den] <;> and_intros <;> repeat first | trivial | rfl | exact SpecX.re SN (zl) rfl fun _ => ⟨rfl, rfl, Sim.ptr, rfl⟩ | exact (fun _ _ => by kernel_rfl) | refine ⟨?_, ?_⟩ | intro h | exact Int.le_refl _ | decide | omega) fun X3 a0 w1 hF => ?_
 replace hF := hF.memS (cells' := drunL J E 0 p0.note) (by rw [hnt0]; exact zl)
 apply wp_seq
 rcases (dsee_m 6 (X3 2).b J hJ1 E hE 0 p0 hR0 hp0 hn0 J.key hJ.key (E.n + 1) (by omega)).two (fro_sek _ _ _ _ _ _) hp0 hn0 hR0 with ⟨s4, p4, N4, hm4, hs4, hp4, hn4, hR4, hN4, S4⟩ | ⟨wq4, p4, N4, W4, hm4, hs4, hN4, hW4, S4⟩
 ·have hs := sek_ok hJ.key hp0 hm4
  have SF := rfind_s s4.g.x hs.ok.ra J.key
  obtain ⟨fv, hfv⟩ := eqv (finV s4.g.x J.key)
  rw [← hfv] at SF
  obtain ⟨fb, hfb⟩ := eqv (finB s4.g.x J.key)
  rw [← hfb] at SF
  have O1 := S4
  refine rg hB TA_ok [2, 4, 6, 7] [6, 2, 4, 7] [(3, .x fun _ => ⟨sptV s4, [(6, drunL J E N4 p4.note)], []⟩)] hF fun X4 a0 w1 hF => ?_
  have O1 := SF
  refine wp_seq (rg hB TA_ok [4, 6, 8, 9] [6, 4] [(5, .r fun _ => .tup [.str fv, .bool (.v fb)])] hF fun X5 a0 w1 hF => ?_)
  apply wp_seq
  refine rg hB TA_ok [4, 6] [6, 4] [(4, .x fun _ => ⟨unitV, [(6, drunS J E N4 ⟨4, ⟨0, 0⟩, 0, zRA, ⟨0, fb, fv, none, 0, 0, fun _ => zeroItm, 0, false⟩⟩ p4.note)], []⟩)] hF (hob := by intro X; subst hB; simp only [AO, Ob.holds, BE.den] <;> and_intros <;> repeat first | trivial | rfl | exact SpecX.re (over_m 6 (X3 2).b J E hE N4 ⟨0, ⟨0, 0⟩, 0, zRA, zRes⟩ p4.note ⟨0, fb, fv, none, 0, 0, fun _ => zeroItm, 0, false⟩) ⟨zr, Sim.agg ⟨zr, zr, zr, zq0, zr, Sim.ff, trivial⟩, trivial⟩ rfl fun _ => ⟨rfl, rfl, zr, rfl⟩ | exact (fun _ _ => by kernel_rfl) | refine ⟨?_, ?_⟩ | intro h | exact Int.le_refl _ | decide | omega) fun X6 a0 w1 hF => ?_
  apply wp_seq
  rcases Bool.eq_false_or_eq_true (decide (N4 < E.n)) with hlt | hlt
  ·refine rg hB TA_ok [4, 10, 11] [6, 4, 10] [(1, .x fun _ => ⟨.tup [.agg [.int .i64 0, .int .i64 0, .int .u64 0, .int .u64 0, .int .i64 0, .sl none none 0 0 2 (fun _ => []), .int .i64 0, .int .u64 0, .int .u64 0, .int .i64 0, .bool .ff, .str ⟨#[]⟩, .sl none none 0 0 2 (fun _ => []), .int .u64 0, .bool .ff], .int .i64 5], [(6, drunS J E N4 ⟨4, ⟨0, 0⟩, 0, zRA, ⟨0, fb, fv, none, 0, 0, fun _ => zeroItm, 0, false⟩⟩ p4.note)], []⟩)] hF (hob := by intro X; subst hB; simp only [AO, Ob.holds, BE.den] <;> and_intros <;> repeat first | trivial | rfl | exact told_y 6 (X3 2).b J E N4 ⟨4, ⟨0, 0⟩, 0, zRA, ⟨0, fb, fv, none, 0, 0, fun _ => zeroItm, 0, false⟩⟩ p4.note (of_decide_eq_true hlt) | exact (fun _ _ => by kernel_rfl) | refine ⟨?_, ?_⟩ | intro h | exact Int.le_refl _ | decide | omega) fun X7 a0 w1 hF => ?_
   have hr9 : lokM J.bucket (J.budget - E.n) J.how J.key (E.n + 1) p0 = .ok ⟨0, fb, fv, [], 0, false⟩ p4 := by simp [lokM, Rs.bind, hm4, ← hfv, ← hfb, hlt]
   have ht9 : seekN J E.n E.f = (zWq, 5) := by
    have h9 := of_decide_eq_true hlt
    rw [htot, hr9]; unfold toldM; simp only; rw [if_pos (by have := hN4; skip; have := hs4.le; omega)]
   refine wp_seq (rg hB TA_ok [4, 5] [6, 4] [] hF fun X8 a0 w1 hF => ?_)
   refine wp_ret ((rsi hB TA_ok hF (⟨0, fun _ => none, fun _ => 0, fun _ => .empty⟩) (he := ?_)))
   subst hB
   rw [ht9]; exact Sim.tup ⟨Sim.agg ⟨zr, zr, zr, zr, zr, zq0, zr, zr, zr, zr, zr, zr, zq0, zr, zr, trivial⟩, zr, trivial⟩
  refine rg hB TA_ok [4, 10, 11] [6, 4, 10] [(1, .x fun _ => ⟨.tup [wntV ⟨4, ⟨0, 0⟩, 0, zRA, ⟨0, fb, fv, none, 0, 0, fun _ => zeroItm, 0, false⟩⟩, .int .i64 0], [(6, drunS J E N4 ⟨4, ⟨0, 0⟩, 0, zRA, ⟨0, fb, fv, none, 0, 0, fun _ => zeroItm, 0, false⟩⟩ p4.note)], []⟩)] hF (hob := by intro X; subst hB; simp only [AO, Ob.holds, BE.den] <;> and_intros <;> repeat first | trivial | rfl | exact told_n 6 (X3 2).b J E N4 ⟨4, ⟨0, 0⟩, 0, zRA, ⟨0, fb, fv, none, 0, 0, fun _ => zeroItm, 0, false⟩⟩ p4.note (of_decide_eq_false hlt) | exact (fun _ _ => by kernel_rfl) | refine ⟨?_, ?_⟩ | intro h | exact Int.le_refl _ | decide | omega) fun X7 a0 w1 hF => ?_
  have hr9 : lokM J.bucket (J.budget - E.n) J.how J.key (E.n + 1) p0 = .ok ⟨0, fb, fv, [], 0, false⟩ p4 := by simp [lokM, Rs.bind, hm4, ← hfv, ← hfb, hlt]
  have ht9 : seekN J E.n E.f = (⟨4, ⟨0, 0⟩, 0, zeroRec, ⟨0, fb, fv, [], 0, false⟩⟩, 0) := by
   have h9 := of_decide_eq_false hlt
   rw [htot, hr9]; unfold toldM; simp only; rw [if_neg (by have := hN4; skip; have := hs4.le; omega)]
  refine wp_seq (rg hB TA_ok [4, 5] [6, 4] [] hF fun X8 a0 w1 hF => ?_)
  refine wp_ret ((rsi hB TA_ok hF (⟨0, fun _ => none, fun _ => 0, fun _ => .empty⟩) (he := ?_)))
  subst hB
  rw [ht9]; exact Sim.tup ⟨Sim.agg ⟨zr, zr, zr, zr, zr, zq0, zr, zr, zr, zr, zr, zr, zq0, zr, zr, trivial⟩, zr, trivial⟩
 have O1 := S4
 refine rg hB TA_ok [2, 4, 6, 7] [6, 2, 4, 7] [(3, .x fun x => ⟨zSptV, [(6, drunS J E N4 (W4 x) p4.note)], []⟩)] hF fun X4 a0 w1 hF => ?_
 have O1 := rfindz_s J.key
 refine wp_seq (rg hB TA_ok [4, 6, 8, 9] [6, 4] [(5, .r fun _ => .tup [.str ⟨#[]⟩, .bool .ff])] hF fun X5 a0 w1 hF => ?_)
 apply wp_seq
 refine rg hB TA_ok [4, 6] [6, 4] [(4, .x fun _ => ⟨unitV, [(6, drunS J E N4 (W4 (X4 3)) p4.note)], []⟩)] hF (hob := by intro X; subst hB; simp only [AO, Ob.holds, BE.den] <;> and_intros <;> repeat first | trivial | rfl | exact DeadS.re (over_d0 (X3 2).b J E hE N4 (W4 (X4 3)) p4.note zRes) ⟨Sim.agg ⟨zr, Sim.ff, zr, zq0, zr, Sim.ff, trivial⟩, trivial⟩ | exact (fun _ _ => by kernel_rfl) | refine ⟨?_, ?_⟩ | intro h | exact Int.le_refl _ | decide | omega) fun X6 a0 w1 hF => ?_
 apply wp_seq
 rcases Bool.eq_false_or_eq_true (decide (N4 < E.n)) with hlt | hlt
 ·have O1 := told_y 6 (X3 2).b J E N4 (W4 (X4 3)) p4.note (of_decide_eq_true hlt)
  refine rg hB TA_ok [4, 10, 11] [6, 4, 10] [(1, .x fun _ => ⟨.tup [.agg [.int .i64 0, .int .i64 0, .int .u64 0, .int .u64 0, .int .i64 0, .sl none none 0 0 2 (fun _ => []), .int .i64 0, .int .u64 0, .int .u64 0, .int .i64 0, .bool .ff, .str ⟨#[]⟩, .sl none none 0 0 2 (fun _ => []), .int .u64 0, .bool .ff], .int .i64 5], [(6, drunS J E N4 (W4 (X4 3)) p4.note)], []⟩)] hF fun X7 a0 w1 hF => ?_
  have hr9 : lokM J.bucket (J.budget - E.n) J.how J.key (E.n + 1) p0 = .stop wq4 p4 := by simp [lokM, Rs.bind, hm4, hlt]
  have ht9 : seekN J E.n E.f = (zWq, 5) := by
   have h9 := of_decide_eq_true hlt
   rw [htot, hr9]; unfold toldM; simp only; rw [if_pos (by have := hN4; skip; have := hs4.le; omega)]
  refine wp_seq (rg hB TA_ok [4, 5] [6, 4] [] hF fun X8 a0 w1 hF => ?_)
  refine wp_ret ((rsi hB TA_ok hF (⟨0, fun _ => none, fun _ => 0, fun _ => .empty⟩) (he := ?_)))
  subst hB
  rw [ht9]; exact Sim.tup ⟨Sim.agg ⟨zr, zr, zr, zr, zr, zq0, zr, zr, zr, zr, zr, zr, zq0, zr, zr, trivial⟩, zr, trivial⟩
 have O1 := told_n 6 (X3 2).b J E N4 (W4 (X4 3)) p4.note (of_decide_eq_false hlt)
 refine rg hB TA_ok [4, 10, 11] [6, 4, 10] [(1, .x fun _ => ⟨.tup [wntV (W4 (X4 3)), .int .i64 0], [(6, drunS J E N4 (W4 (X4 3)) p4.note)], []⟩)] hF fun X7 a0 w1 hF => ?_
 have hr9 : lokM J.bucket (J.budget - E.n) J.how J.key (E.n + 1) p0 = .stop wq4 p4 := by simp [lokM, Rs.bind, hm4, hlt]
 have ht9 : seekN J E.n E.f = (wq4, 0) := by
  have h9 := of_decide_eq_false hlt
  rw [htot, hr9]; unfold toldM; simp only; rw [if_neg (by have := hN4; skip; have := hs4.le; omega)]
 refine wp_seq (rg hB TA_ok [4, 5] [6, 4] [] hF fun X8 a0 w1 hF => ?_)
 refine wp_ret ((rsi hB TA_ok hF ((X4 3)) (he := ?_)))
 subst hB
 rw [ht9, ← (hW4 _)]; exact zr
theorem bigs_ff {n : Nat} {f : Nat → RowA} (h : (if n ≤ 300 then bigS n f else true) = false) : n ≤ 300 ∧ ∀ i, i < n → (f i).x.r.n ≤ 40 := by
 by_cases hn : n ≤ 300
 ·rw [if_pos hn] at h
  refine ⟨hn, fun i hi => ?_⟩
  unfold bigS at h
  simp only [Bool.or_eq_false_iff] at h
  exact bigF_len (anyB_false h.1.2 i hi)
 rw [if_neg hn] at h; cases h
theorem new_wf {n : Nat} {f : Nat → RowA} (hb : n ≤ 300 ∧ ∀ i, i < n → (f i).x.r.n ≤ 40) (hwf : ∀ i, i < n → LabOk (f i).lab ∧ U64 (f i).x.r.nx.bits) (hu : ∀ l, LabOk l → U64 l.bits) : ∀ i, i < n → (f i).x.r.n ≤ 1000000 ∧ LabOk (f i).lab ∧ U64 (f i).lab.bits ∧ U64 (f i).x.r.nx.bits := fun i hi => ⟨by have := hb.2 i hi; omega, (hwf i hi).1, hu _ (hwf i hi).1, (hwf i hi).2⟩
theorem lab_u64 (l : Lab) (h : LabOk l) : U64 l.bits := by
 have := h.2
 simp [Lit.wf, IntKind.min, IntKind.max, IntKind.signed, IntKind.bits] at this
 exact ⟨by omega, by omega⟩
theorem rws_good {n : Nat} {f : Nat → RowA} (hr : ∀ i, i < n → LabOk (f i).lab ∧ U64 (f i).ver ∧ U64 (f i).x.r.nx.bits ∧ ∀ t, t < (f i).x.r.n → U64 ((f i).x.r.f t).key) : ∀ r ∈ rwsA f n, RwG r := by
 intro r hr'
 obtain ⟨i, hi, rfl⟩ := List.mem_map.1 hr'
 obtain ⟨h1, h2, h3, h4⟩ := hr i (List.mem_range.1 hi)
 refine ⟨h1, h2, h3, fun x hx => ?_⟩
 obtain ⟨t, ht, rfl⟩ := List.mem_map.1 hx
 exact h4 t (List.mem_range.1 ht)
theorem lawSeekSteps_no (A : Option Addr) (n c : Nat) (f : Nat → RowA) (hn : n ≤ maxLen) (hrw : ∀ i, i < n → LabOk (f i).lab ∧ U64 (f i).ver ∧ U64 (f i).x.r.nx.bits ∧ ∀ t, t < (f i).x.r.n → U64 ((f i).x.r.f t).key) (J : JobA) (hJ : JobIn J) (A2 : Option Addr) (n2 c2 : Nat) (f2 : Nat → WntA) (hn2 : n2 ≤ maxLen) (hw2 : ∀ i, i < n2 → (f2 i).x.r.n ≤ maxLen ∧ LabOk (f2 i).lab ∧ U64 (f2 i).x.r.nx.bits ∧ ∀ t, t < (f2 i).x.r.n → U64 ((f2 i).x.r.f t).key) (hnew : newS (rwsA f n) = none) : Spec Tryz.prog 4 [rowsV A n c f, jobV J, .sl none A2 n2 c2 15 (fun i => wntC (f2 i))] (fun _ => .bool .tt) := by
 intro m w hm hargs
 have hmx : maxLen = 9223372036854775807 := rfl
 have hwf : ∀ i, i < n → LabOk (f i).lab ∧ U64 (f i).x.r.nx.bits := fun i hi => ⟨(hrw i hi).1, (hrw i hi).2.2.1⟩
 have S1 := bigs_s A n c f hn
 obtain ⟨bl, hbl⟩ := eqv (if n ≤ 300 then bigS n f else true)
 rw [← hbl] at S1
 refine en 97 hm hargs Tryz.func4 fun B hB a0 hF => ?_
 refine wp_seq (rg hB TA_ok [0, 2, 4] [4] [] hF fun X0 a0 w1 hF => ?_)
 have O1 := S1
 refine wp_seq (wp_seq (rg hB TA_ok [29, 0, 2, 4] [4] [(1, .r fun _ => .bool (.v bl))] hF fun X1 a0 w1 hF => ?_))
 apply test_ok hF rfl <;> intro hb hF
 ·refine wp_seq (rg hB TA_ok [6] [] [] hF fun X2 a0 w1 hF => ?_)
  refine wp_ret ((rsi hB TA_ok hF nAt (he := ?_)))
  subst hB
  exact Sim.bool rfl
 have hb0 : bl = false := by
  have h9 : (if (if bl = true then true else decide ((20 : Int) < (n2 : Int))) = true then true else decide ((600 : Int) < (J.pn : Int))) = false := by subst hB; exact hb
  revert h9; cases bl <;> simp
 have hb1 := bigs_ff (hbl ▸ hb0)
 have hN := new_wf hb1 hwf lab_u64
 refine wp_skip (wp_seq (wp_region_lit (lpr 0 1 hB TA_ok [31, 4] [4] [] hF fun X3_0 a0 w1 hF => ?_)))
 have SN := new_no A n c f hn hN hnew
 refine man_callM rfl rfl rfl rfl hF rfl rfl enters18 SN (fun _ _ _ => trivial) (fun b hb => by cases hb) (zl) (by intro e he; cases he) rfl rfl (fun y => noK) (fun _ _ _ _ _ _ _ _ _ _ => trivial) ?_
 intro y a0 w1 hF
 refine lnd 2 hB TA_ok [2, 4, 7, 8] [4] [] hF fun X3 a0 w1 hF => ?_
 refine wp_seq (wp_seq (rg hB TA_ok [36, 2, 4, 7, 8] [4] [] hF fun X4 a0 w1 hF => ?_))
 refine test_tt hF rfl (fun hF => ?_)
 have O1 := sought_s
 refine wp_seq (rg hB TA_ok [6] [] [(0, .r fun _ => .bool .tt)] hF fun X5 a0 w1 hF => ?_)
 refine wp_ret ((rsi hB TA_ok hF nAt (he := ?_)))
 subst hB
 refine Sim.bool ?_
 simp [std, sC, BE.den, canB]
theorem lawSeekSteps_yes (A : Option Addr) (n c : Nat) (f : Nat → RowA) (hn : n ≤ maxLen) (hrw : ∀ i, i < n → LabOk (f i).lab ∧ U64 (f i).ver ∧ U64 (f i).x.r.nx.bits ∧ ∀ t, t < (f i).x.r.n → U64 ((f i).x.r.f t).key) (J : JobA) (hJ : JobIn J) (A2 : Option Addr) (n2 c2 : Nat) (f2 : Nat → WntA) (hn2 : n2 ≤ maxLen) (hw2 : ∀ i, i < n2 → (f2 i).x.r.n ≤ maxLen ∧ LabOk (f2 i).lab ∧ U64 (f2 i).x.r.nx.bits ∧ ∀ t, t < (f2 i).x.r.n → U64 ((f2 i).x.r.f t).key) {L : Shf} (hnew : newS (rwsA f n) = some L) : Spec Tryz.prog 4 [rowsV A n c f, jobV J, .sl none A2 n2 c2 15 (fun i => wntC (f2 i))] (fun _ => .bool .tt) := by
 intro m w hm hargs
 have hmx : maxLen = 9223372036854775807 := rfl
 have hwf : ∀ i, i < n → LabOk (f i).lab ∧ U64 (f i).x.r.nx.bits := fun i hi => ⟨(hrw i hi).1, (hrw i hi).2.2.1⟩
 have S1 := bigs_s A n c f hn
 obtain ⟨bl, hbl⟩ := eqv (if n ≤ 300 then bigS n f else true)
 rw [← hbl] at S1
 refine en 97 hm hargs Tryz.func4 fun B hB a0 hF => ?_
 refine wp_seq (rg hB TA_ok [0, 2, 4] [4] [] hF fun X0 a0 w1 hF => ?_)
 have O1 := S1
 refine wp_seq (wp_seq (rg hB TA_ok [29, 0, 2, 4] [4] [(1, .r fun _ => .bool (.v bl))] hF fun X1 a0 w1 hF => ?_))
 apply test_ok hF rfl <;> intro hb hF
 ·refine wp_seq (rg hB TA_ok [6] [] [] hF fun X2 a0 w1 hF => ?_)
  refine wp_ret ((rsi hB TA_ok hF nAt (he := ?_)))
  subst hB
  exact Sim.bool rfl
 have hb0 : bl = false := by
  have h9 : (if (if bl = true then true else decide ((20 : Int) < (n2 : Int))) = true then true else decide ((600 : Int) < (J.pn : Int))) = false := by subst hB; exact hb
  revert h9; cases bl <;> simp
 have hb1 := bigs_ff (hbl ▸ hb0)
 have hN := new_wf hb1 hwf lab_u64
 refine wp_skip (wp_seq (wp_region_lit (lpr 0 1 hB TA_ok [31, 4, 2] [4] [] hF fun X3_0 a0 w1 hF => ?_)))
 have SN := new_yes A n c f hn hN 14 hnew
 have hg0 : ShfG L := newS_good (rws_good hrw) hnew
 refine man_callM rfl rfl rfl rfl hF rfl rfl enters18 (SN) (fun _ _ _ => trivial) (fun b hb => by cases hb) (zl) (by intro e he; cases he) rfl rfl (fun y => shF w.heap.size (y.c 0) L) (fun n x m w m' w' hn _ _ h => ⟨Nat.le_trans hn h.1, h.2⟩) ?_
 intro y a0 w1 hF
 obtain ⟨sb, hsb⟩ := eqv (y.b)
 obtain ⟨bM, hbM⟩ := eqv (y.c 0)
 rw [← hsb, ← hbM] at hF
 have hbfr : w.heap.size ≤ bM := hF.kept.1
 replace hF := hF.withK (K' := shK bM L) hF.kept.2
 refine lnd 2 hB TA_ok [2, 4, 7, 8] [14, 4] [] hF fun X3 a0 w1 hF => ?_
 refine wp_seq (wp_seq (rg hB TA_ok [36, 2, 4, 7, 8] [14, 4] [] hF fun X4 a0 w1 hF => ?_))
 refine test_ff hF rfl (fun hF => ?_)
 refine wp_skip (wp_seq (rg hB TA_ok [2, 4, 7, 9] [14, 4, 9] [] hF fun X6 a0 w1 hF => ?_))
 refine wp_seq (wp_seq (rg hB TA_ok [9, 10, 2, 4, 7] [14, 4, 9] [] hF fun X7 a0 w1 hF => ?_))
 replace hF := hF.headS (v' := .sl (some 9) none 0 0 8 (fun t => gotC zGot)) (zq0) rfl
 refine wp_block (loop_preK (ι := Nat × (Nat → GotA) × Option Addr × Nat × Shf × Int) (fun p => shK bM p.2.2.2.2.1) (fun p => [(9, .sl (some 9) p.2.2.1 p.1 p.2.2.2.1 8 (fun t => gotC (p.2.1 t))), (10, .int .i64 (p.1 : Int))]) (fun p => [(14, ⟨sb, 82, [.raw (.map (some bM)), .int .i64 p.2.2.2.2.2]⟩)]) (fun p => [(9, ⟨p.2.2.1, p.1, p.2.2.2.1, 8, 53⟩)]) (fun p => p.1 ≤ 50 ∧ ShfG p.2.2.2.2.1 ∧ ∀ j, j < p.1 → InG (p.2.1 j)) (fun p => 50 - p.1) (0, fun _ => zGot, none, 0, L, 0) ⟨Nat.zero_le _, hg0, fun j hj => absurd hj (Nat.not_lt_zero _)⟩ hF ?_)
 rintro ⟨i, fz, A1, c1, Lc, kc⟩ ⟨hi, hg, hal⟩ a0 w1 hF
 try dsimp only at hi
 try dsimp only at hg
 try dsimp only at hal
 replace hF := hF.withK (K' := shK bM Lc) hF.kept
 have hwo := (seek_ok hJ).ok i fz hal
 obtain ⟨W9, hW9⟩ := eqv ((seekN J i fz).1)
 obtain ⟨E9, hE9⟩ := eqv ((seekN J i fz).2)
 obtain ⟨rr9, hrr9⟩ := eqv (W9.r.rn)
 obtain ⟨nn9, hnn9⟩ := eqv (W9.res.items.length)
 obtain ⟨ff9, hff9⟩ := eqv (itF W9.res.items)
 have T9 := Spec.wq (snext_s J hJ A1 i c1 fz (by omega) hal) hW9 hE9 hrr9 hnn9 hff9
 rw [← hW9] at hwo
 have U10 : Spec Tryz.prog 14 [jobV J, .sl none A1 i c1 8 (fun t => gotC (fz t))] (fun x => .tup [wntV (wqB x W9 rr9 nn9 ff9), .int .i64 E9]) := Spec.wq (dsnx_s J hJ ⟨A1, i, c1, fz⟩ (by show i ≤ _; omega) hal) hW9 hE9 hrr9 hnn9 hff9
 have SS9 : Spec Tryz.prog 13 [jobV J, .sl (some 9) A1 i c1 8 (fun t => gotC (fz t))] (fun x => .tup [wntV (wqB x W9 rr9 nn9 ff9), .int .i64 E9]) := T9.sim ⟨zr, Sim.recell (fun _ _ => rfl), trivial⟩
 have SS10 : Spec Tryz.prog 14 [jobV J, .sl (some 9) A1 i c1 8 (fun t => gotC (fz t))] (fun x => .tup [wntV (wqB x W9 rr9 nn9 ff9), .int .i64 E9]) := U10.sim ⟨zr, Sim.recell (fun _ _ => rfl), trivial⟩
 refine wp_seq (wp_seq (rg hB TA_ok [43, 2, 4, 7, 9, 10] [14, 4, 9] [] hF fun X8 a0 w1 hF => ?_))
 apply test_ok hF rfl <;> intro hb hF
 ·have h60 : i < 50 := by
   have : (i : Int) < 50 := by subst hB; simpa [std, sC] using hb
   omega
  have O1 := SS9
  refine wp_skip (wp_seq (wp_block (wp_seq (rg hB TA_ok [2, 4, 7, 9, 10, 11, 12] [14, 4, 9, 11] [(2, .r fun x => .tup [.agg [.int .i64 W9.kind, .int .i64 W9.lab.len, .int .u64 W9.lab.bits, .int .u64 W9.ver, .int .i64 rr9.kd, .sl none (x.A 1) rr9.n (x.c 1) 2 (fun i => itC (rr9.f i)), .int .i64 rr9.nx.len, .int .u64 rr9.nx.bits, .int .u64 rr9.mrk, .int .i64 W9.res.code, .bool (.v W9.res.had), .str W9.res.val, .sl none (x.A 2) nn9 (x.c 2) 2 (fun i => itC (ff9 i)), .int .u64 W9.res.key, .bool (.v W9.res.more)], .int .i64 E9])] hF fun X10 a0 w1 hF => ?_))))
  have O1 := SS10
  refine wp_seq (rg hB TA_ok [2, 4, 7, 9, 10, 11, 12, 13, 14] [14, 4, 9, 11, 13] [(2, .r fun x => .tup [.agg [.int .i64 W9.kind, .int .i64 W9.lab.len, .int .u64 W9.lab.bits, .int .u64 W9.ver, .int .i64 rr9.kd, .sl none (x.A 1) rr9.n (x.c 1) 2 (fun i => itC (rr9.f i)), .int .i64 rr9.nx.len, .int .u64 rr9.nx.bits, .int .u64 rr9.mrk, .int .i64 W9.res.code, .bool (.v W9.res.had), .str W9.res.val, .sl none (x.A 2) nn9 (x.c 2) 2 (fun i => itC (ff9 i)), .int .u64 W9.res.key, .bool (.v W9.res.more)], .int .i64 E9])] hF fun X11 a0 w1 hF => ?_)
  have O1 := sameq_y (X10 2) (X11 2) W9 rr9 nn9 ff9
  refine wp_seq (wp_seq (rg hB TA_ok [66, 2, 4, 7, 9, 10, 11, 12] [14, 4, 9, 11] [(2, .r fun _ => .bool .tt)] hF fun X12 a0 w1 hF => ?_))
  apply test_ok hF rfl <;> intro hb hF
  ·exfalso
   subst hB; simp [std, sC, BE.den] at hb
  skip
  refine wp_skip (wp_seq (wp_seq (rg hB TA_ok [73, 2, 4, 7, 9, 10, 11] [14, 4, 9, 11] [] hF fun X14 a0 w1 hF => ?_)))
  apply test_ok hF rfl <;> intro hb hF
  ·skip
   have O1 := sought_s
   refine wp_exit (wp_seq (rg hB TA_ok [6] [] [(0, .r fun _ => .bool .tt)] hF fun X20 a0 w1 hF => ?_))
   refine wp_ret ((rsi hB TA_ok hF nAt (he := ?_)))
   subst hB
   refine Sim.bool ?_
   simp [std, sC, BE.den, canB]
  skip
  refine wp_skip (wp_seq (wp_seq (rg hB TA_ok [77, 2, 4, 7, 9, 10, 11] [14, 4, 9, 11] [] hF fun X15 a0 w1 hF => ?_)))
  apply test_ok hF rfl <;> intro hb hF
  ·have hin : i < n2 := by
    have : (i : Int) < (n2 : Int) := by subst hB; simpa [std, sC] using hb
    omega
   refine wp_region_lit ?_
   refine lpr 0 5 hB TA_ok [78, 82, 9, 10, 2, 4, 7, 11] [14, 4, 9, 11] [] hF (hob := by intro X; subst hB; simp only [AO, Ob.holds, BE.den] <;> and_intros <;> repeat first | trivial | rfl | exact (show (0 : Int) ≤ (i : Int) by omega) | exact (show (i : Int) < (n2 : Int) by omega) | exact (fun _ _ => by kernel_rfl) | refine ⟨?_, ?_⟩ | intro h | exact Int.le_refl _ | decide | omega) fun X16_0 a0 w1 hF => ?_
   have hqe : (f2 (B.toNat (i : Int))) = f2 i := by subst hB; rw [show std.toNat (i : Int) = i from Int.toNat_natCast i]
   obtain ⟨hq1, hq2, hq3, hq4⟩ := hw2 i hin
   have hq5 := lab_u64 _ hq2
   rw [← hqe] at hq1 hq2 hq3 hq4 hq5
   have SD := do_m 14 sb bM Lc (by have := hg.ok.len; omega) kc (f2 (B.toNat (i : Int))) hq1 hq2 hq5 hq3
   obtain ⟨D1, hD1⟩ := eqv (doL Lc (WntA.abs (f2 (B.toNat (i : Int)))))
   rw [← hD1] at SD
   obtain ⟨GG1, hGG1⟩ : ∃ G : Atom → GotA, G = fun y => gotA y D1.got := ⟨_, rfl⟩
   have hGf1 : ∀ y, gotA y D1.got = GG1 y := fun y => by rw [hGG1]
   simp only [hGf1] at SD
   obtain ⟨k1, hk1⟩ := eqv ((if D1.wrote then IntKind.i64.wrap (kc + 1) else kc))
   rw [← hk1] at SD
   obtain ⟨er1, her1⟩ := eqv (D1.err)
   rw [← her1] at SD
   obtain ⟨L1, hL1⟩ := eqv (D1.L)
   rw [← hL1] at SD
   refine man_callM rfl rfl rfl rfl hF rfl rfl enters19 SD (fun _ _ h => h) (fun b hb => by cases hb; exact fun h => absurd h (Nat.not_lt.2 hbfr)) ⟨zr, Sim.agg (by repeat (first | exact trivial | refine ⟨zr, ?_⟩ | refine ⟨Sim.ff, ?_⟩ | refine ⟨zq0, ?_⟩)), trivial⟩ (by intro e he; simp only [List.mem_singleton] at he; subst he; rfl) rfl rfl (fun _ => shK bM L1) (fun _ _ _ _ _ _ _ _ _ h => h) ?_
   intro y a0 w1 hF
   obtain ⟨g1, hg1⟩ := eqv (GG1 y)
   rw [← hg1] at hF
   replace hF := hF.withK (K' := shK bM L1) hF.kept
   have hga1 : g1.abs = D1.got := by rw [hg1, ← hGf1, gotA_abs]
   have hg1 : ShfG L1 := by
    rw [hL1, hD1]
    refine (doL_good hg ⟨hq2, hq3, fun x hx => ?_⟩).1
    obtain ⟨t, ht, rfl⟩ := List.mem_map.1 hx
    exact hq4 t (List.mem_range.1 ht)
   refine wpList_nil (wp_seq (wp_region_lit (lpr 0 2 hB TA_ok [85, 86, 9, 10, 2, 4, 7] [14, 4, 9] [] hF fun X17_0 a0 w1 hF => ?_)))
   have SD := do_m 14 sb bM L1 (by have := hg1.ok.len; omega) k1 (wqB (X10 2) W9 rr9 nn9 ff9) (by show rr9.n ≤ _; rw [hrr9]; have := hwo.r.few; show W9.r.items.length ≤ _; omega) hwo.lab.wf hwo.lab.u (by show U64 rr9.nx.bits; rw [hrr9]; exact hwo.r.nx)
   obtain ⟨D2, hD2⟩ := eqv (doL L1 (WntA.abs (wqB (X10 2) W9 rr9 nn9 ff9)))
   rw [← hD2] at SD
   obtain ⟨GG2, hGG2⟩ : ∃ G : Atom → GotA, G = fun y => gotA y D2.got := ⟨_, rfl⟩
   have hGf2 : ∀ y, gotA y D2.got = GG2 y := fun y => by rw [hGG2]
   simp only [hGf2] at SD
   obtain ⟨k2, hk2⟩ := eqv ((if D2.wrote then IntKind.i64.wrap (k1 + 1) else k1))
   rw [← hk2] at SD
   obtain ⟨er2, her2⟩ := eqv (D2.err)
   rw [← her2] at SD
   obtain ⟨L2, hL2⟩ := eqv (D2.L)
   rw [← hL2] at SD
   refine man_callM rfl rfl rfl rfl hF rfl rfl enters19 SD (fun _ _ h => h) (fun b hb => by cases hb; exact fun h => absurd h (Nat.not_lt.2 hbfr)) ⟨zr, Sim.agg (by repeat (first | exact trivial | refine ⟨zr, ?_⟩ | refine ⟨Sim.ff, ?_⟩ | refine ⟨zq0, ?_⟩)), trivial⟩ (by intro e he; simp only [List.mem_singleton] at he; subst he; rfl) rfl rfl (fun _ => shK bM L2) (fun _ _ _ _ _ _ _ _ _ h => h) ?_
   intro y a0 w1 hF
   obtain ⟨g2, hg2⟩ := eqv (GG2 y)
   rw [← hg2] at hF
   replace hF := hF.withK (K' := shK bM L2) hF.kept
   have hga2 : g2.abs = D2.got := by rw [hg2, ← hGf2, gotA_abs]
   have hgd : ShfG D2.L ∧ U64 D2.got.ver ∧ RecOk D2.got.r := by
    rw [hD2]
    have hra : rr9.abs = W9.r := by rw [hrr9, rn_abs]
    refine doL_good hg1 ⟨hwo.lab.wf, ?_, ?_⟩
    ·show U64 rr9.abs.next.bits
     rw [hra]; exact hwo.r.nx
    show ∀ x ∈ rr9.abs.items, U64 x.key
    rw [hra]; exact hwo.r.key
   have hgi : InG g2 := got_in hga2 hgd.2.1 hgd.2.2
   have hg2 : ShfG L2 := by rw [hL2]; exact hgd.1
   refine lnd 3 hB TA_ok [2, 4, 7, 9, 10, 15, 16] [14, 4, 9, 15] [] hF fun X17 a0 w1 hF => ?_
   refine wp_seq (wp_seq (rg hB TA_ok [91, 2, 4, 7, 9, 10, 15] [14, 4, 9, 15] [] hF fun X18 a0 w1 hF => ?_))
   apply test_ok hF rfl <;> intro hb hF
   ·skip
    have O1 := sought_s
    refine wp_exit (wp_seq (rg hB TA_ok [6] [] [(0, .r fun _ => .bool .tt)] hF fun X20 a0 w1 hF => ?_))
    refine wp_ret ((rsi hB TA_ok hF nAt (he := ?_)))
    subst hB
    refine Sim.bool ?_
    simp [std, sC, BE.den, canB]
   skip
   refine wp_skip ?_
   refine rg hB TA_ok [9, 10, 2, 4, 7] [14, 4, 9] [] hF (hob := by intro X; subst hB; simp only [AO, Ob.holds, BE.den] <;> and_intros <;> repeat first | trivial | rfl | exact (show i + 1 ≤ maxLen by omega) | exact (show (i + 1) * 80 ≤ 140737488355328 by omega) | exact (fun _ _ => by kernel_rfl) | refine ⟨?_, ?_⟩ | intro h | exact Int.le_refl _ | decide | omega) fun X19 a0 w1 hF => ?_
   replace hF := hF.headS (v' := .sl (some 9) ((X19 3).A 0) (B.nadd i 1) ((X19 3).c 0) 8 (fun t => gotC (if t = i then g2 else fz t))) (Sim.resl rfl (fun t ht => by
    subst hB
    have ht2 : t < i + 1 := ht
    show appC i (fun t => gotC (fz t)) (chunk 8 (gotC g2)) t = _
    unfold appC
    split
    ·rw [if_neg (by omega)]
    have : t = i := by omega
    subst this
    rw [if_pos rfl]
    simp [chunk])) rfl
   refine rg hB TA_ok [9, 10, 2, 4, 7] [14, 4, 9] [] hF fun X9 a0 w1 hF => ?_
   have e : B.arith .add .i64 (i : Int) 1 = ((i + 1 : Nat) : Int) := by subst hB; exact wrap_succ (n := 2000) (by omega) (by omega)
   refine ⟨(i + 1, fun t => if t = i then g2 else fz t, _, _, L2, k2), ⟨by simp only; omega, hg2, fun j hj => ?_⟩, by simp only; omega, by rw [← e, show i + 1 = B.nadd i 1 by subst hB; rfl]; exact hF⟩
   by_cases hji : j = i
   ·simp only [if_pos hji]; exact hgi
   simp only [if_neg hji]; exact hal j (by have h9 : j < i + 1 := hj; omega)
  skip
  refine wp_skip (wp_seq (wp_region_lit (lpr 0 2 hB TA_ok [85, 86, 9, 10, 2, 4, 7] [14, 4, 9] [] hF fun X17_0 a0 w1 hF => ?_)))
  have SD := do_m 14 sb bM Lc (by have := hg.ok.len; omega) kc (wqB (X10 2) W9 rr9 nn9 ff9) (by show rr9.n ≤ _; rw [hrr9]; have := hwo.r.few; show W9.r.items.length ≤ _; omega) hwo.lab.wf hwo.lab.u (by show U64 rr9.nx.bits; rw [hrr9]; exact hwo.r.nx)
  obtain ⟨D2, hD2⟩ := eqv (doL Lc (WntA.abs (wqB (X10 2) W9 rr9 nn9 ff9)))
  rw [← hD2] at SD
  obtain ⟨GG2, hGG2⟩ : ∃ G : Atom → GotA, G = fun y => gotA y D2.got := ⟨_, rfl⟩
  have hGf2 : ∀ y, gotA y D2.got = GG2 y := fun y => by rw [hGG2]
  simp only [hGf2] at SD
  obtain ⟨k2, hk2⟩ := eqv ((if D2.wrote then IntKind.i64.wrap (kc + 1) else kc))
  rw [← hk2] at SD
  obtain ⟨er2, her2⟩ := eqv (D2.err)
  rw [← her2] at SD
  obtain ⟨L2, hL2⟩ := eqv (D2.L)
  rw [← hL2] at SD
  refine man_callM rfl rfl rfl rfl hF rfl rfl enters19 SD (fun _ _ h => h) (fun b hb => by cases hb; exact fun h => absurd h (Nat.not_lt.2 hbfr)) ⟨zr, Sim.agg (by repeat (first | exact trivial | refine ⟨zr, ?_⟩ | refine ⟨Sim.ff, ?_⟩ | refine ⟨zq0, ?_⟩)), trivial⟩ (by intro e he; simp only [List.mem_singleton] at he; subst he; rfl) rfl rfl (fun _ => shK bM L2) (fun _ _ _ _ _ _ _ _ _ h => h) ?_
  intro y a0 w1 hF
  obtain ⟨g2, hg2⟩ := eqv (GG2 y)
  rw [← hg2] at hF
  replace hF := hF.withK (K' := shK bM L2) hF.kept
  have hga2 : g2.abs = D2.got := by rw [hg2, ← hGf2, gotA_abs]
  have hgd : ShfG D2.L ∧ U64 D2.got.ver ∧ RecOk D2.got.r := by
   rw [hD2]
   have hra : rr9.abs = W9.r := by rw [hrr9, rn_abs]
   refine doL_good hg ⟨hwo.lab.wf, ?_, ?_⟩
   ·show U64 rr9.abs.next.bits
    rw [hra]; exact hwo.r.nx
   show ∀ x ∈ rr9.abs.items, U64 x.key
   rw [hra]; exact hwo.r.key
  have hgi : InG g2 := got_in hga2 hgd.2.1 hgd.2.2
  have hg2 : ShfG L2 := by rw [hL2]; exact hgd.1
  refine lnd 3 hB TA_ok [2, 4, 7, 9, 10, 15, 16] [14, 4, 9, 15] [] hF fun X17 a0 w1 hF => ?_
  refine wp_seq (wp_seq (rg hB TA_ok [91, 2, 4, 7, 9, 10, 15] [14, 4, 9, 15] [] hF fun X18 a0 w1 hF => ?_))
  apply test_ok hF rfl <;> intro hb hF
  ·skip
   have O1 := sought_s
   refine wp_exit (wp_seq (rg hB TA_ok [6] [] [(0, .r fun _ => .bool .tt)] hF fun X20 a0 w1 hF => ?_))
   refine wp_ret ((rsi hB TA_ok hF nAt (he := ?_)))
   subst hB
   refine Sim.bool ?_
   simp [std, sC, BE.den, canB]
  skip
  refine wp_skip ?_
  refine rg hB TA_ok [9, 10, 2, 4, 7] [14, 4, 9] [] hF (hob := by intro X; subst hB; simp only [AO, Ob.holds, BE.den] <;> and_intros <;> repeat first | trivial | rfl | exact (show i + 1 ≤ maxLen by omega) | exact (show (i + 1) * 80 ≤ 140737488355328 by omega) | exact (fun _ _ => by kernel_rfl) | refine ⟨?_, ?_⟩ | intro h | exact Int.le_refl _ | decide | omega) fun X19 a0 w1 hF => ?_
  replace hF := hF.headS (v' := .sl (some 9) ((X19 3).A 0) (B.nadd i 1) ((X19 3).c 0) 8 (fun t => gotC (if t = i then g2 else fz t))) (Sim.resl rfl (fun t ht => by
   subst hB
   have ht2 : t < i + 1 := ht
   show appC i (fun t => gotC (fz t)) (chunk 8 (gotC g2)) t = _
   unfold appC
   split
   ·rw [if_neg (by omega)]
   have : t = i := by omega
   subst this
   rw [if_pos rfl]
   simp [chunk])) rfl
  refine rg hB TA_ok [9, 10, 2, 4, 7] [14, 4, 9] [] hF fun X9 a0 w1 hF => ?_
  have e : B.arith .add .i64 (i : Int) 1 = ((i + 1 : Nat) : Int) := by subst hB; exact wrap_succ (n := 2000) (by omega) (by omega)
  refine ⟨(i + 1, fun t => if t = i then g2 else fz t, _, _, L2, k2), ⟨by simp only; omega, hg2, fun j hj => ?_⟩, by simp only; omega, by rw [← e, show i + 1 = B.nadd i 1 by subst hB; rfl]; exact hF⟩
  by_cases hji : j = i
  ·simp only [if_pos hji]; exact hgi
  simp only [if_neg hji]; exact hal j (by have h9 : j < i + 1 := hj; omega)
 skip
 have O1 := sought_s
 refine wp_exit (wp_seq (rg hB TA_ok [6] [] [(0, .r fun _ => .bool .tt)] hF fun X20 a0 w1 hF => ?_))
 refine wp_ret ((rsi hB TA_ok hF nAt (he := ?_)))
 subst hB
 refine Sim.bool ?_
 simp [std, sC, BE.den, canB]
end Go.Proofs.YtphmfjhmdajlmaaGreat.Sym
namespace Go.Proofs.YtphmfjhmdajlmaaGreat
open Go Go.RowKit
theorem walkSeekSteps (W : World) (v0 v1 v2 : Value) (i0 : Sym.InRow W v0) (i1 : Sym.InJob W v1) (i2 : Sym.InWnts W v2) : Calls Tryz.prog 4 #[v0, v1, v2] W fun e w' => e = .returned (.bool true) ∧ Below W.heap.size W w' := by
 obtain ⟨A, n, c, f, rfl, h0, hn, hf⟩ := i0
 obtain ⟨J, rfl, h1, hJ⟩ := i1
 obtain ⟨A2, n2, c2, f2, rfl, h2, hn2, hf2⟩ := i2
 have hrw : ∀ i, i < n → Sym.LabOk (f i).lab ∧ U64 (f i).ver ∧ U64 (f i).x.r.nx.bits ∧ ∀ t, t < (f i).x.r.n → U64 ((f i).x.r.f t).key := fun i hi => by
  obtain ⟨_, _, a, b, c, d⟩ := hf i hi
  exact ⟨a, c, b.u64, d⟩
 have hw2 : ∀ i, i < n2 → (f2 i).x.r.n ≤ maxLen ∧ Sym.LabOk (f2 i).lab ∧ U64 (f2 i).x.r.nx.bits ∧ ∀ t, t < (f2 i).x.r.n → U64 ((f2 i).x.r.f t).key := fun i hi => by
  obtain ⟨_, a, b, c, d⟩ := hf2 i hi
  exact ⟨a, b, c.u64, d⟩
 have S : Sym.Spec Tryz.prog 4 [Sym.rowsV A n c f, Sym.jobV J, Sym.wntsV A2 n2 c2 f2] (fun _ => .bool .tt) := by
  cases hnew : newS (Sym.rwsA f n) with
  | none => exact Sym.lawSeekSteps_no A n c f hn hrw J hJ A2 n2 c2 f2 hn2 hw2 hnew
  | some L => exact Sym.lawSeekSteps_yes A n c f hn hrw J hJ A2 n2 c2 f2 hn2 hw2 hnew
 refine (S (fun _ _ => False) W (fun _ _ h => h.elim) (fun v hv => ?_)).mono ?_
 ·simp only [List.mem_cons, List.not_mem_nil, or_false] at hv
  rcases hv with rfl | rfl | rfl
  ·exact h0
  ·exact h1
  exact h2
 rintro e w' ⟨x, rfl, _, hb⟩
 exact ⟨rfl, hb⟩
end Go.Proofs.YtphmfjhmdajlmaaGreat
