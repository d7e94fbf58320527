/-
  SymNx1, SymNx2, SymNx3, SymMn1, SymRun28, SymLm, SymTr1, SymSet, CmpOrd, SymTr8, SymKid, PlTrie, SymTr2, SymTr3, SymTr9, SortOrd, PlTrie2, SymTr4, SymTr5, SymInl3, SymTr6, SymInl4, SymTr7, SymTrA, PlMdEx, SymTrB: put together by a program of mine (a claim may have 60 files at most). Conditions: none.
-/
import Derived.WalkKit
import Derived.WalkLawsBesides
import Derived.WalkSpells
import Derived.Lib.Hide
import Derived.Deep.QuietTactic
import Derived.BigQuiet
import Derived.Deep.LoopGhost
import Derived.Deep.DeepCutAuto
import Derived.Deep.RegionLaw
import Derived.Lib.Overlaps
import Derived.Laws.CopyOwn
import Derived.IntWalk
import Derived.ProofKit
import Derived.OpenShut
import Derived.ShutString
import Derived.ChangeOld
import Derived.Deep.Slices
import Derived.Test.YtodelmejfpkicaaGreatProg
import Derived.Orders
import Derived.OrdersHeld
import Derived.Defers
import Derived.Recover
import Derived.Lib.BitFns
import Derived.ChangeKeysEq
import Derived.Test.YtodelmejfpkicaaGreatChecked
import Derived.Lib.BufferWrite
import Derived.Maps.OwnSet
import Derived.Maps.RangeWalk
import Derived.Maps.Ext
import Derived.DeepKeys4
import Derived.LoopN
import Derived.Shelf.SlSortCmp.WholeK
import Derived.Shelf.SlSortCmp.NoneTotal
import Derived.Deep.RegionHeld3
import Derived.Ground.SlsfProg
import Derived.Shelf.SlGeneric
import Derived.RangeFuncLeaves
import Derived.RangeFuncCalls
import Derived.OrdersIn
import Derived.Test.YtodelmejfpkicaaGreatMgS1
import Derived.Test.YtodelmejfpkicaaGreatMgS2
import Derived.Test.YtodelmejfpkicaaGreatMgS3
import Derived.Test.YtodelmejfpkicaaGreatMgS4
import Derived.Test.YtodelmejfpkicaaGreatMgS5
set_option linter.unusedVariables false
set_option linter.unusedSimpArgs false
set_option maxRecDepth 100000
set_option maxHeartbeats 1600000
namespace Go.Proofs.YtodelmejfpkicaaGreat.Sym
open Go Go.RowKit
theorem tj (v lo hi:Int):j5 Tryz.prog 174 [.int .i64 v,.int .i64 lo,.int .i64 hi] (fun _ => .bool (.v (btw v lo hi))):=by
 intro m w hm hargs;refine en 15 hm hargs Tryz.func174 fun B hB a0 hF => ?_
 refine wp_seq (rg hB a6 [0,1,2] [] [] hF fun X0 a0 w1 hF => ?_);refine wp_seq (rg hB a6 [6] [] [] hF fun X1 a0 w1 hF => ?_);refine wp_ret ((rsi hB a6 hF f4 (he:=?_)));subst hB;refine Sim.bool ?_
 show (if decide (lo<=v)=true then decide (v<=hi) else false)=_
 rw [A8]; rfl
theorem Fs (J:i6) (hl:U64 J.lab.bits):j5 Tryz.prog 116 [U2 J] (fun _ => .bool (.v (G6 J))):=by
 intro m w hm hargs;have S1:=tj J.bucket 1 16;have S2:=tj J.budget 0 2000;have S3:=tj J.how 1 2;have S4:=tj J.most 0 500;have SL:=gl J.lab hl;simp only [b6] at SL;obtain ⟨q1,hq1⟩:=eqv (btw J.bucket 1 16);rw [<-hq1] at S1;obtain ⟨q2,hq2⟩:=eqv (btw J.budget 0 2000);rw [<-hq2] at S2;obtain ⟨q3,hq3⟩:=eqv (btw J.how 1 2);rw [<-hq3] at S3;obtain ⟨q4,hq4⟩:=eqv (btw J.most 0 500);rw [<-hq4] at S4;obtain ⟨ql,hql⟩:=eqv (isL J.lab);rw [<-hql] at SL;refine en 37 hm hargs Tryz.func116 fun B hB a0 hF => ?_
 refine wp_seq (rg hB a6 [1] [1] [] hF fun X0 a0 w1 hF => ?_);refine wp_seq (rg hB a6 [1,3] [1] [] hF fun X1 a0 w1 hF => ?_);apply wp_seq;refine rg hB a6 [2] [] [(3,.r fun _ => .bool (.v q1)),(8,.r fun _ => .bool (.v q2)),(14,.r fun _ => .bool (.v q3)),(20,.r fun _ => .bool (.v q4)),(31,.r fun _ => .bool (.v ql))] hF (hob:=by intro X; subst hB; simp only [b5,Ob.holds,BE.den]<;>and_intros<;>repeat first | trivial | rfl | exact S1 | exact S2 | exact S3 | exact S4 | exact SL | exact (fun _ _ => by kernel_rfl) | refine ⟨?_,?_⟩ | intro h | exact Int.le_refl _ | decide | omega) fun X2 a0 w1 hF => ?_
 refine wp_ret ((rsi hB a6 hF f4 (he:=?_)));subst hB;refine Sim.bool ?_
 show (if (if (if (if (if q1=true then q2 else false)=true then q3 else false)=true then q4 else false)=true then decide ((J.pn:Int)<=500) else false)=true then ql else false)=_
 simp only [A8];unfold G6;rw [<-hq1,<-hq2,<-hq3,<-hq4,<-hql]; rfl
theorem DK (J:i6) (hl:U64 J.lab.bits):j5 Tryz.prog 123 [U2 J] (fun _ => .bool (.v (G6 J))):=by
 intro m w hm hargs;have SL:=gP J.lab hl;simp only [b6] at SL;obtain ⟨ql,hql⟩:=eqv (isL J.lab);rw [<-hql] at SL;refine en 52 hm hargs Tryz.func123 fun B hB a0 hF => ?_
 refine wp_seq (rg hB a6 [1] [1] [] hF fun X0 a0 w1 hF => ?_);have O1:=SL;refine wp_seq (rg hB a6 [2] [] [(47,.r fun _ => .bool (.v ql))] hF fun X1 a0 w1 hF => ?_);refine wp_ret ((rsi hB a6 hF f4 (he:=?_)));subst hB;refine Sim.bool ?_
 show (if (if (if (if (if (if (if (if decide (J.bucket ≥ 1)=true then decide (J.bucket<=16) else false)=true then decide (J.budget ≥ 0) else false)=true then decide (J.budget<=2000) else false)=true then (if (J.how == 1)=true then true else (J.how == 2)) else false)=true then decide (J.most ≥ 0) else false)=true then decide (J.most<=500) else false)=true then decide ((J.pn:Int)<=500) else false)=true then ql else false)=G6 J
 simp only [A8,R0];unfold G6 btw;rw [<-hql,Bool.eq_iff_iff]
 cases ql
 .simp
 simp only [Bool.and_eq_true,Bool.or_eq_true,decide_eq_true_eq,beq_iff_eq,and_true];omega
theorem Ft (g:l9) (hg:InG g):j5 Tryz.prog 115 [s5 g] (fun _ => .bool (.v (E6 g))):=by
 intro m w hm hargs;have SR:=kH g.x.A g.x.r.n g.x.c g.x.r.f hg.len g.x.r.kd g.x.r.nx g.x.r.mrk hg.nx;unfold Q2 l4 at SR;obtain ⟨ir,hir⟩:=eqv (L5 g.x.r.kd g.x.r.n g.x.r.f g.x.r.nx g.x.r.mrk);rw [<-hir] at SR;refine en 41 hm hargs Tryz.func115 fun B hB a0 hF => ?_
 refine wp_seq (rg hB a6 [1] [1] [] hF fun X0 a0 w1 hF => ?_);refine wp_seq (wp_block (wp_seq (rg hB a6 [4,1] [1] [] hF fun X1 a0 w1 hF => ?_)));apply a7 hF rfl<;>intro hb hF
 .have hc:(decide (g.code=0) || decide (g.code=8))=false:=by
   have h9:(if (g.code != 0)=true then (g.code != 8) else false)=true:=by subst hB; exact hb
   rw [A8] at h9
   by_cases h1:g.code=0<;>by_cases h2:g.code=8<;>simp [h1,h2] at h9 ⊢
  refine wp_seq (rg hB a6 [2] [] [] hF fun X2 a0 w1 hF => ?_);refine wp_ret ((rsi hB a6 hF f4 (he:=?_)));subst hB;refine Sim.bool ?_
  show false=_
  unfold E6; rw [hc]; rfl
 have hc:(decide (g.code=0) || decide (g.code=8))=true:=by
  have h9:(if (g.code != 0)=true then (g.code != 8) else false)=false:=by subst hB; exact hb
  rw [A8] at h9
  by_cases h1:g.code=0<;>by_cases h2:g.code=8<;>simp [h1,h2] at h9 ⊢
 refine wp_seq (rg hB a6 [13,1] [1] [] hF fun X3 a0 w1 hF => ?_);apply a7 hF rfl<;>intro hb hF
 .have hh:g.has=true:=hb
  have O1:=SR;refine wp_seq (rg hB a6 [2] [] [(2,.r fun _ => .bool (.v ir))] hF fun X4 a0 w1 hF => ?_);refine wp_ret ((rsi hB a6 hF f4 (he:=?_)));subst hB;refine Sim.bool ?_
  show ir=_
  unfold E6; rw [hc,if_pos hh,<-hir]; rfl
 have hh:¬ g.has=true:=by rw [Bool.not_eq_true]; exact hb
 refine wp_skip (wp_seq (rg hB a6 [3] [3] [] hF fun X5 a0 w1 hF => ?_));apply wp_seq;refine rg hB a6 [2] [] [] hF (hob:=by intro X; subst hB; simp only [b5,Ob.holds,BE.den]<;>and_intros<;>repeat first | trivial | rfl | exact f8 (Kk:=noK) _ _ _ _ | exact (fun _ _ => by kernel_rfl) | refine ⟨?_,?_⟩ | intro h | exact Int.le_refl _ | decide | omega) fun X6 a0 w1 hF => ?_
 refine wp_ret ((rsi hB a6 hF f4 (he:=?_)));subst hB;refine Sim.bool ?_
 show (if (if (if (g.x.r.kd == 0)=true then (((g.x.r.n:Nat):Int) == 0) else false)=true then eqL [.int .i64 g.x.r.nx.len,.int .u64 g.x.r.nx.bits] [.int .i64 0,.int .u64 0] else false)=true then (g.x.r.mrk == 0) else false)=_
 rw [bC g.x.r.nx ⟨0,0⟩];simp only [A8];have hn0:(((g.x.r.n:Nat):Int) == 0)=decide (g.x.r.n=0):=by
  rw [Bool.eq_iff_iff,beq_iff_eq,decide_eq_true_eq]; omega
 unfold E6; rw [hc,if_neg hh,hn0]; rfl
theorem DL (g:l9) (hg:InG g):j5 Tryz.prog 122 [s5 g] (fun _ => .bool (.v (E6 g))):=by
 intro m w hm hargs;have SR:=nm g.x.A g.x.r.n g.x.c g.x.r.f hg.len g.x.r.kd g.x.r.nx g.x.r.mrk hg.nx;unfold Q2 l4 at SR;obtain ⟨ir,hir⟩:=eqv (L5 g.x.r.kd g.x.r.n g.x.r.f g.x.r.nx g.x.r.mrk);rw [<-hir] at SR;have SS0:=vF g.x.A g.x.r.n g.x.c g.x.r.f hg.len g.x.r.kd g.x.r.nx g.x.r.mrk none 0 0 (fun _ => r7) 0 ⟨0,0⟩ 0;unfold Q2 l4 at SS0;have SS:j5 Tryz.prog 64 [u9 g.x,.agg [.int .i64 0,.sl none none 0 0 2 (fun _ => []),.int .i64 0,.int .u64 0,.int .u64 0]] (fun _ => .bool (.v (dw g.x.r.kd g.x.r.n g.x.r.f g.x.r.nx g.x.r.mrk 0 0 (fun _ => r7) ⟨0,0⟩ 0))):=SS0.sim ⟨zr,Sim.agg ⟨zr,P7,zr,zr,zr,trivial⟩,trivial⟩;obtain ⟨sr,hsr⟩:=eqv (dw g.x.r.kd g.x.r.n g.x.r.f g.x.r.nx g.x.r.mrk 0 0 (fun _ => r7) ⟨0,0⟩ 0);rw [<-hsr] at SS;refine en 20 hm hargs Tryz.func122 fun B hB a0 hF => ?_
 refine wp_seq (rg hB a6 [1] [1] [] hF fun X0 a0 w1 hF => ?_);refine wp_seq (wp_seq (rg hB a6 [10,1] [1] [] hF fun X1 a0 w1 hF => ?_));apply a7 hF rfl<;>intro hb hF
 .have hc:(decide (g.code=0) || decide (g.code=8))=false:=by
   have h9:(if (g.code != 0)=true then (g.code != 8) else false)=true:=by subst hB; exact hb
   rw [A8] at h9
   by_cases h1:g.code=0<;>by_cases h2:g.code=8<;>simp [h1,h2] at h9 ⊢
  refine wp_seq (rg hB a6 [2] [] [] hF fun X2 a0 w1 hF => ?_);refine wp_ret ((rsi hB a6 hF f4 (he:=?_)));subst hB;refine Sim.bool ?_
  show false=_
  unfold E6; rw [hc]; rfl
 have hc:(decide (g.code=0) || decide (g.code=8))=true:=by
  have h9:(if (g.code != 0)=true then (g.code != 8) else false)=false:=by subst hB; exact hb
  rw [A8] at h9
  by_cases h1:g.code=0<;>by_cases h2:g.code=8<;>simp [h1,h2] at h9 ⊢
 refine wp_skip (wp_seq (wp_seq (rg hB a6 [12,1] [1] [] hF fun X3 a0 w1 hF => ?_)));apply a7 hF rfl<;>intro hb hF
 .have hh:g.has=true:=hb
  have O1:=SR;refine wp_seq (rg hB a6 [2] [] [(2,.r fun _ => .bool (.v ir))] hF fun X4 a0 w1 hF => ?_);refine wp_ret ((rsi hB a6 hF f4 (he:=?_)));subst hB;refine Sim.bool ?_
  show ir=_
  unfold E6; rw [hc,if_pos hh,<-hir]; rfl
 have hh:¬ g.has=true:=by rw [Bool.not_eq_true]; exact hb
 have O1:=SS;refine wp_skip (wp_seq (rg hB a6 [2] [] [(3,.r fun _ => .bool (.v sr))] hF fun X5 a0 w1 hF => ?_));refine wp_ret ((rsi hB a6 hF f4 (he:=?_)));subst hB;refine Sim.bool ?_
 show sr=_
 have hs:dw g.x.r.kd g.x.r.n g.x.r.f g.x.r.nx g.x.r.mrk 0 0 (fun _ => r7) ⟨0,0⟩ 0=(decide (g.x.r.kd=0) && decide (g.x.r.n=0) && decide (g.x.r.nx=⟨0,0⟩) && decide (g.x.r.mrk=0)):=by
  unfold dw cT
  by_cases hn0:g.x.r.n=0
  .simp [hn0]
  simp [hn0]
 rw [hsr,hs];unfold E6; rw [hc,if_neg hh]; rfl
theorem Ff (g:l9) (hg:InG g):j5 Tryz.prog 114 [s5 g] (fun _ => .bool (.v (!E6 g))):=by
 intro m w hm hargs;have S:=Ft g hg;obtain ⟨q,hq⟩:=eqv (E6 g);rw [<-hq] at S ⊢;refine en 6 hm hargs Tryz.func114 fun B hB a0 hF => ?_
 refine wp_seq (rg hB a6 [1] [1] [] hF fun X0 a0 w1 hF => ?_);have O1:=S;refine wp_seq (rg hB a6 [2] [] [(1,.r fun _ => .bool (.v q))] hF fun X1 a0 w1 hF => ?_);refine wp_ret ((rsi hB a6 hF f4 (he:=?_)));subst hB;exact zr
theorem Fr (A:Option Addr) (n c:Nat) (f:Nat -> l9) (hin:∀ j,j < n -> InG (f j)):j5 Tryz.prog 176 [cg A n c f,.fn 114 [] []] (fun x => .int .i64 (if I7 n f=true then -1 else (x.b:Int))):=by
 intro m w hm hargs;have hlen:=gX (hargs (cg A n c f) (by simp));have hmx:maxLen=9223372036854775807:=rfl;refine en 19 hm hargs Tryz.func176 fun B hB a0 hF => ?_
 refine wp_seq (rg hB a6 [0,1] [] [] hF fun X0 a0 w1 hF => ?_);refine wp_seq (wp_seq (rg hB a6 [8,0,1,7] [] [] hF fun X1 a0 w1 hF => ?_));refine wp_block (l0 (ι:=Nat) (fun p => [(8,.int .i64 (p:Int))]) (fun p => []) (fun p => []) (fun p => p<=n/\∀ j,j < p -> E6 (f j)=true) (fun p => n - p) 0 ⟨Nat.zero_le _,fun i hi => absurd hi (Nat.not_lt_zero _)⟩ hF ?_)
 rintro i ⟨hi,hall⟩ a0 w1 hF
 try dsimp only at hi
 try dsimp only at hall
 refine wp_seq (rg hB a6 [9,0,1,7,8] [] [] hF fun X2 a0 w1 hF => ?_);refine wp_seq (a7 hF rfl (fun hb hF => ?_) (fun hb hF => ?_))
 .have hin_:i < n:=by
   have:(i:Int) < (n:Int):=by subst hB; simpa [std,a8] using hb
   omega
  have S:=Ff (f i) (hin i hin_);obtain ⟨q,hq⟩:=eqv (E6 (f i));rw [<-hq] at S;refine wp_skip (wp_seq (wp_block (wp_seq (rg hB a6 [0,1,5,7,8] [] [] hF fun X3 a0 w1 hF => ?_))));apply wp_seq;refine rg hB a6 [16,0,1,5,7,8] [] [(5,.r fun _ => .bool (.v (!q)))] hF (hob:=by intro X; subst hB; simp only [b5,Ob.holds,BE.den]<;>and_intros<;>repeat first | trivial | rfl | exact (show (0:Int)<=(i:Int) by omega) | exact (show (i:Int) < (n:Int) by omega) | exact S | exact ⟨(show (0:Int)<=(i:Int) by omega),(show (i:Int) < (n:Int) by omega)⟩ | exact (fun _ _ => by kernel_rfl) | refine ⟨?_,?_⟩ | intro h | exact Int.le_refl _ | decide | omega) fun X4 a0 w1 hF => ?_
  apply a7 hF rfl<;>intro hb hF
  .have hne:E6 (f i)=false:=by
    rw [<-hq]; have:(!q)=true:=hb
    simpa using this
   refine wp_seq (rg hB a6 [4] [] [] hF fun X5 a0 w1 hF => ?_);refine wp_ret ((rsp hB a6 hF (⟨i,fun _ => none,fun _ => 0,fun _ => .empty⟩) (he:=?_)).1);subst hB;rw [mO hin_ hne]; rfl
  have hne:E6 (f i)=true:=by
   rw [<-hq]; have:(!q)=false:=hb
   simpa using this
  refine wp_skip (rg hB a6 [8,0,1,7] [] [] hF fun X6 a0 w1 hF => ?_);have e:B.arith .add .i64 (i:Int) 1=((i + 1:Nat):Int):=by subst hB; exact j2 (n:=n) hin_ (by omega)
  refine ⟨i + 1,⟨by omega,fun j hj => ?_⟩,by omega,by rw [<-e]; exact hF⟩
  by_cases hij:j=i
  .rw [hij]; exact hne
  exact hall j (by omega)
 have hout:i=n:=by
  have:¬ (i:Int) < (n:Int):=by subst hB; simpa [std,a8] using hb
  omega
 refine wp_exit (wp_seq (rg hB a6 [4] [] [] hF fun X7 a0 w1 hF => ?_));refine wp_ret ((rsp hB a6 hF f4 (he:=?_)).1);subst hB;rw [hout] at hall;rw [ly hall]; rfl
theorem FI (A:Option Addr) (n c:Nat) (f:Nat -> l9) (hin:∀ j,j < n -> InG (f j)):j5 Tryz.prog 118 [cg A n c f,.fn 114 [] []] (fun _ => .bool (.v (!I7 n f))):=by
 intro m w hm hargs;have S0:=Fr A n c f hin;obtain ⟨q,hq⟩:=eqv (I7 n f);rw [<-hq] at S0 ⊢;refine en 9 hm hargs Tryz.func118 fun B hB a0 hF => ?_
 refine wp_seq (rg hB a6 [0,1] [] [] hF fun X0 a0 w1 hF => ?_);have O1:=S0;refine wp_seq (rg hB a6 [4] [] [(2,.r fun x => .int .i64 (if q=true then -1 else (x.b:Int)))] hF fun X1 a0 w1 hF => ?_);refine wp_ret ((rsi hB a6 hF f4 (he:=?_)));subst hB;refine Sim.bool ?_
 show decide ((if q=true then -1 else (((X1 2).b:Nat):Int)) ≥ 0) = !q
 cases q
 .simp
 rfl
theorem FG (J:i6) (hl:U64 J.lab.bits) (A:Option Addr) (n c:Nat) (f:Nat -> l9) (hin:∀ j,j < n -> InG (f j)):j5 Tryz.prog 56 [U2 J,cg A n c f] (fun _ => .bool (.v (I7 n f && G6 J))):=by
 intro m w hm hargs;have hlen:=gX (hargs (cg A n c f) (by simp));have hmx:maxLen=9223372036854775807:=rfl;have SJ:=DK J hl;obtain ⟨ij,hij⟩:=eqv (G6 J);rw [<-hij] at SJ;refine en 20 hm hargs Tryz.func56 fun B hB a0 hF => ?_
 refine wp_seq (rg hB a6 [1,2] [2] [] hF fun X0 a0 w1 hF => ?_);refine wp_seq (wp_seq (rg hB a6 [5,1,2] [2] [] hF fun X1 a0 w1 hF => ?_));refine wp_block (l0 (ι:=Nat) (fun p => [(5,.int .i64 (p:Int))]) (fun p => []) (fun p => []) (fun p => p<=n/\∀ j,j < p -> E6 (f j)=true) (fun p => n - p) 0 ⟨Nat.zero_le _,fun i hi => absurd hi (Nat.not_lt_zero _)⟩ hF ?_)
 rintro i ⟨hi,hall⟩ a0 w1 hF
 try dsimp only at hi
 try dsimp only at hall
 refine wp_seq (wp_seq (rg hB a6 [9,1,2,5] [2] [] hF fun X2 a0 w1 hF => ?_));apply a7 hF rfl<;>intro hb hF
 .have hin_:i < n:=by
   have:(i:Int) < (n:Int):=by subst hB; simpa [std,a8] using hb
   omega
  have S:=DL (f i) (hin i hin_);obtain ⟨q,hq⟩:=eqv (E6 (f i));rw [<-hq] at S;refine wp_skip (wp_seq (wp_block (wp_seq ?_)));refine rg hB a6 [17,1,2,5] [2] [(4,.r fun _ => .bool (.v q))] hF (hob:=by intro X; subst hB; simp only [b5,Ob.holds,BE.den]<;>and_intros<;>repeat first | trivial | rfl | exact (show (0:Int)<=(i:Int) by omega) | exact (show (i:Int) < (n:Int) by omega) | exact S | exact ⟨(show (0:Int)<=(i:Int) by omega),(show (i:Int) < (n:Int) by omega)⟩ | exact (fun _ _ => by kernel_rfl) | refine ⟨?_,?_⟩ | intro h | exact Int.le_refl _ | decide | omega) fun X4 a0 w1 hF => ?_
  apply a7 hF rfl<;>intro hb hF
  .have hne:E6 (f i)=false:=by
    rw [<-hq]; have:(!q)=true:=by subst hB; exact hb
    simpa using this
   refine wp_seq (rg hB a6 [4] [] [] hF fun X5 a0 w1 hF => ?_);refine wp_ret ((rsp hB a6 hF f4 (he:=?_)).1);subst hB;rw [mO hin_ hne]; rfl
  have hne:E6 (f i)=true:=by
   rw [<-hq]; have:(!q)=false:=by subst hB; exact hb
   simpa using this
  refine wp_skip (rg hB a6 [5,1,2] [2] [] hF fun X3 a0 w1 hF => ?_);have e:B.arith .add .i64 (i:Int) 1=((i + 1:Nat):Int):=by subst hB; exact j2 (n:=n) hin_ (by omega)
  refine ⟨i + 1,⟨by omega,fun j hj => ?_⟩,by omega,by rw [<-e]; exact hF⟩
  by_cases hij:j=i
  .rw [hij]; exact hne
  exact hall j (by omega)
 have hout:i=n:=by
  have:¬ (i:Int) < (n:Int):=by subst hB; simpa [std,a8] using hb
  omega
 have O1:=SJ;refine wp_exit (wp_seq (rg hB a6 [4] [] [(1,.r fun _ => .bool (.v ij))] hF fun X6 a0 w1 hF => ?_));refine wp_ret ((rsp hB a6 hF f4 (he:=?_)).1);subst hB;rw [hout] at hall;rw [ly hall,<-hij]; rfl
theorem eF:j3 Tryz.prog 119:=fun _ _ => by kernel_rfl
theorem zn (Q q0:u0) (e:Int) (b8 b9 b11 br:Nat) (J:i6) (A:Option Addr) (c:Nat) (p:Pst) (hz:p.n=0):pW Tryz.prog 119 .returning .returning .nili [.ptr 8 b8 0,.ptr 11 b11 0,.ptr 9 b9 0] [(8,⟨b8,40,da q0⟩),(11,⟨b11,126,[.ptr 32 br 0]⟩),(9,⟨b9,36,[.int .i64 e]⟩),(32,⟨br,166,C0 J A c p⟩)] (fun _ => ⟨.tup [],[(8,da q0),(11,[.ptr 32 br 0]),(9,[.int .i64 e]),(32,C0 J A c p)],[]⟩):=by
 intro m w hm hargs hpre hx;refine gz .no hm hpre hargs hx Tryz.func119 (by exact rfl) (by exact rfl) (by exact rfl) (by exact rfl) (by exact rfl) (by simp [Tryz.ntmps119]) (by simp [Tryz.ntmps119]) fun a0 hF => ?_
 simp only [Tryz.ntmps119,B3,St.put] at hF;obtain ⟨B,hB⟩:=eqv std;refine wp_block (wp_seq (rg hB a6 [8,6,0,1,2] [8,11,9,32] [] hF fun X3 a0 w1 hF => ?_));refine j0 hF rfl (fun hF => ?_);refine rg hB a6 [0,1,2] [8,11,9,32] [] hF fun X4 a0 w1 hF => ?_
 refine wp_seq (rg hB a6 [18,0,2] [8,11,9,32] [] hF fun X8 a0 w1 hF => ?_);apply a7 hF rfl<;>intro hb hF
 .exfalso
  have ht:0 < p.n:=by
   have:(0:Int) < (p.n:Int):=by subst hB; simpa [std,a8] using hb
   omega
  omega
 skip
 refine wp_skip ((rx hB a6 hF f4 [] (hs:=?_)).2);subst hB; exact ⟨rfl,⟨_,rfl,zl⟩,rfl,⟨_,rfl,zl⟩,rfl,⟨_,rfl,zl⟩,rfl,⟨_,rfl,zl⟩,trivial⟩
theorem zm (Q q0:u0) (e:Int) (b8 b9 b11 br:Nat) (J:i6) (A:Option Addr) (c:Nat) (p:Pst) (hz:0 < p.n):pW Tryz.prog 119 .returning .returning .nili [.ptr 8 b8 0,.ptr 11 b11 0,.ptr 9 b9 0] [(8,⟨b8,40,da q0⟩),(11,⟨b11,126,[.ptr 32 br 0]⟩),(9,⟨b9,36,[.int .i64 e]⟩),(32,⟨br,166,C0 J A c p⟩)] (fun _ => ⟨.tup [],[(8,[.int .i64 0,.int .i64 0,.int .u64 0,.int .u64 0,.int .i64 0,.sl none none 0 0 2 (fun _ => []),.int .i64 0,.int .u64 0,.int .u64 0,.int .i64 0,.bool .ff,.str ⟨#[]⟩,.sl none none 0 0 2 (fun _ => []),.int .u64 0,.bool .ff]),(11,[.ptr 32 br 0]),(9,[.int .i64 5]),(32,C0 J A c p)],[]⟩):=by
 intro m w hm hargs hpre hx;refine gz .no hm hpre hargs hx Tryz.func119 (by exact rfl) (by exact rfl) (by exact rfl) (by exact rfl) (by exact rfl) (by simp [Tryz.ntmps119]) (by simp [Tryz.ntmps119]) fun a0 hF => ?_
 simp only [Tryz.ntmps119,B3,St.put] at hF;obtain ⟨B,hB⟩:=eqv std;refine wp_block (wp_seq (rg hB a6 [8,6,0,1,2] [8,11,9,32] [] hF fun X3 a0 w1 hF => ?_));refine j0 hF rfl (fun hF => ?_);refine rg hB a6 [0,1,2] [8,11,9,32] [] hF fun X4 a0 w1 hF => ?_
 refine wp_seq (rg hB a6 [18,0,2] [8,11,9,32] [] hF fun X8 a0 w1 hF => ?_);apply a7 hF rfl<;>intro hb hF
 .skip
  refine rg hB a6 [] [8,11,9,32] [] hF fun X9 a0 w1 hF => ?_
  refine (rx hB a6 hF f4 [] (hs:=?_)).2;subst hB; exact ⟨rfl,⟨_,rfl,zl⟩,rfl,⟨_,rfl,zl⟩,rfl,⟨_,rfl,zl⟩,rfl,⟨_,rfl,zl⟩,trivial⟩
 exfalso
 have ht:¬ 0 < p.n:=by
  have:¬ (0:Int) < (p.n:Int):=by subst hB; simpa [std,a8] using hb
  omega
 exact ht hz
theorem wC (Q q0:u0) (e:Int) (b8 b9 b11 br:Nat) (J:i6) (A:Option Addr) (c:Nat) (p:Pst) (hz:p.n=0):pW Tryz.prog 119 (.panicking [{ v:=.iface 40 (B5 Q).den,recovered:=false }]) (.panicking [{ v:=.iface 40 (B5 Q).den,recovered:=true }]) (.ifc 40 (B5 Q)) [.ptr 8 b8 0,.ptr 11 b11 0,.ptr 9 b9 0] [(8,⟨b8,40,da q0⟩),(11,⟨b11,126,[.ptr 32 br 0]⟩),(9,⟨b9,36,[.int .i64 e]⟩),(32,⟨br,166,C0 J A c p⟩)] (fun _ => ⟨.tup [],[(8,da Q),(11,[.ptr 32 br 0]),(9,[.int .i64 e]),(32,C0 J A c p)],[]⟩):=by
 intro m w hm hargs hpre hx;refine gz (.yes 40 (B5 Q)) hm hpre hargs hx Tryz.func119 (by exact rfl) (by exact rfl) (by exact rfl) (by exact rfl) (by exact rfl) (by simp [Tryz.ntmps119]) (by simp [Tryz.ntmps119]) fun a0 hF => ?_
 simp only [Tryz.ntmps119,B3,St.put] at hF;obtain ⟨B,hB⟩:=eqv std;refine wp_block (wp_seq (rg hB a6 [8,6,0,1,2] [8,11,9,32] [] hF fun X3 a0 w1 hF => ?_));refine i9 hF rfl (fun hF => ?_);obtain ⟨dd,hu,hni⟩:=(j7 a6 (t:=40) rfl).conc rfl;refine wp_seq (wp_region_lit (iM rfl rfl rfl rfl hF (Nat.le_of_ble_eq_true rfl) rfl hu hni ?_));intro a0 hF;refine lnd 1 hB a6 [10,11,0,1,2] [8,11,9,32] [] hF fun X5 a0 w1 hF => ?_
 refine j0 hF rfl (fun hF => ?_);refine wp_seq (rg hB a6 [0,1,2,4] [8,11,9,32,4] [] hF fun X6 a0 w1 hF => ?_);refine rg hB a6 [0,1,2] [8,11,9,32] [] hF fun X7 a0 w1 hF => ?_
 refine wp_seq (rg hB a6 [18,0,2] [8,11,9,32] [] hF fun X8 a0 w1 hF => ?_);apply a7 hF rfl<;>intro hb hF
 .exfalso
  have ht:0 < p.n:=by
   have:(0:Int) < (p.n:Int):=by subst hB; simpa [std,a8] using hb
   omega
  omega
 skip
 refine wp_skip ((rx hB a6 hF f4 [] (hs:=?_)).2);subst hB; exact ⟨rfl,⟨_,rfl,zl⟩,rfl,⟨_,rfl,zl⟩,rfl,⟨_,rfl,zl⟩,rfl,⟨_,rfl,zl⟩,trivial⟩
theorem wA (Q q0:u0) (e:Int) (b8 b9 b11 br:Nat) (J:i6) (A:Option Addr) (c:Nat) (p:Pst) (hz:0 < p.n):pW Tryz.prog 119 (.panicking [{ v:=.iface 40 (B5 Q).den,recovered:=false }]) (.panicking [{ v:=.iface 40 (B5 Q).den,recovered:=true }]) (.ifc 40 (B5 Q)) [.ptr 8 b8 0,.ptr 11 b11 0,.ptr 9 b9 0] [(8,⟨b8,40,da q0⟩),(11,⟨b11,126,[.ptr 32 br 0]⟩),(9,⟨b9,36,[.int .i64 e]⟩),(32,⟨br,166,C0 J A c p⟩)] (fun _ => ⟨.tup [],[(8,[.int .i64 0,.int .i64 0,.int .u64 0,.int .u64 0,.int .i64 0,.sl none none 0 0 2 (fun _ => []),.int .i64 0,.int .u64 0,.int .u64 0,.int .i64 0,.bool .ff,.str ⟨#[]⟩,.sl none none 0 0 2 (fun _ => []),.int .u64 0,.bool .ff]),(11,[.ptr 32 br 0]),(9,[.int .i64 5]),(32,C0 J A c p)],[]⟩):=by
 intro m w hm hargs hpre hx;refine gz (.yes 40 (B5 Q)) hm hpre hargs hx Tryz.func119 (by exact rfl) (by exact rfl) (by exact rfl) (by exact rfl) (by exact rfl) (by simp [Tryz.ntmps119]) (by simp [Tryz.ntmps119]) fun a0 hF => ?_
 simp only [Tryz.ntmps119,B3,St.put] at hF;obtain ⟨B,hB⟩:=eqv std;refine wp_block (wp_seq (rg hB a6 [8,6,0,1,2] [8,11,9,32] [] hF fun X3 a0 w1 hF => ?_));refine i9 hF rfl (fun hF => ?_);obtain ⟨dd,hu,hni⟩:=(j7 a6 (t:=40) rfl).conc rfl;refine wp_seq (wp_region_lit (iM rfl rfl rfl rfl hF (Nat.le_of_ble_eq_true rfl) rfl hu hni ?_));intro a0 hF;refine lnd 1 hB a6 [10,11,0,1,2] [8,11,9,32] [] hF fun X5 a0 w1 hF => ?_
 refine j0 hF rfl (fun hF => ?_);refine wp_seq (rg hB a6 [0,1,2,4] [8,11,9,32,4] [] hF fun X6 a0 w1 hF => ?_);refine rg hB a6 [0,1,2] [8,11,9,32] [] hF fun X7 a0 w1 hF => ?_
 refine wp_seq (rg hB a6 [18,0,2] [8,11,9,32] [] hF fun X8 a0 w1 hF => ?_);apply a7 hF rfl<;>intro hb hF
 .skip
  refine rg hB a6 [] [8,11,9,32] [] hF fun X9 a0 w1 hF => ?_
  refine (rx hB a6 hF f4 [] (hs:=?_)).2;subst hB; exact ⟨rfl,⟨_,rfl,zl⟩,rfl,⟨_,rfl,zl⟩,rfl,⟨_,rfl,zl⟩,rfl,⟨_,rfl,zl⟩,trivial⟩
 exfalso
 have ht:¬ 0 < p.n:=by
  have:¬ (0:Int) < (p.n:Int):=by subst hB; simpa [std,a8] using hb
  omega
 exact ht hz
theorem yG {v v':AV} (h:Sim v v'):Sim (can v) (can v'):=
 ⟨by rw [F7,F7]; exact h.1,by rw [jx,jx]; exact h.2.1,fun m w hv => (J9 _).1 (h.2.2 _ _ ((J9 _).2 hv))⟩
def dN (b8 b11 b9:Nat):Deferred:={ target:=.fn (.func 119) (AV.denL [.ptr 8 b8 0,.ptr 11 b11 0,.ptr 9 b9 0]).toArray,args:=(AV.denL []).toArray }
def BG (r:Rs Rsl):f9 -> Out:=fun x => .ret ⟨.tup [B5 (wqA x (K0 r).1),.int .i64 (K0 r).2],[],[]⟩
theorem gC {m:Nat -> Nat -> Prop} {w:World} {b8 b11 b9:Nat}:∀ v ∈ ([]:List AV) ++ [.ptr 8 b8 0,.ptr 11 b11 0,.ptr 9 b9 0],Ok m w v:=by
 intro v hv;simp only [List.nil_append,List.mem_cons,List.not_mem_nil,or_false] at hv
 rcases hv with rfl | rfl | rfl<;>exact .ptr _ _ _
section
variable {m:Nat -> Nat -> Prop} {w0 w:World} {a:Act} {b8 b9 b11 br:Nat} {q0 Q:u0} {J:i6} {A:Option Addr} {c:Nat} {p:Pst} {r:Rs Rsl}
theorem CI {x:f9} {wq:Wq} (h:b4 ⟨m,w0,ats [],[dN b8 b11 b9],noK⟩ ⟨49,[(8,.ptr 8 b8 0),(9,.ptr 9 b9 0)],[],[(8,⟨b8,40,da q0⟩),(9,⟨b9,36,[.int .i64 0]⟩),(11,⟨b11,126,[.ptr 32 br 0]⟩),(32,⟨br,166,C0 J A c p⟩)],[]⟩ a w) (hok:Ok (St.m ⟨49,[(8,.ptr 8 b8 0),(9,.ptr 9 b9 0)],[],[(8,⟨b8,40,da q0⟩),(9,⟨b9,36,[.int .i64 0]⟩),(11,⟨b11,126,[.ptr 32 br 0]⟩),(32,⟨br,166,C0 J A c p⟩)],[]⟩ ⟨m,w0,ats [],[],noK⟩) w (B5 Q)) (hQ:Q=wqA x wq) (hr:r = .stop wq p) :
  bodyPostD Tryz.prog Tryz.f54 (iX m w0 [] (BG r)) (.panic [{ v:=.iface 40 (B5 Q).den,recovered:=false }]) a w:=by
 subst hr
 show Leaves _ _ a.tmps _ a.defers (.panicking _) w
 by_cases hz:p.n=0
 .have ht:K0 (.stop wq p)=(wq,0):=by simp [K0,hz]
  refine jt (C:=⟨m,w0,ats [],[],noK⟩) (l:=[]) (r:=[.ptr 8 b8 0,.ptr 11 b11 0,.ptr 9 b9 0]) (ds:=[]) (x:=(.ifc 40 (B5 Q))) h (by simp) eF (wC Q q0 0 b8 b9 b11 br J A c p hz) gC (.ifc _ _ hok) (by intro e he; simp only [List.mem_cons,List.not_mem_nil,or_false] at he; rcases he with rfl | rfl | rfl | rfl<;>rfl) rfl fun w2 h2 => ?_
  show Leaves _ _ a.tmps _ [] .returning w2
  refine bW (a:={ tmps:=a.tmps,defers:=[] }) a6 h2 (rs:=[.cell 8 40,.cell 9 36]) rfl (by conv => lhs; cbv) ?_ x rfl [] ?_ trivial trivial
  .simp [b5,Ob.holds]
  rw [ht,hQ]; exact zr
 have hz:0 < p.n:=by omega
 have ht:K0 (.stop wq p)=(zWq,5):=by simp [K0,hz]
 refine jt (C:=⟨m,w0,ats [],[],noK⟩) (l:=[]) (r:=[.ptr 8 b8 0,.ptr 11 b11 0,.ptr 9 b9 0]) (ds:=[]) (x:=(.ifc 40 (B5 Q))) h (by simp) eF (wA Q q0 0 b8 b9 b11 br J A c p hz) gC (.ifc _ _ hok) (by intro e he; simp only [List.mem_cons,List.not_mem_nil,or_false] at he; rcases he with rfl | rfl | rfl | rfl<;>rfl) rfl fun w2 h2 => ?_
 show Leaves _ _ a.tmps _ [] .returning w2
 refine bW (a:={ tmps:=a.tmps,defers:=[] }) a6 h2 (rs:=[.cell 8 40,.cell 9 36]) rfl (by conv => lhs; cbv) ?_ ⟨0,fun _ => none,fun _ => 0,fun _ => .empty⟩ rfl [] ?_ trivial trivial
 .simp [b5,Ob.holds]
 rw [ht]; exact Sim.tup ⟨Sim.agg ⟨zr,zr,zr,zr,zr,zq0,zr,zr,zr,zr,zr,zr,zq0,zr,zr,trivial⟩,zr,trivial⟩
theorem CJ {x:f9} {r1:Rsl} (h:b4 ⟨m,w0,ats [],[dN b8 b11 b9],noK⟩ ⟨49,[(8,.ptr 8 b8 0),(9,.ptr 9 b9 0)],[],[(8,⟨b8,40,da q0⟩),(9,⟨b9,36,[.int .i64 0]⟩),(11,⟨b11,126,[.ptr 32 br 0]⟩),(32,⟨br,166,C0 J A c p⟩)],[]⟩ a w) (hq:Sim (B5 q0) (B5 (wqA x ⟨4,⟨0,0⟩,0,i8,r1⟩))) (hr:r = .ok r1 p) :
  bodyPostD Tryz.prog Tryz.f54 (iX m w0 [] (BG r)) .ret a w:=by
 subst hr
 show Leaves _ _ a.tmps _ a.defers .returning w
 by_cases hz:p.n=0
 .have ht:K0 (.ok r1 p)=(⟨4,⟨0,0⟩,0,i8,r1⟩,0):=by simp [K0,hz]
  refine jt (C:=⟨m,w0,ats [],[],noK⟩) (l:=[]) (r:=[.ptr 8 b8 0,.ptr 11 b11 0,.ptr 9 b9 0]) (ds:=[]) (x:=.nili) h (by simp) eF (zn q0 q0 0 b8 b9 b11 br J A c p hz) gC .nili (by intro e he; simp only [List.mem_cons,List.not_mem_nil,or_false] at he; rcases he with rfl | rfl | rfl | rfl<;>rfl) rfl fun w2 h2 => ?_
  show Leaves _ _ a.tmps _ [] .returning w2
  refine bW (a:={ tmps:=a.tmps,defers:=[] }) a6 h2 (rs:=[.cell 8 40,.cell 9 36]) rfl (by conv => lhs; cbv) ?_ x rfl [] ?_ trivial trivial
  .simp [b5,Ob.holds]
  rw [ht]; exact Sim.tup ⟨yG hq,zr,trivial⟩
 have hz:0 < p.n:=by omega
 have ht:K0 (.ok r1 p)=(zWq,5):=by simp [K0,hz]
 refine jt (C:=⟨m,w0,ats [],[],noK⟩) (l:=[]) (r:=[.ptr 8 b8 0,.ptr 11 b11 0,.ptr 9 b9 0]) (ds:=[]) (x:=.nili) h (by simp) eF (zm q0 q0 0 b8 b9 b11 br J A c p hz) gC .nili (by intro e he; simp only [List.mem_cons,List.not_mem_nil,or_false] at he; rcases he with rfl | rfl | rfl | rfl<;>rfl) rfl fun w2 h2 => ?_
 show Leaves _ _ a.tmps _ [] .returning w2
 refine bW (a:={ tmps:=a.tmps,defers:=[] }) a6 h2 (rs:=[.cell 8 40,.cell 9 36]) rfl (by conv => lhs; cbv) ?_ ⟨0,fun _ => none,fun _ => 0,fun _ => .empty⟩ rfl [] ?_ trivial trivial
 .simp [b5,Ob.holds]
 rw [ht]; exact Sim.tup ⟨Sim.agg ⟨zr,zr,zr,zr,zr,zq0,zr,zr,zr,zr,zr,zr,zq0,zr,zr,trivial⟩,zr,trivial⟩
end
theorem CL (F:FuncId) (r:Rs Rsl) (J:i6) (hJ:bF J) (A:Option Addr) (n c:Nat) (f:Nat -> l9) (hn:n<=900000) (hin:∀ j,j < n -> InG (f j)) (kG:Option Nat) (kA:Option Addr) (kn kc:Nat) (kf:Nat -> Int) (hdo:(G6 J && dU kn kf J.kind && I7 n f)=true -> ∀ k0 b,ol F k0 b (J.less n) A c (oV n f) [] r) (hen:j3 Tryz.prog F):eX Tryz.prog 54 [U2 J,cg A n c f,.sl kG kA kn kc 1 (fun i => [.int .i64 (kf i)]),.fn F [] []] [] (fun x => .ret ⟨.tup [B5 (wqA x (fU (G6 J && dU kn kf J.kind && I7 n f) r).1),.int .i64 (fU (G6 J && dU kn kf J.kind && I7 n f) r).2],[],[]⟩):=by
 intro m w hm hargs hpre;have S1:=Fs J hJ.lab;have S2:j5 Tryz.prog 117 [.sl kG kA kn kc 1 (fun i => [.int .i64 (kf i)]),.int .i64 J.kind] (fun _ => .bool (.v (dU kn kf J.kind))):=(ry kA kn kc kf J.kind).sim ⟨Sim.recell (fun _ _ => rfl),zr,trivial⟩;have S3:=FI A n c f hin;obtain ⟨okb,hokb⟩:=eqv ((G6 J && dU kn kf J.kind && I7 n f));rw [<-hokb] at hdo ⊢;obtain ⟨ij,hij⟩:=eqv (G6 J);rw [<-hij] at S1 hokb;obtain ⟨ck,hck⟩:=eqv (dU kn kf J.kind);rw [<-hck] at S2 hokb;obtain ⟨ag,hag⟩:=eqv (I7 n f);rw [<-hag] at S3 hokb;refine Dv hm hpre hargs Tryz.func54 rfl (by simp [Tryz.ntmps54]) fun a0 hF => ?_
 simp only [Tryz.ntmps54,B3] at hF;obtain ⟨B,hB⟩:=eqv std;refine wp_seq (rg hB a6 [1,2,3,4,8,9] [4,8,9] [] hF fun X0 a0 w1 hF => ?_);refine wp_seq (rg hB a6 [1,2,3,4,8,9,10] [4,8,9] [] hF fun X1 a0 w1 hF => ?_);have O1:=S1;have O2:=S2;have O3:=S3;refine wp_seq (wp_seq (rg hB a6 [26,1,3,4,8,9] [4,8,9] [(1,.r fun _ => .bool (.v ij)),(7,.r fun _ => .bool (.v ck)),(13,.r fun _ => .bool (.v (!ag)))] hF fun X2 a0 w1 hF => ?_));apply a7 hF rfl<;>intro hb hF
 .have hf:okb=false:=by
   have h9:(if (if (!ij)=true then true else !ck)=true then true else !ag)=true:=by subst hB; exact hb
   rw [hokb]; cases ij<;>cases ck<;>cases ag<;>first | rfl | cases h9
  refine wp_seq (rg hB a6 [8,9] [8,9] [] hF fun X3 a0 w1 hF => ?_);refine wp_ret (Fa (fn:=Tryz.f54) a6 hF (rs:=[.cell 8 40,.cell 9 36]) rfl (by conv => lhs; cbv) ?_ ⟨0,fun _ => none,fun _ => 0,fun _ => .empty⟩ rfl [] ?_ trivial trivial)
  .subst hB; simp [b5,Ob.holds]
  rw [hf]; subst hB; exact Sim.tup ⟨Sim.agg ⟨zr,zr,zr,zr,zr,zq0,zr,zr,zr,zr,zr,zr,zq0,zr,zr,trivial⟩,zr,trivial⟩
 have hf:okb=true:=by
  have h9:(if (if (!ij)=true then true else !ck)=true then true else !ag)=false:=by subst hB; exact hb
  rw [hokb]; cases ij<;>cases ck<;>cases ag<;>first | rfl | cases h9
 have hjb:G6 J=true:=by
  rw [<-hij]; rw [hokb] at hf; revert hf; cases ij<;>simp
 have hjo:=qJ hJ hjb hn;have e1:IntKind.i64.wrap (J.budget - (n:Int))=(J.less n).budget:=r8 (by have:=hjo.lo; show -9223372036854775808<=(J.less n).budget; omega) (by have:=hjo.hi; show (J.less n).budget<=9223372036854775807; omega)
 refine wp_skip (wp_seq (rg hB a6 [1,3,8,9,11] [32,8,9,11] [] hF fun X4 a0 w1 hF => ?_));refine wp_seq (rg hB a6 [3,8,9,11] [32,8,9,11] [] hF fun X5 a0 w1 hF => ?_);replace hF:=hF.memS (cells':=C0 (J.less n) A c (oV n f)) (by subst hB; exact ⟨zr,zr,zr,zr,zr,zr,zr,zr,zr,zr,zr,zr,zr,zr,Sim.of_eq (congrArg (AV.int .i64) e1),zr,zr,Sim.ff,zr,zr,zr,zr,trivial⟩);refine wp_seq (wp_region_lit (lpr 0 1 hB a6 [44,3,8,9,11] [32,8,9,11] [] hF fun X6_0 a0 w1 hF => ?_));refine ul rfl rfl rfl rfl rfl hF rfl rfl ?_;intro a0 hF;replace hF:b4 ⟨m,w,ats [],[dN (X0 1).b (X4 5).b (X0 2).b],noK⟩ _ _ _:=hF;refine wpList_nil (wp_seq (wp_region_lit (lpr 0 2 hB a6 [45,46,8,9] [32,8,9,11] [] hF fun X7_0 a0 w1 hF => ?_)));have SD:=hdo hf 32 (X4 4).b
 rcases hmd:r with ⟨r1,p1⟩ | ⟨w1_,p1⟩
 .obtain ⟨rl,hrl⟩:∃ y_,y_=r1.items.length:=⟨_,rfl⟩
  obtain ⟨rf,hrf⟩:=eqv (itF r1.items);refine fY rfl rfl rfl rfl hF rfl rfl hen (SD.ok' hmd hrl hrf) (by subst hB; exact zl) (fW rfl) rfl rfl ?_;intro x w' a0 hF;apply bU 3 hB a6 [8,9] [8,9,11,32] [] hF
  .intro A X; conv => lhs; cbv
  .intro X; subst hB; first | exact trivial | (repeat (first | exact trivial | refine ⟨rfl,?_⟩))
  intro X7 a0 w1 hF;obtain ⟨q0,hq0⟩:=eqv ((⟨4,⟨0,0⟩,0,zRA,⟨r1.code,r1.had,r1.val,x.A 2,rl,x.c 2,rf,r1.key,r1.more⟩⟩:u0));replace hF:=hF.memS (cells':=da q0) (by rw [hq0]; subst hB; exact ⟨zr,zr,zr,zr,zr,zq0,zr,zr,zr,zr,zr,zr,zr,zr,zr,trivial⟩);refine wp_ret ?_;rw [show fU okb (.ok r1 p1)=K0 (.ok r1 p1) by rw [hf]; rfl];exact CJ (x:=⟨0,fun i => if i=1 then none else x.A i,fun i => if i=1 then 0 else x.c i,fun _ => .empty⟩) (q0:=q0) (J:=J.less n) (A:=x.A 0) (c:=x.c 0) (p:=p1) hF (by rw [hq0,hrl,hrf]; exact Sim.agg ⟨zr,zr,zr,zr,zr,zq0,zr,zr,zr,zr,zr,zr,zr,zr,zr,trivial⟩) rfl
 refine fY rfl rfl rfl rfl hF rfl rfl hen (SD.stop hmd) (by subst hB; exact zl) (fW rfl) rfl rfl ?_;intro x w' hF hok;replace hF:=hF.keep [8,9] [8,9,11,32];replace hF:=hF.memS (cells':=da ⟨0,⟨0,0⟩,0,zRA,jz⟩) (by exact ⟨zr,zr,zr,zr,zr,zq0,zr,zr,zr,zr,Sim.ff,zr,zq0,zr,Sim.ff,trivial⟩);rw [show fU okb (.stop w1_ p1)=K0 (.stop w1_ p1) by rw [hf]; rfl];refine CI (x:=x) (wq:=w1_) (q0:=⟨0,⟨0,0⟩,0,zRA,jz⟩) (J:=J.less n) (A:=x.A 0) (c:=x.c 0) (p:=p1) hF (hok.mono fun b o u h1 h2 => ⟨h1,fun hh => h2 ?_⟩) rfl rfl;refine Fq (fun _ _ h => h) ?_ rfl hh;intro y hy;simp only [List.mem_cons,List.not_mem_nil,or_false] at hy
 rcases hy with rfl | rfl | rfl | rfl<;>first | exact ⟨8,_,rfl,rfl⟩ | exact ⟨9,_,rfl,rfl⟩ | exact ⟨11,_,rfl,rfl⟩ | exact ⟨32,_,rfl,rfl⟩
theorem xt:j3 Tryz.prog 99:=fun _ _ => by kernel_rfl
theorem CQ (k0 b:Nat) (J:i6) (hJ:k8 J) (A:Option Addr) (c:Nat) (p:Pst) (hp:i5 p) (hn:p.n<=1000000):B7 99 k0 b J A c p [] yQ (Y1 J.bucket J.budget p):=B7.re (zw b J hJ A c p hp hn) trivial
theorem uj {bk k:Int} {p q:Pst} {a:Rsl} (h:Y1 bk k p = .ok a q):a.items=[]:=by
 unfold Y1 at h
 cases h1:D6 bk k (p.n + 1) cU [] p with
 | stop w p1 => rw [h1] at h; cases h
 | ok o p1 =>
  rw [h1] at h;simp only [Rs.bind] at h
  cases h2:aU k o p1 with
  | stop w p2 => rw [h2] at h; cases h
  | ok u p2 => rw [h2] at h; injection h with h _; rw [<-h]
theorem nz (J:i6) (hJ:bF J) (A:Option Addr) (n c:Nat) (f:Nat -> l9) (hn:n<=900000) (hin:∀ j,j < n -> InG (f j)):j5 Tryz.prog 40 [U2 J,cg A n c f] (fun x => .tup [B5 (wqA x (E4 J n f).1),.int .i64 (E4 J n f).2]):=by
 intro m w hm hargs;have hk:dU 1 (fun _ => 6) J.kind=(decide (J.kind=6)):=by rw [BT]; simp only [xI J.kind]<;>rfl
 have hdo:(G6 J && dU 1 (fun _ => 6) J.kind && I7 n f)=true -> ∀ k0 b,ol 99 k0 b (J.less n) A c (oV n f) [] (Y1 J.bucket (J.budget - n) (oV n f)):=by
  intro hok k0 b;rw [hk] at hok;simp only [Bool.and_eq_true] at hok;obtain ⟨⟨h1,h2⟩,h3⟩:=hok;exact (CQ k0 b (J.less n) (qJ hJ h1 hn) A c (oV n f) (qx hin h3) (by show n<=1000000; omega)).a fun a q h => uj h
 have S:∀ kG kA cells,cells 0=[.int .i64 6] -> j5 Tryz.prog 54 [U2 J,cg A n c f,.sl kG kA 1 1 1 cells,.fn 99 [] []] (fun x => .tup [B5 (wqA x (E4 J n f).1),.int .i64 (E4 J n f).2]):=by
  intro kG kA cells h10;unfold E4;rw [<-hk];refine (((CL 99 _ J hJ A n c f hn hin kG kA 1 1 (fun _ => 6) hdo xt).x (fun _ => rfl)).pure (fun _ => rfl)).sim ⟨zr,zr,Sim.recell (fun i hi => ?_),zr,trivial⟩
  match i,hi with
  | 0,_ => rw [h10]<;>rfl
 obtain ⟨W9,hW9⟩:=eqv ((E4 J n f).1);obtain ⟨E9,hE9⟩:=eqv ((E4 J n f).2);obtain ⟨rr9,hrr9⟩:=eqv (W9.r.rn);obtain ⟨nn9,hnn9⟩:=eqv (W9.res.items.length);obtain ⟨ff9,hff9⟩:=eqv (itF W9.res.items);have T9:=j5.wq (S none none (fun i => [.int .i64 ((fun _ => 6) i)]) rfl) hW9 hE9 hrr9 hnn9 hff9;have T:∀ kG kA cells,cells 0=[.int .i64 6] -> j5 Tryz.prog 54 [U2 J,cg A n c f,.sl kG kA 1 1 1 cells,.fn 99 [] []] (fun x => .tup [B5 (wqB x W9 rr9 nn9 ff9),.int .i64 E9]):=fun kG kA cells h10 => j5.wq (S kG kA cells h10) hW9 hE9 hrr9 hnn9 hff9
 refine en 12 hm hargs Tryz.func40 fun B hB a0 hF => ?_
 refine wp_seq (rg hB a6 [1,2,4] [2,4] [] hF fun X0 a0 w1 hF => ?_);apply wp_seq;refine rg hB a6 [4,5] [4,8] [(3,.r fun x => .tup [.agg [.int .i64 W9.kind,.int .i64 W9.lab.len,.int .u64 W9.lab.bits,.int .u64 W9.ver,.int .i64 rr9.kd,.sl none (x.A 1) rr9.n (x.c 1) 2 (fun i => itC (rr9.f i)),.int .i64 rr9.nx.len,.int .u64 rr9.nx.bits,.int .u64 rr9.mrk,.int .i64 W9.res.code,.bool (.v W9.res.had),.str W9.res.val,.sl none (x.A 2) nn9 (x.c 2) 2 (fun i => itC (ff9 i)),.int .u64 W9.res.key,.bool (.v W9.res.more)],.int .i64 E9])] hF (hob:=by intro X; subst hB; simp only [b5,Ob.holds,BE.den]<;>and_intros<;>repeat first | trivial | rfl | exact T _ _ _ rfl | exact (fun _ _ => by kernel_rfl) | refine ⟨?_,?_⟩ | intro h | exact Int.le_refl _ | decide | omega) fun X1 a0 w1 hF => ?_
 refine wp_ret ((rsi hB a6 hF ((X1 3)) (he:=?_)));subst hB;rw [<-hW9,<-hE9];unfold wqA;rw [<-hrr9,<-hnn9,<-hff9];exact zr
theorem zk (J:i6) (hJ:bF J) (h6:J.kind=6) (A:Option Addr) (n c:Nat) (f:Nat -> l9) (hn:n<=900000) (hin:∀ j,j < n -> InG (f j)):j5 Tryz.prog 110 [U2 J,cg A n c f] (fun x => .tup [B5 (wqA x (E4 J n f).1),.int .i64 (E4 J n f).2]):=by
 intro m w hm hargs;obtain ⟨W9,hW9⟩:=eqv ((E4 J n f).1);obtain ⟨E9,hE9⟩:=eqv ((E4 J n f).2);obtain ⟨rr9,hrr9⟩:=eqv (W9.r.rn);obtain ⟨nn9,hnn9⟩:=eqv (W9.res.items.length);obtain ⟨ff9,hff9⟩:=eqv (itF W9.res.items);have T9:=j5.wq (nz J hJ A n c f hn hin) hW9 hE9 hrr9 hnn9 hff9;refine en 42 hm hargs Tryz.func110 fun B hB a0 hF => ?_
 refine wp_seq (rg hB a6 [1,2,4] [2,4] [] hF fun X0 a0 w1 hF => ?_);refine wp_seq (wp_seq (rg hB a6 [14,1,2,4] [2,4] [] hF fun X1 a0 w1 hF => ?_));apply a7 hF rfl<;>intro hb hF
 .have O1:=T9
  refine wp_seq (rg hB a6 [4,6,7] [4,6] [(2,.r fun x => .tup [.agg [.int .i64 W9.kind,.int .i64 W9.lab.len,.int .u64 W9.lab.bits,.int .u64 W9.ver,.int .i64 rr9.kd,.sl none (x.A 1) rr9.n (x.c 1) 2 (fun i => itC (rr9.f i)),.int .i64 rr9.nx.len,.int .u64 rr9.nx.bits,.int .u64 rr9.mrk,.int .i64 W9.res.code,.bool (.v W9.res.had),.str W9.res.val,.sl none (x.A 2) nn9 (x.c 2) 2 (fun i => itC (ff9 i)),.int .u64 W9.res.key,.bool (.v W9.res.more)],.int .i64 E9])] hF fun X2 a0 w1 hF => ?_);refine wp_seq (rg hB a6 [4,5] [4] [] hF fun X3 a0 w1 hF => ?_);refine wp_ret ((rsi hB a6 hF ((X2 2)) (he:=?_)));subst hB;rw [<-hW9,<-hE9];unfold wqA;rw [<-hrr9,<-hnn9,<-hff9];exact zr
 exfalso
 have h9:¬ J.kind=6:=by subst hB; simpa [std,a8] using hb
 exact h9 h6
theorem pI:j3 Tryz.prog 46:=fun _ _ => by kernel_rfl
theorem vI (b bM:Nat) (J:i6) (hJ:bF J) (h6:J.kind=6) (L:Shf) (hL:dW L) (k:Int):J4 Tryz.prog 46 [.ptr 0 b 0,U2 J,.int .i64 3000] [(0,⟨b,113,[.raw (.map (some bM)),.int .i64 k]⟩)] (some bM) (shK bM L) (fun y => ⟨.tup [vK y (R7 (E4 J) 3000 2001 [] L k).res,.bool (.v (decide ((R7 (E4 J) 3000 2001 [] L k).st=2))),.bool (.v (decide ((R7 (E4 J) 3000 2001 [] L k).st=2 \/ (R7 (E4 J) 3000 2001 [] L k).st=4/\(R7 (E4 J) 3000 2001 [] L k).err=12)))],[(0,[.raw (.map (some bM)),.int .i64 (R7 (E4 J) 3000 2001 [] L k).k])],[]⟩) (fun _ _ => shK bM (R7 (E4 J) 3000 2001 [] L k).L):=by
 intro m w hm hargs hpre hI;have hmx:maxLen=9223372036854775807:=rfl;have hmp:=G9 hI;have hNx:FP (E4 J):=sn hJ;obtain ⟨RQ,hRQ⟩:=eqv (R7 (E4 J) 3000 2001 [] L k);rw [<-hRQ] at ⊢;refine enM (bo:=some bM) 53 hm hpre hI hargs Tryz.func46 fun B hB a0 hF => ?_
 refine wp_seq (rg hB a6 [0,2,4,6] [0,4,6] [] hF fun X0 a0 w1 hF => ?_);refine wp_seq (rg hB a6 [0,2,4,6,9] [0,4,6,9,51] [] hF fun X1 a0 w1 hF => ?_);refine wp_seq (wp_seq (rg hB a6 [9,10,0,2,4,6] [0,4,6,9,51] [] hF fun X2 a0 w1 hF => ?_));replace hF:=hF.headS (v':=.sl (some 9) none 0 0 8 (fun t => R8 (kL Q6))) (zq0) rfl;refine wp_block (ao (ι:=Nat × (Nat -> l9) × Option Addr × Nat × Shf × Int × List Got) (fun q => shK bM q.2.2.2.2.1) (fun q => [(9,.sl (some 9) q.2.2.1 q.1 q.2.2.2.1 8 (fun t => R8 (q.2.1 t))),(10,.int .i64 (q.1:Int))]) (fun q => [(0,⟨b,113,[.raw (.map (some bM)),.int .i64 q.2.2.2.2.2.1]⟩)]) (fun q => [(9,⟨q.2.2.1,q.1,q.2.2.2.1,8,53⟩)]) (fun q => q.1<=2001/\dW q.2.2.2.2.1/\(∀ j,j < q.1 -> InG (q.2.1 j))/\q.2.2.2.2.2.2.length=q.1/\oo q.2.2.2.2.2.2 q.2.1/\RQ=R7 (E4 J) 3000 (2001 - q.1) q.2.2.2.2.2.2 q.2.2.2.2.1 q.2.2.2.2.2.1) (fun q => 2001 - q.1) (0,fun _ => kL Q6,none,0,L,k,[]) ⟨Nat.zero_le _,hL,fun j hj => absurd hj (Nat.not_lt_zero _),rfl,oo.nil,hRQ⟩ hF ?_)
 rintro ⟨i,fz,A1,c1,Lc,kc,gs⟩ ⟨hi,hg,hal,hgl,hlie,hrun⟩ a0 w1 hF
 try dsimp only at hi
 try dsimp only at hg
 try dsimp only at hal
 try dsimp only at hgl
 try dsimp only at hlie
 try dsimp only at hrun
 replace hF:=hF.withK (K':=shK bM Lc) hF.kept;refine wp_seq (wp_seq (rg hB a6 [16,0,2,4,6,9,10] [0,4,6,9,51] [] hF fun X3 a0 w1 hF => ?_));apply a7 hF rfl<;>intro hb hF
 .have hi0:i < 2001:=by
   have:(i:Int)<=2000:=by subst hB; simpa [std,a8] using hb
   omega
  obtain ⟨m0,hm0⟩:∃ m,2001 - i=m + 1:=⟨2000 - i,by omega⟩
  rw [hm0] at hrun;have hwo:=hNx.ok i fz hal;obtain ⟨W9,hW9⟩:=eqv ((E4 J i fz).1);obtain ⟨E9,hE9⟩:=eqv ((E4 J i fz).2);obtain ⟨rr9,hrr9⟩:=eqv (W9.r.rn);obtain ⟨nn9,hnn9⟩:=eqv (W9.res.items.length);obtain ⟨ff9,hff9⟩:=eqv (itF W9.res.items);have T9:=j5.wq (zk J hJ h6 A1 i c1 fz (by omega) hal) hW9 hE9 hrr9 hnn9 hff9;rw [<-hW9] at hwo;have S9:j5 Tryz.prog 110 [U2 J,.sl (some 9) A1 i c1 8 (fun t => R8 (fz t))] (fun x => .tup [B5 (wqB x W9 rr9 nn9 ff9),.int .i64 E9]):=T9.sim ⟨zr,Sim.recell (fun _ _ => rfl),trivial⟩;have hq9:E4 J gs.length (eR gs)=(W9,E9):=by
   rw [<-hlie.next hNx.er,hgl,hW9,hE9]
  have O1:=S9;refine wp_skip (wp_seq (wp_block (wp_seq (rg hB a6 [0,2,4,6,9,10,11,12] [0,4,6,9,11,51] [(2,.r fun x => .tup [.agg [.int .i64 W9.kind,.int .i64 W9.lab.len,.int .u64 W9.lab.bits,.int .u64 W9.ver,.int .i64 rr9.kd,.sl none (x.A 1) rr9.n (x.c 1) 2 (fun i => itC (rr9.f i)),.int .i64 rr9.nx.len,.int .u64 rr9.nx.bits,.int .u64 rr9.mrk,.int .i64 W9.res.code,.bool (.v W9.res.had),.str W9.res.val,.sl none (x.A 2) nn9 (x.c 2) 2 (fun i => itC (ff9 i)),.int .u64 W9.res.key,.bool (.v W9.res.more)],.int .i64 E9])] hF fun X5 a0 w1 hF => ?_))));refine wp_seq (wp_seq (rg hB a6 [26,0,2,4,6,9,10,11] [0,4,6,9,11,51] [] hF fun X6 a0 w1 hF => ?_));apply a7 hF rfl<;>intro hb hF
  .have he:E9 ≠ 0:=by subst hB; simpa [std,a8] using hb
   have hq:RQ=⟨1,dm,gs.length,0,Lc,kc⟩:=by rw [hrun]; exact Cm hq9 he
   refine wp_seq (rg hB a6 [6,7,8] [0,6] [] hF fun X7 a0 w1 hF => ?_);refine wp_ret ((rm hB a6 hF (⟨0,fun _ => none,fun _ => 0,fun _ => .empty⟩) [] (hmap:=?_) (he:=?_) (hs:=?_) (hJ:=?_)).1)
   .intro b hb; cases hb; exact ⟨hmp,fun m h => G9 h⟩
   .rw [hq]; subst hB
    exact Sim.tup ⟨Sim.agg ⟨zr,zr,zr,zq0,zr,zr,trivial⟩,zr,zr,trivial⟩
   .rw [hq]; subst hB; exact ⟨rfl,⟨_,rfl,zl⟩,trivial⟩
   rw [hq]; exact fun _ _ h => h
  have he:E9=0:=by subst hB; simpa [std,a8] using hb
  rw [he] at hq9;refine wp_skip (wp_seq (wp_seq (rg hB a6 [30,0,2,4,6,9,10,11] [0,4,6,9,11,51] [] hF fun X8 a0 w1 hF => ?_)));apply a7 hF rfl<;>intro hb hF
  .have hk4:W9.kind=4:=by subst hB; simpa [std,a8] using hb
   have hq:RQ=⟨2,W9.res,gs.length,0,Lc,kc⟩:=by rw [hrun]; exact yP hq9 hk4
   refine wp_seq (rg hB a6 [6,7,8] [0,6] [] hF fun X9 a0 w1 hF => ?_);refine wp_ret ((rm hB a6 hF ((X5 2)) [] (hmap:=?_) (he:=?_) (hs:=?_) (hJ:=?_)).1)
   .intro b hb; cases hb; exact ⟨hmp,fun m h => G9 h⟩
   .rw [hq]; subst hB
    rw [show nn9=W9.res.items.length from hnn9,show ff9=itF W9.res.items from hff9];exact Sim.tup ⟨zr,zr,zr,trivial⟩
   .rw [hq]; subst hB; exact ⟨rfl,⟨_,rfl,zl⟩,trivial⟩
   rw [hq]; exact fun _ _ h => h
  have hk4:¬ W9.kind=4:=by subst hB; simpa [std,a8] using hb
  refine wp_skip (wp_seq (wp_seq (rg hB a6 [35,0,2,4,6,9,10,11] [0,4,6,9,11,51] [] hF fun X10 a0 w1 hF => ?_)));apply a7 hF rfl<;>intro hb hF
  .exfalso
   have h9:(3000:Int)<=(i:Int):=by subst hB; simpa [std,a8] using hb
   omega
  refine wp_skip (wp_seq (wp_region_lit (lpr 0 2 hB a6 [38,39,9,0,10,2,4,6] [0,4,6,9] [] hF fun X12_0 a0 w1 hF => ?_)));have SD:=Ab 0 b bM Lc (by have:=hg.ok.len; omega) kc (wqB (X5 2) W9 rr9 nn9 ff9) (by show rr9.n<=_; rw [hrr9]; have:=hwo.r.few; show W9.r.items.length<=_; omega) hwo.lab.wf hwo.lab.u (by show U64 rr9.nx.bits; rw [hrr9]; exact hwo.r.nx)
  obtain ⟨D1,hD1⟩:=eqv (doL Lc (u0.abs (wqB (X5 2) W9 rr9 nn9 ff9)));rw [<-hD1] at SD;obtain ⟨GG1,hGG1⟩:∃ G:f9 -> l9,G=fun y => ci y D1.got:=⟨_,rfl⟩
  have hGf1:∀ y,ci y D1.got=GG1 y:=fun y => by rw [hGG1]
  simp only [hGf1] at SD;obtain ⟨k1,hk1⟩:=eqv ((if D1.wrote then IntKind.i64.wrap (kc + 1) else kc));rw [<-hk1] at SD;obtain ⟨er1,her1⟩:=eqv (D1.err);rw [<-her1] at SD;obtain ⟨L1,hL1⟩:=eqv (D1.L);rw [<-hL1] at SD;refine D7 rfl rfl rfl rfl hF rfl rfl gy SD (fun _ _ h => h) (fun b hb => by cases hb; exact fun _ => .inr rfl) ⟨zr,Sim.agg (by repeat (first | exact trivial | refine ⟨zr,?_⟩ | refine ⟨Sim.ff,?_⟩ | refine ⟨zq0,?_⟩)),trivial⟩ (by intro e he; simp only [List.mem_singleton] at he; subst he; rfl) rfl rfl (fun _ => shK bM L1) (fun _ _ _ _ _ _ _ _ _ h => h) ?_;intro y a0 w1 hF;obtain ⟨g1,hg1⟩:=eqv (GG1 y);rw [<-hg1] at hF;replace hF:=hF.withK (K':=shK bM L1) hF.kept;have hga1:g1.abs=D1.got:=by rw [hg1,<-hGf1,gn]
  have hra:rr9.abs=W9.r:=by rw [hrr9,V1]
  have hD1w:D1=doL Lc (dp W9):=by
   rw [hD1];unfold u0.abs wqB dp;simp only [hra]
  have hgd:dW D1.L/\U64 D1.got.ver/\U7 D1.got.r:=by
   rw [hD1w];exact gD hg ⟨hwo.lab.wf,hwo.r.nx,hwo.r.key⟩
  have hgi:InG g1:=qR hga1 hgd.2.1 hgd.2.2;have hg1s:dW L1:=by rw [hL1]; exact hgd.1
  have hge:g1.er=kL D1.got:=by rw [hg1,<-hGf1]; rfl
  refine lnd 3 hB a6 [0,2,4,6,9,10,13,14] [0,4,6,9,13,51] [] hF fun X12 a0 w1 hF => ?_
  refine wp_seq (wp_seq (rg hB a6 [44,0,2,4,6,9,10,13,14] [0,4,6,9,13,51] [] hF fun X13 a0 w1 hF => ?_));apply a7 hF rfl<;>intro hb hF
  .have he1:er1 ≠ 0:=by subst hB; simpa [std,a8] using hb
   have hq:RQ=⟨4,dm,gs.length,D1.err,L1,k1⟩:=by rw [hrun,hL1,hk1]; exact yO hq9 hk4 (by omega) hD1w (by rw [<-her1]; exact he1)
   refine wp_seq (rg hB a6 [6,7,8] [0,6] [] hF fun X14 a0 w1 hF => ?_);refine wp_ret ((rm hB a6 hF (⟨0,fun _ => none,fun _ => 0,fun _ => .empty⟩) [] (hmap:=?_) (he:=?_) (hs:=?_) (hJ:=?_)).1)
   .intro b hb; cases hb; exact ⟨hmp,fun m h => G9 h⟩
   .rw [hq]; subst hB
    exact Sim.tup ⟨Sim.agg ⟨zr,zr,zr,zq0,zr,zr,trivial⟩,zr,Sim.bool (by simp [std,a8,BE.den,lu,<-her1]; rfl),trivial⟩
   .rw [hq]; subst hB; exact ⟨rfl,⟨_,rfl,zl⟩,trivial⟩
   rw [hq]; exact fun _ _ h => h
  have he1:er1=0:=by subst hB; simpa [std,a8] using hb
  refine wp_skip ?_;refine rg hB a6 [9,10,0,2,4,6] [0,4,6,9,51] [] hF (hob:=by intro X; subst hB; simp only [b5,Ob.holds,BE.den]<;>and_intros<;>repeat first | trivial | rfl | exact (show i + 1<=maxLen by omega) | exact (show (i + 1) * 80<=140737488355328 by omega) | exact (fun _ _ => by kernel_rfl) | refine ⟨?_,?_⟩ | intro h | exact Int.le_refl _ | decide | omega) fun X15 a0 w1 hF => ?_
  replace hF:=hF.headS (v':=.sl (some 9) ((X15 3).A 0) (B.nadd i 1) ((X15 3).c 0) 8 (fun t => R8 (if t=i then g1 else fz t))) (Sim.resl rfl (fun t ht => by
   subst hB;have ht2:t < i + 1:=ht
   show F8 i (fun t => R8 (fz t)) (I4 8 (R8 g1)) t=_
   unfold F8
   split
   .rw [if_neg (by omega)]
   have:t=i:=by omega
   subst this;rw [if_pos rfl];simp [I4])) rfl
  refine rg hB a6 [9,10,0,2,4,6] [0,4,6,9,51] [] hF fun X4 a0 w1 hF => ?_
  have e:B.arith .add .i64 (i:Int) 1=((i + 1:Nat):Int):=by subst hB; exact j2 (n:=2001) (by omega) (by omega)
  refine ⟨(i + 1,fun t => if t=i then g1 else fz t,_,_,L1,k1,gs ++ [D1.got]),⟨by simp only; omega,hg1s,fun j hj => ?_,by simp [hgl],?_,?_⟩,by simp only; omega,by rw [<-e,show i + 1=B.nadd i 1 by subst hB; rfl]; exact hF⟩
  .by_cases hji:j=i
   .simp only [if_pos hji]; exact hgi
   simp only [if_neg hji]; exact hal j (by have h9:j < i + 1:=hj; omega)
  .have:=hlie.add hge
   rw [hgl] at this; exact this
  rw [hrun,Cn hq9 hk4 (by omega) hD1w (by rw [<-her1]; exact he1),hL1,hk1,show 2001 - (i + 1)=m0 by omega]
 have hi0:i=2001:=by
  have:¬ (i:Int)<=2000:=by subst hB; simpa [std,a8] using hb
  omega
 have hq:RQ=⟨0,dm,gs.length,0,Lc,kc⟩:=by rw [hrun,hi0]; rfl
 refine wp_exit (wp_seq (rg hB a6 [6,7,8] [0,6] [] hF fun X16 a0 w1 hF => ?_));refine wp_ret ((rm hB a6 hF (⟨0,fun _ => none,fun _ => 0,fun _ => .empty⟩) [] (hmap:=?_) (he:=?_) (hs:=?_) (hJ:=?_)).1)
 .intro b hb; cases hb; exact ⟨hmp,fun m h => G9 h⟩
 .rw [hq]; subst hB
  exact Sim.tup ⟨Sim.agg ⟨zr,zr,zr,zq0,zr,zr,trivial⟩,zr,zr,trivial⟩
 .rw [hq]; subst hB; exact ⟨rfl,⟨_,rfl,zl⟩,trivial⟩
 rw [hq]; exact fun _ _ h => h
theorem rS (k0:Nat) (b bM:Nat) (J:i6) (hJ:bF J) (h6:J.kind=6) (L:Shf) (hL:dW L) (k:Int):J4 Tryz.prog 46 [.ptr k0 b 0,U2 J,.int .i64 3000] [(k0,⟨b,113,[.raw (.map (some bM)),.int .i64 k]⟩)] (some bM) (shK bM L) (fun y => ⟨.tup [vK y (R7 (E4 J) 3000 2001 [] L k).res,.bool (.v (decide ((R7 (E4 J) 3000 2001 [] L k).st=2))),.bool (.v (decide ((R7 (E4 J) 3000 2001 [] L k).st=2 \/ (R7 (E4 J) 3000 2001 [] L k).st=4/\(R7 (E4 J) 3000 2001 [] L k).err=12)))],[(k0,[.raw (.map (some bM)),.int .i64 (R7 (E4 J) 3000 2001 [] L k).k])],[]⟩) (fun _ _ => shK bM (R7 (E4 J) 3000 2001 [] L k).L):=
 (vI b bM J hJ h6 L hL k).re (by repeat (first | exact trivial | refine ⟨Sim.ptr,?_⟩ | refine ⟨Sim.fn ⟨Sim.ptr,trivial⟩ trivial,?_⟩ | refine ⟨Sim.fn trivial ⟨Sim.ptr,trivial⟩,?_⟩ | refine ⟨zr,?_⟩)) rfl (fun x => ⟨rfl,rfl,zr,rfl⟩)
section
variable {α : Type}
def I3 (l:Lab):List (Lab × α) -> Option α
 | [] => none
 | p :: L => if p.1=l then some p.2 else I3 l L
def I0 (l:Lab) (x:α):List (Lab × α) -> List (Lab × α)
 | [] => [(l,x)]
 | p :: L => if p.1=l then (l,x) :: L else p :: I0 l x L
theorem Y4 {l:Lab} {x:α}:∀ {L:List (Lab × α)},I3 l L=some x -> (l,x) ∈ L
 | p :: L,h => by
  unfold I3 at h
  split at h
  .rename_i he; injection h with h; subst h; subst he; exact List.mem_cons_self ..
  exact List.mem_cons_of_mem _ (Y4 h)
theorem aF {p:Lab × α}:∀ {L:List (Lab × α)},(L.map (·.1)).Nodup -> p ∈ L -> I3 p.1 L=some p.2
 | q :: L,h,hp => by
  have h':=List.nodup_cons.1 h;unfold I3
  rcases List.mem_cons.1 hp with rfl | hp
  .rw [if_pos rfl]
  rw [if_neg (fun e => h'.1 (List.mem_map.2 ⟨p,hp,e.symm⟩))];exact aF h'.2 hp
theorem dJ {l k:Lab} {x:α}:∀ {L:List (Lab × α)},I3 k (I0 l x L)=if l=k then some x else I3 k L
 | [] => by simp [I0,I3]
 | p :: L => by
  unfold I0
  by_cases h:p.1=l
  .rw [if_pos h]
   unfold I3
   by_cases hk:l=k
   .simp [hk]
   simp [hk,h]
  rw [if_neg h];unfold I3;rw [dJ]
  by_cases hk:l=k
  .subst hk; simp [h]
  simp [hk]
theorem jN {l:Lab} {x:α}:∀ {L:List (Lab × α)},(I0 l x L).map (·.1)=if (I3 l L).isSome then L.map (·.1) else L.map (·.1) ++ [l]
 | [] => by simp [I0,I3]
 | p :: L => by
  unfold I0 I3
  by_cases h:p.1=l
  .simp [h]
  simp only [if_neg h,List.map_cons,jN]
  split<;>simp
theorem fL {l:Lab} {x:α} (L:List (Lab × α)):(I0 l x L).length=if (I3 l L).isSome then L.length else L.length + 1:=by
 have:=congrArg List.length (jN (l:=l) (x:=x) (L:=L));rw [List.length_map] at this;rw [this]
 split<;>simp
theorem mw {l:Lab}:∀ {L:List (Lab × α)},I3 l L=none -> l ∉ L.map (·.1)
 | [],_ => by simp
 | p :: L,h => by
  unfold I3 at h
  split at h
  .cases h
  rename_i hn
  simp only [List.map_cons,List.mem_cons,not_or];exact ⟨fun e => hn e.symm,mw h⟩
theorem lL {l:Lab} {x:α} {L:List (Lab × α)} (h:(L.map (·.1)).Nodup):((I0 l x L).map (·.1)).Nodup:=by
 rw [jN]
 split
 .exact h
 rename_i hn
 have:=mw (by simpa using hn:I3 l L=none);exact List.nodup_append.2 ⟨h,by simp,fun a ha b hb => by simp at hb; subst hb; exact fun e => this (e ▸ ha)⟩
theorem yK {l:Lab} {x:α} {L:List (Lab × α)} (h:(L.map (·.1)).Nodup) (p:Lab × α):p ∈ I0 l x L ↔ p=(l,x) \/ (p ∈ L/\p.1 ≠ l):=by
 constructor
 .intro hp
  have h1:=aF (lL (l:=l) (x:=x) h) hp;rw [dJ] at h1
  by_cases he:l=p.1
  .rw [if_pos he] at h1
   injection h1 with h1
   obtain ⟨p1,p2⟩:=p;simp only at he h1;subst he; subst h1;exact .inl rfl
  rw [if_neg he] at h1;exact .inr ⟨Y4 h1,fun e => he e.symm⟩
 rintro (rfl | ⟨hp,hne⟩)
 .exact Y4 (by rw [dJ,if_pos rfl])
 exact Y4 (x:=p.2) (l:=p.1) (by rw [dJ,if_neg (fun e => hne e.symm)]; exact aF h hp)
structure LmD (el:α -> AV) (D:DataW Value) (b:Nat) (L:List (Lab × α)) (m:Nat -> Nat -> Prop) (w:World):Prop where
 map:U9 Tryz.prog 24 w b L.length D
 nd:(L.map (·.1)).Nodup
 labs:∀ p ∈ L,k4 p.1
 has:∀ kl,Maps.has D kl=true ↔ ∃ p ∈ L,u4 p.1=kl
 size:Maps.size D=L.length
 at_:∀ p ∈ L,∀ zd,D.atKey (u4 p.1) zd = .held (el p.2).den
 ok:∀ p ∈ L,Ok m w (el p.2)
variable {el:α -> AV} {D:DataW Value} {b:Nat} {L:List (Lab × α)} {m m':Nat -> Nat -> Prop} {w w':World} {l:Lab}
theorem LmD.keepB {bo:Option Nat} (h:LmD el D b L m w) (k:P1 bo w m w' m') (hb:bo ≠ some b):LmD el D b L m' w':=
 ⟨fm k hb h.map,h.nd,h.labs,h.has,h.size,h.at_,fun p hp => k.ok (h.ok p hp)⟩
theorem LmD.keep (h:LmD el D b L m w) (k:R3 w m w' m'):LmD el D b L m' w':=
 ⟨lY k h.map,h.nd,h.labs,h.has,h.size,h.at_,fun p hp => k.ok (h.ok p hp)⟩
def lmK (el:α -> AV) (b:Nat) (L:List (Lab × α)):Kn:=⟨fun m w => ∃ D,LmD el D b L m w,fun k ⟨D,h⟩ => ⟨D,h.keep k⟩⟩
def lmF (el:α -> AV) (n b:Nat) (L:List (Lab × α)):Kn:=⟨fun m w => n<=b/\(lmK el b L).p m w,fun k h => ⟨h.1,(lmK el b L).st k h.2⟩⟩
theorem gc {n:Nat} (h:b ≠ n):(lmK el b L).off n:=fun k ⟨D,x⟩ => ⟨D,x.keepB k (fun e => h (by injection e with e; exact e.symm))⟩
theorem uo {n:Nat} (h:b < n):(lmK el b L).under n:=fun l hl => gc (by omega)
theorem gd (h:(lmK el b L).p m w):∃ es cl,w.heap[b]? = some (.map es cl):=by
 obtain ⟨D,h⟩:=h;obtain ⟨es,cl,hb,_⟩:=h.map;exact ⟨es,cl,hb⟩
theorem kw (h:(lmK el b L).p m w):b < w.heap.size:=by
 obtain ⟨es,cl,hb⟩:=gd h;exact L3 hb
theorem wT:(lmK el b L).self:=fun _ _ h => uo (kw h)
theorem LmD.empty (h:U9 Tryz.prog 24 w b 0 (.map [])):LmD el (.map []) b [] m w:=
 ⟨h,.nil,fun p hp => (by cases hp),fun kl => ⟨fun h => (by cases h),fun ⟨p,hp,_⟩ => (by cases hp)⟩,rfl,fun p hp => (by cases hp),fun p hp => (by cases hp)⟩
theorem LmD.hasL (h:LmD el D b L m w) (hl:k4 l):Maps.has D (u4 l)=(I3 l L).isSome:=by
 cases hf:I3 l L with
 | some x => exact (h.has _).2 ⟨(l,x),Y4 hf,rfl⟩
 | none =>
  rw [Option.isSome_none,Bool.eq_false_iff];intro hh;obtain ⟨p,hp,he⟩:=(h.has _).1 hh;have:p.1=l:=cb (h.labs p hp) hl he;rw [<-this,aF h.nd hp] at hf
  cases hf
theorem LmD.look (h:LmD el D b L m w) (hl:k4 l) {mt e:TypeId} (ht:Tryz.prog.underlying mt=some (.map 24 e)) {z:α} (hz:(zeroValue e).run Tryz.prog w = .ok (el z).den w) (hzo:Ok m w (el z)) (c:Bool) :
  (Instr.lookup mt (.map (some b)) (b6 l).den c).run Tryz.prog w = .ok (if c then .tuple #[(el ((I3 l L).getD z)).den,.bool (I3 l L).isSome] else (el ((I3 l L).getD z)).den) w/\Ok m w (el ((I3 l L).getD z)):=by
 have hh:=h.hasL hl;obtain ⟨es,clock,hb,F,_,hD⟩:=h.map
 rcases Maps.fit_look c Z1 ht hz hb F (J1 hl) with ⟨hrun,_,hat⟩ | ⟨e0,y,_,_,hrun,hRv,hat,_⟩
 .rw [<-hD] at hat
  have hf:=Maps.has_false_of_atKey hat;rw [hh] at hf;have hn:I3 l L=none:=by cases hg:I3 l L with
   | none => rfl
   | some x => rw [hg] at hf; cases hf
  rw [hn];exact ⟨hrun,hzo⟩
 rw [<-hD] at hat;have hf:=Maps.has_true_of_atKey hat;rw [hh] at hf;obtain ⟨x,hx⟩:=Option.isSome_iff_exists.1 hf;have hm:=Y4 hx;have e1:=h.at_ _ hm (.held Go.undef);rw [hat] at e1;have e2:y.1 = .held e0.val:=by unfold hR at hRv; injection hRv with hRv; rw [<-hRv]
 rw [e2] at e1;injection e1 with e1
 rw [hx];simp only at e1;simp only [Option.getD_some,Option.isSome_some];exact ⟨by rw [<-e1]; exact hrun,h.ok _ hm⟩
theorem sq {K:Kn} (hK:∀ m w,K.p m w -> (lmK el b L).p m w) (hl:k4 l) {mt e:TypeId} (ht:Tryz.prog.underlying mt=some (.map 24 e)) {z:α} (hz:∀ w,(zeroValue e).run Tryz.prog w = .ok (el z).den w) (hzo:∀ m w,Ok m w (el z)) {v:AV} (hv:el ((I3 l L).getD z)=v) {h:Bool} (hh:(I3 l L).isSome=h):Ob.holds Tryz.prog K (.look mt true (.raw (.map (some b))) (b6 l) (.tup [v,.bool (.v h)])):=by
 intro m w hk;obtain ⟨D,hD⟩:=hK m w hk;obtain ⟨h1,h2⟩:=hD.look hl ht (hz w) (hzo m w) true;rw [hv] at h1 h2;rw [hh] at h1;refine ⟨by rw [show AV.den (.raw (.map (some b)))=Value.map (some b) from rfl,h1]; simp [AV.den,AV.denL,BE.den],.tup _ fun u hu => ?_⟩
 simp only [List.mem_cons,List.not_mem_nil,or_false] at hu
 rcases hu with rfl | rfl
 .exact h2
 exact .bool _
theorem nC {K:Kn} (hK:∀ m w,K.p m w -> (lmK el b L).p m w) (hl:k4 l) {mt e:TypeId} (ht:Tryz.prog.underlying mt=some (.map 24 e)) {z:α} (hz:∀ w,(zeroValue e).run Tryz.prog w = .ok (el z).den w) (hzo:∀ m w,Ok m w (el z)) {v:AV} (hv:el ((I3 l L).getD z)=v):Ob.holds Tryz.prog K (.look mt false (.raw (.map (some b))) (b6 l) v):=by
 intro m w hk;obtain ⟨D,hD⟩:=hK m w hk;obtain ⟨h1,h2⟩:=hD.look hl ht (hz w) (hzo m w) false;rw [hv] at h1 h2;exact ⟨h1,h2⟩
theorem LmD.put (h:LmD el D b L m w) (hl:k4 l) (k:P1 (some b) w m w' m) {x:α} (hv:Ok m w (el x)) (hM:U9 Tryz.prog 24 w' b (L.length + 1) (D.put (u4 l) (.held (el x).den))):∃ D',LmD el D' b (I0 l x L) m w':=by
 have hkey:WideAt.IsKeyLit (u4 l):=Z1.key (J1 hl);have hmp:Maps.IsMap D:=(h.map.tidy Z1).isMap;have hsz:=lX hM;have hlen:Maps.size (D.put (u4 l) (.held (el x).den))=(I0 l x L).length:=by
  rw [Maps.size_put (h.map.tidy Z1),h.hasL hl,fL];rw [h.size]
 have hin:=yK (l:=l) (x:=x) h.nd;refine ⟨_,?_,lL h.nd,fun p hp => ?_,fun kl => ?_,hlen,fun p hp zd => ?_,fun p hp => ?_⟩
 .rw [hlen] at hsz; exact hsz
 .rcases (hin p).1 hp with rfl | ⟨hp,_⟩
  .exact hl
  exact h.labs p hp
 .by_cases he:kl=u4 l
  .subst he
   rw [Maps.has_put_same hmp hkey];exact ⟨fun _ => ⟨_,(hin _).2 (.inl rfl),rfl⟩,fun _ => rfl⟩
  rw [Maps.has_put_other he,h.has]
  constructor
  .rintro ⟨p,hp,hk⟩
   exact ⟨p,(hin p).2 (.inr ⟨hp,fun e => he (by rw [<-hk,e])⟩),hk⟩
  rintro ⟨p,hp,hk⟩
  rcases (hin p).1 hp with rfl | ⟨hp,_⟩
  .exact absurd hk.symm he
  exact ⟨p,hp,hk⟩
 .rcases (hin p).1 hp with rfl | ⟨hp,hne⟩
  .rw [Maps.atKey_put_same hmp hkey]
  rw [Maps.atKey_put_other (fun e => hne (cb (h.labs p hp) hl e))];exact h.at_ p hp zd
 rcases (hin p).1 hp with rfl | ⟨hp,hne⟩
 .exact k.ok hv
 exact k.ok (h.ok p hp)
theorem jr {n:Nat} (h0:U9 Tryz.prog 24 w b n D) (hl:k4 l) (h:(lmK el b L).p m w) (k:P1 (some b) w m w' m) {v:AV} {x:α} (hs:Sim v (el x)) (hv:Ok m w v) (hM:U9 Tryz.prog 24 w' b (L.length + 1) (D.put (u4 l) (.held v.den))):(lmK el b (I0 l x L)).p m w':=by
 obtain ⟨D1,h1⟩:=h;have:=pj h0 h1.map;subst this;rw [hs.1] at hM;exact h1.put hl k (hs.2.2 _ _ hv) hM
end
theorem U1:Tryz.prog.underlying 138=some (.map 24 35):=by kernel_rfl
theorem fX:Tryz.prog.underlying 143=some (.map 24 24):=by kernel_rfl
theorem ta (l:Lab) (f:Nat -> Itm) (i:Nat):D8 l (b7 f (i + 1))=D8 l (b7 f i) ++ (if B1 l (f i).key=true then [f i] else []):=by
 unfold b7 D8;rw [List.range_succ,List.map_append,List.filter_append]
 congr 1
 by_cases h:B1 l (f i).key=true<;>simp [h]
def Z4 (f:Nat -> l5):Nat -> List (Lab × RA)
 | 0 => []
 | n + 1 => I0 (f n).lab (f n).x (Z4 f n)
theorem gM (f:Nat -> l5):∀ n,(Z4 f n).length<=n
 | 0 => Nat.le_refl _
 | n + 1 => by
  have:=gM f n;unfold Z4;rw [fL]
  split<;>omega
theorem vr (A:Option Addr) (n c:Nat) (f:Nat -> Itm) (hn:n<=1000000) (l:Lab) (hb0:U64 l.bits) (hki:∀ i,i < n -> U64 (f i).key):j5 Tryz.prog 109 [l4 A n c f,b6 l] (fun x => l4 (x.A 0) (D8 l (b7 f n)).length (x.c 0) (itF (D8 l (b7 f n)))):=by
 intro m w hm hargs;have hmx:maxLen=9223372036854775807:=rfl;unfold l4 at hargs ⊢;simp only [b6] at hargs ⊢;refine en 24 hm hargs Tryz.func109 fun B hB a0 hF => ?_
 refine wp_seq (rg hB a6 [0,3] [3] [] hF fun X0 a0 w1 hF => ?_);refine wp_seq (rg hB a6 [5,3,0] [3,5] [] hF fun X1 a0 w1 hF => ?_);refine wp_seq (wp_seq (rg hB a6 [5,10,3,8,9] [3,5] [] hF fun X2 a0 w1 hF => ?_));replace hF:=hF.headS (v':=.sl (some 5) none 0 0 2 (fun t => itC r7)) (zq0) rfl;refine wp_block (l0 (ι:=Nat × Nat × (Nat -> Itm) × Option Addr × Nat) (fun p => [(5,.sl (some 5) p.2.2.2.1 p.2.1 p.2.2.2.2 2 (fun t => itC (p.2.2.1 t))),(10,.int .i64 (p.1:Int))]) (fun p => []) (fun p => [(5,⟨p.2.2.2.1,p.2.1,p.2.2.2.2,2,62⟩)]) (fun p => p.1<=n/\p.2.1<=p.1/\b7 p.2.2.1 p.2.1=D8 l (b7 f p.1)) (fun p => n - p.1) (0,0,fun _ => r7,none,0) ⟨Nat.zero_le _,Nat.le_refl _,rfl⟩ hF ?_)
 rintro ⟨i,q,g,A1,c1⟩ ⟨hi,hq,hg⟩ a0 w1 hF
 try dsimp only at hi
 try dsimp only at hq
 try dsimp only at hg
 refine wp_seq (rg hB a6 [11,5,10,3,8,9] [3,5] [] hF fun X3 a0 w1 hF => ?_);refine wp_seq (a7 hF rfl (fun hb hF => ?_) (fun hb hF => ?_))
 .have hin:i < n:=by
   have:(i:Int) < (n:Int):=by subst hB; simpa [std,a8] using hb
   omega
  have S:=BP l hb0 (f i).key (hki i hin);simp only [b6] at S;obtain ⟨cq,hcq⟩:=eqv (B1 l (f i).key);rw [<-hcq] at S;refine wp_skip (wp_seq (wp_block (wp_seq ?_)));refine rg hB a6 [7,5,10,3,8,9] [7,3,5] [] hF (hob:=by intro X; subst hB; simp only [b5,Ob.holds,BE.den]<;>and_intros<;>repeat first | trivial | rfl | exact (show (0:Int)<=(i:Int) by omega) | exact (show (i:Int) < (n:Int) by omega) | exact (fun _ _ => by kernel_rfl) | refine ⟨?_,?_⟩ | intro h | exact Int.le_refl _ | decide | omega) fun X4 a0 w1 hF => ?_
  replace hF:=hF.memS (cells':=itC (f i)) (by subst hB; exact zl);have O1:=S;refine wp_seq (rg hB a6 [17,7,5,10,3,8,9] [7,3,5] [(3,.r fun _ => .bool (.v cq))] hF fun X5 a0 w1 hF => ?_);apply a7 hF rfl<;>intro hb hF
  .have hct:cq=true:=hb
   rw [hct] at hcq;refine rg hB a6 [5,10,3,8,9] [3,5] [] hF (hob:=?hob) fun X6 a0 w1 hF => ?_
   case hob =>
    intro X;subst hB
    repeat (first | exact trivial | refine ⟨⟨rfl,rfl,rfl⟩,?_⟩ | refine ⟨rfl,?_⟩ | refine ⟨⟨show q + 1<=maxLen by omega,show (q + 1) * _<=_ by omega⟩,?_⟩)
   replace hF:=hF.headS (v':=.sl (some 5) ((X6 3).A 0) (B.nadd q 1) ((X6 3).c 0) 2 (fun t => itC (nQ g q (f i) t))) (Sim.resl rfl (fun t ht => by
    subst hB;have ht2:t < q + 1:=ht
    show F8 q (fun t => itC (g t)) (I4 2 [.int .u64 (f i).key,.str (f i).val]) t=_
    unfold F8 nQ
    split
    .rw [if_neg (by omega)]
    have:t=q:=by omega
    subst this;simp [I4,itC])) rfl
   refine rg hB a6 [5,10,3,8,9] [3,5] [] hF fun X7 a0 w1 hF => ?_
   have e:B.arith .add .i64 (i:Int) 1=((i + 1:Nat):Int):=by subst hB; exact j2 (n:=n) hin (by omega)
   refine ⟨(i + 1,q + 1,nQ g q (f i),_,_),⟨by simp only; omega,by simp only; omega,?_⟩,by simp only; omega,by rw [<-e,show q + 1=B.nadd q 1 by subst hB; rfl]; exact hF⟩
   simp only;rw [kP,hg,ta,if_pos hcq.symm]
  have hcf:cq=false:=hb;rw [hcf] at hcq;refine wp_skip (rg hB a6 [5,10,3,8,9] [3,5] [] hF fun X7 a0 w1 hF => ?_);have e:B.arith .add .i64 (i:Int) 1=((i + 1:Nat):Int):=by subst hB; exact j2 (n:=n) hin (by omega)
  refine ⟨(i + 1,q,g,_,_),⟨by simp only; omega,by simp only; omega,?_⟩,by simp only; omega,by rw [<-e]; exact hF⟩;simp only;rw [hg,ta,if_neg (by rw [<-hcq]; decide),List.append_nil]
 have hout:i=n:=by
  have:¬ (i:Int) < (n:Int):=by subst hB; simpa [std,a8] using hb
  omega
 rw [hout] at hg;refine wp_exit (wp_seq (rg hB a6 [4] [5] [] hF fun X8 a0 w1 hF => ?_));refine wp_ret ((rsi hB a6 hF (⟨0,fun _ => A1,fun _ => c1,fun _ => ⟨#[]⟩⟩) (he:=?_)));subst hB;exact Sim.resl (by rw [<-hg,i3]) (fun t ht => by rw [<-hg,i3] at ht; rw [<-hg,s9 _ _ t ht])
theorem Et (A:Option Addr) (n c:Nat) (f:Nat -> l5) (hn:n<=100000) (hN:∀ i,i < n -> k4 (f i).lab):J4 Tryz.prog 106 [T6 A n c f] [] none noK (fun y => ⟨.raw (.map (some (y.c 0))),[],[]⟩) (fun N y => lmF u9 N (y.c 0) (Z4 f n)):=by
 intro m w hm hargs hpre hI;have hmx:maxLen=9223372036854775807:=rfl;refine enM (bo:=none) 20 hm hpre hI hargs Tryz.func106 fun B hB a0 hF => ?_
 refine wp_seq (rg hB a6 [0] [] [] hF fun X0 a0 w1 hF => ?_);refine wp_seq (wp_region_lit (bj (k:=24) (e:=0) rfl rfl rfl rfl hF (Nat.le_of_ble_eq_true rfl) (lmK u9 w1.heap.size []) (fun m w' _ _ hM => ⟨_,LmD.empty hM⟩) ?_));obtain ⟨bM,hbM⟩:=eqv (w1.heap.size);rw [<-hbM];intro a0 w1 hfresh hF;have hbfr:w.heap.size<=bM:=hfresh;refine lnd 1 hB a6 [3,0] [] [] hF fun X1 a0 w1 hF => ?_
 refine wp_seq (wp_seq (rg hB a6 [9,3,7,8] [] [] hF fun X2 a0 w1 hF => ?_));refine wp_block (ao (ι:=Nat) (fun p => lmK u9 bM (Z4 f p)) (fun p => [(9,.int .i64 (p:Int))]) (fun p => []) (fun p => []) (fun p => p<=n) (fun p => n - p) 0 (Nat.zero_le _) hF ?_)
 rintro i hi a0 w1 hF
 try dsimp only at hi
 replace hF:=hF.withK (K':=lmK u9 bM (Z4 f i)) hF.kept;have hLn:=gM f i;refine wp_seq (rg hB a6 [10,9,3,7,8] [] [] hF fun X3 a0 w1 hF => ?_);refine wp_seq (a7 hF rfl (fun hb hF => ?_) (fun hb hF => ?_))
 .have hin:i < n:=by
   have:(i:Int) < (n:Int):=by subst hB; simpa [std,a8] using hb
   omega
  have hlab:=hN i hin;refine wp_skip (wp_seq (wp_block (wp_seq ?_)));refine rg hB a6 [5,9,3,7,8] [5] [] hF (hob:=by intro X; subst hB; simp only [b5,Ob.holds,BE.den]<;>and_intros<;>repeat first | trivial | rfl | exact (show (0:Int)<=(i:Int) by omega) | exact (show (i:Int) < (n:Int) by omega) | exact (fun _ _ => by kernel_rfl) | refine ⟨?_,?_⟩ | intro h | exact Int.le_refl _ | decide | omega) fun X4 a0 w1 hF => ?_
  replace hF:=hF.memS (cells':=u7 (f i)) (by subst hB; exact zl);refine wp_region_lit (lpr 0 5 hB a6 [13,15,17,9,3,7,8] [5] [] hF fun X5_0 a0 w1 hF => ?_);obtain ⟨D2,hD2⟩:=hF.kept;refine G1 (k:=24) (e:=35) rfl rfl rfl rfl hF rfl rfl rfl rfl rfl Z1 U1 hD2.map (by omega) (J1 hlab) (fun h => absurd h (by omega)) (lmK u9 bM (Z4 f (i + 1))) (fun m w' hk hkb hv hM => ?_) ?_
  .exact jr (x:=(f i).x) hD2.map hlab hk hkb (zr) hv hM
  intro w1 hF;refine wpList_nil (rg hB a6 [9,3,7,8] [] [] hF fun X6 a0 w1 hF => ?_);have e:B.arith .add .i64 (i:Int) 1=((i + 1:Nat):Int):=by subst hB; exact j2 (n:=n) hin (by omega)
  refine ⟨i + 1,by omega,by omega,by rw [<-e]; exact hF⟩
 have hout:i=n:=by
  have:¬ (i:Int) < (n:Int):=by subst hB; simpa [std,a8] using hb
  omega
 subst hout;refine wp_exit (wp_seq (rg hB a6 [2] [] [] hF fun X7 a0 w1 hF => ?_));refine wp_ret ((rm hB a6 hF (⟨0,fun _ => none,fun _ => bM,fun _ => ⟨#[]⟩⟩) [] (hJ:=?_)).1);exact fun _ _ h => ⟨hbfr,h⟩
theorem aE {m:Nat -> Nat -> Prop} {w:World} {B e k:Nat} {A:Option Addr} {n c:Nat} {f:Nat -> List AV} (hO:Own w B e k (.slice A n c) n (f7 f n)) (hk:∀ i,i < n -> (f i).length=k) (hm:∀ b,l8 (.slice A n c)=some b -> ∀ o,o < n * k -> ¬ m b o) (h1:∀ i,i < n -> ∀ v ∈ f i,v.one=true/\Ok m w v) (g:Option Nat):Ok m w (.sl g A n c k f):=by
 obtain ⟨A',c',he,h2,h3⟩:=hO.isSlice;injection he with e1 e2 e3; subst e3
 refine .sl _ _ _ _ _ _ h2 h3 hk (fun i hi => ?_) (fun i hi => ?_) (fun i hi v hv => (h1 i hi v hv).1) (fun i hi v hv => (h1 i hi v hv).2)
 .obtain ⟨b,hA,_⟩:=K2 hO (by omega)
  exact ⟨b,0,hA⟩
 obtain ⟨b,hA,hb⟩:=K2 hO (by omega);intro j u hu;have hj:j < k:=by
  have:=(List.getElem?_eq_some_iff.1 hu).1
  rwa [List.length_map,hk i hi] at this
 have hget:=B4 (cells:=f) hk hi hj;rw [hu] at hget;refine ⟨b,0,hA,by rw [Nat.zero_add]; exact K7 hO hb _ u hget,hm b hb _ ?_⟩;have:=Nat.mul_le_mul_right k (Nat.succ_le_of_lt hi);rw [Nat.succ_mul] at this;omega
section
variable {m0:Nat -> Nat -> Prop} {w0 w w':World} {S:Nat -> Prop} {ds:List Deferred} {K K':Kn} {nt key:Nat} {t:Gr} {l l':List (Nat × AV)} {mem:List (Nat × Blk)} {a:Act}
abbrev mG (m0:Nat -> Nat -> Prop) (mem:List (Nat × Blk)) (gr:List (Nat × Gr)):Nat -> Nat -> Prop:=St.m ⟨0,[],[],mem,gr⟩ ⟨m0,default,fun _ => False,[],noK⟩
theorem b4.rowset (h:b4 ⟨m0,w0,S,ds,K⟩ ⟨nt,l,[],mem,[(key,t)]⟩ a w) (hc:Chg (fun x => l8 t.v=some x) w w') {xs':List Value} (hO:Own w' w0.heap.size t.e t.k t.v t.n xs')
  (hl:∀ x,(look l' x).known=true -> a.tmps[x]? = some (look l' x).den/\Ok (mG m0 mem [(key,t)]) w' (look l' x)) (hm:∀ k e,f5 mem k=some e -> ∀ v ∈ e.cells,Ok (mG m0 mem [(key,t)]) w' v) (hK:K'.p (mG m0 mem [(key,t)]) w'):b4 ⟨m0,w0,S,ds,K'⟩ ⟨nt,l',[],mem,[(key,t)]⟩ a w':=by
 have hlt:∀ b,l8 t.v=some b -> w0.heap.size<=b:=fun b hb => by
  obtain ⟨_,xs,ho⟩:=h.gr key t (by simp [f5]);exact (ho.lt b hb).1
 refine ⟨h.size,h.defers,hl,(fun t p v hg => by cases hg),fun k e he => ?_,h.nodup,fun k t' ht => ?_,h.sepm,h.sepg,?_,h.m0,hK⟩
 .obtain ⟨h1,h2,h3⟩:=h.mem k e he
  refine ⟨?_,fun v hv => ⟨(h2 v hv).1,hm k e he v hv⟩,h3⟩;rw [hc.block _ (L3 h1) (fun hb => h.sepm key t k e (by simp [f5]) he hb)];exact h1
 .have hk:=(h.gr k t' ht).1
  have:t'=t:=by
   simp only [f5] at ht
   split at ht
   .injection ht with ht; exact ht.symm
   cases ht
  subst this;exact ⟨hk,xs',hO⟩
 exact h.chg.trans hc fun k hk hb => absurd hk (Nat.not_lt.2 (hlt k hb))
theorem kJ (h:b4 ⟨m0,w0,S,ds,K⟩ ⟨nt,l,[],mem,[(key,t)]⟩ a w):∀ b,l8 t.v=some b -> ∀ o,o < t.n * t.k -> ¬ mG m0 mem [(key,t)] b o:=by
 intro b hb o ho hm;obtain ⟨_,xs,hO⟩:=h.gr key t (by simp [f5]);have h1:=(hO.lt b hb).1
 rcases hm with hm | ⟨k,e,he,hm⟩ | ⟨k,t',ht,_,hle⟩
 .exact absurd (h.m0 _ _ hm) (Nat.not_lt.2 h1)
 .subst hm
  exact h.sepm key t k e (by simp [f5]) he hb
 have:t'=t:=by
  simp only [f5] at ht
  split at ht
  .injection ht with ht; exact ht.symm
  cases ht
 subst this;omega
end
theorem rN {α : Type} (L M N:List α) (x:Nat):(L ++ M ++ N)[x]? = if x < L.length then L[x]? else if x < L.length + M.length then M[x - L.length]? else N[x - (L.length + M.length)]?:=by
 by_cases h1:x < L.length
 .rw [if_pos h1,List.append_assoc,List.getElem?_append_left h1]
 rw [if_neg h1]
 by_cases h2:x < L.length + M.length
 .rw [if_pos h2,List.append_assoc,List.getElem?_append_right (by omega),List.getElem?_append_left (by omega)]
 rw [if_neg h2,List.getElem?_append_right (by rw [List.length_append]; omega),List.length_append]
def wrC (f:Nat -> List AV) (i off:Nat) (vs:List AV):Nat -> List AV:=fun j => if j=i then (f i).take off ++ vs ++ (f i).drop (off + vs.length) else f j
theorem rK {f:Nat -> List AV} {i off k n:Nat} {vs:List AV} (hk:∀ j,j < n -> (f j).length=k) (hi:i < n) (hfit:off + vs.length<=k):∀ j,j < n -> (wrC f i off vs j).length=k:=by
 intro j hj;unfold wrC
 split
 .have:=hk i hi
  simp only [List.length_append,List.length_take,List.length_drop];omega
 exact hk j hj
theorem yo {f:Nat -> List AV} {i off k n:Nat} {vs:List AV} (hk:∀ j,j < n -> (f j).length=k) (hi:i < n) (hfit:off + vs.length<=k) :
  f7 (wrC f i off vs) n=(f7 f n).take (i * k + off) ++ vs.map AV.den ++ (f7 f n).drop (i * k + off + vs.length):=by
 have hlen:=B8 hk;have hik:i * k + k<=n * k:=by
  have:=Nat.mul_le_mul_right k (Nat.succ_le_of_lt hi)
  rwa [Nat.succ_mul] at this
 apply List.ext_getElem?;intro x
 by_cases hx:x < n * k
 .obtain ⟨j,p,hj,hp,rfl⟩:=eT (cells:=f) hx
  rw [B4 (rK hk hi hfit) hj hp];have hb:∀ {j':Nat},j' < i -> j' * k + k<=i * k:=fun {j'} h => by
   have:=Nat.mul_le_mul_right k (Nat.succ_le_of_lt h)
   rwa [Nat.succ_mul] at this
  have ha:∀ {j':Nat},i < j' -> i * k + k<=j' * k:=fun {j'} h => by
   have:=Nat.mul_le_mul_right k (Nat.succ_le_of_lt h)
   rwa [Nat.succ_mul] at this
  have hl1:((f7 f n).take (i * k + off)).length=i * k + off:=by rw [List.length_take,hlen]; omega
  rcases Nat.lt_trichotomy j i with h | h | h
  .have:=hb h
   unfold wrC;rw [if_neg (by omega),List.append_assoc,List.getElem?_append_left (by rw [hl1]; omega),List.getElem?_take,if_pos (by omega),B4 hk hj hp]
  .subst h
   have hfl:=hk j hj;unfold wrC;rw [if_pos rfl];simp only [List.map_append,List.map_take,List.map_drop];have hl2:(((f j).map AV.den).take off).length=off:=by simp; omega
   rw [rN,rN,hl1,hl2,List.length_map]
   rcases Nat.lt_or_ge p off with h1 | h1
   .rw [if_pos h1,if_pos (by omega),List.getElem?_take,List.getElem?_take,if_pos h1,if_pos (by omega),B4 hk hj hp]
   rcases Nat.lt_or_ge p (off + vs.length) with h2 | h2
   .rw [if_neg (by omega),if_pos h2,if_neg (by omega),if_pos (by omega)]
    congr 1
    omega
   rw [if_neg (by omega),if_neg (by omega),if_neg (by omega),if_neg (by omega),List.getElem?_drop,List.getElem?_drop];rw [show j * k + off + vs.length + (j * k + p - (j * k + off + vs.length))=j * k + p by omega,B4 hk hj hp]
   congr 1
   omega
  have:=ha h;unfold wrC;rw [if_neg (by omega),List.getElem?_append_right (by rw [List.length_append,hl1]; simp; omega),List.length_append,hl1,List.length_map,List.getElem?_drop];rw [show i * k + off + vs.length + (j * k + p - (i * k + off + vs.length))=j * k + p by omega,B4 hk hj hp]
 rw [List.getElem?_eq_none (by rw [B8 (rK hk hi hfit)]; omega),List.getElem?_eq_none ?_];simp only [List.length_append,List.length_take,List.length_drop,List.length_map,hlen];omega
theorem rY {w:World} {B e k:Nat} {A:Option Addr} {n c:Nat} {xs:List Value} (hO:Own w B e k (.slice A n c) n xs) {o:Nat} {vs:List Value} (ho:o + vs.length<=n * k) (hn:0 < n) :
  ∃ g cur,A=some ⟨g,0,none⟩/\w.heap[g]? = some (.cells cur e (0,0))/\cur.size=c * k/\n * k<=c * k/\l8 (.slice A n c)=some g ∧
   Own (w.setRow g (cur.toList.take o ++ vs ++ cur.toList.drop (o + vs.length)).toArray) B e k (.slice A n c) n (xs.take o ++ vs ++ xs.drop (o + vs.length))/\Chg (fun x => l8 (.slice A n c)=some x) w (w.setRow g (cur.toList.take o ++ vs ++ cur.toList.drop (o + vs.length)).toArray):=by
 rcases hO.2 with ⟨rfl,_⟩ | ⟨g,cap,cur,hv,hB,hg,hnc,hc0,hcm,hcs,ht⟩
 .omega
 injection hv with e1 e2 e3
 subst e1; subst e3;have hnk:n * k<=c * k:=Nat.mul_le_mul_right _ hnc;have hob:l8 (.slice (some ⟨g,0,none⟩) n c)=some g:=by simp [l8]; omega
 have hcl:cur.toList.length=c * k:=by simp [hcs]
 refine ⟨g,cur,rfl,hg,hcs,hnk,hob,⟨?_,.inr ⟨g,c,_,rfl,hB,setRow_heap w g cur _ e _ hg,hnc,hc0,hcm,?_,?_⟩⟩,⟨rfl,rfl,rfl,by simp [World.setRow],fun x _ hx => setRow_other w g x _ (fun e => hx (by rw [hob,e]))⟩⟩
 .have:=hO.1
  simp only [List.length_append,List.length_take,List.length_drop];omega
 .simp only [List.size_toArray,List.length_append,List.length_take,List.length_drop,hcl]
  omega
 rw [<-ht];apply List.ext_getElem?;intro x;rw [List.getElem?_take]
 by_cases hx:x < n * k
 .rw [if_pos hx]
  rw [rN,rN];have l1:(cur.toList.take o).length=o:=by rw [List.length_take,hcl]; omega
  have l2:((cur.toList.take (n * k)).take o).length=o:=by rw [List.length_take,List.length_take,hcl]; omega
  rw [l1,l2]
  rcases Nat.lt_or_ge x o with h2 | h2
  .rw [if_pos h2,if_pos h2,List.getElem?_take,List.getElem?_take,List.getElem?_take,if_pos h2,if_pos h2,if_pos hx]
  rcases Nat.lt_or_ge x (o + vs.length) with h3 | h3
  .rw [if_neg (by omega),if_pos h3,if_neg (by omega),if_pos h3]
  rw [if_neg (by omega),if_neg (by omega),if_neg (by omega),if_neg (by omega),List.getElem?_drop,List.getElem?_drop,List.getElem?_take,if_pos (by omega)]
 rw [if_neg hx,List.getElem?_eq_none];simp only [List.length_append,List.length_take,List.length_drop,hcl];omega
section
variable {m0:Nat -> Nat -> Prop} {w0 w:World} {S:Nat -> Prop} {ds:List Deferred} {K:Kn} {nt key:Nat} {l:List (Nat × AV)} {mem:List (Nat × Blk)} {a:Act} {P:Program} {T:List (Nat × TI)} {Q:Exit -> Act -> World -> Prop} {ops:Array Oper}
theorem qQ {A:Option Addr} {n c k e:Nat} {f:Nat -> List AV} {g:Option Nat} (h:b4 ⟨m0,w0,S,ds,K⟩ ⟨nt,l,[],mem,[(key,⟨A,n,c,k,e⟩)]⟩ a w) {m:Nat -> Nat -> Prop} (hrow:Ok m w (.sl g A n c k f)):Own w w0.heap.size e k (.slice A n c) n (f7 f n):=by
 obtain ⟨_,xs,hO⟩:=h.gr key ⟨A,n,c,k,e⟩ (by simp [f5]);have hO':Own w w0.heap.size e k (.slice A n c) n xs:=hO;have:=jY hO' hrow;rw [<-this]; exact hO'
theorem kr {L rest:List Oper} {o:Oper} {A:Option Addr} {n c k e i off ty:Nat} {f:Nat -> List AV} {g:Option Nat} {cells:List AV} {p x:Operand} {v:AV} {ti:TI} (hL:L=o :: rest) (hg:o.guard=none) (hop:o.op = .store ty p x) (hdst:o.dst=none) (h:b4 ⟨m0,w0,S,ds,K⟩ ⟨nt,l,[],mem,[(key,⟨A,n,c,k,e⟩)]⟩ a w)
  (hp:val ⟨nt,l,[],mem,[(key,⟨A,n,c,k,e⟩)]⟩ [] p = .ep A i k off cells) (hx:val ⟨nt,l,[],mem,[(key,⟨A,n,c,k,e⟩)]⟩ [] x=v) (hv:v.one=true \/ cK v=true) (hT:j9 P T) (hti:E5 T ty=some ti) (hsz:v.cells.length=ti.size) {m:Nat -> Nat -> Prop} (hrow:Ok m w (.sl g A n c k f)) (hk:∀ j,j < n -> (f j).length=k) (hi:i < n) (hfit:off + v.cells.length<=k)
  (Kc:∀ w',Own w' w0.heap.size e k (.slice A n c) n (f7 (wrC f i off v.cells) n) -> Chg (fun b => l8 (.slice A n c)=some b) w w' -> (∀ u ∈ v.cells,u.one=true) -> wpList P ops Q rest a w'):wpList P ops Q L a w:=by
 have hO:=qQ h hrow;have hik:i * k + k<=n * k:=by
  have:=Nat.mul_le_mul_right k (Nat.succ_le_of_lt hi)
  rwa [Nat.succ_mul] at this
 have hv1:v.one || cK v=true:=by rcases hv with hv | hv<;>simp [hv]
 have hvk:v.known=true:=dF (by simpa using hv1);have hpv:=(C2 h (q:=[]) (fun _ h => by cases h) (x:=p) (by rw [hp]; rfl)).1;have hxv:=C2 h (q:=[]) (fun _ h => by cases h) (x:=x) (by rw [hx]; exact hvk);rw [hp] at hpv;rw [hx] at hxv;have hxc:=jZ hxv.2 (by simpa using hv1);obtain ⟨b,cur,hA,hb,hcs,hnc,hob,hO2,hchg⟩:=rY hO (o:=i * k + off) (vs:=v.cells.map AV.den) (by rw [List.length_map]; omega) (by omega);have hst:=run_storeCells_at P b (i * k + off) e (v.cells.map AV.den) 0 cur w hb (by rw [List.length_map,hcs]; omega) (by
  intro u hu;obtain ⟨y,hy,rfl⟩:=List.mem_map.1 hu;exact nu (hxc y hy).1)
 simp only [Nat.add_zero] at hst;have hdc:=eG (gW (by simpa using hv1):v.one=true \/ ∃ l,v = .agg l);have hszr:=(j7 hT hti).size w;have hpd:a.eval p = .pointer (some ⟨b,i * k + off,none⟩):=by
  rw [hpv,hA];simp [AV.den]
 refine Q9 hL hg ?_;refine jA (w':=w.setRow b (cur.toList.take (i * k + off) ++ v.cells.map AV.den ++ cur.toList.drop (i * k + off + (v.cells.map AV.den).length)).toArray) ?_ ?_
 .simp only [List.length_map] at hst
  simp [execOp,hop,hpd,hxv.1,Instr.storeAt,Instr.sureAddr,storeVar,hdc,hszr,hsz,hst]
 rw [hdst];refine Kc _ ?_ hchg fun u hu => (hxc u hu).1
 rw [yo hk hi hfit]
 simpa using hO2
end
theorem sa (a b:Lab) (W:World):Calls Tryz.prog 95 #[(b6 a).den,(b6 b).den] W fun e w' => e = .returned (.int .i64 (bJ a b))/\GrF W w':=by
 obtain ⟨al,ab⟩:=a;obtain ⟨bl,bb⟩:=b;simp only [b6,AV.den,AV.denL,bJ];have hU:=fun w => xS ab bb w
 have hN:=fun w => xT al bl w
 generalize aV ab bb=x at hU ⊢
 generalize aV al bl=y at hN ⊢
 have hO:=fun b w h0 h1 => Fe b x y w h0 h1
 generalize (if x ≠ 0 then x else y)=r at hO ⊢
 go_enter Tryz.func95,Tryz.ntmps95
 go_wp2_with fail
 obtain ⟨W5,hW5⟩:=eqv ((W.alloc (.cells #[.int .i64 al,.int .u64 ab] 24)).alloc (.cells #[.int .i64 bl,.int .u64 bb] 24));have hG:GrF W W5:=by rw [hW5]; exact ((GrF.refl W).alloc _).alloc _
 have hs:W5.heap.size=W.heap.size + 1 + 1:=by rw [hW5]; simp
 have z0:W5.heap[W.heap.size]? = some (.cells #[.int .i64 al,.int .u64 ab] 24 (0,0)):=by
  rw [hW5,Below.heap_alloc _ _ _ (by simp)]; exact heap_alloc_new W _
 have z1:W5.heap[W.heap.size + 1]? = some (.cells #[.int .i64 bl,.int .u64 bb] 24 (0,0)):=by
  have:=heap_alloc_new (W.alloc (.cells #[.int .i64 al,.int .u64 ab] 24)) (.cells #[.int .i64 bl,.int .u64 bb] 24);rw [hW5]; simpa using this
 have c0:W5.cell? ⟨W.heap.size,0,none⟩=some (.int .i64 al):=cell_of_row W5 _ 0 _ _ _ z0;have c1:W5.cell? ⟨W.heap.size,1,none⟩=some (.int .u64 ab):=cell_of_row W5 _ 1 _ _ _ z0;have c2:W5.cell? ⟨W.heap.size + 1,0,none⟩=some (.int .i64 bl):=cell_of_row W5 _ 0 _ _ _ z1;have c3:W5.cell? ⟨W.heap.size + 1,1,none⟩=some (.int .u64 bb):=cell_of_row W5 _ 1 _ _ _ z1;clear z0 z1;rw [<-hW5];clear hW5;clear hs
 go_region_held3 (fun w' => w'.cell? ⟨W.heap.size,0,none⟩=some (.int .i64 al)/\w'.cell? ⟨W.heap.size,1,none⟩=some (.int .u64 ab)/\w'.cell? ⟨W.heap.size + 1,0,none⟩=some (.int .i64 bl)/\w'.cell? ⟨W.heap.size + 1,1,none⟩=some (.int .u64 bb)/\W5.heap.size<=w'.heap.size/\GrF W w')
  ((go_split_ands; (repeat' apply And.intro)<;>first | with_reducible assumption | with_reducible exact GrF.drew (by assumption) | with_reducible exact GrF.alloc (by assumption) _ | with_reducible exact GrF.drew (GrF.alloc (by assumption) _) | with_reducible exact lp (by assumption) _ | with_reducible exact size_alloc (by assumption) _ | go_keep))
  (first | (go_at_call 86; refine (hU _).mono ?_; rintro e w' ⟨rfl,rfl⟩) | (go_at_call 104; refine (hN _).mono ?_; rintro e w' ⟨rfl,rfl⟩) | (go_at_call 103; refine (hO _ _ (by first | exact ny _ _ _ _ | exact eN (ny _ _ _ _)) (by first | exact nw _ _ _ _ | exact eN (nw _ _ _ _))).mono ?_; rintro e w' ⟨rfl,rfl⟩))
 all_goals (go_wp2_with fail; go_ret; exact ⟨rfl,by first | exact (hG.alloc _).drew | exact hG.alloc _⟩)
theorem GrF.trans {W w w':World} (h:GrF W w) (h':GrF w w'):GrF W w':=by
 obtain ⟨q,os,rfl⟩:=h;obtain ⟨q',os',rfl⟩:=h';exact ⟨q + q',os ++ os',by simp [Go.Sort.grow,World.drewN,Array.append_assoc,Nat.add_assoc]⟩
theorem DZ (a b:l5) (W:World):Calls Tryz.prog 94 #[.agg ((u7 a).map AV.den).toArray,.agg ((u7 b).map AV.den).toArray] W fun e w' => e = .returned (.int .i64 (bJ a.lab b.lab))/\GrF W w':=by
 obtain ⟨⟨al,ab⟩,av,⟨aA,ac,⟨an,af,ak,⟨anl,anb⟩,am⟩⟩⟩:=a;obtain ⟨⟨bl,bb⟩,bv,⟨bA,bc,⟨bn,bf,bk,⟨bnl,bnb⟩,bm⟩⟩⟩:=b;simp only [u7,List.map_cons,List.map_nil,AV.den];have hO:=fun w => sa ⟨al,ab⟩ ⟨bl,bb⟩ w
 simp only [b6,AV.den,AV.denL] at hO
 generalize bJ ⟨al,ab⟩ ⟨bl,bb⟩=r at hO ⊢
 go_enter Tryz.func94,Tryz.ntmps94
 go_wp2_with (go_at_call 95; refine (hO _).mono ?_; rintro e w' ⟨rfl,hG⟩)
 all_goals (go_ret; exact ⟨rfl,GrF.trans (((GrF.refl W).alloc _).alloc _) hG⟩)
def wy (n:Nat) (f:Nat -> Itm):Bool:=(List.range n).any fun t => decide (64 < (f t).val.size)
def qn (n:Nat) (f:Nat -> Itm):Bool:=(List.range (n - 1)).all fun t => decide (¬ (f (t + 1)).key < (f t).key)
def rb (n:Nat) (f:Nat -> Itm):Bool:=(List.range (n - 1)).any fun t => decide ((f (t + 1)).key=(f t).key)
theorem wH (x:Int):j5 Tryz.prog 156 [.int .u64 x] (fun _ => .bool .ff):=by
 intro m w hm hargs;refine en 6 hm hargs Tryz.func156 fun B hB a0 hF => ?_
 refine wp_seq (rg hB a6 [0] [] [] hF fun X0 a0 w1 hF => ?_);refine wp_seq (rg hB a6 [2] [] [] hF fun X1 a0 w1 hF => ?_);refine wp_ret ((rsi hB a6 hF f4 (he:=?_)));subst hB;exact Sim.bool (by show (x != x)=false; simp)
theorem DS (x y:Int):j5 Tryz.prog 86 [.int .u64 x,.int .u64 y] (fun _ => .int .i64 (aV x y)):=by
 intro m w hm hargs;have S1:=wH x;have S2:=wH y;refine en 20 hm hargs Tryz.func86 fun B hB a0 hF => ?_
 refine wp_seq (rg hB a6 [0,1] [] [] hF fun X0 a0 w1 hF => ?_);have O1:=S1;refine wp_seq (rg hB a6 [0,1,5] [] [(1,.r fun _ => .bool .ff)] hF fun X1 a0 w1 hF => ?_);have O1:=S2;refine wp_seq (rg hB a6 [0,1,5,6] [] [(1,.r fun _ => .bool .ff)] hF fun X2 a0 w1 hF => ?_);refine wp_seq (wp_seq (rg hB a6 [11,0,1,6] [] [] hF fun X3 a0 w1 hF => ?_));refine i9 hF rfl (fun hF => ?_);refine wp_skip (wp_seq (wp_seq (rg hB a6 [13,0,1] [] [] hF fun X7 a0 w1 hF => ?_)));refine i9 hF rfl (fun hF => ?_);refine wp_skip (wp_seq (wp_seq (rg hB a6 [16,0,1] [] [] hF fun X9 a0 w1 hF => ?_)));apply a7 hF rfl<;>intro hb hF
 .have h1:x < y:=by subst hB; simpa [std,a8] using hb
  refine wp_seq (rg hB a6 [4] [] [] hF fun X10 a0 w1 hF => ?_);refine wp_ret ((rsi hB a6 hF f4 (he:=?_)));subst hB;unfold aV;rw [if_pos h1];exact zr
 have h1:¬ x < y:=by subst hB; simpa [std,a8] using hb
 refine wp_skip (wp_seq (wp_seq (rg hB a6 [19] [] [] hF fun X11 a0 w1 hF => ?_)));apply a7 hF rfl<;>intro hb hF
 .have h2:y < x:=by subst hB; simpa [std,a8] using hb
  refine wp_seq (rg hB a6 [4] [] [] hF fun X12 a0 w1 hF => ?_);refine wp_ret ((rsi hB a6 hF f4 (he:=?_)));subst hB;unfold aV;rw [if_neg h1,if_pos h2];exact zr
 have h2:¬ y < x:=by subst hB; simpa [std,a8] using hb
 refine wp_skip (wp_seq (rg hB a6 [4] [] [] hF fun X13 a0 w1 hF => ?_));refine wp_ret ((rsi hB a6 hF f4 (he:=?_)));subst hB;unfold aV;rw [if_neg h1,if_neg h2];exact zr
theorem CG (x:Itm):j5 Tryz.prog 84 [.agg (itC x)] (fun _ => .bool (.v (decide (64 < x.val.size)))):=by
 intro m w hm hargs;simp only [itC] at hargs ⊢;refine en 7 hm hargs Tryz.func84 fun B hB a0 hF => ?_
 refine wp_seq (rg hB a6 [1] [1] [] hF fun X0 a0 w1 hF => ?_);refine wp_seq (rg hB a6 [2] [] [] hF fun X1 a0 w1 hF => ?_);refine wp_ret ((rsi hB a6 hF f4 (he:=?_)));subst hB;exact Sim.bool (by show decide ((64:Int) < (x.val.size:Int))=decide (64 < x.val.size); rw [decide_eq_decide]; omega)
theorem Ct (x y:Itm):j5 Tryz.prog 85 [.agg (itC x),.agg (itC y)] (fun _ => .int .i64 (aV x.key y.key)):=by
 intro m w hm hargs;simp only [itC] at hargs ⊢;have S:=DS x.key y.key;obtain ⟨z,hz⟩:=eqv (aV x.key y.key);rw [<-hz] at S ⊢;refine en 10 hm hargs Tryz.func85 fun B hB a0 hF => ?_
 refine wp_seq (rg hB a6 [2,3] [2,3] [] hF fun X0 a0 w1 hF => ?_);have O1:=S;refine wp_seq (rg hB a6 [4] [] [(4,.r fun _ => .int .i64 z)] hF fun X1 a0 w1 hF => ?_);exact wp_ret ((rsp hB a6 hF f4).1)
theorem xr (x y:Itm):j5 Tryz.prog 89 [.agg (itC x),.agg (itC y)] (fun _ => .bool (.v (decide (x.key=y.key)))):=by
 intro m w hm hargs;simp only [itC] at hargs ⊢;refine en 10 hm hargs Tryz.func89 fun B hB a0 hF => ?_
 refine wp_seq (rg hB a6 [2,3] [2,3] [] hF fun X0 a0 w1 hF => ?_);refine wp_seq (rg hB a6 [4] [] [] hF fun X1 a0 w1 hF => ?_);refine wp_ret ((rsi hB a6 hF f4 (he:=?_)));subst hB;exact Sim.bool (by show (x.key == y.key)=decide (x.key=y.key); rw [Bool.eq_iff_iff]; simp)
theorem Db (A:Option Addr) (n c:Nat) (f:Nat -> Itm) (hn:n<=1000000):j5 Tryz.prog 157 [l4 A n c f,.fn 84 [] []] (fun _ => .int .i64 (lG (fun t => decide (64 < (f t).val.size)) n)):=by
 intro m w hm hargs;have hmx:maxLen=9223372036854775807:=rfl;unfold l4 at hargs;refine en 19 hm hargs Tryz.func157 fun B hB a0 hF => ?_
 refine wp_seq (rg hB a6 [0,1] [] [] hF fun X0 a0 w1 hF => ?_);refine wp_seq (wp_seq (rg hB a6 [8,0,1,7] [] [] hF fun X1 a0 w1 hF => ?_));refine wp_block (l0 (ι:=Nat) (fun p => [(8,.int .i64 (p:Int))]) (fun p => []) (fun p => []) (fun p => p<=n/\∀ t,t < p -> decide (64 < (f t).val.size)=false) (fun p => n - p) 0 ⟨Nat.zero_le _,fun t ht => absurd ht (Nat.not_lt_zero _)⟩ hF ?_)
 rintro i ⟨hi,hlt⟩ a0 w1 hF
 try dsimp only at hi
 try dsimp only at hlt
 refine wp_seq (rg hB a6 [9,8,0,1,7] [] [] hF fun X2 a0 w1 hF => ?_);refine wp_seq (a7 hF rfl (fun hb hF => ?_) (fun hb hF => ?_))
 .have hin:i < n:=by
   have:(i:Int) < (n:Int):=by subst hB; simpa [std,a8] using hb
   omega
  have S:=CG (f i);obtain ⟨q,hq⟩:=eqv (decide (64 < (f i).val.size));rw [<-hq] at S;refine wp_skip (wp_seq (wp_block (wp_seq (rg hB a6 [5,8,0,1,7] [] [] hF fun X3 a0 w1 hF => ?_))));apply wp_seq;refine rg hB a6 [16,5,8,0,1,7] [] [(5,.r fun _ => .bool (.v q))] hF (hob:=by intro X; subst hB; simp only [b5,Ob.holds,BE.den]<;>and_intros<;>repeat first | trivial | rfl | exact (show (0:Int)<=(i:Int) by omega) | exact (show (i:Int) < (n:Int) by omega) | exact S | exact (fun _ _ => by kernel_rfl) | refine ⟨?_,?_⟩ | intro h | exact Int.le_refl _ | decide | omega) fun X4 a0 w1 hF => ?_
  apply a7 hF rfl<;>intro hb hF
  .have hqt:q=true:=hb
   refine wp_seq (rg hB a6 [4] [] [] hF fun X5 a0 w1 hF => ?_);refine wp_ret ((rsi hB a6 hF f4 (he:=?_)));subst hB;rw [jv (p:=(fun t => decide (64 < (f t).val.size))) hin hlt (hq.symm.trans hqt)];exact zr
  have hqf:q=false:=hb;refine wp_skip (rg hB a6 [8,0,1,7] [] [] hF fun X6 a0 w1 hF => ?_);have e:B.arith .add .i64 (i:Int) 1=((i + 1:Nat):Int):=by subst hB; exact j2 (n:=n) hin (by omega)
  refine ⟨i + 1,⟨by omega,fun t ht => ?_⟩,by omega,by rw [<-e]; exact hF⟩
  by_cases h:t=i
  .rw [h,<-hq]; exact hqf
  exact hlt t (by omega)
 have hout:i=n:=by
  have:¬ (i:Int) < (n:Int):=by subst hB; simpa [std,a8] using hb
  omega
 rw [hout] at hlt;refine wp_exit (wp_seq (rg hB a6 [4] [] [] hF fun X7 a0 w1 hF => ?_));refine wp_ret ((rsi hB a6 hF f4 (he:=?_)));subst hB;rw [kI (p:=(fun t => decide (64 < (f t).val.size))) hlt];exact zr
theorem DR (A:Option Addr) (n c:Nat) (f:Nat -> Itm) (hn:n<=1000000):j5 Tryz.prog 90 [l4 A n c f,.fn 84 [] []] (fun _ => .bool (.v (wy n f))):=by
 intro m w hm hargs;have S:=Db A n c f hn;have HC:=mi (fun t => decide (64 < (f t).val.size)) n
 generalize (lG (fun t => decide (64 < (f t).val.size)) n)=ix at S HC
 unfold l4 at S hargs;refine en 9 hm hargs Tryz.func90 fun B hB a0 hF => ?_
 refine wp_seq (rg hB a6 [0,1] [] [] hF fun X0 a0 w1 hF => ?_);have O1:=S;refine wp_seq (rg hB a6 [4] [] [(2,.r fun _ => .int .i64 ix)] hF fun X1 a0 w1 hF => ?_);refine wp_ret ((rsi hB a6 hF f4 (he:=?_)));subst hB;refine Sim.bool ?_
 show decide (ix ≥ 0)=wy n f
 unfold wy
 rcases HC with ⟨i,h1,h2,h3,h4⟩ | ⟨h1,h2⟩
 .rw [decide_eq_true (by omega)]; exact (List.any_eq_true.2 ⟨i,List.mem_range.2 h1,h3⟩).symm
 rw [h1]; symm; rw [show decide ((-1:Int) ≥ 0)=false from rfl,List.any_eq_false]; intro t ht; rw [h2 t (List.mem_range.1 ht)]; decide
theorem Ci (A:Option Addr) (n c:Nat) (f:Nat -> Itm) (hn:n<=1000000):j5 Tryz.prog 91 [l4 A n c f,.fn 85 [] []] (fun _ => .bool (.v (qn n f))):=by
 intro m w hm hargs;have hmx:maxLen=9223372036854775807:=rfl;unfold l4 at hargs;refine en 25 hm hargs Tryz.func91 fun B hB a0 hF => ?_
 refine wp_seq (rg hB a6 [0,1] [] [] hF fun X0 a0 w1 hF => ?_);refine wp_seq (wp_seq (rg hB a6 [5,0,1] [] [] hF fun X1 a0 w1 hF => ?_));replace hF:=hF.headS (v':=.int .i64 ((n:Int) - 1)) (by subst hB; show Sim (.int .i64 (IntKind.i64.wrap ((n:Int) - 1))) _; rw [r8 (by omega) (by omega)]; exact zr) rfl;refine wp_block (l0 (ι:=Nat) (fun p => [(5,.int .i64 ((p:Int) - 1))]) (fun p => []) (fun p => []) (fun p => p<=n/\∀ t,p<=t + 1 -> t + 1 < n -> ¬ (f (t + 1)).key < (f t).key) (fun p => p) n ⟨Nat.le_refl _,fun t h1 h2 => absurd h2 (by omega)⟩ hF ?_)
 rintro p ⟨hp,hlt⟩ a0 w1 hF
 try dsimp only at hp
 try dsimp only at hlt
 obtain ⟨iv,hiv⟩:=eqv ((p:Int) - 1);rw [<-hiv] at hF;refine wp_seq (wp_seq (rg hB a6 [10,5,0,1] [] [] hF fun X2 a0 w1 hF => ?_));apply a7 hF rfl<;>intro hb hF
 .have hin:2<=p:=by
   have:(0:Int) < iv:=by subst hB; simpa [std,a8] using hb
   omega
  have e1:std.toNat iv=p - 1:=by show iv.toNat=p - 1; omega
  have e2:std.arith .sub .i64 iv 1=(p:Int) - 2:=by show IntKind.i64.wrap (iv - 1)=_; rw [r8 (by omega) (by omega)]; omega
  have e3:std.toNat (std.arith .sub .i64 iv 1)=p - 2:=by rw [e2]; show ((p:Int) - 2).toNat=p - 2; omega
  have S:=Ct (f (std.toNat iv)) (f (std.toNat (std.arith .sub .i64 iv 1)));obtain ⟨z,hz⟩:=eqv (aV (f (p - 1)).key (f (p - 2)).key);have hz2:aV (f (std.toNat iv)).key (f (std.toNat (std.arith .sub .i64 iv 1))).key=z:=by rw [hz,e1,e3]
  rw [hz2] at S;refine wp_skip (wp_seq (wp_block (wp_seq (drg hB a6 [24,5,0,1] [] [(10,.r fun _ => .int .i64 z)] hF (hob:=?hob) fun X4 a0 w1 hF => ?_))))
  case hob =>
   intro X;subst hB
   repeat (first | exact trivial | refine ⟨rfl,?_⟩ | refine ⟨(show (0:Int)<=iv/\iv < (n:Int) by omega),?_⟩ | refine ⟨(show (0:Int)<=std.arith .sub .i64 iv 1/\std.arith .sub .i64 iv 1 < (n:Int) by rw [e2]; omega),?_⟩ | refine ⟨⟨fun _ _ => by kernel_rfl,S⟩,?_⟩)
  apply a7 hF rfl<;>intro hb hF
  .have hlt2:(f (p - 1)).key < (f (p - 2)).key:=by
    have h5:z < 0:=by subst hB; simpa [std,a8] using hb
    rw [hz] at h5; unfold aV at h5; split at h5; assumption; split at h5<;>omega
   have hW:qn n f=false:=by unfold qn; rw [List.all_eq_false]; refine ⟨p - 2,List.mem_range.2 (by omega),?_⟩; rw [show p - 2 + 1=p - 1 by omega]; simpa using hlt2
   refine wp_seq (rg hB a6 [4] [] [] hF fun X5 a0 w1 hF => ?_);refine wp_ret ((rsi hB a6 hF f4 (he:=?_)));subst hB;rw [hW];exact Sim.bool rfl
  have hge:¬ (f (p - 1)).key < (f (p - 2)).key:=by
   have h5:¬ z < 0:=by subst hB; simpa [std,a8] using hb
   rw [hz] at h5; unfold aV at h5; intro h6; rw [if_pos h6] at h5; exact h5 (by decide)
  refine wp_skip (rg hB a6 [5,0,1] [] [] hF fun X3 a0 w1 hF => ?_);have e:B.arith .sub .i64 iv 1=((p - 1:Nat):Int) - 1:=by subst hB; show IntKind.i64.wrap (iv - 1)=_; rw [r8 (by omega) (by omega)]; omega
  refine ⟨p - 1,⟨by omega,fun t h1 h2 => ?_⟩,by omega,by rw [<-e]; exact hF⟩
  rcases Nat.lt_or_ge (t + 1) p with h3 | h3
  .have:t=p - 2:=by omega
   subst this;rw [show p - 2 + 1=p - 1 by omega]; exact hge
  exact hlt t h3 h2
 have hout:p<=1:=by
  have:¬ (0:Int) < iv:=by subst hB; simpa [std,a8] using hb
  omega
 have hW:qn n f=true:=by unfold qn; rw [List.all_eq_true]; intro t ht; have h5:=List.mem_range.1 ht; exact decide_eq_true (hlt t (by omega) (by omega))
 refine wp_exit (wp_seq (rg hB a6 [4] [] [] hF fun X6 a0 w1 hF => ?_));refine wp_ret ((rsi hB a6 hF f4 (he:=?_)));subst hB;rw [hW];exact Sim.bool rfl
theorem xa (q:Lab):j5 Tryz.prog 108 [b6 q] (fun y => .fn 169 [] [.ep (some ⟨y.b,0,none⟩) 0 0 0 [.int .i64 q.len,.int .u64 q.bits]]):=by
 intro m w hm hargs;simp only [b6] at hargs ⊢;refine en 4 hm hargs Tryz.func108 fun B hB a0 hF => ?_
 refine wp_seq (rg hB a6 [1] [1] [] hF fun X0 a0 w1 hF => ?_);refine wp_seq (rg hB a6 [2] [1] [] hF fun X1 a0 w1 hF => ?_);have hF:=hF.fz (tm':=[(2,.fn 169 [] [.ep (some ⟨(X0 0).b,0,none⟩) 0 0 0 [.int .i64 q.len,.int .u64 q.bits]])]) ⟨rfl,Fv trivial ⟨Z2,trivial⟩,trivial⟩;exact wp_ret (rsp hB a6 hF ⟨(X0 0).b,fun _ => none,fun _ => 0,fun _ => .empty⟩).1
theorem mF:j3 Tryz.prog 169:=fun _ _ => by kernel_rfl
theorem rA {F:Fence} {P:Program} {l:Nat} {f:FuncId} {T T':Array Value} {c c':Code} {w:World} {R:Ending -> World -> Prop} (h:T=T') (h2:RoundIn F 0 P l f T' c c' w R):RoundIn F 0 P l f T c c' w R:=h ▸ h2
theorem np {P:Program} {C:Cx} {s:St} {a:Act} {w:World} {fn:Func} {R:Ending -> World -> Prop} (h:b4 C s a w) (hds:C.ds=[]) (hR:R (.returned (.tuple #[])) w) (hfn:fn.results = #[]:=by rfl):bodyPost P fn R .ret a w/\bodyPost P fn R .normal a w:=by
 have e:(results fn a.tmps).run P w = .ok (.tuple #[]) w:=by simp [results,hfn]
 exact ⟨⟨h.defers.trans hds,_,e,hR⟩,⟨h.defers.trans hds,_,e,hR⟩⟩
def tB (m0:Nat -> Nat -> Prop) (w0:World) (S:Nat -> Prop) (tmc:List (Nat × AV)) (l:Nat) (rc:Loop) (D:Nat) (N:Kn -> List (Nat × Blk) -> List (Nat × Gr) -> Prop) (X:Code -> Kn -> List (Nat × Blk) -> List (Nat × Gr) -> Prop) (e:Ending) (w3:World):Prop:=
 ∃ v,e = .returned v/\∃ K' mem' gr',K'.off l/\((Mem m0 w0 S (KL K' tmc l rc D .ready none) mem' gr' w3/\N K' mem' gr') \/ ∃ c,X c K' mem' gr'/\Mem m0 w0 S (KL K' tmc l rc D .done (some c)) mem' gr' w3)
theorem xb {m0:Nat -> Nat -> Prop} {w0:World} {S:Nat -> Prop} {l D ntc p:Nat} {tmc:List (Nat × AV)} {ac:Act} {rc:Loop} {fd:Func} (hfn:Tryz.prog.funcs[rc.fn]? = some fd) (hl0:w0.heap.size<=l) (hD:D ≠ l) (hst:rc.pending=none) (htm:rc.tmps=ac.tmps) (hps:rc.params = #[p]) (hpn:p < ntc) (hac:∃ d,Z3 ntc tmc d ac)
  (q:Lab) (hb0:U64 q.bits) (J:Nat -> Kn -> List (Nat × Blk) -> List (Nat × Gr) -> Prop) (X:Code -> Kn -> List (Nat × Blk) -> List (Nat × Gr) -> Prop)
  (hbody:∀ i:Nat,i < 2 -> chE q 0=0 -> ∀ (E:Kn),E.self -> (∀ n,E.off n) -> ∀ K mem gr a w,J i K mem gr -> K.off l -> b4 ⟨m0,w0,S,[],(KL K tmc l rc D .ready none).and E⟩ ⟨ntc,(p,b6 (chV q i)) :: tmc,[],mem,gr⟩ a w -> rc.assign.wpIn (rF (some l)) 0 Tryz.prog (Exit.then (fun a₁ w₁ => ∃ nt1 tm1 fW gr1,b4 ⟨m0,w0,S,[],(KL K tmc l rc D .ready none).and E⟩ ⟨nt1,tm1,[],fW,gr1⟩ a₁ w₁ ∧
   ∀ w₂,b4 ⟨m0,w0,S,[],(KL K tmc l rc D .busy none).and E⟩ ⟨nt1,tm1,[],fW,gr1⟩ a₁ w₂ -> rc.body.wpIn (rF (some l)) 0 Tryz.prog (yi m0 w0 S tmc l rc D E (J (i + 1)) X) a₁ w₂) (fun _ _ _ => False)) a w)
  {K:Kn} {mem:List (Nat × Blk)} {gr:List (Nat × Gr)} {w:World} {A:Option Addr} (hJ:J 0 K mem gr) (hK:K.off l) (hm:Mem m0 w0 S (KL K tmc l rc D .ready none) mem gr w) (hA:Ok (mT m0 mem gr) w (.ep A 0 0 0 [.int .i64 q.len,.int .u64 q.bits])) :
  Calls Tryz.prog 169 ([yV l,.ep A 0 0 0 [.int .i64 q.len,.int .u64 q.bits]].map AV.den).toArray w (tB m0 w0 S tmc l rc D (J (if chE q 0=0 then 2 else 0)) X):=by
 have hargs:∀ v ∈ [yV l,.ep A 0 0 0 [.int .i64 q.len,.int .u64 q.bits]],Ok (mT m0 mem gr) w v:=by
  intro v hv;simp only [List.mem_cons,List.not_mem_nil,or_false] at hv
  rcases hv with rfl | rfl
  .exact .raw _
  exact hA
 refine enY 24 (pre:=[]) (fun b o hb => nB hm b o hb) ⟨fun e he => (by cases he),fun e he => (by cases he),fun e he => (by cases he),.nil⟩ hargs Tryz.func169 fun B hB a0 hF => ?_
 refine wpIn_seq (rrg hB a6 [6,0,1] [] [] hF fun X0 a0 w1 hF => ?_);refine wpIn_block (tT (ι:=Nat) (fun i a w => ∃ K mem gr wi,J i K mem gr/\K.off l/\Mem m0 w0 S (KL K tmc l rc D .ready none) mem gr wi/\b4 ⟨mT m0 mem gr,wi,ats [],[],noK⟩ ⟨24,[(6,.int .i64 (i:Int)),(0,yV l),(1,.ep A 0 0 0 [.int .i64 q.len,.int .u64 q.bits])],[],[],[]⟩ a w) (fun i => i<=2/\(i=0 \/ chE q 0=0)) (fun i => 2 - i) 0 ⟨by omega,.inl rfl⟩ ⟨K,mem,gr,w,hJ,hK,hm,hF⟩ ?_)
 rintro i ⟨hi2,hi0⟩ a w ⟨K,mem,gr,wi,hJ,hK,hm,hF⟩
 refine wpIn_seq (rrg hB a6 [7,6,0,1] [] [] hF fun X1 a0 w1 hF => ?_);refine wpIn_seq (jP hF rfl (fun hb hF => ?_) (fun hb hF => ?_))
 .have hin:i < 2:=by
   have:(i:Int) < (2:Int):=by subst hB; simpa [std,a8] using hb
   omega
  refine wpIn_skip (wpIn_seq (wpIn_block (wpIn_seq (rrg hB a6 [3,6,0,1] [] [] hF fun X2 a0 w1 hF => ?_))));have SC:=eL q hb0 i (by omega);have hCE:chE q i=chE q 0:=rfl;rw [hCE] at SC;obtain ⟨e,he⟩:=eqv (chE q 0);obtain ⟨c,hc⟩:=eqv (chV q i);simp only [b6,<-hc,<-he] at SC;have O1:=SC;refine wpIn_seq (rrg hB a6 [5,4,6,0,1] [4] [(2,.r fun _ => .tup [.agg [.int .i64 c.len,.int .u64 c.bits],.int .i64 e])] hF fun X3 a0 w1 hF => ?_);have hF:=hF.fz (tm':=[(5,.int .i64 e),(4,.ep (some ⟨(X3 6).b,0,none⟩) 0 0 0 [.int .i64 c.len,.int .u64 c.bits]),(6,.int .i64 (i:Int)),(0,yV l),(1,.ep A 0 0 0 [.int .i64 q.len,.int .u64 q.bits])]) ⟨rfl,v8,rfl,Z2,rfl,v8,rfl,v8,rfl,v8,trivial⟩;refine wpIn_seq (wpIn_region_lit ?_);refine EY 0 3 hB a6 [17,4,6,0,1] [] [] hF (fun X4 a0 w1 hF => ?_)
  by_cases he0:e=0
  .have hF:=hF.headS (v':=.bool .ff) (by subst hB; subst he0; exact Sim.bool rfl) rfl
   refine EY 3 2 hB a6 [19,18,17,6,0,1] [] [] hF (fun X5 a0 w1 hF => ?_);have hfit:=fM hm hF;refine qB rfl (tJ rfl rfl hfit rfl) rfl rfl hfit rfl rfl (rc:=jb rc .ready none) hfit.kept.2.1 (by simp [jb,hps]) (fun _ => ?_);refine rA (T':=([(p,b6 c)]:List (Nat × AV)).foldl (fun t e => t.setIfInBounds e.1 e.2.den) rc.tmps) (by simp [jb,hps,b6]; rfl) ?_;refine Cr (P:=Tryz.prog) hfn hl0 hD hK hst htm hfit hac (by
     intro x hx;simp only [List.mem_singleton] at hx;subst hx;exact ⟨hpn,.agg _ (by intro v hv; simp only [List.mem_cons,List.not_mem_nil,or_false] at hv; rcases hv with rfl | rfl<;>rfl) (by intro v hv; simp only [List.mem_cons,List.not_mem_nil,or_false] at hv; rcases hv with rfl | rfl<;>exact .int _ _)⟩) (J (i + 1)) X ?_ ?_ ?_
   .intro K' mem' gr' w' hj' ho' hf'
    have hF:=qp (hf'.put (some 20) (fun t ht => by injection ht with ht; subst ht; exact Nat.le_of_ble_eq_true rfl) (.bool .tt) (fun _ => .bool _) (.bool true) fun _ => rfl);refine Cs 6 hB a6 [22,6,0,1] [] [] hF (fun X6 a0 w1 hF => ?_);refine vJ hF rfl (fun hF => ?_);refine wpIn_skip (rrg hB a6 [6,0,1] [] [] hF fun X7 a0 w1 hF => ?_);have e:B.arith .add .i64 (i:Int) 1=((i + 1:Nat):Int):=by subst hB; exact j2 (n:=2) hin (by simp only [maxLen]; omega)
    exact ⟨i + 1,⟨by omega,.inr (he.symm.trans he0)⟩,by omega,K',mem',gr',w',hj',ho',hf'.bare,by rw [<-e]; exact hF⟩
   .intro cc K' mem' gr' w' hx' ho' hf'
    have hF:=qp (hf'.put (some 20) (fun t ht => by injection ht with ht; subst ht; exact Nat.le_of_ble_eq_true rfl) (.bool .ff) (fun _ => .bool _) (.bool false) fun _ => rfl);refine Cs 6 hB a6 [22,6,0,1] [] [] hF (fun X6 a0 w1 hF => ?_);refine oO hF rfl (fun hF => ?_);exact wpIn_ret (np (P:=Tryz.prog) (R:=tB m0 w0 S tmc l rc D (J (if chE q 0=0 then 2 else 0)) X) hF rfl (⟨_,rfl,K',mem',gr',ho',.inr ⟨cc,hx',(fM hf'.bare hF).bare⟩⟩)).1
   intro a hFa;have:=hbody i hin (he.symm.trans he0) (okT _) (wx _) (bh _) K mem gr a _ hJ hK (by rw [<-hc]; exact hFa);exact this
  have hF:=hF.headS (v':=.bool .tt) (by subst hB; exact Sim.bool (by simp [std,a8,he0,BE.den])) rfl;refine Cs 3 hB a6 [22,6,0,1] [] [] hF (fun X5 a0 w1 hF => ?_);refine oO hF rfl (fun hF => ?_);have hne:¬ chE q 0=0:=fun h => he0 (he.trans h)
  have hi:i=0:=hi0.resolve_right hne;exact wpIn_ret (np (P:=Tryz.prog) (R:=tB m0 w0 S tmc l rc D (J (if chE q 0=0 then 2 else 0)) X) hF rfl (⟨_,rfl,K,mem,gr,hK,.inl ⟨(fM hm hF).bare,by rw [if_neg hne,<-hi]; exact hJ⟩⟩)).1
 have hi:i=2:=by
  have:¬ (i:Int) < (2:Int):=by subst hB; simpa [std,a8] using hb
  omega
 refine wpIn_exit ?_;have h0:chE q 0=0:=hi0.resolve_left (by omega);exact (np (P:=Tryz.prog) (R:=tB m0 w0 S tmc l rc D (J (if chE q 0=0 then 2 else 0)) X) hF rfl (⟨_,rfl,K,mem,gr,hK,.inl ⟨(fM hm hF).bare,by rw [if_pos h0,<-hi]; exact hJ⟩⟩)).2
abbrev Tre:=Lab -> Option Rec
theorem DW {l:Lab} (h:chE l 0=0):isL l=true/\l.len ≠ 64/\∀ b,chV l b=s4 l b:=by
 have hc:∀ b,chE l b=0:=fun b => h
 refine ⟨?_,?_,fun b => by unfold chV; rw [if_pos (hc b)]⟩
 .cases hl:isL l with
  | true => rfl
  | false => unfold chE at h; rw [hl,if_pos rfl] at h; cases h
 intro h64;unfold chE at h;simp only [h64,if_true] at h
 split at h<;>simp at h
theorem BQ {l:Lab} (hb:U64 l.bits) (h:chE l 0=0) (b:Int):isL (chV l b)=true/\U64 (chV l b).bits/\(chV l b).len=l.len + 1:=by
 obtain ⟨h1,h2,h3⟩:=DW h;rw [h3];exact ⟨eM h1 hb h2 b,cQ h1 hb h2 b,rfl⟩
theorem AE (l:Lab) (its:List Itm):(D8 l its).length<=its.length:=List.length_filter_le _ _
structure FN (T:Tre) (ks:List Lab):Prop where
 us:∀ k ∈ ks,U64 k.bits
 at_:∀ l r,T l=some r -> l ∈ ks/\r.items.length<=16
theorem bL {P:Program} {fn:FuncId} {Q:Exit -> Act -> World -> Prop} {a:Act} {w:World} {id:Nat} {c:Code} (h:wpN fn P c (Exit.inBlock id Q) a w):wpN fn P (Code.block id c) Q a w:=by
 intro b k cs hb;obtain ⟨e,a₁,w₁,hq,harr⟩:=h b (.inBlock id :: k) cs hb
 cases e with
 | normal => exact ⟨.normal,a₁,w₁,hq,.head step_block (Steps.trans harr (.one step_inBlock))⟩
 | exit id' =>
  by_cases hid:id'=id
  .simp only [Exit.inBlock,hid,if_true] at hq
   exact ⟨.normal,a₁,w₁,hq,.head step_block (harr k (by simp [exitTo,hid]))⟩
  simp only [Exit.inBlock,hid,if_false] at hq;refine ⟨.exit id',a₁,w₁,hq,fun k' hk => .head step_block (harr k' ?_)⟩;have:(id == id')=false:=by simp; exact fun h => hid h.symm
  simp [exitTo,this,hk]
 | goto l => exact ⟨_,a₁,w₁,hq,fun k' hk => .head step_block (harr k' (by simp [gotoIn,hk]))⟩
 | ret => exact ⟨_,a₁,w₁,hq,.of_steps (.one step_block) harr⟩
 | panic ch => exact ⟨_,a₁,w₁,hq,.of_steps (.one step_block) harr⟩
 | outgrown => exact ⟨_,a₁,w₁,hq,.of_steps (b:=b) (k:=k) (cs:=cs) (e:=.outgrown) (.one step_block) harr⟩
theorem mQ (w:World):(zeroValue 35).run Tryz.prog w = .ok (u9 zRA).den w:=by kernel_rfl
theorem qe (m:Nat -> Nat -> Prop) (w:World):Ok m w (u9 zRA):=by
 refine .agg _ (fun v hv => ?_) fun v hv => ?_
 .simp only [fR,List.mem_cons,List.not_mem_nil,or_false] at hv
  rcases hv with rfl | rfl | rfl | rfl | rfl<;>rfl
 simp only [fR,List.mem_cons,List.not_mem_nil,or_false] at hv
 rcases hv with rfl | rfl | rfl | rfl | rfl
 .exact .int _ _
 .exact .sl _ _ _ _ _ _ (Nat.le_refl _) (Nat.zero_le _) (fun i hi => absurd hi (Nat.not_lt_zero _)) (fun i hi => absurd hi (Nat.not_lt_zero _)) (fun i hi => absurd hi (Nat.not_lt_zero _)) (fun i hi => absurd hi (Nat.not_lt_zero _)) (fun i hi => absurd hi (Nat.not_lt_zero _))
 .exact .int _ _
 .exact .int _ _
 exact .int _ _
theorem bX {q:Lab} (hl:isL q=true) (hb:U64 q.bits):k4 q:=by
 obtain ⟨h1,h2,_⟩:=s7 hl;obtain ⟨h3,h4⟩:=hb
 constructor
 .simp [Lit.wf,IntKind.min,IntKind.max,IntKind.signed,IntKind.bits]; omega
 simp [Lit.wf,IntKind.min,IntKind.max,IntKind.signed,IntKind.bits]; omega
def P4 (T:List (Lab × RA)):Tre:=fun l => (I3 l T).map fun x => x.r.abs
structure va (T:List (Lab × RA)):Prop where
 labs:∀ p ∈ T,k4 p.1/\U64 p.1.bits
 recs:∀ p ∈ T,p.2.r.n<=16/\∀ i,i < p.2.r.n -> U64 (p.2.r.f i).key
theorem va.ok {T:List (Lab × RA)} (h:va T):FN (P4 T) (T.map (·.1)):=by
 refine ⟨fun k hk => ?_,fun l r hr => ?_⟩
 .obtain ⟨p,hp,rfl⟩:=List.mem_map.1 hk
  exact (h.labs p hp).2
 obtain ⟨x,hx,rfl⟩:=Option.map_eq_some_iff.1 hr;have hm:=Y4 hx;refine ⟨List.mem_map.2 ⟨_,hm,rfl⟩,?_⟩;have:=(h.recs _ hm).1;unfold RN.abs;rw [i3];exact this
theorem va.el {T:List (Lab × RA)} (h:va T) (q:Lab):((I3 q T).getD zRA).r.n<=16/\∀ i,i < ((I3 q T).getD zRA).r.n -> U64 (((I3 q T).getD zRA).r.f i).key:=by
 cases hx:I3 q T with
 | none => exact ⟨Nat.zero_le _,fun i hi => absurd hi (Nat.not_lt_zero _)⟩
 | some x => exact h.recs _ (Y4 hx)
abbrev tEp (bt bT:Nat):AV:=.ep (some ⟨bt,0,none⟩) 0 0 0 [.raw (.map (some bT))]
theorem J4.x {P:Program} {f:FuncId} {args:List AV} {pre:List (Nat × Blk)} {res:f9 -> CR} {J:Nat -> f9 -> Kn} (h:J4 P f args pre none noK res J):u2 P f args pre res:=by
 intro m w h1 h2 h3;refine (h m w h1 h2 h3 trivial).mono ?_
 rintro e w' ⟨x,rfl,g1,g2,_,_⟩
 exact ⟨x,rfl,g1,g2.plain⟩
theorem fK {g g':Option Nat} {k k':Nat} {f f':Nat -> List AV}:Sim (.sl g none 0 0 k f) (.sl g' none 0 0 k' f'):=
 ⟨rfl,fun _ => rfl,fun _ _ _ => .sl _ _ _ _ _ _ (Nat.le_refl _) (Nat.zero_le _) (fun i hi => absurd hi (Nat.not_lt_zero _)) (fun i hi => absurd hi (Nat.not_lt_zero _)) (fun i hi => absurd hi (Nat.not_lt_zero _)) (fun i hi => absurd hi (Nat.not_lt_zero _)) (fun i hi => absurd hi (Nat.not_lt_zero _))⟩
def RwN (n:Nat) (f:Nat -> l5):Prop:=∀ i,i < n -> (f i).x.r.n<=1000000/\k4 (f i).lab/\U64 (f i).lab.bits/\U64 (f i).x.r.nx.bits
def RwK (n:Nat) (f:Nat -> l5):Prop:=∀ i,i < n -> ∀ t,t < (f i).x.r.n -> U64 ((f i).x.r.f t).key
def pu (l:List Rw):Bool:=(aT l).isSome
theorem Eu (A:Option Addr) (n c:Nat) (f:Nat -> l5) (hn:n<=maxLen) (hN:RwN n f):j5 Tryz.prog 105 [T6 A n c f] (fun _ => .bool (.v (pu (r9 f n)))):=by
 intro m w hm hargs;have hmx:maxLen=9223372036854775807:=rfl;have SN:=(wG A n c f hn hN).x;obtain ⟨ir,hir⟩:=eqv (pu (r9 f n));rw [<-hir];refine en 12 hm hargs Tryz.func105 fun B hB a0 hF => ?_
 refine wp_seq (rg hB a6 [0] [] [] hF fun X0 a0 w1 hF => ?_);unfold pu at hir
 cases hs:aT (r9 f n) with
 | none =>
  rw [hs] at SN hir;have O1:=SN;refine wp_seq (rg hB a6 [4] [] [(1,.x fun y => ⟨.tup [.nilp,.int .i64 1],[],[]⟩)] hF fun X1 a0 w1 hF => ?_);refine wp_seq (rg hB a6 [2] [] [] hF fun X2 a0 w1 hF => ?_);exact wp_ret (rsp hB a6 hF ⟨0,fun _ => none,fun _ => 0,fun _ => .empty⟩ (he:=by subst hB; rw [hir]; rfl)).1
 | some L =>
  rw [hs] at SN hir;have O1:=SN;refine wp_seq (rg hB a6 [4] [] [(1,.x fun y => ⟨.tup [.ptr 14 y.b 0,.int .i64 0],[],[(14,⟨y.b,113,[.raw (.map (some (y.c 0))),.int .i64 0]⟩)]⟩)] hF fun X1 a0 w1 hF => ?_);refine wp_seq (rg hB a6 [2] [] [] hF fun X2 a0 w1 hF => ?_);exact wp_ret (rsp hB a6 hF ⟨0,fun _ => none,fun _ => 0,fun _ => .empty⟩ (he:=by subst hB; rw [hir]; rfl)).1
def qg (l:List Rw):Tre:=fun q => (l.reverse.find? fun w => decide (w.lab=q)).map (·.r)
theorem rP {α : Type} {l:Lab} {x:α} {p:Lab × α}:∀ {L:List (Lab × α)},p ∈ I0 l x L -> p=(l,x) \/ p ∈ L
 | [],h => by simp [I0] at h; exact .inl h
 | y :: L,h => by
  unfold I0 at h
  split at h
  .rcases List.mem_cons.1 h with h | h
   .exact .inl h
   exact .inr (List.mem_cons_of_mem _ h)
  rcases List.mem_cons.1 h with h | h
  .exact .inr (by rw [h]; exact List.mem_cons_self ..)
  exact (rP h).imp id (List.mem_cons_of_mem _)
theorem vp (f:Nat -> l5):∀ n,P4 (Z4 f n)=qg (r9 f n)
 | 0 => rfl
 | n + 1 => by
  funext q
  have ih:=congrFun (vp f n) q;unfold P4 qg at ih ⊢;unfold Z4;rw [dJ,show r9 f (n + 1)=r9 f n ++ [l5.abs (f n)] from aI _ _ _,List.reverse_append,List.reverse_singleton,List.singleton_append,List.find?_cons]
  by_cases h:(f n).lab=q
  .rw [if_pos h]
   simp [l5.abs,h]
  rw [if_neg h];rw [show decide ((l5.abs (f n)).lab=q)=false from decide_eq_false h];exact ih
theorem sm:∀ {l:List Rw} {L L':Shf},dD l L=some L' -> ∀ w ∈ l,isL w.lab=true/\isR w.r=true
 | [],_,_,_,w,hw => by cases hw
 | v :: l,L,L',h,w,hw => by
  unfold dD at h
  split at h
  .cases h
  rename_i hn
  simp only [Bool.or_eq_true,Bool.not_eq_true',not_or,Bool.not_eq_false] at hn
  rcases List.mem_cons.1 hw with rfl | hw
  .exact ⟨hn.1.2,hn.2⟩
  exact sm h w hw
theorem sj {l:List Rw} (h:pu l=true):l.length<=2000/\∀ w ∈ l,isL w.lab=true/\isR w.r=true:=by
 unfold pu aT at h
 split at h
 .cases h
 obtain ⟨L,hL⟩:=Option.isSome_iff_exists.1 h;exact ⟨by omega,sm hL⟩
theorem gL (f:Nat -> l5):∀ (n:Nat) (p:Lab × RA),p ∈ Z4 f n -> ∃ i,i < n/\p=((f i).lab,(f i).x)
 | 0,p,h => by cases h
 | n + 1,p,h => by
  unfold Z4 at h;have h':=rP h
  rcases h' with h' | h'
  .exact ⟨n,by omega,h'⟩
  obtain ⟨i,hi,e⟩:=gL f n p h';exact ⟨i,by omega,e⟩
theorem vo {f:Nat -> l5} {n:Nat} (hN:RwN n f) (hK:RwK n f) (h:pu (r9 f n)=true):va (Z4 f n):=by
 obtain ⟨_,h2⟩:=sj h;refine ⟨fun p hp => ?_,fun p hp => ?_⟩
 .obtain ⟨i,hi,rfl⟩:=gL f n p hp
  exact ⟨(hN i hi).2.1,(hN i hi).2.2.1⟩
 obtain ⟨i,hi,rfl⟩:=gL f n p hp;have hm:l5.abs (f i) ∈ r9 f n:=by
  simp only [r9,J5,List.mem_map,List.mem_range];exact ⟨i,hi,rfl⟩
 have h3:=(h2 _ hm).2;have h4:isR (f i).x.r.abs=true:=h3;rw [gi] at h4;exact ⟨(V5 h4).2.2.1,hK i hi⟩
structure Ej (B:Nat) (w w':World):Prop where
 os:w'.os=w.os
 tape:w'.tape=w.tape
 output:w'.output=w.output
 size:B<=w'.heap.size
 block:∀ k,k < B -> w'.heap[k]? = w.heap[k]?
def tD (B n:Nat) (f:Nat -> Itm) (w:World) (e:Ending) (w':World):Prop:=∃ A m c,e = .returned (.slice A m c)/\decide (m < n)=rb n f/\m<=n/\Ej B w w'
def ru (w:World) (B:Nat):World:={ w with heap:=w.heap.extract 0 B }
theorem dS {w:World} {B:Nat} (h:B<=w.heap.size):(ru w B).heap.size=B:=by
 simp [ru]; omega
theorem xM {w:World} {B k:Nat} (hk:k < B):(ru w B).heap[k]? = w.heap[k]?:=by
 simp [ru,Array.getElem?_extract];intro h; omega
theorem qy {w w':World} {B:Nat} (hB:B<=w.heap.size) {S:Nat -> Prop} (hS:∀ k,¬ S k) (h:Chg S (ru w B) w'):Ej B w w':=
 ⟨h.os,h.tape,h.output,by have:=h.size; rwa [dS hB] at this,fun k hk => by
  have:=h.block k (by rw [dS hB]; exact hk) (hS k);rw [this,xM hk]⟩
abbrev eqF:AV:=.fn 89 [] []
theorem qK (x:Itm):∀ v ∈ itC x,v.one=true:=by
 intro v hv;simp only [itC,List.mem_cons,List.not_mem_nil,or_false] at hv
 rcases hv with rfl | rfl<;>rfl
theorem Cg {m:Nat -> Nat -> Prop} {w:World} {g:Option Nat} {A:Option Addr} {n c k i:Nat} {f:Nat -> List AV} (h:Ok m w (.sl g A n c k f)) (hi:i<=n):Ok m w (.sl none (M4 A c i k) (n - i) (c - i) k (fun t => f (i + t))):=by
 cases h with
 | sl _ _ _ _ _ _ h1 h2 h3 h4 h5 h6 h7 =>
  have hA:∀ t,t < n - i -> ∃ b off,A=some ⟨b,off,none⟩/\M4 A c i k=some ⟨b,off + i * k,none⟩:=by
   intro t ht;obtain ⟨b,off,hA⟩:=h4 (i + t) (by omega);refine ⟨b,off,hA,?_⟩;unfold M4;rw [if_neg (by omega),hA];simp [Addr.add]
  refine .sl _ _ _ _ _ _ (by omega) (by omega) (fun t ht => h3 _ (by omega)) (fun t ht => ?_) (fun t ht j u hu => ?_) (fun t ht => h6 _ (by omega)) (fun t ht => h7 _ (by omega))
  .obtain ⟨b,off,_,h⟩:=hA t ht
   exact ⟨b,_,h⟩
  obtain ⟨b,off,hA1,hA2⟩:=hA t ht;obtain ⟨b',off',e1,e2,e3⟩:=h5 (i + t) (by omega) j u hu;rw [hA1] at e1;injection e1 with e1; injection e1 with e4 e5
  subst e4; subst e5;have:off + i * k + (t * k + j)=off + ((i + t) * k + j):=by rw [Nat.add_mul]; omega
  exact ⟨b,_,hA2,by rw [this]; exact e2,by rw [this]; exact e3⟩
section
variable {a:Act} {m:Nat -> Nat -> Prop} {w:World}
theorem nL:∀ x,(look ([]:List (Nat × AV)) x).known=true -> a.tmps[x]? = some (look ([]:List (Nat × AV)) x).den/\Ok m w (look ([]:List (Nat × AV)) x):=fun x h => by cases h
theorem M8 {k:Nat} {v:AV} {l:List (Nat × AV)} (h1:a.tmps[k]? = some v.den/\Ok m w v) (h2:∀ x,(look l x).known=true -> a.tmps[x]? = some (look l x).den/\Ok m w (look l x)):∀ x,(look ((k,v) :: l) x).known=true -> a.tmps[x]? = some (look ((k,v) :: l) x).den/\Ok m w (look ((k,v) :: l) x):=by
 intro x hx;rw [o6] at hx ⊢
 by_cases h:k=x
 .subst h; rw [if_pos rfl]; exact h1
 rw [if_neg h] at hx ⊢; exact h2 x hx
end
theorem dj {cs:Array Value} {zc:List AV} (h:cs.toList=zc.map AV.den):∀ m,(Builtin.zeroCells cs m).toList=f7 (fun _ => zc) m
 | 0 => by simp [Builtin.zeroCells,f7]
 | m + 1 => by
  have ih:=dj h m;have hs:cs.size=zc.length:=by rw [<-Array.length_toList,h,List.length_map]
  rw [F3,<-ih,<-h];unfold Builtin.zeroCells;rw [Array.toList_map,Array.toList_map,Array.toList_range,Array.toList_range,Nat.add_mul,Nat.one_mul,List.range_add,List.map_append]
  congr 1
  apply List.ext_getElem
  .simp
  intro i h1 h2;have hi:i < cs.size:=by simpa using h2
  simp [Nat.mod_eq_of_lt hi,hi]
theorem qC {m0:Nat -> Nat -> Prop} {w0 w:World} {S:Nat -> Prop} {ds:List Deferred} {K:Kn} {nt key:Nat} {l:List (Nat × AV)} {mem:List (Nat × Blk)} {a:Act} {P:Program} {Q:Exit -> Act -> World -> Prop} {ops:Array Oper} {L rest:List Oper} {o:Oper} {cl:Call} {x:Operand} {A:Option Addr} {n c k e t bytes lo:Nat} {f:Nat -> List AV} {g:Option Nat} {cells:Nat -> List AV} {z:Value} {zc:List AV} (hL:L=o :: rest) (hg:o.guard=none) (hop:o.op = .call cl) (hc1:cl.callee = .builtin .clear) (hc2:cl.args = #[x]) (hc3:cl.argTypes = #[t]) (hdst:o.dst=none)
  (h:b4 ⟨m0,w0,S,ds,K⟩ ⟨nt,l,[],mem,[(key,⟨A,n,c,k,e⟩)]⟩ a w) (hx:val ⟨nt,l,[],mem,[(key,⟨A,n,c,k,e⟩)]⟩ [] x = .sl none (M4 A c lo k) (n - lo) (c - lo) k cells) (E:bK P t e k bytes z) (hz:z.cells.toList=zc.map AV.den) (hz1:∀ v ∈ zc,v.one=true) (hzl:zc.length=k) {m:Nat -> Nat -> Prop} (hrow:Ok m w (.sl g A n c k f)) (hk:∀ j,j < n -> (f j).length=k) (hlo:lo < n)
  (Kc:∀ w',Own w' w0.heap.size e k (.slice A n c) n (f7 (F8 lo f (fun _ => zc)) n) -> Chg (fun b => l8 (.slice A n c)=some b) w w' -> wpList P ops Q rest a w'):wpList P ops Q L a w:=by
 have hO:=qQ h hrow;have hflen:=B8 hk;have hzf:=dj hz (n - lo);have hzfl:(f7 (fun _ => zc) (n - lo)).length=(n - lo) * k:=B8 (fun _ _ => hzl);have hmul:lo * k + (n - lo) * k=n * k:=by rw [<-Nat.add_mul]; congr 1; omega
 obtain ⟨b,cur,hA,hb,hcs,hnc,hob,hO2,hchg⟩:=rY hO (o:=lo * k) (vs:=f7 (fun _ => zc) (n - lo)) (by rw [hzfl]; omega) (by omega);have hxv:=(C2 h (q:=[]) (fun _ h => by cases h) (x:=x) (by rw [hx]; rfl)).1;rw [hx] at hxv;have hcn:n<=c:=by cases hrow with | sl _ _ _ _ _ _ h1 => exact h1
 have hden:a.eval x = .slice (some ⟨b,lo * k,none⟩) (n - lo) (c - lo):=by
  rw [hxv];simp only [AV.den];unfold M4;rw [if_neg (by omega),hA];simp [Addr.add]
  try exact fun h => h.symm
 have hrun:=nj (P:=P) (w:=w) E o.type hb (o:=lo * k) (len:=n - lo) (cap:=c - lo) (by rw [hcs]; omega) (fun v hv => by
  rw [hz] at hv;obtain ⟨y,hy,rfl⟩:=List.mem_map.1 hv;exact nu (hz1 y hy))
 rw [hzf] at hrun;refine Q9 hL hg ?_;unfold Oper.wp;have e1:(execOp a.eval o).run P w = .ok (.value (.tuple #[])) (w.setRow b (cur.toList.take (lo * k) ++ f7 (fun _ => zc) (n - lo) ++ cur.toList.drop (lo * k + (n - lo) * k)).toArray):=by
  simp [execOp,hop,hc1,hc2,hc3,resolve,invoke,builtin,hden,hrun,Result.andThen]
 rw [e1];simp only [Oper.upon];rw [hdst];rw [hzfl] at hO2 hchg;refine Kc _ ?_ hchg;have hfl:f7 (F8 lo f (fun _ => zc)) n=(f7 f n).take (lo * k) ++ f7 (fun _ => zc) (n - lo) ++ (f7 f n).drop (lo * k + (n - lo) * k):=by
  rw [show f7 (F8 lo f (fun _ => zc)) n=f7 (F8 lo f (fun _ => zc)) (lo + (n - lo)) by congr 1; omega,bd,List.drop_eq_nil_of_le (by rw [hflen]; omega),List.append_nil]
  congr 1
  have:=bd f (fun i => f (lo + i)) lo (n - lo);have e2:F8 lo f (fun i => f (lo + i))=f:=by
   funext i
   unfold F8
   split
   .rfl
   show f (lo + (i - lo))=f i
   rw [show lo + (i - lo)=i by omega]
  rw [e2,show lo + (n - lo)=n by omega] at this;rw [this,List.take_append_of_le_length (by rw [B8 (fun i hi => hk i (by omega))]; omega),List.take_of_length_le (by rw [B8 (fun i hi => hk i (by omega))]; omega)]
 rw [hfl];exact hO2
theorem uR {B n c:Nat} {A:Option Addr} {f:Nat -> Itm} {w:World} (hO:Own w B 62 2 (.slice A n c) n (f7 (fun t => itC (f t)) n)) (hBw:B<=w.heap.size) (hn:n<=1000000) (hs:∀ i,i < n -> (f i).val.size<=maxLen) :
  Calls Tryz.prog 87 ([.sl (some 77) A n c 2 (fun t => itC (f t)),eqF].map AV.den).toArray w (tD B n f w):=by
 have hmx:maxLen=9223372036854775807:=rfl;obtain ⟨wB,hwB⟩:=eqv (ru w B);have hsz:wB.heap.size=B:=by rw [hwB]; exact dS hBw
 have hitok:∀ (m:Nat -> Nat -> Prop) (w:World) (x:Itm),x.val.size<=maxLen -> ∀ v ∈ itC x,v.one=true/\Ok m w v:=fun m w x hx v hv => by
  simp only [itC,List.mem_cons,List.not_mem_nil,or_false] at hv
  rcases hv with rfl | rfl
  .exact ⟨rfl,.int _ _⟩
  exact ⟨rfl,.str _ hx⟩
 have hgrm:∀ b,l8 (.slice A n c)=some b -> ∀ o,o < n * 2 -> ¬ mG (fun _ _ => False) [] [(77,⟨A,n,c,2,62⟩)] b o:=by
  intro b hb o ho hm
  rcases hm with hm | ⟨k,e,he,_⟩ | ⟨k,t',ht,_,hle⟩
  .exact hm
  .cases he
  simp only [f5] at ht
  split at ht
  .injection ht with ht; subst ht; simp only at hle; omega
  cases ht
 have hrow:Ok (mG (fun _ _ => False) [] [(77,⟨A,n,c,2,62⟩)]) w (.sl (some 77) A n c 2 (fun t => itC (f t))):=
  aE hO (fun _ _ => rfl) hgrm (fun i hi => hitok _ _ _ (hs i hi)) _
 have hmem:Mem (fun _ _ => False) wB (fun _ => False) noK [] [(77,⟨A,n,c,2,62⟩)] w:=by
  refine ⟨rfl,rfl,(fun t ht => by cases ht),(fun t p v he => by cases he),(fun k e he => by cases he),(fun k k' e e' he => by cases he),fun k t ht => ?_,(fun k t k' e _ he => by cases he),fun k t k' t' b ht ht' hne => ?_,?_,fun b o h => h.elim,trivial⟩
  .simp only [f5] at ht
   split at ht
   .injection ht with ht; subst ht
    exact ⟨Nat.succ_pos 1,_,by show Own w wB.heap.size _ _ _ _ _; rw [hsz]; exact hO⟩
   cases ht
  .simp only [f5] at ht ht'
   split at ht
   .split at ht'
    .rename_i h1 h2
     exact absurd (by simp at h1 h2; omega) hne
    cases ht'
   cases ht
  rw [hwB];exact ⟨rfl,rfl,rfl,by show (ru w B).heap.size<=_; rw [dS hBw]; exact hBw,fun k hk _ => by rw [xM (by rw [dS hBw] at hk; exact hk)]⟩
 have hargs:∀ v ∈ [AV.sl (some 77) A n c 2 (fun t => itC (f t)),eqF],Ok (mT (fun _ _ => False) [] [(77,⟨A,n,c,2,62⟩)]) w v:=by
  intro v hv;simp only [List.mem_cons,List.not_mem_nil,or_false] at hv
  rcases hv with rfl | rfl
  .exact hrow
  exact .fn _ _ _ (fun v hv => by cases hv) (fun v hv => by cases hv)
 refine enI 66 hmem hargs Tryz.func87 fun B' hB a0 hF => ?_
 refine wp_seq (rg hB a6 [0,1] [77] [] hF fun X0 a0 w1 hF => ?_);refine wp_seq (wp_seq (rg hB a6 [10,0,1] [77] [] hF fun X1 a0 w1 hF => ?_));apply a7 hF rfl<;>intro hb hF
 .have hn2:n < 2:=by
   have:(n:Int) < 2:=by subst hB; simpa [std,a8] using hb
   omega
  refine wp_seq (rg hB a6 [4] [77] [] hF fun X2 a0 w1 hF => ?_);refine wp_ret (de (R:=tD B n f w) hB a6 hF (fun hm' _ => ⟨A,n,c,rfl,?_,Nat.le_refl _,qy hBw (fun _ h => h) (by rw [<-hwB]; exact hm'.chg)⟩)).1;rw [decide_eq_false (Nat.lt_irrefl _)];unfold rb;rw [show n - 1=0 by omega];rfl
 have hn2:¬ n < 2:=by
  have:¬ (n:Int) < 2:=by subst hB; simpa [std,a8] using hb
  omega
 refine wp_skip (wp_seq (wp_seq (rg hB a6 [5,0,1] [77] [] hF fun X2 a0 w1 hF => ?_)));refine (wp_block (l0 (ι:=Nat) (fun p => [(5,.int .i64 (p:Int))]) (fun p => []) (fun p => []) (fun p => 1<=p/\p<=n/\∀ t,t + 1 < p -> ¬ (f (t + 1)).key=(f t).key) (fun p => n - p) 1 ⟨Nat.le_refl _,by omega,fun t ht => absurd ht (by omega)⟩ hF ?_))
 rintro i ⟨hi1,hi,hlt⟩ a0 w1 hF
 refine wp_seq (wp_seq (rg hB a6 [15,5,0,1] [77] [] hF fun X3 a0 w1 hF => ?_));refine a7 hF rfl (fun hb2 hF => ?_) (fun hb2 hF => ?_)
 .have hin:i < n:=by
   have:(i:Int) < (n:Int):=by subst hB; simpa [std,a8] using hb2
   omega
  have e2:std.arith .sub .i64 (i:Int) 1=((i - 1:Nat):Int):=by show IntKind.i64.wrap ((i:Int) - 1)=_; rw [r8 (by omega) (by omega)]; omega
  have e3:std.toNat (std.arith .sub .i64 (i:Int) 1)=i - 1:=by rw [e2]; rfl
  have S:=xr (f i) (f (std.toNat (std.arith .sub .i64 (i:Int) 1)));obtain ⟨q,hq⟩:=eqv (decide ((f i).key=(f (i - 1)).key));have hq2:decide ((f i).key=(f (std.toNat (std.arith .sub .i64 (i:Int) 1))).key)=q:=by rw [hq,e3]
  rw [hq2] at S;refine wp_skip (wp_seq (wp_block (wp_seq (drg hB a6 [28,5,0,1] [77] [(10,.r fun _ => .bool (.v q))] hF (fun X4 a0 w1 hF => ?_) (hob:=?hob)))))
  case hob =>
   intro X; subst hB
   repeat (first | exact trivial | refine ⟨rfl,?_⟩ | refine ⟨(show (0:Int)<=(i:Int)/\(i:Int) < (n:Int) by omega),?_⟩ | refine ⟨(show (0:Int)<=std.arith .sub .i64 (i:Int) 1/\std.arith .sub .i64 (i:Int) 1 < (n:Int) by rw [e2]; omega),?_⟩ | refine ⟨⟨fun _ _ => by kernel_rfl,S⟩,?_⟩)
  refine a7 hF rfl (fun hb3 hF => ?_) (fun hb3 hF => ?_)
  .have hdup:rb n f=true:=by
    have h5:q=true:=by subst hB; exact hb3
    rw [hq,decide_eq_true_eq] at h5;unfold rb;rw [List.any_eq_true];exact ⟨i - 1,List.mem_range.2 (by omega),by rw [show i - 1 + 1=i by omega,decide_eq_true_eq]; exact h5⟩
   refine wp_seq (rg hB a6 [6,5,0,1] [77] [] hF (fun X5 a0 w1 hF => ?_));obtain ⟨A6,hA6⟩:=eqv (M4 A c i 2);obtain ⟨n6,hn6⟩:=eqv (n - i);obtain ⟨c6,hc6⟩:=eqv (c - i);have hF:=hF.headS (v':=.sl none A6 n6 c6 2 (fun t => itC (f (i + t)))) (by subst hB; rw [hA6,hn6,hc6]; exact zr) rfl;refine wp_seq (wp_seq (rg hB a6 [7,5,0,6,1] [77] [] hF fun X6 a0 w1 hF => ?_));refine wp_block (ga (ι:=Nat × Nat × (Nat -> Itm)) (fun p a w1 => b4 ⟨fun _ _ => False,wB,fun _ => False,[],noK⟩ ⟨66,[(7,.int .i64 (p.1:Int)),(5,.int .i64 (p.2.1:Int)),(0,.sl (some 77) A n c 2 (fun t => itC (p.2.2 t))),(6,.sl none A6 n6 c6 2 (fun t => itC (p.2.2 (i + t)))),(1,eqF)],[],[],[(77,⟨A,n,c,2,62⟩)]⟩ a w1) (fun p => 1<=p.1/\p.1<=n6/\i<=p.2.1/\p.2.1 + 1<=i + p.1/\∀ t,t < n -> (p.2.2 t).val.size<=maxLen) (fun p => n6 - p.1) (1,i,f) ⟨Nat.le_refl _,by omega,Nat.le_refl _,Nat.le_refl _,hs⟩ hF ?_)
   rintro ⟨j,k,g⟩ ⟨hj1,hj,hk0,hk1,hsg⟩ a0 w1 hF
   dsimp only at hj1 hj hk0 hk1 hsg hF;obtain ⟨gs,hgs⟩:∃ x:Nat -> Itm,x=fun t => g (i + t):=⟨_,rfl⟩
   have egs:(fun t => itC (g (i + t)))=fun t => itC (gs t):=by rw [hgs]
   rw [egs] at hF;refine wp_seq (wp_seq (rg hB a6 [35,7,5,0,6,1] [77] [] hF fun X7 a0 w1 hF => ?_));refine a7 hF rfl (fun hb4 hF => ?_) (fun hb4 hF => ?_)
   .have hjn:j < n6:=by
     have:(j:Int) < (n6:Int):=by subst hB; simpa [std,a8] using hb4
     omega
    have ej2:std.arith .sub .i64 (j:Int) 1=((j - 1:Nat):Int):=by show IntKind.i64.wrap ((j:Int) - 1)=_; rw [r8 (by omega) (by omega)]; omega
    have ej3:std.toNat (std.arith .sub .i64 (j:Int) 1)=j - 1:=by rw [ej2]; rfl
    have S2:=xr (gs j) (gs (std.toNat (std.arith .sub .i64 (j:Int) 1)));obtain ⟨q2,hq2⟩:=eqv (decide ((gs j).key=(gs (std.toNat (std.arith .sub .i64 (j:Int) 1))).key));rw [<-hq2] at S2;refine wp_skip (wp_seq (wp_block (wp_seq (drg hB a6 [49,7,5,0,6,1] [77] [(10,.r fun _ => .bool (.v q2))] hF (fun X8 a0 w1 hF => ?_) (hob:=?hob3)))))
    case hob3 =>
     intro X; subst hB
     repeat (first | exact trivial | refine ⟨rfl,?_⟩ | refine ⟨(show (0:Int)<=(j:Int)/\(j:Int) < (n6:Int) by omega),?_⟩ | refine ⟨(show (0:Int)<=std.arith .sub .i64 (j:Int) 1/\std.arith .sub .i64 (j:Int) 1 < (n6:Int) by rw [ej2]; omega),?_⟩ | refine ⟨⟨fun _ _ => by kernel_rfl,S2⟩,?_⟩)
    have eJ:B'.arith .add .i64 (j:Int) 1=((j + 1:Nat):Int):=by subst hB; exact j2 (n:=n6) hjn (by omega)
    refine a7 hF rfl (fun hb5 hF => ?_) (fun hb5 hF => ?_)
    .refine wp_seq (wp_region_lit ?_)
     refine lpr 0 7 hB a6 [56,55,7,5,0,6,1] [77] [] hF (fun X9 a0 w1 hF => ?_) (hob:=?hob4)
     case hob4 =>
      intro X; subst hB
      repeat (first | exact trivial | refine ⟨rfl,?_⟩ | refine ⟨(show (0:Int)<=(j:Int)/\(j:Int) < (n6:Int) by omega),?_⟩ | refine ⟨(show (0:Int)<=(k:Int)/\(k:Int) < (n:Int) by omega),?_⟩)
     have hj6:j < n6:=hjn;have hF:=hF.headS (v':=.ep A k 2 0 (itC (g k))) (by subst hB; exact zr) rfl;have hrowk:Ok _ w1 (.sl (some 77) A n c 2 (fun t => itC (g t))):=(hF.slot 0 rfl).2;have hF:=hF.reslot 55 (.agg (itC (gs j))) rfl (by subst hB; rfl) (.agg _ (fun v hv => (hitok (fun _ _ => False) w1 (gs j) (by rw [hgs]; exact hsg _ (by omega)) v hv).1) (fun v hv => (hitok _ w1 (gs j) (by rw [hgs]; exact hsg _ (by omega)) v hv).2));refine kr rfl rfl rfl rfl hF rfl rfl (.inr rfl) a6 rfl rfl hrowk (fun _ _ => rfl) (show k < n by omega) (Nat.le_refl 2) (fun w2 hO2 hc2 _ => ?_)
     obtain ⟨g2,hg2⟩:∃ x:Nat -> Itm,x=fun t => if t=k then gs j else g t:=⟨_,rfl⟩
     have efl:wrC (fun t => itC (g t)) k 0 (itC (gs j))=fun t => itC (g2 t):=by
      funext t
      rw [hg2];unfold wrC
      by_cases h:t=k
      .simp [h,itC]
      simp [h]
     have hO2:Own w2 wB.heap.size 62 2 (.slice A n c) n (f7 (fun t => itC (g2 t)) n):=by rw [<-efl]; exact hO2
     have hsg2:∀ t,t < n -> (g2 t).val.size<=maxLen:=fun t ht => by
      rw [hg2];dsimp only
      split
      .rw [hgs]; exact hsg _ (by omega)
      exact hsg t ht
     have hrow2:Ok (mG (fun _ _ => False) [] [(77,⟨A,n,c,2,62⟩)]) w2 (.sl (some 77) A n c 2 (fun t => itC (g2 t))):=aE hO2 (fun _ _ => rfl) hgrm (fun i hi => hitok _ _ _ (hsg2 i hi)) _;have hsub2:Ok (mG (fun _ _ => False) [] [(77,⟨A,n,c,2,62⟩)]) w2 (.sl none A6 n6 c6 2 (fun t => itC (g2 (i + t)))):=by
      rw [hA6,hn6,hc6];exact Cg hrow2 (by omega)
     have hF:=b4.rowset (K':=noK) (l':=[(7,.int .i64 (j:Int)),(5,.int .i64 (k:Int)),(0,.sl (some 77) A n c 2 (fun t => itC (g2 t))),(6,.sl none A6 n6 c6 2 (fun t => itC (g2 (i + t)))),(1,eqF)]) hF hc2 hO2 (M8 ⟨(hF.slot 7 rfl).1,.int _ _⟩ (M8 ⟨(hF.slot 5 rfl).1,.int _ _⟩ (M8 ⟨(hF.slot 0 rfl).1,hrow2⟩ (M8 ⟨(hF.slot 6 rfl).1,hsub2⟩ (M8 ⟨(hF.slot 1 rfl).1,.fn _ _ _ (fun v hv => by cases hv) (fun v hv => by cases hv)⟩ nL))))) (fun k e he => by cases he) trivial;refine wpList_nil ?_;refine rg hB a6 [5,7,0,6,1] [77] [] hF fun X10 a0 w1 hF => ?_
     have eK:B'.arith .add .i64 (k:Int) 1=((k + 1:Nat):Int):=by subst hB; exact j2 (n:=n) (by omega) (by omega)
     refine rg hB a6 [7,5,0,6,1] [77] [] hF fun X11 a0 w1 hF => ?_
     exact ⟨(j + 1,k + 1,g2),⟨by simp only; omega,by simp only; omega,by simp only; omega,by simp only; omega,hsg2⟩,by simp only; omega,by simp only; rw [<-eJ,<-eK]; exact hF⟩
    refine wp_skip (rg hB a6 [7,5,0,6,1] [77] [] hF fun X9 a0 w1 hF => ?_);exact ⟨(j + 1,k,g),⟨by simp only; omega,by simp only; omega,hk0,by simp only; omega,hsg⟩,by simp only; omega,by simp only; rw [egs,<-eJ]; exact hF⟩
   have hjn:j=n6:=by
    have:¬ (j:Int) < (n6:Int):=by subst hB; simpa [std,a8] using hb4
    omega
   refine wp_exit (wp_seq (wp_region_lit ?_));refine lpr 0 3 hB a6 [61,5,0,1] [77] [] hF (fun X8 a0 w1 hF => ?_);have hrowk:Ok _ w1 (.sl (some 77) A n c 2 (fun t => itC (g t))):=(hF.slot 0 rfl).2;have hkn:k < n:=by omega
   have hF:=hF.headS (v':=.sl none (M4 A c k 2) (n - k) (c - k) 2 (fun t => itC (g (k + t)))) (by subst hB; exact zr) rfl;refine qC (zc:=itC r7) rfl rfl rfl rfl rfl rfl rfl hF rfl Cl.etyI rfl (qK _) rfl hrowk (fun _ _ => rfl) hkn (fun w2 hO2 hc2 => ?_);have hrow2:Ok (mG (fun _ _ => False) [] [(77,⟨A,n,c,2,62⟩)]) w2 (.sl (some 77) A n c 2 (F8 k (fun t => itC (g t)) (fun _ => itC r7))):=aE (by rw [<-hsz] at *; exact hO2) (fun j hj => by unfold F8; split<;>rfl) hgrm (fun j hj => by
    unfold F8
    split
    .exact hitok _ _ _ (hsg j hj)
    exact hitok _ _ _ (Nat.zero_le _)) _
   have hF:=b4.rowset (K':=noK) (l':=[(0,.sl (some 77) A n c 2 (F8 k (fun t => itC (g t)) (fun _ => itC r7))),(5,.int .i64 (k:Int))]) hF hc2 hO2 (M8 ⟨(hF.slot 0 rfl).1,hrow2⟩ (M8 ⟨(hF.slot 5 rfl).1,.int _ _⟩ nL)) (fun k e he => by cases he) trivial;refine wpList_nil ?_;obtain ⟨fz,hfz⟩:=eqv (F8 k (fun t => itC (g t)) (fun _ => itC r7));rw [<-hfz] at hF;refine wp_seq (rg hB a6 [4] [77] [] hF fun X9 a0 w1 hF => ?_);subst hB;refine wp_ret (de (B:=std) (R:=tD B n f w) rfl a6 hF (fun hm' _ => ⟨_,k,_,rfl,?_,by omega,qy hBw (fun _ h => h) (by rw [<-hwB]; exact hm'.chg)⟩)).1;rw [hdup,decide_eq_true (by omega)]
  have hbq:q=false:=by subst hB; exact hb3
  have eI:B'.arith .add .i64 (i:Int) 1=((i + 1:Nat):Int):=by subst hB; exact j2 (n:=n) hin (by omega)
  refine wp_skip (rg hB a6 [5,0,1] [77] [] hF fun X5 a0 w1 hF => ?_);refine ⟨i + 1,⟨by omega,by omega,fun t ht => ?_⟩,by omega,by rw [<-eI]; exact hF⟩
  rcases Nat.lt_or_ge (t + 1) i with h5 | h5
  .exact hlt t h5
  have:t=i - 1:=by omega
  subst this;rw [show i - 1 + 1=i by omega];rw [hq] at hbq;exact of_decide_eq_false hbq
 have hin:i=n:=by
  have:¬ (i:Int) < (n:Int):=by subst hB; simpa [std,a8] using hb2
  omega
 refine wp_exit (wp_seq (rg hB a6 [4] [77] [] hF fun X4 a0 w1 hF => ?_));refine wp_ret (de (R:=tD B n f w) hB a6 hF (fun hm' _ => ⟨A,n,c,rfl,?_,Nat.le_refl _,qy hBw (fun _ h => h) (by rw [<-hwB]; exact hm'.chg)⟩)).1;rw [decide_eq_false (Nat.lt_irrefl _)]
 symm
 unfold rb;rw [List.any_eq_false];intro t ht;have h5:=List.mem_range.1 ht;rw [decide_eq_true_eq];exact hlt t (by omega)
end Go.Proofs.YtodelmejfpkicaaGreat.Sym
namespace Go.Proofs.YtodelmejfpkicaaGreat.Sym
open Go Go.RowKit Go.Sort
theorem qo {n B e:Nat} {A:Option Addr} {c:Nat} {h:Nat -> l5} {w:World} (hO:Own w B e 8 (.slice A n c) n (f7 (fun t => u7 (h t)) n)) (hn:n < 4611686018427387904) :
  Calls Tryz.prog 93 #[.slice A n c,.func (.func 94) #[] #[]] w fun e' w' => e' = .returned (.tuple #[])/\∃ h':Nat -> l5,((List.range n).map h').Perm ((List.range n).map h)/\(∀ i j,i < j -> j < n -> Y3 (h' j).lab (h' i).lab=false)/\Own w' B e 8 (.slice A n c) n (f7 (fun t => u7 (h' t)) n)/\Chg (fun x => l8 (.slice A n c)=some x) w w':=by
 refine jJ (cells:=u7) (lt:=ltOf iT) (k:=8) (fun _ => rfl) hO (fun b d hd hH hb => ?_) (fun h0 => ?_)
 .have eg:∀ args w,(callFunc 94 args).run Tryz.prog w = .ok (.enter 94 args) w:=enters_of Tryz.func94 (by kernel_rfl) rfl
  have hcmp:CmpLays Tryz.prog 94 #[] (cm u7) 8 iT b 0 d.size w:=by
   intro m os dk hdk x y;refine (DZ x y _).mono ?_
   rintro e w' ⟨rfl,q,os',rfl⟩
   exact ⟨rfl,q,os',rfl⟩
  have:=AnyQ.slices_SortFunc Tryz.sortRow 8 (fun _ => by kernel_rfl) (fun _ => by kernel_rfl) (cm u7) (fun _ => rfl) (fun x v hv => by
   simp only [cm,u7,List.map_cons,List.map_nil,AV.den,List.mem_cons,List.not_mem_nil,or_false] at hv
   rcases hv with rfl | rfl | rfl | rfl | rfl | rfl | rfl | rfl<;>rfl) iT vz 94 #[] b 0 c d w eg hcmp hH hb (by omega)
  exact this
 exact AnyF.slices_SortFunc_none (P:=Tryz.prog) (ρ:=Tryz.sortRow_ren) { Tryz.sortRow with } A c _ w
instance : Inhabited Lab := ⟨⟨0, 0⟩⟩
abbrev bZ (x:Lab):List AV:=[.int .i64 x.len,.int .u64 x.bits]
def pP (x y:Lab):Int:=bJ x y
theorem lm (x y:Lab):ltOf pP x y=Y3 x y:=rfl
theorem Cc:SWO (ltOf pP):=by
 refine ⟨fun x => ?_,fun x y z h1 h2 => ?_,fun x y z h1 h2 => ?_⟩
 .rw [lm,et]; omega
 .rw [lm,bY] at *; omega
 rw [lm,et] at *; omega
theorem tN {n B e:Nat} {A:Option Addr} {c:Nat} {h:Nat -> Lab} {w:World} (hO:Own w B e 2 (.slice A n c) n (f7 (fun t => bZ (h t)) n)) (hn:n < 4611686018427387904) :
  Calls Tryz.prog 97 #[.slice A n c,.func (.func 95) #[] #[]] w fun e' w' => e' = .returned (.tuple #[])/\∃ h':Nat -> Lab,((List.range n).map h').Perm ((List.range n).map h)/\(∀ i j,i < j -> j < n -> Y3 (h' j) (h' i)=false)/\Own w' B e 2 (.slice A n c) n (f7 (fun t => bZ (h' t)) n)/\Chg (fun x => l8 (.slice A n c)=some x) w w':=by
 refine jJ (cells:=bZ) (lt:=ltOf pP) (k:=2) (fun _ => rfl) hO (fun b d hd hH hb => ?_) (fun h0 => ?_)
 .have eg:∀ args w,(callFunc 95 args).run Tryz.prog w = .ok (.enter 95 args) w:=enters_of Tryz.func95 (by kernel_rfl) rfl
  have hcmp:CmpLays Tryz.prog 95 #[] (cm bZ) 2 pP b 0 d.size w:=by
   intro m os dk hdk x y;refine (sa x y _).mono ?_
   rintro e w' ⟨rfl,q,os',rfl⟩
   exact ⟨rfl,q,os',rfl⟩
  have:=AnyQ.slices_SortFunc Tryz.sortLab 2 (fun _ => by kernel_rfl) (fun _ => by kernel_rfl) (cm bZ) (fun _ => rfl) (fun x v hv => by
   simp only [cm,bZ,List.map_cons,List.map_nil,AV.den,List.mem_cons,List.not_mem_nil,or_false] at hv
   rcases hv with rfl | rfl<;>rfl) pP Cc 95 #[] b 0 c d w eg hcmp hH hb (by omega)
  exact this
 exact AnyF.slices_SortFunc_none (P:=Tryz.prog) (ρ:=Tryz.sortLab_ren) { Tryz.sortLab with } A c _ w
end Go.Proofs.YtodelmejfpkicaaGreat.Sym
namespace Go.Proofs.YtodelmejfpkicaaGreat.Sym
open Go Go.RowKit
def nI (x:Lab):List Lab -> List Lab
 | [] => [x]
 | y :: l => if J3 x y=true then x :: y :: l else y :: nI x l
def oJ (l:List Lab):List Lab:=l.foldl (fun o x => nI x o) []
def cW (l:List Rw):List Lab:=(l.filter fun w => decide (w.r.kind=1)).map (·.lab)
def F4 (l:List Rw):List Lab:=oJ (cW l)
def leL (a b:Lab):Prop:=J3 b a=false
theorem me {a b c:Lab} (h:leL a b) (h':leL b c):leL a c:=by
 unfold leL at *
 cases hx:J3 c a with
 | false => rfl
 | true =>
  rcases aK a b with h1 | h1 | h1
  .have:=aJ hx h1
   rw [h'] at this; cases this
  .subst h1
   rw [h'] at hx; cases hx
  rw [h] at h1; cases h1
theorem js {a b:Lab} (h:J3 a b=true):leL a b:=by
 unfold leL
 cases hx:J3 b a with
 | false => rfl
 | true => have:=aJ h hx; rw [kx] at this; cases this
theorem pq {a b:Lab} (h:leL a b) (h':leL b a):a=b:=by
 unfold leL at *
 rcases aK a b with h1 | h1 | h1
 .rw [h'] at h1; cases h1
 .exact h1
 rw [h] at h1; cases h1
theorem im (x:Lab):∀ l:List Lab,(nI x l).Perm (x :: l)
 | [] => List.Perm.refl _
 | y :: l => by
  unfold nI
  split
  .exact List.Perm.refl _
  exact (List.Perm.cons _ (im x l)).trans (List.Perm.swap _ _ _)
theorem iO (x:Lab):∀ {l:List Lab},l.Pairwise leL -> (nI x l).Pairwise leL
 | [],_ => List.pairwise_singleton _ _
 | y :: l,h => by
  have h':=List.pairwise_cons.1 h;unfold nI
  split
  .rename_i hx
   refine List.pairwise_cons.2 ⟨fun z hz => ?_,h⟩
   rcases List.mem_cons.1 hz with rfl | hz
   .exact js hx
   exact me (js hx) (h'.1 z hz)
  rename_i hx
  refine List.pairwise_cons.2 ⟨fun z hz => ?_,iO x h'.2⟩
  rcases List.mem_cons.1 ((im x l).mem_iff.1 hz) with rfl | hz
  .exact (Bool.not_eq_true _).mp hx
  exact h'.1 z hz
theorem oI (l:List Lab):∀ (o:List Lab),(l.foldl (fun o x => nI x o) o).Perm (l ++ o)/\(o.Pairwise leL -> (l.foldl (fun o x => nI x o) o).Pairwise leL):=by
 induction l with
 | nil => exact fun o => ⟨List.Perm.refl _,id⟩
 | cons x l ih =>
  intro o;obtain ⟨h1,h2⟩:=ih (nI x o);refine ⟨?_,fun ho => h2 (iO x ho)⟩;refine h1.trans ?_;have:=(im x o).append_left l;exact this.trans List.perm_middle
theorem fa (l:List Lab):(oJ l).Perm l:=by
 have:=(oI l []).1
 rwa [List.append_nil] at this
theorem nf (l:List Lab):(oJ l).Pairwise leL:=(oI l []).2 .nil
theorem oH {l l':List Lab} (hp:l.Perm l') (h:l.Pairwise leL) (h':l'.Pairwise leL):l=l':=
 List.Perm.eq_of_pairwise (le:=leL) (fun a b _ _ h1 h2 => pq h1 h2) h h' hp
theorem vC {l l':List Lab} (hp:l.Perm l') (h:l.Pairwise leL):oJ l'=l:=(oH (hp.trans (fa l').symm) h (nf l')).symm
theorem tO (l:List Lab):(oJ l).length=l.length:=(fa l).length_eq
theorem uq (l:List Rw):(cW l).length<=l.length:=by
 unfold cW;rw [List.length_map];exact List.length_filter_le _ _
theorem kB (l:List Rw):(F4 l).length<=l.length:=by
 unfold F4;rw [tO];exact uq l
abbrev sC (A:Option Addr) (n c:Nat) (g:Nat -> Lab):AV:=.sl none A n c 2 (fun t => bZ (g t))
def lF (l:List Lab):Nat -> Lab:=fun t => l.getD t ⟨0,0⟩
def uv (g:Nat -> Lab) (p:Nat) (x:Lab):Nat -> Lab:=fun i => if i=p then x else g i
theorem kC (f:Nat -> l5) (i:Nat):cW (r9 f (i + 1))=cW (r9 f i) ++ (if (f i).x.r.kd=1 then [(f i).lab] else []):=by
 show cW (J5 l5.abs f (i + 1))=cW (J5 l5.abs f i) ++ _
 rw [aI];unfold cW;rw [List.filter_append,List.map_append]
 congr 1
 by_cases h:(f i).x.r.kd=1
 .simp [l5.abs,RN.abs,h]
 simp [l5.abs,RN.abs,h]
theorem wO (g:Nat -> Lab) (q:Nat) (x:Lab):(List.range (q + 1)).map (uv g q x)=(List.range q).map g ++ [x]:=by
 rw [List.range_succ,List.map_append]
 congr 1
 .apply List.map_congr_left
  intro t ht;have:=List.mem_range.1 ht;unfold uv;rw [if_neg (by omega)]
 simp [uv]
theorem pt (a b:Lab):Y3 a b=J3 a b:=by
 rw [Bool.eq_iff_iff,bY];simp [J3]
theorem qH {l:List Rw} {h h':Nat -> Lab} {k:Nat} (hl:(List.range k).map h=cW l) (hp:((List.range k).map h').Perm ((List.range k).map h)) (hs:∀ i j,i < j -> j < k -> Y3 (h' j) (h' i)=false):F4 l=(List.range k).map h':=by
 unfold F4;rw [<-hl];refine vC hp ?_;rw [List.pairwise_map];refine List.Pairwise.imp_of_mem ?_ (List.pairwise_lt_range (n:=k));intro a b ha hb hab;unfold leL;rw [<-pt];exact hs a b hab (List.mem_range.1 hb)
theorem wZ {h:Nat -> Lab} {k t:Nat} (ht:t < k):lF ((List.range k).map h) t=h t:=by
 unfold lF;simp [List.getD_eq_getElem?_getD,ht]
theorem xu:j3 Tryz.prog 97:=fun _ _ => by kernel_rfl
theorem pm (A:Option Addr) (n c:Nat) (f:Nat -> l5) (hn:n<=100000):j5 Tryz.prog 35 [T6 A n c f] (fun y => sC (y.A 0) (F4 (r9 f n)).length (y.c 0) (lF (F4 (r9 f n)))):=by
 intro m w hm hargs;have hmx:maxLen=9223372036854775807:=rfl;refine en 25 hm hargs Tryz.func35 fun B hB a0 hF => ?_
 refine wp_seq (rg hB a6 [0] [] [] hF fun X0 a0 w1 hF => ?_);refine wp_seq (rg hB a6 [3,0] [3] [] hF fun X1 a0 w1 hF => ?_);refine wp_seq (wp_seq (rg hB a6 [3,8,6,7] [3] [] hF fun X2 a0 w1 hF => ?_));replace hF:=hF.headS (v':=.sl (some 3) none 0 0 2 (fun t => bZ ⟨0,0⟩)) (zq0) rfl;refine wp_block (l0 (ι:=Nat × Nat × (Nat -> Lab) × Option Addr × Nat) (fun p => [(3,.sl (some 3) p.2.2.2.1 p.2.1 p.2.2.2.2 2 (fun t => bZ (p.2.2.1 t))),(8,.int .i64 (p.1:Int))]) (fun p => []) (fun p => [(3,⟨p.2.2.2.1,p.2.1,p.2.2.2.2,2,24⟩)]) (fun p => p.1<=n/\p.2.1<=p.1/\(List.range p.2.1).map p.2.2.1=cW (r9 f p.1)) (fun p => n - p.1) (0,0,fun _ => ⟨0,0⟩,none,0) ⟨Nat.zero_le _,Nat.le_refl _,rfl⟩ hF ?_)
 rintro ⟨i,q,g,A1,c1⟩ ⟨hi,hq,hg⟩ a0 w1 hF
 try dsimp only at hi
 try dsimp only at hq
 try dsimp only at hg
 refine wp_seq (rg hB a6 [9,3,8,6,7] [3] [] hF fun X3 a0 w1 hF => ?_);refine wp_seq (a7 hF rfl (fun hb hF => ?_) (fun hb hF => ?_))
 .have hin:i < n:=by
   have:(i:Int) < (n:Int):=by subst hB; simpa [std,a8] using hb
   omega
  refine wp_skip (wp_seq (wp_block (wp_seq ?_)));refine rg hB a6 [5,3,8,6,7] [5,3] [] hF (hob:=by intro X; subst hB; simp only [b5,Ob.holds,BE.den]<;>and_intros<;>repeat first | trivial | rfl | exact (show (0:Int)<=(i:Int) by omega) | exact (show (i:Int) < (n:Int) by omega) | exact (fun _ _ => by kernel_rfl) | refine ⟨?_,?_⟩ | intro h | exact Int.le_refl _ | decide | omega) fun X4 a0 w1 hF => ?_
  replace hF:=hF.memS (cells':=u7 (f i)) (by subst hB; exact zl);refine wp_seq (rg hB a6 [15,5,3,8,6,7] [5,3] [] hF fun X5 a0 w1 hF => ?_);apply a7 hF rfl<;>intro hb hF
  .have hk:(f i).x.r.kd=1:=by subst hB; simpa [std,a8] using hb
   refine rg hB a6 [3,8,6,7] [3] [] hF (hob:=?hob) fun X6 a0 w1 hF => ?_
   case hob =>
    intro X;subst hB
    repeat (first | exact trivial | refine ⟨⟨rfl,rfl,rfl⟩,?_⟩ | refine ⟨rfl,?_⟩ | refine ⟨⟨show q + 1<=maxLen by omega,show (q + 1) * _<=_ by omega⟩,?_⟩)
   replace hF:=hF.headS (v':=.sl (some 3) ((X6 4).A 0) (B.nadd q 1) ((X6 4).c 0) 2 (fun t => bZ (uv g q (f i).lab t))) (Sim.resl rfl (fun t ht => by
    subst hB;have ht2:t < q + 1:=ht
    show F8 q (fun t => bZ (g t)) (I4 2 [.int .i64 (f i).lab.len,.int .u64 (f i).lab.bits]) t=_
    unfold F8 uv
    split
    .rw [if_neg (by omega)]
    have:t=q:=by omega
    subst this;simp [I4,bZ])) rfl
   refine rg hB a6 [3,8,6,7] [3] [] hF fun X7 a0 w1 hF => ?_
   have e:B.arith .add .i64 (i:Int) 1=((i + 1:Nat):Int):=by subst hB; exact j2 (n:=n) hin (by omega)
   refine ⟨(i + 1,q + 1,uv g q (f i).lab,_,_),⟨by simp only; omega,by simp only; omega,?_⟩,by simp only; omega,by rw [<-e,show q + 1=B.nadd q 1 by subst hB; rfl]; exact hF⟩
   simp only;rw [wO,hg,kC,if_pos hk]
  have hk:¬ (f i).x.r.kd=1:=by subst hB; simpa [std,a8] using hb
  refine wp_skip (rg hB a6 [3,8,6,7] [3] [] hF fun X7 a0 w1 hF => ?_);have e:B.arith .add .i64 (i:Int) 1=((i + 1:Nat):Int):=by subst hB; exact j2 (n:=n) hin (by omega)
  refine ⟨(i + 1,q,g,_,_),⟨by simp only; omega,by simp only; omega,?_⟩,by simp only; omega,by rw [<-e]; exact hF⟩;simp only;rw [hg,kC,if_neg hk,List.append_nil]
 have hout:i=n:=by
  have:¬ (i:Int) < (n:Int):=by subst hB; simpa [std,a8] using hb
  omega
 rw [hout] at hg;refine wp_exit (wp_seq (wp_region_lit (lpr 0 1 hB a6 [22,3] [3] [] hF fun X8_0 a0 w1 hF => ?_)));obtain ⟨_,xs,hO⟩:=hF.gr 3 ⟨A1,q,c1,2,24⟩ rfl;have hs3:=hF.slot 3 rfl;have hk3:Ok _ w1 (.sl (some 3) A1 q c1 2 (fun t => bZ (g t))):=hs3.2;have hd3:a0.tmps[3]? = some (AV.sl (some 3) A1 q c1 2 (fun t => bZ (g t))).den:=hs3.1;have hfl:=jY hO hk3;rw [hfl] at hO;have hO:Own w1 w.heap.size 24 2 (.slice A1 q c1) q (f7 (fun t => bZ (g t)) q):=hO;refine fo rfl rfl rfl rfl rfl hF rfl rfl xu (fun w' => ∃ h':Nat -> Lab,((List.range q).map h').Perm ((List.range q).map g)/\(∀ i j,i < j -> j < q -> Y3 (h' j) (h' i)=false)/\Own w' w.heap.size 24 2 (.slice A1 q c1) q (f7 (fun t => bZ (h' t)) q)) ((tN hO (by omega)).mono ?_) ?_
 .rintro e w2 ⟨he,h',g1,g2,g3,g4⟩
  exact ⟨he,⟨h',g1,g2,g3⟩,g4⟩
 rintro w2 ⟨h',g1,g2,g3⟩ g4
 have hfin:=qH hg g1 g2;have hF2:=b4.sorted hF g4 (l':=[(3,.sl none A1 q c1 2 (fun t => bZ (h' t)))]) (fun x hx => ?hl) (fun x e he v hv => ?hm)
 case hl =>
  by_cases hx3:x=3
  .subst hx3
   refine ⟨hd3,lS g3 (fun _ _ => rfl) (b4.notM hF) (fun i hi v hv => ?_) none⟩;simp only [bZ,List.mem_cons,List.not_mem_nil,or_false] at hv
   rcases hv with rfl | rfl<;>exact ⟨rfl,.int _ _⟩
  have:look [(3,AV.sl none A1 q c1 2 (fun t => bZ (h' t)))] x = .undef:=by rw [o6,if_neg (fun e => hx3 e.symm)]; rfl
  rw [this] at hx; cases hx
 case hm => cases he
 have hF:b4 _ _ (a0.put (some 23) (.tuple #[])) w2:=hF2.put (some 23) (fun t ht => by injection ht with ht; subst ht; exact Nat.le_of_ble_eq_true rfl) (.tup []) (fun _ => .tup _ fun u hu => by cases hu) _ fun _ => rfl
 refine wpList_nil (wp_seq (rg hB a6 [2] [2,3,20] [] hF fun X9 a0 w1 hF => ?_));refine wp_ret ((rsi hB a6 hF (⟨0,fun _ => A1,fun _ => c1,fun _ => ⟨#[]⟩⟩) (he:=?_)));subst hB;rw [hfin,List.length_map,List.length_range];exact Sim.resl rfl (fun t ht => by rw [wZ ht])
theorem lM {α : Type} {l:Lab} {x y:α}:∀ {L:List (Lab × α)},I0 l y (I0 l x L)=I0 l y L
 | [] => by simp [I0]
 | p :: L => by
  by_cases h:p.1=l
  .simp [I0,h]
  have:=lM (l:=l) (x:=x) (y:=y) (L:=L);simp [I0,h,this]
def eO (g:Nat -> Lab) (n:Nat):Nat -> List (Lab × Lab)
 | 0 => []
 | i + 1 => I0 (g i) (if i + 1 < n then g (i + 1) else B2) (eO g n i)
theorem oZ (g:Nat -> Lab) (n:Nat):∀ i,(eO g n i).length<=i
 | 0 => Nat.le_refl _
 | i + 1 => by
  have:=oZ g n i;unfold eO;rw [fL]
  split<;>omega
theorem sf (A:Option Addr) (n c:Nat) (g:Nat -> Lab) (hn:n<=100000) (hN:∀ i,i < n -> k4 (g i)):J4 Tryz.prog 96 [sC A n c g] [] none noK (fun y => ⟨.raw (.map (some (y.c 0))),[],[]⟩) (fun N y => lmF b6 N (y.c 0) (eO g n n)):=by
 intro m w hm hargs hpre hI;have hmx:maxLen=9223372036854775807:=rfl;have SNo:=gZ;simp only [b6] at SNo;refine enM (bo:=none) 31 hm hpre hI hargs Tryz.func96 fun B hB a0 hF => ?_
 refine wp_seq (rg hB a6 [0] [] [] hF fun X0 a0 w1 hF => ?_);refine wp_seq (wp_region_lit (bj (k:=24) (e:=0) rfl rfl rfl rfl hF (Nat.le_of_ble_eq_true rfl) (lmK b6 w1.heap.size []) (fun m w' _ _ hM => ⟨_,LmD.empty hM⟩) ?_));obtain ⟨bM,hbM⟩:=eqv (w1.heap.size);rw [<-hbM];intro a0 w1 hfresh hF;have hbfr:w.heap.size<=bM:=hfresh;refine lnd 1 hB a6 [3,0] [] [] hF fun X1 a0 w1 hF => ?_
 refine wp_seq (wp_seq (rg hB a6 [9,0,3,7,8] [] [] hF fun X2 a0 w1 hF => ?_));refine wp_block (ao (ι:=Nat) (fun p => lmK b6 bM (eO g n p)) (fun p => [(9,.int .i64 (p:Int))]) (fun p => []) (fun p => []) (fun p => p<=n) (fun p => n - p) 0 (Nat.zero_le _) hF ?_)
 rintro i hi a0 w1 hF
 try dsimp only at hi
 replace hF:=hF.withK (K':=lmK b6 bM (eO g n i)) hF.kept;have hLn:=oZ g n i;have hLn2:(I0 (g i) B2 (eO g n i)).length<=i + 1:=by rw [fL]; split<;>omega
 refine wp_seq (rg hB a6 [10,9,0,3,7,8] [] [] hF fun X3 a0 w1 hF => ?_);refine wp_seq (a7 hF rfl (fun hb hF => ?_) (fun hb hF => ?_))
 .have hin:i < n:=by
   have:(i:Int) < (n:Int):=by subst hB; simpa [std,a8] using hb
   omega
  have hlab:=hN i hin;refine wp_skip (wp_seq (wp_block (wp_seq ?_)));refine rg hB a6 [4,5,9,0,3,7,8] [5] [] hF (hob:=by intro X; subst hB; simp only [b5,Ob.holds,BE.den]<;>and_intros<;>repeat first | trivial | rfl | exact (show (0:Int)<=(i:Int) by omega) | exact (show (i:Int) < (n:Int) by omega) | exact (fun _ _ => by kernel_rfl) | refine ⟨?_,?_⟩ | intro h | exact Int.le_refl _ | decide | omega) fun X4 a0 w1 hF => ?_
  replace hF:=hF.memS (cells':=bZ (g i)) (by subst hB; exact zl);apply wp_seq;apply R2 hB 3 none ?hH (by kernel_rfl) a6 [14,15,16,4,5,9,0,3,7,8] [5] [(2,.r fun _ => .agg [.int .i64 B2.len,.int .u64 B2.bits])] hF rfl
  case hH => exact G2
  case hex => intro A X; conv => lhs; cbv
  case hD => kernel_rfl
  case hZ => kernel_rfl
  case hlen => rfl
  case hob =>
   intro X;subst hB;simp only [b5,Ob.holds,BE.den]<;>(and_intros<;>repeat first | trivial | rfl | exact eE | exact SNo | refine ⟨?_,?_⟩ | intro h)
  case hQ =>
  intro X5 a0 w1 hF;obtain ⟨D2,hD2⟩:=hF.kept;refine G1 (k:=24) (e:=24) rfl rfl rfl rfl hF rfl rfl rfl rfl rfl Z1 fX hD2.map (by omega) (J1 hlab) (fun h => absurd h (by omega)) (lmK b6 bM (I0 (g i) B2 (eO g n i))) (fun m w' hk hkb hv hM => ?_) ?_
  .exact jr (x:=B2) hD2.map hlab hk hkb (zr) hv hM
  intro w1 hF;replace hF:=hF.keep [4,5,9,0,3,7,8] [5];refine wpList_nil (wp_seq (rg hB a6 [21,4,5,9,0,3,7,8] [5] [] hF fun X6 a0 w1 hF => ?_));apply a7 hF rfl<;>intro hb hF
  .have hlt:i + 1 < n:=by
    have h9:(IntKind.i64.wrap ((i:Int) + 1)) < (n:Int):=by subst hB; simpa [std,a8,o9] using hb
    rw [r8 (by omega) (by omega)] at h9; omega
   apply R2 hB 7 none ?hH (by kernel_rfl) a6 [22,23,28,9,0,3,7,8] [] [] hF rfl
   case hH => exact G2
   case hex => intro A X; conv => lhs; cbv
   case hD => kernel_rfl
   case hZ => kernel_rfl
   case hlen => rfl
   case hob =>
    intro X;subst hB;have e2:std.arith .add .i64 (i:Int) 1=((i + 1:Nat):Int):=by show IntKind.i64.wrap ((i:Int) + 1)=_; rw [r8 (by omega) (by omega)]; rfl
    have e3:0<=std.arith .add .i64 (i:Int) 1/\std.arith .add .i64 (i:Int) 1 < (n:Int):=by rw [e2]; omega
    repeat (first | exact trivial | refine ⟨rfl,?_⟩ | refine ⟨e3,?_⟩)
   case hQ =>
   intro X7 a0 w1 hF;have e2:std.toNat (std.arith .add .i64 (i:Int) 1)=i + 1:=by show (IntKind.i64.wrap ((i:Int) + 1)).toNat=i + 1; rw [r8 (by omega) (by omega)]; rfl
   obtain ⟨D2,hD2⟩:=hF.kept;refine G1 (k:=24) (e:=24) rfl rfl rfl rfl hF rfl rfl rfl rfl rfl Z1 fX hD2.map (by omega) (J1 hlab) (fun h => absurd h (by omega)) (lmK b6 bM (I0 (g i) (g (i + 1)) (I0 (g i) B2 (eO g n i)))) (fun m w' hk hkb hv hM => ?_) ?_
   .exact jr (x:=g (i + 1)) hD2.map hlab hk hkb (by subst hB; show Sim (.agg [.int .i64 (g (std.toNat (std.arith .add .i64 (i:Int) 1))).len,.int .u64 (g (std.toNat (std.arith .add .i64 (i:Int) 1))).bits]) _; rw [e2]; exact zr) hv hM
   intro w1 hF;replace hF:=hF.keep [9,0,3,7,8] [];refine wpList_nil (rg hB a6 [9,0,3,7,8] [] [] hF fun X8 a0 w1 hF => ?_);have e:B.arith .add .i64 (i:Int) 1=((i + 1:Nat):Int):=by subst hB; exact j2 (n:=n) hin (by omega)
   refine ⟨i + 1,by omega,by omega,?_⟩;rw [<-e];refine hF.withK ?_
   show (lmK b6 bM (eO g n (i + 1))).p _ _
   unfold eO;rw [if_pos hlt,<-lM (x:=B2)];exact hF.kept
  have hlt:¬ i + 1 < n:=by
   have h9:¬ (IntKind.i64.wrap ((i:Int) + 1)) < (n:Int):=by subst hB; simpa [std,a8,o9] using hb
   rw [r8 (by omega) (by omega)] at h9; omega
  refine wp_skip (rg hB a6 [9,0,3,7,8] [] [] hF fun X8 a0 w1 hF => ?_);have e:B.arith .add .i64 (i:Int) 1=((i + 1:Nat):Int):=by subst hB; exact j2 (n:=n) hin (by omega)
  refine ⟨i + 1,by omega,by omega,?_⟩;rw [<-e];refine hF.withK ?_
  show (lmK b6 bM (eO g n (i + 1))).p _ _
  unfold eO;rw [if_neg hlt];exact hF.kept
 have hout:i=n:=by
  have:¬ (i:Int) < (n:Int):=by subst hB; simpa [std,a8] using hb
  omega
 subst hout;refine wp_exit (wp_seq (rg hB a6 [2] [] [] hF fun X9 a0 w1 hF => ?_));refine wp_ret ((rm hB a6 hF (⟨0,fun _ => none,fun _ => bM,fun _ => ⟨#[]⟩⟩) [] (hJ:=?_)).1);exact fun _ _ h => ⟨hbfr,h⟩
section
variable {C:Cx} {P:Program} {Q:Exit -> Act -> World -> Prop} {T:List (Nat × TI)} {s:St} {a:Act} {w:World} {B:Alg} {r:Option Nat}
theorem rd3 {id:Nat} {all:List Oper} {R:Alg -> (Nat -> f9) -> St × List Ob} {fs:List B9} (n0:Nat) (hB:B=std) (hT:j9 P T) (kp km:List Nat) (cs:List (Nat × CS)) (h:b4 C s a w) (hQ:∀ X a' w',b4 C (R B X).1 a' w' -> wpList P all.toArray Q (all.drop n0) a' w')
  (hO:∀ a w,¬ Q .outgrown a w:=by first | exact fun _ _ h => h | (intro a w h; obtain ⟨x,h,_⟩:=h; cases h)) (hm:P.follows .mixedOrders=true:=by kernel_rfl) (hgs:s.gs=[]:=by rfl)
  (hex:∀ A X,(F2 A T cs none X all (j4 0 (all.take n0)) s).map (fun r => ((r.1.keep kp km,r.2.1),r.2.2))=some (R A X,fs):=by intro A X; conv => lhs; cbv) (hD:Z6 (all.take n0) fs=true:=by kernel_rfl) (hZ:eZ all n0=true:=by kernel_rfl) (hlen:(all.take n0).length=fs.length:=by rfl) (hob:∀ X,b5 P C.K (R B X).2:=by
   intro X; subst hB
   first
   | exact trivial
   | (simp only [b5,Ob.holds,BE.den]<;>and_intros<;>(repeat first | trivial | rfl | exact O1 | exact O2 | exact O3 | exact (fun _ _ => by kernel_rfl) | exact O1 _ _ _ rfl | exact O2 _ _ _ rfl | refine ⟨?_,?_⟩ | intro h | decide | omega)<;>done)
   | (simp [b5,Ob.holds,BE.den,std,a8,o9]<;>omega)) (hd:T8 all=true:=by rfl):(Code.region id all.toArray true).wpIn (rF r) 0 P Q a w:=by
 subst hB;exact wpIn_region_any hm (tp hO (fun o ho => Fg hd (by simpa using ho)) _ _ _ _ (lg n0 none G2 hT kp km cs h hgs fs hD hZ hlen hex hob hQ))
end
section
variable {m0:Nat -> Nat -> Prop} {w0:World} {S:Nat -> Prop} {ds:List Deferred} {K:Kn} {P:Program} {Q:Exit -> Act -> World -> Prop} {ops:Array Oper}
theorem qE {K1 E:Kn} {J:Kn} {tmc:List (Nat × AV)} {l D bo:Nat} {rc:Loop} {st:LoopState} {pe:Option Code} {s:St} {a:Act} {w:World} {L rest:List Oper} {o:Oper} {c:Call} {g:Operand} {f:FuncId} {lf r args args':List AV} (hL:L=o :: rest) (hg:o.guard=none) (hop:o.op = .call c) (hcal:c.callee = .value g) (h:b4 ⟨m0,w0,S,ds,(KL K1 tmc l rc D st pe).and E⟩ s a w) (hgv:val s [] g = .fn f lf r) (hl:V0 s [] c.args.toList=some args) (hen:j3 P f)
  {res:f9 -> CR} (hsp:J4 P f args' [] (some bo) K1 res (fun _ _ => J)) (hlb:l ≠ bo) (hDb:D ≠ bo) (hE:E.off bo) (hC:bo < w0.heap.size -> S bo) (hsim:D9 (lf ++ args ++ r) args') (hd:ip s o.dst=true)
  (Kc:∀ x a' w',b4 ⟨m0,w0,S,ds,(KL J tmc l rc D st pe).and E⟩ ((s.eff (.sets (upd [] (res x).sets ++ (res x).news))).put o.dst (res x).v) a' w' -> wpList P ops Q rest a' w'):wpList P ops Q L a w:=
 D7 hL hg hop hcal h hgv hl hen hsp (fun _ _ h => h.1.1.1) (fun b hb => by cases hb; exact hC) hsim (fun e he => by cases he) rfl hd (fun _ => (KL J tmc l rc D st pe).and E)
  (fun n x m w m' w' _ hk hkb hJ => ⟨⟨⟨hJ,bh tmc bo hkb hk.1.1.2⟩,vX hlb hDb hkb hk.1.2⟩,hE hkb hk.2⟩) Kc
end
section
variable {P:Program} {f:FuncId} {fn:Func} {c:Code} {R:Ending -> World -> Prop} {m:Nat -> Nat -> Prop} {w:World} {pre:List (Nat × Blk)} {args:List AV} {I:Kn} {bo:Option Nat}
theorem ze {n:Nat} (hm:∀ b o,m b o -> b < w.heap.size) (hp:J0 m w pre) (hI:I.p m w) (hargs:∀ v ∈ args,Ok m w v) (hn:args.length<=n):b4 ⟨m,w,fun k => ats pre k \/ bo=some k,[],I⟩ ⟨n,B3 0 args,[],pre,[]⟩ { tmps:=(args.map AV.den).toArray ++ Array.replicate (n - args.length) Go.undef,defers:=[] } w:=
 ((ax hm hp hargs hn).wider fun k hk => .inl hk).withK (I.st ⟨fun b o u h1 h2 => ⟨h1,fun hm' => by
  rcases hm' with h3 | ⟨k,e,he,hat⟩ | ⟨k,e,he,_⟩
  .exact h2 h3
  .exact h2 (hat ▸ hp.free _ (E8 he) o)
  cases he⟩,fun _ _ h _ => h⟩ hI)
theorem GB (nt:Nat) (hm:∀ b o,m b o -> b < w.heap.size) (hp:J0 m w pre) (hI:I.p m w) (hargs:∀ v ∈ args,Ok m w v) (hf:P.funcs[f]? = some fn) (h:∀ B,B=std -> ∀ a,b4 ⟨m,w,fun k => ats pre k \/ bo=some k,[],I⟩ ⟨nt,B3 0 args,[],pre,[]⟩ a w -> wpN f P c (bodyPostM Fence.wide 0 P fn R) a w) (hb:fn.body=some c:=by rfl) (hnt:fn.ntmps=nt:=by rfl) (hn:args.length<=nt:=by exact Nat.le_of_ble_eq_true rfl):Calls P f (args.map AV.den).toArray w R:=by
 refine iV hf hb ?_;have:=h std rfl _ (ze hm hp hI hargs hn)
 simpa [hnt] using this
end
def tA (bo:Option Nat) (m:Nat -> Nat -> Prop) (w:World) (pre:List (Nat × Blk)) (res:f9 -> CR) (J:f9 -> Kn) (e:Ending) (w':World):Prop:=
 ∃ x,e = .returned (res x).v.den/\Ok (mN m (res x).news) w' (res x).v/\bE bo m w w' pre (res x).sets (res x).news/\(∀ b,bo=some b -> ∃ es cl es' cl',w.heap[b]? = some (.map es cl)/\w'.heap[b]? = some (.map es' cl'))/\(J x).p (mN m (res x).news) w'
section
variable {P:Program} {fn:Func} {m:Nat -> Nat -> Prop} {w0 w:World} {bo:Option Nat} {K:Kn} {nt:Nat} {tm:List (Nat × AV)} {mem:List (Nat × Blk)} {a:Act} {B:Alg} {T:List (Nat × TI)} {rs:List ResultVar} {r:List AV × List Ob} {pre:List (Nat × Blk)}
theorem wI {res:f9 -> CR} {J:f9 -> Kn} (hm:Mem m w0 (fun k => ats pre k \/ bo=some k) K mem [] w) (hv:Ok (mT m mem []) w (I6 r.1)) (x:f9) (ks:List Nat)
  (hmap:∀ b,bo=some b -> (∃ es cl,w0.heap[b]? = some (.map es cl))/\∀ m,K.p m w -> ∃ es cl,w.heap[b]? = some (.map es cl)) (he:Sim (can (I6 r.1)) (can (res x).v)) (hs:z6 ⟨0,[],[],mem,[]⟩ pre (res x).sets) (hn:I8 ⟨0,[],[],mem,[]⟩ pre ks (res x).news) (hJ:∀ m w,K.p m w -> (J x).p m w):tA bo m w0 pre res J (.returned (I6 r.1).den) w:=by
 obtain ⟨h1,h2⟩:=pl hm (fun b hb => (hmap b hb).2 _ hm.kept) hs hn;refine ⟨x,?_,(J9 _).2 (he.2.2 _ _ ((J9 _).1 (h2.ok hv))),h1,fun b hb => ?_,hJ _ _ (K.st h2 hm.kept)⟩
 .rw [<-F7 (I6 r.1),he.1,F7]
 obtain ⟨⟨es,cl,h3⟩,h4⟩:=hmap b hb;obtain ⟨es',cl',h4⟩:=h4 _ hm.kept;exact ⟨_,_,_,_,h3,h4⟩
theorem rmM {res:f9 -> CR} {J:f9 -> Kn} (hB:B=std) (hT:j9 P T) (Ds:List Nat) (h:b4 ⟨m,w0,fun k => ats pre k \/ bo=some k,Ds.map bi,K.and (C4 Ds)⟩ ⟨nt,tm,[],mem,[]⟩ a w) (hof:∀ D ∈ Ds,K.off D/\w0.heap.size<=D) (x:f9) (ks:List Nat)
  (hmap:∀ b,bo=some b -> (∃ es cl,w0.heap[b]? = some (.map es cl))/\∀ m w,K.p m w -> ∃ es cl,w.heap[b]? = some (.map es cl)) (he:Sim (can (I6 r.1)) (can (res x).v)) (hs:z6 ⟨0,[],[],mem,[]⟩ pre (res x).sets:=by exact trivial) (hn:I8 ⟨0,[],[],mem,[]⟩ pre ks (res x).news:=by exact trivial) (hJ:∀ m w,K.p m w -> (J x).p m w:=by exact fun m w h => h) (hfn:fn.results=rs.toArray:=by rfl) (hr:P8 T ⟨nt,tm,[],mem,[]⟩ rs=some r:=by first | rfl | (conv => lhs; cbv)) (ho:b5 P (K.and (okT tm)) r.2:=by first | exact trivial | (subst hB; simp [b5,Ob.holds])) :
  bodyPostM Fence.wide 0 P fn (tA bo m w0 pre res J) .ret a w/\bodyPostM Fence.wide 0 P fn (tA bo m w0 pre res J) .normal a w:=
 Bz hB hT Ds h hof (fun w' hm' hv => wI hm' hv x ks (fun b hb => ⟨(hmap b hb).1,fun m h => (hmap b hb).2 m _ h⟩) he hs hn hJ) hfn hr ho
end
def sB (l:List Itm):Rec:=⟨1,l,⟨0,0⟩,0⟩
def qM:Rec:=⟨2,[],B2,0⟩
def M2 (b:Int):Nat -> List Itm -> Lab -> List (Lab × Rec) -> Bool × List (Lab × Rec)
 | 0,_,_,T => (true,T)
 | n + 1,l,q,T =>
  if 2000<=T.length then (false,T)
  else if (l.length:Int)<=b \/ q.len=64 then (true,I0 q (sB l) T)
  else if chE q 0=0 then
   (if (M2 b n (D8 (chV q 0) l) (chV q 0) (I0 q qM T)).1=true then M2 b n (D8 (chV q 1) l) (chV q 1) (M2 b n (D8 (chV q 0) l) (chV q 0) (I0 q qM T)).2
    else (false,(M2 b n (D8 (chV q 0) l) (chV q 0) (I0 q qM T)).2))
  else (true,I0 q qM T)
def gT (b:Int) (n:Nat) (l:List Itm) (q:Lab) (T:List (Lab × Rec)):Nat -> List (Lab × Rec)
 | 0 => I0 q qM T
 | i + 1 => (M2 b n (D8 (chV q (i:Nat)) l) (chV q (i:Nat)) (gT b n l q T i)).2
def gB (b:Int) (n:Nat) (l:List Itm) (q:Lab) (T:List (Lab × Rec)) (i:Nat):Bool:=(M2 b n (D8 (chV q (i:Nat)) l) (chV q (i:Nat)) (gT b n l q T i)).1
section
variable {b:Int} {n:Nat} {l:List Itm} {q:Lab} {T:List (Lab × Rec)}
theorem mu (h:2000<=T.length):M2 b (n + 1) l q T=(false,T):=by
 rw [M2.eq_2]; exact if_pos h
theorem mq (h:¬ 2000<=T.length) (h1:(l.length:Int)<=b \/ q.len=64):M2 b (n + 1) l q T=(true,I0 q (sB l) T):=by
 rw [M2.eq_2]; exact (if_neg h).trans (if_pos h1)
theorem mn (h:¬ 2000<=T.length) (h1:¬ ((l.length:Int)<=b \/ q.len=64)) (hc:¬ chE q 0=0):M2 b (n + 1) l q T=(true,gT b n l q T 0):=by
 rw [M2.eq_2]; exact (if_neg h).trans ((if_neg h1).trans (if_neg hc))
theorem nM (h:¬ 2000<=T.length) (h1:¬ ((l.length:Int)<=b \/ q.len=64)) (hc:chE q 0=0):M2 b (n + 1) l q T=if gB b n l q T 0=true then (gB b n l q T 1,gT b n l q T 2) else (false,gT b n l q T 1):=by
 rw [M2.eq_2]; exact (if_neg h).trans ((if_neg h1).trans (if_pos hc))
end
def eS (TA:List (Lab × RA)):List (Lab × Rec):=TA.map fun p => (p.1,p.2.r.abs)
theorem lA {q:Lab} {x:RA}:∀ {TA:List (Lab × RA)},eS (I0 q x TA)=I0 q x.r.abs (eS TA)
 | [] => rfl
 | p :: TA => by
  have ih:=lA (q:=q) (x:=x) (TA:=TA);unfold eS at ih ⊢
  by_cases h:p.1=q
  .simp [I0,h]
  simp [I0,h,ih]
theorem dV (TA:List (Lab × RA)):(eS TA).length=TA.length:=List.length_map _
def lmR (b:Nat) (T:List (Lab × Rec)):Kn:=⟨fun m w => ∃ TA:List (Lab × RA),eS TA=T/\(lmK u9 b TA).p m w,fun k ⟨TA,h1,h2⟩ => ⟨TA,h1,(lmK u9 b TA).st k h2⟩⟩
theorem sv {b n:Nat} {T:List (Lab × Rec)} (h:b ≠ n):(lmR b T).off n:=fun k ⟨TA,h1,h2⟩ => ⟨TA,h1,gc h k h2⟩
theorem wS {b:Nat} {T:List (Lab × Rec)}:(lmR b T).self:=fun m w ⟨TA,h1,h2⟩ l hl _ _ _ _ k ⟨TA',h1',h2'⟩ => ⟨TA',h1',gc (by have:=kw h2; omega) k h2'⟩
theorem sA {b:Nat} {T:List (Lab × Rec)} {m:Nat -> Nat -> Prop} {w:World} (h:(lmR b T).p m w):∃ es cl,w.heap[b]? = some (.map es cl):=by
 obtain ⟨TA,_,h⟩:=h;exact gd h
theorem su {b n:Nat} {T:List (Lab × Rec)} {D:DataW Value} {m:Nat -> Nat -> Prop} {w w':World} {q:Lab} (h0:U9 Tryz.prog 24 w b n D) (hq:k4 q) (h:(lmR b T).p m w) (k:P1 (some b) w m w' m) {v:AV} {x:RA} (hs:Sim v (u9 x)) (hv:Ok m w v) (hM:U9 Tryz.prog 24 w' b (T.length + 1) (D.put (u4 q) (.held v.den))):(lmR b (I0 q x.r.abs T)).p m w':=by
 obtain ⟨TA,rfl,h⟩:=h;rw [dV] at hM;exact ⟨I0 q x TA,lA,jr h0 hq h k hs hv hM⟩
theorem xP {l:Lab} {its:List Itm} (h:∀ x ∈ its,U64 x.key):∀ i,i < (D8 l its).length -> U64 (itF (D8 l its) i).key:=by
 intro i hi;have:itF (D8 l its) i ∈ D8 l its:=by
  unfold itF;rw [List.getD_eq_getElem?_getD,List.getElem?_eq_getElem hi];exact List.getElem_mem hi
 exact h _ (List.mem_filter.1 this).1
theorem qT {f:Nat -> Itm} {n:Nat} {p:Itm -> Prop} (h:∀ i,i < n -> p (f i)):∀ x ∈ b7 f n,p x:=by
 intro x hx;unfold b7 at hx;obtain ⟨i,hi,rfl⟩:=List.mem_map.1 hx;exact h i (List.mem_range.1 hi)
theorem Dg (bT:Nat) (b:Int):∀ (n:Nat) (A:Option Addr) (ln c:Nat) (f:Nat -> Itm) (q:Lab) (T:List (Lab × Rec)),ln<=1000000 -> (∀ i,i < ln -> U64 (f i).key) -> U64 q.bits -> isL q=true -> 65<=q.len + n -> J4 Tryz.prog 92 [.raw (.map (some bT)),l4 A ln c f,b6 q,.int .i64 b] [] (some bT) (lmR bT T) (fun _ => ⟨.bool (.v (M2 b n (b7 f ln) q T).1),[],[]⟩) (fun _ _ => lmR bT (M2 b n (b7 f ln) q T).2):=by
 intro n
 induction n with
 | zero =>
  intro A ln c f q T _ _ _ hl hn;have:=(s7 hl).2.1;exact absurd hn (by omega)
 | succ n ih =>
  intro A ln c f q T hln hki hb0 hl hn m w hm hargs hpre hI;have hmx:maxLen=9223372036854775807:=rfl;have hlq:k4 q:=bX hl hb0;have hmap0:=sA hI;have hbT:bT < w.heap.size:=by obtain ⟨es,cl,h⟩:=hmap0; exact L3 h
  obtain ⟨G,hG⟩:=eqv (M2 b (n + 1) (b7 f ln) q T);rw [<-hG];simp only [l4,b6] at hargs ⊢
  show Calls _ _ _ w (tA (some bT) m w [] (fun _ => ⟨.bool (.v G.1),[],[]⟩) (fun _ => lmR bT G.2))
  refine GB (bo:=some bT) 42 hm hpre hI hargs Tryz.func92 fun B hB a0 hF => ?_
  refine C1 (E3 (rg hB a6 [4,5,6,7,8] [4,5,6,7,8] [] hF fun X0 a0 w1 hF => ?_));refine C1 (E3 (wp_seq (wp_region_lit ?_)));refine lpr 0 1 hB a6 [10,4,5,6,7,8] [4,5,6,7,8] [] hF (fun X1 a0 w1 hF => ?_);obtain ⟨TA,hTA,D,hD⟩:=hF.kept;have hTl:Maps.size D=T.length:=by rw [hD.size,<-hTA,dV]
  refine pk rfl rfl rfl rfl rfl rfl rfl hF (Nat.le_of_ble_eq_true rfl) rfl U1 hD.map fun a0 hF => ?_
  rw [hTl] at hF;obtain ⟨tn,htn⟩:=eqv (T.length);rw [<-htn] at hF;refine lnd 2 hB a6 [12,4,5,6,7,8] [4,5,6,7,8] [] hF (fun X2 a0 w1 hF => ?_);have hhm:∀ T',∀ b',some bT=some b' -> (∃ es cl,w.heap[b']? = some (.map es cl))/\∀ m w,(lmR bT T').p m w -> ∃ es cl,w.heap[b']? = some (.map es cl):=fun T' b' hb' => by cases hb'; exact ⟨hmap0,fun m w h => sA h⟩
  apply a7 hF rfl<;>intro hb hF
  .have hfull:2000<=T.length:=by
    have:(2000:Int)<=(tn:Int):=by subst hB; simpa [std,a8] using hb
    omega
   refine wp_seq (rg hB a6 [8] [8] [] hF fun X3 a0 w1 hF => ?_);have hG:=hG.trans (mu hfull);refine wp_ret (rmM (res:=fun _ => ⟨.bool (.v G.1),[],[]⟩) (J:=fun _ => lmR bT G.2) hB a6 [] (hF.withK (K':=(lmR bT T).and (C4 [])) ⟨hF.kept,⟨fun D hD => (by cases hD),List.nodup_nil⟩⟩) (fun D hD => by cases hD) ⟨0,fun _ => none,fun _ => 0,fun _ => .empty⟩ [] (hhm _) (he:=?he) (hJ:=by rw [hG]; exact fun _ _ h => h)).1
   case he => rw [hG]; subst hB; exact Sim.bool rfl
  have hnf:¬ 2000<=T.length:=by
   have:¬ (2000:Int)<=(tn:Int):=by subst hB; simpa [std,a8] using hb
   omega
  refine wp_skip ?_;refine C1 (E3 (wp_seq (rg hB a6 [21,4,5,6,7,8] [4,5,6,7,8] [] hF fun X3 a0 w1 hF => ?_)));apply a7 hF rfl<;>intro hb hF
  .have h9:(if decide ((ln:Int)<=b)=true then true else decide (q.len=64))=true:=by subst hB; exact hb
   have hlf:((b7 f ln).length:Int)<=b \/ q.len=64:=by
    rw [i3]
    by_cases h1:(ln:Int)<=b
    .exact .inl h1
    rw [decide_eq_false h1] at h9; exact .inr (by simpa using h9)
   have hG:=hG.trans (mq hnf hlf);have SCl:=Cl.clone_sf A ln c f (by omega);simp only [l4] at SCl;have O1:=SCl;refine wp_seq (d3 5 hB a6 [22,23,26,8] [8] [(3,.r fun y => .sl none (y.A 0) ln (y.c 0) 2 (fun t => itC (f t)))] hF fun X4 a0 w1 hF => ?_);obtain ⟨TA2,hTA2,D2,hD2⟩:=hF.kept;have hT2:TA2.length=T.length:=by rw [<-hTA2,dV]
   refine G1 (k:=24) (e:=35) rfl rfl rfl rfl hF rfl rfl rfl rfl rfl Z1 U1 hD2.map (by omega) (J1 hlq) (fun _ => .inr rfl) (lmR bT (I0 q (sB (b7 f ln)) T)) (fun m' w' hk hkb hv hM => ?_) ?_
   .have:=su (x:=⟨(X4 3).A 0,(X4 3).c 0,⟨ln,f,1,⟨0,0⟩,0⟩⟩) hD2.map hlq hk hkb ?_ hv (by rw [<-hT2]; exact hM)
    .exact this
    exact Sim.agg ⟨zr,zr,zr,zr,zr,trivial⟩
   intro w1 hF;refine wpList_nil ?_;refine wp_seq (rg hB a6 [8] [8] [] hF fun X5 a0 w1 hF => ?_);refine wp_ret (rmM (res:=fun _ => ⟨.bool (.v G.1),[],[]⟩) (J:=fun _ => lmR bT G.2) hB a6 [] (hF.withK (K':=(lmR bT (I0 q (sB (b7 f ln)) T)).and (C4 [])) ⟨hF.kept,⟨fun D hD => (by cases hD),List.nodup_nil⟩⟩) (fun D hD => by cases hD) ⟨0,fun _ => none,fun _ => 0,fun _ => .empty⟩ [] (hhm _) (he:=?he) (hJ:=by rw [hG]; exact fun _ _ h => h)).1
   case he => rw [hG]; subst hB; exact Sim.bool rfl
  have hnl:¬ (((b7 f ln).length:Int)<=b \/ q.len=64):=by
   have h9:(if decide ((ln:Int)<=b)=true then true else decide (q.len=64))=false:=by subst hB; exact hb
   rw [i3]
   rintro (h1 | h1)<;>simp [h1] at h9
  refine wp_skip ?_;have SNo:=gZ;simp only [b6] at SNo;have O1:=SNo;refine C1 (E3 (d3 4 hB a6 [27,28,30,4,5,6,7,8] [4,5,6,7,8] [(2,.r fun _ => .agg [.int .i64 B2.len,.int .u64 B2.bits])] hF fun X4 a0 w1 hF => ?_));obtain ⟨TA2,hTA2,D2,hD2⟩:=hF.kept;have hT2:TA2.length=T.length:=by rw [<-hTA2,dV]
  refine G1 (k:=24) (e:=35) rfl rfl rfl rfl hF rfl rfl rfl rfl rfl Z1 U1 hD2.map (by omega) (J1 hlq) (fun _ => .inr rfl) (lmR bT (gT b n (b7 f ln) q T 0)) (fun m' w' hk hkb hv hM => ?_) ?_
  .have:=su (x:=⟨none,0,⟨0,fun _ => r7,2,B2,0⟩⟩) hD2.map hlq hk hkb ?_ hv (by rw [<-hT2]; exact hM)
   .exact this
   exact Sim.agg ⟨zr,fK,zr,zr,zr,trivial⟩
  intro w1 hF;refine wpList_nil ?_;replace hF:=hF.keep [6,5,7,4,8] [4,5,6,7,8];have SK:=xa q;simp only [b6] at SK;have O1:=SK;refine C1 (C1 (E3 (rg hB a6 [32,4,5,6,7,8] [4,5,6,7,8] [(1,.r fun y => .fn 169 [] [.ep (some ⟨y.b,0,none⟩) 0 0 0 [.int .i64 q.len,.int .u64 q.bits]])] hF fun X5 a0 w1 hF => ?_)));refine bL ?_;have hKu:=wS _ _ hF.kept;refine wd hF rfl mF hKu (fun l D rc w1 hl hD hrc hD0 hsz ha hm1 hlb => ?_);subst hrc;obtain ⟨memc,hmemc⟩:=eqv ([(4,(⟨(X0 0).b,138,[.raw (.map (some bT))]⟩:Blk)),(5,⟨(X0 1).b,33,[.sl none A ln c 2 (fun i => itC (f i))]⟩),(6,⟨(X0 2).b,24,[.int .i64 q.len,.int .u64 q.bits]⟩),(7,⟨(X0 3).b,3,[.int .i64 b]⟩),(8,⟨(X0 4).b,4,[.bool .ff]⟩)]);refine (xb (l:=l) (D:=D) (ntc:=42) (p:=33) Tryz.func92 (by omega) (by omega) rfl rfl rfl (by decide) ⟨_,ha⟩ q hb0 (fun i K' mem gr => (∀ j,j < i -> gB b n (b7 f ln) q T j=true)/\K'=lmR bT (gT b n (b7 f ln) q T i)/\mem=memc/\gr=[]) (fun cc K' mem gr => cc = .ret/\∃ i,i < 2/\chE q 0=0/\(∀ j,j < i -> gB b n (b7 f ln) q T j=true)/\gB b n (b7 f ln) q T i=false/\K'=lmR bT (gT b n (b7 f ln) q T (i + 1))/\mem=memc/\gr=[]) ?_ ⟨fun j hj => absurd hj (Nat.not_lt_zero _),rfl,hmemc.symm,rfl⟩ (hKu.off (by omega)) hm1 (hlb _ (by simp))).mono ?_
  .intro i hi hce E hE hE2 K' mem gr a w2 ⟨hgb,hK',hmem,hgr⟩ hoff hF
   subst hK' hmem hgr;obtain ⟨hc1,hc2,hc3⟩:=BQ hb0 hce (i:Nat);obtain ⟨cl,hcl⟩:=eqv (chV q (i:Nat));rw [<-hcl] at hc1 hc2 hc3 hF;simp only [b6] at hF;rw [hmemc] at hF;refine rrg hB a6 [9,4,5,6,7,8] [9,4,5,6,7,8] [] hF fun X6 a0 w1 hF => ?_
   refine ⟨42,_,_,_,hF,fun w2 hF => ?_⟩;have SCV:=vr A ln c f (by omega) cl hc2 hki;have hcln:=AE cl (b7 f ln);have hcvk:=xP (l:=cl) (qT (p:=fun x => U64 x.key) hki);rw [i3] at hcln;obtain ⟨CV,hCV⟩:=eqv (D8 cl (b7 f ln));rw [<-hCV] at SCV hcln hcvk;obtain ⟨cf,hcf⟩:=eqv (itF CV);obtain ⟨cn,hcn⟩:=eqv (CV.length);have hfc:b7 cf cn=CV:=by rw [hcf,hcn,iQ]
   rw [<-hcf,<-hcn] at SCV hcvk;rw [<-hcn] at hcln;simp only [l4,b6] at SCV;refine wpIn_block (wpIn_seq (rd3 6 hB a6 [34,37,38,39,8] [4,5,6,7,8] [(3,.r fun x => .sl none (x.A 0) cn (x.c 0) 2 (fun i => itC (cf i)))] hF (fun X7 a0 w1 hF => ?_) (hob:=?hob)))
   case hob =>
    intro X; subst hB
    repeat (first | exact trivial | refine ⟨⟨fun _ _ => by kernel_rfl,SCV⟩,?_⟩ | refine ⟨rfl,?_⟩)
   have IH:=ih ((X7 3).A 0) cn ((X7 3).c 0) cf cl (gT b n (b7 f ln) q T i) (by omega) hcvk hc2 hc1 (by omega);have hgBi:(M2 b n (b7 cf cn) cl (gT b n (b7 f ln) q T i)).1=gB b n (b7 f ln) q T i:=by rw [hfc,hCV,hcl]; rfl
   have hgTi:(M2 b n (b7 cf cn) cl (gT b n (b7 f ln) q T i)).2=gT b n (b7 f ln) q T (i + 1):=by rw [hfc,hCV,hcl]; rfl
   rw [hgBi,hgTi] at IH;obtain ⟨gb,hgbb⟩:=eqv (gB b n (b7 f ln) q T i);rw [<-hgbb] at IH;simp only [l4,b6] at IH;refine qE rfl rfl rfl rfl hF rfl rfl (fun _ _ => by kernel_rfl) IH (by omega) (by omega) (hE2 _) (fun _ => .inr rfl) (zl) rfl (fun x a0 w1 hF => ?_);refine lnd 7 hB a6 [41,8] [4,5,6,7,8] [] hF (fun X8 a0 w1 hF => ?_);have hoff2:∀ T',(lmR bT T').off l:=fun T' => sv (by omega)
   refine jP hF rfl (fun hb hF => ?_) (fun hb hF => ?_)
   .have hgf:gB b n (b7 f ln) q T i=false:=by rw [<-hgbb]; subst hB; cases gb<;>first | rfl | cases hb
    refine wpIn_seq (rrg hB a6 [] [4,5,6,7,8] [] hF fun X9 a0 w1 hF => ?_);refine wpIn_ret ?_;exact ⟨lmR bT (gT b n (b7 f ln) q T (i + 1)),_,[],⟨rfl,i,hi,hce,hgb,hgf,rfl,hmemc.symm,rfl⟩,hoff2 _,hF.bare⟩
   have hgt:gB b n (b7 f ln) q T i=true:=by rw [<-hgbb]; subst hB; cases gb<;>first | rfl | cases hb
   refine wpIn_skip ?_;refine ⟨lmR bT (gT b n (b7 f ln) q T (i + 1)),_,[],⟨fun j hj => ?_,rfl,hmemc.symm,rfl⟩,hoff2 _,hF.bare⟩
   rcases Nat.lt_or_ge j i with h1 | h1
   .exact hgb j h1
   rw [show j=i by omega]; exact hgt
  rintro e w3 ⟨v,rfl,K',mem',gr',ho,hh⟩
  have hDo:∀ T',∀ D' ∈ [D],(lmR bT T').off D'/\w.heap.size<=D':=fun T' D' hD' => by
   simp only [List.mem_singleton] at hD';subst hD';exact ⟨sv (by omega),hD0⟩
  rcases hh with ⟨hm',hgb,rfl,rfl,rfl⟩ | ⟨cc,⟨rfl,i,hi,hce,hgb,hgf,rfl,rfl,rfl⟩,hm'⟩
  .refine ⟨v,rfl,_,_,_,ho,.inl ⟨hm',fun a' w' hF => ?_⟩⟩
   rw [hmemc] at hF;refine E3 (wp_seq (rg hB a6 [8] [8] [] hF fun X9 a0 w1 hF => ?_));have hGe:G=(true,gT b n (b7 f ln) q T (if chE q 0=0 then 2 else 0)):=by
    by_cases hce:chE q 0=0
    .rw [if_pos hce] at hgb ⊢
     rw [hG,nM hnf hnl hce,if_pos (hgb 0 (by decide)),hgb 1 (by decide)]
    rw [if_neg hce];rw [hG,mn hnf hnl hce]
   refine wp_ret (rmM (res:=fun _ => ⟨.bool (.v G.1),[],[]⟩) (J:=fun _ => lmR bT G.2) hB a6 [D] hF (hDo _) ⟨0,fun _ => none,fun _ => 0,fun _ => .empty⟩ [] (hhm _) (he:=?he) (hJ:=by rw [hGe]; exact fun _ _ h => h)).1
   case he => rw [hGe]; subst hB; exact Sim.bool rfl
  refine ⟨v,rfl,_,_,_,ho,.inr ⟨.ret,hm',fun a' w' hF => ?_⟩⟩;rw [hmemc] at hF;have hGe:G=(false,gT b n (b7 f ln) q T (i + 1)):=by
   rw [hG,nM hnf hnl hce]
   rcases i with _ | _ | i
   .rw [if_neg (by rw [hgf]; decide)]
   .rw [if_pos (hgb 0 (by decide)),hgf]
   omega
  refine wp_ret (rmM (res:=fun _ => ⟨.bool (.v G.1),[],[]⟩) (J:=fun _ => lmR bT G.2) hB a6 [D] (hF.keep [8] [8]) (hDo _) ⟨0,fun _ => none,fun _ => 0,fun _ => .empty⟩ [] (hhm _) (he:=?he2) (hJ:=by rw [hGe]; exact fun _ _ h => h)).1
  case he2 => rw [hGe]; subst hB; exact Sim.bool rfl
section
variable {P:Program} {fn:FuncId} {Q:Exit -> Act -> World -> Prop} {C:Cx} {nt t:Nat} {b:Bool} {l:List (Nat × AV)} {mem:List (Nat × Blk)} {gr:List (Nat × Gr)} {a:Act} {w:World} {x y:Code}
theorem kg (h:b4 C ⟨nt,(t,.bool (.v b)) :: l,[],mem,gr⟩ a w) (hd:(look l t).known=false) (h1:b=true -> b4 C ⟨nt,l,[],mem,gr⟩ a w -> wpN fn P x Q a w) (h2:b=false -> b4 C ⟨nt,l,[],mem,gr⟩ a w -> wpN fn P y Q a w):wpN fn P (Code.cond (.tmp t) x y) Q a w:=by
 have:=(h.slot t (by show (look ((t,AV.bool (.v b)) :: l) t).known=true; rw [o6,if_pos rfl]; rfl)).1
 rw [show look ((t,AV.bool (.v b)) :: l) t = .bool (.v b) by rw [o6,if_pos rfl]] at this;refine vg (t:=b) (by simp [Act.eval,this,AV.den,BE.den]) ?_
 cases b with
 | true => exact h1 rfl (h.tail hd)
 | false => exact h2 rfl (h.tail hd)
theorem vf {ι : Type} (I:ι -> Act -> World -> Prop) (J:ι -> Prop) (μ : ι -> Nat) {c:Code} {a:Act} {w:World} (p₀:ι) (h₀:J p₀) (hf:I p₀ a w)
  (round:∀ p,J p -> ∀ a w,I p a w -> wpN fn P c (Exit.then (fun a' w' => ∃ p',J p'/\μ p' < μ p/\I p' a' w') Q) a w):wpN fn P (Code.loop c) Q a w:=by
 intro b k fs hb;have key:∀ n p a w,μ p=n -> J p -> I p a w →
   ∃ e a' w',Q e a' w'/\Arrives P (lone (b.at a (.code c :: .inLoop c :: k)) fs w) b k fs e a' w':=by
  intro n
  induction n using Nat.strongRecOn with
  | _ n ih =>
   intro p a w hn hJ hF;obtain ⟨e,a₁,w₁,hq,harr⟩:=round p hJ a w hF b (.inLoop c :: k) fs hb
   cases e with
   | normal =>
    obtain ⟨p',hJ',hlt,hF'⟩:=hq;obtain ⟨e₂,a₂,w₂,hq₂,harr₂⟩:=ih (μ p') (hn ▸ hlt) p' a₁ w₁ rfl hJ' hF';exact ⟨e₂,a₂,w₂,hq₂,.of_steps (Steps.trans harr (.one step_inLoop)) harr₂⟩
   | exit id => exact ⟨_,a₁,w₁,hq,.pass (x:=.inLoop c) rfl (fun _ _ => .inl (by simp)) harr⟩
   | goto l => exact ⟨_,a₁,w₁,hq,.pass (x:=.inLoop c) rfl (fun _ _ => .inl (by simp)) harr⟩
   | ret => exact ⟨_,a₁,w₁,hq,.pass (x:=.inLoop c) rfl (fun _ _ => .inl (by simp)) harr⟩
   | panic ch => exact ⟨_,a₁,w₁,hq,.pass (x:=.inLoop c) rfl (fun _ _ => .inl (by simp)) harr⟩
   | outgrown => exact ⟨_,a₁,w₁,hq,.pass (x:=.inLoop c) rfl (fun _ _ => .inl (by simp)) harr⟩
 obtain ⟨e,a',w',hq,harr⟩:=key _ p₀ a w rfl h₀ hf;exact ⟨e,a',w',hq,.of_steps (.one step_loop) harr⟩
end
theorem qA {K:Kn} {D:Nat} {Ds:List Nat} {m:Nat -> Nat -> Prop} {w:World} (h:((K.and (C4 Ds)).and (C4 [D])).p m w) (hD:D ∉ Ds):(K.and (C4 (D :: Ds))).p m w:=
 ⟨h.1.1,fun E hE => by
  rcases List.mem_cons.1 hE with rfl | hE
  .exact h.2.1 _ (by simp)
  exact h.1.2.1 E hE,List.nodup_cons.2 ⟨hD,h.1.2.2⟩⟩
theorem pd {Ds:List Nat} {m:Nat -> Nat -> Prop} {w:World} (h:(C4 Ds).p m w):∀ D ∈ Ds,D < w.heap.size:=fun D hD => (Array.getElem?_eq_some_iff.1 (h.1 D hD)).1
theorem pg {Ds:List Nat}:(C4 Ds).self:=fun m w h l hl => ko fun hm => by have:=pd h l hm; omega
section
variable {α : Type} {el:α -> AV} {D:DataW Value} {b r:Nat} {L:List (Lab × α)} {left:Lit -> Bool} {cnt:Nat} {m m':Nat -> Nat -> Prop} {w w':World}
theorem nr {P:Program} {k:TypeId} {bo:Option Nat} {n:Nat} (hk:P1 bo w m w' m') (hb1:bo ≠ some b) (hr1:bo ≠ some r) (h:w.ranges P k hR b r n D left cnt):w'.ranges P k hR b r n D left cnt:=by
 obtain ⟨es,clock,since,seen,c0,hb,F,hs,hD,hr,rest⟩:=h;exact ⟨es,clock,since,seen,c0,hk.obj b _ hb1 hb (fun c t f e => by cases e),F,hs,hD,hk.obj r _ hr1 hr (fun c t f e => by cases e),rest⟩
def rgK (el:α -> AV) (D:DataW Value) (b r:Nat) (L:List (Lab × α)) (left:Lit -> Bool) (cnt:Nat):Kn:=⟨fun m w => LmD el D b L m w/\w.ranges Tryz.prog 24 hR b r L.length D left cnt,fun k h => ⟨h.1.keep k,R4 k h.2⟩⟩
def spK (el:α -> AV) (D:DataW Value) (b r:Nat) (L:List (Lab × α)) (left:Lit -> Bool) (bb:Bool) (key v:Value) (kl:Lit) (cnt:Nat):Kn:=⟨fun m w => LmD el D b L m w/\(bb=true -> w.ranges Tryz.prog 24 hR b r L.length D (fun x => left x && !x.sameKey kl) cnt/\ae Tryz.prog w r key v),fun k h => ⟨h.1.keep k,fun hb => ⟨R4 k (h.2 hb).1,cO k (h.2 hb).2⟩⟩⟩
def etK (el:α -> AV) (D:DataW Value) (b r:Nat) (L:List (Lab × α)) (left:Lit -> Bool) (key v:Value) (cnt:Nat):Kn:=⟨fun m w => LmD el D b L m w/\w.ranges Tryz.prog 24 hR b r L.length D left cnt/\ae Tryz.prog w r key v,fun k h => ⟨h.1.keep k,R4 k h.2.1,cO k h.2.2⟩⟩
theorem rT {n:Nat} (h1:b ≠ n) (h2:r ≠ n):(rgK el D b r L left cnt).off n:=fun k h => ⟨h.1.keepB k (fun e => h1 (by injection e with e; exact e.symm)),nr k (fun e => h1 (by injection e with e; exact e.symm)) (fun e => h2 (by injection e with e; exact e.symm)) h.2⟩
theorem gS {P:Program} {k:TypeId} {n:Nat} (h:w.ranges P k hR b r n D left cnt):b < w.heap.size/\r < w.heap.size:=by
 obtain ⟨es,clock,since,seen,c0,hb,F,hs,hD,hr,rest⟩:=h;exact ⟨L3 hb,L3 hr⟩
theorem vS:(rgK el D b r L left cnt).self:=fun m w h l hl => by
 obtain ⟨h1,h2⟩:=gS h.2;exact rT (by omega) (by omega)
theorem LmD.entry (h:LmD el D b L m w) {key v:Value} {kl:Lit} (hk:Go.keyOf Tryz.prog 24 key=some kl) (hh:Maps.has D kl=true) (ha:∀ zd,D.atKey kl zd = .held v):∃ p ∈ L,u4 p.1=kl/\key=(b6 p.1).den/\v=(el p.2).den:=by
 obtain ⟨p,hp,he⟩:=(h.has kl).1 hh;refine ⟨p,hp,he,?_,?_⟩
 .exact Z1.inj hk (he ▸ J1 (h.labs p hp))
 have h1:=h.at_ p hp (.held v);rw [he,ha] at h1;injection h1
theorem dG (l:Lab):(u4 l).sameKey (u4 l)=true:=by simp [u4,Lit.sameKey]
theorem ik {l l':Lab} (h:k4 l) (h':k4 l'):(u4 l).sameKey (u4 l')=decide (l=l'):=by
 by_cases he:l=l'
 .subst he; rw [dG,decide_eq_true rfl]
 rw [decide_eq_false he];have:u4 l ≠ u4 l':=fun e => he (cb h h' e)
 unfold u4 at this ⊢;simp only [Lit.sameKey]
 simpa using this
end
def sG (T:Tre) (q:Lab):Int:=match T q with
 | none => 0
 | some r => r.kind
def De (T:Tre) (q:Lab):Nat:=if (T q).isSome=true then 1 else 0
def bu (T:Tre) (q:Lab):Nat -> Nat
 | 0 => 0
 | i + 1 => bu T q i + De T (chV q (i:Nat))
def K9 (T:Tre) (NX:Lab -> Lab) (b:Int) (q:Lab) (r:Rec):Bool:=
 !(decide (Q8 q=0) && decide (sG T (P5 q) ≠ 2)) &&
 (if r.kind=1 then decide ((r.items.length:Int)<=b) && decide (r.items.length<=(D8 q r.items).length) && decide (r.next=NX q)
  else if r.kind=2 then decide (2<=bu T q (if chE q 0=0 then 2 else 0)) else false)
def pE (l:List Rw):List (Lab × Rec):=l.foldl (fun T w => I0 w.lab w.r T) []
def nxP (l:List Lab) (q:Lab):Lab:=(I3 q (eO (lF l) l.length l.length)).getD ⟨0,0⟩
def oA (l:List Rw) (b:Int):Bool:=
 (qg l ⟨0,0⟩).isSome && decide (1<=b) && decide (b<=16) && pu l && (pE l).all fun p => K9 (qg l) (nxP (F4 l)) b p.1 p.2
theorem sR (f:Nat -> l5):∀ n,eS (Z4 f n)=pE (r9 f n)
 | 0 => rfl
 | n + 1 => by
  have ih:=sR f n;unfold Z4;rw [lA,ih]
  show _=pE (J5 l5.abs f (n + 1))
  rw [aI];unfold pE;rw [List.foldl_append];rfl
theorem kz {l:List Rw} {p:Lab -> Prop} (h:∀ w ∈ l,p w.lab):∀ i,i < (F4 l).length -> p (lF (F4 l) i):=by
 intro i hi;have hm:lF (F4 l) i ∈ F4 l:=by
  unfold lF;rw [List.getD_eq_getElem?_getD,List.getElem?_eq_getElem hi];exact List.getElem_mem hi
 have h2:lF (F4 l) i ∈ cW l:=(fa _).mem_iff.1 hm;unfold cW at h2;obtain ⟨w,hw,he⟩:=List.mem_map.1 h2;rw [<-he];exact h w (List.mem_filter.1 hw).1
theorem uu {q:Lab} (hb:U64 q.bits):k4 (P5 q):=by
 unfold P5
 split
 .rename_i h
  have hl:isL q=true:=by
   unfold Q8 at h
   split at h
   .cases h
   rename_i h1; simpa using h1
  have h0:q.len ≠ 0:=by
   intro h0;unfold Q8 at h;rw [if_neg (by simp [hl]),if_pos h0] at h
   cases h
  exact bX (rX hl hb h0) (BA hb)
 exact bX (by decide) ⟨by decide,by decide⟩
section
variable {K:Kn} {P:Program} {T:List (Nat × TI)} {a:Act} {w:World} {m:Nat -> Nat -> Prop} {w0:World} {fn:Func} {rs:List ResultVar} {r:List AV × List Ob} {B:Alg} {nt:Nat} {tm:List (Nat × AV)} {mem:List (Nat × Blk)} {gr:List (Nat × Gr)}
theorem rsN {res:f9 -> AV} (hB:B=std) (hT:j9 P T) (Ds:List Nat) (h:b4 ⟨m,w0,ats [],Ds.map bi,K.and (C4 Ds)⟩ ⟨nt,tm,[],mem,gr⟩ a w) (hof:∀ D ∈ Ds,K.off D/\w0.heap.size<=D) (x:f9) (he:Sim (can (I6 r.1)) (can (res x))) (hfn:fn.results=rs.toArray:=by rfl) (hr:P8 T ⟨nt,tm,[],mem,gr⟩ rs=some r:=by first | rfl | (conv => lhs; cbv)) (ho:b5 P (K.and (okT tm)) r.2:=by first | exact trivial | (subst hB; simp [b5,Ob.holds])) :
  bodyPostM Fence.wide 0 P fn (fun e w' => ∃ x,e = .returned (res x).den/\Ok m w' (res x)/\Below w0.heap.size w0 w') .ret a w/\bodyPostM Fence.wide 0 P fn (fun e w' => ∃ x,e = .returned (res x).den/\Ok m w' (res x)/\Below w0.heap.size w0 w') .normal a w:=by
 refine Bz hB hT Ds h hof (fun w' hm' hv => ⟨x,?_,?_,hm'.chg.below (Nat.le_refl _) fun k ⟨e,he,_⟩ => (by cases he)⟩) hfn hr ho
 .rw [<-F7 (I6 r.1),he.1,F7]
 have h1:=he.2.2 _ _ ((J9 _).1 hv);exact ((J9 _).2 h1).mono fun b o u g1 g2 => ⟨g1,fun hm => g2 (.inl hm)⟩
end
def ldK {α : Type} (el:α -> AV) (D:DataW Value) (b:Nat) (L:List (Lab × α)):Kn:=⟨LmD el D b L,fun k h => h.keep k⟩
theorem ow (w:World):(zeroValue 24).run Tryz.prog w = .ok (b6 ⟨0,0⟩).den w:=by kernel_rfl
theorem fH (m:Nat -> Nat -> Prop) (w:World) (q:Lab):Ok m w (b6 q):=by
 unfold b6;exact .agg _ (by intro v hv; simp only [List.mem_cons,List.not_mem_nil,or_false] at hv; rcases hv with rfl | rfl<;>rfl) (by intro v hv; simp only [List.mem_cons,List.not_mem_nil,or_false] at hv; rcases hv with rfl | rfl<;>exact .int _ _)
abbrev wK (T:List (Lab × RA)) (NX:List (Lab × Lab)) (D:DataW Value) (bT rr bN:Nat) (left:Lit -> Bool) (cnt:Nat):Kn:=(rgK u9 D bT rr T left cnt).and (lmK b6 bN NX)
theorem vm {T:List (Lab × RA)} {NX:List (Lab × Lab)} {D:DataW Value} {bT rr bN n:Nat} {left:Lit -> Bool} {cnt:Nat} (h1:bT ≠ n) (h2:rr ≠ n) (h3:bN ≠ n):(wK T NX D bT rr bN left cnt).off n:=tw (rT h1 h2) (gc h3)
theorem sE (a b:Lab):eqL [.int .i64 a.len,.int .u64 a.bits] [.int .i64 b.len,.int .u64 b.bits]=decide (a=b):=by
 rw [Bool.eq_iff_iff];simp only [eqL,eqC,Bool.and_true,Bool.and_eq_true,beq_iff_eq,decide_eq_true_eq]
 constructor
 .rintro ⟨h1,h2⟩; exact nE h1 h2
 rintro rfl; exact ⟨rfl,rfl⟩
def ni (p:Lab × Rec):Rw:=⟨p.1,1,p.2⟩
def nJ (p:Lab × Rec):List (Lab × Rec) -> List (Lab × Rec)
 | [] => [p]
 | q :: l => if J3 p.1 q.1=true then p :: q :: l else q :: nJ p l
def jL (l:List (Lab × Rec)):List (Lab × Rec):=l.foldl (fun o x => nJ x o) []
def leE (a b:Lab × Rec):Prop:=leL a.1 b.1
theorem io (x:Lab × Rec):∀ l:List (Lab × Rec),(nJ x l).Perm (x :: l)
 | [] => List.Perm.refl _
 | y :: l => by
  unfold nJ
  split
  .exact List.Perm.refl _
  exact (List.Perm.cons _ (io x l)).trans (List.Perm.swap _ _ _)
theorem iP (x:Lab × Rec):∀ {l:List (Lab × Rec)},l.Pairwise leE -> (nJ x l).Pairwise leE
 | [],_ => List.pairwise_singleton _ _
 | y :: l,h => by
  have h':=List.pairwise_cons.1 h;unfold nJ
  split
  .rename_i hx
   refine List.pairwise_cons.2 ⟨fun z hz => ?_,h⟩
   rcases List.mem_cons.1 hz with rfl | hz
   .exact js hx
   exact me (js hx) (h'.1 z hz)
  rename_i hx
  refine List.pairwise_cons.2 ⟨fun z hz => ?_,iP x h'.2⟩
  rcases List.mem_cons.1 ((io x l).mem_iff.1 hz) with rfl | hz
  .exact (Bool.not_eq_true _).mp hx
  exact h'.1 z hz
theorem oK (l:List (Lab × Rec)):∀ (o:List (Lab × Rec)),(l.foldl (fun o x => nJ x o) o).Perm (l ++ o)/\(o.Pairwise leE -> (l.foldl (fun o x => nJ x o) o).Pairwise leE):=by
 induction l with
 | nil => exact fun o => ⟨List.Perm.refl _,id⟩
 | cons x l ih =>
  intro o;obtain ⟨h1,h2⟩:=ih (nJ x o);exact ⟨h1.trans (((io x o).append_left l).trans List.perm_middle),fun ho => h2 (iP x ho)⟩
theorem jK (l:List (Lab × Rec)):(jL l).Perm l:=by
 have:=(oK l []).1
 rwa [List.append_nil] at this
theorem ng (l:List (Lab × Rec)):(jL l).Pairwise leE:=(oK l []).2 .nil
def uD (NX:Lab -> Lab) (w:Rw):Rw:=if w.r.kind=1 then { w with r:={ w.r with next:=NX w.lab } } else w
def sM (n:Nat) (f:Nat -> Itm) (b:Int):Bool × List (Lab × Rec):=M2 b 65 (b7 f n) ⟨0,0⟩ []
def og (n:Nat) (f:Nat -> Itm) (b:Int):Int:=
 if b < 1 \/ b > 16 \/ wy n f=true \/ qn n f=false \/ rb n f=true then 1 else if 500 < n then 2 else if (sM n f b).1=true then 0 else 2
def pT (n:Nat) (f:Nat -> Itm) (b:Int):List Rw:=(jL (sM n f b).2).map ni
def lx (n:Nat) (f:Nat -> Itm) (b:Int):List Rw:=if og n f b=0 then (pT n f b).map (uD (nxP (F4 (pT n f b)))) else []
theorem kO {left:Lit -> Bool} {p:Lab × RA}:∀ {L:List (Lab × RA)},(L.map (·.1)).Nodup -> (∀ q ∈ L,k4 q.1) -> p ∈ L -> left (u4 p.1)=true →
  (L.filter fun q => left (u4 q.1)).Perm (p :: L.filter fun q => left (u4 q.1) && !(u4 q.1).sameKey (u4 p.1))
 | q :: L,hr,hl,hp,h1 => by
  have hr':=List.nodup_cons.1 hr
  rcases List.mem_cons.1 hp with rfl | hp
  .rw [List.filter_cons,if_pos h1,List.filter_cons,dG]
   simp only [Bool.not_true,Bool.and_false,Bool.false_eq_true,if_false];refine List.Perm.cons _ ?_;have:∀ q ∈ L,(left (u4 q.1))=(left (u4 q.1) && !(u4 q.1).sameKey (u4 p.1)):=by
    intro q hq;rw [ik (hl q (by simp [hq])) (hl p (by simp)),decide_eq_false (fun e => hr'.1 (List.mem_map.2 ⟨q,hq,e⟩))];simp
   rw [List.filter_congr this]
  have hne:q.1 ≠ p.1:=fun e => hr'.1 (List.mem_map.2 ⟨p,hp,e.symm⟩)
  have ih:=kO hr'.2 (fun q hq => hl q (by simp [hq])) hp h1;rw [List.filter_cons,List.filter_cons,ik (hl q (by simp)) (hl p (by simp [hp])),decide_eq_false hne];simp only [Bool.not_false,Bool.and_true]
  split
  .exact (List.Perm.cons _ ih).trans (List.Perm.swap _ _ _)
  exact ih
def rwA (p:Lab × RA):l5:=⟨p.1,1,p.2⟩
theorem uU {TA:List (Lab × RA)} (hnd:(TA.map (·.1)).Nodup) {h h':Nat -> l5} {k:Nat} (hp:(r9 h k).Perm (TA.map fun p => (rwA p).abs)) (hp':((List.range k).map h').Perm ((List.range k).map h)) (hs:∀ i j,i < j -> j < k -> Y3 (h' j).lab (h' i).lab=false):r9 h' k=(jL (eS TA)).map ni:=by
 have e1:(TA.map fun p => (rwA p).abs)=(eS TA).map ni:=by unfold eS; rw [List.map_map]; rfl
 have hperm:(r9 h' k).Perm ((jL (eS TA)).map ni):=by
  refine List.Perm.trans ?_ (hp.trans (by rw [e1]; exact ((jK (eS TA)).map ni).symm));have:=hp'.map l5.abs;simp only [List.map_map] at this;exact this
 have hlabs:((eS TA).map ni).map (·.lab)=TA.map (·.1):=by unfold eS; rw [List.map_map,List.map_map]; rfl
 have hnd2:(((jL (eS TA)).map ni).map (·.lab)).Nodup:=by
  have:=((jK (eS TA)).map ni).map (·.lab);exact this.nodup_iff.2 (by rw [hlabs]; exact hnd)
 refine List.Perm.eq_of_pairwise (le:=fun a b:Rw => leL a.lab b.lab) ?_ ?_ ?_ hperm
 .intro a b ha hb h1 h2
  have hl:a.lab=b.lab:=pq h1 h2;have ha':=hperm.mem_iff.1 ha;have key:∀ {l:List Rw},(l.map (·.lab)).Nodup -> ∀ {a b:Rw},a ∈ l -> b ∈ l -> a.lab=b.lab -> a=b:=by
   intro l
   induction l with
   | nil => intro _ a b ha; cases ha
   | cons x l ih =>
    intro hn a b ha hb hab;have hn':=List.nodup_cons.1 hn
    rcases List.mem_cons.1 ha with hax | hax
    .rcases List.mem_cons.1 hb with hbx | hbx
     .rw [hax,hbx]
     exact (hn'.1 (List.mem_map.2 ⟨b,hbx,by rw [<-hab,hax]⟩)).elim
    rcases List.mem_cons.1 hb with hbx | hbx
    .exact (hn'.1 (List.mem_map.2 ⟨a,hax,by rw [hab,hbx]⟩)).elim
    exact ih hn'.2 hax hbx hab
  exact key hnd2 ha' hb hl
 .rw [List.pairwise_iff_getElem]
  intro i j hi hj hij;have hj':j < k:=by rw [G3] at hj; exact hj
  have hi':i < k:=by omega
  have e:∀ t (g:t < (r9 h' k).length),t < k -> (r9 h' k)[t]=(h' t).abs:=by
   intro t g ht;have:=ii l5.abs h' ht;rw [List.getElem?_eq_getElem g] at this;exact Option.some.inj this
  rw [e i hi hi',e j hj hj']
  show J3 (h' j).lab (h' i).lab=false
  rw [<-pt];exact hs i j hij hj'
 rw [List.pairwise_map];exact ng _
theorem so {C:Cx} {P:Program} {Q:Exit -> Act -> World -> Prop} {ops:Array Oper} {s:St} {a:Act} {w:World} {L rest:List Oper} {o:Oper} {cl:Call} {g:Operand} {f:FuncId} {l r args:List AV} {d:Nat} (hL:L=o :: rest) (hg:o.guard=none) (hop:o.op = .call cl) (hcal:cl.callee = .value g) (hdst:o.dst=some d) (h:b4 C s a w) (hgv:val s [] g = .fn f l r) (hl:V0 s [] cl.args.toList=some args) (hen:j3 P f)
  (R:Value -> World -> Prop) (hc:Calls P f ((l ++ args ++ r).map AV.den).toArray w fun e w' => ∃ v,e = .returned v/\R v w') (K:∀ v w',R v w' -> wpList P ops Q rest (a.put (some d) v) w'):wpList P ops Q L a w:=by
 refine Q9 hL hg ?_;obtain ⟨hrun,_⟩:=cu hop hcal h hgv hl hen;unfold Oper.wp;rw [hrun];simp only [Oper.upon];refine hc.mono ?_
 rintro e w' ⟨v,rfl,h1⟩
 rw [hdst];exact K v w' h1
theorem j5.args' {P:Program} {f:FuncId} {args args':List AV} {res:f9 -> AV} (h:j5 P f args' res) (hs:D9 args args'):j5 P f args res:=by
 intro m w hm ha;rw [hs.map];exact h m w hm (hs.ok ha)
theorem uS (A:Option Addr) (n c:Nat) (f:Nat -> Itm) (hn:n<=1000000) {m:Nat -> Nat -> Prop} {w:World} (hok:Ok m w (l4 A n c f)):Calls Tryz.prog 88 ([l4 A n c f].map AV.den).toArray w fun e w' => ∃ v,e = .returned v/\∃ A' c',v = .slice A' n c'/\Own w' w.heap.size 62 2 (.slice A' n c') n (f7 (fun t => itC (f t)) n)/\Below w.heap.size w w':=by
 have hsim:Sim (l4 A n c f) (l4 A (b7 f n).length c (itF (b7 f n))):=Sim.resl (i3 f n).symm fun t ht => by rw [i3] at ht; rw [s9 f n t ht]
 have hr:=Cl.its_reads (hsim.2.2 _ _ hok);have:=Cl.clone_c w A c (b7 f n) hr (by rw [i3]; omega);rw [i3] at this;refine this.mono ?_
 rintro e w' ⟨v,rfl,hO,hb⟩
 obtain ⟨A',c',rfl,_,_⟩:=hO.isSlice;rw [i3] at hO;refine ⟨_,rfl,A',c',by rw [i3],?_,hb⟩;unfold rI at hO;rw [i3] at hO;have e:f7 (fun t => itC (f t)) n=(b7 f n).flatMap Cl.itmE:=by
  have:=Cl.rowFlat_its (b7 f n);rw [i3] at this;rw [<-this];unfold f7;rw [List.flatMap_def,List.flatMap_def]
  congr 1
  apply List.map_congr_left;intro t ht
  show (itC (f t)).map AV.den=(itC (itF (b7 f n) t)).map AV.den
  rw [s9 f n t (List.mem_range.1 ht)]
 rw [e];exact hO
def mdJ (b:Int):i6:=⟨6,⟨0,0⟩,0,0,⟨#[]⟩,0,none,0,0,fun _ => 0,0,0,0,0,1,b,2000⟩
theorem wN (b:Int):bF (mdJ b):=have h:U64 (0:Int):=⟨by decide,by decide⟩; ⟨h,h,h⟩
def mdF (i:Nat):Itm:=if i=0 then ⟨1,⟨#[]⟩⟩ else ⟨9223372036854775808,⟨#[]⟩⟩
def mdR:List Rw:=[⟨⟨0,0⟩,1,⟨2,[],⟨-1,0⟩,0⟩⟩,⟨⟨1,0⟩,1,⟨1,[⟨1,⟨#[]⟩⟩],⟨1,9223372036854775808⟩,0⟩⟩,⟨⟨1,9223372036854775808⟩,1,⟨1,[⟨9223372036854775808,⟨#[]⟩⟩],⟨-1,0⟩,0⟩⟩]
def mdX:List Rw:=[⟨⟨0,0⟩,1,⟨2,[],⟨-1,0⟩,0⟩⟩,⟨⟨1,0⟩,1,⟨1,[⟨1,⟨#[]⟩⟩],⟨1,9223372036854775808⟩,0⟩⟩,⟨⟨1,9223372036854775808⟩,1,⟨1,[⟨9223372036854775808,⟨#[]⟩⟩],⟨0,0⟩,0⟩⟩]
def mdL:Shf:=[(⟨0,0⟩,⟨1,true,⟨2,[],⟨-1,0⟩,0⟩⟩),(⟨1,0⟩,⟨1,true,⟨1,[⟨1,⟨#[]⟩⟩],⟨1,9223372036854775808⟩,0⟩⟩),(⟨1,9223372036854775808⟩,⟨1,true,⟨1,[⟨9223372036854775808,⟨#[]⟩⟩],⟨0,0⟩,0⟩⟩)]
def mdM:Shf:=[(⟨0,0⟩,⟨1,true,⟨2,[],⟨-1,0⟩,0⟩⟩),(⟨1,0⟩,⟨1,true,⟨1,[⟨1,⟨#[]⟩⟩],⟨1,9223372036854775808⟩,0⟩⟩),(⟨1,9223372036854775808⟩,⟨2,true,⟨1,[⟨9223372036854775808,⟨#[]⟩⟩],⟨-1,0⟩,0⟩⟩)]
def mdY:List Rw:=[⟨⟨0,0⟩,1,⟨2,[],⟨-1,0⟩,0⟩⟩,⟨⟨1,0⟩,1,⟨1,[⟨1,⟨#[]⟩⟩],⟨1,9223372036854775808⟩,0⟩⟩,⟨⟨1,9223372036854775808⟩,2,⟨1,[⟨9223372036854775808,⟨#[]⟩⟩],⟨-1,0⟩,0⟩⟩]
abbrev mdS:Rsl:=⟨0,false,⟨#[]⟩,[],2,false⟩
theorem zA:lx 2 mdF 1=mdR:=by kernel_rfl
theorem CU:og 2 mdF 1=0:=by kernel_rfl
theorem wM:aT mdX=some mdL:=by kernel_rfl
theorem zB:aT mdY=some mdM:=by kernel_rfl
theorem CT:∃ n,R7 (E4 (mdJ 1)) 3000 2001 [] mdL 0=⟨2,mdS,n,0,mdM,1⟩:=⟨(R7 (E4 (mdJ 1)) 3000 2001 [] mdL 0).n,by kernel_rfl⟩
theorem zy:∃ n,R7 (E4 (mdJ 1)) 3000 2001 [] mdM 1=⟨2,mdS,n,0,mdM,1⟩:=⟨(R7 (E4 (mdJ 1)) 3000 2001 [] mdM 1).n,by kernel_rfl⟩
theorem wL:I9 mdM=mdY:=by kernel_rfl
theorem zx:oA mdY 1=true:=by kernel_rfl
theorem BH:∀ k,¬ ats ([]:List (Nat × Blk)) k:=fun k ⟨e,he,_⟩ => by cases he
theorem ET {m0:Nat -> Nat -> Prop} {mem:List (Nat × Blk)} {gr:List (Nat × Gr)} {nt:Nat} {tm:List (Nat × AV)} {w w1:World} {S:Nat -> Prop} {ds:List Deferred} {K K':Kn} (h:K.p (mT m0 mem gr) w):K.p (St.m ⟨nt,tm,[],[],[]⟩ ⟨mT m0 mem gr,w1,S,ds,K'⟩) w:=
 K.st ⟨fun b o u h1 h2 => ⟨h1,fun h => by
  rcases h with h | ⟨k,e,he,_⟩ | ⟨k,t,ht,_⟩
  .exact h2 h
  .cases he
  cases ht⟩,fun _ _ h _ => h⟩ h
theorem kK {b:Int}:∀ (n:Nat) (l:List Itm) (q:Lab) (T:List (Lab × Rec)),T.length<=2000 -> (M2 b n l q T).2.length<=2000
 | 0,l,q,T,h => h
 | n + 1,l,q,T,h => by
  by_cases h1:2000<=T.length
  .rw [mu h1]; exact h
  have hs:∀ r,(I0 q r T).length<=2000:=fun r => by rw [fL]; split<;>omega
  by_cases h2:(l.length:Int)<=b \/ q.len=64
  .rw [mq h1 h2]; exact hs _
  by_cases hc:chE q 0=0
  .have e1:(gT b n l q T 1).length<=2000:=kK n _ _ _ (hs qM)
   have e2:(gT b n l q T 2).length<=2000:=kK n _ _ _ e1;rw [nM h1 h2 hc]
   split
   .exact e2
   exact e1
  rw [mn h1 h2 hc]; exact hs qM
theorem sd {m0:Nat -> Nat -> Prop} {w0 w w':World} {S:Nat -> Prop} {ds:List Deferred} {K:Kn} {nt key:Nat} {t:Gr} {l:List (Nat × AV)} {mem:List (Nat × Blk)} {a:Act} (h:b4 ⟨m0,w0,S,ds,K⟩ ⟨nt,l,[],mem,[(key,t)]⟩ a w) (hS:∀ k,¬ S k) (hc:Chg (fun x => l8 t.v=some x) w w') {v:AV} (hv:Ok m0 w0 v):Ok (mG m0 mem [(key,t)]) w' v:=by
 refine hv.mono fun b o u hcell hn => ?_
 have hlt:=World.block_lt_of_cell? w0 _ hcell;have hown:l8 t.v ≠ some b:=by
  intro hb;obtain ⟨_,xs,ho⟩:=h.gr key t (by simp [f5]);exact absurd hlt (Nat.not_lt.2 (ho.lt b hb).1)
 refine ⟨?_,?_⟩
 .have e1:=h.chg.block b hlt (hS b)
  have e2:=hc.block b (Nat.lt_of_lt_of_le hlt h.chg.size) hown;unfold World.cell? at hcell ⊢;rw [e2,e1]; exact hcell
 rintro (h1 | ⟨k,e,he,h1⟩ | ⟨k,t',ht,hb,_⟩)
 .exact hn h1
 .subst h1
  rcases (h.mem k e he).2.2 with h2 | h2
  .exact absurd hlt (Nat.not_lt.2 h2)
  exact hS _ h2
 obtain ⟨_,xs,ho⟩:=h.gr k t' ht;exact absurd hlt (Nat.not_lt.2 (ho.lt b hb).1)
theorem zE {bN:Nat} {NX:List (Lab × Lab)} {m m':Nat -> Nat -> Prop} {w w':World} (h:(lmK b6 bN NX).p m w) (he:w'.heap[bN]? = w.heap[bN]?):(lmK b6 bN NX).p m' w':=by
 obtain ⟨D,hD⟩:=h;exact ⟨D,lZ hD.map he,hD.nd,hD.labs,hD.has,hD.size,hD.at_,fun p hp => fH _ _ _⟩
theorem cC {m:Nat -> Nat -> Prop} {w:World} {x:RA} (h:Ok m w (u9 x)) (l:Lab) (v:Int):∀ u ∈ u7 ⟨l,v,x⟩,u.one=true/\Ok m w u:=by
 cases h with
 | agg _ h1 h2 =>
  intro u hu;simp only [u7,List.mem_cons,List.not_mem_nil,or_false] at hu
  rcases hu with rfl | rfl | rfl | rfl | rfl | rfl | rfl | rfl
  .exact ⟨rfl,.int _ _⟩
  .exact ⟨rfl,.int _ _⟩
  .exact ⟨rfl,.int _ _⟩
  .exact ⟨rfl,.int _ _⟩
  .exact ⟨h1 _ (by simp [fR]),h2 _ (by simp [fR])⟩
  .exact ⟨rfl,.int _ _⟩
  .exact ⟨rfl,.int _ _⟩
  exact ⟨rfl,.int _ _⟩
def jd (NX:Lab -> Lab) (r:l5):l5:=if r.x.r.kd=1 then ⟨r.lab,r.ver,⟨r.x.A,r.x.c,{ r.x.r with nx:=NX r.lab }⟩⟩ else r
theorem xl (NX:Lab -> Lab) (r:l5):(jd NX r).abs=uD NX r.abs:=by
 unfold jd uD
 by_cases h:r.x.r.kd=1
 .rw [if_pos h,if_pos (show r.abs.r.kind=1 from h)]; rfl
 rw [if_neg h,if_neg (show ¬ r.abs.r.kind=1 from h)]
theorem AO (A:Option Addr) (n c:Nat) (f:Nat -> Itm) (hn:n<=1000000) (hki:∀ i,i < n -> U64 (f i).key) (b:Int):j5 Tryz.prog 34 [l4 A n c f,.int .i64 b] (fun y => .tup [T6 (y.A 0) (lx n f b).length (y.c 0) (W8 y (lx n f b)),.int .i64 (og n f b)]):=by
 intro m w hm hargs;have hmx:maxLen=9223372036854775807:=rfl;have hok:=hargs (l4 A n c f) (by simp);have hvs:∀ i,i < n -> (f i).val.size<=maxLen:=fun i hi => by
  have:=se hok hi (.str (f i).val) (by simp [itC])
  cases this; assumption
 have SO:=DR A n c f hn;have SS:=Ci A n c f hn;obtain ⟨od,hod⟩:=eqv (wy n f);obtain ⟨sr,hsr⟩:=eqv (qn n f);obtain ⟨du,hdu⟩:=eqv (rb n f);rw [<-hod] at SO;rw [<-hsr] at SS;unfold l4 at hargs SO SS;refine en 95 hm hargs Tryz.func34 fun B hB a0 hF => ?_
 refine wp_seq (rg hB a6 [0,1] [] [] hF fun X0 a0 w1 hF => ?_);refine wp_seq (rg hB a6 [6,0,1] [] [] hF fun X1 a0 w1 hF => ?_);refine wp_seq (rg hB a6 [7,6,0,1] [] [] hF fun X2 a0 w1 hF => ?_);refine wp_seq (wp_region_lit ?_);refine lpr 0 1 hB a6 [16,7,6,0,1] [] [] hF (fun X3 a0 w1 hF => ?_);refine so rfl rfl rfl rfl rfl hF rfl rfl (fun _ _ => by kernel_rfl) _ (uS A n c f hn (hF.slot 16 rfl).2) ?_
 rintro v w2 ⟨A2,c2,rfl,hO2,hb2⟩
 have hF2:=(hF.below hb2).put (some 17) (fun t ht => by injection ht with ht; subst ht; exact Nat.le_of_ble_eq_true rfl) (.raw (.slice A2 n c2)) (fun _ => .raw _) _ fun _ => rfl
 have hcc:=uR hO2 hb2.size hn hvs;refine so (R:=fun v w' => ∃ A m c,v = .slice A m c/\decide (m < n)=du/\Ej w1.heap.size w2 w') rfl rfl rfl rfl rfl hF2 rfl rfl (fun _ _ => by kernel_rfl) (hcc.mono ?_) ?_
 .rintro e w' ⟨A3,m3,c3,rfl,h1,h2,h3⟩
  exact ⟨_,rfl,A3,m3,c3,rfl,by rw [hdu]; exact h1,h3⟩
 rintro v w3 ⟨A3,m3,c3,rfl,hm3,hold⟩
 have hb3:Below w1.heap.size w1 w3:=⟨hold.os.trans hb2.os,hold.tape.trans hb2.tape,hold.output.trans hb2.output,hold.size,fun k hk => (hold.block k hk).trans (hb2.block k hk)⟩;have hF3:=(hF.below hb3).put (some 17) (fun t ht => by injection ht with ht; subst ht; exact Nat.le_of_ble_eq_true rfl) (.raw (.slice A2 n c2)) (fun _ => .raw _) (.slice A2 n c2) fun _ => rfl
 have hF3:=hF3.put (some 18) (fun t ht => by injection ht with ht; subst ht; exact Nat.le_of_ble_eq_true rfl) (.raw (.slice A3 m3 c3)) (fun _ => .raw _) (.slice A3 m3 c3) fun _ => rfl
 refine jq (v:=.int .i64 (m3:Int)) rfl rfl rfl hF3 (Nat.le_of_ble_eq_true rfl) ?_ (.int _ _) fun a0 hF => ?_
 .have h18:=(hF3.slot 18 rfl).1
  have hu:Tryz.prog.underlying 33=some (.slice 62):=by kernel_rfl
  have h18':=(C2 hF3 (q:=[]) (fun _ h => by cases h) (x:=.tmp 18) rfl).1;have h18'':Act.eval ((a0.put (some 17) (.slice A2 n c2)).put (some 18) (.slice A3 m3 c3)) (.tmp 18) = .slice A3 m3 c3:=h18';simp [execOp,resolve,invoke,builtin,Builtin.len_,h18'',AV.den,run_underlying hu,goInt]
 refine lnd 4 hB a6 [8,7,6,0,1] [] [] hF (fun X4 a0 w1 hF => ?_);have hF:=hF.headS (v':=.bool (.v du)) (by subst hB; exact Sim.bool (by rw [<-hm3]; show decide ((m3:Int) < (n:Int))=decide (m3 < n); rw [decide_eq_decide]; omega)) rfl
 have O1:=SO;have O2:=SS;refine wp_seq (wp_block (wp_seq (rg hB a6 [23,0,1] [] [(9,.r fun _ => .bool (.v od)),(14,.r fun _ => .bool (.v sr))] hF (fun X5 a0 w1 hF => ?_) (hob:=?hob))))
 case hob =>
  intro X; subst hB
  repeat (first | exact trivial | refine ⟨rfl,?_⟩ | refine ⟨fun _ => rfl,?_⟩ | refine ⟨fun _ => ⟨fun _ _ => by kernel_rfl,SO⟩,?_⟩ | refine ⟨fun _ => ⟨fun _ _ => by kernel_rfl,SS⟩,?_⟩)
 refine a7 hF rfl (fun hbA hF => ?_) (fun hbA hF => ?_)
 .have h9:(if (if (if (if decide (b < 1)=true then true else decide (b > 16))=true then true else od)=true then true else !sr)=true then true else du)=true:=by subst hB; exact hbA
  have hE:og n f b=1:=by
   unfold og;rw [if_pos];rw [<-hod,<-hsr,<-hdu]
   by_cases g1:b < 1
   .exact .inl g1
   by_cases g2:b > 16
   .exact .inr (.inl g2)
   cases od
   .cases sr
    .exact .inr (.inr (.inr (.inl rfl)))
    cases du
    .simp [g1,g2] at h9
    exact .inr (.inr (.inr (.inr rfl)))
   exact .inr (.inr (.inl rfl))
  refine wp_seq (rg hB a6 [4,5] [4] [] hF fun X6 a0 w1 hF => ?_);refine wp_ret (rsi hB a6 hF ⟨0,fun _ => none,fun _ => 0,fun _ => .empty⟩ (he:=?_));subst hB;rw [show lx n f b=[] by unfold lx; rw [hE]; rfl,hE];exact Sim.tup ⟨fK,zr,trivial⟩
 have hE0:og n f b=if 500 < n then 2 else if (sM n f b).1=true then 0 else 2:=by
  have h9:(if (if (if (if decide (b < 1)=true then true else decide (b > 16))=true then true else od)=true then true else !sr)=true then true else du)=false:=by subst hB; exact hbA
  unfold og;rw [if_neg];rw [<-hod,<-hsr,<-hdu]
  rintro (g | g | g | g | g)<;>simp [g] at h9
 refine wp_seq (rg hB a6 [44,0,1] [] [] hF fun X6 a0 w1 hF => ?_);refine a7 hF rfl (fun hbB hF => ?_) (fun hbB hF => ?_)
 .have hbig:500 < n:=by
   have:(500:Int) < (n:Int):=by subst hB; simpa [std,a8] using hbB
   omega
  rw [if_pos hbig] at hE0;refine wp_seq (rg hB a6 [4,5] [4] [] hF fun X7 a0 w1 hF => ?_);refine wp_ret (rsi hB a6 hF ⟨0,fun _ => none,fun _ => 0,fun _ => .empty⟩ (he:=?_));subst hB;rw [show lx n f b=[] by unfold lx; rw [hE0]; rfl,hE0];exact Sim.tup ⟨fK,zr,trivial⟩
 have hsml:¬ 500 < n:=by
  have:¬ (500:Int) < (n:Int):=by subst hB; simpa [std,a8] using hbB
  omega
 rw [if_neg hsml] at hE0;refine wp_skip (wp_seq (wp_region_lit ?_));refine bj (k:=24) (e:=0) rfl rfl rfl rfl hF (Nat.le_of_ble_eq_true rfl) (lmR w1.heap.size []) (fun m w' _ _ hM => ⟨[],rfl,_,LmD.empty hM⟩) ?_;obtain ⟨bT,hbT⟩:=eqv (w1.heap.size);rw [<-hbT];intro a0 w1 hfresh hF;have hbfr:w.heap.size<=bT:=hfresh;refine lnd 1 hB a6 [9,0,1] [] [] hF (fun X7 a0 w1 hF => ?_);refine wp_seq (wp_seq (wp_region_lit ?_));refine lpr 0 4 hB a6 [49,50,51,52,9] [] [] hF (fun X8 a0 w1 hF => ?_);have hGM:=Dg bT b 65 A n c f ⟨0,0⟩ [] hn hki ⟨by decide,by decide⟩ (by decide) (by decide);obtain ⟨gp,hgp⟩:=eqv (sM n f b);rw [show M2 b 65 (b7 f n) ⟨0,0⟩ []=gp from hgp.symm] at hGM;simp only [l4,b6] at hGM;refine D7 rfl rfl rfl rfl hF rfl rfl (fun _ _ => by kernel_rfl) hGM (fun _ _ h => h) (fun b' hb' => by cases hb'; exact fun h => absurd h (Nat.not_lt.2 hbfr)) (zl) (fun e he => by cases he) rfl rfl (fun _ => lmR bT gp.2) (fun _ _ _ _ _ _ _ _ _ h => h) ?_;intro y a0 w1 hF;obtain ⟨gb,hgb⟩:=eqv (gp.1);rw [<-hgb] at hF;refine lnd 5 hB a6 [54,9] [] [] hF (fun X9 a0 w1 hF => ?_);refine a7 hF rfl (fun hbC hF => ?_) (fun hbC hF => ?_)
 .have hgf:gb=false:=by subst hB; cases gb<;>first | rfl | cases hbC
  have hE:og n f b=2:=by rw [hE0,<-hgp,<-hgb,hgf]; rfl
  refine wp_seq (rg hB a6 [4,5] [4] [] hF fun X10 a0 w1 hF => ?_);refine wp_ret (rsi hB a6 hF ⟨0,fun _ => none,fun _ => 0,fun _ => .empty⟩ (he:=?_));subst hB;rw [show lx n f b=[] by unfold lx; rw [hE]; rfl,hE];exact Sim.tup ⟨fK,zr,trivial⟩
 have hgt:gb=true:=by subst hB; cases gb<;>first | rfl | cases hbC
 have hE:og n f b=0:=by rw [hE0,<-hgp,<-hgb,hgt]; rfl
 have hR:lx n f b=(pT n f b).map (uD (nxP (F4 (pT n f b)))):=by unfold lx; rw [if_pos hE]
 have h0:pT n f b=(jL gp.2).map ni:=by unfold pT; rw [<-hgp]
 rw [hE,hR];refine wp_skip ?_
 -- from here on: a stretch of its own
 obtain ⟨wi,hwi⟩:=eqv (w1);have hMi:Mem m w (fun _ => False) noK [] [] wi:=by rw [hwi]; exact (hF.withK (K':=noK) trivial).bare
 obtain ⟨TA,hTA,D,hD⟩:=hF.kept;have hFs:=(qp hF).withK (K':=ldK u9 D bT TA) (ET (K:=ldK u9 D bT TA) hD);rw [<-hwi] at hFs hD ⊢;obtain ⟨mS,hmS⟩:=eqv (mT m [] []);have hokT:∀ p ∈ TA,Ok mS wi (u9 p.2):=fun p hp => by rw [hmS]; exact hD.ok p hp
 have hrets:∀ {fn:Func} {nt0:Nat} {tm0:List (Nat × AV)} {R:Ending -> World -> Prop},True:=fun {_ _ _ _} => trivial
 replace hF:=hFs;rw [<-hmS] at hF;have hlabs:∀ p ∈ TA,k4 p.1:=hD.labs
 have hnd:=hD.nd;have hmapT:∃ es cl,wi.heap[bT]? = some (.map es cl):=by obtain ⟨es,cl,h,_⟩:=hD.map; exact ⟨es,cl,h⟩
 refine wp_seq (rg hB a6 [10,9] [10] [] hF fun X10 a0 w1 hF => ?_);refine wp_seq (wp_seq (wp_region_lit ?_));refine lpr 0 1 hB a6 [55,10] [10] [] hF (fun X11 a0 w1 hF => ?_);obtain ⟨rr,hrr⟩:=eqv (w1.heap.size);refine ic rfl rfl rfl rfl hF (Nat.le_of_ble_eq_true rfl) rfl Z1 U1 hF.kept.map (rgK u9 D bT rr TA (Maps.has D) (Maps.size D)) (fun m w' h1 h2 h3 => ⟨h1.keep h2,by rw [hrr]; exact h3⟩) ?_;rw [<-hrr];intro a0 w1 hfr hF;refine wpList_nil ?_;replace hF:=hF.keep [10,56] [10];have hbTr:bT ≠ rr:=by
  obtain ⟨es,cl,h⟩:=hmapT;have:=L3 h;omega
 have hF:=hF.headS (v':=.sl (some 10) none 0 0 8 (fun t => u7 ou)) (zq0) rfl;refine wp_block (ga (ι:=Nat × (Nat -> l5) × Option Addr × Nat × (Lit -> Bool) × Nat) (fun p a w1 => b4 ⟨mS,wi,ats [],[],rgK u9 D bT rr TA p.2.2.2.2.1 p.2.2.2.2.2⟩ ⟨95,[(10,.sl (some 10) p.2.2.1 p.1 p.2.2.2.1 8 (fun t => u7 (p.2.1 t))),(56,.raw (.pointer (some ⟨rr,0,none⟩)))],[],[],[(10,⟨p.2.2.1,p.1,p.2.2.2.1,8,110⟩)]⟩ a w1) (fun p => (∀ kl,p.2.2.2.2.1 kl=true -> Maps.has D kl=true)/\(r9 p.2.1 p.1 ++ (TA.filter fun q => p.2.2.2.2.1 (u4 q.1)).map fun q => (rwA q).abs).Perm (TA.map fun q => (rwA q).abs)/\∀ t,t < p.1 -> ∃ q ∈ TA,p.2.1 t=rwA q) (fun p => p.2.2.2.2.2) (0,fun _ => ou,none,0,Maps.has D,Maps.size D) ⟨fun _ h => h,by
  have:TA.filter (fun q => Maps.has D (u4 q.1))=TA:=List.filter_eq_self.2 fun q hq => (hD.has _).2 ⟨q,hq,rfl⟩
  simp only [this];exact List.Perm.refl _,fun t ht => absurd ht (Nat.not_lt_zero _)⟩ hF ?_)
 rintro ⟨k1,h,A1,c1,left,cnt⟩ ⟨hlft,hprm,hels⟩ a0 w1 hF
 dsimp only at hlft hprm hels hF;have hTl:TA.length<=2000:=by
  have:=kK (b:=b) 65 (b7 f n) ⟨0,0⟩ [] (Nat.zero_le _);have e:gp.2=(M2 b 65 (b7 f n) ⟨0,0⟩ []).2:=by rw [hgp]; rfl
  rw [<-e,<-hTA,dV] at this;exact this
 have hk1:k1<=TA.length:=by
  have h9:=hprm.length_eq;simp only [List.length_append,G3,List.length_map] at h9;omega
 refine wp_seq (wp_region_lit ?_);refine ie rfl rfl rfl rfl hF (Nat.le_of_ble_eq_true rfl) rfl Z1 hF.kept.2 (fun h => absurd h (Nat.not_lt.2 hfr)) (spK u9 D bT rr TA left) (fun m h _ => ⟨h.1,fun h => by cases h⟩) (fun key v kl cnt' m w' h1 h2 h3 h4 => ⟨h1.1.keepB h2 (fun e => hbTr (by injection e with e; exact e.symm)),fun _ => ⟨h3,h4⟩⟩) ?_;intro a0 w1 bb rest' key v kl cnt' hn0 hn1 hF;refine lnd 1 hB a6 [58,10,56] [10] [] hF (fun X12 a0 w1 hF => ?_);refine wp_seq (a7 hF rfl (fun hbD hF => ?_) (fun hbD hF => ?_))
 .have hbb:bb=true:=by subst hB; exact hbD
  obtain ⟨hnx1,hnx2,hnx3,hnx4⟩:=hn1 hbb;replace hF:=hF.withK (K':=etK u9 D bT rr TA (fun x => left x && !x.sameKey kl) key v cnt') ⟨hF.kept.1,hF.kept.2 hbb⟩;refine wp_skip (wp_block (wp_seq (wp_region_lit ?_)));obtain ⟨⟨q,el⟩,hp,hpk,hpkey,hpv⟩:=hF.kept.1.entry hnx1 (hlft _ hnx2) hnx3;dsimp only at hpk hpkey hpv;have hent:=hF.kept.2.2;rw [hpkey,hpv] at hent;have hok:=hF.kept.1.ok _ hp;refine ig rfl rfl rfl rfl hF (Nat.le_of_ble_eq_true rfl) rfl hent (fH _ _ q) hok ?_;intro a0 hF;simp only [b6] at hF;replace hF:=hF.withK (K':=rgK u9 D bT rr TA (fun x => left x && !x.sameKey kl) cnt') ⟨hF.kept.1,hF.kept.2.1⟩;refine lnd 1 hB a6 [11,12,10,56] [11,12,10] [] hF (fun X13 a0 w1 hF => ?_);refine rg hB a6 [10,56] [10] [] hF (fun X14 a0 w1 hF => ?_) (hob:=?hob2)
  case hob2 =>
   intro X; subst hB
   repeat (first | exact trivial | refine ⟨⟨rfl,rfl,rfl⟩,?_⟩ | refine ⟨rfl,?_⟩ | refine ⟨⟨show k1 + 1<=maxLen by omega,show (k1 + 1) * _<=_ by omega⟩,?_⟩)
  obtain ⟨h2,hh2⟩:∃ x:Nat -> l5,x=fun t => if t=k1 then rwA (q,el) else h t:=⟨_,rfl⟩
  have hF:=hF.headS (v':=.sl (some 10) ((X14 5).A 0) (B.nadd k1 1) ((X14 5).c 0) 8 (fun t => u7 (h2 t))) (Sim.resl rfl (fun t ht => by
   subst hB;have ht2:t < k1 + 1:=ht
   show F8 k1 (fun t => u7 (h t)) (I4 8 (u7 (rwA (q,el)))) t=_
   rw [hh2];unfold F8;dsimp only
   split
   .rw [if_neg (by omega)]
   have:t=k1:=by omega
   subst this;rw [if_pos rfl];simp [I4])) rfl
  refine ⟨(k1 + 1,h2,_,_,(fun x => left x && !x.sameKey kl),cnt'),⟨fun x hx => ?_,?_,fun t ht => ?_⟩,hnx4,by rw [show k1 + 1=B.nadd k1 1 by subst hB; rfl]; exact hF⟩
  .simp only [Bool.and_eq_true] at hx
   exact hlft _ hx.1
  .have h9:=(kO (left:=left) hnd hlabs hp (by rw [hpk]; exact hnx2)).map fun q => (rwA q).abs
   rw [hpk] at h9;have e9:r9 h2 (k1 + 1)=r9 h k1 ++ [(rwA (q,el)).abs]:=by
    show J5 l5.abs _ (k1 + 1)=J5 l5.abs h k1 ++ _
    rw [aI,hh2];simp only [if_true]
    congr 1
    unfold J5;apply List.map_congr_left;intro t ht;have h5:=List.mem_range.1 ht
    show l5.abs (if t=k1 then rwA (q,el) else h t)=_
    rw [if_neg (by omega)]
   simp only;rw [e9,List.append_assoc];refine List.Perm.trans (List.Perm.append_left _ ?_) hprm;rw [List.map_cons] at h9;exact h9.symm
  simp only at ht ⊢;rw [hh2]
  by_cases he:t=k1
  .exact ⟨_,hp,by simp [he]⟩
  simp only [if_neg he]; exact hels t (by omega)
 have hbb:bb=false:=by subst hB; exact hbD
 have hall:=hn0 hbb;have hprm2:(r9 h k1).Perm (TA.map fun q => (rwA q).abs):=by
  have e9:(TA.filter fun q => left (u4 q.1))=[]:=List.filter_eq_nil_iff.2 fun q _ => by rw [hall]; simp
  rw [e9] at hprm
  simpa using hprm
 replace hF:=hF.withK (K':=noK) trivial;refine wp_exit (wp_seq (wp_region_lit ?_));refine lpr 0 1 hB a6 [68,10] [10] [] hF (fun X13 a0 w1 hF => ?_);have hO:=qQ hF (hF.slot 10 rfl).2;refine fo rfl rfl rfl rfl rfl hF rfl rfl (fun _ _ => by kernel_rfl) (fun w' => ∃ h':Nat -> l5,((List.range k1).map h').Perm ((List.range k1).map h)/\(∀ i j,i < j -> j < k1 -> Y3 (h' j).lab (h' i).lab=false)/\Own w' wi.heap.size 110 8 (.slice A1 k1 c1) k1 (f7 (fun t => u7 (h' t)) k1)) ((qo hO (by omega)).mono ?_) ?_
 .rintro e w2 ⟨he,h',g1,g2,g3,g4⟩
  exact ⟨he,⟨h',g1,g2,g3⟩,g4⟩
 rintro w2 ⟨h',g1,g2,g3⟩ g4
 have hfin:=uU hnd hprm2 g1 g2;have hels':∀ i,i < k1 -> ∃ q ∈ TA,h' i=rwA q:=by
  intro i hi;have hmem:=g1.mem_iff.1 (List.mem_map.2 ⟨i,List.mem_range.2 hi,rfl⟩);obtain ⟨j,hj,hje⟩:=List.mem_map.1 hmem;obtain ⟨q,hq,hqe⟩:=hels j (List.mem_range.1 hj);exact ⟨q,hq,by rw [<-hje,hqe]⟩
 have hgrm:∀ b',l8 (.slice A1 k1 c1)=some b' -> ∀ o,o < k1 * 8 -> ¬ mG mS [] [(10,⟨A1,k1,c1,8,110⟩)] b' o:=kJ hF
 have hrow2:Ok (mG mS [] [(10,⟨A1,k1,c1,8,110⟩)]) w2 (.sl (some 10) A1 k1 c1 8 (fun t => u7 (h' t))):=aE g3 (fun _ _ => rfl) hgrm (fun i hi => by
  obtain ⟨q,hq,e⟩:=hels' i hi;rw [e];exact cC (sd hF BH g4 (hokT q hq)) _ _) _
 have hF:=b4.rowset (K':=noK) (l':=[(10,.sl (some 10) A1 k1 c1 8 (fun t => u7 (h' t)))]) hF g4 g3 (M8 ⟨(hF.slot 10 rfl).1,hrow2⟩ nL) (fun k e he => by cases he) trivial;have hF:=(hF.put (some 69) (fun t ht => by injection ht with ht; subst ht; exact Nat.le_of_ble_eq_true rfl) (.tup []) (fun _ => .tup _ fun u hu => by cases hu) (.tuple #[]) fun _ => rfl);refine wpList_nil ?_;replace hF:=hF.keep [10] [10];have hk2000:k1<=2000:=by omega
 obtain ⟨lv,hlv⟩:=eqv (F4 (r9 h' k1));have hlvl:lv.length<=k1:=by
  have:=kB (r9 h' k1);rw [G3,<-hlv] at this;exact this
 have hlvo:=kz (l:=r9 h' k1) (p:=k4) (fun x hx => by
  simp only [r9,J5,List.mem_map,List.mem_range] at hx;obtain ⟨i,hi,rfl⟩:=hx;obtain ⟨q,hq,e⟩:=hels' i hi;rw [e];exact hlabs q hq)
 have SL:=(pm A1 k1 c1 h' (by omega)).args' (args:=[.sl (some 10) A1 k1 c1 8 (fun t => u7 (h' t))]) ⟨Sim.resl rfl (fun t ht => rfl),trivial⟩;rw [<-hlv] at SL hlvo;obtain ⟨lf,hlf⟩:=eqv (lF lv);obtain ⟨ln,hln⟩:=eqv (lv.length);rw [<-hlf,<-hln] at SL hlvo;rw [<-hln] at hlvl;obtain ⟨NX,hNX⟩:=eqv (eO lf ln ln);have O1:=SL;refine wp_seq (wp_region_lit ?_);refine lpr 0 2 hB a6 [71,10] [10] [(1,.r fun y => sC (y.A 0) ln (y.c 0) lf)] hF (fun X15 a0 w1 hF => ?_);refine D7 rfl rfl rfl rfl hF rfl rfl (fun _ _ => by kernel_rfl) (sf ((X15 1).A 0) ln ((X15 1).c 0) lf (by omega) hlvo) (fun _ _ h => h) (fun b hb => by cases hb) (zl) (fun e he => by cases he) rfl rfl (fun y => lmK b6 (y.c 0) NX) (fun _ _ _ _ _ _ _ _ _ h => by rw [hNX]; exact h.2) ?_;intro y2 a0 w1 hF;obtain ⟨bN,hbN⟩:=eqv (y2.c 0);rw [<-hbN] at hF;refine lnd 3 hB a6 [13,10] [10] [] hF (fun X16 a0 w1 hF => ?_);obtain ⟨nx,hnx⟩:∃ x:Lab -> Lab,x=fun q => (I3 q NX).getD ⟨0,0⟩:=⟨_,rfl⟩
 have hnxP:nx=nxP lv:=by
  funext q
  rw [hnx,hNX,hlf,hln];rfl
 refine wp_seq (wp_seq (rg hB a6 [75,10,73,74,13] [10] [] hF fun X17 a0 w1 hF => ?_));have hF0:=hF;refine wp_block (ga (ι:=Nat) (fun i a w1 => b4 ⟨mS,wi,ats [],[],lmK b6 bN NX⟩ ⟨95,[(75,.int .i64 (i:Int)),(10,.sl (some 10) A1 k1 c1 8 (fun t => u7 (if t < i then jd nx (h' t) else h' t))),(73,.sl (some 10) A1 k1 c1 8 (fun t => u7 (if t < i then jd nx (h' t) else h' t))),(74,.int .i64 (k1:Int)),(13,.raw (.map (some bN)))],[],[],[(10,⟨A1,k1,c1,8,110⟩)]⟩ a w1) (fun i => i<=k1) (fun i => k1 - i) 0 (Nat.zero_le _) (by subst hB; exact hF0) ?_);intro i hi a0 w1 hF;obtain ⟨hc,hhc⟩:∃ x:Nat -> l5,x=fun t => if t < i then jd nx (h' t) else h' t:=⟨_,rfl⟩
 have ehc:(fun t => u7 (if t < i then jd nx (h' t) else h' t))=fun t => u7 (hc t):=by rw [hhc]
 rw [ehc] at hF;have hci:hc i=h' i:=by rw [hhc]; simp
 refine wp_seq (rg hB a6 [76,75,10,73,74,13] [10] [] hF fun X18 a0 w1 hF => ?_);refine wp_seq (a7 hF rfl (fun hbE hF => ?_) (fun hbE hF => ?_))
 .have hin:i < k1:=by
   have:(i:Int) < (k1:Int):=by subst hB; simpa [std,a8] using hbE
   omega
  have eI:B.arith .add .i64 (i:Int) 1=((i + 1:Nat):Int):=by subst hB; exact j2 (n:=k1) hin (by omega)
  refine wp_skip (wp_seq (wp_block (wp_seq (rg hB a6 [14,15,75,10,73,74,13] [15,10] [] hF (fun X19 a0 w1 hF => ?_) (hob:=?hob3)))))
  case hob3 =>
   intro X; subst hB
   repeat (first | exact trivial | refine ⟨rfl,?_⟩ | refine ⟨(show (0:Int)<=(i:Int)/\(i:Int) < (k1:Int) by omega),?_⟩)
  have hF:=hF.memS (cells':=u7 (hc i)) (by subst hB; exact zl);refine wp_seq (rg hB a6 [83,14,15,75,10,73,74,13] [15,10] [] hF fun X20 a0 w1 hF => ?_);refine a7 hF rfl (fun hbF hF => ?_) (fun hbF hF => ?_)
  .have hk1':(h' i).x.r.kd=1:=by rw [<-hci]; subst hB; simpa [std,a8] using hbF
   obtain ⟨nq,hnq⟩:=eqv (nx (hc i).lab);have hlq:k4 (hc i).lab:=by
    rw [hci];obtain ⟨q,hq,e⟩:=hels' i hin;rw [e];exact hlabs q hq
   have ON:=nC (K:=lmK b6 bN NX) (el:=b6) (l:=(hc i).lab) (fun m w h => h) hlq fX ow (fun m w => fH m w _) (v:=b6 nq) (by rw [hnq,hnx]);simp only [b6] at ON;refine wp_region_lit ?_;refine lpr 0 9 hB a6 [92,89,75,10,73,74,13] [10] [(5,.r fun _ => .agg [.int .i64 nq.len,.int .u64 nq.bits])] hF (fun X21 a0 w1 hF => ?_) (hob:=?hob4)
   case hob4 =>
    intro X; subst hB
    repeat (first | exact trivial | refine ⟨rfl,?_⟩ | refine ⟨ON,?_⟩ | refine ⟨(show (0:Int)<=(i:Int)/\(i:Int) < (k1:Int) by omega),?_⟩)
   have hF:=hF.headS (v':=.ep A1 i 8 5 (u7 (hc i))) (by subst hB; exact zr) rfl;have hrowk:Ok _ w1 (.sl (some 10) A1 k1 c1 8 (fun t => u7 (hc t))):=(hF.slot 10 rfl).2;have hbNr:l8 (.slice A1 k1 c1) ≠ some bN:=by
    intro e;obtain ⟨_,xs,ho⟩:=hF.gr 10 ⟨A1,k1,c1,8,110⟩ rfl;obtain ⟨c',t',f',hcl⟩:=ho.isCells e;obtain ⟨es,cl,hm⟩:=gd hF.kept;rw [hm] at hcl; cases hcl
   have hKl:=hF.kept;refine kr rfl rfl rfl rfl hF rfl rfl (.inr rfl) a6 rfl rfl hrowk (fun _ _ => rfl) hin (show 5 + 2<=8 from by decide) (fun w2 hO2 hc2 _ => ?_)
   obtain ⟨h2,hh2⟩:∃ x:Nat -> l5,x=fun t => if t < i + 1 then jd nx (h' t) else h' t:=⟨_,rfl⟩
   have efl:wrC (fun t => u7 (hc t)) i 5 [.int .i64 nq.len,.int .u64 nq.bits]=fun t => u7 (h2 t):=by
    funext t
    rw [hh2];unfold wrC
    by_cases hti:t=i
    .subst hti
     rw [if_pos rfl]
     show List.take 5 (u7 (hc t)) ++ [.int .i64 nq.len,.int .u64 nq.bits] ++ List.drop (5 + 2) (u7 (hc t))=u7 (if t < t + 1 then jd nx (h' t) else h' t)
     rw [if_pos (Nat.lt_succ_self t),hnq,hci];unfold jd;rw [if_pos hk1'];rfl
    rw [if_neg hti,hhc];dsimp only
    by_cases ht2:t < i
    .rw [if_pos ht2,if_pos (by omega)]
    rw [if_neg ht2,if_neg (by omega)]
   have hO2:Own w2 wi.heap.size 110 8 (.slice A1 k1 c1) k1 (f7 (fun t => u7 (h2 t)) k1):=by rw [<-efl]; exact hO2
   have hgrm2:=kJ hF;have hrow2:Ok (mG mS [] [(10,⟨A1,k1,c1,8,110⟩)]) w2 (.sl (some 10) A1 k1 c1 8 (fun t => u7 (h2 t))):=aE hO2 (fun _ _ => rfl) hgrm2 (fun j hj => by
    obtain ⟨q,hq,e⟩:=hels' j hj;have h5:=sd hF BH hc2 (hokT q hq);rw [hh2];dsimp only
    split
    .rw [e]
     unfold jd
     split
     .have:=cC h5 (rwA q).lab (rwA q).ver
      intro u hu;simp only [u7,List.mem_cons,List.not_mem_nil,or_false] at hu
      rcases hu with rfl | rfl | rfl | rfl | rfl | rfl | rfl | rfl
      .exact ⟨rfl,.int _ _⟩
      .exact ⟨rfl,.int _ _⟩
      .exact ⟨rfl,.int _ _⟩
      .exact ⟨rfl,.int _ _⟩
      .exact this _ (by simp [u7,rwA])
      .exact ⟨rfl,.int _ _⟩
      .exact ⟨rfl,.int _ _⟩
      exact ⟨rfl,.int _ _⟩
     exact cC h5 _ _
    rw [e]; exact cC h5 _ _) _
   have hF:=b4.rowset (K':=lmK b6 bN NX) (l':=[(75,.int .i64 (i:Int)),(10,.sl (some 10) A1 k1 c1 8 (fun t => u7 (h2 t))),(73,.sl (some 10) A1 k1 c1 8 (fun t => u7 (h2 t))),(74,.int .i64 (k1:Int)),(13,.raw (.map (some bN)))]) hF hc2 hO2 (M8 ⟨(hF.slot 75 rfl).1,.int _ _⟩ (M8 ⟨(hF.slot 10 rfl).1,hrow2⟩ (M8 ⟨(hF.slot 73 rfl).1,hrow2⟩ (M8 ⟨(hF.slot 74 rfl).1,.int _ _⟩ (M8 ⟨(hF.slot 13 rfl).1,.raw _⟩ nL))))) (fun k e he => by cases he) (zE hKl (hc2.block bN (kw hKl) hbNr));refine wpList_nil ?_;refine rg hB a6 [75,10,73,74,13] [10] [] hF fun X22 a0 w1 hF => ?_
   exact ⟨i + 1,by omega,by omega,by rw [<-eI]; rw [hh2] at hF; exact hF⟩
  have hk1':¬ (h' i).x.r.kd=1:=by rw [<-hci]; subst hB; simpa [std,a8] using hbF
  refine wp_skip (rg hB a6 [75,10,73,74,13] [10] [] hF fun X21 a0 w1 hF => ?_);have e2:hc=fun t => if t < i + 1 then jd nx (h' t) else h' t:=by
   funext t
   rw [hhc];dsimp only
   by_cases ht2:t < i
   .rw [if_pos ht2,if_pos (by omega)]
   rw [if_neg ht2]
   by_cases hti:t=i
   .subst hti
    rw [if_pos (by omega)];unfold jd;rw [if_neg hk1']
   rw [if_neg (by omega)]
  exact ⟨i + 1,by omega,by omega,by rw [<-eI]; rw [e2] at hF; exact hF⟩
 have hik:i=k1:=by
  have:¬ (i:Int) < (k1:Int):=by subst hB; simpa [std,a8] using hbE
  omega
 refine wp_exit (wp_seq (rg hB a6 [4,5] [10] [] hF fun X19 a0 w1 hF => ?_));have hFf:=fM hMi (by rw [<-hmS]; exact hF.withK (K':=noK) trivial);have hRf:r9 hc k1=(pT n f b).map (uD (nxP (F4 (pT n f b)))):=by
  rw [h0,<-hTA,<-hfin,<-hlv,<-hnxP]
  show J5 l5.abs hc k1=(J5 l5.abs h' k1).map (uD nx)
  unfold J5;rw [List.map_map];apply List.map_congr_left;intro t ht;have h5:=List.mem_range.1 ht;rw [hhc];simp only [Function.comp];rw [if_pos (by omega),xl]
 refine wp_ret (rsi hB a6 hFf (rwY A1 c1 hc 0) (he:=?_));subst hB;exact Sim.tup ⟨rR hRf,zr,trivial⟩
end Go.Proofs.YtodelmejfpkicaaGreat.Sym
