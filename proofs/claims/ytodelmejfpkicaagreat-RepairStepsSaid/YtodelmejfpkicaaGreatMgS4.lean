/-
  SymPr3, SymPr4, SymPr5, SymPr6, SymPr7, SymPr8, SymRcv, SymNx0, OpenS25, OpenW25, PlSeek, PlMend, PlEr, PlWok, ItClone, SymShP, SymShQ, SymShD, SortGen, CmpBase, LaySort, SortBase, CmpRow, SortRow, SymSrt, SymRow0, SymShR, SymRSh3, SymLw0, PlGood, PlRun, PlMendOk, SymSk1, SymSk2: put together by a program of mine (a claim may have 60 files at most). Conditions: none.
-/
import Derived.WalkKit
import Derived.WalkLawsBesides
import Derived.WalkSpells
import Derived.Lib.Hide
import Derived.Deep.QuietTactic
import Derived.BigQuiet
import Derived.Deep.LoopGhost
import Derived.Deep.DeepCutAuto
import Derived.Deep.RegionLaw
import Derived.Lib.Overlaps
import Derived.Laws.CopyOwn
import Derived.IntWalk
import Derived.ProofKit
import Derived.OpenShut
import Derived.ShutString
import Derived.ChangeOld
import Derived.Deep.Slices
import Derived.Test.YtodelmejfpkicaaGreatProg
import Derived.Orders
import Derived.OrdersHeld
import Derived.Defers
import Derived.Recover
import Derived.Lib.BitFns
import Derived.ChangeKeysEq
import Derived.Test.YtodelmejfpkicaaGreatChecked
import Derived.Lib.BufferWrite
import Derived.Maps.OwnSet
import Derived.Maps.RangeWalk
import Derived.Maps.Ext
import Derived.DeepKeys4
import Derived.LoopN
import Derived.Shelf.SlSortCmp.WholeK
import Derived.Shelf.SlSortCmp.NoneTotal
import Derived.Deep.RegionHeld3
import Derived.Ground.SlsfProg
import Derived.Shelf.SlGeneric
import Derived.Test.YtodelmejfpkicaaGreatMgS1
import Derived.Test.YtodelmejfpkicaaGreatMgS2
import Derived.Test.YtodelmejfpkicaaGreatMgS3
set_option linter.unusedVariables false
set_option linter.unusedSimpArgs false
set_option maxRecDepth 100000
set_option maxHeartbeats 1600000
namespace Go.Proofs.YtodelmejfpkicaaGreat.Sym
open Go Go.RowKit
theorem Dk (b:Nat) (J:i6) (hJ:k8 J) (A:Option Addr) (c:Nat) (p:Pst) (hp:i5 p) (hn:p.n<=1000000) (l:Lab) (v:Int) (d:Lab) (n:Nat) (hf:p.n < n):B7 290 0 b J A c p [b6 l,.int .u64 v,b6 d] (sS) (L6 J.budget l v d n p):=by
 intro m w hm hargs hpre;refine enX 52 hm hpre hargs Tryz.func290 fun B hB a0 hF => ?_
 refine wp_seq (rg hB a6 [0,2,5,7,8] [0,5,7,8] [] hF fun X0 a0 w1 hF => ?_);refine wp_block (l0 (ι:=Nat × Pst × Option Addr × Nat) (fun q => []) (fun q => [(0,⟨b,166,C0 J q.2.2.1 q.2.2.2 q.2.1⟩)]) (fun q => []) (fun q => L6 J.budget l v d n p=L6 J.budget l v d q.1 q.2.1/\i5 q.2.1/\q.2.1.n<=1000000/\q.2.1.n < q.1) (fun q => q.1) (n,p,A,c) ⟨rfl,hp,hn,hf⟩ hF ?_)
 rintro ⟨nn,p0,A0,c0⟩ ⟨hrun,hp0,hn0,hf0⟩ a0 w1 hF
 try dsimp only at hrun
 try dsimp only at hp0
 try dsimp only at hn0
 try dsimp only at hf0
 obtain ⟨n2,rfl⟩:∃ n2,nn=n2 + 1:=⟨nn - 1,by omega⟩
 refine wp_block (wp_seq ?_)
 rcases (aL 0 b J hJ A0 c0 p0 hp0 hn0 d).two (j1 _ _ _) hp0 hn0 with ⟨w1,p1,hm1,O1⟩ | ⟨g1,p1,hm1,hs1,hp1,hn1,S1⟩
 .refine stp 2 hB a6 [12,13] [0] [] hF O1 fun _ _ _ _ hF hk => ?_
  exact thm (P:=Tryz.prog) (fn:=Tryz.f290) (q:=p1) hF hk (by simp [hrun,L6,Rs.bind,hm1])
 have hl1:=B0 hm1;have hg1:=hp0.get hm1;have O1:=S1;refine rg hB a6 [0,2,5,7,8,10] [0,5,7,8,10] [(2,rc J (s5 g1) p1)] hF fun X1 a0 w1 hF => ?_
 obtain ⟨q2,hq2⟩:=eqv ((gk g1 1 || gk g1 5));refine wp_seq (wp_block (wp_seq ?_));refine rg hB a6 [15,0,2,5,7,8,10] [0,5,7,8,10] [(2,.r fun _ => .bool (.v q2))] hF (hob:=by intro X; subst hB; simp only [b5,Ob.holds,BE.den]<;>and_intros<;>repeat first | trivial | rfl | exact (by rw [hq2]; exact dH g1 _ _ 1 5 _ rfl rfl) | exact by rw [hq2]; exact dH g1 _ _ 1 5 _ rfl rfl | exact (fun _ _ => by kernel_rfl) | refine ⟨?_,?_⟩ | intro h | exact Int.le_refl _ | decide | omega) fun X2 a0 w1 hF => ?_
 apply a7 hF rfl<;>intro hb hF
 .have tq2:(gk g1 1 || gk g1 5)=false:=by subst hB; rw [<-hq2]; revert hb; cases q2<;>simp [std]
  refine wp_seq (rg hB a6 [8,9] [0,8] [] hF fun X3 a0 w1 hF => ?_);refine wp_ret ((rmm hB a6 hF (v:=Fz.unfit) (q:=p1) ((X1 2).A 0) ((X1 2).c 0) (by simp [hrun,L6,Rs.bind,hm1,tq2]) (he:=?_)).1);subst hB; exact Sim.tup ⟨Sim.agg ⟨zr,P7,zr,zr,zr,trivial⟩,zr,trivial⟩
 have tq2:(gk g1 1 || gk g1 5)=true:=by subst hB; rw [<-hq2]; revert hb; cases q2<;>simp [std]
 obtain ⟨q4,hq4⟩:=eqv (gk g1 5);apply wp_seq;refine rg hB a6 [21,0,2,5,7,8,10] [0,5,7,8,10] [(2,.r fun _ => .bool (.v q4))] hF (hob:=by intro X; subst hB; simp only [b5,Ob.holds,BE.den]<;>and_intros<;>repeat first | trivial | rfl | exact (by rw [hq4]; exact N8 g1 _ _ 5 _ rfl) | exact by rw [hq4]; exact N8 g1 _ _ 5 _ rfl | exact (fun _ _ => by kernel_rfl) | refine ⟨?_,?_⟩ | intro h | exact Int.le_refl _ | decide | omega) fun X4 a0 w1 hF => ?_
 apply a7 hF rfl<;>intro hb hF
 .have t4:(gk g1 5 && decide (g1.x.r.mrk=v))=true:=by subst hB; rw [<-hq4]; revert hb; cases q4<;>simp [std,a8]
  refine wp_seq (rg hB a6 [8,9] [0,8] [] hF fun X5 a0 w1 hF => ?_);exact wp_ret ((rmm hB a6 hF (v:=(Fz.fr g1.x)) (q:=p1) ((X1 2).A 0) ((X1 2).c 0) (by simp [hrun,L6,Rs.bind,hm1,tq2,t4])).1)
 have t4:(gk g1 5 && decide (g1.x.r.mrk=v))=false:=by subst hB; rw [<-hq4]; revert hb; cases q4<;>simp [std,a8]
 apply wp_seq
 rcases (jl 0 b J hJ ((X1 2).A 0) ((X1 2).c 0) p1 hp1 hn1 l v).two (j1 _ _ _) hp1 hn1 with ⟨w6,p6,hm6,O1⟩ | ⟨g6,p6,hm6,hs6,hp6,hn6,S6⟩
 .refine stp 3 hB a6 [35,36,37] [0] [] hF O1 fun _ _ _ _ hF hk => ?_
  exact thm (P:=Tryz.prog) (fn:=Tryz.f290) (q:=p6) hF hk (by simp [hrun,L6,Rs.bind,hm1,tq2,t4,hm6])
 have hl6:=B0 hm6;have hg6:=hp1.get hm6
 try dsimp only at S6
 obtain ⟨d6,hd6⟩:=eqv (decide (g6.ver=v));rw [<-hd6] at S6;have O1:=S6;refine rg hB a6 [34,0,2,5,7,8,10] [0,5,7,8,10] [(3,rc J (.bool (.v d6)) p6)] hF fun X6 a0 w1 hF => ?_
 apply a7 hF rfl<;>intro hb hF
 .have t6:¬ g6.ver=v:=by
   have h9:(!d6)=true:=by subst hB; exact hb
   rw [hd6] at h9; simpa using h9
  refine wp_seq (rg hB a6 [8,9] [0,8] [] hF fun X7 a0 w1 hF => ?_);refine wp_ret ((rmm hB a6 hF (v:=Fz.over) (q:=p6) ((X6 3).A 0) ((X6 3).c 0) (by simp [hrun,L6,Rs.bind,hm1,tq2,t4,hm6,t6]) (he:=?_)).1);subst hB; exact Sim.tup ⟨Sim.agg ⟨zr,P7,zr,zr,zr,trivial⟩,zr,trivial⟩
 have t6:g6.ver=v:=by
  have h9:(!d6)=false:=by subst hB; exact hb
  rw [hd6] at h9; simpa using h9
 have O1:=rD 5 g1.x v;refine wp_skip (wp_seq (rg hB a6 [0,2,5,7,8,10,11] [0,5,7,8,10,11] [(3,.r fun _ => u9 (asR 5 g1.x v))] hF fun X8 a0 w1 hF => ?_));apply wp_seq
 rcases (eW 0 b J hJ ((X6 3).A 0) ((X6 3).c 0) p6 hp6 hn6 d g1.ver (asR 5 g1.x v)).two (l3 _ _ _ _ _) hp6 hn6 with ⟨w9,p9,hm9,O1⟩ | ⟨d9,p9,hm9,hs9,hp9,hn9,S9⟩
 .refine stp 5 hB a6 [45,46,48,49] [0] [] hF O1 fun _ _ _ _ hF hk => ?_
  exact thm (P:=Tryz.prog) (fn:=Tryz.f290) (q:=p9) hF hk (by simp [hrun,L6,Rs.bind,hm1,tq2,t4,hm6,t6,hm9])
 have O1:=S9;refine rg hB a6 [50,0,2,5,7,8,11] [0,5,7,8,11] [(5,rc J (.bool (.v d9)) p9)] hF fun X9 a0 w1 hF => ?_
 apply a7 hF rfl<;>intro hb hF
 .have t9:d9=true:=by exact hb
  refine wp_seq (rg hB a6 [8,9] [0,8] [] hF fun X10 a0 w1 hF => ?_);exact wp_ret ((rmm hB a6 hF (v:=(Fz.fr (asR 5 g1.x v))) (q:=p9) ((X9 5).A 0) ((X9 5).c 0) (by simp [hrun,L6,Rs.bind,hm1,tq2,t4,hm6,t6,hm9,t9])).1)
 have t9:d9=false:=by exact hb
 replace hF:=hF.keep [0,2,5,7,8] [0,5,7,8];exact wp_skip (⟨(n2,p9,_,_),⟨by rw [hrun]; simp [L6,Rs.bind,hm1,tq2,t4,hm6,t6,hm9,t9],hp9,hn9,by dsimp only; have:=hl1; have:=hs6.le; have:=hs9.le; have:=hf0; omega⟩,by simp only; omega,hF⟩)
theorem BK (k0 b:Nat) (J:i6) (hJ:k8 J) (A:Option Addr) (c:Nat) (p:Pst) (hp:i5 p) (hn:p.n<=1000000) (l:Lab) (v:Int) (d:Lab) (n:Nat) (hf:p.n < n):B7 290 k0 b J A c p [b6 l,.int .u64 v,b6 d] (sS) (L6 J.budget l v d n p):=B7.re (Dk b J hJ A c p hp hn l v d n hf) (by repeat (first | exact trivial | refine ⟨zr,?_⟩))
theorem lq (k0 b:Nat) (J:i6) (hJ:k8 J) (A:Option Addr) (c:Nat) (p:Pst) (hp:i5 p) (hn:p.n<=1000000) (l:Lab) (v:Int):B7 164 k0 b J A c p [b6 l,.int .u64 v,xf] (fun d => .bool (.v d)) (T0 J.budget l v dI p):=
 B7.re (eW 0 b J hJ A c p hp hn l v ⟨none,0,dI.rn⟩) ⟨zr,zr,Sim.agg ⟨zr,P7,zr,zr,zr,trivial⟩,trivial⟩
theorem Eb (b:Nat) (J:i6) (hJ:k8 J) (A:Option Addr) (c:Nat) (p:Pst) (hp:i5 p) (hn:p.n<=1000000) (l:Lab) (hl:LOk l) (v:Int) (n:Nat) (hth:ThC n) (hf:p.n < n):B7 291 0 b J A c p [b6 l,.int .u64 v] (fun _ => i7) (aO J.budget (G4 J.bucket J.budget n) l v p):=by
 intro m w hm hargs hpre;have SC:=tg l hl.u;have hk0:=hl.ch 0;have hk1:=hl.ch 1;simp only [b6] at SC;obtain ⟨x0,hx0⟩:=eqv (chV l 0);rw [<-hx0] at SC hk0;obtain ⟨x1,hx1⟩:=eqv (chV l 1);rw [<-hx1] at SC hk1;refine enX 23 hm hpre hargs Tryz.func291 fun B hB a0 hF => ?_
 refine wp_seq (rg hB a6 [0,2,4] [0,4] [] hF fun X0 a0 w1 hF => ?_);refine wp_seq (wp_seq ?_)
 rcases (lq 0 b J hJ A c p hp hn l v).two (l3 _ _ _ _ _) hp hn with ⟨w1,p1,hm1,O1⟩ | ⟨d1,p1,hm1,hs1,hp1,hn1,S1⟩
 .have O2:=eV
  refine iZ 4 hB a6 [8,9,10,11] [0] [(3,.r fun _ => .agg [.int .i64 2,.sl none none 0 0 2 (fun _ => []),.int .i64 (-1),.int .u64 0,.int .u64 0])] hF O1 fun _ _ _ _ hF hk => ?_
  exact thm (P:=Tryz.prog) (fn:=Tryz.f291) (q:=p1) hF hk (by simp [aO,<-hx0,<-hx1,Rs.bind,hm1])
 have O1:=eV;have O2:=S1;refine drg hB a6 [13,0,4] [0,4] [(3,.r fun _ => .agg [.int .i64 2,.sl none none 0 0 2 (fun _ => []),.int .i64 (-1),.int .u64 0,.int .u64 0]),(4,rc J (.bool (.v d1)) p1)] hF fun X1 a0 w1 hF => ?_
 apply a7 hF rfl<;>intro hb hF
 .have t1:d1=false:=by subst hB; revert hb; cases d1<;>simp [std]
  exact wp_ret ((rmm hB a6 hF (v:=()) (q:=p1) ((X1 4).A 0) ((X1 4).c 0) (by simp [aO,<-hx0,<-hx1,Rs.bind,hm1,t1])).1)
 have t1:d1=true:=by subst hB; revert hb; cases d1<;>simp [std]
 have O1:=SC;refine wp_skip (wp_seq (rg hB a6 [16,0,15] [0] [(1,.r fun _ => .agg [.int .i64 x0.len,.int .u64 x0.bits,.int .i64 x1.len,.int .u64 x1.bits])] hF fun X2 a0 w1 hF => ?_));refine wp_block (wp_loop_rounds 3 (C3 (wp_seq (rg hB a6 [17,0,15,16] [0] [] hF fun X3 a0 w1 hF => ?_))));replace hF:=hF.headS (v':=.bool .tt) (Sim.bool (by subst hB; rfl)) rfl;refine wp_seq (j0 hF rfl (fun hF => ?_));refine wp_skip (wp_seq (wp_block (wp_seq (rg hB a6 [0,7,15,16] [0,7] [] hF fun X4 a0 w1 hF => ?_))))
 rcases (hth 0 b J hJ ((X1 4).A 0) ((X1 4).c 0) p1 hp1 hn1 x0 hk0 (by have:=Nat.lt_of_le_of_lt hs1.le hf; omega)).two (F5 _ _ _ _ _) hp1 hn1 with ⟨w50,p50,hm50,O1⟩ | ⟨_u50,p50,hm50,hs50,hp50,hn50,S50⟩
 .refine stp 2 hB a6 [19,20] [0] [] hF O1 fun _ _ _ _ hF hk => ?_
  exact thm (P:=Tryz.prog) (fn:=Tryz.f291) (q:=p50) hF hk (by simp [aO,<-hx0,<-hx1,Rs.bind,hm1,t1,hm50])
 have O1:=S50;refine rg hB a6 [0,15,16] [0] [(2,rc J (i7) p50)] hF fun X5 a0 w1 hF => ?_
 refine rg hB a6 [16,0,15] [0] [] hF fun X6 a0 w1 hF => ?_
 replace hF:=hF.headS (v':=.int .i64 1) (by subst hB; exact zr) rfl;refine i4 (wp_seq (rg hB a6 [17,0,15,16] [0] [] hF fun X3 a0 w1 hF => ?_));replace hF:=hF.headS (v':=.bool .tt) (Sim.bool (by subst hB; rfl)) rfl;refine wp_seq (j0 hF rfl (fun hF => ?_));refine wp_skip (wp_seq (wp_block (wp_seq (rg hB a6 [0,7,15,16] [0,7] [] hF fun X4 a0 w1 hF => ?_))))
 rcases (hth 0 b J hJ ((X5 2).A 0) ((X5 2).c 0) p50 hp50 hn50 x1 hk1 (by have:=Nat.lt_of_le_of_lt (Suf.trans hs1 hs50).le hf; omega)).two (F5 _ _ _ _ _) hp50 hn50 with ⟨w51,p51,hm51,O1⟩ | ⟨_u51,p51,hm51,hs51,hp51,hn51,S51⟩
 .refine stp 2 hB a6 [19,20] [0] [] hF O1 fun _ _ _ _ hF hk => ?_
  exact thm (P:=Tryz.prog) (fn:=Tryz.f291) (q:=p51) hF hk (by simp [aO,<-hx0,<-hx1,Rs.bind,hm1,t1,hm50,hm51])
 have O1:=S51;refine rg hB a6 [0,15,16] [0] [(2,rc J (i7) p51)] hF fun X5 a0 w1 hF => ?_
 refine rg hB a6 [16,0,15] [0] [] hF fun X6 a0 w1 hF => ?_
 replace hF:=hF.headS (v':=.int .i64 2) (by subst hB; exact zr) rfl;refine i4 (wp_seq (rg hB a6 [17,0,15,16] [0] [] hF fun X3 a0 w1 hF => ?_));replace hF:=hF.headS (v':=.bool .ff) (Sim.bool (by subst hB; rfl)) rfl;refine wp_seq (i9 hF rfl (fun hF => ?_));exact wp_exit ((rmm hB a6 hF (v:=()) (q:=p51) ((X5 2).A 0) ((X5 2).c 0) (by simp [aO,<-hx0,<-hx1,Rs.bind,hm1,t1,hm50,hm51])).2)
theorem yd (k0 b:Nat) (J:i6) (hJ:k8 J) (A:Option Addr) (c:Nat) (p:Pst) (hp:i5 p) (hn:p.n<=1000000) (l:Lab) (hl:LOk l) (v:Int) (n:Nat) (hth:ThC n) (hf:p.n < n):B7 291 k0 b J A c p [b6 l,.int .u64 v] (fun _ => i7) (aO J.budget (G4 J.bucket J.budget n) l v p):=B7.re (Eb b J hJ A c p hp hn l hl v n hth hf) (by repeat (first | exact trivial | refine ⟨zr,?_⟩))
theorem AK (b:Nat) (J:i6) (hJ:k8 J) (A:Option Addr) (c:Nat) (p:Pst) (hp:i5 p) (hn:p.n<=1000000) (l:Lab) (hl:LOk l) (n:Nat) (ih:ClC n) (hf:p.n < n + 1):B7 235 0 b J A c p [b6 l] (fun _ => i7) (C7 J.budget (n + 1) l p):=by
 intro m w hm hargs hpre;have SC:=tg l hl.u;have hk0:=hl.ch 0;have hk1:=hl.ch 1;simp only [b6] at SC;obtain ⟨x0,hx0⟩:=eqv (chV l 0);rw [<-hx0] at SC hk0;obtain ⟨x1,hx1⟩:=eqv (chV l 1);rw [<-hx1] at SC hk1;refine enX 37 hm hpre hargs Tryz.func235 fun B hB a0 hF => ?_
 refine wp_seq (rg hB a6 [0,3] [0,3] [] hF fun X0 a0 w1 hF => ?_);refine wp_seq (wp_seq (rg hB a6 [9,0,3] [0,3] [] hF fun X1 a0 w1 hF => ?_));apply a7 hF rfl<;>intro hb hF
 .have t0:l.len=64:=by subst hB; simpa [std,a8] using hb
  exact wp_ret ((rmm hB a6 hF (v:=()) (q:=p) A c (by simp [C7,G7,<-hx0,<-hx1,Rs.bind,t0])).1)
 have t0:¬ l.len=64:=by subst hB; simpa [std,a8] using hb
 have O1:=SC;refine wp_skip (wp_seq (rg hB a6 [12,0,3,11] [0,3] [(1,.r fun _ => .agg [.int .i64 x0.len,.int .u64 x0.bits,.int .i64 x1.len,.int .u64 x1.bits])] hF fun X2 a0 w1 hF => ?_));refine wp_block (wp_loop_rounds 3 (C3 (wp_seq (rg hB a6 [13,0,3,11,12] [0,3] [] hF fun X3 a0 w1 hF => ?_))));replace hF:=hF.headS (v':=.bool .tt) (Sim.bool (by subst hB; rfl)) rfl;refine wp_seq (j0 hF rfl (fun hF => ?_));refine wp_skip (wp_seq (wp_block (wp_seq (rg hB a6 [0,3,5,11,12] [0,3,5] [] hF fun X4 a0 w1 hF => ?_))));apply wp_seq
 rcases (aL 0 b J hJ A c p hp hn x0).two (j1 _ _ _) hp hn with ⟨w50,p50,hm50,O1⟩ | ⟨g0,p50,hm50,hs50,hp50,hn50,S50⟩
 .refine stp 2 hB a6 [15,16] [0] [] hF O1 fun _ _ _ _ hF hk => ?_
  exact thm (P:=Tryz.prog) (fn:=Tryz.f235) (q:=p50) hF hk (by simp [C7,G7,<-hx0,<-hx1,Rs.bind,t0,hm50])
 have hl50:=B0 hm50;have hg50:=hp.get hm50;have O1:=S50;refine rg hB a6 [0,3,5,6,11,12] [0,3,5,6] [(2,rc J (s5 g0) p50)] hF fun X5 a0 w1 hF => ?_
 obtain ⟨q0,hq0⟩:=eqv (gk g0 5);refine wp_seq (wp_seq ?_);refine rg hB a6 [21,0,3,5,6,11,12] [0,3,5,6] [(2,.r fun _ => .bool (.v q0))] hF (hob:=by intro X; subst hB; simp only [b5,Ob.holds,BE.den]<;>and_intros<;>repeat first | trivial | rfl | exact (by rw [hq0]; exact N8 g0 _ _ 5 _ rfl) | exact by rw [hq0]; exact N8 g0 _ _ 5 _ rfl | exact (fun _ _ => by kernel_rfl) | refine ⟨?_,?_⟩ | intro h | exact Int.le_refl _ | decide | omega) fun X6 a0 w1 hF => ?_
 apply a7 hF rfl<;>intro hb hF
 .have tq0:gk g0 5=false:=by subst hB; rw [<-hq0]; revert hb; cases q0<;>simp [std]
  refine wp_exit (rg hB a6 [12,0,3,11] [0,3] [] hF fun X10 a0 w1 hF => ?_);replace hF:=hF.headS (v':=.int .i64 1) (by subst hB; exact zr) rfl;refine i4 (wp_seq (rg hB a6 [13,0,3,11,12] [0,3] [] hF fun X3 a0 w1 hF => ?_));replace hF:=hF.headS (v':=.bool .tt) (Sim.bool (by subst hB; rfl)) rfl;refine wp_seq (j0 hF rfl (fun hF => ?_));refine wp_skip (wp_seq (wp_block (wp_seq (rg hB a6 [0,3,5,11,12] [0,3,5] [] hF fun X4 a0 w1 hF => ?_))));apply wp_seq
  rcases (aL 0 b J hJ ((X5 2).A 0) ((X5 2).c 0) p50 hp50 hn50 x1).two (j1 _ _ _) hp50 hn50 with ⟨w51,p51,hm51,O1⟩ | ⟨g1,p51,hm51,hs51,hp51,hn51,S51⟩
  .refine stp 2 hB a6 [15,16] [0] [] hF O1 fun _ _ _ _ hF hk => ?_
   exact thm (P:=Tryz.prog) (fn:=Tryz.f235) (q:=p51) hF hk (by simp [C7,G7,<-hx0,<-hx1,Rs.bind,t0,hm50,tq0,hm51])
  have hl51:=B0 hm51;have hg51:=hp50.get hm51;have O1:=S51;refine rg hB a6 [0,3,5,6,11,12] [0,3,5,6] [(2,rc J (s5 g1) p51)] hF fun X5 a0 w1 hF => ?_
  obtain ⟨q1,hq1⟩:=eqv (gk g1 5);refine wp_seq (wp_seq ?_);refine rg hB a6 [21,0,3,5,6,11,12] [0,3,5,6] [(2,.r fun _ => .bool (.v q1))] hF (hob:=by intro X; subst hB; simp only [b5,Ob.holds,BE.den]<;>and_intros<;>repeat first | trivial | rfl | exact (by rw [hq1]; exact N8 g1 _ _ 5 _ rfl) | exact by rw [hq1]; exact N8 g1 _ _ 5 _ rfl | exact (fun _ _ => by kernel_rfl) | refine ⟨?_,?_⟩ | intro h | exact Int.le_refl _ | decide | omega) fun X6 a0 w1 hF => ?_
  apply a7 hF rfl<;>intro hb hF
  .have tq1:gk g1 5=false:=by subst hB; rw [<-hq1]; revert hb; cases q1<;>simp [std]
   refine wp_exit (rg hB a6 [12,0,3,11] [0,3] [] hF fun X10 a0 w1 hF => ?_);replace hF:=hF.headS (v':=.int .i64 2) (by subst hB; exact zr) rfl;refine i4 (wp_seq (rg hB a6 [13,0,3,11,12] [0,3] [] hF fun X3 a0 w1 hF => ?_));replace hF:=hF.headS (v':=.bool .ff) (Sim.bool (by subst hB; rfl)) rfl;refine wp_seq (i9 hF rfl (fun hF => ?_));exact wp_exit ((rmm hB a6 hF (v:=()) (q:=p51) ((X5 2).A 0) ((X5 2).c 0) (by simp [C7,G7,<-hx0,<-hx1,Rs.bind,t0,hm50,tq0,hm51,tq1])).2)
  have tq1:gk g1 5=true:=by subst hB; rw [<-hq1]; revert hb; cases q1<;>simp [std]
  refine wp_skip (wp_seq ?_)
  rcases (ih 0 b J hJ ((X5 2).A 0) ((X5 2).c 0) p51 hp51 hn51 x1 hk1 (by have:=hs51.le; have:=hl51; have:=(Suf.trans (Suf.refl p) hs50).le; omega)).two (J2 _ _ _ _) hp51 hn51 with ⟨w71,p71,hm71,O1⟩ | ⟨v71,p71,hm71,hs71,hp71,hn71,S71⟩
  .refine stp 2 hB a6 [22,23] [0] [] hF O1 fun _ _ _ _ hF hk => ?_
   exact thm (P:=Tryz.prog) (fn:=Tryz.f235) (q:=p71) hF hk (by simp [C7,G7,<-hx0,<-hx1,Rs.bind,t0,hm50,tq0,hm51,tq1,hm71])
  have O1:=S71;refine rg hB a6 [0,3,5,6,11,12] [0,3,5,6] [(2,rc J (i7) p71)] hF fun X7 a0 w1 hF => ?_
  refine wp_seq (wp_seq ?_)
  rcases (aL 0 b J hJ ((X7 2).A 0) ((X7 2).c 0) p71 hp71 hn71 l).two (j1 _ _ _) hp71 hn71 with ⟨w81,p81,hm81,O1⟩ | ⟨h1,p81,hm81,hs81,hp81,hn81,S81⟩
  .refine stp 2 hB a6 [25,26] [0] [] hF O1 fun _ _ _ _ hF hk => ?_
   exact thm (P:=Tryz.prog) (fn:=Tryz.f235) (q:=p81) hF hk (by simp [C7,G7,<-hx0,<-hx1,Rs.bind,t0,hm50,tq0,hm51,tq1,hm71,hm81])
  have hl81:=B0 hm81;have hg81:=hp71.get hm81;obtain ⟨r1,hr1⟩:=eqv ((gk h1 1 || gk h1 5));refine rg hB a6 [30,0,3,5,6,11,12] [0,3,5,6] [(4,.r fun _ => .bool (.v r1)),(2,rc J (s5 h1) p81)] hF (hob:=by intro X; subst hB; simp only [b5,Ob.holds,BE.den]<;>and_intros<;>repeat first | trivial | rfl | exact S81 | exact (by rw [hr1]; exact dH h1 _ _ 1 5 _ rfl rfl) | exact by rw [hr1]; exact dH h1 _ _ 1 5 _ rfl rfl | exact (fun _ _ => by kernel_rfl) | refine ⟨?_,?_⟩ | intro h | exact Int.le_refl _ | decide | omega) fun X8 a0 w1 hF => ?_
  apply a7 hF rfl<;>intro hb hF
  .have tr1:(gk h1 1 || gk h1 5)=false:=by subst hB; rw [<-hr1]; revert hb; cases r1<;>simp [std]
   exact wp_ret ((rmm hB a6 hF (v:=()) (q:=p81) ((X8 2).A 0) ((X8 2).c 0) (by simp [C7,G7,<-hx0,<-hx1,Rs.bind,t0,hm50,tq0,hm51,tq1,hm71,hm81,tr1])).1)
  have tr1:(gk h1 1 || gk h1 5)=true:=by subst hB; rw [<-hr1]; revert hb; cases r1<;>simp [std]
  refine wp_skip ?_
  rcases (xE 0 b J hJ ((X8 2).A 0) ((X8 2).c 0) p81 hp81 hn81 x1 g1.ver).two (cM _ _ _ _) hp81 hn81 with ⟨w91,p91,hm91,O1⟩ | ⟨d1,p91,hm91,hs91,hp91,hn91,S91⟩
  .refine stp 4 hB a6 [31,32,34] [0] [] hF O1 fun _ _ _ _ hF hk => ?_
   exact thm (P:=Tryz.prog) (fn:=Tryz.f235) (q:=p91) hF hk (by simp [C7,G7,<-hx0,<-hx1,Rs.bind,t0,hm50,tq0,hm51,tq1,hm71,hm81,tr1,hm91])
  have O1:=S91;refine rg hB a6 [0,3,11,12] [0,3] [(4,rc J (.bool (.v d1)) p91)] hF fun X9 a0 w1 hF => ?_
  refine rg hB a6 [12,0,3,11] [0,3] [] hF fun X10 a0 w1 hF => ?_
  replace hF:=hF.headS (v':=.int .i64 2) (by subst hB; exact zr) rfl;refine i4 (wp_seq (rg hB a6 [13,0,3,11,12] [0,3] [] hF fun X3 a0 w1 hF => ?_));replace hF:=hF.headS (v':=.bool .ff) (Sim.bool (by subst hB; rfl)) rfl;refine wp_seq (i9 hF rfl (fun hF => ?_));exact wp_exit ((rmm hB a6 hF (v:=()) (q:=p91) ((X9 4).A 0) ((X9 4).c 0) (by simp [C7,G7,<-hx0,<-hx1,Rs.bind,t0,hm50,tq0,hm51,tq1,hm71,hm81,tr1,hm91])).2)
 have tq0:gk g0 5=true:=by subst hB; rw [<-hq0]; revert hb; cases q0<;>simp [std]
 refine wp_skip (wp_seq ?_)
 rcases (ih 0 b J hJ ((X5 2).A 0) ((X5 2).c 0) p50 hp50 hn50 x0 hk0 (by have:=hs50.le; have:=hl50; have:=(Suf.refl p).le; omega)).two (J2 _ _ _ _) hp50 hn50 with ⟨w70,p70,hm70,O1⟩ | ⟨v70,p70,hm70,hs70,hp70,hn70,S70⟩
 .refine stp 2 hB a6 [22,23] [0] [] hF O1 fun _ _ _ _ hF hk => ?_
  exact thm (P:=Tryz.prog) (fn:=Tryz.f235) (q:=p70) hF hk (by simp [C7,G7,<-hx0,<-hx1,Rs.bind,t0,hm50,tq0,hm70])
 have O1:=S70;refine rg hB a6 [0,3,5,6,11,12] [0,3,5,6] [(2,rc J (i7) p70)] hF fun X7 a0 w1 hF => ?_
 refine wp_seq (wp_seq ?_)
 rcases (aL 0 b J hJ ((X7 2).A 0) ((X7 2).c 0) p70 hp70 hn70 l).two (j1 _ _ _) hp70 hn70 with ⟨w80,p80,hm80,O1⟩ | ⟨h0,p80,hm80,hs80,hp80,hn80,S80⟩
 .refine stp 2 hB a6 [25,26] [0] [] hF O1 fun _ _ _ _ hF hk => ?_
  exact thm (P:=Tryz.prog) (fn:=Tryz.f235) (q:=p80) hF hk (by simp [C7,G7,<-hx0,<-hx1,Rs.bind,t0,hm50,tq0,hm70,hm80])
 have hl80:=B0 hm80;have hg80:=hp70.get hm80;obtain ⟨r0,hr0⟩:=eqv ((gk h0 1 || gk h0 5));refine rg hB a6 [30,0,3,5,6,11,12] [0,3,5,6] [(4,.r fun _ => .bool (.v r0)),(2,rc J (s5 h0) p80)] hF (hob:=by intro X; subst hB; simp only [b5,Ob.holds,BE.den]<;>and_intros<;>repeat first | trivial | rfl | exact S80 | exact (by rw [hr0]; exact dH h0 _ _ 1 5 _ rfl rfl) | exact by rw [hr0]; exact dH h0 _ _ 1 5 _ rfl rfl | exact (fun _ _ => by kernel_rfl) | refine ⟨?_,?_⟩ | intro h | exact Int.le_refl _ | decide | omega) fun X8 a0 w1 hF => ?_
 apply a7 hF rfl<;>intro hb hF
 .have tr0:(gk h0 1 || gk h0 5)=false:=by subst hB; rw [<-hr0]; revert hb; cases r0<;>simp [std]
  exact wp_ret ((rmm hB a6 hF (v:=()) (q:=p80) ((X8 2).A 0) ((X8 2).c 0) (by simp [C7,G7,<-hx0,<-hx1,Rs.bind,t0,hm50,tq0,hm70,hm80,tr0])).1)
 have tr0:(gk h0 1 || gk h0 5)=true:=by subst hB; rw [<-hr0]; revert hb; cases r0<;>simp [std]
 refine wp_skip ?_
 rcases (xE 0 b J hJ ((X8 2).A 0) ((X8 2).c 0) p80 hp80 hn80 x0 g0.ver).two (cM _ _ _ _) hp80 hn80 with ⟨w90,p90,hm90,O1⟩ | ⟨d0,p90,hm90,hs90,hp90,hn90,S90⟩
 .refine stp 4 hB a6 [31,32,34] [0] [] hF O1 fun _ _ _ _ hF hk => ?_
  exact thm (P:=Tryz.prog) (fn:=Tryz.f235) (q:=p90) hF hk (by simp [C7,G7,<-hx0,<-hx1,Rs.bind,t0,hm50,tq0,hm70,hm80,tr0,hm90])
 have O1:=S90;refine rg hB a6 [0,3,11,12] [0,3] [(4,rc J (.bool (.v d0)) p90)] hF fun X9 a0 w1 hF => ?_
 refine rg hB a6 [12,0,3,11] [0,3] [] hF fun X10 a0 w1 hF => ?_
 replace hF:=hF.headS (v':=.int .i64 1) (by subst hB; exact zr) rfl;refine i4 (wp_seq (rg hB a6 [13,0,3,11,12] [0,3] [] hF fun X3 a0 w1 hF => ?_));replace hF:=hF.headS (v':=.bool .tt) (Sim.bool (by subst hB; rfl)) rfl;refine wp_seq (j0 hF rfl (fun hF => ?_));refine wp_skip (wp_seq (wp_block (wp_seq (rg hB a6 [0,3,5,11,12] [0,3,5] [] hF fun X4 a0 w1 hF => ?_))));apply wp_seq
 rcases (aL 0 b J hJ ((X9 4).A 0) ((X9 4).c 0) p90 hp90 hn90 x1).two (j1 _ _ _) hp90 hn90 with ⟨w51,p51,hm51,O1⟩ | ⟨g1,p51,hm51,hs51,hp51,hn51,S51⟩
 .refine stp 2 hB a6 [15,16] [0] [] hF O1 fun _ _ _ _ hF hk => ?_
  exact thm (P:=Tryz.prog) (fn:=Tryz.f235) (q:=p51) hF hk (by simp [C7,G7,<-hx0,<-hx1,Rs.bind,t0,hm50,tq0,hm70,hm80,tr0,hm90,hm51])
 have hl51:=B0 hm51;have hg51:=hp90.get hm51;have O1:=S51;refine rg hB a6 [0,3,5,6,11,12] [0,3,5,6] [(2,rc J (s5 g1) p51)] hF fun X5 a0 w1 hF => ?_
 obtain ⟨q1,hq1⟩:=eqv (gk g1 5);refine wp_seq (wp_seq ?_);refine rg hB a6 [21,0,3,5,6,11,12] [0,3,5,6] [(2,.r fun _ => .bool (.v q1))] hF (hob:=by intro X; subst hB; simp only [b5,Ob.holds,BE.den]<;>and_intros<;>repeat first | trivial | rfl | exact (by rw [hq1]; exact N8 g1 _ _ 5 _ rfl) | exact by rw [hq1]; exact N8 g1 _ _ 5 _ rfl | exact (fun _ _ => by kernel_rfl) | refine ⟨?_,?_⟩ | intro h | exact Int.le_refl _ | decide | omega) fun X6 a0 w1 hF => ?_
 apply a7 hF rfl<;>intro hb hF
 .have tq1:gk g1 5=false:=by subst hB; rw [<-hq1]; revert hb; cases q1<;>simp [std]
  refine wp_exit (rg hB a6 [12,0,3,11] [0,3] [] hF fun X10 a0 w1 hF => ?_);replace hF:=hF.headS (v':=.int .i64 2) (by subst hB; exact zr) rfl;refine i4 (wp_seq (rg hB a6 [13,0,3,11,12] [0,3] [] hF fun X3 a0 w1 hF => ?_));replace hF:=hF.headS (v':=.bool .ff) (Sim.bool (by subst hB; rfl)) rfl;refine wp_seq (i9 hF rfl (fun hF => ?_));exact wp_exit ((rmm hB a6 hF (v:=()) (q:=p51) ((X5 2).A 0) ((X5 2).c 0) (by simp [C7,G7,<-hx0,<-hx1,Rs.bind,t0,hm50,tq0,hm70,hm80,tr0,hm90,hm51,tq1])).2)
 have tq1:gk g1 5=true:=by subst hB; rw [<-hq1]; revert hb; cases q1<;>simp [std]
 refine wp_skip (wp_seq ?_)
 rcases (ih 0 b J hJ ((X5 2).A 0) ((X5 2).c 0) p51 hp51 hn51 x1 hk1 (by have:=hs51.le; have:=hl51; have:=(Suf.trans (Suf.trans (Suf.trans (Suf.trans (Suf.refl p) hs50) hs70) hs80) hs90).le; omega)).two (J2 _ _ _ _) hp51 hn51 with ⟨w71,p71,hm71,O1⟩ | ⟨v71,p71,hm71,hs71,hp71,hn71,S71⟩
 .refine stp 2 hB a6 [22,23] [0] [] hF O1 fun _ _ _ _ hF hk => ?_
  exact thm (P:=Tryz.prog) (fn:=Tryz.f235) (q:=p71) hF hk (by simp [C7,G7,<-hx0,<-hx1,Rs.bind,t0,hm50,tq0,hm70,hm80,tr0,hm90,hm51,tq1,hm71])
 have O1:=S71;refine rg hB a6 [0,3,5,6,11,12] [0,3,5,6] [(2,rc J (i7) p71)] hF fun X7 a0 w1 hF => ?_
 refine wp_seq (wp_seq ?_)
 rcases (aL 0 b J hJ ((X7 2).A 0) ((X7 2).c 0) p71 hp71 hn71 l).two (j1 _ _ _) hp71 hn71 with ⟨w81,p81,hm81,O1⟩ | ⟨h1,p81,hm81,hs81,hp81,hn81,S81⟩
 .refine stp 2 hB a6 [25,26] [0] [] hF O1 fun _ _ _ _ hF hk => ?_
  exact thm (P:=Tryz.prog) (fn:=Tryz.f235) (q:=p81) hF hk (by simp [C7,G7,<-hx0,<-hx1,Rs.bind,t0,hm50,tq0,hm70,hm80,tr0,hm90,hm51,tq1,hm71,hm81])
 have hl81:=B0 hm81;have hg81:=hp71.get hm81;obtain ⟨r1,hr1⟩:=eqv ((gk h1 1 || gk h1 5));refine rg hB a6 [30,0,3,5,6,11,12] [0,3,5,6] [(4,.r fun _ => .bool (.v r1)),(2,rc J (s5 h1) p81)] hF (hob:=by intro X; subst hB; simp only [b5,Ob.holds,BE.den]<;>and_intros<;>repeat first | trivial | rfl | exact S81 | exact (by rw [hr1]; exact dH h1 _ _ 1 5 _ rfl rfl) | exact by rw [hr1]; exact dH h1 _ _ 1 5 _ rfl rfl | exact (fun _ _ => by kernel_rfl) | refine ⟨?_,?_⟩ | intro h | exact Int.le_refl _ | decide | omega) fun X8 a0 w1 hF => ?_
 apply a7 hF rfl<;>intro hb hF
 .have tr1:(gk h1 1 || gk h1 5)=false:=by subst hB; rw [<-hr1]; revert hb; cases r1<;>simp [std]
  exact wp_ret ((rmm hB a6 hF (v:=()) (q:=p81) ((X8 2).A 0) ((X8 2).c 0) (by simp [C7,G7,<-hx0,<-hx1,Rs.bind,t0,hm50,tq0,hm70,hm80,tr0,hm90,hm51,tq1,hm71,hm81,tr1])).1)
 have tr1:(gk h1 1 || gk h1 5)=true:=by subst hB; rw [<-hr1]; revert hb; cases r1<;>simp [std]
 refine wp_skip ?_
 rcases (xE 0 b J hJ ((X8 2).A 0) ((X8 2).c 0) p81 hp81 hn81 x1 g1.ver).two (cM _ _ _ _) hp81 hn81 with ⟨w91,p91,hm91,O1⟩ | ⟨d1,p91,hm91,hs91,hp91,hn91,S91⟩
 .refine stp 4 hB a6 [31,32,34] [0] [] hF O1 fun _ _ _ _ hF hk => ?_
  exact thm (P:=Tryz.prog) (fn:=Tryz.f235) (q:=p91) hF hk (by simp [C7,G7,<-hx0,<-hx1,Rs.bind,t0,hm50,tq0,hm70,hm80,tr0,hm90,hm51,tq1,hm71,hm81,tr1,hm91])
 have O1:=S91;refine rg hB a6 [0,3,11,12] [0,3] [(4,rc J (.bool (.v d1)) p91)] hF fun X9 a0 w1 hF => ?_
 refine rg hB a6 [12,0,3,11] [0,3] [] hF fun X10 a0 w1 hF => ?_
 replace hF:=hF.headS (v':=.int .i64 2) (by subst hB; exact zr) rfl;refine i4 (wp_seq (rg hB a6 [13,0,3,11,12] [0,3] [] hF fun X3 a0 w1 hF => ?_));replace hF:=hF.headS (v':=.bool .ff) (Sim.bool (by subst hB; rfl)) rfl;refine wp_seq (i9 hF rfl (fun hF => ?_));exact wp_exit ((rmm hB a6 hF (v:=()) (q:=p91) ((X9 4).A 0) ((X9 4).c 0) (by simp [C7,G7,<-hx0,<-hx1,Rs.bind,t0,hm50,tq0,hm70,hm80,tr0,hm90,hm51,tq1,hm71,hm81,tr1,hm91])).2)
theorem DT (k0 b:Nat) (J:i6) (hJ:k8 J) (A:Option Addr) (c:Nat) (p:Pst) (hp:i5 p) (hn:p.n<=1000000) (l:Lab) (hl:LOk l) (n:Nat) (ih:ClC n) (hf:p.n < n + 1):B7 235 k0 b J A c p [b6 l] (fun _ => i7) (C7 J.budget (n + 1) l p):=B7.re (AK b J hJ A c p hp hn l hl n ih hf) (by repeat (first | exact trivial | refine ⟨zr,?_⟩))
theorem xV:∀ n,ClC n
 | 0 => fun _ _ _ _ _ _ _ _ _ _ _ h => absurd h (Nat.not_lt_zero _)
 | n + 1 => fun k0 b J hJ A c p hp hn l hl hf => DT k0 b J hJ A c p hp hn l hl n (xV n) hf
theorem Cj (b:Nat) (J:i6) (hJ:k8 J) (A:Option Addr) (c:Nat) (p:Pst) (hp:i5 p) (hn:p.n<=1000000) (l:Lab) (hl:LOk l) (v:Int) (x:RA) (hx:U8 x) (n:Nat) (hf:p.n < n):B7 254 0 b J A c p [b6 l,.int .u64 v,u9 x] (fun _ => i7) (l7 J.budget n l v x p):=by
 intro m w hm hargs hpre;have SC:=tg l hl.u;have hk0:=hl.ch 0;have hk1:=hl.ch 1;simp only [b6] at SC;obtain ⟨x0,hx0⟩:=eqv (chV l 0);rw [<-hx0] at SC hk0;obtain ⟨x1,hx1⟩:=eqv (chV l 1);rw [<-hx1] at SC hk1;have SH:=Df x hx l hl.u;obtain ⟨e,he⟩:=eqv ((P0 x l).2.2);rw [<-he] at SH;obtain ⟨r0,hr0⟩:=eqv ((P0 x l).1.rn);rw [<-hr0] at SH;obtain ⟨r1,hr1⟩:=eqv ((P0 x l).2.1.rn);rw [<-hr1] at SH;have ha0:r0.abs=(P0 x l).1:=by rw [hr0]; exact V1 _
 have ha1:r1.abs=(P0 x l).2.1:=by rw [hr1]; exact V1 _
 simp only [b6] at SH;refine enX 63 hm hpre hargs Tryz.func254 fun B hB a0 hF => ?_
 refine wp_seq (rg hB a6 [0,2,5,7] [0,5,7] [] hF fun X0 a0 w1 hF => ?_);have O1:=SH;refine wp_seq (rg hB a6 [0,2,5,8,9,10] [0,5,8,9] [(2,.r fun y => .tup [.agg [.int .i64 r0.kd,.sl none (y.A 0) r0.n (y.c 0) 2 (fun i => itC (r0.f i)),.int .i64 r0.nx.len,.int .u64 r0.nx.bits,.int .u64 r0.mrk],.agg [.int .i64 r1.kd,.sl none (y.A 1) r1.n (y.c 1) 2 (fun i => itC (r1.f i)),.int .i64 r1.nx.len,.int .u64 r1.nx.bits,.int .u64 r1.mrk],.int .i64 e])] hF fun X1 a0 w1 hF => ?_);refine wp_seq (wp_seq (rg hB a6 [23,0,2,5,8,9] [0,5,8,9] [] hF fun X2 a0 w1 hF => ?_));apply a7 hF rfl<;>intro hb hF
 .have t0:¬ e=0:=by subst hB; simpa [std,a8] using hb
  exact wp_ret ((rmm hB a6 hF (v:=()) (q:=p) A c (by simp [l7,s8,<-hx0,<-hx1,<-ha0,<-ha1,<-he,Rs.bind,t0])).1)
 have t0:e=0:=by subst hB; simpa [std,a8] using hb
 refine wp_skip (wp_seq (rg hB a6 [0,2,5,11] [0,5,11] [] hF fun X3 a0 w1 hF => ?_));have O1:=SC;refine wp_seq (wp_seq (rg hB a6 [29,0,2,5,11,28] [0,5,11] [(1,.r fun _ => .agg [.int .i64 x0.len,.int .u64 x0.bits,.int .i64 x1.len,.int .u64 x1.bits])] hF fun X4 a0 w1 hF => ?_));refine wp_block (wp_loop_rounds 3 (C3 (wp_seq (rg hB a6 [30,0,2,5,11,28,29] [0,5,11] [] hF fun X5 a0 w1 hF => ?_))));replace hF:=hF.headS (v':=.bool .tt) (Sim.bool (by subst hB; rfl)) rfl;refine wp_seq (j0 hF rfl (fun hF => ?_));refine wp_skip (wp_seq (wp_block (wp_seq (rg hB a6 [0,2,5,11,12,13,28,29] [0,5,11,13] [] hF fun X6 a0 w1 hF => ?_))));refine wp_block (l0 (ι:=Nat × Pst × Option Addr × Nat) (fun q => []) (fun q => [(0,⟨b,166,C0 J q.2.2.1 q.2.2.2 q.2.1⟩)]) (fun q => []) (fun q => s8 J.budget l v x0 r0.abs n p=s8 J.budget l v x0 r0.abs q.1 q.2.1/\i5 q.2.1/\q.2.1.n<=1000000/\q.2.1.n < q.1/\q.2.1.n<=p.n) (fun q => q.1) (n,p,A,c) ⟨rfl,hp,hn,(by dsimp only; skip; omega),(by dsimp only; skip; omega)⟩ hF ?_)
 rintro ⟨nn0,p0,A0,c0⟩ ⟨hrun0,hp0,hn0,hf0,hle0⟩ a0 w1 hF
 try dsimp only at hrun0
 try dsimp only at hp0
 try dsimp only at hn0
 try dsimp only at hf0
 try dsimp only at hle0
 obtain ⟨m0,rfl⟩:∃ n2,nn0=n2 + 1:=⟨nn0 - 1,by omega⟩
 refine wp_block (wp_seq ?_)
 rcases (aL 0 b J hJ A0 c0 p0 hp0 hn0 x0).two (j1 _ _ _) hp0 hn0 with ⟨w70,p70,hm70,O1⟩ | ⟨g0,p70,hm70,hs70,hp70,hn70,S70⟩
 .refine stp 2 hB a6 [33,34] [0] [] hF O1 fun _ _ _ _ hF hk => ?_
  exact thm (P:=Tryz.prog) (fn:=Tryz.f254) (q:=p70) hF hk (by simp [l7,s8,<-hx0,<-hx1,<-ha0,<-ha1,<-he,Rs.bind,t0,hrun0,hm70])
 have hl70:=B0 hm70;have hg70:=hp0.get hm70;have O1:=S70;refine rg hB a6 [0,2,5,11,12,13,14,28,29] [0,5,11,13,14] [(2,rc J (s5 g0) p70)] hF fun X7 a0 w1 hF => ?_
 refine wp_seq (wp_seq (rg hB a6 [43,0,2,5,11,12,13,14,28,29] [0,5,11,13,14] [] hF fun X8 a0 w1 hF => ?_));apply a7 hF rfl<;>intro hb hF
 .have tq0:(g0.has && !decide (g0.x.r.kd=5))=true:=by
   have h9:(if g0.has=true then !decide (g0.x.r.kd=5) else false)=true:=by
    have h8:(if g0.has=true then (g0.x.r.kd != 5) else false)=true:=by subst hB; exact hb
    exact h8
   rw [<-h9]; cases g0.has<;>rfl
  refine wp_exit (rg hB a6 [29,0,2,5,11,28] [0,5,11] [] hF fun X11 a0 w1 hF => ?_);replace hF:=hF.headS (v':=.int .i64 1) (by subst hB; exact zr) rfl;refine i4 (wp_seq (rg hB a6 [30,0,2,5,11,28,29] [0,5,11] [] hF fun X5 a0 w1 hF => ?_));replace hF:=hF.headS (v':=.bool .tt) (Sim.bool (by subst hB; rfl)) rfl;refine wp_seq (j0 hF rfl (fun hF => ?_));refine wp_skip (wp_seq (wp_block (wp_seq (rg hB a6 [0,2,5,11,12,13,28,29] [0,5,11,13] [] hF fun X6 a0 w1 hF => ?_))));refine wp_block (l0 (ι:=Nat × Pst × Option Addr × Nat) (fun q => []) (fun q => [(0,⟨b,166,C0 J q.2.2.1 q.2.2.2 q.2.1⟩)]) (fun q => []) (fun q => s8 J.budget l v x1 r1.abs n p70=s8 J.budget l v x1 r1.abs q.1 q.2.1/\i5 q.2.1/\q.2.1.n<=1000000/\q.2.1.n < q.1/\q.2.1.n<=p.n) (fun q => q.1) (n,p70,((X7 2).A 0),((X7 2).c 0)) ⟨rfl,hp70,hn70,(by dsimp only; have:=hle0; have:=hs70.le; omega),(by dsimp only; have:=hle0; have:=hs70.le; omega)⟩ hF ?_)
  rintro ⟨nn1,p1,A1,c1⟩ ⟨hrun1,hp1,hn1,hf1,hle1⟩ a0 w1 hF
  try dsimp only at hrun1
  try dsimp only at hp1
  try dsimp only at hn1
  try dsimp only at hf1
  try dsimp only at hle1
  obtain ⟨m1,rfl⟩:∃ n2,nn1=n2 + 1:=⟨nn1 - 1,by omega⟩
  refine wp_block (wp_seq ?_)
  rcases (aL 0 b J hJ A1 c1 p1 hp1 hn1 x1).two (j1 _ _ _) hp1 hn1 with ⟨w71,p71,hm71,O1⟩ | ⟨g1,p71,hm71,hs71,hp71,hn71,S71⟩
  .refine stp 2 hB a6 [33,34] [0] [] hF O1 fun _ _ _ _ hF hk => ?_
   exact thm (P:=Tryz.prog) (fn:=Tryz.f254) (q:=p71) hF hk (by simp [l7,s8,<-hx0,<-hx1,<-ha0,<-ha1,<-he,Rs.bind,t0,hrun0,hm70,tq0,hrun1,hm71])
  have hl71:=B0 hm71;have hg71:=hp1.get hm71;have O1:=S71;refine rg hB a6 [0,2,5,11,12,13,14,28,29] [0,5,11,13,14] [(2,rc J (s5 g1) p71)] hF fun X7 a0 w1 hF => ?_
  refine wp_seq (wp_seq (rg hB a6 [43,0,2,5,11,12,13,14,28,29] [0,5,11,13,14] [] hF fun X8 a0 w1 hF => ?_));apply a7 hF rfl<;>intro hb hF
  .have tq1:(g1.has && !decide (g1.x.r.kd=5))=true:=by
    have h9:(if g1.has=true then !decide (g1.x.r.kd=5) else false)=true:=by
     have h8:(if g1.has=true then (g1.x.r.kd != 5) else false)=true:=by subst hB; exact hb
     exact h8
    rw [<-h9]; cases g1.has<;>rfl
   refine wp_exit (rg hB a6 [29,0,2,5,11,28] [0,5,11] [] hF fun X11 a0 w1 hF => ?_);replace hF:=hF.headS (v':=.int .i64 2) (by subst hB; exact zr) rfl;refine i4 (wp_seq (rg hB a6 [30,0,2,5,11,28,29] [0,5,11] [] hF fun X5 a0 w1 hF => ?_));replace hF:=hF.headS (v':=.bool .ff) (Sim.bool (by subst hB; rfl)) rfl;refine wp_seq (i9 hF rfl (fun hF => ?_));refine wp_exit ?_
   rcases (lq 0 b J hJ ((X7 2).A 0) ((X7 2).c 0) p71 hp71 hn71 l v).two (l3 _ _ _ _ _) hp71 hn71 with ⟨w12,p12,hm12,O1⟩ | ⟨d2,p12,hm12,hs12,hp12,hn12,S12⟩
   .have O2:=eV
    refine iZ 4 hB a6 [58,59,60,61] [0] [(3,.r fun _ => .agg [.int .i64 2,.sl none none 0 0 2 (fun _ => []),.int .i64 (-1),.int .u64 0,.int .u64 0])] hF O1 fun _ _ _ _ hF hk => ?_
    exact thm (P:=Tryz.prog) (fn:=Tryz.f254) (q:=p12) hF hk (by simp [l7,s8,<-hx0,<-hx1,<-ha0,<-ha1,<-he,Rs.bind,t0,hrun0,hm70,tq0,hrun1,hm71,tq1,hm12])
   have O1:=eV;have O2:=S12;refine drg hB a6 [] [0] [(3,.r fun _ => .agg [.int .i64 2,.sl none none 0 0 2 (fun _ => []),.int .i64 (-1),.int .u64 0,.int .u64 0]),(4,rc J (.bool (.v d2)) p12)] hF fun X12 a0 w1 hF => ?_
   exact (rmm hB a6 hF (v:=()) (q:=p12) ((X12 4).A 0) ((X12 4).c 0) (by simp [l7,s8,<-hx0,<-hx1,<-ha0,<-ha1,<-he,Rs.bind,t0,hrun0,hm70,tq0,hrun1,hm71,tq1,hm12])).2
  have tq1:(g1.has && !decide (g1.x.r.kd=5))=false:=by
   have h9:(if g1.has=true then !decide (g1.x.r.kd=5) else false)=false:=by
    have h8:(if g1.has=true then (g1.x.r.kd != 5) else false)=false:=by subst hB; exact hb
    exact h8
   rw [<-h9]; cases g1.has<;>rfl
  refine wp_skip (wp_seq (wp_seq ?_))
  rcases (jl 0 b J hJ ((X7 2).A 0) ((X7 2).c 0) p71 hp71 hn71 l v).two (j1 _ _ _) hp71 hn71 with ⟨w91,p91,hm91,O1⟩ | ⟨h1,p91,hm91,hs91,hp91,hn91,S91⟩
  .refine stp 3 hB a6 [44,45,46] [0] [] hF O1 fun _ _ _ _ hF hk => ?_
   exact thm (P:=Tryz.prog) (fn:=Tryz.f254) (q:=p91) hF hk (by simp [l7,s8,<-hx0,<-hx1,<-ha0,<-ha1,<-he,Rs.bind,t0,hrun0,hm70,tq0,hrun1,hm71,tq1,hm91])
  have hl91:=B0 hm91;have hg91:=hp71.get hm91
  try dsimp only at S91
  obtain ⟨e1,he1⟩:=eqv (decide (h1.ver=v));rw [<-he1] at S91;have O1:=S91;refine rg hB a6 [48,0,2,5,11,12,13,14,28,29] [0,5,11,13,14] [(3,rc J (.bool (.v e1)) p91)] hF fun X9 a0 w1 hF => ?_
  apply a7 hF rfl<;>intro hb hF
  .have t91:¬ h1.ver=v:=by
    have h9:(!e1)=true:=by subst hB; exact hb
    rw [he1] at h9; simpa using h9
   exact wp_ret ((rmm hB a6 hF (v:=()) (q:=p91) ((X9 3).A 0) ((X9 3).c 0) (by simp [l7,s8,<-hx0,<-hx1,<-ha0,<-ha1,<-he,Rs.bind,t0,hrun0,hm70,tq0,hrun1,hm71,tq1,hm91,t91])).1)
  have t91:h1.ver=v:=by
   have h9:(!e1)=false:=by subst hB; exact hb
   rw [he1] at h9; simpa using h9
  refine wp_skip (wp_seq ?_)
  rcases (eW 0 b J hJ ((X9 3).A 0) ((X9 3).c 0) p91 hp91 hn91 x1 g1.ver ⟨(X1 2).A 1,(X1 2).c 1,r1⟩).two (l3 _ _ _ _ _) hp91 hn91 with ⟨w101,p101,hm101,O1⟩ | ⟨d1,p101,hm101,hs101,hp101,hn101,S101⟩
  .refine iZ 7 hB a6 [49,50,52,55] [0] [] hF O1 fun _ _ _ _ hF hk => ?_
   exact thm (P:=Tryz.prog) (fn:=Tryz.f254) (q:=p101) hF hk (by simp [l7,s8,<-hx0,<-hx1,<-ha0,<-ha1,<-he,Rs.bind,t0,hrun0,hm70,tq0,hrun1,hm71,tq1,hm91,t91,hm101])
  have O1:=S101;refine drg hB a6 [56,0,2,5,11,12,13,28,29] [0,5,11,13] [(7,rc J (.bool (.v d1)) p101)] hF fun X10 a0 w1 hF => ?_
  apply a7 hF rfl<;>intro hb hF
  .have td1:d1=true:=by exact hb
   refine wp_exit (rg hB a6 [29,0,2,5,11,28] [0,5,11] [] hF fun X11 a0 w1 hF => ?_);replace hF:=hF.headS (v':=.int .i64 2) (by subst hB; exact zr) rfl;refine i4 (wp_seq (rg hB a6 [30,0,2,5,11,28,29] [0,5,11] [] hF fun X5 a0 w1 hF => ?_));replace hF:=hF.headS (v':=.bool .ff) (Sim.bool (by subst hB; rfl)) rfl;refine wp_seq (i9 hF rfl (fun hF => ?_));refine wp_exit ?_
   rcases (lq 0 b J hJ ((X10 7).A 0) ((X10 7).c 0) p101 hp101 hn101 l v).two (l3 _ _ _ _ _) hp101 hn101 with ⟨w12,p12,hm12,O1⟩ | ⟨d2,p12,hm12,hs12,hp12,hn12,S12⟩
   .have O2:=eV
    refine iZ 4 hB a6 [58,59,60,61] [0] [(3,.r fun _ => .agg [.int .i64 2,.sl none none 0 0 2 (fun _ => []),.int .i64 (-1),.int .u64 0,.int .u64 0])] hF O1 fun _ _ _ _ hF hk => ?_
    exact thm (P:=Tryz.prog) (fn:=Tryz.f254) (q:=p12) hF hk (by simp [l7,s8,<-hx0,<-hx1,<-ha0,<-ha1,<-he,Rs.bind,t0,hrun0,hm70,tq0,hrun1,hm71,tq1,hm91,t91,hm101,td1,hm12])
   have O1:=eV;have O2:=S12;refine drg hB a6 [] [0] [(3,.r fun _ => .agg [.int .i64 2,.sl none none 0 0 2 (fun _ => []),.int .i64 (-1),.int .u64 0,.int .u64 0]),(4,rc J (.bool (.v d2)) p12)] hF fun X12 a0 w1 hF => ?_
   exact (rmm hB a6 hF (v:=()) (q:=p12) ((X12 4).A 0) ((X12 4).c 0) (by simp [l7,s8,<-hx0,<-hx1,<-ha0,<-ha1,<-he,Rs.bind,t0,hrun0,hm70,tq0,hrun1,hm71,tq1,hm91,t91,hm101,td1,hm12])).2
  have td1:d1=false:=by exact hb
  replace hF:=hF.keep [0,2,5,11,12,13,28,29] [0,5,11,13];exact wp_skip (⟨(m1,p101,_,_),⟨by rw [hrun1]; simp [s8,Rs.bind,t0,hrun0,hm70,tq0,hrun1,hm71,tq1,hm91,t91,hm101,td1],hp101,hn101,by dsimp only; have:=hl71; have:=hs91.le; have:=hs101.le; have:=hf1; omega,by dsimp only; have:=hl71; have:=hs91.le; have:=hs101.le; have:=hle1; omega⟩,by simp only; omega,hF⟩)
 have tq0:(g0.has && !decide (g0.x.r.kd=5))=false:=by
  have h9:(if g0.has=true then !decide (g0.x.r.kd=5) else false)=false:=by
   have h8:(if g0.has=true then (g0.x.r.kd != 5) else false)=false:=by subst hB; exact hb
   exact h8
  rw [<-h9]; cases g0.has<;>rfl
 refine wp_skip (wp_seq (wp_seq ?_))
 rcases (jl 0 b J hJ ((X7 2).A 0) ((X7 2).c 0) p70 hp70 hn70 l v).two (j1 _ _ _) hp70 hn70 with ⟨w90,p90,hm90,O1⟩ | ⟨h0,p90,hm90,hs90,hp90,hn90,S90⟩
 .refine stp 3 hB a6 [44,45,46] [0] [] hF O1 fun _ _ _ _ hF hk => ?_
  exact thm (P:=Tryz.prog) (fn:=Tryz.f254) (q:=p90) hF hk (by simp [l7,s8,<-hx0,<-hx1,<-ha0,<-ha1,<-he,Rs.bind,t0,hrun0,hm70,tq0,hm90])
 have hl90:=B0 hm90;have hg90:=hp70.get hm90
 try dsimp only at S90
 obtain ⟨e0,he0⟩:=eqv (decide (h0.ver=v));rw [<-he0] at S90;have O1:=S90;refine rg hB a6 [48,0,2,5,11,12,13,14,28,29] [0,5,11,13,14] [(3,rc J (.bool (.v e0)) p90)] hF fun X9 a0 w1 hF => ?_
 apply a7 hF rfl<;>intro hb hF
 .have t90:¬ h0.ver=v:=by
   have h9:(!e0)=true:=by subst hB; exact hb
   rw [he0] at h9; simpa using h9
  exact wp_ret ((rmm hB a6 hF (v:=()) (q:=p90) ((X9 3).A 0) ((X9 3).c 0) (by simp [l7,s8,<-hx0,<-hx1,<-ha0,<-ha1,<-he,Rs.bind,t0,hrun0,hm70,tq0,hm90,t90])).1)
 have t90:h0.ver=v:=by
  have h9:(!e0)=false:=by subst hB; exact hb
  rw [he0] at h9; simpa using h9
 refine wp_skip (wp_seq ?_)
 rcases (eW 0 b J hJ ((X9 3).A 0) ((X9 3).c 0) p90 hp90 hn90 x0 g0.ver ⟨(X1 2).A 0,(X1 2).c 0,r0⟩).two (l3 _ _ _ _ _) hp90 hn90 with ⟨w100,p100,hm100,O1⟩ | ⟨d0,p100,hm100,hs100,hp100,hn100,S100⟩
 .refine iZ 7 hB a6 [49,50,52,55] [0] [] hF O1 fun _ _ _ _ hF hk => ?_
  exact thm (P:=Tryz.prog) (fn:=Tryz.f254) (q:=p100) hF hk (by simp [l7,s8,<-hx0,<-hx1,<-ha0,<-ha1,<-he,Rs.bind,t0,hrun0,hm70,tq0,hm90,t90,hm100])
 have O1:=S100;refine drg hB a6 [56,0,2,5,11,12,13,28,29] [0,5,11,13] [(7,rc J (.bool (.v d0)) p100)] hF fun X10 a0 w1 hF => ?_
 apply a7 hF rfl<;>intro hb hF
 .have td0:d0=true:=by exact hb
  refine wp_exit (rg hB a6 [29,0,2,5,11,28] [0,5,11] [] hF fun X11 a0 w1 hF => ?_);replace hF:=hF.headS (v':=.int .i64 1) (by subst hB; exact zr) rfl;refine i4 (wp_seq (rg hB a6 [30,0,2,5,11,28,29] [0,5,11] [] hF fun X5 a0 w1 hF => ?_));replace hF:=hF.headS (v':=.bool .tt) (Sim.bool (by subst hB; rfl)) rfl;refine wp_seq (j0 hF rfl (fun hF => ?_));refine wp_skip (wp_seq (wp_block (wp_seq (rg hB a6 [0,2,5,11,12,13,28,29] [0,5,11,13] [] hF fun X6 a0 w1 hF => ?_))));refine wp_block (l0 (ι:=Nat × Pst × Option Addr × Nat) (fun q => []) (fun q => [(0,⟨b,166,C0 J q.2.2.1 q.2.2.2 q.2.1⟩)]) (fun q => []) (fun q => s8 J.budget l v x1 r1.abs n p100=s8 J.budget l v x1 r1.abs q.1 q.2.1/\i5 q.2.1/\q.2.1.n<=1000000/\q.2.1.n < q.1/\q.2.1.n<=p.n) (fun q => q.1) (n,p100,((X10 7).A 0),((X10 7).c 0)) ⟨rfl,hp100,hn100,(by dsimp only; have:=hle0; have:=hs70.le; have:=hs90.le; have:=hs100.le; omega),(by dsimp only; have:=hle0; have:=hs70.le; have:=hs90.le; have:=hs100.le; omega)⟩ hF ?_)
  rintro ⟨nn1,p1,A1,c1⟩ ⟨hrun1,hp1,hn1,hf1,hle1⟩ a0 w1 hF
  try dsimp only at hrun1
  try dsimp only at hp1
  try dsimp only at hn1
  try dsimp only at hf1
  try dsimp only at hle1
  obtain ⟨m1,rfl⟩:∃ n2,nn1=n2 + 1:=⟨nn1 - 1,by omega⟩
  refine wp_block (wp_seq ?_)
  rcases (aL 0 b J hJ A1 c1 p1 hp1 hn1 x1).two (j1 _ _ _) hp1 hn1 with ⟨w71,p71,hm71,O1⟩ | ⟨g1,p71,hm71,hs71,hp71,hn71,S71⟩
  .refine stp 2 hB a6 [33,34] [0] [] hF O1 fun _ _ _ _ hF hk => ?_
   exact thm (P:=Tryz.prog) (fn:=Tryz.f254) (q:=p71) hF hk (by simp [l7,s8,<-hx0,<-hx1,<-ha0,<-ha1,<-he,Rs.bind,t0,hrun0,hm70,tq0,hm90,t90,hm100,td0,hrun1,hm71])
  have hl71:=B0 hm71;have hg71:=hp1.get hm71;have O1:=S71;refine rg hB a6 [0,2,5,11,12,13,14,28,29] [0,5,11,13,14] [(2,rc J (s5 g1) p71)] hF fun X7 a0 w1 hF => ?_
  refine wp_seq (wp_seq (rg hB a6 [43,0,2,5,11,12,13,14,28,29] [0,5,11,13,14] [] hF fun X8 a0 w1 hF => ?_));apply a7 hF rfl<;>intro hb hF
  .have tq1:(g1.has && !decide (g1.x.r.kd=5))=true:=by
    have h9:(if g1.has=true then !decide (g1.x.r.kd=5) else false)=true:=by
     have h8:(if g1.has=true then (g1.x.r.kd != 5) else false)=true:=by subst hB; exact hb
     exact h8
    rw [<-h9]; cases g1.has<;>rfl
   refine wp_exit (rg hB a6 [29,0,2,5,11,28] [0,5,11] [] hF fun X11 a0 w1 hF => ?_);replace hF:=hF.headS (v':=.int .i64 2) (by subst hB; exact zr) rfl;refine i4 (wp_seq (rg hB a6 [30,0,2,5,11,28,29] [0,5,11] [] hF fun X5 a0 w1 hF => ?_));replace hF:=hF.headS (v':=.bool .ff) (Sim.bool (by subst hB; rfl)) rfl;refine wp_seq (i9 hF rfl (fun hF => ?_));refine wp_exit ?_
   rcases (lq 0 b J hJ ((X7 2).A 0) ((X7 2).c 0) p71 hp71 hn71 l v).two (l3 _ _ _ _ _) hp71 hn71 with ⟨w12,p12,hm12,O1⟩ | ⟨d2,p12,hm12,hs12,hp12,hn12,S12⟩
   .have O2:=eV
    refine iZ 4 hB a6 [58,59,60,61] [0] [(3,.r fun _ => .agg [.int .i64 2,.sl none none 0 0 2 (fun _ => []),.int .i64 (-1),.int .u64 0,.int .u64 0])] hF O1 fun _ _ _ _ hF hk => ?_
    exact thm (P:=Tryz.prog) (fn:=Tryz.f254) (q:=p12) hF hk (by simp [l7,s8,<-hx0,<-hx1,<-ha0,<-ha1,<-he,Rs.bind,t0,hrun0,hm70,tq0,hm90,t90,hm100,td0,hrun1,hm71,tq1,hm12])
   have O1:=eV;have O2:=S12;refine drg hB a6 [] [0] [(3,.r fun _ => .agg [.int .i64 2,.sl none none 0 0 2 (fun _ => []),.int .i64 (-1),.int .u64 0,.int .u64 0]),(4,rc J (.bool (.v d2)) p12)] hF fun X12 a0 w1 hF => ?_
   exact (rmm hB a6 hF (v:=()) (q:=p12) ((X12 4).A 0) ((X12 4).c 0) (by simp [l7,s8,<-hx0,<-hx1,<-ha0,<-ha1,<-he,Rs.bind,t0,hrun0,hm70,tq0,hm90,t90,hm100,td0,hrun1,hm71,tq1,hm12])).2
  have tq1:(g1.has && !decide (g1.x.r.kd=5))=false:=by
   have h9:(if g1.has=true then !decide (g1.x.r.kd=5) else false)=false:=by
    have h8:(if g1.has=true then (g1.x.r.kd != 5) else false)=false:=by subst hB; exact hb
    exact h8
   rw [<-h9]; cases g1.has<;>rfl
  refine wp_skip (wp_seq (wp_seq ?_))
  rcases (jl 0 b J hJ ((X7 2).A 0) ((X7 2).c 0) p71 hp71 hn71 l v).two (j1 _ _ _) hp71 hn71 with ⟨w91,p91,hm91,O1⟩ | ⟨h1,p91,hm91,hs91,hp91,hn91,S91⟩
  .refine stp 3 hB a6 [44,45,46] [0] [] hF O1 fun _ _ _ _ hF hk => ?_
   exact thm (P:=Tryz.prog) (fn:=Tryz.f254) (q:=p91) hF hk (by simp [l7,s8,<-hx0,<-hx1,<-ha0,<-ha1,<-he,Rs.bind,t0,hrun0,hm70,tq0,hm90,t90,hm100,td0,hrun1,hm71,tq1,hm91])
  have hl91:=B0 hm91;have hg91:=hp71.get hm91
  try dsimp only at S91
  obtain ⟨e1,he1⟩:=eqv (decide (h1.ver=v));rw [<-he1] at S91;have O1:=S91;refine rg hB a6 [48,0,2,5,11,12,13,14,28,29] [0,5,11,13,14] [(3,rc J (.bool (.v e1)) p91)] hF fun X9 a0 w1 hF => ?_
  apply a7 hF rfl<;>intro hb hF
  .have t91:¬ h1.ver=v:=by
    have h9:(!e1)=true:=by subst hB; exact hb
    rw [he1] at h9; simpa using h9
   exact wp_ret ((rmm hB a6 hF (v:=()) (q:=p91) ((X9 3).A 0) ((X9 3).c 0) (by simp [l7,s8,<-hx0,<-hx1,<-ha0,<-ha1,<-he,Rs.bind,t0,hrun0,hm70,tq0,hm90,t90,hm100,td0,hrun1,hm71,tq1,hm91,t91])).1)
  have t91:h1.ver=v:=by
   have h9:(!e1)=false:=by subst hB; exact hb
   rw [he1] at h9; simpa using h9
  refine wp_skip (wp_seq ?_)
  rcases (eW 0 b J hJ ((X9 3).A 0) ((X9 3).c 0) p91 hp91 hn91 x1 g1.ver ⟨(X1 2).A 1,(X1 2).c 1,r1⟩).two (l3 _ _ _ _ _) hp91 hn91 with ⟨w101,p101,hm101,O1⟩ | ⟨d1,p101,hm101,hs101,hp101,hn101,S101⟩
  .refine iZ 7 hB a6 [49,50,52,55] [0] [] hF O1 fun _ _ _ _ hF hk => ?_
   exact thm (P:=Tryz.prog) (fn:=Tryz.f254) (q:=p101) hF hk (by simp [l7,s8,<-hx0,<-hx1,<-ha0,<-ha1,<-he,Rs.bind,t0,hrun0,hm70,tq0,hm90,t90,hm100,td0,hrun1,hm71,tq1,hm91,t91,hm101])
  have O1:=S101;refine drg hB a6 [56,0,2,5,11,12,13,28,29] [0,5,11,13] [(7,rc J (.bool (.v d1)) p101)] hF fun X10 a0 w1 hF => ?_
  apply a7 hF rfl<;>intro hb hF
  .have td1:d1=true:=by exact hb
   refine wp_exit (rg hB a6 [29,0,2,5,11,28] [0,5,11] [] hF fun X11 a0 w1 hF => ?_);replace hF:=hF.headS (v':=.int .i64 2) (by subst hB; exact zr) rfl;refine i4 (wp_seq (rg hB a6 [30,0,2,5,11,28,29] [0,5,11] [] hF fun X5 a0 w1 hF => ?_));replace hF:=hF.headS (v':=.bool .ff) (Sim.bool (by subst hB; rfl)) rfl;refine wp_seq (i9 hF rfl (fun hF => ?_));refine wp_exit ?_
   rcases (lq 0 b J hJ ((X10 7).A 0) ((X10 7).c 0) p101 hp101 hn101 l v).two (l3 _ _ _ _ _) hp101 hn101 with ⟨w12,p12,hm12,O1⟩ | ⟨d2,p12,hm12,hs12,hp12,hn12,S12⟩
   .have O2:=eV
    refine iZ 4 hB a6 [58,59,60,61] [0] [(3,.r fun _ => .agg [.int .i64 2,.sl none none 0 0 2 (fun _ => []),.int .i64 (-1),.int .u64 0,.int .u64 0])] hF O1 fun _ _ _ _ hF hk => ?_
    exact thm (P:=Tryz.prog) (fn:=Tryz.f254) (q:=p12) hF hk (by simp [l7,s8,<-hx0,<-hx1,<-ha0,<-ha1,<-he,Rs.bind,t0,hrun0,hm70,tq0,hm90,t90,hm100,td0,hrun1,hm71,tq1,hm91,t91,hm101,td1,hm12])
   have O1:=eV;have O2:=S12;refine drg hB a6 [] [0] [(3,.r fun _ => .agg [.int .i64 2,.sl none none 0 0 2 (fun _ => []),.int .i64 (-1),.int .u64 0,.int .u64 0]),(4,rc J (.bool (.v d2)) p12)] hF fun X12 a0 w1 hF => ?_
   exact (rmm hB a6 hF (v:=()) (q:=p12) ((X12 4).A 0) ((X12 4).c 0) (by simp [l7,s8,<-hx0,<-hx1,<-ha0,<-ha1,<-he,Rs.bind,t0,hrun0,hm70,tq0,hm90,t90,hm100,td0,hrun1,hm71,tq1,hm91,t91,hm101,td1,hm12])).2
  have td1:d1=false:=by exact hb
  replace hF:=hF.keep [0,2,5,11,12,13,28,29] [0,5,11,13];exact wp_skip (⟨(m1,p101,_,_),⟨by rw [hrun1]; simp [s8,Rs.bind,t0,hrun0,hm70,tq0,hm90,t90,hm100,td0,hrun1,hm71,tq1,hm91,t91,hm101,td1],hp101,hn101,by dsimp only; have:=hl71; have:=hs91.le; have:=hs101.le; have:=hf1; omega,by dsimp only; have:=hl71; have:=hs91.le; have:=hs101.le; have:=hle1; omega⟩,by simp only; omega,hF⟩)
 have td0:d0=false:=by exact hb
 replace hF:=hF.keep [0,2,5,11,12,13,28,29] [0,5,11,13];exact wp_skip (⟨(m0,p100,_,_),⟨by rw [hrun0]; simp [s8,Rs.bind,t0,hrun0,hm70,tq0,hm90,t90,hm100,td0],hp100,hn100,by dsimp only; have:=hl70; have:=hs90.le; have:=hs100.le; have:=hf0; omega,by dsimp only; have:=hl70; have:=hs90.le; have:=hs100.le; have:=hle0; omega⟩,by simp only; omega,hF⟩)
theorem ES (k0 b:Nat) (J:i6) (hJ:k8 J) (A:Option Addr) (c:Nat) (p:Pst) (hp:i5 p) (hn:p.n<=1000000) (l:Lab) (hl:LOk l) (v:Int) (x:RA) (hx:U8 x) (n:Nat) (hf:p.n < n):B7 254 k0 b J A c p [b6 l,.int .u64 v,u9 x] (fun _ => i7) (l7 J.budget n l v x p):=B7.re (Cj b J hJ A c p hp hn l hl v x hx n hf) (by repeat (first | exact trivial | refine ⟨zr,?_⟩))
theorem CP (b:Nat) (J:i6) (hJ:k8 J) (A:Option Addr) (c:Nat) (p:Pst) (hp:i5 p) (hn:p.n<=1000000) (l:Lab) (hl:LOk l) (v:Int) (n:Nat) (hth:ThC n) (hf:p.n < n):B7 255 0 b J A c p [b6 l,.int .u64 v] (fun _ => i7) (L0 J.bucket J.budget n (G4 J.bucket J.budget n) l v p):=by
 intro m w hm hargs hpre;have SC:=tg l hl.u;have hk0:=hl.ch 0;have hk1:=hl.ch 1;simp only [b6] at SC;obtain ⟨x0,hx0⟩:=eqv (chV l 0);rw [<-hx0] at SC hk0;obtain ⟨x1,hx1⟩:=eqv (chV l 1);rw [<-hx1] at SC hk1;refine enX 73 hm hpre hargs Tryz.func255 fun B hB a0 hF => ?_
 refine wp_seq (rg hB a6 [0,2,4] [0,4] [] hF fun X0 a0 w1 hF => ?_);refine wp_seq (rg hB a6 [0,2,4,6] [0,4,6] [] hF fun X1 a0 w1 hF => ?_);have O1:=SC;refine wp_seq (wp_seq (rg hB a6 [15,0,2,4,6,14] [0,4,6] [(1,.r fun _ => .agg [.int .i64 x0.len,.int .u64 x0.bits,.int .i64 x1.len,.int .u64 x1.bits])] hF fun X2 a0 w1 hF => ?_));refine wp_block (wp_loop_rounds 3 (C3 (wp_seq (rg hB a6 [16,0,2,4,6,14,15] [0,4,6] [] hF fun X3 a0 w1 hF => ?_))));replace hF:=hF.headS (v':=.bool .tt) (Sim.bool (by subst hB; rfl)) rfl;refine wp_seq (j0 hF rfl (fun hF => ?_));refine wp_skip (wp_seq (wp_block (wp_seq (rg hB a6 [0,2,4,6,7,8,14,15] [0,4,6,8] [] hF fun X4 a0 w1 hF => ?_))));apply wp_seq
 rcases (BK 0 b J hJ A c p hp hn l v x0 n (by have:=(Suf.refl p).le; omega)).two (Z8 _ _ _ _ _ _) hp hn with ⟨w50,p50,hm50,O1⟩ | ⟨z0,p50,hm50,hs50,hp50,hn50,S50⟩
 .refine stp 4 hB a6 [20,21,22,23] [0] [] hF O1 fun _ _ _ _ hF hk => ?_
  exact thm (P:=Tryz.prog) (fn:=Tryz.f255) (q:=p50) hF hk (by simp [L0,<-hx0,<-hx1,Rs.bind,hm50])
 have hz0:∀ y,z0 = .fr y -> U8 y:=fun y hy => fw hp (by rw [hm50,hy])
 have T50:=S50;unfold sS at T50;obtain ⟨y0,hy0⟩:=eqv (fzR z0);rw [<-hy0] at T50;obtain ⟨i0,hi0⟩:=eqv (fzI z0);rw [<-hi0] at T50;have O1:=T50;refine rg hB a6 [0,2,4,6,7,9,10,14,15] [0,4,6,9] [(4,rc J (.tup [.agg [.int .i64 y0.r.kd,.sl none y0.A y0.r.n y0.c 2 (fun i => itC (y0.r.f i)),.int .i64 y0.r.nx.len,.int .u64 y0.r.nx.bits,.int .u64 y0.r.mrk],.int .i64 i0]) p50)] hF fun X5 a0 w1 hF => ?_
 refine wp_seq (wp_seq (rg hB a6 [0,2,4,6,7,9,14,15,27] [0,4,6,9] [] hF fun X6 a0 w1 hF => ?_));refine wp_block (wp_seq (wp_block (wp_seq (wp_block (wp_seq (wp_seq (wp_seq (rg hB a6 [28,0,2,4,6,7,9,14,15,27] [0,4,6,9] [] hF fun X7 a0 w1 hF => ?_))))))));apply a7 hF rfl<;>intro hb hF
 .have tz0:z0 = .unfit:=Fx (by rw [<-hi0]; subst hB; simpa [std,a8] using hb)
  refine wp_exit ?_
  rcases (yd 0 b J hJ ((X5 4).A 0) ((X5 4).c 0) p50 hp50 hn50 l hl v n hth (by have:=(Suf.trans (Suf.refl p) hs50).le; omega)).two (bx _ _ (F5 _ _ _) _ _ _) hp50 hn50 with ⟨w90,p90,hm90,O1⟩ | ⟨v90,p90,hm90,hs90,hp90,hn90,S90⟩
  .refine stp 3 hB a6 [32,33,34] [0] [] hF O1 fun _ _ _ _ hF hk => ?_
   exact thm (P:=Tryz.prog) (fn:=Tryz.f255) (q:=p90) hF hk (by simp [L0,<-hx0,<-hx1,Rs.bind,hm50,tz0,hm90])
  have O1:=S90;refine rg hB a6 [] [0] [(3,rc J (i7) p90)] hF fun X9 a0 w1 hF => ?_
  exact wp_seq (wp_ret ((rmm hB a6 hF (v:=()) (q:=p90) ((X9 3).A 0) ((X9 3).c 0) (by simp [L0,<-hx0,<-hx1,Rs.bind,hm50,tz0,hm90])).1))
 have ta0:fzI z0 ≠ 1:=by
  have:¬ i0=1:=by subst hB; simpa [std,a8] using hb
  rw [<-hi0]; exact this
 refine wp_skip (wp_seq (rg hB a6 [30,0,2,4,6,7,9,14,15] [0,4,6,9] [] hF fun X8 a0 w1 hF => ?_));apply a7 hF rfl<;>intro hb hF
 .have tz0:z0 = .over:=Fy (by rw [<-hi0]; subst hB; simpa [std,a8] using hb)
  exact wp_exit (wp_seq (wp_ret ((rmm hB a6 hF (v:=()) (q:=p50) ((X5 4).A 0) ((X5 4).c 0) (by simp [L0,<-hx0,<-hx1,Rs.bind,hm50,tz0])).1)))
 have tz0:z0 = .fr y0:=by
  rw [hy0];refine Fw ?_ ta0;have:¬ i0=0:=by subst hB; simpa [std,a8] using hb
  rw [<-hi0]; exact this
 have ty0:=hz0 _ tz0;refine wp_skip (wp_exit (rg hB a6 [0,2,4,6,14,15] [0,4,6] [] hF fun X10 a0 w1 hF => ?_));refine rg hB a6 [15,0,2,4,6,14] [0,4,6] [] hF fun X11 a0 w1 hF => ?_
 replace hF:=hF.headS (v':=.int .i64 1) (by subst hB; exact zr) rfl;refine i4 (wp_seq (rg hB a6 [16,0,2,4,6,14,15] [0,4,6] [] hF fun X3 a0 w1 hF => ?_));replace hF:=hF.headS (v':=.bool .tt) (Sim.bool (by subst hB; rfl)) rfl;refine wp_seq (j0 hF rfl (fun hF => ?_));refine wp_skip (wp_seq (wp_block (wp_seq (rg hB a6 [0,2,4,6,7,8,14,15] [0,4,6,8] [] hF fun X4 a0 w1 hF => ?_))));apply wp_seq
 rcases (BK 0 b J hJ ((X5 4).A 0) ((X5 4).c 0) p50 hp50 hn50 l v x1 n (by have:=(Suf.trans (Suf.refl p) hs50).le; omega)).two (Z8 _ _ _ _ _ _) hp50 hn50 with ⟨w51,p51,hm51,O1⟩ | ⟨z1,p51,hm51,hs51,hp51,hn51,S51⟩
 .refine stp 4 hB a6 [20,21,22,23] [0] [] hF O1 fun _ _ _ _ hF hk => ?_
  exact thm (P:=Tryz.prog) (fn:=Tryz.f255) (q:=p51) hF hk (by simp [L0,<-hx0,<-hx1,Rs.bind,hm50,tz0,hm51])
 have hz1:∀ y,z1 = .fr y -> U8 y:=fun y hy => fw hp50 (by rw [hm51,hy])
 have T51:=S51;unfold sS at T51;obtain ⟨y1,hy1⟩:=eqv (fzR z1);rw [<-hy1] at T51;obtain ⟨i1,hi1⟩:=eqv (fzI z1);rw [<-hi1] at T51;have O1:=T51;refine rg hB a6 [0,2,4,6,7,9,10,14,15] [0,4,6,9] [(4,rc J (.tup [.agg [.int .i64 y1.r.kd,.sl none y1.A y1.r.n y1.c 2 (fun i => itC (y1.r.f i)),.int .i64 y1.r.nx.len,.int .u64 y1.r.nx.bits,.int .u64 y1.r.mrk],.int .i64 i1]) p51)] hF fun X5 a0 w1 hF => ?_
 refine wp_seq (wp_seq (rg hB a6 [0,2,4,6,7,9,14,15,27] [0,4,6,9] [] hF fun X6 a0 w1 hF => ?_));refine wp_block (wp_seq (wp_block (wp_seq (wp_block (wp_seq (wp_seq (wp_seq (rg hB a6 [28,0,2,4,6,7,9,14,15,27] [0,4,6,9] [] hF fun X7 a0 w1 hF => ?_))))))));apply a7 hF rfl<;>intro hb hF
 .have tz1:z1 = .unfit:=Fx (by rw [<-hi1]; subst hB; simpa [std,a8] using hb)
  refine wp_exit ?_
  rcases (yd 0 b J hJ ((X5 4).A 0) ((X5 4).c 0) p51 hp51 hn51 l hl v n hth (by have:=(Suf.trans (Suf.trans (Suf.refl p) hs50) hs51).le; omega)).two (bx _ _ (F5 _ _ _) _ _ _) hp51 hn51 with ⟨w91,p91,hm91,O1⟩ | ⟨v91,p91,hm91,hs91,hp91,hn91,S91⟩
  .refine stp 3 hB a6 [32,33,34] [0] [] hF O1 fun _ _ _ _ hF hk => ?_
   exact thm (P:=Tryz.prog) (fn:=Tryz.f255) (q:=p91) hF hk (by simp [L0,<-hx0,<-hx1,Rs.bind,hm50,tz0,hm51,tz1,hm91])
  have O1:=S91;refine rg hB a6 [] [0] [(3,rc J (i7) p91)] hF fun X9 a0 w1 hF => ?_
  exact wp_seq (wp_ret ((rmm hB a6 hF (v:=()) (q:=p91) ((X9 3).A 0) ((X9 3).c 0) (by simp [L0,<-hx0,<-hx1,Rs.bind,hm50,tz0,hm51,tz1,hm91])).1))
 have ta1:fzI z1 ≠ 1:=by
  have:¬ i1=1:=by subst hB; simpa [std,a8] using hb
  rw [<-hi1]; exact this
 refine wp_skip (wp_seq (rg hB a6 [30,0,2,4,6,7,9,14,15] [0,4,6,9] [] hF fun X8 a0 w1 hF => ?_));apply a7 hF rfl<;>intro hb hF
 .have tz1:z1 = .over:=Fy (by rw [<-hi1]; subst hB; simpa [std,a8] using hb)
  exact wp_exit (wp_seq (wp_ret ((rmm hB a6 hF (v:=()) (q:=p51) ((X5 4).A 0) ((X5 4).c 0) (by simp [L0,<-hx0,<-hx1,Rs.bind,hm50,tz0,hm51,tz1])).1)))
 have tz1:z1 = .fr y1:=by
  rw [hy1];refine Fw ?_ ta1;have:¬ i1=0:=by subst hB; simpa [std,a8] using hb
  rw [<-hi1]; exact this
 have ty1:=hz1 _ tz1;refine wp_skip (wp_exit (rg hB a6 [0,2,4,6,14,15] [0,4,6] [] hF fun X10 a0 w1 hF => ?_));refine rg hB a6 [15,0,2,4,6,14] [0,4,6] [] hF fun X11 a0 w1 hF => ?_
 replace hF:=hF.headS (v':=.int .i64 2) (by subst hB; exact zr) rfl;refine i4 (wp_seq (rg hB a6 [16,0,2,4,6,14,15] [0,4,6] [] hF fun X3 a0 w1 hF => ?_));replace hF:=hF.headS (v':=.bool .ff) (Sim.bool (by subst hB; rfl)) rfl;refine wp_seq (i9 hF rfl (fun hF => ?_));have SU:=Er y0 y1 ty0 ty1;obtain ⟨r2,hr2⟩:=eqv ((cx y0 y1).1.rn);rw [<-hr2] at SU;obtain ⟨e2,he2⟩:=eqv ((cx y0 y1).2);rw [<-he2] at SU;have ha2:r2.abs=(cx y0 y1).1:=by rw [hr2]; exact V1 _
 have hl2:r2.abs.items.length=r2.n:=by rw [ha2,hr2]; rfl
 have O1:=SU;refine wp_exit (wp_seq (rg hB a6 [0,2,4,11,12] [0,4,11] [(4,.r fun z => .tup [.agg [.int .i64 r2.kd,.sl none (z.A 0) r2.n (z.c 0) 2 (fun i => itC (r2.f i)),.int .i64 r2.nx.len,.int .u64 r2.nx.bits,.int .u64 r2.mrk],.int .i64 e2])] hF fun X12 a0 w1 hF => ?_));refine wp_seq (wp_seq (drg hB a6 [60,0,2,4,11] [0,4,11] [] hF fun X13 a0 w1 hF => ?_));apply a7 hF rfl<;>intro hb hF
 .have tu:¬ ((cx y0 y1).2=0/\(r2.abs.items.length:Int)<=J.bucket):=by
   have h9:(if (!decide (e2=0))=true then true else decide ((r2.n:Int) > J.bucket))=true:=by subst hB; exact hb
   rw [<-he2,hl2];intro h; simp [h.1] at h9; omega
  apply wp_seq
  rcases (yd 0 b J hJ ((X5 4).A 0) ((X5 4).c 0) p51 hp51 hn51 l hl v n hth (by have:=(Suf.trans (Suf.trans (Suf.refl p) hs50) hs51).le; omega)).two (bx _ _ (F5 _ _ _) _ _ _) hp51 hn51 with ⟨w14,p14,hm14,O1⟩ | ⟨v14,p14,hm14,hs14,hp14,hn14,S14⟩
  .refine stp 3 hB a6 [61,62,63] [0] [] hF O1 fun _ _ _ _ hF hk => ?_
   exact thm (P:=Tryz.prog) (fn:=Tryz.f255) (q:=p14) hF hk (by simp [L0,<-hx0,<-hx1,Rs.bind,hm50,tz0,hm51,tz1,<-ha2,if_neg tu,hm14])
  have O1:=S14;refine rg hB a6 [] [0] [(3,rc J (i7) p14)] hF fun X14 a0 w1 hF => ?_
  exact wp_ret ((rmm hB a6 hF (v:=()) (q:=p14) ((X14 3).A 0) ((X14 3).c 0) (by simp [L0,<-hx0,<-hx1,Rs.bind,hm50,tz0,hm51,tz1,<-ha2,if_neg tu,hm14])).1)
 have tu:(cx y0 y1).2=0/\(r2.abs.items.length:Int)<=J.bucket:=by
  have h9:(if (!decide (e2=0))=true then true else decide ((r2.n:Int) > J.bucket))=false:=by subst hB; exact hb
  rw [<-he2,hl2];simp at h9; exact ⟨h9.1,by omega⟩
 refine wp_skip (wp_seq ?_)
 rcases (eW 0 b J hJ ((X5 4).A 0) ((X5 4).c 0) p51 hp51 hn51 l v ⟨(X12 4).A 0,(X12 4).c 0,r2⟩).two (l3 _ _ _ _ _) hp51 hn51 with ⟨w15,p15,hm15,O1⟩ | ⟨d5,p15,hm15,hs15,hp15,hn15,S15⟩
 .refine stp 4 hB a6 [65,66,67,68] [0] [] hF O1 fun _ _ _ _ hF hk => ?_
  exact thm (P:=Tryz.prog) (fn:=Tryz.f255) (q:=p15) hF hk (by simp [L0,<-hx0,<-hx1,Rs.bind,hm50,tz0,hm51,tz1,<-ha2,if_pos tu,hm15])
 have O1:=S15;refine rg hB a6 [69,0,4] [0,4] [(4,rc J (.bool (.v d5)) p15)] hF fun X15 a0 w1 hF => ?_
 apply a7 hF rfl<;>intro hb hF
 .have t5:d5=true:=by exact hb
  rcases (xV n 0 b J hJ ((X15 4).A 0) ((X15 4).c 0) p15 hp15 hn15 l hl (by have:=(Suf.trans (Suf.trans (Suf.trans (Suf.refl p) hs50) hs51) hs15).le; omega)).two (J2 _ _ _ _) hp15 hn15 with ⟨w16,p16,hm16,O1⟩ | ⟨v16,p16,hm16,hs16,hp16,hn16,S16⟩
  .refine stp 2 hB a6 [70,71] [0] [] hF O1 fun _ _ _ _ hF hk => ?_
   exact thm (P:=Tryz.prog) (fn:=Tryz.f255) (q:=p16) hF hk (by simp [L0,<-hx0,<-hx1,Rs.bind,hm50,tz0,hm51,tz1,<-ha2,if_pos tu,hm15,t5,hm16])
  have O1:=S16;refine rg hB a6 [] [0] [(2,rc J (i7) p16)] hF fun X16 a0 w1 hF => ?_
  exact (rmm hB a6 hF (v:=()) (q:=p16) ((X16 2).A 0) ((X16 2).c 0) (by simp [L0,<-hx0,<-hx1,Rs.bind,hm50,tz0,hm51,tz1,<-ha2,if_pos tu,hm15,t5,hm16])).2
 have t5:d5=false:=by exact hb
 exact wp_skip ((rmm hB a6 hF (v:=()) (q:=p15) ((X15 4).A 0) ((X15 4).c 0) (by simp [L0,<-hx0,<-hx1,Rs.bind,hm50,tz0,hm51,tz1,<-ha2,if_pos tu,hm15,t5])).2)
theorem Fh (k0 b:Nat) (J:i6) (hJ:k8 J) (A:Option Addr) (c:Nat) (p:Pst) (hp:i5 p) (hn:p.n<=1000000) (l:Lab) (hl:LOk l) (v:Int) (n:Nat) (hth:ThC n) (hf:p.n < n):B7 255 k0 b J A c p [b6 l,.int .u64 v] (fun _ => i7) (L0 J.bucket J.budget n (G4 J.bucket J.budget n) l v p):=B7.re (CP b J hJ A c p hp hn l hl v n hth hf) (by repeat (first | exact trivial | refine ⟨zr,?_⟩))
theorem Dl (b:Nat) (J:i6) (hJ:k8 J) (A:Option Addr) (c:Nat) (p:Pst) (hp:i5 p) (hn:p.n<=1000000) (l:Lab) (hl:LOk l) (g:l9) (hg:dX g) (n:Nat) (hth:ThC n) (hf:p.n < n):B7 193 0 b J A c p [b6 l,s5 g] (fun _ => i7) (Y5 J.bucket J.budget n l g p):=by
 intro m w hm hargs hpre;refine enX 26 hm hpre hargs Tryz.func193 fun B hB a0 hF => ?_
 refine wp_seq (rg hB a6 [0,4,5] [0,4,5] [] hF fun X0 a0 w1 hF => ?_);obtain ⟨q1,hq1⟩:=eqv (gk g 3);refine wp_block (wp_seq ?_);refine rg hB a6 [6,0,4,5] [0,4,5,8] [(2,.r fun _ => .bool (.v q1))] hF (hob:=by intro X; subst hB; simp only [b5,Ob.holds,BE.den]<;>and_intros<;>repeat first | trivial | rfl | exact (by rw [hq1]; exact N8 g _ _ 3 _ rfl) | exact by rw [hq1]; exact N8 g _ _ 3 _ rfl | exact (fun _ _ => by kernel_rfl) | refine ⟨?_,?_⟩ | intro h | exact Int.le_refl _ | decide | omega) fun X1 a0 w1 hF => ?_
 apply a7 hF rfl<;>intro hb hF
 .have tq1:gk g 3=true:=by rw [<-hq1]; exact hb
  rcases (ES 0 b J hJ A c p hp hn l hl g.ver g.x hg.ra n hf).two (iq _ _ _ _ _ _) hp hn with ⟨w2,p2,hm2,O1⟩ | ⟨v2,p2,hm2,hs2,hp2,hn2,S2⟩
  .refine stp 6 hB a6 [10,11,13,15] [0] [] hF O1 fun _ _ _ _ hF hk => ?_
   exact thm (P:=Tryz.prog) (fn:=Tryz.f193) (q:=p2) hF hk (by simp [Y5,dM,Rs.bind,tq1,hm2])
  have O1:=S2;refine rg hB a6 [] [0] [(6,rc J (i7) p2)] hF fun X2 a0 w1 hF => ?_
  exact (rmm hB a6 hF (v:=()) (q:=p2) ((X2 6).A 0) ((X2 6).c 0) (by simp [Y5,dM,Rs.bind,tq1,hm2])).2
 have tq1:gk g 3=false:=by rw [<-hq1]; exact hb
 refine wp_seq (rg hB a6 [17,0,4,5] [0,4,5] [] hF fun X3 a0 w1 hF => ?_);apply a7 hF rfl<;>intro hb hF
 .have t2:l.len < 64:=by subst hB; simpa [std,a8] using hb
  rcases (Fh 0 b J hJ A c p hp hn l hl g.ver n hth hf).two (nN _ _ _ _ (F5 _ _ _) _ _ _) hp hn with ⟨w4,p4,hm4,O1⟩ | ⟨v4,p4,hm4,hs4,hp4,hn4,S4⟩
  .refine stp 4 hB a6 [21,22,24] [0] [] hF O1 fun _ _ _ _ hF hk => ?_
   exact thm (P:=Tryz.prog) (fn:=Tryz.f193) (q:=p4) hF hk (by simp [Y5,dM,Rs.bind,tq1,t2,hm4])
  have O1:=S4;refine rg hB a6 [] [0] [(4,rc J (i7) p4)] hF fun X4 a0 w1 hF => ?_
  exact (rmm hB a6 hF (v:=()) (q:=p4) ((X4 4).A 0) ((X4 4).c 0) (by simp [Y5,dM,Rs.bind,tq1,t2,hm4])).2
 have t2:¬ l.len < 64:=by subst hB; simpa [std,a8] using hb
 exact wp_skip ((rmm hB a6 hF (v:=()) (q:=p) A c (by simp [Y5,dM,Rs.bind,tq1,t2])).2)
theorem FB (k0 b:Nat) (J:i6) (hJ:k8 J) (A:Option Addr) (c:Nat) (p:Pst) (hp:i5 p) (hn:p.n<=1000000) (l:Lab) (hl:LOk l) (g:l9) (hg:dX g) (n:Nat) (hth:ThC n) (hf:p.n < n):B7 193 k0 b J A c p [b6 l,s5 g] (fun _ => i7) (Y5 J.bucket J.budget n l g p):=B7.re (Dl b J hJ A c p hp hn l hl g hg n hth hf) (by repeat (first | exact trivial | refine ⟨zr,?_⟩))
theorem Cb (b:Nat) (J:i6) (hJ:k8 J) (A:Option Addr) (c:Nat) (p:Pst) (hp:i5 p) (hn:p.n<=1000000) (l:Lab) (hl:LOk l) (n:Nat) (hfin:∀ j,j < n -> AU j) (hf:p.n < n):B7 236 0 b J A c p [b6 l] (fun _ => i7) (G4 J.bucket J.budget n l p):=by
 intro m w hm hargs hpre;have SP:=BB l hl.u;have hpar:=hl.par;simp only [b6] at SP;obtain ⟨up,hup⟩:=eqv (P5 l);rw [<-hup] at SP hpar;obtain ⟨ue,hue⟩:=eqv (Q8 l);rw [<-hue] at SP;refine enX 46 hm hpre hargs Tryz.func236 fun B hB a0 hF => ?_
 refine wp_seq (rg hB a6 [0,3] [0,3] [] hF fun X0 a0 w1 hF => ?_);have O1:=SP;refine wp_seq (rg hB a6 [0,3,4,5] [0,3,4] [(1,.r fun _ => .tup [.agg [.int .i64 up.len,.int .u64 up.bits],.int .i64 ue])] hF fun X1 a0 w1 hF => ?_);refine wp_seq (wp_seq (rg hB a6 [14,0,3,4] [0,3,4] [] hF fun X2 a0 w1 hF => ?_));apply a7 hF rfl<;>intro hb hF
 .have t0:¬ ue=0:=by subst hB; simpa [std,a8] using hb
  exact wp_ret ((rmm hB a6 hF (v:=()) (q:=p) A c (by simp [G4,<-hup,<-hue,Rs.bind,t0])).1)
 have t0:ue=0:=by subst hB; simpa [std,a8] using hb
 refine wp_skip (wp_block (l0 (ι:=Nat × Pst × Option Addr × Nat) (fun q => []) (fun q => [(0,⟨b,166,C0 J q.2.2.1 q.2.2.2 q.2.1⟩)]) (fun q => []) (fun q => db J.bucket J.budget n l up p=db J.bucket J.budget q.1 l up q.2.1/\i5 q.2.1/\q.2.1.n<=1000000/\q.2.1.n < q.1/\q.1<=n) (fun q => q.1) (n,p,A,c) ⟨rfl,hp,hn,hf,Nat.le_refl _⟩ hF ?_))
 rintro ⟨nn,p0,A0,c0⟩ ⟨hrun,hp0,hn0,hf0,hnn⟩ a0 w1 hF
 try dsimp only at hrun
 try dsimp only at hp0
 try dsimp only at hn0
 try dsimp only at hf0
 try dsimp only at hnn
 obtain ⟨n2,rfl⟩:∃ n2,nn=n2 + 1:=⟨nn - 1,by omega⟩
 refine wp_block (wp_seq ?_)
 rcases (aL 0 b J hJ A0 c0 p0 hp0 hn0 l).two (j1 _ _ _) hp0 hn0 with ⟨w3,p3,hm3,O1⟩ | ⟨g3,p3,hm3,hs3,hp3,hn3,S3⟩
 .refine stp 2 hB a6 [15,16] [0] [] hF O1 fun _ _ _ _ hF hk => ?_
  exact thm (P:=Tryz.prog) (fn:=Tryz.f236) (q:=p3) hF hk (by simp [G4,<-hup,<-hue,Rs.bind,t0,hrun,o5,hm3])
 have hl3:=B0 hm3;have hg3:=hp0.get hm3;have O1:=S3;refine rg hB a6 [0,3,4,6] [0,3,4,6] [(2,rc J (s5 g3) p3)] hF fun X3 a0 w1 hF => ?_
 obtain ⟨q4,hq4⟩:=eqv (gk g3 5);refine wp_seq (wp_seq ?_);refine rg hB a6 [21,0,3,4,6] [0,3,4,6] [(2,.r fun _ => .bool (.v q4))] hF (hob:=by intro X; subst hB; simp only [b5,Ob.holds,BE.den]<;>and_intros<;>repeat first | trivial | rfl | exact (by rw [hq4]; exact N8 g3 _ _ 5 _ rfl) | exact by rw [hq4]; exact N8 g3 _ _ 5 _ rfl | exact (fun _ _ => by kernel_rfl) | refine ⟨?_,?_⟩ | intro h | exact Int.le_refl _ | decide | omega) fun X4 a0 w1 hF => ?_
 apply a7 hF rfl<;>intro hb hF
 .have tq4:gk g3 5=false:=by subst hB; rw [<-hq4]; revert hb; cases q4<;>simp [std]
  exact wp_ret ((rmm hB a6 hF (v:=()) (q:=p3) ((X3 2).A 0) ((X3 2).c 0) (by simp [G4,<-hup,<-hue,Rs.bind,t0,hrun,o5,hm3,tq4])).1)
 have tq4:gk g3 5=true:=by subst hB; rw [<-hq4]; revert hb; cases q4<;>simp [std]
 refine wp_skip (wp_seq ?_)
 rcases (aL 0 b J hJ ((X3 2).A 0) ((X3 2).c 0) p3 hp3 hn3 up).two (j1 _ _ _) hp3 hn3 with ⟨w5,p5,hm5,O1⟩ | ⟨g5,p5,hm5,hs5,hp5,hn5,S5⟩
 .refine stp 2 hB a6 [22,23] [0] [] hF O1 fun _ _ _ _ hF hk => ?_
  exact thm (P:=Tryz.prog) (fn:=Tryz.f236) (q:=p5) hF hk (by simp [G4,<-hup,<-hue,Rs.bind,t0,hrun,o5,hm3,tq4,hm5])
 have hl5:=B0 hm5;have hg5:=hp3.get hm5;have O1:=S5;refine rg hB a6 [0,3,4,6,7] [0,3,4,6,7] [(2,rc J (s5 g5) p5)] hF fun X5 a0 w1 hF => ?_
 obtain ⟨q6,hq6⟩:=eqv ((gk g5 3 || gk g5 4));refine wp_seq (wp_seq ?_);refine rg hB a6 [27,0,3,4,6,7] [0,3,4,6,7,26] [(2,.r fun _ => .bool (.v q6))] hF (hob:=by intro X; subst hB; simp only [b5,Ob.holds,BE.den]<;>and_intros<;>repeat first | trivial | rfl | exact (by rw [hq6]; exact dH g5 _ _ 3 4 _ rfl rfl) | exact by rw [hq6]; exact dH g5 _ _ 3 4 _ rfl rfl | exact (fun _ _ => by kernel_rfl) | refine ⟨?_,?_⟩ | intro h | exact Int.le_refl _ | decide | omega) fun X6 a0 w1 hF => ?_
 apply a7 hF rfl<;>intro hb hF
 .have tq6:(gk g5 3 || gk g5 4)=true:=by rw [<-hq6]; exact hb
  rcases (hfin n2 (by omega) 0 b J hJ ((X5 2).A 0) ((X5 2).c 0) p5 hp5 hn5 up hpar g5 hg5 (by have:=hl3; have:=hl5; omega)).two (bw _ _ _ _ _ _) hp5 hn5 with ⟨w7,p7,hm7,O1⟩ | ⟨v7,p7,hm7,hs7,hp7,hn7,S7⟩
  .refine stp 3 hB a6 [28,29,30] [0] [] hF O1 fun _ _ _ _ hF hk => ?_
   exact thm (P:=Tryz.prog) (fn:=Tryz.f236) (q:=p7) hF hk (by simp [G4,<-hup,<-hue,Rs.bind,t0,hrun,o5,hm3,tq4,hm5,tq6,hm7])
  have O1:=S7;refine rg hB a6 [0,3,4,6,7] [0,3,4,6,7] [(3,rc J (i7) p7)] hF fun X7 a0 w1 hF => ?_
  apply wp_seq
  rcases Bool.eq_false_or_eq_true (gk g5 2) with t8 | t8
  .rcases (eW 0 b J hJ ((X7 3).A 0) ((X7 3).c 0) p7 hp7 hn7 l g3.ver (asR 1 g3.x 0)).two (l3 _ _ _ _ _) hp7 hn7 with ⟨w8,p8,hm8,O1⟩ | ⟨d8,p8,hm8,hs8,hp8,hn8,S8⟩
   .refine iZ 12 hB a6 [36,37,38,40,43] [0] [(2,.r fun _ => .bool .tt),(11,.r fun _ => u9 (asR 1 g3.x 0))] hF O1 (hob:=by intro X; subst hB; simp only [b5,Ob.holds,BE.den]<;>and_intros<;>repeat first | trivial | rfl | exact ((N8 g5 _ _ 2 _ rfl).res fun _ => Sim.bool (by rw [t8]; rfl)) | exact rD 1 g3.x 0 | exact (fun _ _ => by kernel_rfl) | refine ⟨?_,?_⟩ | intro h | exact Int.le_refl _ | decide | omega) fun _ _ _ _ hF hk => ?_
    exact thm (P:=Tryz.prog) (fn:=Tryz.f236) (q:=p8) hF hk (by simp [G4,<-hup,<-hue,Rs.bind,t0,hrun,o5,hm3,tq4,hm5,tq6,hm7,t8,hm8])
   refine drg hB a6 [45,0,3,4] [0,3,4] [(2,.r fun _ => .bool .tt),(11,.r fun _ => u9 (asR 1 g3.x 0)),(12,rc J (.bool (.v d8)) p8)] hF (hob:=by intro X; subst hB; simp only [b5,Ob.holds,BE.den]<;>and_intros<;>repeat first | trivial | rfl | exact ((N8 g5 _ _ 2 _ rfl).res fun _ => Sim.bool (by rw [t8]; rfl)) | exact rD 1 g3.x 0 | exact S8 | exact (fun _ _ => by kernel_rfl) | refine ⟨?_,?_⟩ | intro h | exact Int.le_refl _ | decide | omega) fun X8 a0 w1 hF => ?_
   apply a7 hF rfl<;>intro hb hF
   .have t9:d8=true:=by exact hb
    exact wp_ret ((rmm hB a6 hF (v:=()) (q:=p8) ((X8 12).A 0) ((X8 12).c 0) (by simp [G4,<-hup,<-hue,Rs.bind,t0,hrun,o5,hm3,tq4,hm5,tq6,hm7,t8,hm8,t9])).1)
   have t9:d8=false:=by exact hb
   replace hF:=hF.keep [0,3,4] [0,3,4];exact wp_skip (⟨(n2,p8,_,_),⟨by rw [hrun]; simp [o5,Rs.bind,t0,hrun,o5,hm3,tq4,hm5,tq6,hm7,t8,hm8,t9],hp8,hn8,by dsimp only; have:=hl3; have:=hs5.le; have:=hs7.le; have:=hs8.le; have:=hf0; omega,by dsimp only; omega⟩,by simp only; omega,hF⟩)
  refine drg hB a6 [45,0,3,4] [0,3,4] [(2,.r fun _ => .bool .ff)] hF (hob:=by intro X; subst hB; simp only [b5,Ob.holds,BE.den]<;>and_intros<;>repeat first | trivial | rfl | exact ((N8 g5 _ _ 2 _ rfl).res fun _ => Sim.bool (by rw [t8]; rfl)) | exact rD 1 g3.x 0 | exact (fun _ _ => by kernel_rfl) | refine ⟨?_,?_⟩ | intro h | exact Int.le_refl _ | decide | omega) fun X8 a0 w1 hF => ?_
  refine j0 hF rfl (fun hF => ?_);exact wp_ret ((rmm hB a6 hF (v:=()) (q:=p7) ((X7 3).A 0) ((X7 3).c 0) (by simp [G4,<-hup,<-hue,Rs.bind,t0,hrun,o5,hm3,tq4,hm5,tq6,hm7,t8])).1)
 have tq6:(gk g5 3 || gk g5 4)=false:=by rw [<-hq6]; exact hb
 refine wp_skip (wp_seq ?_)
 rcases Bool.eq_false_or_eq_true (gk g5 2) with t8 | t8
 .rcases (eW 0 b J hJ ((X5 2).A 0) ((X5 2).c 0) p5 hp5 hn5 l g3.ver (asR 1 g3.x 0)).two (l3 _ _ _ _ _) hp5 hn5 with ⟨w8,p8,hm8,O1⟩ | ⟨d8,p8,hm8,hs8,hp8,hn8,S8⟩
  .refine iZ 12 hB a6 [36,37,38,40,43] [0] [(2,.r fun _ => .bool .tt),(11,.r fun _ => u9 (asR 1 g3.x 0))] hF O1 (hob:=by intro X; subst hB; simp only [b5,Ob.holds,BE.den]<;>and_intros<;>repeat first | trivial | rfl | exact ((N8 g5 _ _ 2 _ rfl).res fun _ => Sim.bool (by rw [t8]; rfl)) | exact rD 1 g3.x 0 | exact (fun _ _ => by kernel_rfl) | refine ⟨?_,?_⟩ | intro h | exact Int.le_refl _ | decide | omega) fun _ _ _ _ hF hk => ?_
   exact thm (P:=Tryz.prog) (fn:=Tryz.f236) (q:=p8) hF hk (by simp [G4,<-hup,<-hue,Rs.bind,t0,hrun,o5,hm3,tq4,hm5,tq6,t8,hm8])
  refine drg hB a6 [45,0,3,4] [0,3,4] [(2,.r fun _ => .bool .tt),(11,.r fun _ => u9 (asR 1 g3.x 0)),(12,rc J (.bool (.v d8)) p8)] hF (hob:=by intro X; subst hB; simp only [b5,Ob.holds,BE.den]<;>and_intros<;>repeat first | trivial | rfl | exact ((N8 g5 _ _ 2 _ rfl).res fun _ => Sim.bool (by rw [t8]; rfl)) | exact rD 1 g3.x 0 | exact S8 | exact (fun _ _ => by kernel_rfl) | refine ⟨?_,?_⟩ | intro h | exact Int.le_refl _ | decide | omega) fun X8 a0 w1 hF => ?_
  apply a7 hF rfl<;>intro hb hF
  .have t9:d8=true:=by exact hb
   exact wp_ret ((rmm hB a6 hF (v:=()) (q:=p8) ((X8 12).A 0) ((X8 12).c 0) (by simp [G4,<-hup,<-hue,Rs.bind,t0,hrun,o5,hm3,tq4,hm5,tq6,t8,hm8,t9])).1)
  have t9:d8=false:=by exact hb
  replace hF:=hF.keep [0,3,4] [0,3,4];exact wp_skip (⟨(n2,p8,_,_),⟨by rw [hrun]; simp [o5,Rs.bind,t0,hrun,o5,hm3,tq4,hm5,tq6,t8,hm8,t9],hp8,hn8,by dsimp only; have:=hl3; have:=hs5.le; have:=(Suf.refl p5).le; have:=hs8.le; have:=hf0; omega,by dsimp only; omega⟩,by simp only; omega,hF⟩)
 refine drg hB a6 [45,0,3,4] [0,3,4] [(2,.r fun _ => .bool .ff)] hF (hob:=by intro X; subst hB; simp only [b5,Ob.holds,BE.den]<;>and_intros<;>repeat first | trivial | rfl | exact ((N8 g5 _ _ 2 _ rfl).res fun _ => Sim.bool (by rw [t8]; rfl)) | exact rD 1 g3.x 0 | exact (fun _ _ => by kernel_rfl) | refine ⟨?_,?_⟩ | intro h | exact Int.le_refl _ | decide | omega) fun X8 a0 w1 hF => ?_
 refine j0 hF rfl (fun hF => ?_);exact wp_ret ((rmm hB a6 hF (v:=()) (q:=p5) ((X5 2).A 0) ((X5 2).c 0) (by simp [G4,<-hup,<-hue,Rs.bind,t0,hrun,o5,hm3,tq4,hm5,tq6,t8])).1)
theorem EP (k0 b:Nat) (J:i6) (hJ:k8 J) (A:Option Addr) (c:Nat) (p:Pst) (hp:i5 p) (hn:p.n<=1000000) (l:Lab) (hl:LOk l) (n:Nat) (hfin:∀ j,j < n -> AU j) (hf:p.n < n):B7 236 k0 b J A c p [b6 l] (fun _ => i7) (G4 J.bucket J.budget n l p):=B7.re (Cb b J hJ A c p hp hn l hl n hfin hf) (by repeat (first | exact trivial | refine ⟨zr,?_⟩))
theorem vq:∀ n,ThC n/\AU n:=by
 intro n
 induction n using Nat.strongRecOn with
 | _ n ih =>
  have h1:ThC n:=fun k0 b J hJ A c p hp hn l hl hf => EP k0 b J hJ A c p hp hn l hl n (fun j hj => (ih j hj).2) hf
  exact ⟨h1,fun k0 b J hJ A c p hp hn l hl g hg hf => FB k0 b J hJ A c p hp hn l hl g hg n h1 hf⟩
theorem EQ (n:Nat):ThC n:=(vq n).1
theorem FC (n:Nat):AU n:=(vq n).2
end Go.Proofs.YtodelmejfpkicaaGreat.Sym
namespace Go.Proofs.YtodelmejfpkicaaGreat.Sym
open Go.RowKit
theorem Sim.of_eq {v v':AV} (h:v=v'):Sim v v':=h ▸ Sim.refl v
inductive Rcv:FrameMode -> FrameMode -> AV -> Prop
 | no:Rcv .returning .returning .nili
 | yes (t:Nat) (v:AV):Rcv (.panicking [{ v:=.iface t v.den,recovered:=false }]) (.panicking [{ v:=.iface t v.den,recovered:=true }]) (.ifc t v)
def pW (P:Program) (f:FuncId) (u u':FrameMode) (x:AV) (args:List AV) (pre:List (Nat × Blk)) (res:f9 -> CR):Prop:=
 ∀ (m:Nat -> Nat -> Prop) (w:World),(∀ b o,m b o -> b < w.heap.size) -> (∀ v ∈ args,Ok m w v) -> J0 m w pre -> Ok m w x -> CallsD P f (args.map AV.den).toArray u w fun e um w' => um=u'/\U6 m w pre res e w'
section
variable {P:Program}
theorem ay {fn:Func} {c₀:Frame} {cs:List Frame} {U:FrameMode} {R:Ending -> World -> Prop} {e:Exit} {a:Act} {w:World} (h:bodyPost P fn R e a w):bodyPostS P fn c₀ cs (fun e u w => u=U/\R e w) e a ({ c₀ with mode:=U } :: cs) w:=by
 cases e with
 | normal => obtain ⟨h1,v,h2,h3⟩:=h; exact ⟨h1,U,rfl,v,h2,rfl,h3⟩
 | ret => obtain ⟨h1,v,h2,h3⟩:=h; exact ⟨h1,U,rfl,v,h2,rfl,h3⟩
 | panic ch => obtain ⟨h1,h2⟩:=h; exact ⟨h1,U,rfl,rfl,h2⟩
 | outgrown => exact ⟨U,rfl,h⟩
 | exit id => exact h.elim
 | goto l => exact h.elim
theorem gz {u u':FrameMode} {x:AV} (hr:Rcv u u' x) {m:Nat -> Nat -> Prop} {w:World} {pre:List (Nat × Blk)} (hm:∀ b o,m b o -> b < w.heap.size) (hp:J0 m w pre) {args:List AV} (hargs:∀ v ∈ args,Ok m w v) (hx:Ok m w x) {f:FuncId} {fn:Func} {id:Nat} {o:Oper} {rest after:Code} {ts:Array TypeId} {d:Nat} {R:Ending -> World -> Prop}
  (hf:P.funcs[f]? = some fn) {ops:Array Oper} (hbd:fn.body=some (.seq (.seq (.region id ops false) rest) after)) (hops:ops = #[o]) (ho:o.op = .call (Call.mk (.builtin .recover) #[] ts)) (hg:o.guard=none) (hd:o.dst=some d) (hn:args.length<=fn.ntmps) (hdn:d < fn.ntmps)
  (h:∀ a,b4 ⟨m,w,ats pre,[],noK⟩ (St.put ⟨fn.ntmps,B3 0 args,[],pre,[]⟩ (some d) x) a w -> rest.wp P (Exit.then (after.wp P (bodyPost P fn R)) (bodyPost P fn R)) a w):CallsD P f (args.map AV.den).toArray u w fun e um w' => um=u'/\R e w':=by
 subst hops;refine callsD_of_wpS hf hbd fun c₀ cs hu => ?_
 apply wpS_seq;apply wpS_seq;apply wpS_region;have h0:=ax hm hp hargs hn;have mono:Ok (St.m ⟨fn.ntmps,B3 0 args,[],pre,[]⟩ ⟨m,w,ats pre,[],noK⟩) w x:=hx.mono fun b' o u h1 h2 => ⟨h1,fun h => by
  rcases h with h | ⟨k,e,he,hat⟩ | ⟨k,e,he,_⟩
  .exact h2 h
  .exact h2 (hat ▸ hp.free _ (E8 he) o)
  cases he⟩
 have h1:=h0.put (some d) (fun t ht => by injection ht with ht; subst ht; exact hdn) x (fun _ => mono) x.den (fun _ => rfl);have h2:=h _ h1;have hrun:∀ a:Act,(execOp a.eval o).run P w = .ok .recover w:=by
  intro a;simp [execOp,ho,resolve,invoke,builtin]
 have hrg:List.range (#[o]:Array Oper).size=[0]:=rfl;rw [hrg];have hw:∀ tm:Array Value,Region.wanted o (yielded #[o] tm)=true:=by intro tm; simp [Region.wanted,hg]
 have fin1:∀ a w,after.wp P (bodyPost P fn R) a w -> after.wpS P (bodyPostS P fn c₀ cs (fun e um w' => um=u'/\R e w')) a ({ c₀ with mode:=u' } :: cs) w:=fun a w ha => wpS_of_wp (Code.wp_mono (fun e a w hb => ay hb) ha)
 have fin:∀ a,rest.wp P (Exit.then (after.wp P (bodyPost P fn R)) (bodyPost P fn R)) a w -> rest.wpS P (Exit.thenS (after.wpS P (bodyPostS P fn c₀ cs (fun e um w' => um=u'/\R e w'))) (bodyPostS P fn c₀ cs (fun e um w' => um=u'/\R e w'))) a ({ c₀ with mode:=u' } :: cs) w:=fun a ha => wpS_of_wp (Code.wp_mono (fun e a w hb => by
  cases e with
  | normal => exact fin1 a w hb
  | ret => exact ay (P:=P) (fn:=fn) (c₀:=c₀) (cs:=cs) (a:=a) (w:=w) (U:=u') (R:=R) (e:=.ret) hb
  | panic ch => exact ay (P:=P) (fn:=fn) (c₀:=c₀) (cs:=cs) (a:=a) (w:=w) (U:=u') (R:=R) (e:=.panic ch) hb
  | outgrown => exact ay (P:=P) (fn:=fn) (c₀:=c₀) (cs:=cs) (a:=a) (w:=w) (U:=u') (R:=R) (e:=.outgrown) hb
  | exit id => exact ay (P:=P) (fn:=fn) (c₀:=c₀) (cs:=cs) (a:=a) (w:=w) (U:=u') (R:=R) (e:=.exit id) hb
  | goto l => exact ay (P:=P) (fn:=fn) (c₀:=c₀) (cs:=cs) (a:=a) (w:=w) (U:=u') (R:=R) (e:=.goto l) hb) ha)
 have hsz:(args.map AV.den).toArray.size=args.length:=by simp
 have hact:({ tmps:=(args.map AV.den).toArray ++ Array.replicate (fn.ntmps - (args.map AV.den).toArray.size) undef,defers:=[] }:Act) = { tmps:=(args.map AV.den).toArray ++ Array.replicate (fn.ntmps - args.length) undef,defers:=[] }:=by rw [hsz]
 rw [hact]
 cases hr with
 | no =>
  have hrec:recoverD (c₀ :: cs)=none:=by simp [recoverD,hu]
  have hc:({ c₀ with mode:=.returning }:Frame)=c₀:=by rw [<-hu]
  have:=fin _ h2;rw [hc] at this
  simpa [wpOpsS,hw,hrun,hrec,hd,Exit.thenS,AV.den] using this
 | yes t v =>
  have hrec:recoverD (c₀ :: cs)=some (.iface t v.den,{ c₀ with mode:=.panicking [{ v:=.iface t v.den,recovered:=true }] } :: cs):=by simp [recoverD,hu]
  have:=fin _ h2
  simpa [wpOpsS,hw,hrun,hrec,hd,Exit.thenS,AV.den] using this
variable {C:Cx}
theorem jt {s:St} {a:Act} {w:World} {fn:Func} {R:Ending -> World -> Prop} {u u1:FrameMode} {f:FuncId} {l r:List AV} {ds:List Deferred} {x:AV} (h:b4 ⟨C.m0,C.w0,C.S,{ target:=.fn (.func f) (AV.denL r).toArray,args:=(AV.denL l).toArray } :: ds,C.K⟩ s a w) (hu:u ≠ .run) (hen:j3 P f)
  {pre:List (Nat × Blk)} {sets:List (Nat × List AV)} {v:AV} (hsp:pW P f u u1 x (l ++ r) pre (fun _ => ⟨v,sets,[]⟩)) (hok:∀ v ∈ l ++ r,Ok (s.m C) w v) (hx:Ok (s.m C) w x) (hpre:∀ e ∈ pre,f5 s.mem e.1=some e.2) (hnd:cE pre=true)
  (K:∀ w',b4 ⟨C.m0,C.w0,C.S,ds,C.K⟩ (s.eff (.sets (upd pre sets))) { tmps:=a.tmps,defers:=ds } w' -> Leaves P fn a.tmps R ds (settle u1) w'):Leaves P fn a.tmps R a.defers u w:=by
 have hlt:∀ b o,s.m C b o -> b < w.heap.size:=nB (C:=⟨C.m0,C.w0,C.S,{ target:=.fn (.func f) (AV.denL r).toArray,args:=(AV.denL l).toArray } :: ds,C.K⟩) h
 refine qI h hu hen hpre hnd (fun hp => (hsp (s.m C) w hlt hok hp hx).mono ?_) K
 rintro e u' w' ⟨rfl,x,rfl,_,hl⟩
 exact ⟨⟨_,rfl⟩,rfl,hl⟩
end
section
variable {C:Cx} {P:Program} {Q:Exit -> Act -> World -> Prop} {ops:Array Oper}
theorem iM {s:St} {a:Act} {w:World} {L rest:List Oper} {o:Oper} {x:Operand} {ti t d:Nat} {v:AV} {dd:TypeDesc} (hL:L=o :: rest) (hg:o.guard=none) (hop:o.op = .typeAssert x ti t true) (hdst:o.dst=some d) (h:b4 C s a w) (hd:d < s.nt) (hx:val s [] x = .ifc t v) (hu:P.underlying t=some dd) (hni:∀ ms,dd ≠ .interface ms)
  (K:∀ a',b4 C (s.put (some d) (.tup [v,.bool .tt])) a' w -> wpList P ops Q rest a' w):wpList P ops Q L a w:=by
 have hxv:=C2 h (q:=[]) (fun _ h => by cases h) (x:=x) (by rw [hx]; rfl);rw [hx] at hxv;have hok:Ok (s.m C) w v:=by cases hxv.2 with | ifc _ _ h => exact h
 refine jq hL hg hdst h hd (v:=.tup [v,.bool .tt]) ?_ (.tup _ (fun y hy => ?_)) K
 .have e:a.eval x = .iface t v.den:=hxv.1
  simp only [execOp,hop,e,AV.den,AV.denL,BE.den]
  cases dd<;>first | exact absurd rfl (hni _) | simp [Instr.typeAssert,run_underlying hu]
 simp only [List.mem_cons,List.not_mem_nil,or_false] at hy
 rcases hy with rfl | rfl
 .exact hok
 exact .bool _
end
end Go.Proofs.YtodelmejfpkicaaGreat.Sym
namespace Go.Proofs.YtodelmejfpkicaaGreat.Sym
open Go Go.RowKit
def btw (v lo hi:Int):Bool:=decide (lo<=v) && decide (v<=hi)
def G6 (J:i6):Bool:=btw J.bucket 1 16 && btw J.budget 0 2000 && btw J.how 1 2 && btw J.most 0 500 && decide ((J.pn:Int)<=500) && isL J.lab
def E6 (g:l9):Bool:=(decide (g.code=0) || decide (g.code=8)) && (if g.has=true then L5 g.x.r.kd g.x.r.n g.x.r.f g.x.r.nx g.x.r.mrk else decide (g.x.r.kd=0) && decide (g.x.r.n=0) && decide (g.x.r.nx=⟨0,0⟩) && decide (g.x.r.mrk=0))
def I7 (n:Nat) (f:Nat -> l9):Bool:=(List.range n).all fun j => E6 (f j)
theorem mO {n j:Nat} {f:Nat -> l9} (hj:j < n) (h:E6 (f j)=false):I7 n f=false:=by
 rw [Bool.eq_false_iff];intro h2;have:=List.all_eq_true.1 h2 j (List.mem_range.2 hj);rw [h] at this; cases this
theorem ly {n:Nat} {f:Nat -> l9} (h:∀ j,j < n -> E6 (f j)=true):I7 n f=true:=List.all_eq_true.2 fun j hj => h j (List.mem_range.1 hj)
theorem mP {n j:Nat} {f:Nat -> l9} (h:I7 n f=true) (hj:j < n):E6 (f j)=true:=List.all_eq_true.1 h j (List.mem_range.2 hj)
structure InG (g:l9):Prop where
 nx:U64 g.x.r.nx.bits
 ver:U64 g.ver
 len:g.x.r.n<=maxLen
 key:∀ i,i < g.x.r.n -> U64 (g.x.r.f i).key
theorem Di {g:l9} (h:InG g) (hg:E6 g=true):dX g:=by
 refine ⟨⟨h.nx,h.key,?_⟩,h.ver⟩;unfold E6 at hg;rw [Bool.and_eq_true] at hg;obtain ⟨_,h2⟩:=hg
 by_cases hh:g.has=true
 .rw [if_pos hh] at h2
  exact (V5 h2).2.2.1
 rw [if_neg hh] at h2;simp only [Bool.and_eq_true,decide_eq_true_eq] at h2;omega
abbrev cg (A:Option Addr) (n c:Nat) (f:Nat -> l9):AV:=.sl none A n c 8 (fun j => R8 (f j))
def nt0:Nt:=⟨11,false,⟨#[]⟩⟩
def oV (n:Nat) (f:Nat -> l9):Pst:=⟨n,f,nt0⟩
def i6.less (J:i6) (n:Nat):i6:={ J with budget:=J.budget - n }
structure bF (J:i6):Prop where
 lab:U64 J.lab.bits
 key:U64 J.key
 hi:U64 J.hi
theorem qJ {J:i6} {n:Nat} (hJ:bF J) (h:G6 J=true) (hn:n<=900000):k8 (J.less n):=by
 unfold G6 btw at h;simp only [Bool.and_eq_true,decide_eq_true_eq] at h;refine ⟨?_,?_,hJ.lab,hJ.key,hJ.hi⟩
 .show -1000000<=J.budget - n; omega
 show J.budget - n<=1000000; omega
theorem Fu {g:l9} (hg:E6 g=true):ym g:=by
 unfold E6 at hg;simp only [Bool.and_eq_true,Bool.or_eq_true,decide_eq_true_eq] at hg;obtain ⟨h1,h2⟩:=hg;refine ⟨h1,fun hh => ?_,fun hh => ?_⟩
 .rw [if_pos hh] at h2; exact h2
 rw [if_neg (by rw [hh]; decide)] at h2;simp only [Bool.and_eq_true,decide_eq_true_eq] at h2;exact ⟨h2.1.1.1,h2.1.1.2,h2.1.2,h2.2⟩
theorem qx {n:Nat} {f:Nat -> l9} (hin:∀ j,j < n -> InG (f j)) (h:I7 n f=true):i5 (oV n f):=fun j hj => ⟨Di (hin j hj) (mP h hj),Fu (mP h hj)⟩
abbrev vK (x:f9) (r:Rsl):AV:=.agg [.int .i64 r.code,.bool (.v r.had),.str r.val,.sl none (x.A 2) r.items.length (x.c 2) 2 (fun i => itC (itF r.items i)),.int .u64 r.key,.bool (.v r.more)]
abbrev yQ (r:Rsl):AV:=.agg [.int .i64 r.code,.bool (.v r.had),.str r.val,.sl none none 0 0 2 (fun _ => []),.int .u64 r.key,.bool (.v r.more)]
def ol (f:FuncId) (k0 b:Nat) (J:i6) (A:Option Addr) (c:Nat) (p:Pst) (args:List AV) (r:Rs Rsl):Prop:=
 M5 Tryz.prog f (.ptr k0 b 0 :: args) [(k0,⟨b,166,C0 J A c p⟩)] (fun x => match r with
  | .ok a p => .ret ⟨vK x a,[(k0,C0 J (x.A 0) (x.c 0) p)],[]⟩
  | .stop w p => .thr 40 (B5 (wqA x w)) [(k0,C0 J (x.A 0) (x.c 0) p)])
theorem B7.a {f:FuncId} {k0 b:Nat} {J:i6} {A:Option Addr} {c:Nat} {p:Pst} {args:List AV} {r:Rs Rsl} (h:B7 f k0 b J A c p args yQ r) (hr:∀ a q,r = .ok a q -> a.items=[]):ol f k0 b J A c p args r:=by
 intro m w h1 h2 h3;refine (h m w h1 h2 h3).mono ?_
 rintro e w' ⟨x,hx⟩
 cases r with
 | stop wq q => exact ⟨x,hx⟩
 | ok a q =>
  refine ⟨⟨x.b,fun i => if i=2 then none else x.A i,fun i => if i=2 then 0 else x.c i,x.s⟩,?_⟩;have hi:=hr a q rfl;obtain ⟨he,hok,hl⟩:=hx;have hs:Sim (yQ a) (vK ⟨x.b,fun i => if i=2 then none else x.A i,fun i => if i=2 then 0 else x.c i,x.s⟩ a):=by
   obtain ⟨c1,h1,v1,it,k1,m1⟩:=a;simp only at hi;subst hi;exact Sim.agg ⟨zr,zr,zr,zq0,zr,zr,trivial⟩
  exact ⟨by rw [he]; exact congrArg _ hs.1,hs.2.2 _ _ hok,hl⟩
theorem ol.ok {f:FuncId} {k0 b:Nat} {J:i6} {A:Option Addr} {c:Nat} {p q:Pst} {args:List AV} {r:Rs Rsl} {a:Rsl} (h:ol f k0 b J A c p args r) (e:r = .ok a q) :
  M5 Tryz.prog f (.ptr k0 b 0 :: args) [(k0,⟨b,166,C0 J A c p⟩)] (fun x => .ret ⟨vK x a,[(k0,C0 J (x.A 0) (x.c 0) q)],[]⟩):=by
 subst e; exact h
theorem ol.stop {f:FuncId} {k0 b:Nat} {J:i6} {A:Option Addr} {c:Nat} {p q:Pst} {args:List AV} {r:Rs Rsl} {w:Wq} (h:ol f k0 b J A c p args r) (e:r = .stop w q) :
  M5 Tryz.prog f (.ptr k0 b 0 :: args) [(k0,⟨b,166,C0 J A c p⟩)] (fun x => .thr 40 (B5 (wqA x w)) [(k0,C0 J (x.A 0) (x.c 0) q)]):=by
 subst e; exact h
theorem Fq {s s':St} {C C':Cx} (h0:∀ b o,C'.m0 b o -> C.m0 b o) (h:∀ x ∈ s'.mem,∃ k' e',f5 s.mem k'=some e'/\e'.at_=x.2.at_) (hg:s'.gr=[]) {b o:Nat} (hh:s'.m C' b o):s.m C b o:=by
 rcases hh with hh | ⟨k,e,he,hat⟩ | ⟨k,t,ht,_⟩
 .exact .inl (h0 b o hh)
 .obtain ⟨k',e',h1,h2⟩:=h _ (E8 he)
  exact .inr (.inl ⟨k',e',h1,h2.trans hat⟩)
 rw [hg] at ht; cases ht
theorem ol.ok' {f:FuncId} {k0 b:Nat} {J:i6} {A:Option Addr} {c:Nat} {p q:Pst} {args:List AV} {r:Rs Rsl} {a:Rsl} (h:ol f k0 b J A c p args r) (e:r = .ok a q) {nn:Nat} {ff:Nat -> Itm} (h1:nn=a.items.length) (h2:ff=itF a.items) :
  M5 Tryz.prog f (.ptr k0 b 0 :: args) [(k0,⟨b,166,C0 J A c p⟩)] (fun x => .ret ⟨.agg [.int .i64 a.code,.bool (.v a.had),.str a.val,.sl none (x.A 2) nn (x.c 2) 2 (fun i => itC (ff i)),.int .u64 a.key,.bool (.v a.more)],[(k0,C0 J (x.A 0) (x.c 0) q)],[]⟩):=by
 subst h1; subst h2; exact h.ok e
def fU (ok:Bool) (r:Rs Rsl):Wq × Int:=if ok=true then K0 r else (zWq,1)
abbrev wqB (x:f9) (w:Wq) (rr:RN) (nn:Nat) (ff:Nat -> Itm):u0:=⟨w.kind,w.lab,w.ver,⟨x.A 1,x.c 1,rr⟩,⟨w.res.code,w.res.had,w.res.val,x.A 2,nn,x.c 2,ff,w.res.key,w.res.more⟩⟩
theorem j5.wq {P:Program} {f:Nat} {args:List AV} {r:Wq × Int} (h:j5 P f args (fun x => .tup [B5 (wqA x r.1),.int .i64 r.2])) {w:Wq} {e:Int} {rr:RN} {nn:Nat} {ff:Nat -> Itm} (h1:w=r.1) (h2:e=r.2) (h3:rr=w.r.rn) (h4:nn=w.res.items.length) (h5:ff=itF w.res.items) :
  j5 P f args (fun x => .tup [B5 (wqB x w rr nn ff),.int .i64 e]):=by
 subst h1; subst h2; subst h3; subst h4; subst h5; exact h
end Go.Proofs.YtodelmejfpkicaaGreat.Sym
namespace Go.Proofs.YtodelmejfpkicaaGreat.Sym
open Go Go.ChangeShapes Go.WideShapes Go.ChangeAt Go.RowKit Go.Deep
def OkL (w:World) (l:List AV):Prop:=∀ v ∈ l,v.one=true/\Ok m0 w v
theorem OkL.nil {w:World}:OkL w []:=fun v hv => by cases hv
theorem OkL.cons {w:World} {v:AV} {l:List AV} (h1:v.one=true) (h2:Ok m0 w v) (h:OkL w l):OkL w (v :: l):=by
 intro u hu
 rcases List.mem_cons.1 hu with rfl | hu
 .exact ⟨h1,h2⟩
 exact h u hu
theorem OkL.int {w:World} {k:IntKind} {x:Int} {l:List AV} (h:OkL w l):OkL w (.int k x :: l):=.cons rfl (.int _ _) h
theorem OkL.bool {w:World} {b:BE} {l:List AV} (h:OkL w l):OkL w (.bool b :: l):=.cons rfl (.bool _) h
theorem OkL.append {w:World} {l l':List AV} (h:OkL w l) (h':OkL w l'):OkL w (l ++ l'):=by
 intro u hu
 rcases List.mem_append.1 hu with hu | hu
 .exact h u hu
 exact h' u hu
theorem OkL.agg {w:World} {l:List AV} (h:OkL w l):Ok m0 w (.agg l):=.agg _ (fun v hv => (h v hv).1) fun v hv => (h v hv).2
def yh (w:World) (x:l5):Prop:=OkL w (u7 x)/\x.x.r.n<=maxLen/\k4 x.lab/\k4 x.x.r.nx/\U64 x.ver/\∀ i,i < x.x.r.n -> U64 (x.x.r.f i).key
theorem k4.u64 {l:Lab} (h:k4 l):U64 l.bits:=jF h.2
theorem jQ {α : Type} [Inhabited α] {k:Nat} {cells:α -> List AV} {w:World} {A:Option Addr} {c:Nat} {l:List α} (hk:∀ x,(cells x).length=k) (hl:l.length<=c) (hc:c<=maxLen) (ho:∀ x ∈ l,OkL w (cells x))
  (h:0 < (l.flatMap fun x => (cells x).map AV.den).length -> ∃ b off,A=some ⟨b,off,none⟩/\∀ j u,(l.flatMap fun x => (cells x).map AV.den)[j]? = some u -> w.cell? ⟨b,off + j,none⟩=some u) (hk0:0 < k):Ok m0 w (.sl none A l.length c k (fun i => cells (l.getD i default))):=by
 have hg:∀ i (hi:i < l.length),l.getD i default=l[i]:=fun i hi => by simp [List.getD,hi]
 have hkm:∀ x,((cells x).map AV.den).length=k:=fun x => by rw [List.length_map,hk]
 have hpos:∀ i,i < l.length -> 0 < (l.flatMap fun x => (cells x).map AV.den).length:=fun i hi => by rw [C8 hkm]; exact Nat.mul_pos (by omega) hk0
 refine .sl _ _ _ _ _ _ hl hc (fun i _ => hk _) (fun i hi => ?_) (fun i hi j u hu => ?_) (fun i hi v hv => ?_) (fun i hi v hv => ?_)
 .obtain ⟨b,off,hA,_⟩:=h (hpos i hi); exact ⟨b,off,hA⟩
 .obtain ⟨b,off,hA,hcl⟩:=h (hpos i hi)
  rw [hg i hi] at hu;exact ⟨b,off,hA,hcl _ u (gt hkm (List.getElem?_eq_getElem hi) hu),id⟩
 .rw [hg i hi] at hv; exact (ho _ (List.getElem_mem hi) v hv).1
 rw [hg i hi] at hv; exact (ho _ (List.getElem_mem hi) v hv).2
section
variable {H:Type} {enc:TypeId × Value -> H} {w:World} {base:Nat} {spare:Nat -> Bool} {held:Bool}
theorem gF (n:Nat) (cs:List Value) (y:DataW H × List MemPlace) (h:DataW.trod enc Tryz.prog w base spare held n 24 cs=some y):∃ x:Lab,cs=[.int .i64 x.len,.int .u64 x.bits]/\k4 x:=by
 obtain ⟨xs,m,rfl,rfl,hlen,hxl,hf⟩:=DataW.trod_struct Tryz.underlying24 h;have hC:Tryz.prog.cellsOf 24=2:=by kernel_rfl
 have h0:DataW.trod enc Tryz.prog w base spare held m 3 ((cs.drop 0).take (Tryz.prog.cellsOf 3))=xs[0]?:=hf 0 _ rfl;have h1:DataW.trod enc Tryz.prog w base spare held m 22 ((cs.drop 1).take (Tryz.prog.cellsOf 22))=xs[1]?:=hf 1 _ rfl;rw [hC] at hlen;rw [show Tryz.prog.cellsOf 3=1 by kernel_rfl] at h0;rw [show Tryz.prog.cellsOf 22=1 by kernel_rfl] at h1
 match cs,hlen with
 | [c0,c1],_ =>
  match xs,hxl with
  | [y0,y1],_ =>
   obtain ⟨a,e0,_,wa⟩:=DataW.trod_int Tryz.underlying3 h0;obtain ⟨b,e1,_,wb⟩:=DataW.trod_int Tryz.underlying22 h1;simp at e0 e1;subst e0; subst e1;exact ⟨⟨a,b⟩,rfl,wa,wb⟩
theorem sW (n:Nat) (cs:List Value) (y:DataW H × List MemPlace) (h:DataW.trod enc Tryz.prog w base spare held n 33 cs=some y):∃ (A:Option Addr) (c k:Nat) (f:Nat -> Itm),cs=[(AV.sl none A k c 2 (fun i => itC (f i))).den]/\Ok m0 w (.sl none A k c 2 (fun i => itC (f i)))/\k<=maxLen/\∀ i,i < k -> U64 (f i).key:=by
 obtain ⟨A,c,l,e1,hr,hl,hm,hwf⟩:=eb (en:=itmE) Tryz.underlying33 (k:=2) (by kernel_rfl) K4 (by decide) Ap h;have hrow:Ok m0 w (l4 A l.length c (itF l)):=jn hl hm (fun x hx => (hwf x hx).1) fun hp => by
  obtain ⟨b,off,hA,_,hc⟩:=hr hp;exact ⟨b,off,hA,fun j u hu => ⟨hc j u hu,id⟩⟩
 exact ⟨A,c,l.length,itF l,e1,hrow,by omega,fun i hi => by simp only [itF,List.getD,List.getElem?_eq_getElem hi]; exact (hwf _ (List.getElem_mem hi)).2⟩
theorem pM (n:Nat) (cs:List Value) (y:DataW H × List MemPlace) (h:DataW.trod enc Tryz.prog w base spare held n 35 cs=some y):∃ x:RA,cs=(fR x).map AV.den/\OkL w (fR x)/\x.r.n<=maxLen/\k4 x.r.nx/\∀ i,i < x.r.n -> U64 (x.r.f i).key:=by
 obtain ⟨xs,m,rfl,rfl,hlen,hxl,hf⟩:=DataW.trod_struct Tryz.underlying35 h;have hC:Tryz.prog.cellsOf 35=5:=by kernel_rfl
 have h0:DataW.trod enc Tryz.prog w base spare held m 3 ((cs.drop 0).take (Tryz.prog.cellsOf 3))=xs[0]?:=hf 0 _ rfl;have h1:DataW.trod enc Tryz.prog w base spare held m 33 ((cs.drop 1).take (Tryz.prog.cellsOf 33))=xs[1]?:=hf 1 _ rfl;have h2:DataW.trod enc Tryz.prog w base spare held m 24 ((cs.drop 2).take (Tryz.prog.cellsOf 24))=xs[2]?:=hf 2 _ rfl;have h3:DataW.trod enc Tryz.prog w base spare held m 22 ((cs.drop 4).take (Tryz.prog.cellsOf 22))=xs[3]?:=hf 3 _ rfl;rw [hC] at hlen;rw [show Tryz.prog.cellsOf 3=1 by kernel_rfl] at h0;rw [show Tryz.prog.cellsOf 33=1 by kernel_rfl] at h1;rw [show Tryz.prog.cellsOf 24=2 by kernel_rfl] at h2;rw [show Tryz.prog.cellsOf 22=1 by kernel_rfl] at h3
 match cs,hlen with
 | [c0,c1,c2,c3,c4],_ =>
  match xs,hxl with
  | [y0,y1,y2,y3],_ =>
   obtain ⟨kd,e0,_,_⟩:=DataW.trod_int Tryz.underlying3 h0;obtain ⟨A,c,k,f,e1,hrow,hk,hky⟩:=sW _ _ _ h1;obtain ⟨nx,e2,hb⟩:=gF _ _ _ h2;obtain ⟨mk,e3,_,wm⟩:=DataW.trod_int Tryz.underlying22 h3;simp only [List.drop_zero,List.drop_succ_cons,List.take_succ_cons,List.take_zero,List.cons.injEq,and_true] at e0 e1 e2 e3;obtain ⟨e2,e4⟩:=e2;subst e0; subst e1; subst e2; subst e3; subst e4;exact ⟨⟨A,c,⟨k,f,kd,nx,mk⟩⟩,rfl,.int (.cons rfl hrow (.int (.int (.int .nil)))),hk,hb,hky⟩
theorem Am (n:Nat) (cs:List Value) (y:DataW H × List MemPlace) (h:DataW.trod enc Tryz.prog w base spare held n 110 cs=some y):∃ x:l5,cs=(u7 x).map AV.den/\yh w x:=by
 obtain ⟨xs,m,rfl,rfl,hlen,hxl,hf⟩:=DataW.trod_struct Tryz.underlying110 h;have hC:Tryz.prog.cellsOf 110=8:=by kernel_rfl
 have h0:DataW.trod enc Tryz.prog w base spare held m 24 ((cs.drop 0).take (Tryz.prog.cellsOf 24))=xs[0]?:=hf 0 _ rfl;have h1:DataW.trod enc Tryz.prog w base spare held m 22 ((cs.drop 2).take (Tryz.prog.cellsOf 22))=xs[1]?:=hf 1 _ rfl;have h2:DataW.trod enc Tryz.prog w base spare held m 35 ((cs.drop 3).take (Tryz.prog.cellsOf 35))=xs[2]?:=hf 2 _ rfl;rw [hC] at hlen;rw [show Tryz.prog.cellsOf 24=2 by kernel_rfl] at h0;rw [show Tryz.prog.cellsOf 22=1 by kernel_rfl] at h1;rw [show Tryz.prog.cellsOf 35=5 by kernel_rfl] at h2
 match cs,hlen with
 | [c0,c1,c2,c3,c4,c5,c6,c7],_ =>
  match xs,hxl with
  | [y0,y1,y2],_ =>
   obtain ⟨l,e0,hl⟩:=gF _ _ _ h0;obtain ⟨v,e1,_,wv⟩:=DataW.trod_int Tryz.underlying22 h1;obtain ⟨x,e2,hx,hn,hnx,hky⟩:=pM _ _ _ h2;simp only [List.drop_zero,List.drop_succ_cons,List.take_succ_cons,List.take_zero,List.cons.injEq,and_true,fR,List.map_cons,List.map_nil] at e0 e1 e2;obtain ⟨e0,e3⟩:=e0;obtain ⟨e4,e5,e6,e7,e8⟩:=e2;subst e0; subst e1; subst e3; subst e4; subst e5; subst e6; subst e7; subst e8;exact ⟨⟨l,v,x⟩,rfl,.int (.int (.int hx)),hn,hl,hnx,jF wv,hky⟩
theorem xH (n:Nat) (cs:List Value) (y:DataW H × List MemPlace) (h:DataW.trod enc Tryz.prog w base spare held n 3 cs=some y):∃ x:Int,cs=[Value.int .i64 x]/\True:=by
 obtain ⟨a,e0,_,_⟩:=DataW.trod_int Tryz.underlying3 h;exact ⟨a,e0,trivial⟩
theorem xG (n:Nat) (cs:List Value) (y:DataW H × List MemPlace) (h:DataW.trod enc Tryz.prog w base spare held n 25 cs=some y):∃ (A:Option Addr) (c k:Nat) (f:Nat -> Int),cs=[(AV.sl none A k c 1 (fun i => [.int .i64 (f i)])).den]/\Ok m0 w (.sl none A k c 1 (fun i => [.int .i64 (f i)])):=by
 obtain ⟨A,c,l,e1,hr,hl,hm,hwf⟩:=eb (en:=fun x:Int => [Value.int .i64 x]) Tryz.underlying25 (k:=1) (by kernel_rfl) (fun _ => rfl) (by decide) xH h;have hrow:Ok m0 w (.sl none A l.length c 1 (fun i => [.int .i64 (l.getD i default)])):=jQ (cells:=fun x:Int => [AV.int .i64 x]) (fun _ => rfl) hl hm (fun x _ => .int .nil) (fun hp => by
  obtain ⟨b,off,hA,_,hc⟩:=hr hp;exact ⟨b,off,hA,fun j u hu => hc j u hu⟩) (by decide)
 exact ⟨A,c,l.length,fun i => l.getD i default,e1,hrow⟩
theorem xF (n:Nat) (cs:List Value) (y:DataW H × List MemPlace) (h:DataW.trod enc Tryz.prog w base spare held n 28 cs=some y):∃ x1 x2 y1 y2:Int,cs=[.int .u32 x1,.int .u32 x2,.int .u32 y1,.int .u32 y2]:=by
 obtain ⟨xs,m,rfl,rfl,hlen,hxl,hf⟩:=DataW.trod_struct Tryz.underlying28 h;have hC:Tryz.prog.cellsOf 28=4:=by kernel_rfl
 have h0:DataW.trod enc Tryz.prog w base spare held m 26 ((cs.drop 0).take (Tryz.prog.cellsOf 26))=xs[0]?:=hf 0 _ rfl;have h1:DataW.trod enc Tryz.prog w base spare held m 26 ((cs.drop 1).take (Tryz.prog.cellsOf 26))=xs[1]?:=hf 1 _ rfl;have h2:DataW.trod enc Tryz.prog w base spare held m 26 ((cs.drop 2).take (Tryz.prog.cellsOf 26))=xs[2]?:=hf 2 _ rfl;have h3:DataW.trod enc Tryz.prog w base spare held m 26 ((cs.drop 3).take (Tryz.prog.cellsOf 26))=xs[3]?:=hf 3 _ rfl;rw [hC] at hlen;rw [show Tryz.prog.cellsOf 26=1 by kernel_rfl] at h0 h1 h2 h3
 match cs,hlen with
 | [c0,c1,c2,c3],_ =>
  match xs,hxl with
  | [y0,y1,y2,y3],_ =>
   obtain ⟨a0,e0,_,_⟩:=DataW.trod_int Tryz.underlying26 h0;obtain ⟨a1,e1,_,_⟩:=DataW.trod_int Tryz.underlying26 h1;obtain ⟨a2,e2,_,_⟩:=DataW.trod_int Tryz.underlying26 h2;obtain ⟨a3,e3,_,_⟩:=DataW.trod_int Tryz.underlying26 h3;simp at e0 e1 e2 e3;subst e0; subst e1; subst e2; subst e3;exact ⟨_,_,_,_,rfl⟩
theorem Ao (n:Nat) (cs:List Value) (y:DataW H × List MemPlace) (h:DataW.trod enc Tryz.prog w base spare held n 30 cs=some y):∃ x:i6,cs=(CX x).map AV.den/\OkL w (CX x)/\bF x:=by
 obtain ⟨xs,m,rfl,rfl,hlen,hxl,hf⟩:=DataW.trod_struct Tryz.underlying30 h;have hC:Tryz.prog.cellsOf 30=15:=by kernel_rfl
 have h0:DataW.trod enc Tryz.prog w base spare held m 3 ((cs.drop 0).take (Tryz.prog.cellsOf 3))=xs[0]?:=hf 0 _ rfl;have h1:DataW.trod enc Tryz.prog w base spare held m 24 ((cs.drop 1).take (Tryz.prog.cellsOf 24))=xs[1]?:=hf 1 _ rfl;have h2:DataW.trod enc Tryz.prog w base spare held m 22 ((cs.drop 3).take (Tryz.prog.cellsOf 22))=xs[2]?:=hf 2 _ rfl;have h3:DataW.trod enc Tryz.prog w base spare held m 22 ((cs.drop 4).take (Tryz.prog.cellsOf 22))=xs[3]?:=hf 3 _ rfl;have h4:DataW.trod enc Tryz.prog w base spare held m 9 ((cs.drop 5).take (Tryz.prog.cellsOf 9))=xs[4]?:=hf 4 _ rfl;have h5:DataW.trod enc Tryz.prog w base spare held m 3 ((cs.drop 6).take (Tryz.prog.cellsOf 3))=xs[5]?:=hf 5 _ rfl;have h6:DataW.trod enc Tryz.prog w base spare held m 25 ((cs.drop 7).take (Tryz.prog.cellsOf 25))=xs[6]?:=hf 6 _ rfl;have h7:DataW.trod enc Tryz.prog w base spare held m 28 ((cs.drop 8).take (Tryz.prog.cellsOf 28))=xs[7]?:=hf 7 _ rfl;have h8:DataW.trod enc Tryz.prog w base spare held m 3 ((cs.drop 12).take (Tryz.prog.cellsOf 3))=xs[8]?:=hf 8 _ rfl;have h9:DataW.trod enc Tryz.prog w base spare held m 3 ((cs.drop 13).take (Tryz.prog.cellsOf 3))=xs[9]?:=hf 9 _ rfl;have h10:DataW.trod enc Tryz.prog w base spare held m 3 ((cs.drop 14).take (Tryz.prog.cellsOf 3))=xs[10]?:=hf 10 _ rfl;rw [hC] at hlen;rw [show Tryz.prog.cellsOf 3=1 by kernel_rfl] at h0 h5 h8 h9 h10;rw [show Tryz.prog.cellsOf 24=2 by kernel_rfl] at h1;rw [show Tryz.prog.cellsOf 22=1 by kernel_rfl] at h2 h3;rw [show Tryz.prog.cellsOf 9=1 by kernel_rfl] at h4;rw [show Tryz.prog.cellsOf 25=1 by kernel_rfl] at h6;rw [show Tryz.prog.cellsOf 28=4 by kernel_rfl] at h7
 match cs,hlen with
 | [c0,c1,c2,c3,c4,c5,c6,c7,c8,c9,c10,c11,c12,c13,c14],_ =>
  match xs,hxl with
  | [y0,y1,y2,y3,y4,y5,y6,y7,y8,y9,y10],_ =>
   obtain ⟨kd,e0,_,_⟩:=DataW.trod_int Tryz.underlying3 h0;obtain ⟨l,e1,hl⟩:=gF _ _ _ h1;obtain ⟨ky,e2,_,wk⟩:=DataW.trod_int Tryz.underlying22 h2;obtain ⟨hi,e3,_,wh⟩:=DataW.trod_int Tryz.underlying22 h3;obtain ⟨vl,e4,_,ws⟩:=DataW.trod_string Tryz.underlying9 h4;obtain ⟨ms,e5,_,_⟩:=DataW.trod_int Tryz.underlying3 h5;obtain ⟨pA,pc,pn,pf,e6,hp⟩:=xG _ _ _ h6;obtain ⟨x1,x2,y1,y2,e7⟩:=xF _ _ _ h7;obtain ⟨hw,e8,_,_⟩:=DataW.trod_int Tryz.underlying3 h8;obtain ⟨bk,e9,_,_⟩:=DataW.trod_int Tryz.underlying3 h9;obtain ⟨bg,e10,_,_⟩:=DataW.trod_int Tryz.underlying3 h10;simp only [List.drop_zero,List.drop_succ_cons,List.take_succ_cons,List.take_zero,List.cons.injEq,and_true] at e0 e1 e2 e3 e4 e5 e6 e7 e8 e9 e10;obtain ⟨e1,f1⟩:=e1;obtain ⟨g0,g1,g2,g3⟩:=e7;subst e0; subst e1; subst f1; subst e2; subst e3; subst e4; subst e5; subst e6; subst g0; subst g1; subst g2; subst g3; subst e8; subst e9; subst e10;exact ⟨⟨kd,l,ky,hi,vl,ms,pA,pn,pc,pf,x1,x2,y1,y2,hw,bk,bg⟩,rfl,.int (.int (.int (.int (.int (.cons rfl (.str _ ws) (.int (.cons rfl hp (.int (.int (.int (.int (.int (.int (.int .nil)))))))))))))),hl.u64,jF wk,jF wh⟩
variable {r:Reach} {b0:Nat} {v:Value} {d:DataW H} {p:List MemPlace}
def BV (w:World) (v:Value):Prop:=∃ J:i6,v=(U2 J).den/\Ok m0 w (U2 J)/\bF J
def BU (w:World) (v:Value):Prop:=∃ (A:Option Addr) (n c:Nat) (f:Nat -> l5),v=(T6 A n c f).den/\Ok m0 w (T6 A n c f)/\n<=maxLen/\∀ i,i < n -> yh w (f i)
instance inhGot25 : Inhabited l9 := ⟨ox⟩
instance inhRow25 : Inhabited l5 := ⟨ou⟩
theorem zO (hv:Value.okWide Tryz.prog w r b0 46 v) (h:DataW.Trod enc Tryz.prog w base spare held 46 v d p):BU w v:=by
 obtain ⟨a,len,cap,rfl⟩:=okWide_slice Tryz.underlying46 hv;obtain ⟨fuel,hf⟩:=h;obtain ⟨A,c,l,e1,hr,hl,hm,hwf⟩:=eb (en:=fun x => (u7 x).map AV.den) (wf:=yh w) Tryz.underlying46 (k:=8) (by kernel_rfl) (fun _ => rfl) (by decide) Am hf;simp only [Value.cells,List.cons.injEq,and_true] at e1;rw [e1];refine ⟨A,l.length,c,fun i => l.getD i default,rfl,jQ (fun _ => rfl) hl hm (fun x hx => (hwf x hx).1) (fun hp => ?_) (by decide),by omega,fun i hi => ?_⟩
 .obtain ⟨b,off,hA,_,hc⟩:=hr hp
  exact ⟨b,off,hA,fun j u hu => hc j u hu⟩
 have:l.getD i default=l[i]:=by simp [List.getD,hi]
 simp only [this]; exact hwf _ (List.getElem_mem hi)
theorem CZ (hv:Value.okWide Tryz.prog w r b0 30 v) (h:DataW.Trod enc Tryz.prog w base spare held 30 v d p):BV w v:=by
 obtain ⟨cs,rfl,_⟩:=okWide_struct Tryz.underlying30 hv;obtain ⟨fuel,hf⟩:=h;obtain ⟨x,hx,hw⟩:=Ao _ _ _ hf;simp only [Value.cells] at hx;obtain ⟨l,rfl⟩:∃ l:List Value,cs=l.toArray:=⟨cs.toList,by simp⟩
 simp only [List.toList_toArray] at hx;subst hx;exact ⟨x,by simp [AV.den,AV.denL],hw.1.agg,hw.2⟩
end
abbrev vj (A:Option Addr) (n c:Nat) (f:Nat -> u0):AV:=.sl none A n c 15 (fun i => da (f i))
def yg (w:World) (x:u0):Prop:=OkL w (da x)/\x.x.r.n<=maxLen/\k4 x.lab/\k4 x.x.r.nx/\∀ i,i < x.x.r.n -> U64 (x.x.r.f i).key
section
variable {H:Type} {enc:TypeId × Value -> H} {w:World} {base:Nat} {spare:Nat -> Bool} {held:Bool}
abbrev Cy (s:lI):List AV:=[.int .i64 s.code,.bool (.v s.had),.str s.val,.sl none s.A s.n s.c 2 (fun i => itC (s.f i)),.int .u64 s.key,.bool (.v s.more)]
theorem An (n:Nat) (cs:List Value) (y:DataW H × List MemPlace) (h:DataW.trod enc Tryz.prog w base spare held n 38 cs=some y):∃ x:lI,cs=(Cy x).map AV.den/\OkL w (Cy x):=by
 obtain ⟨xs,m,rfl,rfl,hlen,hxl,hf⟩:=DataW.trod_struct Tryz.underlying38 h;have hC:Tryz.prog.cellsOf 38=6:=by kernel_rfl
 have h0:DataW.trod enc Tryz.prog w base spare held m 36 ((cs.drop 0).take (Tryz.prog.cellsOf 36))=xs[0]?:=hf 0 _ rfl;have h1:DataW.trod enc Tryz.prog w base spare held m 4 ((cs.drop 1).take (Tryz.prog.cellsOf 4))=xs[1]?:=hf 1 _ rfl;have h2:DataW.trod enc Tryz.prog w base spare held m 9 ((cs.drop 2).take (Tryz.prog.cellsOf 9))=xs[2]?:=hf 2 _ rfl;have h3:DataW.trod enc Tryz.prog w base spare held m 33 ((cs.drop 3).take (Tryz.prog.cellsOf 33))=xs[3]?:=hf 3 _ rfl;have h4:DataW.trod enc Tryz.prog w base spare held m 22 ((cs.drop 4).take (Tryz.prog.cellsOf 22))=xs[4]?:=hf 4 _ rfl;have h5:DataW.trod enc Tryz.prog w base spare held m 4 ((cs.drop 5).take (Tryz.prog.cellsOf 4))=xs[5]?:=hf 5 _ rfl;rw [hC] at hlen;rw [show Tryz.prog.cellsOf 36=1 by kernel_rfl] at h0;rw [show Tryz.prog.cellsOf 4=1 by kernel_rfl] at h1 h5;rw [show Tryz.prog.cellsOf 9=1 by kernel_rfl] at h2;rw [show Tryz.prog.cellsOf 33=1 by kernel_rfl] at h3;rw [show Tryz.prog.cellsOf 22=1 by kernel_rfl] at h4
 match cs,hlen with
 | [c0,c1,c2,c3,c4,c5],_ =>
  match xs,hxl with
  | [y0,y1,y2,y3,y4,y5],_ =>
   obtain ⟨a,e0,_,_⟩:=DataW.trod_int Tryz.underlying36 h0;obtain ⟨b,e1,_⟩:=DataW.trod_bool Tryz.underlying4 h1;obtain ⟨s,e2,_,ws⟩:=DataW.trod_string Tryz.underlying9 h2;obtain ⟨A,c,k,f,e3,hrow,hk,_⟩:=sW _ _ _ h3;obtain ⟨kk,e4,_,_⟩:=DataW.trod_int Tryz.underlying22 h4;obtain ⟨mo,e5,_⟩:=DataW.trod_bool Tryz.underlying4 h5;simp only [List.drop_zero,List.drop_succ_cons,List.take_succ_cons,List.take_zero,List.cons.injEq,and_true] at e0 e1 e2 e3 e4 e5;subst e0; subst e1; subst e2; subst e3; subst e4; subst e5;exact ⟨⟨a,b,s,A,k,c,f,kk,mo⟩,rfl,.int (.bool (.cons rfl (.str _ ws) (.cons rfl hrow (.int (.bool .nil)))))⟩
theorem Al (n:Nat) (cs:List Value) (y:DataW H × List MemPlace) (h:DataW.trod enc Tryz.prog w base spare held n 40 cs=some y):∃ x:u0,cs=(da x).map AV.den/\yg w x:=by
 obtain ⟨xs,m,rfl,rfl,hlen,hxl,hf⟩:=DataW.trod_struct Tryz.underlying40 h;have hC:Tryz.prog.cellsOf 40=15:=by kernel_rfl
 have h0:DataW.trod enc Tryz.prog w base spare held m 3 ((cs.drop 0).take (Tryz.prog.cellsOf 3))=xs[0]?:=hf 0 _ rfl;have h1:DataW.trod enc Tryz.prog w base spare held m 24 ((cs.drop 1).take (Tryz.prog.cellsOf 24))=xs[1]?:=hf 1 _ rfl;have h2:DataW.trod enc Tryz.prog w base spare held m 22 ((cs.drop 3).take (Tryz.prog.cellsOf 22))=xs[2]?:=hf 2 _ rfl;have h3:DataW.trod enc Tryz.prog w base spare held m 35 ((cs.drop 4).take (Tryz.prog.cellsOf 35))=xs[3]?:=hf 3 _ rfl;have h4:DataW.trod enc Tryz.prog w base spare held m 38 ((cs.drop 9).take (Tryz.prog.cellsOf 38))=xs[4]?:=hf 4 _ rfl;rw [hC] at hlen;rw [show Tryz.prog.cellsOf 3=1 by kernel_rfl] at h0;rw [show Tryz.prog.cellsOf 24=2 by kernel_rfl] at h1;rw [show Tryz.prog.cellsOf 22=1 by kernel_rfl] at h2;rw [show Tryz.prog.cellsOf 35=5 by kernel_rfl] at h3;rw [show Tryz.prog.cellsOf 38=6 by kernel_rfl] at h4
 match cs,hlen with
 | [c0,c1,c2,c3,c4,c5,c6,c7,c8,c9,c10,c11,c12,c13,c14],_ =>
  match xs,hxl with
  | [y0,y1,y2,y3,y4],_ =>
   obtain ⟨k,e0,_,_⟩:=DataW.trod_int Tryz.underlying3 h0;obtain ⟨l,e1,hl⟩:=gF _ _ _ h1;obtain ⟨v,e2,_,wv⟩:=DataW.trod_int Tryz.underlying22 h2;obtain ⟨x,e3,hx,hn,hnx,hky⟩:=pM _ _ _ h3;obtain ⟨s,e4,hs⟩:=An _ _ _ h4;simp only [List.drop_zero,List.drop_succ_cons,List.take_succ_cons,List.take_zero,List.cons.injEq,and_true,fR,Cy,List.map_cons,List.map_nil] at e0 e1 e2 e3 e4;obtain ⟨e1,e5⟩:=e1;obtain ⟨e6,e7,e8,e9,e10⟩:=e3;obtain ⟨e11,e12,e13,e14,e15,e16⟩:=e4;subst e0; subst e1; subst e2; subst e5; subst e6; subst e7; subst e8; subst e9; subst e10; subst e11; subst e12; subst e13; subst e14; subst e15; subst e16;exact ⟨⟨k,l,v,x,s⟩,rfl,.int (.int (.int (.int (hx.append hs)))),hn,hl,hnx,hky⟩
variable {r:Reach} {b0:Nat} {v:Value} {d:DataW H} {p:List MemPlace}
def yl (w:World) (v:Value):Prop:=∃ (A:Option Addr) (n c:Nat) (f:Nat -> u0),v=(vj A n c f).den/\Ok m0 w (vj A n c f)/\n<=maxLen/\∀ i,i < n -> yg w (f i)
instance inhWnt25 : Inhabited u0 := ⟨⟨0, ⟨0, 0⟩, 0, zRA, ⟨0, false, .empty, none, 0, 0, fun _ => r7, 0, false⟩⟩⟩
theorem zN (hv:Value.okWide Tryz.prog w r b0 47 v) (h:DataW.Trod enc Tryz.prog w base spare held 47 v d p):yl w v:=by
 obtain ⟨a,len,cap,rfl⟩:=okWide_slice Tryz.underlying47 hv;obtain ⟨fuel,hf⟩:=h;obtain ⟨A,c,l,e1,hr,hl,hm,hwf⟩:=eb (en:=fun x => (da x).map AV.den) (wf:=yg w) Tryz.underlying47 (k:=15) (by kernel_rfl) (fun _ => rfl) (by decide) Al hf;simp only [Value.cells,List.cons.injEq,and_true] at e1;rw [e1];refine ⟨A,l.length,c,fun i => l.getD i default,rfl,jQ (fun _ => rfl) hl hm (fun x hx => (hwf x hx).1) (fun hp => ?_) (by decide),by omega,fun i hi => ?_⟩
 .obtain ⟨b,off,hA,_,hc⟩:=hr hp
  exact ⟨b,off,hA,fun j u hu => hc j u hu⟩
 have:l.getD i default=l[i]:=by simp [List.getD,hi]
 simp only [this]; exact hwf _ (List.getElem_mem hi)
end
end Go.Proofs.YtodelmejfpkicaaGreat.Sym
namespace Go.Proofs.YtodelmejfpkicaaGreat.Sym
open Go Go.RowKit
abbrev cU:Lab:=⟨0,0⟩
structure Spt where
 lab:Lab
 g:l9
def eU:Rec:=⟨1,[],B2,0⟩
theorem xk {g:l9} {k:Int} (h:gk g k=true):g.has=true/\g.x.r.kd=k:=by
 unfold gk at h;simp only [Bool.and_eq_true,decide_eq_true_eq] at h;exact h
def D6 (bk k:Int):Nat -> Lab -> List Lab -> Pst -> Rs (List Lab)
 | 0,_,_,p => .stop zWq p
 | n + 1,l,o,p => (R1 k l p).bind fun g p =>
   if gk g 1=true then (C7 k n l p).bind fun _ p => .ok (o ++ [l]) p
   else if gk g 2=true then (if chE l 0=0 then (D6 bk k n (chV l 0) o p).bind fun o p => D6 bk k n (chV l 1) o p else .ok o p)
   else if (gk g 3 || gk g 4)=true then (Y5 bk k n l g p).bind fun _ p => D6 bk k n l o p
   else if gk g 5=true then (G4 bk k n l p).bind fun _ p => D6 bk k n l o p
   else if 0 < l.len then .ok o p
   else (T0 k l g.ver eU p).bind fun _ p => D6 bk k n l o p
def wR (x:RA) (nx:Lab):Rec:=⟨1,b7 x.r.f x.r.n,nx,0⟩
def aU (k:Int):List Lab -> Pst -> Rs Unit
 | [],p => .ok () p
 | l :: ls,p => (R1 k l p).bind fun g p => if gk g 1=true/\g.x.r.nx ≠ ls.headD B2 then (T0 k l g.ver (wR g.x (ls.headD B2)) p).bind fun _ p => aU k ls p else aU k ls p
def Y1 (bk k:Int) (p:Pst):Rs Rsl:=(D6 bk k (p.n + 1) cU [] p).bind fun o p => (aU k o p).bind fun _ p => .ok ⟨0,false,⟨#[]⟩,[],(o.length:Int),false⟩ p
def E4 (J:i6) (n:Nat) (f:Nat -> l9):Wq × Int:=fU (G6 J && decide (J.kind=6) && I7 n f) (Y1 J.bucket (J.budget - n) (oV n f))
theorem U3 (bk k:Int):∀ n l o p,Fro p (D6 bk k n l o p)
 | 0,l,o,p => dL _ _
 | n + 1,l,o,p => (j1 _ _ _).bind fun _ _ _ => o7 ((J2 _ _ _ _).bind fun _ _ _ => u3 _ _) (o7 (o7 ((U3 bk k n _ _ _).bind fun _ _ _ => U3 bk k n _ _ _) (u3 _ _)) (o7 ((bw _ _ _ _ _ _).bind fun _ _ _ => U3 bk k n _ _ _) (o7 ((F5 _ _ _ _ _).bind fun _ _ _ => U3 bk k n _ _ _) (o7 (u3 _ _) ((l3 _ _ _ _ _).bind fun _ _ _ => U3 bk k n _ _ _)))))
theorem nO (k:Int):∀ ls p,Fro p (aU k ls p)
 | [],p => u3 _ _
 | l :: ls,p => (j1 _ _ _).bind fun _ _ _ => o7 ((l3 _ _ _ _ _).bind fun _ _ _ => nO k ls _) (nO k ls _)
structure AR (o:List Lab):Prop where
 lab:∀ l ∈ o,LOk l
theorem dZ {bk k:Int}:∀ {n:Nat} {l:Lab} {o o':List Lab} {p q:Pst},LOk l -> AR o -> D6 bk k n l o p = .ok o' q -> AR o'/\o'.length + q.n<=o.length + p.n
 | 0,l,o,o',p,q,_,_,h => by cases h
 | n + 1,l,o,o',p,q,hl,ho,h => by
  unfold D6 at h
  cases h1:R1 k l p with
  | stop w p1 => rw [h1] at h; cases h
  | ok g p1 =>
   rw [h1] at h;have hlt:=B0 h1;simp only [Rs.bind] at h
   split at h
   .cases h2:C7 k n l p1 with
    | stop w p2 => rw [h2] at h; cases h
    | ok u p2 =>
     rw [h2] at h;have hs:=((J2 _ _ _ _).of h2).le;injection h with h h'
     subst h; subst h';refine ⟨⟨fun x hx => ?_⟩,?_⟩
     .rcases List.mem_append.1 hx with hx | hx
      .exact ho.lab x hx
      simp at hx; rw [hx]; exact hl
     rw [List.length_append,List.length_singleton]; omega
   split at h
   .split at h
    .cases h2:D6 bk k n (chV l 0) o p1 with
     | stop w p2 => rw [h2] at h; cases h
     | ok o2 p2 =>
      rw [h2] at h;obtain ⟨a1,a2⟩:=dZ (hl.ch 0) ho h2;obtain ⟨b1,b2⟩:=dZ (hl.ch 1) a1 h;exact ⟨b1,by omega⟩
    injection h with h h'; subst h; subst h'
    exact ⟨ho,by omega⟩
   split at h
   .cases h2:Y5 bk k n l g p1 with
    | stop w p2 => rw [h2] at h; cases h
    | ok u p2 =>
     rw [h2] at h;have hs:=((bw _ _ _ _ _ _).of h2).le;obtain ⟨a1,a2⟩:=dZ hl ho h;exact ⟨a1,by omega⟩
   split at h
   .cases h2:G4 bk k n l p1 with
    | stop w p2 => rw [h2] at h; cases h
    | ok u p2 =>
     rw [h2] at h;have hs:=((F5 _ _ _ _ _).of h2).le;obtain ⟨a1,a2⟩:=dZ hl ho h;exact ⟨a1,by omega⟩
   split at h
   .injection h with h h'; subst h; subst h'
    exact ⟨ho,by omega⟩
   cases h2:T0 k l g.ver eU p1 with
   | stop w p2 => rw [h2] at h; cases h
   | ok u p2 =>
    rw [h2] at h;have hs:=((l3 _ _ _ _ _).of h2).le;obtain ⟨a1,a2⟩:=dZ hl ho h;exact ⟨a1,by omega⟩
theorem Z7 {bk k:Int}:∀ {n:Nat} {l:Lab} {o o':List Lab} {p q:Pst},D6 bk k n l o p = .ok o' q -> o'.length + q.n<=o.length + p.n
 | 0,l,o,o',p,q,h => by cases h
 | n + 1,l,o,o',p,q,h => by
  unfold D6 at h
  cases h1:R1 k l p with
  | stop w p1 => rw [h1] at h; cases h
  | ok g p1 =>
   rw [h1] at h;have hlt:=B0 h1;simp only [Rs.bind] at h
   split at h
   .cases h2:C7 k n l p1 with
    | stop w p2 => rw [h2] at h; cases h
    | ok u p2 =>
     rw [h2] at h;have hs:=((J2 _ _ _ _).of h2).le;injection h with h h'
     subst h; subst h';rw [List.length_append,List.length_singleton]; omega
   split at h
   .split at h
    .cases h2:D6 bk k n (chV l 0) o p1 with
     | stop w p2 => rw [h2] at h; cases h
     | ok o2 p2 =>
      rw [h2] at h;have a2:=Z7 h2;have b2:=Z7 h;omega
    injection h with h h'; subst h; subst h'; omega
   split at h
   .cases h2:Y5 bk k n l g p1 with
    | stop w p2 => rw [h2] at h; cases h
    | ok u p2 =>
     rw [h2] at h;have hs:=((bw _ _ _ _ _ _).of h2).le;have a2:=Z7 h;omega
   split at h
   .cases h2:G4 bk k n l p1 with
    | stop w p2 => rw [h2] at h; cases h
    | ok u p2 =>
     rw [h2] at h;have hs:=((F5 _ _ _ _ _).of h2).le;have a2:=Z7 h;omega
   split at h
   .injection h with h h'; subst h; subst h'; omega
   cases h2:T0 k l g.ver eU p1 with
   | stop w p2 => rw [h2] at h; cases h
   | ok u p2 =>
    rw [h2] at h;have hs:=((l3 _ _ _ _ _).of h2).le;have a2:=Z7 h;omega
def RA.er (x:RA):RA:=⟨none,0,x.r⟩
def l9.er (g:l9):l9:=⟨g.code,g.ver,g.has,g.x.er⟩
def Pst.er (p:Pst):Pst:=⟨p.n,fun j => (p.g j).er,p.note⟩
def Rs.er {α : Type} (e:α -> α):Rs α -> Rs α
 | .ok a p => .ok (e a) p.er
 | .stop w p => .stop w p.er
def Fz.er:Fz -> Fz
 | .over => .over
 | .unfit => .unfit
 | .fr x => .fr x.er
def Spt.er (s:Spt):Spt:=⟨s.lab,s.g.er⟩
section
variable {α β : Type} {e:α -> α} {e2:β -> β}
theorem l6 {m m':Rs α} {f f':α -> Pst -> Rs β} (h:m.er e=m') (hf:∀ a q,(f a q).er e2=f' (e a) q.er):(m.bind f).er e2=m'.bind f':=by
 subst h
 cases m with
 | ok a p => exact hf a p
 | stop w p => rfl
theorem B6 {c:Prop} [Decidable c] {x y x' y':Rs α} (hx:x.er e=x') (hy:y.er e=y'):(if c then x else y).er e=if c then x' else y':=by
 split<;>assumption
end
theorem qX (k:Int) (w:Wq) (p:Pst):(U5 k w p).er l9.er=U5 k w p.er:=by
 unfold U5
 by_cases h:0 < p.n/\0 < (p.n:Int) + k
 .rw [if_pos h,if_pos (show 0 < p.er.n/\0 < (p.er.n:Int) + k from h)]; rfl
 rw [if_neg h,if_neg (show ¬ (0 < p.er.n/\0 < (p.er.n:Int) + k) from h)]; rfl
theorem bI (k:Int) (l:Lab) (p:Pst):(R1 k l p).er l9.er=R1 k l p.er:=qX _ _ _
theorem dO (k:Int) (l:Lab) (v:Int) (r:Rec) (p:Pst):(T0 k l v r p).er id=T0 k l v r p.er:=l6 (qX _ _ _) fun _ _ => rfl
theorem Dq (k:Int) (l:Lab) (v:Int) (p:Pst):(iD k l v p).er id=iD k l v p.er:=l6 (qX _ _ _) fun _ _ => rfl
theorem nT (k:Int) (l:Lab) (v:Int) (c:Lab) (x:Rec):∀ n p,(s8 k l v c x n p).er id=s8 k l v c x n p.er
 | 0,p => rfl
 | n + 1,p => l6 (bI _ _ _) fun _ _ => B6 rfl (l6 (bI _ _ _) fun _ _ => B6 (l6 (dO _ _ _ _ _) fun _ _ => B6 rfl (nT k l v c x n _)) rfl)
theorem xp (k:Int) (n:Nat) (l:Lab) (v:Int) (x:RA) (p:Pst):(l7 k n l v x p).er id=l7 k n l v x.er p.er:=
 B6 (l6 (nT _ _ _ _ _ _ _) fun _ _ => B6 (l6 (nT _ _ _ _ _ _ _) fun _ _ => B6 (l6 (dO _ _ _ _ _) fun _ _ => rfl) rfl) rfl) rfl
theorem qV (k:Int) (l:Lab) (v:Int) (c:Lab):∀ n p,(L6 k l v c n p).er Fz.er=L6 k l v c n p.er
 | 0,p => rfl
 | n + 1,p => l6 (bI _ _ _) fun _ _ => B6 (B6 rfl (l6 (bI _ _ _) fun _ _ => B6 (l6 (dO _ _ _ _ _) fun _ _ => B6 rfl (qV k l v c n _)) rfl)) rfl
theorem sP (k:Int) (l:Lab) (cl:Lab -> Pst -> Rs Unit) (h:∀ c p,(cl c p).er id=cl c p.er) (c:Lab) (p:Pst):(G7 k l cl c p).er id=G7 k l cl c p.er:=
 l6 (bI _ _ _) fun _ _ => B6 (l6 (h _ _) fun _ _ => l6 (bI _ _ _) fun _ _ => B6 (l6 (Dq _ _ _ _) fun _ _ => rfl) rfl) rfl
theorem nU (k:Int):∀ n l p,(C7 k n l p).er id=C7 k n l p.er
 | 0,l,p => rfl
 | n + 1,l,p => B6 rfl (l6 (sP _ _ _ (nU k n) _ _) fun _ _ => B6 (l6 (sP _ _ _ (nU k n) _ _) fun _ _ => rfl) rfl)
theorem qW (k:Int) (th:Lab -> Pst -> Rs Unit) (h:∀ c p,(th c p).er id=th c p.er) (l:Lab) (v:Int) (p:Pst):(aO k th l v p).er id=aO k th l v p.er:=
 l6 (dO _ _ _ _ _) fun _ _ => B6 (l6 (h _ _) fun _ _ => h _ _) rfl
theorem Dn (bk k:Int) (n:Nat) (th:Lab -> Pst -> Rs Unit) (h:∀ c p,(th c p).er id=th c p.er) (l:Lab) (v:Int) (p:Pst):(L0 bk k n th l v p).er id=L0 bk k n th l v p.er:=
 l6 (qV _ _ _ _ _ _) fun a _ => match a with
  | .over => rfl
  | .unfit => qW _ _ h _ _ _
  | .fr a => l6 (qV _ _ _ _ _ _) fun b _ => match b with
   | .over => rfl
   | .unfit => qW _ _ h _ _ _
   | .fr b => B6 (l6 (dO _ _ _ _ _) fun _ _ => B6 (nU _ _ _ _) rfl) (qW _ _ h _ _ _)
theorem xq (bk k:Int) (n:Nat) (th:Lab -> Pst -> Rs Unit) (h:∀ c p,(th c p).er id=th c p.er) (l:Lab) (g:l9) (p:Pst):(dM bk k n th l g p).er id=dM bk k n th l g.er p.er:=
 B6 (xp _ _ _ _ _ _) (B6 (Dn _ _ _ _ h _ _ _) rfl)
theorem nS (bk k:Int):∀ n l up p,(db bk k n l up p).er id=db bk k n l up p.er
 | 0,l,up,p => rfl
 | n + 1,l,up,p => by
  unfold db;refine l6 (bI _ _ _) fun g q => B6 (l6 (bI _ _ _) fun q2 p2 => ?_) rfl
  have H:=xq bk k n (fun c p => if Q8 c=0 then db bk k n c (P5 c) p else .ok () p) (fun c p => B6 (nS bk k n c (P5 c) p) rfl) up q2 p2;refine l6 (e:=id) (B6 H rfl) fun _ p3 => ?_
  exact B6 (l6 (dO _ _ _ _ _) fun _ _ => B6 rfl (nS bk k n _ _ _)) rfl
theorem xn (bk k:Int) (n:Nat) (l:Lab) (p:Pst):(G4 bk k n l p).er id=G4 bk k n l p.er:=B6 (nS _ _ _ _ _ _) rfl
theorem Dp (bk k:Int) (n:Nat) (l:Lab) (g:l9) (p:Pst):(Y5 bk k n l g p).er id=Y5 bk k n l g.er p.er:=xq _ _ _ _ (xn _ _ _) _ _ _
theorem yD (r:Rs Rsl):K0 (r.er id)=K0 r:=by cases r<;>rfl
structure U7 (r:Rec):Prop where
 nx:U64 r.next.bits
 few:r.items.length<=16
 key:∀ x ∈ r.items,U64 x.key
structure uZ (w:Wq):Prop where
 lab:LOk w.lab
 r:U7 w.r
def T2 {α : Type} (r:Rs α):Prop:=match r with
 | .ok _ _ => True
 | .stop w _ => uZ w
theorem P9:U7 i8:=⟨⟨by decide,by decide⟩,by decide,fun x hx => by cases hx⟩
theorem vW:U7 dI:=⟨⟨by decide,by decide⟩,by decide,fun x hx => by cases hx⟩
theorem U8.ro {x:RA} (h:U8 x):U7 x.r.abs:=by
 refine ⟨h.nx,?_,fun y hy => ?_⟩
 .show (b7 x.r.f x.r.n).length<=16
  rw [i3]; exact h.few
 obtain ⟨i,hi,rfl⟩:=List.mem_map.1 hy;exact h.key i (List.mem_range.1 hi)
theorem iH:uZ zWq:=⟨kv,P9⟩
theorem k7 {α β : Type} {m:Rs α} {f:α -> Pst -> Rs β} (h:T2 m) (hf:∀ a q,m = .ok a q -> T2 (f a q)):T2 (m.bind f):=by
 cases m with
 | ok a q => exact hf a q rfl
 | stop w q => exact h
theorem o8 {α : Type} {c:Prop} [Decidable c] {x y:Rs α} (hx:c -> T2 x) (hy:¬ c -> T2 y):T2 (if c then x else y):=by
 by_cases h:c
 .rw [if_pos h]; exact hx h
 rw [if_neg h]; exact hy h
theorem mW {k:Int} {w:Wq} {p:Pst} (h:uZ w):T2 (U5 k w p):=by
 unfold U5;refine o8 (fun _ => trivial) (fun _ => ?_)
 show uZ _
 split
 .exact ⟨kv,P9⟩
 exact h
theorem V9 {k:Int} {l:Lab} {p:Pst} (h:LOk l):T2 (R1 k l p):=mW ⟨h,P9⟩
theorem aY {k:Int} {l:Lab} {v:Int} {r:Rec} {p:Pst} (h:LOk l) (hr:U7 r):T2 (T0 k l v r p):=k7 (mW ⟨h,hr⟩) fun _ _ _ => trivial
theorem yt {k:Int} {l:Lab} {v:Int} {p:Pst} (h:LOk l):T2 (iD k l v p):=k7 (mW ⟨h,P9⟩) fun _ _ _ => trivial
theorem jC {k:Int} {l:Lab} {v:Int} {c:Lab} {x:Rec} (hl:LOk l) (hc:LOk c) (hx:U7 x):∀ n p,T2 (s8 k l v c x n p)
 | 0,p => iH
 | n + 1,p => by
  unfold s8;refine k7 (V9 hc) fun g p1 _ => o8 (fun _ => trivial) fun _ => k7 (V9 hl) fun q p2 _ => o8 (fun _ => ?_) fun _ => trivial
  exact k7 (aY hc hx) fun d p3 _ => o8 (fun _ => trivial) fun _ => jC hl hc hx n p3
theorem sZ {l:Lab} {its:List Itm} {x:Itm} (h:x ∈ D8 l its):x ∈ its:=(List.mem_filter.1 h).1
theorem xO (l:Lab) (its:List Itm):(D8 l its).length<=its.length:=List.length_filter_le _ _
theorem sL {x:RA} {l:Lab} (h:U8 x) (hl:LOk l):U7 (P0 x l).1/\U7 (P0 x l).2.1:=by
 have hr:=h.ro;unfold P0 I2
 split
 .exact ⟨P9,P9⟩
 split
 .exact ⟨P9,P9⟩
 split
 .exact ⟨P9,P9⟩
 rename_i h64
 refine ⟨⟨cQ hl.isl hl.u h64 1,Nat.le_trans (xO _ _) hr.few,fun y hy => hr.key y (sZ hy)⟩,⟨h.nx,Nat.le_trans (xO _ _) hr.few,fun y hy => hr.key y (sZ hy)⟩⟩
theorem BZ {x y:RA} (h:U8 x) (h':U8 y):U7 (cx x y).1:=by
 have hr:=h.ro;have hr':=h'.ro;unfold cx aR
 split
 .exact P9
 split
 .exact P9
 split
 .exact P9
 split
 .exact P9
 rename_i h16
 refine ⟨h'.nx,?_,fun z hz => ?_⟩
 .show (b7 x.r.f x.r.n ++ b7 y.r.f y.r.n).length<=16
  rw [List.length_append,i3,i3]; omega
 rcases List.mem_append.1 hz with hz | hz
 .exact hr.key z hz
 exact hr'.key z hz
theorem tH {k:Int} {n:Nat} {l:Lab} {v:Int} {x:RA} {p:Pst} (hl:LOk l) (hx:U8 x):T2 (l7 k n l v x p):=by
 unfold l7;refine o8 (fun _ => ?_) fun _ => trivial
 refine k7 (jC hl (hl.ch 0) (sL hx hl).1 n p) fun go p1 _ => o8 (fun _ => ?_) fun _ => trivial
 refine k7 (jC hl (hl.ch 1) (sL hx hl).2 n p1) fun go p2 _ => o8 (fun _ => ?_) fun _ => trivial
 exact k7 (aY hl vW) fun _ _ _ => trivial
theorem mU {k:Int} {l:Lab} {v:Int} {c:Lab} (hl:LOk l) (hc:LOk c):∀ n p,i5 p -> T2 (L6 k l v c n p)
 | 0,p,_ => iH
 | n + 1,p,hp => by
  unfold L6;refine k7 (V9 hc) fun g p1 e1 => o8 (fun _ => o8 (fun _ => trivial) fun _ => ?_) fun _ => trivial
  have hp1:=hp.suf ((j1 k c p).of e1);refine k7 (V9 hl) fun q p2 e2 => o8 (fun _ => ?_) fun _ => trivial
  have hp2:=hp1.suf ((j1 k l p1).of e2);refine k7 (aY hc ((hp.get e1).ra.as 5 v).ro) fun d p3 e3 => o8 (fun _ => trivial) fun _ => ?_
  exact mU hl hc n p3 (hp2.suf ((l3 _ _ _ _ _).of e3))
theorem oz {k:Int} {l:Lab} {cl:Lab -> Pst -> Rs Unit} {c:Lab} (hl:LOk l) (hc:LOk c) (hcl:∀ c p,LOk c -> T2 (cl c p)) (p:Pst):T2 (G7 k l cl c p):=by
 unfold G7;refine k7 (V9 hc) fun g p1 _ => o8 (fun _ => ?_) fun _ => trivial
 refine k7 (hcl c p1 hc) fun _ p2 _ => k7 (V9 hl) fun q p3 _ => o8 (fun _ => ?_) fun _ => trivial
 exact k7 (yt hc) fun _ _ _ => trivial
theorem ji {k:Int}:∀ (n:Nat) (l:Lab) (p:Pst),LOk l -> T2 (C7 k n l p)
 | 0,l,p,_ => iH
 | n + 1,l,p,hl => by
  unfold C7;refine o8 (fun _ => trivial) fun _ => k7 (oz hl (hl.ch 0) (fun c p hc => ji n c p hc) p) fun go p1 _ => o8 (fun _ => ?_) fun _ => trivial
  exact k7 (oz hl (hl.ch 1) (fun c p hc => ji n c p hc) p1) fun _ _ _ => trivial
theorem mV {k:Int} {th:Lab -> Pst -> Rs Unit} {l:Lab} {v:Int} (hl:LOk l) (hth:∀ c p,LOk c -> i5 p -> T2 (th c p)) (hfr:∀ c p,Fro p (th c p)) {p:Pst} (hp:i5 p):T2 (aO k th l v p):=by
 unfold aO;refine k7 (aY hl vW) fun d p1 e1 => o8 (fun _ => ?_) fun _ => trivial
 have hp1:=hp.suf ((l3 _ _ _ _ _).of e1);exact k7 (hth _ _ (hl.ch 0) hp1) fun _ p2 e2 => hth _ _ (hl.ch 1) (hp1.suf ((hfr _ _).of e2))
theorem yp {bk k:Int} {n:Nat} {th:Lab -> Pst -> Rs Unit} {l:Lab} {v:Int} (hl:LOk l) (hth:∀ c p,LOk c -> i5 p -> T2 (th c p)) (hfr:∀ c p,Fro p (th c p)) {p:Pst} (hp:i5 p):T2 (L0 bk k n th l v p):=by
 unfold L0;refine k7 (mU hl (hl.ch 0) n p hp) fun a p1 e1 => ?_
 have hp1:=hp.suf ((Z8 _ _ _ _ _ _).of e1)
 cases a with
 | over => trivial
 | unfit => exact mV hl hth hfr hp1
 | fr a =>
  refine k7 (mU hl (hl.ch 1) n p1 hp1) fun b p2 e2 => ?_
  have hp2:=hp1.suf ((Z8 _ _ _ _ _ _).of e2)
  cases b with
  | over => trivial
  | unfit => exact mV hl hth hfr hp2
  | fr b =>
   refine o8 (fun _ => ?_) fun _ => mV hl hth hfr hp2
   exact k7 (aY hl (BZ (fw hp e1) (fw hp1 e2))) fun d p3 _ => o8 (fun _ => ji n l p3 hl) fun _ => trivial
theorem rM {bk k:Int} {n:Nat} {th:Lab -> Pst -> Rs Unit} {l:Lab} {g:l9} (hl:LOk l) (hg:dX g) (hth:∀ c p,LOk c -> i5 p -> T2 (th c p)) (hfr:∀ c p,Fro p (th c p)) {p:Pst} (hp:i5 p):T2 (dM bk k n th l g p):=by
 unfold dM;exact o8 (fun _ => tH hl hg.ra) fun _ => o8 (fun _ => yp hl hth hfr hp) fun _ => trivial
theorem pw (bk k:Int) (n:Nat) (c:Lab) (p:Pst):Fro p (if Q8 c=0 then db bk k n c (P5 c) p else .ok () p:Rs Unit):=o7 (gq _ _ _ _ _ _) (u3 _ _)
theorem jB {bk k:Int}:∀ (n:Nat) (l up:Lab) (p:Pst),LOk l -> LOk up -> i5 p -> T2 (db bk k n l up p)
 | 0,l,up,p,_,_,_ => iH
 | n + 1,l,up,p,hl,hu,hp => by
  unfold db;refine k7 (V9 hl) fun g p1 e1 => o8 (fun _ => ?_) fun _ => trivial
  have hp1:=hp.suf ((j1 _ _ _).of e1);refine k7 (V9 hu) fun q p2 e2 => ?_
  have hp2:=hp1.suf ((j1 _ _ _).of e2);refine k7 (o8 (fun _ => rM hu (hp1.get e2) (fun c p hc hp => show T2 (if Q8 c=0 then db bk k n c (P5 c) p else .ok () p:Rs Unit) from o8 (fun _ => jB n c (P5 c) p hc hc.par hp) fun _ => trivial) (pw bk k n) hp2) fun _ => trivial) fun _ p3 e3 => o8 (fun _ => ?_) fun _ => trivial
  have hp3:=hp2.suf (Fro.of (o7 (nP _ _ _ _ (pw bk k n) _ _ _) (u3 _ _)) e3);refine k7 (aY hl ((hp.get e1).ra.as 1 0).ro) fun d p4 e4 => o8 (fun _ => trivial) fun _ => ?_
  exact jB n l up p4 hl hu (hp3.suf ((l3 _ _ _ _ _).of e4))
theorem rL {bk k:Int} {n:Nat} {l:Lab} {p:Pst} (hl:LOk l) (hp:i5 p):T2 (G4 bk k n l p):=o8 (fun _ => jB n l _ p hl hl.par hp) fun _ => trivial
theorem yr {bk k:Int} {n:Nat} {l:Lab} {g:l9} {p:Pst} (hl:LOk l) (hg:dX g) (hp:i5 p):T2 (Y5 bk k n l g p):=rM hl hg (fun c p hc hp => rL hc hp) (F5 _ _ _) hp
theorem vh {r:Rs Rsl} (h:T2 r):uZ (K0 r).1:=by
 cases r with
 | ok a p =>
  unfold K0;simp only
  split
  .exact iH
  exact ⟨kv,P9⟩
 | stop w p =>
  unfold K0;simp only
  split
  .exact iH
  exact h
end Go.Proofs.YtodelmejfpkicaaGreat.Sym
namespace Go.Proofs.YtodelmejfpkicaaGreat.Sym
open Go Go.RowKit
namespace Cl
theorem etyI:bK Tryz.prog 33 62 2 24 (.agg #[.int .u64 0,.string ⟨#[]⟩]):=⟨by kernel_rfl,by kernel_rfl,rfl,by decide⟩
def itmE (x:Itm):List Value:=[.int .u64 x.key,.string x.val]
theorem K4 (x:Itm):(itmE x).length=2:=rfl
theorem jn {m:Nat -> Nat -> Prop} {w:World} {A:Option Addr} {k:Nat} {l:List Itm} (hl:l.length<=k) (hk:k<=maxLen) (hs:∀ x ∈ l,x.val.size<=maxLen)
  (h:0 < (l.flatMap itmE).length -> ∃ b off,A=some ⟨b,off,none⟩/\∀ j u,(l.flatMap itmE)[j]? = some u -> w.cell? ⟨b,off + j,none⟩=some u/\¬ m b (off + j)):Ok m w (l4 A l.length k (itF l)):=by
 have hg:∀ i (hi:i < l.length),itF l i=l[i]:=fun i hi => by simp [itF,List.getD,hi]
 have hpos:∀ i,i < l.length -> 0 < (l.flatMap itmE).length:=fun i hi => by rw [C8 K4]; omega
 refine .sl _ _ _ _ _ _ hl hk (fun i _ => rfl) (fun i hi => ?_) (fun i hi j u hu => ?_) (fun i hi v hv => ?_) (fun i hi v hv => ?_)
 .obtain ⟨b,off,hA,_⟩:=h (hpos i hi); exact ⟨b,off,hA⟩
 .obtain ⟨b,off,hA,hc⟩:=h (hpos i hi)
  have hu':(itmE (itF l i))[j]? = some u:=hu;rw [hg i hi] at hu';exact ⟨b,off,hA,hc _ u (gt K4 (List.getElem?_eq_getElem hi) hu')⟩
 .simp only [itC,List.mem_cons,List.not_mem_nil,or_false] at hv
  rcases hv with rfl | rfl<;>rfl
 simp only [itC,List.mem_cons,List.not_mem_nil,or_false] at hv
 rcases hv with rfl | rfl
 .exact .int _ _
 exact .str _ (by rw [hg i hi]; exact hs _ (List.getElem_mem hi))
variable {H:Type} {enc:TypeId × Value -> H} {w:World} {base:Nat} {spare:Nat -> Bool} {held:Bool}
theorem kF (x:Itm):∀ v ∈ itmE x,v.oneCell'=true:=by
 intro v hv;simp only [itmE,List.mem_cons,List.not_mem_nil,or_false] at hv
 rcases hv with rfl | rfl<;>rfl
theorem rowFlat_its (l:List Itm):f7 (fun i => itC (itF l i)) l.length=l.flatMap itmE:=by
 have key:∀ n,n<=l.length -> f7 (fun i => itC (itF l i)) n=(l.take n).flatMap itmE:=by
  intro n
  induction n with
  | zero => intro _; simp [f7]
  | succ n ih =>
   intro h;rw [F3,ih (by omega),List.take_succ_eq_append_getElem (by omega),List.flatMap_append];simp [itF,List.getD,List.getElem?_eq_getElem (show n < l.length by omega)];rfl
 have:=key l.length (Nat.le_refl _)
 rwa [List.take_length] at this
theorem its_reads {m:Nat -> Nat -> Prop} {w:World} {A:Option Addr} {c:Nat} {l:List Itm} (h:Ok m w (l4 A l.length c (itF l))):F9 itmE w w.heap.size A l:=by
 have:=bP h;rw [rowFlat_its] at this;exact this
theorem kE {m:Nat -> Nat -> Prop} {w:World} {A:Option Addr} {c:Nat} {l:List Itm} (h:Ok m w (l4 A l.length c (itF l))):∀ x ∈ l,x.val.size<=maxLen:=by
 intro x hx;obtain ⟨i,hi,rfl⟩:=List.mem_iff_getElem.1 hx
 cases h with
 | sl _ _ _ _ _ _ h1 h2 h3 h4 h5 h6 h7 =>
  have:=h7 i hi (.str (itF l i).val) (by simp [itC])
  cases this with | str _ h => simpa [itF,List.getD,hi] using h
theorem ns {m:Nat -> Nat -> Prop} {w:World} {B:Nat} {e:TypeId} {A:Option Addr} {n c:Nat} {l:List Itm} (h:rI itmE 2 w B e (.slice A n c) l) (hm:∀ b o,m b o -> b < B) (hs:∀ x ∈ l,x.val.size<=maxLen):Ok m w (l4 A l.length c (itF l)):=by
 obtain ⟨A',c',he,h1,h2⟩:=Own.isSlice h;injection he with e1 e2 e3; subst e3; subst e2
 refine jn h1 h2 hs fun hp => ?_
 rw [C8 K4] at hp;obtain ⟨b,hA,hb⟩:=K2 h (by omega);refine ⟨b,0,hA,fun j u hu => ⟨by rw [Nat.zero_add]; exact K7 h hb j u hu,fun hmm => ?_⟩⟩;have:=(Own.lt h b hb).1;have:=hm _ _ hmm;omega
theorem clone_c (w:World) (A:Option Addr) (k:Nat) (l:List Itm) (hr:F9 itmE w w.heap.size A l) (hl:l.length < 2147483000) :
  Calls Tryz.prog 88 #[.slice A l.length k] w fun e w' => ∃ v',e = .returned v'/\rI itmE 2 w' w.heap.size 62 v' l/\Below w.heap.size w w':=by
 have hq:∀ (A:Option Addr) (n k:Nat) (w:World),(binOp .eql 33 (.slice A n k) (.slice none 0 0)).run Tryz.prog w = .ok (.bool A.isNone) w:=fun A n k w => Go.Lib.run_eql_slice_nil w _ _ A n k 0 0 Tryz.underlying33
 cases A with
 | none =>
  obtain rfl:l=[]:=by
   refine List.eq_nil_of_length_eq_zero (Nat.eq_zero_of_not_pos fun h => ?_);obtain ⟨b,off,he,_⟩:=hr.at_ (k:=2) K4 (by decide) h
   cases he
  clear hr
  go_enter Tryz.func88,Tryz.ntmps88
  go_wp2_with fail
  go_ret
  exact ⟨_,rfl,Own.nil _ _ _ _ _,Below.refl _ _⟩
 | some a =>
  obtain ⟨W1,hW1⟩:=eqv (w.alloc (.cells #[] 62));have hb1:Below w.heap.size w W1:=by rw [hW1]; exact (Below.refl _ _).alloc (Nat.le_refl _) _
  obtain ⟨v',w',hr',hO,hG,hv⟩:=dy (P:=Tryz.prog) etyI 33 (Own.nil W1 w.heap.size 62 2 (some ⟨w.heap.size,0,none⟩)) (some a) l.length k (l.flatMap itmE) (C8 K4 l) (hr.below hb1) (pB kF l) (by simp only [maxLen]; omega) (by omega) hb1.size;rw [Nat.zero_add,List.nil_append] at hO;have HO:Hid (rI itmE 2 w' w.heap.size 62 v' l/\Below w.heap.size w w'):=⟨hO,hb1.grown hG hb1.size fun g hg => by simp [l8] at hg⟩;rw [hW1] at hr';clear hO hG hv hb1 hW1
  go_enter Tryz.func88,Tryz.ntmps88
  go_wp2_with (at_builtin; refine T5 hr' rfl (.tmp 5) (.tmp 6) rfl rfl rfl rfl ?_)
  go_ret
  exact ⟨_,rfl,HO.out⟩
theorem nY (A:Option Addr) (c:Nat) (l:List Itm) (hs:l.length < 2147483000):j5 Tryz.prog 88 [l4 A l.length c (itF l)] (fun y => l4 (y.A 0) l.length (y.c 0) (itF l)):=by
 intro m w hm ha;have h1:=ha (l4 A l.length c (itF l)) (by simp);refine (clone_c w A c l (its_reads h1) hs).mono ?_
 rintro e w' ⟨v',rfl,ho,hb⟩
 obtain ⟨A',c',rfl,_,_⟩:=Own.isSlice ho;exact ⟨⟨0,fun _ => A',fun _ => c',fun _ => ⟨#[]⟩⟩,rfl,ns ho hm (kE h1),hb⟩
theorem clone_sf (A:Option Addr) (n c:Nat) (f:Nat -> Itm) (hs:n < 2147483000):j5 Tryz.prog 88 [l4 A n c f] (fun y => l4 (y.A 0) n (y.c 0) f):=by
 have h:=nY A c (b7 f n) (by rw [i3]; exact hs);have e:∀ A c,Sim (l4 A (b7 f n).length c (itF (b7 f n))) (l4 A n c f):=fun A c => Sim.resl (i3 f n) fun t ht => by rw [s9 f n t ht]
 have e':∀ A c,Sim (l4 A n c f) (l4 A (b7 f n).length c (itF (b7 f n))):=fun A c => Sim.resl (i3 f n).symm fun t ht => by rw [i3] at ht; rw [s9 f n t ht]
 intro m w hm ha;have h2:j5 Tryz.prog 88 [l4 A n c f] (fun y => l4 (y.A 0) (b7 f n).length (y.c 0) (itF (b7 f n))):=h.sim ⟨e' A c,trivial⟩;refine (h2 m w hm ha).mono ?_
 rintro en w' ⟨x,rfl,hok,hb⟩
 exact ⟨x,by rw [(e (x.A 0) (x.c 0)).1],(e (x.A 0) (x.c 0)).2.2 _ _ hok,hb⟩
end Cl
end Go.Proofs.YtodelmejfpkicaaGreat.Sym
namespace Go.Proofs.YtodelmejfpkicaaGreat.Sym
open Go Go.RowKit
theorem xy:j3 Tryz.prog 68:=fun _ _ => by kernel_rfl
theorem BC (x:RA) (hn:x.r.n<=1000000):j5 Tryz.prog 68 [u9 x] (fun y => u9 ⟨y.A 0,y.c 0,x.r⟩):=by
 intro m w hm hargs;have S:=Cl.clone_sf x.A x.r.n x.c x.r.f (by omega);simp only [l4] at S;refine en 8 hm hargs Tryz.func68 fun B hB a0 hF => ?_
 refine wp_seq (rg hB a6 [1,2] [1,2] [] hF fun X0 a0 w1 hF => ?_);have O1:=S;refine wp_seq (rg hB a6 [1,2] [1,2] [(2,.r fun y => .sl none (y.A 0) x.r.n (y.c 0) 2 (fun t => itC (x.r.f t)))] hF fun X1 a0 w1 hF => ?_);refine wp_seq (rg hB a6 [2] [2] [] hF fun X2 a0 w1 hF => ?_);refine wp_ret ((rsi hB a6 hF (⟨0,fun _ => (X1 2).A 0,fun _ => (X1 2).c 0,fun _ => ⟨#[]⟩⟩) (he:=?_)));subst hB;exact zr
theorem tF (b bM:Nat) (k:Int):u2 Tryz.prog 38 [.ptr 0 b 0] [(0,⟨b,113,[.raw (.map (some bM)),.int .i64 k]⟩)] (fun _ => ⟨.int .i64 k,[(0,[.raw (.map (some bM)),.int .i64 k])],[]⟩):=by
 intro m w hm hargs hpre;refine enX 9 hm hpre hargs Tryz.func38 fun B hB a0 hF => ?_
 refine wp_seq (rg hB a6 [0] [0] [] hF fun X0 a0 w1 hF => ?_);refine wp_seq (wp_seq (rg hB a6 [4,0] [0] [] hF fun X1 a0 w1 hF => ?_));refine i9 hF rfl (fun hF => ?_);refine wp_skip (wp_seq (rg hB a6 [2] [0] [] hF fun X3 a0 w1 hF => ?_));exact wp_ret ((rx hB a6 hF f4 []).1)
theorem ve (k0:Nat) (b bM:Nat) (k:Int):u2 Tryz.prog 38 [.ptr k0 b 0] [(k0,⟨b,113,[.raw (.map (some bM)),.int .i64 k]⟩)] (fun _ => ⟨.int .i64 k,[(k0,[.raw (.map (some bM)),.int .i64 k])],[]⟩):=
 (tF b bM k).re (by repeat (first | exact trivial | refine ⟨Sim.ptr,?_⟩ | refine ⟨Sim.fn ⟨Sim.ptr,trivial⟩ trivial,?_⟩ | refine ⟨Sim.fn trivial ⟨Sim.ptr,trivial⟩,?_⟩ | refine ⟨zr,?_⟩)) rfl (fun x => ⟨rfl,rfl,zr,rfl⟩)
theorem kW:j3 Tryz.prog 22:=fun _ _ => by kernel_rfl
theorem wG (A:Option Addr) (n c:Nat) (f:Nat -> l5) (hn:n<=maxLen) (hN:∀ i,i < n -> (f i).x.r.n<=1000000/\k4 (f i).lab/\U64 (f i).lab.bits/\U64 (f i).x.r.nx.bits):J4 Tryz.prog 22 [T6 A n c f] [] none noK (fun y => (match aT (r9 f n) with | none => ⟨.tup [.nilp,.int .i64 1],[],[]⟩ | some L => ⟨.tup [.ptr 14 y.b 0,.int .i64 0],[],[(14,⟨y.b,113,[.raw (.map (some (y.c 0))),.int .i64 0]⟩)]⟩)) (fun N y => (match aT (r9 f n) with | none => noK | some L => shF N (y.c 0) L)):=by
 intro m w hm hargs hpre hI;have hmx:maxLen=9223372036854775807:=rfl;refine enM (bo:=none) 58 hm hpre hI hargs Tryz.func22 fun B hB a0 hF => ?_
 refine wp_seq (rg hB a6 [0] [] [] hF fun X0 a0 w1 hF => ?_);refine wp_seq (wp_seq (rg hB a6 [11,0] [] [] hF fun X1 a0 w1 hF => ?_));apply a7 hF rfl<;>intro hb hF
 .have hbig:2000 < n:=by
   have:(2000:Int) < (n:Int):=by subst hB; simpa [std,a8] using hb
   omega
  have hW:aT (r9 f n)=none:=by unfold aT; rw [if_pos (by rw [G3]; exact hbig)]
  refine wp_seq (rg hB a6 [2,3] [14] [] hF fun X2 a0 w1 hF => ?_);refine wp_ret ((rm hB a6 hF (⟨0,fun _ => none,fun _ => 0,fun _ => ⟨#[]⟩⟩) [] (he:=?_) (hs:=?_) (hn:=?_) (hJ:=?_)).1)
  .subst hB; simp only [hW]; exact zr
  .simp only [hW]; exact trivial
  .simp only [hW]; exact trivial
  simp only [hW]; exact fun _ _ _ => trivial
 have hbig:n<=2000:=by
  have:¬ (2000:Int) < (n:Int):=by subst hB; simpa [std,a8] using hb
  omega
 have hS:aT (r9 f n)=dD (r9 f n) []:=by unfold aT; rw [if_neg (by rw [G3]; omega)]
 refine wp_skip (wp_seq (wp_region_lit (bj (k:=24) (e:=0) rfl rfl rfl rfl hF (Nat.le_of_ble_eq_true rfl) (shK w1.heap.size []) (fun m w' _ _ hM => ⟨_,fun _ => (none,0),ShD.empty hM _⟩) ?_)));obtain ⟨bM,hbM⟩:=eqv (w1.heap.size);rw [<-hbM];intro a0 w1 hfresh hF;have hbfr:w.heap.size<=bM:=hfresh;refine lnd 1 hB a6 [4,0] [14] [] hF fun X3 a0 w1 hF => ?_
 refine wp_seq (wp_seq (rg hB a6 [17,16,15,4] [14] [] hF fun X4 a0 w1 hF => ?_));refine wp_block (ao (ι:=Nat × Shf) (fun p => shK bM p.2) (fun p => [(17,.int .i64 (p.1:Int))]) (fun p => []) (fun p => []) (fun p => p.1<=n/\p.2.length<=p.1/\dD (r9 f n) []=dD ((r9 f n).drop p.1) p.2) (fun p => n - p.1) (0,[]) ⟨Nat.zero_le _,Nat.le_refl _,rfl⟩ hF ?_)
 rintro ⟨i,L⟩ ⟨hi,hk,hnew⟩ a0 w1 hF
 try dsimp only at hi
 try dsimp only at hk
 try dsimp only at hnew
 replace hF:=hF.withK (K':=shK bM L) hF.kept;refine wp_seq (rg hB a6 [18,17,16,15,4] [14] [] hF fun X5 a0 w1 hF => ?_);refine wp_seq (a7 hF rfl (fun hb hF => ?_) (fun hb hF => ?_))
 .have hin:i < n:=by
   have:(i:Int) < (n:Int):=by subst hB; simpa [std,a8] using hb
   omega
  obtain ⟨hN1,hN2,hN3,hN4⟩:=hN i hin;have S2:=gl (f i).lab hN3;have S3:=kH (f i).x.A (f i).x.r.n (f i).x.c (f i).x.r.f (by omega) (f i).x.r.kd (f i).x.r.nx (f i).x.r.mrk hN4;rw [<-gi] at S3;simp only [b6,Q2,l4] at S2 S3;obtain ⟨il,hil⟩:=eqv (isL (f i).lab);obtain ⟨ir,hir⟩:=eqv (isR (f i).x.r.abs);rw [<-hil] at S2;rw [<-hir] at S3;have hstep:=ui (f:=f) (L:=L) hin;rw [<-hil,<-hir] at hstep;refine wp_skip (wp_seq (wp_block (wp_seq ?_)));refine rg hB a6 [6,17,16,15,4] [6,14] [] hF (hob:=by intro X; subst hB; simp only [b5,Ob.holds,BE.den]<;>and_intros<;>repeat first | trivial | rfl | exact (show (0:Int)<=(i:Int) by omega) | exact (show (i:Int) < (n:Int) by omega) | exact (fun _ _ => by kernel_rfl) | refine ⟨?_,?_⟩ | intro h | exact Int.le_refl _ | decide | omega) fun X6 a0 w1 hF => ?_
  replace hF:=hF.memS (cells':=u7 (f i)) (by subst hB; exact zl);obtain ⟨D,E,hSh⟩:=hF.kept;replace hF:=hF.withK (K':=shD D E bM L) hSh;have hlab:k4 (f i).lab:=hN2;obtain ⟨el,hel⟩:=eqv (elA (adr E L) (f i).lab (D3 L (f i).lab));obtain ⟨hh,hhh⟩:=eqv ((E0 (f i).lab L).isSome);refine wp_seq (wp_seq ?_);apply R2 hB 13 (some (6,[.tmp 25,.tmp 27],[.raw (.map (some bM)),.agg [.int .i64 (f i).lab.len,.int .u64 (f i).lab.bits]],.tup [.agg [.int .u64 el.w.ver,.bool (.v el.has),.int .i64 el.w.x.r.kd,.sl none el.w.x.A el.w.x.r.n el.w.x.c 2 (fun i => itC (el.w.x.r.f i)),.int .i64 el.w.x.r.nx.len,.int .u64 el.w.x.r.nx.bits,.int .u64 el.w.x.r.mrk],.bool (.v hh)])) ?hH (by kernel_rfl) a6 [8,6,17,16,15,4] [6,14] [] hF rfl
  case hH => exact ml hlab hel hhh (fun o h => by cases h; rfl)
  case hex => intro A X; conv => lhs; cbv
  case hD => kernel_rfl
  case hZ => kernel_rfl
  case hlen => rfl
  case hob =>
   intro X;subst hB;simp only [b5,Ob.holds,BE.den]<;>and_intros<;>intros<;>trivial
  case hQ =>
  intro X7 a0 w1 hF;replace hF:=hF.withK (K':=shK bM L) ⟨D,E,hF.kept⟩;have O1:=S2;have O2:=S3;refine wpList_nil (wp_seq (rg hB a6 [43,6,17,16,15,4] [6,14] [(4,.r fun _ => .bool (.v il)),(10,.r fun _ => .bool (.v ir))] hF fun X8 a0 w1 hF => ?_));apply a7 hF rfl<;>intro hb hF
  .have h9:(if (if hh=true then true else !il)=true then true else !ir)=true:=by subst hB; exact hb
   have hW:aT (r9 f n)=none:=by
    rw [hS,hnew,hstep,<-hhh]
    cases hh<;>cases il<;>cases ir<;>first | rfl | (simp at h9)
   refine wp_seq (rg hB a6 [2,3] [14] [] hF fun X9 a0 w1 hF => ?_);refine wp_ret ((rm hB a6 hF (⟨0,fun _ => none,fun _ => 0,fun _ => ⟨#[]⟩⟩) [] (he:=?_) (hs:=?_) (hn:=?_) (hJ:=?_)).1)
   .subst hB; simp only [hW]; exact zr
   .simp only [hW]; exact trivial
   .simp only [hW]; exact trivial
   simp only [hW]; exact fun _ _ _ => trivial
  have h9:(if (if hh=true then true else !il)=true then true else !ir)=false:=by subst hB; exact hb
  have h10:(hh || !il || !ir)=false:=by cases hh<;>cases il<;>cases ir<;>first | rfl | (simp at h9)
  rw [<-hhh,h10] at hstep;obtain ⟨L2,hL2⟩:=eqv (aS (f i).lab ⟨(f i).ver,true,(f i).x.r.abs⟩ L);have hstep:dD ((r9 f n).drop i) L=dD ((r9 f n).drop (i + 1)) L2:=by rw [hL2]; exact hstep
  have SO:=BC (f i).x hN1;have hL2n:L2.length<=i + 1:=by rw [hL2,fS _ _ hSh.ris]; split<;>omega
  refine wp_skip ?_;apply R2 hB 12 none ?hH (by kernel_rfl) a6 [47,49,55,17,16,15,4] [14] [(10,.r fun y => .agg [.int .i64 (f i).x.r.kd,.sl none (y.A 0) (f i).x.r.n (y.c 0) 2 (fun t => itC ((f i).x.r.f t)),.int .i64 (f i).x.r.nx.len,.int .u64 (f i).x.r.nx.bits,.int .u64 (f i).x.r.mrk])] hF rfl
  case hH => exact G2
  case hex => intro A X; conv => lhs; cbv
  case hD => kernel_rfl
  case hZ => kernel_rfl
  case hlen => rfl
  case hob =>
   intro X;subst hB;simp only [b5,Ob.holds,BE.den]<;>(and_intros<;>repeat first | trivial | rfl | exact xy | exact SO | refine ⟨?_,?_⟩ | intro h)
  case hQ =>
  intro X10 a0 w1 hF;obtain ⟨D2,E2,hSh2⟩:=hF.kept;refine G1 (k:=24) (e:=115) rfl rfl rfl rfl hF rfl rfl rfl rfl rfl Z1 bS hSh2.map (by omega) (J1 hlab) (fun h => absurd h (by omega)) (shK bM L2) (fun m w' hk hkb hv hM => ?_) ?_
  .rw [hL2]
   refine nh hSh2.map hlab hk hkb (x:=⟨⟨(f i).lab,(f i).ver,⟨(X10 10).A 0,(X10 10).c 0,(f i).x.r⟩⟩,true⟩) ?_ hv hM;exact Sim.agg ⟨zr,Sim.tt,zr,zr,zr,zr,zr,trivial⟩
  intro w1 hF;replace hF:=hF.keep [17,16,15,4] [14];refine wpList_nil (rg hB a6 [17,16,15,4] [14] [] hF fun X11 a0 w1 hF => ?_);have e:B.arith .add .i64 (i:Int) 1=((i + 1:Nat):Int):=by subst hB; exact j2 (n:=n) hin (by omega)
  refine ⟨(i + 1,L2),⟨by simp only; omega,hL2n,hnew.trans hstep⟩,by simp only; omega,by rw [<-e]; exact hF⟩
 have hout:i=n:=by
  have:¬ (i:Int) < (n:Int):=by subst hB; simpa [std,a8] using hb
  omega
 have hW:aT (r9 f n)=some L:=by rw [hS,hnew,List.drop_eq_nil_of_le (by rw [G3]; omega)]; rfl
 refine wp_exit (wp_seq (rg hB a6 [2,3] [14] [] hF fun X12 a0 w1 hF => ?_));refine wp_ret ((rm hB a6 hF (⟨(X3 2).b,fun _ => none,fun _ => bM,fun _ => ⟨#[]⟩⟩) [14] (he:=?_) (hs:=?_) (hn:=?_) (hJ:=?_)).1)
 .subst hB; simp only [hW]; exact zr
 .simp only [hW]; exact trivial
 .simp only [hW]
  exact ⟨⟨_,rfl,zl⟩,fun e he => (by cases he),(by simp),trivial⟩
 simp only [hW]; exact fun _ _ h => ⟨hbfr,h⟩
theorem xx:j3 Tryz.prog 69:=fun _ _ => by kernel_rfl
theorem AL (b bM:Nat) (L:Shf) (hL:L.length<=100000) (k:Int) (q:u0) (hl:k4 q.lab) (x z:SpA):J4 Tryz.prog 69 [.ptr 0 b 0,B5 q,.agg (elC x),.agg (elC z),.bool .tt] [(0,⟨b,113,[.raw (.map (some bM)),.int .i64 k]⟩)] (some bM) (shK bM L) (fun y => ⟨.tup [s5 (ci y (R9 L q.lab q.ver x.w.ver true ⟨z.w.ver,z.has,z.w.x.r.abs⟩).got),.int .i64 (R9 L q.lab q.ver x.w.ver true ⟨z.w.ver,z.has,z.w.x.r.abs⟩).err],[(0,[.raw (.map (some bM)),.int .i64 (if (R9 L q.lab q.ver x.w.ver true ⟨z.w.ver,z.has,z.w.x.r.abs⟩).wrote then IntKind.i64.wrap (k + 1) else k)])],[]⟩) (fun _ _ => shK bM (R9 L q.lab q.ver x.w.ver true ⟨z.w.ver,z.has,z.w.x.r.abs⟩).L):=by
 intro m w hm hargs hpre hI;have hmx:maxLen=9223372036854775807:=rfl;have hmp:=G9 hI;obtain ⟨CD,hCD⟩:=eqv ((R9 L q.lab q.ver x.w.ver true ⟨z.w.ver,z.has,z.w.x.r.abs⟩));rw [<-hCD];refine enM (bo:=some bM) 50 hm hpre hI hargs Tryz.func69 fun B hB a0 hF => ?_
 refine wp_seq (rg hB a6 [0,4,6,7,8,10] [0,6,7,8,10] [] hF fun X0 a0 w1 hF => ?_);refine wp_seq (wp_block (wp_seq (rg hB a6 [12,0,4,6,7,8,10] [0,6,7,8,10] [] hF fun X1 a0 w1 hF => ?_)));apply a7 hF rfl<;>intro hb hF
 .have hv:q.ver ≠ x.w.ver:=by subst hB; simpa [std,a8] using hb
  have hW:CD=⟨L,false,⟨8,x.w.ver,false,i8⟩,0⟩:=by rw [hCD]; unfold R9; rw [if_pos hv]
  refine wp_seq (rg hB a6 [10,11] [0,10] [] hF fun X2 a0 w1 hF => ?_);refine wp_ret ((rm hB a6 hF (⟨0,fun _ => none,fun _ => 0,fun _ => ⟨#[]⟩⟩) [] (hmap:=?_) (he:=?_) (hs:=?_) (hJ:=?_)).1)
  .intro b hb; cases hb; exact ⟨hmp,fun m h => G9 h⟩
  .subst hB; simp only [hW]
   exact Sim.tup ⟨Sim.agg ⟨zr,zr,zr,zr,zq0,zr,zr,zr,trivial⟩,zr,trivial⟩
  .subst hB; simp only [hW]
   exact ⟨rfl,⟨_,rfl,zl⟩,trivial⟩
  simp only [hW]; exact fun _ _ h => h
 have hv:¬ q.ver ≠ x.w.ver:=by subst hB; simpa [std,a8] using hb
 refine wp_seq (rg hB a6 [21,0,6,8,10] [0,6,8,10] [] hF fun X3 a0 w1 hF => ?_);obtain ⟨L2,hL2⟩:=eqv (aS q.lab ⟨z.w.ver,z.has,z.w.x.r.abs⟩ L);have hW:CD=⟨L2,true,⟨0,z.w.ver,false,i8⟩,0⟩:=by rw [hCD,hL2]; unfold R9; rw [if_neg hv,if_neg (fun h => by cases h.1)]
 refine i9 hF rfl (fun hF => ?_);refine wp_skip (wp_seq ?_);apply R2 hB 7 none ?hH (by kernel_rfl) a6 [36,38,39,0,8,10] [0,8,10] [] hF rfl
 case hH => exact G2
 case hex => intro A X; conv => lhs; cbv
 case hD => kernel_rfl
 case hZ => kernel_rfl
 case hlen => rfl
 case hob =>
  intro X;subst hB;simp only [b5,Ob.holds,BE.den]<;>and_intros<;>intros<;>trivial
 case hQ =>
 intro X5 a0 w1 hF;obtain ⟨D2,E2,hSh2⟩:=hF.kept;refine G1 (k:=24) (e:=115) rfl rfl rfl rfl hF rfl rfl rfl rfl rfl Z1 bS hSh2.map (by omega) (J1 hl) (fun _ => .inr rfl) (shK bM L2) (fun m w' hk hkb hv hM => ?_) ?_
 .rw [hL2]; exact nh hSh2.map hl hk hkb (x:=⟨⟨q.lab,z.w.ver,z.w.x⟩,z.has⟩) (zr) hv hM
 intro w1 hF;replace hF:=hF.keep [0,8,10] [0,8,10];refine wpList_nil (wp_seq (rg hB a6 [8,10] [0,8,10] [] hF fun X6 a0 w1 hF => ?_));refine wp_seq (rg hB a6 [10,11] [0,10] [] hF fun X7 a0 w1 hF => ?_);refine wp_ret ((rm hB a6 hF (⟨0,fun _ => none,fun _ => 0,fun _ => ⟨#[]⟩⟩) [] (hmap:=?_) (he:=?_) (hs:=?_) (hJ:=?_)).1)
 .intro b hb; cases hb; exact ⟨hmp,fun m h => G9 h⟩
 .subst hB; simp only [hW]
  exact Sim.tup ⟨Sim.agg ⟨zr,zr,zr,zr,zq0,zr,zr,zr,trivial⟩,zr,trivial⟩
 .subst hB; simp only [hW]
  exact ⟨rfl,⟨_,rfl,zl⟩,trivial⟩
 simp only [hW]; exact fun _ _ h => h
theorem DU (k0:Nat) (b bM:Nat) (L:Shf) (hL:L.length<=100000) (k:Int) (q:u0) (hl:k4 q.lab) (x z:SpA):J4 Tryz.prog 69 [.ptr k0 b 0,B5 q,.agg (elC x),.agg (elC z),.bool .tt] [(k0,⟨b,113,[.raw (.map (some bM)),.int .i64 k]⟩)] (some bM) (shK bM L) (fun y => ⟨.tup [s5 (ci y (R9 L q.lab q.ver x.w.ver true ⟨z.w.ver,z.has,z.w.x.r.abs⟩).got),.int .i64 (R9 L q.lab q.ver x.w.ver true ⟨z.w.ver,z.has,z.w.x.r.abs⟩).err],[(k0,[.raw (.map (some bM)),.int .i64 (if (R9 L q.lab q.ver x.w.ver true ⟨z.w.ver,z.has,z.w.x.r.abs⟩).wrote then IntKind.i64.wrap (k + 1) else k)])],[]⟩) (fun _ _ => shK bM (R9 L q.lab q.ver x.w.ver true ⟨z.w.ver,z.has,z.w.x.r.abs⟩).L):=
 (AL b bM L hL k q hl x z).re (by repeat (first | exact trivial | refine ⟨Sim.ptr,?_⟩ | refine ⟨Sim.fn ⟨Sim.ptr,trivial⟩ trivial,?_⟩ | refine ⟨Sim.fn trivial ⟨Sim.ptr,trivial⟩,?_⟩ | refine ⟨zr,?_⟩)) rfl (fun x => ⟨rfl,rfl,zr,rfl⟩)
theorem AM (b bM:Nat) (L:Shf) (hL:L.length<=100000) (k:Int) (q:u0) (hl:k4 q.lab) (x z:SpA):J4 Tryz.prog 69 [.ptr 0 b 0,B5 q,.agg (elC x),.agg (elC z),.bool .ff] [(0,⟨b,113,[.raw (.map (some bM)),.int .i64 k]⟩)] (some bM) (shK bM L) (fun y => ⟨.tup [s5 (ci y (R9 L q.lab q.ver x.w.ver false ⟨z.w.ver,z.has,z.w.x.r.abs⟩).got),.int .i64 (R9 L q.lab q.ver x.w.ver false ⟨z.w.ver,z.has,z.w.x.r.abs⟩).err],[(0,[.raw (.map (some bM)),.int .i64 (if (R9 L q.lab q.ver x.w.ver false ⟨z.w.ver,z.has,z.w.x.r.abs⟩).wrote then IntKind.i64.wrap (k + 1) else k)])],[]⟩) (fun _ _ => shK bM (R9 L q.lab q.ver x.w.ver false ⟨z.w.ver,z.has,z.w.x.r.abs⟩).L):=by
 intro m w hm hargs hpre hI;have hmx:maxLen=9223372036854775807:=rfl;have hmp:=G9 hI;obtain ⟨CD,hCD⟩:=eqv ((R9 L q.lab q.ver x.w.ver false ⟨z.w.ver,z.has,z.w.x.r.abs⟩));rw [<-hCD];refine enM (bo:=some bM) 50 hm hpre hI hargs Tryz.func69 fun B hB a0 hF => ?_
 refine wp_seq (rg hB a6 [0,4,6,7,8,10] [0,6,7,8,10] [] hF fun X0 a0 w1 hF => ?_);refine wp_seq (wp_block (wp_seq (rg hB a6 [12,0,4,6,7,8,10] [0,6,7,8,10] [] hF fun X1 a0 w1 hF => ?_)));apply a7 hF rfl<;>intro hb hF
 .have hv:q.ver ≠ x.w.ver:=by subst hB; simpa [std,a8] using hb
  have hW:CD=⟨L,false,⟨8,x.w.ver,false,i8⟩,0⟩:=by rw [hCD]; unfold R9; rw [if_pos hv]
  refine wp_seq (rg hB a6 [10,11] [0,10] [] hF fun X2 a0 w1 hF => ?_);refine wp_ret ((rm hB a6 hF (⟨0,fun _ => none,fun _ => 0,fun _ => ⟨#[]⟩⟩) [] (hmap:=?_) (he:=?_) (hs:=?_) (hJ:=?_)).1)
  .intro b hb; cases hb; exact ⟨hmp,fun m h => G9 h⟩
  .subst hB; simp only [hW]
   exact Sim.tup ⟨Sim.agg ⟨zr,zr,zr,zr,zq0,zr,zr,zr,trivial⟩,zr,trivial⟩
  .subst hB; simp only [hW]
   exact ⟨rfl,⟨_,rfl,zl⟩,trivial⟩
  simp only [hW]; exact fun _ _ h => h
 have hv:¬ q.ver ≠ x.w.ver:=by subst hB; simpa [std,a8] using hb
 refine wp_seq (wp_region_lit (lpr 0 7 hB a6 [24,28,0,6,8,10] [0,6,8,10] [] hF fun X3_0 a0 w1 hF => ?_));obtain ⟨D,E,hSh⟩:=hF.kept;obtain ⟨zz,hzz⟩:=eqv (Maps.size D);have hzl:zz=L.length:=hzz.trans hSh.size;refine yA (tI hF rfl rfl rfl) (pk rfl rfl rfl rfl rfl rfl rfl hF (Nat.le_of_ble_eq_true rfl) rfl bS hSh.map ?_);rw [<-hzz];intro a0 hF;refine lnd 8 hB a6 [21,0,6,8,10] [0,6,8,10] [] hF fun X3 a0 w1 hF => ?_
 apply a7 hF rfl<;>intro hb hF
 .have hfull:2000<=L.length:=by
   have:(2000:Int)<=(zz:Int):=by subst hB; simpa [std,a8] using hb
   omega
  have hW:CD=⟨L,false,Q6,12⟩:=by rw [hCD]; unfold R9; rw [if_neg hv,if_pos ⟨rfl,hfull⟩]
  refine wp_seq (rg hB a6 [10,11] [0,10] [] hF fun X4 a0 w1 hF => ?_);refine wp_ret ((rm hB a6 hF (⟨0,fun _ => none,fun _ => 0,fun _ => ⟨#[]⟩⟩) [] (hmap:=?_) (he:=?_) (hs:=?_) (hJ:=?_)).1)
  .intro b hb; cases hb; exact ⟨hmp,fun m h => G9 h⟩
  .subst hB; simp only [hW]
   exact Sim.tup ⟨Sim.agg ⟨zr,zr,zr,zr,zq0,zr,zr,zr,trivial⟩,zr,trivial⟩
  .subst hB; simp only [hW]
   exact ⟨rfl,⟨_,rfl,zl⟩,trivial⟩
  simp only [hW]; exact fun _ _ h => h
 have hfull:¬ 2000<=L.length:=by
  have:¬ (2000:Int)<=(zz:Int):=by subst hB; simpa [std,a8] using hb
  omega
 obtain ⟨L2,hL2⟩:=eqv (aS q.lab ⟨z.w.ver,z.has,z.w.x.r.abs⟩ L);have hW:CD=⟨L2,true,⟨0,z.w.ver,false,i8⟩,0⟩:=by rw [hCD,hL2]; unfold R9; rw [if_neg hv,if_neg (fun h => hfull h.2)]
 refine wp_skip (wp_seq ?_);apply R2 hB 7 none ?hH (by kernel_rfl) a6 [36,38,39,0,8,10] [0,8,10] [] hF rfl
 case hH => exact G2
 case hex => intro A X; conv => lhs; cbv
 case hD => kernel_rfl
 case hZ => kernel_rfl
 case hlen => rfl
 case hob =>
  intro X;subst hB;simp only [b5,Ob.holds,BE.den]<;>and_intros<;>intros<;>trivial
 case hQ =>
 intro X5 a0 w1 hF;obtain ⟨D2,E2,hSh2⟩:=hF.kept;refine G1 (k:=24) (e:=115) rfl rfl rfl rfl hF rfl rfl rfl rfl rfl Z1 bS hSh2.map (by omega) (J1 hl) (fun _ => .inr rfl) (shK bM L2) (fun m w' hk hkb hv hM => ?_) ?_
 .rw [hL2]; exact nh hSh2.map hl hk hkb (x:=⟨⟨q.lab,z.w.ver,z.w.x⟩,z.has⟩) (zr) hv hM
 intro w1 hF;replace hF:=hF.keep [0,8,10] [0,8,10];refine wpList_nil (wp_seq (rg hB a6 [8,10] [0,8,10] [] hF fun X6 a0 w1 hF => ?_));refine wp_seq (rg hB a6 [10,11] [0,10] [] hF fun X7 a0 w1 hF => ?_);refine wp_ret ((rm hB a6 hF (⟨0,fun _ => none,fun _ => 0,fun _ => ⟨#[]⟩⟩) [] (hmap:=?_) (he:=?_) (hs:=?_) (hJ:=?_)).1)
 .intro b hb; cases hb; exact ⟨hmp,fun m h => G9 h⟩
 .subst hB; simp only [hW]
  exact Sim.tup ⟨Sim.agg ⟨zr,zr,zr,zr,zq0,zr,zr,zr,trivial⟩,zr,trivial⟩
 .subst hB; simp only [hW]
  exact ⟨rfl,⟨_,rfl,zl⟩,trivial⟩
 simp only [hW]; exact fun _ _ h => h
theorem DV (k0:Nat) (b bM:Nat) (L:Shf) (hL:L.length<=100000) (k:Int) (q:u0) (hl:k4 q.lab) (x z:SpA):J4 Tryz.prog 69 [.ptr k0 b 0,B5 q,.agg (elC x),.agg (elC z),.bool .ff] [(k0,⟨b,113,[.raw (.map (some bM)),.int .i64 k]⟩)] (some bM) (shK bM L) (fun y => ⟨.tup [s5 (ci y (R9 L q.lab q.ver x.w.ver false ⟨z.w.ver,z.has,z.w.x.r.abs⟩).got),.int .i64 (R9 L q.lab q.ver x.w.ver false ⟨z.w.ver,z.has,z.w.x.r.abs⟩).err],[(k0,[.raw (.map (some bM)),.int .i64 (if (R9 L q.lab q.ver x.w.ver false ⟨z.w.ver,z.has,z.w.x.r.abs⟩).wrote then IntKind.i64.wrap (k + 1) else k)])],[]⟩) (fun _ _ => shK bM (R9 L q.lab q.ver x.w.ver false ⟨z.w.ver,z.has,z.w.x.r.abs⟩).L):=
 (AM b bM L hL k q hl x z).re (by repeat (first | exact trivial | refine ⟨Sim.ptr,?_⟩ | refine ⟨Sim.fn ⟨Sim.ptr,trivial⟩ trivial,?_⟩ | refine ⟨Sim.fn trivial ⟨Sim.ptr,trivial⟩,?_⟩ | refine ⟨zr,?_⟩)) rfl (fun x => ⟨rfl,rfl,zr,rfl⟩)
theorem FK (k0:Nat) (b bM:Nat) (L:Shf) (hL:L.length<=100000) (k:Int) (q:u0) (hl:k4 q.lab) (x z:SpA) (hh:Bool):J4 Tryz.prog 69 [.ptr k0 b 0,B5 q,.agg (elC x),.agg (elC z),.bool (.v hh)] [(k0,⟨b,113,[.raw (.map (some bM)),.int .i64 k]⟩)] (some bM) (shK bM L) (fun y => ⟨.tup [s5 (ci y (R9 L q.lab q.ver x.w.ver hh ⟨z.w.ver,z.has,z.w.x.r.abs⟩).got),.int .i64 (R9 L q.lab q.ver x.w.ver hh ⟨z.w.ver,z.has,z.w.x.r.abs⟩).err],[(k0,[.raw (.map (some bM)),.int .i64 (if (R9 L q.lab q.ver x.w.ver hh ⟨z.w.ver,z.has,z.w.x.r.abs⟩).wrote then IntKind.i64.wrap (k + 1) else k)])],[]⟩) (fun _ _ => shK bM (R9 L q.lab q.ver x.w.ver hh ⟨z.w.ver,z.has,z.w.x.r.abs⟩).L):=by
 cases hh with
 | true => exact (DU k0 b bM L hL k q hl x z).args ⟨zr,zr,zr,zr,Sim.bool rfl,trivial⟩
 | false => exact (DV k0 b bM L hL k q hl x z).args ⟨zr,zr,zr,zr,Sim.bool rfl,trivial⟩
theorem Ac {L:Shf} {w:Wnt} (hg:(w.kind=1 \/ w.kind=2 \/ w.kind=3)/\isL w.lab=true/\(w.kind=2 -> isR w.r=true)) (hk:¬ w.kind=1):doL L w=R9 L w.lab w.ver (D3 L w.lab).ver (E0 w.lab L).isSome ⟨inc (D3 L w.lab).ver,decide (w.kind=2),if w.kind=2 then w.r else i8⟩:=by
 refine (if_pos hg).trans ((if_neg hk).trans ?_);unfold R9
 by_cases hv:w.ver=(D3 L w.lab).ver
 .have h1:¬ w.ver ≠ (D3 L w.lab).ver:=fun h => h hv
  have e:((E0 w.lab L).isNone=true/\2000<=L.length)=((E0 w.lab L).isSome=false/\2000<=L.length):=by
   cases E0 w.lab L<;>simp
  refine (if_neg h1).trans (Eq.symm ((if_neg h1).trans ?_));rw [<-hv];simp only [<-e];rfl
 exact (if_pos hv).trans (if_pos hv).symm
theorem gy:j3 Tryz.prog 23:=fun _ _ => by kernel_rfl
theorem FH (b bM:Nat) (L:Shf) (hL:L.length<=100000) (k:Int) (q:u0) (hwn:q.x.r.n<=maxLen) (hl:k4 q.lab) (hwb:U64 q.lab.bits) (hwx:U64 q.x.r.nx.bits):J4 Tryz.prog 23 [.ptr 0 b 0,B5 q] [(0,⟨b,113,[.raw (.map (some bM)),.int .i64 k]⟩)] (some bM) (shK bM L) (fun y => ⟨.tup [s5 (ci y (doL L q.abs).got),.int .i64 (doL L q.abs).err],[(0,[.raw (.map (some bM)),.int .i64 (if (doL L q.abs).wrote then IntKind.i64.wrap (k + 1) else k)])],[]⟩) (fun _ _ => shK bM (doL L q.abs).L):=by
 intro m w hm hargs hpre hI;have hmx:maxLen=9223372036854775807:=rfl;have hmp:=G9 hI;have S1:=gl q.lab hwb;have S2:=kH q.x.A q.x.r.n q.x.c q.x.r.f (by omega) q.x.r.kd q.x.r.nx q.x.r.mrk hwx;rw [<-gi] at S2;simp only [b6,Q2,l4] at S1 S2;obtain ⟨il,hil⟩:=eqv (isL q.lab);obtain ⟨ir,hir⟩:=eqv (isR q.x.r.abs);rw [<-hil] at S1;rw [<-hir] at S2;obtain ⟨D0,hD⟩:=eqv ((doL L q.abs));rw [<-hD]
 skip
 refine enM (bo:=some bM) 70 hm hpre hI hargs Tryz.func23 fun B hB a0 hF => ?_
 refine wp_seq (rg hB a6 [0,3,4] [0,3,4] [] hF fun X0 a0 w1 hF => ?_);refine wp_seq (wp_seq (rg hB a6 [10,0,3,4] [0,3,4] [] hF fun X1 a0 w1 hF => ?_));refine i9 hF rfl (fun hF => ?_);obtain ⟨DM,E,hSh⟩:=hF.kept;replace hF:=hF.withK (K':=shD DM E bM L) hSh;obtain ⟨el,hel⟩:=eqv (elA (adr E L) q.lab (D3 L q.lab));obtain ⟨hh,hhh⟩:=eqv ((E0 q.lab L).isSome);refine wp_skip (wp_seq ?_);apply R2 hB 13 (some (6,[.tmp 16,.tmp 18],[.raw (.map (some bM)),.agg [.int .i64 q.lab.len,.int .u64 q.lab.bits]],.tup [.agg [.int .u64 el.w.ver,.bool (.v el.has),.int .i64 el.w.x.r.kd,.sl none el.w.x.A el.w.x.r.n el.w.x.c 2 (fun i => itC (el.w.x.r.f i)),.int .i64 el.w.x.r.nx.len,.int .u64 el.w.x.r.nx.bits,.int .u64 el.w.x.r.mrk],.bool (.v hh)])) ?hH (by kernel_rfl) a6 [0,3,4,6,7] [0,3,4,6] [] hF rfl
 case hH => exact ml hl hel hhh (fun o h => by cases h; rfl)
 case hex => intro A X; conv => lhs; cbv
 case hD => kernel_rfl
 case hZ => kernel_rfl
 case hlen => rfl
 case hob =>
  intro X;subst hB;simp only [b5,Ob.holds,BE.den]<;>and_intros<;>intros<;>trivial
 case hQ =>
 intro X3 a0 w1 hF;replace hF:=hF.withK (K':=shK bM L) ⟨DM,E,hF.kept⟩;have hev:el.w.ver=(D3 L q.lab).ver:=by rw [hel]
 have heh:el.has=(D3 L q.lab).has:=by rw [hel]
 have her:el.w.x.r.abs=(D3 L q.lab).r:=by rw [hel]; exact lz _
 refine wpList_nil (wp_seq (rg hB a6 [0,3,4,6,7,8] [8,0,3,4,6] [] hF fun X4 a0 w1 hF => ?_));obtain ⟨vi,hvi⟩:=eqv (inc (D3 L q.lab).ver);replace hF:=hF.memS (cells':=[.int .u64 vi,.bool .ff,.int .i64 0,.sl none none 0 0 2 (fun _ => []),.int .i64 0,.int .u64 0,.int .u64 0]) ⟨(by subst hB; rw [hvi,<-hev]; exact zr),zr,zr,zr,zr,zr,zr,trivial⟩;refine wp_seq (wp_block (wp_seq (eH (ι:=SpA) (S0:=[]) (M0:=[(8,_)]) (G0:=[]) (fun z => []) (fun z => [(8,⟨(X4 4).b,115,elC z⟩)]) (fun z => []) (fun z => ¬ q.kind=1/\z.w.ver=vi/\((q.kind=1 \/ q.kind=2 \/ q.kind=3)/\isL q.lab=true/\(q.kind=2 -> isR q.x.r.abs=true))/\z.has=decide (q.kind=2)/\z.w.x.r.abs=(if q.kind=2 then q.x.r.abs else i8)) hF ?_ ?_)))
 .have O1:=S1
  refine wp_block (wp_seq (wp_block (wp_seq (wp_block (wp_seq (wp_block (wp_seq (wp_seq (wp_seq (rg hB a6 [26,0,3,4,6,7,8] [8,0,3,4,6] [(2,.r fun _ => .bool (.v il))] hF fun X5 a0 w1 hF => ?_))))))))));apply a7 hF rfl<;>intro hb hF
  .have h9:(!il)=true:=by subst hB; exact hb
   have hbad:¬ ((q.kind=1 \/ q.kind=2 \/ q.kind=3)/\isL q.lab=true/\(q.kind=2 -> isR q.x.r.abs=true)):=by rw [<-hil]; intro h; rw [h.2.1] at h9; cases h9
   have hW:D0=⟨L,false,Q6,1⟩:=by rw [hD]; exact if_neg hbad
   refine wp_exit (wp_seq (wp_seq (rg hB a6 [4,5] [0,4] [] hF fun X9 a0 w1 hF => ?_)));refine wp_ret ((rm hB a6 hF (⟨0,fun _ => none,fun _ => 0,fun _ => ⟨#[]⟩⟩) [] (hmap:=?_) (he:=?_) (hs:=?_) (hJ:=?_)).1)
   .intro b hb; cases hb; exact ⟨hmp,fun m h => G9 h⟩
   .subst hB; simp only [hW]
    exact Sim.tup ⟨Sim.agg ⟨zr,zr,zr,zr,zq0,zr,zr,zr,trivial⟩,zr,trivial⟩
   .subst hB; simp only [hW]
    exact ⟨rfl,⟨_,rfl,zl⟩,trivial⟩
   simp only [hW]; exact fun _ _ h => h
  have hl1:isL q.lab=true:=by
   have h9:(!il)=false:=by subst hB; exact hb
   rw [<-hil]; simpa using h9
  refine wp_skip (wp_seq (wp_seq (rg hB a6 [31,0,3,4,6,7,8] [8,0,3,4,6] [] hF fun X6 a0 w1 hF => ?_)));apply a7 hF rfl<;>intro hb hF
  .have hk1:q.kind=1:=by subst hB; simpa [std,a8] using hb
   have hgd:((q.kind=1 \/ q.kind=2 \/ q.kind=3)/\isL q.lab=true/\(q.kind=2 -> isR q.x.r.abs=true)):=⟨.inl hk1,hl1,fun h => by omega⟩;have hW:D0=⟨L,false,⟨0,el.w.ver,el.has,el.w.x.r.abs⟩,0⟩:=by rw [hD,hev,heh,her]; refine (if_pos hgd).trans ?_; exact if_pos hk1
   refine wp_exit (wp_seq (wp_seq (rg hB a6 [4,5] [0,4] [] hF fun X10 a0 w1 hF => ?_)));refine wp_ret ((rm hB a6 hF (spY none 0 (fun _ => zSp) el.w.x.A el.w.x.c 0) [] (hmap:=?_) (he:=?_) (hs:=?_) (hJ:=?_)).1)
   .intro b hb; cases hb; exact ⟨hmp,fun m h => G9 h⟩
   .subst hB; simp only [hW]
    exact Sim.tup ⟨Sim.agg (zT (v:=⟨0,el.w.ver,el.has,el.w.x⟩) rfl rfl rfl),zr,trivial⟩
   .subst hB; simp only [hW]
    exact ⟨rfl,⟨_,rfl,zl⟩,trivial⟩
   simp only [hW]; exact fun _ _ h => h
  have hk1:¬ q.kind=1:=by subst hB; simpa [std,a8] using hb
  refine wp_skip (wp_seq (wp_seq (rg hB a6 [35,0,3,4,6,7,8] [8,0,3,4,6] [] hF fun X7 a0 w1 hF => ?_)));apply a7 hF rfl<;>intro hb hF
  .have hk2:q.kind=2:=by subst hB; simpa [std,a8] using hb
   have O1:=S2;refine wp_exit (wp_seq (wp_seq (rg hB a6 [54,0,3,4,6,7,8] [8,0,3,4,6] [(2,.r fun _ => .bool (.v ir))] hF fun X11 a0 w1 hF => ?_)));apply a7 hF rfl<;>intro hb hF
   .have h9:(!ir)=true:=by subst hB; exact hb
    have hbad:¬ ((q.kind=1 \/ q.kind=2 \/ q.kind=3)/\isL q.lab=true/\(q.kind=2 -> isR q.x.r.abs=true)):=by rw [<-hir]; intro h; rw [h.2.2 hk2] at h9; cases h9
    have hW:D0=⟨L,false,Q6,1⟩:=by rw [hD]; exact if_neg hbad
    refine wp_seq (rg hB a6 [4,5] [0,4] [] hF fun X12 a0 w1 hF => ?_);refine wp_ret ((rm hB a6 hF (⟨0,fun _ => none,fun _ => 0,fun _ => ⟨#[]⟩⟩) [] (hmap:=?_) (he:=?_) (hs:=?_) (hJ:=?_)).1)
    .intro b hb; cases hb; exact ⟨hmp,fun m h => G9 h⟩
    .subst hB; simp only [hW]
     exact Sim.tup ⟨Sim.agg ⟨zr,zr,zr,zr,zq0,zr,zr,zr,trivial⟩,zr,trivial⟩
    .subst hB; simp only [hW]
     exact ⟨rfl,⟨_,rfl,zl⟩,trivial⟩
    simp only [hW]; exact fun _ _ h => h
   have hr1:isR q.x.r.abs=true:=by
    have h9:(!ir)=false:=by subst hB; exact hb
    rw [<-hir]; simpa using h9
   have S3:=BC q.x (by have h8:=hr1; rw [gi] at h8; have:=(V5 h8).2.2.1; omega);have O1:=S3;refine wp_skip (rg hB a6 [0,3,4,6,7,8] [8,0,3,4,6] [(2,.r fun y => .agg [.int .i64 q.x.r.kd,.sl none (y.A 0) q.x.r.n (y.c 0) 2 (fun t => itC (q.x.r.f t)),.int .i64 q.x.r.nx.len,.int .u64 q.x.r.nx.bits,.int .u64 q.x.r.mrk])] hF fun X13 a0 w1 hF => ?_);refine ⟨⟨⟨q.lab,vi,⟨(X13 2).A 0,(X13 2).c 0,q.x.r⟩⟩,true⟩,⟨hk1,rfl,⟨.inr (.inl hk2),hl1,fun _ => hr1⟩,?_,?_⟩,hF.memS (cells':=elC ⟨⟨q.lab,vi,⟨(X13 2).A 0,(X13 2).c 0,q.x.r⟩⟩,true⟩) ⟨zr,Sim.tt,zr,zr,zr,zr,zr,trivial⟩⟩
   .rw [decide_eq_true hk2]
   rw [if_pos hk2]
  have hk2:¬ q.kind=2:=by subst hB; simpa [std,a8] using hb
  refine wp_skip (wp_seq (rg hB a6 [39,0,3,4,6,7,8] [8,0,3,4,6] [] hF fun X8 a0 w1 hF => ?_));apply a7 hF rfl<;>intro hb hF
  .have hk3:q.kind=3:=by subst hB; simpa [std,a8] using hb
   refine wp_exit (⟨⟨⟨q.lab,vi,zRA⟩,false⟩,⟨hk1,rfl,⟨.inr (.inr hk3),hl1,fun h => by omega⟩,?_,?_⟩,hF.memS (cells':=elC ⟨⟨q.lab,vi,zRA⟩,false⟩) ⟨zr,Sim.ff,zr,zq0,zr,zr,zr,trivial⟩⟩)
   .rw [decide_eq_false (by omega)]
   rw [if_neg (by omega)]; rfl
  have hk3:¬ q.kind=3:=by subst hB; simpa [std,a8] using hb
  have hbad:¬ ((q.kind=1 \/ q.kind=2 \/ q.kind=3)/\isL q.lab=true/\(q.kind=2 -> isR q.x.r.abs=true)):=fun h => by rcases h.1 with h | h | h; exact hk1 h; exact hk2 h; exact hk3 h
  have hW:D0=⟨L,false,Q6,1⟩:=by rw [hD]; exact if_neg hbad
  refine wp_skip (wp_exit (wp_seq (rg hB a6 [4,5] [0,4] [] hF fun X15 a0 w1 hF => ?_)));refine wp_ret ((rm hB a6 hF (⟨0,fun _ => none,fun _ => 0,fun _ => ⟨#[]⟩⟩) [] (hmap:=?_) (he:=?_) (hs:=?_) (hJ:=?_)).1)
  .intro b hb; cases hb; exact ⟨hmp,fun m h => G9 h⟩
  .subst hB; simp only [hW]
   exact Sim.tup ⟨Sim.agg ⟨zr,zr,zr,zr,zq0,zr,zr,zr,trivial⟩,zr,trivial⟩
  .subst hB; simp only [hW]
   exact ⟨rfl,⟨_,rfl,zl⟩,trivial⟩
  simp only [hW]; exact fun _ _ h => h
 rintro z ⟨hk1,hz1,hgd,hz2,hz3⟩ a0 w1 hF
 try dsimp only at hk1
 try dsimp only at hz1
 try dsimp only at hgd
 try dsimp only at hz2
 try dsimp only at hz3
 have SC:=FK 0 b bM L hL k q hl el z hh;obtain ⟨CD,hCD⟩:=eqv (R9 L q.lab q.ver el.w.ver hh ⟨z.w.ver,z.has,z.w.x.r.abs⟩);rw [<-hCD] at SC;have hDC:D0=CD:=by
  rw [hD,hCD,Ac (w:=q.abs) hgd hk1,hz1,hz2,hz3,hvi,hev,hhh]; rfl
 obtain ⟨G,hG⟩:∃ G:f9 -> l9,G=fun y => ci y CD.got:=⟨_,rfl⟩
 have hGG:∀ y,ci y CD.got=G y:=fun y => by rw [hG]
 simp only [hGG] at SC;obtain ⟨k2,hk2⟩:=eqv ((if CD.wrote then IntKind.i64.wrap (k + 1) else k));rw [<-hk2] at SC;refine wp_seq (wp_seq (wp_region_lit (lpr 0 5 hB a6 [61,62,63,64,65,4] [0,4] [] hF fun X14_0 a0 w1 hF => ?_)));refine D7 rfl rfl rfl rfl hF rfl rfl xx SC (fun _ _ h => h) (fun b hb => by cases hb; exact fun _ => .inr rfl) (zl) (by intro e he; simp only [List.mem_singleton] at he; subst he; rfl) rfl rfl (fun _ => shK bM CD.L) (fun _ _ _ _ _ _ _ _ _ h => h) ?_;intro y a0 w1 hF;refine lnd 6 hB a6 [4,5] [0,4] [] hF fun X14 a0 w1 hF => ?_
 refine wp_ret ((rm hB a6 hF (y) [] (hmap:=?_) (he:=?_) (hs:=?_) (hJ:=?_)).1)
 .intro b hb; cases hb; exact ⟨hmp,fun m h => G9 h⟩
 .subst hB; rw [hDC,hGG]; exact zr
 .rw [hDC,<-hk2]
  exact ⟨rfl,⟨_,rfl,zl⟩,trivial⟩
 rw [hDC]; exact fun _ _ h => h
theorem Ab (k0:Nat) (b bM:Nat) (L:Shf) (hL:L.length<=100000) (k:Int) (q:u0) (hwn:q.x.r.n<=maxLen) (hl:k4 q.lab) (hwb:U64 q.lab.bits) (hwx:U64 q.x.r.nx.bits):J4 Tryz.prog 23 [.ptr k0 b 0,B5 q] [(k0,⟨b,113,[.raw (.map (some bM)),.int .i64 k]⟩)] (some bM) (shK bM L) (fun y => ⟨.tup [s5 (ci y (doL L q.abs).got),.int .i64 (doL L q.abs).err],[(k0,[.raw (.map (some bM)),.int .i64 (if (doL L q.abs).wrote then IntKind.i64.wrap (k + 1) else k)])],[]⟩) (fun _ _ => shK bM (doL L q.abs).L):=
 (FH b bM L hL k q hwn hl hwb hwx).re (by repeat (first | exact trivial | refine ⟨Sim.ptr,?_⟩ | refine ⟨Sim.fn ⟨Sim.ptr,trivial⟩ trivial,?_⟩ | refine ⟨Sim.fn trivial ⟨Sim.ptr,trivial⟩,?_⟩ | refine ⟨zr,?_⟩)) rfl (fun x => ⟨rfl,rfl,zr,rfl⟩)
end Go.Proofs.YtodelmejfpkicaaGreat.Sym
namespace Go.Proofs.YtodelmejfpkicaaGreat.Sym
open Go Go.RowKit
open Go.Sort (flatK HoldsK putRowK get_flatK size_flatK)
section
variable {α : Type} [Inhabited α] {k:Nat} {cells:α -> List AV} {w w':World} {B e:Nat} {A:Option Addr} {n c:Nat} {h:Nat -> α}
abbrev cm (cells:α -> List AV):α -> List Value:=fun x => (cells x).map AV.den
theorem sN (hk:∀ x,(cells x).length=k) (d:Array α) (i j:Nat) (hi:i < d.size) (hj:j < k):(flatK (cm cells) k d)[i * k + j]! = ((cells d[i]!).map AV.den)[j]!:=by
 have hlt:i * k + j < d.size * k:=by
  have:(i + 1) * k<=d.size * k:=Nat.mul_le_mul_right k hi;rw [Nat.add_mul,Nat.one_mul] at this;omega
 rw [get_flatK _ _ _ _ hlt];have h1:(i * k + j) / k=i:=by rw [Nat.mul_comm,Nat.mul_add_div (by omega),Nat.div_eq_of_lt hj,Nat.add_zero]
 have h2:(i * k + j) % k=j:=by rw [Nat.mul_comm,Nat.mul_add_mod,Nat.mod_eq_of_lt hj]
 rw [h1,h2]
theorem nK (hk:∀ x,(cells x).length=k) (hO:Own w B e k (.slice A n c) n (f7 (fun t => cells (h t)) n)) (hn:0 < n):∃ b,A=some ⟨b,0,none⟩/\B<=b/\b < w.heap.size/\HoldsK (cm cells) k w b 0 ((List.range n).map h).toArray:=by
 obtain ⟨b,hA,hb⟩:=K2 hO hn;obtain ⟨h1,h2⟩:=hO.lt b hb;refine ⟨b,hA,h1,h2,fun t ht => ?_⟩;have hsz:((List.range n).map h).toArray.size=n:=by simp
 rw [size_flatK,hsz] at ht;have hk0:0 < k:=by rcases Nat.eq_zero_or_pos k with h0 | h0; rw [h0] at ht; omega; exact h0
 obtain ⟨i,j,hj,rfl⟩:∃ i j,j < k/\t=i * k + j:=⟨t / k,t % k,Nat.mod_lt _ hk0,by rw [Nat.mul_comm]; exact (Nat.div_add_mod t k).symm⟩
 have hi:i < n:=by
  refine Nat.lt_of_not_le fun hle => ?_
  have:=Nat.mul_le_mul_right k hle;omega
 have hd:((List.range n).map h).toArray[i]! = h i:=by
  rw [getElem!_pos _ i (by rw [hsz]; exact hi)]; simp
 rw [sN hk _ i j (by rw [hsz]; exact hi) hj,hd,Nat.zero_add];have hg:=B4 (cells:=fun t => cells (h t)) (n:=n) (fun i _ => hk _) hi hj;have hjl:j < ((cells (h i)).map AV.den).length:=by rw [List.length_map,hk]; exact hj
 rw [List.getElem?_eq_getElem hjl] at hg;refine ⟨?_,?_⟩
 .rw [K7 hO hb _ _ hg,getElem!_pos _ j hjl]; rfl
 obtain ⟨_,h2 | ⟨g,cap,cur,hv,_,hcur,_⟩⟩:=hO
 .obtain ⟨h0,_⟩:=h2; omega
 injection hv with e1
 rw [hA] at e1;injection e1 with e1
 injection e1 with e1
 subst e1;simp [World.frozen?,hcur]
theorem mj (d':Array α) (m:Nat) (os:Array Obj) {b:Nat} (hb:b < w.heap.size):(sortWorldK (cm cells) k w b 0 m d' os).heap[b]? = (w.heap[b]?).map (Go.Sort.onCells (Go.Sort.putCells id 0 (flatK (cm cells) k d')))/\∀ x,x < w.heap.size -> x ≠ b -> (sortWorldK (cm cells) k w b 0 m d' os).heap[x]? = w.heap[x]?:=by
 have hsz:(putRowK (cm cells) k (Go.Sort.ahead w m) b 0 d').heap.size=w.heap.size:=by simp [putRowK,Go.Sort.putRow,Go.Sort.mapBlock,Go.Sort.ahead]
 refine ⟨?_,fun x hx hne => ?_⟩
 .unfold sortWorldK Go.Sort.grow
  simp only;rw [Array.getElem?_append_left (by rw [hsz]; exact hb)];simp [putRowK,Go.Sort.putRow,Go.Sort.mapBlock,Go.Sort.ahead,Array.getElem?_modify]
 unfold sortWorldK Go.Sort.grow;simp only;rw [Array.getElem?_append_left (by rw [hsz]; exact hx)];simp [putRowK,Go.Sort.putRow,Go.Sort.mapBlock,Go.Sort.ahead,Array.getElem?_modify];intro e; exact absurd e.symm hne
theorem wj (hk:∀ x,(cells x).length=k) (hO:Own w B e k (.slice A n c) n (f7 (fun t => cells (h t)) n)) (hn:0 < n) {b:Nat} (hA:A=some ⟨b,0,none⟩) (hb:b < w.heap.size) (d':Array α) (hd:d'.size=n) (m:Nat) (os:Array Obj) :
  Own (sortWorldK (cm cells) k w b 0 m d' os) B e k (.slice A n c) n (f7 (fun t => cells d'[t]!) n):=by
 have hlen:(f7 (fun t => cells d'[t]!) n).length=n * k:=B8 fun i _ => hk _
 refine ⟨hlen,?_⟩
 rcases hO.2 with ⟨h0,_⟩ | ⟨g,cap,cur,hv,h1,h2,h3,h4,h5,h6,h7⟩
 .omega
 injection hv with e1 e2 e3
 subst e3;have:g=b:=by rw [hA] at e1; injection e1 with e1; injection e1 with e1; exact e1.symm
 subst this;subst e1
 right
 refine ⟨g,c,Go.Sort.putCells id 0 (flatK (cm cells) k d') cur,rfl,h1,?_,h3,h4,h5,?_,?_⟩
 .rw [(mj d' m os hb).1,h2]; rfl
 .simp [Go.Sort.putCells,h6]
 apply List.ext_getElem?;intro t
 by_cases ht:t < n * k
 .have hcs:t < cur.size:=by
   rw [h6]; have:=Nat.mul_le_mul_right k h3; omega
  rw [List.getElem?_take_of_lt ht];have hk0:0 < k:=by rcases Nat.eq_zero_or_pos k with h0 | h0; rw [h0] at ht; omega; exact h0
  obtain ⟨i,j,hj,rfl⟩:∃ i j,j < k/\t=i * k + j:=⟨t / k,t % k,Nat.mod_lt _ hk0,by rw [Nat.mul_comm]; exact (Nat.div_add_mod t k).symm⟩
  have hi:i < n:=by
   refine Nat.lt_of_not_le fun hle => ?_
   have:=Nat.mul_le_mul_right k hle;omega
  rw [B4 (cells:=fun t => cells d'[t]!) (n:=n) (fun i _ => hk _) hi hj];have hf:=sN hk d' i j (by rw [hd]; exact hi) hj;have hjl:j < ((cells d'[i]!).map AV.den).length:=by rw [List.length_map,hk]; exact hj
  rw [getElem!_pos _ j hjl] at hf;simp only [Array.getElem?_toList,Go.Sort.putCells,Array.getElem?_mapIdx,Array.getElem?_eq_getElem hcs,Option.map_some,Nat.zero_le,true_and,Nat.zero_add,Nat.sub_zero,size_flatK,hd,ht,if_true,id];rw [hf,List.getElem?_eq_getElem hjl]
 rw [List.getElem?_eq_none (by rw [List.length_take]; omega),List.getElem?_eq_none (by rw [hlen]; omega)]
theorem jJ {P:Program} {f:Nat} {fv:Value} {lt:α -> α -> Bool} (hk:∀ x,(cells x).length=k) (hO:Own w B e k (.slice A n c) n (f7 (fun t => cells (h t)) n))
  (hc:∀ b (d:Array α),d.size=n -> HoldsK (cm cells) k w b 0 d -> b < w.heap.size -> Calls P f #[.slice (some ⟨b,0,none⟩) d.size c,fv] w fun e w' => e = .returned (.tuple #[])/\∃ d' m os,Go.Sort.PermIn 0 d.size d d'/\Go.Sort.SortedIn lt 0 d.size d'/\w'=sortWorldK (cm cells) k w b 0 m d' os)
  (h0:n=0 -> Calls P f #[.slice A 0 c,fv] w fun e w' => e = .returned (.tuple #[])/\w'=w) :
  Calls P f #[.slice A n c,fv] w fun e' w' => e' = .returned (.tuple #[])/\∃ h':Nat -> α,((List.range n).map h').Perm ((List.range n).map h)/\(∀ i j,i < j -> j < n -> lt (h' j) (h' i)=false)/\Own w' B e k (.slice A n c) n (f7 (fun t => cells (h' t)) n)/\Chg (fun x => l8 (.slice A n c)=some x) w w':=by
 rcases Nat.eq_zero_or_pos n with hn | hn
 .subst hn
  refine (h0 rfl).mono ?_
  rintro e' w' ⟨rfl,rfl⟩
  exact ⟨rfl,h,.refl _,fun i j _ hj => absurd hj (Nat.not_lt_zero _),hO,Chg.refl _ _⟩
 obtain ⟨b,hA,hB,hb,hH⟩:=nK hk hO hn;have hsz:((List.range n).map h).toArray.size=n:=by simp
 have:=hc b _ hsz hH hb;rw [hsz,<-hA] at this;refine this.mono ?_
 rintro e' w' ⟨rfl,d',m,os,hp,hs,rfl⟩
 have hd:d'.size=n:=by rw [hp.1,hsz]
 refine ⟨rfl,fun i => d'[i]!,?_,fun i j hij hj => hs i j (Nat.zero_le _) hij hj,wj hk hO hn hA hb d' hd m os,?_⟩
 .have h3:=hp.2.2
  have e1:(d'.extract 0 n).toList=(List.range n).map fun i => d'[i]!:=by
   apply List.ext_getElem
   .simp [hd]
   intro i g1 g2;have hi:i < n:=by simpa using g2
   simp [getElem!_pos d' i (by rw [hd]; exact hi)]
  have e2:(((List.range n).map h).toArray.extract 0 n).toList=(List.range n).map h:=by
   simp [List.take_of_length_le]
  rw [e1,e2] at h3;exact h3
 have hown:l8 (.slice A n c)=some b:=by
  obtain ⟨b',hA',hb'⟩:=K2 hO hn;rw [hA] at hA';injection hA' with hA'; injection hA' with hA'
  rw [hA']; exact hb'
 refine ⟨rfl,rfl,rfl,?_,fun x hx hne => (mj d' m os hb).2 x hx (fun e => hne (by rw [e]; exact hown))⟩;exact size_sortWorldK_c (cm cells) k w b 0 m d' os
end
theorem lS {m:Nat -> Nat -> Prop} {w:World} {B e k:Nat} {A:Option Addr} {n c:Nat} {f:Nat -> List AV} (hO:Own w B e k (.slice A n c) n (f7 f n)) (hk:∀ i,i < n -> (f i).length=k) (hm:∀ b,l8 (.slice A n c)=some b -> ∀ o,¬ m b o) (h1:∀ i,i < n -> ∀ v ∈ f i,v.one=true/\Ok m w v) (g:Option Nat):Ok m w (.sl g A n c k f):=by
 obtain ⟨A',c',he,h2,h3⟩:=hO.isSlice;injection he with e1 e2 e3; subst e3
 refine .sl _ _ _ _ _ _ h2 h3 hk (fun i hi => ?_) (fun i hi => ?_) (fun i hi v hv => (h1 i hi v hv).1) (fun i hi v hv => (h1 i hi v hv).2)
 .obtain ⟨b,hA,_⟩:=K2 hO (by omega)
  exact ⟨b,0,hA⟩
 obtain ⟨b,hA,hb⟩:=K2 hO (by omega);intro j u hu;have hj:j < k:=by
  have:=(List.getElem?_eq_some_iff.1 hu).1
  rwa [List.length_map,hk i hi] at this
 have hget:=B4 (cells:=f) hk hi hj;rw [hu] at hget;exact ⟨b,0,hA,by rw [Nat.zero_add]; exact K7 hO hb _ u hget,hm b hb _⟩
theorem b4.sorted {m0:Nat -> Nat -> Prop} {w0:World} {S:Nat -> Prop} {ds:List Deferred} {K:Kn} {nt key:Nat} {t:Gr} {l l':List (Nat × AV)} {mem:List (Nat × Blk)} {a:Act} {w w':World} (h:b4 ⟨m0,w0,S,ds,K⟩ ⟨nt,l,[],mem,[(key,t)]⟩ a w) (hc:Chg (fun x => l8 t.v=some x) w w')
  (hl:∀ x,(look l' x).known=true -> a.tmps[x]? = some (look l' x).den/\Ok (St.m ⟨nt,l',[],mem,[]⟩ ⟨m0,w0,S,ds,noK⟩) w' (look l' x)) (hm:∀ k e,f5 mem k=some e -> ∀ v ∈ e.cells,Ok (St.m ⟨nt,l',[],mem,[]⟩ ⟨m0,w0,S,ds,noK⟩) w' v):b4 ⟨m0,w0,S,ds,noK⟩ ⟨nt,l',[],mem,[]⟩ a w':=by
 have hlt:∀ b,l8 t.v=some b -> w0.heap.size<=b:=fun b hb => by
  obtain ⟨_,xs,ho⟩:=h.gr key t (by simp [f5]);exact (ho.lt b hb).1
 refine ⟨h.size,h.defers,hl,(fun t p v hg => by cases hg),fun k e he => ?_,h.nodup,(fun k t ht => by cases ht),(fun k t k' e ht => by cases ht),(fun k t k' t' b ht => by cases ht),?_,h.m0,trivial⟩
 .obtain ⟨h1,h2,h3⟩:=h.mem k e he
  refine ⟨?_,fun v hv => ⟨(h2 v hv).1,hm k e he v hv⟩,h3⟩;rw [hc.block _ (L3 h1) (fun hb => h.sepm key t k e (by simp [f5]) he hb)];exact h1
 exact h.chg.trans hc fun k hk hb => absurd hk (Nat.not_lt.2 (hlt k hb))
theorem b4.notM {m0:Nat -> Nat -> Prop} {w0:World} {S:Nat -> Prop} {ds:List Deferred} {K:Kn} {nt key:Nat} {t:Gr} {l l':List (Nat × AV)} {mem:List (Nat × Blk)} {a:Act} {w:World} (h:b4 ⟨m0,w0,S,ds,K⟩ ⟨nt,l,[],mem,[(key,t)]⟩ a w):∀ b,l8 t.v=some b -> ∀ o,¬ St.m ⟨nt,l',[],mem,[]⟩ ⟨m0,w0,S,ds,noK⟩ b o:=by
 intro b hb o hm;obtain ⟨_,xs,ho⟩:=h.gr key t (by simp [f5]);have h1:=(ho.lt b hb).1
 rcases hm with hm | ⟨k,e,he,hm⟩ | ⟨k,t',ht,_⟩
 .exact absurd (h.m0 _ _ hm) (Nat.not_lt.2 h1)
 .subst hm
  exact h.sepm key t k e (by simp [f5]) he hb
 cases ht
end Go.Proofs.YtodelmejfpkicaaGreat.Sym
namespace Go.Proofs.YtodelmejfpkicaaGreat.Sym
open Go Go.RowKit
def aV (x y:Int):Int:=if x < y then -1 else if y < x then 1 else 0
theorem xS (x y:Int) (w:World):Calls Tryz.prog 86 #[.int .u64 x,.int .u64 y] w fun e w' => e = .returned (.int .i64 (aV x y))/\w'=w:=by
 have hn:∀ (x:Int) (w:World),Calls Tryz.prog 156 #[.int .u64 x] w fun e w' => e = .returned (.bool false)/\w'=w:=by
  intro x w
  go_enter Tryz.func156,Tryz.ntmps156
  go_wp2_with fail
  go_ret
  simp
 unfold aV
 go_enter Tryz.func86,Tryz.ntmps86
 go_wp2_with (go_at_call 156; refine (hn _ _).mono ?_; rintro e w' ⟨rfl,rfl⟩)
 all_goals (go_ret; exact ⟨rfl,rfl⟩)
theorem xT (x y:Int) (w:World):Calls Tryz.prog 104 #[.int .i64 x,.int .i64 y] w fun e w' => e = .returned (.int .i64 (aV x y))/\w'=w:=by
 have hn:∀ (x:Int) (w:World),Calls Tryz.prog 168 #[.int .i64 x] w fun e w' => e = .returned (.bool false)/\w'=w:=by
  intro x w
  go_enter Tryz.func168,Tryz.ntmps168
  go_wp2_with fail
  go_ret
  simp
 unfold aV
 go_enter Tryz.func104,Tryz.ntmps104
 go_wp2_with (go_at_call 168; refine (hn _ _).mono ?_; rintro e w' ⟨rfl,rfl⟩)
 all_goals (go_ret; exact ⟨rfl,rfl⟩)
theorem Fe (b:Nat) (x y:Int) (w:World) (h0:w.cell? ⟨b,0,none⟩=some (.int .i64 x)) (h1:w.cell? ⟨b,1,none⟩=some (.int .i64 y)):Calls Tryz.prog 103 #[.slice (some ⟨b,0,none⟩) 2 2] w fun e w' => e = .returned (.int .i64 (if x ≠ 0 then x else y))/\w'=w:=by
 go_enter Tryz.func103,Tryz.ntmps103
 go_wp2_with fail
 refine wp_loop_rounds 3 ?_;simp only [Code.rounds]
 go_wp2_with fail
 all_goals (go_ret; first | exact ⟨rfl,rfl⟩ | (exfalso; simp_all; done) | (refine ⟨?_,rfl⟩; simp_all; done))
def GrF (W w:World):Prop:=∃ q os,w=Go.Sort.grow (W.drewN q) os
theorem GrF.refl (W:World):GrF W W:=⟨0,#[],by simp [Go.Sort.grow,World.drewN]⟩
theorem GrF.drew {W w:World} (h:GrF W w):GrF W w.drew:=by
 obtain ⟨q,os,rfl⟩:=h;exact ⟨q + 1,os,rfl⟩
theorem GrF.alloc {W w:World} (h:GrF W w) (o:Obj):GrF W (w.alloc o):=by
 obtain ⟨q,os,rfl⟩:=h;exact ⟨q,os.push o,by simp [Go.Sort.grow,World.alloc,World.drewN]⟩
theorem GrF.size {W w:World} (h:GrF W w):W.heap.size<=w.heap.size:=by
 obtain ⟨q,os,rfl⟩:=h;simp [Go.Sort.grow,World.drewN]
theorem lp {w:World} {a:Addr} {u:Value} (h:w.cell? a=some u) (o:Obj):(w.alloc o).cell? a=some u:=by
 have hl:=World.block_lt_of_cell? w _ h;unfold World.cell? at h ⊢;rw [Below.heap_alloc _ _ _ hl]; exact h
theorem eN {w:World} {a:Addr} {u:Value} (h:w.cell? a=some u):w.drew.cell? a=some u:=h
theorem ny (w:World) (x y:Value) (t:TypeId):(w.alloc (.cells #[x,y] t)).cell? ⟨w.heap.size,0,none⟩=some x:=cell_of_row _ _ 0 _ _ _ (heap_alloc_new w _)
theorem nw (w:World) (x y:Value) (t:TypeId):(w.alloc (.cells #[x,y] t)).cell? ⟨w.heap.size,1,none⟩=some y:=cell_of_row _ _ 1 _ _ _ (heap_alloc_new w _)
theorem size_alloc {n:Nat} {w:World} (h:n<=w.heap.size) (o:Obj):n<=(w.alloc o).heap.size:=by simp; omega
def bJ (a b:Lab):Int:=if aV a.bits b.bits ≠ 0 then aV a.bits b.bits else aV a.len b.len
end Go.Proofs.YtodelmejfpkicaaGreat.Sym
namespace Go.Proofs
open Go.Shelf
def Tryz.sortRow_ren:Go.Shelf.Ren:=⟨fun | 6 => 93 | 15 => 159 | 14 => 158 | 28 => 224 | 29 => 225 | 20 => 216 | 21 => 217 | 22 => 218 | 23 => 219 | 24 => 220 | 25 => 221 | 26 => 222 | 27 => 223 | 46 => 271 | 47 => 272 | 48 => 273 | 49 => 274 | 50 => 275 | 57 => 305 | n => n,fun | 22 => 46 | 24 => 110 | 25 => 142 | 3 => 3 | 39 => 183 | 0 => 0 | 53 => 26 | 55 => 22 | 4 => 4 | 46 => 244 | 45 => 243 | 50 => 248 | 5 => 5 | 9 => 9 | 66 => 285 | 70 => 288 | 76 => 308 | 77 => 309 | n => n,fun | n => n⟩
theorem Tryz.sortRow:Go.Proofs.SlLaysF0.n6 Tryz.prog Tryz.sortRow_ren:={
 mixed:=by kernel_rfl
 f6:=⟨Tryz.f93.name,by decide,Tryz.func93.trans (congrArg some (by kernel_rfl))⟩
 f14:=⟨Tryz.f158.name,by decide,Tryz.func158.trans (congrArg some (by kernel_rfl))⟩
 f15:=Tryz.func159.trans (congrArg some (by kernel_rfl))
 f20:=⟨Tryz.f216.name,by decide,Tryz.func216.trans (congrArg some (by kernel_rfl))⟩
 f21:=⟨Tryz.f217.name,by decide,Tryz.func217.trans (congrArg some (by kernel_rfl))⟩
 f22:=⟨Tryz.f218.name,by decide,Tryz.func218.trans (congrArg some (by kernel_rfl))⟩
 f23:=⟨Tryz.f219.name,by decide,Tryz.func219.trans (congrArg some (by kernel_rfl))⟩
 f24:=⟨Tryz.f220.name,by decide,Tryz.func220.trans (congrArg some (by kernel_rfl))⟩
 f25:=⟨Tryz.f221.name,by decide,Tryz.func221.trans (congrArg some (by kernel_rfl))⟩
 f26:=⟨Tryz.f222.name,by decide,Tryz.func222.trans (congrArg some (by kernel_rfl))⟩
 f27:=⟨Tryz.f223.name,by decide,Tryz.func223.trans (congrArg some (by kernel_rfl))⟩
 f28:=Tryz.func224.trans (congrArg some (by kernel_rfl))
 f29:=Tryz.func225.trans (congrArg some (by kernel_rfl))
 f46:=⟨Tryz.f271.name,by decide,Tryz.func271.trans (congrArg some (by kernel_rfl))⟩
 f47:=Tryz.func272.trans (congrArg some (by kernel_rfl))
 f48:=Tryz.func273.trans (congrArg some (by kernel_rfl))
 f49:=⟨Tryz.f274.name,by decide,Tryz.func274.trans (congrArg some (by kernel_rfl))⟩
 f50:=⟨Tryz.f275.name,by decide,Tryz.func275.trans (congrArg some (by kernel_rfl))⟩
 f57:=⟨Tryz.f305.name,by decide,Tryz.func305.trans (congrArg some (by kernel_rfl))⟩
 t0:=Tryz.underlying0
 a0:=Tryz.isAgg0
 z0:=Tryz.sizeOf0
 v0:=Tryz.zeroValue0
 t3:=Tryz.underlying3
 a3:=Tryz.isAgg3
 z3:=Tryz.sizeOf3
 v3:=Tryz.zeroValue3
 t4:=Tryz.underlying4
 a4:=Tryz.isAgg4
 z4:=Tryz.sizeOf4
 v4:=Tryz.zeroValue4
 t5:=Tryz.underlying5
 a5:=Tryz.isAgg5
 z5:=Tryz.sizeOf5
 v5:=Tryz.zeroValue5
 t9:=Tryz.underlying9
 a9:=Tryz.isAgg9
 z9:=Tryz.sizeOf9
 v9:=Tryz.zeroValue9
 t22:=Tryz.underlying46
 a22:=Tryz.isAgg46
 z22:=Tryz.sizeOf46
 v22:=Tryz.zeroValue46
 t25:=Tryz.underlying142
 a25:=Tryz.isAgg142
 z25:=Tryz.sizeOf142
 v25:=Tryz.zeroValue142
 t39:=Tryz.underlying183
 a39:=Tryz.isAgg183
 z39:=Tryz.sizeOf183
 v39:=Tryz.zeroValue183
 t45:=Tryz.underlying243
 a45:=Tryz.isAgg243
 z45:=Tryz.sizeOf243
 v45:=Tryz.zeroValue243
 t46:=Tryz.underlying244
 a46:=Tryz.isAgg244
 z46:=Tryz.sizeOf244
 v46:=Tryz.zeroValue244
 t50:=Tryz.underlying248
 a50:=Tryz.isAgg248
 z50:=Tryz.sizeOf248
 v50:=Tryz.zeroValue248
 t53:=Tryz.underlying26
 a53:=Tryz.isAgg26
 z53:=Tryz.sizeOf26
 v53:=Tryz.zeroValue26
 t55:=Tryz.underlying22
 a55:=Tryz.isAgg22
 z55:=Tryz.sizeOf22
 v55:=Tryz.zeroValue22
 t66:=Tryz.underlying285
 a66:=Tryz.isAgg285
 z66:=Tryz.sizeOf285
 v66:=Tryz.zeroValue285
 t70:=Tryz.underlying288
 a70:=Tryz.isAgg288
 z70:=Tryz.sizeOf288
 v70:=Tryz.zeroValue288
 t76:=Tryz.underlying308
 a76:=Tryz.isAgg308
 z76:=Tryz.sizeOf308
 v76:=Tryz.zeroValue308
 t77:=Tryz.underlying309
 a77:=Tryz.isAgg309
 z77:=Tryz.sizeOf309
 v77:=Tryz.zeroValue309 }
def Tryz.sortLab_ren:Go.Shelf.Ren:=⟨fun | 6 => 97 | 15 => 159 | 14 => 160 | 28 => 224 | 29 => 225 | 20 => 226 | 21 => 227 | 22 => 228 | 23 => 229 | 24 => 230 | 25 => 231 | 26 => 232 | 27 => 233 | 46 => 276 | 47 => 272 | 48 => 273 | 49 => 277 | 50 => 278 | 57 => 306 | n => n,fun | 22 => 57 | 24 => 24 | 25 => 141 | 3 => 3 | 39 => 183 | 0 => 0 | 53 => 26 | 55 => 22 | 4 => 4 | 46 => 244 | 45 => 243 | 50 => 248 | 5 => 5 | 9 => 9 | 66 => 285 | 70 => 288 | 76 => 308 | 77 => 309 | n => n,fun | n => n⟩
theorem Tryz.sortLab:Go.Proofs.SlLaysF0.n6 Tryz.prog Tryz.sortLab_ren:={
 mixed:=by kernel_rfl
 f6:=⟨Tryz.f97.name,by decide,Tryz.func97.trans (congrArg some (by kernel_rfl))⟩
 f14:=⟨Tryz.f160.name,by decide,Tryz.func160.trans (congrArg some (by kernel_rfl))⟩
 f15:=Tryz.func159.trans (congrArg some (by kernel_rfl))
 f20:=⟨Tryz.f226.name,by decide,Tryz.func226.trans (congrArg some (by kernel_rfl))⟩
 f21:=⟨Tryz.f227.name,by decide,Tryz.func227.trans (congrArg some (by kernel_rfl))⟩
 f22:=⟨Tryz.f228.name,by decide,Tryz.func228.trans (congrArg some (by kernel_rfl))⟩
 f23:=⟨Tryz.f229.name,by decide,Tryz.func229.trans (congrArg some (by kernel_rfl))⟩
 f24:=⟨Tryz.f230.name,by decide,Tryz.func230.trans (congrArg some (by kernel_rfl))⟩
 f25:=⟨Tryz.f231.name,by decide,Tryz.func231.trans (congrArg some (by kernel_rfl))⟩
 f26:=⟨Tryz.f232.name,by decide,Tryz.func232.trans (congrArg some (by kernel_rfl))⟩
 f27:=⟨Tryz.f233.name,by decide,Tryz.func233.trans (congrArg some (by kernel_rfl))⟩
 f28:=Tryz.func224.trans (congrArg some (by kernel_rfl))
 f29:=Tryz.func225.trans (congrArg some (by kernel_rfl))
 f46:=⟨Tryz.f276.name,by decide,Tryz.func276.trans (congrArg some (by kernel_rfl))⟩
 f47:=Tryz.func272.trans (congrArg some (by kernel_rfl))
 f48:=Tryz.func273.trans (congrArg some (by kernel_rfl))
 f49:=⟨Tryz.f277.name,by decide,Tryz.func277.trans (congrArg some (by kernel_rfl))⟩
 f50:=⟨Tryz.f278.name,by decide,Tryz.func278.trans (congrArg some (by kernel_rfl))⟩
 f57:=⟨Tryz.f306.name,by decide,Tryz.func306.trans (congrArg some (by kernel_rfl))⟩
 t0:=Tryz.underlying0
 a0:=Tryz.isAgg0
 z0:=Tryz.sizeOf0
 v0:=Tryz.zeroValue0
 t3:=Tryz.underlying3
 a3:=Tryz.isAgg3
 z3:=Tryz.sizeOf3
 v3:=Tryz.zeroValue3
 t4:=Tryz.underlying4
 a4:=Tryz.isAgg4
 z4:=Tryz.sizeOf4
 v4:=Tryz.zeroValue4
 t5:=Tryz.underlying5
 a5:=Tryz.isAgg5
 z5:=Tryz.sizeOf5
 v5:=Tryz.zeroValue5
 t9:=Tryz.underlying9
 a9:=Tryz.isAgg9
 z9:=Tryz.sizeOf9
 v9:=Tryz.zeroValue9
 t22:=Tryz.underlying57
 a22:=Tryz.isAgg57
 z22:=Tryz.sizeOf57
 v22:=Tryz.zeroValue57
 t25:=Tryz.underlying141
 a25:=Tryz.isAgg141
 z25:=Tryz.sizeOf141
 v25:=Tryz.zeroValue141
 t39:=Tryz.underlying183
 a39:=Tryz.isAgg183
 z39:=Tryz.sizeOf183
 v39:=Tryz.zeroValue183
 t45:=Tryz.underlying243
 a45:=Tryz.isAgg243
 z45:=Tryz.sizeOf243
 v45:=Tryz.zeroValue243
 t46:=Tryz.underlying244
 a46:=Tryz.isAgg244
 z46:=Tryz.sizeOf244
 v46:=Tryz.zeroValue244
 t50:=Tryz.underlying248
 a50:=Tryz.isAgg248
 z50:=Tryz.sizeOf248
 v50:=Tryz.zeroValue248
 t53:=Tryz.underlying26
 a53:=Tryz.isAgg26
 z53:=Tryz.sizeOf26
 v53:=Tryz.zeroValue26
 t55:=Tryz.underlying22
 a55:=Tryz.isAgg22
 z55:=Tryz.sizeOf22
 v55:=Tryz.zeroValue22
 t66:=Tryz.underlying285
 a66:=Tryz.isAgg285
 z66:=Tryz.sizeOf285
 v66:=Tryz.zeroValue285
 t70:=Tryz.underlying288
 a70:=Tryz.isAgg288
 z70:=Tryz.sizeOf288
 v70:=Tryz.zeroValue288
 t76:=Tryz.underlying308
 a76:=Tryz.isAgg308
 z76:=Tryz.sizeOf308
 v76:=Tryz.zeroValue308
 t77:=Tryz.underlying309
 a77:=Tryz.isAgg309
 z77:=Tryz.sizeOf309
 v77:=Tryz.zeroValue309 }
end Go.Proofs
namespace Go.Proofs.YtodelmejfpkicaaGreat.Sym
open Go Go.RowKit Go.Sort
instance : Inhabited l5 := ⟨ou⟩
def Y3 (a b:Lab):Bool:=decide (bJ a b < 0)
theorem bY (a b:Lab):Y3 a b=true ↔ a.bits < b.bits \/ (a.bits=b.bits/\a.len < b.len):=by
 unfold Y3 bJ aV;rw [decide_eq_true_iff]
 split<;>rename_i h<;>(repeat' split at h)<;>(repeat' split)<;>omega
theorem et (a b:Lab):Y3 a b=false ↔ ¬ (a.bits < b.bits \/ (a.bits=b.bits/\a.len < b.len)):=by
 rw [<-bY]; simp
def iT (x y:l5):Int:=bJ x.lab y.lab
theorem ll (x y:l5):ltOf iT x y=Y3 x.lab y.lab:=rfl
theorem vz:SWO (ltOf iT):=by
 refine ⟨fun x => ?_,fun x y z h1 h2 => ?_,fun x y z h1 h2 => ?_⟩
 .rw [ll,et]; omega
 .rw [ll,bY] at *; omega
 rw [ll,et] at *; omega
end Go.Proofs.YtodelmejfpkicaaGreat.Sym
namespace Go.Proofs.YtodelmejfpkicaaGreat.Sym
open Go Go.RowKit
theorem vO (a b:l5) (W:World):Calls Tryz.prog 102 #[.agg ((u7 a).map AV.den).toArray,.agg ((u7 b).map AV.den).toArray] W fun e w' => e = .returned (.int .i64 (bJ a.lab b.lab))/\GrF W w':=by
 obtain ⟨⟨al,ab⟩,av,⟨aA,ac,⟨an,af,ak,⟨anl,anb⟩,am⟩⟩⟩:=a;obtain ⟨⟨bl,bb⟩,bv,⟨bA,bc,⟨bn,bf,bk,⟨bnl,bnb⟩,bm⟩⟩⟩:=b;simp only [u7,List.map_cons,List.map_nil,AV.den,bJ];have hU:=fun w => xS ab bb w
 have hN:=fun w => xT al bl w
 generalize aV ab bb=x at hU ⊢
 generalize aV al bl=y at hN ⊢
 have hO:=fun b w h0 h1 => Fe b x y w h0 h1
 generalize (if x ≠ 0 then x else y)=r at hO ⊢
 go_enter Tryz.func102,Tryz.ntmps102
 go_wp2_with fail
 obtain ⟨W5,hW5⟩:=eqv ((W.alloc (.cells #[.int .i64 al,.int .u64 ab,.int .u64 av,.int .i64 ak,.slice aA an ac,.int .i64 anl,.int .u64 anb,.int .u64 am] 110)).alloc (.cells #[.int .i64 bl,.int .u64 bb,.int .u64 bv,.int .i64 bk,.slice bA bn bc,.int .i64 bnl,.int .u64 bnb,.int .u64 bm] 110));have hG:GrF W W5:=by rw [hW5]; exact ((GrF.refl W).alloc _).alloc _
 have hs:W5.heap.size=W.heap.size + 1 + 1:=by rw [hW5]; simp
 have z0:W5.heap[W.heap.size]? = some (.cells #[.int .i64 al,.int .u64 ab,.int .u64 av,.int .i64 ak,.slice aA an ac,.int .i64 anl,.int .u64 anb,.int .u64 am] 110 (0,0)):=by
  rw [hW5,Below.heap_alloc _ _ _ (by simp)]; exact heap_alloc_new W _
 have z1:W5.heap[W.heap.size + 1]? = some (.cells #[.int .i64 bl,.int .u64 bb,.int .u64 bv,.int .i64 bk,.slice bA bn bc,.int .i64 bnl,.int .u64 bnb,.int .u64 bm] 110 (0,0)):=by
  have:=heap_alloc_new (W.alloc (.cells #[.int .i64 al,.int .u64 ab,.int .u64 av,.int .i64 ak,.slice aA an ac,.int .i64 anl,.int .u64 anb,.int .u64 am] 110)) (.cells #[.int .i64 bl,.int .u64 bb,.int .u64 bv,.int .i64 bk,.slice bA bn bc,.int .i64 bnl,.int .u64 bnb,.int .u64 bm] 110);rw [hW5]; simpa using this
 have c0:W5.cell? ⟨W.heap.size,0,none⟩=some (.int .i64 al):=cell_of_row W5 _ 0 _ _ _ z0;have c1:W5.cell? ⟨W.heap.size,1,none⟩=some (.int .u64 ab):=cell_of_row W5 _ 1 _ _ _ z0;have c2:W5.cell? ⟨W.heap.size + 1,0,none⟩=some (.int .i64 bl):=cell_of_row W5 _ 0 _ _ _ z1;have c3:W5.cell? ⟨W.heap.size + 1,1,none⟩=some (.int .u64 bb):=cell_of_row W5 _ 1 _ _ _ z1;clear z0 z1;rw [<-hW5];clear hW5;clear hs
 go_region_held3 (fun w' => w'.cell? ⟨W.heap.size,0,none⟩=some (.int .i64 al)/\w'.cell? ⟨W.heap.size,1,none⟩=some (.int .u64 ab)/\w'.cell? ⟨W.heap.size + 1,0,none⟩=some (.int .i64 bl)/\w'.cell? ⟨W.heap.size + 1,1,none⟩=some (.int .u64 bb)/\W5.heap.size<=w'.heap.size/\GrF W w')
  ((go_split_ands; (repeat' apply And.intro)<;>first | with_reducible assumption | with_reducible exact GrF.drew (by assumption) | with_reducible exact GrF.alloc (by assumption) _ | with_reducible exact GrF.drew (GrF.alloc (by assumption) _) | with_reducible exact lp (by assumption) _ | with_reducible exact size_alloc (by assumption) _ | go_keep))
  (first | (go_at_call 86; refine (hU _).mono ?_; rintro e w' ⟨rfl,rfl⟩) | (go_at_call 104; refine (hN _).mono ?_; rintro e w' ⟨rfl,rfl⟩) | (go_at_call 103; refine (hO _ _ (by first | exact ny _ _ _ _ | exact eN (ny _ _ _ _)) (by first | exact nw _ _ _ _ | exact eN (nw _ _ _ _))).mono ?_; rintro e w' ⟨rfl,rfl⟩))
 all_goals (go_wp2_with fail; go_ret; exact ⟨rfl,by first | exact (hG.alloc _).drew | exact hG.alloc _⟩)
end Go.Proofs.YtodelmejfpkicaaGreat.Sym
namespace Go.Proofs.YtodelmejfpkicaaGreat.Sym
open Go Go.RowKit Go.Sort
theorem tM {n B e:Nat} {A:Option Addr} {c:Nat} {h:Nat -> l5} {w:World} (hO:Own w B e 8 (.slice A n c) n (f7 (fun t => u7 (h t)) n)) (hn:n < 4611686018427387904) :
  Calls Tryz.prog 93 #[.slice A n c,.func (.func 102) #[] #[]] w fun e' w' => e' = .returned (.tuple #[])/\∃ h':Nat -> l5,((List.range n).map h').Perm ((List.range n).map h)/\(∀ i j,i < j -> j < n -> Y3 (h' j).lab (h' i).lab=false)/\Own w' B e 8 (.slice A n c) n (f7 (fun t => u7 (h' t)) n)/\Chg (fun x => l8 (.slice A n c)=some x) w w':=by
 refine jJ (cells:=u7) (lt:=ltOf iT) (k:=8) (fun _ => rfl) hO (fun b d hd hH hb => ?_) (fun h0 => ?_)
 .have eg:∀ args w,(callFunc 102 args).run Tryz.prog w = .ok (.enter 102 args) w:=enters_of Tryz.func102 (by kernel_rfl) rfl
  have hcmp:CmpLays Tryz.prog 102 #[] (cm u7) 8 iT b 0 d.size w:=by
   intro m os dk hdk x y;refine (vO x y _).mono ?_
   rintro e w' ⟨rfl,q,os',rfl⟩
   exact ⟨rfl,q,os',rfl⟩
  have:=AnyQ.slices_SortFunc Tryz.sortRow 8 (fun _ => by kernel_rfl) (fun _ => by kernel_rfl) (cm u7) (fun _ => rfl) (fun x v hv => by
   simp only [cm,u7,List.map_cons,List.map_nil,AV.den,List.mem_cons,List.not_mem_nil,or_false] at hv
   rcases hv with rfl | rfl | rfl | rfl | rfl | rfl | rfl | rfl<;>rfl) iT vz 102 #[] b 0 c d w eg hcmp hH hb (by omega)
  exact this
 exact AnyF.slices_SortFunc_none (P:=Tryz.prog) (ρ:=Tryz.sortRow_ren) { Tryz.sortRow with } A c _ w
end Go.Proofs.YtodelmejfpkicaaGreat.Sym
namespace Go.Proofs.YtodelmejfpkicaaGreat.Sym
open Go Go.RowKit
section
variable {m0:Nat -> Nat -> Prop} {w0:World} {S:Nat -> Prop} {ds:List Deferred} {K:Kn} {P:Program} {Q:Exit -> Act -> World -> Prop} {ops:Array Oper} {s:St} {a:Act} {w:World} {L rest:List Oper} {o:Oper}
open Go.Maps in
theorem ie {it:Operand} {k:TypeId} {d b r n cnt:Nat} {D:DataW Value} {left:Lit -> Bool} (hL:L=o :: rest) (hg:o.guard=none) (hop:o.op = .next it false) (hdst:o.dst=some d) (h:b4 ⟨m0,w0,S,ds,K⟩ s a w) (hd:d < s.nt) (hit:val s [] it = .raw (.pointer (some ⟨r,0,none⟩)))
  (Kd:Keyed P k) (hM:w.ranges P k hR b r n D left cnt) (hC:r < w0.heap.size -> S r)
  (K1:Bool -> Value -> Value -> Lit -> Nat -> Kn) (hK0:∀ m,K.p m w -> (∀ kl,left kl=false) -> (K1 false (.bool false) (.bool false) (.bool false) 0).p m w) (hK1:∀ key v kl cnt' m w',K.p m w -> P1 (some r) w m w' m -> w'.ranges P k hR b r n D (fun x => left x && !x.sameKey kl) cnt' -> ae P w' r key v -> (K1 true key v kl cnt').p m w')
  (K':∀ a' w' bb rest' key v kl cnt',(bb=false -> ∀ kl,left kl=false) -> (bb=true -> Go.keyOf P k key=some kl/\left kl=true/\(∀ zd,D.atKey kl zd = .held v)/\cnt' < cnt) -> b4 ⟨m0,w0,S,ds,K1 bb key v kl cnt'⟩ (s.put (some d) (.tup (.bool (.v bb) :: rest'))) a' w' -> wpList P ops Q rest a' w'):wpList P ops Q L a w:=by
 have hiv:=(C2 h (q:=[]) (fun _ h => by cases h) (x:=it) (by rw [hit]; rfl)).1;rw [hit] at hiv;have hr0:∃ o',w.heap[r]? = some o'/\∀ c t f,o' ≠ Obj.cells c t f:=by
  obtain ⟨es,clock,since,seen,c0,_,_,_,_,hr,_⟩:=hM;exact ⟨_,hr,fun c t f e => by cases e⟩
 obtain ⟨o',hr,hro⟩:=hr0;refine Q9 hL hg ?_;unfold Oper.wp
 rcases hM.next Kd o.type with ⟨h0,hl,hrun⟩ | ⟨key,v,kl,y,w',cnt',hkey,hlk,hv,hat,hrun,hrg,hlt,hgr,hsz,hen⟩
 .have e1:(execOp a.eval o).run P w = .ok (.value (.tuple #[.bool false])) w:=by simp [execOp,hop,hiv,hrun,Result.andThen,AV.den]
  rw [e1];simp only [Oper.upon];rw [hdst];exact K' _ _ false [] (.bool false) (.bool false) (.bool false) 0 (fun _ => hl) (fun h => by cases h) ((h.withK (hK0 _ h.kept hl)).put (some d) (fun t ht => by injection ht with ht; subst ht; exact hd) (.tup [.bool (.v false)]) (fun _ => .tup _ fun u hu => by simp at hu; subst hu; exact .bool _) _ fun _ => rfl)
 have e1:(execOp a.eval o).run P w = .ok (.value (.tuple #[.bool true,key,v])) w':=by simp [execOp,hop,hiv,hrun,Result.andThen,AV.den]
 rw [e1];simp only [Oper.upon];rw [hdst];have hv':y.1 = .held v:=by unfold hR at hv; injection hv with hv; rw [<-hv]
 have hea:ae P w' r key v:=by
  obtain ⟨es,clock,since,seen,c0,hb',_,_,_,hr',_⟩:=hrg;exact ⟨⟨_,_,_,_,_,_,hr',hb'⟩,hen⟩
 have h2:=h.turn hr hro hgr hC (hK1 key v kl cnt' _ _ h.kept (cy hr hro hgr) hrg hea);refine K' _ _ true [.raw key,.raw v] key v kl cnt' (fun h => by cases h) (fun _ => ⟨hkey,hlk,fun zd => (hat zd).trans hv',hlt⟩) (h2.put (some d) (fun t ht => by injection ht with ht; subst ht; exact hd) (.tup [.bool (.v true),.raw key,.raw v]) (fun _ => .tup _ fun u hu => ?_) _ fun _ => rfl);simp only [List.mem_cons,List.not_mem_nil,or_false] at hu
 rcases hu with rfl | rfl | rfl
 .exact .bool _
 .exact .raw _
 exact .raw _
theorem jY {m:Nat -> Nat -> Prop} {w:World} {B e k:Nat} {g:Option Nat} {A:Option Addr} {n c:Nat} {f:Nat -> List AV} {xs:List Value} (hO:Own w B e k (.slice A n c) n xs) (hk:Ok m w (.sl g A n c k f)):xs=f7 f n:=by
 cases hk with
 | sl _ _ _ _ _ _ h1 h2 h3 h4 h5 h6 h7 =>
  have hl1:=hO.1;have hl2:=B8 (cells:=f) (k:=k) (n:=n) h3;apply List.ext_getElem
  .rw [hl1,hl2]
  intro t g1 g2;have ht:t < n * k:=by rw [hl1] at g1; exact g1
  have hk0:0 < k:=by rcases Nat.eq_zero_or_pos k with h0 | h0; rw [h0] at ht; omega; exact h0
  obtain ⟨i,j,hj,rfl⟩:∃ i j,j < k/\t=i * k + j:=⟨t / k,t % k,Nat.mod_lt _ hk0,by rw [Nat.mul_comm]; exact (Nat.div_add_mod t k).symm⟩
  have hi:i < n:=by
   refine Nat.lt_of_not_le fun hle => ?_
   have:=Nat.mul_le_mul_right k hle;omega
  obtain ⟨b,hA,hb⟩:=K2 hO (by omega);have e1:=K7 hO hb (i * k + j) _ (List.getElem?_eq_getElem g1);have hjl:j < ((f i).map AV.den).length:=by rw [List.length_map,h3 i hi]; exact hj
  obtain ⟨b',off,hA',e2,_⟩:=h5 i hi j _ (List.getElem?_eq_getElem hjl);have hg:=B4 (cells:=f) h3 hi hj;rw [List.getElem?_eq_getElem g2,List.getElem?_eq_getElem hjl] at hg;rw [hA] at hA';injection hA' with hA'; injection hA' with q1 q2
  subst q1; subst q2;rw [Nat.zero_add] at e2;rw [e1] at e2;injection e2 with e2
  injection hg with hg
  rw [e2,hg]
theorem fo {nt key d:Nat} {t:Gr} {l:List (Nat × AV)} {mem:List (Nat × Blk)} {c:Call} {g:Operand} {f:FuncId} {args:List AV} (hL:L=o :: rest) (hg:o.guard=none) (hop:o.op = .call c) (hcal:c.callee = .value g) (hdst:o.dst=some d) (h:b4 ⟨m0,w0,S,ds,K⟩ ⟨nt,l,[],mem,[(key,t)]⟩ a w) (hgv:val ⟨nt,l,[],mem,[(key,t)]⟩ [] g = .fn f [] []) (hl:V0 ⟨nt,l,[],mem,[(key,t)]⟩ [] c.args.toList=some args) (hen:j3 P f)
  (R:World -> Prop) (hc:Calls P f (args.map AV.den).toArray w fun e w' => e = .returned (.tuple #[])/\R w'/\Chg (fun x => l8 t.v=some x) w w')
  (K':∀ w',R w' -> Chg (fun x => l8 t.v=some x) w w' -> wpList P ops Q rest (a.put (some d) (.tuple #[])) w'):wpList P ops Q L a w:=by
 refine Q9 hL hg ?_;obtain ⟨hrun,_⟩:=cu hop hcal h hgv hl hen;unfold Oper.wp;rw [hrun];simp only [Oper.upon];simp only [List.nil_append,List.append_nil];refine hc.mono ?_
 rintro e w' ⟨rfl,h1,h2⟩
 rw [hdst];exact K' w' h1 h2
end
def vR (D:DataW Value) (E:Adr) (b r:Nat) (L:Shf) (left:Lit -> Bool) (cnt:Nat):Kn:=⟨fun m w => ShD D E b L m w/\w.ranges Tryz.prog 24 hR b r L.length D left cnt,fun k h => ⟨h.1.keep k,R4 k h.2⟩⟩
def Gv (D:DataW Value) (E:Adr) (b r:Nat) (L:Shf) (left:Lit -> Bool) (bb:Bool) (key v:Value) (kl:Lit) (cnt:Nat):Kn:=⟨fun m w => ShD D E b L m w/\(bb=true -> w.ranges Tryz.prog 24 hR b r L.length D (fun x => left x && !x.sameKey kl) cnt/\ae Tryz.prog w r key v),fun k h => ⟨h.1.keep k,fun hb => ⟨R4 k (h.2 hb).1,cO k (h.2 hb).2⟩⟩⟩
def GA (D:DataW Value) (E:Adr) (b r:Nat) (L:Shf) (left:Lit -> Bool) (key v:Value) (cnt:Nat):Kn:=⟨fun m w => ShD D E b L m w/\w.ranges Tryz.prog 24 hR b r L.length D left cnt/\ae Tryz.prog w r key v,fun k h => ⟨h.1.keep k,R4 k h.2.1,cO k h.2.2⟩⟩
theorem ShD.entry {D:DataW Value} {E:Adr} {b:Nat} {L:Shf} {m:Nat -> Nat -> Prop} {w:World} (h:ShD D E b L m w) {key v:Value} {kl:Lit} (hk:Go.keyOf Tryz.prog 24 key=some kl) (hh:Maps.has D kl=true) (ha:∀ zd,D.atKey kl zd = .held v):∃ p ∈ L,u4 p.1=kl/\key=(b6 p.1).den/\v=(AV.agg (elC (elA E p.1 p.2))).den:=by
 obtain ⟨p,hp,he⟩:=(h.has kl).1 hh;refine ⟨p,hp,he,?_,?_⟩
 .exact Z1.inj hk (he ▸ J1 (h.labs p hp))
 have h1:=h.at_ p hp (.held v);rw [he,ha] at h1;injection h1
def jS (p:Lab × Spo):Rw:=⟨p.1,p.2.ver,p.2.r⟩
theorem jR (L:Shf):I9 L=(L.filter (fun p => p.2.has)).map jS:=rfl
theorem qt (p:Lab × Spo) (L:Shf):I9 (p :: L)=(if p.2.has then [jS p] else []) ++ I9 L:=by
 unfold I9;rw [List.filter_cons]
 split<;>rfl
theorem qr {L M:Shf} (h:L.Perm M):(I9 L).Perm (I9 M):=(h.filter _).map _
theorem lQ (L:Shf):(I9 L).length<=L.length:=by
 rw [jR,List.length_map]; exact List.length_filter_le _ _
theorem lN (l:Lab):(u4 l).sameKey (u4 l)=true:=by simp [u4,Lit.sameKey]
theorem oM {l l':Lab} (h:k4 l) (h':k4 l'):(u4 l).sameKey (u4 l')=decide (l=l'):=by
 by_cases he:l=l'
 .subst he; rw [lN,decide_eq_true rfl]
 rw [decide_eq_false he];have:u4 l ≠ u4 l':=fun e => he (cb h h' e)
 unfold u4 at this ⊢;simp only [Lit.sameKey]
 simpa using this
theorem mc {left:Lit -> Bool} {p:Lab × Spo}:∀ {L:Shf},cZ L -> (∀ q ∈ L,k4 q.1) -> p ∈ L -> left (u4 p.1)=true →
  (L.filter fun q => left (u4 q.1)).Perm (p :: L.filter fun q => left (u4 q.1) && !(u4 q.1).sameKey (u4 p.1))
 | q :: L,hr,hl,hp,h1 => by
  have hr':=List.pairwise_cons.1 hr
  rcases List.mem_cons.1 hp with rfl | hp
  .rw [List.filter_cons,if_pos h1,List.filter_cons,lN]
   simp only [Bool.not_true,Bool.and_false,Bool.false_eq_true,if_false];refine List.Perm.cons _ ?_;have:∀ q ∈ L,(left (u4 q.1))=(left (u4 q.1) && !(u4 q.1).sameKey (u4 p.1)):=by
    intro q hq;rw [oM (hl q (by simp [hq])) (hl p (by simp)),decide_eq_false (fun e => eq (hr'.1 q hq) e.symm)];simp
   rw [List.filter_congr this]
  have hne:q.1 ≠ p.1:=eq (hr'.1 p hp);have ih:=mc hr'.2 (fun q hq => hl q (by simp [hq])) hp h1;rw [List.filter_cons,List.filter_cons,oM (hl q (by simp)) (hl p (by simp [hp])),decide_eq_false hne];simp only [Bool.not_false,Bool.and_true]
  split
  .exact (List.Perm.cons _ ih).trans (List.Perm.swap _ _ _)
  exact ih
theorem lO {left:Lit -> Bool} {p:Lab × Spo} {L:Shf} (hr:cZ L) (hl:∀ q ∈ L,k4 q.1) (hp:p ∈ L) (h1:left (u4 p.1)=true) {R:List Rw} (h:(R ++ I9 (L.filter fun q => left (u4 q.1))).Perm (I9 L)) :
  ((R ++ if p.2.has=true then [jS p] else []) ++ I9 (L.filter fun q => left (u4 q.1) && !(u4 q.1).sameKey (u4 p.1))).Perm (I9 L):=by
 refine List.Perm.trans ?_ h;rw [List.append_assoc];refine List.Perm.append_left _ ?_;have:=qr (mc hr hl hp h1);rw [qt] at this;exact this.symm
theorem lP {L:Shf} {x:Rw} (h:x ∈ I9 L):∃ p ∈ L,p.2.has=true/\jS p=x:=by
 rw [jR] at h;obtain ⟨p,hp,he⟩:=List.mem_map.1 h;have:=List.mem_filter.1 hp;exact ⟨p,this.1,this.2,he⟩
theorem oQ {L:Shf} (h:cZ L):(I9 L).Pairwise fun a b => J3 a.lab b.lab=true:=by
 rw [jR,List.pairwise_map];exact (List.Pairwise.filter _ h)
theorem kD (a b:Lab):Y3 a b=J3 a b:=by
 rw [Bool.eq_iff_iff,bY];simp [J3]
def zF (a b:Rw):Prop:=Y3 b.lab a.lab=false
theorem oP {L:Shf} (hr:cZ L) {R:List Rw} (hp:R.Perm (I9 L)) (hs:R.Pairwise zF):R=I9 L:=by
 refine List.Perm.eq_of_pairwise (le:=zF) ?_ hs ?_ hp
 .intro a b ha hb h1 h2
  have hl:a.lab=b.lab:=by
   unfold zF at h1 h2;rw [kD] at h1 h2
   rcases aK a.lab b.lab with h | h | h
   .rw [h] at h2; cases h2
   .exact h
   rw [h] at h1; cases h1
  obtain ⟨p,hp1,_,rfl⟩:=lP (hp.mem_iff.1 ha);obtain ⟨q,hq1,_,rfl⟩:=lP hb;have e1:=bQ hr hp1;have e2:=bQ hr hq1;have hl':p.1=q.1:=hl;rw [hl',e2] at e1;injection e1 with e1
  have:p=q:=Prod.ext hl' e1.symm;rw [this]
 refine (oQ hr).imp ?_;intro a b h;unfold zF;rw [kD]
 rcases hx:J3 b.lab a.lab with _ | _
 .rfl
 have:=aJ h hx;rw [kx] at this; cases this
theorem vN {L:Shf} (hr:cZ L) {h h':Nat -> l5} {k:Nat} (hp:(r9 h k).Perm (I9 L)) (hp':((List.range k).map h').Perm ((List.range k).map h)) (hs:∀ i j,i < j -> j < k -> Y3 (h' j).lab (h' i).lab=false):r9 h' k=I9 L:=by
 refine oP hr ?_ ?_
 .refine List.Perm.trans ?_ hp
  have:=hp'.map l5.abs;simp only [List.map_map] at this;exact this
 rw [List.pairwise_iff_getElem];intro i j hi hj hij;have hj':j < k:=by rw [G3] at hj; exact hj
 have hi':i < k:=by omega
 have e:∀ t (g:t < (r9 h' k).length),t < k -> (r9 h' k)[t]=(h' t).abs:=by
  intro t g ht;have:=ii l5.abs h' ht;rw [List.getElem?_eq_getElem g] at this;exact Option.some.inj this
 rw [e i hi hi',e j hj hj'];exact hs i j hij hj'
theorem ud {m:Nat -> Nat -> Prop} {w:World} {el:SpA} (h:Ok m w (.agg (elC el))):∀ v ∈ u7 el.w,v.one=true/\Ok m w v:=by
 cases h with
 | agg _ h1 h2 =>
  intro v hv;simp only [u7,List.mem_cons,List.not_mem_nil,or_false] at hv
  rcases hv with rfl | rfl | rfl | rfl | rfl | rfl | rfl | rfl
  .exact ⟨rfl,.int _ _⟩
  .exact ⟨rfl,.int _ _⟩
  .exact ⟨rfl,.int _ _⟩
  .exact ⟨rfl,.int _ _⟩
  .exact ⟨h1 _ (by simp [elC]),h2 _ (by simp [elC])⟩
  .exact ⟨rfl,.int _ _⟩
  .exact ⟨rfl,.int _ _⟩
  exact ⟨rfl,.int _ _⟩
theorem tL {m:Nat -> Nat -> Prop} {w w1 w':World} {pre:List (Nat × Blk)} {ds:List Deferred} {K:Kn} {nt key:Nat} {t:Gr} {l l':List (Nat × AV)} {mem:List (Nat × Blk)} {a:Act} (h:b4 ⟨m,w,ats pre,ds,K⟩ ⟨nt,l,[],mem,[(key,t)]⟩ a w1) (hp:J0 m w pre) (hc:Chg (fun x => l8 t.v=some x) w1 w') {v:AV} (hv:Ok m w v):Ok (St.m ⟨nt,l',[],mem,[]⟩ ⟨m,w,ats pre,ds,noK⟩) w' v:=by
 refine hv.mono fun b o u hcell hn => ?_
 have hlt:=World.block_lt_of_cell? w _ hcell;have hna:¬ ats pre b:=by
  rintro ⟨e,he,rfl⟩
  exact hn (hp.free e he o)
 have hown:l8 t.v ≠ some b:=by
  intro hb;obtain ⟨_,xs,ho⟩:=h.gr key t (by simp [f5]);exact absurd hlt (Nat.not_lt.2 (ho.lt b hb).1)
 refine ⟨?_,?_⟩
 .have e1:=h.chg.block b hlt hna
  have e2:=hc.block b (Nat.lt_of_lt_of_le hlt h.chg.size) hown;unfold World.cell? at hcell ⊢;rw [e2,e1]; exact hcell
 rintro (h1 | ⟨k,e,he,h1⟩ | ⟨k,t',ht,_⟩)
 .exact hn h1
 .subst h1
  rcases (h.mem k e he).2.2 with h2 | h2
  .exact absurd hlt (Nat.not_lt.2 h2)
  exact hna h2
 cases ht
theorem cY.re {P:Program} {K:Kn} {f:FuncId} {args args':List AV} {pre pre':List (Nat × Blk)} {res res':f9 -> AV} (h:cY P K f args pre res) (ha:D9 args' args) (hp:pre'.map (·.2)=pre.map (·.2)) (hr:∀ x,Sim (res x) (res' x)):cY P K f args' pre' res':=by
 intro m w h1 h2 h3 hI;rw [ha.map];refine (h m w h1 (ha.ok h2) (h3.re hp.symm) hI).mono ?_
 rintro e w' ⟨x,rfl,hok,hl⟩
 exact ⟨x,by rw [(hr x).1],(hr x).2.2 _ _ hok,hl⟩
theorem zI {m:Nat -> Nat -> Prop} {w:World} (x y:Int):Ok m w (.agg [.int .i64 x,.int .u64 y]):=by
 refine .agg _ (fun v hv => ?_) fun v hv => ?_
 .simp only [List.mem_cons,List.not_mem_nil,or_false] at hv
  rcases hv with rfl | rfl<;>rfl
 simp only [List.mem_cons,List.not_mem_nil,or_false] at hv
 rcases hv with rfl | rfl<;>exact .int _ _
theorem zV (E:Adr) (p:Lab × Spo):(elA E p.1 p.2).w.abs=jS p:=by
 unfold elA l5.abs jS;simp only [V1]
theorem xw:j3 Tryz.prog 93:=fun _ _ => by kernel_rfl
theorem qq {D:DataW Value} {E:Adr} {b:Nat} {L:Shf} {m:Nat -> Nat -> Prop} {w:World} (h:ShD D E b L m w):(r9 (fun _ => ou) 0 ++ I9 (L.filter fun q => Maps.has D (u4 q.1))).Perm (I9 L):=by
 have:L.filter (fun q => Maps.has D (u4 q.1))=L:=List.filter_eq_self.2 fun q hq => (h.has _).2 ⟨q,hq,rfl⟩
 rw [this];exact List.Perm.refl _
theorem yR (b bM:Nat) (L:Shf) (hL:L.length<=100000) (k:Int):cY Tryz.prog (shK bM L) 44 [.ptr 0 b 0] [(0,⟨b,113,[.raw (.map (some bM)),.int .i64 k]⟩)] (fun y => T6 (y.A 0) (I9 L).length (y.c 0) (W8 y (I9 L))):=by
 apply cY.of;intro m w hm hargs hpre hI;have hmx:maxLen=9223372036854775807:=rfl;obtain ⟨D,E,hI1⟩:=hI;obtain ⟨es0,cl0,hmap0,_⟩:=hI1.map;have hlt:bM < w.heap.size:=L3 hmap0;have hI:(shD D E bM L).p m w:=hI1;refine enR 32 hm hpre hI hargs Tryz.func44 fun B hB a0 hF => ?_
 refine wp_seq (rg hB a6 [0] [0] [] hF fun X0 a0 w1 hF => ?_);refine wp_seq (wp_seq (rg hB a6 [7,0] [0] [] hF fun X1 a0 w1 hF => ?_));refine i9 hF rfl (fun hF => ?_);refine wp_skip (wp_seq (rg hB a6 [3,0] [0,3] [] hF fun X3 a0 w1 hF => ?_));refine wp_seq (wp_seq (wp_region_lit (lpr 0 4 hB a6 [11,3] [0,3] [] hF fun X4_0 a0 w1 hF => ?_)));have hSh:ShD D E bM L _ _:=hF.kept;obtain ⟨rr,hrr⟩:=eqv (w1.heap.size);refine ic rfl rfl rfl rfl hF (Nat.le_of_ble_eq_true rfl) rfl Z1 bS hSh.map (vR D E bM rr L (Maps.has D) (Maps.size D)) (fun m w' h1 h2 h3 => ⟨h1.keep h2,by rw [hrr]; exact h3⟩) ?_;rw [<-hrr];intro a0 w1 hfr hF;have hne:some rr ≠ some bM:=by
  intro e; injection e with e
  have:w.heap.size<=rr:=hfr;omega
 have hF:b4 ⟨m,w,ats [(0,⟨b,113,[.raw (.map (some bM)),.int .i64 k]⟩)],[],vR D E bM rr L (Maps.has D) (Maps.size D)⟩ ⟨32,[(3,.sl (some 3) none 0 0 8 (fun _ => [])),(12,.raw (.pointer (some ⟨rr,0,none⟩)))],[],[(0,⟨b,113,[.raw (.map (some bM)),.int .i64 k]⟩)],[(3,⟨none,0,0,8,110⟩)]⟩ a0 w1:=hF.keep [3,12] [0,3];replace hF:=hF.headS (v':=.sl (some 3) none 0 0 8 (fun t => u7 ou)) (zq0) rfl;refine wpList_nil (wp_block (ao (ι:=Nat × (Nat -> l5) × Option Addr × Nat × (Lit -> Bool) × Nat) (fun p => vR D E bM rr L p.2.2.2.2.1 p.2.2.2.2.2) (fun p => [(3,.sl (some 3) p.2.2.1 p.1 p.2.2.2.1 8 (fun t => u7 (p.2.1 t)))]) (fun p => []) (fun p => [(3,⟨p.2.2.1,p.1,p.2.2.2.1,8,110⟩)]) (fun p => (∀ kl,p.2.2.2.2.1 kl=true -> Maps.has D kl=true)/\(r9 p.2.1 p.1 ++ I9 (L.filter fun q => p.2.2.2.2.1 (u4 q.1))).Perm (I9 L)/\∀ t,t < p.1 -> ∃ q ∈ L,p.2.1 t=(elA E q.1 q.2).w) (fun p => p.2.2.2.2.2) (0,fun _ => ou,none,0,Maps.has D,Maps.size D) ⟨fun _ h => h,qq hI,fun t ht => absurd ht (Nat.not_lt_zero _)⟩ hF ?_))
 rintro ⟨k1,h,A1,c1,left,cnt⟩ ⟨hlft,hprm,hels⟩ a0 w1 hF
 try dsimp only at hlft
 try dsimp only at hprm
 try dsimp only at hels
 replace hF:=hF.withK (K':=vR D E bM rr L left cnt) hF.kept;refine wp_seq (wp_region_lit (ie rfl rfl rfl rfl hF (Nat.le_of_ble_eq_true rfl) rfl Z1 hF.kept.2 (fun h => absurd h (Nat.not_lt.2 hfr)) (Gv D E bM rr L left) (fun m h _ => ⟨h.1,fun h => by cases h⟩) (fun key v kl cnt' m w' h1 h2 h3 h4 => ⟨h1.1.keepB h2 hne,fun _ => ⟨h3,h4⟩⟩) ?_));intro a0 w1 bb rest' key v kl cnt' hn0 hn1 hF;refine lnd 1 hB a6 [14,3,12] [0,3] [] hF fun X5 a0 w1 hF => ?_
 refine wp_seq (a7 hF rfl (fun hb hF => ?_) (fun hb hF => ?_))
 .have hbb:bb=true:=by subst hB; exact hb
  obtain ⟨hnx1,hnx2,hnx3,hnx4⟩:=hn1 hbb;replace hF:=hF.withK (K':=GA D E bM rr L (fun x => left x && !x.sameKey kl) key v cnt') ⟨hF.kept.1,hF.kept.2 hbb⟩;obtain ⟨hSh,hrg,hent⟩:=hF.kept;obtain ⟨p,hp,hpk,hpkey,hpv⟩:=hSh.entry hnx1 (hlft _ hnx2) hnx3;have hok:=hSh.ok p hp;obtain ⟨el,hel⟩:=eqv (elA E p.1 p.2);rw [<-hel] at hok hpv;have hel_has:el.has=p.2.has:=by rw [hel]
  have hkd:key=(AV.agg [.int .i64 el.w.lab.len,.int .u64 el.w.lab.bits]).den:=by rw [hel]; exact hpkey
  refine wp_skip (wp_block (wp_seq (wp_region_lit ?_)));rw [hkd,hpv] at hent;refine ig rfl rfl rfl rfl hF (Nat.le_of_ble_eq_true rfl) rfl hent (zI _ _) hok ?_;intro a0 hF;refine lnd 1 hB a6 [3,12,4,5] [0,4,5,3] [] hF fun X6 a0 w1 hF => ?_
  replace hF:=hF.withK (K':=vR D E bM rr L (fun x => left x && !x.sameKey kl) cnt') ⟨hF.kept.1,hF.kept.2.1⟩;refine wp_seq (rg hB a6 [19,3,12,4,5] [0,4,5,3] [] hF fun X7 a0 w1 hF => ?_);apply a7 hF rfl<;>intro hb hF
  .have hhas:el.has=true:=by subst hB; exact hb
   refine rg hB a6 [3,12] [0,3] [] hF (hob:=?hob) fun X8 a0 w1 hF => ?_
   case hob =>
    intro X;have hkL:k1<=L.length:=by
     have h9:=hprm.length_eq;rw [List.length_append,G3] at h9;have:=lQ L;omega
    subst hB
    repeat (first | exact trivial | refine ⟨⟨rfl,rfl,rfl⟩,?_⟩ | refine ⟨rfl,?_⟩ | refine ⟨⟨show k1 + 1<=maxLen by omega,show (k1 + 1) * _<=_ by omega⟩,?_⟩)
   replace hF:=hF.headS (v':=.sl (some 3) ((X8 8).A 0) (B.nadd k1 1) ((X8 8).c 0) 8 (fun t => u7 (if t=k1 then el.w else h t))) (Sim.resl rfl (fun t ht => by
    subst hB;have ht2:t < k1 + 1:=ht
    show F8 k1 (fun t => u7 (h t)) (I4 8 (u7 el.w)) t=_
    unfold F8
    split
    .rw [if_neg (by omega)]
    have:t=k1:=by omega
    subst this;rw [if_pos rfl];simp [I4])) rfl
   refine ⟨(k1 + 1,fun t => if t=k1 then el.w else h t,_,_,(fun x => left x && !x.sameKey kl),cnt'),⟨?_,?_,?_⟩,hnx4,by rw [show k1 + 1=B.nadd k1 1 by subst hB; rfl]; exact hF⟩
   .intro x hx
    simp only [Bool.and_eq_true] at hx;exact hlft _ hx.1
   .have h9:=lO hSh.ris hSh.labs hp (hpk ▸ hnx2) hprm
    rw [hpk,if_pos (by rw [<-hel_has]; exact hhas)] at h9;have e9:r9 (fun t => if t=k1 then el.w else h t) (k1 + 1)=r9 h k1 ++ [jS p]:=by
     show J5 l5.abs _ (k1 + 1)=J5 l5.abs h k1 ++ _
     rw [aI];simp only [if_true]
     congr 1
     .unfold J5
      apply List.map_congr_left;intro t ht;have h5:=List.mem_range.1 ht
      show l5.abs (if t=k1 then el.w else h t)=_
      rw [if_neg (by omega)]
     rw [hel,zV]
    simp only;rw [e9];exact h9
   intro t ht;simp only at ht ⊢
   by_cases he:t=k1
   .rw [if_pos he]; exact ⟨p,hp,by rw [hel]⟩
   rw [if_neg he]; exact hels t (by omega)
  have hhas:¬ el.has=true:=by subst hB; rw [show el.has=false from hb]; simp
  refine wp_skip (⟨(k1,h,A1,c1,(fun x => left x && !x.sameKey kl),cnt'),⟨?_,?_,hels⟩,hnx4,hF.keep [3,12] [0,3]⟩)
  .intro x hx
   simp only [Bool.and_eq_true] at hx;exact hlft _ hx.1
  have h9:=lO hSh.ris hSh.labs hp (hpk ▸ hnx2) hprm;rw [hpk,if_neg (by rw [<-hel_has]; exact hhas),List.append_nil] at h9;exact h9
 have hbb:bb=false:=by subst hB; exact hb
 have hall:=hn0 hbb;replace hF:=hF.withK (K':=shD D E bM L) hF.kept.1;refine wp_exit (wp_seq (wp_region_lit (lpr 0 1 hB a6 [29,3] [0,3] [] hF fun X9_0 a0 w1 hF => ?_)));have hSh:ShD D E bM L _ _:=hF.kept;have hprm2:(r9 h k1).Perm (I9 L):=by
  have e9:(L.filter fun q => left (u4 q.1))=[]:=List.filter_eq_nil_iff.2 fun q _ => by rw [hall]; simp
  rw [e9] at hprm
  simpa [I9] using hprm
 have hkL:k1<=L.length:=by
  have h9:=hprm2.length_eq;rw [G3] at h9;have:=lQ L;omega
 obtain ⟨_,xs,hO⟩:=hF.gr 3 ⟨A1,k1,c1,8,110⟩ rfl;have hs3:=hF.slot 3 rfl;have hk3:Ok _ w1 (.sl (some 3) A1 k1 c1 8 (fun t => u7 (h t))):=hs3.2;have hd3:a0.tmps[3]? = some (AV.sl (some 3) A1 k1 c1 8 (fun t => u7 (h t))).den:=hs3.1;have hfl:=jY hO hk3;rw [hfl] at hO;have hO:Own w1 w.heap.size 110 8 (.slice A1 k1 c1) k1 (f7 (fun t => u7 (h t)) k1):=hO;refine fo rfl rfl rfl rfl rfl hF rfl rfl xw (fun w' => ∃ h':Nat -> l5,((List.range k1).map h').Perm ((List.range k1).map h)/\(∀ i j,i < j -> j < k1 -> Y3 (h' j).lab (h' i).lab=false)/\Own w' w.heap.size 110 8 (.slice A1 k1 c1) k1 (f7 (fun t => u7 (h' t)) k1)) ((tM hO (by omega)).mono ?_) ?_
 .rintro e w2 ⟨he,h',g1,g2,g3,g4⟩
  exact ⟨he,⟨h',g1,g2,g3⟩,g4⟩
 rintro w2 ⟨h',g1,g2,g3⟩ g4
 have hfin:=vN hSh.ris hprm2 g1 g2;have hF2:=b4.sorted hF g4 (l':=[(3,.sl none A1 k1 c1 8 (fun t => u7 (h' t)))]) (fun x hx => ?hl) (fun x e he v hv => ?hm)
 case hl =>
  by_cases hx3:x=3
  .subst hx3
   refine ⟨hd3,lS g3 (fun _ _ => rfl) (b4.notM hF) (fun i hi => ?_) none⟩;have hmem:=g1.mem_iff.1 (List.mem_map.2 ⟨i,List.mem_range.2 hi,rfl⟩);obtain ⟨j,hj,hje⟩:=List.mem_map.1 hmem;obtain ⟨q,hq,hqe⟩:=hels j (List.mem_range.1 hj);rw [<-hje,hqe];exact ud (tL hF hpre g4 (hI.ok q hq))
  have:look [(3,AV.sl none A1 k1 c1 8 (fun t => u7 (h' t)))] x = .undef:=by rw [o6,if_neg (fun e => hx3 e.symm)]; rfl
  rw [this] at hx; cases hx
 case hm =>
  by_cases hx3:0=x
  .subst hx3
   simp only [f5,List.lookup,List.find?] at he;simp at he;subst he;simp only [List.mem_cons,List.not_mem_nil,or_false] at hv
   rcases hv with rfl | rfl
   .exact .raw _
   exact .int _ _
  rw [s3,if_neg hx3] at he; cases he
 have hF:b4 _ _ (a0.put (some 30) (.tuple #[])) w2:=hF2.put (some 30) (fun t ht => by injection ht with ht; subst ht; exact Nat.le_of_ble_eq_true rfl) (.tup []) (fun _ => .tup _ fun u hu => by cases hu) _ fun _ => rfl
 refine wpList_nil (wp_seq (rg hB a6 [2] [0] [] hF fun X10 a0 w1 hF => ?_));refine wp_ret ((rx hB a6 hF (rwY A1 c1 h' 0) [] (he:=?_) (hs:=?_)).1)
 .subst hB; exact rR hfin
 exact ⟨rfl,⟨_,rfl,zl⟩,trivial⟩
theorem Cp (k0:Nat) (b bM:Nat) (L:Shf) (hL:L.length<=100000) (k:Int):cY Tryz.prog (shK bM L) 44 [.ptr k0 b 0] [(k0,⟨b,113,[.raw (.map (some bM)),.int .i64 k]⟩)] (fun y => T6 (y.A 0) (I9 L).length (y.c 0) (W8 y (I9 L))):=
 (yR b bM L hL k).re (by repeat (first | exact trivial | refine ⟨Sim.ptr,?_⟩ | refine ⟨Sim.fn ⟨Sim.ptr,trivial⟩ trivial,?_⟩ | refine ⟨Sim.fn trivial ⟨Sim.ptr,trivial⟩,?_⟩ | refine ⟨zr,?_⟩)) rfl (fun x => zr)
theorem b4.swap {C:Cx} {nt i j:Nat} {u v:AV} {l:List (Nat × AV)} {mem:List (Nat × Blk)} {gr:List (Nat × Gr)} {a:Act} {w:World} (h:b4 C ⟨nt,(i,u) :: (j,v) :: l,[],mem,gr⟩ a w) (hne:i ≠ j:=by decide):b4 C ⟨nt,(j,v) :: (i,u) :: l,[],mem,gr⟩ a w:=
 h.alike ⟨rfl,fun k => by
  simp only [o6]
  by_cases h1:i=k
  .by_cases h2:j=k
   .exact absurd (h1.trans h2.symm) hne
   simp [h1,h2]
  simp [h1],fun _ => rfl,fun _ => rfl,fun _ => rfl⟩
theorem yb (A:Option Addr) (n c:Nat) (f:Nat -> l5) (hn:n<=maxLen):j5 Tryz.prog 21 [T6 A n c f] (fun _ => .bool (.v (if n<=300 then pU n f else true))):=by
 intro m w hm hargs;have hmx:maxLen=9223372036854775807:=rfl;have hln:=vM (hargs (T6 A n c f) (by simp));refine en 38 hm hargs Tryz.func21 fun B hB a0 hF => ?_
 refine wp_seq (rg hB a6 [0] [] [] hF fun X0 a0 w1 hF => ?_);refine wp_seq (rg hB a6 [3,0] [] [] hF fun X1 a0 w1 hF => ?_);refine wp_seq (wp_seq (rg hB a6 [3,4,0] [] [] hF fun X2 a0 w1 hF => ?_));refine wp_block (l0 (ι:=Nat × Int) (fun p => [(3,.int .i64 p.2),(4,.int .i64 (p.1:Int))]) (fun p => []) (fun p => []) (fun p => p.1<=n/\p.2=Cd f p.1/\∀ i,i < p.1 -> jg (f i).x.r.n (f i).x.r.f=false) (fun p => n - p.1) (0,0) ⟨Nat.zero_le _,rfl,fun i hi => absurd hi (Nat.not_lt_zero _)⟩ hF ?_)
 rintro ⟨i,s⟩ ⟨hi,hs,hal⟩ a0 w1 hF
 try dsimp only at hi
 try dsimp only at hs
 try dsimp only at hal
 refine wp_seq (wp_seq (rg hB a6 [13,3,4,0] [] [] hF fun X3 a0 w1 hF => ?_));apply a7 hF rfl<;>intro hb hF
 .have h9:(if decide ((i:Int) < (n:Int))=true then decide ((n:Int)<=300) else false)=true:=by subst hB; exact hb
  rw [A8,Bool.and_eq_true,decide_eq_true_eq,decide_eq_true_eq] at h9;have hin:i < n:=by omega
  have hsm:n<=300:=by omega
  have S:=FL (f i).x.A (f i).x.r.n (f i).x.c (f i).x.r.f (hln i hin) (f i).x.r.kd (f i).x.r.nx (f i).x.r.mrk;simp only [Q2,l4] at S;obtain ⟨q,hq⟩:=eqv (jg (f i).x.r.n (f i).x.r.f);rw [<-hq] at S;refine wp_skip (wp_seq (wp_block (wp_seq (wp_seq ?_))));refine rg hB a6 [21,3,4,0] [] [(5,.r fun _ => .bool (.v q))] hF (hob:=by intro X; subst hB; simp only [b5,Ob.holds,BE.den]<;>and_intros<;>repeat first | trivial | rfl | exact (show (0:Int)<=(i:Int) by omega) | exact (show (i:Int) < (n:Int) by omega) | exact S | exact (fun _ _ => by kernel_rfl) | refine ⟨?_,?_⟩ | intro h | exact Int.le_refl _ | decide | omega) fun X5 a0 w1 hF => ?_
  apply a7 hF rfl<;>intro hb hF
  .have hbt:jg (f i).x.r.n (f i).x.r.f=true:=by rw [<-hq]; exact hb
   refine wp_seq (rg hB a6 [2] [] [] hF fun X6 a0 w1 hF => ?_);refine wp_ret ((rsi hB a6 hF f4 (he:=?_)));subst hB;refine Sim.bool ?_
   show true=(if n<=300 then pU n f else true)
   rw [if_pos hsm];unfold pU;rw [uV hin hbt]; simp
  have hbf:jg (f i).x.r.n (f i).x.r.f=false:=by rw [<-hq]; exact hb
  refine wp_skip ?_;refine rg hB a6 [3,4,0] [] [] hF (hob:=by intro X; subst hB; simp only [b5,Ob.holds,BE.den]<;>and_intros<;>repeat first | trivial | rfl | exact (show (0:Int)<=(i:Int) by omega) | exact (show (i:Int) < (n:Int) by omega) | exact (fun _ _ => by kernel_rfl) | refine ⟨?_,?_⟩ | intro h | exact Int.le_refl _ | decide | omega) fun X7 a0 w1 hF => ?_
  refine rg hB a6 [4,3,0] [] [] hF fun X4 a0 w1 hF => ?_
  have e:B.arith .add .i64 (i:Int) 1=((i + 1:Nat):Int):=by subst hB; exact j2 (n:=n) hin (by omega)
  refine ⟨(i + 1,B.arith .add .i64 s (B.ofNat (f (B.toNat (i:Int))).x.r.n)),⟨by simp only; omega,by subst hB; rw [hs]; rfl,fun j hj => ?_⟩,by simp only; omega,by rw [<-e]; exact hF.swap⟩
  by_cases hij:j=i
  .rw [hij]; exact hbf
  exact hal j (by simp only at hj; omega)
 have h9:(if decide ((i:Int) < (n:Int))=true then decide ((n:Int)<=300) else false)=false:=by subst hB; exact hb
 rw [A8] at h9;have hend:n<=300 -> i=n:=fun h3 => by
  rw [decide_eq_true (show (n:Int)<=300 by omega),Bool.and_true] at h9;have:=of_decide_eq_false h9;omega
 refine wp_exit (wp_seq (rg hB a6 [2] [] [] hF fun X8 a0 w1 hF => ?_));refine wp_ret ((rsi hB a6 hF f4 (he:=?_)));subst hB;refine Sim.bool ?_
 show (if decide ((300:Int) < (n:Int))=true then true else decide (3000 < s))=_
 rw [R0]
 by_cases h3:n<=300
 .rw [if_pos h3]
  unfold pU;rw [hend h3] at hs hal;rw [uW hal,hs,decide_eq_false (show ¬ (300:Int) < (n:Int) by omega),decide_eq_false (show ¬ 300 < n by omega)]; rfl
 rw [if_neg h3,decide_eq_true (show (300:Int) < (n:Int) by omega)]; rfl
theorem Sim.nils {g g':Option Nat} {k k':Nat} {f f':Nat -> List AV}:Sim (.sl g none 0 0 k f) (.sl g' none 0 0 k' f'):=
 ⟨rfl,fun _ => rfl,fun _ _ _ => .sl _ _ _ _ _ _ (Nat.le_refl _) (Nat.zero_le _) (fun i hi => absurd hi (Nat.not_lt_zero _)) (fun i hi => absurd hi (Nat.not_lt_zero _)) (fun i hi => absurd hi (Nat.not_lt_zero _)) (fun i hi => absurd hi (Nat.not_lt_zero _)) (fun i hi => absurd hi (Nat.not_lt_zero _))⟩
theorem gn (y:f9) (g:Got):(ci y g).abs=g:=by
 unfold ci l9.abs;simp only [V1]
theorem oy (K:Kn) (k0:Nat) (b bM:Nat) (k:Int):cY Tryz.prog K 38 [.ptr k0 b 0] [(k0,⟨b,113,[.raw (.map (some bM)),.int .i64 k]⟩)] (fun _ => .int .i64 k):=
 cY.of fun m w h1 h2 h3 _ => ve k0 b bM k m w h1 h2 h3
section
variable (A:Option Addr) (n c:Nat) (f:Nat -> l5) (hn:n<=maxLen) (hN:∀ i,i < n -> (f i).x.r.n<=1000000/\k4 (f i).lab/\U64 (f i).lab.bits/\U64 (f i).x.r.nx.bits)
include hn hN
theorem CM (h:aT (r9 f n)=none):J4 Tryz.prog 22 [T6 A n c f] [] none noK (fun y => ⟨.tup [.nilp,.int .i64 1],[],[]⟩) (fun _ _ => noK):=by
 have:=wG A n c f hn hN;rw [h] at this;exact this
theorem sg (k0:Nat) {L:Shf} (h:aT (r9 f n)=some L):J4 Tryz.prog 22 [T6 A n c f] [] none noK (fun y => ⟨.tup [.ptr k0 y.b 0,.int .i64 0],[],[(k0,⟨y.b,113,[.raw (.map (some (y.c 0))),.int .i64 0]⟩)]⟩) (fun N y => shF N (y.c 0) L):=by
 have:=wG A n c f hn hN;rw [h] at this;exact this.re ⟨zr,trivial⟩ rfl fun x => ⟨rfl,rfl,Sim.tup ⟨Sim.ptr,zr,trivial⟩,rfl⟩
end
structure pX (L:Shf):Prop where
 ris:cZ L
 len:L.length<=2000
 lab:∀ p ∈ L,k4 p.1
theorem DE {L:Shf} (h:pX L) {w:Wnt} (hl:k4 w.lab):pX (doL L w).L:=by
 unfold doL
 split
 .split
  .exact h
  split
  .exact h
  split
  .exact h
  rename_i hf
  refine ⟨ef h.ris,?_,fun p hp => ?_⟩
  .simp only
   rw [fS _ _ h.ris]
   split
   .exact h.len
   rename_i h1
   have:(E0 w.lab L).isNone=true:=by
    cases hx:E0 w.lab L with
    | none => rfl
    | some x => rw [hx] at h1; exact absurd rfl h1
   have:=fun h2 => hf ⟨this,h2⟩
   have h3:=h.len
   by_cases h4:2000<=L.length
   .exact absurd h4 this
   omega
  rcases eh hp with rfl | hp
  .exact hl
  exact h.lab p hp
 exact h
theorem sk:∀ {l:List Rw} {L L':Shf},(∀ r ∈ l,k4 r.lab) -> cZ L -> (∀ p ∈ L,k4 p.1) -> L.length + l.length<=2000 -> dD l L=some L' -> pX L'
 | [],L,L',_,h1,h2,h3,h => by
  simp only [dD,Option.some.injEq] at h;subst h;exact ⟨h1,by simp at h3; omega,h2⟩
 | r :: l,L,L',hr,h1,h2,h3,h => by
  unfold dD at h
  split at h
  .cases h
  refine sk (fun r hr' => hr r (by simp [hr'])) (ef h1) (fun p hp => ?_) ?_ h
  .rcases eh hp with rfl | hp
   .exact hr r (by simp)
   exact h2 p hp
  rw [fS _ _ h1];simp only [List.length_cons] at h3
  split<;>omega
theorem zu {l:List Rw} {L:Shf} (hr:∀ r ∈ l,k4 r.lab) (h:aT l=some L):pX L:=by
 unfold aT at h
 split at h
 .cases h
 exact sk hr List.Pairwise.nil (fun p hp => by cases hp) (by simp; omega) h
structure tx (p:Lab × Spo):Prop where
 ver:U64 p.2.ver
 r:U7 p.2.r
structure dW (L:Shf):Prop where
 ok:pX L
 sp:∀ p ∈ L,tx p
theorem vn:U64 0:=⟨by decide,by decide⟩
theorem sH {r:Rec} (h:isR r=true):r.items.length<=16:=by
 have h2:L5 r.kind r.items.length (itF r.items) r.next r.mark=true:=by
  have h3:=gi r.rn;rw [V1] at h3;rw [h3] at h;exact h
 exact (V5 h2).2.2.1
theorem BJ (v:Int):U64 (inc v):=by
 unfold inc IntKind.wrap;simp only [IntKind.bits,IntKind.signed];unfold U64
 constructor
 .simp; omega
 simp; omega
theorem mz {l:Lab} {x:Spo}:∀ {L:Shf},E0 l L=some x -> ∃ p ∈ L,p.2=x
 | [],h => by cases h
 | p :: L,h => by
  unfold E0 at h
  split at h
  .exact ⟨p,by simp,Option.some.inj h⟩
  obtain ⟨q,hq,e⟩:=mz h;exact ⟨q,by simp [hq],e⟩
theorem yF {L:Shf} (h:∀ p ∈ L,tx p) (l:Lab):U64 (D3 L l).ver/\U7 (D3 L l).r:=by
 unfold D3
 cases e:E0 l L with
 | none => exact ⟨vn,P9⟩
 | some x =>
  obtain ⟨p,hp,rfl⟩:=mz e;exact ⟨(h p hp).ver,(h p hp).r⟩
structure GE (w:Wnt):Prop where
 lab:k4 w.lab
 nx:U64 w.r.next.bits
 key:∀ x ∈ w.r.items,U64 x.key
theorem gD {L:Shf} (h:dW L) {w:Wnt} (hw:GE w):dW (doL L w).L/\U64 (doL L w).got.ver/\U7 (doL L w).got.r:=by
 refine ⟨⟨DE h.ok hw.lab,?_⟩,?_⟩
 .unfold doL
  split
  .rename_i hg
   split
   .exact h.sp
   split
   .exact h.sp
   split
   .exact h.sp
   intro p hp
   rcases eh hp with rfl | hp
   .refine ⟨BJ _,?_⟩
    show U7 (if w.kind=2 then w.r else i8)
    split
    .rename_i h2
     exact ⟨hw.nx,sH (hg.2.2 h2),hw.key⟩
    exact P9
   exact h.sp p hp
  exact h.sp
 have hs:=yF h.sp w.lab;unfold doL
 split
 .split
  .exact hs
  split
  .exact ⟨hs.1,P9⟩
  split
  .exact ⟨vn,P9⟩
  exact ⟨BJ _,P9⟩
 exact ⟨vn,P9⟩
structure RwG (r:Rw):Prop where
 lab:k4 r.lab
 ver:U64 r.ver
 nx:U64 r.r.next.bits
 key:∀ x ∈ r.r.items,U64 x.key
theorem lV:∀ {l:List Rw} {L L':Shf},(∀ r ∈ l,RwG r) -> (∀ p ∈ L,tx p) -> dD l L=some L' -> ∀ p ∈ L',tx p
 | [],L,L',_,h2,h => by
  simp only [dD,Option.some.injEq] at h;subst h; exact h2
 | r :: l,L,L',hr,h2,h => by
  unfold dD at h
  split at h
  .cases h
  rename_i hc
  have hc2:isR r.r=true:=by
   simp only [Bool.or_eq_true,Bool.not_eq_true',not_or] at hc
   simpa using hc.2
  refine lV (fun r hr' => hr r (by simp [hr'])) (fun p hp => ?_) h
  rcases eh hp with rfl | hp
  .have:=hr r (by simp)
   exact ⟨this.ver,⟨this.nx,sH hc2,this.key⟩⟩
  exact h2 p hp
theorem ia {l:List Rw} {L:Shf} (hr:∀ r ∈ l,RwG r) (h:aT l=some L):dW L:=by
 refine ⟨zu (fun r hr' => (hr r hr').lab) h,?_⟩;unfold aT at h
 split at h
 .cases h
 exact lV hr (fun p hp => by cases hp) h
theorem qR {g:l9} {G:Got} (h:g.abs=G) (h1:U64 G.ver) (h2:U7 G.r):InG g:=by
 subst h;refine ⟨h2.nx,h1,?_,fun i hi => ?_⟩
 .have:=h2.few
  have e:g.x.r.abs.items.length=g.x.r.n:=i3 _ _
  show g.x.r.n<=maxLen
  have h3:g.x.r.abs.items.length<=16:=this;have:maxLen=9223372036854775807:=rfl;omega
 exact h2.key _ (List.mem_map.2 ⟨i,List.mem_range.2 hi,rfl⟩)
theorem LOk.wf {l:Lab} (h:LOk l):k4 l:=by
 obtain ⟨h1,h2,_⟩:=s7 h.isl;have hb:=h.u;unfold U64 at hb
 constructor
 .simp [Lit.wf,IntKind.min,IntKind.max,IntKind.signed,IntKind.bits]; omega
 simp [Lit.wf,IntKind.min,IntKind.max,IntKind.signed,IntKind.bits]; omega
def kL (G:Got):l9:=⟨G.code,G.ver,G.has,⟨none,0,G.r.rn⟩⟩
abbrev eR (gs:List Got):Nat -> l9:=fun j => kL (gs.getD j Q6)
abbrev pY:=Nat -> (Nat -> l9) -> Wq × Int
def ErN (N:pY):Prop:=∀ n f,N n f=N n (fun j => (f j).er)
def oo (gs:List Got) (f:Nat -> l9):Prop:=∀ j,(f j).er=kL (gs.getD j Q6)
theorem oo.nil:oo [] (fun _ => kL Q6):=fun _ => rfl
theorem oo.next {N:pY} (hN:ErN N) {gs:List Got} {f:Nat -> l9} (h:oo gs f):N gs.length f=N gs.length (eR gs):=by
 rw [hN]
 congr 1
 funext j
 exact h j
theorem oo.add {gs:List Got} {f:Nat -> l9} (h:oo gs f) {g:l9} {G:Got} (hg:g.er=kL G):oo (gs ++ [G]) (fun j => if j=gs.length then g else f j):=by
 intro j
 by_cases e:j=gs.length
 .simp only [if_pos e]; rw [hg,e]; congr 1; simp [List.getD]
 simp only [if_neg e]; rw [h j]; congr 1;simp only [List.getD_eq_getElem?_getD]
 by_cases hj:j < gs.length
 .rw [List.getElem?_append_left hj]
 rw [List.getElem?_eq_none (by omega),List.getElem?_eq_none (by simp; omega)]
structure GF where
 /-- 0: too many wants,1: refused,2: it is over,3: cut off,4: a want was not done -/
 st:Nat
 res:Rsl
 n:Nat
 err:Int
 L:Shf
 k:Int
def dp (w:Wq):Wnt:=⟨w.kind,w.lab,w.ver,w.r⟩
def R7 (N:pY) (most:Int):Nat -> List Got -> Shf -> Int -> GF
 | 0,gs,L,k => ⟨0,dm,gs.length,0,L,k⟩
 | n + 1,gs,L,k =>
  if (N gs.length (eR gs)).2 ≠ 0 then ⟨1,dm,gs.length,0,L,k⟩
  else if (N gs.length (eR gs)).1.kind=4 then ⟨2,(N gs.length (eR gs)).1.res,gs.length,0,L,k⟩
  else if most<=gs.length then ⟨3,dm,gs.length,0,L,k⟩
  else if (doL L (dp (N gs.length (eR gs)).1)).err ≠ 0 then ⟨4,dm,gs.length,(doL L (dp (N gs.length (eR gs)).1)).err,(doL L (dp (N gs.length (eR gs)).1)).L,if (doL L (dp (N gs.length (eR gs)).1)).wrote then IntKind.i64.wrap (k + 1) else k⟩
  else R7 N most n (gs ++ [(doL L (dp (N gs.length (eR gs)).1)).got]) (doL L (dp (N gs.length (eR gs)).1)).L (if (doL L (dp (N gs.length (eR gs)).1)).wrote then IntKind.i64.wrap (k + 1) else k)
section
variable {N:pY} {most:Int} {n:Nat} {gs:List Got} {L:Shf} {k:Int} {w:Wq} {e:Int}
theorem Cm (h:N gs.length (eR gs)=(w,e)) (he:e ≠ 0):R7 N most (n + 1) gs L k=⟨1,dm,gs.length,0,L,k⟩:=by
 unfold R7;rw [h,if_pos he]
theorem yP (h:N gs.length (eR gs)=(w,0)) (hk:w.kind=4):R7 N most (n + 1) gs L k=⟨2,w.res,gs.length,0,L,k⟩:=by
 unfold R7;rw [h,if_neg (fun h => h rfl),if_pos hk]
theorem yO (h:N gs.length (eR gs)=(w,0)) (hk:¬ w.kind=4) (hm:¬ most<=gs.length) {D:Did} (hD:D=doL L (dp w)) (he:D.err ≠ 0):R7 N most (n + 1) gs L k=⟨4,dm,gs.length,D.err,D.L,if D.wrote then IntKind.i64.wrap (k + 1) else k⟩:=by
 subst hD;unfold R7;rw [h,if_neg (fun h => h rfl),if_neg hk,if_neg hm,if_pos he]
theorem Cn (h:N gs.length (eR gs)=(w,0)) (hk:¬ w.kind=4) (hm:¬ most<=gs.length) {D:Did} (hD:D=doL L (dp w)) (he:D.err=0):R7 N most (n + 1) gs L k=R7 N most n (gs ++ [D.got]) D.L (if D.wrote then IntKind.i64.wrap (k + 1) else k):=by
 subst hD
 conv => lhs; unfold R7
 rw [h,if_neg (fun h => h rfl),if_neg hk,if_neg hm,if_neg (fun h => h he)]
end
theorem wE (b:Bool) (r:Rs Rsl):fU b (r.er id)=fU b r:=by
 unfold fU; rw [yD]
structure FP (N:pY):Prop where
 er:ErN N
 ok:∀ n f,(∀ j,j < n -> InG (f j)) -> uZ (N n f).1
theorem tY:U7 eU:=⟨⟨by decide,by decide⟩,by decide,fun x hx => by cases hx⟩
theorem iw (bk k:Int):∀ n l o p,(D6 bk k n l o p).er id=D6 bk k n l o p.er
 | 0,l,o,p => rfl
 | n + 1,l,o,p => l6 (bI _ _ _) fun _ _ => B6 (l6 (nU _ _ _ _) fun _ _ => rfl) (B6 (B6 (l6 (iw bk k n _ _ _) fun _ _ => iw bk k n _ _ _) rfl) (B6 (l6 (Dp _ _ _ _ _ _) fun _ _ => iw bk k n _ _ _) (B6 (l6 (xn _ _ _ _ _) fun _ _ => iw bk k n _ _ _) (B6 rfl (l6 (dO _ _ _ _ _) fun _ _ => iw bk k n _ _ _)))))
theorem qU (k:Int):∀ ls p,(aU k ls p).er id=aU k ls p.er
 | [],p => rfl
 | l :: ls,p => l6 (bI _ _ _) fun _ _ => B6 (l6 (dO _ _ _ _ _) fun _ _ => qU k ls _) (qU k ls _)
theorem Do (bk k:Int) (p:Pst):(Y1 bk k p).er id=Y1 bk k p.er:=l6 (iw _ _ _ _ _ _) fun _ _ => l6 (qU _ _ _) fun _ _ => rfl
theorem U8.lnk {x:RA} (h:U8 x) {nx:Lab} (hn:U64 nx.bits):U7 (wR x nx):=by
 have:=h.ro;exact ⟨hn,this.few,this.key⟩
theorem dY {bk k:Int}:∀ (n:Nat) (l:Lab) (o:List Lab) (p:Pst),LOk l -> i5 p -> T2 (D6 bk k n l o p)
 | 0,l,o,p,_,_ => iH
 | n + 1,l,o,p,hl,hp => by
  unfold D6;refine k7 (V9 hl) fun g p1 e1 => ?_
  have hp1:=hp.suf ((j1 _ _ _).of e1);refine o8 (fun _ => k7 (ji _ _ _ hl) fun _ _ _ => trivial) fun _ => o8 (fun _ => o8 (fun _ => k7 (dY n _ _ p1 (hl.ch 0) hp1) fun _ p2 e2 => dY n _ _ p2 (hl.ch 1) (hp1.suf ((U3 _ _ _ _ _ _).of e2))) fun _ => trivial) fun _ =>
   o8 (fun _ => k7 (yr hl (hp.get e1) hp1) fun _ p2 e2 => dY n l _ p2 hl (hp1.suf ((bw _ _ _ _ _ _).of e2))) fun _ => o8 (fun _ => k7 (rL hl hp1) fun _ p2 e2 => dY n l _ p2 hl (hp1.suf ((F5 _ _ _ _ _).of e2))) fun _ => o8 (fun _ => trivial) fun _ => k7 (aY hl tY) fun _ p2 e2 => dY n l _ p2 hl (hp1.suf ((l3 _ _ _ _ _).of e2))
theorem mR {k:Int}:∀ (ls:List Lab) (p:Pst),AR ls -> i5 p -> T2 (aU k ls p)
 | [],p,_,_ => trivial
 | l :: ls,p,ho,hp => by
  have hl:=ho.lab l (by simp);have ho':AR ls:=⟨fun x hx => ho.lab x (by simp [hx])⟩;have hn:U64 (ls.headD B2).bits:=by
   cases ls with
   | nil => exact ⟨by decide,by decide⟩
   | cons x ls => exact (ho.lab x (by simp)).u
  unfold aU;refine k7 (V9 hl) fun g p1 e1 => ?_
  have hp1:=hp.suf ((j1 _ _ _).of e1);exact o8 (fun _ => k7 (aY hl ((hp.get e1).ra.lnk hn)) fun _ p2 e2 => mR ls p2 ho' (hp1.suf ((l3 _ _ _ _ _).of e2))) fun _ => mR ls p1 ho' hp1
theorem yq {bk k:Int} {p:Pst} (hp:i5 p):T2 (Y1 bk k p):=by
 have hz:LOk cU:=⟨by decide,by decide,by decide⟩;unfold Y1;refine k7 (dY _ _ _ _ hz hp) fun o p1 e1 => ?_
 have hr:=dZ hz ⟨fun l hl => by cases hl⟩ e1;exact k7 (mR _ _ hr.1 (hp.suf ((U3 _ _ _ _ _ _).of e1))) fun _ _ _ => trivial
theorem sn {J:i6} (hJ:bF J):FP (E4 J) where
 er:=fun n f => by
  unfold E4;rw [<-wE,Do];rfl
 ok:=fun n f hin => by
  unfold E4 fU
  split
  .rename_i h
   simp only [Bool.and_eq_true] at h;exact vh (yq (qx hin h.2))
  exact iH
abbrev po:AV:=.agg [.int .i64 1,.sl none none 0 0 2 (fun _ => []),.int .i64 (-1),.int .u64 0,.int .u64 0]
theorem wW:j5 Tryz.prog 237 [] (fun _ => po):=by
 intro m w hm hargs;have SN:=gZ;simp only [b6,B2] at SN;refine en 3 hm hargs Tryz.func237 fun B hB a0 hF => ?_
 refine wp_seq (rg hB a6 [0] [0] [] hF fun X0 a0 w1 hF => ?_);have O1:=SN;refine wp_seq (rg hB a6 [0] [0] [(0,.r fun _ => .agg [.int .i64 (-1),.int .u64 0])] hF fun X1 a0 w1 hF => ?_);exact wp_ret ((rsp hB a6 hF f4).1)
theorem DX (k0 b:Nat) (J:i6) (hJ:k8 J) (A:Option Addr) (c:Nat) (p:Pst) (hp:i5 p) (hn:p.n<=1000000) (l:Lab) (v:Int):B7 164 k0 b J A c p [b6 l,.int .u64 v,po] (fun d => .bool (.v d)) (T0 J.budget l v eU p):=
 B7.re (eW 0 b J hJ A c p hp hn l v ⟨none,0,eU.rn⟩) ⟨zr,zr,Sim.agg ⟨zr,P7,zr,zr,zr,trivial⟩,trivial⟩
end Go.Proofs.YtodelmejfpkicaaGreat.Sym
