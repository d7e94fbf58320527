/-
  SymPr3, SymPr4, SymPr5, SymPr6, SymPr7, SymPr8, SymRcv, SymNx0, OpenS25, OpenW25, PlSeek, PlHas, PlSpan, PlMor, PlMorD, PlMorW, PlRect, OpenR30, PlEr, PlWok, ItClone, SymShP, SymShQ, SymShD, SortGen, CmpBase, LaySort, SortBase, SymSrt: put together by a program of mine (a claim may have 60 files at most). Conditions: none.
-/
import Derived.Test.YtmbkanpapkhnaaaGreatMgS3
import Derived.Shelf.SlSortCmp.WholeK
import Derived.Shelf.SlSortCmp.NoneTotal
import Derived.Deep.RegionHeld3
import Derived.Ground.SlsfProg
import Derived.Shelf.SlGeneric
set_option linter.unusedVariables false
set_option linter.unusedSimpArgs false
set_option maxRecDepth 100000
set_option maxHeartbeats 1600000
namespace Go.Proofs.YtmbkanpapkhnaaaGreat.Sym
open Go Go.RowKit
theorem Jm(b:Nat)(J:j4)(hJ:l6 J)(A:Option Addr)(c:Nat)(p:Pst)(hp:j3 p)(hn:p.n<=1000000)(l:Lab)(v:Int)(d:Lab)(n:Nat)(hf:p.n<n):B3 263 0 b J A c p [i6 l,.int .u64 v,i6 d] (wD) (P0 J.budget l v d n p):=by
 intro m w hm hargs hpre;refine enX 52 hm hpre hargs Tryz.func263 fun B O a0 Z=>?_
 refine a6 [0,2,5,7,8] [0,5,7,8] Z fun X0 Z=>?_
 refine j1 (l3 (ι:=Nat×Pst×Option Addr×Nat) (fun q=>[]) (fun q=>[(0,⟨b,139,G1 J q.2.2.1 q.2.2.2 q.2.1⟩)]) (fun q=>[]) (fun q=>P0 J.budget l v d n p=P0 J.budget l v d q.1 q.2.1/\j3 q.2.1/\q.2.1.n<=1000000/\q.2.1.n<q.1) (fun q=>q.1) (n,p,A,c) ⟨rfl,hp,hn,hf⟩ Z ?_)
 rintro⟨nn,p0,A0,c0⟩ ⟨hrun,hp0,hn0,hf0⟩ a0 w1 Z
 try dsimp only at hrun
 try dsimp only at hp0
 try dsimp only at hn0
 try dsimp only at hf0
 obtain⟨n2,rfl⟩:∃n2,nn=n2+1:=⟨nn-1,by omega⟩
 refine j1 (a7 ?_)
 rcases(aH 0 b J hJ A0 c0 p0 hp0 hn0 d).two (k8 _ _ _) hp0 hn0 with⟨w1,p1,hm1,O1⟩|⟨g1,p1,hm1,hs1,hp1,hn1,S1⟩
 .refine stp 2 O a8 [12,13] [0] [] Z O1 fun _ _ _ _ Z hk=>?_
  exact thm (P:=Tryz.prog) (fn:=Tryz.f263) (q:=p1) Z hk (by simp[hrun,P0,Rs.bind,hm1])
 have hl1:=B7 hm1;have hg1:=hp0.get hm1;have O1:=S1;refine f7 [0,2,5,7,8,10] [0,5,7,8,10] [(2,rc J (B2 g1) p1)] Z fun X1 Z=>?_
 obtain⟨q2,hq2⟩:=eqv ((gk g1 1||gk g1 5));refine a7 (j1 (a7 ?_));refine f7 [15,0,2,5,7,8,10] [0,5,7,8,10] [(2,.r fun _=>.bool (.v q2))] Z (hob:=by intro X;subst O;simp only[i7,Ob.holds,BE.den]<;>and_intros<;>repeat first|trivial|rfl|exact(by rw[hq2];exact cB g1 _ _ 1 5 _ rfl rfl)|exact by rw[hq2];exact cB g1 _ _ 1 5 _ rfl rfl|exact(fun _ _=>by kernel_rfl)|refine⟨?_,?_⟩|intro h|exact Int.le_refl _|decide|omega) fun X2 Z=>?_
 apply b7 Z rfl<;>intro hb Z
 .have tq2:(gk g1 1||gk g1 5)=false:=by subst O;rw[<-hq2];revert hb;cases q2<;>simp[std]
  refine a6 [8,9] [0,8] Z fun X3 Z=>?_
  refine i8 ((rmm O a8 Z (v:=Fz.unfit) (q:=p1) ((X1 2).A 0) ((X1 2).c 0) (by simp[hrun,P0,Rs.bind,hm1,tq2]) (he:=?_)).1);subst O;exact Sim.tup ⟨Sim.agg ⟨zr,U1,zr,zr,zr,trivial⟩,zr,trivial⟩
 have tq2:(gk g1 1||gk g1 5)=true:=by subst O;rw[<-hq2];revert hb;cases q2<;>simp[std]
 obtain⟨q4,hq4⟩:=eqv (gk g1 5);refine a7 ?_;refine f7 [21,0,2,5,7,8,10] [0,5,7,8,10] [(2,.r fun _=>.bool (.v q4))] Z (hob:=by intro X;subst O;simp only[i7,Ob.holds,BE.den]<;>and_intros<;>repeat first|trivial|rfl|exact(by rw[hq4];exact I2 g1 _ _ 5 _ rfl)|exact by rw[hq4];exact I2 g1 _ _ 5 _ rfl|exact(fun _ _=>by kernel_rfl)|refine⟨?_,?_⟩|intro h|exact Int.le_refl _|decide|omega) fun X4 Z=>?_
 apply b7 Z rfl<;>intro hb Z
 .have t4:(gk g1 5&&decide (g1.x.r.mrk=v))=true:=by subst O;rw[<-hq4];revert hb;cases q4<;>simp[std,d4]
  refine a6 [8,9] [0,8] Z fun X5 Z=>?_
  exact i8 ((rmm O a8 Z (v:=(Fz.fr g1.x)) (q:=p1) ((X1 2).A 0) ((X1 2).c 0) (by simp[hrun,P0,Rs.bind,hm1,tq2,t4])).1)
 have t4:(gk g1 5&&decide (g1.x.r.mrk=v))=false:=by subst O;rw[<-hq4];revert hb;cases q4<;>simp[std,d4]
 refine a7 ?_
 rcases(kU 0 b J hJ ((X1 2).A 0) ((X1 2).c 0) p1 hp1 hn1 l v).two (k8 _ _ _) hp1 hn1 with⟨w6,p6,hm6,O1⟩|⟨g6,p6,hm6,hs6,hp6,hn6,S6⟩
 .refine stp 3 O a8 [35,36,37] [0] [] Z O1 fun _ _ _ _ Z hk=>?_
  exact thm (P:=Tryz.prog) (fn:=Tryz.f263) (q:=p6) Z hk (by simp[hrun,P0,Rs.bind,hm1,tq2,t4,hm6])
 have hl6:=B7 hm6;have hg6:=hp1.get hm6
 try dsimp only at S6
 obtain⟨d6,hd6⟩:=eqv (decide (g6.ver=v));rw[<-hd6]at S6;have O1:=S6;refine f7 [34,0,2,5,7,8,10] [0,5,7,8,10] [(3,rc J (.bool (.v d6)) p6)] Z fun X6 Z=>?_
 apply b7 Z rfl<;>intro hb Z
 .have t6:¬g6.ver=v:=by
   have h9:(!d6)=true:=by subst O;exact hb
   rw[hd6]at h9;simpa using h9
  refine a6 [8,9] [0,8] Z fun X7 Z=>?_
  refine i8 ((rmm O a8 Z (v:=Fz.over) (q:=p6) ((X6 3).A 0) ((X6 3).c 0) (by simp[hrun,P0,Rs.bind,hm1,tq2,t4,hm6,t6]) (he:=?_)).1);subst O;exact Sim.tup ⟨Sim.agg ⟨zr,U1,zr,zr,zr,trivial⟩,zr,trivial⟩
 have t6:g6.ver=v:=by
  have h9:(!d6)=false:=by subst O;exact hb
  rw[hd6]at h9;simpa using h9
 have O1:=uZ 5 g1.x v;refine f8 (i9 [0,2,5,7,8,10,11] [0,5,7,8,10,11] [(3,.r fun _=>J7 (asR 5 g1.x v))] Z fun X8 Z=>?_);refine a7 ?_
 rcases(jm 0 b J hJ ((X6 3).A 0) ((X6 3).c 0) p6 hp6 hn6 d g1.ver (asR 5 g1.x v)).two (A5 _ _ _ _ _) hp6 hn6 with⟨w9,p9,hm9,O1⟩|⟨d9,p9,hm9,hs9,hp9,hn9,S9⟩
 .refine stp 5 O a8 [45,46,48,49] [0] [] Z O1 fun _ _ _ _ Z hk=>?_
  exact thm (P:=Tryz.prog) (fn:=Tryz.f263) (q:=p9) Z hk (by simp[hrun,P0,Rs.bind,hm1,tq2,t4,hm6,t6,hm9])
 have O1:=S9;refine f7 [50,0,2,5,7,8,11] [0,5,7,8,11] [(5,rc J (.bool (.v d9)) p9)] Z fun X9 Z=>?_
 apply b7 Z rfl<;>intro hb Z
 .have t9:d9=true:=by exact hb
  refine a6 [8,9] [0,8] Z fun X10 Z=>?_
  exact i8 ((rmm O a8 Z (v:=(Fz.fr (asR 5 g1.x v))) (q:=p9) ((X9 5).A 0) ((X9 5).c 0) (by simp[hrun,P0,Rs.bind,hm1,tq2,t4,hm6,t6,hm9,t9])).1)
 have t9:d9=false:=by exact hb
 replace Z:=Z.keep [0,2,5,7,8] [0,5,7,8];exact f8 (⟨(n2,p9,_,_),⟨by rw[hrun];simp[P0,Rs.bind,hm1,tq2,t4,hm6,t6,hm9,t9],hp9,hn9,by dsimp only;have:=hl1;have:=hs6.le;have:=hs9.le;have:=hf0;omega⟩,by simp only;omega,Z⟩)
theorem Hq(k0 b:Nat)(J:j4)(hJ:l6 J)(A:Option Addr)(c:Nat)(p:Pst)(hp:j3 p)(hn:p.n<=1000000)(l:Lab)(v:Int)(d:Lab)(n:Nat)(hf:p.n<n):B3 263 k0 b J A c p [i6 l,.int .u64 v,i6 d] (wD) (P0 J.budget l v d n p):=B3.re (Jm b J hJ A c p hp hn l v d n hf) (by repeat(first|exact trivial|refine⟨zr,?_⟩))
theorem nz(k0 b:Nat)(J:j4)(hJ:l6 J)(A:Option Addr)(c:Nat)(p:Pst)(hp:j3 p)(hn:p.n<=1000000)(l:Lab)(v:Int):B3 163 k0 b J A c p [i6 l,.int .u64 v,Bq] (fun d=>.bool (.v d)) (aw J.budget l v cI p):=
 B3.re (jm 0 b J hJ A c p hp hn l v ⟨none,0,cI.rn⟩) ⟨zr,zr,Sim.agg ⟨zr,U1,zr,zr,zr,trivial⟩,trivial⟩
theorem KE(b:Nat)(J:j4)(hJ:l6 J)(A:Option Addr)(c:Nat)(p:Pst)(hp:j3 p)(hn:p.n<=1000000)(l:Lab)(hl:LOk l)(v:Int)(n:Nat)(hth:ThC n)(hf:p.n<n):B3 264 0 b J A c p [i6 l,.int .u64 v] (fun _=>k7) (bq J.budget (J6 J.bucket J.budget n) l v p):=by
 intro m w hm hargs hpre;have SC:=wQ l hl.u;have hk0:=hl.ch 0;have hk1:=hl.ch 1;simp only[i6]at SC;obtain⟨x0,hx0⟩:=eqv (chV l 0);rw[<-hx0]at SC hk0;obtain⟨x1,hx1⟩:=eqv (chV l 1);rw[<-hx1]at SC hk1;refine enX 23 hm hpre hargs Tryz.func264 fun B O a0 Z=>?_
 refine a6 [0,2,4] [0,4] Z fun X0 Z=>?_
 refine a7 (a7 ?_)
 rcases(nz 0 b J hJ A c p hp hn l v).two (A5 _ _ _ _ _) hp hn with⟨w1,p1,hm1,O1⟩|⟨d1,p1,hm1,hs1,hp1,hn1,S1⟩
 .have O2:=ga
  refine lK 4 O a8 [8,9,10,11] [0] [(3,.r fun _=>.agg [.int .i64 2,.sl none none 0 0 2 (fun _=>[]),.int .i64 (-1),.int .u64 0,.int .u64 0])] Z O1 fun _ _ _ _ Z hk=>?_
  exact thm (P:=Tryz.prog) (fn:=Tryz.f264) (q:=p1) Z hk (by simp[bq,<-hx0,<-hx1,Rs.bind,hm1])
 have O1:=ga;have O2:=S1;refine drg O a8 [13,0,4] [0,4] [(3,.r fun _=>.agg [.int .i64 2,.sl none none 0 0 2 (fun _=>[]),.int .i64 (-1),.int .u64 0,.int .u64 0]),(4,rc J (.bool (.v d1)) p1)] Z fun X1 a0 w1 Z=>?_
 apply b7 Z rfl<;>intro hb Z
 .have t1:d1=false:=by subst O;revert hb;cases d1<;>simp[std]
  exact i8 ((rmm O a8 Z (v:=()) (q:=p1) ((X1 4).A 0) ((X1 4).c 0) (by simp[bq,<-hx0,<-hx1,Rs.bind,hm1,t1])).1)
 have t1:d1=true:=by subst O;revert hb;cases d1<;>simp[std]
 have O1:=SC;refine f8 (i9 [16,0,15] [0] [(1,.r fun _=>.agg [.int .i64 x0.len,.int .u64 x0.bits,.int .i64 x1.len,.int .u64 x1.bits])] Z fun X2 Z=>?_);refine j1 (wp_loop_rounds 3 (F0 (a6 [17,0,15,16] [0] Z fun X3 Z=>?_)));replace Z:=Z.headS (v':=.bool .tt) (Sim.bool (by subst O;rfl)) rfl;refine a7 (l7 Z rfl (fun Z=>?_));refine f8 (a7 (j1 (a6 [0,7,15,16] [0,7] Z fun X4 Z=>?_)))
 rcases(hth 0 b J hJ ((X1 4).A 0) ((X1 4).c 0) p1 hp1 hn1 x0 hk0 (by have:=Nat.lt_of_le_of_lt hs1.le hf;omega)).two (F9 _ _ _ _ _) hp1 hn1 with⟨w50,p50,hm50,O1⟩|⟨_u50,p50,hm50,hs50,hp50,hn50,S50⟩
 .refine stp 2 O a8 [19,20] [0] [] Z O1 fun _ _ _ _ Z hk=>?_
  exact thm (P:=Tryz.prog) (fn:=Tryz.f264) (q:=p50) Z hk (by simp[bq,<-hx0,<-hx1,Rs.bind,hm1,t1,hm50])
 have O1:=S50;refine f7 [0,15,16] [0] [(2,rc J (k7) p50)] Z fun X5 Z=>?_
 refine j5 [16,0,15] [0] Z fun X6 Z=>?_
 replace Z:=Z.headS (v':=.int .i64 1) (by subst O;exact zr) rfl;refine l5 (a6 [17,0,15,16] [0] Z fun X3 Z=>?_);replace Z:=Z.headS (v':=.bool .tt) (Sim.bool (by subst O;rfl)) rfl;refine a7 (l7 Z rfl (fun Z=>?_));refine f8 (a7 (j1 (a6 [0,7,15,16] [0,7] Z fun X4 Z=>?_)))
 rcases(hth 0 b J hJ ((X5 2).A 0) ((X5 2).c 0) p50 hp50 hn50 x1 hk1 (by have:=Nat.lt_of_le_of_lt (Suf.trans hs1 hs50).le hf;omega)).two (F9 _ _ _ _ _) hp50 hn50 with⟨w51,p51,hm51,O1⟩|⟨_u51,p51,hm51,hs51,hp51,hn51,S51⟩
 .refine stp 2 O a8 [19,20] [0] [] Z O1 fun _ _ _ _ Z hk=>?_
  exact thm (P:=Tryz.prog) (fn:=Tryz.f264) (q:=p51) Z hk (by simp[bq,<-hx0,<-hx1,Rs.bind,hm1,t1,hm50,hm51])
 have O1:=S51;refine f7 [0,15,16] [0] [(2,rc J (k7) p51)] Z fun X5 Z=>?_
 refine j5 [16,0,15] [0] Z fun X6 Z=>?_
 replace Z:=Z.headS (v':=.int .i64 2) (by subst O;exact zr) rfl;refine l5 (a6 [17,0,15,16] [0] Z fun X3 Z=>?_);replace Z:=Z.headS (v':=.bool .ff) (Sim.bool (by subst O;rfl)) rfl;refine a7 (l4 Z rfl (fun Z=>?_));exact j9 ((rmm O a8 Z (v:=()) (q:=p51) ((X5 2).A 0) ((X5 2).c 0) (by simp[bq,<-hx0,<-hx1,Rs.bind,hm1,t1,hm50,hm51])).2)
theorem CE(k0 b:Nat)(J:j4)(hJ:l6 J)(A:Option Addr)(c:Nat)(p:Pst)(hp:j3 p)(hn:p.n<=1000000)(l:Lab)(hl:LOk l)(v:Int)(n:Nat)(hth:ThC n)(hf:p.n<n):B3 264 k0 b J A c p [i6 l,.int .u64 v] (fun _=>k7) (bq J.budget (J6 J.bucket J.budget n) l v p):=B3.re (KE b J hJ A c p hp hn l hl v n hth hf) (by repeat(first|exact trivial|refine⟨zr,?_⟩))
theorem Ga(b:Nat)(J:j4)(hJ:l6 J)(A:Option Addr)(c:Nat)(p:Pst)(hp:j3 p)(hn:p.n<=1000000)(l:Lab)(hl:LOk l)(n:Nat)(ih:ClC n)(hf:p.n<n+1):B3 266 0 b J A c p [i6 l] (fun _=>k7) (G4 J.budget (n+1) l p):=by
 intro m w hm hargs hpre;have SC:=wQ l hl.u;have hk0:=hl.ch 0;have hk1:=hl.ch 1;simp only[i6]at SC;obtain⟨x0,hx0⟩:=eqv (chV l 0);rw[<-hx0]at SC hk0;obtain⟨x1,hx1⟩:=eqv (chV l 1);rw[<-hx1]at SC hk1;refine enX 37 hm hpre hargs Tryz.func266 fun B O a0 Z=>?_
 refine a6 [0,3] [0,3] Z fun X0 Z=>?_
 refine a7 (a6 [9,0,3] [0,3] Z fun X1 Z=>?_);apply b7 Z rfl<;>intro hb Z
 .have t0:l.len=64:=by subst O;simpa[std,d4]using hb
  exact i8 ((rmm O a8 Z (v:=()) (q:=p) A c (by simp[G4,J0,<-hx0,<-hx1,Rs.bind,t0])).1)
 have t0:¬l.len=64:=by subst O;simpa[std,d4]using hb
 have O1:=SC;refine f8 (i9 [12,0,3,11] [0,3] [(1,.r fun _=>.agg [.int .i64 x0.len,.int .u64 x0.bits,.int .i64 x1.len,.int .u64 x1.bits])] Z fun X2 Z=>?_);refine j1 (wp_loop_rounds 3 (F0 (a6 [13,0,3,11,12] [0,3] Z fun X3 Z=>?_)));replace Z:=Z.headS (v':=.bool .tt) (Sim.bool (by subst O;rfl)) rfl;refine a7 (l7 Z rfl (fun Z=>?_));refine f8 (a7 (j1 (a6 [0,3,5,11,12] [0,3,5] Z fun X4 Z=>?_)));refine a7 ?_
 rcases(aH 0 b J hJ A c p hp hn x0).two (k8 _ _ _) hp hn with⟨w50,p50,hm50,O1⟩|⟨g0,p50,hm50,hs50,hp50,hn50,S50⟩
 .refine stp 2 O a8 [15,16] [0] [] Z O1 fun _ _ _ _ Z hk=>?_
  exact thm (P:=Tryz.prog) (fn:=Tryz.f266) (q:=p50) Z hk (by simp[G4,J0,<-hx0,<-hx1,Rs.bind,t0,hm50])
 have hl50:=B7 hm50;have hg50:=hp.get hm50;have O1:=S50;refine f7 [0,3,5,6,11,12] [0,3,5,6] [(2,rc J (B2 g0) p50)] Z fun X5 Z=>?_
 obtain⟨q0,hq0⟩:=eqv (gk g0 5);refine a7 (a7 ?_);refine f7 [21,0,3,5,6,11,12] [0,3,5,6] [(2,.r fun _=>.bool (.v q0))] Z (hob:=by intro X;subst O;simp only[i7,Ob.holds,BE.den]<;>and_intros<;>repeat first|trivial|rfl|exact(by rw[hq0];exact I2 g0 _ _ 5 _ rfl)|exact by rw[hq0];exact I2 g0 _ _ 5 _ rfl|exact(fun _ _=>by kernel_rfl)|refine⟨?_,?_⟩|intro h|exact Int.le_refl _|decide|omega) fun X6 Z=>?_
 apply b7 Z rfl<;>intro hb Z
 .have tq0:gk g0 5=false:=by subst O;rw[<-hq0];revert hb;cases q0<;>simp[std]
  refine j9 (j5 [12,0,3,11] [0,3] Z fun X10 Z=>?_);replace Z:=Z.headS (v':=.int .i64 1) (by subst O;exact zr) rfl;refine l5 (a6 [13,0,3,11,12] [0,3] Z fun X3 Z=>?_);replace Z:=Z.headS (v':=.bool .tt) (Sim.bool (by subst O;rfl)) rfl;refine a7 (l7 Z rfl (fun Z=>?_));refine f8 (a7 (j1 (a6 [0,3,5,11,12] [0,3,5] Z fun X4 Z=>?_)));refine a7 ?_
  rcases(aH 0 b J hJ ((X5 2).A 0) ((X5 2).c 0) p50 hp50 hn50 x1).two (k8 _ _ _) hp50 hn50 with⟨w51,p51,hm51,O1⟩|⟨g1,p51,hm51,hs51,hp51,hn51,S51⟩
  .refine stp 2 O a8 [15,16] [0] [] Z O1 fun _ _ _ _ Z hk=>?_
   exact thm (P:=Tryz.prog) (fn:=Tryz.f266) (q:=p51) Z hk (by simp[G4,J0,<-hx0,<-hx1,Rs.bind,t0,hm50,tq0,hm51])
  have hl51:=B7 hm51;have hg51:=hp50.get hm51;have O1:=S51;refine f7 [0,3,5,6,11,12] [0,3,5,6] [(2,rc J (B2 g1) p51)] Z fun X5 Z=>?_
  obtain⟨q1,hq1⟩:=eqv (gk g1 5);refine a7 (a7 ?_);refine f7 [21,0,3,5,6,11,12] [0,3,5,6] [(2,.r fun _=>.bool (.v q1))] Z (hob:=by intro X;subst O;simp only[i7,Ob.holds,BE.den]<;>and_intros<;>repeat first|trivial|rfl|exact(by rw[hq1];exact I2 g1 _ _ 5 _ rfl)|exact by rw[hq1];exact I2 g1 _ _ 5 _ rfl|exact(fun _ _=>by kernel_rfl)|refine⟨?_,?_⟩|intro h|exact Int.le_refl _|decide|omega) fun X6 Z=>?_
  apply b7 Z rfl<;>intro hb Z
  .have tq1:gk g1 5=false:=by subst O;rw[<-hq1];revert hb;cases q1<;>simp[std]
   refine j9 (j5 [12,0,3,11] [0,3] Z fun X10 Z=>?_);replace Z:=Z.headS (v':=.int .i64 2) (by subst O;exact zr) rfl;refine l5 (a6 [13,0,3,11,12] [0,3] Z fun X3 Z=>?_);replace Z:=Z.headS (v':=.bool .ff) (Sim.bool (by subst O;rfl)) rfl;refine a7 (l4 Z rfl (fun Z=>?_));exact j9 ((rmm O a8 Z (v:=()) (q:=p51) ((X5 2).A 0) ((X5 2).c 0) (by simp[G4,J0,<-hx0,<-hx1,Rs.bind,t0,hm50,tq0,hm51,tq1])).2)
  have tq1:gk g1 5=true:=by subst O;rw[<-hq1];revert hb;cases q1<;>simp[std]
  refine f8 (a7 ?_)
  rcases(ih 0 b J hJ ((X5 2).A 0) ((X5 2).c 0) p51 hp51 hn51 x1 hk1 (by have:=hs51.le;have:=hl51;have:=(Suf.trans (Suf.refl p) hs50).le;omega)).two (Z1 _ _ _ _) hp51 hn51 with⟨w71,p71,hm71,O1⟩|⟨v71,p71,hm71,hs71,hp71,hn71,S71⟩
  .refine stp 2 O a8 [22,23] [0] [] Z O1 fun _ _ _ _ Z hk=>?_
   exact thm (P:=Tryz.prog) (fn:=Tryz.f266) (q:=p71) Z hk (by simp[G4,J0,<-hx0,<-hx1,Rs.bind,t0,hm50,tq0,hm51,tq1,hm71])
  have O1:=S71;refine f7 [0,3,5,6,11,12] [0,3,5,6] [(2,rc J (k7) p71)] Z fun X7 Z=>?_
  refine a7 (a7 ?_)
  rcases(aH 0 b J hJ ((X7 2).A 0) ((X7 2).c 0) p71 hp71 hn71 l).two (k8 _ _ _) hp71 hn71 with⟨w81,p81,hm81,O1⟩|⟨h1,p81,hm81,hs81,hp81,hn81,S81⟩
  .refine stp 2 O a8 [25,26] [0] [] Z O1 fun _ _ _ _ Z hk=>?_
   exact thm (P:=Tryz.prog) (fn:=Tryz.f266) (q:=p81) Z hk (by simp[G4,J0,<-hx0,<-hx1,Rs.bind,t0,hm50,tq0,hm51,tq1,hm71,hm81])
  have hl81:=B7 hm81;have hg81:=hp71.get hm81;obtain⟨r1,hr1⟩:=eqv ((gk h1 1||gk h1 5));refine f7 [30,0,3,5,6,11,12] [0,3,5,6] [(4,.r fun _=>.bool (.v r1)),(2,rc J (B2 h1) p81)] Z (hob:=by intro X;subst O;simp only[i7,Ob.holds,BE.den]<;>and_intros<;>repeat first|trivial|rfl|exact S81|exact(by rw[hr1];exact cB h1 _ _ 1 5 _ rfl rfl)|exact by rw[hr1];exact cB h1 _ _ 1 5 _ rfl rfl|exact(fun _ _=>by kernel_rfl)|refine⟨?_,?_⟩|intro h|exact Int.le_refl _|decide|omega) fun X8 Z=>?_
  apply b7 Z rfl<;>intro hb Z
  .have tr1:(gk h1 1||gk h1 5)=false:=by subst O;rw[<-hr1];revert hb;cases r1<;>simp[std]
   exact i8 ((rmm O a8 Z (v:=()) (q:=p81) ((X8 2).A 0) ((X8 2).c 0) (by simp[G4,J0,<-hx0,<-hx1,Rs.bind,t0,hm50,tq0,hm51,tq1,hm71,hm81,tr1])).1)
  have tr1:(gk h1 1||gk h1 5)=true:=by subst O;rw[<-hr1];revert hb;cases r1<;>simp[std]
  refine f8 ?_
  rcases(BU 0 b J hJ ((X8 2).A 0) ((X8 2).c 0) p81 hp81 hn81 x1 g1.ver).two (dO _ _ _ _) hp81 hn81 with⟨w91,p91,hm91,O1⟩|⟨d1,p91,hm91,hs91,hp91,hn91,S91⟩
  .refine stp 4 O a8 [31,32,34] [0] [] Z O1 fun _ _ _ _ Z hk=>?_
   exact thm (P:=Tryz.prog) (fn:=Tryz.f266) (q:=p91) Z hk (by simp[G4,J0,<-hx0,<-hx1,Rs.bind,t0,hm50,tq0,hm51,tq1,hm71,hm81,tr1,hm91])
  have O1:=S91;refine f7 [0,3,11,12] [0,3] [(4,rc J (.bool (.v d1)) p91)] Z fun X9 Z=>?_
  refine j5 [12,0,3,11] [0,3] Z fun X10 Z=>?_
  replace Z:=Z.headS (v':=.int .i64 2) (by subst O;exact zr) rfl;refine l5 (a6 [13,0,3,11,12] [0,3] Z fun X3 Z=>?_);replace Z:=Z.headS (v':=.bool .ff) (Sim.bool (by subst O;rfl)) rfl;refine a7 (l4 Z rfl (fun Z=>?_));exact j9 ((rmm O a8 Z (v:=()) (q:=p91) ((X9 4).A 0) ((X9 4).c 0) (by simp[G4,J0,<-hx0,<-hx1,Rs.bind,t0,hm50,tq0,hm51,tq1,hm71,hm81,tr1,hm91])).2)
 have tq0:gk g0 5=true:=by subst O;rw[<-hq0];revert hb;cases q0<;>simp[std]
 refine f8 (a7 ?_)
 rcases(ih 0 b J hJ ((X5 2).A 0) ((X5 2).c 0) p50 hp50 hn50 x0 hk0 (by have:=hs50.le;have:=hl50;have:=(Suf.refl p).le;omega)).two (Z1 _ _ _ _) hp50 hn50 with⟨w70,p70,hm70,O1⟩|⟨v70,p70,hm70,hs70,hp70,hn70,S70⟩
 .refine stp 2 O a8 [22,23] [0] [] Z O1 fun _ _ _ _ Z hk=>?_
  exact thm (P:=Tryz.prog) (fn:=Tryz.f266) (q:=p70) Z hk (by simp[G4,J0,<-hx0,<-hx1,Rs.bind,t0,hm50,tq0,hm70])
 have O1:=S70;refine f7 [0,3,5,6,11,12] [0,3,5,6] [(2,rc J (k7) p70)] Z fun X7 Z=>?_
 refine a7 (a7 ?_)
 rcases(aH 0 b J hJ ((X7 2).A 0) ((X7 2).c 0) p70 hp70 hn70 l).two (k8 _ _ _) hp70 hn70 with⟨w80,p80,hm80,O1⟩|⟨h0,p80,hm80,hs80,hp80,hn80,S80⟩
 .refine stp 2 O a8 [25,26] [0] [] Z O1 fun _ _ _ _ Z hk=>?_
  exact thm (P:=Tryz.prog) (fn:=Tryz.f266) (q:=p80) Z hk (by simp[G4,J0,<-hx0,<-hx1,Rs.bind,t0,hm50,tq0,hm70,hm80])
 have hl80:=B7 hm80;have hg80:=hp70.get hm80;obtain⟨r0,hr0⟩:=eqv ((gk h0 1||gk h0 5));refine f7 [30,0,3,5,6,11,12] [0,3,5,6] [(4,.r fun _=>.bool (.v r0)),(2,rc J (B2 h0) p80)] Z (hob:=by intro X;subst O;simp only[i7,Ob.holds,BE.den]<;>and_intros<;>repeat first|trivial|rfl|exact S80|exact(by rw[hr0];exact cB h0 _ _ 1 5 _ rfl rfl)|exact by rw[hr0];exact cB h0 _ _ 1 5 _ rfl rfl|exact(fun _ _=>by kernel_rfl)|refine⟨?_,?_⟩|intro h|exact Int.le_refl _|decide|omega) fun X8 Z=>?_
 apply b7 Z rfl<;>intro hb Z
 .have tr0:(gk h0 1||gk h0 5)=false:=by subst O;rw[<-hr0];revert hb;cases r0<;>simp[std]
  exact i8 ((rmm O a8 Z (v:=()) (q:=p80) ((X8 2).A 0) ((X8 2).c 0) (by simp[G4,J0,<-hx0,<-hx1,Rs.bind,t0,hm50,tq0,hm70,hm80,tr0])).1)
 have tr0:(gk h0 1||gk h0 5)=true:=by subst O;rw[<-hr0];revert hb;cases r0<;>simp[std]
 refine f8 ?_
 rcases(BU 0 b J hJ ((X8 2).A 0) ((X8 2).c 0) p80 hp80 hn80 x0 g0.ver).two (dO _ _ _ _) hp80 hn80 with⟨w90,p90,hm90,O1⟩|⟨d0,p90,hm90,hs90,hp90,hn90,S90⟩
 .refine stp 4 O a8 [31,32,34] [0] [] Z O1 fun _ _ _ _ Z hk=>?_
  exact thm (P:=Tryz.prog) (fn:=Tryz.f266) (q:=p90) Z hk (by simp[G4,J0,<-hx0,<-hx1,Rs.bind,t0,hm50,tq0,hm70,hm80,tr0,hm90])
 have O1:=S90;refine f7 [0,3,11,12] [0,3] [(4,rc J (.bool (.v d0)) p90)] Z fun X9 Z=>?_
 refine j5 [12,0,3,11] [0,3] Z fun X10 Z=>?_
 replace Z:=Z.headS (v':=.int .i64 1) (by subst O;exact zr) rfl;refine l5 (a6 [13,0,3,11,12] [0,3] Z fun X3 Z=>?_);replace Z:=Z.headS (v':=.bool .tt) (Sim.bool (by subst O;rfl)) rfl;refine a7 (l7 Z rfl (fun Z=>?_));refine f8 (a7 (j1 (a6 [0,3,5,11,12] [0,3,5] Z fun X4 Z=>?_)));refine a7 ?_
 rcases(aH 0 b J hJ ((X9 4).A 0) ((X9 4).c 0) p90 hp90 hn90 x1).two (k8 _ _ _) hp90 hn90 with⟨w51,p51,hm51,O1⟩|⟨g1,p51,hm51,hs51,hp51,hn51,S51⟩
 .refine stp 2 O a8 [15,16] [0] [] Z O1 fun _ _ _ _ Z hk=>?_
  exact thm (P:=Tryz.prog) (fn:=Tryz.f266) (q:=p51) Z hk (by simp[G4,J0,<-hx0,<-hx1,Rs.bind,t0,hm50,tq0,hm70,hm80,tr0,hm90,hm51])
 have hl51:=B7 hm51;have hg51:=hp90.get hm51;have O1:=S51;refine f7 [0,3,5,6,11,12] [0,3,5,6] [(2,rc J (B2 g1) p51)] Z fun X5 Z=>?_
 obtain⟨q1,hq1⟩:=eqv (gk g1 5);refine a7 (a7 ?_);refine f7 [21,0,3,5,6,11,12] [0,3,5,6] [(2,.r fun _=>.bool (.v q1))] Z (hob:=by intro X;subst O;simp only[i7,Ob.holds,BE.den]<;>and_intros<;>repeat first|trivial|rfl|exact(by rw[hq1];exact I2 g1 _ _ 5 _ rfl)|exact by rw[hq1];exact I2 g1 _ _ 5 _ rfl|exact(fun _ _=>by kernel_rfl)|refine⟨?_,?_⟩|intro h|exact Int.le_refl _|decide|omega) fun X6 Z=>?_
 apply b7 Z rfl<;>intro hb Z
 .have tq1:gk g1 5=false:=by subst O;rw[<-hq1];revert hb;cases q1<;>simp[std]
  refine j9 (j5 [12,0,3,11] [0,3] Z fun X10 Z=>?_);replace Z:=Z.headS (v':=.int .i64 2) (by subst O;exact zr) rfl;refine l5 (a6 [13,0,3,11,12] [0,3] Z fun X3 Z=>?_);replace Z:=Z.headS (v':=.bool .ff) (Sim.bool (by subst O;rfl)) rfl;refine a7 (l4 Z rfl (fun Z=>?_));exact j9 ((rmm O a8 Z (v:=()) (q:=p51) ((X5 2).A 0) ((X5 2).c 0) (by simp[G4,J0,<-hx0,<-hx1,Rs.bind,t0,hm50,tq0,hm70,hm80,tr0,hm90,hm51,tq1])).2)
 have tq1:gk g1 5=true:=by subst O;rw[<-hq1];revert hb;cases q1<;>simp[std]
 refine f8 (a7 ?_)
 rcases(ih 0 b J hJ ((X5 2).A 0) ((X5 2).c 0) p51 hp51 hn51 x1 hk1 (by have:=hs51.le;have:=hl51;have:=(Suf.trans (Suf.trans (Suf.trans (Suf.trans (Suf.refl p) hs50) hs70) hs80) hs90).le;omega)).two (Z1 _ _ _ _) hp51 hn51 with⟨w71,p71,hm71,O1⟩|⟨v71,p71,hm71,hs71,hp71,hn71,S71⟩
 .refine stp 2 O a8 [22,23] [0] [] Z O1 fun _ _ _ _ Z hk=>?_
  exact thm (P:=Tryz.prog) (fn:=Tryz.f266) (q:=p71) Z hk (by simp[G4,J0,<-hx0,<-hx1,Rs.bind,t0,hm50,tq0,hm70,hm80,tr0,hm90,hm51,tq1,hm71])
 have O1:=S71;refine f7 [0,3,5,6,11,12] [0,3,5,6] [(2,rc J (k7) p71)] Z fun X7 Z=>?_
 refine a7 (a7 ?_)
 rcases(aH 0 b J hJ ((X7 2).A 0) ((X7 2).c 0) p71 hp71 hn71 l).two (k8 _ _ _) hp71 hn71 with⟨w81,p81,hm81,O1⟩|⟨h1,p81,hm81,hs81,hp81,hn81,S81⟩
 .refine stp 2 O a8 [25,26] [0] [] Z O1 fun _ _ _ _ Z hk=>?_
  exact thm (P:=Tryz.prog) (fn:=Tryz.f266) (q:=p81) Z hk (by simp[G4,J0,<-hx0,<-hx1,Rs.bind,t0,hm50,tq0,hm70,hm80,tr0,hm90,hm51,tq1,hm71,hm81])
 have hl81:=B7 hm81;have hg81:=hp71.get hm81;obtain⟨r1,hr1⟩:=eqv ((gk h1 1||gk h1 5));refine f7 [30,0,3,5,6,11,12] [0,3,5,6] [(4,.r fun _=>.bool (.v r1)),(2,rc J (B2 h1) p81)] Z (hob:=by intro X;subst O;simp only[i7,Ob.holds,BE.den]<;>and_intros<;>repeat first|trivial|rfl|exact S81|exact(by rw[hr1];exact cB h1 _ _ 1 5 _ rfl rfl)|exact by rw[hr1];exact cB h1 _ _ 1 5 _ rfl rfl|exact(fun _ _=>by kernel_rfl)|refine⟨?_,?_⟩|intro h|exact Int.le_refl _|decide|omega) fun X8 Z=>?_
 apply b7 Z rfl<;>intro hb Z
 .have tr1:(gk h1 1||gk h1 5)=false:=by subst O;rw[<-hr1];revert hb;cases r1<;>simp[std]
  exact i8 ((rmm O a8 Z (v:=()) (q:=p81) ((X8 2).A 0) ((X8 2).c 0) (by simp[G4,J0,<-hx0,<-hx1,Rs.bind,t0,hm50,tq0,hm70,hm80,tr0,hm90,hm51,tq1,hm71,hm81,tr1])).1)
 have tr1:(gk h1 1||gk h1 5)=true:=by subst O;rw[<-hr1];revert hb;cases r1<;>simp[std]
 refine f8 ?_
 rcases(BU 0 b J hJ ((X8 2).A 0) ((X8 2).c 0) p81 hp81 hn81 x1 g1.ver).two (dO _ _ _ _) hp81 hn81 with⟨w91,p91,hm91,O1⟩|⟨d1,p91,hm91,hs91,hp91,hn91,S91⟩
 .refine stp 4 O a8 [31,32,34] [0] [] Z O1 fun _ _ _ _ Z hk=>?_
  exact thm (P:=Tryz.prog) (fn:=Tryz.f266) (q:=p91) Z hk (by simp[G4,J0,<-hx0,<-hx1,Rs.bind,t0,hm50,tq0,hm70,hm80,tr0,hm90,hm51,tq1,hm71,hm81,tr1,hm91])
 have O1:=S91;refine f7 [0,3,11,12] [0,3] [(4,rc J (.bool (.v d1)) p91)] Z fun X9 Z=>?_
 refine j5 [12,0,3,11] [0,3] Z fun X10 Z=>?_
 replace Z:=Z.headS (v':=.int .i64 2) (by subst O;exact zr) rfl;refine l5 (a6 [13,0,3,11,12] [0,3] Z fun X3 Z=>?_);replace Z:=Z.headS (v':=.bool .ff) (Sim.bool (by subst O;rfl)) rfl;refine a7 (l4 Z rfl (fun Z=>?_));exact j9 ((rmm O a8 Z (v:=()) (q:=p91) ((X9 4).A 0) ((X9 4).c 0) (by simp[G4,J0,<-hx0,<-hx1,Rs.bind,t0,hm50,tq0,hm70,hm80,tr0,hm90,hm51,tq1,hm71,hm81,tr1,hm91])).2)
theorem Kp(k0 b:Nat)(J:j4)(hJ:l6 J)(A:Option Addr)(c:Nat)(p:Pst)(hp:j3 p)(hn:p.n<=1000000)(l:Lab)(hl:LOk l)(n:Nat)(ih:ClC n)(hf:p.n<n+1):B3 266 k0 b J A c p [i6 l] (fun _=>k7) (G4 J.budget (n+1) l p):=B3.re (Ga b J hJ A c p hp hn l hl n ih hf) (by repeat(first|exact trivial|refine⟨zr,?_⟩))
theorem Hz:∀n,ClC n
 |0=>fun _ _ _ _ _ _ _ _ _ _ _ h=>absurd h (Nat.not_lt_zero _)
 |n+1=>fun k0 b J hJ A c p hp hn l hl hf=>Kp k0 b J hJ A c p hp hn l hl n (Hz n) hf
theorem Id(b:Nat)(J:j4)(hJ:l6 J)(A:Option Addr)(c:Nat)(p:Pst)(hp:j3 p)(hn:p.n<=1000000)(l:Lab)(hl:LOk l)(v:Int)(x:RA)(hx:ay x)(n:Nat)(hf:p.n<n):B3 225 0 b J A c p [i6 l,.int .u64 v,J7 x] (fun _=>k7) (A4 J.budget n l v x p):=by
 intro m w hm hargs hpre;have SC:=wQ l hl.u;have hk0:=hl.ch 0;have hk1:=hl.ch 1;simp only[i6]at SC;obtain⟨x0,hx0⟩:=eqv (chV l 0);rw[<-hx0]at SC hk0;obtain⟨x1,hx1⟩:=eqv (chV l 1);rw[<-hx1]at SC hk1;have SH:=Je x hx l hl.u;obtain⟨e,he⟩:=eqv ((M7 x l).2.2);rw[<-he]at SH;obtain⟨r0,hr0⟩:=eqv ((M7 x l).1.rn);rw[<-hr0]at SH;obtain⟨r1,hr1⟩:=eqv ((M7 x l).2.1.rn);rw[<-hr1]at SH;have ha0:r0.abs=(M7 x l).1:=by rw[hr0];exact aQ _
 have ha1:r1.abs=(M7 x l).2.1:=by rw[hr1];exact aQ _
 simp only[i6]at SH;refine enX 63 hm hpre hargs Tryz.func225 fun B O a0 Z=>?_
 refine a6 [0,2,5,7] [0,5,7] Z fun X0 Z=>?_
 have O1:=SH;refine i9 [0,2,5,8,9,10] [0,5,8,9] [(2,.r fun y=>.tup [.agg [.int .i64 r0.kd,.sl none (y.A 0) r0.n (y.c 0) 2 (fun i=>itC (r0.f i)),.int .i64 r0.nx.len,.int .u64 r0.nx.bits,.int .u64 r0.mrk],.agg [.int .i64 r1.kd,.sl none (y.A 1) r1.n (y.c 1) 2 (fun i=>itC (r1.f i)),.int .i64 r1.nx.len,.int .u64 r1.nx.bits,.int .u64 r1.mrk],.int .i64 e])] Z fun X1 Z=>?_
 refine a7 (a6 [23,0,2,5,8,9] [0,5,8,9] Z fun X2 Z=>?_);apply b7 Z rfl<;>intro hb Z
 .have t0:¬e=0:=by subst O;simpa[std,d4]using hb
  exact i8 ((rmm O a8 Z (v:=()) (q:=p) A c (by simp[A4,B9,<-hx0,<-hx1,<-ha0,<-ha1,<-he,Rs.bind,t0])).1)
 have t0:e=0:=by subst O;simpa[std,d4]using hb
 refine f8 (a6 [0,2,5,11] [0,5,11] Z fun X3 Z=>?_);have O1:=SC;refine a7 (i9 [29,0,2,5,11,28] [0,5,11] [(1,.r fun _=>.agg [.int .i64 x0.len,.int .u64 x0.bits,.int .i64 x1.len,.int .u64 x1.bits])] Z fun X4 Z=>?_);refine j1 (wp_loop_rounds 3 (F0 (a6 [30,0,2,5,11,28,29] [0,5,11] Z fun X5 Z=>?_)));replace Z:=Z.headS (v':=.bool .tt) (Sim.bool (by subst O;rfl)) rfl;refine a7 (l7 Z rfl (fun Z=>?_));refine f8 (a7 (j1 (a6 [0,2,5,11,12,13,28,29] [0,5,11,13] Z fun X6 Z=>?_)));refine j1 (l3 (ι:=Nat×Pst×Option Addr×Nat) (fun q=>[]) (fun q=>[(0,⟨b,139,G1 J q.2.2.1 q.2.2.2 q.2.1⟩)]) (fun q=>[]) (fun q=>B9 J.budget l v x0 r0.abs n p=B9 J.budget l v x0 r0.abs q.1 q.2.1/\j3 q.2.1/\q.2.1.n<=1000000/\q.2.1.n<q.1/\q.2.1.n<=p.n) (fun q=>q.1) (n,p,A,c) ⟨rfl,hp,hn,(by dsimp only;skip;omega),(by dsimp only;skip;omega)⟩ Z ?_)
 rintro⟨nn0,p0,A0,c0⟩ ⟨hrun0,hp0,hn0,hf0,hle0⟩ _ _ Z
 try dsimp only at hrun0
 try dsimp only at hp0
 try dsimp only at hn0
 try dsimp only at hf0
 try dsimp only at hle0
 obtain⟨m0,rfl⟩:∃n2,nn0=n2+1:=⟨nn0-1,by omega⟩
 refine j1 (a7 ?_)
 rcases(aH 0 b J hJ A0 c0 p0 hp0 hn0 x0).two (k8 _ _ _) hp0 hn0 with⟨w70,p70,hm70,O1⟩|⟨g0,p70,hm70,hs70,hp70,hn70,S70⟩
 .refine stp 2 O a8 [33,34] [0] [] Z O1 fun _ _ _ _ Z hk=>?_
  exact thm (P:=Tryz.prog) (fn:=Tryz.f225) (q:=p70) Z hk (by simp[A4,B9,<-hx0,<-hx1,<-ha0,<-ha1,<-he,Rs.bind,t0,hrun0,hm70])
 have hl70:=B7 hm70;have hg70:=hp0.get hm70;have O1:=S70;refine f7 [0,2,5,11,12,13,14,28,29] [0,5,11,13,14] [(2,rc J (B2 g0) p70)] Z fun X7 Z=>?_
 refine a7 (a6 [43,0,2,5,11,12,13,14,28,29] [0,5,11,13,14] Z fun X8 Z=>?_);apply b7 Z rfl<;>intro hb Z
 .have tq0:(g0.has && !decide (g0.x.r.kd=5))=true:=by
   have h9:(if g0.has=true then !decide (g0.x.r.kd=5)else false)=true:=by
    have h8:(if g0.has=true then(g0.x.r.kd != 5)else false)=true:=by subst O;exact hb
    exact h8
   rw[<-h9];cases g0.has<;>rfl
  refine j9 (j5 [29,0,2,5,11,28] [0,5,11] Z fun X11 Z=>?_);replace Z:=Z.headS (v':=.int .i64 1) (by subst O;exact zr) rfl;refine l5 (a6 [30,0,2,5,11,28,29] [0,5,11] Z fun X5 Z=>?_);replace Z:=Z.headS (v':=.bool .tt) (Sim.bool (by subst O;rfl)) rfl;refine a7 (l7 Z rfl (fun Z=>?_));refine f8 (a7 (j1 (a6 [0,2,5,11,12,13,28,29] [0,5,11,13] Z fun X6 Z=>?_)));refine j1 (l3 (ι:=Nat×Pst×Option Addr×Nat) (fun q=>[]) (fun q=>[(0,⟨b,139,G1 J q.2.2.1 q.2.2.2 q.2.1⟩)]) (fun q=>[]) (fun q=>B9 J.budget l v x1 r1.abs n p70=B9 J.budget l v x1 r1.abs q.1 q.2.1/\j3 q.2.1/\q.2.1.n<=1000000/\q.2.1.n<q.1/\q.2.1.n<=p.n) (fun q=>q.1) (n,p70,((X7 2).A 0),((X7 2).c 0)) ⟨rfl,hp70,hn70,(by dsimp only;have:=hle0;have:=hs70.le;omega),(by dsimp only;have:=hle0;have:=hs70.le;omega)⟩ Z ?_)
  rintro⟨nn1,p1,A1,c1⟩ ⟨hrun1,hp1,hn1,hf1,hle1⟩ _ _ Z
  try dsimp only at hrun1
  try dsimp only at hp1
  try dsimp only at hn1
  try dsimp only at hf1
  try dsimp only at hle1
  obtain⟨m1,rfl⟩:∃n2,nn1=n2+1:=⟨nn1-1,by omega⟩
  refine j1 (a7 ?_)
  rcases(aH 0 b J hJ A1 c1 p1 hp1 hn1 x1).two (k8 _ _ _) hp1 hn1 with⟨w71,p71,hm71,O1⟩|⟨g1,p71,hm71,hs71,hp71,hn71,S71⟩
  .refine stp 2 O a8 [33,34] [0] [] Z O1 fun _ _ _ _ Z hk=>?_
   exact thm (P:=Tryz.prog) (fn:=Tryz.f225) (q:=p71) Z hk (by simp[A4,B9,<-hx0,<-hx1,<-ha0,<-ha1,<-he,Rs.bind,t0,hrun0,hm70,tq0,hrun1,hm71])
  have hl71:=B7 hm71;have hg71:=hp1.get hm71;have O1:=S71;refine f7 [0,2,5,11,12,13,14,28,29] [0,5,11,13,14] [(2,rc J (B2 g1) p71)] Z fun X7 Z=>?_
  refine a7 (a6 [43,0,2,5,11,12,13,14,28,29] [0,5,11,13,14] Z fun X8 Z=>?_);apply b7 Z rfl<;>intro hb Z
  .have tq1:(g1.has && !decide (g1.x.r.kd=5))=true:=by
    have h9:(if g1.has=true then !decide (g1.x.r.kd=5)else false)=true:=by
     have h8:(if g1.has=true then(g1.x.r.kd != 5)else false)=true:=by subst O;exact hb
     exact h8
    rw[<-h9];cases g1.has<;>rfl
   refine j9 (j5 [29,0,2,5,11,28] [0,5,11] Z fun X11 Z=>?_);replace Z:=Z.headS (v':=.int .i64 2) (by subst O;exact zr) rfl;refine l5 (a6 [30,0,2,5,11,28,29] [0,5,11] Z fun X5 Z=>?_);replace Z:=Z.headS (v':=.bool .ff) (Sim.bool (by subst O;rfl)) rfl;refine a7 (l4 Z rfl (fun Z=>?_));refine j9 ?_
   rcases(nz 0 b J hJ ((X7 2).A 0) ((X7 2).c 0) p71 hp71 hn71 l v).two (A5 _ _ _ _ _) hp71 hn71 with⟨w12,p12,hm12,O1⟩|⟨d2,p12,hm12,hs12,hp12,hn12,S12⟩
   .have O2:=ga
    refine lK 4 O a8 [58,59,60,61] [0] [(3,.r fun _=>.agg [.int .i64 2,.sl none none 0 0 2 (fun _=>[]),.int .i64 (-1),.int .u64 0,.int .u64 0])] Z O1 fun _ _ _ _ Z hk=>?_
    exact thm (P:=Tryz.prog) (fn:=Tryz.f225) (q:=p12) Z hk (by simp[A4,B9,<-hx0,<-hx1,<-ha0,<-ha1,<-he,Rs.bind,t0,hrun0,hm70,tq0,hrun1,hm71,tq1,hm12])
   have O1:=ga;have O2:=S12;refine drg O a8 [] [0] [(3,.r fun _=>.agg [.int .i64 2,.sl none none 0 0 2 (fun _=>[]),.int .i64 (-1),.int .u64 0,.int .u64 0]),(4,rc J (.bool (.v d2)) p12)] Z fun X12 _ _ Z=>?_
   exact(rmm O a8 Z (v:=()) (q:=p12) ((X12 4).A 0) ((X12 4).c 0) (by simp[A4,B9,<-hx0,<-hx1,<-ha0,<-ha1,<-he,Rs.bind,t0,hrun0,hm70,tq0,hrun1,hm71,tq1,hm12])).2
  have tq1:(g1.has && !decide (g1.x.r.kd=5))=false:=by
   have h9:(if g1.has=true then !decide (g1.x.r.kd=5)else false)=false:=by
    have h8:(if g1.has=true then(g1.x.r.kd != 5)else false)=false:=by subst O;exact hb
    exact h8
   rw[<-h9];cases g1.has<;>rfl
  refine f8 (a7 (a7 ?_))
  rcases(kU 0 b J hJ ((X7 2).A 0) ((X7 2).c 0) p71 hp71 hn71 l v).two (k8 _ _ _) hp71 hn71 with⟨w91,p91,hm91,O1⟩|⟨h1,p91,hm91,hs91,hp91,hn91,S91⟩
  .refine stp 3 O a8 [44,45,46] [0] [] Z O1 fun _ _ _ _ Z hk=>?_
   exact thm (P:=Tryz.prog) (fn:=Tryz.f225) (q:=p91) Z hk (by simp[A4,B9,<-hx0,<-hx1,<-ha0,<-ha1,<-he,Rs.bind,t0,hrun0,hm70,tq0,hrun1,hm71,tq1,hm91])
  have hl91:=B7 hm91;have hg91:=hp71.get hm91
  try dsimp only at S91
  obtain⟨e1,he1⟩:=eqv (decide (h1.ver=v));rw[<-he1]at S91;have O1:=S91;refine f7 [48,0,2,5,11,12,13,14,28,29] [0,5,11,13,14] [(3,rc J (.bool (.v e1)) p91)] Z fun X9 Z=>?_
  apply b7 Z rfl<;>intro hb Z
  .have t91:¬h1.ver=v:=by
    have h9:(!e1)=true:=by subst O;exact hb
    rw[he1]at h9;simpa using h9
   exact i8 ((rmm O a8 Z (v:=()) (q:=p91) ((X9 3).A 0) ((X9 3).c 0) (by simp[A4,B9,<-hx0,<-hx1,<-ha0,<-ha1,<-he,Rs.bind,t0,hrun0,hm70,tq0,hrun1,hm71,tq1,hm91,t91])).1)
  have t91:h1.ver=v:=by
   have h9:(!e1)=false:=by subst O;exact hb
   rw[he1]at h9;simpa using h9
  refine f8 (a7 ?_)
  rcases(jm 0 b J hJ ((X9 3).A 0) ((X9 3).c 0) p91 hp91 hn91 x1 g1.ver ⟨(X1 2).A 1,(X1 2).c 1,r1⟩).two (A5 _ _ _ _ _) hp91 hn91 with⟨w101,p101,hm101,O1⟩|⟨d1,p101,hm101,hs101,hp101,hn101,S101⟩
  .refine lK 7 O a8 [49,50,52,55] [0] [] Z O1 fun _ _ _ _ Z hk=>?_
   exact thm (P:=Tryz.prog) (fn:=Tryz.f225) (q:=p101) Z hk (by simp[A4,B9,<-hx0,<-hx1,<-ha0,<-ha1,<-he,Rs.bind,t0,hrun0,hm70,tq0,hrun1,hm71,tq1,hm91,t91,hm101])
  have O1:=S101;refine drg O a8 [56,0,2,5,11,12,13,28,29] [0,5,11,13] [(7,rc J (.bool (.v d1)) p101)] Z fun X10 _ _ Z=>?_
  apply b7 Z rfl<;>intro hb Z
  .have td1:d1=true:=by exact hb
   refine j9 (j5 [29,0,2,5,11,28] [0,5,11] Z fun X11 Z=>?_);replace Z:=Z.headS (v':=.int .i64 2) (by subst O;exact zr) rfl;refine l5 (a6 [30,0,2,5,11,28,29] [0,5,11] Z fun X5 Z=>?_);replace Z:=Z.headS (v':=.bool .ff) (Sim.bool (by subst O;rfl)) rfl;refine a7 (l4 Z rfl (fun Z=>?_));refine j9 ?_
   rcases(nz 0 b J hJ ((X10 7).A 0) ((X10 7).c 0) p101 hp101 hn101 l v).two (A5 _ _ _ _ _) hp101 hn101 with⟨w12,p12,hm12,O1⟩|⟨d2,p12,hm12,hs12,hp12,hn12,S12⟩
   .have O2:=ga
    refine lK 4 O a8 [58,59,60,61] [0] [(3,.r fun _=>.agg [.int .i64 2,.sl none none 0 0 2 (fun _=>[]),.int .i64 (-1),.int .u64 0,.int .u64 0])] Z O1 fun _ _ _ _ Z hk=>?_
    exact thm (P:=Tryz.prog) (fn:=Tryz.f225) (q:=p12) Z hk (by simp[A4,B9,<-hx0,<-hx1,<-ha0,<-ha1,<-he,Rs.bind,t0,hrun0,hm70,tq0,hrun1,hm71,tq1,hm91,t91,hm101,td1,hm12])
   have O1:=ga;have O2:=S12;refine drg O a8 [] [0] [(3,.r fun _=>.agg [.int .i64 2,.sl none none 0 0 2 (fun _=>[]),.int .i64 (-1),.int .u64 0,.int .u64 0]),(4,rc J (.bool (.v d2)) p12)] Z fun X12 _ _ Z=>?_
   exact(rmm O a8 Z (v:=()) (q:=p12) ((X12 4).A 0) ((X12 4).c 0) (by simp[A4,B9,<-hx0,<-hx1,<-ha0,<-ha1,<-he,Rs.bind,t0,hrun0,hm70,tq0,hrun1,hm71,tq1,hm91,t91,hm101,td1,hm12])).2
  have td1:d1=false:=by exact hb
  replace Z:=Z.keep [0,2,5,11,12,13,28,29] [0,5,11,13];exact f8 (⟨(m1,p101,_,_),⟨by rw[hrun1];simp[B9,Rs.bind,t0,hrun0,hm70,tq0,hrun1,hm71,tq1,hm91,t91,hm101,td1],hp101,hn101,by dsimp only;have:=hl71;have:=hs91.le;have:=hs101.le;have:=hf1;omega,by dsimp only;have:=hl71;have:=hs91.le;have:=hs101.le;have:=hle1;omega⟩,by simp only;omega,Z⟩)
 have tq0:(g0.has && !decide (g0.x.r.kd=5))=false:=by
  have h9:(if g0.has=true then !decide (g0.x.r.kd=5)else false)=false:=by
   have h8:(if g0.has=true then(g0.x.r.kd != 5)else false)=false:=by subst O;exact hb
   exact h8
  rw[<-h9];cases g0.has<;>rfl
 refine f8 (a7 (a7 ?_))
 rcases(kU 0 b J hJ ((X7 2).A 0) ((X7 2).c 0) p70 hp70 hn70 l v).two (k8 _ _ _) hp70 hn70 with⟨w90,p90,hm90,O1⟩|⟨h0,p90,hm90,hs90,hp90,hn90,S90⟩
 .refine stp 3 O a8 [44,45,46] [0] [] Z O1 fun _ _ _ _ Z hk=>?_
  exact thm (P:=Tryz.prog) (fn:=Tryz.f225) (q:=p90) Z hk (by simp[A4,B9,<-hx0,<-hx1,<-ha0,<-ha1,<-he,Rs.bind,t0,hrun0,hm70,tq0,hm90])
 have hl90:=B7 hm90;have hg90:=hp70.get hm90
 try dsimp only at S90
 obtain⟨e0,he0⟩:=eqv (decide (h0.ver=v));rw[<-he0]at S90;have O1:=S90;refine f7 [48,0,2,5,11,12,13,14,28,29] [0,5,11,13,14] [(3,rc J (.bool (.v e0)) p90)] Z fun X9 Z=>?_
 apply b7 Z rfl<;>intro hb Z
 .have t90:¬h0.ver=v:=by
   have h9:(!e0)=true:=by subst O;exact hb
   rw[he0]at h9;simpa using h9
  exact i8 ((rmm O a8 Z (v:=()) (q:=p90) ((X9 3).A 0) ((X9 3).c 0) (by simp[A4,B9,<-hx0,<-hx1,<-ha0,<-ha1,<-he,Rs.bind,t0,hrun0,hm70,tq0,hm90,t90])).1)
 have t90:h0.ver=v:=by
  have h9:(!e0)=false:=by subst O;exact hb
  rw[he0]at h9;simpa using h9
 refine f8 (a7 ?_)
 rcases(jm 0 b J hJ ((X9 3).A 0) ((X9 3).c 0) p90 hp90 hn90 x0 g0.ver ⟨(X1 2).A 0,(X1 2).c 0,r0⟩).two (A5 _ _ _ _ _) hp90 hn90 with⟨w100,p100,hm100,O1⟩|⟨d0,p100,hm100,hs100,hp100,hn100,S100⟩
 .refine lK 7 O a8 [49,50,52,55] [0] [] Z O1 fun _ _ _ _ Z hk=>?_
  exact thm (P:=Tryz.prog) (fn:=Tryz.f225) (q:=p100) Z hk (by simp[A4,B9,<-hx0,<-hx1,<-ha0,<-ha1,<-he,Rs.bind,t0,hrun0,hm70,tq0,hm90,t90,hm100])
 have O1:=S100;refine drg O a8 [56,0,2,5,11,12,13,28,29] [0,5,11,13] [(7,rc J (.bool (.v d0)) p100)] Z fun X10 _ _ Z=>?_
 apply b7 Z rfl<;>intro hb Z
 .have td0:d0=true:=by exact hb
  refine j9 (j5 [29,0,2,5,11,28] [0,5,11] Z fun X11 Z=>?_);replace Z:=Z.headS (v':=.int .i64 1) (by subst O;exact zr) rfl;refine l5 (a6 [30,0,2,5,11,28,29] [0,5,11] Z fun X5 Z=>?_);replace Z:=Z.headS (v':=.bool .tt) (Sim.bool (by subst O;rfl)) rfl;refine a7 (l7 Z rfl (fun Z=>?_));refine f8 (a7 (j1 (a6 [0,2,5,11,12,13,28,29] [0,5,11,13] Z fun X6 Z=>?_)));refine j1 (l3 (ι:=Nat×Pst×Option Addr×Nat) (fun q=>[]) (fun q=>[(0,⟨b,139,G1 J q.2.2.1 q.2.2.2 q.2.1⟩)]) (fun q=>[]) (fun q=>B9 J.budget l v x1 r1.abs n p100=B9 J.budget l v x1 r1.abs q.1 q.2.1/\j3 q.2.1/\q.2.1.n<=1000000/\q.2.1.n<q.1/\q.2.1.n<=p.n) (fun q=>q.1) (n,p100,((X10 7).A 0),((X10 7).c 0)) ⟨rfl,hp100,hn100,(by dsimp only;have:=hle0;have:=hs70.le;have:=hs90.le;have:=hs100.le;omega),(by dsimp only;have:=hle0;have:=hs70.le;have:=hs90.le;have:=hs100.le;omega)⟩ Z ?_)
  rintro⟨nn1,p1,A1,c1⟩ ⟨hrun1,hp1,hn1,hf1,hle1⟩ _ _ Z
  try dsimp only at hrun1
  try dsimp only at hp1
  try dsimp only at hn1
  try dsimp only at hf1
  try dsimp only at hle1
  obtain⟨m1,rfl⟩:∃n2,nn1=n2+1:=⟨nn1-1,by omega⟩
  refine j1 (a7 ?_)
  rcases(aH 0 b J hJ A1 c1 p1 hp1 hn1 x1).two (k8 _ _ _) hp1 hn1 with⟨w71,p71,hm71,O1⟩|⟨g1,p71,hm71,hs71,hp71,hn71,S71⟩
  .refine stp 2 O a8 [33,34] [0] [] Z O1 fun _ _ _ _ Z hk=>?_
   exact thm (P:=Tryz.prog) (fn:=Tryz.f225) (q:=p71) Z hk (by simp[A4,B9,<-hx0,<-hx1,<-ha0,<-ha1,<-he,Rs.bind,t0,hrun0,hm70,tq0,hm90,t90,hm100,td0,hrun1,hm71])
  have hl71:=B7 hm71;have hg71:=hp1.get hm71;have O1:=S71;refine f7 [0,2,5,11,12,13,14,28,29] [0,5,11,13,14] [(2,rc J (B2 g1) p71)] Z fun X7 Z=>?_
  refine a7 (a6 [43,0,2,5,11,12,13,14,28,29] [0,5,11,13,14] Z fun X8 Z=>?_);apply b7 Z rfl<;>intro hb Z
  .have tq1:(g1.has && !decide (g1.x.r.kd=5))=true:=by
    have h9:(if g1.has=true then !decide (g1.x.r.kd=5)else false)=true:=by
     have h8:(if g1.has=true then(g1.x.r.kd != 5)else false)=true:=by subst O;exact hb
     exact h8
    rw[<-h9];cases g1.has<;>rfl
   refine j9 (j5 [29,0,2,5,11,28] [0,5,11] Z fun X11 Z=>?_);replace Z:=Z.headS (v':=.int .i64 2) (by subst O;exact zr) rfl;refine l5 (a6 [30,0,2,5,11,28,29] [0,5,11] Z fun X5 Z=>?_);replace Z:=Z.headS (v':=.bool .ff) (Sim.bool (by subst O;rfl)) rfl;refine a7 (l4 Z rfl (fun Z=>?_));refine j9 ?_
   rcases(nz 0 b J hJ ((X7 2).A 0) ((X7 2).c 0) p71 hp71 hn71 l v).two (A5 _ _ _ _ _) hp71 hn71 with⟨w12,p12,hm12,O1⟩|⟨d2,p12,hm12,hs12,hp12,hn12,S12⟩
   .have O2:=ga
    refine lK 4 O a8 [58,59,60,61] [0] [(3,.r fun _=>.agg [.int .i64 2,.sl none none 0 0 2 (fun _=>[]),.int .i64 (-1),.int .u64 0,.int .u64 0])] Z O1 fun _ _ _ _ Z hk=>?_
    exact thm (P:=Tryz.prog) (fn:=Tryz.f225) (q:=p12) Z hk (by simp[A4,B9,<-hx0,<-hx1,<-ha0,<-ha1,<-he,Rs.bind,t0,hrun0,hm70,tq0,hm90,t90,hm100,td0,hrun1,hm71,tq1,hm12])
   have O1:=ga;have O2:=S12;refine drg O a8 [] [0] [(3,.r fun _=>.agg [.int .i64 2,.sl none none 0 0 2 (fun _=>[]),.int .i64 (-1),.int .u64 0,.int .u64 0]),(4,rc J (.bool (.v d2)) p12)] Z fun X12 _ _ Z=>?_
   exact(rmm O a8 Z (v:=()) (q:=p12) ((X12 4).A 0) ((X12 4).c 0) (by simp[A4,B9,<-hx0,<-hx1,<-ha0,<-ha1,<-he,Rs.bind,t0,hrun0,hm70,tq0,hm90,t90,hm100,td0,hrun1,hm71,tq1,hm12])).2
  have tq1:(g1.has && !decide (g1.x.r.kd=5))=false:=by
   have h9:(if g1.has=true then !decide (g1.x.r.kd=5)else false)=false:=by
    have h8:(if g1.has=true then(g1.x.r.kd != 5)else false)=false:=by subst O;exact hb
    exact h8
   rw[<-h9];cases g1.has<;>rfl
  refine f8 (a7 (a7 ?_))
  rcases(kU 0 b J hJ ((X7 2).A 0) ((X7 2).c 0) p71 hp71 hn71 l v).two (k8 _ _ _) hp71 hn71 with⟨w91,p91,hm91,O1⟩|⟨h1,p91,hm91,hs91,hp91,hn91,S91⟩
  .refine stp 3 O a8 [44,45,46] [0] [] Z O1 fun _ _ _ _ Z hk=>?_
   exact thm (P:=Tryz.prog) (fn:=Tryz.f225) (q:=p91) Z hk (by simp[A4,B9,<-hx0,<-hx1,<-ha0,<-ha1,<-he,Rs.bind,t0,hrun0,hm70,tq0,hm90,t90,hm100,td0,hrun1,hm71,tq1,hm91])
  have hl91:=B7 hm91;have hg91:=hp71.get hm91
  try dsimp only at S91
  obtain⟨e1,he1⟩:=eqv (decide (h1.ver=v));rw[<-he1]at S91;have O1:=S91;refine f7 [48,0,2,5,11,12,13,14,28,29] [0,5,11,13,14] [(3,rc J (.bool (.v e1)) p91)] Z fun X9 Z=>?_
  apply b7 Z rfl<;>intro hb Z
  .have t91:¬h1.ver=v:=by
    have h9:(!e1)=true:=by subst O;exact hb
    rw[he1]at h9;simpa using h9
   exact i8 ((rmm O a8 Z (v:=()) (q:=p91) ((X9 3).A 0) ((X9 3).c 0) (by simp[A4,B9,<-hx0,<-hx1,<-ha0,<-ha1,<-he,Rs.bind,t0,hrun0,hm70,tq0,hm90,t90,hm100,td0,hrun1,hm71,tq1,hm91,t91])).1)
  have t91:h1.ver=v:=by
   have h9:(!e1)=false:=by subst O;exact hb
   rw[he1]at h9;simpa using h9
  refine f8 (a7 ?_)
  rcases(jm 0 b J hJ ((X9 3).A 0) ((X9 3).c 0) p91 hp91 hn91 x1 g1.ver ⟨(X1 2).A 1,(X1 2).c 1,r1⟩).two (A5 _ _ _ _ _) hp91 hn91 with⟨w101,p101,hm101,O1⟩|⟨d1,p101,hm101,hs101,hp101,hn101,S101⟩
  .refine lK 7 O a8 [49,50,52,55] [0] [] Z O1 fun _ _ _ _ Z hk=>?_
   exact thm (P:=Tryz.prog) (fn:=Tryz.f225) (q:=p101) Z hk (by simp[A4,B9,<-hx0,<-hx1,<-ha0,<-ha1,<-he,Rs.bind,t0,hrun0,hm70,tq0,hm90,t90,hm100,td0,hrun1,hm71,tq1,hm91,t91,hm101])
  have O1:=S101;refine drg O a8 [56,0,2,5,11,12,13,28,29] [0,5,11,13] [(7,rc J (.bool (.v d1)) p101)] Z fun X10 _ _ Z=>?_
  apply b7 Z rfl<;>intro hb Z
  .have td1:d1=true:=by exact hb
   refine j9 (j5 [29,0,2,5,11,28] [0,5,11] Z fun X11 Z=>?_);replace Z:=Z.headS (v':=.int .i64 2) (by subst O;exact zr) rfl;refine l5 (a6 [30,0,2,5,11,28,29] [0,5,11] Z fun X5 Z=>?_);replace Z:=Z.headS (v':=.bool .ff) (Sim.bool (by subst O;rfl)) rfl;refine a7 (l4 Z rfl (fun Z=>?_));refine j9 ?_
   rcases(nz 0 b J hJ ((X10 7).A 0) ((X10 7).c 0) p101 hp101 hn101 l v).two (A5 _ _ _ _ _) hp101 hn101 with⟨w12,p12,hm12,O1⟩|⟨d2,p12,hm12,hs12,hp12,hn12,S12⟩
   .have O2:=ga
    refine lK 4 O a8 [58,59,60,61] [0] [(3,.r fun _=>.agg [.int .i64 2,.sl none none 0 0 2 (fun _=>[]),.int .i64 (-1),.int .u64 0,.int .u64 0])] Z O1 fun _ _ _ _ Z hk=>?_
    exact thm (P:=Tryz.prog) (fn:=Tryz.f225) (q:=p12) Z hk (by simp[A4,B9,<-hx0,<-hx1,<-ha0,<-ha1,<-he,Rs.bind,t0,hrun0,hm70,tq0,hm90,t90,hm100,td0,hrun1,hm71,tq1,hm91,t91,hm101,td1,hm12])
   have O1:=ga;have O2:=S12;refine drg O a8 [] [0] [(3,.r fun _=>.agg [.int .i64 2,.sl none none 0 0 2 (fun _=>[]),.int .i64 (-1),.int .u64 0,.int .u64 0]),(4,rc J (.bool (.v d2)) p12)] Z fun X12 _ _ Z=>?_
   exact(rmm O a8 Z (v:=()) (q:=p12) ((X12 4).A 0) ((X12 4).c 0) (by simp[A4,B9,<-hx0,<-hx1,<-ha0,<-ha1,<-he,Rs.bind,t0,hrun0,hm70,tq0,hm90,t90,hm100,td0,hrun1,hm71,tq1,hm91,t91,hm101,td1,hm12])).2
  have td1:d1=false:=by exact hb
  replace Z:=Z.keep [0,2,5,11,12,13,28,29] [0,5,11,13];exact f8 (⟨(m1,p101,_,_),⟨by rw[hrun1];simp[B9,Rs.bind,t0,hrun0,hm70,tq0,hm90,t90,hm100,td0,hrun1,hm71,tq1,hm91,t91,hm101,td1],hp101,hn101,by dsimp only;have:=hl71;have:=hs91.le;have:=hs101.le;have:=hf1;omega,by dsimp only;have:=hl71;have:=hs91.le;have:=hs101.le;have:=hle1;omega⟩,by simp only;omega,Z⟩)
 have td0:d0=false:=by exact hb
 replace Z:=Z.keep [0,2,5,11,12,13,28,29] [0,5,11,13];exact f8 (⟨(m0,p100,_,_),⟨by rw[hrun0];simp[B9,Rs.bind,t0,hrun0,hm70,tq0,hm90,t90,hm100,td0],hp100,hn100,by dsimp only;have:=hl70;have:=hs90.le;have:=hs100.le;have:=hf0;omega,by dsimp only;have:=hl70;have:=hs90.le;have:=hs100.le;have:=hle0;omega⟩,by simp only;omega,Z⟩)
theorem Ly(k0 b:Nat)(J:j4)(hJ:l6 J)(A:Option Addr)(c:Nat)(p:Pst)(hp:j3 p)(hn:p.n<=1000000)(l:Lab)(hl:LOk l)(v:Int)(x:RA)(hx:ay x)(n:Nat)(hf:p.n<n):B3 225 k0 b J A c p [i6 l,.int .u64 v,J7 x] (fun _=>k7) (A4 J.budget n l v x p):=B3.re (Id b J hJ A c p hp hn l hl v x hx n hf) (by repeat(first|exact trivial|refine⟨zr,?_⟩))
theorem IN(b:Nat)(J:j4)(hJ:l6 J)(A:Option Addr)(c:Nat)(p:Pst)(hp:j3 p)(hn:p.n<=1000000)(l:Lab)(hl:LOk l)(v:Int)(n:Nat)(hth:ThC n)(hf:p.n<n):B3 226 0 b J A c p [i6 l,.int .u64 v] (fun _=>k7) (M3 J.bucket J.budget n (J6 J.bucket J.budget n) l v p):=by
 intro m w hm hargs hpre;have SC:=wQ l hl.u;have hk0:=hl.ch 0;have hk1:=hl.ch 1;simp only[i6]at SC;obtain⟨x0,hx0⟩:=eqv (chV l 0);rw[<-hx0]at SC hk0;obtain⟨x1,hx1⟩:=eqv (chV l 1);rw[<-hx1]at SC hk1;refine enX 73 hm hpre hargs Tryz.func226 fun B O a0 Z=>?_
 refine a6 [0,2,4] [0,4] Z fun X0 Z=>?_
 refine a6 [0,2,4,6] [0,4,6] Z fun X1 Z=>?_
 have O1:=SC;refine a7 (i9 [15,0,2,4,6,14] [0,4,6] [(1,.r fun _=>.agg [.int .i64 x0.len,.int .u64 x0.bits,.int .i64 x1.len,.int .u64 x1.bits])] Z fun X2 Z=>?_);refine j1 (wp_loop_rounds 3 (F0 (a6 [16,0,2,4,6,14,15] [0,4,6] Z fun X3 Z=>?_)));replace Z:=Z.headS (v':=.bool .tt) (Sim.bool (by subst O;rfl)) rfl;refine a7 (l7 Z rfl (fun Z=>?_));refine f8 (a7 (j1 (a6 [0,2,4,6,7,8,14,15] [0,4,6,8] Z fun X4 Z=>?_)));refine a7 ?_
 rcases(Hq 0 b J hJ A c p hp hn l v x0 n (by have:=(Suf.refl p).le;omega)).two (bj _ _ _ _ _ _) hp hn with⟨w50,p50,hm50,O1⟩|⟨z0,p50,hm50,hs50,hp50,hn50,S50⟩
 .refine stp 4 O a8 [20,21,22,23] [0] [] Z O1 fun _ _ _ _ Z hk=>?_
  exact thm (P:=Tryz.prog) (fn:=Tryz.f226) (q:=p50) Z hk (by simp[M3,<-hx0,<-hx1,Rs.bind,hm50])
 have hz0:∀y,z0 = .fr y->ay y:=fun y hy=>gM hp (by rw[hm50,hy])
 have T50:=S50;unfold wD at T50;obtain⟨y0,hy0⟩:=eqv (fzR z0);rw[<-hy0]at T50;obtain⟨i0,hi0⟩:=eqv (fzI z0);rw[<-hi0]at T50;have O1:=T50;refine f7 [0,2,4,6,7,9,10,14,15] [0,4,6,9] [(4,rc J (.tup [.agg [.int .i64 y0.r.kd,.sl none y0.A y0.r.n y0.c 2 (fun i=>itC (y0.r.f i)),.int .i64 y0.r.nx.len,.int .u64 y0.r.nx.bits,.int .u64 y0.r.mrk],.int .i64 i0]) p50)] Z fun X5 Z=>?_
 refine a7 (a6 [0,2,4,6,7,9,14,15,27] [0,4,6,9] Z fun X6 Z=>?_);refine j1 (a7 (j1 (a7 (j1 (a7 (a7 (a6 [28,0,2,4,6,7,9,14,15,27] [0,4,6,9] Z fun X7 Z=>?_)))))));apply b7 Z rfl<;>intro hb Z
 .have tz0:z0 = .unfit:=Mj (by rw[<-hi0];subst O;simpa[std,d4]using hb)
  refine j9 ?_
  rcases(CE 0 b J hJ ((X5 4).A 0) ((X5 4).c 0) p50 hp50 hn50 l hl v n hth (by have:=(Suf.trans (Suf.refl p) hs50).le;omega)).two (cD _ _ (F9 _ _ _) _ _ _) hp50 hn50 with⟨w90,p90,hm90,O1⟩|⟨v90,p90,hm90,hs90,hp90,hn90,S90⟩
  .refine stp 3 O a8 [32,33,34] [0] [] Z O1 fun _ _ _ _ Z hk=>?_
   exact thm (P:=Tryz.prog) (fn:=Tryz.f226) (q:=p90) Z hk (by simp[M3,<-hx0,<-hx1,Rs.bind,hm50,tz0,hm90])
  have O1:=S90;refine f7 [] [0] [(3,rc J (k7) p90)] Z fun X9 Z=>?_
  exact a7 (i8 ((rmm O a8 Z (v:=()) (q:=p90) ((X9 3).A 0) ((X9 3).c 0) (by simp[M3,<-hx0,<-hx1,Rs.bind,hm50,tz0,hm90])).1))
 have ta0:fzI z0≠1:=by
  have:¬i0=1:=by subst O;simpa[std,d4]using hb
  rw[<-hi0];exact this
 refine f8 (a6 [30,0,2,4,6,7,9,14,15] [0,4,6,9] Z fun X8 Z=>?_);apply b7 Z rfl<;>intro hb Z
 .have tz0:z0 = .over:=Mk (by rw[<-hi0];subst O;simpa[std,d4]using hb)
  exact j9 (a7 (i8 ((rmm O a8 Z (v:=()) (q:=p50) ((X5 4).A 0) ((X5 4).c 0) (by simp[M3,<-hx0,<-hx1,Rs.bind,hm50,tz0])).1)))
 have tz0:z0 = .fr y0:=by
  rw[hy0];refine Mi ?_ ta0;have:¬i0=0:=by subst O;simpa[std,d4]using hb
  rw[<-hi0];exact this
 have ty0:=hz0 _ tz0;refine f8 (j9 (j5 [0,2,4,6,14,15] [0,4,6] Z fun X10 Z=>?_));refine j5 [15,0,2,4,6,14] [0,4,6] Z fun X11 Z=>?_
 replace Z:=Z.headS (v':=.int .i64 1) (by subst O;exact zr) rfl;refine l5 (a6 [16,0,2,4,6,14,15] [0,4,6] Z fun X3 Z=>?_);replace Z:=Z.headS (v':=.bool .tt) (Sim.bool (by subst O;rfl)) rfl;refine a7 (l7 Z rfl (fun Z=>?_));refine f8 (a7 (j1 (a6 [0,2,4,6,7,8,14,15] [0,4,6,8] Z fun X4 Z=>?_)));refine a7 ?_
 rcases(Hq 0 b J hJ ((X5 4).A 0) ((X5 4).c 0) p50 hp50 hn50 l v x1 n (by have:=(Suf.trans (Suf.refl p) hs50).le;omega)).two (bj _ _ _ _ _ _) hp50 hn50 with⟨w51,p51,hm51,O1⟩|⟨z1,p51,hm51,hs51,hp51,hn51,S51⟩
 .refine stp 4 O a8 [20,21,22,23] [0] [] Z O1 fun _ _ _ _ Z hk=>?_
  exact thm (P:=Tryz.prog) (fn:=Tryz.f226) (q:=p51) Z hk (by simp[M3,<-hx0,<-hx1,Rs.bind,hm50,tz0,hm51])
 have hz1:∀y,z1 = .fr y->ay y:=fun y hy=>gM hp50 (by rw[hm51,hy])
 have T51:=S51;unfold wD at T51;obtain⟨y1,hy1⟩:=eqv (fzR z1);rw[<-hy1]at T51;obtain⟨i1,hi1⟩:=eqv (fzI z1);rw[<-hi1]at T51;have O1:=T51;refine f7 [0,2,4,6,7,9,10,14,15] [0,4,6,9] [(4,rc J (.tup [.agg [.int .i64 y1.r.kd,.sl none y1.A y1.r.n y1.c 2 (fun i=>itC (y1.r.f i)),.int .i64 y1.r.nx.len,.int .u64 y1.r.nx.bits,.int .u64 y1.r.mrk],.int .i64 i1]) p51)] Z fun X5 Z=>?_
 refine a7 (a6 [0,2,4,6,7,9,14,15,27] [0,4,6,9] Z fun X6 Z=>?_);refine j1 (a7 (j1 (a7 (j1 (a7 (a7 (a6 [28,0,2,4,6,7,9,14,15,27] [0,4,6,9] Z fun X7 Z=>?_)))))));apply b7 Z rfl<;>intro hb Z
 .have tz1:z1 = .unfit:=Mj (by rw[<-hi1];subst O;simpa[std,d4]using hb)
  refine j9 ?_
  rcases(CE 0 b J hJ ((X5 4).A 0) ((X5 4).c 0) p51 hp51 hn51 l hl v n hth (by have:=(Suf.trans (Suf.trans (Suf.refl p) hs50) hs51).le;omega)).two (cD _ _ (F9 _ _ _) _ _ _) hp51 hn51 with⟨w91,p91,hm91,O1⟩|⟨v91,p91,hm91,hs91,hp91,hn91,S91⟩
  .refine stp 3 O a8 [32,33,34] [0] [] Z O1 fun _ _ _ _ Z hk=>?_
   exact thm (P:=Tryz.prog) (fn:=Tryz.f226) (q:=p91) Z hk (by simp[M3,<-hx0,<-hx1,Rs.bind,hm50,tz0,hm51,tz1,hm91])
  have O1:=S91;refine f7 [] [0] [(3,rc J (k7) p91)] Z fun X9 Z=>?_
  exact a7 (i8 ((rmm O a8 Z (v:=()) (q:=p91) ((X9 3).A 0) ((X9 3).c 0) (by simp[M3,<-hx0,<-hx1,Rs.bind,hm50,tz0,hm51,tz1,hm91])).1))
 have ta1:fzI z1≠1:=by
  have:¬i1=1:=by subst O;simpa[std,d4]using hb
  rw[<-hi1];exact this
 refine f8 (a6 [30,0,2,4,6,7,9,14,15] [0,4,6,9] Z fun X8 Z=>?_);apply b7 Z rfl<;>intro hb Z
 .have tz1:z1 = .over:=Mk (by rw[<-hi1];subst O;simpa[std,d4]using hb)
  exact j9 (a7 (i8 ((rmm O a8 Z (v:=()) (q:=p51) ((X5 4).A 0) ((X5 4).c 0) (by simp[M3,<-hx0,<-hx1,Rs.bind,hm50,tz0,hm51,tz1])).1)))
 have tz1:z1 = .fr y1:=by
  rw[hy1];refine Mi ?_ ta1;have:¬i1=0:=by subst O;simpa[std,d4]using hb
  rw[<-hi1];exact this
 have ty1:=hz1 _ tz1;refine f8 (j9 (j5 [0,2,4,6,14,15] [0,4,6] Z fun X10 Z=>?_));refine j5 [15,0,2,4,6,14] [0,4,6] Z fun X11 Z=>?_
 replace Z:=Z.headS (v':=.int .i64 2) (by subst O;exact zr) rfl;refine l5 (a6 [16,0,2,4,6,14,15] [0,4,6] Z fun X3 Z=>?_);replace Z:=Z.headS (v':=.bool .ff) (Sim.bool (by subst O;rfl)) rfl;refine a7 (l4 Z rfl (fun Z=>?_));have SU:=KS y0 y1 ty0 ty1;obtain⟨r2,hr2⟩:=eqv ((ci y0 y1).1.rn);rw[<-hr2]at SU;obtain⟨e2,he2⟩:=eqv ((ci y0 y1).2);rw[<-he2]at SU;have ha2:r2.abs=(ci y0 y1).1:=by rw[hr2];exact aQ _
 have hl2:r2.abs.items.length=r2.n:=by rw[ha2,hr2];rfl
 have O1:=SU;refine j9 (i9 [0,2,4,11,12] [0,4,11] [(4,.r fun z=>.tup [.agg [.int .i64 r2.kd,.sl none (z.A 0) r2.n (z.c 0) 2 (fun i=>itC (r2.f i)),.int .i64 r2.nx.len,.int .u64 r2.nx.bits,.int .u64 r2.mrk],.int .i64 e2])] Z fun X12 Z=>?_);refine a7 (a7 (drg O a8 [60,0,2,4,11] [0,4,11] [] Z fun X13 _ _ Z=>?_));apply b7 Z rfl<;>intro hb Z
 .have tu:¬((ci y0 y1).2=0/\(r2.abs.items.length:Int)<=J.bucket):=by
   have h9:(if(!decide (e2=0))=true then true else decide ((r2.n:Int)>J.bucket))=true:=by subst O;exact hb
   rw[<-he2,hl2];intro h;simp[h.1]at h9;omega
  refine a7 ?_
  rcases(CE 0 b J hJ ((X5 4).A 0) ((X5 4).c 0) p51 hp51 hn51 l hl v n hth (by have:=(Suf.trans (Suf.trans (Suf.refl p) hs50) hs51).le;omega)).two (cD _ _ (F9 _ _ _) _ _ _) hp51 hn51 with⟨w14,p14,hm14,O1⟩|⟨v14,p14,hm14,hs14,hp14,hn14,S14⟩
  .refine stp 3 O a8 [61,62,63] [0] [] Z O1 fun _ _ _ _ Z hk=>?_
   exact thm (P:=Tryz.prog) (fn:=Tryz.f226) (q:=p14) Z hk (by simp[M3,<-hx0,<-hx1,Rs.bind,hm50,tz0,hm51,tz1,<-ha2,if_neg tu,hm14])
  have O1:=S14;refine f7 [] [0] [(3,rc J (k7) p14)] Z fun X14 Z=>?_
  exact i8 ((rmm O a8 Z (v:=()) (q:=p14) ((X14 3).A 0) ((X14 3).c 0) (by simp[M3,<-hx0,<-hx1,Rs.bind,hm50,tz0,hm51,tz1,<-ha2,if_neg tu,hm14])).1)
 have tu:(ci y0 y1).2=0/\(r2.abs.items.length:Int)<=J.bucket:=by
  have h9:(if(!decide (e2=0))=true then true else decide ((r2.n:Int)>J.bucket))=false:=by subst O;exact hb
  rw[<-he2,hl2];simp at h9;exact⟨h9.1,by omega⟩
 refine f8 (a7 ?_)
 rcases(jm 0 b J hJ ((X5 4).A 0) ((X5 4).c 0) p51 hp51 hn51 l v ⟨(X12 4).A 0,(X12 4).c 0,r2⟩).two (A5 _ _ _ _ _) hp51 hn51 with⟨w15,p15,hm15,O1⟩|⟨d5,p15,hm15,hs15,hp15,hn15,S15⟩
 .refine stp 4 O a8 [65,66,67,68] [0] [] Z O1 fun _ _ _ _ Z hk=>?_
  exact thm (P:=Tryz.prog) (fn:=Tryz.f226) (q:=p15) Z hk (by simp[M3,<-hx0,<-hx1,Rs.bind,hm50,tz0,hm51,tz1,<-ha2,if_pos tu,hm15])
 have O1:=S15;refine f7 [69,0,4] [0,4] [(4,rc J (.bool (.v d5)) p15)] Z fun X15 Z=>?_
 apply b7 Z rfl<;>intro hb Z
 .have t5:d5=true:=by exact hb
  rcases(Hz n 0 b J hJ ((X15 4).A 0) ((X15 4).c 0) p15 hp15 hn15 l hl (by have:=(Suf.trans (Suf.trans (Suf.trans (Suf.refl p) hs50) hs51) hs15).le;omega)).two (Z1 _ _ _ _) hp15 hn15 with⟨w16,p16,hm16,O1⟩|⟨v16,p16,hm16,hs16,hp16,hn16,S16⟩
  .refine stp 2 O a8 [70,71] [0] [] Z O1 fun _ _ _ _ Z hk=>?_
   exact thm (P:=Tryz.prog) (fn:=Tryz.f226) (q:=p16) Z hk (by simp[M3,<-hx0,<-hx1,Rs.bind,hm50,tz0,hm51,tz1,<-ha2,if_pos tu,hm15,t5,hm16])
  have O1:=S16;refine f7 [] [0] [(2,rc J (k7) p16)] Z fun X16 Z=>?_
  exact(rmm O a8 Z (v:=()) (q:=p16) ((X16 2).A 0) ((X16 2).c 0) (by simp[M3,<-hx0,<-hx1,Rs.bind,hm50,tz0,hm51,tz1,<-ha2,if_pos tu,hm15,t5,hm16])).2
 have t5:d5=false:=by exact hb
 exact f8 ((rmm O a8 Z (v:=()) (q:=p15) ((X15 4).A 0) ((X15 4).c 0) (by simp[M3,<-hx0,<-hx1,Rs.bind,hm50,tz0,hm51,tz1,<-ha2,if_pos tu,hm15,t5])).2)
theorem LW(k0 b:Nat)(J:j4)(hJ:l6 J)(A:Option Addr)(c:Nat)(p:Pst)(hp:j3 p)(hn:p.n<=1000000)(l:Lab)(hl:LOk l)(v:Int)(n:Nat)(hth:ThC n)(hf:p.n<n):B3 226 k0 b J A c p [i6 l,.int .u64 v] (fun _=>k7) (M3 J.bucket J.budget n (J6 J.bucket J.budget n) l v p):=B3.re (IN b J hJ A c p hp hn l hl v n hth hf) (by repeat(first|exact trivial|refine⟨zr,?_⟩))
theorem Jo(b:Nat)(J:j4)(hJ:l6 J)(A:Option Addr)(c:Nat)(p:Pst)(hp:j3 p)(hn:p.n<=1000000)(l:Lab)(hl:LOk l)(g:s9)(hg:ew g)(n:Nat)(hth:ThC n)(hf:p.n<n):B3 165 0 b J A c p [i6 l,B2 g] (fun _=>k7) (aJ J.bucket J.budget n l g p):=by
 intro m w hm hargs hpre;refine enX 26 hm hpre hargs Tryz.func165 fun B O a0 Z=>?_
 refine a6 [0,4,5] [0,4,5] Z fun X0 Z=>?_
 obtain⟨q1,hq1⟩:=eqv (gk g 3);refine j1 (a7 ?_);refine f7 [6,0,4,5] [0,4,5,8] [(2,.r fun _=>.bool (.v q1))] Z (hob:=by intro X;subst O;simp only[i7,Ob.holds,BE.den]<;>and_intros<;>repeat first|trivial|rfl|exact(by rw[hq1];exact I2 g _ _ 3 _ rfl)|exact by rw[hq1];exact I2 g _ _ 3 _ rfl|exact(fun _ _=>by kernel_rfl)|refine⟨?_,?_⟩|intro h|exact Int.le_refl _|decide|omega) fun X1 Z=>?_
 apply b7 Z rfl<;>intro hb Z
 .have tq1:gk g 3=true:=by rw[<-hq1];exact hb
  rcases(Ly 0 b J hJ A c p hp hn l hl g.ver g.x hg.ra n hf).two (jL _ _ _ _ _ _) hp hn with⟨w2,p2,hm2,O1⟩|⟨v2,p2,hm2,hs2,hp2,hn2,S2⟩
  .refine stp 6 O a8 [10,11,13,15] [0] [] Z O1 fun _ _ _ _ Z hk=>?_
   exact thm (P:=Tryz.prog) (fn:=Tryz.f165) (q:=p2) Z hk (by simp[aJ,eA,Rs.bind,tq1,hm2])
  have O1:=S2;refine f7 [] [0] [(6,rc J (k7) p2)] Z fun X2 Z=>?_
  exact(rmm O a8 Z (v:=()) (q:=p2) ((X2 6).A 0) ((X2 6).c 0) (by simp[aJ,eA,Rs.bind,tq1,hm2])).2
 have tq1:gk g 3=false:=by rw[<-hq1];exact hb
 refine a6 [17,0,4,5] [0,4,5] Z fun X3 Z=>?_
 apply b7 Z rfl<;>intro hb Z
 .have t2:l.len<64:=by subst O;simpa[std,d4]using hb
  rcases(LW 0 b J hJ A c p hp hn l hl g.ver n hth hf).two (qD _ _ _ _ (F9 _ _ _) _ _ _) hp hn with⟨w4,p4,hm4,O1⟩|⟨v4,p4,hm4,hs4,hp4,hn4,S4⟩
  .refine stp 4 O a8 [21,22,24] [0] [] Z O1 fun _ _ _ _ Z hk=>?_
   exact thm (P:=Tryz.prog) (fn:=Tryz.f165) (q:=p4) Z hk (by simp[aJ,eA,Rs.bind,tq1,t2,hm4])
  have O1:=S4;refine f7 [] [0] [(4,rc J (k7) p4)] Z fun X4 Z=>?_
  exact(rmm O a8 Z (v:=()) (q:=p4) ((X4 4).A 0) ((X4 4).c 0) (by simp[aJ,eA,Rs.bind,tq1,t2,hm4])).2
 have t2:¬l.len<64:=by subst O;simpa[std,d4]using hb
 exact f8 ((rmm O a8 Z (v:=()) (q:=p) A c (by simp[aJ,eA,Rs.bind,tq1,t2])).2)
theorem Ml(k0 b:Nat)(J:j4)(hJ:l6 J)(A:Option Addr)(c:Nat)(p:Pst)(hp:j3 p)(hn:p.n<=1000000)(l:Lab)(hl:LOk l)(g:s9)(hg:ew g)(n:Nat)(hth:ThC n)(hf:p.n<n):B3 165 k0 b J A c p [i6 l,B2 g] (fun _=>k7) (aJ J.bucket J.budget n l g p):=B3.re (Jo b J hJ A c p hp hn l hl g hg n hth hf) (by repeat(first|exact trivial|refine⟨zr,?_⟩))
theorem HR(b:Nat)(J:j4)(hJ:l6 J)(A:Option Addr)(c:Nat)(p:Pst)(hp:j3 p)(hn:p.n<=1000000)(l:Lab)(hl:LOk l)(n:Nat)(hfin:∀j,j<n->Gs j)(hf:p.n<n):B3 228 0 b J A c p [i6 l] (fun _=>k7) (J6 J.bucket J.budget n l p):=by
 intro m w hm hargs hpre;have SP:=Hc l hl.u;have hpar:=hl.par;simp only[i6]at SP;obtain⟨up,hup⟩:=eqv (Q5 l);rw[<-hup]at SP hpar;obtain⟨ue,hue⟩:=eqv (R4 l);rw[<-hue]at SP;refine enX 46 hm hpre hargs Tryz.func228 fun B O a0 Z=>?_
 refine a6 [0,3] [0,3] Z fun X0 Z=>?_
 have O1:=SP;refine i9 [0,3,4,5] [0,3,4] [(1,.r fun _=>.tup [.agg [.int .i64 up.len,.int .u64 up.bits],.int .i64 ue])] Z fun X1 Z=>?_
 refine a7 (a6 [14,0,3,4] [0,3,4] Z fun X2 Z=>?_);apply b7 Z rfl<;>intro hb Z
 .have t0:¬ue=0:=by subst O;simpa[std,d4]using hb
  exact i8 ((rmm O a8 Z (v:=()) (q:=p) A c (by simp[J6,<-hup,<-hue,Rs.bind,t0])).1)
 have t0:ue=0:=by subst O;simpa[std,d4]using hb
 refine f8 (j1 (l3 (ι:=Nat×Pst×Option Addr×Nat) (fun q=>[]) (fun q=>[(0,⟨b,139,G1 J q.2.2.1 q.2.2.2 q.2.1⟩)]) (fun q=>[]) (fun q=>dy J.bucket J.budget n l up p=dy J.bucket J.budget q.1 l up q.2.1/\j3 q.2.1/\q.2.1.n<=1000000/\q.2.1.n<q.1/\q.1<=n) (fun q=>q.1) (n,p,A,c) ⟨rfl,hp,hn,hf,Nat.le_refl _⟩ Z ?_))
 rintro⟨nn,p0,A0,c0⟩ ⟨hrun,hp0,hn0,hf0,hnn⟩ _ _ Z
 try dsimp only at hrun
 try dsimp only at hp0
 try dsimp only at hn0
 try dsimp only at hf0
 try dsimp only at hnn
 obtain⟨n2,rfl⟩:∃n2,nn=n2+1:=⟨nn-1,by omega⟩
 refine j1 (a7 ?_)
 rcases(aH 0 b J hJ A0 c0 p0 hp0 hn0 l).two (k8 _ _ _) hp0 hn0 with⟨w3,p3,hm3,O1⟩|⟨g3,p3,hm3,hs3,hp3,hn3,S3⟩
 .refine stp 2 O a8 [15,16] [0] [] Z O1 fun _ _ _ _ Z hk=>?_
  exact thm (P:=Tryz.prog) (fn:=Tryz.f228) (q:=p3) Z hk (by simp[J6,<-hup,<-hue,Rs.bind,t0,hrun,A8,hm3])
 have hl3:=B7 hm3;have hg3:=hp0.get hm3;have O1:=S3;refine f7 [0,3,4,6] [0,3,4,6] [(2,rc J (B2 g3) p3)] Z fun X3 Z=>?_
 obtain⟨q4,hq4⟩:=eqv (gk g3 5);refine a7 (a7 ?_);refine f7 [21,0,3,4,6] [0,3,4,6] [(2,.r fun _=>.bool (.v q4))] Z (hob:=by intro X;subst O;simp only[i7,Ob.holds,BE.den]<;>and_intros<;>repeat first|trivial|rfl|exact(by rw[hq4];exact I2 g3 _ _ 5 _ rfl)|exact by rw[hq4];exact I2 g3 _ _ 5 _ rfl|exact(fun _ _=>by kernel_rfl)|refine⟨?_,?_⟩|intro h|exact Int.le_refl _|decide|omega) fun X4 Z=>?_
 apply b7 Z rfl<;>intro hb Z
 .have tq4:gk g3 5=false:=by subst O;rw[<-hq4];revert hb;cases q4<;>simp[std]
  exact i8 ((rmm O a8 Z (v:=()) (q:=p3) ((X3 2).A 0) ((X3 2).c 0) (by simp[J6,<-hup,<-hue,Rs.bind,t0,hrun,A8,hm3,tq4])).1)
 have tq4:gk g3 5=true:=by subst O;rw[<-hq4];revert hb;cases q4<;>simp[std]
 refine f8 (a7 ?_)
 rcases(aH 0 b J hJ ((X3 2).A 0) ((X3 2).c 0) p3 hp3 hn3 up).two (k8 _ _ _) hp3 hn3 with⟨w5,p5,hm5,O1⟩|⟨g5,p5,hm5,hs5,hp5,hn5,S5⟩
 .refine stp 2 O a8 [22,23] [0] [] Z O1 fun _ _ _ _ Z hk=>?_
  exact thm (P:=Tryz.prog) (fn:=Tryz.f228) (q:=p5) Z hk (by simp[J6,<-hup,<-hue,Rs.bind,t0,hrun,A8,hm3,tq4,hm5])
 have hl5:=B7 hm5;have hg5:=hp3.get hm5;have O1:=S5;refine f7 [0,3,4,6,7] [0,3,4,6,7] [(2,rc J (B2 g5) p5)] Z fun X5 Z=>?_
 obtain⟨q6,hq6⟩:=eqv ((gk g5 3||gk g5 4));refine a7 (a7 ?_);refine f7 [27,0,3,4,6,7] [0,3,4,6,7,26] [(2,.r fun _=>.bool (.v q6))] Z (hob:=by intro X;subst O;simp only[i7,Ob.holds,BE.den]<;>and_intros<;>repeat first|trivial|rfl|exact(by rw[hq6];exact cB g5 _ _ 3 4 _ rfl rfl)|exact by rw[hq6];exact cB g5 _ _ 3 4 _ rfl rfl|exact(fun _ _=>by kernel_rfl)|refine⟨?_,?_⟩|intro h|exact Int.le_refl _|decide|omega) fun X6 Z=>?_
 apply b7 Z rfl<;>intro hb Z
 .have tq6:(gk g5 3||gk g5 4)=true:=by rw[<-hq6];exact hb
  rcases(hfin n2 (by omega) 0 b J hJ ((X5 2).A 0) ((X5 2).c 0) p5 hp5 hn5 up hpar g5 hg5 (by have:=hl3;have:=hl5;omega)).two (R8 _ _ _ _ _ _) hp5 hn5 with⟨w7,p7,hm7,O1⟩|⟨v7,p7,hm7,hs7,hp7,hn7,S7⟩
  .refine stp 3 O a8 [28,29,30] [0] [] Z O1 fun _ _ _ _ Z hk=>?_
   exact thm (P:=Tryz.prog) (fn:=Tryz.f228) (q:=p7) Z hk (by simp[J6,<-hup,<-hue,Rs.bind,t0,hrun,A8,hm3,tq4,hm5,tq6,hm7])
  have O1:=S7;refine f7 [0,3,4,6,7] [0,3,4,6,7] [(3,rc J (k7) p7)] Z fun X7 Z=>?_
  refine a7 ?_
  rcases Bool.eq_false_or_eq_true (gk g5 2)with t8|t8
  .rcases (jm 0 b J hJ ((X7 3).A 0) ((X7 3).c 0) p7 hp7 hn7 l g3.ver (asR 1 g3.x 0)).two (A5 _ _ _ _ _) hp7 hn7 with⟨w8,p8,hm8,O1⟩|⟨d8,p8,hm8,hs8,hp8,hn8,S8⟩
   .refine lK 12 O a8 [36,37,38,40,43] [0] [(2,.r fun _=>.bool .tt),(11,.r fun _=>J7 (asR 1 g3.x 0))] Z O1 (hob:=by intro X;subst O;simp only[i7,Ob.holds,BE.den]<;>and_intros<;>repeat first|trivial|rfl|exact((I2 g5 _ _ 2 _ rfl).res fun _=>Sim.bool (by rw[t8];rfl))|exact uZ 1 g3.x 0|exact(fun _ _=>by kernel_rfl)|refine⟨?_,?_⟩|intro h|exact Int.le_refl _|decide|omega) fun _ _ _ _ Z hk=>?_
    exact thm (P:=Tryz.prog) (fn:=Tryz.f228) (q:=p8) Z hk (by simp[J6,<-hup,<-hue,Rs.bind,t0,hrun,A8,hm3,tq4,hm5,tq6,hm7,t8,hm8])
   refine drg O a8 [45,0,3,4] [0,3,4] [(2,.r fun _=>.bool .tt),(11,.r fun _=>J7 (asR 1 g3.x 0)),(12,rc J (.bool (.v d8)) p8)] Z (hob:=by intro X;subst O;simp only[i7,Ob.holds,BE.den]<;>and_intros<;>repeat first|trivial|rfl|exact((I2 g5 _ _ 2 _ rfl).res fun _=>Sim.bool (by rw[t8];rfl))|exact uZ 1 g3.x 0|exact S8|exact(fun _ _=>by kernel_rfl)|refine⟨?_,?_⟩|intro h|exact Int.le_refl _|decide|omega) fun X8 _ _ Z=>?_
   apply b7 Z rfl<;>intro hb Z
   .have t9:d8=true:=by exact hb
    exact i8 ((rmm O a8 Z (v:=()) (q:=p8) ((X8 12).A 0) ((X8 12).c 0) (by simp[J6,<-hup,<-hue,Rs.bind,t0,hrun,A8,hm3,tq4,hm5,tq6,hm7,t8,hm8,t9])).1)
   have t9:d8=false:=by exact hb
   replace Z:=Z.keep [0,3,4] [0,3,4];exact f8 (⟨(n2,p8,_,_),⟨by rw[hrun];simp[A8,Rs.bind,t0,hrun,A8,hm3,tq4,hm5,tq6,hm7,t8,hm8,t9],hp8,hn8,by dsimp only;have:=hl3;have:=hs5.le;have:=hs7.le;have:=hs8.le;have:=hf0;omega,by dsimp only;omega⟩,by simp only;omega,Z⟩)
  refine drg O a8 [45,0,3,4] [0,3,4] [(2,.r fun _=>.bool .ff)] Z (hob:=by intro X;subst O;simp only[i7,Ob.holds,BE.den]<;>and_intros<;>repeat first|trivial|rfl|exact((I2 g5 _ _ 2 _ rfl).res fun _=>Sim.bool (by rw[t8];rfl))|exact uZ 1 g3.x 0|exact(fun _ _=>by kernel_rfl)|refine⟨?_,?_⟩|intro h|exact Int.le_refl _|decide|omega) fun X8 _ _ Z=>?_
  refine l7 Z rfl (fun Z=>?_);exact i8 ((rmm O a8 Z (v:=()) (q:=p7) ((X7 3).A 0) ((X7 3).c 0) (by simp[J6,<-hup,<-hue,Rs.bind,t0,hrun,A8,hm3,tq4,hm5,tq6,hm7,t8])).1)
 have tq6:(gk g5 3||gk g5 4)=false:=by rw[<-hq6];exact hb
 refine f8 (a7 ?_)
 rcases Bool.eq_false_or_eq_true (gk g5 2)with t8|t8
 .rcases (jm 0 b J hJ ((X5 2).A 0) ((X5 2).c 0) p5 hp5 hn5 l g3.ver (asR 1 g3.x 0)).two (A5 _ _ _ _ _) hp5 hn5 with⟨w8,p8,hm8,O1⟩|⟨d8,p8,hm8,hs8,hp8,hn8,S8⟩
  .refine lK 12 O a8 [36,37,38,40,43] [0] [(2,.r fun _=>.bool .tt),(11,.r fun _=>J7 (asR 1 g3.x 0))] Z O1 (hob:=by intro X;subst O;simp only[i7,Ob.holds,BE.den]<;>and_intros<;>repeat first|trivial|rfl|exact((I2 g5 _ _ 2 _ rfl).res fun _=>Sim.bool (by rw[t8];rfl))|exact uZ 1 g3.x 0|exact(fun _ _=>by kernel_rfl)|refine⟨?_,?_⟩|intro h|exact Int.le_refl _|decide|omega) fun _ _ _ _ Z hk=>?_
   exact thm (P:=Tryz.prog) (fn:=Tryz.f228) (q:=p8) Z hk (by simp[J6,<-hup,<-hue,Rs.bind,t0,hrun,A8,hm3,tq4,hm5,tq6,t8,hm8])
  refine drg O a8 [45,0,3,4] [0,3,4] [(2,.r fun _=>.bool .tt),(11,.r fun _=>J7 (asR 1 g3.x 0)),(12,rc J (.bool (.v d8)) p8)] Z (hob:=by intro X;subst O;simp only[i7,Ob.holds,BE.den]<;>and_intros<;>repeat first|trivial|rfl|exact((I2 g5 _ _ 2 _ rfl).res fun _=>Sim.bool (by rw[t8];rfl))|exact uZ 1 g3.x 0|exact S8|exact(fun _ _=>by kernel_rfl)|refine⟨?_,?_⟩|intro h|exact Int.le_refl _|decide|omega) fun X8 _ _ Z=>?_
  apply b7 Z rfl<;>intro hb Z
  .have t9:d8=true:=by exact hb
   exact i8 ((rmm O a8 Z (v:=()) (q:=p8) ((X8 12).A 0) ((X8 12).c 0) (by simp[J6,<-hup,<-hue,Rs.bind,t0,hrun,A8,hm3,tq4,hm5,tq6,t8,hm8,t9])).1)
  have t9:d8=false:=by exact hb
  replace Z:=Z.keep [0,3,4] [0,3,4];exact f8 (⟨(n2,p8,_,_),⟨by rw[hrun];simp[A8,Rs.bind,t0,hrun,A8,hm3,tq4,hm5,tq6,t8,hm8,t9],hp8,hn8,by dsimp only;have:=hl3;have:=hs5.le;have:=(Suf.refl p5).le;have:=hs8.le;have:=hf0;omega,by dsimp only;omega⟩,by simp only;omega,Z⟩)
 refine drg O a8 [45,0,3,4] [0,3,4] [(2,.r fun _=>.bool .ff)] Z (hob:=by intro X;subst O;simp only[i7,Ob.holds,BE.den]<;>and_intros<;>repeat first|trivial|rfl|exact((I2 g5 _ _ 2 _ rfl).res fun _=>Sim.bool (by rw[t8];rfl))|exact uZ 1 g3.x 0|exact(fun _ _=>by kernel_rfl)|refine⟨?_,?_⟩|intro h|exact Int.le_refl _|decide|omega) fun X8 _ _ Z=>?_
 refine l7 Z rfl (fun Z=>?_);exact i8 ((rmm O a8 Z (v:=()) (q:=p5) ((X5 2).A 0) ((X5 2).c 0) (by simp[J6,<-hup,<-hue,Rs.bind,t0,hrun,A8,hm3,tq4,hm5,tq6,t8])).1)
theorem Lv(k0 b:Nat)(J:j4)(hJ:l6 J)(A:Option Addr)(c:Nat)(p:Pst)(hp:j3 p)(hn:p.n<=1000000)(l:Lab)(hl:LOk l)(n:Nat)(hfin:∀j,j<n->Gs j)(hf:p.n<n):B3 228 k0 b J A c p [i6 l] (fun _=>k7) (J6 J.bucket J.budget n l p):=B3.re (HR b J hJ A c p hp hn l hl n hfin hf) (by repeat(first|exact trivial|refine⟨zr,?_⟩))
theorem zB:∀n,ThC n/\Gs n:=by
 intro n
 induction n using Nat.strongRecOn with
 |_ n ih=>
  have h1:ThC n:=fun k0 b J hJ A c p hp hn l hl hf=>Lv k0 b J hJ A c p hp hn l hl n (fun j hj=>(ih j hj).2) hf
  exact⟨h1,fun k0 b J hJ A c p hp hn l hl g hg hf=>Ml k0 b J hJ A c p hp hn l hl g hg n h1 hf⟩
theorem GY(n:Nat):ThC n:=(zB n).1
theorem Hr(n:Nat):Gs n:=(zB n).2
end Go.Proofs.YtmbkanpapkhnaaaGreat.Sym
namespace Go.Proofs.YtmbkanpapkhnaaaGreat.Sym
open Go.RowKit
theorem Sim.of_eq{v v':AV}(h:v=v'):Sim v v':=h ▸ Sim.refl v
inductive Rcv:FrameMode->FrameMode->AV->Prop
 |no:Rcv .returning .returning .nili
 |yes (t:Nat) (v:AV):Rcv (.panicking [{ v:=.iface t v.den,recovered:=false }]) (.panicking [{ v:=.iface t v.den,recovered:=true }]) (.ifc t v)
def tA(P:Program)(f:FuncId)(u u':FrameMode)(x:AV)(args:List AV)(pre:List (Nat×Blk))(res:j8->CR):Prop:=
 ∀(m:Nat->Nat->Prop) (w:World),(∀b o,m b o->b<w.heap.size)->(∀v∈args,Ok m w v)->R1 m w pre->Ok m w x->CallsD P f (args.map AV.den).toArray u w fun e um w'=>um=u'/\Z9 m w pre res e w'
section
variable {P:Program}
theorem bH{fn:Func}{c₀:Frame}{cs:List Frame}{U:FrameMode}{R:Ending->World->Prop}{e:Exit}{a:Act}{w:World}(h:bodyPost P fn R e a w):bodyPostS P fn c₀ cs (fun e u w=>u=U/\R e w) e a ({ c₀ with mode:=U }::cs) w:=by
 cases e with
 |normal=>obtain⟨h1,v,h2,h3⟩:=h;exact⟨h1,U,rfl,v,h2,rfl,h3⟩
 |ret=>obtain⟨h1,v,h2,h3⟩:=h;exact⟨h1,U,rfl,v,h2,rfl,h3⟩
 |panic ch=>obtain⟨h1,h2⟩:=h;exact⟨h1,U,rfl,rfl,h2⟩
 |outgrown=>exact⟨U,rfl,h⟩
 |exit id=>exact h.elim
 |goto l=>exact h.elim
theorem jc{u u':FrameMode}{x:AV}(hr:Rcv u u' x){m:Nat->Nat->Prop}{w:World}{pre:List (Nat×Blk)}(hm:∀b o,m b o->b<w.heap.size)(hp:R1 m w pre){args:List AV}(hargs:∀v∈args,Ok m w v)(hx:Ok m w x){f:FuncId}{fn:Func}{id:Nat}{o:Oper}{rest after:Code}{ts:Array TypeId}{d:Nat}{R:Ending->World->Prop}
  (hf:P.funcs[f]? = some fn) {ops:Array Oper} (hbd:fn.body=some (.seq (.seq (.region id ops false) rest) after)) (hops:ops = #[o]) (ho:o.op = .call (Call.mk (.builtin .recover) #[] ts)) (hg:o.guard=none) (hd:o.dst=some d) (hn:args.length<=fn.ntmps) (hdn:d<fn.ntmps)
  (h:∀a,i5 ⟨m,w,ats pre,[],noK⟩ (St.put ⟨fn.ntmps,C8 0 args,[],pre,[]⟩ (some d) x) a w->rest.wp P (Exit.then (after.wp P (bodyPost P fn R)) (bodyPost P fn R)) a w):CallsD P f (args.map AV.den).toArray u w fun e um w'=>um=u'/\R e w':=by
 subst hops;refine callsD_of_wpS hf hbd fun c₀ cs hu=>?_
 apply wpS_seq;apply wpS_seq;apply wpS_region;have h0:=de hm hp hargs hn;have mono:Ok (St.m ⟨fn.ntmps,C8 0 args,[],pre,[]⟩ ⟨m,w,ats pre,[],noK⟩) w x:=hx.mono fun b' o u h1 h2=>⟨h1,fun h=>by
  rcases h with h|⟨k,e,he,hat⟩|⟨k,e,he,_⟩
  .exact h2 h
  .exact h2 (hat ▸ hp.free _ (I9 he) o)
  cases he⟩
 have h1:=h0.put (some d) (fun t ht=>by injection ht with ht;subst ht;exact hdn) x (fun _=>mono) x.den (fun _=>rfl);have h2:=h _ h1;have hrun:∀a:Act,(execOp a.eval o).run P w = .ok .recover w:=by
  intro a;simp[execOp,ho,resolve,invoke,builtin]
 have hrg:List.range (#[o]:Array Oper).size=[0]:=rfl;rw[hrg];have hw:∀tm:Array Value,Region.wanted o (yielded #[o] tm)=true:=by intro tm;simp[Region.wanted,hg]
 have fin1:∀a w,after.wp P (bodyPost P fn R) a w->after.wpS P (bodyPostS P fn c₀ cs (fun e um w'=>um=u'/\R e w')) a ({ c₀ with mode:=u' }::cs) w:=fun a w ha=>wpS_of_wp (Code.wp_mono (fun e a w hb=>bH hb) ha)
 have fin:∀a,rest.wp P (Exit.then (after.wp P (bodyPost P fn R)) (bodyPost P fn R)) a w->rest.wpS P (Exit.thenS (after.wpS P (bodyPostS P fn c₀ cs (fun e um w'=>um=u'/\R e w'))) (bodyPostS P fn c₀ cs (fun e um w'=>um=u'/\R e w'))) a ({ c₀ with mode:=u' }::cs) w:=fun a ha=>wpS_of_wp (Code.wp_mono (fun e a w hb=>by
  cases e with
  |normal=>exact fin1 a w hb
  |ret=>exact bH (P:=P) (fn:=fn) (c₀:=c₀) (cs:=cs) (a:=a) (w:=w) (U:=u') (R:=R) (e:=.ret) hb
  |panic ch=>exact bH (P:=P) (fn:=fn) (c₀:=c₀) (cs:=cs) (a:=a) (w:=w) (U:=u') (R:=R) (e:=.panic ch) hb
  |outgrown=>exact bH (P:=P) (fn:=fn) (c₀:=c₀) (cs:=cs) (a:=a) (w:=w) (U:=u') (R:=R) (e:=.outgrown) hb
  |exit id=>exact bH (P:=P) (fn:=fn) (c₀:=c₀) (cs:=cs) (a:=a) (w:=w) (U:=u') (R:=R) (e:=.exit id) hb
  |goto l=>exact bH (P:=P) (fn:=fn) (c₀:=c₀) (cs:=cs) (a:=a) (w:=w) (U:=u') (R:=R) (e:=.goto l) hb) ha)
 have hsz:(args.map AV.den).toArray.size=args.length:=by simp
 have hact:({ tmps:=(args.map AV.den).toArray++Array.replicate (fn.ntmps-(args.map AV.den).toArray.size) undef,defers:=[] }:Act) = { tmps:=(args.map AV.den).toArray++Array.replicate (fn.ntmps-args.length) undef,defers:=[] }:=by rw[hsz]
 rw[hact]
 cases hr with
 |no=>
  have hrec:recoverD (c₀::cs)=none:=by simp[recoverD,hu]
  have hc:({ c₀ with mode:=.returning }:Frame)=c₀:=by rw[<-hu]
  have:=fin _ h2;rw[hc]at this
  simpa[wpOpsS,hw,hrun,hrec,hd,Exit.thenS,AV.den]using this
 |yes t v=>
  have hrec:recoverD (c₀::cs)=some (.iface t v.den,{ c₀ with mode:=.panicking [{ v:=.iface t v.den,recovered:=true }] }::cs):=by simp[recoverD,hu]
  have:=fin _ h2
  simpa[wpOpsS,hw,hrun,hrec,hd,Exit.thenS,AV.den]using this
variable {C:Cx}
theorem li{s:St}{a:Act}{w:World}{fn:Func}{R:Ending->World->Prop}{u u1:FrameMode}{f:FuncId}{l r:List AV}{ds:List Deferred}{x:AV}(h:i5 ⟨C.m0,C.w0,C.S,{ target:=.fn (.func f) (AV.denL r).toArray,args:=(AV.denL l).toArray }::ds,C.K⟩ s a w)(hu:u ≠ .run)(hen:l8 P f)
  {pre:List (Nat×Blk)} {sets:List (Nat×List AV)} {v:AV} (hsp:tA P f u u1 x (l++r) pre (fun _=>⟨v,sets,[]⟩)) (hok:∀v∈l++r,Ok (s.m C) w v) (hx:Ok (s.m C) w x) (hpre:∀e∈pre,j7 s.mem e.1=some e.2) (hnd:dE pre=true)
  (K:∀w',i5 ⟨C.m0,C.w0,C.S,ds,C.K⟩ (s.eff (.sets (upd pre sets))) { tmps:=a.tmps,defers:=ds } w'->Leaves P fn a.tmps R ds (settle u1) w'):Leaves P fn a.tmps R a.defers u w:=by
 have hlt:∀b o,s.m C b o->b<w.heap.size:=qm (C:=⟨C.m0,C.w0,C.S,{ target:=.fn (.func f) (AV.denL r).toArray,args:=(AV.denL l).toArray }::ds,C.K⟩) h
 refine ut h hu hen hpre hnd (fun hp=>(hsp (s.m C) w hlt hok hp hx).mono ?_) K
 rintro e u' w' ⟨rfl,x,rfl,_,hl⟩
 exact⟨⟨_,rfl⟩,rfl,hl⟩
end
section
variable {C:Cx} {P:Program} {Q:Exit->Act->World->Prop} {ops:Array Oper}
theorem kg{s:St}{a:Act}{w:World}{L rest:List Oper}{o:Oper}{x:Operand}{ti t d:Nat}{v:AV}{dd:TypeDesc}(hL:L=o::rest)(hg:o.guard=none)(hop:o.op = .typeAssert x ti t true)(hdst:o.dst=some d)(h:i5 C s a w)(hd:d<s.nt)(hx:val s [] x = .ifc t v)(hu:P.underlying t=some dd)(hni:∀ms,dd ≠ .interface ms)
  (K:∀a',i5 C (s.put (some d) (.tup [v,.bool .tt])) a' w->wpList P ops Q rest a' w):wpList P ops Q L a w:=by
 have hxv:=E6 h (q:=[]) (fun _ h=>by cases h) (x:=x) (by rw[hx];rfl);rw[hx]at hxv;have hok:Ok (s.m C) w v:=by cases hxv.2 with|ifc _ _ h=>exact h
 refine iI hL hg hdst h hd (v:=.tup [v,.bool .tt]) ?_ (.tup _ (fun y hy=>?_)) K
 .have e:a.eval x = .iface t v.den:=hxv.1
  simp only[execOp,hop,e,AV.den,AV.denL,BE.den]
  cases dd<;>first|exact absurd rfl (hni _)|simp[Instr.typeAssert,run_underlying hu]
 simp only[List.mem_cons,List.not_mem_nil,or_false]at hy
 rcases hy with rfl|rfl
 .exact hok
 exact .bool _
end
end Go.Proofs.YtmbkanpapkhnaaaGreat.Sym
namespace Go.Proofs.YtmbkanpapkhnaaaGreat.Sym
open Go Go.RowKit
def btw(v lo hi:Int):Bool:=decide (lo<=v)&&decide (v<=hi)
def F8(J:j4):Bool:=btw J.bucket 1 16&&btw J.budget 0 2000&&btw J.how 1 2&&btw J.most 0 500&&decide ((J.pn:Int)<=500)&&isL J.lab
def F4(g:s9):Bool:=(decide (g.code=0)||decide (g.code=8))&&(if g.has=true then R6 g.x.r.kd g.x.r.n g.x.r.f g.x.r.nx g.x.r.mrk else decide (g.x.r.kd=0)&&decide (g.x.r.n=0)&&decide (g.x.r.nx=⟨0,0⟩)&&decide (g.x.r.mrk=0))
def J9(n:Nat)(f:Nat->s9):Bool:=(List.range n).all fun j=>F4 (f j)
theorem pi{n j:Nat}{f:Nat->s9}(hj:j<n)(h:F4 (f j)=false):J9 n f=false:=by
 rw[Bool.eq_false_iff];intro h2;have:=List.all_eq_true.1 h2 j (List.mem_range.2 hj);rw[h]at this;cases this
theorem gW{n:Nat}{f:Nat->s9}(h:∀j,j<n->F4 (f j)=true):J9 n f=true:=List.all_eq_true.2 fun j hj=>h j (List.mem_range.1 hj)
theorem pj{n j:Nat}{f:Nat->s9}(h:J9 n f=true)(hj:j<n):F4 (f j)=true:=List.all_eq_true.1 h j (List.mem_range.2 hj)
structure InG(g:s9):Prop where
 nx:U64 g.x.r.nx.bits
 ver:U64 g.ver
 len:g.x.r.n<=maxLen
 key:∀i,i<g.x.r.n->U64 (g.x.r.f i).key
theorem Jh{g:s9}(h:InG g)(hg:F4 g=true):ew g:=by
 refine⟨⟨h.nx,h.key,?_⟩,h.ver⟩;unfold F4 at hg;rw[Bool.and_eq_true]at hg;obtain⟨_,h2⟩:=hg
 by_cases hh:g.has=true
 .rw [if_pos hh]at h2
  exact(bB h2).2.2.1
 rw[if_neg hh]at h2;simp only[Bool.and_eq_true,decide_eq_true_eq]at h2;omega
abbrev ej(A:Option Addr)(n c:Nat)(f:Nat->s9):AV:=.sl none A n c 8 (fun j=>V2 (f j))
def nt0:Nt:=⟨11,false,⟨#[]⟩⟩
def nM(n:Nat)(f:Nat->s9):Pst:=⟨n,f,nt0⟩
def j4.less(J:j4)(n:Nat):j4:={ J with budget:=J.budget-n }
structure eu(J:j4):Prop where
 lab:U64 J.lab.bits
 key:U64 J.key
 hi:U64 J.hi
theorem uu{J:j4}{n:Nat}(hJ:eu J)(h:F8 J=true)(hn:n<=900000):l6 (J.less n):=by
 unfold F8 btw at h;simp only[Bool.and_eq_true,decide_eq_true_eq]at h;refine⟨?_,?_,hJ.lab,hJ.key,hJ.hi⟩
 .show -1000000<=J.budget-n;omega
 show J.budget-n<=1000000;omega
theorem Mg{g:s9}(hg:F4 g=true):zk g:=by
 unfold F4 at hg;simp only[Bool.and_eq_true,Bool.or_eq_true,decide_eq_true_eq]at hg;obtain⟨h1,h2⟩:=hg;refine⟨h1,fun hh=>?_,fun hh=>?_⟩
 .rw [if_pos hh]at h2;exact h2
 rw[if_neg (by rw[hh];decide)]at h2;simp only[Bool.and_eq_true,decide_eq_true_eq]at h2;exact⟨h2.1.1.1,h2.1.1.2,h2.1.2,h2.2⟩
theorem tX{n:Nat}{f:Nat->s9}(hin:∀j,j<n->InG (f j))(h:J9 n f=true):j3 (nM n f):=fun j hj=>⟨Jh (hin j hj) (pj h hj),Mg (pj h hj)⟩
abbrev tP(x:j8)(r:Rsl):AV:=.agg [.int .i64 r.code,.bool (.v r.had),.str r.val,.sl none (x.A 2) r.items.length (x.c 2) 2 (fun i=>itC (itF r.items i)),.int .u64 r.key,.bool (.v r.more)]
abbrev LD(r:Rsl):AV:=.agg [.int .i64 r.code,.bool (.v r.had),.str r.val,.sl none none 0 0 2 (fun _=>[]),.int .u64 r.key,.bool (.v r.more)]
def nH(f:FuncId)(k0 b:Nat)(J:j4)(A:Option Addr)(c:Nat)(p:Pst)(args:List AV)(r:Rs Rsl):Prop:=
 U5 Tryz.prog f (.ptr k0 b 0::args) [(k0,⟨b,139,G1 J A c p⟩)] (fun x=>match r with
  | .ok a p=>.ret ⟨tP x a,[(k0,G1 J (x.A 0) (x.c 0) p)],[]⟩
  | .stop w p=>.thr 40 (E5 (wqA x w)) [(k0,G1 J (x.A 0) (x.c 0) p)])
theorem B3.a{f:FuncId}{k0 b:Nat}{J:j4}{A:Option Addr}{c:Nat}{p:Pst}{args:List AV}{r:Rs Rsl}(h:B3 f k0 b J A c p args LD r)(hr:∀a q,r = .ok a q->a.items=[]):nH f k0 b J A c p args r:=by
 intro m w h1 h2 h3;refine(h m w h1 h2 h3).mono ?_
 rintro e w' ⟨x,hx⟩
 cases r with
 |stop wq q=>exact⟨x,hx⟩
 |ok a q=>
  refine⟨⟨x.b,fun i=>if i=2 then none else x.A i,fun i=>if i=2 then 0 else x.c i,x.s⟩,?_⟩;have hi:=hr a q rfl;obtain⟨he,hok,hl⟩:=hx;have hs:Sim (LD a) (tP ⟨x.b,fun i=>if i=2 then none else x.A i,fun i=>if i=2 then 0 else x.c i,x.s⟩ a):=by
   obtain⟨c1,h1,v1,it,k1,m1⟩:=a;simp only at hi;subst hi;exact Sim.agg ⟨zr,zr,zr,zq0,zr,zr,trivial⟩
  exact⟨by rw[he];exact congrArg _ hs.1,hs.2.2 _ _ hok,hl⟩
theorem nH.ok{f:FuncId}{k0 b:Nat}{J:j4}{A:Option Addr}{c:Nat}{p q:Pst}{args:List AV}{r:Rs Rsl}{a:Rsl}(h:nH f k0 b J A c p args r)(e:r = .ok a q) :
  U5 Tryz.prog f (.ptr k0 b 0::args) [(k0,⟨b,139,G1 J A c p⟩)] (fun x=>.ret ⟨tP x a,[(k0,G1 J (x.A 0) (x.c 0) q)],[]⟩):=by
 subst e;exact h
theorem nH.stop{f:FuncId}{k0 b:Nat}{J:j4}{A:Option Addr}{c:Nat}{p q:Pst}{args:List AV}{r:Rs Rsl}{w:Wq}(h:nH f k0 b J A c p args r)(e:r = .stop w q) :
  U5 Tryz.prog f (.ptr k0 b 0::args) [(k0,⟨b,139,G1 J A c p⟩)] (fun x=>.thr 40 (E5 (wqA x w)) [(k0,G1 J (x.A 0) (x.c 0) q)]):=by
 subst e;exact h
theorem LY{s s':St}{C C':Cx}(h0:∀b o,C'.m0 b o->C.m0 b o)(h:∀x∈s'.mem,∃k' e',j7 s.mem k'=some e'/\e'.at_=x.2.at_)(hg:s'.gr=[]){b o:Nat}(hh:s'.m C' b o):s.m C b o:=by
 rcases hh with hh|⟨k,e,he,hat⟩|⟨k,t,ht,_⟩
 .exact .inl (h0 b o hh)
 .obtain ⟨k',e',h1,h2⟩:=h _ (I9 he)
  exact .inr (.inl ⟨k',e',h1,h2.trans hat⟩)
 rw[hg]at ht;cases ht
theorem nH.ok'{f:FuncId}{k0 b:Nat}{J:j4}{A:Option Addr}{c:Nat}{p q:Pst}{args:List AV}{r:Rs Rsl}{a:Rsl}(h:nH f k0 b J A c p args r)(e:r = .ok a q){nn:Nat}{ff:Nat->Itm}(h1:nn=a.items.length)(h2:ff=itF a.items) :
  U5 Tryz.prog f (.ptr k0 b 0::args) [(k0,⟨b,139,G1 J A c p⟩)] (fun x=>.ret ⟨.agg [.int .i64 a.code,.bool (.v a.had),.str a.val,.sl none (x.A 2) nn (x.c 2) 2 (fun i=>itC (ff i)),.int .u64 a.key,.bool (.v a.more)],[(k0,G1 J (x.A 0) (x.c 0) q)],[]⟩):=by
 subst h1;subst h2;exact h.ok e
def fX(ok:Bool)(r:Rs Rsl):Wq×Int:=if ok=true then J1 r else(zWq,1)
abbrev wqB(x:j8)(w:Wq)(rr:RN)(nn:Nat)(ff:Nat->Itm):B0:=⟨w.kind,w.lab,w.ver,⟨x.A 1,x.c 1,rr⟩,⟨w.res.code,w.res.had,w.res.val,x.A 2,nn,x.c 2,ff,w.res.key,w.res.more⟩⟩
theorem k9.wq{P:Program}{f:Nat}{args:List AV}{r:Wq×Int}(h:k9 P f args (fun x=>.tup [E5 (wqA x r.1),.int .i64 r.2])){w:Wq}{e:Int}{rr:RN}{nn:Nat}{ff:Nat->Itm}(h1:w=r.1)(h2:e=r.2)(h3:rr=w.r.rn)(h4:nn=w.res.items.length)(h5:ff=itF w.res.items) :
  k9 P f args (fun x=>.tup [E5 (wqB x w rr nn ff),.int .i64 e]):=by
 subst h1;subst h2;subst h3;subst h4;subst h5;exact h
end Go.Proofs.YtmbkanpapkhnaaaGreat.Sym
namespace Go.Proofs.YtmbkanpapkhnaaaGreat.Sym
open Go Go.ChangeShapes Go.WideShapes Go.ChangeAt Go.RowKit Go.Deep
def OkL(w:World)(l:List AV):Prop:=∀v∈l,v.one=true/\Ok m0 w v
theorem OkL.nil{w:World}:OkL w []:=fun v hv=>by cases hv
theorem OkL.cons{w:World}{v:AV}{l:List AV}(h1:v.one=true)(h2:Ok m0 w v)(h:OkL w l):OkL w (v::l):=by
 intro u hu
 rcases List.mem_cons.1 hu with rfl|hu
 .exact ⟨h1,h2⟩
 exact h u hu
theorem OkL.int{w:World}{k:IntKind}{x:Int}{l:List AV}(h:OkL w l):OkL w (.int k x::l):=.cons rfl (.int _ _) h
theorem OkL.bool{w:World}{b:BE}{l:List AV}(h:OkL w l):OkL w (.bool b::l):=.cons rfl (.bool _) h
theorem OkL.append{w:World}{l l':List AV}(h:OkL w l)(h':OkL w l'):OkL w (l++l'):=by
 intro u hu
 rcases List.mem_append.1 hu with hu|hu
 .exact h u hu
 exact h' u hu
theorem OkL.agg{w:World}{l:List AV}(h:OkL w l):Ok m0 w (.agg l):=.agg _ (fun v hv=>(h v hv).1) fun v hv=>(h v hv).2
def CM(w:World)(x:D4):Prop:=OkL w (J2 x)/\x.x.r.n<=maxLen/\u0 x.lab/\u0 x.x.r.nx/\U64 x.ver/\∀i,i<x.x.r.n->U64 (x.x.r.f i).key
theorem u0.u64{l:Lab}(h:u0 l):U64 l.bits:=lJ h.2
theorem lY{α : Type} [Inhabited α]{k:Nat}{cells:α->List AV}{w:World}{A:Option Addr}{c:Nat}{l:List α}(hk:∀x,(cells x).length=k)(hl:l.length<=c)(hc:c<=maxLen)(ho:∀x∈l,OkL w (cells x))
  (h:0<(l.flatMap fun x=>(cells x).map AV.den).length->∃b off,A=some ⟨b,off,none⟩/\∀j u,(l.flatMap fun x=>(cells x).map AV.den)[j]? = some u->w.cell? ⟨b,off+j,none⟩=some u) (hk0:0<k):Ok m0 w (.sl none A l.length c k (fun i=>cells (l.getD i default))):=by
 have hg:∀i (hi:i<l.length),l.getD i default=l[i]:=fun i hi=>by simp[List.getD,hi]
 have hkm:∀x,((cells x).map AV.den).length=k:=fun x=>by rw[List.length_map,hk]
 have hpos:∀i,i<l.length->0<(l.flatMap fun x=>(cells x).map AV.den).length:=fun i hi=>by rw[I7 hkm];exact Nat.mul_pos (by omega) hk0
 refine .sl _ _ _ _ _ _ hl hc (fun i _=>hk _) (fun i hi=>?_) (fun i hi j u hu=>?_) (fun i hi v hv=>?_) (fun i hi v hv=>?_)
 .obtain ⟨b,off,hA,_⟩:=h (hpos i hi);exact⟨b,off,hA⟩
 .obtain ⟨b,off,hA,hcl⟩:=h (hpos i hi)
  rw[hg i hi]at hu;exact⟨b,off,hA,hcl _ u (iX hkm (List.getElem?_eq_getElem hi) hu),id⟩
 .rw [hg i hi]at hv;exact(ho _ (List.getElem_mem hi) v hv).1
 rw[hg i hi]at hv;exact(ho _ (List.getElem_mem hi) v hv).2
section
variable {H:Type} {enc:TypeId×Value->H} {w:World} {base:Nat} {spare:Nat->Bool} {held:Bool}
theorem ji(n:Nat)(cs:List Value)(y:DataW H×List MemPlace)(h:DataW.trod enc Tryz.prog w base spare held n 24 cs=some y):∃x:Lab,cs=[.int .i64 x.len,.int .u64 x.bits]/\u0 x:=by
 obtain⟨xs,m,rfl,rfl,hlen,hxl,hf⟩:=DataW.trod_struct Tryz.underlying24 h;have hC:Tryz.prog.cellsOf 24=2:=by kernel_rfl
 have h0:DataW.trod enc Tryz.prog w base spare held m 3 ((cs.drop 0).take (Tryz.prog.cellsOf 3))=xs[0]?:=hf 0 _ rfl;have h1:DataW.trod enc Tryz.prog w base spare held m 22 ((cs.drop 1).take (Tryz.prog.cellsOf 22))=xs[1]?:=hf 1 _ rfl;rw[hC]at hlen;rw[show Tryz.prog.cellsOf 3=1 by kernel_rfl]at h0;rw[show Tryz.prog.cellsOf 22=1 by kernel_rfl]at h1
 match cs,hlen with
 | [c0,c1],_=>
  match xs,hxl with
  | [y0,y1],_=>
   obtain⟨a,e0,_,wa⟩:=DataW.trod_int Tryz.underlying3 h0;obtain⟨b,e1,_,wb⟩:=DataW.trod_int Tryz.underlying22 h1;simp at e0 e1;subst e0;subst e1;exact⟨⟨a,b⟩,rfl,wa,wb⟩
theorem wG(n:Nat)(cs:List Value)(y:DataW H×List MemPlace)(h:DataW.trod enc Tryz.prog w base spare held n 33 cs=some y):∃(A:Option Addr) (c k:Nat) (f:Nat->Itm),cs=[(AV.sl none A k c 2 (fun i=>itC (f i))).den]/\Ok m0 w (.sl none A k c 2 (fun i=>itC (f i)))/\k<=maxLen/\∀i,i<k->U64 (f i).key:=by
 obtain⟨A,c,l,e1,hr,hl,hm,hwf⟩:=fx (en:=itmE) Tryz.underlying33 (k:=2) (by kernel_rfl) M6 (by decide) Fx h;have hrow:Ok m0 w (s4 A l.length c (itF l)):=kY hl hm (fun x hx=>(hwf x hx).1) fun hp=>by
  obtain⟨b,off,hA,_,hc⟩:=hr hp;exact⟨b,off,hA,fun j u hu=>⟨hc j u hu,id⟩⟩
 exact⟨A,c,l.length,itF l,e1,hrow,by omega,fun i hi=>by simp only[itF,List.getD,List.getElem?_eq_getElem hi];exact(hwf _ (List.getElem_mem hi)).2⟩
theorem sU(n:Nat)(cs:List Value)(y:DataW H×List MemPlace)(h:DataW.trod enc Tryz.prog w base spare held n 35 cs=some y):∃x:RA,cs=(nL x).map AV.den/\OkL w (nL x)/\x.r.n<=maxLen/\u0 x.r.nx/\∀i,i<x.r.n->U64 (x.r.f i).key:=by
 obtain⟨xs,m,rfl,rfl,hlen,hxl,hf⟩:=DataW.trod_struct Tryz.underlying35 h;have hC:Tryz.prog.cellsOf 35=5:=by kernel_rfl
 have h0:DataW.trod enc Tryz.prog w base spare held m 3 ((cs.drop 0).take (Tryz.prog.cellsOf 3))=xs[0]?:=hf 0 _ rfl;have h1:DataW.trod enc Tryz.prog w base spare held m 33 ((cs.drop 1).take (Tryz.prog.cellsOf 33))=xs[1]?:=hf 1 _ rfl;have h2:DataW.trod enc Tryz.prog w base spare held m 24 ((cs.drop 2).take (Tryz.prog.cellsOf 24))=xs[2]?:=hf 2 _ rfl;have h3:DataW.trod enc Tryz.prog w base spare held m 22 ((cs.drop 4).take (Tryz.prog.cellsOf 22))=xs[3]?:=hf 3 _ rfl;rw[hC]at hlen;rw[show Tryz.prog.cellsOf 3=1 by kernel_rfl]at h0;rw[show Tryz.prog.cellsOf 33=1 by kernel_rfl]at h1;rw[show Tryz.prog.cellsOf 24=2 by kernel_rfl]at h2;rw[show Tryz.prog.cellsOf 22=1 by kernel_rfl]at h3
 match cs,hlen with
 | [c0,c1,c2,c3,c4],_=>
  match xs,hxl with
  | [y0,y1,y2,y3],_=>
   obtain⟨kd,e0,_,_⟩:=DataW.trod_int Tryz.underlying3 h0;obtain⟨A,c,k,f,e1,hrow,hk,hky⟩:=wG _ _ _ h1;obtain⟨nx,e2,hb⟩:=ji _ _ _ h2;obtain⟨mk,e3,_,wm⟩:=DataW.trod_int Tryz.underlying22 h3;simp only[List.drop_zero,List.drop_succ_cons,List.take_succ_cons,List.take_zero,List.cons.injEq,and_true]at e0 e1 e2 e3;obtain⟨e2,e4⟩:=e2;subst e0;subst e1;subst e2;subst e3;subst e4;exact⟨⟨A,c,⟨k,f,kd,nx,mk⟩⟩,rfl,.int (.cons rfl hrow (.int (.int (.int .nil)))),hk,hb,hky⟩
theorem Fv(n:Nat)(cs:List Value)(y:DataW H×List MemPlace)(h:DataW.trod enc Tryz.prog w base spare held n 92 cs=some y):∃x:D4,cs=(J2 x).map AV.den/\CM w x:=by
 obtain⟨xs,m,rfl,rfl,hlen,hxl,hf⟩:=DataW.trod_struct Tryz.underlying92 h;have hC:Tryz.prog.cellsOf 92=8:=by kernel_rfl
 have h0:DataW.trod enc Tryz.prog w base spare held m 24 ((cs.drop 0).take (Tryz.prog.cellsOf 24))=xs[0]?:=hf 0 _ rfl;have h1:DataW.trod enc Tryz.prog w base spare held m 22 ((cs.drop 2).take (Tryz.prog.cellsOf 22))=xs[1]?:=hf 1 _ rfl;have h2:DataW.trod enc Tryz.prog w base spare held m 35 ((cs.drop 3).take (Tryz.prog.cellsOf 35))=xs[2]?:=hf 2 _ rfl;rw[hC]at hlen;rw[show Tryz.prog.cellsOf 24=2 by kernel_rfl]at h0;rw[show Tryz.prog.cellsOf 22=1 by kernel_rfl]at h1;rw[show Tryz.prog.cellsOf 35=5 by kernel_rfl]at h2
 match cs,hlen with
 | [c0,c1,c2,c3,c4,c5,c6,c7],_=>
  match xs,hxl with
  | [y0,y1,y2],_=>
   obtain⟨l,e0,hl⟩:=ji _ _ _ h0;obtain⟨v,e1,_,wv⟩:=DataW.trod_int Tryz.underlying22 h1;obtain⟨x,e2,hx,hn,hnx,hky⟩:=sU _ _ _ h2;simp only[List.drop_zero,List.drop_succ_cons,List.take_succ_cons,List.take_zero,List.cons.injEq,and_true,nL,List.map_cons,List.map_nil]at e0 e1 e2;obtain⟨e0,e3⟩:=e0;obtain⟨e4,e5,e6,e7,e8⟩:=e2;subst e0;subst e1;subst e3;subst e4;subst e5;subst e6;subst e7;subst e8;exact⟨⟨l,v,x⟩,rfl,.int (.int (.int hx)),hn,hl,hnx,lJ wv,hky⟩
theorem BX(n:Nat)(cs:List Value)(y:DataW H×List MemPlace)(h:DataW.trod enc Tryz.prog w base spare held n 3 cs=some y):∃x:Int,cs=[Value.int .i64 x]/\True:=by
 obtain⟨a,e0,_,_⟩:=DataW.trod_int Tryz.underlying3 h;exact⟨a,e0,trivial⟩
theorem BW(n:Nat)(cs:List Value)(y:DataW H×List MemPlace)(h:DataW.trod enc Tryz.prog w base spare held n 25 cs=some y):∃(A:Option Addr) (c k:Nat) (f:Nat->Int),cs=[(AV.sl none A k c 1 (fun i=>[.int .i64 (f i)])).den]/\Ok m0 w (.sl none A k c 1 (fun i=>[.int .i64 (f i)])):=by
 obtain⟨A,c,l,e1,hr,hl,hm,hwf⟩:=fx (en:=fun x:Int=>[Value.int .i64 x]) Tryz.underlying25 (k:=1) (by kernel_rfl) (fun _=>rfl) (by decide) BX h;have hrow:Ok m0 w (.sl none A l.length c 1 (fun i=>[.int .i64 (l.getD i default)])):=lY (cells:=fun x:Int=>[AV.int .i64 x]) (fun _=>rfl) hl hm (fun x _=>.int .nil) (fun hp=>by
  obtain⟨b,off,hA,_,hc⟩:=hr hp;exact⟨b,off,hA,fun j u hu=>hc j u hu⟩) (by decide)
 exact⟨A,c,l.length,fun i=>l.getD i default,e1,hrow⟩
variable {r:Reach} {b0:Nat} {v:Value} {d:DataW H} {p:List MemPlace}
def HH(w:World)(v:Value):Prop:=∃(A:Option Addr) (n c:Nat) (f:Nat->D4),v=(cP A n c f).den/\Ok m0 w (cP A n c f)/\n<=maxLen/\∀i,i<n->CM w (f i)
instance inhGot25 : Inhabited s9 := ⟨lD⟩
instance inhRow25 : Inhabited D4 := ⟨zn⟩
theorem EL(hv:Value.okWide Tryz.prog w r b0 46 v)(h:DataW.Trod enc Tryz.prog w base spare held 46 v d p):HH w v:=by
 obtain⟨a,len,cap,rfl⟩:=okWide_slice Tryz.underlying46 hv;obtain⟨fuel,hf⟩:=h;obtain⟨A,c,l,e1,hr,hl,hm,hwf⟩:=fx (en:=fun x=>(J2 x).map AV.den) (wf:=CM w) Tryz.underlying46 (k:=8) (by kernel_rfl) (fun _=>rfl) (by decide) Fv hf;simp only[Value.cells,List.cons.injEq,and_true]at e1;rw[e1];refine⟨A,l.length,c,fun i=>l.getD i default,rfl,lY (fun _=>rfl) hl hm (fun x hx=>(hwf x hx).1) (fun hp=>?_) (by decide),by omega,fun i hi=>?_⟩
 .obtain ⟨b,off,hA,_,hc⟩:=hr hp
  exact⟨b,off,hA,fun j u hu=>hc j u hu⟩
 have:l.getD i default=l[i]:=by simp[List.getD,hi]
 simp only[this];exact hwf _ (List.getElem_mem hi)
end
abbrev zv(A:Option Addr)(n c:Nat)(f:Nat->B0):AV:=.sl none A n c 15 (fun i=>ce (f i))
def CK(w:World)(x:B0):Prop:=OkL w (ce x)/\x.x.r.n<=maxLen/\u0 x.lab/\u0 x.x.r.nx/\∀i,i<x.x.r.n->U64 (x.x.r.f i).key
section
variable {H:Type} {enc:TypeId×Value->H} {w:World} {base:Nat} {spare:Nat->Bool} {held:Bool}
abbrev Iq(s:rq):List AV:=[.int .i64 s.code,.bool (.v s.had),.str s.val,.sl none s.A s.n s.c 2 (fun i=>itC (s.f i)),.int .u64 s.key,.bool (.v s.more)]
theorem Fw(n:Nat)(cs:List Value)(y:DataW H×List MemPlace)(h:DataW.trod enc Tryz.prog w base spare held n 38 cs=some y):∃x:rq,cs=(Iq x).map AV.den/\OkL w (Iq x):=by
 obtain⟨xs,m,rfl,rfl,hlen,hxl,hf⟩:=DataW.trod_struct Tryz.underlying38 h;have hC:Tryz.prog.cellsOf 38=6:=by kernel_rfl
 have h0:DataW.trod enc Tryz.prog w base spare held m 36 ((cs.drop 0).take (Tryz.prog.cellsOf 36))=xs[0]?:=hf 0 _ rfl;have h1:DataW.trod enc Tryz.prog w base spare held m 4 ((cs.drop 1).take (Tryz.prog.cellsOf 4))=xs[1]?:=hf 1 _ rfl;have h2:DataW.trod enc Tryz.prog w base spare held m 9 ((cs.drop 2).take (Tryz.prog.cellsOf 9))=xs[2]?:=hf 2 _ rfl;have h3:DataW.trod enc Tryz.prog w base spare held m 33 ((cs.drop 3).take (Tryz.prog.cellsOf 33))=xs[3]?:=hf 3 _ rfl;have h4:DataW.trod enc Tryz.prog w base spare held m 22 ((cs.drop 4).take (Tryz.prog.cellsOf 22))=xs[4]?:=hf 4 _ rfl;have h5:DataW.trod enc Tryz.prog w base spare held m 4 ((cs.drop 5).take (Tryz.prog.cellsOf 4))=xs[5]?:=hf 5 _ rfl;rw[hC]at hlen;rw[show Tryz.prog.cellsOf 36=1 by kernel_rfl]at h0;rw[show Tryz.prog.cellsOf 4=1 by kernel_rfl]at h1 h5;rw[show Tryz.prog.cellsOf 9=1 by kernel_rfl]at h2;rw[show Tryz.prog.cellsOf 33=1 by kernel_rfl]at h3;rw[show Tryz.prog.cellsOf 22=1 by kernel_rfl]at h4
 match cs,hlen with
 | [c0,c1,c2,c3,c4,c5],_=>
  match xs,hxl with
  | [y0,y1,y2,y3,y4,y5],_=>
   obtain⟨a,e0,_,_⟩:=DataW.trod_int Tryz.underlying36 h0;obtain⟨b,e1,_⟩:=DataW.trod_bool Tryz.underlying4 h1;obtain⟨s,e2,_,ws⟩:=DataW.trod_string Tryz.underlying9 h2;obtain⟨A,c,k,f,e3,hrow,hk,_⟩:=wG _ _ _ h3;obtain⟨kk,e4,_,_⟩:=DataW.trod_int Tryz.underlying22 h4;obtain⟨mo,e5,_⟩:=DataW.trod_bool Tryz.underlying4 h5;simp only[List.drop_zero,List.drop_succ_cons,List.take_succ_cons,List.take_zero,List.cons.injEq,and_true]at e0 e1 e2 e3 e4 e5;subst e0;subst e1;subst e2;subst e3;subst e4;subst e5;exact⟨⟨a,b,s,A,k,c,f,kk,mo⟩,rfl,.int (.bool (.cons rfl (.str _ ws) (.cons rfl hrow (.int (.bool .nil)))))⟩
theorem Fu(n:Nat)(cs:List Value)(y:DataW H×List MemPlace)(h:DataW.trod enc Tryz.prog w base spare held n 40 cs=some y):∃x:B0,cs=(ce x).map AV.den/\CK w x:=by
 obtain⟨xs,m,rfl,rfl,hlen,hxl,hf⟩:=DataW.trod_struct Tryz.underlying40 h;have hC:Tryz.prog.cellsOf 40=15:=by kernel_rfl
 have h0:DataW.trod enc Tryz.prog w base spare held m 3 ((cs.drop 0).take (Tryz.prog.cellsOf 3))=xs[0]?:=hf 0 _ rfl;have h1:DataW.trod enc Tryz.prog w base spare held m 24 ((cs.drop 1).take (Tryz.prog.cellsOf 24))=xs[1]?:=hf 1 _ rfl;have h2:DataW.trod enc Tryz.prog w base spare held m 22 ((cs.drop 3).take (Tryz.prog.cellsOf 22))=xs[2]?:=hf 2 _ rfl;have h3:DataW.trod enc Tryz.prog w base spare held m 35 ((cs.drop 4).take (Tryz.prog.cellsOf 35))=xs[3]?:=hf 3 _ rfl;have h4:DataW.trod enc Tryz.prog w base spare held m 38 ((cs.drop 9).take (Tryz.prog.cellsOf 38))=xs[4]?:=hf 4 _ rfl;rw[hC]at hlen;rw[show Tryz.prog.cellsOf 3=1 by kernel_rfl]at h0;rw[show Tryz.prog.cellsOf 24=2 by kernel_rfl]at h1;rw[show Tryz.prog.cellsOf 22=1 by kernel_rfl]at h2;rw[show Tryz.prog.cellsOf 35=5 by kernel_rfl]at h3;rw[show Tryz.prog.cellsOf 38=6 by kernel_rfl]at h4
 match cs,hlen with
 | [c0,c1,c2,c3,c4,c5,c6,c7,c8,c9,c10,c11,c12,c13,c14],_=>
  match xs,hxl with
  | [y0,y1,y2,y3,y4],_=>
   obtain⟨k,e0,_,_⟩:=DataW.trod_int Tryz.underlying3 h0;obtain⟨l,e1,hl⟩:=ji _ _ _ h1;obtain⟨v,e2,_,wv⟩:=DataW.trod_int Tryz.underlying22 h2;obtain⟨x,e3,hx,hn,hnx,hky⟩:=sU _ _ _ h3;obtain⟨s,e4,hs⟩:=Fw _ _ _ h4;simp only[List.drop_zero,List.drop_succ_cons,List.take_succ_cons,List.take_zero,List.cons.injEq,and_true,nL,Iq,List.map_cons,List.map_nil]at e0 e1 e2 e3 e4;obtain⟨e1,e5⟩:=e1;obtain⟨e6,e7,e8,e9,e10⟩:=e3;obtain⟨e11,e12,e13,e14,e15,e16⟩:=e4;subst e0;subst e1;subst e2;subst e5;subst e6;subst e7;subst e8;subst e9;subst e10;subst e11;subst e12;subst e13;subst e14;subst e15;subst e16;exact⟨⟨k,l,v,x,s⟩,rfl,.int (.int (.int (.int (hx.append hs)))),hn,hl,hnx,hky⟩
variable {r:Reach} {b0:Nat} {v:Value} {d:DataW H} {p:List MemPlace}
def CQ(w:World)(v:Value):Prop:=∃(A:Option Addr) (n c:Nat) (f:Nat->B0),v=(zv A n c f).den/\Ok m0 w (zv A n c f)/\n<=maxLen/\∀i,i<n->CK w (f i)
instance inhWnt25 : Inhabited B0 := ⟨⟨0, ⟨0, 0⟩, 0, zRA, ⟨0, false, .empty, none, 0, 0, fun _ => s7, 0, false⟩⟩⟩
theorem EK(hv:Value.okWide Tryz.prog w r b0 47 v)(h:DataW.Trod enc Tryz.prog w base spare held 47 v d p):CQ w v:=by
 obtain⟨a,len,cap,rfl⟩:=okWide_slice Tryz.underlying47 hv;obtain⟨fuel,hf⟩:=h;obtain⟨A,c,l,e1,hr,hl,hm,hwf⟩:=fx (en:=fun x=>(ce x).map AV.den) (wf:=CK w) Tryz.underlying47 (k:=15) (by kernel_rfl) (fun _=>rfl) (by decide) Fu hf;simp only[Value.cells,List.cons.injEq,and_true]at e1;rw[e1];refine⟨A,l.length,c,fun i=>l.getD i default,rfl,lY (fun _=>rfl) hl hm (fun x hx=>(hwf x hx).1) (fun hp=>?_) (by decide),by omega,fun i hi=>?_⟩
 .obtain ⟨b,off,hA,_,hc⟩:=hr hp
  exact⟨b,off,hA,fun j u hu=>hc j u hu⟩
 have:l.getD i default=l[i]:=by simp[List.getD,hi]
 simp only[this];exact hwf _ (List.getElem_mem hi)
end
end Go.Proofs.YtmbkanpapkhnaaaGreat.Sym
namespace Go.Proofs.YtmbkanpapkhnaaaGreat.Sym
open Go Go.RowKit
def ofE(n:Int):Int:=if n<0 \/ 64<n then 1 else 0
def ofV(key n:Int):Lab:=if n<0 \/ 64<n then⟨0,0⟩else⟨n,(F5 key.toNat n.toNat:Nat)⟩
theorem Az{key:Int}(hk:U64 key)(n:Int):U64 (ofV key n).bits:=by
 unfold ofV
 split
 .exact ⟨by decide,by decide⟩
 exact wo hk _
theorem qg{key:Int}(n:Int):isL (ofV key n)=true:=by
 unfold ofV
 split
 .decide
 rename_i h
 rw[EI];refine⟨⟨by show 0<=n;omega,by show n<=64;omega⟩,?_⟩
 show((F5 ((F5 key.toNat n.toNat:Nat):Int).toNat n.toNat:Nat):Int)=_
 rw[Int.toNat_natCast,mJ]
abbrev u9:Lab:=⟨0,0⟩
structure Spt where
 lab:Lab
 g:s9
def kj:Rec:=⟨1,[],F1,0⟩
def D9(bk k key:Int):Nat->Lab->Pst->Rs Spt
 |0,_,p=>.stop zWq p
 |n+1,l,p=>(M8 k l p).bind fun g p=>
   if gk g 1=true then .ok ⟨l,g⟩ p
   else if(gk g 3||gk g 4)=true then(aJ bk k n l g p).bind fun _ p=>D9 bk k key n l p
   else if(gk g 2&&decide (l.len<64))=true then D9 bk k key n (ofV key (l.len+1)) p
   else if gk g 5=true then(J6 bk k n l p).bind fun _ p=>D9 bk k key n u9 p
   else if(!g.has&&decide (l=u9))=true then(aw k u9 g.ver kj p).bind fun _ p=>D9 bk k key n u9 p
   else D9 bk k key n u9 p
def bh(bk k:Int)(n:Nat)(l:Lab)(p:Pst):Rs Bool:=
 if R4 l=0 then(M8 k (Q5 l) p).bind fun q p=>if(gk q 2||gk q 3||gk q 4)=true then(J6 bk k n l p).bind fun _ p=>.ok false p else .ok true p else .ok true p
def F6(bk k key:Int):Nat->Int->Int->Pst->Rs Spt
 |0,_,_,p=>.stop zWq p
 |n+1,lo,hi,p=>
   if lo<=hi then(M8 k (ofV key ((lo+hi) / 2)) p).bind fun g p=>
    if gk g 1=true then .ok ⟨ofV key ((lo+hi) / 2),g⟩ p
    else if gk g 2=true then F6 bk k key n ((lo+hi) / 2+1) hi p
    else if(gk g 3||gk g 4)=true then(aJ bk k n (ofV key ((lo+hi) / 2)) g p).bind fun _ p=>F6 bk k key n lo hi p
    else if gk g 5=true then(bh bk k n (ofV key ((lo+hi) / 2)) p).bind fun b p=>if b=true then F6 bk k key n lo ((lo+hi) / 2-1) p else F6 bk k key n lo hi p
    else F6 bk k key n lo ((lo+hi) / 2-1) p
   else D9 bk k key (n+1) u9 p
def ii(bk k how key:Int)(n:Nat)(p:Pst):Rs Spt:=if how=1 then D9 bk k key n u9 p else F6 bk k key n 0 64 p
theorem D5(bk k key:Int):∀n l p,Fro p (D9 bk k key n l p)
 |0,l,p=>aI _ _
 |n+1,l,p=>(k8 _ _ _).bind fun _ _ _=>l9 (B1 _ _) (l9 ((R8 _ _ _ _ _ _).bind fun _ _ _=>D5 bk k key n _ _) (l9 (D5 bk k key n _ _) (l9 ((F9 _ _ _ _ _).bind fun _ _ _=>D5 bk k key n _ _) (l9 ((A5 _ _ _ _ _).bind fun _ _ _=>D5 bk k key n _ _) (D5 bk k key n _ _)))))
theorem iV(bk k:Int)(n:Nat)(l:Lab)(p:Pst):Fro p (bh bk k n l p):=
 l9 ((k8 _ _ _).bind fun _ _ _=>l9 ((F9 _ _ _ _ _).bind fun _ _ _=>B1 _ _) (B1 _ _)) (B1 _ _)
theorem cC(bk k key:Int):∀n lo hi p,Fro p (F6 bk k key n lo hi p)
 |0,lo,hi,p=>aI _ _
 |n+1,lo,hi,p=>l9 ((k8 _ _ _).bind fun _ _ _=>l9 (B1 _ _) (l9 (cC bk k key n _ _ _) (l9 ((R8 _ _ _ _ _ _).bind fun _ _ _=>cC bk k key n _ _ _) (l9 ((iV _ _ _ _ _).bind fun _ _ _=>l9 (cC bk k key n _ _ _) (cC bk k key n _ _ _)) (cC bk k key n _ _ _))))) (D5 _ _ _ _ _ _)
theorem ly(bk k how key:Int)(n:Nat)(p:Pst):Fro p (ii bk k how key n p):=l9 (D5 _ _ _ _ _ _) (cC _ _ _ _ _ _ _)
structure aP(s:Spt):Prop where
 ok:ew s.g
 r:zk s.g
 leaf:gk s.g 1=true
 lab:isL s.lab=true/\U64 s.lab.bits
theorem dH{bk k key:Int}(hk:U64 key):∀{n:Nat} {l:Lab} {p q:Pst} {s:Spt},j3 p->(isL l=true/\U64 l.bits)->D9 bk k key n l p = .ok s q->aP s
 |0,l,p,q,s,_,_,h=>by cases h
 |n+1,l,p,q,s,hp,hl,h=>by
  have hz:isL u9=true/\U64 u9.bits:=⟨by decide,by decide,by decide⟩;unfold D9 at h
  cases h1:M8 k l p with
  |stop w p1=>rw[h1]at h;cases h
  |ok g p1=>
   rw[h1]at h;have hp1:=hp.suf ((k8 k l p).of h1);simp only[Rs.bind]at h
   split at h
   .rename_i hg
    injection h with h _
    subst h;exact⟨hp.get h1,hp.getR h1,hg,hl⟩
   split at h
   .cases h2:aJ bk k n l g p1 with
    |stop w p2=>rw[h2]at h;cases h
    |ok u p2=>rw[h2]at h;exact dH hk (hp1.suf ((R8 _ _ _ _ _ _).of h2)) hl h
   split at h
   .exact dH hk hp1 ⟨qg _,Az hk _⟩ h
   split at h
   .cases h2:J6 bk k n l p1 with
    |stop w p2=>rw[h2]at h;cases h
    |ok u p2=>rw[h2]at h;exact dH hk (hp1.suf ((F9 _ _ _ _ _).of h2)) hz h
   split at h
   .cases h2:aw k u9 g.ver kj p1 with
    |stop w p2=>rw[h2]at h;cases h
    |ok u p2=>rw[h2]at h;exact dH hk (hp1.suf ((A5 _ _ _ _ _).of h2)) hz h
   exact dH hk hp1 hz h
theorem jV{bk k key:Int}(hk:U64 key):∀{n:Nat} {lo hi:Int} {p q:Pst} {s:Spt},j3 p->F6 bk k key n lo hi p = .ok s q->aP s
 |0,lo,hi,p,q,s,_,h=>by cases h
 |n+1,lo,hi,p,q,s,hp,h=>by
  unfold F6 at h
  split at h
  .cases h1:M8 k (ofV key ((lo+hi) / 2)) p with
   |stop w p1=>rw[h1]at h;cases h
   |ok g p1=>
    rw[h1]at h;have hp1:=hp.suf ((k8 _ _ _).of h1);simp only[Rs.bind]at h
    split at h
    .rename_i hg
     injection h with h _
     subst h;exact⟨hp.get h1,hp.getR h1,hg,qg _,Az hk _⟩
    split at h
    .exact jV hk hp1 h
    split at h
    .cases h2:aJ bk k n (ofV key ((lo+hi) / 2)) g p1 with
     |stop w p2=>rw[h2]at h;cases h
     |ok u p2=>rw[h2]at h;exact jV hk (hp1.suf ((R8 _ _ _ _ _ _).of h2)) h
    split at h
    .cases h2:bh bk k n (ofV key ((lo+hi) / 2)) p1 with
     |stop w p2=>rw[h2]at h;cases h
     |ok u p2=>
      rw[h2]at h;have hp2:=hp1.suf ((iV _ _ _ _ _).of h2);simp only[Rs.bind]at h
      split at h
      .exact jV hk hp2 h
      exact jV hk hp2 h
    exact jV hk hp1 h
  exact dH hk hp ⟨by decide,by decide,by decide⟩ h
theorem tN{bk k how key:Int}(hk:U64 key){n:Nat}{p q:Pst}{s:Spt}(hp:j3 p)(h:ii bk k how key n p = .ok s q):aP s:=by
 unfold ii at h
 split at h
 .exact dH hk hp ⟨by decide,by decide,by decide⟩ h
 exact jV hk hp h
def gL(l:Lab)(a b:Int)(i:Itm):Bool:=decide (a<=i.key)&&decide (i.key<=b)&&z6 l i.key
def hasL(s:Spt)(a b:Int):List Itm:=(f5 s.g.x.r.f s.g.x.r.n).filter (gL s.lab a b)
def W8(bk k key:Int)(n:Nat)(s:Spt)(p:Pst):Rs Spt:=
 if z6 s.g.x.r.nx key=true then(M8 k s.g.x.r.nx p).bind fun g p=>if gk g 1=true then .ok ⟨s.g.x.r.nx,g⟩ p else D9 bk k key n u9 p else D9 bk k key n u9 p
theorem iW(bk k key:Int)(n:Nat)(s:Spt)(p:Pst):Fro p (W8 bk k key n s p):=l9 ((k8 _ _ _).bind fun _ _ _=>l9 (B1 _ _) (D5 _ _ _ _ _ _)) (D5 _ _ _ _ _ _)
theorem wO{l:Lab}{key:Int}(h:z6 l key=true):isL l=true:=by
 unfold z6 at h;simp only[Bool.and_eq_true]at h;exact h.1
theorem wS{k:Int}{l:Lab}{p q:Pst}{α : Type}{f:s9->Pst->Rs α}{a:α}(h:(M8 k l p).bind f = .ok a q)(hf:∀g r,Fro r (f g r)):q.n<p.n:=by
 cases h1:M8 k l p with
 |stop w r=>rw[h1]at h;cases h
 |ok g r=>
  rw[h1]at h;have:=B7 h1;have:=((hf g r).of h).le;omega
theorem IS{bk k key:Int}{n:Nat}{l:Lab}{p q:Pst}{s:Spt}(h:D9 bk k key n l p = .ok s q):q.n<p.n:=by
 cases n with
 |zero=>cases h
 |succ n=>exact wS h fun _ _=>l9 (B1 _ _) (l9 ((R8 _ _ _ _ _ _).bind fun _ _ _=>D5 bk k key n _ _) (l9 (D5 bk k key n _ _) (l9 ((F9 _ _ _ _ _).bind fun _ _ _=>D5 bk k key n _ _) (l9 ((A5 _ _ _ _ _).bind fun _ _ _=>D5 bk k key n _ _) (D5 bk k key n _ _)))))
theorem uX{bk k key:Int}{n:Nat}{s s':Spt}{p q:Pst}(h:W8 bk k key n s p = .ok s' q):q.n<p.n:=by
 unfold W8 at h
 split at h
 .exact wS h fun _ _=>l9 (B1 _ _) (D5 _ _ _ _ _ _)
 exact IS h
theorem qW{bk k key:Int}(hk:U64 key){n:Nat}{s s':Spt}{p q:Pst}(hs:aP s)(hp:j3 p)(h:W8 bk k key n s p = .ok s' q):aP s':=by
 unfold W8 at h
 split at h
 .rename_i hc
  cases h1:M8 k s.g.x.r.nx p with
  |stop w r=>rw[h1]at h;cases h
  |ok g r=>
   rw[h1]at h;simp only[Rs.bind]at h
   split at h
   .rename_i hg
    injection h with h _
    subst h;exact⟨hp.get h1,hp.getR h1,hg,wO hc,hs.ok.ra.nx⟩
   exact dH hk (hp.suf ((k8 _ _ _).of h1)) ⟨by decide,by decide,by decide⟩ h
 exact dH hk hp ⟨by decide,by decide,by decide⟩ h
theorem mK(s:Spt)(a b:Int):(hasL s a b).length<=s.g.x.r.n:=by
 unfold hasL;refine Nat.le_trans (List.length_filter_le _ _) ?_;simp[f5]
theorem mL{s:Spt}(hs:aP s){a b:Int}{i:Itm}(h:i∈hasL s a b):U64 i.key:=by
 unfold hasL f5 at h;obtain⟨h1,_⟩:=List.mem_filter.1 h;obtain⟨t,ht,rfl⟩:=List.mem_map.1 h1;exact hs.ok.ra.key t (List.mem_range.1 ht)
def szL(l:Lab):Int:=((2^(64-l.len.toNat):Nat):Int)
theorem sz_child{q:Lab}(hq:isL q=true)(h64:q.len≠64)(b:Int):szL q=szL (u7 q b)+szL (u7 q b):=by
 obtain⟨h0,h1,_⟩:=r8 hq;have hn:q.len.toNat<64:=by omega
 have hl:(u7 q b).len.toNat=q.len.toNat+1:=by show(q.len+1).toNat=_;omega
 unfold szL;rw[hl,bV hn,show 64-(q.len.toNat+1)=63-q.len.toNat by omega];omega
theorem uU{q:Lab}(hq:isL q=true)(h64:q.len≠64):(u7 q 0).bits=q.bits/\(u7 q 1).bits=q.bits+szL (u7 q 0):=by
 obtain⟨h0,h1,_⟩:=r8 hq;have hl:(u7 q 0).len.toNat=q.len.toNat+1:=by show(q.len+1).toNat=_;omega
 refine⟨rfl,?_⟩;unfold szL;rw[hl,show 64-(q.len.toNat+1)=63-q.len.toNat by omega];rfl
theorem Bk{l:Lab}(hl:isL l=true)(hb:U64 l.bits):∃a:Nat,l.bits=((2^(64-l.len.toNat)*a:Nat):Int)/\2^(64-l.len.toNat)*a+2^(64-l.len.toNat)<=2^64:=by
 obtain⟨h0,h1,h2⟩:=r8 hl;refine⟨l.bits.toNat / 2^(64-l.len.toNat),?_,?_⟩
 .rw [Nat.mul_comm];exact h2.symm
 have h3:=nj (Y5 hb) (show l.len.toNat<=64 by omega)
 have:=Nat.mul_le_mul_right (2^(64-l.len.toNat)) (Nat.succ_le_of_lt h3);rw[<-Nat.pow_add,show l.len.toNat+(64-l.len.toNat)=64 by omega,Nat.succ_mul]at this;rw[Nat.mul_comm];exact this
theorem zD(l:Lab):0<szL l:=by
 unfold szL;have:0<2^(64-l.len.toNat):=Nat.pow_pos (by decide);omega
theorem qr{l:Lab}(hl:isL l=true)(hb:U64 l.bits):l.bits+szL l<=18446744073709551616:=by
 obtain⟨a,h1,h2⟩:=Bk hl hb;unfold szL;rw[h1];have:(2:Nat)^64=18446744073709551616:=by decide
 omega
theorem vY{x y:Nat}(h:∀i,x.testBit i=true->y.testBit i=true):x<=y:=by
 have e:x &&& y=x:=by
  apply Nat.eq_of_testBit_eq;intro i;rw[Nat.testBit_and]
  cases hx:x.testBit i
  .rfl
  rw[h i hx];rfl
 rw[<-e];exact Nat.and_le_right
def xM(c:Nat):Nat:=if c=0 then 0x5555555555555555 else 0xAAAAAAAAAAAAAAAA
def mkC(c k:Nat):Nat:=k &&& xM c
theorem rV{c:Nat}(hc:c<2)(i:Nat):(xM c).testBit i=(decide (i<64)&&decide (i % 2=c)):=by
 by_cases hi:i<64
 .have h:∀c,c<2->∀i,i<64->(xM c).testBit i=(decide (i<64)&&decide (i % 2=c)):=by decide
  exact h c hc i hi
 rw[decide_eq_false hi,Bool.false_and];refine Nat.testBit_lt_two_pow ?_;have h1:xM c<2^64:=by unfold xM;split<;>decide
 exact Nat.lt_of_lt_of_le h1 (Nat.pow_le_pow_right (by decide) (by omega))
theorem G6{c:Nat}(hc:c<2)(k i:Nat):(mkC c k).testBit i=(k.testBit i&&(decide (i<64)&&decide (i % 2=c))):=by
 unfold mkC;rw[Nat.testBit_and,rV hc]
theorem ic:∀{x y:Nat},x<y->∃i,x.testBit i=false/\y.testBit i=true/\∀j,i<j->x.testBit j=y.testBit j:=by
 intro x
 induction x using Nat.strongRecOn with
 |_ x ih=>
  intro y h
  by_cases h2:x / 2<y / 2
  .by_cases hx:x=0
   .subst hx
    obtain⟨i,h3⟩:∃i,y.testBit i=true:=by
     apply Classical.byContradiction;intro hn;have:y=0:=Nat.eq_of_testBit_eq fun i=>by
      rw[Nat.zero_testBit]
      cases hb:y.testBit i
      .rfl
      exact absurd ⟨i,hb⟩ hn
     omega
    have hmax:∀n,∀i,y.testBit i=true->y.log2-i<=n->∃i,y.testBit i=true/\∀j,i<j->y.testBit j=false:=by
     intro n
     induction n with
     |zero=>
      intro i hi hn;refine⟨i,hi,fun j hj=>Nat.testBit_lt_two_pow ?_⟩;have h5:y<2^(y.log2+1):=Nat.lt_log2_self;exact Nat.lt_of_lt_of_le h5 (Nat.pow_le_pow_right (by decide) (by omega))
     |succ n ihn=>
      intro i hi hn
      by_cases hj:∃j,i<j/\y.testBit j=true
      .obtain ⟨j,hj1,hj2⟩:=hj
       exact ihn j hj2 (by omega)
      refine⟨i,hi,fun j hj1=>?_⟩
      cases hb:y.testBit j
      .rfl
      exact absurd ⟨j,hj1,hb⟩ hj
    obtain⟨i,hi,hj⟩:=hmax _ i h3 (Nat.le_refl _);exact⟨i,Nat.zero_testBit _,hi,fun j h=>by rw[Nat.zero_testBit,hj j h]⟩
   obtain⟨i,h3,h4,h5⟩:=ih (x / 2) (by omega) h2;refine⟨i+1,by rw[Nat.testBit_add_one];exact h3,by rw[Nat.testBit_add_one];exact h4,fun j hj=>?_⟩;obtain⟨j',rfl⟩:∃j',j=j'+1:=⟨j-1,by omega⟩
   rw[Nat.testBit_add_one,Nat.testBit_add_one];exact h5 j' (by omega)
  have e:x / 2=y / 2:=by omega
  refine⟨0,?_,?_,fun j hj=>?_⟩
  .rw [Nat.testBit_zero];simp;omega
  .rw [Nat.testBit_zero];simp;omega
  obtain⟨j',rfl⟩:∃j',j=j'+1:=⟨j-1,by omega⟩
  rw[Nat.testBit_add_one,Nat.testBit_add_one,e]
theorem gG{x y:Nat}(i:Nat)(hx:x.testBit i=false)(hy:y.testBit i=true)(h:∀j,i<j->x.testBit j=y.testBit j):x<y:=by
 apply Classical.byContradiction;intro hn
 rcases Nat.lt_or_eq_of_le (Nat.le_of_not_lt hn)with h1|h1
 .obtain ⟨j,h2,h3,h4⟩:=ic h1
  rcases Nat.lt_trichotomy i j with h5|h5|h5
  .have:=h j h5;rw[h2,h3]at this;cases this
  .subst h5;rw[hx]at h3;cases h3
  have:=h4 i h5;rw[hx,hy]at this;cases this
 subst h1;rw[hx]at hy;cases hy
def inB(lo hi k:Nat):Prop:=∀c,c<2->mkC c lo<=mkC c k/\mkC c k<=mkC c hi
theorem oY{lo k:Nat}(hl:lo<2^64)(h:∀c,c<2->mkC c lo<=mkC c k):lo<=k:=by
 apply Classical.byContradiction;intro hn;obtain⟨i,h1,h2,h3⟩:=ic (Nat.lt_of_not_le hn);have hi:i<64:=by
  apply Classical.byContradiction;intro h4;rw[Nat.testBit_lt_two_pow (Nat.lt_of_lt_of_le hl (Nat.pow_le_pow_right (by decide) (by omega)))]at h2
  cases h2
 have hc:i % 2<2:=Nat.mod_lt _ (by decide);have h5:=h (i % 2) hc;have h6:mkC (i % 2) k<mkC (i % 2) lo:=by
  refine gG i ?_ ?_ fun j hj=>?_
  .rw [G6 hc,h1,Bool.false_and]
  .rw [G6 hc,h2];simp[hi]
  rw[G6 hc,G6 hc,h3 j hj]
 omega
def nS(a:Nat):Nat:=xM (a % 2) &&& (2^a-1)
theorem nD(a i:Nat)(ha:a<64):(nS a).testBit i=(decide (i<a)&&decide (i % 2=a % 2)):=by
 unfold nS;rw[Nat.testBit_and,rV (Nat.mod_lt _ (by decide)),Nat.testBit_two_pow_sub_one]
 by_cases h:i<a
 .simp [h,show i<64 by omega]
 simp[h]
def loU(a lo:Nat):Nat:=(lo ^^^ (lo &&& nS a)) ||| 2^a
def hiD(a hi:Nat):Nat:=(hi ^^^ (hi &&& 2^a)) ||| nS a
theorem lg(a lo i:Nat)(ha:a<64):(loU a lo).testBit i=(lo.testBit i && !(decide (i<a)&&decide (i % 2=a % 2))||decide (a=i)):=by
 unfold loU;rw[Nat.testBit_or,Nat.testBit_xor,Nat.testBit_and,nD _ _ ha,Nat.testBit_two_pow]
 cases lo.testBit i<;>simp
theorem lq(a hi i:Nat)(ha:a<64):(hiD a hi).testBit i=(hi.testBit i && !decide (a=i)||(decide (i<a)&&decide (i % 2=a % 2))):=by
 unfold hiD;rw[Nat.testBit_or,Nat.testBit_xor,Nat.testBit_and,nD _ _ ha,Nat.testBit_two_pow]
 cases hi.testBit i<;>simp
def bmL(z:Nat):Nat->Nat->Nat->Nat->Bool->Nat×Bool
 |0,lo,hi,best,f=>(z,true)
 |a+1,lo,hi,best,f=>
  if z.testBit a=false/\lo.testBit a=false/\hi.testBit a=true then bmL z a lo (hiD a hi) (loU a lo) true
  else if z.testBit a=false/\lo.testBit a=true/\hi.testBit a=true then(lo,true)
  else if z.testBit a=true/\lo.testBit a=false/\hi.testBit a=false then(best,f)
  else if z.testBit a=true/\lo.testBit a=false/\hi.testBit a=true then bmL z a (loU a lo) hi best f
  else bmL z a lo hi best f
def M1(S:Nat->Prop)(r:Nat×Bool):Prop:=(r.2=true->S r.1/\∀k,S k->r.1<=k)/\(r.2=false->r.1=0/\∀k,¬S k)
theorem M1.congr{S T:Nat->Prop}{r:Nat×Bool}(h:M1 S r)(e:∀k,S k↔T k):M1 T r:=
 ⟨fun hr=>⟨(e _).1 (h.1 hr).1,fun k hk=>(h.1 hr).2 k ((e k).2 hk)⟩,fun hr=>⟨(h.2 hr).1,fun k hk=>(h.2 hr).2 k ((e k).2 hk)⟩⟩
theorem M1.one{S:Nat->Prop}{r q:Nat×Bool}(h:M1 S r)(h':M1 S q):r=q:=by
 obtain⟨a,b⟩:=r;obtain⟨c,d⟩:=q
 cases b<;>cases d
 .rw [show a=0 from(h.2 rfl).1,show c=0 from(h'.2 rfl).1]
 .exact absurd (h'.1 rfl).1 ((h.2 rfl).2 _)
 .exact absurd (h.1 rfl).1 ((h'.2 rfl).2 _)
 have h1:=(h.1 rfl).2 _ (h'.1 rfl).1;have h2:=(h'.1 rfl).2 _ (h.1 rfl).1;simp only at h1 h2;rw[show a=c by omega]
def ct(z a k:Nat):Prop:=∀j,a<=j->k.testBit j=z.testBit j
def kR(z a k:Nat):Prop:=∃j,a<=j/\k.testBit j=true/\z.testBit j=false/\∀i,j<i->k.testBit i=z.testBit i
theorem M9{z a k:Nat}:ct z a k↔ct z (a+1) k/\k.testBit a=z.testBit a:=by
 refine⟨fun h=>⟨fun j hj=>h j (by omega),h a (Nat.le_refl _)⟩,fun h j hj=>?_⟩
 by_cases e:j=a
 .rw [e];exact h.2
 exact h.1 j (by omega)
theorem aq{z a k:Nat}:kR z a k↔kR z (a+1) k \/ ct z (a+1) k/\k.testBit a=true/\z.testBit a=false:=by
 constructor
 .rintro ⟨j,h1,h2,h3,h4⟩
  by_cases e:j=a
  .subst e;exact .inr ⟨fun i hi=>h4 i (by omega),h2,h3⟩
  exact .inl ⟨j,by omega,h2,h3,h4⟩
 rintro(⟨j,h1,h2,h3,h4⟩|⟨h1,h2,h3⟩)
 .exact ⟨j,by omega,h2,h3,h4⟩
 exact⟨a,Nat.le_refl _,h2,h3,fun i hi=>h1 i (by omega)⟩
theorem qA{z a k:Nat}(h:kR z a k):z<k:=by
 obtain⟨j,h1,h2,h3,h4⟩:=h;exact gG j h3 h2 fun i hi=>(h4 i hi).symm
theorem Bg{z k:Nat}:z<=k↔ct z 0 k \/ kR z 0 k:=by
 constructor
 .intro h
  rcases Nat.lt_or_eq_of_le h with h|h
  .obtain ⟨i,h1,h2,h3⟩:=ic h
   exact .inr ⟨i,Nat.zero_le _,h2,h1,fun j hj=>(h3 j hj).symm⟩
  subst h;exact .inl fun j _=>rfl
 rintro(h|h)
 .exact Nat.le_of_eq (Nat.eq_of_testBit_eq fun i=>(h i (Nat.zero_le _)).symm)
 exact Nat.le_of_lt (qA h)
theorem Hj{c x y:Nat}(hc:c<2)(h:∀i,i<64->i % 2=c->x.testBit i=true->y.testBit i=true):mkC c x<=mkC c y:=by
 refine vY fun i hi=>?_
 rw[G6 hc]at hi ⊢;simp only[Bool.and_eq_true,decide_eq_true_eq]at hi ⊢;exact⟨h i hi.2.1 hi.2.2 hi.1,hi.2⟩
theorem sj{c x y a:Nat}(ha:a<64)(hc:a % 2=c)(hx:x.testBit a=false)(hy:y.testBit a=true)(h:∀j,a<j->x.testBit j=y.testBit j):mkC c x<mkC c y:=by
 have hc2:c<2:=by omega
 refine gG a ?_ ?_ fun j hj=>?_
 .rw [G6 hc2,hx];rfl
 .rw [G6 hc2,hy];simp[ha,hc]
 rw[G6 hc2,G6 hc2,h j hj]
structure tD(z a lo hi:Nat):Prop where
 lw:lo<2^64
 v:∀c,c<2->mkC c lo<=mkC c hi
 sl:ct z a lo
 sh:ct z a hi
theorem yX{z a lo hi:Nat}(h:tD z (a+1) lo hi)(e1:lo.testBit a=z.testBit a)(e2:hi.testBit a=z.testBit a):tD z a lo hi:=⟨h.lw,h.v,M9.2 ⟨h.sl,e1⟩,M9.2 ⟨h.sh,e2⟩⟩
theorem Cw{z a lo hi:Nat}(ha:a<64)(h:tD z (a+1) lo hi):¬(lo.testBit a=true/\hi.testBit a=false):=fun⟨h1,h2⟩=>by
 have h3:=h.v (a % 2) (Nat.mod_lt _ (by decide));have h4:=sj (c:=a % 2) ha rfl h2 h1 (fun j hj=>by rw[h.sh j (by omega),h.sl j (by omega)]);omega
theorem Me{z a lo hi k:Nat}(ha:a<64)(h:tD z (a+1) lo hi)(hk:ct z (a+1) k)(hb:inB lo hi k)(hl:lo.testBit a=true):k.testBit a=true:=by
 cases e:k.testBit a
 .have h3:=(hb (a % 2) (Nat.mod_lt _ (by decide))).1
  have h4:=sj (c:=a % 2) ha rfl e hl (fun j hj=>by rw[hk j (by omega),h.sl j (by omega)]);omega
 rfl
theorem wn{z a lo hi k:Nat}(ha:a<64)(h:tD z (a+1) lo hi)(hk:ct z (a+1) k)(hb:inB lo hi k)(hl:hi.testBit a=false):k.testBit a=false:=by
 cases e:k.testBit a
 .rfl
 have h3:=(hb (a % 2) (Nat.mod_lt _ (by decide))).2;have h4:=sj (c:=a % 2) ha rfl hl e (fun j hj=>by rw[hk j (by omega),h.sh j (by omega)]);omega
theorem un{a lo:Nat}(ha:a<64)(h:lo<2^64):loU a lo<2^64:=by
 unfold loU;exact Nat.or_lt_two_pow (Nat.xor_lt_two_pow h (Nat.lt_of_le_of_lt Nat.and_le_left h)) (Nat.pow_lt_pow_right (by decide) ha)
theorem nX{z a lo hi:Nat}(ha:a<64)(h:tD z (a+1) lo hi)(hl:lo.testBit a=false)(hh:hi.testBit a=true) :
  ct z (a+1) (loU a lo)/\(loU a lo).testBit a=true/\inB lo hi (loU a lo)/\∀k,ct z (a+1) k->k.testBit a=true->inB lo hi k->∀c,c<2->mkC c (loU a lo)<=mkC c k:=by
 have s1:ct z (a+1) (loU a lo):=fun j hj=>by
  rw[lg _ _ _ ha,<-h.sl j hj];simp[show ¬j<a by omega,show ¬a=j by omega]
 have s2:(loU a lo).testBit a=true:=by rw[lg _ _ _ ha];simp
 have sub:∀k,ct z (a+1) k->k.testBit a=true->mkC (a % 2) (loU a lo)<=mkC (a % 2) k:=fun k hk hb=>Hj (Nat.mod_lt _ (by decide)) fun i hi hc hx=>by
  rcases Nat.lt_trichotomy i a with h5|h5|h5
  .rw [lg _ _ _ ha]at hx;simp[h5,hc,show ¬a=i by omega]at hx
  .subst h5;exact hb
  rw[hk i (by omega),<-s1 i (by omega)];exact hx
 have oth:∀c,c<2->c≠a % 2->mkC c (loU a lo)=mkC c lo:=fun c hc hn=>Nat.eq_of_testBit_eq fun i=>by
  rw[G6 hc,G6 hc,lg _ _ _ ha]
  by_cases hi:i % 2=c
  .have h6:¬i % 2=a % 2:=by omega
   have h7:¬a=i:=fun e=>h6 (by rw[e])
   simp[h6,h7]
  simp[hi]
 refine⟨s1,s2,fun c hc=>?_,fun k hk hb hi c hc=>?_⟩
 .by_cases e:c=a % 2
  .subst e
   exact⟨Nat.le_of_lt (sj ha rfl hl s2 fun j hj=>by rw[h.sl j (by omega),s1 j (by omega)]),sub hi h.sh hh⟩
  rw[oth c hc e];exact⟨Nat.le_refl _,h.v c hc⟩
 by_cases e:c=a % 2
 .subst e;exact sub k hk hb
 rw[oth c hc e];exact(hi c hc).1
theorem sT{z a lo hi k:Nat}(ha:a<64)(h:tD z (a+1) lo hi)(hl:lo.testBit a=false)(hh:hi.testBit a=true)(hk:ct z (a+1) k)(hb:k.testBit a=false):inB lo (hiD a hi) k↔inB lo hi k:=by
 have oth:∀c,c<2->c≠a % 2->mkC c (hiD a hi)=mkC c hi:=fun c hc hn=>Nat.eq_of_testBit_eq fun i=>by
  rw[G6 hc,G6 hc,lq _ _ _ ha]
  by_cases hi:i % 2=c
  .have h6:¬i % 2=a % 2:=by omega
   have h7:¬a=i:=fun e=>h6 (by rw[e])
   simp[h6,h7]
  simp[hi]
 have own:mkC (a % 2) k<=mkC (a % 2) (hiD a hi):=Hj (Nat.mod_lt _ (by decide)) fun i h64 hc hx=>by
  rw[lq _ _ _ ha]
  rcases Nat.lt_trichotomy i a with h5|h5|h5
  .simp [h5,hc]
  .subst h5;rw[hb]at hx;cases hx
  rw[h.sh i (by omega),<-hk i (by omega),hx];simp[show ¬a=i by omega]
 have own2:mkC (a % 2) k<=mkC (a % 2) hi:=Nat.le_of_lt (sj ha rfl hb hh fun j hj=>by rw[hk j (by omega),h.sh j (by omega)])
 constructor
 .intro h1 c hc
  refine⟨(h1 c hc).1,?_⟩
  by_cases e:c=a % 2
  .subst e;exact own2
  rw[<-oth c hc e];exact(h1 c hc).2
 intro h1 c hc;refine⟨(h1 c hc).1,?_⟩
 by_cases e:c=a % 2
 .subst e;exact own
 rw[oth c hc e];exact(h1 c hc).2
def InQ(lo hi k:Nat):Prop:=inB lo hi k/\k<2^64
theorem Cy{z lo0 hi0:Nat}(hz:z<2^64):∀(a lo hi best:Nat) (f:Bool),a<=64->tD z a lo hi->(∀k,ct z a k->(inB lo hi k↔InQ lo0 hi0 k))->M1 (fun k=>InQ lo0 hi0 k/\kR z a k) (best,f) →
  M1 (fun k=>InQ lo0 hi0 k/\z<=k) (bmL z a lo hi best f):=by
 intro a
 induction a with
 |zero=>
  intro lo hi best f _ O hI hL;have e1:lo=z:=Nat.eq_of_testBit_eq fun i=>O.sl i (Nat.zero_le _)
  have e2:hi=z:=Nat.eq_of_testBit_eq fun i=>O.sh i (Nat.zero_le _)
  refine⟨fun _=>⟨⟨(hI z fun j _=>rfl).1 ?_,Nat.le_refl _⟩,fun k hk=>hk.2⟩,fun h=>by cases h⟩;rw[e1,e2];exact fun c _=>⟨Nat.le_refl _,Nat.le_refl _⟩
 |succ a ih=>
  intro lo hi best f ha O hI hL;have ha':a<64:=by omega
  have hI':∀k,ct z a k->(inB lo hi k↔InQ lo0 hi0 k):=fun k hk=>hI k (M9.1 hk).1
  unfold bmL
  by_cases c1:z.testBit a=false/\lo.testBit a=false/\hi.testBit a=true
  .rw [if_pos c1]
   obtain⟨b1,b2,b3⟩:=c1;obtain⟨u1,u2,u3,u4⟩:=nX ha' O b2 b3;have hsh:ct z a (hiD a hi):=fun j hj=>by
    rw[lq _ _ _ ha']
    by_cases e:j=a
    .subst e;simp[b1]
    rw[O.sh j (by omega)];simp[show ¬a=j by omega,show ¬j<a by omega]
   refine ih _ _ _ _ (by omega) ⟨O.lw,fun c hc=>?_,M9.2 ⟨O.sl,by rw[b1,b2]⟩,hsh⟩ (fun k hk=>?_) ⟨fun _=>⟨⟨(hI _ u1).1 u3,aq.2 (.inr ⟨u1,u2,b1⟩)⟩,fun k hk=>?_⟩,fun h=>by cases h⟩
   .exact ((sT ha' O b2 b3 O.sl b2).2 (fun c hc=>⟨Nat.le_refl _,O.v c hc⟩) c hc).2
   .have hk':=M9.1 hk
    rw[sT ha' O b2 b3 hk'.1 (by rw[hk'.2,b1])];exact hI k hk'.1
   rcases aq.1 hk.2 with h|⟨h1,h2,h3⟩
   .obtain ⟨j,g1,g2,g3,g4⟩:=h
    refine Nat.le_of_lt (gG j ?_ g2 fun i hi=>?_)
    .rw [u1 j g1,g3]
    rw[u1 i (by omega),g4 i hi]
   exact oY (un ha' O.lw) (u4 k h1 h2 ((hI k h1).2 hk.1))
  rw[if_neg c1]
  by_cases c2:z.testBit a=false/\lo.testBit a=true/\hi.testBit a=true
  .rw [if_pos c2]
   obtain⟨b1,b2,b3⟩:=c2;have g:kR z a lo:=aq.2 (.inr ⟨O.sl,b2,b1⟩);refine⟨fun _=>⟨⟨(hI lo O.sl).1 fun c hc=>⟨Nat.le_refl _,O.v c hc⟩,Nat.le_of_lt (qA g)⟩,fun k hk=>?_⟩,fun h=>by cases h⟩;have hz9:ct z a k \/ kR z a k:=by
    rcases Bg.1 hk.2 with h|⟨j,g1,g2,g3,g4⟩
    .exact .inl fun j _=>h j (Nat.zero_le _)
    by_cases e:a<=j
    .exact .inr ⟨j,e,g2,g3,g4⟩
    exact .inl fun i hi=>g4 i (by omega)
   rcases hz9 with h|h
   .have h9:=M9.1 h
    have:=Me ha' O h9.1 ((hI k h9.1).2 hk.1) b2;rw[h9.2,b1]at this;cases this
   rcases aq.1 h with⟨j,g1,g2,g3,g4⟩|⟨h1,h2,h3⟩
   .refine Nat.le_of_lt (gG j ?_ g2 fun i hi=>?_)
    .rw [O.sl j g1,g3]
    rw[O.sl i (by omega),g4 i hi]
   exact oY O.lw fun c hc=>((hI k h1).2 hk.1 c hc).1
  rw[if_neg c2];have low:∀n k,(ct z n k \/ kR z n k)↔((ct z (n+1) k/\(k.testBit n=z.testBit n \/ k.testBit n=true/\z.testBit n=false)) \/ kR z (n+1) k):=fun n k=>by
   rw[M9,aq]
   constructor
   .rintro (⟨h1,h2⟩|h|⟨h1,h2,h3⟩)
    .exact .inl ⟨h1,.inl h2⟩
    .exact .inr h
    exact .inl ⟨h1,.inr ⟨h2,h3⟩⟩
   rintro(⟨h1,h2|h2⟩|h)
   .exact .inl ⟨h1,h2⟩
   .exact .inr (.inr ⟨h1,h2.1,h2.2⟩)
   exact .inr (.inl h)
  have fro:∀n k,z<=k->ct z n k \/ kR z n k:=fun n k hk=>by
   rcases Bg.1 hk with h|⟨j,g1,g2,g3,g4⟩
   .exact .inl fun j _=>h j (Nat.zero_le _)
   by_cases e:n<=j
   .exact .inr ⟨j,e,g2,g3,g4⟩
   exact .inl fun i hi=>g4 i (by omega)
  by_cases c3:z.testBit a=true/\lo.testBit a=false/\hi.testBit a=false
  .rw [if_pos c3]
   obtain⟨b1,b2,b3⟩:=c3;refine hL.congr fun k=>⟨fun h=>⟨h.1,Nat.le_of_lt (qA h.2)⟩,fun h=>⟨h.1,?_⟩⟩
   rcases fro (a+1) k h.2 with h1|h1
   .exfalso
    have h2:=wn ha' O h1 ((hI k h1).2 h.1) b3
    rcases(low a k).1 (fro a k h.2)with⟨_,h3|h3⟩|⟨j,g1,g2,g3,_⟩
    .rw [h2,b1]at h3;cases h3
    .rw [h2]at h3;cases h3.1
    rw[h1 j g1,g3]at g2;cases g2
   exact h1
  rw[if_neg c3];have same:∀(lo' hi':Nat),z.testBit a=true \/ (∀k,ct z (a+1) k->InQ lo0 hi0 k->k.testBit a=false)->M1 (fun k=>InQ lo0 hi0 k/\kR z a k) (best,f):=fun _ _ h=>hL.congr fun k=>⟨fun g=>⟨g.1,aq.2 (.inl g.2)⟩,fun g=>⟨g.1,by
   rcases aq.1 g.2 with h1|⟨h1,h2,h3⟩
   .exact h1
   rcases h with h|h
   .rw [h]at h3;cases h3
   rw[h k h1 g.1]at h2;cases h2⟩⟩
  by_cases c4:z.testBit a=true/\lo.testBit a=false/\hi.testBit a=true
  .rw [if_pos c4]
   obtain⟨b1,b2,b3⟩:=c4;obtain⟨u1,u2,u3,u4⟩:=nX ha' O b2 b3;refine ih _ _ _ _ (by omega) ⟨un ha' O.lw,fun c hc=>(u3 c hc).2,M9.2 ⟨u1,by rw[u2,b1]⟩,M9.2 ⟨O.sh,by rw[b3,b1]⟩⟩ (fun k hk=>?_) (same lo hi (.inl b1));have hk':=M9.1 hk;rw[<-hI k hk'.1]
   constructor
   .intro h c hc;exact⟨Nat.le_trans (u3 c hc).1 (h c hc).1,(h c hc).2⟩
   intro h c hc;exact⟨u4 k hk'.1 (by rw[hk'.2,b1]) h c hc,(h c hc).2⟩
  rw[if_neg c4];have hbb:=Cw ha' O;have e12:lo.testBit a=z.testBit a/\hi.testBit a=z.testBit a:=by
   revert c1 c2 c3 c4 hbb
   cases z.testBit a<;>cases lo.testBit a<;>cases hi.testBit a<;>simp
  refine ih _ _ _ _ (by omega) (yX O e12.1 e12.2) hI' (same lo hi ?_)
  cases hzb:z.testBit a
  .exact .inr fun k hk hk2=>wn ha' O hk ((hI k hk).2 hk2) (by rw[e12.2,hzb])
  exact .inl rfl
theorem zM{z k:Nat}(hz:z<2^64):ct z 64 k↔k<2^64:=by
 have hb:∀x,x<2^64->∀j,64<=j->x.testBit j=false:=fun x hx j hj=>Nat.testBit_lt_two_pow (Nat.lt_of_lt_of_le hx (Nat.pow_le_pow_right (by decide) hj))
 constructor
 .intro h
  exact Nat.lt_pow_two_of_testBit _ fun j hj=>by rw[h j hj];exact hb z hz j hj
 intro h j hj;rw[hb z hz j hj,hb k h j hj]
theorem Kx{z lo hi:Nat}(hz:z<2^64)(hl:lo<2^64)(hh:hi<2^64)(hv:∀c,c<2->mkC c lo<=mkC c hi):M1 (fun k=>InQ lo hi k/\z<=k) (bmL z 64 lo hi 0 false):=by
 have h0:M1 (fun k=>InQ lo hi k/\kR z 64 k) ((0:Nat),false):=by
  refine And.intro (fun h=>by cases h) (fun _=>And.intro rfl (fun k hk=>?_));obtain⟨⟨_,h1⟩,j,g1,g2,_⟩:=hk;rw[Nat.testBit_lt_two_pow (Nat.lt_of_lt_of_le h1 (Nat.pow_le_pow_right (by decide) g1))]at g2;cases g2
 exact Cy hz 64 lo hi 0 false (Nat.le_refl _) ⟨hl,hv,(zM hz).2 hl,(zM hz).2 hh⟩ (fun k hk=>⟨fun h=>⟨h,(zM hz).1 hk⟩,fun h=>h.1⟩) h0
def dj(c z:Nat):Nat->Nat
 |0=>0
 |n+1=>2*dj c z n+(z.testBit (2*(31-n)+c)).toNat
def crd(c z:Nat):Nat:=dj c z 32
theorem nr(c z:Nat):∀n i,n<=32->(dj c z n).testBit i=(decide (i<n)&&z.testBit (2*(32-n+i)+c))
 |0,i,_=>by simp[dj]
 |n+1,i,hn=>by
  unfold dj
  cases i with
  |zero=>
   rw[Nat.testBit_zero,show 32-(n+1)+0=31-n by omega]
   cases h:z.testBit (2*(31-n)+c)<;>simp<;>omega
  |succ i=>
   rw[Nat.testBit_add_one,show(2*dj c z n+(z.testBit (2*(31-n)+c)).toNat) / 2=dj c z n by
    have:(z.testBit (2*(31-n)+c)).toNat<=1:=by cases z.testBit (2*(31-n)+c)<;>decide
    omega,nr c z n i (by omega),show 32-(n+1)+(i+1)=32-n+i by omega]
   simp
theorem P8(c z i:Nat):(crd c z).testBit i=(decide (i<32)&&z.testBit (2*i+c)):=by
 unfold crd;rw[nr c z 32 i (Nat.le_refl _)];simp
theorem uS{c:Nat}(hc:c<2)(a b:Nat):crd c a<crd c b↔mkC c a<mkC c b:=by
 constructor
 .intro h
  obtain⟨i,h1,h2,h3⟩:=ic h;rw[P8]at h1 h2;simp only[Bool.and_eq_true,decide_eq_true_eq]at h2;rw[decide_eq_true h2.1,Bool.true_and]at h1;refine gG (2*i+c) (by rw[G6 hc,h1];rfl) (by rw[G6 hc,h2.2];simp;omega) fun j hj=>?_
  rw[G6 hc,G6 hc]
  by_cases hjc:j<64/\j % 2=c
  .have h9:=h3 ((j-c) / 2) (by omega)
   rw[P8,P8,show 2*((j-c) / 2)+c=j by omega,decide_eq_true (show(j-c) / 2<32 by omega)]at h9;simp only[Bool.true_and]at h9;rw[h9]
  have:(decide (j<64)&&decide (j % 2=c))=false:=by simp;omega
  rw[this];simp
 intro h;obtain⟨j,h1,h2,h3⟩:=ic h;rw[G6 hc]at h1 h2;simp only[Bool.and_eq_true,decide_eq_true_eq]at h2;rw[show(decide (j<64)&&decide (j % 2=c))=true by simp[h2.2],Bool.and_true]at h1;refine gG ((j-c) / 2) ?_ ?_ fun i hi=>?_
 .rw [P8,show 2*((j-c) / 2)+c=j by omega,h1,Bool.and_false]
 .rw [P8,show 2*((j-c) / 2)+c=j by omega,h2.1];simp;omega
 rw[P8,P8]
 by_cases hi32:i<32
 .have h9:=h3 (2*i+c) (by omega)
  rw[G6 hc,G6 hc,show(decide (2*i+c<64)&&decide ((2*i+c) % 2=c))=true by simp;omega,Bool.and_true,Bool.and_true]at h9;rw[h9]
 rw[decide_eq_false hi32];rfl
theorem V5{c:Nat}(hc:c<2)(a b:Nat):crd c a<=crd c b↔mkC c a<=mkC c b:=by
 have:=uS hc b a;omega
theorem sV{c x y:Nat}(h:∀i,x.testBit i=true->y.testBit i=true):crd c x<=crd c y:=vY fun i hi=>by
 rw[P8]at hi ⊢;simp only[Bool.and_eq_true]at hi ⊢;exact⟨hi.1,h _ hi.2⟩
structure B8 where
 x1:Nat
 x2:Nat
 y1:Nat
 y2:Nat
def B8.Is(R:B8):Prop:=R.x1<=R.x2/\R.y1<=R.y2
def gX(R:B8)(k:Nat):Prop:=R.x1<=crd 0 k/\crd 0 k<=R.x2/\R.y1<=crd 1 k/\crd 1 k<=R.y2
instance (R : B8) : Decidable R.Is := by unfold B8.Is; infer_instance
instance (R : B8) (k : Nat) : Decidable (gX R k) := by unfold gX; infer_instance
def Z8(R:B8)(lo hi:Nat):Prop:=crd 0 lo<=R.x2/\R.x1<=crd 0 hi/\crd 1 lo<=R.y2/\R.y1<=crd 1 hi
def eb(R:B8)(lo hi:Nat):Prop:=R.x1<=crd 0 lo/\crd 0 hi<=R.x2/\R.y1<=crd 1 lo/\crd 1 hi<=R.y2
instance (R : B8) (a b : Nat) : Decidable (Z8 R a b) := by unfold Z8; infer_instance
instance (R : B8) (a b : Nat) : Decidable (eb R a b) := by unfold eb; infer_instance
def Z5(R:B8)(z:Nat):Nat->Nat->Nat×Bool
 |0,lo=>if lo<z \/ ¬Z8 R lo lo then(0,false)else if eb R lo lo then(max lo z,true)else(0,false)
 |n+1,lo=>if lo+2^(n+1)-1<z \/ ¬Z8 R lo (lo+2^(n+1)-1)then(0,false)
  else if eb R lo (lo+2^(n+1)-1)then(max lo z,true)
  else if(Z5 R z n lo).2=true then Z5 R z n lo else Z5 R z n (lo+2^n)
theorem fA{n a k:Nat}(h1:2^n*a<=k)(h2:k<2^n*a+2^n)(c:Nat):crd c (2^n*a)<=crd c k/\crd c k<=crd c (2^n*a+2^n-1):=by
 have hp:0<2^n:=Nat.two_pow_pos n;obtain⟨d,rfl⟩:∃d,k=2^n*a+d:=⟨k-2^n*a,by omega⟩
 have hd:d<2^n:=by omega
 rw[show 2^n*a+2^n-1=2^n*a+(2^n-1)by omega]
 constructor
 .refine sV fun i hi=>?_
  rw[Nat.testBit_two_pow_mul_add a hd i];rw[Nat.testBit_two_pow_mul]at hi;simp only[Bool.and_eq_true,decide_eq_true_eq]at hi;rw[if_neg (by omega)];exact hi.2
 refine sV fun i hi=>?_
 rw[Nat.testBit_two_pow_mul_add a (show 2^n-1<2^n by omega) i];rw[Nat.testBit_two_pow_mul_add a hd i]at hi
 by_cases e:i<n
 .rw [if_pos e,Nat.testBit_two_pow_sub_one];simp[e]
 rw[if_neg e]at hi ⊢;exact hi
theorem oA{R:B8}{z n a:Nat}(h:2^n*a+2^n-1<z \/ ¬Z8 R (2^n*a) (2^n*a+2^n-1)):M1 (fun k=>(2^n*a<=k/\k<2^n*a+2^n)/\gX R k/\z<=k) ((0:Nat),false):=by
 refine And.intro (fun h=>by cases h) (fun _=>And.intro rfl fun k hk=>?_);obtain⟨⟨h1,h2⟩,⟨i1,i2,i3,i4⟩,h4⟩:=hk
 rcases h with h|h
 .omega
 refine h ?_;have:=fA h1 h2 0;have:=fA h1 h2 1;exact⟨by omega,by omega,by omega,by omega⟩
theorem sA{R:B8}{z n a:Nat}(h:¬(2^n*a+2^n-1<z \/ ¬Z8 R (2^n*a) (2^n*a+2^n-1)))(hh:eb R (2^n*a) (2^n*a+2^n-1)):M1 (fun k=>(2^n*a<=k/\k<2^n*a+2^n)/\gX R k/\z<=k) (max (2^n*a) z,true):=by
 have hp:0<2^n:=Nat.two_pow_pos n;have hz:z<=2^n*a+2^n-1:=by omega
 refine And.intro (fun _=>⟨⟨⟨Nat.le_max_left _ _,?_⟩,?_,Nat.le_max_right _ _⟩,fun k hk=>?_⟩) (fun h=>by cases h)
 .show max (2^n*a) z<_
  omega
 .obtain ⟨i1,i2,i3,i4⟩:=hh
  have a0:=fA (n:=n) (a:=a) (k:=max (2^n*a) z) (Nat.le_max_left _ _) (by omega) 0;have a1:=fA (n:=n) (a:=a) (k:=max (2^n*a) z) (Nat.le_max_left _ _) (by omega) 1;exact⟨by simp only;omega,by simp only;omega,by simp only;omega,by simp only;omega⟩
 show max (2^n*a) z<=k
 have:=hk.1.1;have:=hk.2.2;omega
theorem dJ(R:B8)(z:Nat):∀n a,M1 (fun k=>(2^n*a<=k/\k<2^n*a+2^n)/\gX R k/\z<=k) (Z5 R z n (2^n*a))
 |0,a=>by
  unfold Z5;have e:2^0*a+2^0-1=2^0*a:=by omega
  by_cases h:2^0*a<z \/ ¬Z8 R (2^0*a) (2^0*a)
  .rw [if_pos h];exact oA (by rw[e];exact h)
  rw[if_neg h];have hh:eb R (2^0*a) (2^0*a):=by
   have h9:Z8 R (2^0*a) (2^0*a):=Classical.byContradiction fun h9=>h (.inr h9)
   exact⟨h9.2.1,h9.1,h9.2.2.2,h9.2.2.1⟩
  rw[if_pos hh];exact sA (by rw[e];exact h) (by rw[e];exact hh)
 |n+1,a=>by
  unfold Z5
  by_cases h:2^(n+1)*a+2^(n+1)-1<z \/ ¬Z8 R (2^(n+1)*a) (2^(n+1)*a+2^(n+1)-1)
  .rw [if_pos h];exact oA h
  rw[if_neg h]
  by_cases hh:eb R (2^(n+1)*a) (2^(n+1)*a+2^(n+1)-1)
  .rw [if_pos hh];exact sA h hh
  rw[if_neg hh];have e1:2^(n+1)*a=2^n*(2*a):=by rw[Nat.pow_succ,Nat.mul_assoc]
  have e2:2^(n+1)*a+2^n=2^n*(2*a+1):=by rw[e1,Nat.mul_add,Nat.mul_one]
  have e3:2^(n+1)=2^n+2^n:=by rw[Nat.pow_succ];omega
  have r1:=dJ R z n (2*a);have r2:=dJ R z n (2*a+1);rw[<-e1]at r1;rw[<-e2]at r2
  by_cases hf:(Z5 R z n (2^(n+1)*a)).2=true
  .rw [if_pos hf]
   obtain⟨⟨g1,g2⟩,g3⟩:=r1.1 hf;refine And.intro (fun _=>⟨⟨⟨g1.1,by have:=g1.2;omega⟩,g2⟩,fun k hk=>?_⟩) (fun h9=>by rw[hf]at h9;cases h9)
   by_cases hk2:k<2^(n+1)*a+2^n
   .exact g3 k ⟨⟨hk.1.1,hk2⟩,hk.2⟩
   have:=g1.2;omega
  rw[if_neg hf];have hno:=(r1.2 (by simpa using hf)).2;refine r2.congr fun k=>⟨fun hk=>⟨⟨by have:=hk.1.1;omega,by have:=hk.1.2;omega⟩,hk.2⟩,fun hk=>⟨⟨?_,by have:=hk.1.2;omega⟩,hk.2⟩⟩
  apply Classical.byContradiction;intro hlt;exact hno k ⟨⟨hk.1.1,by omega⟩,hk.2⟩
def pK(z h m:Nat):Nat:=(z ||| (z <<< h) % 2^64) &&& m
def kF(x:Nat):Nat:=pK (pK (pK (pK (pK x 16 281470681808895) 8 71777214294589695) 4 1085102592571150095) 2 3689348814741910323) 1 6148914691236517205
def wvN(x y:Nat):Nat:=kF x ||| (kF y <<< 1) % 2^64
theorem Y7{m h:Nat}(hm:m<2^64)(hd:∀j,j<64->m.testBit j=decide (j % (2*h)<h))(j:Nat):m.testBit j=(decide (j<64)&&decide (j % (2*h)<h)):=by
 by_cases hj:j<64
 .rw [hd j hj,decide_eq_true hj,Bool.true_and]
 rw[decide_eq_false hj,Bool.false_and];exact Nat.testBit_lt_two_pow (Nat.lt_of_lt_of_le hm (Nat.pow_le_pow_right (by decide) (by omega)))
theorem eF{x z m h:Nat}(hh:h=16 \/ h=8 \/ h=4 \/ h=2 \/ h=1)(hz:∀j,z.testBit j=(decide (j<64)&&decide (j % (4*h)<2*h)&&x.testBit (j / (4*h)*(2*h)+j % (2*h))))
  (hm:∀j,m.testBit j=(decide (j<64)&&decide (j % (2*h)<h))) (j:Nat):(pK z h m).testBit j=(decide (j<64)&&decide (j % (2*h)<h)&&x.testBit (j / (2*h)*h+j % h)):=by
 unfold pK;rw[Nat.testBit_and,Nat.testBit_or,Nat.testBit_mod_two_pow,Nat.testBit_shiftLeft,hm,hz,hz]
 by_cases h1:j<64
 .by_cases h2:j % (2*h)<h
  .rw [decide_eq_true h1,decide_eq_true h2]
   simp only[Bool.true_and,Bool.and_true]
   by_cases h3:j % (4*h)<2*h
   .rw [decide_eq_true h3,Bool.true_and]
    have e1:j / (4*h)*(2*h)+j % (2*h)=j / (2*h)*h+j % h:=by rcases hh with rfl|rfl|rfl|rfl|rfl<;>omega
    rw[e1]
    by_cases h4:h<=j
    .have e2:¬(j-h) % (4*h)<2*h:=by rcases hh with rfl|rfl|rfl|rfl|rfl<;>omega
     rw[decide_eq_false e2];simp
    rw[decide_eq_false h4];simp
   rw[decide_eq_false h3];have h4:h<=j:=by rcases hh with rfl|rfl|rfl|rfl|rfl<;>omega
   have e2:(j-h) % (4*h)<2*h:=by rcases hh with rfl|rfl|rfl|rfl|rfl<;>omega
   have e3:(j-h) / (4*h)*(2*h)+(j-h) % (2*h)=j / (2*h)*h+j % h:=by rcases hh with rfl|rfl|rfl|rfl|rfl<;>omega
   rw[decide_eq_true e2,e3,decide_eq_true h4,decide_eq_true (show j-h<64 by omega)];simp
  rw[decide_eq_false h2];simp
 rw[decide_eq_false h1];simp
theorem rD{x:Nat}(hx:x<2^32)(j:Nat):(kF x).testBit j=(decide (j<64)&&decide (j % 2=0)&&x.testBit (j / 2)):=by
 have m1:=fun j=>Y7 (m:=281470681808895) (h:=16) (by decide) (by decide) j
 have m2:=fun j=>Y7 (m:=71777214294589695) (h:=8) (by decide) (by decide) j
 have m3:=fun j=>Y7 (m:=1085102592571150095) (h:=4) (by decide) (by decide) j
 have m4:=fun j=>Y7 (m:=3689348814741910323) (h:=2) (by decide) (by decide) j
 have m5:=fun j=>Y7 (m:=6148914691236517205) (h:=1) (by decide) (by decide) j
 have z0:∀j,x.testBit j=(decide (j<64)&&decide (j % (4*16)<2*16)&&x.testBit (j / (4*16)*(2*16)+j % (2*16))):=fun j=>by
  by_cases hj:j<32
  .rw [decide_eq_true (show j<64 by omega),decide_eq_true (show j % (4*16)<2*16 by omega),show j / (4*16)*(2*16)+j % (2*16)=j by omega];simp
  rw[Nat.testBit_lt_two_pow (Nat.lt_of_lt_of_le hx (Nat.pow_le_pow_right (by decide) (show 32<=j by omega)))]
  by_cases h64:j<64
  .rw [decide_eq_false (show ¬j % (4*16)<2*16 by omega)];simp
  rw[decide_eq_false h64];simp
 have z1:=fun j=>eF (.inl rfl) z0 m1 j
 have z2:=fun j=>eF (.inr (.inl rfl)) z1 m2 j
 have z3:=fun j=>eF (.inr (.inr (.inl rfl))) z2 m3 j
 have z4:=fun j=>eF (.inr (.inr (.inr (.inl rfl)))) z3 m4 j
 have z5:=eF (.inr (.inr (.inr (.inr rfl)))) z4 m5 j;unfold kF;rw[z5,show j / (2*1)*1+j % 1=j / 2 by omega]
 rcases Nat.mod_two_eq_zero_or_one j with h|h<;>simp[h]
theorem pm{x y:Nat}(hx:x<2^32)(hy:y<2^32)(j:Nat):(wvN x y).testBit j=(decide (j<64)&&(if j % 2=0 then x.testBit (j / 2)else y.testBit (j / 2))):=by
 unfold wvN;rw[Nat.testBit_or,Nat.testBit_mod_two_pow,Nat.testBit_shiftLeft,rD hx,rD hy]
 by_cases h1:j<64
 .rcases Nat.mod_two_eq_zero_or_one j with h|h
  .rw [if_pos h,decide_eq_true h1,decide_eq_true h]
   by_cases hj:1<=j
   .rw [decide_eq_false (show ¬(j-1) % 2=0 by omega)];simp
   rw[decide_eq_false hj];simp
  rw[if_neg (by omega),decide_eq_true h1,decide_eq_false (show ¬j % 2=0 by omega),decide_eq_true (show 1<=j by omega),decide_eq_true (show(j-1) % 2=0 by omega),show(j-1) / 2=j / 2 by omega,decide_eq_true (show j-1<64 by omega)];simp
 rw[decide_eq_false h1];simp
theorem pl{x y:Nat}(hx:x<2^32)(hy:y<2^32):wvN x y<2^64:=Nat.lt_pow_two_of_testBit _ fun j hj=>by
 rw[pm hx hy,decide_eq_false (show ¬j<64 by omega)];rfl
theorem qN{x y:Nat}(hx:x<2^32)(hy:y<2^32):crd 0 (wvN x y)=x/\crd 1 (wvN x y)=y:=by
 constructor
 .refine Nat.eq_of_testBit_eq fun i=>?_
  rw[P8,pm hx hy]
  by_cases hi:i<32
  .rw [decide_eq_true hi,decide_eq_true (show 2*i+0<64 by omega),if_pos (by omega),show(2*i+0) / 2=i by omega];simp
  rw[decide_eq_false hi,Nat.testBit_lt_two_pow (Nat.lt_of_lt_of_le hx (Nat.pow_le_pow_right (by decide) (show 32<=i by omega)))];rfl
 refine Nat.eq_of_testBit_eq fun i=>?_
 rw[P8,pm hx hy]
 by_cases hi:i<32
 .rw [decide_eq_true hi,decide_eq_true (show 2*i+1<64 by omega),if_neg (by omega),show(2*i+1) / 2=i by omega];simp
 rw[decide_eq_false hi,Nat.testBit_lt_two_pow (Nat.lt_of_lt_of_le hy (Nat.pow_le_pow_right (by decide) (show 32<=i by omega)))];rfl
structure xd(R:B8):Prop where
 x1:R.x1<2^32
 x2:R.x2<2^32
 y1:R.y1<2^32
 y2:R.y2<2^32
theorem EJ{R:B8}(h:xd R)(k:Nat):inB (wvN R.x1 R.y1) (wvN R.x2 R.y2) k↔gX R k:=by
 have a:=qN h.x1 h.y1;have b:=qN h.x2 h.y2
 constructor
 .intro g
  have g0:=g 0 (by decide);have g1:=g 1 (by decide);rw[<-V5 (by decide),<-V5 (by decide),a.1,b.1]at g0;rw[<-V5 (by decide),<-V5 (by decide),a.2,b.2]at g1;exact⟨g0.1,g0.2,g1.1,g1.2⟩
 rintro⟨g1,g2,g3,g4⟩ c hc
 rw[<-V5 hc,<-V5 hc]
 rcases(show c=0 \/ c=1 by omega)with rfl|rfl
 .rw [a.1,b.1];exact⟨g1,g2⟩
 rw[a.2,b.2];exact⟨g3,g4⟩
theorem Ky{R:B8}(h:xd R)(hI:R.Is){z:Nat}(hz:z<2^64):bmL z 64 (wvN R.x1 R.y1) (wvN R.x2 R.y2) 0 false=Z5 R z 64 0:=by
 have hv:∀c,c<2->mkC c (wvN R.x1 R.y1)<=mkC c (wvN R.x2 R.y2):=fun c hc=>by
  have a:=qN h.x1 h.y1;have b:=qN h.x2 h.y2;rw[<-V5 hc]
  rcases(show c=0 \/ c=1 by omega)with rfl|rfl
  .rw [a.1,b.1];exact hI.1
  rw[a.2,b.2];exact hI.2
 have p:=Kx hz (pl h.x1 h.y1) (pl h.x2 h.y2) hv;have d:=dJ R z 64 0;rw[Nat.mul_zero]at d;refine M1.one p (d.congr fun k=>?_);unfold InQ;rw[EJ h]
 constructor
 .rintro ⟨⟨g1,g2⟩,g3,g4⟩;exact⟨⟨g3,by omega⟩,g4⟩
 rintro⟨⟨g3,g2⟩,g4⟩;exact⟨⟨Nat.zero_le _,by omega⟩,g3,g4⟩
def T8(R:B8)(z:Nat):Nat×Bool:=if R.Is then Z5 R z 64 0 else(0,false)
def j4.rct(J:j4):B8:=⟨J.x1.toNat,J.x2.toNat,J.y1.toNat,J.y2.toNat⟩
def U32(x:Int):Prop:=0<=x/\x<4294967296
structure aW(J:j4):Prop where
 x1:U32 J.x1
 x2:U32 J.x2
 y1:U32 J.y1
 y2:U32 J.y2
theorem aW.ok{J:j4}(h:aW J):xd J.rct:=by
 obtain⟨⟨a0,a1⟩,⟨b0,b1⟩,⟨c0,c1⟩,⟨d0,d1⟩⟩:=h;have e:(2:Nat)^32=4294967296:=by decide
 refine⟨?_,?_,?_,?_⟩<;>(rw[e];unfold j4.rct;dsimp only;omega)
def dM(R:B8)(k:Int):Bool:=decide (R.Is/\gX R k.toNat)
def cS(l:Lab):Int:=if l.bits+szL l=18446744073709551616 then 0 else l.bits+szL l
def gz(l:Lab):Bool:=!decide (l.bits+szL l=18446744073709551616)
def jG(R:B8)(l:Lab):Int:=((T8 R (cS l).toNat).1:Nat)
def kJ(R:B8)(l:Lab):Bool:=gz l&&(T8 R (cS l).toNat).2
abbrev dw:Int:=18446744073709551615
def kE(R:B8)(z:Int)(s:Spt):List Itm:=(hasL s z dw).filter fun i=>dM R i.key
def cj(bk k:Int)(R:B8):Nat->Int->Spt->List Itm->Pst->Rs Rsl
 |0,_,_,_,p=>.stop zWq p
 |n+1,z,s,o,p=>
   if kJ R s.lab=true then(W8 bk k (jG R s.lab) (n+1) s p).bind fun s' p=>cj bk k R n (jG R s.lab) s' (o++kE R z s) p
   else .ok ⟨0,false,⟨#[]⟩,o++kE R z s,0,false⟩ p
def aS(bk k how:Int)(R:B8)(p:Pst):Rs Rsl:=
 if R.Is then(ii bk k how ((T8 R 0).1:Nat) (p.n+1) p).bind fun s q=>cj bk k R (p.n+1) ((T8 R 0).1:Nat) s [] q
 else .ok ⟨5,false,⟨#[]⟩,[],0,false⟩ p
def I4(J:j4)(n:Nat)(f:Nat->s9):Wq×Int:=fX (F8 J&&decide (J.kind=12)&&J9 n f) (aS J.bucket (J.budget-n) J.how J.rct (nM n f))
theorem sG(bk k:Int)(R:B8):∀n z s o p,Fro p (cj bk k R n z s o p)
 |0,z,s,o,p=>aI _ _
 |n+1,z,s,o,p=>l9 ((iW _ _ _ _ _ _).bind fun _ _ _=>sG bk k R n _ _ _ _) (B1 _ _)
theorem EU(bk k how:Int)(R:B8)(p:Pst):Fro p (aS bk k how R p):=l9 ((ly _ _ _ _ _ _).bind fun _ _ _=>sG _ _ _ _ _ _ _ _) (B1 _ _)
theorem EC{R:B8}{z:Nat}(hz:z<2^64):(Z5 R z 64 0).1<2^64:=by
 have h:=dJ R z 64 0;rw[Nat.mul_zero]at h
 cases hr:(Z5 R z 64 0).2 with
 |true=>have:=(h.1 hr).1.1.2;omega
 |false=>rw[(h.2 hr).1];decide
theorem vW{R:B8}{z:Nat}(hz:z<2^64):(T8 R z).1<2^64:=by
 unfold T8
 split
 .exact EC hz
 decide
theorem qp{R:B8}{z:Nat}(hz:z<2^64):U64 ((T8 R z).1:Nat):=by
 have:=vW (R:=R) hz;have e:(2:Nat)^64=18446744073709551616:=by decide
 exact⟨by omega,by omega⟩
theorem qi{l:Lab}(hl:isL l=true)(hb:U64 l.bits):U64 (cS l):=by
 have h1:=qr hl hb;have h2:=zD l;have h3:=hb.1;unfold cS
 split
 .exact ⟨by decide,by decide⟩
 exact⟨by omega,by omega⟩
theorem qj{R:B8}{l:Lab}(hl:isL l=true)(hb:U64 l.bits):U64 (jG R l):=by
 have:=qi hl hb;exact qp (Y5 this)
theorem qv(R:B8)(f:Nat->Itm)(i:Nat):((List.range (i+1)).map f).filter (fun x=>dM R x.key)=((List.range i).map f).filter (fun x=>dM R x.key)++(if dM R (f i).key=true then [f i]else []):=by
 rw[List.range_succ,List.map_append,List.filter_append]
 congr 1
 by_cases h:dM R (f i).key=true<;>simp[h]
end Go.Proofs.YtmbkanpapkhnaaaGreat.Sym
namespace Go.Proofs.YtmbkanpapkhnaaaGreat.Sym
open Go Go.ChangeShapes Go.WideShapes Go.ChangeAt Go.RowKit Go.Deep
theorem pF{b:Int}(h:(Lit.int .u32 b).wf=true):U32 b:=by
 simp[Lit.wf,IntKind.min,IntKind.max,IntKind.signed,IntKind.bits]at h;exact⟨by omega,by omega⟩
section
variable {H:Type} {enc:TypeId×Value->H} {w:World} {base:Nat} {spare:Nat->Bool} {held:Bool}
theorem yO(n:Nat)(cs:List Value)(y:DataW H×List MemPlace)(h:DataW.trod enc Tryz.prog w base spare held n 28 cs=some y):∃x1 x2 y1 y2:Int,cs=[.int .u32 x1,.int .u32 x2,.int .u32 y1,.int .u32 y2]/\U32 x1/\U32 x2/\U32 y1/\U32 y2:=by
 obtain⟨xs,m,rfl,rfl,hlen,hxl,hf⟩:=DataW.trod_struct Tryz.underlying28 h;have hC:Tryz.prog.cellsOf 28=4:=by kernel_rfl
 have h0:DataW.trod enc Tryz.prog w base spare held m 26 ((cs.drop 0).take (Tryz.prog.cellsOf 26))=xs[0]?:=hf 0 _ rfl;have h1:DataW.trod enc Tryz.prog w base spare held m 26 ((cs.drop 1).take (Tryz.prog.cellsOf 26))=xs[1]?:=hf 1 _ rfl;have h2:DataW.trod enc Tryz.prog w base spare held m 26 ((cs.drop 2).take (Tryz.prog.cellsOf 26))=xs[2]?:=hf 2 _ rfl;have h3:DataW.trod enc Tryz.prog w base spare held m 26 ((cs.drop 3).take (Tryz.prog.cellsOf 26))=xs[3]?:=hf 3 _ rfl;rw[hC]at hlen;rw[show Tryz.prog.cellsOf 26=1 by kernel_rfl]at h0 h1 h2 h3
 match cs,hlen with
 | [c0,c1,c2,c3],_=>
  match xs,hxl with
  | [y0,y1,y2,y3],_=>
   obtain⟨a0,e0,_,g0⟩:=DataW.trod_int Tryz.underlying26 h0;obtain⟨a1,e1,_,g1⟩:=DataW.trod_int Tryz.underlying26 h1;obtain⟨a2,e2,_,g2⟩:=DataW.trod_int Tryz.underlying26 h2;obtain⟨a3,e3,_,g3⟩:=DataW.trod_int Tryz.underlying26 h3;simp at e0 e1 e2 e3;subst e0;subst e1;subst e2;subst e3;exact⟨_,_,_,_,rfl,pF g0,pF g1,pF g2,pF g3⟩
theorem BV(n:Nat)(cs:List Value)(y:DataW H×List MemPlace)(h:DataW.trod enc Tryz.prog w base spare held n 30 cs=some y):∃x:j4,cs=(IX x).map AV.den/\OkL w (IX x)/\eu x/\aW x:=by
 obtain⟨xs,m,rfl,rfl,hlen,hxl,hf⟩:=DataW.trod_struct Tryz.underlying30 h;have hC:Tryz.prog.cellsOf 30=15:=by kernel_rfl
 have h0:DataW.trod enc Tryz.prog w base spare held m 3 ((cs.drop 0).take (Tryz.prog.cellsOf 3))=xs[0]?:=hf 0 _ rfl;have h1:DataW.trod enc Tryz.prog w base spare held m 24 ((cs.drop 1).take (Tryz.prog.cellsOf 24))=xs[1]?:=hf 1 _ rfl;have h2:DataW.trod enc Tryz.prog w base spare held m 22 ((cs.drop 3).take (Tryz.prog.cellsOf 22))=xs[2]?:=hf 2 _ rfl;have h3:DataW.trod enc Tryz.prog w base spare held m 22 ((cs.drop 4).take (Tryz.prog.cellsOf 22))=xs[3]?:=hf 3 _ rfl;have h4:DataW.trod enc Tryz.prog w base spare held m 9 ((cs.drop 5).take (Tryz.prog.cellsOf 9))=xs[4]?:=hf 4 _ rfl;have h5:DataW.trod enc Tryz.prog w base spare held m 3 ((cs.drop 6).take (Tryz.prog.cellsOf 3))=xs[5]?:=hf 5 _ rfl;have h6:DataW.trod enc Tryz.prog w base spare held m 25 ((cs.drop 7).take (Tryz.prog.cellsOf 25))=xs[6]?:=hf 6 _ rfl;have h7:DataW.trod enc Tryz.prog w base spare held m 28 ((cs.drop 8).take (Tryz.prog.cellsOf 28))=xs[7]?:=hf 7 _ rfl;have h8:DataW.trod enc Tryz.prog w base spare held m 3 ((cs.drop 12).take (Tryz.prog.cellsOf 3))=xs[8]?:=hf 8 _ rfl;have h9:DataW.trod enc Tryz.prog w base spare held m 3 ((cs.drop 13).take (Tryz.prog.cellsOf 3))=xs[9]?:=hf 9 _ rfl;have h10:DataW.trod enc Tryz.prog w base spare held m 3 ((cs.drop 14).take (Tryz.prog.cellsOf 3))=xs[10]?:=hf 10 _ rfl;rw[hC]at hlen;rw[show Tryz.prog.cellsOf 3=1 by kernel_rfl]at h0 h5 h8 h9 h10;rw[show Tryz.prog.cellsOf 24=2 by kernel_rfl]at h1;rw[show Tryz.prog.cellsOf 22=1 by kernel_rfl]at h2 h3;rw[show Tryz.prog.cellsOf 9=1 by kernel_rfl]at h4;rw[show Tryz.prog.cellsOf 25=1 by kernel_rfl]at h6;rw[show Tryz.prog.cellsOf 28=4 by kernel_rfl]at h7
 match cs,hlen with
 | [c0,c1,c2,c3,c4,c5,c6,c7,c8,c9,c10,c11,c12,c13,c14],_=>
  match xs,hxl with
  | [y0,y1,y2,y3,y4,y5,y6,y7,y8,y9,y10],_=>
   obtain⟨kd,e0,_,_⟩:=DataW.trod_int Tryz.underlying3 h0;obtain⟨l,e1,hl⟩:=ji _ _ _ h1;obtain⟨ky,e2,_,wk⟩:=DataW.trod_int Tryz.underlying22 h2;obtain⟨hi,e3,_,wh⟩:=DataW.trod_int Tryz.underlying22 h3;obtain⟨vl,e4,_,ws⟩:=DataW.trod_string Tryz.underlying9 h4;obtain⟨ms,e5,_,_⟩:=DataW.trod_int Tryz.underlying3 h5;obtain⟨pA,pc,pn,pf,e6,hp⟩:=BW _ _ _ h6;obtain⟨x1,x2,y1,y2,e7,r1,r2,r3,r4⟩:=yO _ _ _ h7;obtain⟨hw,e8,_,_⟩:=DataW.trod_int Tryz.underlying3 h8;obtain⟨bk,e9,_,_⟩:=DataW.trod_int Tryz.underlying3 h9;obtain⟨bg,e10,_,_⟩:=DataW.trod_int Tryz.underlying3 h10;simp only[List.drop_zero,List.drop_succ_cons,List.take_succ_cons,List.take_zero,List.cons.injEq,and_true]at e0 e1 e2 e3 e4 e5 e6 e7 e8 e9 e10;obtain⟨e1,f1⟩:=e1;obtain⟨g0,g1,g2,g3⟩:=e7;subst e0;subst e1;subst f1;subst e2;subst e3;subst e4;subst e5;subst e6;subst g0;subst g1;subst g2;subst g3;subst e8;subst e9;subst e10;exact⟨⟨kd,l,ky,hi,vl,ms,pA,pn,pc,pf,x1,x2,y1,y2,hw,bk,bg⟩,rfl,.int (.int (.int (.int (.int (.cons rfl (.str _ ws) (.int (.cons rfl hp (.int (.int (.int (.int (.int (.int (.int .nil)))))))))))))),⟨hl.u64,lJ wk,lJ wh⟩,⟨r1,r2,r3,r4⟩⟩
variable {r:Reach} {b0:Nat} {v:Value} {d:DataW H} {p:List MemPlace}
def CT(w:World)(v:Value):Prop:=∃J:j4,v=(Z6 J).den/\Ok m0 w (Z6 J)/\eu J/\aW J
theorem EM(hv:Value.okWide Tryz.prog w r b0 30 v)(h:DataW.Trod enc Tryz.prog w base spare held 30 v d p):CT w v:=by
 obtain⟨cs,rfl,_⟩:=okWide_struct Tryz.underlying30 hv;obtain⟨fuel,hf⟩:=h;obtain⟨x,hx,hw⟩:=BV _ _ _ hf;simp only[Value.cells]at hx;obtain⟨l,rfl⟩:∃l:List Value,cs=l.toArray:=⟨cs.toList,by simp⟩
 simp only[List.toList_toArray]at hx;subst hx;exact⟨x,by simp[AV.den,AV.denL],hw.1.agg,hw.2⟩
end
end Go.Proofs.YtmbkanpapkhnaaaGreat.Sym
namespace Go.Proofs.YtmbkanpapkhnaaaGreat.Sym
open Go Go.RowKit
def RA.er(x:RA):RA:=⟨none,0,x.r⟩
def s9.er(g:s9):s9:=⟨g.code,g.ver,g.has,g.x.er⟩
def Pst.er(p:Pst):Pst:=⟨p.n,fun j=>(p.g j).er,p.note⟩
def Rs.er{α : Type}(e:α->α):Rs α->Rs α
 | .ok a p=>.ok (e a) p.er
 | .stop w p=>.stop w p.er
def Fz.er:Fz->Fz
 | .over=>.over
 | .unfit=>.unfit
 | .fr x=>.fr x.er
def Spt.er(s:Spt):Spt:=⟨s.lab,s.g.er⟩
section
variable {α β : Type} {e:α->α} {e2:β->β}
theorem v8{m m':Rs α}{f f':α->Pst->Rs β}(h:m.er e=m')(hf:∀a q,(f a q).er e2=f' (e a) q.er):(m.bind f).er e2=m'.bind f':=by
 subst h
 cases m with
 |ok a p=>exact hf a p
 |stop w p=>rfl
theorem A7{c:Prop} [Decidable c]{x y x' y':Rs α}(hx:x.er e=x')(hy:y.er e=y'):(if c then x else y).er e=if c then x' else y':=by
 split<;>assumption
end
theorem uK(k:Int)(w:Wq)(p:Pst):(K8 k w p).er s9.er=K8 k w p.er:=by
 unfold K8
 by_cases h:0<p.n/\0<(p.n:Int)+k
 .rw [if_pos h,if_pos (show 0<p.er.n/\0<(p.er.n:Int)+k from h)];rfl
 rw[if_neg h,if_neg (show ¬(0<p.er.n/\0<(p.er.n:Int)+k)from h)];rfl
theorem aU(k:Int)(l:Lab)(p:Pst):(M8 k l p).er s9.er=M8 k l p.er:=uK _ _ _
theorem gP(k:Int)(l:Lab)(v:Int)(r:Rec)(p:Pst):(aw k l v r p).er id=aw k l v r p.er:=v8 (uK _ _ _) fun _ _=>rfl
theorem Ju(k:Int)(l:Lab)(v:Int)(p:Pst):(jd k l v p).er id=jd k l v p.er:=v8 (uK _ _ _) fun _ _=>rfl
theorem qH(k:Int)(l:Lab)(v:Int)(c:Lab)(x:Rec):∀n p,(B9 k l v c x n p).er id=B9 k l v c x n p.er
 |0,p=>rfl
 |n+1,p=>v8 (aU _ _ _) fun _ _=>A7 rfl (v8 (aU _ _ _) fun _ _=>A7 (v8 (gP _ _ _ _ _) fun _ _=>A7 rfl (qH k l v c x n _)) rfl)
theorem BA(k:Int)(n:Nat)(l:Lab)(v:Int)(x:RA)(p:Pst):(A4 k n l v x p).er id=A4 k n l v x.er p.er:=
 A7 (v8 (qH _ _ _ _ _ _ _) fun _ _=>A7 (v8 (qH _ _ _ _ _ _ _) fun _ _=>A7 (v8 (gP _ _ _ _ _) fun _ _=>rfl) rfl) rfl) rfl
theorem uH(k:Int)(l:Lab)(v:Int)(c:Lab):∀n p,(P0 k l v c n p).er Fz.er=P0 k l v c n p.er
 |0,p=>rfl
 |n+1,p=>v8 (aU _ _ _) fun _ _=>A7 (A7 rfl (v8 (aU _ _ _) fun _ _=>A7 (v8 (gP _ _ _ _ _) fun _ _=>A7 rfl (uH k l v c n _)) rfl)) rfl
theorem wA(k:Int)(l:Lab)(cl:Lab->Pst->Rs Unit)(h:∀c p,(cl c p).er id=cl c p.er)(c:Lab)(p:Pst):(J0 k l cl c p).er id=J0 k l cl c p.er:=
 v8 (aU _ _ _) fun _ _=>A7 (v8 (h _ _) fun _ _=>v8 (aU _ _ _) fun _ _=>A7 (v8 (Ju _ _ _ _) fun _ _=>rfl) rfl) rfl
theorem uI(k:Int):∀n l p,(G4 k n l p).er id=G4 k n l p.er
 |0,l,p=>rfl
 |n+1,l,p=>A7 rfl (v8 (wA _ _ _ (uI k n) _ _) fun _ _=>A7 (v8 (wA _ _ _ (uI k n) _ _) fun _ _=>rfl) rfl)
theorem uJ(k:Int)(th:Lab->Pst->Rs Unit)(h:∀c p,(th c p).er id=th c p.er)(l:Lab)(v:Int)(p:Pst):(bq k th l v p).er id=bq k th l v p.er:=
 v8 (gP _ _ _ _ _) fun _ _=>A7 (v8 (h _ _) fun _ _=>h _ _) rfl
theorem Js(bk k:Int)(n:Nat)(th:Lab->Pst->Rs Unit)(h:∀c p,(th c p).er id=th c p.er)(l:Lab)(v:Int)(p:Pst):(M3 bk k n th l v p).er id=M3 bk k n th l v p.er:=
 v8 (uH _ _ _ _ _ _) fun a _=>match a with
  | .over=>rfl
  | .unfit=>uJ _ _ h _ _ _
  | .fr a=>v8 (uH _ _ _ _ _ _) fun b _=>match b with
   | .over=>rfl
   | .unfit=>uJ _ _ h _ _ _
   | .fr b=>A7 (v8 (gP _ _ _ _ _) fun _ _=>A7 (uI _ _ _ _) rfl) (uJ _ _ h _ _ _)
theorem BC(bk k:Int)(n:Nat)(th:Lab->Pst->Rs Unit)(h:∀c p,(th c p).er id=th c p.er)(l:Lab)(g:s9)(p:Pst):(eA bk k n th l g p).er id=eA bk k n th l g.er p.er:=
 A7 (BA _ _ _ _ _ _) (A7 (Js _ _ _ _ h _ _ _) rfl)
theorem qG(bk k:Int):∀n l up p,(dy bk k n l up p).er id=dy bk k n l up p.er
 |0,l,up,p=>rfl
 |n+1,l,up,p=>by
  unfold dy;refine v8 (aU _ _ _) fun g q=>A7 (v8 (aU _ _ _) fun q2 p2=>?_) rfl
  have H:=BC bk k n (fun c p=>if R4 c=0 then dy bk k n c (Q5 c) p else .ok () p) (fun c p=>A7 (qG bk k n c (Q5 c) p) rfl) up q2 p2;refine v8 (e:=id) (A7 H rfl) fun _ p3=>?_
  exact A7 (v8 (gP _ _ _ _ _) fun _ _=>A7 rfl (qG bk k n _ _ _)) rfl
theorem uG(bk k:Int)(n:Nat)(l:Lab)(p:Pst):(J6 bk k n l p).er id=J6 bk k n l p.er:=A7 (qG _ _ _ _ _ _) rfl
theorem BB(bk k:Int)(n:Nat)(l:Lab)(g:s9)(p:Pst):(aJ bk k n l g p).er id=aJ bk k n l g.er p.er:=BC _ _ _ _ (uG _ _ _) _ _ _
theorem dR(bk k key:Int):∀n l p,(D9 bk k key n l p).er Spt.er=D9 bk k key n l p.er
 |0,l,p=>rfl
 |n+1,l,p=>v8 (aU _ _ _) fun _ _=>A7 rfl (A7 (v8 (BB _ _ _ _ _ _) fun _ _=>dR bk k key n _ _) (A7 (dR bk k key n _ _) (A7 (v8 (uG _ _ _ _ _) fun _ _=>dR bk k key n _ _) (A7 (v8 (gP _ _ _ _ _) fun _ _=>dR bk k key n _ _) (dR bk k key n _ _)))))
theorem Jt(bk k:Int)(n:Nat)(l:Lab)(p:Pst):(bh bk k n l p).er id=bh bk k n l p.er:=
 A7 (v8 (aU _ _ _) fun _ _=>A7 (v8 (uG _ _ _ _ _) fun _ _=>rfl) rfl) rfl
theorem jM(bk k key:Int):∀n lo hi p,(F6 bk k key n lo hi p).er Spt.er=F6 bk k key n lo hi p.er
 |0,lo,hi,p=>rfl
 |n+1,lo,hi,p=>A7 (v8 (aU _ _ _) fun _ _=>A7 rfl (A7 (jM bk k key n _ _ _) (A7 (v8 (BB _ _ _ _ _ _) fun _ _=>jM bk k key n _ _ _) (A7 (v8 (Jt _ _ _ _ _) fun _ _=>A7 (jM bk k key n _ _ _) (jM bk k key n _ _ _)) (jM bk k key n _ _ _))))) (dR _ _ _ _ _ _)
theorem Jq(bk k how key:Int)(n:Nat)(p:Pst):(ii bk k how key n p).er Spt.er=ii bk k how key n p.er:=A7 (dR _ _ _ _ _ _) (jM _ _ _ _ _ _ _)
theorem Do(r:Rs Rsl):J1 (r.er id)=J1 r:=by cases r<;>rfl
structure aa(r:Rec):Prop where
 nx:U64 r.next.bits
 few:r.items.length<=16
 key:∀x∈r.items,U64 x.key
structure zj(w:Wq):Prop where
 lab:LOk w.lab
 r:aa w.r
def T0{α : Type}(r:Rs α):Prop:=match r with
 | .ok _ _=>True
 | .stop w _=>zj w
theorem U2:aa k6:=⟨⟨by decide,by decide⟩,by decide,fun x hx=>by cases hx⟩
theorem Aa:aa cI:=⟨⟨by decide,by decide⟩,by decide,fun x hx=>by cases hx⟩
theorem ay.ro{x:RA}(h:ay x):aa x.r.abs:=by
 refine⟨h.nx,?_,fun y hy=>?_⟩
 .show (f5 x.r.f x.r.n).length<=16
  rw[j2];exact h.few
 obtain⟨i,hi,rfl⟩:=List.mem_map.1 hy;exact h.key i (List.mem_range.1 hi)
theorem fV:zj zWq:=⟨P5,U2⟩
theorem r7{α β : Type}{m:Rs α}{f:α->Pst->Rs β}(h:T0 m)(hf:∀a q,m = .ok a q->T0 (f a q)):T0 (m.bind f):=by
 cases m with
 |ok a q=>exact hf a q rfl
 |stop w q=>exact h
theorem r9{α : Type}{c:Prop} [Decidable c]{x y:Rs α}(hx:c->T0 x)(hy:¬c->T0 y):T0 (if c then x else y):=by
 by_cases h:c
 .rw [if_pos h];exact hx h
 rw[if_neg h];exact hy h
theorem pz{k:Int}{w:Wq}{p:Pst}(h:zj w):T0 (K8 k w p):=by
 unfold K8;refine r9 (fun _=>trivial) (fun _=>?_)
 show zj _
 split
 .exact ⟨P5,U2⟩
 exact h
theorem U7{k:Int}{l:Lab}{p:Pst}(h:LOk l):T0 (M8 k l p):=pz ⟨h,U2⟩
theorem dr{k:Int}{l:Lab}{v:Int}{r:Rec}{p:Pst}(h:LOk l)(hr:aa r):T0 (aw k l v r p):=r7 (pz ⟨h,hr⟩) fun _ _ _=>trivial
theorem Dd{k:Int}{l:Lab}{v:Int}{p:Pst}(h:LOk l):T0 (jd k l v p):=r7 (pz ⟨h,U2⟩) fun _ _ _=>trivial
theorem lG{k:Int}{l:Lab}{v:Int}{c:Lab}{x:Rec}(hl:LOk l)(hc:LOk c)(hx:aa x):∀n p,T0 (B9 k l v c x n p)
 |0,p=>fV
 |n+1,p=>by
  unfold B9;refine r7 (U7 hc) fun g p1 _=>r9 (fun _=>trivial) fun _=>r7 (U7 hl) fun q p2 _=>r9 (fun _=>?_) fun _=>trivial
  exact r7 (dr hc hx) fun d p3 _=>r9 (fun _=>trivial) fun _=>lG hl hc hx n p3
theorem wL{l:Lab}{its:List Itm}{x:Itm}(h:x∈G8 l its):x∈its:=(List.mem_filter.1 h).1
theorem Ci(l:Lab)(its:List Itm):(G8 l its).length<=its.length:=List.length_filter_le _ _
theorem wr{x:RA}{l:Lab}(h:ay x)(hl:LOk l):aa (M7 x l).1/\aa (M7 x l).2.1:=by
 have hr:=h.ro;unfold M7 K2
 split
 .exact ⟨U2,U2⟩
 split
 .exact ⟨U2,U2⟩
 split
 .exact ⟨U2,U2⟩
 rename_i h64
 refine⟨⟨dU hl.isl hl.u h64 1,Nat.le_trans (Ci _ _) hr.few,fun y hy=>hr.key y (wL hy)⟩,⟨h.nx,Nat.le_trans (Ci _ _) hr.few,fun y hy=>hr.key y (wL hy)⟩⟩
theorem HP{x y:RA}(h:ay x)(h':ay y):aa (ci x y).1:=by
 have hr:=h.ro;have hr':=h'.ro;unfold ci cg
 split
 .exact U2
 split
 .exact U2
 split
 .exact U2
 split
 .exact U2
 rename_i h16
 refine⟨h'.nx,?_,fun z hz=>?_⟩
 .show (f5 x.r.f x.r.n++f5 y.r.f y.r.n).length<=16
  rw[List.length_append,j2,j2];omega
 rcases List.mem_append.1 hz with hz|hz
 .exact hr.key z hz
 exact hr'.key z hz
theorem xj{k:Int}{n:Nat}{l:Lab}{v:Int}{x:RA}{p:Pst}(hl:LOk l)(hx:ay x):T0 (A4 k n l v x p):=by
 unfold A4;refine r9 (fun _=>?_) fun _=>trivial
 refine r7 (lG hl (hl.ch 0) (wr hx hl).1 n p) fun go p1 _=>r9 (fun _=>?_) fun _=>trivial
 refine r7 (lG hl (hl.ch 1) (wr hx hl).2 n p1) fun go p2 _=>r9 (fun _=>?_) fun _=>trivial
 exact r7 (dr hl Aa) fun _ _ _=>trivial
theorem pq{k:Int}{l:Lab}{v:Int}{c:Lab}(hl:LOk l)(hc:LOk c):∀n p,j3 p->T0 (P0 k l v c n p)
 |0,p,_=>fV
 |n+1,p,hp=>by
  unfold P0;refine r7 (U7 hc) fun g p1 e1=>r9 (fun _=>r9 (fun _=>trivial) fun _=>?_) fun _=>trivial
  have hp1:=hp.suf ((k8 k c p).of e1);refine r7 (U7 hl) fun q p2 e2=>r9 (fun _=>?_) fun _=>trivial
  have hp2:=hp1.suf ((k8 k l p1).of e2);refine r7 (dr hc ((hp.get e1).ra.as 5 v).ro) fun d p3 e3=>r9 (fun _=>trivial) fun _=>?_
  exact pq hl hc n p3 (hp2.suf ((A5 _ _ _ _ _).of e3))
theorem rz{k:Int}{l:Lab}{cl:Lab->Pst->Rs Unit}{c:Lab}(hl:LOk l)(hc:LOk c)(hcl:∀c p,LOk c->T0 (cl c p))(p:Pst):T0 (J0 k l cl c p):=by
 unfold J0;refine r7 (U7 hc) fun g p1 _=>r9 (fun _=>?_) fun _=>trivial
 refine r7 (hcl c p1 hc) fun _ p2 _=>r7 (U7 hl) fun q p3 _=>r9 (fun _=>?_) fun _=>trivial
 exact r7 (Dd hc) fun _ _ _=>trivial
theorem pt{k:Int}:∀(n:Nat) (l:Lab) (p:Pst),LOk l->T0 (G4 k n l p)
 |0,l,p,_=>fV
 |n+1,l,p,hl=>by
  unfold G4;refine r9 (fun _=>trivial) fun _=>r7 (rz hl (hl.ch 0) (fun c p hc=>pt n c p hc) p) fun go p1 _=>r9 (fun _=>?_) fun _=>trivial
  exact r7 (rz hl (hl.ch 1) (fun c p hc=>pt n c p hc) p1) fun _ _ _=>trivial
theorem pu{k:Int}{th:Lab->Pst->Rs Unit}{l:Lab}{v:Int}(hl:LOk l)(hth:∀c p,LOk c->j3 p->T0 (th c p))(hfr:∀c p,Fro p (th c p)){p:Pst}(hp:j3 p):T0 (bq k th l v p):=by
 unfold bq;refine r7 (dr hl Aa) fun d p1 e1=>r9 (fun _=>?_) fun _=>trivial
 have hp1:=hp.suf ((A5 _ _ _ _ _).of e1);exact r7 (hth _ _ (hl.ch 0) hp1) fun _ p2 e2=>hth _ _ (hl.ch 1) (hp1.suf ((hfr _ _).of e2))
theorem Db{bk k:Int}{n:Nat}{th:Lab->Pst->Rs Unit}{l:Lab}{v:Int}(hl:LOk l)(hth:∀c p,LOk c->j3 p->T0 (th c p))(hfr:∀c p,Fro p (th c p)){p:Pst}(hp:j3 p):T0 (M3 bk k n th l v p):=by
 unfold M3;refine r7 (pq hl (hl.ch 0) n p hp) fun a p1 e1=>?_
 have hp1:=hp.suf ((bj _ _ _ _ _ _).of e1)
 cases a with
 |over=>trivial
 |unfit=>exact pu hl hth hfr hp1
 |fr a=>
  refine r7 (pq hl (hl.ch 1) n p1 hp1) fun b p2 e2=>?_
  have hp2:=hp1.suf ((bj _ _ _ _ _ _).of e2)
  cases b with
  |over=>trivial
  |unfit=>exact pu hl hth hfr hp2
  |fr b=>
   refine r9 (fun _=>?_) fun _=>pu hl hth hfr hp2
   exact r7 (dr hl (HP (gM hp e1) (gM hp1 e2))) fun d p3 _=>r9 (fun _=>pt n l p3 hl) fun _=>trivial
theorem vj{bk k:Int}{n:Nat}{th:Lab->Pst->Rs Unit}{l:Lab}{g:s9}(hl:LOk l)(hg:ew g)(hth:∀c p,LOk c->j3 p->T0 (th c p))(hfr:∀c p,Fro p (th c p)){p:Pst}(hp:j3 p):T0 (eA bk k n th l g p):=by
 unfold eA;exact r9 (fun _=>xj hl hg.ra) fun _=>r9 (fun _=>Db hl hth hfr hp) fun _=>trivial
theorem sF(bk k:Int)(n:Nat)(c:Lab)(p:Pst):Fro p (if R4 c=0 then dy bk k n c (Q5 c) p else .ok () p:Rs Unit):=l9 (iU _ _ _ _ _ _) (B1 _ _)
theorem lF{bk k:Int}:∀(n:Nat) (l up:Lab) (p:Pst),LOk l->LOk up->j3 p->T0 (dy bk k n l up p)
 |0,l,up,p,_,_,_=>fV
 |n+1,l,up,p,hl,hu,hp=>by
  unfold dy;refine r7 (U7 hl) fun g p1 e1=>r9 (fun _=>?_) fun _=>trivial
  have hp1:=hp.suf ((k8 _ _ _).of e1);refine r7 (U7 hu) fun q p2 e2=>?_
  have hp2:=hp1.suf ((k8 _ _ _).of e2);refine r7 (r9 (fun _=>vj hu (hp1.get e2) (fun c p hc hp=>show T0 (if R4 c=0 then dy bk k n c (Q5 c) p else .ok () p:Rs Unit)from r9 (fun _=>lF n c (Q5 c) p hc hc.par hp) fun _=>trivial) (sF bk k n) hp2) fun _=>trivial) fun _ p3 e3=>r9 (fun _=>?_) fun _=>trivial
  have hp3:=hp2.suf (Fro.of (l9 (qE _ _ _ _ (sF bk k n) _ _ _) (B1 _ _)) e3);refine r7 (dr hl ((hp.get e1).ra.as 1 0).ro) fun d p4 e4=>r9 (fun _=>trivial) fun _=>?_
  exact lF n l up p4 hl hu (hp3.suf ((A5 _ _ _ _ _).of e4))
theorem po{bk k:Int}{n:Nat}{l:Lab}{p:Pst}(hl:LOk l)(hp:j3 p):T0 (J6 bk k n l p):=r9 (fun _=>lF n l _ p hl hl.par hp) fun _=>trivial
theorem vh{bk k:Int}{n:Nat}{l:Lab}{g:s9}{p:Pst}(hl:LOk l)(hg:ew g)(hp:j3 p):T0 (aJ bk k n l g p):=vj hl hg (fun c p hc hp=>po hc hp) (F9 _ _ _) hp
theorem zu{r:Rs Rsl}(h:T0 r):zj (J1 r).1:=by
 cases r with
 |ok a p=>
  unfold J1;simp only
  split
  .exact fV
  exact⟨P5,U2⟩
 |stop w p=>
  unfold J1;simp only
  split
  .exact fV
  exact h
end Go.Proofs.YtmbkanpapkhnaaaGreat.Sym
namespace Go.Proofs.YtmbkanpapkhnaaaGreat.Sym
open Go Go.RowKit
namespace Cl
theorem etyI:cN Tryz.prog 33 62 2 24 (.agg #[.int .u64 0,.string ⟨#[]⟩]):=⟨by kernel_rfl,by kernel_rfl,rfl,by decide⟩
def itmE(x:Itm):List Value:=[.int .u64 x.key,.string x.val]
theorem M6(x:Itm):(itmE x).length=2:=rfl
theorem kY{m:Nat->Nat->Prop}{w:World}{A:Option Addr}{k:Nat}{l:List Itm}(hl:l.length<=k)(hk:k<=maxLen)(hs:∀x∈l,x.val.size<=maxLen)
  (h:0<(l.flatMap itmE).length->∃b off,A=some ⟨b,off,none⟩/\∀j u,(l.flatMap itmE)[j]? = some u->w.cell? ⟨b,off+j,none⟩=some u/\¬m b (off+j)):Ok m w (s4 A l.length k (itF l)):=by
 have hg:∀i (hi:i<l.length),itF l i=l[i]:=fun i hi=>by simp[itF,List.getD,hi]
 have hpos:∀i,i<l.length->0<(l.flatMap itmE).length:=fun i hi=>by rw[I7 M6];omega
 refine .sl _ _ _ _ _ _ hl hk (fun i _=>rfl) (fun i hi=>?_) (fun i hi j u hu=>?_) (fun i hi v hv=>?_) (fun i hi v hv=>?_)
 .obtain ⟨b,off,hA,_⟩:=h (hpos i hi);exact⟨b,off,hA⟩
 .obtain ⟨b,off,hA,hc⟩:=h (hpos i hi)
  have hu':(itmE (itF l i))[j]? = some u:=hu;rw[hg i hi]at hu';exact⟨b,off,hA,hc _ u (iX M6 (List.getElem?_eq_getElem hi) hu')⟩
 .simp only[itC,List.mem_cons,List.not_mem_nil,or_false]at hv
  rcases hv with rfl|rfl<;>rfl
 simp only[itC,List.mem_cons,List.not_mem_nil,or_false]at hv
 rcases hv with rfl|rfl
 .exact .int _ _
 exact .str _ (by rw[hg i hi];exact hs _ (List.getElem_mem hi))
variable {H:Type} {enc:TypeId×Value->H} {w:World} {base:Nat} {spare:Nat->Bool} {held:Bool}
theorem mF(x:Itm):∀v∈itmE x,v.oneCell'=true:=by
 intro v hv;simp only[itmE,List.mem_cons,List.not_mem_nil,or_false]at hv
 rcases hv with rfl|rfl<;>rfl
theorem rowFlat_its(l:List Itm):j6 (fun i=>itC (itF l i)) l.length=l.flatMap itmE:=by
 have key:∀n,n<=l.length->j6 (fun i=>itC (itF l i)) n=(l.take n).flatMap itmE:=by
  intro n
  induction n with
  |zero=>intro _;simp[j6]
  |succ n ih=>
   intro h;rw[I3,ih (by omega),List.take_succ_eq_append_getElem (by omega),List.flatMap_append];simp[itF,List.getD,List.getElem?_eq_getElem (show n<l.length by omega)];rfl
 have:=key l.length (Nat.le_refl _)
 rwa[List.take_length]at this
theorem its_reads{m:Nat->Nat->Prop}{w:World}{A:Option Addr}{c:Nat}{l:List Itm}(h:Ok m w (s4 A l.length c (itF l))):ax itmE w w.heap.size A l:=by
 have:=cQ h;rw[rowFlat_its]at this;exact this
theorem mE{m:Nat->Nat->Prop}{w:World}{A:Option Addr}{c:Nat}{l:List Itm}(h:Ok m w (s4 A l.length c (itF l))):∀x∈l,x.val.size<=maxLen:=by
 intro x hx;obtain⟨i,hi,rfl⟩:=List.mem_iff_getElem.1 hx
 cases h with
 |sl _ _ _ _ _ _ h1 h2 h3 h4 h5 h6 h7=>
  have:=h7 i hi (.str (itF l i).val) (by simp[itC])
  cases this with|str _ h=>simpa[itF,List.getD,hi]using h
theorem qc{m:Nat->Nat->Prop}{w:World}{B:Nat}{e:TypeId}{A:Option Addr}{n c:Nat}{l:List Itm}(h:ve itmE 2 w B e (.slice A n c) l)(hm:∀b o,m b o->b<B)(hs:∀x∈l,x.val.size<=maxLen):Ok m w (s4 A l.length c (itF l)):=by
 obtain⟨A',c',he,h1,h2⟩:=Own.isSlice h;injection he with e1 e2 e3;subst e3;subst e2
 refine kY h1 h2 hs fun hp=>?_
 rw[I7 M6]at hp;obtain⟨b,hA,hb⟩:=M2 h (by omega);refine⟨b,0,hA,fun j u hu=>⟨by rw[Nat.zero_add];exact N5 h hb j u hu,fun hmm=>?_⟩⟩;have:=(Own.lt h b hb).1;have:=hm _ _ hmm;omega
theorem clone_c(w:World)(A:Option Addr)(k:Nat)(l:List Itm)(hr:ax itmE w w.heap.size A l)(hl:l.length<2147483000) :
  Calls Tryz.prog 72 #[.slice A l.length k] w fun e w'=>∃v',e = .returned v'/\ve itmE 2 w' w.heap.size 62 v' l/\Below w.heap.size w w':=by
 have hq:∀(A:Option Addr) (n k:Nat) (w:World),(binOp .eql 33 (.slice A n k) (.slice none 0 0)).run Tryz.prog w = .ok (.bool A.isNone) w:=fun A n k w=>Go.Lib.run_eql_slice_nil w _ _ A n k 0 0 Tryz.underlying33
 cases A with
 |none=>
  obtain rfl:l=[]:=by
   refine List.eq_nil_of_length_eq_zero (Nat.eq_zero_of_not_pos fun h=>?_);obtain⟨b,off,he,_⟩:=hr.at_ (k:=2) M6 (by decide) h
   cases he
  clear hr
  go_enter Tryz.func72,Tryz.ntmps72
  go_wp2_with fail
  go_ret
  exact⟨_,rfl,Own.nil _ _ _ _ _,Below.refl _ _⟩
 |some a=>
  obtain⟨W1,hW1⟩:=eqv (w.alloc (.cells #[] 62));have hb1:Below w.heap.size w W1:=by rw[hW1];exact(Below.refl _ _).alloc (Nat.le_refl _) _
  obtain⟨v',w',hr',hO,hG,hv⟩:=eO (P:=Tryz.prog) etyI 33 (Own.nil W1 w.heap.size 62 2 (some ⟨w.heap.size,0,none⟩)) (some a) l.length k (l.flatMap itmE) (I7 M6 l) (hr.below hb1) (sI mF l) (by simp only[maxLen];omega) (by omega) hb1.size;rw[Nat.zero_add,List.nil_append]at hO;have HO:Hid (ve itmE 2 w' w.heap.size 62 v' l/\Below w.heap.size w w'):=⟨hO,hb1.grown hG hb1.size fun g hg=>by simp[B4]at hg⟩;rw[hW1]at hr';clear hO hG hv hb1 hW1
  go_enter Tryz.func72,Tryz.ntmps72
  go_wp2_with (at_builtin;refine Y2 hr' rfl (.tmp 5) (.tmp 6) rfl rfl rfl rfl ?_)
  go_ret
  exact⟨_,rfl,HO.out⟩
theorem qP(A:Option Addr)(c:Nat)(l:List Itm)(hs:l.length<2147483000):k9 Tryz.prog 72 [s4 A l.length c (itF l)] (fun y=>s4 (y.A 0) l.length (y.c 0) (itF l)):=by
 intro m w hm ha;have h1:=ha (s4 A l.length c (itF l)) (by simp);refine(clone_c w A c l (its_reads h1) hs).mono ?_
 rintro e w' ⟨v',rfl,ho,hb⟩
 obtain⟨A',c',rfl,_,_⟩:=Own.isSlice ho;exact⟨⟨0,fun _=>A',fun _=>c',fun _=>⟨#[]⟩⟩,rfl,qc ho hm (mE h1),hb⟩
theorem clone_sf(A:Option Addr)(n c:Nat)(f:Nat->Itm)(hs:n<2147483000):k9 Tryz.prog 72 [s4 A n c f] (fun y=>s4 (y.A 0) n (y.c 0) f):=by
 have h:=qP A c (f5 f n) (by rw[j2];exact hs);have e:∀A c,Sim (s4 A (f5 f n).length c (itF (f5 f n))) (s4 A n c f):=fun A c=>Sim.resl (j2 f n) fun t ht=>by rw[u6 f n t ht]
 have e':∀A c,Sim (s4 A n c f) (s4 A (f5 f n).length c (itF (f5 f n))):=fun A c=>Sim.resl (j2 f n).symm fun t ht=>by rw[j2]at ht;rw[u6 f n t ht]
 intro m w hm ha;have h2:k9 Tryz.prog 72 [s4 A n c f] (fun y=>s4 (y.A 0) (f5 f n).length (y.c 0) (itF (f5 f n))):=h.sim ⟨e' A c,trivial⟩;refine(h2 m w hm ha).mono ?_
 rintro en w' ⟨x,rfl,hok,hb⟩
 exact⟨x,by rw[(e (x.A 0) (x.c 0)).1],(e (x.A 0) (x.c 0)).2.2 _ _ hok,hb⟩
end Cl
end Go.Proofs.YtmbkanpapkhnaaaGreat.Sym
namespace Go.Proofs.YtmbkanpapkhnaaaGreat.Sym
open Go Go.RowKit
theorem BH:l8 Tryz.prog 50:=fun _ _=>by kernel_rfl
theorem Hd(x:RA)(hn:x.r.n<=1000000):k9 Tryz.prog 50 [J7 x] (fun y=>J7 ⟨y.A 0,y.c 0,x.r⟩):=by
 intro m w hm hargs;have S:=Cl.clone_sf x.A x.r.n x.c x.r.f (by omega);simp only[s4]at S;refine en 8 hm hargs Tryz.func50 fun B O a0 Z=>?_
 refine a6 [1,2] [1,2] Z fun X0 Z=>?_
 have O1:=S;refine i9 [1,2] [1,2] [(2,.r fun y=>.sl none (y.A 0) x.r.n (y.c 0) 2 (fun t=>itC (x.r.f t)))] Z fun X1 Z=>?_
 refine a6 [2] [2] Z fun X2 Z=>?_
 refine i8 ((rsi O a8 Z (⟨0,fun _=>(X1 2).A 0,fun _=>(X1 2).c 0,fun _=>⟨#[]⟩⟩) (he:=?_)));subst O;exact zr
theorem ne:l8 Tryz.prog 17:=fun _ _=>by kernel_rfl
theorem Hh(A:Option Addr)(n c:Nat)(f:Nat->D4)(hn:n<=maxLen)(hN:∀i,i<n->(f i).x.r.n<=1000000/\u0 (f i).lab/\U64 (f i).lab.bits/\U64 (f i).x.r.nx.bits):P9 Tryz.prog 17 [cP A n c f] [] none noK (fun y=>(match dF (J8 f n)with|none=>⟨.tup [.nilp,.int .i64 1],[],[]⟩|some L=>⟨.tup [.ptr 14 y.b 0,.int .i64 0],[],[(14,⟨y.b,95,[.raw (.map (some (y.c 0))),.int .i64 0]⟩)]⟩)) (fun N y=>(match dF (J8 f n)with|none=>noK|some L=>shF N (y.c 0) L)):=by
 intro m w hm hargs hpre hI;have hmx:maxLen=9223372036854775807:=rfl;refine enM (bo:=none) 58 hm hpre hI hargs Tryz.func17 fun B O a0 Z=>?_
 refine a7 (rg O a8 [0] [] [] Z fun X0 a0 w1 Z=>?_);refine a7 (a7 (rg O a8 [11,0] [] [] Z fun X1 a0 w1 Z=>?_));apply b7 Z rfl<;>intro hb Z
 .have hbig:2000<n:=by
   have:(2000:Int)<(n:Int):=by subst O;simpa[std,d4]using hb
   omega
  have hW:dF (J8 f n)=none:=by unfold dF;rw[if_pos (by rw[V7];exact hbig)]
  refine a7 (rg O a8 [2,3] [14] [] Z fun X2 a0 w1 Z=>?_);refine i8 ((rm O a8 Z (⟨0,fun _=>none,fun _=>0,fun _=>⟨#[]⟩⟩) [] (he:=?_) (hs:=?_) (hn:=?_) (hJ:=?_)).1)
  .subst O;simp only[hW];exact zr
  .simp only[hW];exact trivial
  .simp only[hW];exact trivial
  simp only[hW];exact fun _ _ _=>trivial
 have hbig:n<=2000:=by
  have:¬(2000:Int)<(n:Int):=by subst O;simpa[std,d4]using hb
  omega
 have hS:dF (J8 f n)=gE (J8 f n) []:=by unfold dF;rw[if_neg (by rw[V7];omega)]
 refine f8 (a7 (wp_region_lit (eY (k:=24) (e:=0) rfl rfl rfl rfl Z (Nat.le_of_ble_eq_true rfl) (shK w1.heap.size []) (fun m w' _ _ hM=>⟨_,fun _=>(none,0),ShD.empty hM _⟩) ?_)));obtain⟨bM,hbM⟩:=eqv (w1.heap.size);rw[<-hbM];intro a0 w1 hfresh Z;have hbfr:w.heap.size<=bM:=hfresh;refine lnd 1 O a8 [4,0] [14] [] Z fun X3 a0 w1 Z=>?_
 refine a7 (a7 (rg O a8 [17,16,15,4] [14] [] Z fun X4 a0 w1 Z=>?_));refine j1 (fF (ι:=Nat×Shf) (fun p=>shK bM p.2) (fun p=>[(17,.int .i64 (p.1:Int))]) (fun p=>[]) (fun p=>[]) (fun p=>p.1<=n/\p.2.length<=p.1/\gE (J8 f n) []=gE ((J8 f n).drop p.1) p.2) (fun p=>n-p.1) (0,[]) ⟨Nat.zero_le _,Nat.le_refl _,rfl⟩ Z ?_)
 rintro⟨i,L⟩ ⟨hi,hk,hnew⟩ a0 w1 Z
 try dsimp only at hi
 try dsimp only at hk
 try dsimp only at hnew
 replace Z:=Z.withK (K':=shK bM L) Z.kept;refine a7 (rg O a8 [18,17,16,15,4] [14] [] Z fun X5 a0 w1 Z=>?_);refine a7 (b7 Z rfl (fun hb Z=>?_) (fun hb Z=>?_))
 .have hin:i<n:=by
   have:(i:Int)<(n:Int):=by subst O;simpa[std,d4]using hb
   omega
  obtain⟨hN1,hN2,hN3,hN4⟩:=hN i hin;have S2:=fZ (f i).lab hN3;have S3:=mH (f i).x.A (f i).x.r.n (f i).x.c (f i).x.r.f (by omega) (f i).x.r.kd (f i).x.r.nx (f i).x.r.mrk hN4;rw[<-lm]at S3;simp only[i6,R3,s4]at S2 S3;obtain⟨il,hil⟩:=eqv (isL (f i).lab);obtain⟨ir,hir⟩:=eqv (isR (f i).x.r.abs);rw[<-hil]at S2;rw[<-hir]at S3;have hstep:=xT (f:=f) (L:=L) hin;rw[<-hil,<-hir]at hstep;refine f8 (a7 (j1 (a7 ?_)));refine rg O a8 [6,17,16,15,4] [6,14] [] Z (hob:=by intro X;subst O;simp only[i7,Ob.holds,BE.den]<;>and_intros<;>repeat first|trivial|rfl|exact(show(0:Int)<=(i:Int)by omega)|exact(show(i:Int)<(n:Int)by omega)|exact(fun _ _=>by kernel_rfl)|refine⟨?_,?_⟩|intro h|exact Int.le_refl _|decide|omega) fun X6 a0 w1 Z=>?_
  replace Z:=Z.memS (cells':=J2 (f i)) (by subst O;exact zl);obtain⟨D,E,hSh⟩:=Z.kept;replace Z:=Z.withK (K':=shD D E bM L) hSh;have hlab:u0 (f i).lab:=hN2;obtain⟨el,hel⟩:=eqv (elA (adr E L) (f i).lab (D7 L (f i).lab));obtain⟨hh,hhh⟩:=eqv ((E0 (f i).lab L).isSome);refine a7 (a7 ?_);apply V4 O 13 (some (6,[.tmp 25,.tmp 27],[.raw (.map (some bM)),.agg [.int .i64 (f i).lab.len,.int .u64 (f i).lab.bits]],.tup [.agg [.int .u64 el.w.ver,.bool (.v el.has),.int .i64 el.w.x.r.kd,.sl none el.w.x.A el.w.x.r.n el.w.x.c 2 (fun i=>itC (el.w.x.r.f i)),.int .i64 el.w.x.r.nx.len,.int .u64 el.w.x.r.nx.bits,.int .u64 el.w.x.r.mrk],.bool (.v hh)])) ?hH (by kernel_rfl) a8 [8,6,17,16,15,4] [6,14] [] Z rfl
  case hH=>exact oH hlab hel hhh (fun o h=>by cases h;rfl)
  case hex=>intro A X;conv=>lhs;cbv
  case hD=>kernel_rfl
  case hZ=>kernel_rfl
  case hlen=>rfl
  case hob=>
   intro X;subst O;simp only[i7,Ob.holds,BE.den]<;>and_intros<;>intros<;>trivial
  case hQ=>
  intro X7 a0 w1 Z;replace Z:=Z.withK (K':=shK bM L) ⟨D,E,Z.kept⟩;have O1:=S2;have O2:=S3;refine wpList_nil (a7 (rg O a8 [43,6,17,16,15,4] [6,14] [(4,.r fun _=>.bool (.v il)),(10,.r fun _=>.bool (.v ir))] Z fun X8 a0 w1 Z=>?_));apply b7 Z rfl<;>intro hb Z
  .have h9:(if(if hh=true then true else !il)=true then true else !ir)=true:=by subst O;exact hb
   have hW:dF (J8 f n)=none:=by
    rw[hS,hnew,hstep,<-hhh]
    cases hh<;>cases il<;>cases ir<;>first|rfl|(simp at h9)
   refine a7 (rg O a8 [2,3] [14] [] Z fun X9 a0 w1 Z=>?_);refine i8 ((rm O a8 Z (⟨0,fun _=>none,fun _=>0,fun _=>⟨#[]⟩⟩) [] (he:=?_) (hs:=?_) (hn:=?_) (hJ:=?_)).1)
   .subst O;simp only[hW];exact zr
   .simp only[hW];exact trivial
   .simp only[hW];exact trivial
   simp only[hW];exact fun _ _ _=>trivial
  have h9:(if(if hh=true then true else !il)=true then true else !ir)=false:=by subst O;exact hb
  have h10:(hh || !il || !ir)=false:=by cases hh<;>cases il<;>cases ir<;>first|rfl|(simp at h9)
  rw[<-hhh,h10]at hstep;obtain⟨L2,hL2⟩:=eqv (cm (f i).lab ⟨(f i).ver,true,(f i).x.r.abs⟩ L);have hstep:gE ((J8 f n).drop i) L=gE ((J8 f n).drop (i+1)) L2:=by rw[hL2];exact hstep
  have SO:=Hd (f i).x hN1;have hL2n:L2.length<=i+1:=by rw[hL2,iA _ _ hSh.ris];split<;>omega
  refine f8 ?_;apply V4 O 12 none ?hH (by kernel_rfl) a8 [47,49,55,17,16,15,4] [14] [(10,.r fun y=>.agg [.int .i64 (f i).x.r.kd,.sl none (y.A 0) (f i).x.r.n (y.c 0) 2 (fun t=>itC ((f i).x.r.f t)),.int .i64 (f i).x.r.nx.len,.int .u64 (f i).x.r.nx.bits,.int .u64 (f i).x.r.mrk])] Z rfl
  case hH=>exact L5
  case hex=>intro A X;conv=>lhs;cbv
  case hD=>kernel_rfl
  case hZ=>kernel_rfl
  case hlen=>rfl
  case hob=>
   intro X;subst O;simp only[i7,Ob.holds,BE.den]<;>(and_intros<;>repeat first|trivial|rfl|exact BH|exact SO|refine⟨?_,?_⟩|intro h)
  case hQ=>
  intro X10 a0 w1 Z;obtain⟨D2,E2,hSh2⟩:=Z.kept;refine K4 (k:=24) (e:=97) rfl rfl rfl rfl Z rfl rfl rfl rfl rfl dK eX hSh2.map (by omega) (P6 hlab) (fun h=>absurd h (by omega)) (shK bM L2) (fun m w' hk hkb hv hM=>?_) ?_
  .rw [hL2]
   refine pO hSh2.map hlab hk hkb (x:=⟨⟨(f i).lab,(f i).ver,⟨(X10 10).A 0,(X10 10).c 0,(f i).x.r⟩⟩,true⟩) ?_ hv hM;exact Sim.agg ⟨zr,Sim.tt,zr,zr,zr,zr,zr,trivial⟩
  intro w1 Z;replace Z:=Z.keep [17,16,15,4] [14];refine wpList_nil (rg O a8 [17,16,15,4] [14] [] Z fun X11 a0 w1 Z=>?_);have e:B.arith .add .i64 (i:Int) 1=((i+1:Nat):Int):=by subst O;exact k4 (n:=n) hin (by omega)
  refine⟨(i+1,L2),⟨by simp only;omega,hL2n,hnew.trans hstep⟩,by simp only;omega,by rw[<-e];exact Z⟩
 have hout:i=n:=by
  have:¬(i:Int)<(n:Int):=by subst O;simpa[std,d4]using hb
  omega
 have hW:dF (J8 f n)=some L:=by rw[hS,hnew,List.drop_eq_nil_of_le (by rw[V7];omega)];rfl
 refine j9 (a7 (rg O a8 [2,3] [14] [] Z fun X12 a0 w1 Z=>?_));refine i8 ((rm O a8 Z (⟨(X3 2).b,fun _=>none,fun _=>bM,fun _=>⟨#[]⟩⟩) [14] (he:=?_) (hs:=?_) (hn:=?_) (hJ:=?_)).1)
 .subst O;simp only[hW];exact zr
 .simp only[hW];exact trivial
 .simp only[hW]
  exact⟨⟨_,rfl,zl⟩,fun e he=>(by cases he),(by simp),trivial⟩
 simp only[hW];exact fun _ _ h=>⟨hbfr,h⟩
theorem BG:l8 Tryz.prog 51:=fun _ _=>by kernel_rfl
theorem Gb(b bM:Nat)(L:Shf)(hL:L.length<=100000)(k:Int)(q:B0)(hl:u0 q.lab)(x z:SpA):P9 Tryz.prog 51 [.ptr 0 b 0,E5 q,.agg (elC x),.agg (elC z),.bool .tt] [(0,⟨b,95,[.raw (.map (some bM)),.int .i64 k]⟩)] (some bM) (shK bM L) (fun y=>⟨.tup [B2 (cY y (W0 L q.lab q.ver x.w.ver true ⟨z.w.ver,z.has,z.w.x.r.abs⟩).got),.int .i64 (W0 L q.lab q.ver x.w.ver true ⟨z.w.ver,z.has,z.w.x.r.abs⟩).err],[(0,[.raw (.map (some bM)),.int .i64 (if(W0 L q.lab q.ver x.w.ver true ⟨z.w.ver,z.has,z.w.x.r.abs⟩).wrote then IntKind.i64.wrap (k+1)else k)])],[]⟩) (fun _ _=>shK bM (W0 L q.lab q.ver x.w.ver true ⟨z.w.ver,z.has,z.w.x.r.abs⟩).L):=by
 intro m w hm hargs hpre hI;have hmx:maxLen=9223372036854775807:=rfl;have hmp:=J4 hI;obtain⟨CD,hCD⟩:=eqv ((W0 L q.lab q.ver x.w.ver true ⟨z.w.ver,z.has,z.w.x.r.abs⟩));rw[<-hCD];refine enM (bo:=some bM) 50 hm hpre hI hargs Tryz.func51 fun B O a0 Z=>?_
 refine a6 [0,4,6,7,8,10] [0,6,7,8,10] Z fun X0 Z=>?_
 refine a7 (j1 (a6 [12,0,4,6,7,8,10] [0,6,7,8,10] Z fun X1 Z=>?_));apply b7 Z rfl<;>intro hb Z
 .have hv:q.ver≠x.w.ver:=by subst O;simpa[std,d4]using hb
  have hW:CD=⟨L,false,⟨8,x.w.ver,false,k6⟩,0⟩:=by rw[hCD];unfold W0;rw[if_pos hv]
  refine a6 [10,11] [0,10] Z fun X2 Z=>?_
  refine i8 ((rm O a8 Z (⟨0,fun _=>none,fun _=>0,fun _=>⟨#[]⟩⟩) [] (hmap:=?_) (he:=?_) (hs:=?_) (hJ:=?_)).1)
  .intro b hb;cases hb;exact⟨hmp,fun m h=>J4 h⟩
  .subst O;simp only[hW]
   exact Sim.tup ⟨Sim.agg ⟨zr,zr,zr,zr,zq0,zr,zr,zr,trivial⟩,zr,trivial⟩
  .subst O;simp only[hW]
   exact⟨rfl,⟨_,rfl,zl⟩,trivial⟩
  simp only[hW];exact fun _ _ h=>h
 have hv:¬q.ver≠x.w.ver:=by subst O;simpa[std,d4]using hb
 refine a6 [21,0,6,8,10] [0,6,8,10] Z fun X3 Z=>?_
 obtain⟨L2,hL2⟩:=eqv (cm q.lab ⟨z.w.ver,z.has,z.w.x.r.abs⟩ L);have hW:CD=⟨L2,true,⟨0,z.w.ver,false,k6⟩,0⟩:=by rw[hCD,hL2];unfold W0;rw[if_neg hv,if_neg (fun h=>by cases h.1)]
 refine l4 Z rfl (fun Z=>?_);refine f8 (a7 ?_);apply V4 O 7 none ?hH (by kernel_rfl) a8 [36,38,39,0,8,10] [0,8,10] [] Z rfl
 case hH=>exact L5
 case hex=>intro A X;conv=>lhs;cbv
 case hD=>kernel_rfl
 case hZ=>kernel_rfl
 case hlen=>rfl
 case hob=>
  intro X;subst O;simp only[i7,Ob.holds,BE.den]<;>and_intros<;>intros<;>trivial
 case hQ=>
 intro X5 a0 w1 Z;obtain⟨D2,E2,hSh2⟩:=Z.kept;refine K4 (k:=24) (e:=97) rfl rfl rfl rfl Z rfl rfl rfl rfl rfl dK eX hSh2.map (by omega) (P6 hl) (fun _=>.inr rfl) (shK bM L2) (fun m w' hk hkb hv hM=>?_) ?_
 .rw [hL2];exact pO hSh2.map hl hk hkb (x:=⟨⟨q.lab,z.w.ver,z.w.x⟩,z.has⟩) (zr) hv hM
 intro w1 Z;replace Z:=Z.keep [0,8,10] [0,8,10];refine wpList_nil (a6 [8,10] [0,8,10] Z fun X6 Z=>?_);refine a6 [10,11] [0,10] Z fun X7 Z=>?_
 refine i8 ((rm O a8 Z (⟨0,fun _=>none,fun _=>0,fun _=>⟨#[]⟩⟩) [] (hmap:=?_) (he:=?_) (hs:=?_) (hJ:=?_)).1)
 .intro b hb;cases hb;exact⟨hmp,fun m h=>J4 h⟩
 .subst O;simp only[hW]
  exact Sim.tup ⟨Sim.agg ⟨zr,zr,zr,zr,zq0,zr,zr,zr,trivial⟩,zr,trivial⟩
 .subst O;simp only[hW]
  exact⟨rfl,⟨_,rfl,zl⟩,trivial⟩
 simp only[hW];exact fun _ _ h=>h
theorem Kq(k0:Nat)(b bM:Nat)(L:Shf)(hL:L.length<=100000)(k:Int)(q:B0)(hl:u0 q.lab)(x z:SpA):P9 Tryz.prog 51 [.ptr k0 b 0,E5 q,.agg (elC x),.agg (elC z),.bool .tt] [(k0,⟨b,95,[.raw (.map (some bM)),.int .i64 k]⟩)] (some bM) (shK bM L) (fun y=>⟨.tup [B2 (cY y (W0 L q.lab q.ver x.w.ver true ⟨z.w.ver,z.has,z.w.x.r.abs⟩).got),.int .i64 (W0 L q.lab q.ver x.w.ver true ⟨z.w.ver,z.has,z.w.x.r.abs⟩).err],[(k0,[.raw (.map (some bM)),.int .i64 (if(W0 L q.lab q.ver x.w.ver true ⟨z.w.ver,z.has,z.w.x.r.abs⟩).wrote then IntKind.i64.wrap (k+1)else k)])],[]⟩) (fun _ _=>shK bM (W0 L q.lab q.ver x.w.ver true ⟨z.w.ver,z.has,z.w.x.r.abs⟩).L):=
 (Gb b bM L hL k q hl x z).re (by repeat(first|exact trivial|refine⟨Sim.ptr,?_⟩|refine⟨Sim.fn ⟨Sim.ptr,trivial⟩ trivial,?_⟩|refine⟨Sim.fn trivial ⟨Sim.ptr,trivial⟩,?_⟩|refine⟨zr,?_⟩)) rfl (fun x=>⟨rfl,rfl,zr,rfl⟩)
theorem Gc(b bM:Nat)(L:Shf)(hL:L.length<=100000)(k:Int)(q:B0)(hl:u0 q.lab)(x z:SpA):P9 Tryz.prog 51 [.ptr 0 b 0,E5 q,.agg (elC x),.agg (elC z),.bool .ff] [(0,⟨b,95,[.raw (.map (some bM)),.int .i64 k]⟩)] (some bM) (shK bM L) (fun y=>⟨.tup [B2 (cY y (W0 L q.lab q.ver x.w.ver false ⟨z.w.ver,z.has,z.w.x.r.abs⟩).got),.int .i64 (W0 L q.lab q.ver x.w.ver false ⟨z.w.ver,z.has,z.w.x.r.abs⟩).err],[(0,[.raw (.map (some bM)),.int .i64 (if(W0 L q.lab q.ver x.w.ver false ⟨z.w.ver,z.has,z.w.x.r.abs⟩).wrote then IntKind.i64.wrap (k+1)else k)])],[]⟩) (fun _ _=>shK bM (W0 L q.lab q.ver x.w.ver false ⟨z.w.ver,z.has,z.w.x.r.abs⟩).L):=by
 intro m w hm hargs hpre hI;have hmx:maxLen=9223372036854775807:=rfl;have hmp:=J4 hI;obtain⟨CD,hCD⟩:=eqv ((W0 L q.lab q.ver x.w.ver false ⟨z.w.ver,z.has,z.w.x.r.abs⟩));rw[<-hCD];refine enM (bo:=some bM) 50 hm hpre hI hargs Tryz.func51 fun B O a0 Z=>?_
 refine a6 [0,4,6,7,8,10] [0,6,7,8,10] Z fun X0 Z=>?_
 refine a7 (j1 (a6 [12,0,4,6,7,8,10] [0,6,7,8,10] Z fun X1 Z=>?_));apply b7 Z rfl<;>intro hb Z
 .have hv:q.ver≠x.w.ver:=by subst O;simpa[std,d4]using hb
  have hW:CD=⟨L,false,⟨8,x.w.ver,false,k6⟩,0⟩:=by rw[hCD];unfold W0;rw[if_pos hv]
  refine a6 [10,11] [0,10] Z fun X2 Z=>?_
  refine i8 ((rm O a8 Z (⟨0,fun _=>none,fun _=>0,fun _=>⟨#[]⟩⟩) [] (hmap:=?_) (he:=?_) (hs:=?_) (hJ:=?_)).1)
  .intro b hb;cases hb;exact⟨hmp,fun m h=>J4 h⟩
  .subst O;simp only[hW]
   exact Sim.tup ⟨Sim.agg ⟨zr,zr,zr,zr,zq0,zr,zr,zr,trivial⟩,zr,trivial⟩
  .subst O;simp only[hW]
   exact⟨rfl,⟨_,rfl,zl⟩,trivial⟩
  simp only[hW];exact fun _ _ h=>h
 have hv:¬q.ver≠x.w.ver:=by subst O;simpa[std,d4]using hb
 refine a7 (wp_region_lit (lpr 0 7 O a8 [24,28,0,6,8,10] [0,6,8,10] [] Z fun X3_0 a0 w1 Z=>?_));obtain⟨D,E,hSh⟩:=Z.kept;obtain⟨zz,hzz⟩:=eqv (Maps.size D);have hzl:zz=L.length:=hzz.trans hSh.size;refine Dl (xl Z rfl rfl rfl) (sq rfl rfl rfl rfl rfl rfl rfl Z (Nat.le_of_ble_eq_true rfl) rfl eX hSh.map ?_);rw[<-hzz];intro a0 Z;refine lnd 8 O a8 [21,0,6,8,10] [0,6,8,10] [] Z fun X3 a0 w1 Z=>?_
 apply b7 Z rfl<;>intro hb Z
 .have hfull:2000<=L.length:=by
   have:(2000:Int)<=(zz:Int):=by subst O;simpa[std,d4]using hb
   omega
  have hW:CD=⟨L,false,L6,12⟩:=by rw[hCD];unfold W0;rw[if_neg hv,if_pos ⟨rfl,hfull⟩]
  refine a6 [10,11] [0,10] Z fun X4 Z=>?_
  refine i8 ((rm O a8 Z (⟨0,fun _=>none,fun _=>0,fun _=>⟨#[]⟩⟩) [] (hmap:=?_) (he:=?_) (hs:=?_) (hJ:=?_)).1)
  .intro b hb;cases hb;exact⟨hmp,fun m h=>J4 h⟩
  .subst O;simp only[hW]
   exact Sim.tup ⟨Sim.agg ⟨zr,zr,zr,zr,zq0,zr,zr,zr,trivial⟩,zr,trivial⟩
  .subst O;simp only[hW]
   exact⟨rfl,⟨_,rfl,zl⟩,trivial⟩
  simp only[hW];exact fun _ _ h=>h
 have hfull:¬2000<=L.length:=by
  have:¬(2000:Int)<=(zz:Int):=by subst O;simpa[std,d4]using hb
  omega
 obtain⟨L2,hL2⟩:=eqv (cm q.lab ⟨z.w.ver,z.has,z.w.x.r.abs⟩ L);have hW:CD=⟨L2,true,⟨0,z.w.ver,false,k6⟩,0⟩:=by rw[hCD,hL2];unfold W0;rw[if_neg hv,if_neg (fun h=>hfull h.2)]
 refine f8 (a7 ?_);apply V4 O 7 none ?hH (by kernel_rfl) a8 [36,38,39,0,8,10] [0,8,10] [] Z rfl
 case hH=>exact L5
 case hex=>intro A X;conv=>lhs;cbv
 case hD=>kernel_rfl
 case hZ=>kernel_rfl
 case hlen=>rfl
 case hob=>
  intro X;subst O;simp only[i7,Ob.holds,BE.den]<;>and_intros<;>intros<;>trivial
 case hQ=>
 intro X5 a0 w1 Z;obtain⟨D2,E2,hSh2⟩:=Z.kept;refine K4 (k:=24) (e:=97) rfl rfl rfl rfl Z rfl rfl rfl rfl rfl dK eX hSh2.map (by omega) (P6 hl) (fun _=>.inr rfl) (shK bM L2) (fun m w' hk hkb hv hM=>?_) ?_
 .rw [hL2];exact pO hSh2.map hl hk hkb (x:=⟨⟨q.lab,z.w.ver,z.w.x⟩,z.has⟩) (zr) hv hM
 intro w1 Z;replace Z:=Z.keep [0,8,10] [0,8,10];refine wpList_nil (a6 [8,10] [0,8,10] Z fun X6 Z=>?_);refine a6 [10,11] [0,10] Z fun X7 Z=>?_
 refine i8 ((rm O a8 Z (⟨0,fun _=>none,fun _=>0,fun _=>⟨#[]⟩⟩) [] (hmap:=?_) (he:=?_) (hs:=?_) (hJ:=?_)).1)
 .intro b hb;cases hb;exact⟨hmp,fun m h=>J4 h⟩
 .subst O;simp only[hW]
  exact Sim.tup ⟨Sim.agg ⟨zr,zr,zr,zr,zq0,zr,zr,zr,trivial⟩,zr,trivial⟩
 .subst O;simp only[hW]
  exact⟨rfl,⟨_,rfl,zl⟩,trivial⟩
 simp only[hW];exact fun _ _ h=>h
theorem Kr(k0:Nat)(b bM:Nat)(L:Shf)(hL:L.length<=100000)(k:Int)(q:B0)(hl:u0 q.lab)(x z:SpA):P9 Tryz.prog 51 [.ptr k0 b 0,E5 q,.agg (elC x),.agg (elC z),.bool .ff] [(k0,⟨b,95,[.raw (.map (some bM)),.int .i64 k]⟩)] (some bM) (shK bM L) (fun y=>⟨.tup [B2 (cY y (W0 L q.lab q.ver x.w.ver false ⟨z.w.ver,z.has,z.w.x.r.abs⟩).got),.int .i64 (W0 L q.lab q.ver x.w.ver false ⟨z.w.ver,z.has,z.w.x.r.abs⟩).err],[(k0,[.raw (.map (some bM)),.int .i64 (if(W0 L q.lab q.ver x.w.ver false ⟨z.w.ver,z.has,z.w.x.r.abs⟩).wrote then IntKind.i64.wrap (k+1)else k)])],[]⟩) (fun _ _=>shK bM (W0 L q.lab q.ver x.w.ver false ⟨z.w.ver,z.has,z.w.x.r.abs⟩).L):=
 (Gc b bM L hL k q hl x z).re (by repeat(first|exact trivial|refine⟨Sim.ptr,?_⟩|refine⟨Sim.fn ⟨Sim.ptr,trivial⟩ trivial,?_⟩|refine⟨Sim.fn trivial ⟨Sim.ptr,trivial⟩,?_⟩|refine⟨zr,?_⟩)) rfl (fun x=>⟨rfl,rfl,zr,rfl⟩)
theorem Mu(k0:Nat)(b bM:Nat)(L:Shf)(hL:L.length<=100000)(k:Int)(q:B0)(hl:u0 q.lab)(x z:SpA)(hh:Bool):P9 Tryz.prog 51 [.ptr k0 b 0,E5 q,.agg (elC x),.agg (elC z),.bool (.v hh)] [(k0,⟨b,95,[.raw (.map (some bM)),.int .i64 k]⟩)] (some bM) (shK bM L) (fun y=>⟨.tup [B2 (cY y (W0 L q.lab q.ver x.w.ver hh ⟨z.w.ver,z.has,z.w.x.r.abs⟩).got),.int .i64 (W0 L q.lab q.ver x.w.ver hh ⟨z.w.ver,z.has,z.w.x.r.abs⟩).err],[(k0,[.raw (.map (some bM)),.int .i64 (if(W0 L q.lab q.ver x.w.ver hh ⟨z.w.ver,z.has,z.w.x.r.abs⟩).wrote then IntKind.i64.wrap (k+1)else k)])],[]⟩) (fun _ _=>shK bM (W0 L q.lab q.ver x.w.ver hh ⟨z.w.ver,z.has,z.w.x.r.abs⟩).L):=by
 cases hh with
 |true=>exact(Kq k0 b bM L hL k q hl x z).args ⟨zr,zr,zr,zr,Sim.bool rfl,trivial⟩
 |false=>exact(Kr k0 b bM L hL k q hl x z).args ⟨zr,zr,zr,zr,Sim.bool rfl,trivial⟩
theorem Fh{L:Shf}{w:Wnt}(hg:(w.kind=1 \/ w.kind=2 \/ w.kind=3)/\isL w.lab=true/\(w.kind=2->isR w.r=true))(hk:¬w.kind=1):doL L w=W0 L w.lab w.ver (D7 L w.lab).ver (E0 w.lab L).isSome ⟨inc (D7 L w.lab).ver,decide (w.kind=2),if w.kind=2 then w.r else k6⟩:=by
 refine(if_pos hg).trans ((if_neg hk).trans ?_);unfold W0
 by_cases hv:w.ver=(D7 L w.lab).ver
 .have h1:¬w.ver≠(D7 L w.lab).ver:=fun h=>h hv
  have e:((E0 w.lab L).isNone=true/\2000<=L.length)=((E0 w.lab L).isSome=false/\2000<=L.length):=by
   cases E0 w.lab L<;>simp
  refine(if_neg h1).trans (Eq.symm ((if_neg h1).trans ?_));rw[<-hv];simp only[<-e];rfl
 exact(if_pos hv).trans (if_pos hv).symm
theorem jb:l8 Tryz.prog 18:=fun _ _=>by kernel_rfl
theorem Mp(b bM:Nat)(L:Shf)(hL:L.length<=100000)(k:Int)(q:B0)(hwn:q.x.r.n<=maxLen)(hl:u0 q.lab)(hwb:U64 q.lab.bits)(hwx:U64 q.x.r.nx.bits):P9 Tryz.prog 18 [.ptr 0 b 0,E5 q] [(0,⟨b,95,[.raw (.map (some bM)),.int .i64 k]⟩)] (some bM) (shK bM L) (fun y=>⟨.tup [B2 (cY y (doL L q.abs).got),.int .i64 (doL L q.abs).err],[(0,[.raw (.map (some bM)),.int .i64 (if(doL L q.abs).wrote then IntKind.i64.wrap (k+1)else k)])],[]⟩) (fun _ _=>shK bM (doL L q.abs).L):=by
 intro m w hm hargs hpre hI;have hmx:maxLen=9223372036854775807:=rfl;have hmp:=J4 hI;have S1:=fZ q.lab hwb;have S2:=mH q.x.A q.x.r.n q.x.c q.x.r.f (by omega) q.x.r.kd q.x.r.nx q.x.r.mrk hwx;rw[<-lm]at S2;simp only[i6,R3,s4]at S1 S2;obtain⟨il,hil⟩:=eqv (isL q.lab);obtain⟨ir,hir⟩:=eqv (isR q.x.r.abs);rw[<-hil]at S1;rw[<-hir]at S2;obtain⟨D0,hD⟩:=eqv ((doL L q.abs));rw[<-hD]
 skip
 refine enM (bo:=some bM) 70 hm hpre hI hargs Tryz.func18 fun B O a0 Z=>?_
 refine a6 [0,3,4] [0,3,4] Z fun X0 Z=>?_
 refine a7 (a6 [10,0,3,4] [0,3,4] Z fun X1 Z=>?_);refine l4 Z rfl (fun Z=>?_);obtain⟨DM,E,hSh⟩:=Z.kept;replace Z:=Z.withK (K':=shD DM E bM L) hSh;obtain⟨el,hel⟩:=eqv (elA (adr E L) q.lab (D7 L q.lab));obtain⟨hh,hhh⟩:=eqv ((E0 q.lab L).isSome);refine f8 (a7 ?_);apply V4 O 13 (some (6,[.tmp 16,.tmp 18],[.raw (.map (some bM)),.agg [.int .i64 q.lab.len,.int .u64 q.lab.bits]],.tup [.agg [.int .u64 el.w.ver,.bool (.v el.has),.int .i64 el.w.x.r.kd,.sl none el.w.x.A el.w.x.r.n el.w.x.c 2 (fun i=>itC (el.w.x.r.f i)),.int .i64 el.w.x.r.nx.len,.int .u64 el.w.x.r.nx.bits,.int .u64 el.w.x.r.mrk],.bool (.v hh)])) ?hH (by kernel_rfl) a8 [0,3,4,6,7] [0,3,4,6] [] Z rfl
 case hH=>exact oH hl hel hhh (fun o h=>by cases h;rfl)
 case hex=>intro A X;conv=>lhs;cbv
 case hD=>kernel_rfl
 case hZ=>kernel_rfl
 case hlen=>rfl
 case hob=>
  intro X;subst O;simp only[i7,Ob.holds,BE.den]<;>and_intros<;>intros<;>trivial
 case hQ=>
 intro X3 _ _ Z;replace Z:=Z.withK (K':=shK bM L) ⟨DM,E,Z.kept⟩;have hev:el.w.ver=(D7 L q.lab).ver:=by rw[hel]
 have heh:el.has=(D7 L q.lab).has:=by rw[hel]
 have her:el.w.x.r.abs=(D7 L q.lab).r:=by rw[hel];exact nG _
 refine wpList_nil (a6 [0,3,4,6,7,8] [8,0,3,4,6] Z fun X4 Z=>?_);obtain⟨vi,hvi⟩:=eqv (inc (D7 L q.lab).ver);replace Z:=Z.memS (cells':=[.int .u64 vi,.bool .ff,.int .i64 0,.sl none none 0 0 2 (fun _=>[]),.int .i64 0,.int .u64 0,.int .u64 0]) ⟨(by subst O;rw[hvi,<-hev];exact zr),zr,zr,zr,zr,zr,zr,trivial⟩;refine a7 (j1 (a7 (wK (ι:=SpA) (S0:=[]) (M0:=[(8,_)]) (G0:=[]) (fun z=>[]) (fun z=>[(8,⟨(X4 4).b,97,elC z⟩)]) (fun z=>[]) (fun z=>¬q.kind=1/\z.w.ver=vi/\((q.kind=1 \/ q.kind=2 \/ q.kind=3)/\isL q.lab=true/\(q.kind=2->isR q.x.r.abs=true))/\z.has=decide (q.kind=2)/\z.w.x.r.abs=(if q.kind=2 then q.x.r.abs else k6)) Z ?_ ?_)))
 .have O1:=S1
  refine j1 (a7 (j1 (a7 (j1 (a7 (j1 (a7 (a7 (i9 [26,0,3,4,6,7,8] [8,0,3,4,6] [(2,.r fun _=>.bool (.v il))] Z fun X5 Z=>?_)))))))));apply b7 Z rfl<;>intro hb Z
  .have h9:(!il)=true:=by subst O;exact hb
   have hbad:¬((q.kind=1 \/ q.kind=2 \/ q.kind=3)/\isL q.lab=true/\(q.kind=2->isR q.x.r.abs=true)):=by rw[<-hil];intro h;rw[h.2.1]at h9;cases h9
   have hW:D0=⟨L,false,L6,1⟩:=by rw[hD];exact if_neg hbad
   refine j9 (a7 (a6 [4,5] [0,4] Z fun X9 Z=>?_));refine i8 ((rm O a8 Z (⟨0,fun _=>none,fun _=>0,fun _=>⟨#[]⟩⟩) [] (hmap:=?_) (he:=?_) (hs:=?_) (hJ:=?_)).1)
   .intro b hb;cases hb;exact⟨hmp,fun m h=>J4 h⟩
   .subst O;simp only[hW]
    exact Sim.tup ⟨Sim.agg ⟨zr,zr,zr,zr,zq0,zr,zr,zr,trivial⟩,zr,trivial⟩
   .subst O;simp only[hW]
    exact⟨rfl,⟨_,rfl,zl⟩,trivial⟩
   simp only[hW];exact fun _ _ h=>h
  have hl1:isL q.lab=true:=by
   have h9:(!il)=false:=by subst O;exact hb
   rw[<-hil];simpa using h9
  refine f8 (a7 (a6 [31,0,3,4,6,7,8] [8,0,3,4,6] Z fun X6 Z=>?_));apply b7 Z rfl<;>intro hb Z
  .have hk1:q.kind=1:=by subst O;simpa[std,d4]using hb
   have hgd:((q.kind=1 \/ q.kind=2 \/ q.kind=3)/\isL q.lab=true/\(q.kind=2->isR q.x.r.abs=true)):=⟨.inl hk1,hl1,fun h=>by omega⟩;have hW:D0=⟨L,false,⟨0,el.w.ver,el.has,el.w.x.r.abs⟩,0⟩:=by rw[hD,hev,heh,her];refine(if_pos hgd).trans ?_;exact if_pos hk1
   refine j9 (a7 (a6 [4,5] [0,4] Z fun X10 Z=>?_));refine i8 ((rm O a8 Z (spY none 0 (fun _=>zSp) el.w.x.A el.w.x.c 0) [] (hmap:=?_) (he:=?_) (hs:=?_) (hJ:=?_)).1)
   .intro b hb;cases hb;exact⟨hmp,fun m h=>J4 h⟩
   .subst O;simp only[hW]
    exact Sim.tup ⟨Sim.agg (EQ (v:=⟨0,el.w.ver,el.has,el.w.x⟩) rfl rfl rfl),zr,trivial⟩
   .subst O;simp only[hW]
    exact⟨rfl,⟨_,rfl,zl⟩,trivial⟩
   simp only[hW];exact fun _ _ h=>h
  have hk1:¬q.kind=1:=by subst O;simpa[std,d4]using hb
  refine f8 (a7 (a6 [35,0,3,4,6,7,8] [8,0,3,4,6] Z fun X7 Z=>?_));apply b7 Z rfl<;>intro hb Z
  .have hk2:q.kind=2:=by subst O;simpa[std,d4]using hb
   have O1:=S2;refine j9 (a7 (i9 [54,0,3,4,6,7,8] [8,0,3,4,6] [(2,.r fun _=>.bool (.v ir))] Z fun X11 Z=>?_));apply b7 Z rfl<;>intro hb Z
   .have h9:(!ir)=true:=by subst O;exact hb
    have hbad:¬((q.kind=1 \/ q.kind=2 \/ q.kind=3)/\isL q.lab=true/\(q.kind=2->isR q.x.r.abs=true)):=by rw[<-hir];intro h;rw[h.2.2 hk2]at h9;cases h9
    have hW:D0=⟨L,false,L6,1⟩:=by rw[hD];exact if_neg hbad
    refine a6 [4,5] [0,4] Z fun X12 Z=>?_
    refine i8 ((rm O a8 Z (⟨0,fun _=>none,fun _=>0,fun _=>⟨#[]⟩⟩) [] (hmap:=?_) (he:=?_) (hs:=?_) (hJ:=?_)).1)
    .intro b hb;cases hb;exact⟨hmp,fun m h=>J4 h⟩
    .subst O;simp only[hW]
     exact Sim.tup ⟨Sim.agg ⟨zr,zr,zr,zr,zq0,zr,zr,zr,trivial⟩,zr,trivial⟩
    .subst O;simp only[hW]
     exact⟨rfl,⟨_,rfl,zl⟩,trivial⟩
    simp only[hW];exact fun _ _ h=>h
   have hr1:isR q.x.r.abs=true:=by
    have h9:(!ir)=false:=by subst O;exact hb
    rw[<-hir];simpa using h9
   have S3:=Hd q.x (by have h8:=hr1;rw[lm]at h8;have:=(bB h8).2.2.1;omega);have O1:=S3;refine f8 (f7 [0,3,4,6,7,8] [8,0,3,4,6] [(2,.r fun y=>.agg [.int .i64 q.x.r.kd,.sl none (y.A 0) q.x.r.n (y.c 0) 2 (fun t=>itC (q.x.r.f t)),.int .i64 q.x.r.nx.len,.int .u64 q.x.r.nx.bits,.int .u64 q.x.r.mrk])] Z fun X13 Z=>?_);refine⟨⟨⟨q.lab,vi,⟨(X13 2).A 0,(X13 2).c 0,q.x.r⟩⟩,true⟩,⟨hk1,rfl,⟨.inr (.inl hk2),hl1,fun _=>hr1⟩,?_,?_⟩,Z.memS (cells':=elC ⟨⟨q.lab,vi,⟨(X13 2).A 0,(X13 2).c 0,q.x.r⟩⟩,true⟩) ⟨zr,Sim.tt,zr,zr,zr,zr,zr,trivial⟩⟩
   .rw [decide_eq_true hk2]
   rw[if_pos hk2]
  have hk2:¬q.kind=2:=by subst O;simpa[std,d4]using hb
  refine f8 (a6 [39,0,3,4,6,7,8] [8,0,3,4,6] Z fun X8 Z=>?_);apply b7 Z rfl<;>intro hb Z
  .have hk3:q.kind=3:=by subst O;simpa[std,d4]using hb
   refine j9 (⟨⟨⟨q.lab,vi,zRA⟩,false⟩,⟨hk1,rfl,⟨.inr (.inr hk3),hl1,fun h=>by omega⟩,?_,?_⟩,Z.memS (cells':=elC ⟨⟨q.lab,vi,zRA⟩,false⟩) ⟨zr,Sim.ff,zr,zq0,zr,zr,zr,trivial⟩⟩)
   .rw [decide_eq_false (by omega)]
   rw[if_neg (by omega)];rfl
  have hk3:¬q.kind=3:=by subst O;simpa[std,d4]using hb
  have hbad:¬((q.kind=1 \/ q.kind=2 \/ q.kind=3)/\isL q.lab=true/\(q.kind=2->isR q.x.r.abs=true)):=fun h=>by rcases h.1 with h|h|h;exact hk1 h;exact hk2 h;exact hk3 h
  have hW:D0=⟨L,false,L6,1⟩:=by rw[hD];exact if_neg hbad
  refine f8 (j9 (a6 [4,5] [0,4] Z fun X15 Z=>?_));refine i8 ((rm O a8 Z (⟨0,fun _=>none,fun _=>0,fun _=>⟨#[]⟩⟩) [] (hmap:=?_) (he:=?_) (hs:=?_) (hJ:=?_)).1)
  .intro b hb;cases hb;exact⟨hmp,fun m h=>J4 h⟩
  .subst O;simp only[hW]
   exact Sim.tup ⟨Sim.agg ⟨zr,zr,zr,zr,zq0,zr,zr,zr,trivial⟩,zr,trivial⟩
  .subst O;simp only[hW]
   exact⟨rfl,⟨_,rfl,zl⟩,trivial⟩
  simp only[hW];exact fun _ _ h=>h
 rintro z ⟨hk1,hz1,hgd,hz2,hz3⟩ _ _ Z
 try dsimp only at hk1
 try dsimp only at hz1
 try dsimp only at hgd
 try dsimp only at hz2
 try dsimp only at hz3
 have SC:=Mu 0 b bM L hL k q hl el z hh;obtain⟨CD,hCD⟩:=eqv (W0 L q.lab q.ver el.w.ver hh ⟨z.w.ver,z.has,z.w.x.r.abs⟩);rw[<-hCD]at SC;have hDC:D0=CD:=by
  rw[hD,hCD,Fh (w:=q.abs) hgd hk1,hz1,hz2,hz3,hvi,hev,hhh];rfl
 obtain⟨G,hG⟩:∃G:j8->s9,G=fun y=>cY y CD.got:=⟨_,rfl⟩
 have hGG:∀y,cY y CD.got=G y:=fun y=>by rw[hG]
 simp only[hGG]at SC;obtain⟨k2,hk2⟩:=eqv ((if CD.wrote then IntKind.i64.wrap (k+1)else k));rw[<-hk2]at SC;refine a7 (a7 (wp_region_lit (lpr 0 5 O a8 [61,62,63,64,65,4] [0,4] [] Z fun X14_0 _ _ Z=>?_)));refine I8 rfl rfl rfl rfl Z rfl rfl BG SC (fun _ _ h=>h) (fun b hb=>by cases hb;exact fun _=>.inr rfl) (zl) (by intro e he;simp only[List.mem_singleton]at he;subst he;rfl) rfl rfl (fun _=>shK bM CD.L) (fun _ _ _ _ _ _ _ _ _ h=>h) ?_;intro y _ _ Z;refine lnd 6 O a8 [4,5] [0,4] [] Z fun X14 _ _ Z=>?_
 refine i8 ((rm O a8 Z (y) [] (hmap:=?_) (he:=?_) (hs:=?_) (hJ:=?_)).1)
 .intro b hb;cases hb;exact⟨hmp,fun m h=>J4 h⟩
 .subst O;rw[hDC,hGG];exact zr
 .rw [hDC,<-hk2]
  exact⟨rfl,⟨_,rfl,zl⟩,trivial⟩
 rw[hDC];exact fun _ _ h=>h
theorem Fg(k0:Nat)(b bM:Nat)(L:Shf)(hL:L.length<=100000)(k:Int)(q:B0)(hwn:q.x.r.n<=maxLen)(hl:u0 q.lab)(hwb:U64 q.lab.bits)(hwx:U64 q.x.r.nx.bits):P9 Tryz.prog 18 [.ptr k0 b 0,E5 q] [(k0,⟨b,95,[.raw (.map (some bM)),.int .i64 k]⟩)] (some bM) (shK bM L) (fun y=>⟨.tup [B2 (cY y (doL L q.abs).got),.int .i64 (doL L q.abs).err],[(k0,[.raw (.map (some bM)),.int .i64 (if(doL L q.abs).wrote then IntKind.i64.wrap (k+1)else k)])],[]⟩) (fun _ _=>shK bM (doL L q.abs).L):=
 (Mp b bM L hL k q hwn hl hwb hwx).re (by repeat(first|exact trivial|refine⟨Sim.ptr,?_⟩|refine⟨Sim.fn ⟨Sim.ptr,trivial⟩ trivial,?_⟩|refine⟨Sim.fn trivial ⟨Sim.ptr,trivial⟩,?_⟩|refine⟨zr,?_⟩)) rfl (fun x=>⟨rfl,rfl,zr,rfl⟩)
end Go.Proofs.YtmbkanpapkhnaaaGreat.Sym
namespace Go.Proofs.YtmbkanpapkhnaaaGreat.Sym
open Go Go.RowKit
open Go.Sort (flatK HoldsK putRowK get_flatK size_flatK)
section
variable {α : Type} [Inhabited α] {k:Nat} {cells:α->List AV} {w w':World} {B e:Nat} {A:Option Addr} {n c:Nat} {h:Nat->α}
abbrev fl(cells:α->List AV):α->List Value:=fun x=>(cells x).map AV.den
theorem ww(hk:∀x,(cells x).length=k)(d:Array α)(i j:Nat)(hi:i<d.size)(hj:j<k):(flatK (fl cells) k d)[i*k+j]! = ((cells d[i]!).map AV.den)[j]!:=by
 have hlt:i*k+j<d.size*k:=by
  have:(i+1)*k<=d.size*k:=Nat.mul_le_mul_right k hi;rw[Nat.add_mul,Nat.one_mul]at this;omega
 rw[get_flatK _ _ _ _ hlt];have h1:(i*k+j) / k=i:=by rw[Nat.mul_comm,Nat.mul_add_div (by omega),Nat.div_eq_of_lt hj,Nat.add_zero]
 have h2:(i*k+j) % k=j:=by rw[Nat.mul_comm,Nat.mul_add_mod,Nat.mod_eq_of_lt hj]
 rw[h1,h2]
theorem qy(hk:∀x,(cells x).length=k)(hO:Own w B e k (.slice A n c) n (j6 (fun t=>cells (h t)) n))(hn:0<n):∃b,A=some ⟨b,0,none⟩/\B<=b/\b<w.heap.size/\HoldsK (fl cells) k w b 0 ((List.range n).map h).toArray:=by
 obtain⟨b,hA,hb⟩:=M2 hO hn;obtain⟨h1,h2⟩:=hO.lt b hb;refine⟨b,hA,h1,h2,fun t ht=>?_⟩;have hsz:((List.range n).map h).toArray.size=n:=by simp
 rw[size_flatK,hsz]at ht;have hk0:0<k:=by rcases Nat.eq_zero_or_pos k with h0|h0;rw[h0]at ht;omega;exact h0
 obtain⟨i,j,hj,rfl⟩:∃i j,j<k/\t=i*k+j:=⟨t / k,t % k,Nat.mod_lt _ hk0,by rw[Nat.mul_comm];exact(Nat.div_add_mod t k).symm⟩
 have hi:i<n:=by
  refine Nat.lt_of_not_le fun hle=>?_
  have:=Nat.mul_le_mul_right k hle;omega
 have hd:((List.range n).map h).toArray[i]! = h i:=by
  rw[getElem!_pos _ i (by rw[hsz];exact hi)];simp
 rw[ww hk _ i j (by rw[hsz];exact hi) hj,hd,Nat.zero_add];have hg:=C7 (cells:=fun t=>cells (h t)) (n:=n) (fun i _=>hk _) hi hj;have hjl:j<((cells (h i)).map AV.den).length:=by rw[List.length_map,hk];exact hj
 rw[List.getElem?_eq_getElem hjl]at hg;refine⟨?_,?_⟩
 .rw [N5 hO hb _ _ hg,getElem!_pos _ j hjl];rfl
 obtain⟨_,h2|⟨g,cap,cur,hv,_,hcur,_⟩⟩:=hO
 .obtain ⟨h0,_⟩:=h2;omega
 injection hv with e1
 rw[hA]at e1;injection e1 with e1
 injection e1 with e1
 subst e1;simp[World.frozen?,hcur]
theorem oG(d':Array α)(m:Nat)(os:Array Obj){b:Nat}(hb:b<w.heap.size):(sortWorldK (fl cells) k w b 0 m d' os).heap[b]? = (w.heap[b]?).map (Go.Sort.onCells (Go.Sort.putCells id 0 (flatK (fl cells) k d')))/\∀x,x<w.heap.size->x≠b->(sortWorldK (fl cells) k w b 0 m d' os).heap[x]? = w.heap[x]?:=by
 have hsz:(putRowK (fl cells) k (Go.Sort.ahead w m) b 0 d').heap.size=w.heap.size:=by simp[putRowK,Go.Sort.putRow,Go.Sort.mapBlock,Go.Sort.ahead]
 refine⟨?_,fun x hx hne=>?_⟩
 .unfold sortWorldK Go.Sort.grow
  simp only;rw[Array.getElem?_append_left (by rw[hsz];exact hb)];simp[putRowK,Go.Sort.putRow,Go.Sort.mapBlock,Go.Sort.ahead,Array.getElem?_modify]
 unfold sortWorldK Go.Sort.grow;simp only;rw[Array.getElem?_append_left (by rw[hsz];exact hx)];simp[putRowK,Go.Sort.putRow,Go.Sort.mapBlock,Go.Sort.ahead,Array.getElem?_modify];intro e;exact absurd e.symm hne
theorem Ap(hk:∀x,(cells x).length=k)(hO:Own w B e k (.slice A n c) n (j6 (fun t=>cells (h t)) n))(hn:0<n){b:Nat}(hA:A=some ⟨b,0,none⟩)(hb:b<w.heap.size)(d':Array α)(hd:d'.size=n)(m:Nat)(os:Array Obj) :
  Own (sortWorldK (fl cells) k w b 0 m d' os) B e k (.slice A n c) n (j6 (fun t=>cells d'[t]!) n):=by
 have hlen:(j6 (fun t=>cells d'[t]!) n).length=n*k:=D8 fun i _=>hk _
 refine⟨hlen,?_⟩
 rcases hO.2 with⟨h0,_⟩|⟨g,cap,cur,hv,h1,h2,h3,h4,h5,h6,h7⟩
 .omega
 injection hv with e1 e2 e3
 subst e3;have:g=b:=by rw[hA]at e1;injection e1 with e1;injection e1 with e1;exact e1.symm
 subst this;subst e1
 right
 refine⟨g,c,Go.Sort.putCells id 0 (flatK (fl cells) k d') cur,rfl,h1,?_,h3,h4,h5,?_,?_⟩
 .rw [(oG d' m os hb).1,h2];rfl
 .simp [Go.Sort.putCells,h6]
 apply List.ext_getElem?;intro t
 by_cases ht:t<n*k
 .have hcs:t<cur.size:=by
   rw[h6];have:=Nat.mul_le_mul_right k h3;omega
  rw[List.getElem?_take_of_lt ht];have hk0:0<k:=by rcases Nat.eq_zero_or_pos k with h0|h0;rw[h0]at ht;omega;exact h0
  obtain⟨i,j,hj,rfl⟩:∃i j,j<k/\t=i*k+j:=⟨t / k,t % k,Nat.mod_lt _ hk0,by rw[Nat.mul_comm];exact(Nat.div_add_mod t k).symm⟩
  have hi:i<n:=by
   refine Nat.lt_of_not_le fun hle=>?_
   have:=Nat.mul_le_mul_right k hle;omega
  rw[C7 (cells:=fun t=>cells d'[t]!) (n:=n) (fun i _=>hk _) hi hj];have hf:=ww hk d' i j (by rw[hd];exact hi) hj;have hjl:j<((cells d'[i]!).map AV.den).length:=by rw[List.length_map,hk];exact hj
  rw[getElem!_pos _ j hjl]at hf;simp only[Array.getElem?_toList,Go.Sort.putCells,Array.getElem?_mapIdx,Array.getElem?_eq_getElem hcs,Option.map_some,Nat.zero_le,true_and,Nat.zero_add,Nat.sub_zero,size_flatK,hd,ht,if_true,id];rw[hf,List.getElem?_eq_getElem hjl]
 rw[List.getElem?_eq_none (by rw[List.length_take];omega),List.getElem?_eq_none (by rw[hlen];omega)]
theorem rG{P:Program}{f:Nat}{fv:Value}{lt:α->α->Bool}(hk:∀x,(cells x).length=k)(hO:Own w B e k (.slice A n c) n (j6 (fun t=>cells (h t)) n))
  (hc:∀b (d:Array α),d.size=n->HoldsK (fl cells) k w b 0 d->b<w.heap.size->Calls P f #[.slice (some ⟨b,0,none⟩) d.size c,fv] w fun e w'=>e = .returned (.tuple #[])/\∃d' m os,Go.Sort.PermIn 0 d.size d d'/\Go.Sort.SortedIn lt 0 d.size d'/\w'=sortWorldK (fl cells) k w b 0 m d' os)
  (h0:n=0->Calls P f #[.slice A 0 c,fv] w fun e w'=>e = .returned (.tuple #[])/\w'=w) :
  Calls P f #[.slice A n c,fv] w fun e' w'=>e' = .returned (.tuple #[])/\∃h':Nat->α,((List.range n).map h').Perm ((List.range n).map h)/\(∀i j,i<j->j<n->lt (h' j) (h' i)=false)/\Own w' B e k (.slice A n c) n (j6 (fun t=>cells (h' t)) n)/\Chg (fun x=>B4 (.slice A n c)=some x) w w':=by
 rcases Nat.eq_zero_or_pos n with hn|hn
 .subst hn
  refine(h0 rfl).mono ?_
  rintro e' w' ⟨rfl,rfl⟩
  exact⟨rfl,h,.refl _,fun i j _ hj=>absurd hj (Nat.not_lt_zero _),hO,Chg.refl _ _⟩
 obtain⟨b,hA,O,hb,hH⟩:=qy hk hO hn;have hsz:((List.range n).map h).toArray.size=n:=by simp
 have:=hc b _ hsz hH hb;rw[hsz,<-hA]at this;refine this.mono ?_
 rintro e' w' ⟨rfl,d',m,os,hp,hs,rfl⟩
 have hd:d'.size=n:=by rw[hp.1,hsz]
 refine⟨rfl,fun i=>d'[i]!,?_,fun i j hij hj=>hs i j (Nat.zero_le _) hij hj,Ap hk hO hn hA hb d' hd m os,?_⟩
 .have h3:=hp.2.2
  have e1:(d'.extract 0 n).toList=(List.range n).map fun i=>d'[i]!:=by
   apply List.ext_getElem
   .simp [hd]
   intro i g1 g2;have hi:i<n:=by simpa using g2
   simp[getElem!_pos d' i (by rw[hd];exact hi)]
  have e2:(((List.range n).map h).toArray.extract 0 n).toList=(List.range n).map h:=by
   simp[List.take_of_length_le]
  rw[e1,e2]at h3;exact h3
 have hown:B4 (.slice A n c)=some b:=by
  obtain⟨b',hA',hb'⟩:=M2 hO hn;rw[hA]at hA';injection hA' with hA';injection hA' with hA'
  rw[hA'];exact hb'
 refine⟨rfl,rfl,rfl,?_,fun x hx hne=>(oG d' m os hb).2 x hx (fun e=>hne (by rw[e];exact hown))⟩;exact size_sortWorldK_c (fl cells) k w b 0 m d' os
end
theorem xN{m:Nat->Nat->Prop}{w:World}{B e k:Nat}{A:Option Addr}{n c:Nat}{f:Nat->List AV}(hO:Own w B e k (.slice A n c) n (j6 f n))(hk:∀i,i<n->(f i).length=k)(hm:∀b,B4 (.slice A n c)=some b->∀o,¬m b o)(h1:∀i,i<n->∀v∈f i,v.one=true/\Ok m w v)(g:Option Nat):Ok m w (.sl g A n c k f):=by
 obtain⟨A',c',he,h2,h3⟩:=hO.isSlice;injection he with e1 e2 e3;subst e3
 refine .sl _ _ _ _ _ _ h2 h3 hk (fun i hi=>?_) (fun i hi=>?_) (fun i hi v hv=>(h1 i hi v hv).1) (fun i hi v hv=>(h1 i hi v hv).2)
 .obtain ⟨b,hA,_⟩:=M2 hO (by omega)
  exact⟨b,0,hA⟩
 obtain⟨b,hA,hb⟩:=M2 hO (by omega);intro j u hu;have hj:j<k:=by
  have:=(List.getElem?_eq_some_iff.1 hu).1
  rwa[List.length_map,hk i hi]at this
 have hget:=C7 (cells:=f) hk hi hj;rw[hu]at hget;exact⟨b,0,hA,by rw[Nat.zero_add];exact N5 hO hb _ u hget,hm b hb _⟩
theorem i5.sorted{m0:Nat->Nat->Prop}{w0:World}{S:Nat->Prop}{ds:List Deferred}{K:Kn}{nt key:Nat}{t:Gr}{l l':List (Nat×AV)}{mem:List (Nat×Blk)}{a:Act}{w w':World}(h:i5 ⟨m0,w0,S,ds,K⟩ ⟨nt,l,[],mem,[(key,t)]⟩ a w)(hc:Chg (fun x=>B4 t.v=some x) w w')
  (hl:∀x,(look l' x).known=true->a.tmps[x]? = some (look l' x).den/\Ok (St.m ⟨nt,l',[],mem,[]⟩ ⟨m0,w0,S,ds,noK⟩) w' (look l' x)) (hm:∀k e,j7 mem k=some e->∀v∈e.cells,Ok (St.m ⟨nt,l',[],mem,[]⟩ ⟨m0,w0,S,ds,noK⟩) w' v):i5 ⟨m0,w0,S,ds,noK⟩ ⟨nt,l',[],mem,[]⟩ a w':=by
 have hlt:∀b,B4 t.v=some b->w0.heap.size<=b:=fun b hb=>by
  obtain⟨_,xs,ho⟩:=h.gr key t (by simp[j7]);exact(ho.lt b hb).1
 refine⟨h.size,h.defers,hl,(fun t p v hg=>by cases hg),fun k e he=>?_,h.nodup,(fun k t ht=>by cases ht),(fun k t k' e ht=>by cases ht),(fun k t k' t' b ht=>by cases ht),?_,h.m0,trivial⟩
 .obtain ⟨h1,h2,h3⟩:=h.mem k e he
  refine⟨?_,fun v hv=>⟨(h2 v hv).1,hm k e he v hv⟩,h3⟩;rw[hc.block _ (aC h1) (fun hb=>h.sepm key t k e (by simp[j7]) he hb)];exact h1
 exact h.chg.trans hc fun k hk hb=>absurd hk (Nat.not_lt.2 (hlt k hb))
theorem i5.notM{m0:Nat->Nat->Prop}{w0:World}{S:Nat->Prop}{ds:List Deferred}{K:Kn}{nt key:Nat}{t:Gr}{l l':List (Nat×AV)}{mem:List (Nat×Blk)}{a:Act}{w:World}(h:i5 ⟨m0,w0,S,ds,K⟩ ⟨nt,l,[],mem,[(key,t)]⟩ a w):∀b,B4 t.v=some b->∀o,¬St.m ⟨nt,l',[],mem,[]⟩ ⟨m0,w0,S,ds,noK⟩ b o:=by
 intro b hb o hm;obtain⟨_,xs,ho⟩:=h.gr key t (by simp[j7]);have h1:=(ho.lt b hb).1
 rcases hm with hm|⟨k,e,he,hm⟩|⟨k,t',ht,_⟩
 .exact absurd (h.m0 _ _ hm) (Nat.not_lt.2 h1)
 .subst hm
  exact h.sepm key t k e (by simp[j7]) he hb
 cases ht
end Go.Proofs.YtmbkanpapkhnaaaGreat.Sym
namespace Go.Proofs.YtmbkanpapkhnaaaGreat.Sym
open Go Go.RowKit
def dm(x y:Int):Int:=if x<y then -1 else if y<x then 1 else 0
theorem Km(x y:Int)(w:World):Calls Tryz.prog 70 #[.int .u64 x,.int .u64 y] w fun e w'=>e = .returned (.int .i64 (dm x y))/\w'=w:=by
 have hn:∀(x:Int) (w:World),Calls Tryz.prog 135 #[.int .u64 x] w fun e w'=>e = .returned (.bool false)/\w'=w:=by
  intro x w
  go_enter Tryz.func135,Tryz.ntmps135
  go_wp2_with fail
  go_ret
  simp
 unfold dm
 go_enter Tryz.func70,Tryz.ntmps70
 go_wp2_with (go_at_call 135;refine(hn _ _).mono ?_;rintro e w' ⟨rfl,rfl⟩)
 all_goals(go_ret;exact⟨rfl,rfl⟩)
theorem Ko(x y:Int)(w:World):Calls Tryz.prog 107 #[.int .i64 x,.int .i64 y] w fun e w'=>e = .returned (.int .i64 (dm x y))/\w'=w:=by
 have hn:∀(x:Int) (w:World),Calls Tryz.prog 158 #[.int .i64 x] w fun e w'=>e = .returned (.bool false)/\w'=w:=by
  intro x w
  go_enter Tryz.func158,Tryz.ntmps158
  go_wp2_with fail
  go_ret
  simp
 unfold dm
 go_enter Tryz.func107,Tryz.ntmps107
 go_wp2_with (go_at_call 158;refine(hn _ _).mono ?_;rintro e w' ⟨rfl,rfl⟩)
 all_goals(go_ret;exact⟨rfl,rfl⟩)
theorem Ns(b:Nat)(x y:Int)(w:World)(h0:w.cell? ⟨b,0,none⟩=some (.int .i64 x))(h1:w.cell? ⟨b,1,none⟩=some (.int .i64 y)):Calls Tryz.prog 106 #[.slice (some ⟨b,0,none⟩) 2 2] w fun e w'=>e = .returned (.int .i64 (if x≠0 then x else y))/\w'=w:=by
 go_enter Tryz.func106,Tryz.ntmps106
 go_wp2_with fail
 refine wp_loop_rounds 3 ?_;simp only[Code.rounds]
 go_wp2_with fail
 all_goals(go_ret;first|exact⟨rfl,rfl⟩|(exfalso;simp_all;done)|(refine⟨?_,rfl⟩;simp_all;done))
def GrF(W w:World):Prop:=∃q os,w=Go.Sort.grow (W.drewN q) os
theorem GrF.refl(W:World):GrF W W:=⟨0,#[],by simp[Go.Sort.grow,World.drewN]⟩
theorem GrF.drew{W w:World}(h:GrF W w):GrF W w.drew:=by
 obtain⟨q,os,rfl⟩:=h;exact⟨q+1,os,rfl⟩
theorem GrF.alloc{W w:World}(h:GrF W w)(o:Obj):GrF W (w.alloc o):=by
 obtain⟨q,os,rfl⟩:=h;exact⟨q,os.push o,by simp[Go.Sort.grow,World.alloc,World.drewN]⟩
theorem GrF.size{W w:World}(h:GrF W w):W.heap.size<=w.heap.size:=by
 obtain⟨q,os,rfl⟩:=h;simp[Go.Sort.grow,World.drewN]
theorem uV{w:World}{a:Addr}{u:Value}(h:w.cell? a=some u)(o:Obj):(w.alloc o).cell? a=some u:=by
 have hl:=World.block_lt_of_cell? w _ h;unfold World.cell? at h ⊢;rw[Below.heap_alloc _ _ _ hl];exact h
theorem pa{w:World}{a:Addr}{u:Value}(h:w.cell? a=some u):w.drew.cell? a=some u:=h
theorem AH(w:World)(x y:Value)(t:TypeId):(w.alloc (.cells #[x,y] t)).cell? ⟨w.heap.size,0,none⟩=some x:=cell_of_row _ _ 0 _ _ _ (heap_alloc_new w _)
theorem AG(w:World)(x y:Value)(t:TypeId):(w.alloc (.cells #[x,y] t)).cell? ⟨w.heap.size,1,none⟩=some y:=cell_of_row _ _ 1 _ _ _ (heap_alloc_new w _)
theorem size_alloc{n:Nat}{w:World}(h:n<=w.heap.size)(o:Obj):n<=(w.alloc o).heap.size:=by simp;omega
def fo(a b:Lab):Int:=if dm a.bits b.bits≠0 then dm a.bits b.bits else dm a.len b.len
end Go.Proofs.YtmbkanpapkhnaaaGreat.Sym
namespace Go.Proofs
open Go.Shelf
def Tryz.sortRow_ren:Go.Shelf.Ren:=⟨fun|6=>77|15=>138|14=>137|28=>200|29=>201|20=>192|21=>193|22=>194|23=>195|24=>196|25=>197|26=>198|27=>199|46=>245|47=>246|48=>247|49=>248|50=>249|57=>282|n=>n,fun|22=>46|24=>92|25=>129|3=>3|39=>156|0=>0|53=>26|55=>22|4=>4|46=>231|45=>230|50=>235|5=>5|9=>9|66=>272|70=>275|76=>297|77=>298|n=>n,fun|n=>n⟩
theorem Tryz.sortRow:Go.Proofs.SlLaysF0.n6 Tryz.prog Tryz.sortRow_ren:={
 mixed:=by kernel_rfl
 f6:=⟨Tryz.f77.name,by decide,Tryz.func77.trans (congrArg some (by kernel_rfl))⟩
 f14:=⟨Tryz.f137.name,by decide,Tryz.func137.trans (congrArg some (by kernel_rfl))⟩
 f15:=Tryz.func138.trans (congrArg some (by kernel_rfl))
 f20:=⟨Tryz.f192.name,by decide,Tryz.func192.trans (congrArg some (by kernel_rfl))⟩
 f21:=⟨Tryz.f193.name,by decide,Tryz.func193.trans (congrArg some (by kernel_rfl))⟩
 f22:=⟨Tryz.f194.name,by decide,Tryz.func194.trans (congrArg some (by kernel_rfl))⟩
 f23:=⟨Tryz.f195.name,by decide,Tryz.func195.trans (congrArg some (by kernel_rfl))⟩
 f24:=⟨Tryz.f196.name,by decide,Tryz.func196.trans (congrArg some (by kernel_rfl))⟩
 f25:=⟨Tryz.f197.name,by decide,Tryz.func197.trans (congrArg some (by kernel_rfl))⟩
 f26:=⟨Tryz.f198.name,by decide,Tryz.func198.trans (congrArg some (by kernel_rfl))⟩
 f27:=⟨Tryz.f199.name,by decide,Tryz.func199.trans (congrArg some (by kernel_rfl))⟩
 f28:=Tryz.func200.trans (congrArg some (by kernel_rfl))
 f29:=Tryz.func201.trans (congrArg some (by kernel_rfl))
 f46:=⟨Tryz.f245.name,by decide,Tryz.func245.trans (congrArg some (by kernel_rfl))⟩
 f47:=Tryz.func246.trans (congrArg some (by kernel_rfl))
 f48:=Tryz.func247.trans (congrArg some (by kernel_rfl))
 f49:=⟨Tryz.f248.name,by decide,Tryz.func248.trans (congrArg some (by kernel_rfl))⟩
 f50:=⟨Tryz.f249.name,by decide,Tryz.func249.trans (congrArg some (by kernel_rfl))⟩
 f57:=⟨Tryz.f282.name,by decide,Tryz.func282.trans (congrArg some (by kernel_rfl))⟩
 t0:=Tryz.underlying0
 a0:=Tryz.isAgg0
 z0:=Tryz.sizeOf0
 v0:=Tryz.zeroValue0
 t3:=Tryz.underlying3
 a3:=Tryz.isAgg3
 z3:=Tryz.sizeOf3
 v3:=Tryz.zeroValue3
 t4:=Tryz.underlying4
 a4:=Tryz.isAgg4
 z4:=Tryz.sizeOf4
 v4:=Tryz.zeroValue4
 t5:=Tryz.underlying5
 a5:=Tryz.isAgg5
 z5:=Tryz.sizeOf5
 v5:=Tryz.zeroValue5
 t9:=Tryz.underlying9
 a9:=Tryz.isAgg9
 z9:=Tryz.sizeOf9
 v9:=Tryz.zeroValue9
 t22:=Tryz.underlying46
 a22:=Tryz.isAgg46
 z22:=Tryz.sizeOf46
 v22:=Tryz.zeroValue46
 t25:=Tryz.underlying129
 a25:=Tryz.isAgg129
 z25:=Tryz.sizeOf129
 v25:=Tryz.zeroValue129
 t39:=Tryz.underlying156
 a39:=Tryz.isAgg156
 z39:=Tryz.sizeOf156
 v39:=Tryz.zeroValue156
 t45:=Tryz.underlying230
 a45:=Tryz.isAgg230
 z45:=Tryz.sizeOf230
 v45:=Tryz.zeroValue230
 t46:=Tryz.underlying231
 a46:=Tryz.isAgg231
 z46:=Tryz.sizeOf231
 v46:=Tryz.zeroValue231
 t50:=Tryz.underlying235
 a50:=Tryz.isAgg235
 z50:=Tryz.sizeOf235
 v50:=Tryz.zeroValue235
 t53:=Tryz.underlying26
 a53:=Tryz.isAgg26
 z53:=Tryz.sizeOf26
 v53:=Tryz.zeroValue26
 t55:=Tryz.underlying22
 a55:=Tryz.isAgg22
 z55:=Tryz.sizeOf22
 v55:=Tryz.zeroValue22
 t66:=Tryz.underlying272
 a66:=Tryz.isAgg272
 z66:=Tryz.sizeOf272
 v66:=Tryz.zeroValue272
 t70:=Tryz.underlying275
 a70:=Tryz.isAgg275
 z70:=Tryz.sizeOf275
 v70:=Tryz.zeroValue275
 t76:=Tryz.underlying297
 a76:=Tryz.isAgg297
 z76:=Tryz.sizeOf297
 v76:=Tryz.zeroValue297
 t77:=Tryz.underlying298
 a77:=Tryz.isAgg298
 z77:=Tryz.sizeOf298
 v77:=Tryz.zeroValue298 }
def Tryz.sortLab_ren:Go.Shelf.Ren:=⟨fun|6=>81|15=>138|14=>139|28=>200|29=>201|20=>202|21=>203|22=>204|23=>205|24=>206|25=>207|26=>208|27=>209|46=>250|47=>246|48=>247|49=>251|50=>252|57=>283|n=>n,fun|22=>57|24=>24|25=>128|3=>3|39=>156|0=>0|53=>26|55=>22|4=>4|46=>231|45=>230|50=>235|5=>5|9=>9|66=>272|70=>275|76=>297|77=>298|n=>n,fun|n=>n⟩
theorem Tryz.sortLab:Go.Proofs.SlLaysF0.n6 Tryz.prog Tryz.sortLab_ren:={
 mixed:=by kernel_rfl
 f6:=⟨Tryz.f81.name,by decide,Tryz.func81.trans (congrArg some (by kernel_rfl))⟩
 f14:=⟨Tryz.f139.name,by decide,Tryz.func139.trans (congrArg some (by kernel_rfl))⟩
 f15:=Tryz.func138.trans (congrArg some (by kernel_rfl))
 f20:=⟨Tryz.f202.name,by decide,Tryz.func202.trans (congrArg some (by kernel_rfl))⟩
 f21:=⟨Tryz.f203.name,by decide,Tryz.func203.trans (congrArg some (by kernel_rfl))⟩
 f22:=⟨Tryz.f204.name,by decide,Tryz.func204.trans (congrArg some (by kernel_rfl))⟩
 f23:=⟨Tryz.f205.name,by decide,Tryz.func205.trans (congrArg some (by kernel_rfl))⟩
 f24:=⟨Tryz.f206.name,by decide,Tryz.func206.trans (congrArg some (by kernel_rfl))⟩
 f25:=⟨Tryz.f207.name,by decide,Tryz.func207.trans (congrArg some (by kernel_rfl))⟩
 f26:=⟨Tryz.f208.name,by decide,Tryz.func208.trans (congrArg some (by kernel_rfl))⟩
 f27:=⟨Tryz.f209.name,by decide,Tryz.func209.trans (congrArg some (by kernel_rfl))⟩
 f28:=Tryz.func200.trans (congrArg some (by kernel_rfl))
 f29:=Tryz.func201.trans (congrArg some (by kernel_rfl))
 f46:=⟨Tryz.f250.name,by decide,Tryz.func250.trans (congrArg some (by kernel_rfl))⟩
 f47:=Tryz.func246.trans (congrArg some (by kernel_rfl))
 f48:=Tryz.func247.trans (congrArg some (by kernel_rfl))
 f49:=⟨Tryz.f251.name,by decide,Tryz.func251.trans (congrArg some (by kernel_rfl))⟩
 f50:=⟨Tryz.f252.name,by decide,Tryz.func252.trans (congrArg some (by kernel_rfl))⟩
 f57:=⟨Tryz.f283.name,by decide,Tryz.func283.trans (congrArg some (by kernel_rfl))⟩
 t0:=Tryz.underlying0
 a0:=Tryz.isAgg0
 z0:=Tryz.sizeOf0
 v0:=Tryz.zeroValue0
 t3:=Tryz.underlying3
 a3:=Tryz.isAgg3
 z3:=Tryz.sizeOf3
 v3:=Tryz.zeroValue3
 t4:=Tryz.underlying4
 a4:=Tryz.isAgg4
 z4:=Tryz.sizeOf4
 v4:=Tryz.zeroValue4
 t5:=Tryz.underlying5
 a5:=Tryz.isAgg5
 z5:=Tryz.sizeOf5
 v5:=Tryz.zeroValue5
 t9:=Tryz.underlying9
 a9:=Tryz.isAgg9
 z9:=Tryz.sizeOf9
 v9:=Tryz.zeroValue9
 t22:=Tryz.underlying57
 a22:=Tryz.isAgg57
 z22:=Tryz.sizeOf57
 v22:=Tryz.zeroValue57
 t25:=Tryz.underlying128
 a25:=Tryz.isAgg128
 z25:=Tryz.sizeOf128
 v25:=Tryz.zeroValue128
 t39:=Tryz.underlying156
 a39:=Tryz.isAgg156
 z39:=Tryz.sizeOf156
 v39:=Tryz.zeroValue156
 t45:=Tryz.underlying230
 a45:=Tryz.isAgg230
 z45:=Tryz.sizeOf230
 v45:=Tryz.zeroValue230
 t46:=Tryz.underlying231
 a46:=Tryz.isAgg231
 z46:=Tryz.sizeOf231
 v46:=Tryz.zeroValue231
 t50:=Tryz.underlying235
 a50:=Tryz.isAgg235
 z50:=Tryz.sizeOf235
 v50:=Tryz.zeroValue235
 t53:=Tryz.underlying26
 a53:=Tryz.isAgg26
 z53:=Tryz.sizeOf26
 v53:=Tryz.zeroValue26
 t55:=Tryz.underlying22
 a55:=Tryz.isAgg22
 z55:=Tryz.sizeOf22
 v55:=Tryz.zeroValue22
 t66:=Tryz.underlying272
 a66:=Tryz.isAgg272
 z66:=Tryz.sizeOf272
 v66:=Tryz.zeroValue272
 t70:=Tryz.underlying275
 a70:=Tryz.isAgg275
 z70:=Tryz.sizeOf275
 v70:=Tryz.zeroValue275
 t76:=Tryz.underlying297
 a76:=Tryz.isAgg297
 z76:=Tryz.sizeOf297
 v76:=Tryz.zeroValue297
 t77:=Tryz.underlying298
 a77:=Tryz.isAgg298
 z77:=Tryz.sizeOf298
 v77:=Tryz.zeroValue298 }
end Go.Proofs
namespace Go.Proofs.YtmbkanpapkhnaaaGreat.Sym
open Go Go.RowKit Go.Sort
instance : Inhabited D4 := ⟨zn⟩
def ei(a b:Lab):Bool:=decide (fo a b<0)
theorem fI(a b:Lab):ei a b=true↔a.bits<b.bits \/ (a.bits=b.bits/\a.len<b.len):=by
 unfold ei fo dm;rw[decide_eq_true_iff]
 split<;>rename_i h<;>(repeat' split at h)<;>(repeat' split)<;>omega
theorem fH(a b:Lab):ei a b=false ↔ ¬(a.bits<b.bits \/ (a.bits=b.bits/\a.len<b.len)):=by
 rw[<-fI];simp
def sZ(x y:D4):Int:=fo x.lab y.lab
theorem nv(x y:D4):ltOf sZ x y=ei x.lab y.lab:=rfl
theorem HT:SWO (ltOf sZ):=by
 refine⟨fun x=>?_,fun x y z h1 h2=>?_,fun x y z h1 h2=>?_⟩
 .rw [nv,fH];omega
 .rw [nv,fI]at *;omega
 rw[nv,fH]at *;omega
end Go.Proofs.YtmbkanpapkhnaaaGreat.Sym
namespace Go.Proofs.YtmbkanpapkhnaaaGreat.Sym
open Go Go.RowKit
section
variable {m0:Nat->Nat->Prop} {w0:World} {S:Nat->Prop} {ds:List Deferred} {K:Kn} {P:Program} {Q:Exit->Act->World->Prop} {ops:Array Oper} {s:St} {a:Act} {w:World} {L rest:List Oper} {o:Oper}
open Go.Maps in
theorem xW{it:Operand}{k:TypeId}{d b r n cnt:Nat}{D:DataW Value}{left:Lit->Bool}(hL:L=o::rest)(hg:o.guard=none)(hop:o.op = .next it false)(hdst:o.dst=some d)(h:i5 ⟨m0,w0,S,ds,K⟩ s a w)(hd:d<s.nt)(hit:val s [] it = .raw (.pointer (some ⟨r,0,none⟩)))
  (Kd:Keyed P k) (hM:w.ranges P k hR b r n D left cnt) (hC:r<w0.heap.size->S r)
  (K1:Bool->Value->Value->Lit->Nat->Kn) (hK0:∀m,K.p m w->(∀kl,left kl=false)->(K1 false (.bool false) (.bool false) (.bool false) 0).p m w) (hK1:∀key v kl cnt' m w',K.p m w->ae (some r) w m w' m->w'.ranges P k hR b r n D (fun x=>left x && !x.sameKey kl) cnt'->ec P w' r key v->(K1 true key v kl cnt').p m w')
  (K':∀a' w' bb rest' key v kl cnt',(bb=false->∀kl,left kl=false)->(bb=true->Go.keyOf P k key=some kl/\left kl=true/\(∀zd,D.atKey kl zd = .held v)/\cnt'<cnt)->i5 ⟨m0,w0,S,ds,K1 bb key v kl cnt'⟩ (s.put (some d) (.tup (.bool (.v bb)::rest'))) a' w'->wpList P ops Q rest a' w'):wpList P ops Q L a w:=by
 have hiv:=(E6 h (q:=[]) (fun _ h=>by cases h) (x:=it) (by rw[hit];rfl)).1;rw[hit]at hiv;have hr0:∃o',w.heap[r]? = some o'/\∀c t f,o'≠Obj.cells c t f:=by
  obtain⟨es,clock,since,seen,c0,_,_,_,_,hr,_⟩:=hM;exact⟨_,hr,fun c t f e=>by cases e⟩
 obtain⟨o',hr,hro⟩:=hr0;refine ap hL hg ?_;unfold Oper.wp
 rcases hM.next Kd o.type with⟨h0,hl,hrun⟩|⟨key,v,kl,y,w',cnt',hkey,hlk,hv,hat,hrun,hrg,hlt,hgr,hsz,hen⟩
 .have e1:(execOp a.eval o).run P w = .ok (.value (.tuple #[.bool false])) w:=by simp[execOp,hop,hiv,hrun,Result.andThen,AV.den]
  rw[e1];simp only[Oper.upon];rw[hdst];exact K' _ _ false [] (.bool false) (.bool false) (.bool false) 0 (fun _=>hl) (fun h=>by cases h) ((h.withK (hK0 _ h.kept hl)).put (some d) (fun t ht=>by injection ht with ht;subst ht;exact hd) (.tup [.bool (.v false)]) (fun _=>.tup _ fun u hu=>by simp at hu;subst hu;exact .bool _) _ fun _=>rfl)
 have e1:(execOp a.eval o).run P w = .ok (.value (.tuple #[.bool true,key,v])) w':=by simp[execOp,hop,hiv,hrun,Result.andThen,AV.den]
 rw[e1];simp only[Oper.upon];rw[hdst];have hv':y.1 = .held v:=by unfold hR at hv;injection hv with hv;rw[<-hv]
 have hea:ec P w' r key v:=by
  obtain⟨es,clock,since,seen,c0,hb',_,_,_,hr',_⟩:=hrg;exact⟨⟨_,_,_,_,_,_,hr',hb'⟩,hen⟩
 have h2:=h.turn hr hro hgr hC (hK1 key v kl cnt' _ _ h.kept (dv hr hro hgr) hrg hea);refine K' _ _ true [.raw key,.raw v] key v kl cnt' (fun h=>by cases h) (fun _=>⟨hkey,hlk,fun zd=>(hat zd).trans hv',hlt⟩) (h2.put (some d) (fun t ht=>by injection ht with ht;subst ht;exact hd) (.tup [.bool (.v true),.raw key,.raw v]) (fun _=>.tup _ fun u hu=>?_) _ fun _=>rfl);simp only[List.mem_cons,List.not_mem_nil,or_false]at hu
 rcases hu with rfl|rfl|rfl
 .exact .bool _
 .exact .raw _
 exact .raw _
theorem rW{m:Nat->Nat->Prop}{w:World}{B e k:Nat}{g:Option Nat}{A:Option Addr}{n c:Nat}{f:Nat->List AV}{xs:List Value}(hO:Own w B e k (.slice A n c) n xs)(hk:Ok m w (.sl g A n c k f)):xs=j6 f n:=by
 cases hk with
 |sl _ _ _ _ _ _ h1 h2 h3 h4 h5 h6 h7=>
  have hl1:=hO.1;have hl2:=D8 (cells:=f) (k:=k) (n:=n) h3;apply List.ext_getElem
  .rw [hl1,hl2]
  intro t g1 g2;have ht:t<n*k:=by rw[hl1]at g1;exact g1
  have hk0:0<k:=by rcases Nat.eq_zero_or_pos k with h0|h0;rw[h0]at ht;omega;exact h0
  obtain⟨i,j,hj,rfl⟩:∃i j,j<k/\t=i*k+j:=⟨t / k,t % k,Nat.mod_lt _ hk0,by rw[Nat.mul_comm];exact(Nat.div_add_mod t k).symm⟩
  have hi:i<n:=by
   refine Nat.lt_of_not_le fun hle=>?_
   have:=Nat.mul_le_mul_right k hle;omega
  obtain⟨b,hA,hb⟩:=M2 hO (by omega);have e1:=N5 hO hb (i*k+j) _ (List.getElem?_eq_getElem g1);have hjl:j<((f i).map AV.den).length:=by rw[List.length_map,h3 i hi];exact hj
  obtain⟨b',off,hA',e2,_⟩:=h5 i hi j _ (List.getElem?_eq_getElem hjl);have hg:=C7 (cells:=f) h3 hi hj;rw[List.getElem?_eq_getElem g2,List.getElem?_eq_getElem hjl]at hg;rw[hA]at hA';injection hA' with hA';injection hA' with q1 q2
  subst q1;subst q2;rw[Nat.zero_add]at e2;rw[e1]at e2;injection e2 with e2
  injection hg with hg
  rw[e2,hg]
theorem mw{nt key d:Nat}{t:Gr}{l:List (Nat×AV)}{mem:List (Nat×Blk)}{c:Call}{g:Operand}{f:FuncId}{args:List AV}(hL:L=o::rest)(hg:o.guard=none)(hop:o.op = .call c)(hcal:c.callee = .value g)(hdst:o.dst=some d)(h:i5 ⟨m0,w0,S,ds,K⟩ ⟨nt,l,[],mem,[(key,t)]⟩ a w)(hgv:val ⟨nt,l,[],mem,[(key,t)]⟩ [] g = .fn f [] [])(hl:Y3 ⟨nt,l,[],mem,[(key,t)]⟩ [] c.args.toList=some args)(hen:l8 P f)
  (R:World->Prop) (hc:Calls P f (args.map AV.den).toArray w fun e w'=>e = .returned (.tuple #[])/\R w'/\Chg (fun x=>B4 t.v=some x) w w')
  (K':∀w',R w'->Chg (fun x=>B4 t.v=some x) w w'->wpList P ops Q rest (a.put (some d) (.tuple #[])) w'):wpList P ops Q L a w:=by
 refine ap hL hg ?_;obtain⟨hrun,_⟩:=jn hop hcal h hgv hl hen;unfold Oper.wp;rw[hrun];simp only[Oper.upon];simp only[List.nil_append,List.append_nil];refine hc.mono ?_
 rintro e w' ⟨rfl,h1,h2⟩
 rw[hdst];exact K' w' h1 h2
end
end Go.Proofs.YtmbkanpapkhnaaaGreat.Sym
