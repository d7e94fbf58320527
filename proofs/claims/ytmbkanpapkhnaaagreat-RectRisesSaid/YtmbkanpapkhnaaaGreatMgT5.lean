/-
  SymSk3, SymSk4, SymDr0, SymNx1, SymNx2, SymNx3, SymSk5, PlSeekOk, PlRectOk, PlRunB, PlRectT, SymHas, PlMorO, SymMor, SymMor2, PlMorG, SymMor3, SymMor4, SymSpn, SymRng, SymRng2, SymRng3, SymInl, SymInl2, SymInl3, SymPan, SymKid, SymRct, SymRc1: put together by a program of mine (a claim may have 60 files at most). Conditions: none.
-/
import Derived.Test.YtmbkanpapkhnaaaGreatMgT4
import Derived.RangeFuncLeaves
import Derived.RangeFuncCalls
import Derived.OrdersIn
set_option linter.unusedVariables false
set_option linter.unusedSimpArgs false
set_option maxRecDepth 100000
set_option maxHeartbeats 1600000
namespace Go.Proofs.YtmbkanpapkhnaaaGreat.Sym
open Go Go.RowKit
theorem Sim.of_int{k:IntKind}{x y:Int}(h:x=y):Sim (.int k x) (.int k y):=h ▸ zr
theorem IM(f:Nat->Int)(v:Int):cB 3 f v=(decide (f 0=v)||decide (f 1=v)||decide (f 2=v)):=by
 show(decide (f 0=v)||(decide (f 1=v)||(decide (f 2=v)||false)))=_
 rw[Bool.or_false,Bool.or_assoc]
theorem Jy(g:r5)(A:Option Addr)(k k2 k3:Int)(f:Nat->Int)(h0:f 0=k)(h1:f 1=k2)(h2:f 2=k3):l7 Tryz.prog 179 [F4 g,.sl none A 3 3 1 (fun i=>[.int .i64 (f i)])] (fun _=>.bool (.v (gk g k||gk g k2||gk g k3))):=by
 intro m w hm hargs;have S:=oO A 3 3 f g.x.r.kd;obtain⟨q,hq⟩:=eqv (cB 3 f g.x.r.kd);rw[<-hq]at S;refine en 14 hm hargs Tryz.func179 fun B O a0 Z=>?_
 refine a6 [1,2] [2] Z fun X0 Z=>?_
 have O1:=S;refine j6 [4] [] [(7,.r fun _=>.bool (.v q))] Z fun X1 Z=>?_
 refine B4 Z ?_;subst O;refine Sim.bool ?_
 show(if g.has=true then q else false)=_
 rw[hq,IM,h0,h1,h2];unfold gk;simp only[uJ g.x.r.kd];cases g.has<;>rfl
theorem Ee(g:r5)(G:Option Nat)(A:Option Addr)(k k2 k3:Int)(cells:Nat->List AV)(h0:cells 0=[.int .i64 k])(h1:cells 1=[.int .i64 k2])(h2:cells 2=[.int .i64 k3]):l7 Tryz.prog 179 [F4 g,.sl G A 3 3 1 cells] (fun _=>.bool (.v (gk g k||gk g k2||gk g k3))):=
 (Jy g A k k2 k3 (fun i=>if i=0 then k else if i=1 then k2 else k3) rfl rfl rfl).sim ⟨zr,Sim.recell (fun i hi=>by
  match i,hi with
  |0,_=>rw[h0];rfl
  |1,_=>rw[h1];rfl
  |2,_=>rw[h2];rfl),trivial⟩
theorem FG(b:Nat)(J:l4)(hJ:u7 J)(A:Option Addr)(c:Nat)(p:Pst)(hp:j8 p)(hn:p.n<=1000000)(l:Lab)(hl:LOk l)(n:Nat)(hf:p.n<n):s8 253 0 b J A c p [i9 l] (fun b:Bool=>.bool (.v b)) (eX J.bucket J.budget n l p):=by
 intro m w hm hargs hpre;have SP:=DR l hl.u;simp only[i9]at SP;obtain⟨up,hup⟩:=eqv (V9 l);rw[<-hup]at SP;obtain⟨ue,hue⟩:=eqv (aw l);rw[<-hue]at SP;refine enX 25 hm hpre hargs Tryz.func253 fun B O a0 Z=>?_
 refine a6 [0,3] [0,3] Z fun X0 Z=>?_
 have O1:=SP;refine j6 [0,3,5,6] [0,3,5] [(1,.r fun _=>.tup [.agg [.int .i64 up.len,.int .u64 up.bits],.int .i64 ue])] Z fun X1 Z=>?_
 refine a7 (a7 ?_)
 rcases Bool.eq_false_or_eq_true (decide (ue=0))with t8|t8
 .have t9:=of_decide_eq_true t8
  refine wp_region_lit (lpr 0 3 O a8 [14,0,3,5] [0,3,5] [] Z fun X2_0 _ _ Z=>?_);replace Z:=Z.headS (v':=.bool .ff) (Sim.bool (by subst O;have h9:=t8;simp[std,b7,BE.den]at h9 ⊢;exact h9)) rfl
  rcases(V0 0 b J hJ A c p hp hn up).two (l3 _ _ _) hp hn with⟨w2,p2,hm2,O1⟩|⟨q2,p2,hm2,hs2,hp2,hn2,S2⟩
  .refine stl 3 2 O a8 [14,15,16] [0] [] Z O1 fun _ _ _ _ Z hk=>?_
   exact thm (P:=Tryz.prog) (fn:=Tryz.f253) (q:=p2) Z hk (by simp[eX,<-hup,<-hue,Rs.bind,t8,t9,hm2])
  have hl2:=I1 hm2;have hg2:=hp.get hm2;obtain⟨r2,hr2⟩:=eqv ((gk q2 2||gk q2 3||gk q2 4));refine lnd 3 O a8 [21,0,3] [0,3] [(7,.r fun _=>.bool (.v r2)),(5,rc J (F4 q2) p2)] Z (hob:=by intro X;subst O;simp only[f8,Ob.holds,BE.den]<;>and_intros<;>repeat first|trivial|rfl|exact S2|exact(by rw[hr2];exact Ee q2 _ _ 2 3 4 _ rfl rfl rfl)|exact by rw[hr2];exact Ee q2 _ _ 2 3 4 _ rfl rfl rfl|exact(fun _ _=>by kernel_rfl)|refine⟨?_,?_⟩|intro h|exact Int.le_refl _|decide|omega) fun X2 _ _ Z=>?_
  apply d7 Z rfl<;>intro hb Z
  .have tr:(gk q2 2||gk q2 3||gk q2 4)=false:=by subst O;rw[<-hr2];revert hb;cases r2<;>simp[std]
   refine a6 [4] [0] Z fun X3 Z=>?_
   exact j2 ((rmm O a8 Z (v:=true) (q:=p2) ((X2 5).A 0) ((X2 5).c 0) (by simp[eX,<-hup,<-hue,Rs.bind,t8,t9,hm2,tr])).1)
  have tr:(gk q2 2||gk q2 3||gk q2 4)=true:=by subst O;rw[<-hr2];revert hb;cases r2<;>simp[std]
  refine f9 (a7 ?_)
  rcases(DN n 0 b J hJ ((X2 5).A 0) ((X2 5).c 0) p2 hp2 hn2 l hl (by have:=hs2.le;omega)).two (J0 _ _ _ _ _) hp2 hn2 with⟨w4,p4,hm4,O1⟩|⟨v4,p4,hm4,hs4,hp4,hn4,S4⟩
  .refine stp 2 O a8 [22,23] [0] [] Z O1 fun _ _ _ _ Z hk=>?_
   exact thm (P:=Tryz.prog) (fn:=Tryz.f253) (q:=p4) Z hk (by simp[eX,<-hup,<-hue,Rs.bind,t8,t9,hm2,tr,hm4])
  have O1:=S4;refine j4 [] [0] [(2,rc J (G1) p4)] Z fun X4 Z=>?_
  refine a6 [4] [0] Z fun X5 Z=>?_
  exact j2 ((rmm O a8 Z (v:=false) (q:=p4) ((X4 2).A 0) ((X4 2).c 0) (by simp[eX,<-hup,<-hue,Rs.bind,t8,t9,hm2,tr,hm4])).1)
 have t9:=of_decide_eq_false t8;refine wp_region_lit (lpr 0 3 O a8 [14,0,3,5] [0,3,5] [] Z fun X2_0 _ _ Z=>?_);replace Z:=Z.headS (v':=.bool .tt) (Sim.bool (by subst O;have h9:=t8;simp[std,b7,BE.den]at h9 ⊢;exact h9)) rfl;refine lnd 3 O a8 [21,0,3] [0,3] [] Z fun X2 _ _ Z=>?_
 refine D5 Z rfl (fun Z=>?_);refine a6 [4] [0] Z fun X3 Z=>?_
 exact j2 ((rmm O a8 Z (v:=true) (q:=p) A c (by simp[eX,<-hup,<-hue,Rs.bind,t8,t9])).1)
theorem If(k0 b:Nat)(J:l4)(hJ:u7 J)(A:Option Addr)(c:Nat)(p:Pst)(hp:j8 p)(hn:p.n<=1000000)(l:Lab)(hl:LOk l)(n:Nat)(hf:p.n<n):s8 253 k0 b J A c p [i9 l] (fun b:Bool=>.bool (.v b)) (eX J.bucket J.budget n l p):=s8.re (FG b J hJ A c p hp hn l hl n hf) (by repeat(first|exact trivial|refine⟨zr,?_⟩))
theorem GF(b:Nat)(J:l4)(hJ:u7 J)(A:Option Addr)(c:Nat)(p:Pst)(hp:j8 p)(hn:p.n<=1000000)(key:Int)(hk:U64 key)(n:Nat)(hf:p.n<n):s8 211 0 b J A c p [.int .u64 key] (V7) (Q0 J.bucket J.budget key n 0 64 p):=by
 intro m w hm hargs hpre;refine enX 63 hm hpre hargs Tryz.func211 fun B O a0 Z=>?_
 refine a6 [0,1,4] [0,4] Z fun X0 Z=>?_
 refine wp_scope_straight (a6 [5,6,0,1,4] [0,4] Z fun X1 Z=>?_);refine a7 (wp_label (a7 (j0 (r9 (ι:=Nat×Pst×Option Addr×Nat×Int×Int) (fun q=>[(5,.int .i64 q.2.2.2.2.1),(6,.int .i64 q.2.2.2.2.2)]) (fun q=>[(0,⟨b,139,D4 J q.2.2.1 q.2.2.2.1 q.2.1⟩)]) (fun q=>[]) (fun q=>Q0 J.bucket J.budget key n 0 64 p=Q0 J.bucket J.budget key q.1 q.2.2.2.2.1 q.2.2.2.2.2 q.2.1/\j8 q.2.1/\q.2.1.n<=1000000/\q.2.1.n<q.1/\0<=q.2.2.2.2.1/\q.2.2.2.2.1<=65/\-1<=q.2.2.2.2.2/\q.2.2.2.2.2<=64) (fun q=>q.1) (n,p,A,c,0,64) ⟨rfl,hp,hn,hf,(by dsimp only;omega),(by dsimp only;omega),(by dsimp only;omega),(by dsimp only;omega)⟩ Z ?_))))
 rintro⟨nn,p0,A0,c0,lo0,hi0⟩ ⟨hrun,hp0,hn0,hf0,ha0,ha1,hb0,hb1⟩ _ _ Z
 try dsimp only at hrun
 try dsimp only at hp0
 try dsimp only at hn0
 try dsimp only at hf0
 try dsimp only at ha0
 try dsimp only at ha1
 try dsimp only at hb0
 try dsimp only at hb1
 obtain⟨m0,rfl⟩:∃n2,nn=n2+1:=⟨nn-1,by omega⟩
 refine a7 (a6 [13,0,1,4,5,6] [0,4] Z fun X2 Z=>?_);apply d7 Z rfl<;>intro hb Z
 .have tl:lo0<=hi0:=by subst O;simpa[std,b7]using hb
  obtain⟨md,hmd⟩:=eqv ((lo0+hi0) / 2);have hm0:0<=md/\md<=64:=by omega
  have e3:rE .quo .i64 (i5 .add .i64 lo0 hi0) 2=md:=by
   show IntKind.i64.wrap (Int.tdiv (IntKind.i64.wrap (lo0+hi0)) 2)=md
   rw[s5 (x:=lo0+hi0) (by omega) (by omega),Int.tdiv_eq_ediv_of_nonneg (by omega),<-hmd];exact s5 (by omega) (by omega)
  have e9:i5 .add .i64 md 1=md+1:=s5 (by omega) (by omega);have e13:i5 .sub .i64 md 1=md-1:=s5 (by omega) (by omega);have S8:=Eb key md hk;simp only[i9]at S8;have hk9:=og hk md;obtain⟨k,hkk⟩:=eqv (ofV key md);rw[<-hkk]at S8 hk9;have hk8:=hkk;obtain⟨ke,hke⟩:=eqv (ofE md);rw[<-hke]at S8;refine f9 (j0 (a6 [7,0,1,4,5,6] [0,4] Z fun X3 Z=>?_));replace Z:=Z.headS (v':=.int .i64 md) (by subst O;exact Sim.of_int e3) rfl;have O1:=S8;refine j6 [0,1,4,5,6,7,8] [0,4,8] [(2,.r fun _=>.tup [.agg [.int .i64 k.len,.int .u64 k.bits],.int .i64 ke])] Z fun X4 Z=>?_
  refine a7 ?_
  rcases(V0 0 b J hJ A0 c0 p0 hp0 hn0 k).two (l3 _ _ _) hp0 hn0 with⟨w5,p5,hm5,O1⟩|⟨g5,p5,hm5,hs5,hp5,hn5,S5⟩
  .refine stp 2 O a8 [24,25] [0] [] Z O1 fun _ _ _ _ Z hk=>?_
   exact thm (P:=Tryz.prog) (fn:=Tryz.f211) (q:=p5) Z hk (by simp[hrun,Q0,Rs.bind,tl,<-hmd,<-hk8,hm5])
  have hl5:=I1 hm5;have hg5:=hp0.get hm5;have O1:=S5;refine j4 [0,1,4,5,6,7,8,10] [0,4,8,10] [(2,rc J (F4 g5) p5)] Z fun X5 Z=>?_
  obtain⟨q6,hq6⟩:=eqv (gk g5 1);refine a7 (j0 (a7 ?_));refine j4 [27,0,1,4,5,6,7,8,10] [0,4,8,10,29] [(2,.r fun _=>.bool (.v q6))] Z (hob:=by intro X;subst O;simp only[f8,Ob.holds,BE.den]<;>and_intros<;>repeat first|trivial|rfl|exact(by rw[hq6];exact F0 g5 _ _ 1 _ rfl)|exact by rw[hq6];exact F0 g5 _ _ 1 _ rfl|exact(fun _ _=>by kernel_rfl)|refine⟨?_,?_⟩|intro h|exact Int.le_refl _|decide|omega) fun X6 Z=>?_
  apply d7 Z rfl<;>intro hb Z
  .have tq6:gk g5 1=true:=by rw[<-hq6];exact hb
   refine a6 [4] [0,4] Z fun X7 Z=>?_
   exact j2 ((rmm O a8 Z (v:=(⟨k,g5⟩:Spt)) (q:=p5) ((X5 2).A 0) ((X5 2).c 0) (by simp[hrun,Q0,Rs.bind,tl,<-hmd,<-hk8,hm5,tq6])).1)
  have tq6:gk g5 1=false:=by rw[<-hq6];exact hb
  obtain⟨q8,hq8⟩:=eqv (gk g5 2);refine a7 ?_;refine j4 [34,0,1,4,5,6,7,8,10] [0,4,8,10,36] [(2,.r fun _=>.bool (.v q8))] Z (hob:=by intro X;subst O;simp only[f8,Ob.holds,BE.den]<;>and_intros<;>repeat first|trivial|rfl|exact(by rw[hq8];exact F0 g5 _ _ 2 _ rfl)|exact by rw[hq8];exact F0 g5 _ _ 2 _ rfl|exact(fun _ _=>by kernel_rfl)|refine⟨?_,?_⟩|intro h|exact Int.le_refl _|decide|omega) fun X8 Z=>?_
  apply d7 Z rfl<;>intro hb Z
  .have tq8:gk g5 2=true:=by rw[<-hq8];exact hb
   refine a6 [5,0,1,4,6] [0,4] Z fun X9 Z=>?_
   have e9':B.arith .add .i64 md 1=md+1:=by subst O;exact e9
   replace Z:=Z.keep [5,6,0,1,4] [0,4];exact o4 (⟨(m0,p5,_,_,(md+1),hi0),⟨by rw[hrun];simp[Q0,Rs.bind,tl,<-hmd,<-hk8,hm5,tq6,tq8],hp5,hn5,(by dsimp only;have:=hf0;have:=hl5;omega),(by dsimp only;omega),(by dsimp only;omega),(by dsimp only;omega),(by dsimp only;omega)⟩,by simp only;omega,by dsimp only;rw[<-e9'];exact Z⟩)
  have tq8:gk g5 2=false:=by rw[<-hq8];exact hb
  obtain⟨q10,hq10⟩:=eqv ((gk g5 3||gk g5 4));refine a7 ?_;refine j4 [40,0,1,4,5,6,7,8,10] [0,4,8,10,42] [(2,.r fun _=>.bool (.v q10))] Z (hob:=by intro X;subst O;simp only[f8,Ob.holds,BE.den]<;>and_intros<;>repeat first|trivial|rfl|exact(by rw[hq10];exact aH g5 _ _ 3 4 _ rfl rfl)|exact by rw[hq10];exact aH g5 _ _ 3 4 _ rfl rfl|exact(fun _ _=>by kernel_rfl)|refine⟨?_,?_⟩|intro h|exact Int.le_refl _|decide|omega) fun X10 Z=>?_
  apply d7 Z rfl<;>intro hb Z
  .have tq10:(gk g5 3||gk g5 4)=true:=by rw[<-hq10];exact hb
   refine a7 ?_
   rcases(Ek m0 0 b J hJ ((X5 2).A 0) ((X5 2).c 0) p5 hp5 hn5 k hk9 g5 hg5 (by have:=hl5;have:=hf0;omega)).two (U7 _ _ _ _ _ _) hp5 hn5 with⟨w11,p11,hm11,O1⟩|⟨v11,p11,hm11,hs11,hp11,hn11,S11⟩
   .refine stp 3 O a8 [44,45,46] [0] [] Z O1 fun _ _ _ _ Z hk=>?_
    exact thm (P:=Tryz.prog) (fn:=Tryz.f211) (q:=p11) Z hk (by simp[hrun,Q0,Rs.bind,tl,<-hmd,<-hk8,hm5,tq6,tq8,tq10,hm11])
   have O1:=S11;refine j4 [0,1,4,5,6] [0,4] [(3,rc J (G1) p11)] Z fun X11 Z=>?_
   replace Z:=Z.keep [5,6,0,1,4] [0,4];exact o4 (⟨(m0,p11,_,_,lo0,hi0),⟨by rw[hrun];simp[Q0,Rs.bind,tl,<-hmd,<-hk8,hm5,tq6,tq8,tq10,hm11],hp11,hn11,(by dsimp only;have:=hf0;have:=hl5;have:=hs11.le;omega),(by dsimp only;omega),(by dsimp only;omega),(by dsimp only;omega),(by dsimp only;omega)⟩,by simp only;omega,by exact Z⟩)
  have tq10:(gk g5 3||gk g5 4)=false:=by rw[<-hq10];exact hb
  refine a7 ?_
  rcases Bool.eq_false_or_eq_true (gk g5 5)with t8|t8
  .rcases (If 0 b J hJ ((X5 2).A 0) ((X5 2).c 0) p5 hp5 hn5 k hk9 m0 (by have:=hl5;have:=hf0;omega)).two (jn _ _ _ _ _) hp5 hn5 with⟨w12,p12,hm12,O1⟩|⟨b12,p12,hm12,hs12,hp12,hn12,S12⟩
   .refine stp 6 O a8 [52,53,54] [0] [(2,.r fun _=>.bool .tt)] Z O1 (hob:=by intro X;subst O;simp only[f8,Ob.holds,BE.den]<;>and_intros<;>repeat first|trivial|rfl|exact((F0 g5 _ _ 5 _ rfl).res fun _=>Sim.bool (by rw[t8];rfl))|exact(fun _ _=>by kernel_rfl)|refine⟨?_,?_⟩|intro h|exact Int.le_refl _|decide|omega) fun _ _ _ _ Z hk=>?_
    exact thm (P:=Tryz.prog) (fn:=Tryz.f211) (q:=p12) Z hk (by simp[hrun,Q0,Rs.bind,tl,<-hmd,<-hk8,hm5,tq6,tq8,tq10,t8,hm12])
   refine j4 [48,0,1,4,5,6,7] [0,4] [(2,.r fun _=>.bool .tt),(6,rc J (.bool (.v b12)) p12)] Z (hob:=by intro X;subst O;simp only[f8,Ob.holds,BE.den]<;>and_intros<;>repeat first|trivial|rfl|exact((F0 g5 _ _ 5 _ rfl).res fun _=>Sim.bool (by rw[t8];rfl))|exact S12|exact(fun _ _=>by kernel_rfl)|refine⟨?_,?_⟩|intro h|exact Int.le_refl _|decide|omega) fun X12 Z=>?_
   apply d7 Z rfl<;>intro hb Z
   .have tb:b12=false:=by subst O;revert hb;cases b12<;>simp[std]
    replace Z:=Z.keep [5,6,0,1,4] [0,4];exact o4 (⟨(m0,p12,_,_,lo0,hi0),⟨by rw[hrun];simp[Q0,Rs.bind,tl,<-hmd,<-hk8,hm5,tq6,tq8,tq10,t8,hm12,tb],hp12,hn12,(by dsimp only;have:=hf0;have:=hl5;have:=hs12.le;omega),(by dsimp only;omega),(by dsimp only;omega),(by dsimp only;omega),(by dsimp only;omega)⟩,by simp only;omega,by exact Z⟩)
   have tb:b12=true:=by subst O;revert hb;cases b12<;>simp[std]
   refine f9 (j5 [0,1,4,5,6] [0,4] Z fun X13 Z=>?_);have e13':B.arith .sub .i64 md 1=md-1:=by subst O;exact e13
   replace Z:=Z.keep [5,6,0,1,4] [0,4];exact⟨(m0,p12,_,_,lo0,(md-1)),⟨by rw[hrun];simp[Q0,Rs.bind,tl,<-hmd,<-hk8,hm5,tq6,tq8,tq10,t8,hm12,tb],hp12,hn12,(by dsimp only;have:=hf0;have:=hl5;have:=hs12.le;omega),(by dsimp only;omega),(by dsimp only;omega),(by dsimp only;omega),(by dsimp only;omega)⟩,by simp only;omega,by dsimp only;rw[<-e13'];exact Z⟩
  refine j4 [48,0,1,4,5,6,7] [0,4] [(2,.r fun _=>.bool .ff)] Z (hob:=by intro X;subst O;simp only[f8,Ob.holds,BE.den]<;>and_intros<;>repeat first|trivial|rfl|exact((F0 g5 _ _ 5 _ rfl).res fun _=>Sim.bool (by rw[t8];rfl))|exact(fun _ _=>by kernel_rfl)|refine⟨?_,?_⟩|intro h|exact Int.le_refl _|decide|omega) fun X12 Z=>?_
  refine F2 Z rfl (fun Z=>?_);refine f9 (j5 [0,1,4,5,6] [0,4] Z fun X13 Z=>?_);have e13':B.arith .sub .i64 md 1=md-1:=by subst O;exact e13
  replace Z:=Z.keep [5,6,0,1,4] [0,4];exact⟨(m0,p5,_,_,lo0,(md-1)),⟨by rw[hrun];simp[Q0,Rs.bind,tl,<-hmd,<-hk8,hm5,tq6,tq8,tq10,t8],hp5,hn5,(by dsimp only;have:=hf0;have:=hl5;omega),(by dsimp only;omega),(by dsimp only;omega),(by dsimp only;omega),(by dsimp only;omega)⟩,by simp only;omega,by dsimp only;rw[<-e13'];exact Z⟩
 have tl:¬lo0<=hi0:=by subst O;simpa[std,b7]using hb
 refine o4 (a7 ?_)
 rcases(uf 0 b J hJ A0 c0 p0 hp0 hn0 key hk (m0+1) hf0).two (E4 _ _ _ _ _ _) hp0 hn0 with⟨w14,p14,hm14,O1⟩|⟨s14,p14,hm14,hs14,hp14,hn14,S14⟩
 .refine stp 2 O a8 [60,61] [0] [] Z O1 fun _ _ _ _ Z hk=>?_
  exact thm (P:=Tryz.prog) (fn:=Tryz.f211) (q:=p14) Z hk (by simp[hrun,Q0,Rs.bind,tl,hm14])
 have O1:=S14;refine j4 [4] [0,4] [(2,rc J (V7 s14) p14)] Z fun X14 Z=>?_
 exact j2 ((rmm O a8 Z (v:=s14) (q:=p14) ((X14 2).A 0) ((X14 2).c 0) (by simp[hrun,Q0,Rs.bind,tl,hm14])).1)
theorem IG(k0 b:Nat)(J:l4)(hJ:u7 J)(A:Option Addr)(c:Nat)(p:Pst)(hp:j8 p)(hn:p.n<=1000000)(key:Int)(hk:U64 key)(n:Nat)(hf:p.n<n):s8 211 k0 b J A c p [.int .u64 key] (V7) (Q0 J.bucket J.budget key n 0 64 p):=s8.re (GF b J hJ A c p hp hn key hk n hf) (by repeat(first|exact trivial|refine⟨zr,?_⟩))
theorem AX(b:Nat)(J:l4)(hJ:u7 J)(A:Option Addr)(c:Nat)(p:Pst)(hp:j8 p)(hn:p.n<=1000000)(key:Int)(hk:U64 key)(n:Nat)(hf:p.n<n)(hh:J.how=1):s8 145 0 b J A c p [.int .u64 key] (V7) (L5 J.bucket J.budget key n B6 p):=by
 intro m w hm hargs hpre;refine enX 17 hm hpre hargs Tryz.func145 fun B O a0 Z=>?_
 refine a6 [0,1,4] [0,4] Z fun X0 Z=>?_
 refine a6 [0,1,4,5] [0,4,5] Z fun X1 Z=>?_
 refine a7 (wp_region_lit (lpr 0 5 O a8 [11,0,1,4,5] [0,4,5] [] Z fun X2_0 _ _ Z=>?_));replace Z:=Z.headS (v':=.int .i64 1) (Sim.of_int hh) rfl
 rcases(uf 0 b J hJ A c p hp hn key hk n hf).two (E4 _ _ _ _ _ _) hp hn with⟨w2,p2,hm2,O1⟩|⟨s2,p2,hm2,hs2,hp2,hn2,S2⟩
 .refine stl 5 4 O a8 [13,14,15] [0] [] Z O1 fun _ _ _ _ Z hk=>?_
  exact thm (P:=Tryz.prog) (fn:=Tryz.f145) (q:=p2) Z hk (by simp[Rs.bind,hm2])
 have O1:=S2;refine lnd 5 O a8 [4] [0,4] [(9,rc J (V7 s2) p2)] Z fun X2 _ _ Z=>?_
 exact j2 ((rmm O a8 Z (v:=s2) (q:=p2) ((X2 9).A 0) ((X2 9).c 0) (by simp[Rs.bind,hm2])).1)
theorem EU(k0 b:Nat)(J:l4)(hJ:u7 J)(A:Option Addr)(c:Nat)(p:Pst)(hp:j8 p)(hn:p.n<=1000000)(key:Int)(hk:U64 key)(n:Nat)(hf:p.n<n)(hh:J.how=1):s8 145 k0 b J A c p [.int .u64 key] (V7) (L5 J.bucket J.budget key n B6 p):=s8.re (AX b J hJ A c p hp hn key hk n hf hh) (by repeat(first|exact trivial|refine⟨zr,?_⟩))
theorem AW(b:Nat)(J:l4)(hJ:u7 J)(A:Option Addr)(c:Nat)(p:Pst)(hp:j8 p)(hn:p.n<=1000000)(key:Int)(hk:U64 key)(n:Nat)(hf:p.n<n)(hh:J.how=2):s8 145 0 b J A c p [.int .u64 key] (V7) (Q0 J.bucket J.budget key n 0 64 p):=by
 intro m w hm hargs hpre;refine enX 17 hm hpre hargs Tryz.func145 fun B O a0 Z=>?_
 refine a6 [0,1,4] [0,4] Z fun X0 Z=>?_
 refine a6 [0,1,4,5] [0,4,5] Z fun X1 Z=>?_
 refine a7 (wp_region_lit (lpr 0 5 O a8 [11,0,1,4,5] [0,4,5] [] Z fun X2_0 _ _ Z=>?_));replace Z:=Z.headS (v':=.int .i64 2) (Sim.of_int hh) rfl
 rcases(IG 0 b J hJ A c p hp hn key hk n hf).two (ce _ _ _ _ _ _ _) hp hn with⟨w2,p2,hm2,O1⟩|⟨s2,p2,hm2,hs2,hp2,hn2,S2⟩
 .refine stl 5 4 O a8 [13,14,15] [0] [] Z O1 fun _ _ _ _ Z hk=>?_
  exact thm (P:=Tryz.prog) (fn:=Tryz.f145) (q:=p2) Z hk (by simp[Rs.bind,hm2])
 have O1:=S2;refine lnd 5 O a8 [4] [0,4] [(9,rc J (V7 s2) p2)] Z fun X2 _ _ Z=>?_
 exact j2 ((rmm O a8 Z (v:=s2) (q:=p2) ((X2 9).A 0) ((X2 9).c 0) (by simp[Rs.bind,hm2])).1)
theorem ET(k0 b:Nat)(J:l4)(hJ:u7 J)(A:Option Addr)(c:Nat)(p:Pst)(hp:j8 p)(hn:p.n<=1000000)(key:Int)(hk:U64 key)(n:Nat)(hf:p.n<n)(hh:J.how=2):s8 145 k0 b J A c p [.int .u64 key] (V7) (Q0 J.bucket J.budget key n 0 64 p):=s8.re (AW b J hJ A c p hp hn key hk n hf hh) (by repeat(first|exact trivial|refine⟨zr,?_⟩))
theorem HE(k0 b:Nat)(J:l4)(hJ:u7 J)(A:Option Addr)(c:Nat)(p:Pst)(hp:j8 p)(hn:p.n<=1000000)(key:Int)(hk:U64 key)(n:Nat)(hf:p.n<n)(hh:J.how=1 \/ J.how=2):s8 145 k0 b J A c p [.int .u64 key] V7 (jN J.bucket J.budget J.how key n p):=by
 unfold jN
 rcases hh with hh|hh
 .rw [if_pos hh];exact EU k0 b J hJ A c p hp hn key hk n hf hh
 rw[if_neg (by omega)];exact ET k0 b J hJ A c p hp hn key hk n hf hh
structure Di where
 A:Option Addr
 n:Nat
 c:Nat
 f:Nat->r5
abbrev Ir(J:l4)(E:Di)(N:Nat)(w:F7)(t:Nt):List AV:=[.int .i64 J.kind,.int .i64 J.lab.len,.int .u64 J.lab.bits,.int .u64 J.key,.int .u64 J.hi,.str J.val,.int .i64 J.most,.sl none J.pA J.pn J.pc 1 (fun i=>[.int .i64 (J.pf i)]),.int .u32 J.x1,.int .u32 J.x2,.int .u32 J.y1,.int .u32 J.y2,.int .i64 J.how,.int .i64 J.bucket,.int .i64 J.budget,
 .sl none E.A E.n E.c 8 (fun j=>N9 (E.f j)),.int .i64 (N:Int),.bool .tt,
 .int .i64 w.kind,.int .i64 w.lab.len,.int .u64 w.lab.bits,.int .u64 w.ver,.int .i64 w.x.r.kd,.sl none w.x.A w.x.r.n w.x.c 2 (fun i=>itC (w.x.r.f i)),.int .i64 w.x.r.nx.len,.int .u64 w.x.r.nx.bits,.int .u64 w.x.r.mrk,.int .i64 w.s.code,.bool (.v w.s.had),.str w.s.val,.sl none w.s.A w.s.n w.s.c 2 (fun i=>itC (w.s.f i)),.int .u64 w.s.key,.bool (.v w.s.more),
 .int .i64 t.code,.bool (.v t.had),.str t.val,.sl none none 0 0 2 (fun _=>[]),.int .u64 0,.bool .ff]
section
variable {P:Program} {T:List (Nat×TI)} {s:St} {a:Act} {w:World} {α : Type} {Kk:Kn} {m:Nat->Nat->Prop} {w0:World} {b k0 ty:Nat} {cs:List AV} {fn:Func} {enc:α->AV} {dfl:AV} {J:l4} {E:Di} {r:Rs α}
end
section
variable {P:Program} {T:List (Nat×TI)} {s:St} {a:Act} {w:World} {α : Type} {Kk:Kn} {m:Nat->Nat->Prop} {w0:World} {b k0 ty:Nat} {cs:List AV} {fn:Func} {enc:α->AV} {dfl:AV} {J:l4} {E:Di} {r:Rs α} {rs:List ResultVar} {rr:List AV×List Ob} {B:Alg}
abbrev dc(J:l4)(E:Di)(v:AV)(N:Nat)(W:F7)(t:Nt):CS:=.x fun _=>⟨v,[(0,Ir J E N W t)],[]⟩
end
theorem uP(v lo hi:Int):l7 Tryz.prog 140 [.int .i64 v,.int .i64 lo,.int .i64 hi] (fun _=>.bool (.v (btw v lo hi))):=by
 intro m w hm hargs;refine en 15 hm hargs Tryz.func140 fun B O a0 Z=>?_
 refine a6 [0,1,2] [] Z fun X0 Z=>?_
 refine a6 [6] [] Z fun X1 Z=>?_
 refine B4 Z ?_;subst O;refine Sim.bool ?_
 show(if decide (lo<=v)=true then decide (v<=hi)else false)=_
 rw[M7];rfl
theorem Ih(J:l4)(hl:U64 J.lab.bits):l7 Tryz.prog 85 [U0 J] (fun _=>.bool (.v (E6 J))):=by
 intro m w hm hargs;have S1:=uP J.bucket 1 16;have S2:=uP J.budget 0 2000;have S3:=uP J.how 1 2;have S4:=uP J.most 0 500;have SL:=eB J.lab hl;simp only[i9]at SL;obtain⟨q1,hq1⟩:=eqv (btw J.bucket 1 16);rw[<-hq1]at S1;obtain⟨q2,hq2⟩:=eqv (btw J.budget 0 2000);rw[<-hq2]at S2;obtain⟨q3,hq3⟩:=eqv (btw J.how 1 2);rw[<-hq3]at S3;obtain⟨q4,hq4⟩:=eqv (btw J.most 0 500);rw[<-hq4]at S4;obtain⟨ql,hql⟩:=eqv (isL J.lab);rw[<-hql]at SL;refine en 37 hm hargs Tryz.func85 fun B O a0 Z=>?_
 refine a6 [1] [1] Z fun X0 Z=>?_
 refine a6 [1,3] [1] Z fun X1 Z=>?_
 refine a7 ?_;refine j4 [2] [] [(3,.r fun _=>.bool (.v q1)),(8,.r fun _=>.bool (.v q2)),(14,.r fun _=>.bool (.v q3)),(20,.r fun _=>.bool (.v q4)),(31,.r fun _=>.bool (.v ql))] Z (hob:=by intro X;subst O;simp only[f8,Ob.holds,BE.den]<;>and_intros<;>repeat first|trivial|rfl|exact S1|exact S2|exact S3|exact S4|exact SL|exact(fun _ _=>by kernel_rfl)|refine⟨?_,?_⟩|intro h|exact Int.le_refl _|decide|omega) fun X2 Z=>?_
 refine B4 Z ?_;subst O;refine Sim.bool ?_
 show(if(if(if(if(if q1=true then q2 else false)=true then q3 else false)=true then q4 else false)=true then decide ((J.pn:Int)<=500)else false)=true then ql else false)=_
 simp only[M7];unfold E6;rw[<-hq1,<-hq2,<-hq3,<-hq4,<-hql];rfl
theorem Ii(g:r5)(hg:InG g):l7 Tryz.prog 84 [F4 g] (fun _=>.bool (.v (D8 g))):=by
 intro m w hm hargs;have SR:=kF g.x.A g.x.r.n g.x.c g.x.r.f hg.len g.x.r.kd g.x.r.nx g.x.r.mrk hg.nx;unfold bR r6 at SR;obtain⟨ir,hir⟩:=eqv (N7 g.x.r.kd g.x.r.n g.x.r.f g.x.r.nx g.x.r.mrk);rw[<-hir]at SR;refine en 41 hm hargs Tryz.func84 fun B O a0 Z=>?_
 refine a6 [1] [1] Z fun X0 Z=>?_
 refine a7 (j0 (a6 [4,1] [1] Z fun X1 Z=>?_));apply d7 Z rfl<;>intro hb Z
 .have hc:(decide (g.code=0)||decide (g.code=8))=false:=by
   have h9:(if(g.code != 0)=true then(g.code != 8)else false)=true:=by subst O;exact hb
   rw[M7]at h9
   by_cases h1:g.code=0<;>by_cases h2:g.code=8<;>simp[h1,h2]at h9 ⊢
  refine a6 [2] [] Z fun X2 Z=>?_
  refine B4 Z ?_;subst O;refine Sim.bool ?_
  show false=_
  unfold D8;rw[hc];rfl
 have hc:(decide (g.code=0)||decide (g.code=8))=true:=by
  have h9:(if(g.code != 0)=true then(g.code != 8)else false)=false:=by subst O;exact hb
  rw[M7]at h9
  by_cases h1:g.code=0<;>by_cases h2:g.code=8<;>simp[h1,h2]at h9 ⊢
 refine a6 [13,1] [1] Z fun X3 Z=>?_
 apply d7 Z rfl<;>intro hb Z
 .have hh:g.has=true:=hb
  have O1:=SR;refine j6 [2] [] [(2,.r fun _=>.bool (.v ir))] Z fun X4 Z=>?_
  refine B4 Z ?_;subst O;refine Sim.bool ?_
  show ir=_
  unfold D8;rw[hc,if_pos hh,<-hir];rfl
 have hh:¬g.has=true:=by rw[Bool.not_eq_true];exact hb
 refine f9 (a6 [3] [3] Z fun X5 Z=>?_);refine a7 ?_;refine j5 [2] [] Z fun X6 Z=>?_
 refine B4 Z ?_;subst O;refine Sim.bool ?_
 show(if(if(if(g.x.r.kd==0)=true then(((g.x.r.n:Nat):Int)==0)else false)=true then eqL [.int .i64 g.x.r.nx.len,.int .u64 g.x.r.nx.bits] [.int .i64 0,.int .u64 0]else false)=true then(g.x.r.mrk==0)else false)=_
 rw[jp g.x.r.nx ⟨0,0⟩];simp only[M7];have hn0:(((g.x.r.n:Nat):Int)==0)=decide (g.x.r.n=0):=by
  rw[Bool.eq_iff_iff,beq_iff_eq,decide_eq_true_eq];omega
 unfold D8;rw[hc,if_neg hh,hn0];rfl
theorem HY(g:r5)(hg:InG g):l7 Tryz.prog 83 [F4 g] (fun _=>.bool (.v (!D8 g))):=by
 intro m w hm hargs;have S:=Ii g hg;obtain⟨q,hq⟩:=eqv (D8 g);rw[<-hq]at S ⊢;refine en 6 hm hargs Tryz.func83 fun B O a0 Z=>?_
 refine a6 [1] [1] Z fun X0 Z=>?_
 have O1:=S;refine j6 [2] [] [(1,.r fun _=>.bool (.v q))] Z fun X1 Z=>?_
 refine B4 Z ?_;subst O;exact zr
theorem Ig(A:Option Addr)(n c:Nat)(f:Nat->r5)(hin:∀j,j<n->InG (f j)):l7 Tryz.prog 142 [iz A n c f,.fn 83 [] []] (fun x=>.int .i64 (if Q1 n f=true then -1 else(x.b:Int))):=by
 intro m w hm hargs;have hlen:=rQ (hargs (iz A n c f) (by simp));have hmx:maxLen=9223372036854775807:=rfl;refine en 19 hm hargs Tryz.func142 fun B O a0 Z=>?_
 refine a6 [0,1] [] Z fun X0 Z=>?_
 refine a7 (a6 [8,0,1,7] [] Z fun X1 Z=>?_);refine j0 (r9 (ι:=Nat) (fun p=>[(8,.int .i64 (p:Int))]) (fun p=>[]) (fun p=>[]) (fun p=>p<=n/\∀j,j<p->D8 (f j)=true) (fun p=>n-p) 0 ⟨Nat.zero_le _,fun i hi=>absurd hi (Nat.not_lt_zero _)⟩ Z ?_)
 rintro i ⟨hi,hall⟩ _ _ Z
 try dsimp only at hi
 try dsimp only at hall
 refine a6 [9,0,1,7,8] [] Z fun X2 Z=>?_
 refine a7 (d7 Z rfl (fun hb Z=>?_) (fun hb Z=>?_))
 .have hin_:i<n:=by
   have:(i:Int)<(n:Int):=by subst O;simpa[std,b7]using hb
   omega
  have S:=HY (f i) (hin i hin_);obtain⟨q,hq⟩:=eqv (D8 (f i));rw[<-hq]at S;refine f9 (a7 (j0 (a6 [0,1,5,7,8] [] Z fun X3 Z=>?_)));refine a7 ?_;have O4:(0:Int)<=(i:Int):=by omega
  have O5:(i:Int)<(n:Int):=by omega
  have O6:=S;refine j4 [16,0,1,5,7,8] [] [(5,.r fun _=>.bool (.v (!q)))] Z fun X4 Z=>?_
  apply d7 Z rfl<;>intro hb Z
  .have hne:D8 (f i)=false:=by
    rw[<-hq];have:(!q)=true:=hb
    simpa using this
   refine a6 [4] [] Z fun X5 Z=>?_
   refine j2 ((rsp O a8 Z (⟨i,fun _=>none,fun _=>0,fun _=>.empty⟩) (he:=?_)).1);subst O;rw[wZ hin_ hne];rfl
  have hne:D8 (f i)=true:=by
   rw[<-hq];have:(!q)=false:=hb
   simpa using this
  refine f9 (j5 [8,0,1,7] [] Z fun X6 Z=>?_);have e:B.arith .add .i64 (i:Int) 1=((i+1:Nat):Int):=by subst O;exact j7 (n:=n) hin_ (by omega)
  refine⟨i+1,⟨by omega,fun j hj=>?_⟩,by omega,by rw[<-e];exact Z⟩
  by_cases hij:j=i
  .rw [hij];exact hne
  exact hall j (by omega)
 have hout:i=n:=by
  have:¬(i:Int)<(n:Int):=by subst O;simpa[std,b7]using hb
  omega
 refine o4 (a6 [4] [] Z fun X7 Z=>?_);refine aS Z ?_;subst O;rw[hout]at hall;rw[lF hall];rfl
theorem Iu(A:Option Addr)(n c:Nat)(f:Nat->r5)(hin:∀j,j<n->InG (f j)):l7 Tryz.prog 87 [iz A n c f,.fn 83 [] []] (fun _=>.bool (.v (!Q1 n f))):=by
 intro m w hm hargs;have S0:=Ig A n c f hin;obtain⟨q,hq⟩:=eqv (Q1 n f);rw[<-hq]at S0 ⊢;refine en 9 hm hargs Tryz.func87 fun B O a0 Z=>?_
 refine a6 [0,1] [] Z fun X0 Z=>?_
 have O1:=S0;refine j6 [4] [] [(2,.r fun x=>.int .i64 (if q=true then -1 else(x.b:Int)))] Z fun X1 Z=>?_
 refine B4 Z ?_;subst O;refine Sim.bool ?_
 show decide ((if q=true then -1 else(((X1 2).b:Nat):Int)) ≥ 0) = !q
 cases q
 .simp
 rfl
theorem gl:o3 Tryz.prog 88:=fun _ _=>by kernel_rfl
theorem BC(Q q0:F7)(e:Int)(b8 b9 b11 br:Nat)(J:l4)(A:Option Addr)(c:Nat)(p:Pst)(hz:p.n=0):rh Tryz.prog 88 .returning .returning .nili [.ptr 8 b8 0,.ptr 11 b11 0,.ptr 9 b9 0] [(8,⟨b8,40,V6 q0⟩),(11,⟨b11,113,[.ptr 32 br 0]⟩),(9,⟨b9,36,[.int .i64 e]⟩),(32,⟨br,139,D4 J A c p⟩)] (fun _=>⟨.tup [],[(8,V6 q0),(11,[.ptr 32 br 0]),(9,[.int .i64 e]),(32,D4 J A c p)],[]⟩):=by
 intro m w hm hargs hpre hx;refine gn .no hm hpre hargs hx Tryz.func88 (by exact rfl) (by exact rfl) (by exact rfl) (by exact rfl) (by exact rfl) (by simp[Tryz.ntmps88]) (by simp[Tryz.ntmps88]) fun a0 Z=>?_
 simp only[Tryz.ntmps88,A8,St.put]at Z;obtain⟨B,O⟩:=eqv std;refine j0 (a6 [8,6,0,1,2] [8,11,9,32] Z fun X3 Z=>?_);refine D5 Z rfl (fun Z=>?_);refine j5 [0,1,2] [8,11,9,32] Z fun X4 Z=>?_
 refine a6 [18,0,2] [8,11,9,32] Z fun X8 Z=>?_
 apply d7 Z rfl<;>intro hb Z
 .exfalso
  have ht:0<p.n:=by
   have:(0:Int)<(p.n:Int):=by subst O;simpa[std,b7]using hb
   omega
  omega
 skip
 refine f9 ((rx O a8 Z G6 [] (hs:=?_)).2);subst O;exact⟨rfl,⟨_,rfl,zl⟩,rfl,⟨_,rfl,zl⟩,rfl,⟨_,rfl,zl⟩,rfl,⟨_,rfl,zl⟩,trivial⟩
theorem BB(Q q0:F7)(e:Int)(b8 b9 b11 br:Nat)(J:l4)(A:Option Addr)(c:Nat)(p:Pst)(hz:0<p.n):rh Tryz.prog 88 .returning .returning .nili [.ptr 8 b8 0,.ptr 11 b11 0,.ptr 9 b9 0] [(8,⟨b8,40,V6 q0⟩),(11,⟨b11,113,[.ptr 32 br 0]⟩),(9,⟨b9,36,[.int .i64 e]⟩),(32,⟨br,139,D4 J A c p⟩)] (fun _=>⟨.tup [],[(8,[.int .i64 0,.int .i64 0,.int .u64 0,.int .u64 0,.int .i64 0,.sl none none 0 0 2 (fun _=>[]),.int .i64 0,.int .u64 0,.int .u64 0,.int .i64 0,.bool .ff,.str ⟨#[]⟩,.sl none none 0 0 2 (fun _=>[]),.int .u64 0,.bool .ff]),(11,[.ptr 32 br 0]),(9,[.int .i64 5]),(32,D4 J A c p)],[]⟩):=by
 intro m w hm hargs hpre hx;refine gn .no hm hpre hargs hx Tryz.func88 (by exact rfl) (by exact rfl) (by exact rfl) (by exact rfl) (by exact rfl) (by simp[Tryz.ntmps88]) (by simp[Tryz.ntmps88]) fun a0 Z=>?_
 simp only[Tryz.ntmps88,A8,St.put]at Z;obtain⟨B,O⟩:=eqv std;refine j0 (a6 [8,6,0,1,2] [8,11,9,32] Z fun X3 Z=>?_);refine D5 Z rfl (fun Z=>?_);refine j5 [0,1,2] [8,11,9,32] Z fun X4 Z=>?_
 refine a6 [18,0,2] [8,11,9,32] Z fun X8 Z=>?_
 apply d7 Z rfl<;>intro hb Z
 .skip
  refine j5 [] [8,11,9,32] Z fun X9 Z=>?_
  refine(rx O a8 Z G6 [] (hs:=?_)).2;subst O;exact⟨rfl,⟨_,rfl,zl⟩,rfl,⟨_,rfl,zl⟩,rfl,⟨_,rfl,zl⟩,rfl,⟨_,rfl,zl⟩,trivial⟩
 exfalso
 have ht:¬0<p.n:=by
  have:¬(0:Int)<(p.n:Int):=by subst O;simpa[std,b7]using hb
  omega
 exact ht hz
theorem yo(Q q0:F7)(e:Int)(b8 b9 b11 br:Nat)(J:l4)(A:Option Addr)(c:Nat)(p:Pst)(hz:p.n=0):rh Tryz.prog 88 (.panicking [{ v:=.iface 40 (E8 Q).den,recovered:=false }]) (.panicking [{ v:=.iface 40 (E8 Q).den,recovered:=true }]) (.ifc 40 (E8 Q)) [.ptr 8 b8 0,.ptr 11 b11 0,.ptr 9 b9 0] [(8,⟨b8,40,V6 q0⟩),(11,⟨b11,113,[.ptr 32 br 0]⟩),(9,⟨b9,36,[.int .i64 e]⟩),(32,⟨br,139,D4 J A c p⟩)] (fun _=>⟨.tup [],[(8,V6 Q),(11,[.ptr 32 br 0]),(9,[.int .i64 e]),(32,D4 J A c p)],[]⟩):=by
 intro m w hm hargs hpre hx;refine gn (.yes 40 (E8 Q)) hm hpre hargs hx Tryz.func88 (by exact rfl) (by exact rfl) (by exact rfl) (by exact rfl) (by exact rfl) (by simp[Tryz.ntmps88]) (by simp[Tryz.ntmps88]) fun a0 Z=>?_
 simp only[Tryz.ntmps88,A8,St.put]at Z;obtain⟨B,O⟩:=eqv std;refine j0 (a6 [8,6,0,1,2] [8,11,9,32] Z fun X3 Z=>?_);refine F2 Z rfl (fun Z=>?_);obtain⟨dd,hu,hni⟩:=(k7 a8 (t:=40) rfl).conc rfl;refine a7 (wp_region_lit (ip rfl rfl rfl rfl Z (Nat.le_of_ble_eq_true rfl) rfl hu hni ?_));intro a0 Z;refine lnd 1 O a8 [10,11,0,1,2] [8,11,9,32] [] Z fun X5 a0 w1 Z=>?_
 refine D5 Z rfl (fun Z=>?_);refine a6 [0,1,2,4] [8,11,9,32,4] Z fun X6 Z=>?_
 refine j5 [0,1,2] [8,11,9,32] Z fun X7 Z=>?_
 refine a6 [18,0,2] [8,11,9,32] Z fun X8 Z=>?_
 apply d7 Z rfl<;>intro hb Z
 .exfalso
  have ht:0<p.n:=by
   have:(0:Int)<(p.n:Int):=by subst O;simpa[std,b7]using hb
   omega
  omega
 skip
 refine f9 ((rx O a8 Z G6 [] (hs:=?_)).2);subst O;exact⟨rfl,⟨_,rfl,zl⟩,rfl,⟨_,rfl,zl⟩,rfl,⟨_,rfl,zl⟩,rfl,⟨_,rfl,zl⟩,trivial⟩
theorem yn(Q q0:F7)(e:Int)(b8 b9 b11 br:Nat)(J:l4)(A:Option Addr)(c:Nat)(p:Pst)(hz:0<p.n):rh Tryz.prog 88 (.panicking [{ v:=.iface 40 (E8 Q).den,recovered:=false }]) (.panicking [{ v:=.iface 40 (E8 Q).den,recovered:=true }]) (.ifc 40 (E8 Q)) [.ptr 8 b8 0,.ptr 11 b11 0,.ptr 9 b9 0] [(8,⟨b8,40,V6 q0⟩),(11,⟨b11,113,[.ptr 32 br 0]⟩),(9,⟨b9,36,[.int .i64 e]⟩),(32,⟨br,139,D4 J A c p⟩)] (fun _=>⟨.tup [],[(8,[.int .i64 0,.int .i64 0,.int .u64 0,.int .u64 0,.int .i64 0,.sl none none 0 0 2 (fun _=>[]),.int .i64 0,.int .u64 0,.int .u64 0,.int .i64 0,.bool .ff,.str ⟨#[]⟩,.sl none none 0 0 2 (fun _=>[]),.int .u64 0,.bool .ff]),(11,[.ptr 32 br 0]),(9,[.int .i64 5]),(32,D4 J A c p)],[]⟩):=by
 intro m w hm hargs hpre hx;refine gn (.yes 40 (E8 Q)) hm hpre hargs hx Tryz.func88 (by exact rfl) (by exact rfl) (by exact rfl) (by exact rfl) (by exact rfl) (by simp[Tryz.ntmps88]) (by simp[Tryz.ntmps88]) fun a0 Z=>?_
 simp only[Tryz.ntmps88,A8,St.put]at Z;obtain⟨B,O⟩:=eqv std;refine j0 (a6 [8,6,0,1,2] [8,11,9,32] Z fun X3 Z=>?_);refine F2 Z rfl (fun Z=>?_);obtain⟨dd,hu,hni⟩:=(k7 a8 (t:=40) rfl).conc rfl;refine a7 (wp_region_lit (ip rfl rfl rfl rfl Z (Nat.le_of_ble_eq_true rfl) rfl hu hni ?_));intro a0 Z;refine lnd 1 O a8 [10,11,0,1,2] [8,11,9,32] [] Z fun X5 a0 w1 Z=>?_
 refine D5 Z rfl (fun Z=>?_);refine a6 [0,1,2,4] [8,11,9,32,4] Z fun X6 Z=>?_
 refine j5 [0,1,2] [8,11,9,32] Z fun X7 Z=>?_
 refine a6 [18,0,2] [8,11,9,32] Z fun X8 Z=>?_
 apply d7 Z rfl<;>intro hb Z
 .skip
  refine j5 [] [8,11,9,32] Z fun X9 Z=>?_
  refine(rx O a8 Z G6 [] (hs:=?_)).2;subst O;exact⟨rfl,⟨_,rfl,zl⟩,rfl,⟨_,rfl,zl⟩,rfl,⟨_,rfl,zl⟩,rfl,⟨_,rfl,zl⟩,trivial⟩
 exfalso
 have ht:¬0<p.n:=by
  have:¬(0:Int)<(p.n:Int):=by subst O;simpa[std,b7]using hb
  omega
 exact ht hz
theorem AR{v v':AV}(h:Sim v v'):Sim (can v) (can v'):=
 ⟨by rw[F6,F6];exact h.1,by rw[js,js];exact h.2.1,fun m w hv=>(J3 _).1 (h.2.2 _ _ ((J3 _).2 hv))⟩
def dN(b8 b11 b9:Nat):Deferred:={ target:=.fn (.func 88) (AV.denL [.ptr 8 b8 0,.ptr 11 b11 0,.ptr 9 b9 0]).toArray,args:=(AV.denL []).toArray }
def DU(r:Rs Rsl):j1->Out:=fun x=>.ret ⟨.tup [E8 (wqA x (K6 r).1),.int .i64 (K6 r).2],[],[]⟩
theorem gt{m:Nat->Nat->Prop}{w:World}{b8 b11 b9:Nat}:∀v∈([]:List AV) ++ [.ptr 8 b8 0,.ptr 11 b11 0,.ptr 9 b9 0],Ok m w v:=by
 intro v hv;simp only[List.nil_append,List.mem_cons,List.not_mem_nil,or_false]at hv
 rcases hv with rfl|rfl|rfl<;>exact .ptr _ _ _
section
variable {m:Nat->Nat->Prop} {w0 w:World} {a:Act} {b8 b9 b11 br:Nat} {q0 Q:F7} {J:l4} {A:Option Addr} {c:Nat} {p:Pst} {r:Rs Rsl}
theorem Fr{x:j1}{wq:Wq}(h:f7 ⟨m,w0,ats [],[dN b8 b11 b9],noK⟩ ⟨49,[(8,.ptr 8 b8 0),(9,.ptr 9 b9 0)],[],[(8,⟨b8,40,V6 q0⟩),(9,⟨b9,36,[.int .i64 0]⟩),(11,⟨b11,113,[.ptr 32 br 0]⟩),(32,⟨br,139,D4 J A c p⟩)],[]⟩ a w)(hok:Ok (St.m ⟨49,[(8,.ptr 8 b8 0),(9,.ptr 9 b9 0)],[],[(8,⟨b8,40,V6 q0⟩),(9,⟨b9,36,[.int .i64 0]⟩),(11,⟨b11,113,[.ptr 32 br 0]⟩),(32,⟨br,139,D4 J A c p⟩)],[]⟩ ⟨m,w0,ats [],[],noK⟩) w (E8 Q))(hQ:Q=wqA x wq)(hr:r = .stop wq p) :
  bodyPostD Tryz.prog Tryz.f35 (iH m w0 [] (DU r)) (.panic [{ v:=.iface 40 (E8 Q).den,recovered:=false }]) a w:=by
 subst hr
 show Leaves _ _ a.tmps _ a.defers (.panicking _) w
 by_cases hz:p.n=0
 .have ht:K6 (.stop wq p)=(wq,0):=by simp[K6,hz]
  refine jh (C:=⟨m,w0,ats [],[],noK⟩) (l:=[]) (r:=[.ptr 8 b8 0,.ptr 11 b11 0,.ptr 9 b9 0]) (ds:=[]) (x:=(.ifc 40 (E8 Q))) h (by simp) gl (yo Q q0 0 b8 b9 b11 br J A c p hz) gt (.ifc _ _ hok) (by intro e he;simp only[List.mem_cons,List.not_mem_nil,or_false]at he;rcases he with rfl|rfl|rfl|rfl<;>rfl) rfl fun w2 h2=>?_
  show Leaves _ _ a.tmps _ [] .returning w2
  refine aZ (a:={ tmps:=a.tmps,defers:=[] }) a8 h2 (rs:=[.cell 8 40,.cell 9 36]) rfl (by conv=>lhs;cbv) ?_ x rfl [] ?_ trivial trivial
  .simp [f8,Ob.holds]
  rw[ht,hQ];exact zr
 have hz:0<p.n:=by omega
 have ht:K6 (.stop wq p)=(zWq,5):=by simp[K6,hz]
 refine jh (C:=⟨m,w0,ats [],[],noK⟩) (l:=[]) (r:=[.ptr 8 b8 0,.ptr 11 b11 0,.ptr 9 b9 0]) (ds:=[]) (x:=(.ifc 40 (E8 Q))) h (by simp) gl (yn Q q0 0 b8 b9 b11 br J A c p hz) gt (.ifc _ _ hok) (by intro e he;simp only[List.mem_cons,List.not_mem_nil,or_false]at he;rcases he with rfl|rfl|rfl|rfl<;>rfl) rfl fun w2 h2=>?_
 show Leaves _ _ a.tmps _ [] .returning w2
 refine aZ (a:={ tmps:=a.tmps,defers:=[] }) a8 h2 (rs:=[.cell 8 40,.cell 9 36]) rfl (by conv=>lhs;cbv) ?_ ⟨0,fun _=>none,fun _=>0,fun _=>.empty⟩ rfl [] ?_ trivial trivial
 .simp [f8,Ob.holds]
 rw[ht];exact Sim.tup ⟨Sim.agg ⟨zr,zr,zr,zr,zr,zq0,zr,zr,zr,zr,zr,zr,zq0,zr,zr,trivial⟩,zr,trivial⟩
theorem Fs{x:j1}{r1:Rsl}(h:f7 ⟨m,w0,ats [],[dN b8 b11 b9],noK⟩ ⟨49,[(8,.ptr 8 b8 0),(9,.ptr 9 b9 0)],[],[(8,⟨b8,40,V6 q0⟩),(9,⟨b9,36,[.int .i64 0]⟩),(11,⟨b11,113,[.ptr 32 br 0]⟩),(32,⟨br,139,D4 J A c p⟩)],[]⟩ a w)(hq:Sim (E8 q0) (E8 (wqA x ⟨4,⟨0,0⟩,0,j3,r1⟩)))(hr:r = .ok r1 p) :
  bodyPostD Tryz.prog Tryz.f35 (iH m w0 [] (DU r)) .ret a w:=by
 subst hr
 show Leaves _ _ a.tmps _ a.defers .returning w
 by_cases hz:p.n=0
 .have ht:K6 (.ok r1 p)=(⟨4,⟨0,0⟩,0,j3,r1⟩,0):=by simp[K6,hz]
  refine jh (C:=⟨m,w0,ats [],[],noK⟩) (l:=[]) (r:=[.ptr 8 b8 0,.ptr 11 b11 0,.ptr 9 b9 0]) (ds:=[]) (x:=.nili) h (by simp) gl (BC q0 q0 0 b8 b9 b11 br J A c p hz) gt .nili (by intro e he;simp only[List.mem_cons,List.not_mem_nil,or_false]at he;rcases he with rfl|rfl|rfl|rfl<;>rfl) rfl fun w2 h2=>?_
  show Leaves _ _ a.tmps _ [] .returning w2
  refine aZ (a:={ tmps:=a.tmps,defers:=[] }) a8 h2 (rs:=[.cell 8 40,.cell 9 36]) rfl (by conv=>lhs;cbv) ?_ x rfl [] ?_ trivial trivial
  .simp [f8,Ob.holds]
  rw[ht];exact Sim.tup ⟨AR hq,zr,trivial⟩
 have hz:0<p.n:=by omega
 have ht:K6 (.ok r1 p)=(zWq,5):=by simp[K6,hz]
 refine jh (C:=⟨m,w0,ats [],[],noK⟩) (l:=[]) (r:=[.ptr 8 b8 0,.ptr 11 b11 0,.ptr 9 b9 0]) (ds:=[]) (x:=.nili) h (by simp) gl (BB q0 q0 0 b8 b9 b11 br J A c p hz) gt .nili (by intro e he;simp only[List.mem_cons,List.not_mem_nil,or_false]at he;rcases he with rfl|rfl|rfl|rfl<;>rfl) rfl fun w2 h2=>?_
 show Leaves _ _ a.tmps _ [] .returning w2
 refine aZ (a:={ tmps:=a.tmps,defers:=[] }) a8 h2 (rs:=[.cell 8 40,.cell 9 36]) rfl (by conv=>lhs;cbv) ?_ ⟨0,fun _=>none,fun _=>0,fun _=>.empty⟩ rfl [] ?_ trivial trivial
 .simp [f8,Ob.holds]
 rw[ht];exact Sim.tup ⟨Sim.agg ⟨zr,zr,zr,zr,zr,zq0,zr,zr,zr,zr,zr,zr,zq0,zr,zr,trivial⟩,zr,trivial⟩
end
theorem Fu{cap:List AV}(F:FuncId)(r:Rs Rsl)(J:l4)(hJ:bG J)(A:Option Addr)(n c:Nat)(f:Nat->r5)(hn:n<=900000)(hin:∀j,j<n->InG (f j))(kG:Option Nat)(kA:Option Addr)(kn kc:Nat)(kf:Nat->Int)(hdo:(E6 J&&cB kn kf J.kind&&Q1 n f)=true->∀k0 b,lI F k0 b (J.less n) A c (nY n f) cap r)(hen:o3 Tryz.prog F):An Tryz.prog 35 [U0 J,iz A n c f,.sl kG kA kn kc 1 (fun i=>[.int .i64 (kf i)]),.fn F [] cap] [] (fun x=>.ret ⟨.tup [E8 (wqA x (dq (E6 J&&cB kn kf J.kind&&Q1 n f) r).1),.int .i64 (dq (E6 J&&cB kn kf J.kind&&Q1 n f) r).2],[],[]⟩):=by
 intro m w hm hargs hpre;have S1:=Ih J hJ.lab;have S2:l7 Tryz.prog 86 [.sl kG kA kn kc 1 (fun i=>[.int .i64 (kf i)]),.int .i64 J.kind] (fun _=>.bool (.v (cB kn kf J.kind))):=(oO kA kn kc kf J.kind).sim ⟨Sim.recell (fun _ _=>rfl),zr,trivial⟩;have S3:=Iu A n c f hin;obtain⟨okb,hokb⟩:=eqv ((E6 J&&cB kn kf J.kind&&Q1 n f));rw[<-hokb]at hdo ⊢;obtain⟨ij,hij⟩:=eqv (E6 J);rw[<-hij]at S1 hokb;obtain⟨ck,hck⟩:=eqv (cB kn kf J.kind);rw[<-hck]at S2 hokb;obtain⟨ag,hag⟩:=eqv (Q1 n f);rw[<-hag]at S3 hokb;refine Gh hm hpre hargs Tryz.func35 rfl (by simp[Tryz.ntmps35]) fun a0 Z=>?_
 simp only[Tryz.ntmps35,A8]at Z;obtain⟨B,O⟩:=eqv std;refine a6 [1,2,3,4,8,9] [4,8,9] Z fun X0 Z=>?_
 refine a6 [1,2,3,4,8,9,10] [4,8,9] Z fun X1 Z=>?_
 have O1:=S1;have O2:=S2;have O3:=S3;refine a7 (j6 [26,1,3,4,8,9] [4,8,9] [(1,.r fun _=>.bool (.v ij)),(7,.r fun _=>.bool (.v ck)),(13,.r fun _=>.bool (.v (!ag)))] Z fun X2 Z=>?_);apply d7 Z rfl<;>intro hb Z
 .have hf:okb=false:=by
   have h9:(if(if(!ij)=true then true else !ck)=true then true else !ag)=true:=by subst O;exact hb
   rw[hokb];cases ij<;>cases ck<;>cases ag<;>first|rfl|cases h9
  refine a6 [8,9] [8,9] Z fun X3 Z=>?_
  refine j2 (HQ (fn:=Tryz.f35) a8 Z (rs:=[.cell 8 40,.cell 9 36]) rfl (by conv=>lhs;cbv) ?_ ⟨0,fun _=>none,fun _=>0,fun _=>.empty⟩ rfl [] ?_ trivial trivial)
  .subst O;simp[f8,Ob.holds]
  rw[hf];subst O;exact Sim.tup ⟨Sim.agg ⟨zr,zr,zr,zr,zr,zq0,zr,zr,zr,zr,zr,zr,zq0,zr,zr,trivial⟩,zr,trivial⟩
 have hf:okb=true:=by
  have h9:(if(if(!ij)=true then true else !ck)=true then true else !ag)=false:=by subst O;exact hb
  rw[hokb];cases ij<;>cases ck<;>cases ag<;>first|rfl|cases h9
 have hjb:E6 J=true:=by
  rw[<-hij];rw[hokb]at hf;revert hf;cases ij<;>simp
 have hjo:=yQ hJ hjb hn;have e1:IntKind.i64.wrap (J.budget-(n:Int))=(J.less n).budget:=s5 (by have:=hjo.lo;show -9223372036854775808<=(J.less n).budget;omega) (by have:=hjo.hi;show(J.less n).budget<=9223372036854775807;omega)
 refine f9 (a6 [1,3,8,9,11] [32,8,9,11] Z fun X4 Z=>?_);refine a6 [3,8,9,11] [32,8,9,11] Z fun X5 Z=>?_
 replace Z:=Z.memS (cells':=D4 (J.less n) A c (nY n f)) (by subst O;exact⟨zr,zr,zr,zr,zr,zr,zr,zr,zr,zr,zr,zr,zr,zr,Sim.of_eq (congrArg (AV.int .i64) e1),zr,zr,Sim.ff,zr,zr,zr,zr,trivial⟩);refine a7 (wp_region_lit (lpr 0 1 O a8 [44,3,8,9,11] [32,8,9,11] [] Z fun X6_0 a0 w1 Z=>?_));refine vV rfl rfl rfl rfl rfl Z rfl rfl ?_;intro a0 Z;replace Z:f7 ⟨m,w,ats [],[dN (X0 1).b (X4 5).b (X0 2).b],noK⟩ _ _ _:=Z;refine wpList_nil (a7 (wp_region_lit (lpr 0 2 O a8 [45,46,8,9] [32,8,9,11] [] Z fun X7_0 a0 w1 Z=>?_)));have SD:=hdo hf 32 (X4 4).b
 rcases hmd:r with⟨r1,p1⟩|⟨w1_,p1⟩
 .obtain ⟨rl,hrl⟩:∃y_,y_=r1.items.length:=⟨_,rfl⟩
  obtain⟨rf,hrf⟩:=eqv (itF r1.items);refine aW rfl rfl rfl rfl Z rfl rfl hen (SD.ok' hmd hrl hrf) (by subst O;exact zl) (eq rfl) rfl rfl ?_;intro x w' a0 Z;apply aY 3 O a8 [8,9] [8,9,11,32] [] Z
  .intro A X;conv=>lhs;cbv
  .intro X;subst O;first|exact trivial|(repeat(first|exact trivial|refine⟨rfl,?_⟩))
  intro X7 a0 w1 Z;obtain⟨q0,hq0⟩:=eqv ((⟨4,⟨0,0⟩,0,zRA,⟨r1.code,r1.had,r1.val,x.A 2,rl,x.c 2,rf,r1.key,r1.more⟩⟩:F7));replace Z:=Z.memS (cells':=V6 q0) (by rw[hq0];subst O;exact⟨zr,zr,zr,zr,zr,zq0,zr,zr,zr,zr,zr,zr,zr,zr,zr,trivial⟩);refine j2 ?_;rw[show dq okb (.ok r1 p1)=K6 (.ok r1 p1)by rw[hf];rfl];exact Fs (x:=⟨0,fun i=>if i=1 then none else x.A i,fun i=>if i=1 then 0 else x.c i,fun _=>.empty⟩) (q0:=q0) (J:=J.less n) (A:=x.A 0) (c:=x.c 0) (p:=p1) Z (by rw[hq0,hrl,hrf];exact Sim.agg ⟨zr,zr,zr,zr,zr,zq0,zr,zr,zr,zr,zr,zr,zr,zr,zr,trivial⟩) rfl
 refine aW rfl rfl rfl rfl Z rfl rfl hen (SD.stop hmd) (by subst O;exact zl) (eq rfl) rfl rfl ?_;intro x w' Z hok;replace Z:=Z.keep [8,9] [8,9,11,32];replace Z:=Z.memS (cells':=V6 ⟨0,⟨0,0⟩,0,zRA,xe⟩) (by exact⟨zr,zr,zr,zr,zr,zq0,zr,zr,zr,zr,Sim.ff,zr,zq0,zr,Sim.ff,trivial⟩);rw[show dq okb (.stop w1_ p1)=K6 (.stop w1_ p1)by rw[hf];rfl];refine Fr (x:=x) (wq:=w1_) (q0:=⟨0,⟨0,0⟩,0,zRA,xe⟩) (J:=J.less n) (A:=x.A 0) (c:=x.c 0) (p:=p1) Z (hok.mono fun b o u h1 h2=>⟨h1,fun hh=>h2 ?_⟩) rfl rfl;refine Id (fun _ _ h=>h) ?_ rfl hh;intro y hy;simp only[List.mem_cons,List.not_mem_nil,or_false]at hy
 rcases hy with rfl|rfl|rfl|rfl<;>first|exact⟨8,_,rfl,rfl⟩|exact⟨9,_,rfl,rfl⟩|exact⟨11,_,rfl,rfl⟩|exact⟨32,_,rfl,rfl⟩
theorem BW{J:l4}(h:E6 J=true):J.how=1 \/ J.how=2:=by
 unfold E6 btw at h;simp only[Bool.and_eq_true,decide_eq_true_eq]at h;omega
theorem xL:Q5 kz:=⟨⟨by decide,by decide⟩,by decide,fun x hx=>by cases hx⟩
theorem Y1{bk k key:Int}(hk:U64 key):∀(n:Nat) (l:Lab) (p:Pst),LOk l->j8 p->N2 (L5 bk k key n l p)
 |0,l,p,_,_=>ew
 |n+1,l,p,hl,hp=>by
  unfold L5;refine l8 (P4 hl) fun g p1 e1=>?_
  have hp1:=hp.suf ((l3 _ _ _).of e1);refine o5 (fun _=>trivial) fun _=>o5 (fun _=>l8 (tv hl (hp.get e1) hp1) fun _ p2 e2=>Y1 hk n l p2 hl (hp1.suf ((U7 _ _ _ _ _ _).of e2))) fun _=>o5 (fun _=>Y1 hk n _ p1 (og hk _) hp1) fun _=>o5 (fun _=>l8 (nv hl hp1) fun _ p2 e2=>Y1 hk n _ p2 J8 (hp1.suf ((J0 _ _ _ _ _).of e2))) fun _=>o5 (fun _=>l8 (bH J8 xL) fun _ p2 e2=>Y1 hk n _ p2 J8 (hp1.suf ((A4 _ _ _ _ _).of e2))) fun _=>Y1 hk n _ p1 J8 hp1
theorem AC{bk k:Int}{n:Nat}{l:Lab}{p:Pst}(hl:LOk l)(hp:j8 p):N2 (eX bk k n l p):=by
 unfold eX;refine o5 (fun _=>l8 (P4 hl.par) fun q p1 e1=>o5 (fun _=>?_) fun _=>trivial) fun _=>trivial
 exact l8 (nv hl (hp.suf ((l3 _ _ _).of e1))) fun _ _ _=>trivial
theorem dO{bk k key:Int}(hk:U64 key):∀(n:Nat) (lo hi:Int) (p:Pst),j8 p->N2 (Q0 bk k key n lo hi p)
 |0,lo,hi,p,_=>ew
 |n+1,lo,hi,p,hp=>by
  unfold Q0;refine o5 (fun _=>?_) fun _=>Y1 hk _ _ p J8 hp
  have hl:=og hk ((lo+hi) / 2);refine l8 (P4 hl) fun g p1 e1=>?_
  have hp1:=hp.suf ((l3 _ _ _).of e1);refine o5 (fun _=>trivial) fun _=>o5 (fun _=>dO hk n _ _ p1 hp1) fun _=>o5 (fun _=>l8 (tv hl (hp.get e1) hp1) fun _ p2 e2=>dO hk n _ _ p2 (hp1.suf ((U7 _ _ _ _ _ _).of e2))) fun _=>o5 (fun _=>l8 (AC hl hp1) fun b p2 e2=>?_) fun _=>dO hk n _ _ p1 hp1
  have hp2:=hp1.suf ((jn _ _ _ _ _).of e2);exact o5 (fun _=>dO hk n _ _ p2 hp2) fun _=>dO hk n _ _ p2 hp2
theorem Ay{bk k how key:Int}(hk:U64 key){n:Nat}{p:Pst}(hp:j8 p):N2 (jN bk k how key n p):=o5 (fun _=>Y1 hk _ _ _ J8 hp) fun _=>dO hk _ _ _ _ hp
theorem Ge(bk k key:Int)(n:Nat)(s:Spt)(p:Pst):(bC bk k key n s p).er Spt.er=bC bk k key n s.er p.er:=
 s3 (r7 (W3 _ _ _) fun _ _=>s3 rfl (co _ _ _ _ _ _)) (co _ _ _ _ _ _)
theorem uF(bk k:Int)(R:C9):∀n z s o p,(iM bk k R n z s o p).er id=iM bk k R n z s.er o p.er
 |0,z,s,o,p=>rfl
 |n+1,z,s,o,p=>s3 (r7 (Ge _ _ _ _ _ _) fun _ _=>uF bk k R n _ _ _ _) rfl
theorem Ga(bk k how:Int)(R:C9)(p:Pst):(iL bk k how R p).er id=iL bk k how R p.er:=s3 (r7 (FZ _ _ _ _ _ _) fun _ _=>uF _ _ _ _ _ _ _ _) rfl
theorem AE{bk k key:Int}(hk:U64 key){n:Nat}{s:Spt}{p:Pst}(hs:W8 s)(hp:j8 p):N2 (bC bk k key n s p):=by
 unfold bC;refine o5 (fun hc=>l8 (P4 ⟨jq hc,hs.ok.ra.nx⟩) fun g q e=>o5 (fun _=>trivial) fun _=>Y1 hk _ _ _ J8 (hp.suf ((l3 _ _ _).of e))) fun _=>Y1 hk _ _ _ J8 hp
theorem pm{bk k:Int}{R:C9}:∀(n:Nat) (z:Int) (s:Spt) (o:List Itm) (p:Pst),W8 s->j8 p->N2 (iM bk k R n z s o p)
 |0,z,s,o,p,_,_=>ew
 |n+1,z,s,o,p,hs,hp=>by
  unfold iM;have hk:=rU (R:=R) hs.lab.1 hs.lab.2;exact o5 (fun _=>l8 (AE hk hs hp) fun y q e=>pm n _ y _ q (Ae hk hs hp e) (hp.suf ((uB _ _ _ _ _ _).of e))) fun _=>trivial
theorem Az{bk k how:Int}{R:C9}{p:Pst}(hp:j8 p):N2 (iL bk k how R p):=by
 have hk:U64 (((Y6 R 0).1:Nat):Int):=oq (by decide);exact o5 (fun _=>l8 (Ay hk hp) fun y q e=>pm _ _ y _ q (xx hk hp e) (hp.suf ((uz _ _ _ _ _ _).of e))) fun _=>trivial
theorem tL{J:l4}:GS (z6 J)where
 er:=fun n f=>by
  unfold z6;rw[<-yp,Ga];rfl
 ok:=fun n f hin=>by
  unfold z6 dq
  split
  .rename_i h
   simp only[Bool.and_eq_true]at h;exact xg (Az (xZ hin h.2))
  exact ew
structure GP where
 /-- 0: too many wants,1: refused,2: it is over,4: a want was not done -/
 st:Nat
 res:Rsl
 n:Nat
 err:Int
 L:Shf
 k:Int
 ls:List Lab
def ax(bs:List Wnt)(n:Nat)(L:Shf):Shf:=if n<bs.length then(doL L (bs.getD n ⟨0,⟨0,0⟩,0,j3⟩)).L else L
def lU(bs:List Wnt)(n:Nat)(L:Shf)(k:Int):Int:=if n<bs.length then(if(doL L (bs.getD n ⟨0,⟨0,0⟩,0,j3⟩)).wrote then IntKind.i64.wrap (k+1)else k)else k
def rv(D:Did)(k:Int):Int:=if D.wrote then IntKind.i64.wrap (k+1)else k
def ao(ls:List Lab)(l:Lab)(G:Got):List Lab:=if(G.has&&decide (G.r.kind=1))=true then ls ++ [l]else ls
def C5(N:dM)(bs:List Wnt):Nat->List Got->Shf->Int->List Lab->GP
 |0,gs,L,k,ls=>⟨0,Y0,gs.length,0,L,k,ls⟩
 |n+1,gs,L,k,ls=>
  if(N gs.length (ay gs)).2≠0 then⟨1,Y0,gs.length,0,L,k,ls⟩
  else if(N gs.length (ay gs)).1.kind=4 then⟨2,(N gs.length (ay gs)).1.res,gs.length,0,L,k,ls⟩
  else if(doL (ax bs gs.length L) (r8 (N gs.length (ay gs)).1)).err≠0 then⟨4,Y0,gs.length,(doL (ax bs gs.length L) (r8 (N gs.length (ay gs)).1)).err,(doL (ax bs gs.length L) (r8 (N gs.length (ay gs)).1)).L,rv (doL (ax bs gs.length L) (r8 (N gs.length (ay gs)).1)) (lU bs gs.length L k),ls⟩
  else C5 N bs n (gs ++ [(doL (ax bs gs.length L) (r8 (N gs.length (ay gs)).1)).got]) (doL (ax bs gs.length L) (r8 (N gs.length (ay gs)).1)).L (rv (doL (ax bs gs.length L) (r8 (N gs.length (ay gs)).1)) (lU bs gs.length L k)) (ao ls (N gs.length (ay gs)).1.lab (doL (ax bs gs.length L) (r8 (N gs.length (ay gs)).1)).got)
section
variable {N:dM} {bs:List Wnt} {n:Nat} {gs:List Got} {L L1:Shf} {k k1:Int} {ls:List Lab} {w:Wq} {e:Int}
theorem tF(h:N gs.length (ay gs)=(w,e))(he:e≠0):C5 N bs (n+1) gs L k ls=⟨1,Y0,gs.length,0,L,k,ls⟩:=by
 unfold C5;rw[h,if_pos he]
theorem df(h:N gs.length (ay gs)=(w,0))(hk:w.kind=4):C5 N bs (n+1) gs L k ls=⟨2,w.res,gs.length,0,L,k,ls⟩:=by
 unfold C5;rw[h,if_neg (fun h=>h rfl),if_pos hk]
theorem fE(h:N gs.length (ay gs)=(w,0))(hk:¬w.kind=4)(h1:L1=ax bs gs.length L)(h2:k1=lU bs gs.length L k){D:Did}(hD:D=doL L1 (r8 w))(he:D.err≠0):C5 N bs (n+1) gs L k ls=⟨4,Y0,gs.length,D.err,D.L,rv D k1,ls⟩:=by
 subst hD;subst h1;subst h2;unfold C5;rw[h,if_neg (fun h=>h rfl),if_neg hk,if_pos he]
theorem fD(h:N gs.length (ay gs)=(w,0))(hk:¬w.kind=4)(h1:L1=ax bs gs.length L)(h2:k1=lU bs gs.length L k){D:Did}(hD:D=doL L1 (r8 w))(he:D.err=0):C5 N bs (n+1) gs L k ls=C5 N bs n (gs ++ [D.got]) D.L (rv D k1) (ao ls w.lab D.got):=by
 subst hD;subst h1;subst h2
 conv=>lhs;unfold C5
 rw[h,if_neg (fun h=>h rfl),if_neg hk,if_neg (fun h=>h he)]
end
theorem Gj{L:Shf}(hL:lH L){w:Wnt}(hw:tf w):lH (doL L w).L:=by
 refine⟨(bw hL.good hw).1,?_⟩;unfold doL
 split
 .rename_i hc
  split
  .exact hL.sp
  split
  .exact hL.sp
  split
  .exact hL.sp
  intro p hp
  rcases Y4 hp with rfl|hp
  .refine ⟨fun h=>?_,fun h=>?_⟩
   .have h2:w.kind=2:=of_decide_eq_true h
    show isR (if w.kind=2 then w.r else j3)=true
    rw[if_pos h2];exact hc.2.2 h2
   have h2:¬w.kind=2:=of_decide_eq_false h
   show(if w.kind=2 then w.r else j3)=j3
   rw[if_neg h2]
  exact hL.sp p hp
 exact hL.sp
theorem Co{L:Shf}{w:Wq}(hw:WqR w)(h:(doL L (r8 w)).err≠0):(doL L (r8 w)).err=12:=by
 have hcond:((r8 w).kind=1 \/ (r8 w).kind=2 \/ (r8 w).kind=3)/\isL (r8 w).lab=true/\((r8 w).kind=2->isR (r8 w).r=true):=⟨hw.kd,hw.ok.lab.isl,hw.put⟩;unfold doL at h ⊢;rw[if_pos hcond]at h ⊢
 split
 .rename_i h1;rw[if_pos h1]at h;exact absurd rfl h
 rename_i h1
 rw[if_neg h1]at h
 split
 .rename_i h2;rw[if_pos h2]at h;exact absurd rfl h
 rename_i h2
 rw[if_neg h2]at h
 split
 .rfl
 rename_i h3;rw[if_neg h3]at h;exact absurd rfl h
theorem wS{bs:List Wnt}(hb:∀w∈bs,tf w){n:Nat}{L:Shf}(hL:lH L):lH (ax bs n L):=by
 unfold ax
 split
 .rename_i h
  refine Gj hL (hb _ ?_);rw[List.getD_eq_getElem?_getD,List.getElem?_eq_getElem h];exact List.getElem_mem h
 exact hL
theorem gX{α : Type}{Q:α->Prop}:∀{t t':Tr α} {x':Nt},t.All GA WqR (fun x=>x=nt0) Q->t.feed nt0 []=some (t',x')->x'=nt0
 | .note z t,t',x',h,hf=>by
  obtain⟨rfl,h2⟩:=h;exact gX (t:=t) h2 (by simpa[Tr.feed]using hf)
 | .ret a,t',x',h,hf=>by simp[Tr.feed]at hf;exact hf.2.symm
 | .dead,t',x',h,hf=>by simp[Tr.feed]at hf;exact hf.2.symm
 | .ask w f,t',x',h,hf=>by simp[Tr.feed]at hf;exact hf.2.symm
section
variable {N:dM} {b:Int} {T:Nat->Tr Rsl} {Q:Rsl->Prop}
def IP(Q:Rsl->Prop)(b:Int)(r:GP):Prop:=(r.st=2/\(r.n:Int)<=b/\(Q r.res \/ r.res=ntR nt0)) \/ (r.st=4/\r.err=12)
theorem pM(hN:TrN N b T){m:Nat}(hm:b<m){bs:List Wnt}(hbs:∀w∈bs,tf w) :
  ∀(fuel:Nat) (t:Tr Rsl) (gs:List Got) (L:Shf) (k:Int) (ls:List Lab) (d:Nat),(T m).feed nt0 gs=some (t,nt0)->t.noNote->App d t t->t.All GA WqR (fun x=>x=nt0) Q->lH L->(∀j,j<gs.length->D8 (F1 (gs.getD j G4))=true)->(gs.length:Int)<=b->b-gs.length<d->b-gs.length<fuel →
   IP Q b (C5 N bs fuel gs L k ls)
 |0,t,gs,L,k,ls,d,hf,hnn,ha,hall,hL,hg,hb,hd,hfu=>by omega
 |fuel+1,t,gs,L,k,ls,d,hf,hnn,ha,hall,hL,hg,hb,hd,hfu=>by
  obtain⟨q,h1,h2,h3⟩:=oh hN hf hg hb (by omega)
  cases t with
  |note y t=>exact absurd hnn (fun h=>h)
  |ret a=>
   rw[df (h3.trans (pt h1)) rfl];exact .inl ⟨rfl,hb,.inl hall⟩
  |dead=>
   cases ha with
   |zero=>omega
  |ask w f=>
   rw[qU h1]at h3;have h4:=h3.trans (mc h1)
   by_cases hov:b<=(gs.length:Int)
   .rw [if_pos (by omega)]at h4
    rw[df h4 rfl];refine .inl ⟨rfl,hb,.inr ?_⟩;unfold yc ntR;rw[h2]
   rw[if_neg (by omega)]at h4;have hk:¬w.kind=4:=by rcases hall.1.kd with h|h|h<;>omega
   have hL1:=wS hbs (n:=gs.length) hL
   by_cases he:(doL (ax bs gs.length L) (r8 w)).err=0
   .rw [fD h4 hk rfl rfl rfl he]
    obtain⟨_,_,r1,r2,r3⟩:=zC hL1 hall.1
    cases ha with
    |zero=>omega
    | @ask d' _ _ _ ha=>
     obtain⟨t',x',f1,f2,f3,f4⟩:=kS (A:=GA) (W:=WqR) (X:=fun x=>x=nt0) (Q:=Q) (f (F1 (doL (ax bs gs.length L) (r8 w)).got)) nt0;have hx':x'=nt0:=gX (hall.2 _ r3) f1;subst hx';have hfe:(T m).feed nt0 (gs ++ [(doL (ax bs gs.length L) (r8 w)).got])=some (t',nt0):=by rw[gj _ _ _ hf,f1]
     have hlen:(gs ++ [(doL (ax bs gs.length L) (r8 w)).got]).length=gs.length+1:=by simp
     refine pM hN hm hbs fuel t' _ _ _ _ d' hfe f2 (f3 _ (ha _)) (f4 (hall.2 _ r3)) r1 ?_ (by rw[hlen];omega) (by rw[hlen];omega) (by rw[hlen];omega);intro j hj;rw[hlen]at hj
     by_cases hjl:j<gs.length
     .have:=hg j hjl
      rw[List.getD_eq_getElem?_getD,List.getElem?_append_left hjl,<-List.getD_eq_getElem?_getD];exact this
     have:j=gs.length:=by omega
     subst this
     simpa[List.getD]using r2
   rw[fE h4 hk rfl rfl rfl he];exact .inr ⟨rfl,Co hall.1 he⟩
theorem vw(hN:TrN N b T){m:Nat}(hm:b<m)(h0:0<=b){bs:List Wnt}(hbs:∀w∈bs,tf w)(hall:(T m).All GA WqR (fun x=>x=nt0) Q){fuel:Nat}(hfu:b<fuel){L:Shf}(hL:lH L)(k:Int):IP Q b (C5 N bs fuel [] L k []):=by
 obtain⟨t',x',f1,f2,f3,f4⟩:=kS (A:=GA) (W:=WqR) (X:=fun x=>x=nt0) (Q:=Q) (T m) nt0;have hx':x'=nt0:=gX hall f1;subst hx';exact pM hN hm hbs fuel t' [] L k [] m f1 f2 (f3 _ (hN.app (Nat.le_refl _) (Nat.le_refl _))) (f4 hall) hL (fun j hj=>absurd hj (Nat.not_lt_zero _)) (by simpa using h0) (by simp;omega) (by simp;omega)
end
def ii(bk:Int)(R:C9):Nat->Int->Spt->List Itm->Tr Rsl
 |0,_,_,_=>.dead
 |n+1,z,s,o=>
   if qb R s.lab=true then(sT bk (iO R s.lab) (n+1) s).bind fun s'=>ii bk R n (iO R s.lab) s' (o++gK R z s)
   else .ret ⟨0,false,⟨#[]⟩,o++gK R z s,0,false⟩
def pU(bk how:Int)(R:C9)(n:Nat):Tr Rsl:=
 if R.Is then(xy bk how ((Y6 R 0).1:Nat) n).bind fun s=>ii bk R n ((Y6 R 0).1:Nat) s []
 else .ret ⟨5,false,⟨#[]⟩,[],0,false⟩
theorem pJ{k bk:Int}{R:C9}:∀n z s o p,(ii bk R n z s o).run k p=iM bk k R n z s o p
 |0,z,s,o,p=>rfl
 |n+1,z,s,o,p=>ri (rb (Bf _ _ _) fun _ _=>pJ n _ _ _ _) rfl
theorem Bb{k bk how:Int}{R:C9}(p:Pst):(pU bk how R (p.n+1)).run k p=iL bk k how R p:=ri (rb (Ba _ _ _) fun _ _=>pJ _ _ _ _ _) rfl
theorem xO{bk:Int}{R:C9}{n:Nat}{z:Int}{s:Spt}{o:List Itm}:ii bk R (n+1) z s o=if qb R s.lab=true then(sT bk (iO R s.lab) (n+1) s).bind fun s'=>ii bk R n (iO R s.lab) s' (o++gK R z s)else .ret ⟨0,false,⟨#[]⟩,o++gK R z s,0,false⟩:=rfl
theorem Ah{bk:Int}{R:C9}{d n n':Nat}(z:Int)(s:Spt)(o:List Itm)(h:d<=n)(h':d<=n'):App d (ii bk R n z s o) (ii bk R n' z s o):=by
 induction d generalizing n n' z s o with
 |zero=>exact .zero
 |succ d ih=>
  obtain⟨n,rfl⟩:∃m,n=m+1:=⟨n-1,by omega⟩
  obtain⟨n',rfl⟩:∃m,n'=m+1:=⟨n'-1,by omega⟩
  rw[xO,xO]
  generalize iO R s.lab=K
  generalize o++gK R z s=o2
  refine o8 (Ai h h' fun s'=>?_) (.ret _);exact ih K s' o2 (by omega) (by omega)
theorem CT{bk how:Int}{R:C9}{d n n':Nat}(h:d<=n)(h':d<=n'):App d (pU bk how R n) (pU bk how R n'):=o8 ((CQ _ h h').bind fun s=>Ah _ _ _ h h') (.ret _)
structure Au(R:C9)(M:Nat)(a:Rsl):Prop where
 ins:∀i∈a.items,cN R i.key=true/\U64 i.key
 few:a.items.length<=M
 srt:Srt a.items
 ok:a.code=0 \/ a.items=[]
theorem BQ{R:C9}{z:Nat}(h:(Y6 R z).2=true):z<=(Y6 R z).1:=by
 unfold Y6 at h ⊢
 split at h
 .rename_i hI
  rw[if_pos hI];have h2:=aj R z 64 0;rw[Nat.mul_zero]at h2;exact(h2.1 h).1.2.2
 cases h
theorem Fq{R:C9}{l:Lab}(hl:isL l=true)(hb:U64 l.bits)(h:qb R l=true):l.bits+szL l<=iO R l:=by
 unfold qb at h;simp only[Bool.and_eq_true]at h;have h1:=BQ h.2;have h2:=(rT hl hb).1;have h3:eR l=l.bits+szL l:=by
  have:=h.1;unfold lO at this;simp only[Bool.not_eq_true',decide_eq_false_iff_not]at this;unfold eR;rw[if_neg this]
 show _<=(((Y6 R (eR l).toNat).1:Nat):Int)
 omega
section
variable {X:Nt->Prop} {bk:Int} {R:C9} {M:Nat}
theorem qX:∀(n:Nat) (z:Int) (s:Spt) (o:List Itm),SpC z s->U64 z->(∀i∈o,cN R i.key=true/\U64 i.key)->Srt o->(∀i∈o,i.key<z)->o.length+16*n<=M->W6 X (Au R M) (ii bk R n z s o)
 |0,z,s,o,_,_,_,_,_,_=>trivial
 |n+1,z,s,o,⟨hs,hc⟩,hz,h1,h2,h3,h4=>by
  have hin:∀i∈gK R z s,(cN R i.key=true/\U64 i.key)/\z<=i.key/\i.key<s.lab.bits+szL s.lab:=fun i hi=>by
   obtain⟨g1,g2⟩:=List.mem_filter.1 hi;obtain⟨g5,g3,_,_,g4⟩:=FP hs g1;exact⟨⟨g2,g5⟩,g3,g4⟩
  have hcv:=(oN hs.lab.1 hs.lab.2 hz).1 hc;have hlen:(o++gK R z s).length+16*n<=M:=by
   have g1:(gK R z s).length<=16:=Nat.le_trans (List.length_filter_le _ _) (Nat.le_trans (qr _ _ _) hs.ok.ra.few);rw[List.length_append];omega
  have hall:∀i∈o++gK R z s,cN R i.key=true/\U64 i.key:=fun i hi=>(List.mem_append.1 hi).elim (h1 i) fun h=>(hin i h).1
  have hsrt:Srt (o++gK R z s):=AN (z:=z) h2 (List.Pairwise.filter _ (Cg hs _ _)) h3 fun i hi=>(hin i hi).2.1
  refine o6 (fun hy=>?_) fun _=>⟨hall,Nat.le_trans (Nat.le_add_right _ _) hlen,hsrt,.inl rfl⟩
  have hk:=rU (R:=R) hs.lab.1 hs.lab.2;have hge:=Fq hs.lab.1 hs.lab.2 hy;refine k9 (De hk hs) fun s' hs'=>qX n _ s' _ hs' hk hall hsrt (fun i hi=>?_) hlen
  rcases List.mem_append.1 hi with hi|hi
  .have:=h3 i hi;omega
  have:=(hin i hi).2.2;omega
theorem Da{how:Int}{n:Nat}:W6 X (Au R (16*n)) (pU bk how R n):=by
 have hk:U64 (((Y6 R 0).1:Nat):Int):=oq (by decide);exact o6 (fun _=>k9 (Ak hk) fun s hs=>qX _ _ s _ hs hk (fun i hi=>by cases hi) List.Pairwise.nil (fun i hi=>by cases hi) (by simp)) fun _=>⟨fun i hi=>(by cases hi),Nat.zero_le _,List.Pairwise.nil,.inr rfl⟩
end
theorem tK{J:l4}(hj:E6 J=true)(hk:J.kind=12):TrN (z6 J) J.budget (pU J.bucket J.how J.rct)where
 nxt:=fun n f hg=>by
  unfold z6 dq;rw[if_pos (by simp[hj,hk,hg]),<-Bb];rfl
 app:=fun h h'=>CT h h'
theorem rN{J:l4}{f:Nat->r5}(h:(z6 J 0 f).2=0):E6 J=true/\J.kind=12:=by
 unfold z6 dq at h
 split at h
 .rename_i h0
  simp only[Bool.and_eq_true,decide_eq_true_eq]at h0;exact⟨h0.1.1,h0.1.2⟩
 cases h
theorem pL{N:dM}{bs:List Wnt}:∀(fuel:Nat) (gs:List Got) (L:Shf) (k:Int) (ls:List Lab),(C5 N bs fuel gs L k ls).st=4->(C5 N bs fuel gs L k ls).res=Y0
 |0,gs,L,k,ls,h=>by cases h
 |n+1,gs,L,k,ls,h=>by
  unfold C5 at h ⊢
  split
  .rfl
  rename_i h1
  rw[if_neg h1]at h
  split
  .rename_i h2
   rw[if_pos h2]at h;cases h
  rename_i h2
  rw[if_neg h2]at h
  split
  .rfl
  rename_i h3
  rw[if_neg h3]at h;exact pL n _ _ _ _ h
theorem rM{J:l4}(hj:E6 J=true)(hk:J.kind=12)(hb:J.budget<=120){bs:List Wnt}(hbs:∀w∈bs,tf w){L:Shf}(hL:lH L)(k:Int):((C5 (z6 J) bs 2001 [] L k []).st=2 \/ (C5 (z6 J) bs 2001 [] L k []).st=4/\(C5 (z6 J) bs 2001 [] L k []).err=12)/\Au J.rct 32016 (C5 (z6 J) bs 2001 [] L k []).res:=by
 have h0:0<=J.budget:=by
  unfold E6 btw at hj;simp only[Bool.and_eq_true,decide_eq_true_eq]at hj;omega
 have h:=vw (tK hj hk) (m:=2001) (by omega) h0 hbs Da (by omega) (fuel:=2001) hL k
 rcases h with⟨h1,_,h2⟩|⟨h1,h2⟩
 .refine ⟨.inl h1,?_⟩
  rcases h2 with h2|h2
  .exact h2
  rw[h2];exact⟨fun i hi=>(by cases hi),Nat.zero_le _,List.Pairwise.nil,.inr rfl⟩
 refine⟨.inr ⟨h1,h2⟩,?_⟩;rw[pL _ _ _ _ _ h1];exact⟨fun i hi=>(by cases hi),Nat.zero_le _,List.Pairwise.nil,.inr rfl⟩
def zR(v a b:Int):Int:=if a<(if b<v then b else v)then(if b<v then b else v)else a
theorem zQ{v a b:Int}(h:a<=b):(zR v a b==v)=(decide (a<=v)&&decide (v<=b)):=by
 unfold zR;rw[Bool.eq_iff_iff,beq_iff_eq,Bool.and_eq_true,decide_eq_true_eq,decide_eq_true_eq]
 split<;>split at *<;>omega
theorem uw(l:Lab)(a b:Int)(f:Nat->Itm)(i:Nat):(d4 f (i+1)).filter (kK l a b)=(d4 f i).filter (kK l a b)++(if kK l a b (f i)=true then [f i]else []):=by
 unfold d4;rw[List.range_succ,List.map_append,List.filter_append]
 congr 1
 by_cases h:kK l a b (f i)=true<;>simp[h]
theorem Iw(v a b:Int):l7 Tryz.prog 148 [.int .u64 v,.int .u64 a,.int .u64 b] (fun _=>.int .u64 (zR v a b)):=by
 intro m w hm hargs;refine en 12 hm hargs Tryz.func148 fun B O a0 Z=>?_
 refine a6 [0,1,2] [] Z fun X0 Z=>?_
 refine a6 [6] [] Z fun X1 Z=>?_
 refine B4 Z ?_;subst O;exact Sim.of_int (by unfold zR;show(if decide (a<(if decide (b<v)=true then b else v))=true then(if decide (b<v)=true then b else v)else a)=_;simp only[decide_eq_true_eq])
theorem Il(s:Spt)(hs:W8 s)(a b:Int)(hab:a<=b):l7 Tryz.prog 90 [V7 s,.int .u64 a,.int .u64 b] (fun x=>.sl none (x.A 0) (hasL s a b).length (x.c 0) 2 (fun i=>itC (itF (hasL s a b) i))):=by
 intro m w hm hargs;have hmx:maxLen=9223372036854775807:=rfl;have hfw:=hs.ok.ra.few;have hkk:=hs.ok.ra.key;have hlu:=hs.lab.2;obtain⟨lb,gg⟩:=s;obtain⟨gc,gv,gh,gx⟩:=gg;obtain⟨xA,xc,xr⟩:=gx;obtain⟨n,f,kd,nx,mk⟩:=xr;dsimp only at hfw hkk hlu;unfold hasL;dsimp only;refine en 40 hm hargs Tryz.func90 fun B O a0 Z=>?_
 refine a6 [1,2,3] [3] Z fun X0 Z=>?_
 refine a6 [7,3,1,2] [7,3] Z fun X1 Z=>?_
 refine a7 (a6 [7,15,3,1,2,13,14] [7,3] Z fun X2 Z=>?_);replace Z:=Z.headS (v':=.sl (some 7) none 0 0 2 (fun t=>itC C0)) (zq0) rfl;refine j0 (r9 (ι:=Nat×Nat×(Nat->Itm)×Option Addr×Nat) (fun p=>[(7,.sl (some 7) p.2.2.2.1 p.2.1 p.2.2.2.2 2 (fun t=>itC (p.2.2.1 t))),(15,.int .i64 (p.1:Int))]) (fun p=>[]) (fun p=>[(7,⟨p.2.2.2.1,p.2.1,p.2.2.2.2,2,62⟩)]) (fun p=>p.1<=n/\p.2.1<=p.1/\d4 p.2.2.1 p.2.1=(d4 f p.1).filter (kK lb a b)) (fun p=>n-p.1) (0,0,fun _=>C0,none,0) ⟨Nat.zero_le _,Nat.le_refl _,rfl⟩ Z ?_)
 rintro⟨i,q,g,A1,c1⟩ ⟨hi,hq,hg⟩ _ _ Z
 try dsimp only at hi
 try dsimp only at hq
 try dsimp only at hg
 refine a6 [16,7,15,3,1,2,13,14] [7,3] Z fun X3 Z=>?_
 refine a7 (d7 Z rfl (fun hb Z=>?_) (fun hb Z=>?_))
 .have hin:i<n:=by
   have:(i:Int)<(n:Int):=by subst O;simpa[std,b7]using hb
   omega
  have SK:=Iw (f i).key a b;have SC:=uM lb hlu (f i).key (hkk i hin);simp only[i9]at SC;obtain⟨cq,hcq⟩:=eqv (s4 lb (f i).key);rw[<-hcq]at SC;obtain⟨cl,hcl⟩:=eqv (zR (f i).key a b);rw[<-hcl]at SK;refine f9 (a7 (j0 (a7 ?_)));have O4:(0:Int)<=(i:Int):=by omega
  have O5:(i:Int)<(n:Int):=by omega
  refine j5 [9,7,15,3,1,2,13,14] [9,7,3] Z fun X4 Z=>?_
  replace Z:=Z.memS (cells':=itC (f i)) (by subst O;exact zl);have O1:=SK;have O2:=SC;refine a7 (drg O a8 [33,9,7,15,3,1,2,13,14] [9,7,3] [(4,.r fun _=>.int .u64 cl),(13,.r fun _=>.bool (.v cq))] Z fun X5 _ _ Z=>?_);apply d7 Z rfl<;>intro hb Z
  .have hct:kK lb a b (f i)=true:=by
    have h9:(if(cl==(f i).key)=true then cq else false)=true:=by subst O;exact hb
    rw[hcl,zQ hab,hcq]at h9;unfold kK;rw[<-h9];cases(decide (a<=(f i).key)&&decide ((f i).key<=b))<;>rfl
   refine j5 [7,15,3,1,2,13,14] [7,3] Z (hob:=?hob) fun X6 Z=>?_
   case hob=>
    intro X;subst O
    repeat(first|exact trivial|refine⟨⟨rfl,rfl,rfl⟩,?_⟩|refine⟨rfl,?_⟩|refine⟨⟨show q+1<=maxLen by omega,show(q+1)*_<=_ by omega⟩,?_⟩)
   replace Z:=Z.headS (v':=.sl (some 7) ((X6 3).A 0) (B.nadd q 1) ((X6 3).c 0) 2 (fun t=>itC (cm g q (f i) t))) (Sim.resl rfl (fun t ht=>by
    subst O;have ht2:t<q+1:=ht
    show B8 q (fun t=>itC (g t)) (B0 2 [.int .u64 (f i).key,.str (f i).val]) t=_
    unfold B8 cm
    split
    .rw [if_neg (by omega)]
    have:t=q:=by omega
    subst this;simp[B0,itC])) rfl
   refine j5 [7,15,3,1,2,13,14] [7,3] Z fun X7 Z=>?_
   have e:B.arith .add .i64 (i:Int) 1=((i+1:Nat):Int):=by subst O;exact j7 (n:=n) hin (by omega)
   refine⟨(i+1,q+1,cm g q (f i),_,_),⟨by simp only;omega,by simp only;omega,?_⟩,by simp only;omega,by rw[<-e,show q+1=B.nadd q 1 by subst O;rfl];exact Z⟩
   simp only;rw[cg,hg,uw,if_pos hct]
  have hcf:kK lb a b (f i)=false:=by
   have h9:(if(cl==(f i).key)=true then cq else false)=false:=by subst O;exact hb
   rw[hcl,zQ hab,hcq]at h9;unfold kK;rw[<-h9];cases(decide (a<=(f i).key)&&decide ((f i).key<=b))<;>rfl
  refine f9 (j5 [7,15,3,1,2,13,14] [7,3] Z fun X7 Z=>?_);have e:B.arith .add .i64 (i:Int) 1=((i+1:Nat):Int):=by subst O;exact j7 (n:=n) hin (by omega)
  refine⟨(i+1,q,g,_,_),⟨by simp only;omega,by simp only;omega,?_⟩,by simp only;omega,by rw[<-e];exact Z⟩;simp only;rw[hg,uw,if_neg (by rw[hcf];decide),List.append_nil]
 have hout:i=n:=by
  have:¬(i:Int)<(n:Int):=by subst O;simpa[std,b7]using hb
  omega
 rw[hout]at hg;refine o4 (a6 [6] [7] Z fun X8 Z=>?_);refine j2 ((rsi O a8 Z (⟨0,fun _=>A1,fun _=>c1,fun _=>⟨#[]⟩⟩) (he:=?_)));subst O;exact Sim.resl (by rw[<-hg,i6]) (fun t ht=>by rw[<-hg,i6]at ht;rw[<-hg,s7 _ _ t ht])
theorem GH(b:Nat)(J:l4)(hJ:u7 J)(A:Option Addr)(c:Nat)(p:Pst)(hp:j8 p)(hn:p.n<=1000000)(s:Spt)(hs:W8 s)(key:Int)(hk:U64 key)(n:Nat)(hf:p.n<n):s8 147 0 b J A c p [V7 s,.int .u64 key] (V7) (bC J.bucket J.budget key n s p):=by
 intro m w hm hargs hpre;have SC:=uM s.g.x.r.nx hs.ok.ra.nx key hk;simp only[i9]at SC;obtain⟨cv,hcv⟩:=eqv (s4 s.g.x.r.nx key);rw[<-hcv]at SC;refine enX 28 hm hpre hargs Tryz.func147 fun B O a0 Z=>?_
 refine a6 [0,2,4,6] [0,4,6] Z fun X0 Z=>?_
 refine a7 (a6 [0,2,6,7] [0,6,7] Z fun X1 Z=>?_);have O1:=SC;refine j6 [15,0,2,6,7] [0,6,7] [(2,.r fun _=>.bool (.v cv))] Z fun X2 Z=>?_
 apply d7 Z rfl<;>intro hb Z
 .have tc:s4 s.g.x.r.nx key=true:=by rw[<-hcv];exact hb
  refine a7 ?_
  rcases(V0 0 b J hJ A c p hp hn s.g.x.r.nx).two (l3 _ _ _) hp hn with⟨w3,p3,hm3,O1⟩|⟨g3,p3,hm3,hs3,hp3,hn3,S3⟩
  .refine stp 2 O a8 [16,17] [0] [] Z O1 fun _ _ _ _ Z hk=>?_
   exact thm (P:=Tryz.prog) (fn:=Tryz.f147) (q:=p3) Z hk (by simp[bC,Rs.bind,tc,hm3])
  have hl3:=I1 hm3;have hg3:=hp.get hm3;have O1:=S3;refine j4 [0,2,6,7,8] [0,6,7,8] [(2,rc J (F4 g3) p3)] Z fun X3 Z=>?_
  obtain⟨q4,hq4⟩:=eqv (gk g3 1);refine a7 ?_;refine j4 [21,0,2,6,7,8] [0,6,7,8,20] [(2,.r fun _=>.bool (.v q4))] Z (hob:=by intro X;subst O;simp only[f8,Ob.holds,BE.den]<;>and_intros<;>repeat first|trivial|rfl|exact(by rw[hq4];exact F0 g3 _ _ 1 _ rfl)|exact by rw[hq4];exact F0 g3 _ _ 1 _ rfl|exact(fun _ _=>by kernel_rfl)|refine⟨?_,?_⟩|intro h|exact Int.le_refl _|decide|omega) fun X4 Z=>?_
  apply d7 Z rfl<;>intro hb Z
  .have tq4:gk g3 1=true:=by rw[<-hq4];exact hb
   refine a6 [6] [0,6] Z fun X5 Z=>?_
   exact j2 ((rmm O a8 Z (v:=(⟨s.g.x.r.nx,g3⟩:Spt)) (q:=p3) ((X3 2).A 0) ((X3 2).c 0) (by simp[bC,Rs.bind,tc,hm3,tq4])).1)
  have tq4:gk g3 1=false:=by rw[<-hq4];exact hb
  refine f9 (a7 ?_)
  rcases(uf 0 b J hJ ((X3 2).A 0) ((X3 2).c 0) p3 hp3 hn3 key hk n (by have:=hl3;omega)).two (E4 _ _ _ _ _ _) hp3 hn3 with⟨w6,p6,hm6,O1⟩|⟨s6,p6,hm6,hs6,hp6,hn6,S6⟩
  .refine stp 2 O a8 [25,26] [0] [] Z O1 fun _ _ _ _ Z hk=>?_
   exact thm (P:=Tryz.prog) (fn:=Tryz.f147) (q:=p6) Z hk (by simp[bC,Rs.bind,tc,hm3,tq4,hm6])
  have O1:=S6;refine j4 [6] [0,6] [(2,rc J (V7 s6) p6)] Z fun X6 Z=>?_
  exact j2 ((rmm O a8 Z (v:=s6) (q:=p6) ((X6 2).A 0) ((X6 2).c 0) (by simp[bC,Rs.bind,tc,hm3,tq4,hm6])).1)
 have tc:s4 s.g.x.r.nx key=false:=by rw[<-hcv];exact hb
 refine f9 (a7 ?_)
 rcases(uf 0 b J hJ A c p hp hn key hk n (by skip;omega)).two (E4 _ _ _ _ _ _) hp hn with⟨w6,p6,hm6,O1⟩|⟨s6,p6,hm6,hs6,hp6,hn6,S6⟩
 .refine stp 2 O a8 [25,26] [0] [] Z O1 fun _ _ _ _ Z hk=>?_
  exact thm (P:=Tryz.prog) (fn:=Tryz.f147) (q:=p6) Z hk (by simp[bC,Rs.bind,tc,hm6])
 have O1:=S6;refine j4 [6] [0,6] [(2,rc J (V7 s6) p6)] Z fun X6 Z=>?_
 exact j2 ((rmm O a8 Z (v:=s6) (q:=p6) ((X6 2).A 0) ((X6 2).c 0) (by simp[bC,Rs.bind,tc,hm6])).1)
theorem IK(k0 b:Nat)(J:l4)(hJ:u7 J)(A:Option Addr)(c:Nat)(p:Pst)(hp:j8 p)(hn:p.n<=1000000)(s:Spt)(hs:W8 s)(key:Int)(hk:U64 key)(n:Nat)(hf:p.n<n):s8 147 k0 b J A c p [V7 s,.int .u64 key] (V7) (bC J.bucket J.budget key n s p):=s8.re (GH b J hJ A c p hp hn s hs key hk n hf) (by repeat(first|exact trivial|refine⟨zr,?_⟩))
theorem ib{x:Nat}(hx:x<2^64):(BitVec.ofInt IntKind.u64.bits (x:Int)).toNat=x:=by
 show(BitVec.ofInt 64 (x:Int)).toNat=x
 rw[BitVec.ofInt_natCast,BitVec.toNat_ofNat];exact Nat.mod_eq_of_lt hx
theorem tW{x y:Nat}(hx:x<2^64)(hy:y<2^64):i5 .and .u64 (x:Int) (y:Int)=((x &&& y:Nat):Int):=by
 unfold i5;simp only;rw[BitVec.toNat_and,ib hx,ib hy,Q2];rw[Nat.mod_eq_of_lt (Nat.lt_of_le_of_lt Nat.and_le_left hx)]
theorem yw{x y:Nat}(hx:x<2^64)(hy:y<2^64):i5 .or .u64 (x:Int) (y:Int)=((x ||| y:Nat):Int):=by
 unfold i5;simp only;rw[BitVec.toNat_or,ib hx,ib hy,Q2];rw[Nat.mod_eq_of_lt (Nat.or_lt_two_pow hx hy)]
theorem qd{x y:Nat}(hx:x<2^64)(hy:y<2^64):i5 .andNot .u64 (x:Int) (y:Int)=((x ^^^ (x &&& y):Nat):Int):=by
 unfold i5;simp only;have e:(BitVec.ofInt IntKind.u64.bits (x:Int) &&& ~~~BitVec.ofInt IntKind.u64.bits (y:Int)).toNat=x ^^^ (x &&& y):=by
  apply Nat.eq_of_testBit_eq;intro i;rw[BitVec.toNat_and,Nat.testBit_and,BitVec.toNat_not,ib hx,ib hy,Nat.testBit_xor,Nat.testBit_and]
  show(x.testBit i&&(2^64-1-y).testBit i)=_
  rw[show 2^64-1-y=2^64-(y+1)by omega,Nat.testBit_two_pow_sub_succ hy]
  by_cases hi:i<64
  .simp only[hi,decide_true,Bool.true_and]
   cases x.testBit i<;>cases y.testBit i<;>rfl
  rw[Nat.testBit_lt_two_pow (x:=x) (Nat.lt_of_lt_of_le hx (Nat.pow_le_pow_right (by decide) (by omega)))];simp
 rw[e,Q2,Nat.mod_eq_of_lt (Nat.xor_lt_two_pow hx (Nat.lt_of_le_of_lt Nat.and_le_left hx))]
theorem yv{x:Nat}{s:Nat}(hs:s<=64):o7 .shl .u64 (x:Int) (s:Int)=(((x <<< s) % 2^64:Nat):Int):=by
 unfold o7;simp only;rw[show min (s:Int).toNat IntKind.u64.bits=s from Nat.min_eq_left hs,show(x:Int)*2^s=((x*2^s:Nat):Int)by push_cast;rfl,Q2,Nat.shiftLeft_eq]
theorem Ia{a:Nat}(ha:a<64):o7 .shl .u64 1 (a:Int)=((2^a:Nat):Int):=by
 have:=yv (x:=1) (s:=a) (by omega);rw[show((1:Nat):Int)=1 from rfl]at this;rw[this,Nat.shiftLeft_eq,Nat.one_mul,Nat.mod_eq_of_lt (Nat.pow_lt_pow_right (by decide) ha)]
theorem yx{x a:Nat}(hx:x<2^64)(ha:a<64):b7 .neq (i5 .and .u64 (x:Int) ((2^a:Nat):Int)) 0=x.testBit a:=by
 rw[tW hx (Nat.pow_lt_pow_right (by decide) ha)];have e:(x &&& 2^a)=if x.testBit a=true then 2^a else 0:=by
  apply Nat.eq_of_testBit_eq;intro i;rw[Nat.testBit_and,Nat.testBit_two_pow]
  by_cases h:a=i
  .subst h
   cases hb:x.testBit a<;>simp
  cases hb:x.testBit a<;>simp[h]
 rw[e];have hp:0<2^a:=Nat.two_pow_pos a
 cases hb:x.testBit a
 .rfl
 show(((2^a:Nat):Int) != 0)=true
 rw[bne_iff_ne];intro h9;omega
theorem Ad:∀a:Nat,a<64->i5 .and .u64 (o7 .shl .u64 6148914691236517205 (i5 .and .i64 (a:Int) 1)) (i5 .sub .u64 (o7 .shl .u64 1 (a:Int)) 1)=((lV a:Nat):Int):=by decide
theorem GG:∀a:Nat,a<64->0<=i5 .and .i64 (a:Int) 1:=by decide
abbrev vC(R:C9):AV:=.agg [.int .u32 (R.x1:Int),.int .u32 (R.x2:Int),.int .u32 (R.y1:Int),.int .u32 (R.y2:Int)]
theorem CP(a:Nat)(ha:a<64):l7 Tryz.prog 210 [.int .i64 (a:Int)] (fun _=>.int .u64 ((lV a:Nat):Int)):=by
 intro m w hm hargs;refine en 10 hm hargs Tryz.func210 fun B O a0 Z=>?_
 refine a6 [0] [] Z fun X0 Z=>?_
 refine a7 (drg O a8 [2] [] [] Z (hob:=?hob) fun X1 _ _ Z=>?_)
 case hob=>
  intro X;subst O;simp only[f8,Ob.holds]
  and_intros<;>first|trivial|exact GG a ha|exact Int.natCast_nonneg a
 refine B4 Z ?_;subst O;rw[<-Ad a ha];exact zr
theorem yA(R:C9):l7 Tryz.prog 53 [vC R] (fun _=>.bool (.v (decide R.Is))):=by
 intro m w hm hargs;refine en 15 hm hargs Tryz.func53 fun B O a0 Z=>?_
 refine a6 [1] [1] Z fun X0 Z=>?_
 refine a6 [2] [] Z fun X1 Z=>?_
 refine B4 Z ?_;subst O;refine Sim.bool ?_
 by_cases h1:R.x1<=R.x2<;>by_cases h2:R.y1<=R.y2<;>simp[std,b7,BE.den,ly,C9.Is,h1,h2]
def byI(i:Nat):Int:=if i=0 then 16 else if i=1 then 8 else if i=2 then 4 else if i=3 then 2 else 1
def mkI(i:Nat):Int:=if i=0 then 281470681808895 else if i=1 then 71777214294589695 else if i=2 then 1085102592571150095 else if i=3 then 3689348814741910323 else 6148914691236517205
def cX(x:Nat):Nat->Int
 |0=>(x:Int)
 |p+1=>i5 .and .u64 (i5 .or .u64 (cX x p) (o7 .shl .u64 (cX x p) (byI p))) (mkI p)
theorem fx{z:Nat}{h m:Nat}(hz:z<2^64)(hh:h<=64)(hm:m<2^64):i5 .and .u64 (i5 .or .u64 (z:Int) (o7 .shl .u64 (z:Int) (h:Int))) (m:Int)=((nJ z h m:Nat):Int)/\nJ z h m<2^64:=by
 have h1:(z <<< h) % 2^64<2^64:=Nat.mod_lt _ (by decide);rw[yv hh,yw hz h1,tW (Nat.or_lt_two_pow hz h1) hm];exact⟨rfl,Nat.lt_of_le_of_lt Nat.and_le_right hm⟩
theorem EP{x:Nat}(hx:x<2^32):cX x 5=((iJ x:Nat):Int):=by
 have a0:=fx (z:=x) (h:=16) (m:=281470681808895) (by omega) (by decide) (by decide);have a1:=fx (h:=8) (m:=71777214294589695) a0.2 (by decide) (by decide);have a2:=fx (h:=4) (m:=1085102592571150095) a1.2 (by decide) (by decide);have a3:=fx (h:=2) (m:=3689348814741910323) a2.2 (by decide) (by decide);have a4:=fx (h:=1) (m:=6148914691236517205) a3.2 (by decide) (by decide);have e1:=(show cX x 1=i5 .and .u64 (i5 .or .u64 ((x:Nat):Int) (o7 .shl .u64 ((x:Nat):Int) ((16:Nat):Int))) ((281470681808895:Nat):Int)from rfl)
 rw[a0.1]at e1;have e2:=(show cX x 2=i5 .and .u64 (i5 .or .u64 (cX x 1) (o7 .shl .u64 (cX x 1) ((8:Nat):Int))) ((71777214294589695:Nat):Int)from rfl)
 rw[e1,a1.1]at e2;have e3:=(show cX x 3=i5 .and .u64 (i5 .or .u64 (cX x 2) (o7 .shl .u64 (cX x 2) ((4:Nat):Int))) ((1085102592571150095:Nat):Int)from rfl)
 rw[e2,a2.1]at e3;have e4:=(show cX x 4=i5 .and .u64 (i5 .or .u64 (cX x 3) (o7 .shl .u64 (cX x 3) ((2:Nat):Int))) ((3689348814741910323:Nat):Int)from rfl)
 rw[e3,a3.1]at e4
 show i5 .and .u64 (i5 .or .u64 (cX x 4) (o7 .shl .u64 (cX x 4) 1)) 6148914691236517205=_
 rw[e4];exact a4.1
theorem Gz(i:Nat):0<=byI i:=by unfold byI;(repeat' split)<;>decide
theorem IQ{x:Nat}(hx:x<2^32):Sim (.int .u64 (IntKind.u64.wrap (x:Int))) (.int .u64 (cX x 0)):=by
 rw[Q2,Nat.mod_eq_of_lt (by omega)];exact zr
theorem AO{x:Nat}:iJ x<2^64:=Nat.lt_of_le_of_lt Nat.and_le_right (by decide)
theorem DO(x:Nat)(hx:x<2^32):l7 Tryz.prog 99 [.int .u32 (x:Int)] (fun _=>.int .u64 ((iJ x:Nat):Int)):=by
 intro m w hm hargs;obtain⟨bf,hbf⟩:=eqv (byI);obtain⟨mf,hmf⟩:=eqv (mkI);obtain⟨zf,hzf⟩:=eqv (cX x);refine en 30 hm hargs Tryz.func99 fun B O a0 Z=>?_
 refine a6 [0] [] Z fun X0 Z=>?_
 refine a6 [3] [] Z fun X1 Z=>?_
 replace Z:=Z.headS (v':=.int .u64 (zf 0)) (by subst O hzf;exact IQ hx) rfl;refine a7 (a6 [13,3,15,14] [13] Z fun X2 Z=>?_);replace Z:=Z.headS (v':=.sl none (some ⟨(X2 5).b,0,none⟩) 5 5 2 (fun i=>[.int .i64 (bf i),.int .u64 (mf i)])) (Sim.recell (fun i hi=>by have h5:i<5:=hi;subst hbf hmf;match i,h5 with|0,_=>rfl|1,_=>rfl|2,_=>rfl|3,_=>rfl|4,_=>rfl)) rfl;replace Z:=Z.keep [3,15,13,14] [];refine j0 (r9 (ι:=Nat) (fun p=>[(3,.int .u64 (zf p)),(15,.int .i64 (p:Int))]) (fun p=>[]) (fun p=>[]) (fun p=>p<=5) (fun p=>5-p) 0 (Nat.zero_le _) Z ?_)
 rintro i hi _ _ Z
 try dsimp only at hi
 refine a6 [16,3,13,14,15] [13] Z fun X3 Z=>?_
 refine a7 (d7 Z rfl (fun hb Z=>?_) (fun hb Z=>?_))
 .have h5:i<5:=by
   have:(i:Int)<5:=by subst O;simpa[std,b7]using hb
   omega
  refine f9 (a7 (j0 (a7 ?_)));have O4:(0:Int)<=(i:Int):=by omega
  have O5:(i:Int)<(5:Int):=by omega
  refine j5 [3,5,13,14,15] [5,13] Z fun X4 Z=>?_
  refine drg O a8 [3,13,14,15] [13] [] Z (hob:=?hob) fun X5 _ _ Z=>?_
  case hob=>
   intro X;subst O;simp only[f8,Ob.holds,BE.den]<;>(and_intros<;>repeat first|trivial|rfl|(subst hbf;exact Gz _)|intro h)
  refine j5 [3,15,13,14] [13] Z fun X6 Z=>?_
  refine⟨i+1,by omega,by omega,?_⟩;have e1:zf (i+1)=B.arith .and .u64 (B.arith .or .u64 (zf i) (B.shift .shl .u64 (zf i) (bf (B.toNat (i:Int))))) (mf (B.toNat (i:Int))):=by subst O hzf hbf hmf;rfl
  have e2:((i+1:Nat):Int)=B.arith .add .i64 (i:Int) 1:=by subst O;exact(j7 (n:=5) (by omega) (by decide)).symm
  rw[e1,e2];exact Z
 have h5:i=5:=by
  have:¬(i:Int)<5:=by subst O;simpa[std,b7]using hb
  omega
 subst h5;refine o4 (a6 [2] [] Z fun X7 Z=>?_);refine B4 Z ?_;subst O;rw[<-EP hx,<-hzf];exact zr
theorem Aw{x y:Nat}:i5 .or .u64 ((iJ x:Nat):Int) (o7 .shl .u64 ((iJ y:Nat):Int) 1)=((wvN x y:Nat):Int):=by
 have h:=yv (x:=iJ y) (s:=1) (by decide);rw[show((1:Nat):Int)=1 from rfl]at h;rw[h,yw AO (Nat.mod_lt _ (by decide))];rfl
theorem EB(x y:Nat)(hx:x<2^32)(hy:y<2^32):l7 Tryz.prog 43 [.int .u32 (x:Int),.int .u32 (y:Int)] (fun _=>.int .u64 ((wvN x y:Nat):Int)):=by
 intro m w hm hargs;have S1:=DO x hx;have S2:=DO y hy;obtain⟨sx,hsx⟩:=eqv (((iJ x:Nat):Int));rw[<-hsx]at S1;obtain⟨sy,hsy⟩:=eqv (((iJ y:Nat):Int));rw[<-hsy]at S2;refine en 11 hm hargs Tryz.func43 fun B O a0 Z=>?_
 refine a6 [0,1] [] Z fun X0 Z=>?_
 have O1:=S1;have O2:=S2;refine j6 [4] [] [(1,.r fun _=>.int .u64 sx),(3,.r fun _=>.int .u64 sy)] Z fun X1 Z=>?_
 refine B4 Z ?_;subst O;rw[<-Aw,<-hsx,<-hsy];exact zr
def oE(z h m:Nat):Nat:=(z ||| z >>> h) &&& m
def wo(z:Nat):Nat:=oE (oE (oE (oE (oE (z &&& 6148914691236517205) 1 3689348814741910323) 2 1085102592571150095) 4 71777214294589695) 8 281470681808895) 16 4294967295
theorem dE{x z m h:Nat}(hh:h=16 \/ h=8 \/ h=4 \/ h=2 \/ h=1)(hz:∀j,z.testBit j=(decide (j<64)&&decide (j % (2*h)<h)&&x.testBit (2*(j / (2*h)*h+j % h))))
  (hm:∀j,m.testBit j=(decide (j<64)&&decide (j % (2*(2*h))<2*h))) (j:Nat):(oE z h m).testBit j=(decide (j<64)&&decide (j % (2*(2*h))<2*h)&&x.testBit (2*(j / (2*(2*h))*(2*h)+j % (2*h)))):=by
 unfold oE;rw[Nat.testBit_and,Nat.testBit_or,Nat.testBit_shiftRight,hm,hz,hz]
 by_cases h1:j<64
 .by_cases h2:j % (2*(2*h))<2*h
  .rw [decide_eq_true h1,decide_eq_true h2]
   simp only[Bool.true_and,Bool.and_true]
   by_cases h3:j % (2*h)<h
   .have e1:j / (2*h)*h+j % h=j / (2*(2*h))*(2*h)+j % (2*h):=by rcases hh with rfl|rfl|rfl|rfl|rfl<;>omega
    have e2:¬(h+j) % (2*h)<h:=by rcases hh with rfl|rfl|rfl|rfl|rfl<;>omega
    rw[decide_eq_true h3,decide_eq_false e2,e1];simp
   have e2:(h+j) % (2*h)<h:=by rcases hh with rfl|rfl|rfl|rfl|rfl<;>omega
   have e3:(h+j) / (2*h)*h+(h+j) % h=j / (2*(2*h))*(2*h)+j % (2*h):=by rcases hh with rfl|rfl|rfl|rfl|rfl<;>omega
   have e4:h+j<64:=by rcases hh with rfl|rfl|rfl|rfl|rfl<;>omega
   rw[decide_eq_false h3,decide_eq_true e2,decide_eq_true e4,e3];simp
  rw[decide_eq_false h2];simp
 rw[decide_eq_false h1];simp
theorem uy{z:Nat}(hz:z<2^64):wo z=crd 0 z:=by
 have m0:=fun j=>R1 (m:=6148914691236517205) (h:=1) (by decide) (by decide) j
 have m1:=fun j=>R1 (m:=3689348814741910323) (h:=2) (by decide) (by decide) j
 have m2:=fun j=>R1 (m:=1085102592571150095) (h:=4) (by decide) (by decide) j
 have m3:=fun j=>R1 (m:=71777214294589695) (h:=8) (by decide) (by decide) j
 have m4:=fun j=>R1 (m:=281470681808895) (h:=16) (by decide) (by decide) j
 have m5:=fun j=>R1 (m:=4294967295) (h:=32) (by decide) (by decide) j
 have z0:∀j,(z &&& 6148914691236517205).testBit j=(decide (j<64)&&decide (j % (2*1)<1)&&z.testBit (2*(j / (2*1)*1+j % 1))):=fun j=>by
  rw[Nat.testBit_and,m0]
  by_cases h:j % (2*1)<1
  .rw [show 2*(j / (2*1)*1+j % 1)=j by omega]
   cases z.testBit j<;>simp
  rw[decide_eq_false h];simp
 have z1:=fun j=>dE (.inr (.inr (.inr (.inr rfl)))) z0 m1 j
 have z2:=fun j=>dE (.inr (.inr (.inr (.inl rfl)))) z1 m2 j
 have z3:=fun j=>dE (.inr (.inr (.inl rfl))) z2 m3 j
 have z4:=fun j=>dE (.inr (.inl rfl)) z3 m4 j
 have z5:=fun j=>dE (.inl rfl) z4 m5 j
 refine Nat.eq_of_testBit_eq fun i=>?_
 unfold wo;rw[z5,L3]
 by_cases h:i<32
 .rw [decide_eq_true h,decide_eq_true (show i<64 by omega),decide_eq_true (show i % (2*(2*16))<2*16 by omega),show 2*(i / (2*(2*16))*(2*16)+i % (2*16))=2*i+0 by omega];simp
 rw[decide_eq_false h]
 by_cases h64:i<64
 .rw [decide_eq_false (show ¬i % (2*(2*16))<2*16 by omega)];simp
 rw[decide_eq_false h64];simp
theorem Cz(z:Nat):crd 0 (z >>> 1)=crd 1 z:=Nat.eq_of_testBit_eq fun i=>by
 rw[L3,L3,Nat.testBit_shiftRight,show 1+(2*i+0)=2*i+1 by omega]
def gbI(i:Nat):Int:=if i=0 then 1 else if i=1 then 2 else if i=2 then 4 else if i=3 then 8 else 16
def gmI(i:Nat):Int:=if i=0 then 3689348814741910323 else if i=1 then 1085102592571150095 else if i=2 then 71777214294589695 else if i=3 then 281470681808895 else 4294967295
def bh(x:Nat):Nat->Int
 |0=>i5 .and .u64 (x:Int) 6148914691236517205
 |p+1=>i5 .and .u64 (i5 .or .u64 (bh x p) (o7 .shr .u64 (bh x p) (gbI p))) (gmI p)
theorem FU(i:Nat):0<=gbI i:=by unfold gbI;(repeat' split)<;>decide
theorem DY{x:Nat}{s:Nat}(hx:x<2^64)(hs:s<=64):o7 .shr .u64 (x:Int) (s:Int)=((x >>> s:Nat):Int):=by
 unfold o7;simp only;rw[show min (s:Int).toNat IntKind.u64.bits=s from Nat.min_eq_left hs,show(x:Int).fdiv (2^s)=((x / 2^s:Nat):Int)by rw[Int.fdiv_eq_ediv_of_nonneg _ (Int.le_of_lt (Int.pow_pos (by decide)))];push_cast;rfl,Nat.shiftRight_eq_div_pow]
theorem fY{z:Nat}{h m:Nat}(hz:z<2^64)(hh:h<=64)(hm:m<2^64):i5 .and .u64 (i5 .or .u64 (z:Int) (o7 .shr .u64 (z:Int) (h:Int))) (m:Int)=((oE z h m:Nat):Int)/\oE z h m<2^64:=by
 have h1:z >>> h<2^64:=by rw[Nat.shiftRight_eq_div_pow];exact Nat.lt_of_le_of_lt (Nat.div_le_self _ _) hz
 rw[DY hz hh,yw hz h1,tW (Nat.or_lt_two_pow hz h1) hm];exact⟨rfl,Nat.lt_of_le_of_lt Nat.and_le_right hm⟩
theorem FV{x:Nat}(hx:x<2^64):bh x 5=((wo x:Nat):Int):=by
 have e0:bh x 0=((x &&& 6148914691236517205:Nat):Int):=tW hx (by decide);have a0:=fY (z:=x &&& 6148914691236517205) (h:=1) (m:=3689348814741910323) (Nat.lt_of_le_of_lt Nat.and_le_left hx) (by decide) (by decide);have a1:=fY (h:=2) (m:=1085102592571150095) a0.2 (by decide) (by decide);have a2:=fY (h:=4) (m:=71777214294589695) a1.2 (by decide) (by decide);have a3:=fY (h:=8) (m:=281470681808895) a2.2 (by decide) (by decide);have a4:=fY (h:=16) (m:=4294967295) a3.2 (by decide) (by decide);have e1:=(show bh x 1=i5 .and .u64 (i5 .or .u64 (bh x 0) (o7 .shr .u64 (bh x 0) ((1:Nat):Int))) ((3689348814741910323:Nat):Int)from rfl)
 rw[e0,a0.1]at e1;have e2:=(show bh x 2=i5 .and .u64 (i5 .or .u64 (bh x 1) (o7 .shr .u64 (bh x 1) ((2:Nat):Int))) ((1085102592571150095:Nat):Int)from rfl)
 rw[e1,a1.1]at e2;have e3:=(show bh x 3=i5 .and .u64 (i5 .or .u64 (bh x 2) (o7 .shr .u64 (bh x 2) ((4:Nat):Int))) ((71777214294589695:Nat):Int)from rfl)
 rw[e2,a2.1]at e3;have e4:=(show bh x 4=i5 .and .u64 (i5 .or .u64 (bh x 3) (o7 .shr .u64 (bh x 3) ((8:Nat):Int))) ((281470681808895:Nat):Int)from rfl)
 rw[e3,a3.1]at e4;have e5:=(show bh x 5=i5 .and .u64 (i5 .or .u64 (bh x 4) (o7 .shr .u64 (bh x 4) ((16:Nat):Int))) ((4294967295:Nat):Int)from rfl)
 rw[e4,a4.1]at e5;exact e5
theorem Ck(x:Nat):wo x<2^32:=Nat.lt_of_le_of_lt Nat.and_le_right (by decide)
theorem vg{x:Nat}(h:x<2^32):IntKind.u32.wrap (x:Int)=(x:Int):=by
 unfold IntKind.wrap;simp only;rw[if_neg (by simp[IntKind.signed])]
 show(x:Int) % 4294967296=x
 omega
theorem Ei(x:Nat)(hx:x<2^64):l7 Tryz.prog 104 [.int .u64 (x:Int)] (fun _=>.int .u32 ((wo x:Nat):Int)):=by
 intro m w hm hargs;obtain⟨bf,hbf⟩:=eqv (gbI);obtain⟨mf,hmf⟩:=eqv (gmI);obtain⟨zf,hzf⟩:=eqv (bh x);refine en 30 hm hargs Tryz.func104 fun B O a0 Z=>?_
 refine a6 [0] [] Z fun X0 Z=>?_
 refine a6 [0] [] Z fun X1 Z=>?_
 replace Z:=Z.headS (v':=.int .u64 (zf 0)) (by subst O hzf;exact zr) rfl;refine a7 (a6 [12,0,14,13] [12] Z fun X2 Z=>?_);replace Z:=Z.headS (v':=.sl none (some ⟨(X2 5).b,0,none⟩) 5 5 2 (fun i=>[.int .i64 (bf i),.int .u64 (mf i)])) (Sim.recell (fun i hi=>by have h5:i<5:=hi;subst hbf hmf;match i,h5 with|0,_=>rfl|1,_=>rfl|2,_=>rfl|3,_=>rfl|4,_=>rfl)) rfl;replace Z:=Z.keep [0,14,12,13] [];refine j0 (r9 (ι:=Nat) (fun p=>[(0,.int .u64 (zf p)),(14,.int .i64 (p:Int))]) (fun p=>[]) (fun p=>[]) (fun p=>p<=5) (fun p=>5-p) 0 (Nat.zero_le _) Z ?_)
 rintro i hi _ _ Z
 try dsimp only at hi
 refine a6 [15,0,12,13,14] [12] Z fun X3 Z=>?_
 refine a7 (d7 Z rfl (fun hb Z=>?_) (fun hb Z=>?_))
 .have h5:i<5:=by
   have:(i:Int)<5:=by subst O;simpa[std,b7]using hb
   omega
  refine f9 (a7 (j0 (a7 ?_)));have O4:(0:Int)<=(i:Int):=by omega
  have O5:(i:Int)<(5:Int):=by omega
  refine j5 [0,4,12,13,14] [4,12] Z fun X4 Z=>?_
  refine drg O a8 [0,12,13,14] [12] [] Z (hob:=?hob) fun X5 _ _ Z=>?_
  case hob=>
   intro X;subst O;simp only[f8,Ob.holds,BE.den]<;>(and_intros<;>repeat first|trivial|rfl|(subst hbf;exact FU _)|intro h)
  refine j5 [0,14,12,13] [12] Z fun X6 Z=>?_
  refine⟨i+1,by omega,by omega,?_⟩;have e1:zf (i+1)=B.arith .and .u64 (B.arith .or .u64 (zf i) (B.shift .shr .u64 (zf i) (bf (B.toNat (i:Int))))) (mf (B.toNat (i:Int))):=by subst O hzf hbf hmf;rfl
  have e2:((i+1:Nat):Int)=B.arith .add .i64 (i:Int) 1:=by subst O;exact(j7 (n:=5) (by omega) (by decide)).symm
  rw[e1,e2];exact Z
 have h5:i=5:=by
  have:¬(i:Int)<5:=by subst O;simpa[std,b7]using hb
  omega
 subst h5;refine o4 (a6 [2] [] Z fun X7 Z=>?_);refine B4 Z ?_;subst O;have e:=FV hx;rw[hzf,e]
 show Sim (.int .u32 (IntKind.u32.wrap ((wo x:Nat):Int))) _
 rw[vg (Ck x)];exact zr
theorem fp{z:Nat}(hz:z<2^64):o7 .shr .u64 (z:Int) 1=((z >>> 1:Nat):Int)/\z >>> 1<2^64:=by
 have h:=DY (s:=1) hz (by decide);rw[show((1:Nat):Int)=1 from rfl]at h;exact⟨h,by rw[Nat.shiftRight_eq_div_pow];exact Nat.lt_of_le_of_lt (Nat.div_le_self _ _) hz⟩
theorem IL(z:Nat)(hz:z<2^64):l7 Tryz.prog 52 [.int .u64 (z:Int)] (fun _=>.tup [.int .u32 ((crd 0 z:Nat):Int),.int .u32 ((crd 1 z:Nat):Int)]):=by
 intro m w hm hargs;have S1:=Ei z hz;have S2:=Ei (z >>> 1) (fp hz).2;rw[uy hz]at S1;rw[uy (fp hz).2,Cz,<-(fp hz).1]at S2;obtain⟨cx,hcx⟩:=eqv (((crd 0 z:Nat):Int));rw[<-hcx]at S1 ⊢;obtain⟨cy,hcy⟩:=eqv (((crd 1 z:Nat):Int));rw[<-hcy]at S2 ⊢;refine en 9 hm hargs Tryz.func52 fun B O a0 Z=>?_
 refine a6 [0] [] Z fun X0 Z=>?_
 have O1:=S1;have O2:=S2;refine j6 [2,3] [] [(1,.r fun _=>.int .u32 cx),(4,.r fun _=>.int .u32 cy)] Z fun X1 Z=>?_
 refine B4 Z ?_;subst O;exact zr
theorem yT{R:C9}{z cx cy:Nat}{ri:Bool}(HI:ie R z↔R.x1<=cx/\cx<=R.x2/\R.y1<=cy/\cy<=R.y2)(hri:ri=decide R.Is) :
  decide (R.Is/\ie R z)=(if(if(if(if ri=true then(if decide ((R.x1:Int)<(cx:Int))=true then(R.x1:Int)else cx)==(R.x1:Int)else false)=true then(if decide ((cx:Int)<(R.x2:Int))=true then(R.x2:Int)else cx)==(R.x2:Int)else false)=true then(if decide ((R.y1:Int)<(cy:Int))=true then(R.y1:Int)else cy)==(R.y1:Int)else false)=true then(if decide ((cy:Int)<(R.y2:Int))=true then(R.y2:Int)else cy)==(R.y2:Int)else false):=by
 simp only[decide_eq_true_eq (p:=_<_)];have e1:((if(R.x1:Int)<(cx:Int)then(R.x1:Int)else cx)==(R.x1:Int))=decide (R.x1<=cx):=by
  by_cases h:(R.x1:Int)<(cx:Int)
  .rw [if_pos h,beq_self_eq_true,decide_eq_true (by omega)]
  rw[if_neg h,Bool.eq_iff_iff,beq_iff_eq,decide_eq_true_eq];omega
 have e2:((if(cx:Int)<(R.x2:Int)then(R.x2:Int)else cx)==(R.x2:Int))=decide (cx<=R.x2):=by
  by_cases h:(cx:Int)<(R.x2:Int)
  .rw [if_pos h,beq_self_eq_true,decide_eq_true (by omega)]
  rw[if_neg h,Bool.eq_iff_iff,beq_iff_eq,decide_eq_true_eq];omega
 have e3:((if(R.y1:Int)<(cy:Int)then(R.y1:Int)else cy)==(R.y1:Int))=decide (R.y1<=cy):=by
  by_cases h:(R.y1:Int)<(cy:Int)
  .rw [if_pos h,beq_self_eq_true,decide_eq_true (by omega)]
  rw[if_neg h,Bool.eq_iff_iff,beq_iff_eq,decide_eq_true_eq];omega
 have e4:((if(cy:Int)<(R.y2:Int)then(R.y2:Int)else cy)==(R.y2:Int))=decide (cy<=R.y2):=by
  by_cases h:(cy:Int)<(R.y2:Int)
  .rw [if_pos h,beq_self_eq_true,decide_eq_true (by omega)]
  rw[if_neg h,Bool.eq_iff_iff,beq_iff_eq,decide_eq_true_eq];omega
 rw[e1,e2,e3,e4,hri,Bool.eq_iff_iff,decide_eq_true_eq,HI]
 by_cases h1:R.Is<;>by_cases h2:R.x1<=cx<;>by_cases h3:cx<=R.x2<;>by_cases h4:R.y1<=cy<;>by_cases h5:cy<=R.y2<;>simp[h1,h2,h3,h4,h5]
theorem yB(R:C9)(z:Nat)(hz:z<2^64):l7 Tryz.prog 20 [vC R,.int .u64 (z:Int)] (fun _=>.bool (.v (decide (R.Is/\ie R z)))):=by
 intro m w hm hargs;have S1:=IL z hz;have S2:=yA R;have HI:ie R z↔R.x1<=crd 0 z/\crd 0 z<=R.x2/\R.y1<=crd 1 z/\crd 1 z<=R.y2:=Iff.rfl;obtain⟨cx,hcx⟩:=eqv (crd 0 z);rw[<-hcx]at S1 HI;obtain⟨cy,hcy⟩:=eqv (crd 1 z);rw[<-hcy]at S1 HI;obtain⟨ri,hri⟩:=eqv (decide R.Is);rw[<-hri]at S2;refine en 50 hm hargs Tryz.func20 fun B O a0 Z=>?_
 refine a6 [1,2] [2] Z fun X0 Z=>?_
 have O1:=S1;refine j6 [2,5,6] [2] [(1,.r fun _=>.tup [.int .u32 (cx:Int),.int .u32 (cy:Int)])] Z fun X1 Z=>?_
 have O1:=S2;refine j6 [4] [] [(1,.r fun _=>.bool (.v ri))] Z fun X2 Z=>?_
 refine B4 Z ?_;subst O;exact Sim.bool ((yT HI hri).symm)
theorem Sim.of_int2{k:IntKind}{x y:Int}(h:x=y):Sim (.int k x) (.int k y):=h ▸ zr
theorem tT{Kk:Kn}(a b c:BE)(x y z:BE):Ob.holds Tryz.prog Kk (.eql 244 [.bool a,.bool b,.bool c] [.bool x,.bool y,.bool z]):=rS (d:=3) (sh:=[.bool,.bool,.bool]) (by kernel_rfl) (by decide) (by kernel_rfl) (by kernel_rfl) ⟨trivial,trivial,trivial,trivial⟩ ⟨trivial,trivial,trivial,trivial⟩
theorem GE{z a lo hi best:Nat}{f:Bool}(h1:z.testBit a=false)(h2:lo.testBit a=false)(h3:hi.testBit a=true):bmL z (a+1) lo hi best f=bmL z a lo (hiD a hi) (loU a lo) true:=by
 rw[bmL,if_pos ⟨h1,h2,h3⟩]
theorem IE{z a lo hi best:Nat}{f:Bool}(h1:z.testBit a=false)(h2:lo.testBit a=true)(h3:hi.testBit a=true):bmL z (a+1) lo hi best f=(lo,true):=by
 rw[bmL];simp[h1,h2,h3]
theorem CO{z a lo hi best:Nat}{f:Bool}(h1:z.testBit a=true)(h2:lo.testBit a=false)(h3:hi.testBit a=false):bmL z (a+1) lo hi best f=(best,f):=by
 rw[bmL];simp[h1,h2,h3]
theorem ID{z a lo hi best:Nat}{f:Bool}(h1:z.testBit a=true)(h2:lo.testBit a=false)(h3:hi.testBit a=true):bmL z (a+1) lo hi best f=bmL z a (loU a lo) hi best f:=by
 rw[bmL];simp[h1,h2,h3]
theorem IF{z a lo hi best:Nat}{f:Bool}(n1:¬(z.testBit a=false/\lo.testBit a=false/\hi.testBit a=true))(n2:¬(z.testBit a=false/\lo.testBit a=true/\hi.testBit a=true))(n3:¬(z.testBit a=true/\lo.testBit a=false/\hi.testBit a=false))(n4:¬(z.testBit a=true/\lo.testBit a=false/\hi.testBit a=true)):bmL z (a+1) lo hi best f=bmL z a lo hi best f:=by
 rw[bmL,if_neg n1,if_neg n2,if_neg n3,if_neg n4]
theorem uS(a:Nat)(ha:a<64):lV a<2^64:=Nat.lt_pow_two_of_testBit _ fun i hi=>by
 rw[lA a i ha,decide_eq_false (show ¬i<a by omega),Bool.false_and]
theorem FN{a hi:Nat}(ha:a<64)(h:hi<2^64):hiD a hi<2^64:=Nat.lt_pow_two_of_testBit _ fun i h9=>by
 rw[jk a hi i ha,Nat.testBit_lt_two_pow (Nat.lt_of_lt_of_le h (Nat.pow_le_pow_right (by decide) h9)),decide_eq_false (show ¬i<a by omega)];rfl
theorem yE{a lo:Nat}(ha:a<64)(h:lo<2^64):i5 .or .u64 (i5 .andNot .u64 (lo:Int) ((lV a:Nat):Int)) ((2^a:Nat):Int)=((loU a lo:Nat):Int):=by
 rw[qd h (uS a ha),yw (Nat.xor_lt_two_pow h (Nat.lt_of_le_of_lt Nat.and_le_left h)) (Nat.pow_lt_pow_right (by decide) ha)];rfl
theorem yU{a hi:Nat}(ha:a<64)(h:hi<2^64):i5 .or .u64 (i5 .andNot .u64 (hi:Int) ((2^a:Nat):Int)) ((lV a:Nat):Int)=((hiD a hi:Nat):Int):=by
 rw[qd h (Nat.pow_lt_pow_right (by decide) ha),yw (Nat.xor_lt_two_pow h (Nat.lt_of_le_of_lt Nat.and_le_left h)) (uS a ha)];rfl
theorem Ec(R:C9)(hR:vc R)(z:Nat)(hz:z<2^64):l7 Tryz.prog 144 [vC R,.int .u64 (z:Int)] (fun _=>.tup [.int .u64 ((Y6 R z).1:Nat),.bool (.v (Y6 R z).2)]):=by
 intro m w hm hargs;have S1:=yA R;have W1:=EB R.x1 R.y1 hR.x1 hR.y1;have W2:=EB R.x2 R.y2 hR.x2 hR.y2;have hl0:=ns hR.x1 hR.y1;have hh0:=ns hR.x2 hR.y2;have hbm:=GD hR (z:=z);have hle:∀h:R.Is,Y6 R z=iP R z 64 0:=fun h=>if_pos h
 have hln:¬R.Is->Y6 R z=(0,false):=fun h=>if_neg h
 obtain⟨L0,hL0⟩:=eqv (wvN R.x1 R.y1);rw[<-hL0]at W1 hl0 hbm;obtain⟨H0,hH0⟩:=eqv (wvN R.x2 R.y2);rw[<-hH0]at W2 hh0 hbm;obtain⟨ri,hri⟩:=eqv (decide R.Is);rw[<-hri]at S1;obtain⟨q,hq⟩:=eqv (Y6 R z);rw[<-hq]at hle hln ⊢;obtain⟨v,f0⟩:=q;dsimp only;refine en 78 hm hargs Tryz.func144 fun B O a0 Z=>?_
 refine a6 [1,2] [2] Z fun X0 Z=>?_
 have O1:=S1;refine wp_scope_straight (a7 (j6 [14,1,2] [2] [(1,.r fun _=>.bool (.v ri))] Z fun X1 Z=>?_));apply d7 Z rfl<;>intro hb Z
 .have hr:ri=false:=by subst O;revert hb;cases ri<;>simp[std]
  have hq0:=hln (by intro h;rw[hri,decide_eq_true h]at hr;cases hr);injection hq0 with hv0 hf0
  refine a6 [4,5] [] Z fun X2 Z=>?_
  refine B4 Z ?_;subst O;rw[hv0,hf0];exact Sim.tup ⟨zr,Sim.bool rfl,trivial⟩
 have hr:ri=true:=by subst O;revert hb;cases ri<;>simp[std]
 have hI:R.Is:=of_decide_eq_true (hri.symm.trans hr);have hrun:(v,f0)=bmL z 64 L0 H0 0 false:=by rw[hle hI,hbm hI hz]
 have O1:=W1;have O2:=W2;refine f9 (a7 (drg O a8 [1,6,7] [] [(4,.r fun _=>.int .u64 (L0:Int)),(9,.r fun _=>.int .u64 (H0:Int))] Z fun X3 _ _ Z=>?_));refine a6 [1,6,7,8,9] [] Z fun X4 Z=>?_
 refine a7 (wp_label (a7 (a6 [6,7,8,9,10,1] [] Z fun X5 Z=>?_)));replace Z:=Z.slots (l:=[(6,.int .u64 (L0:Int)),(7,.int .u64 (H0:Int)),(8,.int .u64 ((0:Nat):Int)),(9,.bool (.v false)),(10,.int .i64 63),(1,.int .u64 (z:Int))]) ⟨⟨rfl,zr⟩,⟨rfl,zr⟩,⟨rfl,zr⟩,⟨rfl,Sim.ff⟩,⟨rfl,zr⟩,⟨rfl,zr⟩,trivial⟩;refine j0 (r9 (ι:=Int×Nat×Nat×Nat×Bool) (fun p=>[(6,.int .u64 (p.2.1:Int)),(7,.int .u64 (p.2.2.1:Int)),(8,.int .u64 (p.2.2.2.1:Int)),(9,.bool (.v p.2.2.2.2)),(10,.int .i64 p.1)]) (fun p=>[]) (fun p=>[]) (fun p=> -1<=p.1/\p.1<=63/\(v,f0)=bmL z (p.1+1).toNat p.2.1 p.2.2.1 p.2.2.2.1 p.2.2.2.2/\p.2.1<2^64/\p.2.2.1<2^64) (fun p=>(p.1+1).toNat) (63,L0,H0,0,false) ⟨by dsimp only;omega,by dsimp only;omega,hrun,hl0,hh0⟩ Z ?_)
 rintro⟨at0,lo,hi,best,f⟩ ⟨ha0,ha1,hrun1,hlo,hhi⟩ _ _ Z
 try dsimp only at ha0
 try dsimp only at ha1
 try dsimp only at hrun1
 try dsimp only at hlo
 try dsimp only at hhi
 refine a7 (a6 [26,6,7,8,9,10,1] [] Z fun X6 Z=>?_);apply d7 Z rfl<;>intro hb Z
 .have hge:0<=at0:=by subst O;simpa[std,b7]using hb
  obtain⟨a,rfl⟩:∃a:Nat,at0=(a:Int):=⟨at0.toNat,by omega⟩
  have ha:a<64:=by omega
  rw[show((a:Int)+1).toNat=a+1 by omega]at hrun1;have SB:=CP a ha;have hlw:=yE ha hlo;have hhw:=yU ha hhi;have hb1:=yx hz ha;have hb2:=yx hlo ha;have hb3:=yx hhi ha;have how:=Ia ha;obtain⟨pw,hpw⟩:=eqv (2^a);rw[<-hpw]at hlw hhw hb1 hb2 hb3 how;obtain⟨bl,hbl⟩:=eqv (lV a);rw[<-hbl]at SB hlw hhw;obtain⟨zb,hzb⟩:=eqv (z.testBit a);rw[<-hzb]at hb1;obtain⟨lb,hlb⟩:=eqv (lo.testBit a);rw[<-hlb]at hb2;obtain⟨hh,hhh⟩:=eqv (hi.testBit a);rw[<-hhh]at hb3;obtain⟨lu,hlu⟩:=eqv (loU a lo);rw[<-hlu]at hlw;obtain⟨hd,hhd⟩:=eqv (hiD a hi);rw[<-hhd]at hhw;refine f9 (a7 (j0 (a7 ?_)));refine j5 [11,6,7,8,9,10,1] [] Z fun X8 Z=>?_
  replace Z:=Z.headS (v':=.int .u64 (pw:Int)) (by subst O;exact Sim.of_int2 how) rfl;refine a6 [43,6,7,8,9,10,1,11] [] Z fun X9 Z=>?_
  replace Z:=Z.headS (v':=.agg [.bool (.v zb),.bool (.v lb),.bool (.v hh)]) (by subst O;exact Sim.agg ⟨Sim.bool hb1,Sim.bool hb2,Sim.bool hb3,trivial⟩) rfl;refine j0 (a7 ?_);refine j5 [44,43,6,7,8,9,10,1,11] [] Z fun X10 Z=>?_
  apply d7 Z rfl<;>intro hb Z
  .have t1:zb=false/\lb=false/\hh=true:=by subst O;revert hb;cases zb<;>cases lb<;>cases hh<;>simp[std,eqL,eqC,BE.den]
   have O1:=SB;refine j6 [8,9,6,7,10,1,11,43] [] [(2,.r fun _=>.int .u64 (bl:Int))] Z fun X11 Z=>?_
   replace Z:=Z.headS (v':=.int .u64 (lu:Int)) (by subst O;exact Sim.of_int2 hlw) rfl;have O1:=SB;refine j4 [7,6,8,9,10,1] [] [(4,.r fun _=>.int .u64 (bl:Int))] Z fun X12 Z=>?_
   replace Z:=Z.slots (l:=[(6,.int .u64 (lo:Int)),(7,.int .u64 (hd:Int)),(8,.int .u64 (lu:Int)),(9,.bool (.v true)),(10,.int .i64 (a:Int)),(1,.int .u64 (z:Int))]) ⟨⟨rfl,zr⟩,⟨rfl,by subst O;exact Sim.of_int2 hhw⟩,⟨rfl,zr⟩,⟨rfl,Sim.tt⟩,⟨rfl,zr⟩,⟨rfl,zr⟩,trivial⟩;refine j5 [6,7,8,9,10,1] [] Z fun X7 Z=>?_
   have e9:B.arith .sub .i64 (a:Int) 1=(a:Int)-1:=by subst O;exact s5 (by omega) (by omega)
   exact⟨((a:Int)-1,lo,hd,lu,true),⟨by dsimp only;omega,by dsimp only;omega,by rw[show(((a:Int)-1,lo,hd,lu,true):Int×Nat×Nat×Nat×Bool).1+1=(a:Int)by dsimp only;omega,Int.toNat_natCast];exact(by rw[hrun1,hhd,hlu];exact GE (hzb ▸ t1.1) (hlb ▸ t1.2.1) (hhh ▸ t1.2.2)),hlo,by rw[hhd];exact FN ha hhi⟩,by dsimp only;omega,by rw[<-e9];exact Z⟩
  have nfft:¬(zb=false/\lb=false/\hh=true):=by subst O;revert hb;cases zb<;>cases lb<;>cases hh<;>simp[std,eqL,eqC,BE.den]
  refine a7 ?_;refine j5 [59,43,6,7,8,9,10,1,11] [] Z fun X13 Z=>?_
  apply d7 Z rfl<;>intro hb Z
  .have t1:zb=false/\lb=true/\hh=true:=by subst O;revert hb;cases zb<;>cases lb<;>cases hh<;>simp[std,eqL,eqC,BE.den]
   rw[IE (hzb ▸ t1.1) (hlb ▸ t1.2.1) (hhh ▸ t1.2.2)]at hrun1;injection hrun1 with hv0 hf0
   refine a6 [4,5] [] Z fun X14 Z=>?_
   refine B4 Z ?_;subst O;rw[hv0,hf0]
   first|exact zr|exact Sim.tup ⟨zr,Sim.bool rfl,trivial⟩
  have nftt:¬(zb=false/\lb=true/\hh=true):=by subst O;revert hb;cases zb<;>cases lb<;>cases hh<;>simp[std,eqL,eqC,BE.den]
  refine a7 ?_;refine j5 [63,43,6,7,8,9,10,1,11] [] Z fun X15 Z=>?_
  apply d7 Z rfl<;>intro hb Z
  .have t1:zb=true/\lb=false/\hh=false:=by subst O;revert hb;cases zb<;>cases lb<;>cases hh<;>simp[std,eqL,eqC,BE.den]
   rw[CO (hzb ▸ t1.1) (hlb ▸ t1.2.1) (hhh ▸ t1.2.2)]at hrun1;injection hrun1 with hv0 hf0
   refine a6 [4,5] [] Z fun X16 Z=>?_
   refine B4 Z ?_;subst O;rw[hv0,hf0]
   first|exact zr|exact Sim.tup ⟨zr,Sim.bool rfl,trivial⟩
  have ntff:¬(zb=true/\lb=false/\hh=false):=by subst O;revert hb;cases zb<;>cases lb<;>cases hh<;>simp[std,eqL,eqC,BE.den]
  refine a7 ?_;refine j5 [68,6,7,8,9,10,1,11] [] Z fun X17 Z=>?_
  apply d7 Z rfl<;>intro hb Z
  .have t1:zb=true/\lb=false/\hh=true:=by subst O;revert hb;cases zb<;>cases lb<;>cases hh<;>simp[std,eqL,eqC,BE.den]
   have O1:=SB;refine j4 [6,7,8,9,10,1] [] [(2,.r fun _=>.int .u64 (bl:Int))] Z fun X18 Z=>?_
   replace Z:=Z.headS (v':=.int .u64 (lu:Int)) (by subst O;exact Sim.of_int2 hlw) rfl;refine j5 [6,7,8,9,10,1] [] Z fun X7 Z=>?_
   have e9:B.arith .sub .i64 (a:Int) 1=(a:Int)-1:=by subst O;exact s5 (by omega) (by omega)
   exact⟨((a:Int)-1,lu,hi,best,f),⟨by dsimp only;omega,by dsimp only;omega,by rw[show(((a:Int)-1,lu,hi,best,f):Int×Nat×Nat×Nat×Bool).1+1=(a:Int)by dsimp only;omega,Int.toNat_natCast];exact(by rw[hrun1,hlu];exact ID (hzb ▸ t1.1) (hlb ▸ t1.2.1) (hhh ▸ t1.2.2)),by rw[hlu];exact sd ha hlo,hhi⟩,by dsimp only;omega,by rw[<-e9];exact Z⟩
  have ntft:¬(zb=true/\lb=false/\hh=true):=by subst O;revert hb;cases zb<;>cases lb<;>cases hh<;>simp[std,eqL,eqC,BE.den]
  refine o4 (j5 [6,7,8,9,10,1] [] Z fun X7 Z=>?_);have e9:B.arith .sub .i64 (a:Int) 1=(a:Int)-1:=by subst O;exact s5 (by omega) (by omega)
  exact⟨((a:Int)-1,lo,hi,best,f),⟨by dsimp only;omega,by dsimp only;omega,by rw[show(((a:Int)-1,lo,hi,best,f):Int×Nat×Nat×Nat×Bool).1+1=(a:Int)by dsimp only;omega,Int.toNat_natCast];exact(by rw[hrun1];exact IF (by rw[<-hzb,<-hlb,<-hhh];exact nfft) (by rw[<-hzb,<-hlb,<-hhh];exact nftt) (by rw[<-hzb,<-hlb,<-hhh];exact ntff) (by rw[<-hzb,<-hlb,<-hhh];exact ntft)),hlo,hhi⟩,by dsimp only;omega,by rw[<-e9];exact Z⟩
 have hlt:¬0<=at0:=by subst O;simpa[std,b7]using hb
 rw[show(at0+1).toNat=0 by omega]at hrun1;injection hrun1 with hv0 hf0
 refine o4 (a6 [4,5] [] Z fun X19 Z=>?_);refine B4 Z ?_;subst O;rw[hv0,hf0]
 first|exact zr|exact Sim.tup ⟨zr,Sim.bool rfl,trivial⟩
theorem xt{l:Lab}(hL:isL l=true)(hb:U64 l.bits):∃m:Nat,l.bits=(m:Int)/\m % 2^(64-l.len.toNat)=0/\m+(2^(64-l.len.toNat)-1)<2^64:=by
 obtain⟨a,h1,h2⟩:=sk hL hb;have hp:0<2^(64-l.len.toNat):=Nat.pow_pos (by decide);exact⟨_,h1,Nat.mul_mod_right _ _,by omega⟩
theorem AQ{l:Lab}(hL:isL l=true)(hb:U64 l.bits):i5 .or .u64 l.bits (o7 .shr .u64 18446744073709551615 l.len)=l.bits+szL l-1:=by
 obtain⟨h0,h1,h2⟩:=z8 hL;rw[tC h0 h1];obtain⟨m,hm,hmod,hsum⟩:=xt hL hb;have hp:0<2^(64-l.len.toNat):=Nat.pow_pos (by decide);rw[hm,yd (a:=m) (b:=2^(64-l.len.toNat)-1) (k:=64-l.len.toNat) hmod (by omega) hsum];unfold szL;omega
theorem ym{l:Lab}(hL:isL l=true)(hb:U64 l.bits):(l.bits+szL l-1==18446744073709551615) = !(lO l)/\(lO l=true->i5 .add .u64 (l.bits+szL l-1) 1=eR l)/\(lO l=false->eR l=0):=by
 have h1:=uo hL hb;have h2:=xm l;have h3:=hb.1;unfold lO eR
 by_cases h:l.bits+szL l=18446744073709551616
 .rw [if_pos h,decide_eq_true h]
  exact⟨by rw[h];rfl,fun h=>(by cases h),fun _=>rfl⟩
 rw[if_neg h,decide_eq_false h];refine⟨?_,fun _=>?_,fun h=>(by cases h)⟩
 .show _=false
  rw[beq_eq_false_iff_ne];omega
 show IntKind.u64.wrap _=_
 rw[IntKind.wrap_u64];omega
theorem ER(l:Lab)(hL:isL l=true)(hb0:U64 l.bits):l7 Tryz.prog 31 [i9 l] (fun _=>.tup [.int .u64 l.bits,.int .u64 (l.bits+szL l-1),.int .i64 0]):=by
 intro m w hm hargs;have S:=eB l hb0;rw[hL]at S;simp only[i9]at S hargs;have hll:=z8 hL;refine en 16 hm hargs Tryz.func31 fun B O a0 Z=>?_
 refine a6 [1] [1] Z fun X0 Z=>?_
 have O1:=S;refine a7 (j6 [7,1] [1] [(1,.r fun _=>.bool (.v true))] Z fun X1 Z=>?_);apply d7 Z rfl<;>intro hb Z
 .exfalso
  subst O;cases hb
 have O1:=hll.1;refine f9 (a7 (drg O a8 [2,3,4] [] [] Z fun X3 _ _ Z=>?_));refine B4 Z ?_;subst O;rw[<-AQ hL hb0];exact zr
theorem Ft(l:Lab)(hL:isL l=true)(hb0:U64 l.bits):l7 Tryz.prog 146 [i9 l] (fun _=>.tup [.int .u64 (eR l),.bool (.v (lO l))]):=by
 intro m w hm hargs;have S:=ER l hL hb0;obtain⟨nw1,nw2,nw3⟩:=ym hL hb0;obtain⟨hv,hhv⟩:=eqv (l.bits+szL l-1);rw[<-hhv]at S nw1 nw2;obtain⟨nb,hnb⟩:=eqv (lO l);rw[<-hnb]at nw1 nw2 nw3 ⊢;obtain⟨nk,hnk⟩:=eqv (eR l);rw[<-hnk]at nw2 nw3 ⊢;simp only[i9]at S hargs;refine en 21 hm hargs Tryz.func146 fun B O a0 Z=>?_
 refine a6 [1] [1] Z fun X0 Z=>?_
 have O1:=S;refine j6 [5,6] [] [(1,.r fun _=>.tup [.int .u64 l.bits,.int .u64 hv,.int .i64 0])] Z fun X1 Z=>?_
 refine a7 (a6 [18,5] [] Z fun X2 Z=>?_);apply d7 Z rfl<;>intro hb Z
 .have hn:nb=false:=by
   subst O;revert hb;simp only[std,b7,BE.den];rw[nw1];cases nb<;>simp
  refine a6 [2,3] [] Z fun X3 Z=>?_
  refine B4 Z ?_;subst O;rw[hn,nw3 hn];exact Sim.tup ⟨zr,Sim.bool rfl,trivial⟩
 have hn:nb=true:=by
  subst O;revert hb;simp only[std,b7,BE.den];rw[nw1];cases nb<;>simp
 refine f9 (a6 [2,3] [] Z fun X4 Z=>?_);refine B4 Z ?_;subst O;rw[hn,<-nw2 hn];exact Sim.tup ⟨zr,Sim.bool rfl,trivial⟩
def rF(r:Option Nat):Fence:={ Fence.wide with round:=r }
@[simp] theorem rF_round (r : Option Nat) : (rF r).round = r := rfl
theorem tN(r:Option Nat)(n:Nat):(rF r).room n:=fun d hd=>by cases hd
theorem ik(r:Option Nat)(f:FuncId):(rF r).fn f:=trivial
theorem fJ(r:Option Nat)(n:Nat):(rF r).depth.isSome=true->1<=n:=fun h=>by cases h
section
variable {P:Program} {n:Nat} {r:Option Nat}
theorem CL{f:FuncId}{args:Array Value}{w:World}{R:Ending->World->Prop}(h:Calls P f args w R):CallsIn (rF r) n P f args w R:=callsIn_wide (n:=n).2 h
theorem Bi{row:String}{args:Array Value}{w:World}{R:Value->World->Prop}(h:Rows P row args w R):RowsIn (rF r) n P row args w R:=fun c cs _=>by
 obtain⟨v,w',hr,hs⟩:=h c cs;exact⟨v,w',hr,stepsIn_wide.2 hs⟩
def P6(l:List Oper):Bool:=l.all fun o=>match o.op with| .defer _=>false|_=>true
theorem yf{o:Oper}(hd:∀c,o.op ≠ .defer c){a:Act}{w:World}{next next':Act->World->Prop}{Q Q':Exit->Act->World->Prop}(hN:∀a w,next a w->next' a w)(hQ:∀e a w,Q e a w->Q' e a w)(h:o.wp P a w next Q):o.wpIn (rF r) n P a w next' Q':=by
 refine⟨fun f _=>ik r f,?_⟩;rw[Oper.semAt_eq _ _ _ hd];unfold Oper.wp at h
 generalize (execOp a.eval o).run P w=res at h
 have hmap:∀f args w',Calls P f args w' (fun| .returned v,w''=>next (a.put o.dst v) w''| .panicked chain,w''=>Q (.panic chain) a w''| .outgrown,_=>LetsOut Q) →
   Calls P f args w' (fun| .returned v,w''=>next' (a.put o.dst v) w''| .panicked chain,w''=>Q' (.panic chain) a w''| .outgrown,_=>LetsOut Q'):=fun f args w' h=>by
  refine h.mono ?_;intro e w'' he
  cases e with
  |returned v=>exact hN _ _ he
  |panicked chain=>exact hQ _ _ _ he
  |outgrown=>obtain⟨a,w,he⟩:=he;exact⟨a,w,hQ _ _ _ he⟩
 cases res with
 |ok nx w'=>
  cases nx with
  |value v=>exact hN _ _ h
  |skip=>exact hN _ _ h
  |defer d=>exact hN _ _ h
  |enter f args=>exact⟨fJ r n,CL (hmap _ _ _ h)⟩
  |row row args=>exact⟨fJ r n,Bi (h.mono fun v w' hv=>hN _ _ hv)⟩
  |_=>exact h.elim
 |halt hh w'=>
  cases hh with
  |panic v=>exact hQ _ _ _ h
  |_=>exact h.elim
theorem bV{ops:Array Oper}{Q Q':Exit->Act->World->Prop}{rest:List Oper}(hO:∀a w,¬Q .outgrown a w)(hQ:∀e a w,e ≠ .normal->Q e a w->Q' e a w)(hN:∀a w,Q .normal a w->wpListIn (rF r) n P ops Q' rest a w) :
  ∀(L:List Oper) (a:Act) (w:World),P6 L=true->wpList P ops Q L a w->wpListIn (rF r) n P ops Q' (L++rest) a w
 | [],a,w,_,h=>hN a w h
 |o::L,a,w,hd,h=>by
  have hd1:∀c,o.op ≠ .defer c:=fun c e=>by unfold P6 at hd;simp[e]at hd
  have hd2:P6 L=true:=by unfold P6 at hd ⊢;rw[List.all_cons,Bool.and_eq_true]at hd;exact hd.2
  show(if Region.wanted o (yielded ops a.tmps)then o.wpIn (rF r) n P a w (wpListIn (rF r) n P ops Q' (L++rest)) Q' else(∀f,o.about P w a.eval=some f->(rF r).fn f)/\wpListIn (rF r) n P ops Q' (L++rest) (a.put o.dst undef) w)
  unfold wpList at h
  by_cases hw:Region.wanted o (yielded ops a.tmps)=true
  .rw [if_pos hw]at h ⊢
   rcases h with h|⟨_,a',w',h⟩
   .-- Q may be met at .normal by the list's end only
    have H:o.wp P a w (wpListIn (rF r) n P ops Q' (L++rest)) Q:=by
     unfold Oper.wp at h ⊢
     generalize (execOp a.eval o).run P w=res at h
     cases res with
     |ok nx w'=>
      cases nx with
      |value v=>exact bV hO hQ hN L _ _ hd2 h
      |skip=>exact bV hO hQ hN L _ _ hd2 h
      |defer d=>exact bV hO hQ hN L _ _ hd2 h
      |enter f args=>
       refine Calls.mono h ?_;intro e w'' he
       cases e with
       |returned v=>exact bV hO hQ hN L _ _ hd2 he
       |panicked chain=>exact he
       |outgrown=>exact he
      |row row args=>exact Rows.mono h fun v w' hv=>bV hO hQ hN L _ _ hd2 hv
      |_=>exact h.elim
     |halt hh w'=>
      cases hh with
      |panic v=>exact h
      |_=>exact h.elim
    have H2:o.wp P a w (wpListIn (rF r) n P ops Q' (L++rest)) (fun e a w=>e ≠ .normal/\Q e a w):=by
     unfold Oper.wp at H ⊢
     generalize (execOp a.eval o).run P w=res at H
     cases res with
     |ok nx w'=>
      cases nx with
      |value v=>exact H
      |skip=>exact H
      |defer d=>exact H
      |enter f args=>
       refine Calls.mono H ?_;intro e w'' he
       cases e with
       |returned v=>exact he
       |panicked chain=>exact⟨by simp,he⟩
       |outgrown=>obtain⟨a,w,he⟩:=he;exact absurd he (hO a w)
      |row row args=>exact H
      |_=>exact H.elim
     |halt hh w'=>
      cases hh with
      |panic v=>exact⟨by simp,H⟩
      |_=>exact H.elim
    exact yf hd1 (fun _ _ h=>h) (fun e a w h=>hQ e a w h.1 h.2) H2
   exact absurd h (hO _ _)
  rw[if_neg hw]at h ⊢;exact⟨fun f _=>ik r f,bV hO hQ hN L _ _ hd2 h⟩
theorem pQ{id:Nat}{l:List Oper}{Q:Exit->Act->World->Prop}{a:Act}{w:World}(hO:∀a w,¬Q .outgrown a w)(hd:P6 l=true)(h:wpList P l.toArray Q l a w):(Code.region id l.toArray false).wpIn (rF r) n P Q a w:=by
 refine wpIn_region_lit ?_;have:=bV (r:=r) (n:=n) (Q':=Q) (rest:=[]) hO (fun _ _ _ _ h=>h) (fun _ _ h=>h) l a w hd h
 rwa[List.append_nil]at this
def rJ(P:Program)(l:Nat)(R:Ending->World->Prop):Exit->Act->World->Prop
 | .normal,_,w=>∃v w',(Instr.endRound l none).run P w = .ok v w'/\R (.returned v) w'
 | .ret,_,w=>∃v w',(Instr.endRound l (some .ret)).run P w = .ok v w'/\R (.returned v) w'
 | .exit id,_,w=>∃v w',(Instr.endRound l (some (.exit id))).run P w = .ok v w'/\R (.returned v) w'
 | .goto t,_,w=>∃v w',(Instr.endRound l (some (.goto t))).run P w = .ok v w'/\R (.returned v) w'
 | .panic chain,a,w=>a.defers=[]/\R (.panicked chain) w
 | .outgrown,_,_=>False
theorem Bk{l:Nat}{f:FuncId}{fn:Func}(hfn:P.funcs[f]? = some fn){tmps:Array Value}{assign body:Code}{w:World}{R:Ending->World->Prop}
  (h:assign.wpIn (rF (some l)) n P (Exit.then (fun a₁ w₁=>∃w₂,(Instr.beginRound l).run P w₁ = .ok () w₂/\body.wpIn (rF (some l)) n P (rJ P l R) a₁ w₂) (fun _ _ _=>False)) { tmps:=tmps,defers:=[] } w) :
  RoundIn (rF none) n P l f tmps assign body w R:=by
 refine⟨ik none f,fun c cs hr=>?_⟩
 let b:Frame:={ (default:Frame)with fn:=f,kind:=.normal,roundOf:=some l }
 have hb0:Frame.round l f tmps assign body .normal=b.atR { tmps:=tmps,defers:=[] } [.code assign,.beginRound,.code body]:=by
  simp[Frame.round,Frame.atR,b]
 have hro:b.roundOf=(rF (some l)).round:=rfl;obtain⟨e,a₁,w₁,hq,harr⟩:=h b [.beginRound,.code body] (c::cs) hro (ik _ _) (tN _ _);rw[<-hb0]at harr
 cases e with
 |normal=>
  obtain⟨w₂,hbr,hbody⟩:=hq;have s1:StepsIn (Machine.fenced P (rF (some l))) P (lone (b.atR a₁ [.beginRound,.code body]) (c::cs) w₁) (lone (b.atR a₁ [.code body]) (c::cs) w₂):=
   .one (fenced_wide P _) (stepR_beginRound rfl hbr)
  obtain⟨e₂,a₂,w₃,hq₂,harr₂⟩:=hbody b [] (c::cs) hro (ik _ _) (tN _ _)
  cases e₂ with
  |normal=>
   obtain⟨v,w₄,hend,hR⟩:=hq₂;exact⟨.returned v,w₄,hR,(StepsIn.trans harr s1).trans (StepsIn.trans harr₂ (.one (fenced_wide P _) (stepR_round_end rfl rfl hend)))⟩
  |ret=>
   obtain⟨v,w₄,hend,hR⟩:=hq₂;obtain⟨k₁,hs⟩:=harr₂.2 rfl;exact⟨.returned v,w₄,hR,(StepsIn.trans harr s1).trans (StepsIn.trans hs (.one (fenced_wide P _) (stepR_round_ret rfl rfl hend)))⟩
  |exit id=>
   obtain⟨v,w₄,hend,hR⟩:=hq₂;obtain⟨k₁,hk,hs⟩:=harr₂.2 rfl rfl;exact⟨.returned v,w₄,hR,(StepsIn.trans harr s1).trans (StepsIn.trans hs (.one (fenced_wide P _) (stepR_round_exit rfl rfl hk hend)))⟩
  |goto t=>
   obtain⟨v,w₄,hend,hR⟩:=hq₂;obtain⟨k₁,hk,hs⟩:=harr₂.2 rfl rfl;exact⟨.returned v,w₄,hR,(StepsIn.trans harr s1).trans (StepsIn.trans hs (.one (fenced_wide P _) (stepR_round_goto rfl rfl hk hend)))⟩
  |panic chain=>
   obtain⟨hd,hR⟩:=hq₂;obtain⟨todo,hs⟩:=harr₂;exact⟨.panicked chain,w₃,hR,(StepsIn.trans harr s1).trans (StepsIn.trans hs (.one (fenced_wide P _) (step_leave_panicked (fr:={ b.atR a₂ todo with mode:=.panicking chain }) ⟨rfl,hd,fn,hfn⟩)))⟩
  |outgrown=>exact hq₂.elim
 |exit id=>exact hq.elim
 |goto t=>exact hq.elim
 |ret=>exact hq.elim
 |panic chain=>exact hq.elim
 |outgrown=>exact hq.elim
end
def wpN(fn:FuncId)(P:Program)(c:Code)(Q:Exit->Act->World->Prop)(a:Act)(w:World):Prop:=
 ∀(b:Frame) (k:List Item) (cs:List Frame),b.fn=fn->∃e a' w',Q e a' w'/\Arrives P (lone (b.at a (.code c::k)) cs w) b k cs e a' w'
section
variable {P:Program} {fn:FuncId} {Q:Exit->Act->World->Prop} {a:Act} {w:World}
theorem Q8{c:Code}(h:c.wp P Q a w):wpN fn P c Q a w:=fun b k cs _=>h b k cs
theorem K5{x y:Code}(h:wpN fn P x (Exit.then (wpN fn P y Q) Q) a w):wpN fn P (Code.seq x y) Q a w:=by
 intro b k cs hb;obtain⟨e,a₁,w₁,hq,harr⟩:=h b (.code y::k) cs hb
 cases e with
 |normal=>
  obtain⟨e₂,a₂,w₂,hq₂,harr₂⟩:=hq b k cs hb;exact⟨e₂,a₂,w₂,hq₂,.of_steps (.head step_seq harr) harr₂⟩
 |exit id=>exact⟨_,a₁,w₁,hq,.of_steps (.one step_seq) (.pass (x:=.code y) rfl (fun _ _=>.inl (by simp)) harr)⟩
 |goto l=>exact⟨_,a₁,w₁,hq,.of_steps (.one step_seq) (.pass (x:=.code y) rfl (fun _ _=>.inl (by simp)) harr)⟩
 |ret=>exact⟨_,a₁,w₁,hq,.of_steps (.one step_seq) (.pass (x:=.code y) rfl (fun _ _=>.inl (by simp)) harr)⟩
 |panic ch=>exact⟨_,a₁,w₁,hq,.of_steps (.one step_seq) (.pass (x:=.code y) rfl (fun _ _=>.inl (by simp)) harr)⟩
 |outgrown=>exact⟨_,a₁,w₁,hq,.of_steps (.one step_seq) (.pass (x:=.code y) rfl (fun _ _=>.inl (by simp)) harr)⟩
def Fe(P:Program)(l:Nat)(Q:Exit->Act->World->Prop)(a':Act):Ending->World->Prop
 | .returned _,w₃=>∃jump w₄,(Instr.endLoop l).run P w₃ = .ok jump w₄/\(match jump with
   |none=>Q .normal a' w₄
   |some c=>c.wp P Q a' w₄)
 | .panicked chain,w₃=>Q (.panic chain) a' w₃
 | .outgrown,_=>LetsOut Q
def K7(fn:FuncId)(a:Act)(ps:Array Tmp)(assign body:Code)(D:Nat)(st:LoopState)(pe:Option Code):Loop:={ state:=st,pending:=pe,fn,tmps:=a.tmps,params:=ps,assign,body,defers:=D }
def U9(fn:FuncId)(a:Act)(ps:Array Tmp)(assign body:Code)(w:World):World:=(w.alloc (.deferred (some []))).alloc (.loop (K7 fn a ps assign body w.heap.size .ready none))
theorem lX{g:Operand}{ps:Array Tmp}{assign body:Code}{gf:Nat}{lb:Array Value}(hg:a.eval g = .func (.func gf) #[] lb)(eg:∀args w,(callFunc gf args).run P w = .ok (.enter gf args) w)
  (h:Calls P gf (#[.func (.yield (w.heap.size+1)) #[] #[]]++lb) (U9 fn a ps assign body w) (Fe P (w.heap.size+1) Q { a with defers:={ target:=.collected w.heap.size,args:=#[] }::a.defers })) :
  wpN fn P (Code.rangeFunc g ps assign body) Q a w:=by
 intro b0 k cs hb;have hat:∀a k,b0.at a k=({ b0 with roundOf:=none }:Frame).atR a k:=fun a k=>(Frame.atR_of_none (b:={ b0 with roundOf:=none }) rfl a k).symm
 obtain⟨b,hbd⟩:=eqv (({ b0 with roundOf:=none }:Frame));have hro:b.roundOf=none:=by rw[hbd]
 have hbf:b.fn=fn:=by rw[hbd];exact hb
 have he:(Instr.enterLoop b.fn a.tmps ps assign body b.roundOf).run P w = .ok (w.heap.size+1,[{ target:=.collected w.heap.size,args:=#[] }]) (U9 fn a ps assign body w):=by
  rw[hro,hbf];exact run_enterLoop_outer _ _ _ _ _
 have hres:(resolve a.eval (rangeCall g (w.heap.size+1)) 0).run P (U9 fn a ps assign body w) = .ok { target:=.fn (.func gf) lb,args:=#[.func (.yield (w.heap.size+1)) #[] #[]] } (U9 fn a ps assign body w):=by
  simp only[resolve,hg];simp[go_sem]
 have hinv:(invoke (.fn (.func gf) lb) #[.func (.yield (w.heap.size+1)) #[] #[]]).run P (U9 fn a ps assign body w) = .ok (.enter gf (#[.func (.yield (w.heap.size+1)) #[] #[]]++lb)) (U9 fn a ps assign body w):=by
  simp[invoke,go_sem,eg]
 have henter:=stepR_rangeFunc (P:=P) (b:=b) (a:=a) (k:=k) (cs:=cs) (w:=w) he hres hinv;obtain⟨e,w₃,fr,hR,hsteps,hfn,hleave⟩:=h (b.atR { a with defers:=[{ target:=.collected w.heap.size,args:=#[] }]++a.defers } (.inRangeFunc (w.heap.size+1)::k)::cs);have hbk:∀a k,b.atR a k=b0.at a k:=fun a k=>by rw[hbd,hat]
 rw[<-hbk]
 cases e with
 |outgrown=>
  obtain⟨a₀,w₀,hq⟩:=hR;exact⟨.outgrown,a₀,w₀,hq,.inr (Outgrown.of_steps (.one henter) hsteps)⟩
 |returned v=>
  obtain⟨jump,w₄,hend,hj⟩:=hR;have sback:Steps P (lone (b.atR a (.code (.rangeFunc g ps assign body)::k)) cs w) (lone (b.atR { a with defers:=[{ target:=.collected w.heap.size,args:=#[] }]++a.defers } ((jump.map Item.code).toList++k)) cs w₄):=by
   refine .head henter (Steps.trans hsteps (.head ?_ (.one (stepR_endRangeFunc hend))));rw[<-finish_atR_inRangeFunc (w.heap.size+1) v];exact step_leave_returned hleave
  cases jump with
  |none=>exact⟨.normal,_,w₄,hj,by rw[hbk]at sback ⊢;rw[hbk]at sback;exact sback⟩
  |some c=>
   obtain⟨e',a'',w₅,hq,harr⟩:=hj b0 k cs;refine⟨e',a'',w₅,hq,.of_steps sback ?_⟩;rw[hbk];exact harr
 |panicked chain=>
  refine⟨.panic chain,_,w₃,hR,.inRangeFunc (w.heap.size+1)::k,.head henter (Steps.trans hsteps (.one ?_))⟩;rw[<-hbk,<-Frame.raise_atR];exact step_leave_panicked hleave
theorem iE{f:FuncId}{fd:Func}{c:Code}{args:Array Value}{R:Ending->World->Prop}(hf:P.funcs[f]? = some fd)(hb:fd.body=some c)
  (h:wpN f P c (bodyPostM Fence.wide 0 P fd R) { tmps:=args++Array.replicate (fd.ntmps-args.size) undef,defers:=[] } w):Calls P f args w R:=by
 intro cs
 let b:Frame:={ (default:Frame)with fn:=f,kind:=.normal }
 have henter:Frame.enter P f args .normal=b.at { tmps:=args++Array.replicate (fd.ntmps-args.size) undef,defers:=[] } [.code c]:=by
  simp[Frame.enter,Frame.at,hf,hb,b]
 obtain⟨e,a',w',hq,harr⟩:=h b [] cs rfl;rw[<-henter]at harr
 cases e with
 |normal=>
  obtain⟨e',w'',fr',hR,hs,hfn,hl⟩:=leaves_stepsInM (F:=Fence.wide) a'.defers .returning w' { b.at a' []with mode:=.returning } cs rfl rfl rfl hf rfl trivial (room_wide _) hq;exact⟨e',w'',fr',hR,Comes.of_steps (Steps.trans harr (.one step_end)) (comesIn_wide.1 hs),hfn,hl⟩
 |ret=>
  obtain⟨todo,hs₀⟩:=harr;obtain⟨e',w'',fr',hR,hs,hfn,hl⟩:=leaves_stepsInM (F:=Fence.wide) a'.defers .returning w' { b.at a' todo with mode:=.returning } cs rfl rfl rfl hf rfl trivial (room_wide _) hq;exact⟨e',w'',fr',hR,Comes.of_steps hs₀ (comesIn_wide.1 hs),hfn,hl⟩
 |panic chain=>
  obtain⟨todo,hs₀⟩:=harr;obtain⟨e',w'',fr',hR,hs,hfn,hl⟩:=leaves_stepsInM (F:=Fence.wide) a'.defers (.panicking chain) w' { b.at a' todo with mode:=.panicking chain } cs rfl rfl rfl hf rfl trivial (room_wide _) hq;exact⟨e',w'',fr',hR,Comes.of_steps hs₀ (comesIn_wide.1 hs),hfn,hl⟩
 |exit id=>exact hq.elim
 |goto l=>exact hq.elim
 |outgrown=>exact⟨.outgrown,w',b,hq,harr.resolve_left (by simp[b]),rfl,trivial⟩
end
section
variable {m0:Nat->Nat->Prop} {w0 w w':World} {S:Nat->Prop} {ds:List Deferred} {K:Kn} {s:St} {a:Act} {P:Program}
abbrev Z9(D:Nat):Deferred:={ target:=.collected D,args:=#[] }
theorem iu(fn:FuncId)(a:Act)(ps:Array Tmp)(assign body:Code)(w:World):Below w.heap.size w (U9 fn a ps assign body w):=
 ((Below.refl _ w).alloc (Nat.le_refl _) _).alloc (by simp) _
theorem mz(fn:FuncId)(a:Act)(ps:Array Tmp)(assign body:Code)(w:World):(U9 fn a ps assign body w).heap[w.heap.size+1]? = some (.loop (K7 fn a ps assign body w.heap.size .ready none)):=by
 have:=World.alloc_heap_new (w.alloc (.deferred (some []))) (.loop (K7 fn a ps assign body w.heap.size .ready none))
 rwa[World.size_alloc]at this
theorem ku(fn:FuncId)(a:Act)(ps:Array Tmp)(assign body:Code)(w:World):(U9 fn a ps assign body w).heap[w.heap.size]? = some (.deferred (some [])):=
 (Below.heap_alloc _ _ _ (by simp)).trans (World.alloc_heap_new w _)
theorem qg{fd:Func}{R:Ending->World->Prop}{D:Nat}{chain:List PanicEntry}(hd:a.defers=[Z9 D])(hk:w.heap[D]? = some (.deferred (some [])))(h:R (.panicked chain) (w.putObj D (.deferred none))):bodyPostM Fence.wide 0 P fd R (.panic chain) a w:=by
 show LeavesInM Fence.wide 0 P fd a.tmps R a.defers (.panicking chain) w
 rw[hd];exact⟨by simp,.inl ⟨D,_,rfl,run_takeDeferred hk,h⟩⟩
end
section
variable {m0:Nat->Nat->Prop} {w0 wi w:World} {S:Nat->Prop} {ds di:List Deferred} {K:Kn} {s si:St} {a ai:Act}
def okK(V:List AV):Kn:=⟨fun m w=>∀v∈V,Ok m w v,fun k h v hv=>k.ok (h v hv)⟩
def HS(l:Nat)(r:Loop)(D:Nat):Kn:=⟨fun _ w=>w.heap[l]? = some (.loop r)/\w.heap[D]? = some (.deferred (some [])),fun k h=>⟨k.obj _ _ h.1 (fun _ _ _ e=>by cases e),k.obj _ _ h.2 (fun _ _ _ e=>by cases e)⟩⟩
theorem over(hc:f7 ⟨m0,w0,S,ds,K⟩ s a wi){pre:List (Nat×Blk)}(hi:f7 ⟨s.m ⟨m0,w0,S,ds,K⟩,wi,ats pre,di,noK⟩ si ai w)(hdist:pre.Pairwise fun e f=>e.2.at_≠f.2.at_)(hp:∀e∈pre,i8 s.mem e.1=some e.2){sets:List (Nat×List AV)}{news:List (Nat×Blk)}{ks:List Nat}(hs:C4 si pre sets)(hn:I2 si pre ks news) :
  f7 ⟨m0,w0,S,ds,K⟩ (s.eff (.sets (upd pre sets++news))) a w/\∀v,Ok (si.m ⟨s.m ⟨m0,w0,S,ds,K⟩,wi,ats pre,di,noK⟩) w v->Ok ((s.eff (.sets (upd pre sets++news))).m ⟨m0,w0,S,ds,K⟩) w v:=by
 obtain⟨hl,hok⟩:=bX hi hs hn;obtain⟨f1,f2⟩:=hc.called hdist hp hl;exact⟨f1,fun v hv=>f2 v (hok v hv)⟩
end
section
variable {C:Cx} {P:Program} {Q:Exit->Act->World->Prop} {ops:Array Oper} {s:St} {a:Act} {w:World} {L rest:List Oper} {o:Oper}
abbrev yV(l:Nat):AV:=.raw (.func (.yield l) #[] #[])
theorem lW{c:Call}{g:Operand}{l:Nat}{args:List AV}(hop:o.op = .call c)(hcal:c.callee = .value g)(h:f7 C s a w)(hgv:val s [] g=yV l)(hl:R0 s [] c.args.toList=some args){rc:Loop}(hr:w.heap[l]? = some (.loop rc))(hsz:args.length=rc.params.size) :
  (execOp a.eval o).run P w = .ok (.round l rc.fn ((rc.params.zip (args.map AV.den).toArray).foldl (fun tmps (t,a)=>tmps.setIfInBounds t a) rc.tmps) rc.assign rc.body) w/\∀v∈args,Ok (s.m C) w v:=by
 obtain⟨h1,h2⟩:=bI h (fun _ h=>by cases h) hl;have hg:=A7 h (q:=[]) (fun _ h=>by cases h) (x:=g) (by rw[hgv];rfl);rw[hgv]at hg;have hargs:c.args.map a.eval=(args.map AV.den).toArray:=by
  apply Array.ext'
  simpa using h1
 have e1:a.eval g = .func (.yield l) #[] #[]:=hg.1;refine⟨?_,h2⟩;have hy:=run_yield (P:=P) (args:=(args.map AV.den).toArray) hr (by simpa using hsz);simp[execOp,hop,resolve,hcal,e1,Deferred.ofValue,invoke,hargs]
 simpa using hy
theorem vn{i g:Nat}{want:Bool}(hg:o.guard=some (i,want))(hd:(ops[i]?).bind (·.dst)=some g)(h:f7 C s a w)(hv:look s.tmps g = .bool (if want then .tt else .ff)):Region.wanted o (yielded ops a.tmps)=true:=by
 have h1:=(h.slot g (by rw[hv];cases want<;>rfl)).1;rw[hv]at h1;simp only[Region.wanted,hg,yielded,hd,Option.bind_some]
 cases want<;>simp[h1,AV.den,BE.den]
theorem rW{c:Call}{g:Operand}{l:Nat}{args:List AV}(hL:L=o::rest)(hw:Region.wanted o (yielded ops a.tmps)=true)(hop:o.op = .call c)(hcal:c.callee = .value g)(h:f7 C s a w)(hgv:val s [] g=yV l)(hl:R0 s [] c.args.toList=some args){rc:Loop}(hr:w.heap[l]? = some (.loop rc))(hsz:args.length=rc.params.size)
  (K:(∀v∈args,Ok (s.m C) w v)->RoundIn (rF none) 0 P l rc.fn ((rc.params.zip (args.map AV.den).toArray).foldl (fun tmps (t,a)=>tmps.setIfInBounds t a) rc.tmps) rc.assign rc.body w fun
   | .returned v,w''=>wpListIn (rF none) 0 P ops Q rest (a.put o.dst v) w''
   | .panicked chain,w''=>Q (.panic chain) a w''
   | .outgrown,_=>LetsOut Q):wpListIn (rF none) 0 P ops Q L a w:=by
 subst hL;obtain⟨hrun,hok⟩:=lW (P:=P) hop hcal h hgv hl hr hsz
 show(if Region.wanted o (yielded ops a.tmps)then o.wpIn (rF none) 0 P a w (wpListIn (rF none) 0 P ops Q rest) Q else _)
 rw[if_pos hw];refine⟨fun f _=>ik none f,?_⟩;rw[Oper.semAt_eq _ _ _ (fun c' e=>by rw[hop]at e;cases e),hrun];exact⟨fJ none 0,K hok⟩
theorem vR{c:Call}{g:Operand}{l:Nat}{args:List AV}(hL:L=o::rest)(hgd:o.guard=none)(hop:o.op = .call c)(hcal:c.callee = .value g)(h:f7 C s a w)(hgv:val s [] g=yV l)(hl:R0 s [] c.args.toList=some args){rc:Loop}(hr:w.heap[l]? = some (.loop rc))(hsz:args.length=rc.params.size)
  (K:(∀v∈args,Ok (s.m C) w v)->RoundIn (rF none) 0 P l rc.fn ((rc.params.zip (args.map AV.den).toArray).foldl (fun tmps (t,a)=>tmps.setIfInBounds t a) rc.tmps) rc.assign rc.body w fun
   | .returned v,w''=>wpListIn (rF none) 0 P ops Q rest (a.put o.dst v) w''
   | .panicked chain,w''=>Q (.panic chain) a w''
   | .outgrown,_=>LetsOut Q):wpListIn (rF none) 0 P ops Q L a w:=by
 subst hL;obtain⟨hrun,hok⟩:=lW (P:=P) hop hcal h hgv hl hr hsz;have hw:Region.wanted o (yielded ops a.tmps)=true:=by unfold Region.wanted;rw[hgd]
 show(if Region.wanted o (yielded ops a.tmps)then o.wpIn (rF none) 0 P a w (wpListIn (rF none) 0 P ops Q rest) Q else _)
 rw[if_pos hw];refine⟨fun f _=>ik none f,?_⟩;rw[Oper.semAt_eq _ _ _ (fun c' e=>by rw[hop]at e;cases e),hrun];exact⟨fJ none 0,K hok⟩
end
section
variable {P:Program} {w:World}
def xI(l:Nat)(r:Loop)(R:Ending->World->Prop):Exit->Act->World->Prop
 | .normal,_,w=>w.heap[l]? = some (.loop { r with state:=.busy })/\R (.returned (.bool true)) (w.putObj l (.loop { r with state:=.ready,pending:=none }))
 | .ret,_,w=>w.heap[l]? = some (.loop { r with state:=.busy })/\R (.returned (.bool false)) (w.putObj l (.loop { r with state:=.done,pending:=some .ret }))
 | .exit id,_,w=>w.heap[l]? = some (.loop { r with state:=.busy })/\R (.returned (.bool false)) (w.putObj l (.loop { r with state:=.done,pending:=some (.exit id) }))
 | .goto t,_,w=>w.heap[l]? = some (.loop { r with state:=.busy })/\R (.returned (.bool false)) (w.putObj l (.loop { r with state:=.done,pending:=some (.goto t) }))
 | .panic chain,a,w=>a.defers=[]/\R (.panicked chain) w
 | .outgrown,_,_=>False
theorem xG{l:Nat}{r:Loop}{fd:Func}(hfn:P.funcs[r.fn]? = some fd)(hst:r.state = .ready){tmps:Array Value}{R:Ending->World->Prop}
  (h:r.assign.wpIn (rF (some l)) 0 P (Exit.then (fun a₁ w₁=>w₁.heap[l]? = some (.loop r)/\r.body.wpIn (rF (some l)) 0 P (xI l r R) a₁ (w₁.putObj l (.loop { r with state:=.busy }))) (fun _ _ _=>False)) { tmps:=tmps,defers:=[] } w) :
  RoundIn (rF none) 0 P l r.fn tmps r.assign r.body w R:=by
 refine Bk hfn (wpIn_mono h ?_);intro e a₁ w₁ he
 cases e with
 |normal=>
  obtain⟨hl,hb⟩:=he;refine⟨_,run_beginRound hl hst,wpIn_mono hb ?_⟩;intro e a w he
  cases e with
  |normal=>exact⟨_,_,run_endRound none he.1,he.2⟩
  |ret=>exact⟨_,_,run_endRound (some .ret) he.1,he.2⟩
  |exit id=>exact⟨_,_,run_endRound (some (.exit id)) he.1,he.2⟩
  |goto t=>exact⟨_,_,run_endRound (some (.goto t)) he.1,he.2⟩
  |panic chain=>exact he
  |outgrown=>exact he
 |exit id=>exact he
 |goto t=>exact he
 |ret=>exact he
 |panic chain=>exact he
 |outgrown=>exact he
def St.puts(s:St):List (Nat×AV)->St
 | []=>s
 |e::l=>(s.put (some e.1) e.2).puts l
theorem f7.puts{C:Cx}:∀{l:List (Nat×AV)} {s:St} {a:Act},f7 C s a w->(∀e∈l,e.1<s.nt/\Ok (s.m C) w e.2)->f7 C (s.puts l) { a with tmps:=l.foldl (fun t e=>t.setIfInBounds e.1 e.2.den) a.tmps } w
 | [],s,a,h,_=>h
 |e::l,s,a,h,hl=>by
  obtain⟨h1,h2⟩:=hl e (by simp);have hp:=h.put (some e.1) (fun t ht=>by injection ht with ht;subst ht;exact h1) e.2 (fun _=>h2) e.2.den (fun _=>rfl);exact f7.puts (l:=l) hp fun e' he'=>hl e' (by simp[he'])
end
section
variable {C:Cx} {P:Program} {Q:Exit->Act->World->Prop} {T:List (Nat×TI)} {s:St} {a:Act} {w:World} {B:Alg} {r:Option Nat}
theorem Jt{all L:List Oper}{R:Alg->(Nat->j1)->St×List Ob}(i n:Nat)(O:B=std)(hT:l9 P T)(kp km:List Nat)(cs:List (Nat×CS))(h:f7 C s a w)(hO:∀a w,¬Q .outgrown a w)(hQ:∀X a' w',f7 C (R B X).1 a' w'->wpListIn (rF r) 0 P all.toArray Q (L.drop n) a' w')
  (hex:∀A X,(G8 A T cs X all (l6 i (L.take n)) s).map (fun r=>(r.1.keep kp km,r.2.1))=some (R A X)) (hob:∀X,f8 P C.K (R B X).2) (hd:P6 (L.take n)=true):wpListIn (rF r) 0 P all.toArray Q L a w:=by
 have h1:wpList P all.toArray (Exit.then (fun a w=>wpListIn (rF r) 0 P all.toArray Q (L.drop n) a w) Q) (L.take n) a w:=aY i O hT kp km cs h hex hob fun X a' w' hf=>hQ X a' w' hf
 have h2:=bV (r:=r) (n:=0) (ops:=all.toArray) (Q:=Exit.then (fun a w=>wpListIn (rF r) 0 P all.toArray Q (L.drop n) a w) Q) (Q':=Q) (rest:=L.drop n) (fun a w h=>hO a w h) (fun e a w hne h=>by cases e<;>first|exact absurd rfl hne|exact h) (fun a w h=>h) (L.take n) a w hd h1
 rwa[List.take_append_drop]at h2
theorem EX{all L:List Oper}{R:Alg->(Nat->j1)->St×List Ob}(i n:Nat)(O:B=std)(hT:l9 P T)(kp km:List Nat)(cs:List (Nat×CS))(h:f7 C s a w)(hQ:∀X a' w',f7 C (R B X).1 a' w'->wpListIn (rF r) 0 P all.toArray Q (L.drop n) a' w')
  (hO:∀a w,¬Q .outgrown a w:=by first|exact fun _ _ h=>h|(intro a w h;obtain⟨x,h,_⟩:=h;cases h))
  (hex:∀A X,(G8 A T cs X all (l6 i (L.take n)) s).map (fun r=>(r.1.keep kp km,r.2.1))=some (R A X):=by intro A X;conv=>lhs;cbv) (hob:∀X,f8 P C.K (R B X).2:=by
   intro X;subst O
   first
   |exact trivial
   |(simp only[f8,Ob.holds,BE.den]<;>and_intros<;>(repeat first|trivial|rfl|exact O1|exact O2|exact O3|exact(fun _ _=>by kernel_rfl)|exact O1 _ _ _ rfl|exact O2 _ _ _ rfl|refine⟨?_,?_⟩|intro h|decide|omega)<;>done)
   |(simp[f8,Ob.holds,BE.den,std,b7,i5]<;>omega)) (hd:P6 (L.take n)=true:=by rfl):wpListIn (rF r) 0 P all.toArray Q L a w:=Jt i n O hT kp km cs h hO hQ hex hob hd
theorem Bl{all L:List Oper}{R:Alg->(Nat->j1)->St×List Ob}(i:Nat)(O:B=std)(hT:l9 P T)(kp km:List Nat)(cs:List (Nat×CS))(h:f7 C s a w)(hQ:∀X a' w',f7 C (R B X).1 a' w'->Q .normal a' w')
  (hO:∀a w,¬Q .outgrown a w:=by first|exact fun _ _ h=>h|(intro a w h;obtain⟨x,h,_⟩:=h;cases h))
  (hex:∀A X,(G8 A T cs X all (l6 i L) s).map (fun r=>(r.1.keep kp km,r.2.1))=some (R A X):=by intro A X;conv=>lhs;cbv) (hob:∀X,f8 P C.K (R B X).2:=by
   intro X;subst O
   first
   |exact trivial
   |(simp only[f8,Ob.holds,BE.den]<;>and_intros<;>(repeat first|trivial|rfl|exact O1|exact O2|exact O3|exact(fun _ _=>by kernel_rfl)|exact O1 _ _ _ rfl|exact O2 _ _ _ rfl|refine⟨?_,?_⟩|intro h|decide|omega)<;>done)
   |(simp[f8,Ob.holds,BE.den,std,b7,i5]<;>omega)) (hd:P6 L=true:=by rfl):wpListIn (rF r) 0 P all.toArray Q L a w:=by
 have h1:=bV (r:=r) (n:=0) (Q':=Q) (rest:=[]) (fun a w h=>hO a w h) (fun e a w hne h=>h) (fun a w h=>h) L a w hd (aY (Q:=Q) i O hT kp km cs h hex hob hQ)
 rwa[List.append_nil]at h1
theorem rrg{id:Nat}{l:List Oper}{R:Alg->(Nat->j1)->St×List Ob}(O:B=std)(hT:l9 P T)(kp km:List Nat)(cs:List (Nat×CS))(h:f7 C s a w)(hQ:∀X a' w',f7 C (R B X).1 a' w'->Q .normal a' w')
  (hO:∀a w,¬Q .outgrown a w:=by first|exact fun _ _ h=>h|(intro a w h;obtain⟨x,h,_⟩:=h;cases h))
  (hex:∀A X,(G8 A T cs X l (l6 0 l) s).map (fun r=>(r.1.keep kp km,r.2.1))=some (R A X):=by intro A X;conv=>lhs;cbv) (hob:∀X,f8 P C.K (R B X).2:=by
   intro X;subst O
   first
   |exact trivial
   |(simp only[f8,Ob.holds,BE.den]<;>and_intros<;>(repeat first|trivial|rfl|exact O1|exact O2|exact O3|exact(fun _ _=>by kernel_rfl)|exact O1 _ _ _ rfl|exact O2 _ _ _ rfl|refine⟨?_,?_⟩|intro h|decide|omega)<;>done)
   |(simp[f8,Ob.holds,BE.den,std,b7,i5]<;>omega)) (hd:P6 l=true:=by rfl):(Code.region id l.toArray false).wpIn (rF r) 0 P Q a w:=
 pQ hO hd (aY (all:=l) 0 O hT kp km cs h hex hob hQ)
end
section
variable {P:Program} {Q:Exit->Act->World->Prop} {C:Cx} {nt t:Nat} {b:Bool} {l:List (Nat×AV)} {mem:List (Nat×Blk)} {gr:List (Nat×Gr)} {a:Act} {w:World} {x y:Code} {r:Option Nat}
theorem HT{s:St}(h:f7 C s a w)(hv:look s.tmps t = .bool (.v b))(h1:b=true->x.wpIn (rF r) 0 P Q a w)(h2:b=false->y.wpIn (rF r) 0 P Q a w):(Code.cond (.tmp t) x y).wpIn (rF r) 0 P Q a w:=by
 have:=(h.slot t (by rw[hv];rfl)).1;rw[hv]at this;refine wpIn_cond_split (t:=b) ?_ h1 h2;simp[Act.eval,this,AV.den,BE.den]
theorem xP{s:St}(h:f7 C s a w)(hv:look s.tmps t = .bool .tt)(h1:x.wpIn (rF r) 0 P Q a w):(Code.cond (.tmp t) x y).wpIn (rF r) 0 P Q a w:=by
 have:=(h.slot t (by rw[hv];rfl)).1;rw[hv]at this;exact wpIn_cond_true (by simp[Act.eval,this,AV.den,BE.den]) h1
theorem xQ{s:St}(h:f7 C s a w)(hv:look s.tmps t = .bool .ff)(h1:y.wpIn (rF r) 0 P Q a w):(Code.cond (.tmp t) x y).wpIn (rF r) 0 P Q a w:=by
 have:=(h.slot t (by rw[hv];rfl)).1;rw[hv]at this;exact wpIn_cond_false (by simp[Act.eval,this,AV.den,BE.den]) h1
theorem aR(h:f7 C ⟨nt,(t,.bool (.v b))::l,[],mem,gr⟩ a w)(hd:(look l t).known=false)(h1:b=true->f7 C ⟨nt,l,[],mem,gr⟩ a w->x.wpIn (rF r) 0 P Q a w)(h2:b=false->f7 C ⟨nt,l,[],mem,gr⟩ a w->y.wpIn (rF r) 0 P Q a w):(Code.cond (.tmp t) x y).wpIn (rF r) 0 P Q a w:=
 HT h (by show look ((t,_)::l) t=_;rw[u5,if_pos rfl]) (fun hb=>h1 hb (h.tail hd)) (fun hb=>h2 hb (h.tail hd))
theorem jT(h:f7 C ⟨nt,(t,.bool .tt)::l,[],mem,gr⟩ a w)(hd:(look l t).known=false)(h1:f7 C ⟨nt,l,[],mem,gr⟩ a w->x.wpIn (rF r) 0 P Q a w):(Code.cond (.tmp t) x y).wpIn (rF r) 0 P Q a w:=
 xP h (by show look ((t,_)::l) t=_;rw[u5,if_pos rfl]) (h1 (h.tail hd))
theorem xE(h:f7 C ⟨nt,(t,.bool .ff)::l,[],mem,gr⟩ a w)(hd:(look l t).known=false)(h1:f7 C ⟨nt,l,[],mem,gr⟩ a w->y.wpIn (rF r) 0 P Q a w):(Code.cond (.tmp t) x y).wpIn (rF r) 0 P Q a w:=
 xQ h (by show look ((t,_)::l) t=_;rw[u5,if_pos rfl]) (h1 (h.tail hd))
end
section
variable {P:Program} {Q:Exit->Act->World->Prop} {r:Option Nat} {m0:Nat->Nat->Prop} {w0:World} {S:Nat->Prop} {ds:List Deferred}
theorem gM{ι : Type}(I:ι->Act->World->Prop)(J:ι->Prop)(μ : ι->Nat){c:Code}{a:Act}{w:World}(p₀:ι)(h₀:J p₀)(hf:I p₀ a w)
  (round:∀p,J p->∀a w,I p a w->c.wpIn (rF r) 0 P (Exit.then (fun a' w'=>∃p',J p'/\μ p'<μ p/\I p' a' w') Q) a w):(Code.loop c).wpIn (rF r) 0 P Q a w:=by
 intro b k fs hro hb hr;have key:∀n p a w,μ p=n->J p->I p a w →
   ∃e a' w',Q e a' w'/\ArrivesIn (Machine.fenced P (rF r)) P (lone (b.atR a (.code c :: .inLoop c::k)) fs w) b k fs e a' w':=by
  intro n
  induction n using Nat.strongRecOn with
  |_ n ih=>
   intro p a w hn hJ Z;obtain⟨e,a₁,w₁,hq,harr⟩:=round p hJ a w Z b (.inLoop c::k) fs hro hb hr
   cases e with
   |normal=>
    obtain⟨p',hJ',hlt,hF'⟩:=hq;obtain⟨e₂,a₂,w₂,hq₂,harr₂⟩:=ih (μ p') (hn ▸ hlt) p' a₁ w₁ rfl hJ' hF';exact⟨e₂,a₂,w₂,hq₂,.of_steps (StepsIn.trans harr (.one (fenced_wide P _) stepR_inLoop)) harr₂⟩
   |exit id=>exact⟨_,a₁,w₁,hq,.pass (x:=.inLoop c) rfl (fun _ _=>.inl (by simp)) harr⟩
   |goto l=>exact⟨_,a₁,w₁,hq,.pass (x:=.inLoop c) rfl (fun _ _=>.inl (by simp)) harr⟩
   |ret=>exact⟨_,a₁,w₁,hq,.pass (x:=.inLoop c) rfl (fun _ _=>.inl (by simp)) harr⟩
   |panic ch=>exact⟨_,a₁,w₁,hq,.pass (x:=.inLoop c) rfl (fun _ _=>.inl (by simp)) harr⟩
   |outgrown=>exact⟨_,a₁,w₁,hq,.pass (x:=.inLoop c) rfl (fun _ _=>.inl (by simp)) harr⟩
 obtain⟨e,a',w',hq,harr⟩:=key _ p₀ a w rfl h₀ hf;exact⟨e,a',w',hq,.of_steps (.one (fenced_wide P _) stepR_loop) harr⟩
end
section
variable {P:Program} {f:FuncId} {fn:Func} {c:Code} {R:Ending->World->Prop} {m:Nat->Nat->Prop} {w:World} {pre:List (Nat×Blk)} {args:List AV}
theorem enY(nt:Nat)(hm:∀b o,m b o->b<w.heap.size)(hp:M4 m w pre)(hargs:∀v∈args,Ok m w v)(hf:P.funcs[f]? = some fn)(h:∀B,B=std->∀a,f7 ⟨m,w,ats pre,[],noK⟩ ⟨nt,A8 0 args,[],pre,[]⟩ a w->c.wpIn (rF none) 0 P (bodyPost P fn R) a w)(hb:fn.body=some c:=by rfl)(hnt:fn.ntmps=nt:=by rfl)(hn:args.length<=nt:=by exact Nat.le_of_ble_eq_true rfl):Calls P f (args.map AV.den).toArray w R:=
 enX nt hm hp hargs hf (fun B O a Z=>(wpIn_wide (n:=0)).1 (h B O a Z)) hb hnt hn
end
section
variable {C:Cx} {P:Program} {Q:Exit->Act->World->Prop} {T:List (Nat×TI)} {B:Alg} {r:Option Nat} {ops:Array Oper}
theorem HZ{l:List Oper}(h:P6 l=true){o:Oper}(ho:o∈l):∀c,o.op ≠ .defer c:=fun c e=>by
 have:=List.all_eq_true.1 h o ho;rw[e]at this;cases this
theorem uW(hO:∀a w,¬Q .outgrown a w)(hd:∀o∈ops,∀c,o.op ≠ .defer c){md:Region.Mode}:∀(fuel:Nat) (listed:Array Bool) (a:Act) (w:World),wpAny P md ops Q fuel listed a w->wpAnyIn (rF r) 0 P md ops Q fuel listed a w
 |0,listed,a,w,h=>h
 |fuel+1,listed,a,w,h=>by
  refine⟨h.1,fun i hi=>?_⟩;have h2:=h.2 i hi;unfold wpOp at h2;unfold wpOpIn
  cases ho:ops[i]? with
  |none=>rw[ho]at h2;exact uW hO hd fuel _ _ _ h2
  |some o=>
   rw[ho]at h2;simp only at h2 ⊢
   by_cases hw:Region.wanted o (yielded ops a.tmps)=true
   .rw [if_pos hw]at h2 ⊢
    rcases h2 with h2|⟨_,a',w',h2⟩
    .exact yf (hd o (Array.mem_of_getElem? ho)) (fun a w h=>uW hO hd fuel _ a w h) (fun _ _ _ h=>h) h2
    exact absurd h2 (hO _ _)
   rw[if_neg hw]at h2 ⊢;exact⟨fun f _=>ik r f,uW hO hd fuel _ _ _ h2⟩
end
theorem lY{P:Program}{fn:FuncId}{Q:Exit->Act->World->Prop}{a:Act}{w:World}{id:Nat}{c:Code}(h:wpN fn P c (Exit.inBlock id Q) a w):wpN fn P (Code.block id c) Q a w:=by
 intro b k cs hb;obtain⟨e,a₁,w₁,hq,harr⟩:=h b (.inBlock id::k) cs hb
 cases e with
 |normal=>exact⟨.normal,a₁,w₁,hq,.head step_block (Steps.trans harr (.one step_inBlock))⟩
 |exit id'=>
  by_cases hid:id'=id
  .simp only[Exit.inBlock,hid,if_true]at hq
   exact⟨.normal,a₁,w₁,hq,.head step_block (harr k (by simp[exitTo,hid]))⟩
  simp only[Exit.inBlock,hid,if_false]at hq;refine⟨.exit id',a₁,w₁,hq,fun k' hk=>.head step_block (harr k' ?_)⟩;have:(id==id')=false:=by simp;exact fun h=>hid h.symm
  simp[exitTo,this,hk]
 |goto l=>exact⟨_,a₁,w₁,hq,fun k' hk=>.head step_block (harr k' (by simp[gotoIn,hk]))⟩
 |ret=>exact⟨_,a₁,w₁,hq,.of_steps (.one step_block) harr⟩
 |panic ch=>exact⟨_,a₁,w₁,hq,.of_steps (.one step_block) harr⟩
 |outgrown=>exact⟨_,a₁,w₁,hq,.of_steps (b:=b) (k:=k) (cs:=cs) (e:=.outgrown) (.one step_block) harr⟩
def okT(tm:List (Nat×AV)):Kn:=⟨fun m w=>∀t,(look tm t).known=true->Ok m w (look tm t),fun k h t ht=>k.ok (h t ht)⟩
def W4(nt:Nat)(tm:List (Nat×AV))(ds:List Deferred)(a:Act):Prop:=a.tmps.size=nt/\a.defers=ds/\∀t,(look tm t).known=true->a.tmps[t]? = some (look tm t).den
def Kn.under(K:Kn)(n:Nat):Prop:=∀l,n<=l->∀{w m w' m'},T2 (some l) w m w' m'->K.p m w->K.p m' w'
def Kn.off(K:Kn)(l:Nat):Prop:=∀{w m w' m'},T2 (some l) w m w' m'->K.p m w->K.p m' w'
theorem Kn.under.off{K:Kn}{n l:Nat}(h:K.under n)(hl:n<=l):K.off l:=h l hl
theorem vM(tm:List (Nat×AV))(n:Nat):(okT tm).under n:=fun _ _ _ _ _ _ k h t ht=>k.ok (h t ht)
theorem Y5(tm:List (Nat×AV))(n:Nat):(okT tm).off n:=fun k h t ht=>k.ok (h t ht)
theorem jt{K K':Kn}{n:Nat}(h:K.off n)(h':K'.off n):(K.and K').off n:=fun k x=>⟨h k x.1,h' k x.2⟩
theorem xM{l D n:Nat}{r:Loop}(h1:l≠n)(h2:D≠n):(HS l r D).off n:=fun k x=>⟨k.obj _ _ (by intro e;injection e with e;exact h1 e.symm) x.1 (fun _ _ _ e=>by cases e),k.obj _ _ (by intro e;injection e with e;exact h2 e.symm) x.2 (fun _ _ _ e=>by cases e)⟩
def Kn.self(K:Kn):Prop:=∀m w,K.p m w->K.under w.heap.size
theorem yh(tm:List (Nat×AV)):(okT tm).self:=fun _ _ _=>vM _ _
def N5(Ds:List Nat):Kn:=⟨fun _ w=>(∀D∈Ds,w.heap[D]? = some (.deferred (some [])))/\Ds.Nodup,fun k h=>⟨fun D hD=>k.obj _ _ (h.1 D hD) (fun _ _ _ e=>by cases e),h.2⟩⟩
section
variable {m0:Nat->Nat->Prop} {w0 w w':World} {S:Nat->Prop} {ds:List Deferred} {K:Kn} {nt:Nat} {tm:List (Nat×AV)} {gs:List (Nat×List (Nat×Bool)×AV)} {mem:List (Nat×Blk)} {gr:List (Nat×Gr)} {a:Act} {P:Program}
abbrev Mem(m0:Nat->Nat->Prop)(w0:World)(S:Nat->Prop)(K:Kn)(mem:List (Nat×Blk))(gr:List (Nat×Gr))(w:World):Prop:=f7 ⟨m0,w0,S,[],K⟩ ⟨0,[],[],mem,gr⟩ ⟨#[],[]⟩ w
abbrev mT(m0:Nat->Nat->Prop)(mem:List (Nat×Blk))(gr:List (Nat×Gr)):Nat->Nat->Prop:=St.m ⟨0,[],[],mem,gr⟩ ⟨m0,default,fun _=>False,[],noK⟩
theorem f7.leave(h:f7 ⟨m0,w0,S,ds,K⟩ ⟨nt,tm,gs,mem,gr⟩ a w):Mem m0 w0 S (K.and (okT tm)) mem gr w/\W4 nt tm ds a:=
 ⟨⟨rfl,rfl,(fun t ht=>by cases ht),(fun t p v he=>by cases he),h.mem,h.nodup,h.gr,h.sepm,h.sepg,h.chg,h.m0,⟨h.kept,fun t ht=>(h.slot t ht).2⟩⟩,h.size,h.defers,fun t ht=>(h.slot t ht).1⟩
theorem f7.bare(h:f7 ⟨m0,w0,S,ds,K⟩ ⟨nt,tm,gs,mem,gr⟩ a w):Mem m0 w0 S K mem gr w:=
 ⟨rfl,rfl,(fun t ht=>by cases ht),(fun t p v he=>by cases he),h.mem,h.nodup,h.gr,h.sepm,h.sepg,h.chg,h.m0,h.kept⟩
theorem fN(h:Mem m0 w0 S K mem gr w)(ha:W4 nt tm ds a)(hok:(okT tm).p (mT m0 mem gr) w):f7 ⟨m0,w0,S,ds,K⟩ ⟨nt,tm,[],mem,gr⟩ a w:=
 ⟨ha.1,ha.2.1,fun t ht=>⟨ha.2.2 t ht,hok t ht⟩,(fun t p v he=>by cases he),h.mem,h.nodup,h.gr,h.sepm,h.sepg,h.chg,h.m0,h.kept⟩
theorem aV(h:Mem m0 w0 S (K.and (okT tm)) mem gr w)(ha:W4 nt tm ds a):f7 ⟨m0,w0,S,ds,K⟩ ⟨nt,tm,[],mem,gr⟩ a w:=
 fN (K:=K) (f7.withK (K:=K.and (okT tm)) h h.kept.1) ha h.kept.2
theorem fO{K':Kn}(h:Mem m0 w0 S K mem gr w)(hK:K'.p (mT m0 mem gr) w):Mem m0 w0 S K' mem gr w:=f7.withK (K:=K) h hK
theorem dr{b:Nat}{o:Obj}(h:Mem m0 w0 S K mem gr w)(hb:w.heap[b]? = some o)(ho:∀c t f,o≠Obj.cells c t f)(hg:w.grownBy w' (some b))(hC:b<w0.heap.size->S b){K':Kn}(hK:T2 (some b) w (mT m0 mem gr) w' (mT m0 mem gr)->K'.p (mT m0 mem gr) w'):Mem m0 w0 S K' mem gr w':=
 f7.turn (K:=K) h hb ho hg hC (hK (bJ hb ho hg))
end
section
variable {m0:Nat->Nat->Prop} {w0 w:World} {S:Nat->Prop} {ds:List Deferred} {K:Kn} {mem:List (Nat×Blk)} {gr:List (Nat×Gr)} {a:Act} {P:Program} {f:FuncId} {fn:Func} {c:Code} {R:Ending->World->Prop} {args:List AV} {B:Alg} {T:List (Nat×TI)} {s:St} {rs:List ResultVar} {r:List AV×List Ob} {Q:Exit->Act->World->Prop} {ops:Array Oper}
theorem EL(hargs:∀v∈args,Ok (mT m0 mem gr) w v){n:Nat}(hn:args.length<=n):W4 n (A8 0 args) [] { tmps:=(args.map AV.den).toArray++Array.replicate (n-args.length) Go.undef,defers:=[] }/\(okT (A8 0 args)).p (mT m0 mem gr) w:=by
 have key:∀t,(look (A8 0 args) t).known=true->args[t]? = some (look (A8 0 args) t):=fun t ht=>by
  have:=(cV args 0 t ht).2
  rwa[Nat.sub_zero]at this
 refine⟨⟨by simp;omega,rfl,fun t ht=>?_⟩,fun t ht=>hargs _ (List.mem_of_getElem? (key t ht))⟩;have h1:=key t ht;have hlt:=(List.getElem?_eq_some_iff.1 h1).1;rw[Array.getElem?_append_left (by simpa using hlt)];simp[h1]
theorem enI(nt:Nat)(h:Mem m0 w0 S K mem gr w)(hargs:∀v∈args,Ok (mT m0 mem gr) w v)(hf:P.funcs[f]? = some fn)(body:∀B,B=std->∀a,f7 ⟨m0,w0,S,[],K⟩ ⟨nt,A8 0 args,[],mem,gr⟩ a w->c.wp P (bodyPost P fn R) a w)(hb:fn.body=some c:=by rfl)(hnt:fn.ntmps=nt:=by rfl)(hn:args.length<=nt:=by exact Nat.le_of_ble_eq_true rfl):Calls P f (args.map AV.den).toArray w R:=by
 refine calls_of_wp hf hb ?_;obtain⟨h1,h2⟩:=EL hargs hn;have:=body std rfl _ (fN h h1 h2)
 simpa[hnt]using this
theorem JD(nt:Nat)(h:Mem m0 w0 S K mem gr w)(hargs:∀v∈args,Ok (mT m0 mem gr) w v)(hf:P.funcs[f]? = some fn)(body:∀B,B=std->∀a,f7 ⟨m0,w0,S,[],K⟩ ⟨nt,A8 0 args,[],mem,gr⟩ a w->c.wpIn (rF none) 0 P (bodyPost P fn R) a w)(hb:fn.body=some c:=by rfl)(hnt:fn.ntmps=nt:=by rfl)(hn:args.length<=nt:=by exact Nat.le_of_ble_eq_true rfl):Calls P f (args.map AV.den).toArray w R:=
 enI nt h hargs hf (fun B O a Z=>(wpIn_wide (n:=0)).1 (body B O a Z)) hb hnt hn
theorem Fa(O:B=std)(hT:l9 P T){nt:Nat}{tm:List (Nat×AV)}(h:f7 ⟨m0,w0,S,[],K⟩ ⟨nt,tm,[],mem,gr⟩ a w)(hR:Mem m0 w0 S K mem gr w->Ok (mT m0 mem gr) w (J5 r.1)->R (.returned (J5 r.1).den) w)(hfn:fn.results=rs.toArray:=by rfl)(hr:T5 T ⟨nt,tm,[],mem,gr⟩ rs=some r:=by first|rfl|(conv=>lhs;cbv))(ho:f8 P K r.2:=by first|exact trivial|(subst O;simp[f8,Ob.holds])):bodyPost P fn R .ret a w/\bodyPost P fn R .normal a w:=
 eN hT h rfl hfn hr ho fun hv=>hR h.bare hv
end
section
variable {m0:Nat->Nat->Prop} {w0 w:World} {S:Nat->Prop} {ds:List Deferred} {K:Kn} {mem:List (Nat×Blk)} {gr:List (Nat×Gr)} {a:Act} {P:Program} {fn:FuncId}
def ej(rc:Loop)(st:LoopState)(pe:Option Code):Loop:={ rc with state:=st,pending:=pe }
def KL(K:Kn)(tm:List (Nat×AV))(l:Nat)(rc:Loop)(D:Nat)(st:LoopState)(pe:Option Code):Kn:=(K.and (okT tm)).and (HS l (ej rc st pe) D)
theorem Df{K:Kn}{tm:List (Nat×AV)}{l D:Nat}{rc:Loop}{st st':LoopState}{pe pe':Option Code}{w w':World}{m:Nat->Nat->Prop}(hD:D≠l)(hK:K.off l)(hk:T2 (some l) w m w' m)(hl:w'.heap[l]? = some (.loop (ej rc st' pe')))(h:(KL K tm l rc D st pe).p m w):(KL K tm l rc D st' pe').p m w':=
 ⟨⟨hK hk h.1.1,Y5 tm l hk h.1.2⟩,hl,hk.obj _ _ (by intro e;injection e with e;exact hD e.symm) h.2.2 (fun _ _ _ e=>by cases e)⟩
theorem vF{w:World}{l:Nat}{o o':Obj}(h:w.heap[l]? = some o):(w.putObj l o').heap[l]? = some o':=by
 have:=(Array.getElem?_eq_some_iff.1 h).1;simp[World.putObj,this]
theorem pR{K E:Kn}{tm:List (Nat×AV)}{l D:Nat}{rc:Loop}{st st':LoopState}{pe pe':Option Code}{nt:Nat}{tm':List (Nat×AV)}(hl0:w0.heap.size<=l)(hD:D≠l)(hK:K.off l)(hE:E.off l)(h:f7 ⟨m0,w0,S,ds,(KL K tm l rc D st pe).and E⟩ ⟨nt,tm',[],mem,gr⟩ a w):f7 ⟨m0,w0,S,ds,(KL K tm l rc D st' pe').and E⟩ ⟨nt,tm',[],mem,gr⟩ a (w.putObj l (.loop (ej rc st' pe'))):=by
 obtain⟨h1,h2⟩:=h.leave;have hk:=h1.kept;have hl:w.heap[l]? = some (.loop (ej rc st pe)):=hk.1.1.2.1;have:=dr (K':=(((KL K tm l rc D st' pe').and E).and (okT tm'))) h1 hl (fun _ _ _ e=>by cases e) (grownBy_putObj' w l (.loop (ej rc st' pe'))) (fun h=>by omega) (fun kb=>⟨⟨Df hD hK kb (vF hl) hk.1.1,hE kb hk.1.2⟩,Y5 tm' l kb hk.2⟩);exact aV this h2
def Aq(m0:Nat->Nat->Prop)(w0:World)(S:Nat->Prop)(tm:List (Nat×AV))(l:Nat)(rc:Loop)(D:Nat)(E:Kn)(N:Kn->List (Nat×Blk)->List (Nat×Gr)->Prop)(X:Code->Kn->List (Nat×Blk)->List (Nat×Gr)->Prop)(T:List PanicEntry->Kn->List (Nat×Blk)->List (Nat×Gr)->Prop):Exit->Act->World->Prop
 | .normal,_,w=>∃K mem gr,N K mem gr/\K.off l/\Mem m0 w0 S ((KL K tm l rc D .busy none).and E) mem gr w
 | .ret,_,w=>∃K mem gr,X .ret K mem gr/\K.off l/\Mem m0 w0 S ((KL K tm l rc D .busy none).and E) mem gr w
 | .exit id,_,w=>∃K mem gr,X (.exit id) K mem gr/\K.off l/\Mem m0 w0 S ((KL K tm l rc D .busy none).and E) mem gr w
 | .goto t,_,w=>∃K mem gr,X (.goto t) K mem gr/\K.off l/\Mem m0 w0 S ((KL K tm l rc D .busy none).and E) mem gr w
 | .panic ch,a,w=>a.defers=[]/\∃K mem gr,T ch K mem gr/\K.off l/\Mem m0 w0 S ((KL K tm l rc D .busy none).and E) mem gr w
 | .outgrown,_,_=>False
def Ap(m0:Nat->Nat->Prop)(w0:World)(S:Nat->Prop)(tm:List (Nat×AV))(l:Nat)(rc:Loop)(D:Nat)(E:Kn)(N:Kn->List (Nat×Blk)->List (Nat×Gr)->Prop)(X:Code->Kn->List (Nat×Blk)->List (Nat×Gr)->Prop):Exit->Act->World->Prop:=Aq m0 w0 S tm l rc D E N X fun _ _ _ _=>False
theorem EW{fd:Func}{rc:Loop}(hfn:P.funcs[rc.fn]? = some fd){l D ntc nti:Nat}{tmc tmi:List (Nat×AV)}{ac ai:Act}(hl0:w0.heap.size<=l)(hD:D≠l)(hK:K.off l)(hst:rc.pending=none)(htm:rc.tmps=ac.tmps)
  (hi:f7 ⟨m0,w0,S,[],KL K tmc l rc D .ready none⟩ ⟨nti,tmi,[],mem,gr⟩ ai w) (hc:∃d,W4 ntc tmc d ac) {ps:List (Nat×AV)} (hps:∀e∈ps,e.1<ntc/\Ok (mT m0 mem gr) w e.2) {R:Ending->World->Prop}
  (N:Kn->List (Nat×Blk)->List (Nat×Gr)->Prop) (X:Code->Kn->List (Nat×Blk)->List (Nat×Gr)->Prop) (T:List PanicEntry->Kn->List (Nat×Blk)->List (Nat×Gr)->Prop)
  (hN:∀K' mem' gr' w',N K' mem' gr'->K'.off l->f7 ⟨m0,w0,S,[],KL K' tmc l rc D .ready none⟩ ⟨nti,tmi,[],mem',gr'⟩ ai w'->R (.returned (.bool true)) w')
  (hX:∀c K' mem' gr' w',X c K' mem' gr'->K'.off l->f7 ⟨m0,w0,S,[],KL K' tmc l rc D .done (some c)⟩ ⟨nti,tmi,[],mem',gr'⟩ ai w'->R (.returned (.bool false)) w')
  (hT:∀ch K' mem' gr' w',T ch K' mem' gr'->K'.off l->Mem m0 w0 S (KL K' tmc l rc D .busy none) mem' gr' w'->R (.panicked ch) w')
  (hbody:∀a,f7 ⟨m0,w0,S,[],(KL K tmc l rc D .ready none).and (okT tmi)⟩ (St.puts ⟨ntc,tmc,[],mem,gr⟩ ps) a w->rc.assign.wpIn (rF (some l)) 0 P (Exit.then (fun a₁ w₁=>∃nt1 tm1 eq gr1,f7 ⟨m0,w0,S,[],(KL K tmc l rc D .ready none).and (okT tmi)⟩ ⟨nt1,tm1,[],eq,gr1⟩ a₁ w₁ ∧
   ∀w₂,f7 ⟨m0,w0,S,[],(KL K tmc l rc D .busy none).and (okT tmi)⟩ ⟨nt1,tm1,[],eq,gr1⟩ a₁ w₂->rc.body.wpIn (rF (some l)) 0 P (Aq m0 w0 S tmc l rc D (okT tmi) N X T) a₁ w₂) (fun _ _ _=>False)) a w) :
  RoundIn (rF none) 0 P l rc.fn (ps.foldl (fun t e=>t.setIfInBounds e.1 e.2.den) rc.tmps) rc.assign rc.body w R:=by
 obtain⟨hm,hai⟩:=hi.leave;have hk:=hm.kept;obtain⟨dc,hac⟩:=hc;have hact:W4 ntc tmc [] { tmps:=ac.tmps,defers:=[] }:=⟨hac.1,rfl,hac.2.2⟩;have hF0:f7 ⟨m0,w0,S,[],(KL K tmc l rc D .ready none).and (okT tmi)⟩ ⟨ntc,tmc,[],mem,gr⟩ { tmps:=ac.tmps,defers:=[] } w:=fN hm hact hk.1.1.2;have hF1:=hF0.puts (l:=ps) hps;have hb:=hbody _ hF1;have key:=xG (P:=P) (l:=l) (r:=ej rc .ready none) (fd:=fd) hfn rfl (tmps:=ps.foldl (fun t e=>t.setIfInBounds e.1 e.2.den) rc.tmps) (R:=R) (w:=w) ?_
 .exact key
 rw[htm];refine wpIn_mono hb ?_;intro e a₁ w₁ he
 cases e with
 |normal=>
  obtain⟨nt1,tm1,eq,gr1,hf1,hb1⟩:=he;refine⟨hf1.kept.1.2.1,?_⟩;have hf2:=pR (st':=.busy) (pe':=none) hl0 hD hK (Y5 tmi l) hf1;refine wpIn_mono (hb1 _ hf2) ?_;have fin:∀{K':Kn} {mem':List (Nat×Blk)} {gr':List (Nat×Gr)} {w':World} (st:LoopState) (pe:Option Code),K'.off l->Mem m0 w0 S ((KL K' tmc l rc D .busy none).and (okT tmi)) mem' gr' w'->w'.heap[l]? = some (.loop { ej rc .ready none with state:=.busy })/\f7 ⟨m0,w0,S,[],KL K' tmc l rc D st pe⟩ ⟨nti,tmi,[],mem',gr'⟩ ai (w'.putObj l (.loop (ej rc st pe))):=fun {K' mem' gr' w'} st pe ho hm'=>by
   refine⟨hm'.kept.1.2.1,?_⟩;have h3:=pR (st':=st) (pe':=pe) (nt:=0) (tm':=[]) hl0 hD ho (Y5 tmi l) hm';exact aV h3 hai
  intro e a₂ w₂ he
  cases e with
  |normal=>
   obtain⟨K',mem',gr',hn,ho,hm'⟩:=he;obtain⟨g1,g2⟩:=fin .ready none ho hm';exact⟨g1,hN _ _ _ _ hn ho g2⟩
  |ret=>
   obtain⟨K',mem',gr',hn,ho,hm'⟩:=he;obtain⟨g1,g2⟩:=fin .done (some .ret) ho hm';exact⟨g1,hX _ _ _ _ _ hn ho g2⟩
  |exit id=>
   obtain⟨K',mem',gr',hn,ho,hm'⟩:=he;obtain⟨g1,g2⟩:=fin .done (some (.exit id)) ho hm';exact⟨g1,hX _ _ _ _ _ hn ho g2⟩
  |goto t=>
   obtain⟨K',mem',gr',hn,ho,hm'⟩:=he;obtain⟨g1,g2⟩:=fin .done (some (.goto t)) ho hm';exact⟨g1,hX _ _ _ _ _ hn ho g2⟩
  |panic chain=>
   obtain⟨hd,K',mem',gr',hn,ho,hm'⟩:=he;exact⟨hd,hT _ _ _ _ _ hn ho (fO hm' hm'.kept.1)⟩
  |outgrown=>exact he.elim
 |_=>exact he
theorem xH{fd:Func}{rc:Loop}(hfn:P.funcs[rc.fn]? = some fd){l D ntc nti:Nat}{tmc tmi:List (Nat×AV)}{ac ai:Act}(hl0:w0.heap.size<=l)(hD:D≠l)(hK:K.off l)(hst:rc.pending=none)(htm:rc.tmps=ac.tmps)
  (hi:f7 ⟨m0,w0,S,[],KL K tmc l rc D .ready none⟩ ⟨nti,tmi,[],mem,gr⟩ ai w) (hc:∃d,W4 ntc tmc d ac) {ps:List (Nat×AV)} (hps:∀e∈ps,e.1<ntc/\Ok (mT m0 mem gr) w e.2) {R:Ending->World->Prop}
  (N:Kn->List (Nat×Blk)->List (Nat×Gr)->Prop) (X:Code->Kn->List (Nat×Blk)->List (Nat×Gr)->Prop)
  (hN:∀K' mem' gr' w',N K' mem' gr'->K'.off l->f7 ⟨m0,w0,S,[],KL K' tmc l rc D .ready none⟩ ⟨nti,tmi,[],mem',gr'⟩ ai w'->R (.returned (.bool true)) w')
  (hX:∀c K' mem' gr' w',X c K' mem' gr'->K'.off l->f7 ⟨m0,w0,S,[],KL K' tmc l rc D .done (some c)⟩ ⟨nti,tmi,[],mem',gr'⟩ ai w'->R (.returned (.bool false)) w')
  (hbody:∀a,f7 ⟨m0,w0,S,[],(KL K tmc l rc D .ready none).and (okT tmi)⟩ (St.puts ⟨ntc,tmc,[],mem,gr⟩ ps) a w->rc.assign.wpIn (rF (some l)) 0 P (Exit.then (fun a₁ w₁=>∃nt1 tm1 eq gr1,f7 ⟨m0,w0,S,[],(KL K tmc l rc D .ready none).and (okT tmi)⟩ ⟨nt1,tm1,[],eq,gr1⟩ a₁ w₁ ∧
   ∀w₂,f7 ⟨m0,w0,S,[],(KL K tmc l rc D .busy none).and (okT tmi)⟩ ⟨nt1,tm1,[],eq,gr1⟩ a₁ w₂->rc.body.wpIn (rF (some l)) 0 P (Ap m0 w0 S tmc l rc D (okT tmi) N X) a₁ w₂) (fun _ _ _=>False)) a w) :
  RoundIn (rF none) 0 P l rc.fn (ps.foldl (fun t e=>t.setIfInBounds e.1 e.2.den) rc.tmps) rc.assign rc.body w R:=
 EW hfn hl0 hD hK hst htm hi hc hps N X (fun _ _ _ _=>False) hN hX (fun _ _ _ _ _ h=>h.elim) hbody
theorem Ff{Q:Exit->Act->World->Prop}{g:Operand}{ps:Array Tmp}{assign body:Code}{gf nt:Nat}{tm:List (Nat×AV)}{lb:List AV}(h:f7 ⟨m0,w0,S,ds,K⟩ ⟨nt,tm,[],mem,gr⟩ a w)(hgv:val ⟨nt,tm,[],mem,gr⟩ [] g = .fn gf [] lb)(hen:o3 P gf)(hK:K.under w.heap.size)
  (hc:∀l D rc w1,l=D+1->D=w.heap.size->rc=K7 fn a ps assign body D .ready none->w0.heap.size<=D->w1.heap.size=D+2->W4 nt tm ds a->Mem m0 w0 S (KL K tm l rc D .ready none) mem gr w1->(∀v∈lb,Ok (mT m0 mem gr) w1 v) →
   Calls P gf ((yV l::lb).map AV.den).toArray w1 fun e w3=>∃v,e = .returned v/\∃K' mem' gr',K'.off l ∧
    ((Mem m0 w0 S (KL K' tm l rc D .ready none) mem' gr' w3/\∀a' w',f7 ⟨m0,w0,S,Z9 D::ds,K'.and (N5 [D])⟩ ⟨nt,tm,[],mem',gr'⟩ a' w'->Q .normal a' w') ∨
     ∃c,Mem m0 w0 S (KL K' tm l rc D .done (some c)) mem' gr' w3/\∀a' w',f7 ⟨m0,w0,S,Z9 D::ds,K'.and (N5 [D])⟩ ⟨nt,tm,[],mem',gr'⟩ a' w'->c.wp P Q a' w')) :
  wpN fn P (Code.rangeFunc g ps assign body) Q a w:=by
 obtain⟨hm,ha⟩:=h.leave;have hgd:=A7 h (q:=[]) (fun _ h=>by cases h) (x:=g) (by rw[hgv];rfl);rw[hgv]at hgd;have hg1:a.eval g = .func (.func gf) #[] (lb.map AV.den).toArray:=by
  have:=hgd.1
  simpa[AV.den,B7,AV.denL]using this
 have hlb:∀v∈lb,Ok (mT m0 mem gr) w v:=by
  cases hgd.2 with
  |fn _ _ _ k1 k2=>exact k2
 have hbl:=iu fn a ps assign body w;have hsz:(U9 fn a ps assign body w).heap.size=w.heap.size+2:=by simp[U9]
 have hm1:Mem m0 w0 S (KL K tm (w.heap.size+1) (K7 fn a ps assign body w.heap.size .ready none) w.heap.size .ready none) mem gr (U9 fn a ps assign body w):=
  fO (hm.below hbl) ⟨(hm.below hbl).kept,mz fn a ps assign body w,ku fn a ps assign body w⟩
 have hlb1:∀v∈lb,Ok (mT m0 mem gr) (U9 fn a ps assign body w) v:=fun v hv=>(cu hbl (mT m0 mem gr)).ok (hlb v hv)
 refine lX (gf:=gf) (lb:=(lb.map AV.den).toArray) hg1 (fun args w=>hen args w) ?_;have hcall:=hc _ _ _ _ rfl rfl rfl h.chg.size hsz ha hm1 hlb1;have eargs:((yV (w.heap.size+1)::lb).map AV.den).toArray = #[.func (.yield (w.heap.size+1)) #[] #[]]++(lb.map AV.den).toArray:=by
  simp[AV.den]
 rw[eargs]at hcall;refine hcall.mono ?_
 rintro e w3 ⟨v,rfl,K',mem',gr',ho,hh⟩
 have ha':W4 nt tm (Z9 w.heap.size::ds) { a with defers:={ target:=.collected w.heap.size,args:=#[] }::a.defers }:=⟨ha.1,by rw[ha.2.1],ha.2.2⟩;have fin:∀{st:LoopState} {pe:Option Code},st ≠ .busy->Mem m0 w0 S (KL K' tm (w.heap.size+1) (K7 fn a ps assign body w.heap.size .ready none) w.heap.size st pe) mem' gr' w3 →
   ∃w4,(Instr.endLoop (w.heap.size+1)).run P w3 = .ok pe w4/\f7 ⟨m0,w0,S,Z9 w.heap.size::ds,K'.and (N5 [w.heap.size])⟩ ⟨nt,tm,[],mem',gr'⟩ { a with defers:={ target:=.collected w.heap.size,args:=#[] }::a.defers } w4:=fun {st pe} hst h3=>by
  have hk:=h3.kept;have hl:=hk.2.1;refine⟨_,run_endLoop hl hst,?_⟩;have h4:=dr (K':=(K'.and (N5 [w.heap.size])).and (okT tm)) h3 hl (fun _ _ _ e=>by cases e) (grownBy_putObj' w3 _ (.loop { ej (K7 fn a ps assign body w.heap.size .ready none) st pe with state:=.exhausted })) (fun hh=>absurd h.chg.size (by simp only at hh ⊢;omega))
   (fun kb=>⟨⟨ho kb hk.1.1,⟨fun D hD=>by
    simp only[List.mem_singleton]at hD;subst hD;exact kb.obj _ _ (by intro e;injection e with e;omega) hk.2.2 (fun _ _ _ e=>by cases e),by simp⟩⟩,Y5 tm _ kb hk.1.2⟩)
  exact aV h4 ha'
 rcases hh with⟨h3,hq⟩|⟨c,h3,hq⟩
 .obtain ⟨w4,e4,h4⟩:=fin (by simp) h3
  exact⟨none,w4,e4,hq _ _ h4⟩
 obtain⟨w4,e4,h4⟩:=fin (by simp) h3;exact⟨some c,w4,e4,hq _ _ h4⟩
end
section
variable {m0:Nat->Nat->Prop} {w0 w:World} {S:Nat->Prop} {K:Kn} {mem:List (Nat×Blk)} {gr:List (Nat×Gr)} {a:Act} {P:Program} {fn:Func} {R:Ending->World->Prop} {B:Alg} {T:List (Nat×TI)} {rs:List ResultVar} {r:List AV×List Ob} {nt:Nat} {tm:List (Nat×AV)}
theorem io{tmps:Array Value}:∀(Ds:List Nat) (w:World),Mem m0 w0 S (K.and (N5 Ds)) mem gr w->(∀D∈Ds,K.off D/\w0.heap.size<=D)->(∀w',Mem m0 w0 S K mem gr w'->∃v,(results fn tmps).run P w' = .ok v w'/\R (.returned v) w')->LeavesInM Fence.wide 0 P fn tmps R (Ds.map Z9) .returning w
 | [],w,h,_,hR=>hR w (fO h h.kept.1)
 |D::Ds,w,h,ho,hR=>by
  have hk:=h.kept.2;have hD:w.heap[D]? = some (.deferred (some [])):=hk.1 D (by simp);have hnd:=List.nodup_cons.1 hk.2;refine⟨by simp,.inl ⟨D,_,rfl,run_takeDeferred hD,io Ds _ ?_ (fun E hE=>ho E (by simp[hE])) hR⟩⟩;refine dr h hD (fun _ _ _ e=>by cases e) (grownBy_putObj' w D _) (fun hh=>absurd (ho D (by simp)).2 (by omega)) fun kb=>⟨(ho D (by simp)).1 kb h.kept.1,fun E hE=>?_,hnd.2⟩
  exact kb.obj _ _ (by intro e;injection e with e;subst e;exact hnd.1 hE) (hk.1 E (by simp[hE])) (fun _ _ _ e=>by cases e)
theorem xK(O:B=std)(hT:l9 P T)(Ds:List Nat)(h:f7 ⟨m0,w0,S,Ds.map Z9,K.and (N5 Ds)⟩ ⟨nt,tm,[],mem,gr⟩ a w)(hof:∀D∈Ds,K.off D/\w0.heap.size<=D)(hR:∀w',Mem m0 w0 S K mem gr w'->Ok (mT m0 mem gr) w' (J5 r.1)->R (.returned (J5 r.1).den) w')(hfn:fn.results=rs.toArray:=by rfl)(hr:T5 T ⟨nt,tm,[],mem,gr⟩ rs=some r:=by first|rfl|(conv=>lhs;cbv))(ho:f8 P (K.and (okT tm)) r.2:=by first|exact trivial|(subst O;simp[f8,Ob.holds])):bodyPostM Fence.wide 0 P fn R .ret a w/\bodyPostM Fence.wide 0 P fn R .normal a w:=by
 obtain⟨h1,h2⟩:=h.leave;have key:LeavesInM Fence.wide 0 P fn a.tmps R a.defers .returning w:=by
  rw[h2.2.1];refine io (K:=K.and (okT tm)) Ds w (fO h1 ⟨⟨h1.kept.1.1,h1.kept.2⟩,h1.kept.1.2⟩) (fun D hD=>⟨jt (hof D hD).1 (Y5 tm D),(hof D hD).2⟩) fun w' hm=>?_
  have hf:=fN (ds:=Ds.map Z9) hm h2 hm.kept.2;obtain⟨g1,g2⟩:=eO hT hf hfn hr ho;exact⟨_,g1,hR w' (fO hm hm.kept.1) g2⟩
 exact⟨key,key⟩
theorem HR(O:B=std)(hT:l9 P T)(h:f7 ⟨m0,w0,S,[],K⟩ ⟨nt,tm,[],mem,gr⟩ a w)(hR:∀w',Mem m0 w0 S K mem gr w'->Ok (mT m0 mem gr) w' (J5 r.1)->R (.returned (J5 r.1).den) w')(hfn:fn.results=rs.toArray:=by rfl)(hr:T5 T ⟨nt,tm,[],mem,gr⟩ rs=some r:=by first|rfl|(conv=>lhs;cbv))(ho:f8 P (K.and (okT tm)) r.2:=by first|exact trivial|(subst O;simp[f8,Ob.holds])):bodyPostM Fence.wide 0 P fn R .ret a w/\bodyPostM Fence.wide 0 P fn R .normal a w:=
 xK O hT [] (h.withK (K':=K.and (N5 [])) ⟨h.kept,(⟨fun D hD=>(by cases hD),List.nodup_nil⟩:(∀D∈([]:List Nat),w.heap[D]? = some (.deferred (some [])))/\([]:List Nat).Nodup)⟩) (fun D hD=>by cases hD) hR hfn hr ho
end
section
variable {m0:Nat->Nat->Prop} {w0 wi w:World} {S:Nat->Prop} {ds:List Deferred} {K:Kn} {nt:Nat} {tm tm':List (Nat×AV)} {gs:List (Nat×List (Nat×Bool)×AV)} {mem memi:List (Nat×Blk)} {gr gri:List (Nat×Gr)} {a:Act} {P:Program}
def FzV(b:Nat)(cells:List AV)(v v':AV):Prop:=v'.den=v.den/\(v'.known=true->v.known=true)/\(v'.one=v.one)/\∀m w,Ok m w (.ep (some ⟨b,0,none⟩) 0 0 0 cells)->Ok m w v->Ok m w v'
theorem qu{b:Nat}{cells:List AV}{v:AV}:FzV b cells v v:=⟨rfl,id,rfl,fun _ _ _ h=>h⟩
theorem Gf{m:Nat->Nat->Prop}{w:World}{A:Option Addr}{i k off off':Nat}{cells:List AV}(h:Ok m w (.ep A i k off cells)):Ok m w (.ep A i k off' cells):=by
 cases h with|ep _ _ _ _ _ h1 h2 h3 h4=>exact .ep _ _ _ _ _ h1 h2 h3 h4
theorem ze{b key off:Nat}{cells:List AV}:FzV b cells (.ptr key b off) (.ep (some ⟨b,0,none⟩) 0 0 off cells):=
 ⟨by simp[AV.den],fun _=>rfl,rfl,fun _ _ h _=>Gf h⟩
def Dg(b:Nat)(cells:List AV):List AV->List AV->Prop
 | [],[]=>True
 |v::l,v'::l'=>FzV b cells v v'/\Dg b cells l l'
 |_,_=>False
theorem dF{b:Nat}{cells:List AV}:∀{l l':List AV},Dg b cells l l'->l'.map AV.den=l.map AV.den/\∀m w,Ok m w (.ep (some ⟨b,0,none⟩) 0 0 0 cells)->(∀v∈l,Ok m w v)->∀v∈l',Ok m w v
 | [],[],_=>⟨rfl,fun _ _ _ h=>h⟩
 |v::l,v'::l',⟨h1,h2⟩=>by
  obtain⟨g1,g2⟩:=dF h2;refine⟨by simp[h1.1,g1],fun m w he h u hu=>?_⟩
  rcases List.mem_cons.1 hu with rfl|hu
  .exact h1.2.2.2 m w he (h v (by simp))
  exact g2 m w he (fun x hx=>h x (by simp[hx])) u hu
theorem Im{b f:Nat}{cells l l' r r':List AV}(hl:Dg b cells l l')(hr:Dg b cells r r'):FzV b cells (.fn f l r) (.fn f l' r'):=by
 refine⟨by simp[AV.den,B7,(dF hl).1,(dF hr).1],fun _=>rfl,rfl,fun m w he h=>?_⟩
 cases h with
 |fn _ _ _ h1 h2=>exact .fn _ _ _ ((dF hl).2 m w he h1) ((dF hr).2 m w he h2)
def FzT(b:Nat)(cells:List AV):List (Nat×AV)->List (Nat×AV)->Prop
 | [],[]=>True
 |e::l,e'::l'=>e.1=e'.1/\FzV b cells e.2 e'.2/\FzT b cells l l'
 |_,_=>False
theorem qv{b:Nat}{cells:List AV}:∀{l l':List (Nat×AV)},FzT b cells l l'->∀t,FzV b cells (look l t) (look l' t)
 | [],[],_,t=>qu
 |(k,v)::l,(k',v')::l',⟨h1,h2,h3⟩,t=>by
  simp only at h1 h2;subst h1;simp only[u5]
  by_cases h:k=t
  .rw [if_pos h,if_pos h];exact h2
  rw[if_neg h,if_neg h];exact qv h3 t
theorem f7.fz{key b ty:Nat}{cells:List AV}(h:f7 ⟨m0,w0,S,ds,K⟩ ⟨nt,tm,[],(key,⟨b,ty,cells⟩)::mem,gr⟩ a w)(hf:FzT b cells tm tm')(hn:i8 mem key=none:=by rfl)(hS:S b->w0.heap.size<=b:=by first|exact fun h=>h.elim|(rintro⟨_,h,_⟩;cases h)):f7 ⟨m0,w0,S,ds,K⟩ ⟨nt,tm',[],mem,gr⟩ a w:=by
 have hk:i8 ((key,(⟨b,ty,cells⟩:Blk))::mem) key=some ⟨b,ty,cells⟩:=by simp[i8]
 have hup:∀{k e},i8 mem k=some e->i8 ((key,(⟨b,ty,cells⟩:Blk))::mem) k=some e/\k≠key:=fun {k e} he=>by
  have hne:k≠key:=fun e'=>by rw[e',hn]at he;cases he
  exact⟨by rw[C7,if_neg (fun e=>hne e.symm)];exact he,hne⟩
 obtain⟨h1,h2,h3⟩:=h.mem _ _ hk;have hb0:w0.heap.size<=b:=h3.elim id hS;have hnm:∀o,¬St.m ⟨nt,tm',[],mem,gr⟩ ⟨m0,w0,S,ds,K⟩ b o:=by
  intro o hm
  rcases hm with hm|⟨k,e,he,hat⟩|⟨k,t,ht,hv,_⟩
  .exact Nat.lt_irrefl _ (Nat.lt_of_lt_of_le (h.m0 _ _ hm) hb0)
  .exact h.nodup _ _ _ _ (hup he).1 hk (hup he).2 hat
  exact h.sepm _ _ _ _ ht hk hv
 have hle:∀b o,St.m ⟨nt,tm',[],mem,gr⟩ ⟨m0,w0,S,ds,K⟩ b o->St.m ⟨nt,tm,[],(key,⟨b,ty,cells⟩)::mem,gr⟩ ⟨m0,w0,S,ds,K⟩ b o:=by
  intro b o hm
  rcases hm with hm|⟨k,e,he,hat⟩|hm
  .exact .inl hm
  .rcases Classical.em (k=key)with rfl|hne
   .rw [hn]at he;cases he
   exact .inr (.inl ⟨k,e,by rw[C7,if_neg (fun e=>hne e.symm)];exact he,hat⟩)
  exact .inr (.inr hm)
 have hle':∀b' o,St.m ⟨nt,tm',[],mem,gr⟩ ⟨m0,w0,S,ds,K⟩ b' o->St.m ⟨nt,tm,[],(key,⟨b,ty,cells⟩)::mem,gr⟩ ⟨m0,w0,S,ds,K⟩ b' o:=by
  intro b' o hm
  rcases hm with hm|⟨k,e,he,hat⟩|hm
  .exact .inl hm
  .exact .inr (.inl ⟨k,e,(hup he).1,hat⟩)
  exact .inr (.inr hm)
 have kp:au w (St.m ⟨nt,tm,[],(key,⟨b,ty,cells⟩)::mem,gr⟩ ⟨m0,w0,S,ds,K⟩) w (St.m ⟨nt,tm',[],mem,gr⟩ ⟨m0,w0,S,ds,K⟩):=⟨fun b' o u g1 g2=>⟨g1,fun hm=>g2 (hle' b' o hm)⟩,fun _ _ h _=>h⟩;have hep:Ok (St.m ⟨nt,tm',[],mem,gr⟩ ⟨m0,w0,S,ds,K⟩) w (.ep (some ⟨b,0,none⟩) 0 0 0 cells):=by
  refine .ep _ _ _ _ _ ⟨_,_,rfl⟩ (fun j u hj=>⟨b,0,rfl,?_,hnm _⟩) (fun v hv=>(h2 v hv).1) (fun v hv=>kp.ok (h2 v hv).2);rw[cell_of_row w _ _ _ _ _ h1,List.getElem?_toArray,Nat.zero_mul,Nat.zero_add,Nat.zero_add];exact hj
 refine⟨h.size,h.defers,fun t ht=>?_,(fun t p v he=>by cases he),fun k e he=>⟨(h.mem _ _ (hup he).1).1,fun v hv=>⟨((h.mem _ _ (hup he).1).2.1 v hv).1,kp.ok ((h.mem _ _ (hup he).1).2.1 v hv).2⟩,(h.mem _ _ (hup he).1).2.2⟩,fun k k' e e' he he' hne=>h.nodup _ _ _ _ (hup he).1 (hup he').1 hne,h.gr,fun k t k' e ht he=>h.sepm _ _ _ _ ht (hup he).1,h.sepg,h.chg,h.m0,K.st kp h.kept⟩;have hz:=qv hf t;obtain⟨g1,g2⟩:=h.slot t (hz.2.1 ht);exact⟨by rw[g1];exact congrArg some hz.1.symm,hz.2.2.2 _ _ hep (kp.ok g2)⟩
theorem rI(h:f7 ⟨m0,w0,S,ds,K⟩ ⟨nt,tm,[],mem,gr⟩ a w):f7 ⟨mT m0 mem gr,w,ats [],ds,noK⟩ ⟨nt,tm,[],[],[]⟩ a w:=by
 have mono:∀v,Ok (mT m0 mem gr) w v->Ok (St.m ⟨nt,tm,[],[],[]⟩ ⟨mT m0 mem gr,w,ats [],ds,noK⟩) w v:=fun v hv=>hv.mono fun b' o u h1 h2=>⟨h1,fun h=>by
  rcases h with h|⟨k,e,he,hat⟩|⟨k,e,he,_⟩
  .exact h2 h
  .cases he
  cases he⟩
 exact⟨h.size,h.defers,fun t ht=>⟨(h.slot t ht).1,mono _ (h.slot t ht).2⟩,(fun t p v he=>by cases he),(fun k e he=>by cases he),(fun k k' e e' he=>by cases he),(fun k t ht=>by cases ht),(fun k t k' e ht=>by cases ht),(fun k t k' t' b ht=>by cases ht),Chg.refl _ _,fun b o hb=>oi h b o hb,trivial⟩
theorem fA(h:Mem m0 w0 S K mem gr wi)(hi:f7 ⟨mT m0 mem gr,wi,ats [],ds,noK⟩ ⟨nt,tm,gs,memi,gri⟩ a w):f7 ⟨m0,w0,S,ds,K⟩ ⟨nt,tm,[],mem,gr⟩ a w:=by
 have hb:Below wi.heap.size wi w:=hi.chg.below (Nat.le_refl _) fun k ⟨e,he,_⟩=>(by cases he)
 exact fN (h.below hb) ⟨hi.size,hi.defers,fun t ht=>(hi.slot t ht).1⟩ fun t ht=>(hi.slot t ht).2.mono fun b o u h1 h2=>⟨h1,fun hm=>h2 (.inl hm)⟩
end
section
variable {C:Cx} {P:Program} {Q:Exit->Act->World->Prop} {T:List (Nat×TI)} {s:St} {a:Act} {w:World} {B:Alg} {r:Option Nat}
theorem rd3{id:Nat}{all:List Oper}{R:Alg->(Nat->j1)->St×List Ob}{fs:List C8}(n0:Nat)(O:B=std)(hT:l9 P T)(kp km:List Nat)(cs:List (Nat×CS))(h:f7 C s a w)(hQ:∀X a' w',f7 C (R B X).1 a' w'->wpList P all.toArray Q (all.drop n0) a' w')
  (hO:∀a w,¬Q .outgrown a w:=by first|exact fun _ _ h=>h|(intro a w h;obtain⟨x,h,_⟩:=h;cases h)) (hm:P.follows .mixedOrders=true:=by kernel_rfl) (hgs:s.gs=[]:=by rfl)
  (hex:∀A X,(I3 A T cs none X all (l6 0 (all.take n0)) s).map (fun r=>((r.1.keep kp km,r.2.1),r.2.2))=some (R A X,fs):=by intro A X;conv=>lhs;cbv) (hD:aJ (all.take n0) fs=true:=by kernel_rfl) (hZ:eG all n0=true:=by kernel_rfl) (hlen:(all.take n0).length=fs.length:=by rfl) (hob:∀X,f8 P C.K (R B X).2:=by
   intro X;subst O
   first
   |exact trivial
   |(simp only[f8,Ob.holds,BE.den]<;>and_intros<;>(repeat first|trivial|rfl|exact O1|exact O2|exact O3|exact(fun _ _=>by kernel_rfl)|exact O1 _ _ _ rfl|exact O2 _ _ _ rfl|refine⟨?_,?_⟩|intro h|decide|omega)<;>done)
   |(simp[f8,Ob.holds,BE.den,std,b7,i5]<;>omega)) (hd:P6 all=true:=by rfl):(Code.region id all.toArray true).wpIn (rF r) 0 P Q a w:=by
 subst O;exact wpIn_region_any hm (uW hO (fun o ho=>HZ hd (by simpa using ho)) _ _ _ _ (lg n0 none I7 hT kp km cs h hgs fs hD hZ hlen hex hob hQ))
end
section
variable {m0:Nat->Nat->Prop} {w0:World} {S:Nat->Prop} {ds:List Deferred} {K:Kn} {P:Program} {Q:Exit->Act->World->Prop} {ops:Array Oper}
theorem rZ{K1 E:Kn}{J:Kn}{tmc:List (Nat×AV)}{l D bo:Nat}{rc:Loop}{st:LoopState}{pe:Option Code}{s:St}{a:Act}{w:World}{L rest:List Oper}{o:Oper}{c:Call}{g:Operand}{f:FuncId}{lf r args args':List AV}(hL:L=o::rest)(hg:o.guard=none)(hop:o.op = .call c)(hcal:c.callee = .value g)(h:f7 ⟨m0,w0,S,ds,(KL K1 tmc l rc D st pe).and E⟩ s a w)(hgv:val s [] g = .fn f lf r)(hl:R0 s [] c.args.toList=some args)(hen:o3 P f)
  {res:j1->CR} (hsp:I5 P f args' [] (some bo) K1 res (fun _ _=>J)) (hlb:l≠bo) (hDb:D≠bo) (hE:E.off bo) (hC:bo<w0.heap.size->S bo) (hsim:E7 (lf++args++r) args') (hd:fa s o.dst=true)
  (Kc:∀x a' w',f7 ⟨m0,w0,S,ds,(KL J tmc l rc D st pe).and E⟩ ((s.eff (.sets (upd [] (res x).sets++(res x).news))).put o.dst (res x).v) a' w'->wpList P ops Q rest a' w'):wpList P ops Q L a w:=
 E3 hL hg hop hcal h hgv hl hen hsp (fun _ _ h=>h.1.1.1) (fun b hb=>by cases hb;exact hC) hsim (fun e he=>by cases he) rfl hd (fun _=>(KL J tmc l rc D st pe).and E)
  (fun n x m w m' w' _ hk hkb hJ=>⟨⟨⟨hJ,Y5 tmc bo hkb hk.1.1.2⟩,xM hlb hDb hkb hk.1.2⟩,hE hkb hk.2⟩) Kc
end
section
variable {P:Program} {f:FuncId} {fn:Func} {c:Code} {R:Ending->World->Prop} {m:Nat->Nat->Prop} {w:World} {pre:List (Nat×Blk)} {args:List AV} {I:Kn} {bo:Option Nat}
theorem Bu{n:Nat}(hm:∀b o,m b o->b<w.heap.size)(hp:M4 m w pre)(hI:I.p m w)(hargs:∀v∈args,Ok m w v)(hn:args.length<=n):f7 ⟨m,w,fun k=>ats pre k \/ bo=some k,[],I⟩ ⟨n,A8 0 args,[],pre,[]⟩ { tmps:=(args.map AV.den).toArray++Array.replicate (n-args.length) Go.undef,defers:=[] } w:=
 ((bp hm hp hargs hn).wider fun k hk=>.inl hk).withK (I.st ⟨fun b o u h1 h2=>⟨h1,fun hm'=>by
  rcases hm' with h3|⟨k,e,he,hat⟩|⟨k,e,he,_⟩
  .exact h2 h3
  .exact h2 (hat ▸ hp.free _ (F9 he) o)
  cases he⟩,fun _ _ h _=>h⟩ hI)
theorem JC(nt:Nat)(hm:∀b o,m b o->b<w.heap.size)(hp:M4 m w pre)(hI:I.p m w)(hargs:∀v∈args,Ok m w v)(hf:P.funcs[f]? = some fn)(h:∀B,B=std->∀a,f7 ⟨m,w,fun k=>ats pre k \/ bo=some k,[],I⟩ ⟨nt,A8 0 args,[],pre,[]⟩ a w->wpN f P c (bodyPostM Fence.wide 0 P fn R) a w)(hb:fn.body=some c:=by rfl)(hnt:fn.ntmps=nt:=by rfl)(hn:args.length<=nt:=by exact Nat.le_of_ble_eq_true rfl):Calls P f (args.map AV.den).toArray w R:=by
 refine iE hf hb ?_;have:=h std rfl _ (Bu hm hp hI hargs hn)
 simpa[hnt]using this
end
def vd(bo:Option Nat)(m:Nat->Nat->Prop)(w:World)(pre:List (Nat×Blk))(res:j1->CR)(J:j1->Kn)(e:Ending)(w':World):Prop:=
 ∃x,e = .returned (res x).v.den/\Ok (mN m (res x).news) w' (res x).v/\aK bo m w w' pre (res x).sets (res x).news/\(∀b,bo=some b->∃es cl es' cl',w.heap[b]? = some (.map es cl)/\w'.heap[b]? = some (.map es' cl'))/\(J x).p (mN m (res x).news) w'
section
variable {P:Program} {fn:Func} {m:Nat->Nat->Prop} {w0 w:World} {bo:Option Nat} {K:Kn} {nt:Nat} {tm:List (Nat×AV)} {mem:List (Nat×Blk)} {a:Act} {B:Alg} {T:List (Nat×TI)} {rs:List ResultVar} {r:List AV×List Ob} {pre:List (Nat×Blk)}
theorem yz{res:j1->CR}{J:j1->Kn}(hm:Mem m w0 (fun k=>ats pre k \/ bo=some k) K mem [] w)(hv:Ok (mT m mem []) w (J5 r.1))(x:j1)(ks:List Nat)
  (hmap:∀b,bo=some b->(∃es cl,w0.heap[b]? = some (.map es cl))/\∀m,K.p m w->∃es cl,w.heap[b]? = some (.map es cl)) (he:Sim (can (J5 r.1)) (can (res x).v)) (hs:C4 ⟨0,[],[],mem,[]⟩ pre (res x).sets) (hn:I2 ⟨0,[],[],mem,[]⟩ pre ks (res x).news) (hJ:∀m w,K.p m w->(J x).p m w):vd bo m w0 pre res J (.returned (J5 r.1).den) w:=by
 obtain⟨h1,h2⟩:=qm hm (fun b hb=>(hmap b hb).2 _ hm.kept) hs hn;refine⟨x,?_,(J3 _).2 (he.2.2 _ _ ((J3 _).1 (h2.ok hv))),h1,fun b hb=>?_,hJ _ _ (K.st h2 hm.kept)⟩
 .rw [<-F6 (J5 r.1),he.1,F6]
 obtain⟨⟨es,cl,h3⟩,h4⟩:=hmap b hb;obtain⟨es',cl',h4⟩:=h4 _ hm.kept;exact⟨_,_,_,_,h3,h4⟩
theorem rmM{res:j1->CR}{J:j1->Kn}(O:B=std)(hT:l9 P T)(Ds:List Nat)(h:f7 ⟨m,w0,fun k=>ats pre k \/ bo=some k,Ds.map Z9,K.and (N5 Ds)⟩ ⟨nt,tm,[],mem,[]⟩ a w)(hof:∀D∈Ds,K.off D/\w0.heap.size<=D)(x:j1)(ks:List Nat)
  (hmap:∀b,bo=some b->(∃es cl,w0.heap[b]? = some (.map es cl))/\∀m w,K.p m w->∃es cl,w.heap[b]? = some (.map es cl)) (he:Sim (can (J5 r.1)) (can (res x).v)) (hs:C4 ⟨0,[],[],mem,[]⟩ pre (res x).sets:=by exact trivial) (hn:I2 ⟨0,[],[],mem,[]⟩ pre ks (res x).news:=by exact trivial) (hJ:∀m w,K.p m w->(J x).p m w:=by exact fun m w h=>h) (hfn:fn.results=rs.toArray:=by rfl) (hr:T5 T ⟨nt,tm,[],mem,[]⟩ rs=some r:=by first|rfl|(conv=>lhs;cbv)) (ho:f8 P (K.and (okT tm)) r.2:=by first|exact trivial|(subst O;simp[f8,Ob.holds])) :
  bodyPostM Fence.wide 0 P fn (vd bo m w0 pre res J) .ret a w/\bodyPostM Fence.wide 0 P fn (vd bo m w0 pre res J) .normal a w:=
 xK O hT Ds h hof (fun w' hm' hv=>yz hm' hv x ks (fun b hb=>⟨(hmap b hb).1,fun m h=>(hmap b hb).2 m _ h⟩) he hs hn hJ) hfn hr ho
end
section
variable {m0:Nat->Nat->Prop} {w0 w:World} {S:Nat->Prop} {ds:List Deferred} {K:Kn} {mem:List (Nat×Blk)} {gr:List (Nat×Gr)} {a:Act} {P:Program} {fn:FuncId}
def Ex(m0:Nat->Nat->Prop)(w0:World)(S:Nat->Prop)(tm:List (Nat×AV))(l:Nat)(rc:Loop)(D:Nat)(N:Kn->List (Nat×Blk)->List (Nat×Gr)->Prop)(X:Code->Kn->List (Nat×Blk)->List (Nat×Gr)->Prop)(T:List PanicEntry->Kn->List (Nat×Blk)->List (Nat×Gr)->Prop)(e:Ending)(w':World):Prop:=
 ∃K' mem' gr',K'.off l/\((∃v,e = .returned v/\((Mem m0 w0 S (KL K' tm l rc D .ready none) mem' gr' w'/\N K' mem' gr') \/ ∃c,X c K' mem' gr'/\Mem m0 w0 S (KL K' tm l rc D .done (some c)) mem' gr' w')) \/ ∃ch st pe,e = .panicked ch/\T ch K' mem' gr'/\Mem m0 w0 S (KL K' tm l rc D st pe) mem' gr' w')
theorem I4{tm:List (Nat×AV)}{l D:Nat}{rc:Loop}{N:Kn->List (Nat×Blk)->List (Nat×Gr)->Prop}{X:Code->Kn->List (Nat×Blk)->List (Nat×Gr)->Prop}{T:List PanicEntry->Kn->List (Nat×Blk)->List (Nat×Gr)->Prop}(h:Ex m0 w0 S tm l rc D N X T .outgrown w):False:=by
 obtain⟨_,_,_,_,⟨_,h,_⟩|⟨_,_,_,h,_⟩⟩:=h<;>cases h
theorem Fd{Q:Exit->Act->World->Prop}{g:Operand}{ps:Array Tmp}{assign body:Code}{gf nt:Nat}{tm:List (Nat×AV)}{lb:List AV}(N:Kn->List (Nat×Blk)->List (Nat×Gr)->Prop)(X:Code->Kn->List (Nat×Blk)->List (Nat×Gr)->Prop)(T:List PanicEntry->Kn->List (Nat×Blk)->List (Nat×Gr)->Prop)
  (h:f7 ⟨m0,w0,S,ds,K⟩ ⟨nt,tm,[],mem,gr⟩ a w) (hgv:val ⟨nt,tm,[],mem,gr⟩ [] g = .fn gf [] lb) (hen:o3 P gf)
  (hN:∀D K' mem' gr',N K' mem' gr'->∀a' w',f7 ⟨m0,w0,S,Z9 D::ds,K'.and (N5 [D])⟩ ⟨nt,tm,[],mem',gr'⟩ a' w'->w0.heap.size<=D->Q .normal a' w')
  (hX:∀D c K' mem' gr',X c K' mem' gr'->∀a' w',f7 ⟨m0,w0,S,Z9 D::ds,K'.and (N5 [D])⟩ ⟨nt,tm,[],mem',gr'⟩ a' w'->w0.heap.size<=D->c.wp P Q a' w')
  (hT:∀D ch K' mem' gr',T ch K' mem' gr'->∀a' w',f7 ⟨m0,w0,S,Z9 D::ds,K'.and (N5 [D])⟩ ⟨nt,tm,[],mem',gr'⟩ a' w'->w0.heap.size<=D->Q (.panic ch) a' w')
  (hc:∀l D rc w1,l=D+1->D=w.heap.size->rc=K7 fn a ps assign body D .ready none->w0.heap.size<=D->w1.heap.size=D+2->W4 nt tm ds a->Mem m0 w0 S (KL K tm l rc D .ready none) mem gr w1->(∀v∈lb,Ok (mT m0 mem gr) w1 v) →
   Calls P gf ((yV l::lb).map AV.den).toArray w1 (Ex m0 w0 S tm l rc D N X T)) :
  wpN fn P (Code.rangeFunc g ps assign body) Q a w:=by
 obtain⟨hm,ha⟩:=h.leave;have hgd:=A7 h (q:=[]) (fun _ h=>by cases h) (x:=g) (by rw[hgv];rfl);rw[hgv]at hgd;have hg1:a.eval g = .func (.func gf) #[] (lb.map AV.den).toArray:=by
  have:=hgd.1
  simpa[AV.den,B7,AV.denL]using this
 have hlb:∀v∈lb,Ok (mT m0 mem gr) w v:=by
  cases hgd.2 with
  |fn _ _ _ k1 k2=>exact k2
 have hbl:=iu fn a ps assign body w;have hsz:(U9 fn a ps assign body w).heap.size=w.heap.size+2:=by simp[U9]
 have hm1:Mem m0 w0 S (KL K tm (w.heap.size+1) (K7 fn a ps assign body w.heap.size .ready none) w.heap.size .ready none) mem gr (U9 fn a ps assign body w):=
  fO (hm.below hbl) ⟨(hm.below hbl).kept,mz fn a ps assign body w,ku fn a ps assign body w⟩
 have hlb1:∀v∈lb,Ok (mT m0 mem gr) (U9 fn a ps assign body w) v:=fun v hv=>(cu hbl (mT m0 mem gr)).ok (hlb v hv)
 refine lX (gf:=gf) (lb:=(lb.map AV.den).toArray) hg1 (fun args w=>hen args w) ?_;have hcall:=hc _ _ _ _ rfl rfl rfl h.chg.size hsz ha hm1 hlb1;have eargs:((yV (w.heap.size+1)::lb).map AV.den).toArray = #[.func (.yield (w.heap.size+1)) #[] #[]]++(lb.map AV.den).toArray:=by
  simp[AV.den]
 rw[eargs]at hcall;refine hcall.mono ?_;have ha':W4 nt tm (Z9 w.heap.size::ds) { a with defers:={ target:=.collected w.heap.size,args:=#[] }::a.defers }:=⟨ha.1,by rw[ha.2.1],ha.2.2⟩;have fin:∀{K':Kn} {mem':List (Nat×Blk)} {gr':List (Nat×Gr)} {w3:World} {st:LoopState} {pe:Option Code},K'.off (w.heap.size+1)->st ≠ .busy->Mem m0 w0 S (KL K' tm (w.heap.size+1) (K7 fn a ps assign body w.heap.size .ready none) w.heap.size st pe) mem' gr' w3 →
   ∃w4,(Instr.endLoop (w.heap.size+1)).run P w3 = .ok pe w4/\f7 ⟨m0,w0,S,Z9 w.heap.size::ds,K'.and (N5 [w.heap.size])⟩ ⟨nt,tm,[],mem',gr'⟩ { a with defers:={ target:=.collected w.heap.size,args:=#[] }::a.defers } w4:=fun {K' mem' gr' w3 st pe} ho hst h3=>by
  have hk:=h3.kept;have hl:=hk.2.1;refine⟨_,run_endLoop hl hst,?_⟩;have h4:=dr (K':=(K'.and (N5 [w.heap.size])).and (okT tm)) h3 hl (fun _ _ _ e=>by cases e) (grownBy_putObj' w3 _ (.loop { ej (K7 fn a ps assign body w.heap.size .ready none) st pe with state:=.exhausted })) (fun hh=>absurd h.chg.size (by simp only at hh ⊢;omega))
   (fun kb=>⟨⟨ho kb hk.1.1,⟨fun D hD=>by
    simp only[List.mem_singleton]at hD;subst hD;exact kb.obj _ _ (by intro e;injection e with e;omega) hk.2.2 (fun _ _ _ e=>by cases e),by simp⟩⟩,Y5 tm _ kb hk.1.2⟩)
  exact aV h4 ha'
 rintro e w3 ⟨K',mem',gr',ho,⟨v,rfl,⟨h3,hq⟩|⟨c,hq,h3⟩⟩|⟨ch,st,pe,rfl,hq,h3⟩⟩
 .obtain ⟨w4,e4,h4⟩:=fin ho (by simp) h3
  exact⟨none,w4,e4,hN _ _ _ _ hq _ _ h4 h.chg.size⟩
 .obtain ⟨w4,e4,h4⟩:=fin ho (by simp) h3
  exact⟨some c,w4,e4,hX _ _ _ _ _ hq _ _ h4 h.chg.size⟩
 have hk:=h3.kept;refine hT _ _ _ _ _ hq _ _ (aV (fO h3 ⟨⟨hk.1.1,⟨fun D hD=>?_,by simp⟩⟩,hk.1.2⟩) ha') h.chg.size;simp only[List.mem_singleton]at hD;subst hD;exact hk.2.2
end
section
variable {m0:Nat->Nat->Prop} {w0 w:World} {S:Nat->Prop} {K:Kn} {mem:List (Nat×Blk)} {gr:List (Nat×Gr)} {a:Act} {P:Program} {fn:Func} {R:Ending->World->Prop} {nt:Nat} {tm:List (Nat×AV)}
theorem HB{D:Nat}{ch:List PanicEntry}(h:f7 ⟨m0,w0,S,[Z9 D],K.and (N5 [D])⟩ ⟨nt,tm,[],mem,gr⟩ a w)(ho:K.off D)(hD:w0.heap.size<=D)(hR:∀w',Mem m0 w0 S K mem gr w'->R (.panicked ch) w'):bodyPostM Fence.wide 0 P fn R (.panic ch) a w:=by
 have hk:=h.kept.2.1 D (by simp);refine qg h.defers hk (hR _ ?_);exact dr h.bare hk (fun _ _ _ e=>by cases e) (grownBy_putObj' w D _) (fun hh=>absurd hD (by omega)) fun kb=>ho kb h.kept.1
theorem tX{pre:List (Nat×Blk)}{out:j1->gI}{v:AV}(h:Mem m0 w0 (ats pre) K mem gr w)(hv:Ok (mT m0 mem gr) w v)(x:j1){cr:CR}(hout:out x = .ret cr)(he:Sim (can v) (can cr.v))(hs:C4 ⟨0,[],[],mem,gr⟩ pre cr.sets)(hn:cr.news=[]):cJ m0 w0 pre out (.returned v.den) w:=by
 obtain⟨h1,h2⟩:=bX (K:=K) h hs (ks:=[]) (news:=[]) trivial;refine⟨x,?_⟩;rw[hout];refine⟨by rw[<-F6 v,he.1,F6],?_,by rw[hn];exact h1⟩;rw[hn];exact(J3 _).2 (he.2.2 _ _ ((J3 _).1 (h2 _ hv)))
theorem BK{pre:List (Nat×Blk)}{out:j1->gI}{t:Nat}{v:AV}(h:Mem m0 w0 (ats pre) (K.and (okK [v])) mem gr w)(x:j1){sets:List (Nat×List AV)}(hout:out x = .thr t v sets)(hs:C4 ⟨0,[],[],mem,gr⟩ pre sets):cJ m0 w0 pre out (.panicked [{ v:=.iface t v.den,recovered:=false }]) w:=by
 obtain⟨h1,h2⟩:=bX (K:=K.and (okK [v])) h hs (ks:=[]) (news:=[]) trivial;refine⟨x,?_⟩;rw[hout];have:=h2 v (h.kept.2 v (by simp));rw[sa]at this;exact⟨rfl,this,h1⟩
end
section
variable {m0:Nat->Nat->Prop} {w0 w:World} {S:Nat->Prop} {K:Kn} {mem:List (Nat×Blk)} {gr:List (Nat×Gr)} {a:Act}
theorem oe(V:List AV)(n:Nat):(okK V).off n:=fun k h v hv=>k.ok (h v hv)
end
section
variable {r0:Option Nat} {C:Cx} {P:Program} {Q:Exit->Act->World->Prop} {T:List (Nat×TI)} {s:St} {a:Act} {w:World} {B:Alg} {f:FuncId} {k:Nat} {blk:Blk} {ty:Nat} {v:j1->AV} {sets:j1->List (Nat×List AV)} {args':List AV} {id:Nat} {all rest:List Oper} {R:Alg->(Nat->j1)->St×List Ob} {fs:List C8} {o:Oper} {c:Call} {g:Operand} {l r args:(Nat->j1)->List AV}
theorem HJ(i:Nat)(O:B=std)(hT:l9 P T)(kp km:List Nat)(cs:List (Nat×CS))(h:f7 C s a w)(hsp:P2 P f args' [(k,blk)] (fun x=>.thr ty (v x) (sets x)))
  (K:∀X x a w',f7 C ((R B X).1.eff (.sets (upd [(k,blk)] (sets x)))) a w'->Ok (((R B X).1.eff (.sets (upd [(k,blk)] (sets x)))).m C) w' (v x)->Q (.panic [{ v:=.iface ty (v x).den,recovered:=false }]) a w')
  (hO:∀a w,¬Q .outgrown a w:=by first|exact fun _ _ h=>h|(intro a w h;obtain⟨x,h,_⟩:=h;cases h)) (hdf:P6 all=true:=by rfl) (hex:∀A X,(G8 A T cs X all (l6 0 (all.take i)) s).map (fun r=>(r.1.keep kp km,r.2.1))=some (R A X):=by intro A X;conv=>lhs;cbv) (hob:∀X,f8 P C.K (R B X).2:=by
   intro X;subst O
   first
   |exact trivial
   |(simp only[f8,Ob.holds,BE.den]<;>and_intros<;>(repeat first|trivial|rfl|exact O1|exact O2|exact O3|exact(fun _ _=>by kernel_rfl)|exact O1 _ _ _ rfl|exact O2 _ _ _ rfl|refine⟨?_,?_⟩|intro h|decide|omega)<;>done)
   |(simp[f8,Ob.holds,BE.den,std,b7,i5]<;>omega))
  (hL:all.drop i=o::rest:=by rfl) (hop:o.op = .call c:=by rfl) (hcal:c.callee = .value g:=by rfl) (hg:∀X,sD all (R B X).1 o=true:=by intro X;rfl) (hgv:∀X,val (R B X).1 [] g = .fn f (l X) (r X):=by intro X;rfl) (hl:∀X,R0 (R B X).1 [] c.args.toList=some (args X):=by intro X;rfl) (hsim:∀X,E7 (l X++args X++r X) args':=by intro X;subst O;exact zl)
  (hpre:∀X,i8 (R B X).1.mem k=some blk:=by intro X;rfl) (hd:∀X,fa (R B X).1 o.dst=true:=by intro X;rfl) (hen:o3 P f:=by exact fun _ _=>by kernel_rfl):(Code.region id all.toArray false).wpIn (rF r0) 0 P Q a w:=
 pQ hO hdf (dX 0 i O hT kp km cs h hex hob fun X a1 w1 Z=>aW hL (hg X) hop hcal Z (hgv X) (hl X) hen hsp (hsim X) (eq (hpre X)) rfl (hd X) fun x w' Z hok=>K X x _ w' Z hok)
end
section
variable {P:Program} {f:FuncId} {fn:Func} {c:Code} {R:Ending->World->Prop} {m:Nat->Nat->Prop} {w:World} {pre:List (Nat×Blk)} {args:List AV}
theorem JB(nt:Nat)(hm:∀b o,m b o->b<w.heap.size)(hp:M4 m w pre)(hargs:∀v∈args,Ok m w v)(hf:P.funcs[f]? = some fn)(h:∀B,B=std->∀a,f7 ⟨m,w,ats pre,[],noK⟩ ⟨nt,A8 0 args,[],pre,[]⟩ a w->wpN f P c (bodyPostM Fence.wide 0 P fn R) a w)(hb:fn.body=some c:=by rfl)(hnt:fn.ntmps=nt:=by rfl)(hn:args.length<=nt:=by exact Nat.le_of_ble_eq_true rfl):Calls P f (args.map AV.den).toArray w R:=by
 refine iE hf hb ?_;have:=h std rfl _ (bp hm hp hargs hn)
 simpa[hnt]using this
end
theorem FH(q:Lab):l7 Tryz.prog 111 [i9 q] (fun y=>.fn 159 [] [.ep (some ⟨y.b,0,none⟩) 0 0 0 [.int .i64 q.len,.int .u64 q.bits]]):=by
 intro m w hm hargs;simp only[i9]at hargs ⊢;refine en 4 hm hargs Tryz.func111 fun B O a0 Z=>?_
 refine a6 [1] [1] Z fun X0 Z=>?_
 refine a6 [2] [1] Z fun X1 Z=>?_
 have Z:=Z.fz (tm':=[(2,.fn 159 [] [.ep (some ⟨(X0 0).b,0,none⟩) 0 0 0 [.int .i64 q.len,.int .u64 q.bits]])]) ⟨rfl,Im trivial ⟨ze,trivial⟩,trivial⟩;exact j2 (rsp O a8 Z ⟨(X0 0).b,fun _=>none,fun _=>0,fun _=>.empty⟩).1
theorem wD:o3 Tryz.prog 159:=fun _ _=>by kernel_rfl
theorem lm{F:Fence}{P:Program}{l:Nat}{f:FuncId}{T T':Array Value}{c c':Code}{w:World}{R:Ending->World->Prop}(h:T=T')(h2:RoundIn F 0 P l f T' c c' w R):RoundIn F 0 P l f T c c' w R:=h ▸ h2
theorem fI{P:Program}{C:Cx}{s:St}{a:Act}{w:World}{fn:Func}{R:Ending->World->Prop}(h:f7 C s a w)(hds:C.ds=[])(hR:R (.returned (.tuple #[])) w)(hfn:fn.results = #[]:=by rfl):bodyPost P fn R .ret a w/\bodyPost P fn R .normal a w:=by
 have e:(results fn a.tmps).run P w = .ok (.tuple #[]) w:=by simp[results,hfn]
 exact⟨⟨h.defers.trans hds,_,e,hR⟩,⟨h.defers.trans hds,_,e,hR⟩⟩
def ve(m0:Nat->Nat->Prop)(w0:World)(S:Nat->Prop)(tmc:List (Nat×AV))(l:Nat)(rc:Loop)(D:Nat)(N:Kn->List (Nat×Blk)->List (Nat×Gr)->Prop)(X:Code->Kn->List (Nat×Blk)->List (Nat×Gr)->Prop)(e:Ending)(w3:World):Prop:=
 ∃v,e = .returned v/\∃K' mem' gr',K'.off l/\((Mem m0 w0 S (KL K' tmc l rc D .ready none) mem' gr' w3/\N K' mem' gr') \/ ∃c,X c K' mem' gr'/\Mem m0 w0 S (KL K' tmc l rc D .done (some c)) mem' gr' w3)
theorem FI{m0:Nat->Nat->Prop}{w0:World}{S:Nat->Prop}{l D ntc p:Nat}{tmc:List (Nat×AV)}{ac:Act}{rc:Loop}{fd:Func}(hfn:Tryz.prog.funcs[rc.fn]? = some fd)(hl0:w0.heap.size<=l)(hD:D≠l)(hst:rc.pending=none)(htm:rc.tmps=ac.tmps)(hps:rc.params = #[p])(hpn:p<ntc)(hac:∃d,W4 ntc tmc d ac)
  (q:Lab) (hb0:U64 q.bits) (J:Nat->Kn->List (Nat×Blk)->List (Nat×Gr)->Prop) (X:Code->Kn->List (Nat×Blk)->List (Nat×Gr)->Prop)
  (hbody:∀i:Nat,i<2->chE q 0=0->∀(E:Kn),E.self->(∀n,E.off n)->∀K mem gr a w,J i K mem gr->K.off l->f7 ⟨m0,w0,S,[],(KL K tmc l rc D .ready none).and E⟩ ⟨ntc,(p,i9 (chV q i))::tmc,[],mem,gr⟩ a w->rc.assign.wpIn (rF (some l)) 0 Tryz.prog (Exit.then (fun a₁ w₁=>∃nt1 tm1 eq gr1,f7 ⟨m0,w0,S,[],(KL K tmc l rc D .ready none).and E⟩ ⟨nt1,tm1,[],eq,gr1⟩ a₁ w₁ ∧
   ∀w₂,f7 ⟨m0,w0,S,[],(KL K tmc l rc D .busy none).and E⟩ ⟨nt1,tm1,[],eq,gr1⟩ a₁ w₂->rc.body.wpIn (rF (some l)) 0 Tryz.prog (Ap m0 w0 S tmc l rc D E (J (i+1)) X) a₁ w₂) (fun _ _ _=>False)) a w)
  {K:Kn} {mem:List (Nat×Blk)} {gr:List (Nat×Gr)} {w:World} {A:Option Addr} (hJ:J 0 K mem gr) (hK:K.off l) (hm:Mem m0 w0 S (KL K tmc l rc D .ready none) mem gr w) (hA:Ok (mT m0 mem gr) w (.ep A 0 0 0 [.int .i64 q.len,.int .u64 q.bits])) :
  Calls Tryz.prog 159 ([yV l,.ep A 0 0 0 [.int .i64 q.len,.int .u64 q.bits]].map AV.den).toArray w (ve m0 w0 S tmc l rc D (J (if chE q 0=0 then 2 else 0)) X):=by
 have hargs:∀v ∈ [yV l,.ep A 0 0 0 [.int .i64 q.len,.int .u64 q.bits]],Ok (mT m0 mem gr) w v:=by
  intro v hv;simp only[List.mem_cons,List.not_mem_nil,or_false]at hv
  rcases hv with rfl|rfl
  .exact .raw _
  exact hA
 refine enY 24 (pre:=[]) (fun b o hb=>oi hm b o hb) ⟨fun e he=>(by cases he),fun e he=>(by cases he),fun e he=>(by cases he),.nil⟩ hargs Tryz.func159 fun B O a0 Z=>?_
 refine wpIn_seq (rrg O a8 [6,0,1] [] [] Z fun X0 _ _ Z=>?_);refine wpIn_block (gM (ι:=Nat) (fun i a w=>∃K mem gr wi,J i K mem gr/\K.off l/\Mem m0 w0 S (KL K tmc l rc D .ready none) mem gr wi/\f7 ⟨mT m0 mem gr,wi,ats [],[],noK⟩ ⟨24,[(6,.int .i64 (i:Int)),(0,yV l),(1,.ep A 0 0 0 [.int .i64 q.len,.int .u64 q.bits])],[],[],[]⟩ a w) (fun i=>i<=2/\(i=0 \/ chE q 0=0)) (fun i=>2-i) 0 ⟨by omega,.inl rfl⟩ ⟨K,mem,gr,w,hJ,hK,hm,Z⟩ ?_)
 rintro i ⟨hi2,hi0⟩ a w ⟨K,mem,gr,wi,hJ,hK,hm,Z⟩
 refine wpIn_seq (rrg O a8 [7,6,0,1] [] [] Z fun X1 _ _ Z=>?_);refine wpIn_seq (aR Z rfl (fun hb Z=>?_) (fun hb Z=>?_))
 .have hin:i<2:=by
   have:(i:Int)<(2:Int):=by subst O;simpa[std,b7]using hb
   omega
  refine wpIn_skip (wpIn_seq (wpIn_block (wpIn_seq (rrg O a8 [3,6,0,1] [] [] Z fun X2 _ _ Z=>?_))));have SC:=jr q hb0 i (by omega);have hCE:chE q i=chE q 0:=rfl;rw[hCE]at SC;obtain⟨e,he⟩:=eqv (chE q 0);obtain⟨c,hc⟩:=eqv (chV q i);simp only[i9,<-hc,<-he]at SC;have O1:=SC;refine wpIn_seq (rrg O a8 [5,4,6,0,1] [4] [(2,.r fun _=>.tup [.agg [.int .i64 c.len,.int .u64 c.bits],.int .i64 e])] Z fun X3 _ _ Z=>?_);have Z:=Z.fz (tm':=[(5,.int .i64 e),(4,.ep (some ⟨(X3 6).b,0,none⟩) 0 0 0 [.int .i64 c.len,.int .u64 c.bits]),(6,.int .i64 (i:Int)),(0,yV l),(1,.ep A 0 0 0 [.int .i64 q.len,.int .u64 q.bits])]) ⟨rfl,qu,rfl,ze,rfl,qu,rfl,qu,rfl,qu,trivial⟩;refine wpIn_seq (wpIn_region_lit ?_);refine EX 0 3 O a8 [17,4,6,0,1] [] [] Z (fun X4 _ _ Z=>?_)
  by_cases he0:e=0
  .have Z:=Z.headS (v':=.bool .ff) (by subst O;subst he0;exact Sim.bool rfl) rfl
   refine EX 3 2 O a8 [19,18,17,6,0,1] [] [] Z (fun X5 _ _ Z=>?_);have hfit:=fA hm Z;refine rW rfl (vn rfl rfl hfit rfl) rfl rfl hfit rfl rfl (rc:=ej rc .ready none) hfit.kept.2.1 (by simp[ej,hps]) (fun _=>?_);refine lm (T':=([(p,i9 c)]:List (Nat×AV)).foldl (fun t e=>t.setIfInBounds e.1 e.2.den) rc.tmps) (by simp[ej,hps,i9];rfl) ?_;refine xH (P:=Tryz.prog) hfn hl0 hD hK hst htm hfit hac (by
     intro x hx;simp only[List.mem_singleton]at hx;subst hx;exact⟨hpn,.agg _ (by intro v hv;simp only[List.mem_cons,List.not_mem_nil,or_false]at hv;rcases hv with rfl|rfl<;>rfl) (by intro v hv;simp only[List.mem_cons,List.not_mem_nil,or_false]at hv;rcases hv with rfl|rfl<;>exact .int _ _)⟩) (J (i+1)) X ?_ ?_ ?_
   .intro K' mem' gr' w' hj' ho' hf'
    have Z:=rI (hf'.put (some 20) (fun t ht=>by injection ht with ht;subst ht;exact Nat.le_of_ble_eq_true rfl) (.bool .tt) (fun _=>.bool _) (.bool true) fun _=>rfl);refine Bl 6 O a8 [22,6,0,1] [] [] Z (fun X6 _ _ Z=>?_);refine xE Z rfl (fun Z=>?_);refine wpIn_skip (rrg O a8 [6,0,1] [] [] Z fun X7 _ _ Z=>?_);have e:B.arith .add .i64 (i:Int) 1=((i+1:Nat):Int):=by subst O;exact j7 (n:=2) hin (by simp only[maxLen];omega)
    exact⟨i+1,⟨by omega,.inr (he.symm.trans he0)⟩,by omega,K',mem',gr',w',hj',ho',hf'.bare,by rw[<-e];exact Z⟩
   .intro cc K' mem' gr' w' hx' ho' hf'
    have Z:=rI (hf'.put (some 20) (fun t ht=>by injection ht with ht;subst ht;exact Nat.le_of_ble_eq_true rfl) (.bool .ff) (fun _=>.bool _) (.bool false) fun _=>rfl);refine Bl 6 O a8 [22,6,0,1] [] [] Z (fun X6 _ _ Z=>?_);refine jT Z rfl (fun Z=>?_);exact wpIn_ret (fI (P:=Tryz.prog) (R:=ve m0 w0 S tmc l rc D (J (if chE q 0=0 then 2 else 0)) X) Z rfl (⟨_,rfl,K',mem',gr',ho',.inr ⟨cc,hx',(fA hf'.bare Z).bare⟩⟩)).1
   intro a hFa;have:=hbody i hin (he.symm.trans he0) (okT _) (yh _) (Y5 _) K mem gr a _ hJ hK (by rw[<-hc];exact hFa);exact this
  have Z:=Z.headS (v':=.bool .tt) (by subst O;exact Sim.bool (by simp[std,b7,he0,BE.den])) rfl;refine Bl 3 O a8 [22,6,0,1] [] [] Z (fun X5 _ _ Z=>?_);refine jT Z rfl (fun Z=>?_);have hne:¬chE q 0=0:=fun h=>he0 (he.trans h)
  have hi:i=0:=hi0.resolve_right hne;exact wpIn_ret (fI (P:=Tryz.prog) (R:=ve m0 w0 S tmc l rc D (J (if chE q 0=0 then 2 else 0)) X) Z rfl (⟨_,rfl,K,mem,gr,hK,.inl ⟨(fA hm Z).bare,by rw[if_neg hne,<-hi];exact hJ⟩⟩)).1
 have hi:i=2:=by
  have:¬(i:Int)<(2:Int):=by subst O;simpa[std,b7]using hb
  omega
 refine wpIn_exit ?_;have h0:chE q 0=0:=hi0.resolve_left (by omega);exact(fI (P:=Tryz.prog) (R:=ve m0 w0 S tmc l rc D (J (if chE q 0=0 then 2 else 0)) X) Z rfl (⟨_,rfl,K,mem,gr,hK,.inl ⟨(fA hm Z).bare,by rw[if_pos h0,<-hi];exact hJ⟩⟩)).2
abbrev vD(R:C9):List AV:=[.int .u32 (R.x1:Int),.int .u32 (R.x2:Int),.int .u32 (R.y1:Int),.int .u32 (R.y2:Int)]
theorem jZ{Kk:Kn}(a b c d e f g h:Int):Ob.holds Tryz.prog Kk (.eql 28 [.int .u32 a,.int .u32 b,.int .u32 c,.int .u32 d] [.int .u32 e,.int .u32 f,.int .u32 g,.int .u32 h]):=rS (d:=3) (sh:=[.int .u32,.int .u32,.int .u32,.int .u32]) (by kernel_rfl) (by decide) (by kernel_rfl) (by kernel_rfl) ⟨rfl,rfl,rfl,rfl,trivial⟩ ⟨rfl,rfl,rfl,rfl,trivial⟩
def nB(R:C9):Bool:=decide (R.x1=0/\R.x2=4294967295/\R.y1=0/\R.y2=4294967295)
theorem ry(R:C9):eqL (vD R) [.int .u32 0,.int .u32 4294967295,.int .u32 0,.int .u32 4294967295]=nB R:=by
 unfold nB;rw[Bool.eq_iff_iff];simp only[eqL,eqC,Bool.and_eq_true,beq_iff_eq,decide_eq_true_eq,and_true];omega
theorem zL(c z:Nat):crd c z<=4294967295:=by
 have:crd c z<2^32:=Nat.lt_pow_two_of_testBit _ fun i hi=>by rw[L3,decide_eq_false (by omega),Bool.false_and]
 omega
theorem vj{R:C9}(h:nB R=true)(k:Int):cN R k=true:=by
 have h:=of_decide_eq_true h;unfold cN;refine decide_eq_true ⟨⟨by omega,by omega⟩,?_⟩;have a:=zL 0 k.toNat;have b:=zL 1 k.toNat;exact⟨by omega,by omega,by omega,by omega⟩
theorem Ie(b:Nat)(R:C9):L4 Tryz.prog 89 [.ptr 0 b 0,vC R] [] (fun x=>⟨.fn 143 [] [.ptr 901 (x.c 0) 0,.ptr 900 x.b 0],[],[(900,⟨x.b,113,[.ptr 0 b 0]⟩),(901,⟨x.c 0,28,vD R⟩)]⟩):=by
 intro m w hm hargs hpre;refine enX 6 hm hpre hargs Tryz.func89 fun B O a0 Z=>?_
 refine a6 [2,3] [2,3] Z fun X0 Z=>?_
 refine a6 [4] [2,3] Z fun X1 Z=>?_
 refine j2 ((rx O a8 Z ⟨(X0 0).b,fun _=>none,fun _=>(X0 1).b,fun _=>.empty⟩ [2,3] (he:=?_) (hn:=?_)).1)
 .exact Sim.fn trivial ⟨Sim.ptr,Sim.ptr,trivial⟩
 exact⟨⟨_,rfl,⟨Sim.ptr,trivial⟩⟩,fun e he=>(by cases he),(by simp),⟨_,rfl,zl⟩,fun e he=>(by cases he),(by simp),trivial⟩
abbrev zRs:List AV:=[.int .i64 0,.bool .ff,.str ⟨#[]⟩,.sl none none 0 0 2 (fun _=>[]),.int .u64 0,.bool .ff]
abbrev rcM(b b2 b3 b4 b5 br bx:Nat)(R:C9)(wh:Bool)(J:l4)(A:Option Addr)(c:Nat)(q:Pst)(A1:Option Addr)(n1 c1:Nat)(g:Nat->Itm):List (Nat×Blk):=
 [(0,⟨b,139,D4 J A c q⟩),(5,⟨b5,33,[.sl (some 77) A1 n1 c1 2 (fun i=>itC (g i))]⟩),(2,⟨b2,38,zRs⟩),(3,⟨b3,28,vD R⟩),(4,⟨b4,4,[.bool (.v wh)]⟩),(900,⟨br,113,[.ptr 0 b 0]⟩),(901,⟨bx,28,vD R⟩)]
abbrev rcG(A1:Option Addr)(n1 c1:Nat):List (Nat×Gr):=[(77,⟨A1,n1,c1,2,62⟩)]
def JK(b b2 b3 b4 b5 br bx:Nat)(R:C9)(wh:Bool)(J:l4)(tot:Rs Rsl)(K:Kn)(mem:List (Nat×Blk))(gr:List (Nat×Gr)):Prop:=K=noK/\∃A c q A1 n1 c1 g rest,mem=(rcM b b2 b3 b4 b5 br bx R wh J A c q A1 n1 c1 g)++rest/\gr=rcG A1 n1 c1/\tot = .ok ⟨0,false,⟨#[]⟩,d4 g n1,0,false⟩ q
def JJ(b:Nat)(J:l4)(tot:Rs Rsl)(ch:List PanicEntry)(K:Kn)(mem:List (Nat×Blk))(gr:List (Nat×Gr)):Prop:=∃(x:j1) (wq:Wq),ch=[{ v:=.iface 40 (E8 (wqA x wq)).den,recovered:=false }]/\K=noK.and (okK [E8 (wqA x wq)])/\∃q rest,mem=(0,⟨b,139,D4 J (x.A 0) (x.c 0) q⟩)::rest/\tot = .stop wq q
theorem wx:o3 Tryz.prog 143:=fun _ _=>by kernel_rfl
abbrev EO(s:Spt):List AV:=[.int .i64 s.lab.len,.int .u64 s.lab.bits,.int .i64 s.g.code,.int .u64 s.g.ver,.bool (.v s.g.has),.int .i64 s.g.x.r.kd,.sl none s.g.x.A s.g.x.r.n s.g.x.c 2 (fun i=>itC (s.g.x.r.f i)),.int .i64 s.g.x.r.nx.len,.int .u64 s.g.x.r.nx.bits,.int .u64 s.g.x.r.mrk]
structure RcS where
 n:Nat
 z:Int
 s:Spt
 A:Option Addr
 c:Nat
 p:Pst
 A1:Option Addr
 n1:Nat
 c1:Nat
 g:Nat->Itm
theorem yD(b:Nat)(J:l4)(hJ:u7 J)(hRJ:aB J)(A:Option Addr)(c:Nat)(p:Pst)(hp:j8 p)(hn:p.n<=1000000)(hh:J.how=1 \/ J.how=2):lI 36 0 b J A c p [] (iL J.bucket J.budget J.how J.rct p):=by
 intro m w hm hargs hpre;have hmx:maxLen=9223372036854775807:=rfl;have hRk:=hRJ.ok;have e1:J.x1=((J.rct.x1:Nat):Int):=(Int.toNat_of_nonneg hRJ.x1.1).symm;have e2:J.x2=((J.rct.x2:Nat):Int):=(Int.toNat_of_nonneg hRJ.x2.1).symm;have e3:J.y1=((J.rct.y1:Nat):Int):=(Int.toNat_of_nonneg hRJ.y1.1).symm;have e4:J.y2=((J.rct.y2:Nat):Int):=(Int.toNat_of_nonneg hRJ.y2.1).symm;obtain⟨R,hR⟩:=eqv J.rct;rw[<-hR]at hRk e1 e2 e3 e4 ⊢;obtain⟨tot,htot⟩:=eqv (iL J.bucket J.budget J.how R p);rw[<-htot];refine JB 49 hm hpre hargs Tryz.func36 fun B O a0 Z=>?_
 refine K5 (Q8 (rg O a8 [2,0] [2,0] [] Z fun X0 a0 w1 Z=>?_));refine K5 (Q8 (rg O a8 [3,2,0] [3,2,0] [] Z fun X1 a0 w1 Z=>?_));have Z:=Z.memS (cells':=vD R) ⟨Sim.of_int2 e1,Sim.of_int2 e2,Sim.of_int2 e3,Sim.of_int2 e4,trivial⟩;have O1:=yA R;obtain⟨ri,hri⟩:=eqv (decide R.Is);rw[<-hri]at O1;refine K5 (Q8 (a7 (rg O a8 [17,3,2,0] [3,2,0] [(1,.r fun _=>.bool (.v ri))] Z fun X2 a0 w1 Z=>?_)));apply d7 Z rfl<;>intro hb Z
 .have hr:ri=false:=by subst O;revert hb;cases ri<;>simp[std]
  have hI:¬R.Is:=fun h=>by rw[hri,decide_eq_true h]at hr;cases hr
  refine a7 (rg O a8 [2] [2,0] [] Z fun X3 a0 w1 Z=>?_);refine j2 (HR O a8 Z (fun w2 hm2 hv=>tX (cr:=⟨nV ⟨0,fun i=>if i=0 then A else none,fun i=>if i=0 then c else 0,fun _=>.empty⟩ ⟨5,false,⟨#[]⟩,[],0,false⟩,[(0,D4 J A c p)],[]⟩) hm2 hv ⟨0,fun i=>if i=0 then A else none,fun i=>if i=0 then c else 0,fun _=>.empty⟩ ?_ ?_ ⟨rfl,⟨_,rfl,zl⟩,trivial⟩ rfl)).1
  .rw [htot];unfold iL;rw[if_neg hI];rfl
  subst O;exact Sim.agg ⟨zr,Sim.bool rfl,zr,zq0,zr,Sim.bool rfl,trivial⟩
 have hr:ri=true:=by subst O;revert hb;cases ri<;>simp[std]
 have hI:R.Is:=of_decide_eq_true (hri.symm.trans hr);refine f9 ?_;have hz:=oq (R:=R) (z:=0) (by decide);have hlt:=ui (R:=R) (z:=0) (by decide);have O1:=ry R;obtain⟨wh,hwh⟩:=eqv (nB R);rw[<-hwh]at O1;have hww:=O1;refine K5 (Q8 (rg O a8 [4,3,2,0] [4,3,2,0] [] Z (fun X3 a0 w1 Z=>?_) (hob:=by intro X;subst O;simp only[f8,Ob.holds,BE.den]<;>and_intros<;>repeat first|trivial|rfl|exact jZ (Kk:=noK) _ _ _ _ _ _ _ _|refine⟨?_,?_⟩|intro h)));have Z:=Z.memS (cells':=[.bool (.v wh)]) (by subst O;exact⟨Sim.bool hww,trivial⟩);refine K5 (Q8 (rg O a8 [5,4,3,2,0] [5,4,3,2,0] [] Z fun X4 a0 w1 Z=>?_));have Z:=Z.fresh (Below.refl _ _) 77 (t:=⟨none,0,0,2,62⟩) (by decide) (Own.nil _ _ _ _ none);have Z:=f7.memS (cells':=[.sl (some 77) none 0 0 2 (fun i=>itC ((fun _=>C0) i))]) Z ⟨zq0,trivial⟩;have Z:=Z.keep [5,4,3,2,0] [0,5,2,3,4,77];have O1:=Ie b R;refine K5 (K5 (Q8 (rg O a8 [24,5,4,3,2] [0,5,2,3,4,900,901,77] [(2,.x fun x=>⟨.fn 143 [] [.ptr 901 (x.c 0) 0,.ptr 900 x.b 0],[],[(900,⟨x.b,113,[.ptr 0 b 0]⟩),(901,⟨x.c 0,28,vD R⟩)]⟩)] Z fun X5 a0 w1 Z=>?_)));obtain⟨b2,hb2⟩:=eqv (X0 0).b;obtain⟨b3,hb3⟩:=eqv (X1 5).b;obtain⟨b4,hb4⟩:=eqv (X3 3).b;obtain⟨b5,hb5⟩:=eqv (X4 0).b;obtain⟨br,hbr⟩:=eqv (X5 2).b;obtain⟨bx,hbx⟩:=eqv ((X5 2).c 0);have Z:f7 ⟨m,w,ats [(0,⟨b,139,D4 J A c p⟩)],[],noK⟩ ⟨49,[(24,.fn 143 [] [.ptr 901 bx 0,.ptr 900 br 0]),(5,.ptr 5 b5 0),(4,.ptr 4 b4 0),(3,.ptr 3 b3 0),(2,.ptr 2 b2 0)],[],rcM b b2 b3 b4 b5 br bx R wh J A c p none 0 0 (fun _=>C0),rcG none 0 0⟩ a0 w1:=by
  rw[hb2,hb3,hb4,hb5,hbr,hbx];exact Z
 refine lY ?_;refine Fd (JK b b2 b3 b4 b5 br bx R wh J tot) (fun _ _ _ _=>False) (JJ b J tot) Z rfl wx ?_ (fun D cc K' mem' gr' h=>h.elim) ?_ ?_
 .rintro D K' mem' gr' ⟨rfl,A',c',q,A1,n1,c1,g,rest,rfl,rfl,hq⟩ a' w' Z hD
  refine K5 (Q8 (rg O a8 [2] [0,2,77] [] Z fun X9 a0 w1 Z=>?_));refine Q8 (j2 (xK O a8 [D] Z (fun E hE=>by rw[List.mem_singleton.1 hE];exact⟨fun _ _=>trivial,hD⟩) (fun w2 hm2 hv=>tX (cr:=⟨nV ⟨0,fun i=>if i=0 then A' else A1,fun i=>if i=0 then c' else c1,fun _=>.empty⟩ ⟨0,false,⟨#[]⟩,d4 g n1,0,false⟩,[(0,D4 J A' c' q)],[]⟩) hm2 hv ⟨0,fun i=>if i=0 then A' else A1,fun i=>if i=0 then c' else c1,fun _=>.empty⟩ ?_ ?_ ⟨rfl,⟨_,rfl,zl⟩,trivial⟩ rfl)).1)
  .rw [hq];rfl
  subst O;exact Sim.agg ⟨zr,Sim.bool rfl,zr,Sim.resl (i6 g n1).symm (fun t ht=>by
   rw[i6]at ht
   show itC (g t)=itC (itF (d4 g n1) t)
   rw[s7 g n1 t ht]),zr,Sim.bool rfl,trivial⟩
 .rintro D ch K' mem' gr' ⟨x,wq,rfl,rfl,q,rest,rfl,hq⟩ a' w' Z hD
  exact HB Z (jt (fun _ _=>trivial) (oe _ D)) hD fun w2 hm2=>BK (sets:=[(0,D4 J (x.A 0) (x.c 0) q)]) hm2 x (by rw[hq]) ⟨rfl,⟨_,rfl,zl⟩,trivial⟩
 intro lr D rl w1 hlr hD hrl h0 hsz hact hm1 hlb;have hne:D≠lr:=by omega
 have hoff:∀K:Kn,K=noK->K.off lr:=fun K h=>by rw[h];exact fun _ _=>trivial
 refine JD 41 hm1 (args:=[yV lr,.ptr 901 bx 0,.ptr 900 br 0]) (by
  intro v hv;simp only[List.mem_cons,List.not_mem_nil,or_false]at hv
  rcases hv with rfl|rfl|rfl
  .exact .raw _
  .exact .ptr _ _ _
  exact .ptr _ _ _) Tryz.func143 fun _ _ a0 Z=>?_
 have O1:=Ec R hRk 0 (by decide);obtain⟨q0,hq0⟩:=eqv (Y6 R 0);rw[<-hq0]at O1 hz hlt;have htq:tot=(jN J.bucket J.budget J.how (q0.1:Nat) (p.n+1) p).bind fun s q=>iM J.bucket J.budget R (p.n+1) (q0.1:Nat) s [] q:=by
  rw[htot];unfold iL;rw[if_pos hI,<-hq0]
 obtain⟨z0,f0⟩:=q0;dsimp only at O1 hz hlt htq;refine wpIn_seq (rrg O a8 [4,0,1,2] [0,5,2,3,4,900,901,77] [(1,.r fun _=>.tup [.int .u64 (z0:Int),.bool (.v f0)])] Z (hO:=fun _ _ h=>I4 h) fun X6 a0 w1 Z=>?_);refine wpIn_seq ?_
 rcases(HE 0 b J hJ A c p hp hn (z0:Int) hz (p.n+1) (Nat.lt_succ_self _) hh).two (uz _ _ _ _ _ _) hp hn with⟨wq,q,h1,O1⟩|⟨s1,p1,h1,hs1,hp1,hn1,S1⟩
 .refine HJ 2 O a8 [14,15] [0,5,2,3,4,900,901,77] [] Z (hO:=fun _ _ h=>I4 h) O1 fun X x _ _ Z hk=>?_
  exact⟨Z.defers,noK.and (okK [E8 (wqA x wq)]),_,_,jt (hoff _ rfl) (oe _ _),.inr ⟨_,.ready,none,rfl,⟨x,wq,rfl,rfl,q,_,rfl,by rw[htq,h1];rfl⟩,fO Z.bare ⟨⟨⟨Z.kept.1.1,fun u hu=>by rw[List.mem_singleton.1 hu];exact hk⟩,Z.kept.1.2⟩,Z.kept.2⟩⟩⟩
 have hx1:=xx hz hp h1;have hle1:=hs1.le;rw[h1]at htq;have O1:=S1;refine rrg O a8 [4,0,1,2,6] [0,5,2,3,4,900,901,6,77] [(2,rc J (V7 s1) p1)] Z (hO:=fun _ _ h=>I4 h) fun X7 a0 w1 Z=>?_
 obtain⟨b6,hb6⟩:=eqv (X7 3).b;refine wpIn_block (gM (ι:=RcS) (fun q a w'=>f7 ⟨m,w,ats [(0,⟨b,139,D4 J A c p⟩)],[],KL noK [(24,.fn 143 [] [.ptr 901 bx 0,.ptr 900 br 0]),(5,.ptr 5 b5 0),(4,.ptr 4 b4 0),(3,.ptr 3 b3 0),(2,.ptr 2 b2 0)] lr rl D .ready none⟩ ⟨41,[(4,.int .u64 q.z),(0,yV lr),(1,.ptr 901 bx 0),(2,.ptr 900 br 0),(6,.ptr 6 b6 0)],[],rcM b b2 b3 b4 b5 br bx R wh J q.A q.c q.p q.A1 q.n1 q.c1 q.g ++ [(6,⟨b6,144,EO q.s⟩)],rcG q.A1 q.n1 q.c1⟩ a w')
  (fun q=>tot=iM J.bucket J.budget R q.n q.z q.s (d4 q.g q.n1) q.p/\j8 q.p/\q.p.n<=1000000/\q.p.n<q.n/\W8 q.s/\U64 q.z/\q.n1+16*q.p.n<=16000000) (fun q=>q.n) ⟨p.n+1,z0,s1,(X7 2).A 0,(X7 2).c 0,p1,none,0,0,fun _=>C0⟩ ⟨htq,hp1,hn1,by dsimp only;omega,hx1,hz,by dsimp only;omega⟩ (by rw[hb6];exact Z) ?_)
 rintro⟨nn,z1,s0,A0,c0,p0,A1,n1,c1,g⟩ ⟨hrun,hp0,hn0,hf0,hx0,hz1,hlen⟩ a w' Z
 dsimp only at hrun hp0 hn0 hf0 hx0 hz1 hlen Z;obtain⟨m0,rfl⟩:∃n2,nn=n2+1:=⟨nn-1,by omega⟩
 refine wpIn_seq (wpIn_seq (wpIn_region_lit ?_));refine EX 0 3 O a8 [19,18,17,4,0,1,2,6] [0,5,2,3,4,900,901,6,77] [] Z (hO:=fun _ _ h=>I4 h) (fun X8 a0 w1 Z=>?_);have hrec:=Z.kept.2.1;subst hrl;refine vR rfl rfl rfl rfl Z rfl rfl (rc:=ej (K7 _ _ _ _ _ D .ready none) .ready none) hrec (by simp[ej,K7]) (fun hav=>?_);refine lm (T':=([(25,.int .u64 z1),(26,V7 s0)]:List (Nat×AV)).foldl (fun t e=>t.setIfInBounds e.1 e.2.den) _) (by simp[ej,K7];rfl) ?_;obtain⟨tl,htl⟩:=eqv (gK R z1 s0);refine xH (P:=Tryz.prog) (fd:=Tryz.f36) Tryz.func36 (l:=lr) (D:=D) (by omega) hne (hoff _ rfl) rfl rfl Z ⟨_,hact⟩ ?_
  (fun K' mem' gr'=>K'=noK/\∃A2 n2 c2 g2,mem'=rcM b b2 b3 b4 b5 br bx R wh J A0 c0 p0 A2 n2 c2 g2 ++ [(6,⟨b6,144,EO s0⟩)]/\gr'=rcG A2 n2 c2/\d4 g2 n2=d4 g n1++tl/\n2<=n1+16)
  (fun _ _ _ _=>False) ?_ (fun cc K' mem' gr' w' h=>h.elim) ?_
 .intro e he
  simp only[List.mem_cons,List.not_mem_nil,or_false]at he
  rcases he with rfl|rfl
  .exact ⟨Nat.le_of_ble_eq_true rfl,hav _ (List.Mem.head _)⟩
  exact⟨Nat.le_of_ble_eq_true rfl,hav _ (List.Mem.tail _ (List.Mem.head _))⟩
 .rintro K' mem' gr' w2 ⟨rfl,A2,n2,c2,g2,rfl,rfl,hg2,hn2⟩ ho' hf2
  have Z:=hf2.put (some 20) (fun t ht=>by injection ht with ht;subst ht;exact Nat.le_of_ble_eq_true rfl) (.bool .tt) (fun _=>.bool _) (.bool true) fun _=>rfl
  refine Bl 4 O a8 [20,4,0,1,2,6] [0,5,2,3,4,900,901,6,77] [] Z (hO:=fun _ _ h=>I4 h) (fun X9 a0 w1 Z=>?_);refine jT Z rfl (fun Z=>?_);refine wpIn_skip (wpIn_block ?_);have hrunE:qb R s0.lab=false->tot = .ok ⟨0,false,⟨#[]⟩,d4 g2 n2,0,false⟩ p0:=fun h=>by
   rw[hrun,iM,if_neg (by rw[h];decide),hg2,htl]
  have hrunG:qb R s0.lab=true->tot=(bC J.bucket J.budget (iO R s0.lab) (m0+1) s0 p0).bind fun s' p=>iM J.bucket J.budget R m0 (iO R s0.lab) s' (d4 g2 n2) p:=fun h=>by
   rw[hrun,iM,if_pos h,hg2,htl]
  have hxk:=rU (R:=R) hx0.lab.1 hx0.lab.2;have hnk:=rT hx0.lab.1 hx0.lab.2;have O1:=Ft s0.lab hx0.lab.1 hx0.lab.2;have hBd:qb R s0.lab=(lO s0.lab&&(Y6 R (eR s0.lab).toNat).2):=rfl;have hKd:iO R s0.lab=((Y6 R (eR s0.lab).toNat).1:Nat):=rfl;simp only[i9]at O1;obtain⟨nk,hnk'⟩:=eqv (eR s0.lab);obtain⟨nb,hnb'⟩:=eqv (lO s0.lab);rw[<-hnk']at O1 hnk hBd hKd;rw[<-hnb']at O1 hBd;refine wpIn_seq (rrg O a8 [8,7,4,0,1,2,6] [0,5,2,3,4,900,901,6,77] [(2,.r fun _=>.tup [.int .u64 nk,.bool (.v nb)])] Z (hO:=fun _ _ h=>I4 h) fun X10 a0 w1 Z=>?_);refine wpIn_seq (wpIn_seq (rrg O a8 [28,7,4,0,1,2,6] [0,5,2,3,4,900,901,6,77] [] Z (hO:=fun _ _ h=>I4 h) fun X11 a0 w1 Z=>?_));refine aR Z rfl (fun hb Z=>?_) (fun hb Z=>?_)
  .have t1:nb=false:=by subst O;revert hb;cases nb<;>simp[std]
   exact wpIn_ret (fI (P:=Tryz.prog) Z rfl (⟨noK,_,_,hoff _ rfl,.inl ⟨_,rfl,.inl ⟨Z.bare,⟨rfl,A0,c0,p0,A2,n2,c2,g2,_,rfl,rfl,hrunE (by rw[hBd,t1];rfl)⟩⟩⟩⟩)).1
  have t1:nb=true:=by subst O;revert hb;cases nb<;>simp[std]
  have O1:=Ec R hRk nk.toNat (eF hnk);rw[Int.toNat_of_nonneg hnk.1]at O1;obtain⟨q1,hq1⟩:=eqv (Y6 R nk.toNat);rw[<-hq1]at O1 hBd hKd;obtain⟨lv,lb⟩:=q1;dsimp only at O1 hBd hKd;refine wpIn_skip (wpIn_seq (wpIn_seq (rrg O a8 [8,4,0,1,2,6] [0,5,2,3,4,900,901,6,77] [(2,.r fun _=>.tup [.int .u64 (lv:Int),.bool (.v lb)])] Z (hO:=fun _ _ h=>I4 h) fun X12 a0 w1 Z=>?_)));refine wpIn_seq (rrg O a8 [36,4,0,1,2,6] [0,5,2,3,4,900,901,6,77] [] Z (hO:=fun _ _ h=>I4 h) fun X13 a0 w1 Z=>?_);refine aR Z rfl (fun hb Z=>?_) (fun hb Z=>?_)
  .have t2:lb=false:=by subst O;revert hb;cases lb<;>simp[std]
   exact wpIn_ret (fI (P:=Tryz.prog) Z rfl (⟨noK,_,_,hoff _ rfl,.inl ⟨_,rfl,.inl ⟨Z.bare,⟨rfl,A0,c0,p0,A2,n2,c2,g2,_,rfl,rfl,hrunE (by rw[hBd,t2,Bool.and_false])⟩⟩⟩⟩)).1
  have t2:lb=true:=by subst O;revert hb;cases lb<;>simp[std]
  have hrg:=hrunG (by rw[hBd,t1,t2];rfl);rw[hKd]at hrg hxk;refine wpIn_skip ?_
  rcases(IK 0 b J hJ A0 c0 p0 hp0 hn0 s0 hx0 (lv:Int) hxk (m0+1) hf0).two (uB _ _ _ _ _ _) hp0 hn0 with⟨wq,q,h2,O1⟩|⟨s2,p2,h2,hs2,hp2,hnn2,S2⟩
  .refine HJ 3 O a8 [37,38,39] [0,5,2,3,4,900,901,6,77] [] Z (hO:=fun _ _ h=>I4 h) O1 fun X x _ _ Z hk=>?_
   exact⟨Z.defers,noK.and (okK [E8 (wqA x wq)]),_,_,jt (hoff _ rfl) (oe _ _),.inr ⟨_,.ready,none,rfl,⟨x,wq,rfl,rfl,q,_,rfl,by rw[hrg,h2];rfl⟩,fO Z.bare ⟨⟨⟨Z.kept.1.1,fun u hu=>by rw[List.mem_singleton.1 hu];exact hk⟩,Z.kept.1.2⟩,Z.kept.2⟩⟩⟩
  have hlt2:=GI h2;have hx2:=Ae hxk hx0 hp0 h2;rw[h2]at hrg;have O1:=S2;refine rrg O a8 [4,0,1,2,6] [0,5,2,3,4,900,901,6,77] [(3,rc J (V7 s2) p2)] Z (hO:=fun _ _ h=>I4 h) fun X14 a0 w1 Z=>?_
  exact⟨⟨m0,lv,s2,(X14 3).A 0,(X14 3).c 0,p2,A2,n2,c2,g2⟩,⟨hrg,hp2,hnn2,by dsimp only;omega,hx2,hxk,by dsimp only;omega⟩,by dsimp only;omega,Z⟩
 intro aF Z;refine wpIn_seq (rrg O a8 [6,26,5,4,3] [0,5,2,3,4,900,901,6,77] [] Z fun X9 a0 w1 Z=>?_);refine rrg O a8 [7,6,5,4,3] [0,5,2,3,4,900,901,6,7,77] [] Z fun X10 a0 w1 Z=>⟨_,_,_,_,Z,fun w2 Z=>?_⟩
 have O1:=Il s0 hx0 z1 rz (by have:=hz1.2;show z1<=18446744073709551615;omega)
 have hlh:=qr s0 z1 rz;have hfew:=hx0.ok.ra.few;have hku:=fun i (h:i∈hasL s0 z1 rz)=>qt hx0 h
 have htd:tl=(hasL s0 z1 rz).filter fun i=>cN R i.key:=htl
 have hfi:=fe (hasL s0 z1 rz);obtain⟨hl,hhl⟩:=eqv (hasL s0 z1 rz);rw[<-hhl]at O1 hlh hku htd hfi;obtain⟨hn9,hhn⟩:=eqv hl.length;obtain⟨hf9,hhf⟩:=eqv (itF hl);rw[<-hhn]at O1 hlh hfi;rw[<-hhf]at O1 hfi;have hkey:∀i,i<hn9->U64 (hf9 i).key:=fun i hi=>hku _ (by rw[<-hfi];exact List.mem_map.2 ⟨i,List.mem_range.2 hi,rfl⟩)
 refine wpIn_block (wpIn_seq (rrg O a8 [31,29,30,5,4,3] [0,5,2,3,4,900,901,6,77] [(2,.r fun x=>.sl none (x.A 0) hn9 (x.c 0) 2 (fun i=>itC (hf9 i)))] Z fun X11 a0 w1 Z=>?_));refine wpIn_block (gM (ι:=Nat×Option Addr×Nat×Nat×(Nat->Itm)) (fun q a w'=>f7 ⟨m,w,ats [(0,⟨b,139,D4 J A c p⟩)],[],_⟩ ⟨49,[(31,.int .i64 (q.1:Int)),(29,.sl none ((X11 2).A 0) hn9 ((X11 2).c 0) 2 (fun i=>itC (hf9 i))),(30,.int .i64 (hn9:Int)),(5,.ptr 5 b5 0),(4,.ptr 4 b4 0),(3,.ptr 3 b3 0)],[],rcM b b2 b3 b4 b5 br bx R wh J A0 c0 p0 q.2.1 q.2.2.1 q.2.2.2.1 q.2.2.2.2 ++ [(6,⟨b6,144,EO s0⟩)],rcG q.2.1 q.2.2.1 q.2.2.2.1⟩ a w')
  (fun q=>q.1<=hn9/\d4 q.2.2.2.2 q.2.2.1=d4 g n1++((List.range q.1).map hf9).filter (fun x=>cN R x.key)/\q.2.2.1<=n1+q.1) (fun q=>hn9-q.1) (0,A1,n1,c1,g) ⟨Nat.zero_le _,by simp,Nat.le_refl _⟩ (by subst O;exact Z) ?_)
 rintro⟨i,A2,n2,c2,g2⟩ ⟨hi,hg2,hle2⟩ a2 w3 Z
 dsimp only at hi hg2 hle2 Z;refine wpIn_seq (rrg O a8 [32,31,29,30,5,4,3] [0,5,2,3,4,900,901,6,77] [] Z fun X12 a0 w1 Z=>?_);refine wpIn_seq (aR Z rfl (fun hb Z=>?_) (fun hb Z=>?_))
 .have hin:i<hn9:=by
   have:(i:Int)<(hn9:Int):=by subst O;simpa[std,b7]using hb
   omega
  have e:B.arith .add .i64 (i:Int) 1=((i+1:Nat):Int):=by subst O;exact j7 (n:=hn9) hin (by omega)
  refine wpIn_skip (wpIn_seq (wpIn_block (wpIn_seq (rrg O a8 [9,31,29,30,5,4,3] [9,0,5,2,3,4,900,901,6,77] [] Z (fun X13 a0 w1 Z=>?_) (hob:=by intro X;subst O;simp only[f8,Ob.holds,BE.den]<;>and_intros<;>repeat first|trivial|rfl|exact(show(0:Int)<=(i:Int)by omega)|exact(show(i:Int)<(hn9:Int)by omega)|refine⟨?_,?_⟩|intro h)))))
  have Z:=Z.memS (cells':=itC (hf9 i)) (by subst O;exact zl);have hik:=hkey i hin;have O1:=yB R (hf9 i).key.toNat (eF hik);rw[Int.toNat_of_nonneg hik.1]at O1;have hiB:cN R (hf9 i).key=decide (R.Is/\ie R (hf9 i).key.toNat):=rfl;have hwi:=fun h:wh=true=>vj (hwh.symm.trans h) (hf9 i).key
  obtain⟨iq,hiq⟩:=eqv (decide (R.Is/\ie R (hf9 i).key.toNat));rw[<-hiq]at O1 hiB;have hst:=BZ R hf9 i;refine wpIn_seq (rrg O a8 [41,9,31,29,30,5,4,3] [5,0,9,2,3,4,900,901,6,77] [(5,.r fun _=>.bool (.v iq))] Z fun X14 a0 w1 Z=>?_);refine aR Z rfl (fun hb Z=>?_) (fun hb Z=>?_)
  .have hins:cN R (hf9 i).key=true:=by
    have h9:(if wh=true then true else iq)=true:=by subst O;exact hb
    cases hw9:wh with
    |true=>exact hwi hw9
    |false=>rw[hw9]at h9;rw[hiB];exact h9
   rw[if_pos hins]at hst;refine rrg O a8 [31,29,30,5,4,3] [5,0,2,3,4,900,901,6,77] [] Z (fun X15 a0 w1 Z=>?_) (hob:=?hob)
   case hob=>
    intro X;subst O
    repeat(first|exact trivial|refine⟨⟨rfl,rfl,rfl⟩,?_⟩|refine⟨rfl,?_⟩|refine⟨⟨show n2+1<=maxLen by omega,show(n2+1)*_<=_ by omega⟩,?_⟩)
   have Z:=Z.memS (cells':=[.sl (some 77) ((X15 3).A 0) (n2+1) ((X15 3).c 0) 2 (fun t=>itC (cm g2 n2 (hf9 i) t))]) (by
    subst O;refine⟨Sim.resl rfl (fun t ht=>?_),trivial⟩;have ht2:t<n2+1:=ht
    show B8 n2 (fun t=>itC (g2 t)) (B0 2 (itC (hf9 i))) t=_
    unfold B8 cm
    split
    .rw [if_neg (by omega)]
    have:t=n2:=by omega
    subst this;simp[B0,itC])
   have Z:=Z.regr (n':=n2+1) (by subst O;rfl);refine rrg O a8 [31,29,30,5,4,3] [0,5,2,3,4,900,901,6,77] [] Z fun X16 a0 w1 Z=>?_
   exact⟨(i+1,_,n2+1,_,cm g2 n2 (hf9 i)),⟨hin,by simp only;rw[cg,hg2,hst,List.append_assoc],by dsimp only;omega⟩,by dsimp only;omega,by rw[<-e];exact Z⟩
  have hins:¬cN R (hf9 i).key=true:=by
   have h9:(if wh=true then true else iq)=false:=by subst O;exact hb
   cases hw9:wh with
   |true=>rw[hw9]at h9;cases h9
   |false=>rw[hw9]at h9;rw[hiB];intro h8;rw[h8]at h9;cases h9
  rw[if_neg hins,List.append_nil]at hst;refine wpIn_skip (rrg O a8 [31,29,30,5,4,3] [0,5,2,3,4,900,901,6,77] [] Z fun X16 a0 w1 Z=>?_);exact⟨(i+1,A2,n2,c2,g2),⟨hin,by simp only;rw[hg2,hst],by dsimp only;omega⟩,by dsimp only;omega,by rw[<-e];exact Z⟩
 have hout:i=hn9:=by
  have:¬(i:Int)<(hn9:Int):=by subst O;simpa[std,b7]using hb
  omega
 refine wpIn_exit ⟨noK,_,_,⟨rfl,A2,n2,c2,g2,rfl,rfl,?_,by omega⟩,hoff _ rfl,Z.bare⟩;rw[hg2,hout,htd]
 congr 2
theorem BN(k0 b:Nat)(J:l4)(hJ:u7 J)(hRJ:aB J)(A:Option Addr)(c:Nat)(p:Pst)(hp:j8 p)(hn:p.n<=1000000)(hh:J.how=1 \/ J.how=2):lI 36 k0 b J A c p [] (iL J.bucket J.budget J.how J.rct p):=by
 refine P2.re (yD b J hJ hRJ A c p hp hn hh) ⟨Sim.ptr,trivial⟩ rfl fun x=>?_
 cases iL J.bucket J.budget J.how J.rct p with
 |ok a q=>exact⟨rfl,rfl,zr,rfl⟩
 |stop wq q=>exact⟨rfl,zr,rfl,rfl⟩
theorem zw:o3 Tryz.prog 36:=fun _ _=>by kernel_rfl
theorem aB.less{J:l4}(h:aB J)(n:Nat):aB (J.less n):=⟨h.x1,h.x2,h.y1,h.y2⟩
theorem dj(J:l4)(hJ:bG J)(hRJ:aB J)(A:Option Addr)(n c:Nat)(f:Nat->r5)(hn:n<=900000)(hin:∀j,j<n->InG (f j)):l7 Tryz.prog 12 [U0 J,iz A n c f] (fun x=>.tup [E8 (wqA x (z6 J n f).1),.int .i64 (z6 J n f).2]):=by
 intro m w hm hargs;have hk:cB 1 (fun _=>12) J.kind=(decide (J.kind=12)):=by rw[Eu];simp only[uJ J.kind]<;>rfl
 have hdo:(E6 J&&cB 1 (fun _=>12) J.kind&&Q1 n f)=true->∀k0 b,lI 36 k0 b (J.less n) A c (nY n f) [] (iL J.bucket (J.budget-n) J.how J.rct (nY n f)):=by
  intro hok k0 b;rw[hk]at hok;simp only[Bool.and_eq_true]at hok;obtain⟨⟨h1,h2⟩,h3⟩:=hok;exact BN k0 b (J.less n) (yQ hJ h1 hn) (hRJ.less n) A c (nY n f) (xZ hin h3) (by show n<=1000000;omega) (by have h:=BW h1;exact h)
 have S:∀kG kA cells,cells 0=[.int .i64 12]->l7 Tryz.prog 35 [U0 J,iz A n c f,.sl kG kA 1 1 1 cells,.fn 36 [] []] (fun x=>.tup [E8 (wqA x (z6 J n f).1),.int .i64 (z6 J n f).2]):=by
  intro kG kA cells h10;unfold z6;rw[<-hk];refine(((Fu (cap:=[]) 36 _ J hJ A n c f hn hin kG kA 1 1 (fun _=>12) hdo zw).x (fun _=>rfl)).pure (fun _=>rfl)).sim ⟨zr,zr,Sim.recell (fun i hi=>?_),zr,trivial⟩
  match i,hi with
  |0,_=>rw[h10]<;>rfl
 obtain⟨W9,hW9⟩:=eqv ((z6 J n f).1);obtain⟨E9,hE9⟩:=eqv ((z6 J n f).2);obtain⟨rr9,hrr9⟩:=eqv (W9.r.rn);obtain⟨nn9,hnn9⟩:=eqv (W9.res.items.length);obtain⟨ff9,hff9⟩:=eqv (itF W9.res.items);have T9:=l7.wq (S none none (fun i=>[.int .i64 ((fun _=>12) i)]) rfl) hW9 hE9 hrr9 hnn9 hff9;have T:∀kG kA cells,cells 0=[.int .i64 12]->l7 Tryz.prog 35 [U0 J,iz A n c f,.sl kG kA 1 1 1 cells,.fn 36 [] []] (fun x=>.tup [E8 (wqB x W9 rr9 nn9 ff9),.int .i64 E9]):=fun kG kA cells h10=>l7.wq (S kG kA cells h10) hW9 hE9 hrr9 hnn9 hff9
 refine en 12 hm hargs Tryz.func12 fun B O a0 Z=>?_
 refine a6 [1,2,4] [2,4] Z fun X0 Z=>?_
 refine a7 ?_;refine j4 [4,5] [4,8] [(3,.r fun x=>.tup [.agg [.int .i64 W9.kind,.int .i64 W9.lab.len,.int .u64 W9.lab.bits,.int .u64 W9.ver,.int .i64 rr9.kd,.sl none (x.A 1) rr9.n (x.c 1) 2 (fun i=>itC (rr9.f i)),.int .i64 rr9.nx.len,.int .u64 rr9.nx.bits,.int .u64 rr9.mrk,.int .i64 W9.res.code,.bool (.v W9.res.had),.str W9.res.val,.sl none (x.A 2) nn9 (x.c 2) 2 (fun i=>itC (ff9 i)),.int .u64 W9.res.key,.bool (.v W9.res.more)],.int .i64 E9])] Z (hob:=by intro X;subst O;simp only[f8,Ob.holds,BE.den]<;>and_intros<;>repeat first|trivial|rfl|exact T _ _ _ rfl|exact(fun _ _=>by kernel_rfl)|refine⟨?_,?_⟩|intro h|exact Int.le_refl _|decide|omega) fun X1 Z=>?_
 refine j2 ((rsi O a8 Z ((X1 3)) (he:=?_)));subst O;rw[<-hW9,<-hE9];unfold wqA;rw[<-hrr9,<-hnn9,<-hff9];exact zr
end Go.Proofs.YtmbkanpapkhnaaaGreat.Sym
