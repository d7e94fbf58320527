/-
  SymDr7, SymNx1, SymNx2, SymNx3, SymSk5, PlSeekOk, PlEditOk, ItWith, DeleteI, ItWout, SymTurn, ItTurn, SymScp, SymEd1, SymSib, SymRng, SymRng2, SymRng3, SymInl, SymInl2, SymPan, SymKid: put together by a program of mine (a claim may have 60 files at most). Conditions: none.
-/
import Derived.Test.YtmbkanpapkhnaaaGreatMgF5
import Derived.ScopeJumps
import Derived.RangeFuncLeaves
import Derived.RangeFuncCalls
import Derived.OrdersIn
set_option linter.unusedVariables false
set_option linter.unusedSimpArgs false
set_option maxRecDepth 100000
set_option maxHeartbeats 1600000
namespace Go.Proofs.YtmbkanpapkhnaaaGreat.Sym
open Go Go.RowKit
theorem BM(b:Nat)(J:i5)(hJ:j0 J)(E:r9)(hE:E.n<=1000000)(N:Nat)(p:Pst)(hR:Rel E N p)(hp:f9 p)(hn:p.n<=1000000)(l:Lab)(hl:LOk l)(g:u2)(hg:db g)(hgh:g.has=true)(n:Nat)(hth:po n)(hf:p.n<n):u3 120 0 b J E N p [f4 l,u5 g] (fun _=>i4) (i4) (R5 J.bucket (J.budget-E.n) n l g p):=by
 intro m w hm hargs hpre;have hN0:N=E.n-p.n:=by have:=hR.n;omega
 refine enX 25 hm hpre hargs Tryz.func120 fun B O a0 Z=>?_
 refine wp_seq (rg O a6 [0,4,5] [0,4,5] [] Z fun X0 _ _ Z=>?_);refine wp_seq (rg O a6 [9,0,4,5] [0,4,5] [] Z fun X1 _ _ Z=>?_);apply a7 Z rfl<;>intro hb Z
 .have t1:gk g 3=true:=by
   have h:decide (g.x.r.kd=3)=true:=by subst O;exact hb
   unfold gk;rw[hgh,h];rfl
  rcases(Fu 0 b J hJ E hE N p hR hp hn l hl g.ver g.x hg.ra n hf).two (jf _ _ _ _ _ _) hp hn hR with⟨v2,p2,N2,hm2,hs2,hp2,hn2,hR2,hN2,S2⟩|⟨wq2,p2,N2,W2,hm2,hs2,hN2,hW2,S2⟩
  .have O1:=S2
   refine rg O a6 [] [0] [(6,lc J E (i4) N2 p2)] Z fun X2 _ _ Z=>?_
   exact(rgo O a6 Z (v:=()) (q:=p2) (by simp[R5,dW,Rs.bind,t1,hm2]) hN2).2
  have O1:=S2;refine rg O a6 [] [0] [(6,sc J E (i4) N2 W2 p2.note)] Z fun X2 _ _ Z=>?_
  exact(rst O a6 Z (q:=p2) (wq:=wq2) (X2 6) (by simp[R5,dW,Rs.bind,t1,hm2]) hN2 (hW2 _)).2
 have t1:gk g 3=false:=by
  have h:decide (g.x.r.kd=3)=false:=by subst O;exact hb
  unfold gk;rw[hgh,h];rfl
 refine wp_seq (rg O a6 [19,0,4,5] [0,4,5] [] Z fun X3 _ _ Z=>?_);apply a7 Z rfl<;>intro hb Z
 .have t2:l.len<64:=by subst O;simpa[std,a8]using hb
  rcases(FD 0 b J hJ E hE N p hR hp hn l hl g.ver n hth hf).two (oF _ _ _ _ (E8 _ _ _) _ _ _) hp hn hR with⟨v4,p4,N4,hm4,hs4,hp4,hn4,hR4,hN4,S4⟩|⟨wq4,p4,N4,W4,hm4,hs4,hN4,hW4,S4⟩
  .have O1:=S4
   refine rg O a6 [] [0] [(4,lc J E (i4) N4 p4)] Z fun X4 _ _ Z=>?_
   exact(rgo O a6 Z (v:=()) (q:=p4) (by simp[R5,dW,Rs.bind,t1,t2,hm4]) hN4).2
  have O1:=S4;refine rg O a6 [] [0] [(4,sc J E (i4) N4 W4 p4.note)] Z fun X4 _ _ Z=>?_
  exact(rst O a6 Z (q:=p4) (wq:=wq4) (X4 4) (by simp[R5,dW,Rs.bind,t1,t2,hm4]) hN4 (hW4 _)).2
 have t2:¬l.len<64:=by subst O;simpa[std,a8]using hb
 exact wp_skip ((rgo O a6 Z (v:=()) (q:=p) (by simp[R5,dW,Rs.bind,t1,t2]) hN0).2)
theorem FN(k0 b:Nat)(J:i5)(hJ:j0 J)(E:r9)(hE:E.n<=1000000)(N:Nat)(p:Pst)(hR:Rel E N p)(hp:f9 p)(hn:p.n<=1000000)(l:Lab)(hl:LOk l)(g:u2)(hg:db g)(hgh:g.has=true)(n:Nat)(hth:po n)(hf:p.n<n):u3 120 k0 b J E N p [f4 l,u5 g] (fun _=>i4) (i4) (R5 J.bucket (J.budget-E.n) n l g p):=u3.re (BM b J hJ E hE N p hR hp hn l hl g hg hgh n hth hf) (by repeat(first|exact trivial|refine⟨zr,?_⟩))
theorem Bp(b:Nat)(J:i5)(hJ:j0 J)(E:r9)(hE:E.n<=1000000)(N:Nat)(p:Pst)(hR:Rel E N p)(hp:f9 p)(hn:p.n<=1000000)(l:Lab)(hl:LOk l)(n:Nat)(hfin:∀j,j<n->uc j)(hf:p.n<n):u3 218 0 b J E N p [f4 l] (fun _=>i4) (i4) (I6 J.bucket (J.budget-E.n) n l p):=by
 intro m w hm hargs hpre;have hN0:N=E.n-p.n:=by have:=hR.n;omega
 have SP:=kU l hl.u;have hpar:=hl.par;simp only[f4]at SP;obtain⟨up,hup⟩:=eqv (G1 l);rw[<-hup]at SP hpar;obtain⟨ue,hue⟩:=eqv (G4 l);rw[<-hue]at SP;refine enX 66 hm hpre hargs Tryz.func218 fun B O a0 Z=>?_
 refine wp_seq (rg O a6 [0,3] [0,3] [] Z fun X0 _ _ Z=>?_);have O1:=SP;refine wp_seq (rg O a6 [0,3,4,5] [0,3,4] [(1,.r fun _=>.tup [.agg [.int .i64 up.len,.int .u64 up.bits],.int .i64 ue])] Z fun X1 _ _ Z=>?_);refine wp_seq (wp_seq (rg O a6 [14,0,3,4] [0,3,4] [] Z fun X2 _ _ Z=>?_));apply a7 Z rfl<;>intro hb Z
 .have t0:¬ue=0:=by subst O;simpa[std,a8]using hb
  exact wp_ret ((rgo O a6 Z (v:=()) (q:=p) (by simp[I6,<-hup,<-hue,Rs.bind,t0]) hN0).1)
 have t0:ue=0:=by subst O;simpa[std,a8]using hb
 refine wp_skip (wp_block (l5 (ι:=LSt) (fun q=>[]) (fun q=>[(0,⟨b,147,lsC J E q⟩)]) (fun q=>[]) (fun q=>match q with| .go a r M=>dm J.bucket (J.budget-E.n) n l up p=dm J.bucket (J.budget-E.n) a l up r/\f9 r/\r.n<=1000000/\Rel E M r/\r.n<a/\r.n<=p.n/\a<=n| .dn r M=>False| .sp M Q u=>∃(X:i8) (wq:Wq) (pp:Pst),I6 J.bucket (J.budget-E.n) n l p = .stop wq pp/\M=E.n-pp.n/\Q=wqA X wq/\u=pp.note) (fun q=>lsM q) (.go n p N) ⟨rfl,hp,hn,hR,(by skip;omega),(by skip;omega),Nat.le_refl _⟩ Z ?_))
 rintro q hJ _ _ Z
 rcases q with⟨nn0,p0,N0⟩|⟨p9,N9⟩|⟨N0,Q0,t0⟩
 .dsimp only[lsC,lsB]at hJ Z
  obtain⟨hrun0,hp0,hn0,hR0,hf0,hle0,hnn0⟩:=hJ;obtain⟨m0,rfl⟩:∃n2,nn0=n2+1:=⟨nn0-1,by omega⟩
  have hN0:N0=E.n-p0.n:=by have:=hR0.n;omega
  refine wp_seq (wp_seq (rg O a6 [19,0,3,4] [0,3,4] [] Z fun X3 _ _ Z=>?_));refine j1 Z rfl (fun Z=>?_);refine wp_skip (wp_block (wp_seq ?_))
  rcases(K2 0 b J hJ E hE N0 p0 hR0 hp0 hn0 l).two (i7 _ _ _) hp0 hn0 hR0 with⟨g3,p4,N4,hm4,hs4,hp4,hn4,hR4,hN4,S4⟩|⟨wq4,p4,N4,W4,hm4,hs4,hN4,hW4,S4⟩
  .have hl4:=u7 hm4
   have hg4:=hp0.get hm4;have O1:=S4;refine rg O a6 [0,3,4,6] [0,3,4,6] [(2,lc J E (u5 g3) N4 p4)] Z fun X4 _ _ Z=>?_
   obtain⟨q4,hq4⟩:=eqv (gk g3 5);refine wp_seq (wp_seq ?_);refine rg O a6 [31,0,3,4,6] [0,3,4,6] [(6,.r fun _=>.bool (.v q4))] Z (hob:=by intro X;subst O;simp only[b7,Ob.holds,BE.den]<;>and_intros<;>repeat first|trivial|rfl|exact(by rw[hq4];exact B2 g3 5)|exact by rw[hq4];exact B2 g3 5|exact(fun _ _=>by kernel_rfl)|refine⟨?_,?_⟩|intro h|exact Int.le_refl _|decide|omega) fun X5 _ _ Z=>?_
   apply a7 Z rfl<;>intro hb Z
   .have tq4:gk g3 5=false:=by subst O;rw[<-hq4];revert hb;cases q4<;>simp[std]
    exact wp_ret ((rgo O a6 Z (v:=()) (q:=p4) (by simp[I6,<-hup,<-hue,Rs.bind,t0,hrun0,u9,hm4,tq4]) hN4).1)
   have tq4:gk g3 5=true:=by subst O;rw[<-hq4];revert hb;cases q4<;>simp[std]
   refine wp_skip (wp_seq ?_)
   rcases(K2 0 b J hJ E hE N4 p4 hR4 hp4 hn4 up).two (i7 _ _ _) hp4 hn4 hR4 with⟨g5,p6,N6,hm6,hs6,hp6,hn6,hR6,hN6,S6⟩|⟨wq6,p6,N6,W6,hm6,hs6,hN6,hW6,S6⟩
   .have hl6:=u7 hm6
    have hg6:=hp4.get hm6;have O1:=S6;refine rg O a6 [0,3,4,6,7] [0,3,4,6,7] [(2,lc J E (u5 g5) N6 p6)] Z fun X6 _ _ Z=>?_
    refine wp_seq (wp_seq (rg O a6 [38,0,3,4,6,7] [0,3,4,6,7] [] Z fun X7 _ _ Z=>?_));refine j3 Z rfl (fun Z=>?_);obtain⟨q6,hq6⟩:=eqv (gk g5 3);obtain⟨r6,hr6⟩:=eqv (gk g5 4);refine wp_skip (wp_seq (wp_seq ?_));refine rg O a6 [44,0,3,4,6,7] [0,3,4,6,7] [(1,.r fun _=>.bool (.v q6)),(4,.r fun _=>.bool (.v r6))] Z (hob:=by intro X;subst O;simp only[b7,Ob.holds,BE.den]<;>and_intros<;>repeat first|trivial|rfl|exact(by rw[hq6];exact B2 g5 3)|exact by rw[hq6];exact B2 g5 3|exact(by rw[hr6];exact B2 g5 4)|exact by rw[hr6];exact B2 g5 4|exact(fun _ _=>by kernel_rfl)|refine⟨?_,?_⟩|intro h|exact Int.le_refl _|decide|omega) fun X8 _ _ Z=>?_
    apply a7 Z rfl<;>intro hb Z
    .have tq6:(gk g5 3||gk g5 4)=true:=by
      have h9:(if q6=true then true else r6)=true:=by subst O;exact hb
      rw[<-hq6,<-hr6,<-h9];cases q6<;>rfl
     have hgh:g5.has=true:=by
      unfold gk at tq6;revert tq6;cases g5.has<;>simp
     have tn2:gk g5 2=false:=by
      unfold gk at tq6 ⊢;revert tq6;cases g5.has<;>simp<;>omega
     apply wp_seq
     rcases(hfin m0 (by omega) 0 b J hJ E hE N6 p6 hR6 hp6 hn6 up hpar g5 hg6 hgh (by have:=hl4;have:=hl6;omega)).two (F9 _ _ _ _ _ _) hp6 hn6 hR6 with⟨v9,p9,N9,hm9,hs9,hp9,hn9,hR9,hN9,S9⟩|⟨wq9,p9,N9,W9,hm9,hs9,hN9,hW9,S9⟩
     .have O1:=S9
      refine rg O a6 [] [0] [(3,lc J E (i4) N9 p9)] Z fun X9 _ _ Z=>?_
      exact wp_ret ((rgo O a6 Z (v:=()) (q:=p9) (by simp[I6,<-hup,<-hue,Rs.bind,t0,hrun0,u9,hm4,tq4,hm6,tq6,tn2,hm9]) hN9).1)
     have O1:=S9;refine rg O a6 [] [0] [(3,sc J E (i4) N9 W9 p9.note)] Z fun X9 _ _ Z=>?_
     exact wp_ret ((rst O a6 Z (q:=p9) (wq:=wq9) (X9 3) (by simp[I6,<-hup,<-hue,Rs.bind,t0,hrun0,u9,hm4,tq4,hm6,tq6,tn2,hm9]) hN9 (hW9 _)).1)
    have tq6:(gk g5 3||gk g5 4)=false:=by
     have h9:(if q6=true then true else r6)=false:=by subst O;exact hb
     rw[<-hq6,<-hr6,<-h9];cases q6<;>rfl
    refine wp_skip (wp_seq ?_)
    rcases Bool.eq_false_or_eq_true (gk g5 2)with t8|t8
    .rcases (bN 0 b J hJ E hE N6 p6 hR6 hp6 hn6 l g3.ver (asR 1 g3.x 0)).two (l6 _ _ _ _ _) hp6 hn6 hR6 with⟨d8,p10,N10,hm10,hs10,hp10,hn10,hR10,hN10,S10⟩|⟨wq10,p10,N10,W10,hm10,hs10,hN10,hW10,S10⟩
     .refine rg O a6 [65,0,3,4] [0,3,4] [(1,.r fun _=>.bool .tt),(15,lc J E (.bool (.v d8)) N10 p10)] Z (hob:=by intro X;subst O;simp only[b7,Ob.holds,BE.den]<;>and_intros<;>repeat first|trivial|rfl|exact((B2 g5 2).res fun _=>Sim.bool (by rw[t8];rfl))|exact S10|exact(fun _ _=>by kernel_rfl)|refine⟨?_,?_⟩|intro h|exact Int.le_refl _|decide|omega) fun X10 _ _ Z=>?_
      apply a7 Z rfl<;>intro hb Z
      .have t9:d8=true:=by exact hb
       exact wp_ret ((rgo O a6 Z (v:=()) (q:=p10) (by simp[I6,<-hup,<-hue,Rs.bind,t0,hrun0,u9,hm4,tq4,hm6,tq6,t8,hm10,t9]) hN10).1)
      have t9:d8=false:=by exact hb
      replace Z:=Z.keep [0,3,4] [0,3,4];exact wp_skip (⟨.go m0 p10 N10,⟨by rw[hrun0];simp[u9,Rs.bind,t0,hrun0,u9,hm4,tq4,hm6,tq6,t8,hm10,t9],hp10,hn10,hR10,by have:=hl4;have:=hs6.le;have:=hs10.le;have:=hf0;omega,by have:=hl4;have:=hs6.le;have:=hs10.le;have:=hle0;omega,by omega⟩,by simp[lsM],Z⟩)
     refine rg O a6 [65,0,3,4] [0,3,4] [(1,.r fun _=>.bool .tt),(15,sc J E (.bool .ff) N10 W10 p10.note)] Z (hob:=by intro X;subst O;simp only[b7,Ob.holds,BE.den]<;>and_intros<;>repeat first|trivial|rfl|exact((B2 g5 2).res fun _=>Sim.bool (by rw[t8];rfl))|exact S10|exact(fun _ _=>by kernel_rfl)|refine⟨?_,?_⟩|intro h|exact Int.le_refl _|decide|omega) fun X10 _ _ Z=>?_
     refine j3 Z rfl (fun Z=>?_);replace Z:=Z.keep [0,3,4] [0,3,4];exact wp_skip (⟨.sp N10 (W10 (X10 15)) p10.note,⟨(X10 15),wq10,p10,by simp[I6,<-hup,<-hue,Rs.bind,t0,hrun0,u9,hm4,tq4,hm6,tq6,t8,hm10],hN10,(hW10 _),rfl⟩,by simp[lsM],Z⟩)
    refine rg O a6 [65,0,3,4] [0,3,4] [(1,.r fun _=>.bool .ff)] Z (hob:=by intro X;subst O;simp only[b7,Ob.holds,BE.den]<;>and_intros<;>repeat first|trivial|rfl|exact((B2 g5 2).res fun _=>Sim.bool (by rw[t8];rfl))|exact(fun _ _=>by kernel_rfl)|refine⟨?_,?_⟩|intro h|exact Int.le_refl _|decide|omega) fun X10 _ _ Z=>?_
    refine j1 Z rfl (fun Z=>?_);exact wp_ret ((rgo O a6 Z (v:=()) (q:=p6) (by simp[I6,<-hup,<-hue,Rs.bind,t0,hrun0,u9,hm4,tq4,hm6,tq6,t8]) hN6).1)
   have O1:=S6;refine rg O a6 [0,3,4,6,7] [0,3,4,6,7] [(2,sc J E (.agg [.int .i64 0,.int .u64 0,.bool .ff,.int .i64 0,.sl none none 0 0 2 (fun _=>[]),.int .i64 0,.int .u64 0,.int .u64 0]) N6 W6 p6.note)] Z fun X6 _ _ Z=>?_
   refine wp_seq (wp_seq (rg O a6 [38,0,3,4,6,7] [0,3,4,6,7] [] Z fun X7 _ _ Z=>?_));refine j1 Z rfl (fun Z=>?_);exact wp_ret ((rst O a6 Z (q:=p6) (wq:=wq6) (X6 2) (by simp[I6,<-hup,<-hue,Rs.bind,t0,hrun0,u9,hm4,tq4,hm6]) hN6 (hW6 _)).1)
  have O1:=S4;refine rg O a6 [0,3,4,6] [0,3,4,6] [(2,sc J E (.agg [.int .i64 0,.int .u64 0,.bool .ff,.int .i64 0,.sl none none 0 0 2 (fun _=>[]),.int .i64 0,.int .u64 0,.int .u64 0]) N4 W4 p4.note)] Z fun X4 _ _ Z=>?_
  refine wp_seq (wp_seq (rg O a6 [31,0,3,4,6] [0,3,4,6] [] Z fun X5 _ _ Z=>?_));refine j1 Z rfl (fun Z=>?_);exact wp_ret ((rst O a6 Z (q:=p4) (wq:=wq4) (X4 2) (by simp[I6,<-hup,<-hue,Rs.bind,t0,hrun0,u9,hm4]) hN4 (hW4 _)).1)
 .exact (hJ:False).elim
 dsimp only[lsC,lsB]at hJ Z;obtain⟨X0,wq0,pp0,hsp0,hN0,hW0,ht0⟩:=hJ;subst ht0;refine wp_seq (wp_seq (rg O a6 [19,0,3,4] [0,3,4] [] Z fun X3 _ _ Z=>?_));refine j3 Z rfl (fun Z=>?_);exact wp_exit ((rst O a6 Z (q:=pp0) (wq:=wq0) X0 (hsp0) hN0 hW0).2)
theorem Fs(k0 b:Nat)(J:i5)(hJ:j0 J)(E:r9)(hE:E.n<=1000000)(N:Nat)(p:Pst)(hR:Rel E N p)(hp:f9 p)(hn:p.n<=1000000)(l:Lab)(hl:LOk l)(n:Nat)(hfin:∀j,j<n->uc j)(hf:p.n<n):u3 218 k0 b J E N p [f4 l] (fun _=>i4) (i4) (I6 J.bucket (J.budget-E.n) n l p):=u3.re (Bp b J hJ E hE N p hR hp hn l hl n hfin hf) (by repeat(first|exact trivial|refine⟨zr,?_⟩))
theorem tI:∀n,po n/\uc n:=by
 intro n
 induction n using Nat.strongRecOn with
 |_ n ih=>
  have h1:po n:=fun k0 b J hJ E hE N p hR hp hn l hl hf=>Fs k0 b J hJ E hE N p hR hp hn l hl n (fun j hj=>(ih j hj).2) hf
  exact⟨h1,fun k0 b J hJ E hE N p hR hp hn l hl g hg hgh hf=>FN k0 b J hJ E hE N p hR hp hn l hl g hg hgh n h1 hf⟩
theorem yp(n:Nat):po n:=(tI n).1
theorem oQ(n:Nat):uc n:=(tI n).2
theorem tU(v lo hi:Int):j7 Tryz.prog 140 [.int .i64 v,.int .i64 lo,.int .i64 hi] (fun _=>.bool (.v (btw v lo hi))):=by
 intro m w hm hargs;refine en 15 hm hargs Tryz.func140 fun B O a0 Z=>?_
 refine wp_seq (rg O a6 [0,1,2] [] [] Z fun X0 _ _ Z=>?_);refine wp_seq (rg O a6 [6] [] [] Z fun X1 _ _ Z=>?_);refine wp_ret ((rsi O a6 Z f8 (he:=?_)));subst O;refine Sim.bool ?_
 show(if decide (lo<=v)=true then decide (v<=hi)else false)=_
 rw[z8];rfl
theorem Hy(J:i5)(hl:U64 J.lab.bits):j7 Tryz.prog 85 [aR J] (fun _=>.bool (.v (E5 J))):=by
 intro m w hm hargs;have S1:=tU J.bucket 1 16;have S2:=tU J.budget 0 2000;have S3:=tU J.how 1 2;have S4:=tU J.most 0 500;have SL:=fD J.lab hl;simp only[f4]at SL;obtain⟨q1,hq1⟩:=eqv (btw J.bucket 1 16);rw[<-hq1]at S1;obtain⟨q2,hq2⟩:=eqv (btw J.budget 0 2000);rw[<-hq2]at S2;obtain⟨q3,hq3⟩:=eqv (btw J.how 1 2);rw[<-hq3]at S3;obtain⟨q4,hq4⟩:=eqv (btw J.most 0 500);rw[<-hq4]at S4;obtain⟨ql,hql⟩:=eqv (isL J.lab);rw[<-hql]at SL;refine en 37 hm hargs Tryz.func85 fun B O a0 Z=>?_
 refine wp_seq (rg O a6 [1] [1] [] Z fun X0 _ _ Z=>?_);refine wp_seq (rg O a6 [1,3] [1] [] Z fun X1 _ _ Z=>?_);apply wp_seq;refine rg O a6 [2] [] [(3,.r fun _=>.bool (.v q1)),(8,.r fun _=>.bool (.v q2)),(14,.r fun _=>.bool (.v q3)),(20,.r fun _=>.bool (.v q4)),(31,.r fun _=>.bool (.v ql))] Z (hob:=by intro X;subst O;simp only[b7,Ob.holds,BE.den]<;>and_intros<;>repeat first|trivial|rfl|exact S1|exact S2|exact S3|exact S4|exact SL|exact(fun _ _=>by kernel_rfl)|refine⟨?_,?_⟩|intro h|exact Int.le_refl _|decide|omega) fun X2 _ _ Z=>?_
 refine wp_ret ((rsi O a6 Z f8 (he:=?_)));subst O;refine Sim.bool ?_
 show(if(if(if(if(if q1=true then q2 else false)=true then q3 else false)=true then q4 else false)=true then decide ((J.pn:Int)<=500)else false)=true then ql else false)=_
 simp only[z8];unfold E5;rw[<-hq1,<-hq2,<-hq3,<-hq4,<-hql];rfl
theorem FH(J:i5)(hl:U64 J.lab.bits):j7 Tryz.prog 92 [aR J] (fun _=>.bool (.v (E5 J))):=by
 intro m w hm hargs;have SL:=iR J.lab hl;simp only[f4]at SL;obtain⟨ql,hql⟩:=eqv (isL J.lab);rw[<-hql]at SL;refine en 52 hm hargs Tryz.func92 fun B O a0 Z=>?_
 refine wp_seq (rg O a6 [1] [1] [] Z fun X0 _ _ Z=>?_);have O1:=SL;refine wp_seq (rg O a6 [2] [] [(47,.r fun _=>.bool (.v ql))] Z fun X1 _ _ Z=>?_);refine wp_ret ((rsi O a6 Z f8 (he:=?_)));subst O;refine Sim.bool ?_
 show(if(if(if(if(if(if(if(if decide (J.bucket ≥ 1)=true then decide (J.bucket<=16)else false)=true then decide (J.budget ≥ 0)else false)=true then decide (J.budget<=2000)else false)=true then(if(J.how==1)=true then true else(J.how==2))else false)=true then decide (J.most ≥ 0)else false)=true then decide (J.most<=500)else false)=true then decide ((J.pn:Int)<=500)else false)=true then ql else false)=E5 J
 simp only[z8,V7];unfold E5 btw;rw[<-hql,Bool.eq_iff_iff]
 cases ql
 .simp
 simp only[Bool.and_eq_true,Bool.or_eq_true,decide_eq_true_eq,beq_iff_eq,and_true];omega
theorem Hz(g:u2)(hg:InG g):j7 Tryz.prog 84 [u5 g] (fun _=>.bool (.v (F4 g))):=by
 intro m w hm hargs;have SR:=eI g.x.A g.x.r.n g.x.c g.x.r.f hg.len g.x.r.kd g.x.r.nx g.x.r.mrk hg.nx;unfold F2 l7 at SR;obtain⟨ir,hir⟩:=eqv (D9 g.x.r.kd g.x.r.n g.x.r.f g.x.r.nx g.x.r.mrk);rw[<-hir]at SR;refine en 41 hm hargs Tryz.func84 fun B O a0 Z=>?_
 refine wp_seq (rg O a6 [1] [1] [] Z fun X0 _ _ Z=>?_);refine wp_seq (wp_block (wp_seq (rg O a6 [4,1] [1] [] Z fun X1 _ _ Z=>?_)));apply a7 Z rfl<;>intro hb Z
 .have hc:(decide (g.code=0)||decide (g.code=8))=false:=by
   have h9:(if(g.code != 0)=true then(g.code != 8)else false)=true:=by subst O;exact hb
   rw[z8]at h9
   by_cases h1:g.code=0<;>by_cases h2:g.code=8<;>simp[h1,h2]at h9 ⊢
  refine wp_seq (rg O a6 [2] [] [] Z fun X2 _ _ Z=>?_);refine wp_ret ((rsi O a6 Z f8 (he:=?_)));subst O;refine Sim.bool ?_
  show false=_
  unfold F4;rw[hc];rfl
 have hc:(decide (g.code=0)||decide (g.code=8))=true:=by
  have h9:(if(g.code != 0)=true then(g.code != 8)else false)=false:=by subst O;exact hb
  rw[z8]at h9
  by_cases h1:g.code=0<;>by_cases h2:g.code=8<;>simp[h1,h2]at h9 ⊢
 refine wp_seq (rg O a6 [13,1] [1] [] Z fun X3 _ _ Z=>?_);apply a7 Z rfl<;>intro hb Z
 .have hh:g.has=true:=hb
  have O1:=SR;refine wp_seq (rg O a6 [2] [] [(2,.r fun _=>.bool (.v ir))] Z fun X4 _ _ Z=>?_);refine wp_ret ((rsi O a6 Z f8 (he:=?_)));subst O;refine Sim.bool ?_
  show ir=_
  unfold F4;rw[hc,if_pos hh,<-hir];rfl
 have hh:¬g.has=true:=by rw[Bool.not_eq_true];exact hb
 refine wp_skip (wp_seq (rg O a6 [3] [3] [] Z fun X5 _ _ Z=>?_));apply wp_seq;refine rg O a6 [2] [] [] Z (hob:=by intro X;subst O;simp only[b7,Ob.holds,BE.den]<;>and_intros<;>repeat first|trivial|rfl|exact f7 (Kk:=noK) _ _ _ _|exact(fun _ _=>by kernel_rfl)|refine⟨?_,?_⟩|intro h|exact Int.le_refl _|decide|omega) fun X6 _ _ Z=>?_
 refine wp_ret ((rsi O a6 Z f8 (he:=?_)));subst O;refine Sim.bool ?_
 show(if(if(if(g.x.r.kd==0)=true then(((g.x.r.n:Nat):Int)==0)else false)=true then eqL [.int .i64 g.x.r.nx.len,.int .u64 g.x.r.nx.bits] [.int .i64 0,.int .u64 0]else false)=true then(g.x.r.mrk==0)else false)=_
 rw[aq g.x.r.nx ⟨0,0⟩];simp only[z8];have hn0:(((g.x.r.n:Nat):Int)==0)=decide (g.x.r.n=0):=by
  rw[Bool.eq_iff_iff,beq_iff_eq,decide_eq_true_eq];omega
 unfold F4;rw[hc,if_neg hh,hn0];rfl
theorem FI(g:u2)(hg:InG g):j7 Tryz.prog 91 [u5 g] (fun _=>.bool (.v (F4 g))):=by
 intro m w hm hargs;have SR:=iQ g.x.A g.x.r.n g.x.c g.x.r.f hg.len g.x.r.kd g.x.r.nx g.x.r.mrk hg.nx;unfold F2 l7 at SR;obtain⟨ir,hir⟩:=eqv (D9 g.x.r.kd g.x.r.n g.x.r.f g.x.r.nx g.x.r.mrk);rw[<-hir]at SR;have SS0:=wy g.x.A g.x.r.n g.x.c g.x.r.f hg.len g.x.r.kd g.x.r.nx g.x.r.mrk none 0 0 (fun _=>C2) 0 ⟨0,0⟩ 0;unfold F2 l7 at SS0;have SS:j7 Tryz.prog 46 [C7 g.x,.agg [.int .i64 0,.sl none none 0 0 2 (fun _=>[]),.int .i64 0,.int .u64 0,.int .u64 0]] (fun _=>.bool (.v (eo g.x.r.kd g.x.r.n g.x.r.f g.x.r.nx g.x.r.mrk 0 0 (fun _=>C2) ⟨0,0⟩ 0))):=SS0.sim ⟨zr,Sim.agg ⟨zr,J0,zr,zr,zr,trivial⟩,trivial⟩;obtain⟨sr,hsr⟩:=eqv (eo g.x.r.kd g.x.r.n g.x.r.f g.x.r.nx g.x.r.mrk 0 0 (fun _=>C2) ⟨0,0⟩ 0);rw[<-hsr]at SS;refine en 20 hm hargs Tryz.func91 fun B O a0 Z=>?_
 refine wp_seq (rg O a6 [1] [1] [] Z fun X0 _ _ Z=>?_);refine wp_seq (wp_seq (rg O a6 [10,1] [1] [] Z fun X1 _ _ Z=>?_));apply a7 Z rfl<;>intro hb Z
 .have hc:(decide (g.code=0)||decide (g.code=8))=false:=by
   have h9:(if(g.code != 0)=true then(g.code != 8)else false)=true:=by subst O;exact hb
   rw[z8]at h9
   by_cases h1:g.code=0<;>by_cases h2:g.code=8<;>simp[h1,h2]at h9 ⊢
  refine wp_seq (rg O a6 [2] [] [] Z fun X2 _ _ Z=>?_);refine wp_ret ((rsi O a6 Z f8 (he:=?_)));subst O;refine Sim.bool ?_
  show false=_
  unfold F4;rw[hc];rfl
 have hc:(decide (g.code=0)||decide (g.code=8))=true:=by
  have h9:(if(g.code != 0)=true then(g.code != 8)else false)=false:=by subst O;exact hb
  rw[z8]at h9
  by_cases h1:g.code=0<;>by_cases h2:g.code=8<;>simp[h1,h2]at h9 ⊢
 refine wp_skip (wp_seq (wp_seq (rg O a6 [12,1] [1] [] Z fun X3 _ _ Z=>?_)));apply a7 Z rfl<;>intro hb Z
 .have hh:g.has=true:=hb
  have O1:=SR;refine wp_seq (rg O a6 [2] [] [(2,.r fun _=>.bool (.v ir))] Z fun X4 _ _ Z=>?_);refine wp_ret ((rsi O a6 Z f8 (he:=?_)));subst O;refine Sim.bool ?_
  show ir=_
  unfold F4;rw[hc,if_pos hh,<-hir];rfl
 have hh:¬g.has=true:=by rw[Bool.not_eq_true];exact hb
 have O1:=SS;refine wp_skip (wp_seq (rg O a6 [2] [] [(3,.r fun _=>.bool (.v sr))] Z fun X5 _ _ Z=>?_));refine wp_ret ((rsi O a6 Z f8 (he:=?_)));subst O;refine Sim.bool ?_
 show sr=_
 have hs:eo g.x.r.kd g.x.r.n g.x.r.f g.x.r.nx g.x.r.mrk 0 0 (fun _=>C2) ⟨0,0⟩ 0=(decide (g.x.r.kd=0)&&decide (g.x.r.n=0)&&decide (g.x.r.nx=⟨0,0⟩)&&decide (g.x.r.mrk=0)):=by
  unfold eo dS
  by_cases hn0:g.x.r.n=0
  .simp [hn0]
  simp[hn0]
 rw[hsr,hs];unfold F4;rw[hc,if_neg hh];rfl
theorem Hr(g:u2)(hg:InG g):j7 Tryz.prog 83 [u5 g] (fun _=>.bool (.v (!F4 g))):=by
 intro m w hm hargs;have S:=Hz g hg;obtain⟨q,hq⟩:=eqv (F4 g);rw[<-hq]at S ⊢;refine en 6 hm hargs Tryz.func83 fun B O a0 Z=>?_
 refine wp_seq (rg O a6 [1] [1] [] Z fun X0 _ _ Z=>?_);have O1:=S;refine wp_seq (rg O a6 [2] [] [(1,.r fun _=>.bool (.v q))] Z fun X1 _ _ Z=>?_);refine wp_ret ((rsi O a6 Z f8 (he:=?_)));subst O;exact zr
theorem Hx(A:Option Addr)(n c:Nat)(f:Nat->u2)(hin:∀j,j<n->InG (f j)):j7 Tryz.prog 142 [cR A n c f,.fn 83 [] []] (fun x=>.int .i64 (if K4 n f=true then -1 else(x.b:Int))):=by
 intro m w hm hargs;have hlen:=iW (hargs (cR A n c f) (by simp));have hmx:maxLen=9223372036854775807:=rfl;refine en 19 hm hargs Tryz.func142 fun B O a0 Z=>?_
 refine wp_seq (rg O a6 [0,1] [] [] Z fun X0 _ _ Z=>?_);refine wp_seq (wp_seq (rg O a6 [8,0,1,7] [] [] Z fun X1 _ _ Z=>?_));refine wp_block (l5 (ι:=Nat) (fun p=>[(8,.int .i64 (p:Int))]) (fun p=>[]) (fun p=>[]) (fun p=>p<=n/\∀j,j<p->F4 (f j)=true) (fun p=>n-p) 0 ⟨Nat.zero_le _,fun i hi=>absurd hi (Nat.not_lt_zero _)⟩ Z ?_)
 rintro i ⟨hi,hall⟩ _ _ Z
 try dsimp only at hi
 try dsimp only at hall
 refine wp_seq (rg O a6 [9,0,1,7,8] [] [] Z fun X2 _ _ Z=>?_);refine wp_seq (a7 Z rfl (fun hb Z=>?_) (fun hb Z=>?_))
 .have hin_:i<n:=by
   have:(i:Int)<(n:Int):=by subst O;simpa[std,a8]using hb
   omega
  have S:=Hr (f i) (hin i hin_);obtain⟨q,hq⟩:=eqv (F4 (f i));rw[<-hq]at S;refine wp_skip (wp_seq (wp_block (wp_seq (rg O a6 [0,1,5,7,8] [] [] Z fun X3 _ _ Z=>?_))));apply wp_seq;refine rg O a6 [16,0,1,5,7,8] [] [(5,.r fun _=>.bool (.v (!q)))] Z (hob:=by intro X;subst O;simp only[b7,Ob.holds,BE.den]<;>and_intros<;>repeat first|trivial|rfl|exact(show(0:Int)<=(i:Int)by omega)|exact(show(i:Int)<(n:Int)by omega)|exact S|exact⟨(show(0:Int)<=(i:Int)by omega),(show(i:Int)<(n:Int)by omega)⟩|exact(fun _ _=>by kernel_rfl)|refine⟨?_,?_⟩|intro h|exact Int.le_refl _|decide|omega) fun X4 _ _ Z=>?_
  apply a7 Z rfl<;>intro hb Z
  .have hne:F4 (f i)=false:=by
    rw[<-hq];have:(!q)=true:=hb
    simpa using this
   refine wp_seq (rg O a6 [4] [] [] Z fun X5 _ _ Z=>?_);refine wp_ret ((rsp O a6 Z (⟨i,fun _=>none,fun _=>0,fun _=>.empty⟩) (he:=?_)).1);subst O;rw[nO hin_ hne];rfl
  have hne:F4 (f i)=true:=by
   rw[<-hq];have:(!q)=false:=hb
   simpa using this
  refine wp_skip (rg O a6 [8,0,1,7] [] [] Z fun X6 _ _ Z=>?_);have e:B.arith .add .i64 (i:Int) 1=((i+1:Nat):Int):=by subst O;exact o3 (n:=n) hin_ (by omega)
  refine⟨i+1,⟨by omega,fun j hj=>?_⟩,by omega,by rw[<-e];exact Z⟩
  by_cases hij:j=i
  .rw [hij];exact hne
  exact hall j (by omega)
 have hout:i=n:=by
  have:¬(i:Int)<(n:Int):=by subst O;simpa[std,a8]using hb
  omega
 refine wp_exit (wp_seq (rg O a6 [4] [] [] Z fun X7 _ _ Z=>?_));refine wp_ret ((rsp O a6 Z f8 (he:=?_)).1);subst O;rw[hout]at hall;rw[mi hall];rfl
theorem HZ(A:Option Addr)(n c:Nat)(f:Nat->u2)(hin:∀j,j<n->InG (f j)):j7 Tryz.prog 87 [cR A n c f,.fn 83 [] []] (fun _=>.bool (.v (!K4 n f))):=by
 intro m w hm hargs;have S0:=Hx A n c f hin;obtain⟨q,hq⟩:=eqv (K4 n f);rw[<-hq]at S0 ⊢;refine en 9 hm hargs Tryz.func87 fun B O a0 Z=>?_
 refine wp_seq (rg O a6 [0,1] [] [] Z fun X0 _ _ Z=>?_);have O1:=S0;refine wp_seq (rg O a6 [4] [] [(2,.r fun x=>.int .i64 (if q=true then -1 else(x.b:Int)))] Z fun X1 _ _ Z=>?_);refine wp_ret ((rsi O a6 Z f8 (he:=?_)));subst O;refine Sim.bool ?_
 show decide ((if q=true then -1 else(((X1 2).b:Nat):Int)) ≥ 0) = !q
 cases q
 .simp
 rfl
theorem HW(J:i5)(hl:U64 J.lab.bits)(A:Option Addr)(n c:Nat)(f:Nat->u2)(hin:∀j,j<n->InG (f j)):j7 Tryz.prog 37 [aR J,cR A n c f] (fun _=>.bool (.v (K4 n f&&E5 J))):=by
 intro m w hm hargs;have hlen:=iW (hargs (cR A n c f) (by simp));have hmx:maxLen=9223372036854775807:=rfl;have SJ:=FH J hl;obtain⟨ij,hij⟩:=eqv (E5 J);rw[<-hij]at SJ;refine en 20 hm hargs Tryz.func37 fun B O a0 Z=>?_
 refine wp_seq (rg O a6 [1,2] [2] [] Z fun X0 _ _ Z=>?_);refine wp_seq (wp_seq (rg O a6 [5,1,2] [2] [] Z fun X1 _ _ Z=>?_));refine wp_block (l5 (ι:=Nat) (fun p=>[(5,.int .i64 (p:Int))]) (fun p=>[]) (fun p=>[]) (fun p=>p<=n/\∀j,j<p->F4 (f j)=true) (fun p=>n-p) 0 ⟨Nat.zero_le _,fun i hi=>absurd hi (Nat.not_lt_zero _)⟩ Z ?_)
 rintro i ⟨hi,hall⟩ _ _ Z
 try dsimp only at hi
 try dsimp only at hall
 refine wp_seq (wp_seq (rg O a6 [9,1,2,5] [2] [] Z fun X2 _ _ Z=>?_));apply a7 Z rfl<;>intro hb Z
 .have hin_:i<n:=by
   have:(i:Int)<(n:Int):=by subst O;simpa[std,a8]using hb
   omega
  have S:=FI (f i) (hin i hin_);obtain⟨q,hq⟩:=eqv (F4 (f i));rw[<-hq]at S;refine wp_skip (wp_seq (wp_block (wp_seq ?_)));refine rg O a6 [17,1,2,5] [2] [(4,.r fun _=>.bool (.v q))] Z (hob:=by intro X;subst O;simp only[b7,Ob.holds,BE.den]<;>and_intros<;>repeat first|trivial|rfl|exact(show(0:Int)<=(i:Int)by omega)|exact(show(i:Int)<(n:Int)by omega)|exact S|exact⟨(show(0:Int)<=(i:Int)by omega),(show(i:Int)<(n:Int)by omega)⟩|exact(fun _ _=>by kernel_rfl)|refine⟨?_,?_⟩|intro h|exact Int.le_refl _|decide|omega) fun X4 _ _ Z=>?_
  apply a7 Z rfl<;>intro hb Z
  .have hne:F4 (f i)=false:=by
    rw[<-hq];have:(!q)=true:=by subst O;exact hb
    simpa using this
   refine wp_seq (rg O a6 [4] [] [] Z fun X5 _ _ Z=>?_);refine wp_ret ((rsp O a6 Z f8 (he:=?_)).1);subst O;rw[nO hin_ hne];rfl
  have hne:F4 (f i)=true:=by
   rw[<-hq];have:(!q)=false:=by subst O;exact hb
   simpa using this
  refine wp_skip (rg O a6 [5,1,2] [2] [] Z fun X3 _ _ Z=>?_);have e:B.arith .add .i64 (i:Int) 1=((i+1:Nat):Int):=by subst O;exact o3 (n:=n) hin_ (by omega)
  refine⟨i+1,⟨by omega,fun j hj=>?_⟩,by omega,by rw[<-e];exact Z⟩
  by_cases hij:j=i
  .rw [hij];exact hne
  exact hall j (by omega)
 have hout:i=n:=by
  have:¬(i:Int)<(n:Int):=by subst O;simpa[std,a8]using hb
  omega
 have O1:=SJ;refine wp_exit (wp_seq (rg O a6 [4] [] [(1,.r fun _=>.bool (.v ij))] Z fun X6 _ _ Z=>?_));refine wp_ret ((rsp O a6 Z f8 (he:=?_)).1);subst O;rw[hout]at hall;rw[mi hall,<-hij];rfl
theorem ig:j6 Tryz.prog 88:=fun _ _=>by kernel_rfl
theorem As(Q q0:A8)(e:Int)(b8 b9 b11 br:Nat)(J:i5)(A:Option Addr)(c:Nat)(p:Pst)(hz:p.n=0):qG Tryz.prog 88 .returning .returning .nili [.ptr 8 b8 0,.ptr 11 b11 0,.ptr 9 b9 0] [(8,⟨b8,40,dU q0⟩),(11,⟨b11,113,[.ptr 32 br 0]⟩),(9,⟨b9,36,[.int .i64 e]⟩),(32,⟨br,139,C0 J A c p⟩)] (fun _=>⟨.tup [],[(8,dU q0),(11,[.ptr 32 br 0]),(9,[.int .i64 e]),(32,C0 J A c p)],[]⟩):=by
 intro m w hm hargs hpre hx;refine im .no hm hpre hargs hx Tryz.func88 (by exact rfl) (by exact rfl) (by exact rfl) (by exact rfl) (by exact rfl) (by simp[Tryz.ntmps88]) (by simp[Tryz.ntmps88]) fun a0 Z=>?_
 simp only[Tryz.ntmps88,B8,St.put]at Z;obtain⟨B,O⟩:=eqv std;refine wp_block (wp_seq (rg O a6 [8,6,0,1,2] [8,11,9,32] [] Z fun X3 a0 w1 Z=>?_));refine j1 Z rfl (fun Z=>?_);refine rg O a6 [0,1,2] [8,11,9,32] [] Z fun X4 a0 w1 Z=>?_
 refine wp_seq (rg O a6 [18,0,2] [8,11,9,32] [] Z fun X8 a0 w1 Z=>?_);apply a7 Z rfl<;>intro hb Z
 .exfalso
  have ht:0<p.n:=by
   have:(0:Int)<(p.n:Int):=by subst O;simpa[std,a8]using hb
   omega
  omega
 skip
 refine wp_skip ((rx O a6 Z f8 [] (hs:=?_)).2);subst O;exact⟨rfl,⟨_,rfl,zl⟩,rfl,⟨_,rfl,zl⟩,rfl,⟨_,rfl,zl⟩,rfl,⟨_,rfl,zl⟩,trivial⟩
theorem Ar(Q q0:A8)(e:Int)(b8 b9 b11 br:Nat)(J:i5)(A:Option Addr)(c:Nat)(p:Pst)(hz:0<p.n):qG Tryz.prog 88 .returning .returning .nili [.ptr 8 b8 0,.ptr 11 b11 0,.ptr 9 b9 0] [(8,⟨b8,40,dU q0⟩),(11,⟨b11,113,[.ptr 32 br 0]⟩),(9,⟨b9,36,[.int .i64 e]⟩),(32,⟨br,139,C0 J A c p⟩)] (fun _=>⟨.tup [],[(8,[.int .i64 0,.int .i64 0,.int .u64 0,.int .u64 0,.int .i64 0,.sl none none 0 0 2 (fun _=>[]),.int .i64 0,.int .u64 0,.int .u64 0,.int .i64 0,.bool .ff,.str ⟨#[]⟩,.sl none none 0 0 2 (fun _=>[]),.int .u64 0,.bool .ff]),(11,[.ptr 32 br 0]),(9,[.int .i64 5]),(32,C0 J A c p)],[]⟩):=by
 intro m w hm hargs hpre hx;refine im .no hm hpre hargs hx Tryz.func88 (by exact rfl) (by exact rfl) (by exact rfl) (by exact rfl) (by exact rfl) (by simp[Tryz.ntmps88]) (by simp[Tryz.ntmps88]) fun a0 Z=>?_
 simp only[Tryz.ntmps88,B8,St.put]at Z;obtain⟨B,O⟩:=eqv std;refine wp_block (wp_seq (rg O a6 [8,6,0,1,2] [8,11,9,32] [] Z fun X3 a0 w1 Z=>?_));refine j1 Z rfl (fun Z=>?_);refine rg O a6 [0,1,2] [8,11,9,32] [] Z fun X4 a0 w1 Z=>?_
 refine wp_seq (rg O a6 [18,0,2] [8,11,9,32] [] Z fun X8 a0 w1 Z=>?_);apply a7 Z rfl<;>intro hb Z
 .skip
  refine rg O a6 [] [8,11,9,32] [] Z fun X9 a0 w1 Z=>?_
  refine(rx O a6 Z f8 [] (hs:=?_)).2;subst O;exact⟨rfl,⟨_,rfl,zl⟩,rfl,⟨_,rfl,zl⟩,rfl,⟨_,rfl,zl⟩,rfl,⟨_,rfl,zl⟩,trivial⟩
 exfalso
 have ht:¬0<p.n:=by
  have:¬(0:Int)<(p.n:Int):=by subst O;simpa[std,a8]using hb
  omega
 exact ht hz
theorem xp(Q q0:A8)(e:Int)(b8 b9 b11 br:Nat)(J:i5)(A:Option Addr)(c:Nat)(p:Pst)(hz:p.n=0):qG Tryz.prog 88 (.panicking [{ v:=.iface 40 (D5 Q).den,recovered:=false }]) (.panicking [{ v:=.iface 40 (D5 Q).den,recovered:=true }]) (.ifc 40 (D5 Q)) [.ptr 8 b8 0,.ptr 11 b11 0,.ptr 9 b9 0] [(8,⟨b8,40,dU q0⟩),(11,⟨b11,113,[.ptr 32 br 0]⟩),(9,⟨b9,36,[.int .i64 e]⟩),(32,⟨br,139,C0 J A c p⟩)] (fun _=>⟨.tup [],[(8,dU Q),(11,[.ptr 32 br 0]),(9,[.int .i64 e]),(32,C0 J A c p)],[]⟩):=by
 intro m w hm hargs hpre hx;refine im (.yes 40 (D5 Q)) hm hpre hargs hx Tryz.func88 (by exact rfl) (by exact rfl) (by exact rfl) (by exact rfl) (by exact rfl) (by simp[Tryz.ntmps88]) (by simp[Tryz.ntmps88]) fun a0 Z=>?_
 simp only[Tryz.ntmps88,B8,St.put]at Z;obtain⟨B,O⟩:=eqv std;refine wp_block (wp_seq (rg O a6 [8,6,0,1,2] [8,11,9,32] [] Z fun X3 a0 w1 Z=>?_));refine j3 Z rfl (fun Z=>?_);obtain⟨dd,hu,hni⟩:=(l8 a6 (t:=40) rfl).conc rfl;refine wp_seq (wp_region_lit (jz rfl rfl rfl rfl Z (Nat.le_of_ble_eq_true rfl) rfl hu hni ?_));intro a0 Z;refine lnd 1 O a6 [10,11,0,1,2] [8,11,9,32] [] Z fun X5 a0 w1 Z=>?_
 refine j1 Z rfl (fun Z=>?_);refine wp_seq (rg O a6 [0,1,2,4] [8,11,9,32,4] [] Z fun X6 a0 w1 Z=>?_);refine rg O a6 [0,1,2] [8,11,9,32] [] Z fun X7 a0 w1 Z=>?_
 refine wp_seq (rg O a6 [18,0,2] [8,11,9,32] [] Z fun X8 a0 w1 Z=>?_);apply a7 Z rfl<;>intro hb Z
 .exfalso
  have ht:0<p.n:=by
   have:(0:Int)<(p.n:Int):=by subst O;simpa[std,a8]using hb
   omega
  omega
 skip
 refine wp_skip ((rx O a6 Z f8 [] (hs:=?_)).2);subst O;exact⟨rfl,⟨_,rfl,zl⟩,rfl,⟨_,rfl,zl⟩,rfl,⟨_,rfl,zl⟩,rfl,⟨_,rfl,zl⟩,trivial⟩
theorem xn(Q q0:A8)(e:Int)(b8 b9 b11 br:Nat)(J:i5)(A:Option Addr)(c:Nat)(p:Pst)(hz:0<p.n):qG Tryz.prog 88 (.panicking [{ v:=.iface 40 (D5 Q).den,recovered:=false }]) (.panicking [{ v:=.iface 40 (D5 Q).den,recovered:=true }]) (.ifc 40 (D5 Q)) [.ptr 8 b8 0,.ptr 11 b11 0,.ptr 9 b9 0] [(8,⟨b8,40,dU q0⟩),(11,⟨b11,113,[.ptr 32 br 0]⟩),(9,⟨b9,36,[.int .i64 e]⟩),(32,⟨br,139,C0 J A c p⟩)] (fun _=>⟨.tup [],[(8,[.int .i64 0,.int .i64 0,.int .u64 0,.int .u64 0,.int .i64 0,.sl none none 0 0 2 (fun _=>[]),.int .i64 0,.int .u64 0,.int .u64 0,.int .i64 0,.bool .ff,.str ⟨#[]⟩,.sl none none 0 0 2 (fun _=>[]),.int .u64 0,.bool .ff]),(11,[.ptr 32 br 0]),(9,[.int .i64 5]),(32,C0 J A c p)],[]⟩):=by
 intro m w hm hargs hpre hx;refine im (.yes 40 (D5 Q)) hm hpre hargs hx Tryz.func88 (by exact rfl) (by exact rfl) (by exact rfl) (by exact rfl) (by exact rfl) (by simp[Tryz.ntmps88]) (by simp[Tryz.ntmps88]) fun a0 Z=>?_
 simp only[Tryz.ntmps88,B8,St.put]at Z;obtain⟨B,O⟩:=eqv std;refine wp_block (wp_seq (rg O a6 [8,6,0,1,2] [8,11,9,32] [] Z fun X3 a0 w1 Z=>?_));refine j3 Z rfl (fun Z=>?_);obtain⟨dd,hu,hni⟩:=(l8 a6 (t:=40) rfl).conc rfl;refine wp_seq (wp_region_lit (jz rfl rfl rfl rfl Z (Nat.le_of_ble_eq_true rfl) rfl hu hni ?_));intro a0 Z;refine lnd 1 O a6 [10,11,0,1,2] [8,11,9,32] [] Z fun X5 a0 w1 Z=>?_
 refine j1 Z rfl (fun Z=>?_);refine wp_seq (rg O a6 [0,1,2,4] [8,11,9,32,4] [] Z fun X6 a0 w1 Z=>?_);refine rg O a6 [0,1,2] [8,11,9,32] [] Z fun X7 a0 w1 Z=>?_
 refine wp_seq (rg O a6 [18,0,2] [8,11,9,32] [] Z fun X8 a0 w1 Z=>?_);apply a7 Z rfl<;>intro hb Z
 .skip
  refine rg O a6 [] [8,11,9,32] [] Z fun X9 a0 w1 Z=>?_
  refine(rx O a6 Z f8 [] (hs:=?_)).2;subst O;exact⟨rfl,⟨_,rfl,zl⟩,rfl,⟨_,rfl,zl⟩,rfl,⟨_,rfl,zl⟩,rfl,⟨_,rfl,zl⟩,trivial⟩
 exfalso
 have ht:¬0<p.n:=by
  have:¬(0:Int)<(p.n:Int):=by subst O;simpa[std,a8]using hb
  omega
 exact ht hz
theorem zC{v v':AV}(h:Sim v v'):Sim (can v) (can v'):=
 ⟨by rw[J8,J8];exact h.1,by rw[kC,kC];exact h.2.1,fun m w hv=>(Q7 _).1 (h.2.2 _ _ ((Q7 _).2 hv))⟩
def dN(b8 b11 b9:Nat):Deferred:={ target:=.fn (.func 88) (AV.denL [.ptr 8 b8 0,.ptr 11 b11 0,.ptr 9 b9 0]).toArray,args:=(AV.denL []).toArray }
def Do(r:Rs Rsl):i8->Out:=fun x=>.ret ⟨.tup [D5 (wqA x (L8 r).1),.int .i64 (L8 r).2],[],[]⟩
theorem iv{m:Nat->Nat->Prop}{w:World}{b8 b11 b9:Nat}:∀v∈([]:List AV) ++ [.ptr 8 b8 0,.ptr 11 b11 0,.ptr 9 b9 0],Ok m w v:=by
 intro v hv;simp only[List.nil_append,List.mem_cons,List.not_mem_nil,or_false]at hv
 rcases hv with rfl|rfl|rfl<;>exact .ptr _ _ _
section
variable {m:Nat->Nat->Prop} {w0 w:World} {a:Act} {b8 b9 b11 br:Nat} {q0 Q:A8} {J:i5} {A:Option Addr} {c:Nat} {p:Pst} {r:Rs Rsl}
theorem EA{x:i8}{wq:Wq}(h:b6 ⟨m,w0,ats [],[dN b8 b11 b9],noK⟩ ⟨49,[(8,.ptr 8 b8 0),(9,.ptr 9 b9 0)],[],[(8,⟨b8,40,dU q0⟩),(9,⟨b9,36,[.int .i64 0]⟩),(11,⟨b11,113,[.ptr 32 br 0]⟩),(32,⟨br,139,C0 J A c p⟩)],[]⟩ a w)(hok:Ok (St.m ⟨49,[(8,.ptr 8 b8 0),(9,.ptr 9 b9 0)],[],[(8,⟨b8,40,dU q0⟩),(9,⟨b9,36,[.int .i64 0]⟩),(11,⟨b11,113,[.ptr 32 br 0]⟩),(32,⟨br,139,C0 J A c p⟩)],[]⟩ ⟨m,w0,ats [],[],noK⟩) w (D5 Q))(hQ:Q=wqA x wq)(hr:r = .stop wq p) :
  bodyPostD Tryz.prog Tryz.f35 (jL m w0 [] (Do r)) (.panic [{ v:=.iface 40 (D5 Q).den,recovered:=false }]) a w:=by
 subst hr
 show Leaves _ _ a.tmps _ a.defers (.panicking _) w
 by_cases hz:p.n=0
 .have ht:L8 (.stop wq p)=(wq,0):=by simp[L8,hz]
  refine kw (C:=⟨m,w0,ats [],[],noK⟩) (l:=[]) (r:=[.ptr 8 b8 0,.ptr 11 b11 0,.ptr 9 b9 0]) (ds:=[]) (x:=(.ifc 40 (D5 Q))) h (by simp) ig (xp Q q0 0 b8 b9 b11 br J A c p hz) iv (.ifc _ _ hok) (by intro e he;simp only[List.mem_cons,List.not_mem_nil,or_false]at he;rcases he with rfl|rfl|rfl|rfl<;>rfl) rfl fun w2 h2=>?_
  show Leaves _ _ a.tmps _ [] .returning w2
  refine cN (a:={ tmps:=a.tmps,defers:=[] }) a6 h2 (rs:=[.cell 8 40,.cell 9 36]) rfl (by conv=>lhs;cbv) ?_ x rfl [] ?_ trivial trivial
  .simp [b7,Ob.holds]
  rw[ht,hQ];exact zr
 have hz:0<p.n:=by omega
 have ht:L8 (.stop wq p)=(zWq,5):=by simp[L8,hz]
 refine kw (C:=⟨m,w0,ats [],[],noK⟩) (l:=[]) (r:=[.ptr 8 b8 0,.ptr 11 b11 0,.ptr 9 b9 0]) (ds:=[]) (x:=(.ifc 40 (D5 Q))) h (by simp) ig (xn Q q0 0 b8 b9 b11 br J A c p hz) iv (.ifc _ _ hok) (by intro e he;simp only[List.mem_cons,List.not_mem_nil,or_false]at he;rcases he with rfl|rfl|rfl|rfl<;>rfl) rfl fun w2 h2=>?_
 show Leaves _ _ a.tmps _ [] .returning w2
 refine cN (a:={ tmps:=a.tmps,defers:=[] }) a6 h2 (rs:=[.cell 8 40,.cell 9 36]) rfl (by conv=>lhs;cbv) ?_ ⟨0,fun _=>none,fun _=>0,fun _=>.empty⟩ rfl [] ?_ trivial trivial
 .simp [b7,Ob.holds]
 rw[ht];exact Sim.tup ⟨Sim.agg ⟨zr,zr,zr,zr,zr,zq0,zr,zr,zr,zr,zr,zr,zq0,zr,zr,trivial⟩,zr,trivial⟩
theorem EB{x:i8}{r1:Rsl}(h:b6 ⟨m,w0,ats [],[dN b8 b11 b9],noK⟩ ⟨49,[(8,.ptr 8 b8 0),(9,.ptr 9 b9 0)],[],[(8,⟨b8,40,dU q0⟩),(9,⟨b9,36,[.int .i64 0]⟩),(11,⟨b11,113,[.ptr 32 br 0]⟩),(32,⟨br,139,C0 J A c p⟩)],[]⟩ a w)(hq:Sim (D5 q0) (D5 (wqA x ⟨4,⟨0,0⟩,0,i9,r1⟩)))(hr:r = .ok r1 p) :
  bodyPostD Tryz.prog Tryz.f35 (jL m w0 [] (Do r)) .ret a w:=by
 subst hr
 show Leaves _ _ a.tmps _ a.defers .returning w
 by_cases hz:p.n=0
 .have ht:L8 (.ok r1 p)=(⟨4,⟨0,0⟩,0,i9,r1⟩,0):=by simp[L8,hz]
  refine kw (C:=⟨m,w0,ats [],[],noK⟩) (l:=[]) (r:=[.ptr 8 b8 0,.ptr 11 b11 0,.ptr 9 b9 0]) (ds:=[]) (x:=.nili) h (by simp) ig (As q0 q0 0 b8 b9 b11 br J A c p hz) iv .nili (by intro e he;simp only[List.mem_cons,List.not_mem_nil,or_false]at he;rcases he with rfl|rfl|rfl|rfl<;>rfl) rfl fun w2 h2=>?_
  show Leaves _ _ a.tmps _ [] .returning w2
  refine cN (a:={ tmps:=a.tmps,defers:=[] }) a6 h2 (rs:=[.cell 8 40,.cell 9 36]) rfl (by conv=>lhs;cbv) ?_ x rfl [] ?_ trivial trivial
  .simp [b7,Ob.holds]
  rw[ht];exact Sim.tup ⟨zC hq,zr,trivial⟩
 have hz:0<p.n:=by omega
 have ht:L8 (.ok r1 p)=(zWq,5):=by simp[L8,hz]
 refine kw (C:=⟨m,w0,ats [],[],noK⟩) (l:=[]) (r:=[.ptr 8 b8 0,.ptr 11 b11 0,.ptr 9 b9 0]) (ds:=[]) (x:=.nili) h (by simp) ig (Ar q0 q0 0 b8 b9 b11 br J A c p hz) iv .nili (by intro e he;simp only[List.mem_cons,List.not_mem_nil,or_false]at he;rcases he with rfl|rfl|rfl|rfl<;>rfl) rfl fun w2 h2=>?_
 show Leaves _ _ a.tmps _ [] .returning w2
 refine cN (a:={ tmps:=a.tmps,defers:=[] }) a6 h2 (rs:=[.cell 8 40,.cell 9 36]) rfl (by conv=>lhs;cbv) ?_ ⟨0,fun _=>none,fun _=>0,fun _=>.empty⟩ rfl [] ?_ trivial trivial
 .simp [b7,Ob.holds]
 rw[ht];exact Sim.tup ⟨Sim.agg ⟨zr,zr,zr,zr,zr,zq0,zr,zr,zr,zr,zr,zr,zq0,zr,zr,trivial⟩,zr,trivial⟩
end
theorem ED{cap:List AV}(F:FuncId)(r:Rs Rsl)(J:i5)(hJ:da J)(A:Option Addr)(n c:Nat)(f:Nat->u2)(hn:n<=900000)(hin:∀j,j<n->InG (f j))(kG:Option Nat)(kA:Option Addr)(kn kc:Nat)(kf:Nat->Int)(hdo:(E5 J&&dM kn kf J.kind&&K4 n f)=true->∀k0 b,pl F k0 b (J.less n) A c (my n f) cap r)(hen:j6 Tryz.prog F):yW Tryz.prog 35 [aR J,cR A n c f,.sl kG kA kn kc 1 (fun i=>[.int .i64 (kf i)]),.fn F [] cap] [] (fun x=>.ret ⟨.tup [D5 (wqA x (gK (E5 J&&dM kn kf J.kind&&K4 n f) r).1),.int .i64 (gK (E5 J&&dM kn kf J.kind&&K4 n f) r).2],[],[]⟩):=by
 intro m w hm hargs hpre;have S1:=Hy J hJ.lab;have S2:j7 Tryz.prog 86 [.sl kG kA kn kc 1 (fun i=>[.int .i64 (kf i)]),.int .i64 J.kind] (fun _=>.bool (.v (dM kn kf J.kind))):=(oU kA kn kc kf J.kind).sim ⟨Sim.recell (fun _ _=>rfl),zr,trivial⟩;have S3:=HZ A n c f hin;obtain⟨okb,hokb⟩:=eqv ((E5 J&&dM kn kf J.kind&&K4 n f));rw[<-hokb]at hdo ⊢;obtain⟨ij,hij⟩:=eqv (E5 J);rw[<-hij]at S1 hokb;obtain⟨ck,hck⟩:=eqv (dM kn kf J.kind);rw[<-hck]at S2 hokb;obtain⟨ag,hag⟩:=eqv (K4 n f);rw[<-hag]at S3 hokb;refine Fl hm hpre hargs Tryz.func35 rfl (by simp[Tryz.ntmps35]) fun a0 Z=>?_
 simp only[Tryz.ntmps35,B8]at Z;obtain⟨B,O⟩:=eqv std;refine wp_seq (rg O a6 [1,2,3,4,8,9] [4,8,9] [] Z fun X0 a0 w1 Z=>?_);refine wp_seq (rg O a6 [1,2,3,4,8,9,10] [4,8,9] [] Z fun X1 a0 w1 Z=>?_);have O1:=S1;have O2:=S2;have O3:=S3;refine wp_seq (wp_seq (rg O a6 [26,1,3,4,8,9] [4,8,9] [(1,.r fun _=>.bool (.v ij)),(7,.r fun _=>.bool (.v ck)),(13,.r fun _=>.bool (.v (!ag)))] Z fun X2 a0 w1 Z=>?_));apply a7 Z rfl<;>intro hb Z
 .have hf:okb=false:=by
   have h9:(if(if(!ij)=true then true else !ck)=true then true else !ag)=true:=by subst O;exact hb
   rw[hokb];cases ij<;>cases ck<;>cases ag<;>first|rfl|cases h9
  refine wp_seq (rg O a6 [8,9] [8,9] [] Z fun X3 a0 w1 Z=>?_);refine wp_ret (Hj (fn:=Tryz.f35) a6 Z (rs:=[.cell 8 40,.cell 9 36]) rfl (by conv=>lhs;cbv) ?_ ⟨0,fun _=>none,fun _=>0,fun _=>.empty⟩ rfl [] ?_ trivial trivial)
  .subst O;simp[b7,Ob.holds]
  rw[hf];subst O;exact Sim.tup ⟨Sim.agg ⟨zr,zr,zr,zr,zr,zq0,zr,zr,zr,zr,zr,zr,zq0,zr,zr,trivial⟩,zr,trivial⟩
 have hf:okb=true:=by
  have h9:(if(if(!ij)=true then true else !ck)=true then true else !ag)=false:=by subst O;exact hb
  rw[hokb];cases ij<;>cases ck<;>cases ag<;>first|rfl|cases h9
 have hjb:E5 J=true:=by
  rw[<-hij];rw[hokb]at hf;revert hf;cases ij<;>simp
 have hjo:=oB hJ hjb hn;have e1:IntKind.i64.wrap (J.budget-(n:Int))=(J.less n).budget:=o8 (by have:=hjo.lo;show -9223372036854775808<=(J.less n).budget;omega) (by have:=hjo.hi;show(J.less n).budget<=9223372036854775807;omega)
 refine wp_skip (wp_seq (rg O a6 [1,3,8,9,11] [32,8,9,11] [] Z fun X4 a0 w1 Z=>?_));refine wp_seq (rg O a6 [3,8,9,11] [32,8,9,11] [] Z fun X5 a0 w1 Z=>?_);replace Z:=Z.memS (cells':=C0 (J.less n) A c (my n f)) (by subst O;exact⟨zr,zr,zr,zr,zr,zr,zr,zr,zr,zr,zr,zr,zr,zr,Sim.of_eq (congrArg (AV.int .i64) e1),zr,zr,Sim.ff,zr,zr,zr,zr,trivial⟩);refine wp_seq (wp_region_lit (lpr 0 1 O a6 [44,3,8,9,11] [32,8,9,11] [] Z fun X6_0 a0 w1 Z=>?_));refine uV rfl rfl rfl rfl rfl Z rfl rfl ?_;intro a0 Z;replace Z:b6 ⟨m,w,ats [],[dN (X0 1).b (X4 5).b (X0 2).b],noK⟩ _ _ _:=Z;refine wpList_nil (wp_seq (wp_region_lit (lpr 0 2 O a6 [45,46,8,9] [32,8,9,11] [] Z fun X7_0 a0 w1 Z=>?_)));have SD:=hdo hf 32 (X4 4).b
 rcases hmd:r with⟨r1,p1⟩|⟨w1_,p1⟩
 .obtain ⟨rl,hrl⟩:∃y_,y_=r1.items.length:=⟨_,rfl⟩
  obtain⟨rf,hrf⟩:=eqv (itF r1.items);refine cK rfl rfl rfl rfl Z rfl rfl hen (SD.ok' hmd hrl hrf) (by subst O;exact zl) (fx rfl) rfl rfl ?_;intro x w' a0 Z;apply cM 3 O a6 [8,9] [8,9,11,32] [] Z
  .intro A X;conv=>lhs;cbv
  .intro X;subst O;first|exact trivial|(repeat(first|exact trivial|refine⟨rfl,?_⟩))
  intro X7 a0 w1 Z;obtain⟨q0,hq0⟩:=eqv ((⟨4,⟨0,0⟩,0,zRA,⟨r1.code,r1.had,r1.val,x.A 2,rl,x.c 2,rf,r1.key,r1.more⟩⟩:A8));replace Z:=Z.memS (cells':=dU q0) (by rw[hq0];subst O;exact⟨zr,zr,zr,zr,zr,zq0,zr,zr,zr,zr,zr,zr,zr,zr,zr,trivial⟩);refine wp_ret ?_;rw[show gK okb (.ok r1 p1)=L8 (.ok r1 p1)by rw[hf];rfl];exact EB (x:=⟨0,fun i=>if i=1 then none else x.A i,fun i=>if i=1 then 0 else x.c i,fun _=>.empty⟩) (q0:=q0) (J:=J.less n) (A:=x.A 0) (c:=x.c 0) (p:=p1) Z (by rw[hq0,hrl,hrf];exact Sim.agg ⟨zr,zr,zr,zr,zr,zq0,zr,zr,zr,zr,zr,zr,zr,zr,zr,trivial⟩) rfl
 refine cK rfl rfl rfl rfl Z rfl rfl hen (SD.stop hmd) (by subst O;exact zl) (fx rfl) rfl rfl ?_;intro x w' Z hok;replace Z:=Z.keep [8,9] [8,9,11,32];replace Z:=Z.memS (cells':=dU ⟨0,⟨0,0⟩,0,zRA,fH⟩) (by exact⟨zr,zr,zr,zr,zr,zq0,zr,zr,zr,zr,Sim.ff,zr,zq0,zr,Sim.ff,trivial⟩);rw[show gK okb (.stop w1_ p1)=L8 (.stop w1_ p1)by rw[hf];rfl];refine EA (x:=x) (wq:=w1_) (q0:=⟨0,⟨0,0⟩,0,zRA,fH⟩) (J:=J.less n) (A:=x.A 0) (c:=x.c 0) (p:=p1) Z (hok.mono fun b o u h1 h2=>⟨h1,fun hh=>h2 ?_⟩) rfl rfl;refine Hv (fun _ _ h=>h) ?_ rfl hh;intro y hy;simp only[List.mem_cons,List.not_mem_nil,or_false]at hy
 rcases hy with rfl|rfl|rfl|rfl<;>first|exact⟨8,_,rfl,rfl⟩|exact⟨9,_,rfl,rfl⟩|exact⟨11,_,rfl,rfl⟩|exact⟨32,_,rfl,rfl⟩
theorem AR{J:i5}(h:E5 J=true):J.how=1 \/ J.how=2:=by
 unfold E5 btw at h;simp only[Bool.and_eq_true,decide_eq_true_eq]at h;omega
theorem wO:U4 lz:=⟨⟨by decide,by decide⟩,by decide,fun x hx=>by cases hx⟩
theorem ce{bk k key:Int}(hk:U64 key):∀(n:Nat) (l:Lab) (p:Pst),LOk l->f9 p->Q9 (C8 bk k key n l p)
 |0,l,p,_,_=>dQ
 |n+1,l,p,hl,hp=>by
  unfold C8;refine j4 (L6 hl) fun g p1 e1=>?_
  have hp1:=hp.suf ((i7 _ _ _).of e1);refine j8 (fun _=>trivial) fun _=>j8 (fun _=>j4 (jX hl (hp.get e1) hp1) fun _ p2 e2=>ce hk n l p2 hl (hp1.suf ((F9 _ _ _ _ _ _).of e2))) fun _=>j8 (fun _=>ce hk n _ p1 (iX hk _) hp1) fun _=>j8 (fun _=>j4 (nQ hl hp1) fun _ p2 e2=>ce hk n _ p2 R7 (hp1.suf ((E8 _ _ _ _ _).of e2))) fun _=>j8 (fun _=>j4 (Y1 R7 wO) fun _ p2 e2=>ce hk n _ p2 R7 (hp1.suf ((l6 _ _ _ _ _).of e2))) fun _=>ce hk n _ p1 R7 hp1
theorem zh{bk k:Int}{n:Nat}{l:Lab}{p:Pst}(hl:LOk l)(hp:f9 p):Q9 (bG bk k n l p):=by
 unfold bG;refine j8 (fun _=>j4 (L6 hl.par) fun q p1 e1=>j8 (fun _=>?_) fun _=>trivial) fun _=>trivial
 exact j4 (nQ hl (hp.suf ((i7 _ _ _).of e1))) fun _ _ _=>trivial
theorem eV{bk k key:Int}(hk:U64 key):∀(n:Nat) (lo hi:Int) (p:Pst),f9 p->Q9 (D7 bk k key n lo hi p)
 |0,lo,hi,p,_=>dQ
 |n+1,lo,hi,p,hp=>by
  unfold D7;refine j8 (fun _=>?_) fun _=>ce hk _ _ p R7 hp
  have hl:=iX hk ((lo+hi) / 2);refine j4 (L6 hl) fun g p1 e1=>?_
  have hp1:=hp.suf ((i7 _ _ _).of e1);refine j8 (fun _=>trivial) fun _=>j8 (fun _=>eV hk n _ _ p1 hp1) fun _=>j8 (fun _=>j4 (jX hl (hp.get e1) hp1) fun _ p2 e2=>eV hk n _ _ p2 (hp1.suf ((F9 _ _ _ _ _ _).of e2))) fun _=>j8 (fun _=>j4 (zh hl hp1) fun b p2 e2=>?_) fun _=>eV hk n _ _ p1 hp1
  have hp2:=hp1.suf ((gY _ _ _ _ _).of e2);exact j8 (fun _=>eV hk n _ _ p2 hp2) fun _=>eV hk n _ _ p2 hp2
theorem nR{bk k how key:Int}(hk:U64 key){n:Nat}{p:Pst}(hp:f9 p):Q9 (dV bk k how key n p):=j8 (fun _=>ce hk _ _ _ R7 hp) fun _=>eV hk _ _ _ _ hp
theorem kz(bk k how key:Int)(val:ByteArray):∀n x p,(P0 bk k how key val n x p).er id=P0 bk k how key val n x.er p.er
 |0,x,p=>rfl
 |n+1,x,p=>o7 (k9 (bI _ _ _ _ _) fun _ _=>o7 rfl (k9 (oK _ _ _ _ _ _) fun _ _=>kz bk k how key val n _ _))
   (k9 (bI _ _ _ _ _) fun _ _=>o7 (k9 (oL _ _ _ _ _ _) fun _ _=>k9 (eP _ _ _ _ _ _) fun _ _=>kz bk k how key val n _ _) (k9 (oK _ _ _ _ _ _) fun _ _=>kz bk k how key val n _ _))
theorem Ff(bk k how key:Int)(val:ByteArray)(n:Nat)(p:Pst):(eJ bk k how key val n p).er id=eJ bk k how key val n p.er:=o7 rfl (k9 (oK _ _ _ _ _ _) fun _ _=>kz _ _ _ _ _ _ _ _)
theorem ye(bk k:Int):∀n l p,(P7 bk k n l p).er id=P7 bk k n l p.er
 |0,l,p=>rfl
 |n+1,l,p=>o7 (k9 (V8 _ _ _) fun _ _=>o7 (k9 (V8 _ _ _) fun _ _=>o7 (k9 (V8 _ _ _) fun _ _=>o7 (k9 (bI _ _ _ _ _) fun _ _=>o7 (k9 (oL _ _ _ _ _ _) fun _ _=>k9 (V8 _ _ _) fun _ _=>o7 (ye bk k n _ _) rfl) rfl) rfl) rfl) rfl) rfl
theorem yf(bk k how key:Int):∀n p,(Y5 bk k how key n p).er id=Y5 bk k how key n p.er
 |0,p=>rfl
 |n+1,p=>k9 (oK _ _ _ _ _ _) fun _ _=>o7 (k9 (bI _ _ _ _ _) fun _ q=>o7 (k9 (ye bk k n _ (q.nt _)) fun _ _=>rfl) (yf bk k how key n _)) rfl
theorem Fg(J:i5)(k:Int)(p:Pst):(bJ J k p).er id=bJ J k p.er:=o7 (Ff _ _ _ _ _ _ _) (yf _ _ _ _ _ _)
theorem Er:U4 fW:=⟨⟨by decide,by decide⟩,by decide,fun x hx=>by cases hx⟩
theorem Gv{x:RA}(h:L3 x){key:Int}(hk:U64 key)(val:ByteArray):U4 (wA x key val).1:=by
 unfold wA wR
 split
 .exact M1
 split
 .exact M1
 split
 .exact M1
 split
 .exact M1
 rename_i h16
 refine⟨h.nx,Nat.le_of_not_lt h16,fun y hy=>?_⟩;have hsub:∀y∈I4 (b4 x.r.f x.r.n) key,U64 y.key:=fun y hy=>by
  obtain⟨t,ht,rfl⟩:=G3 (List.mem_filter.1 hy).1;exact h.key t ht
 rcases List.mem_append.1 (show y∈mA _ key++_ from hy)with hy|hy
 .exact hsub y ((List.takeWhile_sublist _).mem hy)
 rcases List.mem_cons.1 hy with rfl|hy
 .exact hk
 exact hsub y (List.mem_of_mem_drop hy)
theorem Hs{x:RA}(h:L3 x)(key:Int):U4 (oA x key).1:=by
 unfold oA oR
 split
 .refine ⟨h.nx,?_,fun y hy=>?_⟩
  .have h1:=List.length_filter_le (fun t=>!isK key t) (b4 x.r.f x.r.n)
   rw[i3]at h1;exact Nat.le_trans h1 h.few
  obtain⟨t,ht,rfl⟩:=G3 (List.mem_filter.1 hy).1;exact h.key t ht
 exact h.ro
theorem kH{bk k how key:Int}{val:ByteArray}(hk:U64 key):∀(n:Nat) (x:Spt) (p:Pst),jK x->f9 p->Q9 (P0 bk k how key val n x p)
 |0,x,p,_,_=>dQ
 |n+1,x,p,hx,hp=>by
  unfold P0;have S:∀q,f9 q->Q9 ((dV bk k how key n q).bind fun x p=>P0 bk k how key val n x p):=fun q hq=>j4 (nR hk hq) fun y r e=>kH hk n y r (dq hk hq e) (hq.suf ((R4 _ _ _ _ _ _).of e))
  refine j8 (fun _=>j4 (Y1 hx.lab2 (Gv hx.ok.ra hk val)) fun d q e=>j8 (fun _=>trivial) fun _=>S q (hp.suf ((l6 _ _ _ _ _).of e)))
   fun _=>j4 (Y1 hx.lab2 (hx.ok.ra.as 3 0).ro) fun d q e=>?_
  have hq:=hp.suf ((l6 _ _ _ _ _).of e);refine j8 (fun _=>j4 (jX hx.lab2 ((hx.ok.ra.as 3 0).up _) hq) fun _ r e2=>?_) fun _=>S q hq
  have hr:=hq.suf ((F9 _ _ _ _ _ _).of e2);exact j4 (ce hk _ _ _ hx.lab2 hr) fun y s e3=>kH hk n y s (cC hk hr hx.lab e3) (hr.suf ((J6 _ _ _ _ _ _).of e3))
theorem sq{bk k:Int}:∀(n:Nat) (l:Lab) (p:Pst),LOk l->f9 p->Q9 (P7 bk k n l p)
 |0,l,p,_,_=>dQ
 |n+1,l,p,hl,hp=>by
  unfold P7;refine j8 (fun _=>j4 (L6 hl.par) fun q p1 e1=>j8 (fun _=>j4 (L6 hl.sib) fun a p2 e2=>j8 (fun _=>j4 (L6 hl) fun b p3 e3=>j8 (fun _=>j4 (Y1 hl.par Er) fun d p4 e4=>j8 (fun _=>?_) fun _=>trivial) fun _=>trivial) fun _=>trivial) fun _=>trivial) fun _=>trivial
  have h4:=(((hp.suf ((i7 _ _ _).of e1)).suf ((i7 _ _ _).of e2)).suf ((i7 _ _ _).of e3)).suf ((l6 _ _ _ _ _).of e4);refine j4 (jX hl.par (kZ.up _) h4) fun _ p5 e5=>j4 (L6 hl.par) fun w p6 e6=>j8 (fun _=>?_) fun _=>trivial
  exact sq n _ p6 hl.par ((h4.suf ((F9 _ _ _ _ _ _).of e5)).suf ((i7 _ _ _).of e6))
theorem ss{bk k how key:Int}(hk:U64 key):∀(n:Nat) (p:Pst),f9 p->Q9 (Y5 bk k how key n p)
 |0,p,_=>dQ
 |n+1,p,hp=>by
  unfold Y5;refine j4 (nR hk hp) fun x q e=>?_
  have hx:=dq hk hp e;have hq:=hp.suf ((R4 _ _ _ _ _ _).of e);refine j8 (fun _=>j4 (Y1 hx.lab2 (Hs hx.ok.ra key)) fun d r e2=>?_) fun _=>trivial
  have hr:=hq.suf ((l6 _ _ _ _ _).of e2);exact j8 (fun _=>j4 (sq _ _ (r.nt _) hx.lab2 hr) fun _ _ _=>trivial) fun _=>ss hk n r hr
theorem tH{J:i5}(hJ:da J):Ii (J7 J)where
 er:=fun n f=>by
  unfold J7;rw[<-xr,Fg];rfl
 ok:=fun n f hin=>by
  unfold J7 gK
  split
  .rename_i h
   simp only[Bool.and_eq_true]at h;have hp:=rb hin h.2;refine vT (j8 (fun _=>j8 (fun _=>trivial) fun _=>?_) fun _=>ss hJ.key _ _ hp);exact j4 (nR hJ.key hp) fun y r e=>kH hJ.key _ y r (dq hJ.key hp e) (hp.suf ((R4 _ _ _ _ _ _).of e))
  exact dQ
theorem K7(w:World)(b j:Nat)(v:Value)(i:Nat)(h:b≠i):(w.setCell ⟨b,j,none⟩ v).heap[i]? = w.heap[i]?:=heap_setCell_other w ⟨b,j,none⟩ i v (fun e=>h e.symm)
theorem B6(w:World)(b j:Nat)(r:Array Value)(v:Value)(t:TypeId)(m:Nat×Nat)(h:w.heap[b]? = some (.cells r t m)):(w.setCell ⟨b,j,none⟩ v).heap[b]? = some (.cells (r.setIfInBounds j v) t m):=by
 rw[setCell_eq_setRow w b _ r _ _ _ h];exact setRow_heap w b r _ _ _ h
theorem xa{w:World}{B e k g n c:Nat}{xs:List Value}(h:Own w B e k (.slice (some ⟨g,0,none⟩) n c) n xs)(hn:0<n){j:Nat}(hj:j<n*k)(u:Value) :
  Own (w.setCell ⟨g,j,none⟩ u) B e k (.slice (some ⟨g,0,none⟩) n c) n (xs.set j u):=by
 rcases h.2 with⟨h0,_⟩|⟨g',cap,cur,hvv,hBg,hg,hnc,hc0,hcm,hcs,htake⟩
 .omega
 injection hvv with h1 _ h3
 injection h1 with h1;injection h1 with h1
 subst h1;subst h3;refine⟨by rw[List.length_set];exact h.1,.inr ⟨g,c,cur.setIfInBounds j u,rfl,hBg,?_,hnc,hc0,hcm,by simpa using hcs,?_⟩⟩
 .rw [setCell_eq_setRow w g _ cur _ _ _ hg];exact setRow_heap w g cur _ _ _ hg
 rw[Array.toList_setIfInBounds,List.take_set,htake]
theorem E3{w:World}{B e k n:Nat}{v:Value}{xs:List Value}(h:Own w B e k v n xs){b j:Nat}(hb:b<B)(u:Value):Own (w.setCell ⟨b,j,none⟩ u) B e k v n xs:=
 h.keep fun g hg=>K7 w b j u g (by have:=(h.lt g hg).1;omega)
theorem qe(l:List Itm)(p:Nat)(v:ByteArray)(h:p<l.length):(l.flatMap C9).set (p*2+1) (.string v)=(l.set p ⟨(itF l p).key,v⟩).flatMap C9:=by
 induction l generalizing p with
 |nil=>simp at h
 |cons x l ih=>
  cases p with
  |zero=>rfl
  |succ p=>
   have:=ih p (by simpa using h);have e:(p+1)*2+1=(p*2+1)+2:=by omega
   rw[e];simp only[List.set_cons_succ,List.flatMap_cons]
   show(.int .u64 x.key:Value) :: .string x.val::(l.flatMap C9).set (p*2+1) (.string v) = .int .u64 x.key :: .string x.val::_
   rw[this];rfl
structure Ig(w0 wq W5 W6 V1 V2 V3 V4 V5:World)(b g n c p:Nat)(v1:Value)(nx:Lab)(mk:Int)(val:ByteArray)(B:Nat)(xs:List Value):Prop where
 e5:wq.setCell ⟨b,1,none⟩ (.slice (some ⟨g,0,none⟩) n c)=W5
 r5:wq.cell? ⟨b,1,none⟩=some v1
 f5:wq.frozen? ⟨b,1,none⟩=false
 c5:W5.cell? ⟨b,1,none⟩=some (.slice (some ⟨g,0,none⟩) n c)
 e6:W5.setCell ⟨g,p*2+1,none⟩ (.string val)=W6
 r6:∃u,W5.cell? ⟨g,p*2+1,none⟩=some u
 f6:W5.frozen? ⟨g,p*2+1,none⟩=false
 d0:W6.cell? ⟨b,0,none⟩=some (.int .i64 1)
 d1:W6.cell? ⟨b,1,none⟩=some (.slice (some ⟨g,0,none⟩) n c)
 d2:W6.cell? ⟨b,2,none⟩=some (.int .i64 nx.len)
 d3:W6.cell? ⟨b,3,none⟩=some (.int .u64 nx.bits)
 d4:W6.cell? ⟨b,4,none⟩=some (.int .u64 mk)
 s0:W6.setCell ⟨b+1,0,none⟩ (.int .i64 1)=V1
 y0:W6.cell? ⟨b+1,0,none⟩=some (.int .i64 0)
 f70:W6.frozen? ⟨b+1,0,none⟩=false
 s1:V1.setCell ⟨b+1,1,none⟩ (.slice (some ⟨g,0,none⟩) n c)=V2
 y1:V1.cell? ⟨b+1,1,none⟩=some (.slice none 0 0)
 f71:V1.frozen? ⟨b+1,1,none⟩=false
 s2:V2.setCell ⟨b+1,2,none⟩ (.int .i64 nx.len)=V3
 y2:V2.cell? ⟨b+1,2,none⟩=some (.int .i64 0)
 f72:V2.frozen? ⟨b+1,2,none⟩=false
 s3:V3.setCell ⟨b+1,3,none⟩ (.int .u64 nx.bits)=V4
 y3:V3.cell? ⟨b+1,3,none⟩=some (.int .u64 0)
 f73:V3.frozen? ⟨b+1,3,none⟩=false
 s4:V4.setCell ⟨b+1,4,none⟩ (.int .u64 mk)=V5
 y4:V4.cell? ⟨b+1,4,none⟩=some (.int .u64 0)
 f74:V4.frozen? ⟨b+1,4,none⟩=false
 z0:V5.cell? ⟨b+1,0,none⟩=some (.int .i64 1)
 z1:V5.cell? ⟨b+1,1,none⟩=some (.slice (some ⟨g,0,none⟩) n c)
 z2:V5.cell? ⟨b+1,2,none⟩=some (.int .i64 nx.len)
 z3:V5.cell? ⟨b+1,3,none⟩=some (.int .u64 nx.bits)
 z4:V5.cell? ⟨b+1,4,none⟩=some (.int .u64 mk)
 own:Own V5 B 62 2 (.slice (some ⟨g,0,none⟩) n c) n (xs.set (p*2+1) (.string val))
 below:Below w0.heap.size w0 V5
theorem sv{w0 wq:World}{b g n c p:Nat}{nx:Lab}{mk:Int}{val:ByteArray}{B:Nat}{xs:List Value}{v1:Value}(hx:wq.heap[b]? = some (.cells #[.int .i64 1,v1,.int .i64 nx.len,.int .u64 nx.bits,.int .u64 mk] 35 (0,0)))
  (hy:wq.heap[b+1]? = some (.cells #[.int .i64 0,.slice none 0 0,.int .i64 0,.int .u64 0,.int .u64 0] 35 (0,0))) (hO:Own wq B 62 2 (.slice (some ⟨g,0,none⟩) n c) n xs) (hbB:b+1<B) (hw:w0.heap.size<=b) (hp:p<n) (hb:Below w0.heap.size w0 wq):∃W5 W6 V1 V2 V3 V4 V5,Ig w0 wq W5 W6 V1 V2 V3 V4 V5 b g n c p v1 nx mk val B xs:=by
 obtain⟨W5,e5⟩:∃W5,wq.setCell ⟨b,1,none⟩ (.slice (some ⟨g,0,none⟩) n c)=W5:=⟨_,rfl⟩
 obtain⟨W6,e6⟩:∃W6,W5.setCell ⟨g,p*2+1,none⟩ (.string val)=W6:=⟨_,rfl⟩
 have hc0:c≠0:=by obtain⟨A,c',he,h1,_⟩:=hO.isSlice;injection he with _ _ e;omega
 have hgv:o6 (.slice (some ⟨g,0,none⟩) n c)=some g:=by simp[o6,hc0]
 have hBg:=(hO.lt g hgv).1;have hx5:W5.heap[b]? = some (.cells #[.int .i64 1,.slice (some ⟨g,0,none⟩) n c,.int .i64 nx.len,.int .u64 nx.bits,.int .u64 mk] 35 (0,0)):=by rw[<-e5,B6 _ _ _ _ _ _ _ hx];rfl
 have hy5:=(K7 wq b 1 (.slice (some ⟨g,0,none⟩) n c) (b+1) (by omega)).trans hy;rw[e5]at hy5;have hO5:Own W5 B 62 2 (.slice (some ⟨g,0,none⟩) n c) n xs:=by rw[<-e5];exact E3 hO (by omega) _
 have hx6:=(K7 W5 g (p*2+1) (.string val) b (by omega)).trans hx5;have hy6:=(K7 W5 g (p*2+1) (.string val) (b+1) (by omega)).trans hy5;rw[e6]at hx6 hy6;have hO6:Own W6 B 62 2 (.slice (some ⟨g,0,none⟩) n c) n (xs.set (p*2+1) (.string val)):=by rw[<-e6];exact xa hO5 (by omega) (by omega) _
 obtain⟨cur,hcur⟩:=hO5.elem g hgv;have hgc:=M8 hO5 hgv (p*2+1) _ (List.getElem?_eq_getElem (by rw[hO5.1];omega));have hb6:Below w0.heap.size w0 W6:=by rw[<-e6,<-e5];exact(hb.setCell (by exact hw) _).setCell (by show w0.heap.size<=g;omega) _
 obtain⟨V1,g1⟩:∃V,W6.setCell ⟨b+1,0,none⟩ (.int .i64 1)=V:=⟨_,rfl⟩
 obtain⟨V2,g2⟩:∃V,V1.setCell ⟨b+1,1,none⟩ (.slice (some ⟨g,0,none⟩) n c)=V:=⟨_,rfl⟩
 obtain⟨V3,g3⟩:∃V,V2.setCell ⟨b+1,2,none⟩ (.int .i64 nx.len)=V:=⟨_,rfl⟩
 obtain⟨V4,g4⟩:∃V,V3.setCell ⟨b+1,3,none⟩ (.int .u64 nx.bits)=V:=⟨_,rfl⟩
 obtain⟨V5,g5⟩:∃V,V4.setCell ⟨b+1,4,none⟩ (.int .u64 mk)=V:=⟨_,rfl⟩
 have k1:=B6 W6 (b+1) 0 _ (.int .i64 1) _ _ hy6;rw[g1]at k1;have k2:=B6 V1 (b+1) 1 _ (.slice (some ⟨g,0,none⟩) n c) _ _ k1;rw[g2]at k2;have k3:=B6 V2 (b+1) 2 _ (.int .i64 nx.len) _ _ k2;rw[g3]at k3;have k4:=B6 V3 (b+1) 3 _ (.int .u64 nx.bits) _ _ k3;rw[g4]at k4;have k5:V5.heap[b+1]? = some (.cells #[.int .i64 1,.slice (some ⟨g,0,none⟩) n c,.int .i64 nx.len,.int .u64 nx.bits,.int .u64 mk] 35 (0,0)):=by rw[<-g5];exact B6 _ _ _ _ _ _ _ k4
 refine⟨W5,W6,V1,V2,V3,V4,V5,e5,cell_of_row wq _ 1 _ _ _ hx,by simp[World.frozen?,hx],cell_of_row W5 _ 1 _ _ _ hx5,e6,⟨_,hgc⟩,by simp[World.frozen?,hcur],cell_of_row W6 _ 0 _ _ _ hx6,cell_of_row W6 _ 1 _ _ _ hx6,cell_of_row W6 _ 2 _ _ _ hx6,cell_of_row W6 _ 3 _ _ _ hx6,cell_of_row W6 _ 4 _ _ _ hx6,g1,cell_of_row W6 _ 0 _ _ _ hy6,by simp[World.frozen?,hy6],g2,cell_of_row V1 _ 1 _ _ _ k1,by simp[World.frozen?,k1],g3,cell_of_row V2 _ 2 _ _ _ k2,by simp[World.frozen?,k2],g4,cell_of_row V3 _ 3 _ _ _ k3,by simp[World.frozen?,k3],g5,cell_of_row V4 _ 4 _ _ _ k4,by simp[World.frozen?,k4],cell_of_row V5 _ 0 _ _ _ k5,cell_of_row V5 _ 1 _ _ _ k5,cell_of_row V5 _ 2 _ _ _ k5,cell_of_row V5 _ 3 _ _ _ k5,cell_of_row V5 _ 4 _ _ _ k5,?_,?_⟩
 .rw [<-g5,<-g4,<-g3,<-g2,<-g1]
  exact E3 (E3 (E3 (E3 (E3 hO6 hbB _) hbB _) hbB _) hbB _) hbB _
 rw[<-g5,<-g4,<-g3,<-g2,<-g1];have hw1:w0.heap.size<=b+1:=by omega
 exact((((hb6.setCell (by exact hw1) _).setCell (by exact hw1) _).setCell (by exact hw1) _).setCell (by exact hw1) _).setCell (by exact hw1) _
def Y2(l:List Itm)(p:Nat)(hh:Bool)(key:Int)(val:ByteArray):List Itm:=if hh then l.set p ⟨(itF l p).key,val⟩else l.take p ++ [⟨key,val⟩]++l.drop p
theorem ya(l:List Itm)(p:Nat)(key:Int)(v:ByteArray)(h:p<=l.length):((l.flatMap C9).take (p*2)++C9 ⟨key,⟨#[]⟩⟩++(l.flatMap C9).drop (p*2)).set (p*2+1) (.string v)=(Y2 l p false key v).flatMap C9:=by
 have e:(l.flatMap C9).take (p*2)++C9 ⟨key,⟨#[]⟩⟩++(l.flatMap C9).drop (p*2)=(l.take p ++ [(⟨key,⟨#[]⟩⟩:Itm)]++l.drop p).flatMap C9:=by
  rw[jg F3,fl F3];simp
 have hl:(l.take p).length=p:=by rw[List.length_take];omega
 rw[e,qe _ _ _ (by simp;omega)]
 congr 1
 have hk:itF (l.take p ++ [(⟨key,⟨#[]⟩⟩:Itm)]++l.drop p) p=⟨key,⟨#[]⟩⟩:=by
  simp[itF,List.getD,List.getElem?_append_right,hl]
 rw[hk]
 show _=l.take p ++ [⟨key,v⟩]++l.drop p
 rw[List.append_assoc,List.append_assoc,List.set_append_right _ _ (by omega),hl,Nat.sub_self];rfl
theorem DO(w:World)(A:Option Addr)(c:Nat)(l:List Itm)(nx:Lab)(mk:Int)(hnb:U64 nx.bits)(key:Int)(val:ByteArray)(hr:Ok m0 w (l7 A l.length c (itF l)))(hi:D9 1 l.length (itF l) nx mk=true)(hv:val.size<=64)
  (p:Nat) (hh:Bool) (hp:p=bsF (itF l) key 0 l.length) (hhh:hh=bX (itF l) key l.length p) (hple:p<=l.length) (hpin:hh=true->p<l.length) (hfull:hh=true \/ l.length≠16) :
  Calls Tryz.prog 162 #[.agg #[.int .i64 1,.slice A l.length c,.int .i64 nx.len,.int .u64 nx.bits,.int .u64 mk],.int .u64 key,.string val] w fun e w'=>∃A' c',e = .returned (.tuple #[.agg #[.int .i64 1,.slice A' (Y2 l p hh key val).length c',.int .i64 nx.len,.int .u64 nx.bits,.int .u64 mk],.int .i64 0]) ∧
   ml C9 2 w' w.heap.size 62 (.slice A' (Y2 l p hh key val).length c') (Y2 l p hh key val)/\Below w.heap.size w w':=by
 have hn16:l.length<=16:=(E4 hi).2.2.1;obtain⟨W1,hW1⟩:=eqv ((w.alloc (.cells #[.int .i64 1,.slice A l.length c,.int .i64 nx.len,.int .u64 nx.bits,.int .u64 mk] 35)).alloc (.cells #[.int .i64 0,.slice none 0 0,.int .i64 0,.int .u64 0,.int .u64 0] 35));have hb1:Below w.heap.size w W1:=by rw[hW1];exact((Below.refl _ _).alloc (Nat.le_refl _) _).alloc (by simp) _
 have hs1:W1.heap.size=w.heap.size+2:=by rw[hW1];simp
 have hr1:Ok m0 W1 (l7 A l.length c (itF l)):=hr.mono fun b o u h1 h2=>⟨by rw[hb1.cell (World.block_lt_of_cell? w _ h1)];exact h1,h2⟩
 have hrd:=(cO hr);have hx0:W1.heap[w.heap.size]? = some (.cells #[.int .i64 1,.slice A l.length c,.int .i64 nx.len,.int .u64 nx.bits,.int .u64 mk] 35 (0,0)):=by
  rw[hW1,Below.heap_alloc _ _ _ (by simp)];exact heap_alloc_new w _
 have hx1:W1.heap[w.heap.size+1]? = some (.cells #[.int .i64 0,.slice none 0 0,.int .i64 0,.int .u64 0,.int .u64 0] 35 (0,0)):=by
  have:=heap_alloc_new (w.alloc (.cells #[.int .i64 1,.slice A l.length c,.int .i64 nx.len,.int .u64 nx.bits,.int .u64 mk] 35)) (.cells #[.int .i64 0,.slice none 0 0,.int .i64 0,.int .u64 0,.int .u64 0] 35);rw[<-hW1]at this
  simpa using this
 have hargs:∀w2,Ok m0 w2 (l7 A l.length c (itF l))->∀v ∈ [l7 A l.length c (itF l),.int .u64 key],Ok m0 w2 v:=by
  intro w2 h v hv;simp only[List.mem_cons,List.not_mem_nil,or_false]at hv
  rcases hv with rfl|rfl
  .exact h
  exact .int _ _
 have HA:Calls Tryz.prog 222 #[.slice A l.length c,.int .u64 key] W1 fun e w'=>e = .returned (.tuple #[.int .i64 (p:Int),.bool hh])/\Below W1.heap.size W1 w':=by
  refine(yS A l.length c (itF l) (by omega) key m0 W1 (fun _ _ h=>h.elim) (hargs W1 hr1)).mono ?_
  rintro e w' ⟨x,rfl,_,hb⟩
  refine⟨?_,hb⟩;rw[<-hp,<-hhh];rfl
 have HI:∀w2,Below W1.heap.size W1 w2->Calls Tryz.prog 49 #[.agg #[.int .i64 1,.slice A l.length c,.int .i64 nx.len,.int .u64 nx.bits,.int .u64 mk]] w2 fun e w'=>e = .returned (.bool true)/\Below w2.heap.size w2 w':=by
  intro w2 hb;have hr2:Ok m0 w2 (l7 A l.length c (itF l)):=hr1.mono fun b o u h1 h2=>⟨by rw[hb.cell (World.block_lt_of_cell? W1 _ h1)];exact h1,h2⟩
  refine(eI A l.length c (itF l) (by simp only[maxLen];omega) 1 nx mk hnb m0 w2 (fun _ _ h=>h.elim) (fun v hv=>?_)).mono ?_
  .simp only[List.mem_cons,List.not_mem_nil,or_false]at hv
   subst hv;refine .agg _ (fun v hv=>?_) (fun v hv=>?_)
   .simp only[List.mem_cons,List.not_mem_nil,or_false]at hv
    rcases hv with rfl|rfl|rfl|rfl|rfl<;>rfl
   simp only[List.mem_cons,List.not_mem_nil,or_false]at hv
   rcases hv with rfl|rfl|rfl|rfl|rfl
   .exact .int _ _
   .exact hr2
   .exact .int _ _
   .exact .int _ _
   exact .int _ _
  rintro e w' ⟨x,rfl,_,hb⟩
  rw[hi];exact⟨rfl,hb⟩
 have hW1':=hW1.symm;clear hp hhh;have o1:W1.cell? ⟨w.heap.size,1,none⟩=some (.slice A l.length c):=cell_of_row W1 _ 1 _ _ _ hx0;clear hW1 hargs hr1
 go_enter Tryz.func162,Tryz.ntmps162
 go_wp2_with fail
 refine HA.mono ?_
 rintro e w2 ⟨rfl,hb2⟩
 have hx2:=(hb2.block _ (j2 hx0)).trans hx0;have hy2:=(hb2.block _ (j2 hx1)).trans hx1;have hB2:=hb1.trans (hb2.mono hb1.size);have p0:w2.cell? ⟨w.heap.size,0,none⟩=some (.int .i64 1):=cell_of_row w2 _ 0 _ _ _ hx2;have p1:w2.cell? ⟨w.heap.size,1,none⟩=some (.slice A l.length c):=cell_of_row w2 _ 1 _ _ _ hx2;have p2:w2.cell? ⟨w.heap.size,2,none⟩=some (.int .i64 nx.len):=cell_of_row w2 _ 2 _ _ _ hx2;have p3:w2.cell? ⟨w.heap.size,3,none⟩=some (.int .u64 nx.bits):=cell_of_row w2 _ 3 _ _ _ hx2;have p4:w2.cell? ⟨w.heap.size,4,none⟩=some (.int .u64 mk):=cell_of_row w2 _ 4 _ _ _ hx2;have HI2:=HI w2 hb2;clear HA HI hW1' o1
 go_wp2_with fail
 refine HI2.mono ?_
 rintro e w3 ⟨rfl,hb3⟩
 have hx3:=(hb3.block _ (j2 hx2)).trans hx2;have hy3:=(hb3.block _ (j2 hy2)).trans hy2;have hB3:=hB2.trans (hb3.mono hB2.size);have q0:w3.cell? ⟨w.heap.size,0,none⟩=some (.int .i64 1):=cell_of_row w3 _ 0 _ _ _ hx3;have q1:w3.cell? ⟨w.heap.size,1,none⟩=some (.slice A l.length c):=cell_of_row w3 _ 1 _ _ _ hx3;have HC:=iD w3 A c l ((hrd.below hB3).more hB3.size) (by omega);have hv1:¬(64:Int)<(val.size:Int):=by omega
 clear HI2 p0 p1 p2 p3 p4
 cases hh with
 |true=>
  have hpn:p<l.length:=hpin rfl;clear hfull hpin
  go_wp2_with fail
  refine HC.mono ?_
  rintro e w4 ⟨v4,rfl,hO4,hb4⟩
  obtain⟨A4,c4,rfl,hn4,hc4⟩:=Own.isSlice hO4;obtain⟨g,rfl,_⟩:=M2 hO4 (by omega);have hx4:=(hb4.block _ (j2 hx3)).trans hx3;have hy4:=(hb4.block _ (j2 hy3)).trans hy3;have hB4:=hB3.trans (hb4.mono hB3.size);obtain⟨W5,W6,V1,V2,V3,V4,V5,T⟩:=sv (val:=val) hx4 hy4 hO4 (by have:=hb2.size;have:=hb3.size;omega) (Nat.le_refl _) hpn hB4;obtain⟨u6,r6⟩:=T.r6;have e5:=T.e5;have r5:=T.r5;have f5:=T.f5;have c5:=T.c5;have e6:=T.e6;have f6:=T.f6;have d0:=T.d0;have d1:=T.d1;have d2:=T.d2;have d3:=T.d3;have d4:=T.d4;have s0:=T.s0;have y0:=T.y0;have f70:=T.f70;have s1:=T.s1;have y1:=T.y1;have f71:=T.f71;have s2:=T.s2;have y2:=T.y2;have f72:=T.f72;have s3:=T.s3;have y3:=T.y3;have f73:=T.f73;have s4:=T.s4;have y4:=T.y4;have f74:=T.f74;have z0:=T.z0;have z1:=T.z1;have z2:=T.z2;have z3:=T.z3;have z4:=T.z4;have hT:=Lib.hid (And.intro T.own T.below);clear T HC hx4 hy4 hO4 hb4 hB4 hx3 hy3 hB3 q0 q1
  go_wp2_with fail
  refine⟨rfl,.tuple #[.agg #[.int .i64 1,.slice (some ⟨g,0,none⟩) l.length c4,.int .i64 nx.len,.int .u64 nx.bits,.int .u64 mk],.int .i64 0],?_,?_⟩
  .simp [results,Tryz.results162,go_sem,z0,z1,z2,z3,z4]
  have hlen:(Y2 l p true key val).length=l.length:=by simp[Y2]
  rw[hlen];refine⟨some ⟨g,0,none⟩,c4,rfl,?_,hT.out.2⟩;have h1:=hT.out.1;unfold ml;rw[hlen,show Y2 l p true key val=l.set p ⟨(itF l p).key,val⟩from rfl,<-qe l p val hpn];exact Own.mono h1 (by have:=hb2.size;have:=hb3.size;omega)
 |false=>
  have hf1:((l.length:Int)==16)=false:=by
   rcases hfull with h|h
   .cases h
   simp;omega
  clear hfull hpin
  go_wp2_with fail
  refine HC.mono ?_
  rintro e w4 ⟨v4,rfl,hO4,hb4⟩
  obtain⟨A4,c4,rfl,hn4,hc4⟩:=Own.isSlice hO4;have hx4:=(hb4.block _ (j2 hx3)).trans hx3;have hy4:=(hb4.block _ (j2 hy3)).trans hy3;have hB4:=hB3.trans (hb4.mono hB3.size);have hs3:w.heap.size+2<=w3.heap.size:=by have:=hb2.size;have:=hb3.size;omega
  have a5:w4.cell? ⟨w.heap.size,1,none⟩=some (.slice A l.length c):=cell_of_row w4 _ 1 _ _ _ hx4;have b5:w4.frozen? ⟨w.heap.size,1,none⟩=false:=by simp[World.frozen?,hx4]
  obtain⟨U5,e5⟩:∃U5,w4.setCell ⟨w.heap.size,1,none⟩ (.slice A4 l.length c4)=U5:=⟨_,rfl⟩
  have hx5:U5.heap[w.heap.size]? = some (.cells #[.int .i64 1,.slice A4 l.length c4,.int .i64 nx.len,.int .u64 nx.bits,.int .u64 mk] 35 (0,0)):=by rw[<-e5,B6 _ _ _ _ _ _ _ hx4];rfl
  have hy5:=(K7 w4 w.heap.size 1 (.slice A4 l.length c4) (w.heap.size+1) (by omega)).trans hy4;rw[e5]at hy5;have c5:U5.cell? ⟨w.heap.size,1,none⟩=some (.slice A4 l.length c4):=cell_of_row U5 _ 1 _ _ _ hx5;have hO5:Own U5 w3.heap.size 62 2 (.slice A4 l.length c4) l.length (l.flatMap C9):=by rw[<-e5];exact E3 hO4 (by omega) _
  have hs5:U5.heap.size=w4.heap.size:=by rw[<-e5];simp
  obtain⟨U6,e6⟩:∃U6,U5.alloc (.cells #[.int .u64 key,.string ⟨#[]⟩] 62)=U6:=⟨_,rfl⟩
  have hb6:Below U5.heap.size U5 U6:=by rw[<-e6];exact(Below.refl _ _).alloc (Nat.le_refl _) _
  have hv6:U6.heap[U5.heap.size]? = some (.cells (C9 ⟨key,⟨#[]⟩⟩).toArray 62 (0,0)):=by rw[<-e6];exact heap_alloc_new U5 _
  have hO6:=Own.below hO5 hb6;have hx6:=(hb6.block _ (j2 hx5)).trans hx5;have hy6:=(hb6.block _ (j2 hy5)).trans hy5;have hs6:U5.heap.size<=U6.heap.size:=hb6.size;have hs4:w3.heap.size<=w4.heap.size:=hb4.size;have hB6:Below w.heap.size w U6:=by
   rw[<-e6,<-e5];exact(hB4.setCell (Nat.le_refl _) _).alloc (by have:=hB4.size;simpa using this) _
  have HN:=AW U6 w3.heap.size (.slice A4 l.length c4) l.length p U5.heap.size 1 (l.flatMap C9) (C9 ⟨key,⟨#[]⟩⟩) hO6 hple (by omega) hv6 (F3 _) (fun he=>by have:=(Own.lt hO5 _ he).2;omega) (cP _) (ia cP l) (by omega);have HK:Hid (∀w7 A7 c7,Own w7 w3.heap.size 62 2 (.slice A7 (l.length+1) c7) (l.length+1) ((l.flatMap C9).take (p*2)++C9 ⟨key,⟨#[]⟩⟩++(l.flatMap C9).drop (p*2))->U6.grownBy w7 (o6 (.slice A4 l.length c4)) →
    ∃g,A7=some ⟨g,0,none⟩/\c7≠0/\∃W5 W6 V1 V2 V3 V4 V5,Ig w w7 W5 W6 V1 V2 V3 V4 V5 w.heap.size g (l.length+1) c7 p (.slice A4 l.length c4) nx mk val w3.heap.size ((l.flatMap C9).take (p*2)++C9 ⟨key,⟨#[]⟩⟩++(l.flatMap C9).drop (p*2))):=by
   intro w7 A7 c7 h7 hG;obtain⟨g,rfl,hgv⟩:=M2 h7 (by omega);have hown:∀k,k<w3.heap.size-> ¬o6 (.slice A4 l.length c4)=some k:=fun k hk he=>by have:=(Own.lt hO5 _ he).1;omega
   refine⟨g,rfl,?_,sv (val:=val) ((hG.block _ (j2 hx6) (fun e=>hown _ (by omega) e.symm)).trans hx6) ((hG.block _ (j2 hy6) (fun e=>hown _ (by omega) e.symm)).trans hy6) h7 (by omega) (Nat.le_refl _) (by omega) (hB6.grown hG (Nat.le_trans hB4.size (by omega)) fun k hk=>?_)⟩
   .obtain ⟨A',c',he,h1,_⟩:=h7.isSlice;injection he with _ _ e;omega
   have:=(Own.lt hO5 _ hk).1;have:=hb2.size;omega
  clear HC hx4 hy4 hO4 hb4 hB4 hx3 hy3 hB3 q0 q1 hx5 hy5 hO5 hx6 hy6 hO6 hB6 hv6 hb6 hs5 hs6
  go_wp2_with fail
  refine HN.mono ?_
  rintro e w7 ⟨v7,rfl,h7,hG,_⟩
  obtain⟨A7,c7,rfl,_,hc7m⟩:=Own.isSlice h7;obtain⟨g,rfl,hc7,W5,W6,V1,V2,V3,V4,V5,T⟩:=HK.out w7 A7 c7 h7 hG;clear e5 e6 a5 b5 c5 HN HK h7 hG;obtain⟨u6,r6⟩:=T.r6;have e5:=T.e5;have r5:=T.r5;have f5:=T.f5;have c5:=T.c5;have e6:=T.e6;have f6:=T.f6;have d0:=T.d0;have d1:=T.d1;have d2:=T.d2;have d3:=T.d3;have d4:=T.d4;have s0:=T.s0;have y0:=T.y0;have f70:=T.f70;have s1:=T.s1;have y1:=T.y1;have f71:=T.f71;have s2:=T.s2;have y2:=T.y2;have f72:=T.f72;have s3:=T.s3;have y3:=T.y3;have f73:=T.f73;have s4:=T.s4;have y4:=T.y4;have f74:=T.f74;have z0:=T.z0;have z1:=T.z1;have z2:=T.z2;have z3:=T.z3;have z4:=T.z4;have hT:=Lib.hid (And.intro T.own T.below);clear T;have hp1:(p:Int)<(l.length:Int)+1:=by omega
  have hp2:p<l.length+1:=by omega
  go_wp2_with fail
  refine⟨rfl,.tuple #[.agg #[.int .i64 1,.slice (some ⟨g,0,none⟩) (l.length+1) c7,.int .i64 nx.len,.int .u64 nx.bits,.int .u64 mk],.int .i64 0],?_,?_⟩
  .simp [results,Tryz.results162,go_sem,z0,z1,z2,z3,z4]
  have hlen:(Y2 l p false key val).length=l.length+1:=by simp[Y2];omega
  rw[hlen];refine⟨some ⟨g,0,none⟩,c7,rfl,?_,hT.out.2⟩;have h1:=hT.out.1;unfold ml;rw[hlen,<-ya l p key val hple];exact Own.mono h1 (by omega)
end Go.Proofs.YtmbkanpapkhnaaaGreat.Sym
namespace Go.Proofs.YtmbkanpapkhnaaaGreat
open Go.RowKit
theorem BO(w:World)(B:Nat)(v:Value)(n i:Nat)(xs:List Value)(hown:Own w B 62 2 v n xs)(hi:i<n)(hn:n<2147483648)(h1x:∀u∈xs,u.oneCell'=true) :
  Calls Tryz.prog 230 #[v,.int .i64 i,.int .i64 ((i:Int)+1)] w fun e w'=>
   ∃v',e = .returned v'/\Own w' B 62 2 v' (n-1) (xs.take (i*2)++xs.drop ((i+1)*2))/\w.grownBy w' (o6 v)/\o6 v'=o6 v:=by
 rcases hown.2 with⟨rfl,_⟩|⟨g,c,cur,rfl,hBg,hg,hnc,hc0,hcm,hcs,htake⟩
 .omega
 have hcm':=hcm;unfold maxLen at hcm';have hgv:o6 (Value.slice (some ⟨g,0,none⟩) n c)=some g:=by simp[o6];omega
 have hxl:=hown.1;have hsz:n*2<=cur.size:=by rw[hcs];exact Nat.mul_le_mul_right _ hnc
 obtain⟨A,hA⟩:∃A,A=(if c=i+1 then some (⟨g,0,none⟩:Addr)else some ⟨g,(i+1)*2,none⟩):=⟨_,rfl⟩
 have hrow:E7 w.drew w.heap.size A (xs.drop ((i+1)*2)):=fun hp=>⟨g,(i+1)*2,by
   rw[hA,if_neg];simp at hp;omega,j2 hg,fun j u hu=>by
  rw[cell_of_row w.drew g _ cur _ (0,0) hg];rw[List.getElem?_drop,<-htake,List.getElem?_take]at hu
  split at hu
  .simpa using hu
  cases hu⟩
 have hr:=fJ (P:=Tryz.prog) (w:=w.drew) mB 33 (n:=i) (m:=n-(i+1)) (c:=c-(i+1)) hg hcs (by omega) (by rw[List.length_drop,hxl,<-Nat.sub_mul]) hrow (fun v hv=>h1x v (List.mem_of_mem_drop hv));rw[show i+(n-(i+1))=n-1 from by omega]at hr;obtain⟨cur3,hcur3⟩:∃c3,c3=(cur.toList.take (i*2)++xs.drop ((i+1)*2)++cur.toList.drop (i*2+(xs.drop ((i+1)*2)).length)):=⟨_,rfl⟩
 rw[<-hcur3]at hr;obtain⟨w2,hw2⟩:∃w2,w2=w.drew.setRow g cur3.toArray:=⟨_,rfl⟩
 rw[<-hw2]at hr;have hl3:cur3.length=cur.size:=by rw[hcur3];simp;omega
 have hg2:w2.heap[g]? = some (.cells cur3.toArray 62 (0,0)):=by rw[hw2];exact setRow_heap w.drew g cur _ _ _ hg
 have hC2:Chg (fun k=>k=g) w w2:=by rw[hw2];exact⟨rfl,rfl,rfl,by simp[World.setRow],fun k _ hn=>setRow_other w.drew g k _ hn⟩
 have hc:=od (P:=Tryz.prog) (w:=w2) mB 0 (o:=(n-1)*2) (len:=n-(n-1)) (cap:=c-(n-1)) hg2 (by simp;omega) (by intro v hv;revert v;simp[Value.cells,Value.oneCell']);obtain⟨w3,hw3⟩:∃w3,w3=w2.setRow g (cur3.toArray.toList.take ((n-1)*2)++(Builtin.zeroCells (.agg #[.int .u64 0,.string ⟨#[]⟩]:Value).cells (n-(n-1))).toList++cur3.toArray.toList.drop ((n-1)*2+(n-(n-1))*2)).toArray:=⟨_,rfl⟩
 rw[<-hw3]at hc;have hfin:∃v'',Ending.returned (.slice (some ⟨g,0,none⟩) (n-1) c) = .returned v''/\Own w3 B 62 2 v'' (n-1) (xs.take (i*2)++xs.drop ((i+1)*2))/\w.grownBy w3 (o6 (.slice (some ⟨g,0,none⟩) n c))/\o6 v''=o6 (.slice (some ⟨g,0,none⟩) n c):=by
  refine⟨_,rfl,⟨?_,.inr ⟨g,c,_,rfl,hBg,by rw[hw3];exact setRow_heap w2 g _ _ _ _ hg2,by omega,hc0,hcm,?_,?_⟩⟩,?_,by simp[o6]⟩
  .simp;omega
  .simp [Builtin.zeroCells,Value.cells];omega
  .rw [List.append_assoc,List.take_append_of_le_length (by simp;omega),List.take_take,Nat.min_self,hcur3,List.take_append_of_le_length (by simp;omega),List.take_of_length_le (by simp;omega),<-htake,List.take_take,Nat.min_eq_left (by omega)]
  rw[hgv];have hC3:Chg (fun k=>k=g) w w3:=by rw[hw3];exact hC2.trans (S':=fun k=>k=g) ⟨rfl,rfl,rfl,by simp[World.setRow],fun k _ hn=>setRow_other w2 g k _ hn⟩ fun _ _ h=>h
  exact⟨hC3.os,hC3.tape,hC3.output,hC3.size,fun k hk hn=>hC3.block k hk fun e=>hn (by rw[e])⟩
 clear hw3 hw2 hcur3 hg2 hg hown hrow hl3 htake hcs hxl hgv;have hA':(if c=i+1 then some (⟨g,0,none⟩:Addr)else some ⟨g,(i+1)*2,none⟩)=A:=hA.symm;clear hA;have HC2:=Lib.hid hC2;clear hC2;have hq:((i:Int)==(i:Int)+1)=false:=by simp;omega
 have hw0:(0:Int)<=(i:Int)+1:=by omega
 have hwt:((i:Int)+1).toNat=i+1:=by omega
 have hwn:(i:Int)+1<=(n:Int):=by omega
 have hwi:(i:Int)<=(i:Int)+1:=by omega
 have hn1:((n-1:Nat):Int)=(n:Int)-1:=by omega
 have hwic:(i:Int)<=(c:Int):=by omega
 go_enter Tryz.func230,Tryz.ntmps230
 go_wp2
 go_region_law (refine jM hr rfl (.tmp 22) (.tmp 25) rfl rfl (by simp[Act.eval,Act.put]) (by simp[Act.eval,Act.put]) ?_)
 go_wp2_with (with_reducible refine iH hc rfl (.tmp 31) rfl rfl rfl ?_)
 go_ret
 exact hfin
end Go.Proofs.YtmbkanpapkhnaaaGreat
namespace Go.Proofs.YtmbkanpapkhnaaaGreat.Sym
open Go Go.RowKit
structure DF(w0 wq W5 V1 V2 V3 V4 V5:World)(b:Nat)(A7:Option Addr)(n7 c7:Nat)(v1:Value)(kd:Int)(nx:Lab)(mk:Int)(B:Nat)(xs:List Value):Prop where
 e5:wq.setCell ⟨b,1,none⟩ (.slice A7 n7 c7)=W5
 r5:wq.cell? ⟨b,1,none⟩=some v1
 f5:wq.frozen? ⟨b,1,none⟩=false
 d0:W5.cell? ⟨b,0,none⟩=some (.int .i64 kd)
 d1:W5.cell? ⟨b,1,none⟩=some (.slice A7 n7 c7)
 d2:W5.cell? ⟨b,2,none⟩=some (.int .i64 nx.len)
 d3:W5.cell? ⟨b,3,none⟩=some (.int .u64 nx.bits)
 d4:W5.cell? ⟨b,4,none⟩=some (.int .u64 mk)
 s0:W5.setCell ⟨b+1,0,none⟩ (.int .i64 kd)=V1
 y0:W5.cell? ⟨b+1,0,none⟩=some (.int .i64 0)
 f70:W5.frozen? ⟨b+1,0,none⟩=false
 s1:V1.setCell ⟨b+1,1,none⟩ (.slice A7 n7 c7)=V2
 y1:V1.cell? ⟨b+1,1,none⟩=some (.slice none 0 0)
 f71:V1.frozen? ⟨b+1,1,none⟩=false
 s2:V2.setCell ⟨b+1,2,none⟩ (.int .i64 nx.len)=V3
 y2:V2.cell? ⟨b+1,2,none⟩=some (.int .i64 0)
 f72:V2.frozen? ⟨b+1,2,none⟩=false
 s3:V3.setCell ⟨b+1,3,none⟩ (.int .u64 nx.bits)=V4
 y3:V3.cell? ⟨b+1,3,none⟩=some (.int .u64 0)
 f73:V3.frozen? ⟨b+1,3,none⟩=false
 s4:V4.setCell ⟨b+1,4,none⟩ (.int .u64 mk)=V5
 y4:V4.cell? ⟨b+1,4,none⟩=some (.int .u64 0)
 f74:V4.frozen? ⟨b+1,4,none⟩=false
 z0:V5.cell? ⟨b+1,0,none⟩=some (.int .i64 kd)
 z1:V5.cell? ⟨b+1,1,none⟩=some (.slice A7 n7 c7)
 z2:V5.cell? ⟨b+1,2,none⟩=some (.int .i64 nx.len)
 z3:V5.cell? ⟨b+1,3,none⟩=some (.int .u64 nx.bits)
 z4:V5.cell? ⟨b+1,4,none⟩=some (.int .u64 mk)
 own:Own V5 B 62 2 (.slice A7 n7 c7) n7 xs
 below:Below w0.heap.size w0 V5
theorem wl{w0 wq:World}{b:Nat}{A7:Option Addr}{n7 c7:Nat}{kd:Int}{nx:Lab}{mk:Int}{B:Nat}{xs:List Value}{v1:Value}(hx:wq.heap[b]? = some (.cells #[.int .i64 kd,v1,.int .i64 nx.len,.int .u64 nx.bits,.int .u64 mk] 35 (0,0)))
  (hy:wq.heap[b+1]? = some (.cells #[.int .i64 0,.slice none 0 0,.int .i64 0,.int .u64 0,.int .u64 0] 35 (0,0))) (hO:Own wq B 62 2 (.slice A7 n7 c7) n7 xs) (hbB:b+1<B) (hw:w0.heap.size<=b) (hb:Below w0.heap.size w0 wq):∃W5 V1 V2 V3 V4 V5,DF w0 wq W5 V1 V2 V3 V4 V5 b A7 n7 c7 v1 kd nx mk B xs:=by
 obtain⟨W5,e5⟩:∃W5,wq.setCell ⟨b,1,none⟩ (.slice A7 n7 c7)=W5:=⟨_,rfl⟩
 have hx5:W5.heap[b]? = some (.cells #[.int .i64 kd,.slice A7 n7 c7,.int .i64 nx.len,.int .u64 nx.bits,.int .u64 mk] 35 (0,0)):=by rw[<-e5,B6 _ _ _ _ _ _ _ hx];rfl
 have hy5:=(K7 wq b 1 (.slice A7 n7 c7) (b+1) (by omega)).trans hy;rw[e5]at hy5;have hO5:Own W5 B 62 2 (.slice A7 n7 c7) n7 xs:=by rw[<-e5];exact E3 hO (by omega) _
 have hb5:Below w0.heap.size w0 W5:=by rw[<-e5];exact hb.setCell (by exact hw) _
 obtain⟨V1,g1⟩:∃V,W5.setCell ⟨b+1,0,none⟩ (.int .i64 kd)=V:=⟨_,rfl⟩
 obtain⟨V2,g2⟩:∃V,V1.setCell ⟨b+1,1,none⟩ (.slice A7 n7 c7)=V:=⟨_,rfl⟩
 obtain⟨V3,g3⟩:∃V,V2.setCell ⟨b+1,2,none⟩ (.int .i64 nx.len)=V:=⟨_,rfl⟩
 obtain⟨V4,g4⟩:∃V,V3.setCell ⟨b+1,3,none⟩ (.int .u64 nx.bits)=V:=⟨_,rfl⟩
 obtain⟨V5,g5⟩:∃V,V4.setCell ⟨b+1,4,none⟩ (.int .u64 mk)=V:=⟨_,rfl⟩
 have k1:=B6 W5 (b+1) 0 _ (.int .i64 kd) _ _ hy5;rw[g1]at k1;have k2:=B6 V1 (b+1) 1 _ (.slice A7 n7 c7) _ _ k1;rw[g2]at k2;have k3:=B6 V2 (b+1) 2 _ (.int .i64 nx.len) _ _ k2;rw[g3]at k3;have k4:=B6 V3 (b+1) 3 _ (.int .u64 nx.bits) _ _ k3;rw[g4]at k4;have k5:V5.heap[b+1]? = some (.cells #[.int .i64 kd,.slice A7 n7 c7,.int .i64 nx.len,.int .u64 nx.bits,.int .u64 mk] 35 (0,0)):=by rw[<-g5];exact B6 _ _ _ _ _ _ _ k4
 refine⟨W5,V1,V2,V3,V4,V5,e5,cell_of_row wq _ 1 _ _ _ hx,by simp[World.frozen?,hx],cell_of_row W5 _ 0 _ _ _ hx5,cell_of_row W5 _ 1 _ _ _ hx5,cell_of_row W5 _ 2 _ _ _ hx5,cell_of_row W5 _ 3 _ _ _ hx5,cell_of_row W5 _ 4 _ _ _ hx5,g1,cell_of_row W5 _ 0 _ _ _ hy5,by simp[World.frozen?,hy5],g2,cell_of_row V1 _ 1 _ _ _ k1,by simp[World.frozen?,k1],g3,cell_of_row V2 _ 2 _ _ _ k2,by simp[World.frozen?,k2],g4,cell_of_row V3 _ 3 _ _ _ k3,by simp[World.frozen?,k3],g5,cell_of_row V4 _ 4 _ _ _ k4,by simp[World.frozen?,k4],cell_of_row V5 _ 0 _ _ _ k5,cell_of_row V5 _ 1 _ _ _ k5,cell_of_row V5 _ 2 _ _ _ k5,cell_of_row V5 _ 3 _ _ _ k5,cell_of_row V5 _ 4 _ _ _ k5,?_,?_⟩
 .rw [<-g5,<-g4,<-g3,<-g2,<-g1]
  exact E3 (E3 (E3 (E3 (E3 hO5 hbB _) hbB _) hbB _) hbB _) hbB _
 rw[<-g5,<-g4,<-g3,<-g2,<-g1];have hw1:w0.heap.size<=b+1:=by omega
 exact((((hb5.setCell (by exact hw1) _).setCell (by exact hw1) _).setCell (by exact hw1) _).setCell (by exact hw1) _).setCell (by exact hw1) _
theorem ug(w:World)(A:Option Addr)(c:Nat)(l:List Itm)(kd:Int)(nx:Lab)(mk:Int)(hnb:U64 nx.bits)(key:Int)(hr:Ok m0 w (l7 A l.length c (itF l)))(hi:D9 kd l.length (itF l) nx mk=true)
  (p:Nat) (hp:p=bsF (itF l) key 0 l.length) (hhh:bX (itF l) key l.length p=true) (hpn:p<l.length) :
  Calls Tryz.prog 167 #[.agg #[.int .i64 kd,.slice A l.length c,.int .i64 nx.len,.int .u64 nx.bits,.int .u64 mk],.int .u64 key] w fun e w'=>∃A' c',e = .returned (.tuple #[.agg #[.int .i64 kd,.slice A' (l.length-1) c',.int .i64 nx.len,.int .u64 nx.bits,.int .u64 mk],.bool true]) ∧
   ml C9 2 w' w.heap.size 62 (.slice A' (l.length-1) c') (l.take p++l.drop (p+1))/\Below w.heap.size w w':=by
 have hn16:l.length<=16:=(E4 hi).2.2.1;obtain⟨W1,hW1⟩:=eqv ((w.alloc (.cells #[.int .i64 kd,.slice A l.length c,.int .i64 nx.len,.int .u64 nx.bits,.int .u64 mk] 35)).alloc (.cells #[.int .i64 0,.slice none 0 0,.int .i64 0,.int .u64 0,.int .u64 0] 35));have hb1:Below w.heap.size w W1:=by rw[hW1];exact((Below.refl _ _).alloc (Nat.le_refl _) _).alloc (by simp) _
 have hs1:W1.heap.size=w.heap.size+2:=by rw[hW1];simp
 have hr1:Ok m0 W1 (l7 A l.length c (itF l)):=hr.mono fun b o u h1 h2=>⟨by rw[hb1.cell (World.block_lt_of_cell? w _ h1)];exact h1,h2⟩
 have hrd:=(cO hr);have hx0:W1.heap[w.heap.size]? = some (.cells #[.int .i64 kd,.slice A l.length c,.int .i64 nx.len,.int .u64 nx.bits,.int .u64 mk] 35 (0,0)):=by
  rw[hW1,Below.heap_alloc _ _ _ (by simp)];exact heap_alloc_new w _
 have hx1:W1.heap[w.heap.size+1]? = some (.cells #[.int .i64 0,.slice none 0 0,.int .i64 0,.int .u64 0,.int .u64 0] 35 (0,0)):=by
  have:=heap_alloc_new (w.alloc (.cells #[.int .i64 kd,.slice A l.length c,.int .i64 nx.len,.int .u64 nx.bits,.int .u64 mk] 35)) (.cells #[.int .i64 0,.slice none 0 0,.int .i64 0,.int .u64 0,.int .u64 0] 35);rw[<-hW1]at this
  simpa using this
 have HA:Calls Tryz.prog 222 #[.slice A l.length c,.int .u64 key] W1 fun e w'=>e = .returned (.tuple #[.int .i64 (p:Int),.bool true])/\Below W1.heap.size W1 w':=by
  refine(yS A l.length c (itF l) (by omega) key m0 W1 (fun _ _ h=>h.elim) (fun v hv=>?_)).mono ?_
  .simp only[List.mem_cons,List.not_mem_nil,or_false]at hv
   rcases hv with rfl|rfl
   .exact hr1
   exact .int _ _
  rintro e w' ⟨x,rfl,_,hb⟩
  refine⟨?_,hb⟩;rw[<-hp,hhh];rfl
 have HI:∀w2,Below W1.heap.size W1 w2->Calls Tryz.prog 49 #[.agg #[.int .i64 kd,.slice A l.length c,.int .i64 nx.len,.int .u64 nx.bits,.int .u64 mk]] w2 fun e w'=>e = .returned (.bool true)/\Below w2.heap.size w2 w':=by
  intro w2 hb;have hr2:Ok m0 w2 (l7 A l.length c (itF l)):=hr1.mono fun b o u h1 h2=>⟨by rw[hb.cell (World.block_lt_of_cell? W1 _ h1)];exact h1,h2⟩
  refine(eI A l.length c (itF l) (by simp only[maxLen];omega) kd nx mk hnb m0 w2 (fun _ _ h=>h.elim) (fun v hv=>?_)).mono ?_
  .simp only[List.mem_cons,List.not_mem_nil,or_false]at hv
   subst hv;refine .agg _ (fun v hv=>?_) (fun v hv=>?_)
   .simp only[List.mem_cons,List.not_mem_nil,or_false]at hv
    rcases hv with rfl|rfl|rfl|rfl|rfl<;>rfl
   simp only[List.mem_cons,List.not_mem_nil,or_false]at hv
   rcases hv with rfl|rfl|rfl|rfl|rfl
   .exact .int _ _
   .exact hr2
   .exact .int _ _
   .exact .int _ _
   exact .int _ _
  rintro e w' ⟨x,rfl,_,hb⟩
  rw[hi];exact⟨rfl,hb⟩
 have hW1':=hW1.symm;clear hp hhh;have o1:W1.cell? ⟨w.heap.size,1,none⟩=some (.slice A l.length c):=cell_of_row W1 _ 1 _ _ _ hx0;clear hW1 hr1
 go_enter Tryz.func167,Tryz.ntmps167
 go_wp2_with fail
 refine HA.mono ?_
 rintro e w2 ⟨rfl,hb2⟩
 have hx2:=(hb2.block _ (j2 hx0)).trans hx0;have hy2:=(hb2.block _ (j2 hx1)).trans hx1;have hB2:=hb1.trans (hb2.mono hb1.size);have p0:w2.cell? ⟨w.heap.size,0,none⟩=some (.int .i64 kd):=cell_of_row w2 _ 0 _ _ _ hx2;have p1:w2.cell? ⟨w.heap.size,1,none⟩=some (.slice A l.length c):=cell_of_row w2 _ 1 _ _ _ hx2;have p2:w2.cell? ⟨w.heap.size,2,none⟩=some (.int .i64 nx.len):=cell_of_row w2 _ 2 _ _ _ hx2;have p3:w2.cell? ⟨w.heap.size,3,none⟩=some (.int .u64 nx.bits):=cell_of_row w2 _ 3 _ _ _ hx2;have p4:w2.cell? ⟨w.heap.size,4,none⟩=some (.int .u64 mk):=cell_of_row w2 _ 4 _ _ _ hx2;have HI2:=HI w2 hb2;clear HA HI hW1' o1
 go_wp2_with fail
 refine HI2.mono ?_
 rintro e w3 ⟨rfl,hb3⟩
 have hx3:=(hb3.block _ (j2 hx2)).trans hx2;have hy3:=(hb3.block _ (j2 hy2)).trans hy2;have hB3:=hB2.trans (hb3.mono hB2.size);have q1:w3.cell? ⟨w.heap.size,1,none⟩=some (.slice A l.length c):=cell_of_row w3 _ 1 _ _ _ hx3;have HC:=iD w3 A c l ((hrd.below hB3).more hB3.size) (by omega);have hwp:IntKind.i64.wrap ((p:Int)+1)=(p:Int)+1:=o8 (by omega) (by omega);have hs3:w.heap.size+2<=w3.heap.size:=by have:=hb2.size;have:=hb3.size;omega
 clear HI2 p0 p1 p2 p3 p4
 go_wp2_with fail
 refine HC.mono ?_
 rintro e w4 ⟨v4,rfl,hO4,hb4⟩
 obtain⟨A4,c4,rfl,hn4,hc4⟩:=Own.isSlice hO4;have hx4:=(hb4.block _ (j2 hx3)).trans hx3;have hy4:=(hb4.block _ (j2 hy3)).trans hy3;have hB4:=hB3.trans (hb4.mono hB3.size);have HN:=BO w4 w3.heap.size (.slice A4 l.length c4) l.length p (l.flatMap C9) hO4 hpn (by omega) (ia cP l);have HK:Hid (∀w7 A7 c7,Own w7 w3.heap.size 62 2 (.slice A7 (l.length-1) c7) (l.length-1) ((l.flatMap C9).take (p*2)++(l.flatMap C9).drop ((p+1)*2))->w4.grownBy w7 (o6 (.slice A4 l.length c4)) →
   ∃W5 V1 V2 V3 V4 V5,DF w w7 W5 V1 V2 V3 V4 V5 w.heap.size A7 (l.length-1) c7 (.slice A l.length c) kd nx mk w3.heap.size ((l.flatMap C9).take (p*2)++(l.flatMap C9).drop ((p+1)*2))):=by
  intro w7 A7 c7 h7 hG;have hown:∀k,k<w3.heap.size-> ¬o6 (.slice A4 l.length c4)=some k:=fun k hk he=>by have:=(Own.lt hO4 _ he).1;omega
  refine wl ((hG.block _ (j2 hx4) (fun e=>hown _ (by omega) e.symm)).trans hx4) ((hG.block _ (j2 hy4) (fun e=>hown _ (by omega) e.symm)).trans hy4) h7 (by omega) (Nat.le_refl _) (hB4.grown hG hB4.size fun k hk=>?_);have:=(Own.lt hO4 _ hk).1;omega
 clear HC hx4 hy4 hO4 hb4 hB4 hx3 hy3 hB3 q1
 go_wp2_with fail
 refine HN.mono ?_
 rintro e w7 ⟨v7,rfl,h7,hG,_⟩
 obtain⟨A7,c7,rfl,_,hc7m⟩:=Own.isSlice h7;obtain⟨W5,V1,V2,V3,V4,V5,T⟩:=HK.out w7 A7 c7 h7 hG;clear HN HK h7 hG;have e5:=T.e5;have r5:=T.r5;have f5:=T.f5;have d0:=T.d0;have d1:=T.d1;have d2:=T.d2;have d3:=T.d3;have d4:=T.d4;have s0:=T.s0;have y0:=T.y0;have f70:=T.f70;have s1:=T.s1;have y1:=T.y1;have f71:=T.f71;have s2:=T.s2;have y2:=T.y2;have f72:=T.f72;have s3:=T.s3;have y3:=T.y3;have f73:=T.f73;have s4:=T.s4;have y4:=T.y4;have f74:=T.f74;have z0:=T.z0;have z1:=T.z1;have z2:=T.z2;have z3:=T.z3;have z4:=T.z4;have hT:=Lib.hid (And.intro T.own T.below);clear T
 go_wp2_with fail
 refine⟨rfl,.tuple #[.agg #[.int .i64 kd,.slice A7 (l.length-1) c7,.int .i64 nx.len,.int .u64 nx.bits,.int .u64 mk],.bool true],?_,?_⟩
 .simp [results,Tryz.results167,go_sem,z0,z1,z2,z3,z4]
 have hlen:(l.take p++l.drop (p+1)).length=l.length-1:=by simp;omega
 refine⟨A7,c7,rfl,?_,hT.out.2⟩;have h1:=hT.out.1;unfold ml;rw[hlen,List.flatMap_append,<-jg F3,<-fl F3];exact Own.mono h1 (by omega)
theorem vV(A:Option Addr)(n c:Nat)(f:Nat->Itm)(hn:n<=1000000)(kd:Int)(nx:Lab)(mk:Int)(hv:U64 nx.bits)(key:Int)(val:ByteArray)(href:D9 kd n f nx mk=false \/ kd≠1 \/ 64<val.size \/ (bX f key n (bsF f key 0 n)=false/\n=16)):j7 Tryz.prog 162 [F2 A n c f kd nx mk,.int .u64 key,.str val] (fun _=>.tup [bB none 0 i9,.int .i64 (if D9 kd n f nx mk=false then 1 else if kd≠1 then 13 else if 64<val.size then 2 else 12)]):=by
 intro m w hm hargs;have hmx:maxLen=9223372036854775807:=rfl;have SA:=yS A n c f hn key;have SI:=eI A n c f (by omega) kd nx mk hv;unfold F2 l7 at SI hargs;unfold l7 at SA
 generalize bX f key n (bsF f key 0 n)=hh at SA href
 generalize bsF f key 0 n=p at SA
 generalize D9 kd n f nx mk=ir at SI href ⊢
 refine en 63 hm hargs Tryz.func162 fun B O a0 Z=>?_
 refine wp_seq (rg O a6 [1,2,3,6] [3,6] [] Z fun X0 _ _ Z=>?_);refine wp_seq (rg O a6 [9,2,3,6] [3,6] [(3,.r fun _=>.tup [.int .i64 (p:Int),.bool (.v hh)])] Z (hob:=?hob) fun X1 _ _ Z=>?_)
 case hob=>
  intro X;subst O
  repeat(first|exact trivial|refine⟨rfl,?_⟩|refine⟨fun _=>rfl,?_⟩|refine⟨f7 (Kk:=noK) _ _ _ _,?_⟩|refine⟨fun _=>f7 (Kk:=noK) _ _ _ _,?_⟩|refine⟨⟨bi,SA⟩,?_⟩|refine⟨fun _=>⟨bi,SA⟩,?_⟩)
 refine wp_seq (wp_block (wp_seq (rg O a6 [17,9,2,3,6] [3,6] [(1,.r fun _=>.bool (.v ir))] Z (hob:=?hob) fun X2 _ _ Z=>?_)))
 case hob=>
  intro X;subst O
  repeat(first|exact trivial|refine⟨rfl,?_⟩|refine⟨fun _=>rfl,?_⟩|refine⟨f7 (Kk:=noK) _ _ _ _,?_⟩|refine⟨fun _=>f7 (Kk:=noK) _ _ _ _,?_⟩|refine⟨⟨Q6,SI⟩,?_⟩|refine⟨fun _=>⟨Q6,SI⟩,?_⟩)
 apply a7 Z rfl<;>intro hb Z
 .have hb2:B.not ir=true:=hb
  have hirf:ir=false:=by subst O;cases ir<;>first|rfl|(simp[std]at hb2)
  subst hirf;refine wp_seq (rg O a6 [6,7] [6] [] Z (hob:=?hob) fun X3 _ _ Z=>?_)
  case hob=>
   intro X;subst O
   repeat(first|exact trivial|refine⟨rfl,?_⟩|refine⟨fun _=>rfl,?_⟩|refine⟨f7 (Kk:=noK) _ _ _ _,?_⟩|refine⟨fun _=>f7 (Kk:=noK) _ _ _ _,?_⟩)
  refine wp_ret ((rsi O a6 Z (⟨0,fun _=>none,fun _=>0,fun _=>⟨#[]⟩⟩) (he:=?_)));subst O;simp only[if_true];exact Sim.tup ⟨Sim.agg ⟨zr,zq0,zr,zr,zr,trivial⟩,zr,trivial⟩
 have hb2:B.not ir=false:=hb;have hirt:ir=true:=by subst O;cases ir<;>first|rfl|(simp[std]at hb2)
 subst hirt;refine wp_seq (rg O a6 [22,9,2,3,6] [3,6] [] Z (hob:=?hob) fun X4 _ _ Z=>?_)
 case hob=>
  intro X;subst O
  repeat(first|exact trivial|refine⟨rfl,?_⟩|refine⟨fun _=>rfl,?_⟩|refine⟨f7 (Kk:=noK) _ _ _ _,?_⟩|refine⟨fun _=>f7 (Kk:=noK) _ _ _ _,?_⟩)
 apply a7 Z rfl<;>intro hb Z
 .have hk:kd≠1:=by subst O;simpa[std,a8]using hb
  refine wp_seq (rg O a6 [6,7] [6] [] Z (hob:=?hob) fun X5 _ _ Z=>?_)
  case hob=>
   intro X;subst O
   repeat(first|exact trivial|refine⟨rfl,?_⟩|refine⟨fun _=>rfl,?_⟩|refine⟨f7 (Kk:=noK) _ _ _ _,?_⟩|refine⟨fun _=>f7 (Kk:=noK) _ _ _ _,?_⟩)
  refine wp_ret ((rsi O a6 Z (⟨0,fun _=>none,fun _=>0,fun _=>⟨#[]⟩⟩) (he:=?_)));subst O;simp only[hk,if_true,if_false,Bool.true_eq_false,ne_eq,not_false_eq_true];exact Sim.tup ⟨Sim.agg ⟨zr,zq0,zr,zr,zr,trivial⟩,zr,trivial⟩
 have hk:kd=1:=by subst O;simpa[std,a8]using hb
 refine wp_seq (rg O a6 [27,9,3,6] [3,6] [] Z (hob:=?hob) fun X6 _ _ Z=>?_)
 case hob=>
  intro X;subst O
  repeat(first|exact trivial|refine⟨rfl,?_⟩|refine⟨fun _=>rfl,?_⟩|refine⟨f7 (Kk:=noK) _ _ _ _,?_⟩|refine⟨fun _=>f7 (Kk:=noK) _ _ _ _,?_⟩)
 apply a7 Z rfl<;>intro hb Z
 .have hlong:64<val.size:=by
   have:(64:Int)<(val.size:Int):=by subst O;simpa[std,a8]using hb
   omega
  refine wp_seq (rg O a6 [6,7] [6] [] Z (hob:=?hob) fun X7 _ _ Z=>?_)
  case hob=>
   intro X;subst O
   repeat(first|exact trivial|refine⟨rfl,?_⟩|refine⟨fun _=>rfl,?_⟩|refine⟨f7 (Kk:=noK) _ _ _ _,?_⟩|refine⟨fun _=>f7 (Kk:=noK) _ _ _ _,?_⟩)
  refine wp_ret ((rsi O a6 Z (⟨0,fun _=>none,fun _=>0,fun _=>⟨#[]⟩⟩) (he:=?_)));subst O;simp only[hk,hlong,if_true,if_false,Bool.true_eq_false,ne_eq,not_true_eq_false];exact Sim.tup ⟨Sim.agg ⟨zr,zq0,zr,zr,zr,trivial⟩,zr,trivial⟩
 have hlong:¬64<val.size:=by
  have:¬(64:Int)<(val.size:Int):=by subst O;simpa[std,a8]using hb
  omega
 refine wp_seq (rg O a6 [32,3,6] [3,6] [] Z fun X8 _ _ Z=>?_);apply a7 Z rfl<;>intro hb Z
 .skip
  refine wp_seq (rg O a6 [6,7] [6] [] Z (hob:=?hob) fun X9 _ _ Z=>?_)
  case hob=>
   intro X;subst O
   repeat(first|exact trivial|refine⟨rfl,?_⟩|refine⟨fun _=>rfl,?_⟩|refine⟨f7 (Kk:=noK) _ _ _ _,?_⟩|refine⟨fun _=>f7 (Kk:=noK) _ _ _ _,?_⟩)
  refine wp_ret ((rsi O a6 Z (⟨0,fun _=>none,fun _=>0,fun _=>⟨#[]⟩⟩) (he:=?_)));subst O;simp only[hk,hlong,if_true,if_false,Bool.true_eq_false,ne_eq,not_true_eq_false];exact Sim.tup ⟨Sim.agg ⟨zr,zq0,zr,zr,zr,trivial⟩,zr,trivial⟩
 exfalso
 rcases href with h|h|h|⟨h,h2⟩
 .cases h
 .exact h hk
 .exact hlong h
 subst h h2;subst O;simp[std,a8]at hb
theorem vS(A:Option Addr)(n c:Nat)(f:Nat->Itm)(hn:n<=1000000)(kd:Int)(nx:Lab)(mk:Int)(hv:U64 nx.bits)(key:Int)(href:(D9 kd n f nx mk&&bX f key n (bsF f key 0 n))=false):j7 Tryz.prog 167 [F2 A n c f kd nx mk,.int .u64 key] (fun _=>.tup [F2 A n c f kd nx mk,.bool (.v false)]):=by
 intro m w hm hargs;have hmx:maxLen=9223372036854775807:=rfl;have SA:=yS A n c f hn key;have SI:=eI A n c f (by omega) kd nx mk hv;unfold F2 l7 at SI hargs ⊢;unfold l7 at SA
 generalize bX f key n (bsF f key 0 n)=hh at SA href
 generalize bsF f key 0 n=p at SA
 generalize D9 kd n f nx mk=ir at SI href
 refine en 32 hm hargs Tryz.func167 fun B O a0 Z=>?_
 refine wp_seq (rg O a6 [1,2,4] [2,4] [] Z fun X0 _ _ Z=>?_);refine wp_seq (rg O a6 [7,2,4] [2,4] [(3,.r fun _=>.tup [.int .i64 (p:Int),.bool (.v hh)])] Z (hob:=?hob) fun X1 _ _ Z=>?_)
 case hob=>
  intro X;subst O
  repeat(first|exact trivial|refine⟨rfl,?_⟩|refine⟨fun _=>rfl,?_⟩|refine⟨f7 (Kk:=noK) _ _ _ _,?_⟩|refine⟨fun _=>f7 (Kk:=noK) _ _ _ _,?_⟩|refine⟨⟨bi,SA⟩,?_⟩|refine⟨fun _=>⟨bi,SA⟩,?_⟩)
 refine wp_seq (wp_seq (rg O a6 [21,2,4] [2,4] [(4,.r fun _=>.bool (.v ir))] Z (hob:=?hob) fun X2 _ _ Z=>?_))
 case hob=>
  intro X;subst O
  repeat(first|exact trivial|refine⟨rfl,?_⟩|refine⟨fun _=>rfl,?_⟩|refine⟨f7 (Kk:=noK) _ _ _ _,?_⟩|refine⟨fun _=>f7 (Kk:=noK) _ _ _ _,?_⟩|refine⟨⟨Q6,SI⟩,?_⟩|refine⟨fun _=>⟨Q6,SI⟩,?_⟩)
 apply a7 Z rfl<;>intro hb Z
 .skip
  refine wp_seq (rg O a6 [4,5] [4] [] Z (hob:=?hob) fun X3 _ _ Z=>?_)
  case hob=>
   intro X;subst O
   repeat(first|exact trivial|refine⟨rfl,?_⟩|refine⟨fun _=>rfl,?_⟩|refine⟨f7 (Kk:=noK) _ _ _ _,?_⟩|refine⟨fun _=>f7 (Kk:=noK) _ _ _ _,?_⟩)
  refine wp_ret ((rsi O a6 Z (⟨0,fun _=>none,fun _=>0,fun _=>⟨#[]⟩⟩) (he:=?_)));subst O;exact Sim.tup ⟨zr,Sim.bool rfl,trivial⟩
 exfalso
 have h9:(if(!hh)=true then true else !ir)=false:=by subst O;exact hb
 cases ir<;>cases hh<;>simp at h9 href
theorem pd{f:Nat->Itm}{n:Nat}{key:Int}(hs:∀i j,i<j->j<n->(f i).key<(f j).key):∀k lo hi,hi-lo<=k->lo<=hi->hi<=n->(∀t,t<lo->(f t).key<key)->(∀t,hi<=t->t<n->key<=(f t).key) →
  lo<=bsF f key lo hi/\bsF f key lo hi<=hi/\(∀t,t<bsF f key lo hi->(f t).key<key)/\∀t,bsF f key lo hi<=t->t<n->key<=(f t).key
 |0,lo,hi,hk,h1,h2,h3,h4=>by
  rw[dI (by omega)];exact⟨Nat.le_refl _,h1,h3,fun t ht=>h4 t (by omega)⟩
 |k+1,lo,hi,hk,h1,h2,h3,h4=>by
  by_cases hlt:lo<hi
  .obtain ⟨m,hm⟩:∃m,m=(lo+hi) / 2:=⟨_,rfl⟩
   by_cases hkm:(f m).key<key
   .rw [oZ hlt hm hkm]
    obtain⟨a,b,c,d⟩:=pd hs k (m+1) hi (by omega) (by omega) h2 (fun t ht=>by
     by_cases h:t=m
     .rw [h];exact hkm
     have:=hs t m (by omega) (by omega);omega) h4
    exact⟨by omega,b,c,d⟩
   rw[pa hlt hm hkm];obtain⟨a,b,c,d⟩:=pd hs k lo m (by omega) (by omega) (by omega) h3 (fun t ht htn=>by
    by_cases h:t=m
    .rw [h];omega
    have:=hs m t (by omega) htn;omega)
   exact⟨a,by omega,c,d⟩
  rw[dI hlt];exact⟨Nat.le_refl _,h1,h3,fun t ht=>h4 t (by omega)⟩
theorem sd(f:Nat->Itm)(key:Int):∀k lo hi,hi-lo<=k->lo<=hi->bsF f key lo hi<=hi
 |0,lo,hi,hk,h1=>by rw[dI (by omega)];exact h1
 |k+1,lo,hi,hk,h1=>by
  by_cases hlt:lo<hi
  .obtain ⟨m,hm⟩:∃m,m=(lo+hi) / 2:=⟨_,rfl⟩
   by_cases hkm:(f m).key<key
   .rw [oZ hlt hm hkm];exact sd f key k (m+1) hi (by omega) (by omega)
   rw[pa hlt hm hkm];have:=sd f key k lo m (by omega) (by omega);omega
  rw[dI hlt];exact h1
theorem tg{l:List Itm}{i:Nat}(h:i<l.length):l[i]? = some (itF l i):=by
 rw[List.getElem?_eq_getElem h];simp[itF,List.getD,h]
theorem yC{l:List Itm}{key:Int}(hok:okF (itF l) l.length=true):Cut l key (bsF (itF l) key 0 l.length)/\Srt l:=by
 obtain⟨_,h1,h2,h3⟩:=pd (f:=itF l) (n:=l.length) (key:=key) (kt hok) l.length 0 l.length (by omega) (Nat.zero_le _) (Nat.le_refl _) (fun t ht=>absurd ht (Nat.not_lt_zero _)) (fun t h1 h2=>absurd h2 (by omega));have hs:=Aq hok;rw[I3]at hs;refine⟨⟨h1,fun x hx=>?_,fun x hx=>?_⟩,hs⟩
 .obtain ⟨t,ht,rfl⟩:=List.mem_iff_getElem.1 hx
  have ht':t<bsF (itF l) key 0 l.length:=by rw[List.length_take]at ht;omega
  have:=h2 t ht';rw[List.getElem_take]
  simpa[itF,List.getD,show t<l.length by omega]using this
 obtain⟨t,ht,rfl⟩:=List.mem_iff_getElem.1 hx;rw[List.length_drop]at ht;have:=h3 (bsF (itF l) key 0 l.length+t) (by omega) (by omega);rw[List.getElem_drop]
 simpa[itF,List.getD,show bsF (itF l) key 0 l.length+t<l.length by omega]using this
theorem kL{l:List Itm}{key:Int}(hok:okF (itF l) l.length=true){p:Nat}(hp:p=bsF (itF l) key 0 l.length)(hh:bX (itF l) key l.length p=true)(val:ByteArray) :
  p<l.length/\fQ l key val=Y2 l p true key val/\I4 l key=l.take p++l.drop (p+1)/\R9 l key=true:=by
 obtain⟨hc,hs⟩:=yC (key:=key) hok;rw[<-hp]at hc;unfold bX at hh;simp only[Bool.and_eq_true,decide_eq_true_eq]at hh;obtain⟨h1,h2,h3⟩:=Af hc hs (tg hh.1) hh.2 val;exact⟨hh.1,h1,h2,by simp[R9,h3]⟩
theorem iJ{l:List Itm}{key:Int}(hok:okF (itF l) l.length=true){p:Nat}(hp:p=bsF (itF l) key 0 l.length)(hh:bX (itF l) key l.length p=false)(val:ByteArray) :
  fQ l key val=Y2 l p false key val/\R9 l key=false:=by
 obtain⟨hc,hs⟩:=yC (key:=key) hok;rw[<-hp]at hc;obtain⟨h1,h2⟩:=wV hc hs (fun x hx he=>by
  have hlt:=(List.getElem?_eq_some_iff.1 hx).1;rw[tg hlt]at hx;injection hx with hx
  rw[<-hx]at he;unfold bX at hh;simp[hlt,he]at hh) val
 exact⟨h1,by simp[R9,h2]⟩
theorem uM{f g:Nat->Itm}{n:Nat}(h:∀t,t<n->f t=g t):okF f n=okF g n:=by
 unfold okF;rw[Bool.eq_iff_iff,List.all_eq_true,List.all_eq_true];have e:∀t,t<n->bV f t=bV g t:=fun t ht=>by
  unfold bV;rw[h t ht,h (t-1) (by omega)]
 constructor
 .intro h1 t ht;rw[<-e t (List.mem_range.1 ht)];exact h1 t ht
 intro h1 t ht;rw[e t (List.mem_range.1 ht)];exact h1 t ht
theorem rA{f g:Nat->Itm}{n:Nat}(h:∀t,t<n->f t=g t)(kd:Int)(nx:Lab)(mk:Int):D9 kd n f nx mk=D9 kd n g nx mk:=by
 rw[cQ,cQ,uM h]
theorem jD(kd:Int)(n:Nat)(f:Nat->Itm)(nx:Lab)(mk:Int):D9 kd (b4 f n).length (itF (b4 f n)) nx mk=D9 kd n f nx mk:=by
 rw[i3];exact rA (fun t ht=>u0 f n t ht) kd nx mk
theorem ui(kd:Int)(n:Nat)(f:Nat->Itm)(nx:Lab)(mk:Int)(key:Int)(val:ByteArray):wR kd (b4 f n).length (itF (b4 f n)) nx mk key val=wR kd n f nx mk key val:=by
 unfold wR;rw[jD,I3]
theorem uO(kd:Int)(n:Nat)(f:Nat->Itm)(nx:Lab)(mk:Int)(key:Int):oR kd (b4 f n).length (itF (b4 f n)) nx mk key=oR kd n f nx mk key:=by
 unfold oR;rw[jD,I3]
theorem sJ(A:Option Addr)(n c:Nat)(f:Nat->Itm)(kd:Int)(nx:Lab)(mk:Int):Sim (F2 A n c f kd nx mk) (F2 A (b4 f n).length c (itF (b4 f n)) kd nx mk):=
 Sim.agg ⟨zr,Sim.resl (i3 f n).symm (fun t ht=>by rw[i3]at ht;rw[u0 f n t ht]),zr,zr,zr,trivial⟩
theorem xB{m:Nat->Nat->Prop}{w:World}{l:List AV}(h:∀v∈l,Ok m w v):Ok m w (.tup l):=.tup _ h
theorem xh{m:Nat->Nat->Prop}{w:World}{A:Option Addr}{n c:Nat}{f:Nat->Itm}(h:Ok m w (l7 A n c f))(kd:Int)(nx:Lab)(mk:Int):Ok m w (F2 A n c f kd nx mk):=by
 refine .agg _ (fun v hv=>?_) (fun v hv=>?_)
 .simp only[List.mem_cons,List.not_mem_nil,or_false]at hv
  rcases hv with rfl|rfl|rfl|rfl|rfl<;>rfl
 simp only[List.mem_cons,List.not_mem_nil,or_false]at hv
 rcases hv with rfl|rfl|rfl|rfl|rfl
 .exact .int _ _
 .exact h
 .exact .int _ _
 .exact .int _ _
 exact .int _ _
theorem sK{m:Nat->Nat->Prop}{w:World}{A:Option Addr}{n c:Nat}{f:Nat->Itm}{kd:Int}{nx:Lab}{mk:Int}(h:Ok m w (F2 A n c f kd nx mk)):Ok m w (l7 A n c f):=rh h _ (by simp)
theorem zk(A:Option Addr)(c:Nat)(l:List Itm)(hn:l.length<=1000000)(kd:Int)(nx:Lab)(mk:Int)(hv:U64 nx.bits)(key:Int)(val:ByteArray) :
  j7 Tryz.prog 162 [F2 A l.length c (itF l) kd nx mk,.int .u64 key,.str val] (fun x=>.tup [bB (x.A 0) (x.c 0) (wR kd l.length (itF l) nx mk key val).1,.int .i64 (wR kd l.length (itF l) nx mk key val).2]):=by
 obtain⟨p,hp⟩:=eqv (bsF (itF l) key 0 l.length)
 by_cases href:D9 kd l.length (itF l) nx mk=false \/ kd≠1 \/ 64<val.size \/ (bX (itF l) key l.length (bsF (itF l) key 0 l.length)=false/\l.length=16)
 .have h:=vV A l.length c (itF l) hn kd nx mk hv key val href
  have hw:wR kd l.length (itF l) nx mk key val=(i9,if D9 kd l.length (itF l) nx mk=false then 1 else if kd≠1 then 13 else if 64<val.size then 2 else 12):=by
   unfold wR;rw[I3]
   cases hi:D9 kd l.length (itF l) nx mk with
   |false=>simp
   |true=>
    by_cases hk:kd=1
    .by_cases hl:64<val.size
     .simp [hk,hl]
     have h2:bX (itF l) key l.length (bsF (itF l) key 0 l.length)=false/\l.length=16:=by
      rcases href with h|h|h|h
      .rw [hi]at h;cases h
      .exact absurd hk h
      .exact absurd h hl
      exact h
     have h3:=iJ (E4 hi).2.2.2.2 hp (by rw[hp];exact h2.1) val;have h4:16<(fQ l key val).length:=by rw[h3.1];simp[Y2];omega
     simp[hk,hl,h4]
    simp[hk]
  intro m w hm ha;refine(h m w hm ha).mono ?_
  rintro e w' ⟨x,rfl,hok,hb⟩
  rw[hw];exact⟨f8,rfl,hok,hb⟩
 have hi:D9 kd l.length (itF l) nx mk=true:=by
  cases h:D9 kd l.length (itF l) nx mk with
  |true=>rfl
  |false=>exact absurd (.inl h) href
 have hk:kd=1:=Decidable.byContradiction fun h=>href (.inr (.inl h))
 have hl:val.size<=64:=Nat.le_of_not_lt fun h=>href (.inr (.inr (.inl h)))
 subst hk;have hfull:bX (itF l) key l.length p=true \/ l.length≠16:=by
  cases h:bX (itF l) key l.length p with
  |true=>exact .inl rfl
  |false=>exact .inr fun h2=>href (.inr (.inr (.inr ⟨by rw[<-hp];exact h,h2⟩)))
 obtain⟨_,_,hn16,_,hok⟩:=E4 hi;have hple:p<=l.length:=by rw[hp];exact sd _ _ l.length 0 _ (by omega) (Nat.zero_le _)
 obtain⟨hh,hhh⟩:=eqv (bX (itF l) key l.length p);have hput:fQ l key val=Y2 l p hh key val:=by
  cases hh with
  |true=>exact(kL hok hp hhh.symm val).2.1
  |false=>exact(iJ hok hp hhh.symm val).1
 have hpin:hh=true->p<l.length:=fun h=>by
  rw[h]at hhh;exact(kL hok hp hhh.symm val).1
 have hlen:¬16<(fQ l key val).length:=by
  rw[hput]
  cases hh with
  |true=>simp[Y2];omega
  |false=>
   rw[<-hhh]at hfull;have:l.length≠16:=by
    rcases hfull with h|h
    .cases h
    exact h
   simp[Y2];omega
 have hmk:mk=0:=by
  unfold D9 at hi;simp[Q8]at hi;exact hi.2.1
 have hw:wR 1 l.length (itF l) nx mk key val=(⟨1,Y2 l p hh key val,nx,mk⟩,0):=by
  unfold wR;rw[I3,hi,hmk,<-hput];simp[show ¬64<val.size by omega,hlen]
 intro m w hm ha;have hr:=sK (ha (F2 A l.length c (itF l) 1 nx mk) (by simp));refine(DO w A c l nx mk hv key val (hr.mono fun b o u h1 h2=>⟨h1,id⟩) hi hl p hh hp hhh hple hpin (by rw[hhh];exact hfull)).mono ?_
 rintro e w' ⟨A',c',rfl,hO,hb⟩
 rw[hw];have hrow:Ok m w' (l7 A' (Y2 l p hh key val).length c' (itF (Y2 l p hh key val))):=gG hO hm fun x hx=>by
  have hvs:=eH hr;have hm64:64<=maxLen:=by decide
  unfold Y2 at hx
  cases hh with
  |true=>
   rcases List.mem_or_eq_of_mem_set hx with hx|rfl
   .exact hvs x hx
   simp only;omega
  |false=>
   rcases List.mem_append.1 hx with hx|hx
   .rcases List.mem_append.1 hx with hx|hx
    .exact hvs x (List.mem_of_mem_take hx)
    rw[List.mem_singleton.1 hx];simp only;omega
   exact hvs x (List.mem_of_mem_drop hx)
 refine⟨⟨0,fun _=>A',fun _=>c',fun _=>⟨#[]⟩⟩,rfl,xB fun v hv=>?_,hb⟩;simp only[List.mem_cons,List.not_mem_nil,or_false]at hv
 rcases hv with rfl|rfl
 .exact xh hrow _ _ _
 exact .int _ _
theorem DN(A:Option Addr)(n c:Nat)(f:Nat->Itm)(hn:n<=1000000)(kd:Int)(nx:Lab)(mk:Int)(hv:U64 nx.bits)(key:Int)(val:ByteArray) :
  j7 Tryz.prog 162 [F2 A n c f kd nx mk,.int .u64 key,.str val] (fun x=>.tup [bB (x.A 0) (x.c 0) (wR kd n f nx mk key val).1,.int .i64 (wR kd n f nx mk key val).2]):=by
 have h:=zk A c (b4 f n) (by rw[i3];exact hn) kd nx mk hv key val;rw[ui]at h;exact h.sim ⟨sJ A n c f kd nx mk,zr,zr,trivial⟩
theorem zf(A:Option Addr)(c:Nat)(l:List Itm)(hn:l.length<=1000000)(kd:Int)(nx:Lab)(mk:Int)(hv:U64 nx.bits)(key:Int) :
  j7 Tryz.prog 167 [F2 A l.length c (itF l) kd nx mk,.int .u64 key] (fun x=>.tup [bB (x.A 0) (x.c 0) (oR kd l.length (itF l) nx mk key).1,.bool (.v (oR kd l.length (itF l) nx mk key).2)]):=by
 obtain⟨p,hp⟩:=eqv (bsF (itF l) key 0 l.length)
 cases hi:D9 kd l.length (itF l) nx mk&&bX (itF l) key l.length (bsF (itF l) key 0 l.length)with
 |false=>
  have h:=vS A l.length c (itF l) hn kd nx mk hv key hi;have hw:oR kd l.length (itF l) nx mk key=(⟨kd,l,nx,mk⟩,false):=by
   unfold oR;rw[I3]
   cases h1:D9 kd l.length (itF l) nx mk with
   |false=>simp
   |true=>
    rw[h1,Bool.true_and,<-hp]at hi;have:=(iJ (E4 h1).2.2.2.2 hp hi ⟨#[]⟩).2;simp[this]
  intro m w hm ha;refine(h m w hm ha).mono ?_
  rintro e w' ⟨x,rfl,hok,hb⟩
  rw[hw];exact⟨⟨0,fun _=>A,fun _=>c,fun _=>⟨#[]⟩⟩,rfl,hok,hb⟩
 |true=>
  rw[Bool.and_eq_true,<-hp]at hi;obtain⟨hi,hh⟩:=hi;obtain⟨h1,_,h3,h4⟩:=kL (E4 hi).2.2.2.2 hp hh ⟨#[]⟩;have hw:oR kd l.length (itF l) nx mk key=(⟨kd,l.take p++l.drop (p+1),nx,mk⟩,true):=by
   unfold oR;rw[I3,hi,h4,h3];rfl
  have hlen:(l.take p++l.drop (p+1)).length=l.length-1:=by simp;omega
  intro m w hm ha;have hr:=sK (ha (F2 A l.length c (itF l) kd nx mk) (by simp));refine(ug w A c l kd nx mk hv key (hr.mono fun b o u h1 h2=>⟨h1,id⟩) hi p hp hh h1).mono ?_
  rintro e w' ⟨A',c',rfl,hO,hb⟩
  rw[hw];have hrow:Ok m w' (l7 A' (l.take p++l.drop (p+1)).length c' (itF (l.take p++l.drop (p+1)))):=gG hO hm fun x hx=>by
   have hvs:=eH hr
   rcases List.mem_append.1 hx with hx|hx
   .exact hvs x (List.mem_of_mem_take hx)
   exact hvs x (List.mem_of_mem_drop hx)
  refine⟨⟨0,fun _=>A',fun _=>c',fun _=>⟨#[]⟩⟩,?_,xB fun v hv=>?_,hb⟩
  .rw [<-hlen];rfl
  simp only[List.mem_cons,List.not_mem_nil,or_false]at hv
  rcases hv with rfl|rfl
  .exact xh hrow _ _ _
  exact .bool _
theorem DL(A:Option Addr)(n c:Nat)(f:Nat->Itm)(hn:n<=1000000)(kd:Int)(nx:Lab)(mk:Int)(hv:U64 nx.bits)(key:Int) :
  j7 Tryz.prog 167 [F2 A n c f kd nx mk,.int .u64 key] (fun x=>.tup [bB (x.A 0) (x.c 0) (oR kd n f nx mk key).1,.bool (.v (oR kd n f nx mk key).2)]):=by
 have h:=zf A c (b4 f n) (by rw[i3];exact hn) kd nx mk hv key;rw[uO]at h;exact h.sim ⟨sJ A n c f kd nx mk,zr,trivial⟩
theorem ly{ι : Type}(p:ι->Prop)(μ : ι->Nat)(h:∃i,p i):∃i,p i/\∀j,p j->μ i<=μ j:=by
 have key:∀n i,p i->μ i=n->∃i,p i/\∀j,p j->μ i<=μ j:=by
  intro n
  induction n using Nat.strongRecOn with
  |_ n ih=>
   intro i hi hn
   by_cases hm:∃j,p j/\μ j<n
   .obtain ⟨j,hj,hlt⟩:=hm
    exact ih _ hlt j hj rfl
   exact⟨i,hi,fun j hj=>Nat.le_of_not_lt fun hlt=>hm ⟨j,hj,by omega⟩⟩
 obtain⟨i,hi⟩:=h;exact key _ i hi rfl
open Classical in
theorem ww{P:Program}{Q:Exit->Act->World->Prop}{C:Cx}{s0:St}{a:Act}{w:World}{c tail:Code}(h0:b6 C s0 a w)(l:Nat){ι : Type}(St':ι->St)(J:ι->Prop)(μ : ι->Nat)(hf:findLabel c l=some (.seq .skip tail))
  (pass:∀i,J i->∀a w,b6 C (St' i) a w->tail.wp P (Exit.jump l (fun a' w'=>∃j,J j/\b6 C (St' j) a' w'/\μ j<μ i) Q) a w)
  (first:(∀i,J i->∀a w,b6 C (St' i) a w->tail.wp P (Exit.jump l (fun a' w'=>∃j,J j/\b6 C (St' j) a' w') Q) a w)->c.wp P (Exit.jump l (fun a' w'=>∃j,J j/\b6 C (St' j) a' w') Q) a w):(Code.scope c).wp P Q a w:=by
 have weak:∀{J1 J2:Act->World->Prop} {x:Code} {a:Act} {w:World},(∀a w,J1 a w->J2 a w)->x.wp P (Exit.jump l J1 Q) a w->x.wp P (Exit.jump l J2 Q) a w:=fun {J1 J2 x a w} hj hx=>by
  refine wp_mono hx ?_;intro e a w he
  cases e with
  |goto l'=>exact⟨he.1,hj _ _ he.2⟩
  |_=>exact he
 refine wp_scope_jumps l (fun a w=>∃j,J j/\b6 C (St' j) a w) (fun a w=>if h:∃i,J i/\b6 C (St' i) a w then μ (Classical.choose (ly _ μ h))else 0) hf (first fun i hi a w Z=>weak (fun a w ⟨j,h1,h2,_⟩=>⟨j,h1,h2⟩) (pass i hi a w Z)) fun a w hJ=>?_
 have hc:=Classical.choose_spec (ly _ μ hJ);refine wp_seq (wp_skip ?_);refine weak (fun a' w' ⟨j,h1,h2,h3⟩=>⟨⟨j,h1,h2⟩,?_⟩) (pass _ hc.1.1 a w hc.1.2);have hJ':∃i,J i/\b6 C (St' i) a' w':=⟨j,h1,h2⟩
 rw[dif_pos hJ,dif_pos hJ'];exact Nat.lt_of_le_of_lt ((Classical.choose_spec (ly _ μ hJ')).2 j ⟨h1,h2⟩) h3
theorem Gs(x:RA)(h:L3 x)(key:Int)(val:ByteArray):j7 Tryz.prog 162 [C7 x,.int .u64 key,.str val] (fun y=>.tup [C7 ⟨y.A 0,y.c 0,(wA x key val).1.rn⟩,.int .i64 (wA x key val).2]):=by
 have hf:=h.few;exact DN x.A x.r.n x.c x.r.f (by omega) x.r.kd x.r.nx x.r.mrk h.nx key val
theorem Gt(x:RA)(h:L3 x)(key:Int):j7 Tryz.prog 167 [C7 x,.int .u64 key] (fun y=>.tup [C7 ⟨y.A 0,y.c 0,(oA x key).1.rn⟩,.bool (.v (oA x key).2)]):=by
 have hf:=h.few;exact DL x.A x.r.n x.c x.r.f (by omega) x.r.kd x.r.nx x.r.mrk h.nx key
theorem Fa(k0 b:Nat)(J:i5)(hJ:j0 J)(A:Option Addr)(c:Nat)(p:Pst)(hp:f9 p)(hn:p.n<=1000000)(l:Lab)(hl:LOk l)(g:u2)(x:RA)(hx:L3 x)(n:Nat)(hf:p.n<n):s5 165 k0 b J A c p [f4 l,.agg (.int .i64 0 :: .int .u64 (IntKind.u64.wrap (g.ver+1)) :: .bool .tt::ew x)] (fun _=>i4) (R5 J.bucket J.budget n l (upG g x) p):=
 s5.re (tC n 0 b J hJ A c p hp hn l hl (upG g x) (hx.up g) hf) ⟨zr,Sim.agg ⟨zr,zr,Sim.tt,zr,zr,zr,zr,zr,trivial⟩,trivial⟩
theorem EZ(k0 b:Nat)(J:i5)(hJ:j0 J)(A:Option Addr)(c:Nat)(p:Pst)(hp:f9 p)(hn:p.n<=1000000)(l:Lab)(hl:LOk l)(g:u2)(n:Nat)(hf:p.n<n):s5 165 k0 b J A c p [f4 l,.agg [.int .i64 0,.int .u64 (IntKind.u64.wrap (g.ver+1)),.bool .tt,.int .i64 4,.sl none none 0 0 2 (fun _=>[]),.int .i64 (-1),.int .u64 0,.int .u64 0]] (fun _=>i4) (R5 J.bucket J.budget n l (upG g cB) p):=
 s5.re (tC n 0 b J hJ A c p hp hn l hl (upG g cB) (kZ.up g) hf) ⟨zr,Sim.agg ⟨zr,zr,Sim.tt,zr,J0,zr,zr,zr,trivial⟩,trivial⟩
theorem FZ(k0 b:Nat)(J:i5)(hJ:j0 J)(A:Option Addr)(c:Nat)(p:Pst)(hp:f9 p)(hn:p.n<=1000000)(l:Lab)(v:Int):s5 163 k0 b J A c p [f4 l,.int .u64 v,.agg [.int .i64 4,.sl none none 0 0 2 (fun _=>[]),.int .i64 (-1),.int .u64 0,.int .u64 0]] (fun d=>.bool (.v d)) (P3 J.budget l v fW p):=
 s5.re (cW 0 b J hJ A c p hp hn l v cB) ⟨zr,zr,Sim.agg ⟨zr,J0,zr,zr,zr,trivial⟩,trivial⟩
theorem EO(b:Nat)(J:i5)(hJ:j0 J)(A:Option Addr)(c:Nat)(p:Pst)(hp:f9 p)(hn:p.n<=1000000)(hh:J.how=1 \/ J.how=2):s5 113 0 b J A c p [] (jO) (eJ J.bucket J.budget J.how J.key J.val (p.n+1) p):=by
 intro m w hm hargs hpre;refine enX 104 hm hpre hargs Tryz.func113 fun B O a0 Z=>?_
 refine wp_seq (rg O a6 [0,2] [0,2] [] Z fun X0 _ _ Z=>?_);refine ww Z 0 (ι:=Nat×Pst×Option Addr×Nat×Nat×Spt) (fun q=>⟨104,[(0,.ptr 0 b 0),(2,.ptr 2 (X0 0).b 0),(3,.int .u64 J.key),(4,.str J.val),(5,.ptr 5 q.2.2.2.2.1 0)],[],[(0,⟨b,139,C0 J q.2.2.1 q.2.2.2.1 q.2.1⟩),(5,⟨q.2.2.2.2.1,144,[.int .i64 q.2.2.2.2.2.lab.len,.int .u64 q.2.2.2.2.2.lab.bits,.int .i64 q.2.2.2.2.2.g.code,.int .u64 q.2.2.2.2.2.g.ver,.bool (.v q.2.2.2.2.2.g.has),.int .i64 q.2.2.2.2.2.g.x.r.kd,.sl none q.2.2.2.2.2.g.x.A q.2.2.2.2.2.g.x.r.n q.2.2.2.2.2.g.x.c 2 (fun i=>itC (q.2.2.2.2.2.g.x.r.f i)),.int .i64 q.2.2.2.2.2.g.x.r.nx.len,.int .u64 q.2.2.2.2.2.g.x.r.nx.bits,.int .u64 q.2.2.2.2.2.g.x.r.mrk]⟩),(2,⟨(X0 0).b,38,[.int .i64 0,.bool .ff,.str ⟨#[]⟩,.sl none none 0 0 2 (fun _=>[]),.int .u64 0,.bool .ff]⟩)],[]⟩) (fun q=>eJ J.bucket J.budget J.how J.key J.val (p.n+1) p=P0 J.bucket J.budget J.how J.key J.val q.1 q.2.2.2.2.2 q.2.1/\f9 q.2.1/\q.2.1.n<=1000000/\q.2.1.n<q.1/\jK q.2.2.2.2.2) (fun q=>q.1) rfl ?_ ?_
 .rintro ⟨nn,p0,A0,c0,b5,x0⟩ ⟨hrun0,hp0,hn0,hf0,hx0⟩ _ _ Z
  try dsimp only at hrun0
  try dsimp only at hp0
  try dsimp only at hn0
  try dsimp only at hf0
  try dsimp only at hx0
  obtain⟨m0,rfl⟩:∃n2,nn=n2+1:=⟨nn-1,by omega⟩
  have SF:=yb x0.g.x hx0.ok.ra J.key;obtain⟨fv,hfv⟩:=eqv (lK x0.g.x J.key);rw[<-hfv]at SF;obtain⟨fb,hfb⟩:=eqv (lL x0.g.x J.key);rw[<-hfb]at SF;have O1:=SF;refine wp_seq (rg O a6 [0,2,3,4,5,6,7] [0,2,5] [(4,.r fun _=>.tup [.str fv,.bool (.v fb)])] Z fun X5 _ _ Z=>?_);refine wp_seq (wp_seq (drg O a6 [49,0,2,3,4,5,6,7] [0,2,5] [] Z fun X6 _ _ Z=>?_));apply a7 Z rfl<;>intro hb Z
  .have tb:fb=true \/ (x0.g.x.r.n:Int)<J.bucket:=by
    have h9:(if fb=true then true else decide ((x0.g.x.r.n:Int)<J.bucket))=true:=by subst O;exact hb
    revert h9;cases fb<;>simp
   have SW:=Gs x0.g.x hx0.ok.ra J.key J.val;obtain⟨r1,hr1⟩:=eqv ((wA x0.g.x J.key J.val).1.rn);rw[<-hr1]at SW;obtain⟨e1,he1⟩:=eqv ((wA x0.g.x J.key J.val).2);rw[<-he1]at SW;have ha1:r1.abs=(wA x0.g.x J.key J.val).1:=by rw[hr1];exact Q4 _
   have O1:=SW;refine wp_seq (rg O a6 [0,2,3,4,5,6,7,8] [0,2,5,8] [(5,.r fun y=>.tup [.agg [.int .i64 r1.kd,.sl none (y.A 0) r1.n (y.c 0) 2 (fun i=>itC (r1.f i)),.int .i64 r1.nx.len,.int .u64 r1.nx.bits,.int .u64 r1.mrk],.int .i64 e1])] Z fun X7 _ _ Z=>?_);refine wp_seq (wp_seq ?_)
   rcases(cW 0 b J hJ A0 c0 p0 hp0 hn0 x0.lab x0.g.ver ⟨(X7 5).A 0,(X7 5).c 0,r1⟩).two (l6 _ _ _ _ _) hp0 hn0 with⟨w8,p8,hm8,O1⟩|⟨d8,p8,hm8,hs8,hp8,hn8,S8⟩
   .refine stp 7 O a6 [59,61,64,65] [0] [] Z O1 fun _ _ _ _ Z hk=>?_
    exact thm (P:=Tryz.prog) (fn:=Tryz.f113) (q:=p8) Z hk (by simp[hrun0,P0,Rs.bind,<-hfv,<-hfb,tb,<-ha1,hm8])
   have hl8:=cA hm8;have O1:=S8;refine rg O a6 [66,0,2,3,4,5,6,7] [0,2,5] [(7,rc J (.bool (.v d8)) p8)] Z fun X8 _ _ Z=>?_
   apply a7 Z rfl<;>intro hb Z
   .have td:d8=true:=by exact hb
    refine wp_seq (rg O a6 [2] [0,2] [] Z fun X9 _ _ Z=>?_);exact wp_ret ((rmm O a6 Z (v:=(⟨0,fb,fv,[],0,false⟩:Rsl)) (q:=p8) ((X8 7).A 0) ((X8 7).c 0) (by simp[hrun0,P0,Rs.bind,<-hfv,<-hfb,tb,<-ha1,hm8,td])).1)
   have td:d8=false:=by exact hb
   refine wp_skip (wp_seq ?_)
   rcases(sD 0 b J hJ ((X8 7).A 0) ((X8 7).c 0) p8 hp8 hn8 J.key hJ.key (m0) (by have:=hf0;have:=hl8;omega) hh).two (R4 _ _ _ _ _ _) hp8 hn8 with⟨w10,p10,hm10,O1⟩|⟨s10,p10,hm10,hs10,hp10,hn10,S10⟩
   .refine stp 2 O a6 [70,71] [0] [] Z O1 fun _ _ _ _ Z hk=>?_
    exact thm (P:=Tryz.prog) (fn:=Tryz.f113) (q:=p10) Z hk (by simp[hrun0,P0,Rs.bind,<-hfv,<-hfb,tb,<-ha1,hm8,td,hm10])
   have hx10:=dq hJ.key hp8 hm10;have O1:=S10;refine rg O a6 [0,2,3,4,5] [0,2,5] [(2,rc J (L9 s10) p10)] Z fun X10 _ _ Z=>?_
   replace Z:=Z.keep [0,2,3,4,5] [0,5,2];exact wp_goto ⟨rfl,(m0,p10,_,_,_,s10),⟨by rw[hrun0];simp[P0,Rs.bind,<-hfv,<-hfb,tb,<-ha1,hm8,td,hm10],hp10,hn10,(by have:=hf0;have:=hl8;have:=hs10.le;dsimp only;omega),hx10⟩,Z,by simp only;omega⟩
  have tb:¬(fb=true \/ (x0.g.x.r.n:Int)<J.bucket):=by
   have h9:(if fb=true then true else decide ((x0.g.x.r.n:Int)<J.bucket))=false:=by subst O;exact hb
   revert h9;cases fb<;>simp
  have O1:=qC 3 x0.g.x 0;refine wp_skip (wp_seq (rg O a6 [0,2,3,4,5,10] [0,2,5,10] [(3,.r fun _=>C7 (asR 3 x0.g.x 0))] Z fun X11 _ _ Z=>?_));refine wp_seq (wp_seq ?_)
  rcases(cW 0 b J hJ A0 c0 p0 hp0 hn0 x0.lab x0.g.ver (asR 3 x0.g.x 0)).two (l6 _ _ _ _ _) hp0 hn0 with⟨w12,p12,hm12,O1⟩|⟨d12,p12,hm12,hs12,hp12,hn12,S12⟩
  .refine stp 7 O a6 [77,79,82,83] [0] [] Z O1 fun _ _ _ _ Z hk=>?_
   exact thm (P:=Tryz.prog) (fn:=Tryz.f113) (q:=p12) Z hk (by simp[hrun0,P0,Rs.bind,<-hfv,<-hfb,tb,hm12])
  have hl12:=cA hm12;have O1:=S12;refine rg O a6 [85,0,2,3,4,5,10] [0,2,5,10] [(7,rc J (.bool (.v d12)) p12)] Z fun X12 _ _ Z=>?_
  apply a7 Z rfl<;>intro hb Z
  .have td:d12=false:=by subst O;revert hb;cases d12<;>simp[std]
   apply wp_seq
   rcases(sD 0 b J hJ ((X12 7).A 0) ((X12 7).c 0) p12 hp12 hn12 J.key hJ.key (m0) (by have:=hf0;have:=hl12;omega) hh).two (R4 _ _ _ _ _ _) hp12 hn12 with⟨w13,p13,hm13,O1⟩|⟨s13,p13,hm13,hs13,hp13,hn13,S13⟩
   .refine stp 2 O a6 [86,87] [0] [] Z O1 fun _ _ _ _ Z hk=>?_
    exact thm (P:=Tryz.prog) (fn:=Tryz.f113) (q:=p13) Z hk (by simp[hrun0,P0,Rs.bind,<-hfv,<-hfb,tb,hm12,td,hm13])
   have hx13:=dq hJ.key hp12 hm13;have O1:=S13;refine rg O a6 [0,2,3,4,5] [0,2,5] [(2,rc J (L9 s13) p13)] Z fun X13 _ _ Z=>?_
   replace Z:=Z.keep [0,2,3,4,5] [0,5,2];exact wp_goto ⟨rfl,(m0,p13,_,_,_,s13),⟨by rw[hrun0];simp[P0,Rs.bind,<-hfv,<-hfb,tb,hm12,td,hm13],hp13,hn13,(by have:=hf0;have:=hl12;have:=hs13.le;dsimp only;omega),hx13⟩,Z,by simp only;omega⟩
  have td:d12=true:=by subst O;revert hb;cases d12<;>simp[std]
  refine wp_skip (wp_seq ?_)
  rcases(Fa 0 b J hJ ((X12 7).A 0) ((X12 7).c 0) p12 hp12 hn12 x0.lab hx0.lab2 x0.g (asR 3 x0.g.x 0) (hx0.ok.ra.as 3 0) m0 (by have:=hf0;have:=hl12;omega)).two (F9 _ _ _ _ _ _) hp12 hn12 with⟨w14,p14,hm14,O1⟩|⟨v14,p14,hm14,hs14,hp14,hn14,S14⟩
  .refine stp 9 O a6 [89,91,97] [0] [] Z O1 fun _ _ _ _ Z hk=>?_
   exact thm (P:=Tryz.prog) (fn:=Tryz.f113) (q:=p14) Z hk (by simp[hrun0,P0,Rs.bind,<-hfv,<-hfb,tb,hm12,td,hm14])
  have O1:=S14;refine rg O a6 [0,2,3,4,5] [0,2,5] [(9,rc J (i4) p14)] Z fun X14 _ _ Z=>?_
  apply wp_seq
  rcases(xY 0 b J hJ ((X14 9).A 0) ((X14 9).c 0) p14 hp14 hn14 J.key hJ.key x0.lab hx0.lab2 m0 (by have:=hf0;have:=hl12;have:=hs14.le;omega)).two (J6 _ _ _ _ _ _) hp14 hn14 with⟨w15,p15,hm15,O1⟩|⟨s15,p15,hm15,hs15,hp15,hn15,S15⟩
  .refine stp 4 O a6 [99,100,102] [0] [] Z O1 fun _ _ _ _ Z hk=>?_
   exact thm (P:=Tryz.prog) (fn:=Tryz.f113) (q:=p15) Z hk (by simp[hrun0,P0,Rs.bind,<-hfv,<-hfb,tb,hm12,td,hm14,hm15])
  have hx15:=cC hJ.key hp14 hx0.lab hm15;have O1:=S15;refine rg O a6 [0,2,3,4,5] [0,2,5] [(4,rc J (L9 s15) p15)] Z fun X15 _ _ Z=>?_
  replace Z:=Z.keep [0,2,3,4,5] [0,5,2];exact wp_goto ⟨rfl,(m0,p15,_,_,_,s15),⟨by rw[hrun0];simp[P0,Rs.bind,<-hfv,<-hfb,tb,hm12,td,hm14,hm15],hp15,hn15,(by have:=hf0;have:=hl12;have:=hs14.le;have:=hs15.le;dsimp only;omega),hx15⟩,Z,by simp only;omega⟩
 intro hpass;refine wp_seq (drg O a6 [0,2,3,4] [0,2] [] Z fun X1 _ _ Z=>?_);refine wp_seq (wp_seq (rg O a6 [23,0,2,3,4] [0,2] [] Z fun X2 _ _ Z=>?_));apply a7 Z rfl<;>intro hb Z
 .have tv:64<J.val.size:=by
   have:(64:Int)<(J.val.size:Int):=by subst O;simpa[std,a8]using hb
   omega
  refine wp_seq (rg O a6 [2] [0,2] [] Z fun X3 _ _ Z=>?_);exact wp_ret ((rmm O a6 Z (v:=(⟨2,false,⟨#[]⟩,[],0,false⟩:Rsl)) (q:=p) A c (by simp[eJ,Rs.bind,tv])).1)
 have tv:¬64<J.val.size:=by
  have:¬(64:Int)<(J.val.size:Int):=by subst O;simpa[std,a8]using hb
  omega
 refine wp_skip (wp_seq ?_)
 rcases(sD 0 b J hJ A c p hp hn J.key hJ.key (p.n+1) (Nat.lt_succ_self _) hh).two (R4 _ _ _ _ _ _) hp hn with⟨w4,p4,hm4,O1⟩|⟨s4,p4,hm4,hs4,hp4,hn4,S4⟩
 .refine stp 2 O a6 [25,26] [0] [] Z O1 fun _ _ _ _ Z hk=>?_
  exact thm (P:=Tryz.prog) (fn:=Tryz.f113) (q:=p4) Z hk (by simp[eJ,Rs.bind,tv,hm4])
 have hx4:=dq hJ.key hp hm4;have O1:=S4;refine rg O a6 [0,2,3,4,5] [0,2,5] [(2,rc J (L9 s4) p4)] Z fun X4 _ _ Z=>?_
 replace Z:=Z.keep [0,2,3,4,5] [0,5,2];exact wp_seq (wp_label (hpass (p.n+1,p4,_,_,_,s4) ⟨by simp[eJ,Rs.bind,tv,hm4],hp4,hn4,Nat.lt_succ_of_le hs4.le,hx4⟩ _ _ Z))
theorem HB(k0 b:Nat)(J:i5)(hJ:j0 J)(A:Option Addr)(c:Nat)(p:Pst)(hp:f9 p)(hn:p.n<=1000000)(hh:J.how=1 \/ J.how=2):s5 113 k0 b J A c p [] (jO) (eJ J.bucket J.budget J.how J.key J.val (p.n+1) p):=s5.re (EO b J hJ A c p hp hn hh) (by repeat(first|exact trivial|refine⟨zr,?_⟩))
theorem DZ(l:Lab)(hL:isL l=true)(hb0:U64 l.bits)(h0:l.len≠0):j7 Tryz.prog 270 [f4 l,.int .u64 ((2^(64-l.len.toNat):Nat):Int)] (fun _=>f4 (kQ l)):=by
 intro m w hm hargs;have e2:=zD hL hb0 h0;have e3:(kQ l).len=l.len:=by unfold kQ;split<;>rfl
 obtain⟨bt,hbt⟩:=eqv (((2^(64-l.len.toNat):Nat):Int));rw[<-hbt]at hargs e2 ⊢;simp only[f4]at hargs;refine en 12 hm hargs Tryz.func270 fun B O a0 Z=>?_
 refine wp_seq (rg O a6 [1,2,4] [2,4] [] Z fun X0 _ _ Z=>?_);refine wp_seq (rg O a6 [4] [4] [] Z fun X1 _ _ Z=>?_);refine wp_ret ((rsi O a6 Z f8 (he:=?_)));subst O;refine Sim.agg ⟨by rw[e3];exact zr,?_,trivial⟩
 show Sim (.int .u64 (o9 .xor .u64 l.bits bt)) _
 rw[e2];exact zr
theorem AM(l:Lab)(hb0:U64 l.bits):j7 Tryz.prog 269 [f4 l,.fn 270 [] []] (fun _=>.tup [f4 (cF l),.int .i64 (G4 l)]):=by
 intro m w hm hargs;have SI:=fD l hb0;simp only[f4]at SI hargs ⊢;obtain⟨il,hil⟩:=eqv (isL l);rw[<-hil]at SI;refine en 23 hm hargs Tryz.func269 fun B O a0 Z=>?_
 refine wp_seq (rg O a6 [1,2,4] [2,4] [] Z fun X0 _ _ Z=>?_);have O1:=SI;refine wp_seq (wp_block (wp_seq (rg O a6 [6,1,2,4] [2,4] [(1,.r fun _=>.bool (.v il))] Z fun X1 _ _ Z=>?_)));apply a7 Z rfl<;>intro hb Z
 .have hilf:il=false:=by subst O;cases il<;>first|rfl|(simp[std]at hb)
  have hE:G4 l=1:=by unfold G4;rw[<-hil,hilf];rfl
  have hV:cF l=⟨0,0⟩:=by unfold cF;rw[hE];rfl
  refine wp_seq (rg O a6 [4,5] [4] [] Z fun X2 _ _ Z=>?_);refine wp_ret ((rsi O a6 Z f8 (he:=?_)));subst O;rw[hV,hE];exact zr
 have hilt:il=true:=by subst O;cases il<;>first|rfl|(simp[std]at hb)
 have hLt:isL l=true:=by rw[<-hil];exact hilt
 obtain⟨hl0,hl1,hl2⟩:=r7 hLt;refine wp_seq (rg O a6 [11,1,2,4] [2,4] [] Z fun X3 _ _ Z=>?_);apply a7 Z rfl<;>intro hb Z
 .have h0:l.len=0:=by subst O;simpa[std,a8]using hb
  have hE:G4 l=7:=by unfold G4;rw[<-hil,hilt,if_neg (by decide),if_pos h0]
  have hV:cF l=⟨0,0⟩:=by unfold cF;rw[hE];rfl
  refine wp_seq (rg O a6 [4,5] [4] [] Z fun X4 _ _ Z=>?_);refine wp_ret ((rsi O a6 Z f8 (he:=?_)));subst O;rw[hV,hE];exact zr
 have h0:¬l.len=0:=by subst O;simpa[std,a8]using hb
 have hE:G4 l=0:=by unfold G4;rw[<-hil,hilt,if_neg (by decide),if_neg h0]
 have hV:cF l=kQ l:=by unfold cF;rw[hE];rfl
 have SB:=yO (l.len-1) (by omega) (by omega);rw[show 63-(l.len-1).toNat=64-l.len.toNat by omega]at SB;have S1:=DZ l hLt hb0 h0;simp only[f4]at S1;have e1:IntKind.i64.wrap (l.len-1)=l.len-1:=o8 (by omega) (by omega);rw[<-e1]at SB;obtain⟨bt,hbt⟩:=eqv (((2^(64-l.len.toNat):Nat):Int));rw[<-hbt]at SB S1;obtain⟨k,hk⟩:=eqv (kQ l);rw[<-hk]at S1 hV;have O1:=SB;have O2:=S1;refine wp_skip (wp_seq (drg O a6 [4,5] [4] [(5,.r fun _=>.int .u64 bt),(6,.r fun _=>.agg [.int .i64 k.len,.int .u64 k.bits])] Z fun X5 _ _ Z=>?_));refine wp_ret ((rsi O a6 Z f8 (he:=?_)));subst O;rw[hV,hE];exact zr
theorem Hd(l:Lab)(hb0:U64 l.bits):j7 Tryz.prog 232 [f4 l] (fun _=>.tup [f4 (cF l),.int .i64 (G4 l)]):=by
 intro m w hm hargs;have SI:=AM l hb0;simp only[f4]at SI hargs ⊢;obtain⟨k,hk⟩:=eqv (cF l);rw[<-hk]at SI ⊢;obtain⟨q,hq⟩:=eqv (G4 l);rw[<-hq]at SI ⊢;refine en 8 hm hargs Tryz.func232 fun B O a0 Z=>?_
 refine wp_seq (rg O a6 [1,2] [1,2] [] Z fun X0 _ _ Z=>?_);have O1:=SI;refine wp_seq (rg O a6 [2,3] [2] [(1,.r fun _=>.tup [.agg [.int .i64 k.len,.int .u64 k.bits],.int .i64 q])] Z fun X1 _ _ Z=>?_);exact wp_ret ((rsp O a6 Z f8).1)
theorem Ei(l:Lab)(hl:LOk l):j7 Tryz.prog 175 [f4 l] (fun _=>.tup [f4 (cF l),.int .i64 (G4 l)]):=by
 intro m w hm hargs;have hb0:=hl.u;have SP:=kU l hb0;have hpu:=hl.par.u;have SC0:=U0 (G1 l) hpu 0 (.inl rfl);have SC1:=U0 (G1 l) hpu 1 (.inr rfl);have hd:G4 l=0->cF l=if l=chV (G1 l) 0 then chV (G1 l) 1 else chV (G1 l) 0:=fun he=>by
  have h0:l.len≠0:=fun h0=>by
   unfold G4 at he;rw[if_pos h0]at he;split at he<;>cases he
  rw[show cF l=kQ l from if_pos he,show G1 l=N8 l from if_pos he];exact(sA hl.isl hb0 h0).2.2
 have hz:¬G4 l=0->cF l=⟨0,0⟩:=fun he=>if_neg he
 simp only[f4]at SP SC0 SC1 hargs ⊢;obtain⟨k,hk⟩:=eqv (cF l);rw[<-hk]at hd hz ⊢;obtain⟨x0,hx0⟩:=eqv (chV (G1 l) 0);rw[<-hx0]at SC0 hd;obtain⟨x1,hx1⟩:=eqv (chV (G1 l) 1);rw[<-hx1]at SC1 hd;obtain⟨c0,hc0⟩:=eqv (chE (G1 l) 0);rw[<-hc0]at SC0;obtain⟨c1,hc1⟩:=eqv (chE (G1 l) 1);rw[<-hc1]at SC1;obtain⟨up,hup⟩:=eqv (G1 l);rw[<-hup]at SP SC0 SC1;obtain⟨q,hq⟩:=eqv (G4 l);rw[<-hq]at SP hd hz ⊢;refine en 34 hm hargs Tryz.func175 fun B O a0 Z=>?_
 refine wp_seq (rg O a6 [1,2] [1,2] [] Z fun X0 _ _ Z=>?_);have O1:=SP;refine wp_seq (rg O a6 [1,2,4,5] [1,2,4] [(1,.r fun _=>.tup [.agg [.int .i64 up.len,.int .u64 up.bits],.int .i64 q])] Z fun X1 _ _ Z=>?_);refine wp_seq (wp_seq (rg O a6 [16,1,2,4,5] [1,2,4] [] Z fun X2 _ _ Z=>?_));apply a7 Z rfl<;>intro hb Z
 .have he:¬q=0:=by subst O;simpa[std,a8]using hb
  refine wp_seq (rg O a6 [2,3] [2] [] Z fun X3 _ _ Z=>?_);refine wp_ret ((rsi O a6 Z f8 (he:=?_)));subst O;rw[hz he];exact zr
 have he:q=0:=by subst O;simpa[std,a8]using hb
 have O1:=SC0;refine wp_skip (wp_seq (rg O a6 [1,2,4,6] [1,2,4,6] [(1,.r fun _=>.tup [.agg [.int .i64 x0.len,.int .u64 x0.bits],.int .i64 c0])] Z fun X4 _ _ Z=>?_));have O1:=SC1;refine wp_seq (rg O a6 [1,2,6,8] [1,2,6,8] [(1,.r fun _=>.tup [.agg [.int .i64 x1.len,.int .u64 x1.bits],.int .i64 c1])] Z fun X5 _ _ Z=>?_);refine wp_seq (wp_seq ?_);refine rg O a6 [31,2,6,8] [2,6,8] [] Z (hob:=by intro X;subst O;simp only[b7,Ob.holds,BE.den]<;>and_intros<;>repeat first|trivial|rfl|exact f7 (Kk:=noK) _ _ _ _|exact(fun _ _=>by kernel_rfl)|refine⟨?_,?_⟩|intro h|exact Int.le_refl _|decide|omega) fun X6 _ _ Z=>?_
 apply a7 Z rfl<;>intro hb Z
 .have hx:decide (l=x0)=true:=by
   have h9:eqL [.int .i64 l.len,.int .u64 l.bits] [.int .i64 x0.len,.int .u64 x0.bits]=true:=by subst O;exact hb
   rw[<-h9];exact(aq l x0).symm
  have hx:=of_decide_eq_true hx;refine wp_seq (rg O a6 [2,3] [2] [] Z fun X7 _ _ Z=>?_);refine wp_ret ((rsi O a6 Z f8 (he:=?_)));subst O;rw[hd he,if_pos hx,he];exact zr
 have hx:decide (l=x0)=false:=by
  have h9:eqL [.int .i64 l.len,.int .u64 l.bits] [.int .i64 x0.len,.int .u64 x0.bits]=false:=by subst O;exact hb
  rw[<-h9];exact(aq l x0).symm
 have hx:=of_decide_eq_false hx;refine wp_skip (wp_seq (rg O a6 [2,3] [2] [] Z fun X8 _ _ Z=>?_));refine wp_ret ((rsi O a6 Z f8 (he:=?_)));subst O;rw[hd he,if_neg hx,he];exact zr
def rF(r:Option Nat):Fence:={ Fence.wide with round:=r }
@[simp] theorem rF_round (r : Option Nat) : (rF r).round = r := rfl
theorem sL(r:Option Nat)(n:Nat):(rF r).room n:=fun d hd=>by cases hd
theorem ld(r:Option Nat)(f:FuncId):(rF r).fn f:=trivial
theorem lf(r:Option Nat)(n:Nat):(rF r).depth.isSome=true->1<=n:=fun h=>by cases h
section
variable {P:Program} {n:Nat} {r:Option Nat}
theorem Cs{f:FuncId}{args:Array Value}{w:World}{R:Ending->World->Prop}(h:Calls P f args w R):CallsIn (rF r) n P f args w R:=callsIn_wide (n:=n).2 h
theorem zU{row:String}{args:Array Value}{w:World}{R:Value->World->Prop}(h:Rows P row args w R):RowsIn (rF r) n P row args w R:=fun c cs _=>by
 obtain⟨v,w',hr,hs⟩:=h c cs;exact⟨v,w',hr,stepsIn_wide.2 hs⟩
def P4(l:List Oper):Bool:=l.all fun o=>match o.op with| .defer _=>false|_=>true
theorem xf{o:Oper}(hd:∀c,o.op ≠ .defer c){a:Act}{w:World}{next next':Act->World->Prop}{Q Q':Exit->Act->World->Prop}(hN:∀a w,next a w->next' a w)(hQ:∀e a w,Q e a w->Q' e a w)(h:o.wp P a w next Q):o.wpIn (rF r) n P a w next' Q':=by
 refine⟨fun f _=>ld r f,?_⟩;rw[Oper.semAt_eq _ _ _ hd];unfold Oper.wp at h
 generalize (execOp a.eval o).run P w=res at h
 have hmap:∀f args w',Calls P f args w' (fun| .returned v,w''=>next (a.put o.dst v) w''| .panicked chain,w''=>Q (.panic chain) a w''| .outgrown,_=>LetsOut Q) →
   Calls P f args w' (fun| .returned v,w''=>next' (a.put o.dst v) w''| .panicked chain,w''=>Q' (.panic chain) a w''| .outgrown,_=>LetsOut Q'):=fun f args w' h=>by
  refine h.mono ?_;intro e w'' he
  cases e with
  |returned v=>exact hN _ _ he
  |panicked chain=>exact hQ _ _ _ he
  |outgrown=>obtain⟨a,w,he⟩:=he;exact⟨a,w,hQ _ _ _ he⟩
 cases res with
 |ok nx w'=>
  cases nx with
  |value v=>exact hN _ _ h
  |skip=>exact hN _ _ h
  |defer d=>exact hN _ _ h
  |enter f args=>exact⟨lf r n,Cs (hmap _ _ _ h)⟩
  |row row args=>exact⟨lf r n,zU (h.mono fun v w' hv=>hN _ _ hv)⟩
  |_=>exact h.elim
 |halt hh w'=>
  cases hh with
  |panic v=>exact hQ _ _ _ h
  |_=>exact h.elim
theorem dx{ops:Array Oper}{Q Q':Exit->Act->World->Prop}{rest:List Oper}(hO:∀a w,¬Q .outgrown a w)(hQ:∀e a w,e ≠ .normal->Q e a w->Q' e a w)(hN:∀a w,Q .normal a w->wpListIn (rF r) n P ops Q' rest a w) :
  ∀(L:List Oper) (a:Act) (w:World),P4 L=true->wpList P ops Q L a w->wpListIn (rF r) n P ops Q' (L++rest) a w
 | [],a,w,_,h=>hN a w h
 |o::L,a,w,hd,h=>by
  have hd1:∀c,o.op ≠ .defer c:=fun c e=>by unfold P4 at hd;simp[e]at hd
  have hd2:P4 L=true:=by unfold P4 at hd ⊢;rw[List.all_cons,Bool.and_eq_true]at hd;exact hd.2
  show(if Region.wanted o (yielded ops a.tmps)then o.wpIn (rF r) n P a w (wpListIn (rF r) n P ops Q' (L++rest)) Q' else(∀f,o.about P w a.eval=some f->(rF r).fn f)/\wpListIn (rF r) n P ops Q' (L++rest) (a.put o.dst undef) w)
  unfold wpList at h
  by_cases hw:Region.wanted o (yielded ops a.tmps)=true
  .rw [if_pos hw]at h ⊢
   rcases h with h|⟨_,a',w',h⟩
   .-- Q may be met at .normal by the list's end only
    have H:o.wp P a w (wpListIn (rF r) n P ops Q' (L++rest)) Q:=by
     unfold Oper.wp at h ⊢
     generalize (execOp a.eval o).run P w=res at h
     cases res with
     |ok nx w'=>
      cases nx with
      |value v=>exact dx hO hQ hN L _ _ hd2 h
      |skip=>exact dx hO hQ hN L _ _ hd2 h
      |defer d=>exact dx hO hQ hN L _ _ hd2 h
      |enter f args=>
       refine Calls.mono h ?_;intro e w'' he
       cases e with
       |returned v=>exact dx hO hQ hN L _ _ hd2 he
       |panicked chain=>exact he
       |outgrown=>exact he
      |row row args=>exact Rows.mono h fun v w' hv=>dx hO hQ hN L _ _ hd2 hv
      |_=>exact h.elim
     |halt hh w'=>
      cases hh with
      |panic v=>exact h
      |_=>exact h.elim
    have H2:o.wp P a w (wpListIn (rF r) n P ops Q' (L++rest)) (fun e a w=>e ≠ .normal/\Q e a w):=by
     unfold Oper.wp at H ⊢
     generalize (execOp a.eval o).run P w=res at H
     cases res with
     |ok nx w'=>
      cases nx with
      |value v=>exact H
      |skip=>exact H
      |defer d=>exact H
      |enter f args=>
       refine Calls.mono H ?_;intro e w'' he
       cases e with
       |returned v=>exact he
       |panicked chain=>exact⟨by simp,he⟩
       |outgrown=>obtain⟨a,w,he⟩:=he;exact absurd he (hO a w)
      |row row args=>exact H
      |_=>exact H.elim
     |halt hh w'=>
      cases hh with
      |panic v=>exact⟨by simp,H⟩
      |_=>exact H.elim
    exact xf hd1 (fun _ _ h=>h) (fun e a w h=>hQ e a w h.1 h.2) H2
   exact absurd h (hO _ _)
  rw[if_neg hw]at h ⊢;exact⟨fun f _=>ld r f,dx hO hQ hN L _ _ hd2 h⟩
theorem kY{id:Nat}{l:List Oper}{Q:Exit->Act->World->Prop}{a:Act}{w:World}(hO:∀a w,¬Q .outgrown a w)(hd:P4 l=true)(h:wpList P l.toArray Q l a w):(Code.region id l.toArray false).wpIn (rF r) n P Q a w:=by
 refine wpIn_region_lit ?_;have:=dx (r:=r) (n:=n) (Q':=Q) (rest:=[]) hO (fun _ _ _ _ h=>h) (fun _ _ h=>h) l a w hd h
 rwa[List.append_nil]at this
def qV(P:Program)(l:Nat)(R:Ending->World->Prop):Exit->Act->World->Prop
 | .normal,_,w=>∃v w',(Instr.endRound l none).run P w = .ok v w'/\R (.returned v) w'
 | .ret,_,w=>∃v w',(Instr.endRound l (some .ret)).run P w = .ok v w'/\R (.returned v) w'
 | .exit id,_,w=>∃v w',(Instr.endRound l (some (.exit id))).run P w = .ok v w'/\R (.returned v) w'
 | .goto t,_,w=>∃v w',(Instr.endRound l (some (.goto t))).run P w = .ok v w'/\R (.returned v) w'
 | .panic chain,a,w=>a.defers=[]/\R (.panicked chain) w
 | .outgrown,_,_=>False
theorem zW{l:Nat}{f:FuncId}{fn:Func}(hfn:P.funcs[f]? = some fn){tmps:Array Value}{assign body:Code}{w:World}{R:Ending->World->Prop}
  (h:assign.wpIn (rF (some l)) n P (Exit.then (fun a₁ w₁=>∃w₂,(Instr.beginRound l).run P w₁ = .ok () w₂/\body.wpIn (rF (some l)) n P (qV P l R) a₁ w₂) (fun _ _ _=>False)) { tmps:=tmps,defers:=[] } w) :
  RoundIn (rF none) n P l f tmps assign body w R:=by
 refine⟨ld none f,fun c cs hr=>?_⟩
 let b:Frame:={ (default:Frame)with fn:=f,kind:=.normal,roundOf:=some l }
 have hb0:Frame.round l f tmps assign body .normal=b.atR { tmps:=tmps,defers:=[] } [.code assign,.beginRound,.code body]:=by
  simp[Frame.round,Frame.atR,b]
 have hro:b.roundOf=(rF (some l)).round:=rfl;obtain⟨e,a₁,w₁,hq,harr⟩:=h b [.beginRound,.code body] (c::cs) hro (ld _ _) (sL _ _);rw[<-hb0]at harr
 cases e with
 |normal=>
  obtain⟨w₂,hbr,hbody⟩:=hq;have s1:StepsIn (Machine.fenced P (rF (some l))) P (lone (b.atR a₁ [.beginRound,.code body]) (c::cs) w₁) (lone (b.atR a₁ [.code body]) (c::cs) w₂):=
   .one (fenced_wide P _) (stepR_beginRound rfl hbr)
  obtain⟨e₂,a₂,w₃,hq₂,harr₂⟩:=hbody b [] (c::cs) hro (ld _ _) (sL _ _)
  cases e₂ with
  |normal=>
   obtain⟨v,w₄,hend,hR⟩:=hq₂;exact⟨.returned v,w₄,hR,(StepsIn.trans harr s1).trans (StepsIn.trans harr₂ (.one (fenced_wide P _) (stepR_round_end rfl rfl hend)))⟩
  |ret=>
   obtain⟨v,w₄,hend,hR⟩:=hq₂;obtain⟨k₁,hs⟩:=harr₂.2 rfl;exact⟨.returned v,w₄,hR,(StepsIn.trans harr s1).trans (StepsIn.trans hs (.one (fenced_wide P _) (stepR_round_ret rfl rfl hend)))⟩
  |exit id=>
   obtain⟨v,w₄,hend,hR⟩:=hq₂;obtain⟨k₁,hk,hs⟩:=harr₂.2 rfl rfl;exact⟨.returned v,w₄,hR,(StepsIn.trans harr s1).trans (StepsIn.trans hs (.one (fenced_wide P _) (stepR_round_exit rfl rfl hk hend)))⟩
  |goto t=>
   obtain⟨v,w₄,hend,hR⟩:=hq₂;obtain⟨k₁,hk,hs⟩:=harr₂.2 rfl rfl;exact⟨.returned v,w₄,hR,(StepsIn.trans harr s1).trans (StepsIn.trans hs (.one (fenced_wide P _) (stepR_round_goto rfl rfl hk hend)))⟩
  |panic chain=>
   obtain⟨hd,hR⟩:=hq₂;obtain⟨todo,hs⟩:=harr₂;exact⟨.panicked chain,w₃,hR,(StepsIn.trans harr s1).trans (StepsIn.trans hs (.one (fenced_wide P _) (step_leave_panicked (fr:={ b.atR a₂ todo with mode:=.panicking chain }) ⟨rfl,hd,fn,hfn⟩)))⟩
  |outgrown=>exact hq₂.elim
 |exit id=>exact hq.elim
 |goto t=>exact hq.elim
 |ret=>exact hq.elim
 |panic chain=>exact hq.elim
 |outgrown=>exact hq.elim
end
def wpN(fn:FuncId)(P:Program)(c:Code)(Q:Exit->Act->World->Prop)(a:Act)(w:World):Prop:=
 ∀(b:Frame) (k:List Item) (cs:List Frame),b.fn=fn->∃e a' w',Q e a' w'/\Arrives P (lone (b.at a (.code c::k)) cs w) b k cs e a' w'
section
variable {P:Program} {fn:FuncId} {Q:Exit->Act->World->Prop} {a:Act} {w:World}
theorem fI{c:Code}(h:c.wp P Q a w):wpN fn P c Q a w:=fun b k cs _=>h b k cs
theorem de{x y:Code}(h:wpN fn P x (Exit.then (wpN fn P y Q) Q) a w):wpN fn P (Code.seq x y) Q a w:=by
 intro b k cs hb;obtain⟨e,a₁,w₁,hq,harr⟩:=h b (.code y::k) cs hb
 cases e with
 |normal=>
  obtain⟨e₂,a₂,w₂,hq₂,harr₂⟩:=hq b k cs hb;exact⟨e₂,a₂,w₂,hq₂,.of_steps (.head step_seq harr) harr₂⟩
 |exit id=>exact⟨_,a₁,w₁,hq,.of_steps (.one step_seq) (.pass (x:=.code y) rfl (fun _ _=>.inl (by simp)) harr)⟩
 |goto l=>exact⟨_,a₁,w₁,hq,.of_steps (.one step_seq) (.pass (x:=.code y) rfl (fun _ _=>.inl (by simp)) harr)⟩
 |ret=>exact⟨_,a₁,w₁,hq,.of_steps (.one step_seq) (.pass (x:=.code y) rfl (fun _ _=>.inl (by simp)) harr)⟩
 |panic ch=>exact⟨_,a₁,w₁,hq,.of_steps (.one step_seq) (.pass (x:=.code y) rfl (fun _ _=>.inl (by simp)) harr)⟩
 |outgrown=>exact⟨_,a₁,w₁,hq,.of_steps (.one step_seq) (.pass (x:=.code y) rfl (fun _ _=>.inl (by simp)) harr)⟩
def Ev(P:Program)(l:Nat)(Q:Exit->Act->World->Prop)(a':Act):Ending->World->Prop
 | .returned _,w₃=>∃jump w₄,(Instr.endLoop l).run P w₃ = .ok jump w₄/\(match jump with
   |none=>Q .normal a' w₄
   |some c=>c.wp P Q a' w₄)
 | .panicked chain,w₃=>Q (.panic chain) a' w₃
 | .outgrown,_=>LetsOut Q
def P5(fn:FuncId)(a:Act)(ps:Array Tmp)(assign body:Code)(D:Nat)(st:LoopState)(pe:Option Code):Loop:={ state:=st,pending:=pe,fn,tmps:=a.tmps,params:=ps,assign,body,defers:=D }
def ay(fn:FuncId)(a:Act)(ps:Array Tmp)(assign body:Code)(w:World):World:=(w.alloc (.deferred (some []))).alloc (.loop (P5 fn a ps assign body w.heap.size .ready none))
theorem mG{g:Operand}{ps:Array Tmp}{assign body:Code}{gf:Nat}{lb:Array Value}(hg:a.eval g = .func (.func gf) #[] lb)(eg:∀args w,(callFunc gf args).run P w = .ok (.enter gf args) w)
  (h:Calls P gf (#[.func (.yield (w.heap.size+1)) #[] #[]]++lb) (ay fn a ps assign body w) (Ev P (w.heap.size+1) Q { a with defers:={ target:=.collected w.heap.size,args:=#[] }::a.defers })) :
  wpN fn P (Code.rangeFunc g ps assign body) Q a w:=by
 intro b0 k cs hb;have hat:∀a k,b0.at a k=({ b0 with roundOf:=none }:Frame).atR a k:=fun a k=>(Frame.atR_of_none (b:={ b0 with roundOf:=none }) rfl a k).symm
 obtain⟨b,hbd⟩:=eqv (({ b0 with roundOf:=none }:Frame));have hro:b.roundOf=none:=by rw[hbd]
 have hbf:b.fn=fn:=by rw[hbd];exact hb
 have he:(Instr.enterLoop b.fn a.tmps ps assign body b.roundOf).run P w = .ok (w.heap.size+1,[{ target:=.collected w.heap.size,args:=#[] }]) (ay fn a ps assign body w):=by
  rw[hro,hbf];exact run_enterLoop_outer _ _ _ _ _
 have hres:(resolve a.eval (rangeCall g (w.heap.size+1)) 0).run P (ay fn a ps assign body w) = .ok { target:=.fn (.func gf) lb,args:=#[.func (.yield (w.heap.size+1)) #[] #[]] } (ay fn a ps assign body w):=by
  simp only[resolve,hg];simp[go_sem]
 have hinv:(invoke (.fn (.func gf) lb) #[.func (.yield (w.heap.size+1)) #[] #[]]).run P (ay fn a ps assign body w) = .ok (.enter gf (#[.func (.yield (w.heap.size+1)) #[] #[]]++lb)) (ay fn a ps assign body w):=by
  simp[invoke,go_sem,eg]
 have henter:=stepR_rangeFunc (P:=P) (b:=b) (a:=a) (k:=k) (cs:=cs) (w:=w) he hres hinv;obtain⟨e,w₃,fr,hR,hsteps,hfn,hleave⟩:=h (b.atR { a with defers:=[{ target:=.collected w.heap.size,args:=#[] }]++a.defers } (.inRangeFunc (w.heap.size+1)::k)::cs);have hbk:∀a k,b.atR a k=b0.at a k:=fun a k=>by rw[hbd,hat]
 rw[<-hbk]
 cases e with
 |outgrown=>
  obtain⟨a₀,w₀,hq⟩:=hR;exact⟨.outgrown,a₀,w₀,hq,.inr (Outgrown.of_steps (.one henter) hsteps)⟩
 |returned v=>
  obtain⟨jump,w₄,hend,hj⟩:=hR;have sback:Steps P (lone (b.atR a (.code (.rangeFunc g ps assign body)::k)) cs w) (lone (b.atR { a with defers:=[{ target:=.collected w.heap.size,args:=#[] }]++a.defers } ((jump.map Item.code).toList++k)) cs w₄):=by
   refine .head henter (Steps.trans hsteps (.head ?_ (.one (stepR_endRangeFunc hend))));rw[<-finish_atR_inRangeFunc (w.heap.size+1) v];exact step_leave_returned hleave
  cases jump with
  |none=>exact⟨.normal,_,w₄,hj,by rw[hbk]at sback ⊢;rw[hbk]at sback;exact sback⟩
  |some c=>
   obtain⟨e',a'',w₅,hq,harr⟩:=hj b0 k cs;refine⟨e',a'',w₅,hq,.of_steps sback ?_⟩;rw[hbk];exact harr
 |panicked chain=>
  refine⟨.panic chain,_,w₃,hR,.inRangeFunc (w.heap.size+1)::k,.head henter (Steps.trans hsteps (.one ?_))⟩;rw[<-hbk,<-Frame.raise_atR];exact step_leave_panicked hleave
theorem jI{f:FuncId}{fd:Func}{c:Code}{args:Array Value}{R:Ending->World->Prop}(hf:P.funcs[f]? = some fd)(hb:fd.body=some c)
  (h:wpN f P c (bodyPostM Fence.wide 0 P fd R) { tmps:=args++Array.replicate (fd.ntmps-args.size) undef,defers:=[] } w):Calls P f args w R:=by
 intro cs
 let b:Frame:={ (default:Frame)with fn:=f,kind:=.normal }
 have henter:Frame.enter P f args .normal=b.at { tmps:=args++Array.replicate (fd.ntmps-args.size) undef,defers:=[] } [.code c]:=by
  simp[Frame.enter,Frame.at,hf,hb,b]
 obtain⟨e,a',w',hq,harr⟩:=h b [] cs rfl;rw[<-henter]at harr
 cases e with
 |normal=>
  obtain⟨e',w'',fr',hR,hs,hfn,hl⟩:=leaves_stepsInM (F:=Fence.wide) a'.defers .returning w' { b.at a' []with mode:=.returning } cs rfl rfl rfl hf rfl trivial (room_wide _) hq;exact⟨e',w'',fr',hR,Comes.of_steps (Steps.trans harr (.one step_end)) (comesIn_wide.1 hs),hfn,hl⟩
 |ret=>
  obtain⟨todo,hs₀⟩:=harr;obtain⟨e',w'',fr',hR,hs,hfn,hl⟩:=leaves_stepsInM (F:=Fence.wide) a'.defers .returning w' { b.at a' todo with mode:=.returning } cs rfl rfl rfl hf rfl trivial (room_wide _) hq;exact⟨e',w'',fr',hR,Comes.of_steps hs₀ (comesIn_wide.1 hs),hfn,hl⟩
 |panic chain=>
  obtain⟨todo,hs₀⟩:=harr;obtain⟨e',w'',fr',hR,hs,hfn,hl⟩:=leaves_stepsInM (F:=Fence.wide) a'.defers (.panicking chain) w' { b.at a' todo with mode:=.panicking chain } cs rfl rfl rfl hf rfl trivial (room_wide _) hq;exact⟨e',w'',fr',hR,Comes.of_steps hs₀ (comesIn_wide.1 hs),hfn,hl⟩
 |exit id=>exact hq.elim
 |goto l=>exact hq.elim
 |outgrown=>exact⟨.outgrown,w',b,hq,harr.resolve_left (by simp[b]),rfl,trivial⟩
end
section
variable {m0:Nat->Nat->Prop} {w0 w w':World} {S:Nat->Prop} {ds:List Deferred} {K:Kn} {s:St} {a:Act} {P:Program}
abbrev cp(D:Nat):Deferred:={ target:=.collected D,args:=#[] }
theorem jB(fn:FuncId)(a:Act)(ps:Array Tmp)(assign body:Code)(w:World):Below w.heap.size w (ay fn a ps assign body w):=
 ((Below.refl _ w).alloc (Nat.le_refl _) _).alloc (by simp) _
theorem nf(fn:FuncId)(a:Act)(ps:Array Tmp)(assign body:Code)(w:World):(ay fn a ps assign body w).heap[w.heap.size+1]? = some (.loop (P5 fn a ps assign body w.heap.size .ready none)):=by
 have:=World.alloc_heap_new (w.alloc (.deferred (some []))) (.loop (P5 fn a ps assign body w.heap.size .ready none))
 rwa[World.size_alloc]at this
theorem lv(fn:FuncId)(a:Act)(ps:Array Tmp)(assign body:Code)(w:World):(ay fn a ps assign body w).heap[w.heap.size]? = some (.deferred (some [])):=
 (Below.heap_alloc _ _ _ (by simp)).trans (World.alloc_heap_new w _)
theorem pW{fd:Func}{R:Ending->World->Prop}{D:Nat}{chain:List PanicEntry}(hd:a.defers=[cp D])(hk:w.heap[D]? = some (.deferred (some [])))(h:R (.panicked chain) (w.putObj D (.deferred none))):bodyPostM Fence.wide 0 P fd R (.panic chain) a w:=by
 show LeavesInM Fence.wide 0 P fd a.tmps R a.defers (.panicking chain) w
 rw[hd];exact⟨by simp,.inl ⟨D,_,rfl,run_takeDeferred hk,h⟩⟩
end
section
variable {m0:Nat->Nat->Prop} {w0 wi w:World} {S:Nat->Prop} {ds di:List Deferred} {K:Kn} {s si:St} {a ai:Act}
def okK(V:List AV):Kn:=⟨fun m w=>∀v∈V,Ok m w v,fun k h v hv=>k.ok (h v hv)⟩
def Es(l:Nat)(r:Loop)(D:Nat):Kn:=⟨fun _ w=>w.heap[l]? = some (.loop r)/\w.heap[D]? = some (.deferred (some [])),fun k h=>⟨k.obj _ _ h.1 (fun _ _ _ e=>by cases e),k.obj _ _ h.2 (fun _ _ _ e=>by cases e)⟩⟩
theorem over(hc:b6 ⟨m0,w0,S,ds,K⟩ s a wi){pre:List (Nat×Blk)}(hi:b6 ⟨s.m ⟨m0,w0,S,ds,K⟩,wi,ats pre,di,noK⟩ si ai w)(hdist:pre.Pairwise fun e f=>e.2.at_≠f.2.at_)(hp:∀e∈pre,i6 s.mem e.1=some e.2){sets:List (Nat×List AV)}{news:List (Nat×Blk)}{ks:List Nat}(hs:B7 si pre sets)(hn:L7 si pre ks news) :
  b6 ⟨m0,w0,S,ds,K⟩ (s.eff (.sets (upd pre sets++news))) a w/\∀v,Ok (si.m ⟨s.m ⟨m0,w0,S,ds,K⟩,wi,ats pre,di,noK⟩) w v->Ok ((s.eff (.sets (upd pre sets++news))).m ⟨m0,w0,S,ds,K⟩) w v:=by
 obtain⟨hl,hok⟩:=dB hi hs hn;obtain⟨f1,f2⟩:=hc.called hdist hp hl;exact⟨f1,fun v hv=>f2 v (hok v hv)⟩
end
section
variable {C:Cx} {P:Program} {Q:Exit->Act->World->Prop} {ops:Array Oper} {s:St} {a:Act} {w:World} {L rest:List Oper} {o:Oper}
abbrev yV(l:Nat):AV:=.raw (.func (.yield l) #[] #[])
theorem ud{c:Call}{g:Operand}{l:Nat}{args:List AV}(hop:o.op = .call c)(hcal:c.callee = .value g)(h:b6 C s a w)(hgv:val s [] g=yV l)(hl:I2 s [] c.args.toList=some args){rc:Loop}(hr:w.heap[l]? = some (.loop rc))(hsz:args.length=rc.params.size) :
  (execOp a.eval o).run P w = .ok (.round l rc.fn ((rc.params.zip (args.map AV.den).toArray).foldl (fun tmps (t,a)=>tmps.setIfInBounds t a) rc.tmps) rc.assign rc.body) w/\∀v∈args,Ok (s.m C) w v:=by
 obtain⟨h1,h2⟩:=df h (fun _ h=>by cases h) hl;have hg:=F1 h (q:=[]) (fun _ h=>by cases h) (x:=g) (by rw[hgv];rfl);rw[hgv]at hg;have hargs:c.args.map a.eval=(args.map AV.den).toArray:=by
  apply Array.ext'
  simpa using h1
 have e1:a.eval g = .func (.yield l) #[] #[]:=hg.1;refine⟨?_,h2⟩;have hy:=run_yield (P:=P) (args:=(args.map AV.den).toArray) hr (by simpa using hsz);simp[execOp,hop,resolve,hcal,e1,Deferred.ofValue,invoke,hargs]
 simpa using hy
theorem mI{i g:Nat}{want:Bool}(hg:o.guard=some (i,want))(hd:(ops[i]?).bind (·.dst)=some g)(h:b6 C s a w)(hv:look s.tmps g = .bool (if want then .tt else .ff)):Region.wanted o (yielded ops a.tmps)=true:=by
 have h1:=(h.slot g (by rw[hv];cases want<;>rfl)).1;rw[hv]at h1;simp only[Region.wanted,hg,yielded,hd,Option.bind_some]
 cases want<;>simp[h1,AV.den,BE.den]
theorem ls{c:Call}{g:Operand}{l:Nat}{args:List AV}(hL:L=o::rest)(hw:Region.wanted o (yielded ops a.tmps)=true)(hop:o.op = .call c)(hcal:c.callee = .value g)(h:b6 C s a w)(hgv:val s [] g=yV l)(hl:I2 s [] c.args.toList=some args){rc:Loop}(hr:w.heap[l]? = some (.loop rc))(hsz:args.length=rc.params.size)
  (K:(∀v∈args,Ok (s.m C) w v)->RoundIn (rF none) 0 P l rc.fn ((rc.params.zip (args.map AV.den).toArray).foldl (fun tmps (t,a)=>tmps.setIfInBounds t a) rc.tmps) rc.assign rc.body w fun
   | .returned v,w''=>wpListIn (rF none) 0 P ops Q rest (a.put o.dst v) w''
   | .panicked chain,w''=>Q (.panic chain) a w''
   | .outgrown,_=>LetsOut Q):wpListIn (rF none) 0 P ops Q L a w:=by
 subst hL;obtain⟨hrun,hok⟩:=ud (P:=P) hop hcal h hgv hl hr hsz
 show(if Region.wanted o (yielded ops a.tmps)then o.wpIn (rF none) 0 P a w (wpListIn (rF none) 0 P ops Q rest) Q else _)
 rw[if_pos hw];refine⟨fun f _=>ld none f,?_⟩;rw[Oper.semAt_eq _ _ _ (fun c' e=>by rw[hop]at e;cases e),hrun];exact⟨lf none 0,K hok⟩
end
section
variable {P:Program} {w:World}
def wK(l:Nat)(r:Loop)(R:Ending->World->Prop):Exit->Act->World->Prop
 | .normal,_,w=>w.heap[l]? = some (.loop { r with state:=.busy })/\R (.returned (.bool true)) (w.putObj l (.loop { r with state:=.ready,pending:=none }))
 | .ret,_,w=>w.heap[l]? = some (.loop { r with state:=.busy })/\R (.returned (.bool false)) (w.putObj l (.loop { r with state:=.done,pending:=some .ret }))
 | .exit id,_,w=>w.heap[l]? = some (.loop { r with state:=.busy })/\R (.returned (.bool false)) (w.putObj l (.loop { r with state:=.done,pending:=some (.exit id) }))
 | .goto t,_,w=>w.heap[l]? = some (.loop { r with state:=.busy })/\R (.returned (.bool false)) (w.putObj l (.loop { r with state:=.done,pending:=some (.goto t) }))
 | .panic chain,a,w=>a.defers=[]/\R (.panicked chain) w
 | .outgrown,_,_=>False
theorem wI{l:Nat}{r:Loop}{fd:Func}(hfn:P.funcs[r.fn]? = some fd)(hst:r.state = .ready){tmps:Array Value}{R:Ending->World->Prop}
  (h:r.assign.wpIn (rF (some l)) 0 P (Exit.then (fun a₁ w₁=>w₁.heap[l]? = some (.loop r)/\r.body.wpIn (rF (some l)) 0 P (wK l r R) a₁ (w₁.putObj l (.loop { r with state:=.busy }))) (fun _ _ _=>False)) { tmps:=tmps,defers:=[] } w) :
  RoundIn (rF none) 0 P l r.fn tmps r.assign r.body w R:=by
 refine zW hfn (wpIn_mono h ?_);intro e a₁ w₁ he
 cases e with
 |normal=>
  obtain⟨hl,hb⟩:=he;refine⟨_,run_beginRound hl hst,wpIn_mono hb ?_⟩;intro e a w he
  cases e with
  |normal=>exact⟨_,_,run_endRound none he.1,he.2⟩
  |ret=>exact⟨_,_,run_endRound (some .ret) he.1,he.2⟩
  |exit id=>exact⟨_,_,run_endRound (some (.exit id)) he.1,he.2⟩
  |goto t=>exact⟨_,_,run_endRound (some (.goto t)) he.1,he.2⟩
  |panic chain=>exact he
  |outgrown=>exact he
 |exit id=>exact he
 |goto t=>exact he
 |ret=>exact he
 |panic chain=>exact he
 |outgrown=>exact he
def St.puts(s:St):List (Nat×AV)->St
 | []=>s
 |e::l=>(s.put (some e.1) e.2).puts l
theorem b6.puts{C:Cx}:∀{l:List (Nat×AV)} {s:St} {a:Act},b6 C s a w->(∀e∈l,e.1<s.nt/\Ok (s.m C) w e.2)->b6 C (s.puts l) { a with tmps:=l.foldl (fun t e=>t.setIfInBounds e.1 e.2.den) a.tmps } w
 | [],s,a,h,_=>h
 |e::l,s,a,h,hl=>by
  obtain⟨h1,h2⟩:=hl e (by simp);have hp:=h.put (some e.1) (fun t ht=>by injection ht with ht;subst ht;exact h1) e.2 (fun _=>h2) e.2.den (fun _=>rfl);exact b6.puts (l:=l) hp fun e' he'=>hl e' (by simp[he'])
end
section
variable {C:Cx} {P:Program} {Q:Exit->Act->World->Prop} {T:List (Nat×TI)} {s:St} {a:Act} {w:World} {B:Alg} {r:Option Nat}
theorem IP{all L:List Oper}{R:Alg->(Nat->i8)->St×List Ob}(i n:Nat)(O:B=std)(hT:o5 P T)(kp km:List Nat)(cs:List (Nat×CS))(h:b6 C s a w)(hO:∀a w,¬Q .outgrown a w)(hQ:∀X a' w',b6 C (R B X).1 a' w'->wpListIn (rF r) 0 P all.toArray Q (L.drop n) a' w')
  (hex:∀A X,(K5 A T cs X all (l9 i (L.take n)) s).map (fun r=>(r.1.keep kp km,r.2.1))=some (R A X)) (hob:∀X,b7 P C.K (R B X).2) (hd:P4 (L.take n)=true):wpListIn (rF r) 0 P all.toArray Q L a w:=by
 have h1:wpList P all.toArray (Exit.then (fun a w=>wpListIn (rF r) 0 P all.toArray Q (L.drop n) a w) Q) (L.take n) a w:=cM i O hT kp km cs h hex hob fun X a' w' hf=>hQ X a' w' hf
 have h2:=dx (r:=r) (n:=0) (ops:=all.toArray) (Q:=Exit.then (fun a w=>wpListIn (rF r) 0 P all.toArray Q (L.drop n) a w) Q) (Q':=Q) (rest:=L.drop n) (fun a w h=>hO a w h) (fun e a w hne h=>by cases e<;>first|exact absurd rfl hne|exact h) (fun a w h=>h) (L.take n) a w hd h1
 rwa[List.take_append_drop]at h2
theorem zX{all L:List Oper}{R:Alg->(Nat->i8)->St×List Ob}(i n:Nat)(O:B=std)(hT:o5 P T)(kp km:List Nat)(cs:List (Nat×CS))(h:b6 C s a w)(hQ:∀X a' w',b6 C (R B X).1 a' w'->wpListIn (rF r) 0 P all.toArray Q (L.drop n) a' w')
  (hO:∀a w,¬Q .outgrown a w:=by first|exact fun _ _ h=>h|(intro a w h;obtain⟨x,h,_⟩:=h;cases h))
  (hex:∀A X,(K5 A T cs X all (l9 i (L.take n)) s).map (fun r=>(r.1.keep kp km,r.2.1))=some (R A X):=by intro A X;conv=>lhs;cbv) (hob:∀X,b7 P C.K (R B X).2:=by
   intro X;subst O
   first
   |exact trivial
   |(simp only[b7,Ob.holds,BE.den]<;>and_intros<;>(repeat first|trivial|rfl|exact O1|exact O2|exact O3|exact(fun _ _=>by kernel_rfl)|exact O1 _ _ _ rfl|exact O2 _ _ _ rfl|refine⟨?_,?_⟩|intro h|decide|omega)<;>done)
   |(simp[b7,Ob.holds,BE.den,std,a8,o9]<;>omega)) (hd:P4 (L.take n)=true:=by rfl):wpListIn (rF r) 0 P all.toArray Q L a w:=IP i n O hT kp km cs h hO hQ hex hob hd
theorem uw{all L:List Oper}{R:Alg->(Nat->i8)->St×List Ob}(i:Nat)(O:B=std)(hT:o5 P T)(kp km:List Nat)(cs:List (Nat×CS))(h:b6 C s a w)(hQ:∀X a' w',b6 C (R B X).1 a' w'->Q .normal a' w')
  (hO:∀a w,¬Q .outgrown a w:=by first|exact fun _ _ h=>h|(intro a w h;obtain⟨x,h,_⟩:=h;cases h))
  (hex:∀A X,(K5 A T cs X all (l9 i L) s).map (fun r=>(r.1.keep kp km,r.2.1))=some (R A X):=by intro A X;conv=>lhs;cbv) (hob:∀X,b7 P C.K (R B X).2:=by
   intro X;subst O
   first
   |exact trivial
   |(simp only[b7,Ob.holds,BE.den]<;>and_intros<;>(repeat first|trivial|rfl|exact O1|exact O2|exact O3|exact(fun _ _=>by kernel_rfl)|exact O1 _ _ _ rfl|exact O2 _ _ _ rfl|refine⟨?_,?_⟩|intro h|decide|omega)<;>done)
   |(simp[b7,Ob.holds,BE.den,std,a8,o9]<;>omega)) (hd:P4 L=true:=by rfl):wpListIn (rF r) 0 P all.toArray Q L a w:=by
 have h1:=dx (r:=r) (n:=0) (Q':=Q) (rest:=[]) (fun a w h=>hO a w h) (fun e a w hne h=>h) (fun a w h=>h) L a w hd (cM (Q:=Q) i O hT kp km cs h hex hob hQ)
 rwa[List.append_nil]at h1
theorem rrg{id:Nat}{l:List Oper}{R:Alg->(Nat->i8)->St×List Ob}(O:B=std)(hT:o5 P T)(kp km:List Nat)(cs:List (Nat×CS))(h:b6 C s a w)(hQ:∀X a' w',b6 C (R B X).1 a' w'->Q .normal a' w')
  (hO:∀a w,¬Q .outgrown a w:=by first|exact fun _ _ h=>h|(intro a w h;obtain⟨x,h,_⟩:=h;cases h))
  (hex:∀A X,(K5 A T cs X l (l9 0 l) s).map (fun r=>(r.1.keep kp km,r.2.1))=some (R A X):=by intro A X;conv=>lhs;cbv) (hob:∀X,b7 P C.K (R B X).2:=by
   intro X;subst O
   first
   |exact trivial
   |(simp only[b7,Ob.holds,BE.den]<;>and_intros<;>(repeat first|trivial|rfl|exact O1|exact O2|exact O3|exact(fun _ _=>by kernel_rfl)|exact O1 _ _ _ rfl|exact O2 _ _ _ rfl|refine⟨?_,?_⟩|intro h|decide|omega)<;>done)
   |(simp[b7,Ob.holds,BE.den,std,a8,o9]<;>omega)) (hd:P4 l=true:=by rfl):(Code.region id l.toArray false).wpIn (rF r) 0 P Q a w:=
 kY hO hd (cM (all:=l) 0 O hT kp km cs h hex hob hQ)
end
section
variable {P:Program} {Q:Exit->Act->World->Prop} {C:Cx} {nt t:Nat} {b:Bool} {l:List (Nat×AV)} {mem:List (Nat×Blk)} {gr:List (Nat×Gr)} {a:Act} {w:World} {x y:Code} {r:Option Nat}
theorem Hm{s:St}(h:b6 C s a w)(hv:look s.tmps t = .bool (.v b))(h1:b=true->x.wpIn (rF r) 0 P Q a w)(h2:b=false->y.wpIn (rF r) 0 P Q a w):(Code.cond (.tmp t) x y).wpIn (rF r) 0 P Q a w:=by
 have:=(h.slot t (by rw[hv];rfl)).1;rw[hv]at this;refine wpIn_cond_split (t:=b) ?_ h1 h2;simp[Act.eval,this,AV.den,BE.den]
theorem wS{s:St}(h:b6 C s a w)(hv:look s.tmps t = .bool .tt)(h1:x.wpIn (rF r) 0 P Q a w):(Code.cond (.tmp t) x y).wpIn (rF r) 0 P Q a w:=by
 have:=(h.slot t (by rw[hv];rfl)).1;rw[hv]at this;exact wpIn_cond_true (by simp[Act.eval,this,AV.den,BE.den]) h1
theorem wT{s:St}(h:b6 C s a w)(hv:look s.tmps t = .bool .ff)(h1:y.wpIn (rF r) 0 P Q a w):(Code.cond (.tmp t) x y).wpIn (rF r) 0 P Q a w:=by
 have:=(h.slot t (by rw[hv];rfl)).1;rw[hv]at this;exact wpIn_cond_false (by simp[Act.eval,this,AV.den,BE.den]) h1
theorem bz(h:b6 C ⟨nt,(t,.bool (.v b))::l,[],mem,gr⟩ a w)(hd:(look l t).known=false)(h1:b=true->b6 C ⟨nt,l,[],mem,gr⟩ a w->x.wpIn (rF r) 0 P Q a w)(h2:b=false->b6 C ⟨nt,l,[],mem,gr⟩ a w->y.wpIn (rF r) 0 P Q a w):(Code.cond (.tmp t) x y).wpIn (rF r) 0 P Q a w:=
 Hm h (by show look ((t,_)::l) t=_;rw[B5,if_pos rfl]) (fun hb=>h1 hb (h.tail hd)) (fun hb=>h2 hb (h.tail hd))
theorem gB(h:b6 C ⟨nt,(t,.bool .tt)::l,[],mem,gr⟩ a w)(hd:(look l t).known=false)(h1:b6 C ⟨nt,l,[],mem,gr⟩ a w->x.wpIn (rF r) 0 P Q a w):(Code.cond (.tmp t) x y).wpIn (rF r) 0 P Q a w:=
 wS h (by show look ((t,_)::l) t=_;rw[B5,if_pos rfl]) (h1 (h.tail hd))
theorem pI(h:b6 C ⟨nt,(t,.bool .ff)::l,[],mem,gr⟩ a w)(hd:(look l t).known=false)(h1:b6 C ⟨nt,l,[],mem,gr⟩ a w->y.wpIn (rF r) 0 P Q a w):(Code.cond (.tmp t) x y).wpIn (rF r) 0 P Q a w:=
 wT h (by show look ((t,_)::l) t=_;rw[B5,if_pos rfl]) (h1 (h.tail hd))
end
section
variable {P:Program} {Q:Exit->Act->World->Prop} {r:Option Nat} {m0:Nat->Nat->Prop} {w0:World} {S:Nat->Prop} {ds:List Deferred}
theorem mR{ι : Type}(I:ι->Act->World->Prop)(J:ι->Prop)(μ : ι->Nat){c:Code}{a:Act}{w:World}(p₀:ι)(h₀:J p₀)(hf:I p₀ a w)
  (round:∀p,J p->∀a w,I p a w->c.wpIn (rF r) 0 P (Exit.then (fun a' w'=>∃p',J p'/\μ p'<μ p/\I p' a' w') Q) a w):(Code.loop c).wpIn (rF r) 0 P Q a w:=by
 intro b k fs hro hb hr;have key:∀n p a w,μ p=n->J p->I p a w →
   ∃e a' w',Q e a' w'/\ArrivesIn (Machine.fenced P (rF r)) P (lone (b.atR a (.code c :: .inLoop c::k)) fs w) b k fs e a' w':=by
  intro n
  induction n using Nat.strongRecOn with
  |_ n ih=>
   intro p a w hn hJ Z;obtain⟨e,a₁,w₁,hq,harr⟩:=round p hJ a w Z b (.inLoop c::k) fs hro hb hr
   cases e with
   |normal=>
    obtain⟨p',hJ',hlt,hF'⟩:=hq;obtain⟨e₂,a₂,w₂,hq₂,harr₂⟩:=ih (μ p') (hn ▸ hlt) p' a₁ w₁ rfl hJ' hF';exact⟨e₂,a₂,w₂,hq₂,.of_steps (StepsIn.trans harr (.one (fenced_wide P _) stepR_inLoop)) harr₂⟩
   |exit id=>exact⟨_,a₁,w₁,hq,.pass (x:=.inLoop c) rfl (fun _ _=>.inl (by simp)) harr⟩
   |goto l=>exact⟨_,a₁,w₁,hq,.pass (x:=.inLoop c) rfl (fun _ _=>.inl (by simp)) harr⟩
   |ret=>exact⟨_,a₁,w₁,hq,.pass (x:=.inLoop c) rfl (fun _ _=>.inl (by simp)) harr⟩
   |panic ch=>exact⟨_,a₁,w₁,hq,.pass (x:=.inLoop c) rfl (fun _ _=>.inl (by simp)) harr⟩
   |outgrown=>exact⟨_,a₁,w₁,hq,.pass (x:=.inLoop c) rfl (fun _ _=>.inl (by simp)) harr⟩
 obtain⟨e,a',w',hq,harr⟩:=key _ p₀ a w rfl h₀ hf;exact⟨e,a',w',hq,.of_steps (.one (fenced_wide P _) stepR_loop) harr⟩
end
section
variable {P:Program} {f:FuncId} {fn:Func} {c:Code} {R:Ending->World->Prop} {m:Nat->Nat->Prop} {w:World} {pre:List (Nat×Blk)} {args:List AV}
theorem enY(nt:Nat)(hm:∀b o,m b o->b<w.heap.size)(hp:M7 m w pre)(hargs:∀v∈args,Ok m w v)(hf:P.funcs[f]? = some fn)(h:∀B,B=std->∀a,b6 ⟨m,w,ats pre,[],noK⟩ ⟨nt,B8 0 args,[],pre,[]⟩ a w->c.wpIn (rF none) 0 P (bodyPost P fn R) a w)(hb:fn.body=some c:=by rfl)(hnt:fn.ntmps=nt:=by rfl)(hn:args.length<=nt:=by exact Nat.le_of_ble_eq_true rfl):Calls P f (args.map AV.den).toArray w R:=
 enX nt hm hp hargs hf (fun B O a Z=>(wpIn_wide (n:=0)).1 (h B O a Z)) hb hnt hn
end
section
variable {C:Cx} {P:Program} {Q:Exit->Act->World->Prop} {T:List (Nat×TI)} {B:Alg} {r:Option Nat} {ops:Array Oper}
theorem Ht{l:List Oper}(h:P4 l=true){o:Oper}(ho:o∈l):∀c,o.op ≠ .defer c:=fun c e=>by
 have:=List.all_eq_true.1 h o ho;rw[e]at this;cases this
theorem tX(hO:∀a w,¬Q .outgrown a w)(hd:∀o∈ops,∀c,o.op ≠ .defer c){md:Region.Mode}:∀(fuel:Nat) (listed:Array Bool) (a:Act) (w:World),wpAny P md ops Q fuel listed a w->wpAnyIn (rF r) 0 P md ops Q fuel listed a w
 |0,listed,a,w,h=>h
 |fuel+1,listed,a,w,h=>by
  refine⟨h.1,fun i hi=>?_⟩;have h2:=h.2 i hi;unfold wpOp at h2;unfold wpOpIn
  cases ho:ops[i]? with
  |none=>rw[ho]at h2;exact tX hO hd fuel _ _ _ h2
  |some o=>
   rw[ho]at h2;simp only at h2 ⊢
   by_cases hw:Region.wanted o (yielded ops a.tmps)=true
   .rw [if_pos hw]at h2 ⊢
    rcases h2 with h2|⟨_,a',w',h2⟩
    .exact xf (hd o (Array.mem_of_getElem? ho)) (fun a w h=>tX hO hd fuel _ a w h) (fun _ _ _ h=>h) h2
    exact absurd h2 (hO _ _)
   rw[if_neg hw]at h2 ⊢;exact⟨fun f _=>ld r f,tX hO hd fuel _ _ _ h2⟩
theorem uC{s:St}{a:Act}{w:World}{id:Nat}{l:List Oper}(hm:P.follows .mixedOrders=true)(hT:o5 P T)(kp km:List Nat)(cs:List (Nat×CS))(h:b6 C s a w)(hgs:s.gs=[])(fs:List D4)(hD:aO l fs=true)(hlen:l.length=fs.length)
  {R:Alg->(Nat->i8)->St×List Ob}
  (hex:∀A X,(K5 A T cs X l (l9 0 l) s).map (fun r=>((r.1.keep kp km,r.2.1),r.2.2))=some (R A X,fs)) (hO:∀a w,¬Q .outgrown a w) (hnd:P4 l=true) (hob:∀X,b7 P C.K (R std X).2) (hQ:∀X a' w',b6 C (R std X).1 a' w'->Q .normal a' w'):(Code.region id l.toArray true).wpIn (rF r) 0 P Q a w:=by
 simp only[aO,Bool.and_eq_true]at hD;obtain⟨⟨d1,d2⟩,d3⟩:=hD;refine wpIn_region_any hm (tX hO (fun o ho=>Ht hnd (by simpa using ho)) _ _ _ _ ?_);have hf:b6 C s a { w with drawn:=w.drawn+1 }:=h.world (fun _ _ _=>rfl) (fun _ _ _ _ _=>rfl) ⟨h.chg.os,h.chg.tape,h.chg.output,h.chg.size,h.chg.block⟩ (fun _ _ _ hc _=>hc) (fun _ _ h _=>h);have hnl:∀(l:List Oper) (i:Nat),(l9 i l).length=l.length:=by
  intro l
  induction l with
  |nil=>intro i;rfl
  |cons o l ih=>intro i;simp[l9,ih]
 have hsz:l.toArray.size=(l9 0 l).length:=by simp[hnl]
 rw[hsz];refine se (cs:=cs) (all:=l) (tb:=eF l []) hT rfl (cI (l:=l) (tb:=[]) rfl (fun i j h=>by simp at h)) _ (l9 0 l) fs _ s a _ rfl hf (fun t p v hl=>by rw[hgs]at hl;cases hl) ?_ ⟨by rw[hnl];exact hlen,d1⟩ ?_ (U1 l 0) ?_ ?_ (by simp[hnl]) ?_ ?_
 .exact gH d3
 .intro k o hk hu
  exfalso
  by_cases hk':k<(l9 0 l).length
  .simp [Array.getD_eq_getD_getElem?,hk']at hu
  simp[Array.getD_eq_getD_getElem?,hk']at hu
 .intro x hx
  obtain⟨h1,h2⟩:=V6 hx;rw[Nat.sub_zero]at h2;refine⟨by simpa using h2,?_⟩;have hlt:=(List.getElem?_eq_some_iff.1 h2).1;simp[Array.getD_eq_getD_getElem?,hnl,hlt]
 .intro k o hk _
  have:=Z7 (i:=0) (l:=l) (k:=k) (o:=o) (by simpa using hk)
  rwa[Nat.zero_add]at this
 .have ed:∀(L:List (Nat×Oper)),bK L=true->∀x∈L,∀e∈x.2.after.toList,Region.binds .any e=true->e.on<x.1:=by
   intro L
   induction L with
   |nil=>intro _ x hx;cases hx
   |cons y L ih=>
    obtain⟨i,o⟩:=y;intro hL x hx e he hb;simp only[bK,Bool.and_eq_true]at hL
    rcases List.mem_cons.1 hx with rfl|hx
    .have:=List.all_eq_true.1 hL.1 e he
     simpa[hb]using this
    exact ih hL.2 x hx e he hb
  exact ed _ d2
 intro X;obtain⟨r,hr,e⟩:=Option.map_eq_some_iff.1 (hex std X);obtain⟨τ,obs,fs'⟩:=r;simp only[Prod.mk.injEq]at e;obtain⟨e1,rfl⟩:=e;refine⟨τ,obs,hr,?_,fun a' w' hf'=>hQ X a' w' ?_⟩
 .have:=hob X;rw[<-e1]at this;exact this
 rw[<-e1];exact hf'.keep kp km
theorem Hl{s:St}{a:Act}{w:World}{id:Nat}{l:List Oper}{R:Alg->(Nat->i8)->St×List Ob}{fs:List D4}(O:B=std)(hT:o5 P T)(kp km:List Nat)(cs:List (Nat×CS))(h:b6 C s a w)(hQ:∀X a' w',b6 C (R B X).1 a' w'->Q .normal a' w')
  (hO:∀a w,¬Q .outgrown a w:=by first|exact fun _ _ h=>h|(intro a w h;obtain⟨x,h,_⟩:=h;cases h)) (hm:P.follows .mixedOrders=true:=by kernel_rfl) (hgs:s.gs=[]:=by rfl)
  (hex:∀A X,(K5 A T cs X l (l9 0 l) s).map (fun r=>((r.1.keep kp km,r.2.1),r.2.2))=some (R A X,fs):=by intro A X;conv=>lhs;cbv) (hD:aO l fs=true:=by kernel_rfl) (hlen:l.length=fs.length:=by rfl) (hob:∀X,b7 P C.K (R B X).2:=by
   intro X;subst O
   first
   |exact trivial
   |(simp only[b7,Ob.holds,BE.den]<;>and_intros<;>(repeat first|trivial|rfl|exact O1|exact O2|exact O3|exact(fun _ _=>by kernel_rfl)|exact O1 _ _ _ rfl|exact O2 _ _ _ rfl|refine⟨?_,?_⟩|intro h|decide|omega)<;>done)
   |(simp[b7,Ob.holds,BE.den,std,a8,o9]<;>omega)) (hd:P4 l=true:=by rfl):(Code.region id l.toArray true).wpIn (rF r) 0 P Q a w:=by
 subst O;exact uC hm hT kp km cs h hgs fs hD hlen hex hO hd hob hQ
theorem IN{a:Act}{w:World}{id:Nat}{l:List Oper}(h:wpList P l.toArray Q l a w)(hO:∀a w,¬Q .outgrown a w:=by first|exact fun _ _ h=>h|(intro a w h;obtain⟨x,h,_⟩:=h;cases h))(hd:P4 l=true:=by rfl):(Code.region id l.toArray false).wpIn (rF r) 0 P Q a w:=kY hO hd h
end
theorem mH{P:Program}{fn:FuncId}{Q:Exit->Act->World->Prop}{a:Act}{w:World}{id:Nat}{c:Code}(h:wpN fn P c (Exit.inBlock id Q) a w):wpN fn P (Code.block id c) Q a w:=by
 intro b k cs hb;obtain⟨e,a₁,w₁,hq,harr⟩:=h b (.inBlock id::k) cs hb
 cases e with
 |normal=>exact⟨.normal,a₁,w₁,hq,.head step_block (Steps.trans harr (.one step_inBlock))⟩
 |exit id'=>
  by_cases hid:id'=id
  .simp only[Exit.inBlock,hid,if_true]at hq
   exact⟨.normal,a₁,w₁,hq,.head step_block (harr k (by simp[exitTo,hid]))⟩
  simp only[Exit.inBlock,hid,if_false]at hq;refine⟨.exit id',a₁,w₁,hq,fun k' hk=>.head step_block (harr k' ?_)⟩;have:(id==id')=false:=by simp;exact fun h=>hid h.symm
  simp[exitTo,this,hk]
 |goto l=>exact⟨_,a₁,w₁,hq,fun k' hk=>.head step_block (harr k' (by simp[gotoIn,hk]))⟩
 |ret=>exact⟨_,a₁,w₁,hq,.of_steps (.one step_block) harr⟩
 |panic ch=>exact⟨_,a₁,w₁,hq,.of_steps (.one step_block) harr⟩
 |outgrown=>exact⟨_,a₁,w₁,hq,.of_steps (b:=b) (k:=k) (cs:=cs) (e:=.outgrown) (.one step_block) harr⟩
def okT(tm:List (Nat×AV)):Kn:=⟨fun m w=>∀t,(look tm t).known=true->Ok m w (look tm t),fun k h t ht=>k.ok (h t ht)⟩
def ao(nt:Nat)(tm:List (Nat×AV))(ds:List Deferred)(a:Act):Prop:=a.tmps.size=nt/\a.defers=ds/\∀t,(look tm t).known=true->a.tmps[t]? = some (look tm t).den
def Kn.under(K:Kn)(n:Nat):Prop:=∀l,n<=l->∀{w m w' m'},Z5 (some l) w m w' m'->K.p m w->K.p m' w'
def Kn.off(K:Kn)(l:Nat):Prop:=∀{w m w' m'},Z5 (some l) w m w' m'->K.p m w->K.p m' w'
theorem Kn.under.off{K:Kn}{n l:Nat}(h:K.under n)(hl:n<=l):K.off l:=h l hl
theorem uL(tm:List (Nat×AV))(n:Nat):(okT tm).under n:=fun _ _ _ _ _ _ k h t ht=>k.ok (h t ht)
theorem vM{K K':Kn}{n:Nat}(h:K.under n)(h':K'.under n):(K.and K').under n:=fun l hl _ _ _ _ k x=>⟨h l hl k x.1,h' l hl k x.2⟩
theorem cm(tm:List (Nat×AV))(n:Nat):(okT tm).off n:=fun k h t ht=>k.ok (h t ht)
theorem pj{K K':Kn}{n:Nat}(h:K.off n)(h':K'.off n):(K.and K').off n:=fun k x=>⟨h k x.1,h' k x.2⟩
theorem qZ{l D n:Nat}{r:Loop}(h1:l<n)(h2:D<n):(Es l r D).under n:=fun b hb _ _ _ _ k x=>⟨k.obj _ _ (by intro e;injection e with e;omega) x.1 (fun _ _ _ e=>by cases e),k.obj _ _ (by intro e;injection e with e;omega) x.2 (fun _ _ _ e=>by cases e)⟩
def Kn.self(K:Kn):Prop:=∀m w,K.p m w->K.under w.heap.size
theorem gI(tm:List (Nat×AV)):(okT tm).self:=fun _ _ _=>uL _ _
theorem cX{K K':Kn}(h:K.self)(h':K'.self):(K.and K').self:=fun m w x=>vM (h m w x.1) (h' m w x.2)
theorem uB{l D:Nat}{r:Loop}:(Es l r D).self:=fun m w x=>qZ (Array.getElem?_eq_some_iff.1 x.1).1 (Array.getElem?_eq_some_iff.1 x.2).1
def aa(Ds:List Nat):Kn:=⟨fun _ w=>(∀D∈Ds,w.heap[D]? = some (.deferred (some [])))/\Ds.Nodup,fun k h=>⟨fun D hD=>k.obj _ _ (h.1 D hD) (fun _ _ _ e=>by cases e),h.2⟩⟩
section
variable {m0:Nat->Nat->Prop} {w0 w w':World} {S:Nat->Prop} {ds:List Deferred} {K:Kn} {nt:Nat} {tm:List (Nat×AV)} {gs:List (Nat×List (Nat×Bool)×AV)} {mem:List (Nat×Blk)} {gr:List (Nat×Gr)} {a:Act} {P:Program}
abbrev Mem(m0:Nat->Nat->Prop)(w0:World)(S:Nat->Prop)(K:Kn)(mem:List (Nat×Blk))(gr:List (Nat×Gr))(w:World):Prop:=b6 ⟨m0,w0,S,[],K⟩ ⟨0,[],[],mem,gr⟩ ⟨#[],[]⟩ w
abbrev mT(m0:Nat->Nat->Prop)(mem:List (Nat×Blk))(gr:List (Nat×Gr)):Nat->Nat->Prop:=St.m ⟨0,[],[],mem,gr⟩ ⟨m0,default,fun _=>False,[],noK⟩
theorem b6.leave(h:b6 ⟨m0,w0,S,ds,K⟩ ⟨nt,tm,gs,mem,gr⟩ a w):Mem m0 w0 S (K.and (okT tm)) mem gr w/\ao nt tm ds a:=
 ⟨⟨rfl,rfl,(fun t ht=>by cases ht),(fun t p v he=>by cases he),h.mem,h.nodup,h.gr,h.sepm,h.sepg,h.chg,h.m0,⟨h.kept,fun t ht=>(h.slot t ht).2⟩⟩,h.size,h.defers,fun t ht=>(h.slot t ht).1⟩
theorem b6.bare(h:b6 ⟨m0,w0,S,ds,K⟩ ⟨nt,tm,gs,mem,gr⟩ a w):Mem m0 w0 S K mem gr w:=
 ⟨rfl,rfl,(fun t ht=>by cases ht),(fun t p v he=>by cases he),h.mem,h.nodup,h.gr,h.sepm,h.sepg,h.chg,h.m0,h.kept⟩
theorem fh(h:Mem m0 w0 S K mem gr w)(ha:ao nt tm ds a)(hok:(okT tm).p (mT m0 mem gr) w):b6 ⟨m0,w0,S,ds,K⟩ ⟨nt,tm,[],mem,gr⟩ a w:=
 ⟨ha.1,ha.2.1,fun t ht=>⟨ha.2.2 t ht,hok t ht⟩,(fun t p v he=>by cases he),h.mem,h.nodup,h.gr,h.sepm,h.sepg,h.chg,h.m0,h.kept⟩
theorem aY(h:Mem m0 w0 S (K.and (okT tm)) mem gr w)(ha:ao nt tm ds a):b6 ⟨m0,w0,S,ds,K⟩ ⟨nt,tm,[],mem,gr⟩ a w:=
 fh (K:=K) (b6.withK (K:=K.and (okT tm)) h h.kept.1) ha h.kept.2
theorem jx{K':Kn}(h:Mem m0 w0 S K mem gr w)(hK:K'.p (mT m0 mem gr) w):Mem m0 w0 S K' mem gr w:=b6.withK (K:=K) h hK
theorem eE{b:Nat}{o:Obj}(h:Mem m0 w0 S K mem gr w)(hb:w.heap[b]? = some o)(ho:∀c t f,o≠Obj.cells c t f)(hg:w.grownBy w' (some b))(hC:b<w0.heap.size->S b){K':Kn}(hK:Z5 (some b) w (mT m0 mem gr) w' (mT m0 mem gr)->K'.p (mT m0 mem gr) w'):Mem m0 w0 S K' mem gr w':=
 b6.turn (K:=K) h hb ho hg hC (hK (dh hb ho hg))
end
section
variable {m0:Nat->Nat->Prop} {w0 w:World} {S:Nat->Prop} {ds:List Deferred} {K:Kn} {mem:List (Nat×Blk)} {gr:List (Nat×Gr)} {a:Act} {P:Program} {f:FuncId} {fn:Func} {c:Code} {R:Ending->World->Prop} {args:List AV} {B:Alg} {T:List (Nat×TI)} {s:St} {rs:List ResultVar} {r:List AV×List Ob} {Q:Exit->Act->World->Prop} {ops:Array Oper}
theorem wr(hargs:∀v∈args,Ok (mT m0 mem gr) w v){n:Nat}(hn:args.length<=n):ao n (B8 0 args) [] { tmps:=(args.map AV.den).toArray++Array.replicate (n-args.length) Go.undef,defers:=[] }/\(okT (B8 0 args)).p (mT m0 mem gr) w:=by
 have key:∀t,(look (B8 0 args) t).known=true->args[t]? = some (look (B8 0 args) t):=fun t ht=>by
  have:=(ee args 0 t ht).2
  rwa[Nat.sub_zero]at this
 refine⟨⟨by simp;omega,rfl,fun t ht=>?_⟩,fun t ht=>hargs _ (List.mem_of_getElem? (key t ht))⟩;have h1:=key t ht;have hlt:=(List.getElem?_eq_some_iff.1 h1).1;rw[Array.getElem?_append_left (by simpa using hlt)];simp[h1]
theorem enI(nt:Nat)(h:Mem m0 w0 S K mem gr w)(hargs:∀v∈args,Ok (mT m0 mem gr) w v)(hf:P.funcs[f]? = some fn)(body:∀B,B=std->∀a,b6 ⟨m0,w0,S,[],K⟩ ⟨nt,B8 0 args,[],mem,gr⟩ a w->c.wp P (bodyPost P fn R) a w)(hb:fn.body=some c:=by rfl)(hnt:fn.ntmps=nt:=by rfl)(hn:args.length<=nt:=by exact Nat.le_of_ble_eq_true rfl):Calls P f (args.map AV.den).toArray w R:=by
 refine calls_of_wp hf hb ?_;obtain⟨h1,h2⟩:=wr hargs hn;have:=body std rfl _ (fh h h1 h2)
 simpa[hnt]using this
theorem IW(nt:Nat)(h:Mem m0 w0 S K mem gr w)(hargs:∀v∈args,Ok (mT m0 mem gr) w v)(hf:P.funcs[f]? = some fn)(body:∀B,B=std->∀a,b6 ⟨m0,w0,S,[],K⟩ ⟨nt,B8 0 args,[],mem,gr⟩ a w->c.wpIn (rF none) 0 P (bodyPost P fn R) a w)(hb:fn.body=some c:=by rfl)(hnt:fn.ntmps=nt:=by rfl)(hn:args.length<=nt:=by exact Nat.le_of_ble_eq_true rfl):Calls P f (args.map AV.den).toArray w R:=
 enI nt h hargs hf (fun B O a Z=>(wpIn_wide (n:=0)).1 (body B O a Z)) hb hnt hn
theorem IX(nt:Nat)(h:Mem m0 w0 S K mem gr w)(hargs:∀v∈args,Ok (mT m0 mem gr) w v)(hf:P.funcs[f]? = some fn)(body:∀B,B=std->∀a,b6 ⟨m0,w0,S,[],K⟩ ⟨nt,B8 0 args,[],mem,gr⟩ a w->wpN f P c (bodyPostM Fence.wide 0 P fn R) a w)(hb:fn.body=some c:=by rfl)(hnt:fn.ntmps=nt:=by rfl)(hn:args.length<=nt:=by exact Nat.le_of_ble_eq_true rfl):Calls P f (args.map AV.den).toArray w R:=by
 refine jI hf hb ?_;obtain⟨h1,h2⟩:=wr hargs hn;have:=body std rfl _ (fh h h1 h2)
 simpa[hnt]using this
theorem sX{nt:Nat}{tm:List (Nat×AV)}{L rest:List Oper}{o:Oper}{cl:Call}{g:Operand}{l r args:List AV}(hL:L=o::rest)(hg:o.guard=none)(hop:o.op = .call cl)(hcal:cl.callee = .value g)(h:b6 ⟨m0,w0,S,ds,K⟩ ⟨nt,tm,[],mem,gr⟩ a w)(hgv:val ⟨nt,tm,[],mem,gr⟩ [] g = .fn f l r)(hl:I2 ⟨nt,tm,[],mem,gr⟩ [] cl.args.toList=some args)(hen:j6 P f)(hd:∀t,o.dst=some t->t<nt)
  (Kc:Mem m0 w0 S (K.and (okT tm)) mem gr w->ao nt tm ds a->(∀v∈l++args++r,Ok (mT m0 mem gr) w v)->Calls P f ((l++args++r).map AV.den).toArray w fun e w'=>∃v,e = .returned v.den/\∃mem' gr' K',Ok (mT m0 mem' gr') w' v/\Mem m0 w0 S (K'.and (okT tm)) mem' gr' w' ∧
   ∀a' ,b6 ⟨m0,w0,S,ds,K'⟩ (St.put ⟨nt,tm,[],mem',gr'⟩ o.dst v) a' w'->wpList P ops Q rest a' w'):wpList P ops Q L a w:=by
 refine bD hL hg ?_;obtain⟨hrun,hok⟩:=iE hop hcal h hgv hl hen;obtain⟨h1,h2⟩:=h.leave;unfold Oper.wp;rw[hrun];simp only[Oper.upon];refine(Kc h1 h2 hok).mono ?_
 rintro e w' ⟨v,rfl,mem',gr',K',hv,hm,k⟩
 have hf:=aY hm h2;exact k _ (hf.put o.dst hd v (fun _=>hv) _ fun _=>rfl)
end
section
variable {m0:Nat->Nat->Prop} {w0 w:World} {S:Nat->Prop} {ds:List Deferred} {K:Kn} {mem:List (Nat×Blk)} {gr:List (Nat×Gr)} {a:Act} {P:Program} {fn:FuncId}
def fw(rc:Loop)(st:LoopState)(pe:Option Code):Loop:={ rc with state:=st,pending:=pe }
def KL(K:Kn)(tm:List (Nat×AV))(l:Nat)(rc:Loop)(D:Nat)(st:LoopState)(pe:Option Code):Kn:=(K.and (okT tm)).and (Es l (fw rc st pe) D)
theorem Cy{K:Kn}(h:K.self)(tm:List (Nat×AV))(l:Nat)(rc:Loop)(D:Nat)(st:LoopState)(pe:Option Code):(KL K tm l rc D st pe).self:=cX (cX h (gI tm)) uB
theorem Cw{K:Kn}{tm:List (Nat×AV)}{l D:Nat}{rc:Loop}{st st':LoopState}{pe pe':Option Code}{w w':World}{m:Nat->Nat->Prop}(hD:D≠l)(hK:K.off l)(hk:Z5 (some l) w m w' m)(hl:w'.heap[l]? = some (.loop (fw rc st' pe')))(h:(KL K tm l rc D st pe).p m w):(KL K tm l rc D st' pe').p m w':=
 ⟨⟨hK hk h.1.1,cm tm l hk h.1.2⟩,hl,hk.obj _ _ (by intro e;injection e with e;exact hD e.symm) h.2.2 (fun _ _ _ e=>by cases e)⟩
theorem uE{w:World}{l:Nat}{o o':Obj}(h:w.heap[l]? = some o):(w.putObj l o').heap[l]? = some o':=by
 have:=(Array.getElem?_eq_some_iff.1 h).1;simp[World.putObj,this]
theorem pN{K E:Kn}{tm:List (Nat×AV)}{l D:Nat}{rc:Loop}{st st':LoopState}{pe pe':Option Code}{nt:Nat}{tm':List (Nat×AV)}(hl0:w0.heap.size<=l)(hD:D≠l)(hK:K.off l)(hE:E.off l)(h:b6 ⟨m0,w0,S,ds,(KL K tm l rc D st pe).and E⟩ ⟨nt,tm',[],mem,gr⟩ a w):b6 ⟨m0,w0,S,ds,(KL K tm l rc D st' pe').and E⟩ ⟨nt,tm',[],mem,gr⟩ a (w.putObj l (.loop (fw rc st' pe'))):=by
 obtain⟨h1,h2⟩:=h.leave;have hk:=h1.kept;have hl:w.heap[l]? = some (.loop (fw rc st pe)):=hk.1.1.2.1;have:=eE (K':=(((KL K tm l rc D st' pe').and E).and (okT tm'))) h1 hl (fun _ _ _ e=>by cases e) (grownBy_putObj' w l (.loop (fw rc st' pe'))) (fun h=>by omega) (fun kb=>⟨⟨Cw hD hK kb (uE hl) hk.1.1,hE kb hk.1.2⟩,cm tm' l kb hk.2⟩);exact aY this h2
def yZ(m0:Nat->Nat->Prop)(w0:World)(S:Nat->Prop)(tm:List (Nat×AV))(l:Nat)(rc:Loop)(D:Nat)(E:Kn)(N:Kn->List (Nat×Blk)->List (Nat×Gr)->Prop)(X:Code->Kn->List (Nat×Blk)->List (Nat×Gr)->Prop)(T:List PanicEntry->Kn->List (Nat×Blk)->List (Nat×Gr)->Prop):Exit->Act->World->Prop
 | .normal,_,w=>∃K mem gr,N K mem gr/\K.off l/\Mem m0 w0 S ((KL K tm l rc D .busy none).and E) mem gr w
 | .ret,_,w=>∃K mem gr,X .ret K mem gr/\K.off l/\Mem m0 w0 S ((KL K tm l rc D .busy none).and E) mem gr w
 | .exit id,_,w=>∃K mem gr,X (.exit id) K mem gr/\K.off l/\Mem m0 w0 S ((KL K tm l rc D .busy none).and E) mem gr w
 | .goto t,_,w=>∃K mem gr,X (.goto t) K mem gr/\K.off l/\Mem m0 w0 S ((KL K tm l rc D .busy none).and E) mem gr w
 | .panic ch,a,w=>a.defers=[]/\∃K mem gr,T ch K mem gr/\K.off l/\Mem m0 w0 S ((KL K tm l rc D .busy none).and E) mem gr w
 | .outgrown,_,_=>False
def yY(m0:Nat->Nat->Prop)(w0:World)(S:Nat->Prop)(tm:List (Nat×AV))(l:Nat)(rc:Loop)(D:Nat)(E:Kn)(N:Kn->List (Nat×Blk)->List (Nat×Gr)->Prop)(X:Code->Kn->List (Nat×Blk)->List (Nat×Gr)->Prop):Exit->Act->World->Prop:=yZ m0 w0 S tm l rc D E N X fun _ _ _ _=>False
theorem wJ{fd:Func}{rc:Loop}(hfn:P.funcs[rc.fn]? = some fd){l D ntc nti:Nat}{tmc tmi:List (Nat×AV)}{ac ai:Act}(hl0:w0.heap.size<=l)(hD:D≠l)(hK:K.off l)(hst:rc.pending=none)(htm:rc.tmps=ac.tmps)
  (hi:b6 ⟨m0,w0,S,[],KL K tmc l rc D .ready none⟩ ⟨nti,tmi,[],mem,gr⟩ ai w) (hc:∃d,ao ntc tmc d ac) {ps:List (Nat×AV)} (hps:∀e∈ps,e.1<ntc/\Ok (mT m0 mem gr) w e.2) {R:Ending->World->Prop}
  (N:Kn->List (Nat×Blk)->List (Nat×Gr)->Prop) (X:Code->Kn->List (Nat×Blk)->List (Nat×Gr)->Prop) (T:List PanicEntry->Kn->List (Nat×Blk)->List (Nat×Gr)->Prop)
  (hN:∀K' mem' gr' w',N K' mem' gr'->K'.off l->b6 ⟨m0,w0,S,[],KL K' tmc l rc D .ready none⟩ ⟨nti,tmi,[],mem',gr'⟩ ai w'->R (.returned (.bool true)) w')
  (hX:∀c K' mem' gr' w',X c K' mem' gr'->K'.off l->b6 ⟨m0,w0,S,[],KL K' tmc l rc D .done (some c)⟩ ⟨nti,tmi,[],mem',gr'⟩ ai w'->R (.returned (.bool false)) w')
  (hT:∀ch K' mem' gr' w',T ch K' mem' gr'->K'.off l->Mem m0 w0 S (KL K' tmc l rc D .busy none) mem' gr' w'->R (.panicked ch) w')
  (hbody:∀a,b6 ⟨m0,w0,S,[],(KL K tmc l rc D .ready none).and (okT tmi)⟩ (St.puts ⟨ntc,tmc,[],mem,gr⟩ ps) a w->rc.assign.wpIn (rF (some l)) 0 P (Exit.then (fun a₁ w₁=>∃nt1 tm1 fx gr1,b6 ⟨m0,w0,S,[],(KL K tmc l rc D .ready none).and (okT tmi)⟩ ⟨nt1,tm1,[],fx,gr1⟩ a₁ w₁ ∧
   ∀w₂,b6 ⟨m0,w0,S,[],(KL K tmc l rc D .busy none).and (okT tmi)⟩ ⟨nt1,tm1,[],fx,gr1⟩ a₁ w₂->rc.body.wpIn (rF (some l)) 0 P (yZ m0 w0 S tmc l rc D (okT tmi) N X T) a₁ w₂) (fun _ _ _=>False)) a w) :
  RoundIn (rF none) 0 P l rc.fn (ps.foldl (fun t e=>t.setIfInBounds e.1 e.2.den) rc.tmps) rc.assign rc.body w R:=by
 obtain⟨hm,hai⟩:=hi.leave;have hk:=hm.kept;obtain⟨dc,hac⟩:=hc;have hact:ao ntc tmc [] { tmps:=ac.tmps,defers:=[] }:=⟨hac.1,rfl,hac.2.2⟩;have hF0:b6 ⟨m0,w0,S,[],(KL K tmc l rc D .ready none).and (okT tmi)⟩ ⟨ntc,tmc,[],mem,gr⟩ { tmps:=ac.tmps,defers:=[] } w:=fh hm hact hk.1.1.2;have hF1:=hF0.puts (l:=ps) hps;have hb:=hbody _ hF1;have key:=wI (P:=P) (l:=l) (r:=fw rc .ready none) (fd:=fd) hfn rfl (tmps:=ps.foldl (fun t e=>t.setIfInBounds e.1 e.2.den) rc.tmps) (R:=R) (w:=w) ?_
 .exact key
 rw[htm];refine wpIn_mono hb ?_;intro e a₁ w₁ he
 cases e with
 |normal=>
  obtain⟨nt1,tm1,fx,gr1,hf1,hb1⟩:=he;refine⟨hf1.kept.1.2.1,?_⟩;have hf2:=pN (st':=.busy) (pe':=none) hl0 hD hK (cm tmi l) hf1;refine wpIn_mono (hb1 _ hf2) ?_;have fin:∀{K':Kn} {mem':List (Nat×Blk)} {gr':List (Nat×Gr)} {w':World} (st:LoopState) (pe:Option Code),K'.off l->Mem m0 w0 S ((KL K' tmc l rc D .busy none).and (okT tmi)) mem' gr' w'->w'.heap[l]? = some (.loop { fw rc .ready none with state:=.busy })/\b6 ⟨m0,w0,S,[],KL K' tmc l rc D st pe⟩ ⟨nti,tmi,[],mem',gr'⟩ ai (w'.putObj l (.loop (fw rc st pe))):=fun {K' mem' gr' w'} st pe ho hm'=>by
   refine⟨hm'.kept.1.2.1,?_⟩;have h3:=pN (st':=st) (pe':=pe) (nt:=0) (tm':=[]) hl0 hD ho (cm tmi l) hm';exact aY h3 hai
  intro e a₂ w₂ he
  cases e with
  |normal=>
   obtain⟨K',mem',gr',hn,ho,hm'⟩:=he;obtain⟨g1,g2⟩:=fin .ready none ho hm';exact⟨g1,hN _ _ _ _ hn ho g2⟩
  |ret=>
   obtain⟨K',mem',gr',hn,ho,hm'⟩:=he;obtain⟨g1,g2⟩:=fin .done (some .ret) ho hm';exact⟨g1,hX _ _ _ _ _ hn ho g2⟩
  |exit id=>
   obtain⟨K',mem',gr',hn,ho,hm'⟩:=he;obtain⟨g1,g2⟩:=fin .done (some (.exit id)) ho hm';exact⟨g1,hX _ _ _ _ _ hn ho g2⟩
  |goto t=>
   obtain⟨K',mem',gr',hn,ho,hm'⟩:=he;obtain⟨g1,g2⟩:=fin .done (some (.goto t)) ho hm';exact⟨g1,hX _ _ _ _ _ hn ho g2⟩
  |panic chain=>
   obtain⟨hd,K',mem',gr',hn,ho,hm'⟩:=he;exact⟨hd,hT _ _ _ _ _ hn ho (jx hm' hm'.kept.1)⟩
  |outgrown=>exact he.elim
 |_=>exact he
theorem Ek{fd:Func}{rc:Loop}(hfn:P.funcs[rc.fn]? = some fd){l D ntc nti:Nat}{tmc tmi:List (Nat×AV)}{ac ai:Act}(hl0:w0.heap.size<=l)(hD:D≠l)(hK:K.off l)(hst:rc.pending=none)(htm:rc.tmps=ac.tmps)
  (hi:b6 ⟨m0,w0,S,[],KL K tmc l rc D .ready none⟩ ⟨nti,tmi,[],mem,gr⟩ ai w) (hc:∃d,ao ntc tmc d ac) {ps:List (Nat×AV)} (hps:∀e∈ps,e.1<ntc/\Ok (mT m0 mem gr) w e.2) {R:Ending->World->Prop}
  (N:Kn->List (Nat×Blk)->List (Nat×Gr)->Prop) (X:Code->Kn->List (Nat×Blk)->List (Nat×Gr)->Prop)
  (hN:∀K' mem' gr' w',N K' mem' gr'->K'.off l->b6 ⟨m0,w0,S,[],KL K' tmc l rc D .ready none⟩ ⟨nti,tmi,[],mem',gr'⟩ ai w'->R (.returned (.bool true)) w')
  (hX:∀c K' mem' gr' w',X c K' mem' gr'->K'.off l->b6 ⟨m0,w0,S,[],KL K' tmc l rc D .done (some c)⟩ ⟨nti,tmi,[],mem',gr'⟩ ai w'->R (.returned (.bool false)) w')
  (hbody:∀a,b6 ⟨m0,w0,S,[],(KL K tmc l rc D .ready none).and (okT tmi)⟩ (St.puts ⟨ntc,tmc,[],mem,gr⟩ ps) a w->rc.assign.wpIn (rF (some l)) 0 P (Exit.then (fun a₁ w₁=>∃nt1 tm1 fx gr1,b6 ⟨m0,w0,S,[],(KL K tmc l rc D .ready none).and (okT tmi)⟩ ⟨nt1,tm1,[],fx,gr1⟩ a₁ w₁ ∧
   ∀w₂,b6 ⟨m0,w0,S,[],(KL K tmc l rc D .busy none).and (okT tmi)⟩ ⟨nt1,tm1,[],fx,gr1⟩ a₁ w₂->rc.body.wpIn (rF (some l)) 0 P (yY m0 w0 S tmc l rc D (okT tmi) N X) a₁ w₂) (fun _ _ _=>False)) a w) :
  RoundIn (rF none) 0 P l rc.fn (ps.foldl (fun t e=>t.setIfInBounds e.1 e.2.den) rc.tmps) rc.assign rc.body w R:=
 wJ hfn hl0 hD hK hst htm hi hc hps N X (fun _ _ _ _=>False) hN hX (fun _ _ _ _ _ h=>h.elim) hbody
theorem Ew{Q:Exit->Act->World->Prop}{g:Operand}{ps:Array Tmp}{assign body:Code}{gf nt:Nat}{tm:List (Nat×AV)}{lb:List AV}(h:b6 ⟨m0,w0,S,ds,K⟩ ⟨nt,tm,[],mem,gr⟩ a w)(hgv:val ⟨nt,tm,[],mem,gr⟩ [] g = .fn gf [] lb)(hen:j6 P gf)(hK:K.under w.heap.size)
  (hc:∀l D rc w1,l=D+1->D=w.heap.size->rc=P5 fn a ps assign body D .ready none->w0.heap.size<=D->w1.heap.size=D+2->ao nt tm ds a->Mem m0 w0 S (KL K tm l rc D .ready none) mem gr w1->(∀v∈lb,Ok (mT m0 mem gr) w1 v) →
   Calls P gf ((yV l::lb).map AV.den).toArray w1 fun e w3=>∃v,e = .returned v/\∃K' mem' gr',K'.off l ∧
    ((Mem m0 w0 S (KL K' tm l rc D .ready none) mem' gr' w3/\∀a' w',b6 ⟨m0,w0,S,cp D::ds,K'.and (aa [D])⟩ ⟨nt,tm,[],mem',gr'⟩ a' w'->Q .normal a' w') ∨
     ∃c,Mem m0 w0 S (KL K' tm l rc D .done (some c)) mem' gr' w3/\∀a' w',b6 ⟨m0,w0,S,cp D::ds,K'.and (aa [D])⟩ ⟨nt,tm,[],mem',gr'⟩ a' w'->c.wp P Q a' w')) :
  wpN fn P (Code.rangeFunc g ps assign body) Q a w:=by
 obtain⟨hm,ha⟩:=h.leave;have hgd:=F1 h (q:=[]) (fun _ h=>by cases h) (x:=g) (by rw[hgv];rfl);rw[hgv]at hgd;have hg1:a.eval g = .func (.func gf) #[] (lb.map AV.den).toArray:=by
  have:=hgd.1
  simpa[AV.den,C5,AV.denL]using this
 have hlb:∀v∈lb,Ok (mT m0 mem gr) w v:=by
  cases hgd.2 with
  |fn _ _ _ k1 k2=>exact k2
 have hbl:=jB fn a ps assign body w;have hsz:(ay fn a ps assign body w).heap.size=w.heap.size+2:=by simp[ay]
 have hm1:Mem m0 w0 S (KL K tm (w.heap.size+1) (P5 fn a ps assign body w.heap.size .ready none) w.heap.size .ready none) mem gr (ay fn a ps assign body w):=
  jx (hm.below hbl) ⟨(hm.below hbl).kept,nf fn a ps assign body w,lv fn a ps assign body w⟩
 have hlb1:∀v∈lb,Ok (mT m0 mem gr) (ay fn a ps assign body w) v:=fun v hv=>(dJ hbl (mT m0 mem gr)).ok (hlb v hv)
 refine mG (gf:=gf) (lb:=(lb.map AV.den).toArray) hg1 (fun args w=>hen args w) ?_;have hcall:=hc _ _ _ _ rfl rfl rfl h.chg.size hsz ha hm1 hlb1;have eargs:((yV (w.heap.size+1)::lb).map AV.den).toArray = #[.func (.yield (w.heap.size+1)) #[] #[]]++(lb.map AV.den).toArray:=by
  simp[AV.den]
 rw[eargs]at hcall;refine hcall.mono ?_
 rintro e w3 ⟨v,rfl,K',mem',gr',ho,hh⟩
 have ha':ao nt tm (cp w.heap.size::ds) { a with defers:={ target:=.collected w.heap.size,args:=#[] }::a.defers }:=⟨ha.1,by rw[ha.2.1],ha.2.2⟩;have fin:∀{st:LoopState} {pe:Option Code},st ≠ .busy->Mem m0 w0 S (KL K' tm (w.heap.size+1) (P5 fn a ps assign body w.heap.size .ready none) w.heap.size st pe) mem' gr' w3 →
   ∃w4,(Instr.endLoop (w.heap.size+1)).run P w3 = .ok pe w4/\b6 ⟨m0,w0,S,cp w.heap.size::ds,K'.and (aa [w.heap.size])⟩ ⟨nt,tm,[],mem',gr'⟩ { a with defers:={ target:=.collected w.heap.size,args:=#[] }::a.defers } w4:=fun {st pe} hst h3=>by
  have hk:=h3.kept;have hl:=hk.2.1;refine⟨_,run_endLoop hl hst,?_⟩;have h4:=eE (K':=(K'.and (aa [w.heap.size])).and (okT tm)) h3 hl (fun _ _ _ e=>by cases e) (grownBy_putObj' w3 _ (.loop { fw (P5 fn a ps assign body w.heap.size .ready none) st pe with state:=.exhausted })) (fun hh=>absurd h.chg.size (by simp only at hh ⊢;omega))
   (fun kb=>⟨⟨ho kb hk.1.1,⟨fun D hD=>by
    simp only[List.mem_singleton]at hD;subst hD;exact kb.obj _ _ (by intro e;injection e with e;omega) hk.2.2 (fun _ _ _ e=>by cases e),by simp⟩⟩,cm tm _ kb hk.1.2⟩)
  exact aY h4 ha'
 rcases hh with⟨h3,hq⟩|⟨c,h3,hq⟩
 .obtain ⟨w4,e4,h4⟩:=fin (by simp) h3
  exact⟨none,w4,e4,hq _ _ h4⟩
 obtain⟨w4,e4,h4⟩:=fin (by simp) h3;exact⟨some c,w4,e4,hq _ _ h4⟩
end
section
variable {m0:Nat->Nat->Prop} {w0 w:World} {S:Nat->Prop} {K:Kn} {mem:List (Nat×Blk)} {gr:List (Nat×Gr)} {a:Act} {P:Program} {fn:Func} {R:Ending->World->Prop} {B:Alg} {T:List (Nat×TI)} {rs:List ResultVar} {r:List AV×List Ob} {nt:Nat} {tm:List (Nat×AV)}
theorem jy{tmps:Array Value}:∀(Ds:List Nat) (w:World),Mem m0 w0 S (K.and (aa Ds)) mem gr w->(∀D∈Ds,K.off D/\w0.heap.size<=D)->(∀w',Mem m0 w0 S K mem gr w'->∃v,(results fn tmps).run P w' = .ok v w'/\R (.returned v) w')->LeavesInM Fence.wide 0 P fn tmps R (Ds.map cp) .returning w
 | [],w,h,_,hR=>hR w (jx h h.kept.1)
 |D::Ds,w,h,ho,hR=>by
  have hk:=h.kept.2;have hD:w.heap[D]? = some (.deferred (some [])):=hk.1 D (by simp);have hnd:=List.nodup_cons.1 hk.2;refine⟨by simp,.inl ⟨D,_,rfl,run_takeDeferred hD,jy Ds _ ?_ (fun E hE=>ho E (by simp[hE])) hR⟩⟩;refine eE h hD (fun _ _ _ e=>by cases e) (grownBy_putObj' w D _) (fun hh=>absurd (ho D (by simp)).2 (by omega)) fun kb=>⟨(ho D (by simp)).1 kb h.kept.1,fun E hE=>?_,hnd.2⟩
  exact kb.obj _ _ (by intro e;injection e with e;subst e;exact hnd.1 hE) (hk.1 E (by simp[hE])) (fun _ _ _ e=>by cases e)
theorem sH(O:B=std)(hT:o5 P T)(Ds:List Nat)(h:b6 ⟨m0,w0,S,Ds.map cp,K.and (aa Ds)⟩ ⟨nt,tm,[],mem,gr⟩ a w)(hof:∀D∈Ds,K.off D/\w0.heap.size<=D)(hR:∀w',Mem m0 w0 S K mem gr w'->Ok (mT m0 mem gr) w' (Q5 r.1)->R (.returned (Q5 r.1).den) w')(hfn:fn.results=rs.toArray:=by rfl)(hr:Y4 T ⟨nt,tm,[],mem,gr⟩ rs=some r:=by first|rfl|(conv=>lhs;cbv))(ho:b7 P (K.and (okT tm)) r.2:=by first|exact trivial|(subst O;simp[b7,Ob.holds])):bodyPostM Fence.wide 0 P fn R .ret a w/\bodyPostM Fence.wide 0 P fn R .normal a w:=by
 obtain⟨h1,h2⟩:=h.leave;have key:LeavesInM Fence.wide 0 P fn a.tmps R a.defers .returning w:=by
  rw[h2.2.1];refine jy (K:=K.and (okT tm)) Ds w (jx h1 ⟨⟨h1.kept.1.1,h1.kept.2⟩,h1.kept.1.2⟩) (fun D hD=>⟨pj (hof D hD).1 (cm tm D),(hof D hD).2⟩) fun w' hm=>?_
  have hf:=fh (ds:=Ds.map cp) hm h2 hm.kept.2;obtain⟨g1,g2⟩:=fM hT hf hfn hr ho;exact⟨_,g1,hR w' (jx hm hm.kept.1) g2⟩
 exact⟨key,key⟩
theorem Dj(O:B=std)(hT:o5 P T)(h:b6 ⟨m0,w0,S,[],K⟩ ⟨nt,tm,[],mem,gr⟩ a w)(hR:∀w',Mem m0 w0 S K mem gr w'->Ok (mT m0 mem gr) w' (Q5 r.1)->R (.returned (Q5 r.1).den) w')(hfn:fn.results=rs.toArray:=by rfl)(hr:Y4 T ⟨nt,tm,[],mem,gr⟩ rs=some r:=by first|rfl|(conv=>lhs;cbv))(ho:b7 P (K.and (okT tm)) r.2:=by first|exact trivial|(subst O;simp[b7,Ob.holds])):bodyPostM Fence.wide 0 P fn R .ret a w/\bodyPostM Fence.wide 0 P fn R .normal a w:=
 sH O hT [] (h.withK (K':=K.and (aa [])) ⟨h.kept,(⟨fun D hD=>(by cases hD),List.nodup_nil⟩:(∀D∈([]:List Nat),w.heap[D]? = some (.deferred (some [])))/\([]:List Nat).Nodup)⟩) (fun D hD=>by cases hD) hR hfn hr ho
end
section
variable {m0:Nat->Nat->Prop} {w0 wi w:World} {S:Nat->Prop} {ds:List Deferred} {K:Kn} {nt:Nat} {tm tm':List (Nat×AV)} {gs:List (Nat×List (Nat×Bool)×AV)} {mem memi:List (Nat×Blk)} {gr gri:List (Nat×Gr)} {a:Act} {P:Program}
def FzV(b:Nat)(cells:List AV)(v v':AV):Prop:=v'.den=v.den/\(v'.known=true->v.known=true)/\(v'.one=v.one)/\∀m w,Ok m w (.ep (some ⟨b,0,none⟩) 0 0 0 cells)->Ok m w v->Ok m w v'
theorem I7{b:Nat}{cells:List AV}{v:AV}:FzV b cells v v:=⟨rfl,id,rfl,fun _ _ _ h=>h⟩
theorem Fi{m:Nat->Nat->Prop}{w:World}{A:Option Addr}{i k off off':Nat}{cells:List AV}(h:Ok m w (.ep A i k off cells)):Ok m w (.ep A i k off' cells):=by
 cases h with|ep _ _ _ _ _ h1 h2 h3 h4=>exact .ep _ _ _ _ _ h1 h2 h3 h4
theorem eM{b key off:Nat}{cells:List AV}:FzV b cells (.ptr key b off) (.ep (some ⟨b,0,none⟩) 0 0 off cells):=
 ⟨by simp[AV.den],fun _=>rfl,rfl,fun _ _ h _=>Fi h⟩
theorem xW{b b' key key' off:Nat}{cells:List AV}:FzV b cells (.ptr key b' off) (.ptr key' b' off):=⟨rfl,id,rfl,fun _ _ _ _=>.ptr _ _ _⟩
def Cz(b:Nat)(cells:List AV):List AV->List AV->Prop
 | [],[]=>True
 |v::l,v'::l'=>FzV b cells v v'/\Cz b cells l l'
 |_,_=>False
theorem eN{b:Nat}{cells:List AV}:∀{l l':List AV},Cz b cells l l'->l'.map AV.den=l.map AV.den/\∀m w,Ok m w (.ep (some ⟨b,0,none⟩) 0 0 0 cells)->(∀v∈l,Ok m w v)->∀v∈l',Ok m w v
 | [],[],_=>⟨rfl,fun _ _ _ h=>h⟩
 |v::l,v'::l',⟨h1,h2⟩=>by
  obtain⟨g1,g2⟩:=eN h2;refine⟨by simp[h1.1,g1],fun m w he h u hu=>?_⟩
  rcases List.mem_cons.1 hu with rfl|hu
  .exact h1.2.2.2 m w he (h v (by simp))
  exact g2 m w he (fun x hx=>h x (by simp[hx])) u hu
theorem HE{b f:Nat}{cells l l' r r':List AV}(hl:Cz b cells l l')(hr:Cz b cells r r'):FzV b cells (.fn f l r) (.fn f l' r'):=by
 refine⟨by simp[AV.den,C5,(eN hl).1,(eN hr).1],fun _=>rfl,rfl,fun m w he h=>?_⟩
 cases h with
 |fn _ _ _ h1 h2=>exact .fn _ _ _ ((eN hl).2 m w he h1) ((eN hr).2 m w he h2)
def FzT(b:Nat)(cells:List AV):List (Nat×AV)->List (Nat×AV)->Prop
 | [],[]=>True
 |e::l,e'::l'=>e.1=e'.1/\FzV b cells e.2 e'.2/\FzT b cells l l'
 |_,_=>False
theorem lG{b:Nat}{cells:List AV}:∀{l l':List (Nat×AV)},FzT b cells l l'->∀t,FzV b cells (look l t) (look l' t)
 | [],[],_,t=>I7
 |(k,v)::l,(k',v')::l',⟨h1,h2,h3⟩,t=>by
  simp only at h1 h2;subst h1;simp only[B5]
  by_cases h:k=t
  .rw [if_pos h,if_pos h];exact h2
  rw[if_neg h,if_neg h];exact lG h3 t
theorem b6.fz{key b ty:Nat}{cells:List AV}(h:b6 ⟨m0,w0,S,ds,K⟩ ⟨nt,tm,[],(key,⟨b,ty,cells⟩)::mem,gr⟩ a w)(hf:FzT b cells tm tm')(hn:i6 mem key=none:=by rfl)(hS:S b->w0.heap.size<=b:=by first|exact fun h=>h.elim|(rintro⟨_,h,_⟩;cases h)):b6 ⟨m0,w0,S,ds,K⟩ ⟨nt,tm',[],mem,gr⟩ a w:=by
 have hk:i6 ((key,(⟨b,ty,cells⟩:Blk))::mem) key=some ⟨b,ty,cells⟩:=by simp[i6]
 have hup:∀{k e},i6 mem k=some e->i6 ((key,(⟨b,ty,cells⟩:Blk))::mem) k=some e/\k≠key:=fun {k e} he=>by
  have hne:k≠key:=fun e'=>by rw[e',hn]at he;cases he
  exact⟨by rw[z7,if_neg (fun e=>hne e.symm)];exact he,hne⟩
 obtain⟨h1,h2,h3⟩:=h.mem _ _ hk;have hb0:w0.heap.size<=b:=h3.elim id hS;have hnm:∀o,¬St.m ⟨nt,tm',[],mem,gr⟩ ⟨m0,w0,S,ds,K⟩ b o:=by
  intro o hm
  rcases hm with hm|⟨k,e,he,hat⟩|⟨k,t,ht,hv,_⟩
  .exact Nat.lt_irrefl _ (Nat.lt_of_lt_of_le (h.m0 _ _ hm) hb0)
  .exact h.nodup _ _ _ _ (hup he).1 hk (hup he).2 hat
  exact h.sepm _ _ _ _ ht hk hv
 have hle:∀b o,St.m ⟨nt,tm',[],mem,gr⟩ ⟨m0,w0,S,ds,K⟩ b o->St.m ⟨nt,tm,[],(key,⟨b,ty,cells⟩)::mem,gr⟩ ⟨m0,w0,S,ds,K⟩ b o:=by
  intro b o hm
  rcases hm with hm|⟨k,e,he,hat⟩|hm
  .exact .inl hm
  .rcases Classical.em (k=key)with rfl|hne
   .rw [hn]at he;cases he
   exact .inr (.inl ⟨k,e,by rw[z7,if_neg (fun e=>hne e.symm)];exact he,hat⟩)
  exact .inr (.inr hm)
 have hle':∀b' o,St.m ⟨nt,tm',[],mem,gr⟩ ⟨m0,w0,S,ds,K⟩ b' o->St.m ⟨nt,tm,[],(key,⟨b,ty,cells⟩)::mem,gr⟩ ⟨m0,w0,S,ds,K⟩ b' o:=by
  intro b' o hm
  rcases hm with hm|⟨k,e,he,hat⟩|hm
  .exact .inl hm
  .exact .inr (.inl ⟨k,e,(hup he).1,hat⟩)
  exact .inr (.inr hm)
 have kp:bQ w (St.m ⟨nt,tm,[],(key,⟨b,ty,cells⟩)::mem,gr⟩ ⟨m0,w0,S,ds,K⟩) w (St.m ⟨nt,tm',[],mem,gr⟩ ⟨m0,w0,S,ds,K⟩):=⟨fun b' o u g1 g2=>⟨g1,fun hm=>g2 (hle' b' o hm)⟩,fun _ _ h _=>h⟩;have hep:Ok (St.m ⟨nt,tm',[],mem,gr⟩ ⟨m0,w0,S,ds,K⟩) w (.ep (some ⟨b,0,none⟩) 0 0 0 cells):=by
  refine .ep _ _ _ _ _ ⟨_,_,rfl⟩ (fun j u hj=>⟨b,0,rfl,?_,hnm _⟩) (fun v hv=>(h2 v hv).1) (fun v hv=>kp.ok (h2 v hv).2);rw[cell_of_row w _ _ _ _ _ h1,List.getElem?_toArray,Nat.zero_mul,Nat.zero_add,Nat.zero_add];exact hj
 refine⟨h.size,h.defers,fun t ht=>?_,(fun t p v he=>by cases he),fun k e he=>⟨(h.mem _ _ (hup he).1).1,fun v hv=>⟨((h.mem _ _ (hup he).1).2.1 v hv).1,kp.ok ((h.mem _ _ (hup he).1).2.1 v hv).2⟩,(h.mem _ _ (hup he).1).2.2⟩,fun k k' e e' he he' hne=>h.nodup _ _ _ _ (hup he).1 (hup he').1 hne,h.gr,fun k t k' e ht he=>h.sepm _ _ _ _ ht (hup he).1,h.sepg,h.chg,h.m0,K.st kp h.kept⟩;have hz:=lG hf t;obtain⟨g1,g2⟩:=h.slot t (hz.2.1 ht);exact⟨by rw[g1];exact congrArg some hz.1.symm,hz.2.2.2 _ _ hep (kp.ok g2)⟩
theorem b6.rekey{key key' b ty:Nat}{cells:List AV}(h:b6 ⟨m0,w0,S,ds,K⟩ ⟨nt,tm,[],(key,⟨b,ty,cells⟩)::mem,gr⟩ a w)(hf:FzT b [] tm tm')(hn:i6 mem key=none:=by rfl)(hn':i6 mem key'=none:=by rfl):b6 ⟨m0,w0,S,ds,K⟩ ⟨nt,tm',[],(key',⟨b,ty,cells⟩)::mem,gr⟩ a w:=by
 have hup:∀{k e},i6 ((key',(⟨b,ty,cells⟩:Blk))::mem) k=some e->∃k0,i6 ((key,(⟨b,ty,cells⟩:Blk))::mem) k0=some e/\((k=key'/\k0=key) \/ (k0=k/\k≠key'/\k≠key)):=fun {k e} he=>by
  rw[z7]at he
  split at he
  .rename_i hk;injection he with he;subst he
   exact⟨key,by simp[i6],.inl ⟨hk.symm,rfl⟩⟩
  rename_i hk
  have hne:k≠key:=fun e'=>by rw[e',hn]at he;cases he
  exact⟨k,by rw[z7,if_neg (fun e=>hne e.symm)];exact he,.inr ⟨rfl,fun e=>hk e.symm,hne⟩⟩
 have hdn:∀{k e},i6 ((key,(⟨b,ty,cells⟩:Blk))::mem) k=some e->∃k0,i6 ((key',(⟨b,ty,cells⟩:Blk))::mem) k0=some e:=fun {k e} he=>by
  rw[z7]at he
  split at he
  .injection he with he;subst he
   exact⟨key',by simp[i6]⟩
  have hne:k≠key':=fun e'=>by rw[e',hn']at he;cases he
  exact⟨k,by rw[z7,if_neg (fun e=>hne e.symm)];exact he⟩
 have em:St.m ⟨nt,tm',[],(key',⟨b,ty,cells⟩)::mem,gr⟩ ⟨m0,w0,S,ds,K⟩=St.m ⟨nt,tm,[],(key,⟨b,ty,cells⟩)::mem,gr⟩ ⟨m0,w0,S,ds,K⟩:=by
  funext b' o
  apply propext
  constructor
  .rintro (hm|⟨k,e,he,hat⟩|hm)
   .exact .inl hm
   .obtain ⟨k0,h1,_⟩:=hup he;exact .inr (.inl ⟨k0,e,h1,hat⟩)
   exact .inr (.inr hm)
  rintro(hm|⟨k,e,he,hat⟩|hm)
  .exact .inl hm
  .obtain ⟨k0,h1⟩:=hdn he;exact .inr (.inl ⟨k0,e,h1,hat⟩)
  exact .inr (.inr hm)
 have hnil:∀m w,Ok m w (.ep (some ⟨b,0,none⟩) 0 0 0 ([]:List AV)):=fun m w=>.ep _ _ _ _ _ ⟨_,_,rfl⟩ (fun j u hj=>by simp at hj) (fun v hv=>by cases hv) (fun v hv=>by cases hv)
 refine⟨h.size,h.defers,fun t ht=>?_,(fun t p v he=>by cases he),fun k e he=>?_,fun k k' e e' he he' hne=>?_,h.gr,fun k t k' e ht he=>?_,h.sepg,h.chg,h.m0,?_⟩
 .have hz:=lG hf t
  obtain⟨g1,g2⟩:=h.slot t (hz.2.1 ht);exact⟨by rw[g1];exact congrArg some hz.1.symm,by rw[em];exact hz.2.2.2 _ _ (hnil _ _) g2⟩
 .obtain ⟨k0,h1,_⟩:=hup he
  rw[em];exact h.mem _ _ h1
 .obtain ⟨k0,h1,g1⟩:=hup he
  obtain⟨k1,h2,g2⟩:=hup he';refine h.nodup _ _ _ _ h1 h2 ?_
  rcases g1 with⟨rfl,rfl⟩|⟨rfl,a1,a2⟩<;>rcases g2 with⟨rfl,rfl⟩|⟨rfl,b1,b2⟩
  .exact absurd rfl hne
  .exact fun e=>b2 e.symm
  .exact a2
  exact hne
 .obtain ⟨k0,h1,_⟩:=hup he
  exact h.sepm _ _ _ _ ht h1
 rw[em];exact h.kept
theorem qR(h:b6 ⟨m0,w0,S,ds,K⟩ ⟨nt,tm,[],mem,gr⟩ a w):b6 ⟨mT m0 mem gr,w,ats [],ds,noK⟩ ⟨nt,tm,[],[],[]⟩ a w:=by
 have mono:∀v,Ok (mT m0 mem gr) w v->Ok (St.m ⟨nt,tm,[],[],[]⟩ ⟨mT m0 mem gr,w,ats [],ds,noK⟩) w v:=fun v hv=>hv.mono fun b' o u h1 h2=>⟨h1,fun h=>by
  rcases h with h|⟨k,e,he,hat⟩|⟨k,e,he,_⟩
  .exact h2 h
  .cases he
  cases he⟩
 exact⟨h.size,h.defers,fun t ht=>⟨(h.slot t ht).1,mono _ (h.slot t ht).2⟩,(fun t p v he=>by cases he),(fun k e he=>by cases he),(fun k k' e e' he=>by cases he),(fun k t ht=>by cases ht),(fun k t k' e ht=>by cases ht),(fun k t k' t' b ht=>by cases ht),Chg.refl _ _,fun b o hb=>ow h b o hb,trivial⟩
theorem gy(h:Mem m0 w0 S K mem gr wi)(hi:b6 ⟨mT m0 mem gr,wi,ats [],ds,noK⟩ ⟨nt,tm,gs,memi,gri⟩ a w):b6 ⟨m0,w0,S,ds,K⟩ ⟨nt,tm,[],mem,gr⟩ a w:=by
 have hb:Below wi.heap.size wi w:=hi.chg.below (Nat.le_refl _) fun k ⟨e,he,_⟩=>(by cases he)
 exact fh (h.below hb) ⟨hi.size,hi.defers,fun t ht=>(hi.slot t ht).1⟩ fun t ht=>(hi.slot t ht).2.mono fun b o u h1 h2=>⟨h1,fun hm=>h2 (.inl hm)⟩
end
section
variable {m0:Nat->Nat->Prop} {w0 w:World} {S:Nat->Prop} {ds:List Deferred} {K:Kn} {mem:List (Nat×Blk)} {gr:List (Nat×Gr)} {a:Act} {P:Program} {fn:FuncId}
def DI(m0:Nat->Nat->Prop)(w0:World)(S:Nat->Prop)(tm:List (Nat×AV))(l:Nat)(rc:Loop)(D:Nat)(N:Kn->List (Nat×Blk)->List (Nat×Gr)->Prop)(X:Code->Kn->List (Nat×Blk)->List (Nat×Gr)->Prop)(T:List PanicEntry->Kn->List (Nat×Blk)->List (Nat×Gr)->Prop)(e:Ending)(w':World):Prop:=
 ∃K' mem' gr',K'.off l/\((∃v,e = .returned v/\((Mem m0 w0 S (KL K' tm l rc D .ready none) mem' gr' w'/\N K' mem' gr') \/ ∃c,X c K' mem' gr'/\Mem m0 w0 S (KL K' tm l rc D .done (some c)) mem' gr' w')) \/ ∃ch st pe,e = .panicked ch/\T ch K' mem' gr'/\Mem m0 w0 S (KL K' tm l rc D st pe) mem' gr' w')
theorem ah{tm:List (Nat×AV)}{l D:Nat}{rc:Loop}{N:Kn->List (Nat×Blk)->List (Nat×Gr)->Prop}{X:Code->Kn->List (Nat×Blk)->List (Nat×Gr)->Prop}{T:List PanicEntry->Kn->List (Nat×Blk)->List (Nat×Gr)->Prop}(h:DI m0 w0 S tm l rc D N X T .outgrown w):False:=by
 obtain⟨_,_,_,_,⟨_,h,_⟩|⟨_,_,_,h,_⟩⟩:=h<;>cases h
theorem Eu{Q:Exit->Act->World->Prop}{g:Operand}{ps:Array Tmp}{assign body:Code}{gf nt:Nat}{tm:List (Nat×AV)}{lb:List AV}(N:Kn->List (Nat×Blk)->List (Nat×Gr)->Prop)(X:Code->Kn->List (Nat×Blk)->List (Nat×Gr)->Prop)(T:List PanicEntry->Kn->List (Nat×Blk)->List (Nat×Gr)->Prop)
  (h:b6 ⟨m0,w0,S,ds,K⟩ ⟨nt,tm,[],mem,gr⟩ a w) (hgv:val ⟨nt,tm,[],mem,gr⟩ [] g = .fn gf [] lb) (hen:j6 P gf)
  (hN:∀D K' mem' gr',N K' mem' gr'->∀a' w',b6 ⟨m0,w0,S,cp D::ds,K'.and (aa [D])⟩ ⟨nt,tm,[],mem',gr'⟩ a' w'->w0.heap.size<=D->Q .normal a' w')
  (hX:∀D c K' mem' gr',X c K' mem' gr'->∀a' w',b6 ⟨m0,w0,S,cp D::ds,K'.and (aa [D])⟩ ⟨nt,tm,[],mem',gr'⟩ a' w'->w0.heap.size<=D->c.wp P Q a' w')
  (hT:∀D ch K' mem' gr',T ch K' mem' gr'->∀a' w',b6 ⟨m0,w0,S,cp D::ds,K'.and (aa [D])⟩ ⟨nt,tm,[],mem',gr'⟩ a' w'->w0.heap.size<=D->Q (.panic ch) a' w')
  (hc:∀l D rc w1,l=D+1->D=w.heap.size->rc=P5 fn a ps assign body D .ready none->w0.heap.size<=D->w1.heap.size=D+2->ao nt tm ds a->Mem m0 w0 S (KL K tm l rc D .ready none) mem gr w1->(∀v∈lb,Ok (mT m0 mem gr) w1 v) →
   Calls P gf ((yV l::lb).map AV.den).toArray w1 (DI m0 w0 S tm l rc D N X T)) :
  wpN fn P (Code.rangeFunc g ps assign body) Q a w:=by
 obtain⟨hm,ha⟩:=h.leave;have hgd:=F1 h (q:=[]) (fun _ h=>by cases h) (x:=g) (by rw[hgv];rfl);rw[hgv]at hgd;have hg1:a.eval g = .func (.func gf) #[] (lb.map AV.den).toArray:=by
  have:=hgd.1
  simpa[AV.den,C5,AV.denL]using this
 have hlb:∀v∈lb,Ok (mT m0 mem gr) w v:=by
  cases hgd.2 with
  |fn _ _ _ k1 k2=>exact k2
 have hbl:=jB fn a ps assign body w;have hsz:(ay fn a ps assign body w).heap.size=w.heap.size+2:=by simp[ay]
 have hm1:Mem m0 w0 S (KL K tm (w.heap.size+1) (P5 fn a ps assign body w.heap.size .ready none) w.heap.size .ready none) mem gr (ay fn a ps assign body w):=
  jx (hm.below hbl) ⟨(hm.below hbl).kept,nf fn a ps assign body w,lv fn a ps assign body w⟩
 have hlb1:∀v∈lb,Ok (mT m0 mem gr) (ay fn a ps assign body w) v:=fun v hv=>(dJ hbl (mT m0 mem gr)).ok (hlb v hv)
 refine mG (gf:=gf) (lb:=(lb.map AV.den).toArray) hg1 (fun args w=>hen args w) ?_;have hcall:=hc _ _ _ _ rfl rfl rfl h.chg.size hsz ha hm1 hlb1;have eargs:((yV (w.heap.size+1)::lb).map AV.den).toArray = #[.func (.yield (w.heap.size+1)) #[] #[]]++(lb.map AV.den).toArray:=by
  simp[AV.den]
 rw[eargs]at hcall;refine hcall.mono ?_;have ha':ao nt tm (cp w.heap.size::ds) { a with defers:={ target:=.collected w.heap.size,args:=#[] }::a.defers }:=⟨ha.1,by rw[ha.2.1],ha.2.2⟩;have fin:∀{K':Kn} {mem':List (Nat×Blk)} {gr':List (Nat×Gr)} {w3:World} {st:LoopState} {pe:Option Code},K'.off (w.heap.size+1)->st ≠ .busy->Mem m0 w0 S (KL K' tm (w.heap.size+1) (P5 fn a ps assign body w.heap.size .ready none) w.heap.size st pe) mem' gr' w3 →
   ∃w4,(Instr.endLoop (w.heap.size+1)).run P w3 = .ok pe w4/\b6 ⟨m0,w0,S,cp w.heap.size::ds,K'.and (aa [w.heap.size])⟩ ⟨nt,tm,[],mem',gr'⟩ { a with defers:={ target:=.collected w.heap.size,args:=#[] }::a.defers } w4:=fun {K' mem' gr' w3 st pe} ho hst h3=>by
  have hk:=h3.kept;have hl:=hk.2.1;refine⟨_,run_endLoop hl hst,?_⟩;have h4:=eE (K':=(K'.and (aa [w.heap.size])).and (okT tm)) h3 hl (fun _ _ _ e=>by cases e) (grownBy_putObj' w3 _ (.loop { fw (P5 fn a ps assign body w.heap.size .ready none) st pe with state:=.exhausted })) (fun hh=>absurd h.chg.size (by simp only at hh ⊢;omega))
   (fun kb=>⟨⟨ho kb hk.1.1,⟨fun D hD=>by
    simp only[List.mem_singleton]at hD;subst hD;exact kb.obj _ _ (by intro e;injection e with e;omega) hk.2.2 (fun _ _ _ e=>by cases e),by simp⟩⟩,cm tm _ kb hk.1.2⟩)
  exact aY h4 ha'
 rintro e w3 ⟨K',mem',gr',ho,⟨v,rfl,⟨h3,hq⟩|⟨c,hq,h3⟩⟩|⟨ch,st,pe,rfl,hq,h3⟩⟩
 .obtain ⟨w4,e4,h4⟩:=fin ho (by simp) h3
  exact⟨none,w4,e4,hN _ _ _ _ hq _ _ h4 h.chg.size⟩
 .obtain ⟨w4,e4,h4⟩:=fin ho (by simp) h3
  exact⟨some c,w4,e4,hX _ _ _ _ _ hq _ _ h4 h.chg.size⟩
 have hk:=h3.kept;refine hT _ _ _ _ _ hq _ _ (aY (jx h3 ⟨⟨hk.1.1,⟨fun D hD=>?_,by simp⟩⟩,hk.1.2⟩) ha') h.chg.size;simp only[List.mem_singleton]at hD;subst hD;exact hk.2.2
end
section
variable {m0:Nat->Nat->Prop} {w0 w:World} {S:Nat->Prop} {K:Kn} {mem:List (Nat×Blk)} {gr:List (Nat×Gr)} {a:Act} {P:Program} {fn:Func} {R:Ending->World->Prop} {nt:Nat} {tm:List (Nat×AV)}
theorem Hb{D:Nat}{ch:List PanicEntry}(h:b6 ⟨m0,w0,S,[cp D],K.and (aa [D])⟩ ⟨nt,tm,[],mem,gr⟩ a w)(ho:K.off D)(hD:w0.heap.size<=D)(hR:∀w',Mem m0 w0 S K mem gr w'->R (.panicked ch) w'):bodyPostM Fence.wide 0 P fn R (.panic ch) a w:=by
 have hk:=h.kept.2.1 D (by simp);refine pW h.defers hk (hR _ ?_);exact eE h.bare hk (fun _ _ _ e=>by cases e) (grownBy_putObj' w D _) (fun hh=>absurd hD (by omega)) fun kb=>ho kb h.kept.1
theorem sW{pre:List (Nat×Blk)}{out:i8->iF}{v:AV}(h:Mem m0 w0 (ats pre) K mem [] w)(hv:Ok (mT m0 mem []) w v)(x:i8){cr:CR}(hout:out x = .ret cr)(he:Sim (can v) (can cr.v))(hs:B7 ⟨0,[],[],mem,[]⟩ pre cr.sets)(hn:cr.news=[]):dT m0 w0 pre out (.returned v.den) w:=by
 obtain⟨h1,h2⟩:=dB (K:=K) h hs (ks:=[]) (news:=[]) trivial;refine⟨x,?_⟩;rw[hout];refine⟨by rw[<-J8 v,he.1,J8],?_,by rw[hn];exact h1⟩;rw[hn];exact(Q7 _).2 (he.2.2 _ _ ((Q7 _).1 (h2 _ hv)))
theorem AE{pre:List (Nat×Blk)}{out:i8->iF}{t:Nat}{v:AV}(h:Mem m0 w0 (ats pre) (K.and (okK [v])) mem [] w)(x:i8){sets:List (Nat×List AV)}(hout:out x = .thr t v sets)(hs:B7 ⟨0,[],[],mem,[]⟩ pre sets):dT m0 w0 pre out (.panicked [{ v:=.iface t v.den,recovered:=false }]) w:=by
 obtain⟨h1,h2⟩:=dB (K:=K.and (okK [v])) h hs (ks:=[]) (news:=[]) trivial;refine⟨x,?_⟩;rw[hout];have:=h2 v (h.kept.2 v (by simp));rw[ru]at this;exact⟨rfl,this,h1⟩
end
section
variable {m0:Nat->Nat->Prop} {w0 w:World} {S:Nat->Prop} {K:Kn} {mem:List (Nat×Blk)} {gr:List (Nat×Gr)} {a:Act}
theorem sN(V:List AV)(n:Nat):(okK V).off n:=fun k h v hv=>k.ok (h v hv)
theorem aW{tm tm':List (Nat×AV)}{gs:List (Nat×List (Nat×Bool)×AV)}{nt l D:Nat}{rc:Loop}{E:Kn}{T:List PanicEntry->Kn->List (Nat×Blk)->List (Nat×Gr)->Prop}{ch:List PanicEntry}
  (h:b6 ⟨m0,w0,S,[],(KL K tm l rc D .busy none).and E⟩ ⟨nt,tm',gs,mem,gr⟩ a w) {v:AV} (hv:Ok (mT m0 mem gr) w v) (ho:K.off l) (hT:T ch (K.and (okK [v])) mem gr):a.defers=[]/\∃K mem gr,T ch K mem gr/\K.off l/\Mem m0 w0 S ((KL K tm l rc D .busy none).and E) mem gr w:=
 ⟨h.defers,K.and (okK [v]),mem,gr,hT,pj ho (sN [v] l),jx h.bare ⟨⟨⟨⟨h.kept.1.1.1,fun u hu=>by rw[List.mem_singleton.1 hu];exact hv⟩,h.kept.1.1.2⟩,h.kept.1.2⟩,h.kept.2⟩⟩
end
section
variable {r0:Option Nat} {C:Cx} {P:Program} {Q:Exit->Act->World->Prop} {T:List (Nat×TI)} {s:St} {a:Act} {w:World} {B:Alg} {f:FuncId} {k:Nat} {blk:Blk} {ty:Nat} {v:i8->AV} {sets:i8->List (Nat×List AV)} {args':List AV} {id:Nat} {all rest:List Oper} {R:Alg->(Nat->i8)->St×List Ob} {fs:List D4} {o:Oper} {c:Call} {g:Operand} {l r args:(Nat->i8)->List AV}
theorem uv(i:Nat)(O:B=std)(hT:o5 P T)(kp km:List Nat)(cs:List (Nat×CS))(h:b6 C s a w)(hsp:W8 P f args' [(k,blk)] (fun x=>.thr ty (v x) (sets x)))
  (K:∀X x a w',b6 C ((R B X).1.eff (.sets (upd [(k,blk)] (sets x)))) a w'->Ok (((R B X).1.eff (.sets (upd [(k,blk)] (sets x)))).m C) w' (v x)->Q (.panic [{ v:=.iface ty (v x).den,recovered:=false }]) a w')
  (hO:∀a w,¬Q .outgrown a w:=by first|exact fun _ _ h=>h|(intro a w h;obtain⟨x,h,_⟩:=h;cases h)) (hdf:P4 all=true:=by rfl) (hex:∀A X,(K5 A T cs X all (l9 0 (all.take i)) s).map (fun r=>(r.1.keep kp km,r.2.1))=some (R A X):=by intro A X;conv=>lhs;cbv) (hob:∀X,b7 P C.K (R B X).2:=by
   intro X;subst O
   first
   |exact trivial
   |(simp only[b7,Ob.holds,BE.den]<;>and_intros<;>(repeat first|trivial|rfl|exact O1|exact O2|exact O3|exact(fun _ _=>by kernel_rfl)|exact O1 _ _ _ rfl|exact O2 _ _ _ rfl|refine⟨?_,?_⟩|intro h|decide|omega)<;>done)
   |(simp[b7,Ob.holds,BE.den,std,a8,o9]<;>omega))
  (hL:all.drop i=o::rest:=by rfl) (hop:o.op = .call c:=by rfl) (hcal:c.callee = .value g:=by rfl) (hg:∀X,rJ all (R B X).1 o=true:=by intro X;rfl) (hgv:∀X,val (R B X).1 [] g = .fn f (l X) (r X):=by intro X;rfl) (hl:∀X,I2 (R B X).1 [] c.args.toList=some (args X):=by intro X;rfl) (hsim:∀X,F0 (l X++args X++r X) args':=by intro X;subst O;exact zl)
  (hpre:∀X,i6 (R B X).1.mem k=some blk:=by intro X;rfl) (hd:∀X,gS (R B X).1 o.dst=true:=by intro X;rfl) (hen:j6 P f:=by exact fun _ _=>by kernel_rfl):(Code.region id all.toArray false).wpIn (rF r0) 0 P Q a w:=
 kY hO hdf (fi 0 i O hT kp km cs h hex hob fun X a1 w1 Z=>cK hL (hg X) hop hcal Z (hgv X) (hl X) hen hsp (hsim X) (fx (hpre X)) rfl (hd X) fun x w' Z hok=>K X x _ w' Z hok)
end
section
variable {P:Program} {f:FuncId} {fn:Func} {c:Code} {R:Ending->World->Prop} {m:Nat->Nat->Prop} {w:World} {pre:List (Nat×Blk)} {args:List AV}
theorem IV(nt:Nat)(hm:∀b o,m b o->b<w.heap.size)(hp:M7 m w pre)(hargs:∀v∈args,Ok m w v)(hf:P.funcs[f]? = some fn)(h:∀B,B=std->∀a,b6 ⟨m,w,ats pre,[],noK⟩ ⟨nt,B8 0 args,[],pre,[]⟩ a w->wpN f P c (bodyPostM Fence.wide 0 P fn R) a w)(hb:fn.body=some c:=by rfl)(hnt:fn.ntmps=nt:=by rfl)(hn:args.length<=nt:=by exact Nat.le_of_ble_eq_true rfl):Calls P f (args.map AV.den).toArray w R:=by
 refine jI hf hb ?_;have:=h std rfl _ (fq hm hp hargs hn)
 simpa[hnt]using this
end
theorem EL(q:Lab):j7 Tryz.prog 111 [f4 q] (fun y=>.fn 159 [] [.ep (some ⟨y.b,0,none⟩) 0 0 0 [.int .i64 q.len,.int .u64 q.bits]]):=by
 intro m w hm hargs;simp only[f4]at hargs ⊢;refine en 4 hm hargs Tryz.func111 fun B O a0 Z=>?_
 refine wp_seq (rg O a6 [1] [1] [] Z fun X0 _ _ Z=>?_);refine wp_seq (rg O a6 [2] [1] [] Z fun X1 _ _ Z=>?_);have Z:=Z.fz (tm':=[(2,.fn 159 [] [.ep (some ⟨(X0 0).b,0,none⟩) 0 0 0 [.int .i64 q.len,.int .u64 q.bits]])]) ⟨rfl,HE trivial ⟨eM,trivial⟩,trivial⟩;exact wp_ret (rsp O a6 Z ⟨(X0 0).b,fun _=>none,fun _=>0,fun _=>.empty⟩).1
theorem vw:j6 Tryz.prog 159:=fun _ _=>by kernel_rfl
theorem mc{F:Fence}{P:Program}{l:Nat}{f:FuncId}{T T':Array Value}{c c':Code}{w:World}{R:Ending->World->Prop}(h:T=T')(h2:RoundIn F 0 P l f T' c c' w R):RoundIn F 0 P l f T c c' w R:=h ▸ h2
theorem gD{P:Program}{C:Cx}{s:St}{a:Act}{w:World}{fn:Func}{R:Ending->World->Prop}(h:b6 C s a w)(hds:C.ds=[])(hR:R (.returned (.tuple #[])) w)(hfn:fn.results = #[]:=by rfl):bodyPost P fn R .ret a w/\bodyPost P fn R .normal a w:=by
 have e:(results fn a.tmps).run P w = .ok (.tuple #[]) w:=by simp[results,hfn]
 exact⟨⟨h.defers.trans hds,_,e,hR⟩,⟨h.defers.trans hds,_,e,hR⟩⟩
def ub(m0:Nat->Nat->Prop)(w0:World)(S:Nat->Prop)(tmc:List (Nat×AV))(l:Nat)(rc:Loop)(D:Nat)(N:Kn->List (Nat×Blk)->List (Nat×Gr)->Prop)(X:Code->Kn->List (Nat×Blk)->List (Nat×Gr)->Prop)(e:Ending)(w3:World):Prop:=
 ∃v,e = .returned v/\∃K' mem' gr',K'.off l/\((Mem m0 w0 S (KL K' tmc l rc D .ready none) mem' gr' w3/\N K' mem' gr') \/ ∃c,X c K' mem' gr'/\Mem m0 w0 S (KL K' tmc l rc D .done (some c)) mem' gr' w3)
theorem EM{m0:Nat->Nat->Prop}{w0:World}{S:Nat->Prop}{l D ntc p:Nat}{tmc:List (Nat×AV)}{ac:Act}{rc:Loop}{fd:Func}(hfn:Tryz.prog.funcs[rc.fn]? = some fd)(hl0:w0.heap.size<=l)(hD:D≠l)(hst:rc.pending=none)(htm:rc.tmps=ac.tmps)(hps:rc.params = #[p])(hpn:p<ntc)(hac:∃d,ao ntc tmc d ac)
  (q:Lab) (hb0:U64 q.bits) (J:Nat->Kn->List (Nat×Blk)->List (Nat×Gr)->Prop) (X:Code->Kn->List (Nat×Blk)->List (Nat×Gr)->Prop)
  (hbody:∀i:Nat,i<2->chE q 0=0->∀(E:Kn),E.self->(∀n,E.off n)->∀K mem gr a w,J i K mem gr->K.off l->b6 ⟨m0,w0,S,[],(KL K tmc l rc D .ready none).and E⟩ ⟨ntc,(p,f4 (chV q i))::tmc,[],mem,gr⟩ a w->rc.assign.wpIn (rF (some l)) 0 Tryz.prog (Exit.then (fun a₁ w₁=>∃nt1 tm1 fx gr1,b6 ⟨m0,w0,S,[],(KL K tmc l rc D .ready none).and E⟩ ⟨nt1,tm1,[],fx,gr1⟩ a₁ w₁ ∧
   ∀w₂,b6 ⟨m0,w0,S,[],(KL K tmc l rc D .busy none).and E⟩ ⟨nt1,tm1,[],fx,gr1⟩ a₁ w₂->rc.body.wpIn (rF (some l)) 0 Tryz.prog (yY m0 w0 S tmc l rc D E (J (i+1)) X) a₁ w₂) (fun _ _ _=>False)) a w)
  {K:Kn} {mem:List (Nat×Blk)} {gr:List (Nat×Gr)} {w:World} {A:Option Addr} (hJ:J 0 K mem gr) (hK:K.off l) (hm:Mem m0 w0 S (KL K tmc l rc D .ready none) mem gr w) (hA:Ok (mT m0 mem gr) w (.ep A 0 0 0 [.int .i64 q.len,.int .u64 q.bits])) :
  Calls Tryz.prog 159 ([yV l,.ep A 0 0 0 [.int .i64 q.len,.int .u64 q.bits]].map AV.den).toArray w (ub m0 w0 S tmc l rc D (J (if chE q 0=0 then 2 else 0)) X):=by
 have hargs:∀v ∈ [yV l,.ep A 0 0 0 [.int .i64 q.len,.int .u64 q.bits]],Ok (mT m0 mem gr) w v:=by
  intro v hv;simp only[List.mem_cons,List.not_mem_nil,or_false]at hv
  rcases hv with rfl|rfl
  .exact .raw _
  exact hA
 refine enY 24 (pre:=[]) (fun b o hb=>ow hm b o hb) ⟨fun e he=>(by cases he),fun e he=>(by cases he),fun e he=>(by cases he),.nil⟩ hargs Tryz.func159 fun B O a0 Z=>?_
 refine wpIn_seq (rrg O a6 [6,0,1] [] [] Z fun X0 _ _ Z=>?_);refine wpIn_block (mR (ι:=Nat) (fun i a w=>∃K mem gr wi,J i K mem gr/\K.off l/\Mem m0 w0 S (KL K tmc l rc D .ready none) mem gr wi/\b6 ⟨mT m0 mem gr,wi,ats [],[],noK⟩ ⟨24,[(6,.int .i64 (i:Int)),(0,yV l),(1,.ep A 0 0 0 [.int .i64 q.len,.int .u64 q.bits])],[],[],[]⟩ a w) (fun i=>i<=2/\(i=0 \/ chE q 0=0)) (fun i=>2-i) 0 ⟨by omega,.inl rfl⟩ ⟨K,mem,gr,w,hJ,hK,hm,Z⟩ ?_)
 rintro i ⟨hi2,hi0⟩ a w ⟨K,mem,gr,wi,hJ,hK,hm,Z⟩
 refine wpIn_seq (rrg O a6 [7,6,0,1] [] [] Z fun X1 _ _ Z=>?_);refine wpIn_seq (bz Z rfl (fun hb Z=>?_) (fun hb Z=>?_))
 .have hin:i<2:=by
   have:(i:Int)<(2:Int):=by subst O;simpa[std,a8]using hb
   omega
  refine wpIn_skip (wpIn_seq (wpIn_block (wpIn_seq (rrg O a6 [3,6,0,1] [] [] Z fun X2 _ _ Z=>?_))));have SC:=kB q hb0 i (by omega);have hCE:chE q i=chE q 0:=rfl;rw[hCE]at SC;obtain⟨e,he⟩:=eqv (chE q 0);obtain⟨c,hc⟩:=eqv (chV q i);simp only[f4,<-hc,<-he]at SC;have O1:=SC;refine wpIn_seq (rrg O a6 [5,4,6,0,1] [4] [(2,.r fun _=>.tup [.agg [.int .i64 c.len,.int .u64 c.bits],.int .i64 e])] Z fun X3 _ _ Z=>?_);have Z:=Z.fz (tm':=[(5,.int .i64 e),(4,.ep (some ⟨(X3 6).b,0,none⟩) 0 0 0 [.int .i64 c.len,.int .u64 c.bits]),(6,.int .i64 (i:Int)),(0,yV l),(1,.ep A 0 0 0 [.int .i64 q.len,.int .u64 q.bits])]) ⟨rfl,I7,rfl,eM,rfl,I7,rfl,I7,rfl,I7,trivial⟩;refine wpIn_seq (wpIn_region_lit ?_);refine zX 0 3 O a6 [17,4,6,0,1] [] [] Z (fun X4 _ _ Z=>?_)
  by_cases he0:e=0
  .have Z:=Z.headS (v':=.bool .ff) (by subst O;subst he0;exact Sim.bool rfl) rfl
   refine zX 3 2 O a6 [19,18,17,6,0,1] [] [] Z (fun X5 _ _ Z=>?_);have hfit:=gy hm Z;refine ls rfl (mI rfl rfl hfit rfl) rfl rfl hfit rfl rfl (rc:=fw rc .ready none) hfit.kept.2.1 (by simp[fw,hps]) (fun _=>?_);refine mc (T':=([(p,f4 c)]:List (Nat×AV)).foldl (fun t e=>t.setIfInBounds e.1 e.2.den) rc.tmps) (by simp[fw,hps,f4];rfl) ?_;refine Ek (P:=Tryz.prog) hfn hl0 hD hK hst htm hfit hac (by
     intro x hx;simp only[List.mem_singleton]at hx;subst hx;exact⟨hpn,.agg _ (by intro v hv;simp only[List.mem_cons,List.not_mem_nil,or_false]at hv;rcases hv with rfl|rfl<;>rfl) (by intro v hv;simp only[List.mem_cons,List.not_mem_nil,or_false]at hv;rcases hv with rfl|rfl<;>exact .int _ _)⟩) (J (i+1)) X ?_ ?_ ?_
   .intro K' mem' gr' w' hj' ho' hf'
    have Z:=qR (hf'.put (some 20) (fun t ht=>by injection ht with ht;subst ht;exact Nat.le_of_ble_eq_true rfl) (.bool .tt) (fun _=>.bool _) (.bool true) fun _=>rfl);refine uw 6 O a6 [22,6,0,1] [] [] Z (fun X6 _ _ Z=>?_);refine pI Z rfl (fun Z=>?_);refine wpIn_skip (rrg O a6 [6,0,1] [] [] Z fun X7 _ _ Z=>?_);have e:B.arith .add .i64 (i:Int) 1=((i+1:Nat):Int):=by subst O;exact o3 (n:=2) hin (by simp only[maxLen];omega)
    exact⟨i+1,⟨by omega,.inr (he.symm.trans he0)⟩,by omega,K',mem',gr',w',hj',ho',hf'.bare,by rw[<-e];exact Z⟩
   .intro cc K' mem' gr' w' hx' ho' hf'
    have Z:=qR (hf'.put (some 20) (fun t ht=>by injection ht with ht;subst ht;exact Nat.le_of_ble_eq_true rfl) (.bool .ff) (fun _=>.bool _) (.bool false) fun _=>rfl);refine uw 6 O a6 [22,6,0,1] [] [] Z (fun X6 _ _ Z=>?_);refine gB Z rfl (fun Z=>?_);exact wpIn_ret (gD (P:=Tryz.prog) (R:=ub m0 w0 S tmc l rc D (J (if chE q 0=0 then 2 else 0)) X) Z rfl (⟨_,rfl,K',mem',gr',ho',.inr ⟨cc,hx',(gy hf'.bare Z).bare⟩⟩)).1
   intro a hFa;have:=hbody i hin (he.symm.trans he0) (okT _) (gI _) (cm _) K mem gr a _ hJ hK (by rw[<-hc];exact hFa);exact this
  have Z:=Z.headS (v':=.bool .tt) (by subst O;exact Sim.bool (by simp[std,a8,he0,BE.den])) rfl;refine uw 3 O a6 [22,6,0,1] [] [] Z (fun X5 _ _ Z=>?_);refine gB Z rfl (fun Z=>?_);have hne:¬chE q 0=0:=fun h=>he0 (he.trans h)
  have hi:i=0:=hi0.resolve_right hne;exact wpIn_ret (gD (P:=Tryz.prog) (R:=ub m0 w0 S tmc l rc D (J (if chE q 0=0 then 2 else 0)) X) Z rfl (⟨_,rfl,K,mem,gr,hK,.inl ⟨(gy hm Z).bare,by rw[if_neg hne,<-hi];exact hJ⟩⟩)).1
 have hi:i=2:=by
  have:¬(i:Int)<(2:Int):=by subst O;simpa[std,a8]using hb
  omega
 refine wpIn_exit ?_;have h0:chE q 0=0:=hi0.resolve_left (by omega);exact(gD (P:=Tryz.prog) (R:=ub m0 w0 S tmc l rc D (J (if chE q 0=0 then 2 else 0)) X) Z rfl (⟨_,rfl,K,mem,gr,hK,.inl ⟨(gy hm Z).bare,by rw[if_pos h0,<-hi];exact hJ⟩⟩)).2
end Go.Proofs.YtmbkanpapkhnaaaGreat.Sym
