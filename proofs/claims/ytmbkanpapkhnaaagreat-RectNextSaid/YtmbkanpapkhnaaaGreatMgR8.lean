/-
  SymDn, SymRcD3, SymL30N, WalkRectNext: put together by a program of mine (a claim may have 60 files at most). Conditions: none.
-/
import Derived.Test.YtmbkanpapkhnaaaGreatMgR7
set_option linter.unusedVariables false
set_option linter.unusedSimpArgs false
set_option maxRecDepth 100000
set_option maxHeartbeats 1600000
namespace Go.Proofs.YtmbkanpapkhnaaaGreat.Sym
open Go Go.RowKit
theorem Jv(J:j4)(E:s9):B8 Tryz.prog 38 [bR J,aR E.A E.n E.c E.f] [] (fun x=>⟨.ptr 9 x.b 0,[],[(9,⟨x.b,147,T8 J E 0 nt0⟩)]⟩):=by
 intro m w hm hargs hpre;refine enX 10 hm hpre hargs Tryz.func38 fun B O a0 Z=>?_
 refine a6 [1,2] [2] Z fun X0 Z=>?_
 refine a6 [4] [9,9] Z fun X1 Z=>?_
 refine f5 ((rx O a7 Z (⟨(X1 4).b,fun _=>none,fun _=>0,fun _=>.empty⟩) [9] (he:=?_) (hn:=?_)).1)
 .subst O;exact Sim.ptr
 exact⟨⟨_,rfl,by subst O;exact⟨zr,zr,zr,zr,zr,zr,zr,zr,zr,zr,zr,zr,zr,zr,zr,zr,zr,zr,zr,zr,zr,zr,zr,zr,zr,zr,zr,zr,zr,zr,zr,zr,zr,zr,Sim.ff,zr,zr,zr,zr,trivial⟩⟩,(by intro e he;cases he),(by simp),trivial⟩
theorem CQ(b:Nat)(J:j4)(E:s9)(N:Nat)(Q:B7)(t:Nt)(h:N<E.n):B8 Tryz.prog 42 [.ptr 0 b 0] [(0,⟨b,147,F8 J E N Q t⟩)] (fun _=>⟨.tup [.agg [.int .i64 0,.int .i64 0,.int .u64 0,.int .u64 0,.int .i64 0,.sl none none 0 0 2 (fun _=>[]),.int .i64 0,.int .u64 0,.int .u64 0,.int .i64 0,.bool .ff,.str ⟨#[]⟩,.sl none none 0 0 2 (fun _=>[]),.int .u64 0,.bool .ff],.int .i64 5],[(0,F8 J E N Q t)],[]⟩):=by
 intro m w hm hargs hpre;refine enX 19 hm hpre hargs Tryz.func42 fun B O a0 Z=>?_
 refine a6 [0,2] [0,2] Z fun X0 Z=>?_
 refine a8 (a8 (drg O a7 [13,0,2] [0,2] [] Z fun X1 _ _ Z=>?_));apply b7 Z rfl<;>intro hb Z
 .skip
  refine a6 [2,3] [0,2] Z fun X2 Z=>?_
  exact f5 ((rx O a7 Z i8 []).1)
 exfalso
 have h9:¬N<E.n:=by
  have:¬(N:Int)<(E.n:Int):=by subst O;simpa[std,d4]using hb
  omega
 exact h9 h
theorem yS(k0:Nat)(b:Nat)(J:j4)(E:s9)(N:Nat)(Q:B7)(t:Nt)(h:N<E.n):B8 Tryz.prog 42 [.ptr k0 b 0] [(k0,⟨b,147,F8 J E N Q t⟩)] (fun _=>⟨.tup [.agg [.int .i64 0,.int .i64 0,.int .u64 0,.int .u64 0,.int .i64 0,.sl none none 0 0 2 (fun _=>[]),.int .i64 0,.int .u64 0,.int .u64 0,.int .i64 0,.bool .ff,.str ⟨#[]⟩,.sl none none 0 0 2 (fun _=>[]),.int .u64 0,.bool .ff],.int .i64 5],[(k0,F8 J E N Q t)],[]⟩):=
 (CQ b J E N Q t h).re (by repeat(first|exact trivial|refine⟨Sim.ptr,?_⟩|refine⟨Sim.fn ⟨Sim.ptr,trivial⟩ trivial,?_⟩|refine⟨Sim.fn trivial ⟨Sim.ptr,trivial⟩,?_⟩|refine⟨zr,?_⟩)) rfl (fun x=>⟨rfl,rfl,zr,rfl⟩)
theorem CT(b:Nat)(J:j4)(E:s9)(N:Nat)(Q:B7)(t:Nt)(h:¬N<E.n):B8 Tryz.prog 42 [.ptr 0 b 0] [(0,⟨b,147,F8 J E N Q t⟩)] (fun _=>⟨.tup [F4 Q,.int .i64 0],[(0,F8 J E N Q t)],[]⟩):=by
 intro m w hm hargs hpre;refine enX 19 hm hpre hargs Tryz.func42 fun B O a0 Z=>?_
 refine a6 [0,2] [0,2] Z fun X0 Z=>?_
 refine a8 (a8 (drg O a7 [13,0,2] [0,2] [] Z fun X1 _ _ Z=>?_));apply b7 Z rfl<;>intro hb Z
 .exfalso
  have h9:N<E.n:=by
   have:(N:Int)<(E.n:Int):=by subst O;simpa[std,d4]using hb
   omega
  exact h h9
 skip
 refine f8 (a6 [2,3] [0,2] Z fun X3 Z=>?_);exact f5 ((rx O a7 Z i8 []).1)
theorem yU(k0:Nat)(b:Nat)(J:j4)(E:s9)(N:Nat)(Q:B7)(t:Nt)(h:¬N<E.n):B8 Tryz.prog 42 [.ptr k0 b 0] [(k0,⟨b,147,F8 J E N Q t⟩)] (fun _=>⟨.tup [F4 Q,.int .i64 0],[(k0,F8 J E N Q t)],[]⟩):=
 (CT b J E N Q t h).re (by repeat(first|exact trivial|refine⟨Sim.ptr,?_⟩|refine⟨Sim.fn ⟨Sim.ptr,trivial⟩ trivial,?_⟩|refine⟨Sim.fn trivial ⟨Sim.ptr,trivial⟩,?_⟩|refine⟨zr,?_⟩)) rfl (fun x=>⟨rfl,rfl,zr,rfl⟩)
theorem Jq(J:j4)(hJ:fi J)(hRJ:bi J)(E:s9)(hEn:E.n<=900000)(hin:∀j,j<E.n->InG (E.f j)):l3 Tryz.prog 13 [bR J,aR E.A E.n E.c E.f] (fun x=>.tup [F4 (wqA x (G9 J E.n E.f).1),.int .i64 (G9 J E.n E.f).2]):=by
 intro m w hm hargs;have S1:=LW J hJ.lab E.A E.n E.c E.f hin;obtain⟨rt,hrt⟩:=eqv ((J4 E.n E.f&&F5 J));rw[<-hrt]at S1;have SN:=Jv J E;have SI:=pY J.rct;rw[zG hRJ]at SI;obtain⟨ri,hri⟩:=eqv (decide J.rct.Is);rw[<-hri]at SI;refine en 38 hm hargs Tryz.func13 fun B O a0 Z=>?_
 refine a6 [1,2,4] [6,2,4] Z fun X0 Z=>?_
 have O1:=S1;refine a8 (i9 [17,1,2,4] [6,2,4] [(2,.r fun _=>.bool (.v rt))] Z fun X1 Z=>?_);apply b7 Z rfl<;>intro hb Z
 .have hf:(F5 J&&(decide (J.kind=12))&&J4 E.n E.f)=false:=by
   have h9:(if(!rt)=true then true else(J.kind != 12))=true:=by subst O;exact hb
   cases hr:rt
   .rw [hr]at hrt;cases h1:J4 E.n E.f<;>cases h2:F5 J<;>simp[h1,h2]at hrt ⊢
   rw[hr]at h9;by_cases k12:J.kind=12<;>simp[k12]at h9 ⊢
  refine a6 [4,5] [6,4] Z fun X2 Z=>?_
  refine f5 ((rsi O a7 Z (⟨0,fun _=>none,fun _=>0,fun _=>.empty⟩) (he:=?_)));subst O;have ht9:G9 J E.n E.f=(zWq,1):=by unfold G9;rw[hf];rfl
  rw[ht9];exact Sim.tup ⟨Sim.agg ⟨zr,zr,zr,zr,zr,zq0,zr,zr,zr,zr,zr,zr,zq0,zr,zr,trivial⟩,zr,trivial⟩
 have hf:(F5 J&&(decide (J.kind=12))&&J4 E.n E.f)=true:=by
  have h9:(if(!rt)=true then true else(J.kind != 12))=false:=by subst O;exact hb
  cases hr:rt
  .rw [hr]at h9;cases h9
  rw[hr]at h9 hrt;cases h1:J4 E.n E.f<;>cases h2:F5 J<;>simp[h1,h2]at hrt ⊢
  by_cases k12:J.kind=12<;>simp[k12]at h9 ⊢
 have hjb:F5 J=true:=by
  simp only[Bool.and_eq_true]at hf;exact hf.1.1
 have hag:J4 E.n E.f=true:=by
  simp only[Bool.and_eq_true]at hf;exact hf.2
 have hkd:J.kind=12:=by
  simp only[Bool.and_eq_true,Bool.or_eq_true,decide_eq_true_eq]at hf;exact hf.1.2
 have hJ1:l6 J:=by
  have:=tZ (n:=0) hJ hjb (by omega);have e:J.less 0=J:=by unfold j4.less;simp
  rwa[e]at this
 have hE:E.n<=1000000:=by omega
 obtain⟨p0,hp0e⟩:=eqv (nv E.n E.f);have hp0:j3 p0:=by rw[hp0e];exact tK hin hag
 have hn0:p0.n<=1000000:=by rw[hp0e];show E.n<=_;omega
 have hR0:Rel E 0 p0:=by rw[hp0e];exact⟨rfl,fun j=>by show E.f j=E.f (0+j);rw[Nat.zero_add]⟩
 have hnt0:p0.note=nt0:=by rw[hp0e];rfl
 have hN0:0=E.n-p0.n:=by rw[hp0e];show 0=E.n-E.n;omega
 have hpE:p0.n=E.n:=by rw[hp0e];rfl
 have htot:G9 J E.n E.f=I8 (((aM J.bucket (J.budget-E.n) J.how J.rct p0).bind Z0:Rs Rsl)):=by unfold G9;rw[hf,<-hp0e,wU];rfl
 refine f8 (a8 ?_);refine f7 [6,2,4] [6,2,4] [(2,.x fun x=>⟨.ptr 6 x.b 0,[],[(6,⟨x.b,147,T8 J E 0 nt0⟩)]⟩)] Z (hob:=by intro X;subst O;simp only[i6,Ob.holds,BE.den]<;>and_intros<;>repeat first|trivial|rfl|exact B8.re SN (zl) rfl fun _=>⟨rfl,rfl,Sim.ptr,rfl⟩|exact(fun _ _=>by kernel_rfl)|refine⟨?_,?_⟩|intro h|exact Int.le_refl _|decide|omega) fun X3 Z=>?_
 replace Z:=Z.memS (cells':=T8 J E 0 p0.note) (by rw[hnt0];exact zl);have O1:=SI;refine a8 (i9 [25,6,2,4] [6,2,4] [(2,.r fun _=>.bool (.v ri))] Z fun X4 Z=>?_);apply b7 Z rfl<;>intro hb Z
 .have hnI:¬J.rct.Is:=by
   have h9:ri=false:=by subst O;revert hb;cases ri<;>simp[std]
   exact of_decide_eq_false (hri.symm.trans h9)
  refine f7 [6,4] [6,4] [(2,.x fun _=>⟨k8,[(6,F8 J E 0 (wqA X00 (Y9 ⟨5,false,⟨#[]⟩,[],0,false⟩)) p0.note)],[]⟩)] Z (hob:=by intro X;subst O;simp only[i6,Ob.holds,BE.den]<;>and_intros<;>repeat first|trivial|rfl|exact B8.re (Nb 6 (X3 2).b J E hE 0 ⟨0,⟨0,0⟩,0,zRA,gQ⟩ p0.note 5 false ⟨#[]⟩) ⟨zr,Sim.agg ⟨zr,Sim.ff,zr,zr,zr,zr,trivial⟩,trivial⟩ rfl fun _=>⟨rfl,rfl,zr,rfl⟩|exact(fun _ _=>by kernel_rfl)|refine⟨?_,?_⟩|intro h|exact Int.le_refl _|decide|omega) fun X5 Z=>?_
  have O1:=Js 6 (X3 2).b J E hE 0 (wqA X00 (Y9 ⟨5,false,⟨#[]⟩,[],0,false⟩)) p0.note hRJ;refine i9 [6,4] [6,4] [(1,.x fun _=>⟨k8,[(6,F8 J E 0 (wqA X00 (Y9 ⟨5,false,⟨#[]⟩,[],0,false⟩)) p0.note)],[]⟩)] Z fun X6 Z=>?_
  refine a8 ?_
  rcases Bool.eq_false_or_eq_true (decide (0<E.n))with hlt|hlt
  .have O1:=yS 6 (X3 2).b J E 0 (wqA X00 (Y9 ⟨5,false,⟨#[]⟩,[],0,false⟩)) p0.note (of_decide_eq_true hlt)
   refine f7 [4,7,8] [6,4,7] [(1,.x fun _=>⟨.tup [.agg [.int .i64 0,.int .i64 0,.int .u64 0,.int .u64 0,.int .i64 0,.sl none none 0 0 2 (fun _=>[]),.int .i64 0,.int .u64 0,.int .u64 0,.int .i64 0,.bool .ff,.str ⟨#[]⟩,.sl none none 0 0 2 (fun _=>[]),.int .u64 0,.bool .ff],.int .i64 5],[(6,F8 J E 0 (wqA X00 (Y9 ⟨5,false,⟨#[]⟩,[],0,false⟩)) p0.note)],[]⟩)] Z fun X7 Z=>?_
   have hr9:((aM J.bucket (J.budget-E.n) J.how J.rct p0).bind Z0:Rs Rsl) = .stop (Y9 ⟨5,false,⟨#[]⟩,[],0,false⟩) p0:=(by unfold aM;rw[if_neg hnI];rfl);have ht9:G9 J E.n E.f=(zWq,5):=by
    have h9:=of_decide_eq_true hlt;rw[htot,hr9];unfold I8;simp only;rw[if_pos (by have:=hN0;skip;omega)]
   refine a6 [4,5] [6,4] Z fun X8 Z=>?_
   refine f5 ((rsi O a7 Z (⟨0,fun _=>none,fun _=>0,fun _=>.empty⟩) (he:=?_)));subst O;rw[ht9];exact Sim.tup ⟨Sim.agg ⟨zr,zr,zr,zr,zr,zq0,zr,zr,zr,zr,zr,zr,zq0,zr,zr,trivial⟩,zr,trivial⟩
  have O1:=yU 6 (X3 2).b J E 0 (wqA X00 (Y9 ⟨5,false,⟨#[]⟩,[],0,false⟩)) p0.note (of_decide_eq_false hlt);refine f7 [4,7,8] [6,4,7] [(1,.x fun _=>⟨.tup [F4 (wqA X00 (Y9 ⟨5,false,⟨#[]⟩,[],0,false⟩)),.int .i64 0],[(6,F8 J E 0 (wqA X00 (Y9 ⟨5,false,⟨#[]⟩,[],0,false⟩)) p0.note)],[]⟩)] Z fun X7 Z=>?_
  have hr9:((aM J.bucket (J.budget-E.n) J.how J.rct p0).bind Z0:Rs Rsl) = .stop (Y9 ⟨5,false,⟨#[]⟩,[],0,false⟩) p0:=(by unfold aM;rw[if_neg hnI];rfl);have ht9:G9 J E.n E.f=((Y9 ⟨5,false,⟨#[]⟩,[],0,false⟩),0):=by
   have h9:=of_decide_eq_false hlt;rw[htot,hr9];unfold I8;simp only;rw[if_neg (by have:=hN0;skip;omega)]
  refine a6 [4,5] [6,4] Z fun X8 Z=>?_
  refine f5 ((rsi O a7 Z (X00) (he:=?_)));subst O;rw[ht9,<-(rfl:wqA X00 (Y9 ⟨5,false,⟨#[]⟩,[],0,false⟩)=wqA X00 (Y9 ⟨5,false,⟨#[]⟩,[],0,false⟩))];exact zr
 have hI:J.rct.Is:=by
  have h9:ri=true:=by subst O;revert hb;cases ri<;>simp[std]
  exact of_decide_eq_true (hri.symm.trans h9)
 obtain⟨wq6,p6,N6,W6,hm6,hs6,hN6,hW6,S6⟩:=Bu (Jr 6 (X3 2).b J hJ1 E hE 0 p0 hR0 hp0 hn0 hRJ hI (vL hjb)) (EC _ _ _ _ _) hp0 hn0 hR0;have O1:=S6;refine f8 (i9 [6,4] [6,4] [(1,.x fun x=>⟨k8,[(6,F8 J E N6 (W6 x) p6.note)],[]⟩)] Z fun X6 Z=>?_);refine a8 ?_
 rcases Bool.eq_false_or_eq_true (decide (N6<E.n))with hlt|hlt
 .have O1:=yS 6 (X3 2).b J E N6 (W6 (X6 1)) p6.note (of_decide_eq_true hlt)
  refine f7 [4,7,8] [6,4,7] [(1,.x fun _=>⟨.tup [.agg [.int .i64 0,.int .i64 0,.int .u64 0,.int .u64 0,.int .i64 0,.sl none none 0 0 2 (fun _=>[]),.int .i64 0,.int .u64 0,.int .u64 0,.int .i64 0,.bool .ff,.str ⟨#[]⟩,.sl none none 0 0 2 (fun _=>[]),.int .u64 0,.bool .ff],.int .i64 5],[(6,F8 J E N6 (W6 (X6 1)) p6.note)],[]⟩)] Z fun X7 Z=>?_
  have hr9:((aM J.bucket (J.budget-E.n) J.how J.rct p0).bind Z0:Rs Rsl) = .stop wq6 p6:=(Bt hm6);have ht9:G9 J E.n E.f=(zWq,5):=by
   have h9:=of_decide_eq_true hlt;rw[htot,hr9];unfold I8;simp only;rw[if_pos (by have:=hN6;have:=hs6.le;omega)]
  refine a6 [4,5] [6,4] Z fun X8 Z=>?_
  refine f5 ((rsi O a7 Z (⟨0,fun _=>none,fun _=>0,fun _=>.empty⟩) (he:=?_)));subst O;rw[ht9];exact Sim.tup ⟨Sim.agg ⟨zr,zr,zr,zr,zr,zq0,zr,zr,zr,zr,zr,zr,zq0,zr,zr,trivial⟩,zr,trivial⟩
 have O1:=yU 6 (X3 2).b J E N6 (W6 (X6 1)) p6.note (of_decide_eq_false hlt);refine f7 [4,7,8] [6,4,7] [(1,.x fun _=>⟨.tup [F4 (W6 (X6 1)),.int .i64 0],[(6,F8 J E N6 (W6 (X6 1)) p6.note)],[]⟩)] Z fun X7 Z=>?_
 have hr9:((aM J.bucket (J.budget-E.n) J.how J.rct p0).bind Z0:Rs Rsl) = .stop wq6 p6:=(Bt hm6);have ht9:G9 J E.n E.f=(wq6,0):=by
  have h9:=of_decide_eq_false hlt;rw[htot,hr9];unfold I8;simp only;rw[if_neg (by have:=hN6;have:=hs6.le;omega)]
 refine a6 [4,5] [6,4] Z fun X8 Z=>?_
 refine f5 ((rsi O a7 Z ((X6 1)) (he:=?_)));subst O;rw[ht9,<-(hW6 _)];exact zr
theorem ny(J:j4)(hJ:fi J)(hRJ:bi J)(A:Option Addr)(n c:Nat)(f:Nat->s7)(hn:n<=maxLen)(hin:∀j,j<n->InG (f j)):l3 Tryz.prog 3 [bR J,aR A n c f] (fun _=>.bool .tt):=by
 intro m w hm hargs;have hmx:maxLen=9223372036854775807:=rfl;obtain⟨bp,hbp⟩:=eqv (nD n f);have SP:l3 Tryz.prog 11 [aR A n c f] (fun _=>.bool (.v bp)):=by rw[hbp];exact Ke none A n c f hn
 refine en 40 hm hargs Tryz.func3 fun B O a0 Z=>?_
 refine a6 [1,2] [2] Z fun X0 Z=>?_
 have O1:=SP;refine a8 (i9 [16,1,2] [2] [(1,.r fun _=>.bool (.v bp))] Z fun X1 Z=>?_);apply b7 Z rfl<;>intro hb Z
 .refine a6 [4] [] Z fun X2 Z=>?_
  refine f5 ((rsi O a7 Z i8 (he:=?_)));subst O;exact Sim.bool rfl
 have hb0:bp=false:=by
  have h9:(if bp=true then true else decide ((J.pn:Int)>600))=false:=by subst O;exact hb
  revert h9;cases bp<;>simp
 have hn2:n<=200:=(FN (hbp ▸ hb0)).1;obtain⟨W9,hW9⟩:=eqv ((G9 J n f).1);obtain⟨E9,hE9⟩:=eqv ((G9 J n f).2);obtain⟨rr9,hrr9⟩:=eqv (W9.r.rn);obtain⟨nn9,hnn9⟩:=eqv (W9.res.items.length);obtain⟨ff9,hff9⟩:=eqv (itF W9.res.items);have T9:=l3.wq (lN J hJ hRJ A n c f (by omega) hin) hW9 hE9 hrr9 hnn9 hff9;have T10:=l3.wq (Jq J hJ hRJ ⟨A,n,c,f⟩ (by show n<=_;omega) hin) hW9 hE9 hrr9 hnn9 hff9
 have O1:=T9;refine f8 (i9 [1,2,5,6] [2,5] [(2,.r fun x=>.tup [.agg [.int .i64 W9.kind,.int .i64 W9.lab.len,.int .u64 W9.lab.bits,.int .u64 W9.ver,.int .i64 rr9.kd,.sl none (x.A 1) rr9.n (x.c 1) 2 (fun i=>itC (rr9.f i)),.int .i64 rr9.nx.len,.int .u64 rr9.nx.bits,.int .u64 rr9.mrk,.int .i64 W9.res.code,.bool (.v W9.res.had),.str W9.res.val,.sl none (x.A 2) nn9 (x.c 2) 2 (fun i=>itC (ff9 i)),.int .u64 W9.res.key,.bool (.v W9.res.more)],.int .i64 E9])] Z fun X3 Z=>?_);have O1:=T10;refine i9 [5,6,7,8] [5,7] [(2,.r fun x=>.tup [.agg [.int .i64 W9.kind,.int .i64 W9.lab.len,.int .u64 W9.lab.bits,.int .u64 W9.ver,.int .i64 rr9.kd,.sl none (x.A 1) rr9.n (x.c 1) 2 (fun i=>itC (rr9.f i)),.int .i64 rr9.nx.len,.int .u64 rr9.nx.bits,.int .u64 rr9.mrk,.int .i64 W9.res.code,.bool (.v W9.res.had),.str W9.res.val,.sl none (x.A 2) nn9 (x.c 2) 2 (fun i=>itC (ff9 i)),.int .u64 W9.res.key,.bool (.v W9.res.more)],.int .i64 E9])] Z fun X4 Z=>?_
 refine a8 ?_;refine f7 [4] [] [(0,.r fun _=>.bool .tt),(4,.r fun _=>.bool .tt)] Z (hob:=by intro X;subst O;simp only[i6,Ob.holds,BE.den]<;>and_intros<;>repeat first|trivial|rfl|exact xq|exact j5 (Kk:=noK) _ _ _ _|exact Dh (X3 2) (X4 2) W9 rr9 nn9 ff9|exact(fun _ _=>by kernel_rfl)|refine⟨?_,?_⟩|intro h|exact Int.le_refl _|decide|omega) fun X5 Z=>?_
 refine f5 ((rsi O a7 Z i8 (he:=?_)));subst O;refine Sim.bool ?_;simp[std,d4,BE.den,kD]
end Go.Proofs.YtmbkanpapkhnaaaGreat.Sym
namespace Go.Proofs.YtmbkanpapkhnaaaGreat
open Go Go.RowKit
theorem pd(W:World)(v0 v1:Value)(i0:Sym.Cu W v0)(i1:Sym.Cv W v1):Calls Tryz.prog 3 #[v0,v1] W fun e w'=>e = .returned (.bool true)/\Below W.heap.size W w':=by
 obtain⟨J,rfl,h0,hJ,hRJ⟩:=i0;obtain⟨A,n,c,f,rfl,h1,hn,hf⟩:=i1;have S:=Sym.ny J hJ hRJ A n c f hn hf;refine(S (fun _ _=>False) W (fun _ _ h=>h.elim) (fun v hv=>?_)).mono ?_
 .simp only[List.mem_cons,List.not_mem_nil,or_false]at hv
  rcases hv with rfl|rfl
  .exact h0
  exact h1
 rintro e w' ⟨x,rfl,_,hb⟩
 exact⟨rfl,hb⟩
end Go.Proofs.YtmbkanpapkhnaaaGreat
