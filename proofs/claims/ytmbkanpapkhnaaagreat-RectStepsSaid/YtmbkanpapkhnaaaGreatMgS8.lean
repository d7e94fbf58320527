/-
  SymRcD2, SymDn, SymRcD3, SymL30S, WalkRectSteps: put together by a program of mine (a claim may have 60 files at most). Conditions: none.
-/
import Derived.Test.YtmbkanpapkhnaaaGreatMgS7
set_option linter.unusedVariables false
set_option linter.unusedSimpArgs false
set_option maxRecDepth 100000
set_option maxHeartbeats 1600000
namespace Go.Proofs.YtmbkanpapkhnaaaGreat.Sym
open Go Go.RowKit
theorem Ad{J:j4}(h:aW J):eR J.rct = .agg [.int .u32 J.x1,.int .u32 J.x2,.int .u32 J.y1,.int .u32 J.y2]:=by
 unfold eR j4.rct;dsimp only;rw[Int.toNat_of_nonneg h.x1.1,Int.toNat_of_nonneg h.x2.1,Int.toNat_of_nonneg h.y1.1,Int.toNat_of_nonneg h.y2.1]
theorem qK{J:j4}(h:aW J)(z:Int)(hz:U64 z):k9 Tryz.prog 93 [.agg [.int .u32 J.x1,.int .u32 J.x2,.int .u32 J.y1,.int .u32 J.y2],.int .u64 z] (fun _=>.tup [.int .u64 ((T8 J.rct z.toNat).1:Nat),.bool (.v (T8 J.rct z.toNat).2)]):=by
 have S:=JV J.rct z.toNat (Y5 hz)
 rwa[Ad h,Int.toNat_of_nonneg hz.1]at S
theorem BQ{J:j4}(h:aW J)(k:Int)(hk:U64 k):k9 Tryz.prog 96 [.agg [.int .u32 J.x1,.int .u32 J.x2,.int .u32 J.y1,.int .u32 J.y2],.int .u64 k] (fun _=>.bool (.v (dM J.rct k))):=by
 have S:=JY J.rct k.toNat (Y5 hk)
 rwa[Ad h,Int.toNat_of_nonneg hk.1]at S
abbrev XR(A:Option Addr)(c:Nat):j8:=⟨0,fun i=>if i=2 then A else none,fun i=>if i=2 then c else 0,fun _=>.empty⟩
theorem rX{J:j4}{E:s8}{N:Nat}{t:Nt}{A:Option Addr}{c n:Nat}{g:Nat->Itm}:G3 (G2 J E N ⟨4,⟨0,0⟩,0,zRA,⟨0,false,⟨#[]⟩,A,n,c,g,0,false⟩⟩ t) (G2 J E N (wqA (XR A c) (Z3 ⟨0,false,⟨#[]⟩,f5 g n,0,false⟩)) t):=
 ⟨zr,zr,zr,zr,zr,zr,zr,zr,zr,zr,zr,zr,zr,zr,zr,zr,zr,zr,zr,zr,zr,zr,zr,zq0,zr,zr,zr,zr,zr,zr,ip A n c g,zr,zr,zr,zr,zr,zr,zr,zr,trivial⟩
theorem Fe(b:Nat)(J:j4)(hJ:l6 J)(E:s8)(hE:E.n<=1000000)(N:Nat)(p:Pst)(hR:Rel E N p)(hp:j3 p)(hn:p.n<=1000000)(hRJ:aW J)(hI:J.rct.Is)(hh:J.how=1 \/ J.how=2):B5 41 0 b J E N p [] (fun _=>k7) (k7) (((aS J.bucket (J.budget-E.n) J.how J.rct p).bind Z4:Rs Unit)):=by
 intro m w hm hargs hpre;have hN0:N=E.n-p.n:=by have:=hR.n;omega
 have hmx:maxLen=9223372036854775807:=rfl;have S1:=qK hRJ 0 ⟨by decide,by decide⟩;have hz:=qp (R:=J.rct) (z:=0) (by decide);rw[show(0:Int).toNat=0 from rfl]at S1;obtain⟨q0,hq0⟩:=eqv (T8 J.rct 0);rw[<-hq0]at S1 hz;have htq:((aS J.bucket (J.budget-E.n) J.how J.rct p).bind Z4:Rs Unit)=((ii J.bucket (J.budget-E.n) J.how (q0.1:Nat) (p.n+1) p).bind fun s q=>cj J.bucket (J.budget-E.n) J.rct (p.n+1) (q0.1:Nat) s [] q).bind Z4:=by
  unfold aS;rw[if_pos hI,<-hq0]
 obtain⟨z9,f9⟩:=q0;dsimp only at S1 hz htq;obtain⟨z8,hz8⟩:=eqv ((z9:Nat):Int);rw[<-hz8]at S1 hz htq;obtain⟨tot,htot⟩:=eqv ((aS J.bucket (J.budget-E.n) J.how J.rct p).bind Z4:Rs Unit);rw[<-htot]at htq ⊢;refine enX 87 hm hpre hargs Tryz.func41 fun B O a0 Z=>?_
 refine a6 [0,2] [2,0] Z fun X0 Z=>?_
 have O1:=S1;refine i9 [2,3,0] [2,0] [(5,.r fun _=>.tup [.int .u64 z8,.bool (.v f9)])] Z fun X1 Z=>?_
 refine a7 ?_
 rcases(JG 0 b J hJ E hE N p hR hp hn z8 hz (p.n+1) (Nat.lt_succ_self _)).two (ly _ _ _ _ _ _) hp hn hR with⟨s2,p2,N2,hm2,hs2,hp2,hn2,hR2,hN2,S2⟩|⟨wq2,p2,N2,W2,hm2,hs2,hN2,hW2,S2⟩
 .have hx2:=tN hz hp hm2
  have O1:=S2;refine f7 [2,3,0,5] [2,0,5] [(2,lc J E (G9 s2) N2 p2)] Z fun X2 Z=>?_
  replace Z:=Z.headS (v':=.sl (some 2) none 0 0 2 (fun t=>itC s7)) (zq0) rfl;refine j1 (l3 (ι:=LSt×Int×Spt×Option Addr×Nat×Nat×(Nat->Itm)) (fun q=>[(2,.sl (some 2) q.2.2.2.1 q.2.2.2.2.1 q.2.2.2.2.2.1 2 (fun t=>itC (q.2.2.2.2.2.2 t))),(3,.int .u64 q.2.1)]) (fun q=>[(0,⟨b,147,lsC J E q.1⟩),(5,⟨(X2 3).b,150,spL q.1 q.2.2.1⟩)]) (fun q=>[(2,⟨q.2.2.2.1,q.2.2.2.2.1,q.2.2.2.2.2.1,2,62⟩)]) (fun q=>match q.1 with| .go a r M=>tot=(cj J.bucket (J.budget-E.n) J.rct a q.2.1 q.2.2.1 (f5 q.2.2.2.2.2.2 q.2.2.2.2.1) r).bind Z4/\j3 r/\r.n<=1000000/\Rel E M r/\r.n<a/\aP q.2.2.1/\U64 q.2.1/\q.2.2.2.2.1+16*r.n<=16000000| .dn r M=>False| .sp M Q u=>∃(X:j8) (wq:Wq) (pp:Pst),tot = .stop wq pp/\M=E.n-pp.n/\Q=wqA X wq/\u=pp.note) (fun q=>lsM q.1) (.go (p.n+1) p2 N2,z8,s2,none,0,0,fun _=>s7) ⟨by rw[htq,hm2];rfl,hp2,hn2,hR2,(by have:=hs2.le;omega),hx2,hz,(by have:=hs2.le;dsimp only;omega)⟩ Z ?_)
  rintro q hJ _ _ Z
  rcases q with⟨⟨nn0,p0,N0⟩|⟨p9,N9⟩|⟨N0,Q0,t0⟩,z0,s0,A1,n1,c1,g⟩
  .dsimp only[lsC,lsB]at hJ Z
   obtain⟨hrun0,hp0,hn0,hR0,hf0,hx0,hz0,hln0⟩:=hJ;obtain⟨m0,rfl⟩:∃n2,nn0=n2+1:=⟨nn0-1,by omega⟩
   have hN0:N0=E.n-p0.n:=by have:=hR0.n;omega
   have O9:=BR s0 hx0 z0 dw;have hfew:=hx0.ok.ra.few;have hlh:=mK s0 z0 dw;have hku:=fun i (h:i∈hasL s0 z0 dw)=>mL hx0 h
   have htd:kE J.rct z0 s0=(hasL s0 z0 dw).filter fun i=>dM J.rct i.key:=rfl
   have hfi:=bW (hasL s0 z0 dw);obtain⟨hl,hhl⟩:=eqv (hasL s0 z0 dw);rw[<-hhl]at O9 hlh hku htd hfi;obtain⟨hn9,hhn⟩:=eqv hl.length;obtain⟨hf9,hhf⟩:=eqv (itF hl);rw[<-hhn]at O9 hlh hfi;rw[<-hhf]at O9 hfi;have hkey:∀i,i<hn9->U64 (hf9 i).key:=fun i hi=>hku _ (by rw[<-hfi];exact List.mem_map.2 ⟨i,List.mem_range.2 hi,rfl⟩)
   refine a7 (a6 [28,2,3,0,5] [2,0,5] Z fun X3 Z=>?_);refine l7 Z rfl (fun Z=>?_);have O1:=O9;refine f8 (j1 (i9 [2,3,0,5,6] [2,0,5] [(2,.r fun x=>.sl none (x.A 0) hn9 (x.c 0) 2 (fun i=>itC (hf9 i)))] Z fun X4 Z=>?_));refine a7 (a6 [2,7,3,0,5,6] [2,0,5] Z fun X5 Z=>?_);refine j1 (l3 (ι:=Nat×Option Addr×Nat×Nat×(Nat->Itm)) (fun q=>[(2,.sl (some 2) q.2.1 q.2.2.1 q.2.2.2.1 2 (fun t=>itC (q.2.2.2.2 t))),(7,.int .i64 (q.1:Int))]) (fun q=>[]) (fun q=>[(2,⟨q.2.1,q.2.2.1,q.2.2.2.1,2,62⟩)]) (fun q=>q.1<=hn9/\f5 q.2.2.2.2 q.2.2.1=f5 g n1++((List.range q.1).map hf9).filter (fun x=>dM J.rct x.key)/\q.2.2.1<=n1+q.1) (fun q=>hn9-q.1) (0,A1,n1,c1,g) ⟨Nat.zero_le _,by simp,Nat.le_refl _⟩ Z ?_)
   rintro⟨i,A2,n2,c2,g2⟩ ⟨hi,hg2,hle2⟩ _ _ Z
   try dsimp only at hi
   try dsimp only at hg2
   try dsimp only at hle2
   refine a7 (a6 [35,2,7,3,0,5,6] [2,0,5] Z fun X6 Z=>?_);apply b7 Z rfl<;>intro hb Z
   .have hin:i<hn9:=by
     have:(i:Int)<(hn9:Int):=by subst O;simpa[std,d4]using hb
     omega
    have hik:=hkey i hin;have O8:=BQ hRJ (hf9 i).key hik;have hst:=qv J.rct hf9 i;obtain⟨iq,hiq⟩:=eqv (dM J.rct (hf9 i).key);rw[<-hiq]at O8 hst;refine f8 (a7 (j1 (a7 ?_)));refine drg O a8 [48,2,7,3,0,5,6] [2,0,5] [(10,.r fun _=>.bool (.v iq))] Z (hob:=by intro X;subst O;simp only[i7,Ob.holds,BE.den]<;>and_intros<;>repeat first|trivial|rfl|exact O8|exact(show(0:Int)<=(i:Int)by omega)|exact(show(i:Int)<(hn9:Int)by omega)|exact(fun _ _=>by kernel_rfl)|refine⟨?_,?_⟩|intro h|exact Int.le_refl _|decide|omega) fun X8 _ _ Z=>?_
    apply b7 Z rfl<;>intro hb Z
    .have hct:iq=true:=hb
     rw[if_pos hct]at hst;refine j5 [2,7,3,0,5,6] [2,0,5] Z (hob:=?hob) fun X9 Z=>?_
     case hob=>
      intro X;subst O
      repeat(first|exact trivial|refine⟨⟨rfl,rfl,rfl⟩,?_⟩|refine⟨(show(0:Int)<=(i:Int)/\(i:Int)<(hn9:Int)by omega),?_⟩|refine⟨rfl,?_⟩|refine⟨⟨show n2+1<=maxLen by omega,show(n2+1)*_<=_ by omega⟩,?_⟩)
     replace Z:=Z.headS (v':=.sl (some 2) ((X9 6).A 0) (B.nadd n2 1) ((X9 6).c 0) 2 (fun t=>itC (V3 g2 n2 (hf9 i) t))) (Sim.resl rfl (fun t ht=>by
      subst O;have ht2:t<n2+1:=ht
      show D3 n2 (fun t=>itC (g2 t)) (C9 2 [.int .u64 (hf9 i).key,.str (hf9 i).val]) t=_
      unfold D3 V3
      split
      .rw [if_neg (by omega)]
      have:t=n2:=by omega
      subst this;simp[C9,itC])) rfl
     refine j5 [2,7,3,0,5,6] [2,0,5] Z fun X7 Z=>?_
     replace Z:=Z.keep [2,7,3,0,5,6] [2,0,5];have e:B.arith .add .i64 (i:Int) 1=((i+1:Nat):Int):=by subst O;exact k4 (n:=hn9) hin (by omega)
     refine⟨(i+1,_,n2+1,_,V3 g2 n2 (hf9 i)),⟨hin,by simp only;rw[Q8,hg2,hst,List.append_assoc],by dsimp only;omega⟩,by dsimp only;omega,by rw[<-e,show n2+1=B.nadd n2 1 by subst O;rfl];exact Z⟩
    have hcf:¬iq=true:=by rw[hb];decide
    rw[if_neg hcf,List.append_nil]at hst;refine f8 (j5 [2,7,3,0,5,6] [2,0,5] Z fun X7 Z=>?_);replace Z:=Z.keep [2,7,3,0,5,6] [2,0,5];have e:B.arith .add .i64 (i:Int) 1=((i+1:Nat):Int):=by subst O;exact k4 (n:=hn9) hin (by omega)
    refine⟨(i+1,A2,n2,c2,g2),⟨hin,by simp only;rw[hg2,hst],by dsimp only;omega⟩,by dsimp only;omega,by rw[<-e];exact Z⟩
   have hout:i=hn9:=by
    have:¬(i:Int)<(hn9:Int):=by subst O;simpa[std,d4]using hb
    omega
   rw[hout]at hg2 hle2;have hg3:f5 g2 n2=f5 g n1++kE J.rct z0 s0:=by
    rw[hg2,htd];congr 2
   have hxk:=qj (R:=J.rct) hx0.lab.1 hx0.lab.2;have hnk:=qi hx0.lab.1 hx0.lab.2;have O7:=vw s0.lab hx0.lab.1 hx0.lab.2;have hBd:kJ J.rct s0.lab=(gz s0.lab&&(T8 J.rct (cS s0.lab).toNat).2):=rfl;have hKd:jG J.rct s0.lab=((T8 J.rct (cS s0.lab).toNat).1:Nat):=rfl;simp only[i6]at O7;obtain⟨nk,hnk'⟩:=eqv (cS s0.lab);obtain⟨nb,hnb'⟩:=eqv (gz s0.lab);rw[<-hnk']at O7 hnk hBd hKd;rw[<-hnb']at O7 hBd;have O6:=qK hRJ nk hnk;obtain⟨q1,hq1⟩:=eqv (T8 J.rct nk.toNat);rw[<-hq1]at O6 hBd hKd;obtain⟨lw,lb⟩:=q1;dsimp only at O6 hBd hKd;obtain⟨lv,hlv9⟩:=eqv ((lw:Nat):Int);rw[<-hlv9]at O6 hKd;rw[hKd]at hxk;have hlv:=hxk;have O1:=O7;refine j9 (i9 [9,8,2,3,0,5] [2,0,5] [(2,.r fun _=>.tup [.int .u64 nk,.bool (.v nb)])] Z fun X10 Z=>?_);have O1:=O6;refine i9 [9,10,11,2,3,0,5] [2,0,5] [(6,.r fun _=>.tup [.int .u64 lv,.bool (.v lb)])] Z fun X11 Z=>?_
   refine a7 (a6 [77,2,10,0,5] [2,0,5] Z fun X12 Z=>?_);apply b7 Z rfl<;>intro hb Z
   .have hno:kJ J.rct s0.lab=false:=by
     have h9:(if(!nb)=true then true else !lb)=true:=by subst O;exact hb
     rw[hBd];cases nb<;>cases lb<;>first|rfl|(simp at h9)
    refine a7 ?_;refine f7 [0] [0] [(3,.x fun _=>⟨k7,[(0,G2 J E N0 ⟨4,⟨0,0⟩,0,zRA,⟨0,false,⟨#[]⟩,A2,n2,c2,g2,0,false⟩⟩ p0.note)],[]⟩)] Z (hob:=by intro X;subst O;simp only[i7,Ob.holds,BE.den]<;>and_intros<;>repeat first|trivial|rfl|exact C1.re (qd 0 b J E hE N0 ⟨0,⟨0,0⟩,0,zRA,gZ⟩ p0.note ⟨0,false,⟨#[]⟩,A2,n2,c2,g2,0,false⟩) ⟨zr,Sim.agg ⟨zr,Sim.ff,zr,Sim.recell (fun _ _=>rfl),zr,Sim.ff,trivial⟩,trivial⟩ rfl fun _=>⟨rfl,rfl,zr,rfl⟩|exact(fun _ _=>by kernel_rfl)|refine⟨?_,?_⟩|intro h|exact Int.le_refl _|decide|omega) fun X13 Z=>?_
    replace Z:=Z.memS rX;exact i8 ((rst O a8 Z (q:=p0) (wq:=(Z3 ⟨0,false,⟨#[]⟩,f5 g2 n2,0,false⟩)) (XR A2 c2) ((by rw[hrun0,cj,if_neg (by rw[hno];decide),hg3];rfl)) hN0 rfl).1)
   have hyes:kJ J.rct s0.lab=true:=by
    have h9:(if(!nb)=true then true else !lb)=false:=by subst O;exact hb
    rw[hBd];cases nb<;>cases lb<;>first|rfl|(simp at h9)
   have hrg:tot=((W8 J.bucket (J.budget-E.n) lv (m0+1) s0 p0).bind fun s p=>cj J.bucket (J.budget-E.n) J.rct m0 lv s (f5 g2 n2) p).bind Z4:=by
    rw[hrun0,cj,if_pos hyes,hKd,hg3]
   refine f8 (a6 [3,2,0,5] [2,0,5] Z fun X14 Z=>?_)
   rcases(Cc 0 b J hJ E hE N0 p0 hR0 hp0 hn0 s0 hx0 lv hlv (m0+1) hf0).two (iW _ _ _ _ _ _) hp0 hn0 hR0 with⟨s15,p15,N15,hm15,hs15,hp15,hn15,hR15,hN15,S15⟩|⟨wq15,p15,N15,W15,hm15,hs15,hN15,hW15,S15⟩
   .have hlt15:=uX hm15
    have hx15:=qW hlv hx0 hp0 hm15;have O1:=S15;refine f7 [2,3,0,5] [2,0,5] [(3,lc J E (G9 s15) N15 p15)] Z fun X15 Z=>?_
    replace Z:=Z.keep [2,3,0,5] [2,0,5];exact⟨(.go m0 p15 N15,lv,s15,A2,n2,c2,g2),⟨hrg.trans (by rw[hm15];rfl),hp15,hn15,hR15,(by have:=hf0;have:=hln0;have:=hlt15;omega),hx15,hlv,(by have:=hf0;have:=hln0;have:=hlt15;dsimp only;omega)⟩,by simp[lsM],Z⟩
   have O1:=S15;refine f7 [2,3,0,5] [2,0,5] [(3,sc J E (E7) N15 W15 p15.note)] Z fun X15 Z=>?_
   replace Z:=Z.keep [2,3,0,5] [2,0,5];exact⟨(.sp N15 (W15 (X15 3)) p15.note,lv,⟨u9,lD⟩,A2,n2,c2,g2),⟨(X15 3),wq15,p15,(by rw[hrg,hm15];rfl),hN15,(hW15 _),rfl⟩,by simp[lsM],Z⟩
  .exact (hJ:False).elim
  dsimp only[lsC,lsB]at hJ Z;obtain⟨Xq0,wq0,pp0,hsp0,hN0,hW0,ht0⟩:=hJ;subst ht0;refine a7 (a6 [28,2,3,0,5] [2,0,5] Z fun X3 Z=>?_);refine l4 Z rfl (fun Z=>?_);exact j9 ((rst O a8 Z (q:=pp0) (wq:=wq0) Xq0 (hsp0) hN0 hW0).2)
 have O1:=S2;refine f7 [2,3,0,5] [2,0,5] [(2,sc J E (E7) N2 W2 p2.note)] Z fun X2 Z=>?_
 replace Z:=Z.headS (v':=.sl (some 2) none 0 0 2 (fun t=>itC s7)) (zq0) rfl;refine j1 (l3 (ι:=LSt×Int×Spt×Option Addr×Nat×Nat×(Nat->Itm)) (fun q=>[(2,.sl (some 2) q.2.2.2.1 q.2.2.2.2.1 q.2.2.2.2.2.1 2 (fun t=>itC (q.2.2.2.2.2.2 t))),(3,.int .u64 q.2.1)]) (fun q=>[(0,⟨b,147,lsC J E q.1⟩),(5,⟨(X2 3).b,150,spL q.1 q.2.2.1⟩)]) (fun q=>[(2,⟨q.2.2.2.1,q.2.2.2.2.1,q.2.2.2.2.2.1,2,62⟩)]) (fun q=>match q.1 with| .go a r M=>tot=(cj J.bucket (J.budget-E.n) J.rct a q.2.1 q.2.2.1 (f5 q.2.2.2.2.2.2 q.2.2.2.2.1) r).bind Z4/\j3 r/\r.n<=1000000/\Rel E M r/\r.n<a/\aP q.2.2.1/\U64 q.2.1/\q.2.2.2.2.1+16*r.n<=16000000| .dn r M=>False| .sp M Q u=>∃(X:j8) (wq:Wq) (pp:Pst),tot = .stop wq pp/\M=E.n-pp.n/\Q=wqA X wq/\u=pp.note) (fun q=>lsM q.1) (.sp N2 (W2 (X2 2)) p2.note,z8,⟨u9,lD⟩,none,0,0,fun _=>s7) ⟨(X2 2),wq2,p2,(by rw[htq,hm2];rfl),hN2,(hW2 _),rfl⟩ Z ?_)
 rintro q hJ _ _ Z
 rcases q with⟨⟨nn0,p0,N0⟩|⟨p9,N9⟩|⟨N0,Q0,t0⟩,z0,s0,A1,n1,c1,g⟩
 .dsimp only[lsC,lsB]at hJ Z
  obtain⟨hrun0,hp0,hn0,hR0,hf0,hx0,hz0,hln0⟩:=hJ;obtain⟨m0,rfl⟩:∃n2,nn0=n2+1:=⟨nn0-1,by omega⟩
  have hN0:N0=E.n-p0.n:=by have:=hR0.n;omega
  have O9:=BR s0 hx0 z0 dw;have hfew:=hx0.ok.ra.few;have hlh:=mK s0 z0 dw;have hku:=fun i (h:i∈hasL s0 z0 dw)=>mL hx0 h
  have htd:kE J.rct z0 s0=(hasL s0 z0 dw).filter fun i=>dM J.rct i.key:=rfl
  have hfi:=bW (hasL s0 z0 dw);obtain⟨hl,hhl⟩:=eqv (hasL s0 z0 dw);rw[<-hhl]at O9 hlh hku htd hfi;obtain⟨hn9,hhn⟩:=eqv hl.length;obtain⟨hf9,hhf⟩:=eqv (itF hl);rw[<-hhn]at O9 hlh hfi;rw[<-hhf]at O9 hfi;have hkey:∀i,i<hn9->U64 (hf9 i).key:=fun i hi=>hku _ (by rw[<-hfi];exact List.mem_map.2 ⟨i,List.mem_range.2 hi,rfl⟩)
  refine a7 (a6 [28,2,3,0,5] [2,0,5] Z fun X3 Z=>?_);refine l7 Z rfl (fun Z=>?_);have O1:=O9;refine f8 (j1 (i9 [2,3,0,5,6] [2,0,5] [(2,.r fun x=>.sl none (x.A 0) hn9 (x.c 0) 2 (fun i=>itC (hf9 i)))] Z fun X4 Z=>?_));refine a7 (a6 [2,7,3,0,5,6] [2,0,5] Z fun X5 Z=>?_);refine j1 (l3 (ι:=Nat×Option Addr×Nat×Nat×(Nat->Itm)) (fun q=>[(2,.sl (some 2) q.2.1 q.2.2.1 q.2.2.2.1 2 (fun t=>itC (q.2.2.2.2 t))),(7,.int .i64 (q.1:Int))]) (fun q=>[]) (fun q=>[(2,⟨q.2.1,q.2.2.1,q.2.2.2.1,2,62⟩)]) (fun q=>q.1<=hn9/\f5 q.2.2.2.2 q.2.2.1=f5 g n1++((List.range q.1).map hf9).filter (fun x=>dM J.rct x.key)/\q.2.2.1<=n1+q.1) (fun q=>hn9-q.1) (0,A1,n1,c1,g) ⟨Nat.zero_le _,by simp,Nat.le_refl _⟩ Z ?_)
  rintro⟨i,A2,n2,c2,g2⟩ ⟨hi,hg2,hle2⟩ _ _ Z
  try dsimp only at hi
  try dsimp only at hg2
  try dsimp only at hle2
  refine a7 (a6 [35,2,7,3,0,5,6] [2,0,5] Z fun X6 Z=>?_);apply b7 Z rfl<;>intro hb Z
  .have hin:i<hn9:=by
    have:(i:Int)<(hn9:Int):=by subst O;simpa[std,d4]using hb
    omega
   have hik:=hkey i hin;have O8:=BQ hRJ (hf9 i).key hik;have hst:=qv J.rct hf9 i;obtain⟨iq,hiq⟩:=eqv (dM J.rct (hf9 i).key);rw[<-hiq]at O8 hst;refine f8 (a7 (j1 (a7 ?_)));refine drg O a8 [48,2,7,3,0,5,6] [2,0,5] [(10,.r fun _=>.bool (.v iq))] Z (hob:=by intro X;subst O;simp only[i7,Ob.holds,BE.den]<;>and_intros<;>repeat first|trivial|rfl|exact O8|exact(show(0:Int)<=(i:Int)by omega)|exact(show(i:Int)<(hn9:Int)by omega)|exact(fun _ _=>by kernel_rfl)|refine⟨?_,?_⟩|intro h|exact Int.le_refl _|decide|omega) fun X8 _ _ Z=>?_
   apply b7 Z rfl<;>intro hb Z
   .have hct:iq=true:=hb
    rw[if_pos hct]at hst;refine j5 [2,7,3,0,5,6] [2,0,5] Z (hob:=?hob) fun X9 Z=>?_
    case hob=>
     intro X;subst O
     repeat(first|exact trivial|refine⟨⟨rfl,rfl,rfl⟩,?_⟩|refine⟨(show(0:Int)<=(i:Int)/\(i:Int)<(hn9:Int)by omega),?_⟩|refine⟨rfl,?_⟩|refine⟨⟨show n2+1<=maxLen by omega,show(n2+1)*_<=_ by omega⟩,?_⟩)
    replace Z:=Z.headS (v':=.sl (some 2) ((X9 6).A 0) (B.nadd n2 1) ((X9 6).c 0) 2 (fun t=>itC (V3 g2 n2 (hf9 i) t))) (Sim.resl rfl (fun t ht=>by
     subst O;have ht2:t<n2+1:=ht
     show D3 n2 (fun t=>itC (g2 t)) (C9 2 [.int .u64 (hf9 i).key,.str (hf9 i).val]) t=_
     unfold D3 V3
     split
     .rw [if_neg (by omega)]
     have:t=n2:=by omega
     subst this;simp[C9,itC])) rfl
    refine j5 [2,7,3,0,5,6] [2,0,5] Z fun X7 Z=>?_
    replace Z:=Z.keep [2,7,3,0,5,6] [2,0,5];have e:B.arith .add .i64 (i:Int) 1=((i+1:Nat):Int):=by subst O;exact k4 (n:=hn9) hin (by omega)
    refine⟨(i+1,_,n2+1,_,V3 g2 n2 (hf9 i)),⟨hin,by simp only;rw[Q8,hg2,hst,List.append_assoc],by dsimp only;omega⟩,by dsimp only;omega,by rw[<-e,show n2+1=B.nadd n2 1 by subst O;rfl];exact Z⟩
   have hcf:¬iq=true:=by rw[hb];decide
   rw[if_neg hcf,List.append_nil]at hst;refine f8 (j5 [2,7,3,0,5,6] [2,0,5] Z fun X7 Z=>?_);replace Z:=Z.keep [2,7,3,0,5,6] [2,0,5];have e:B.arith .add .i64 (i:Int) 1=((i+1:Nat):Int):=by subst O;exact k4 (n:=hn9) hin (by omega)
   refine⟨(i+1,A2,n2,c2,g2),⟨hin,by simp only;rw[hg2,hst],by dsimp only;omega⟩,by dsimp only;omega,by rw[<-e];exact Z⟩
  have hout:i=hn9:=by
   have:¬(i:Int)<(hn9:Int):=by subst O;simpa[std,d4]using hb
   omega
  rw[hout]at hg2 hle2;have hg3:f5 g2 n2=f5 g n1++kE J.rct z0 s0:=by
   rw[hg2,htd];congr 2
  have hxk:=qj (R:=J.rct) hx0.lab.1 hx0.lab.2;have hnk:=qi hx0.lab.1 hx0.lab.2;have O7:=vw s0.lab hx0.lab.1 hx0.lab.2;have hBd:kJ J.rct s0.lab=(gz s0.lab&&(T8 J.rct (cS s0.lab).toNat).2):=rfl;have hKd:jG J.rct s0.lab=((T8 J.rct (cS s0.lab).toNat).1:Nat):=rfl;simp only[i6]at O7;obtain⟨nk,hnk'⟩:=eqv (cS s0.lab);obtain⟨nb,hnb'⟩:=eqv (gz s0.lab);rw[<-hnk']at O7 hnk hBd hKd;rw[<-hnb']at O7 hBd;have O6:=qK hRJ nk hnk;obtain⟨q1,hq1⟩:=eqv (T8 J.rct nk.toNat);rw[<-hq1]at O6 hBd hKd;obtain⟨lw,lb⟩:=q1;dsimp only at O6 hBd hKd;obtain⟨lv,hlv9⟩:=eqv ((lw:Nat):Int);rw[<-hlv9]at O6 hKd;rw[hKd]at hxk;have hlv:=hxk;have O1:=O7;refine j9 (i9 [9,8,2,3,0,5] [2,0,5] [(2,.r fun _=>.tup [.int .u64 nk,.bool (.v nb)])] Z fun X10 Z=>?_);have O1:=O6;refine i9 [9,10,11,2,3,0,5] [2,0,5] [(6,.r fun _=>.tup [.int .u64 lv,.bool (.v lb)])] Z fun X11 Z=>?_
  refine a7 (a6 [77,2,10,0,5] [2,0,5] Z fun X12 Z=>?_);apply b7 Z rfl<;>intro hb Z
  .have hno:kJ J.rct s0.lab=false:=by
    have h9:(if(!nb)=true then true else !lb)=true:=by subst O;exact hb
    rw[hBd];cases nb<;>cases lb<;>first|rfl|(simp at h9)
   refine a7 ?_;refine f7 [0] [0] [(3,.x fun _=>⟨k7,[(0,G2 J E N0 ⟨4,⟨0,0⟩,0,zRA,⟨0,false,⟨#[]⟩,A2,n2,c2,g2,0,false⟩⟩ p0.note)],[]⟩)] Z (hob:=by intro X;subst O;simp only[i7,Ob.holds,BE.den]<;>and_intros<;>repeat first|trivial|rfl|exact C1.re (qd 0 b J E hE N0 ⟨0,⟨0,0⟩,0,zRA,gZ⟩ p0.note ⟨0,false,⟨#[]⟩,A2,n2,c2,g2,0,false⟩) ⟨zr,Sim.agg ⟨zr,Sim.ff,zr,Sim.recell (fun _ _=>rfl),zr,Sim.ff,trivial⟩,trivial⟩ rfl fun _=>⟨rfl,rfl,zr,rfl⟩|exact(fun _ _=>by kernel_rfl)|refine⟨?_,?_⟩|intro h|exact Int.le_refl _|decide|omega) fun X13 Z=>?_
   replace Z:=Z.memS rX;exact i8 ((rst O a8 Z (q:=p0) (wq:=(Z3 ⟨0,false,⟨#[]⟩,f5 g2 n2,0,false⟩)) (XR A2 c2) ((by rw[hrun0,cj,if_neg (by rw[hno];decide),hg3];rfl)) hN0 rfl).1)
  have hyes:kJ J.rct s0.lab=true:=by
   have h9:(if(!nb)=true then true else !lb)=false:=by subst O;exact hb
   rw[hBd];cases nb<;>cases lb<;>first|rfl|(simp at h9)
  have hrg:tot=((W8 J.bucket (J.budget-E.n) lv (m0+1) s0 p0).bind fun s p=>cj J.bucket (J.budget-E.n) J.rct m0 lv s (f5 g2 n2) p).bind Z4:=by
   rw[hrun0,cj,if_pos hyes,hKd,hg3]
  refine f8 (a6 [3,2,0,5] [2,0,5] Z fun X14 Z=>?_)
  rcases(Cc 0 b J hJ E hE N0 p0 hR0 hp0 hn0 s0 hx0 lv hlv (m0+1) hf0).two (iW _ _ _ _ _ _) hp0 hn0 hR0 with⟨s15,p15,N15,hm15,hs15,hp15,hn15,hR15,hN15,S15⟩|⟨wq15,p15,N15,W15,hm15,hs15,hN15,hW15,S15⟩
  .have hlt15:=uX hm15
   have hx15:=qW hlv hx0 hp0 hm15;have O1:=S15;refine f7 [2,3,0,5] [2,0,5] [(3,lc J E (G9 s15) N15 p15)] Z fun X15 Z=>?_
   replace Z:=Z.keep [2,3,0,5] [2,0,5];exact⟨(.go m0 p15 N15,lv,s15,A2,n2,c2,g2),⟨hrg.trans (by rw[hm15];rfl),hp15,hn15,hR15,(by have:=hf0;have:=hln0;have:=hlt15;omega),hx15,hlv,(by have:=hf0;have:=hln0;have:=hlt15;dsimp only;omega)⟩,by simp[lsM],Z⟩
  have O1:=S15;refine f7 [2,3,0,5] [2,0,5] [(3,sc J E (E7) N15 W15 p15.note)] Z fun X15 Z=>?_
  replace Z:=Z.keep [2,3,0,5] [2,0,5];exact⟨(.sp N15 (W15 (X15 3)) p15.note,lv,⟨u9,lD⟩,A2,n2,c2,g2),⟨(X15 3),wq15,p15,(by rw[hrg,hm15];rfl),hN15,(hW15 _),rfl⟩,by simp[lsM],Z⟩
 .exact (hJ:False).elim
 dsimp only[lsC,lsB]at hJ Z;obtain⟨Xq0,wq0,pp0,hsp0,hN0,hW0,ht0⟩:=hJ;subst ht0;refine a7 (a6 [28,2,3,0,5] [2,0,5] Z fun X3 Z=>?_);refine l4 Z rfl (fun Z=>?_);exact j9 ((rst O a8 Z (q:=pp0) (wq:=wq0) Xq0 (hsp0) hN0 hW0).2)
theorem JL(k0 b:Nat)(J:j4)(hJ:l6 J)(E:s8)(hE:E.n<=1000000)(N:Nat)(p:Pst)(hR:Rel E N p)(hp:j3 p)(hn:p.n<=1000000)(hRJ:aW J)(hI:J.rct.Is)(hh:J.how=1 \/ J.how=2):B5 41 k0 b J E N p [] (fun _=>k7) (k7) (((aS J.bucket (J.budget-E.n) J.how J.rct p).bind Z4:Rs Unit)):=B5.re (Fe b J hJ E hE N p hR hp hn hRJ hI hh) (by repeat(first|exact trivial|refine⟨zr,?_⟩))
theorem Ff(b:Nat)(J:j4)(E:s8)(hE:E.n<=1000000)(N:Nat)(q:B0)(t:Nt)(hRJ:aW J):E8 41 0 b J E N q t [] (k7):=by
 intro m w hm hargs hpre;have S1:=qK hRJ 0 ⟨by decide,by decide⟩;obtain⟨q0,hq0⟩:=eqv (T8 J.rct (0:Int).toNat);rw[<-hq0]at S1;obtain⟨z9,f9⟩:=q0;dsimp only at S1;obtain⟨z8,hz8⟩:=eqv ((z9:Nat):Int);rw[<-hz8]at S1;refine enX 87 hm hpre hargs Tryz.func41 fun B O a0 Z=>?_
 refine a6 [0,2] [0,2,55] Z fun X0 Z=>?_
 have O1:=S1;refine i9 [0,2,3] [0,2,55] [(5,.r fun _=>.tup [.int .u64 z8,.bool (.v f9)])] Z fun X1 Z=>?_
 have O1:=JH 0 b J E hE N q t z8;refine i9 [2,3,0,5] [0,2,5,55] [(2,dc J E (E7) N q t)] Z fun X2 Z=>?_
 refine j1 (wp_loop_rounds 2 (F0 (a7 (a6 [28,0,2,3,5] [0,2,5,55] Z fun X3 Z=>?_))));refine l4 Z rfl (fun Z=>?_);exact j9 ((rdd O a8 Z).2)
theorem JM(k0 b:Nat)(J:j4)(E:s8)(hE:E.n<=1000000)(N:Nat)(q:B0)(t:Nt)(hRJ:aW J):E8 41 k0 b J E N q t [] (k7):=E8.re (Ff b J E hE N q t hRJ) (by repeat(first|exact trivial|refine⟨zr,?_⟩))
theorem JP(J:j4)(E:s8):C1 Tryz.prog 38 [Z6 J,ej E.A E.n E.c E.f] [] (fun x=>⟨.ptr 9 x.b 0,[],[(9,⟨x.b,147,U4 J E 0 nt0⟩)]⟩):=by
 intro m w hm hargs hpre;refine enX 10 hm hpre hargs Tryz.func38 fun B O a0 Z=>?_
 refine a6 [1,2] [2] Z fun X0 Z=>?_
 refine a6 [4] [9,9] Z fun X1 Z=>?_
 refine i8 ((rx O a8 Z (⟨(X1 4).b,fun _=>none,fun _=>0,fun _=>.empty⟩) [9] (he:=?_) (hn:=?_)).1)
 .subst O;exact Sim.ptr
 exact⟨⟨_,rfl,by subst O;exact⟨zr,zr,zr,zr,zr,zr,zr,zr,zr,zr,zr,zr,zr,zr,zr,zr,zr,zr,zr,zr,zr,zr,zr,zr,zr,zr,zr,zr,zr,zr,zr,zr,zr,zr,Sim.ff,zr,zr,zr,zr,trivial⟩⟩,(by intro e he;cases he),(by simp),trivial⟩
theorem Dm(b:Nat)(J:j4)(E:s8)(N:Nat)(Q:B0)(t:Nt)(h:N<E.n):C1 Tryz.prog 42 [.ptr 0 b 0] [(0,⟨b,147,G2 J E N Q t⟩)] (fun _=>⟨.tup [.agg [.int .i64 0,.int .i64 0,.int .u64 0,.int .u64 0,.int .i64 0,.sl none none 0 0 2 (fun _=>[]),.int .i64 0,.int .u64 0,.int .u64 0,.int .i64 0,.bool .ff,.str ⟨#[]⟩,.sl none none 0 0 2 (fun _=>[]),.int .u64 0,.bool .ff],.int .i64 5],[(0,G2 J E N Q t)],[]⟩):=by
 intro m w hm hargs hpre;refine enX 19 hm hpre hargs Tryz.func42 fun B O a0 Z=>?_
 refine a6 [0,2] [0,2] Z fun X0 Z=>?_
 refine a7 (a7 (drg O a8 [13,0,2] [0,2] [] Z fun X1 _ _ Z=>?_));apply b7 Z rfl<;>intro hb Z
 .skip
  refine a6 [2,3] [0,2] Z fun X2 Z=>?_
  exact i8 ((rx O a8 Z C5 []).1)
 exfalso
 have h9:¬N<E.n:=by
  have:¬(N:Int)<(E.n:Int):=by subst O;simpa[std,d4]using hb
  omega
 exact h9 h
theorem zw(k0:Nat)(b:Nat)(J:j4)(E:s8)(N:Nat)(Q:B0)(t:Nt)(h:N<E.n):C1 Tryz.prog 42 [.ptr k0 b 0] [(k0,⟨b,147,G2 J E N Q t⟩)] (fun _=>⟨.tup [.agg [.int .i64 0,.int .i64 0,.int .u64 0,.int .u64 0,.int .i64 0,.sl none none 0 0 2 (fun _=>[]),.int .i64 0,.int .u64 0,.int .u64 0,.int .i64 0,.bool .ff,.str ⟨#[]⟩,.sl none none 0 0 2 (fun _=>[]),.int .u64 0,.bool .ff],.int .i64 5],[(k0,G2 J E N Q t)],[]⟩):=
 (Dm b J E N Q t h).re (by repeat(first|exact trivial|refine⟨Sim.ptr,?_⟩|refine⟨Sim.fn ⟨Sim.ptr,trivial⟩ trivial,?_⟩|refine⟨Sim.fn trivial ⟨Sim.ptr,trivial⟩,?_⟩|refine⟨zr,?_⟩)) rfl (fun x=>⟨rfl,rfl,zr,rfl⟩)
theorem Dn(b:Nat)(J:j4)(E:s8)(N:Nat)(Q:B0)(t:Nt)(h:¬N<E.n):C1 Tryz.prog 42 [.ptr 0 b 0] [(0,⟨b,147,G2 J E N Q t⟩)] (fun _=>⟨.tup [E5 Q,.int .i64 0],[(0,G2 J E N Q t)],[]⟩):=by
 intro m w hm hargs hpre;refine enX 19 hm hpre hargs Tryz.func42 fun B O a0 Z=>?_
 refine a6 [0,2] [0,2] Z fun X0 Z=>?_
 refine a7 (a7 (drg O a8 [13,0,2] [0,2] [] Z fun X1 _ _ Z=>?_));apply b7 Z rfl<;>intro hb Z
 .exfalso
  have h9:N<E.n:=by
   have:(N:Int)<(E.n:Int):=by subst O;simpa[std,d4]using hb
   omega
  exact h h9
 skip
 refine f8 (a6 [2,3] [0,2] Z fun X3 Z=>?_);exact i8 ((rx O a8 Z C5 []).1)
theorem zy(k0:Nat)(b:Nat)(J:j4)(E:s8)(N:Nat)(Q:B0)(t:Nt)(h:¬N<E.n):C1 Tryz.prog 42 [.ptr k0 b 0] [(k0,⟨b,147,G2 J E N Q t⟩)] (fun _=>⟨.tup [E5 Q,.int .i64 0],[(k0,G2 J E N Q t)],[]⟩):=
 (Dn b J E N Q t h).re (by repeat(first|exact trivial|refine⟨Sim.ptr,?_⟩|refine⟨Sim.fn ⟨Sim.ptr,trivial⟩ trivial,?_⟩|refine⟨Sim.fn trivial ⟨Sim.ptr,trivial⟩,?_⟩|refine⟨zr,?_⟩)) rfl (fun x=>⟨rfl,rfl,zr,rfl⟩)
theorem JK(J:j4)(hJ:eu J)(hRJ:aW J)(E:s8)(hEn:E.n<=900000)(hin:∀j,j<E.n->InG (E.f j)):k9 Tryz.prog 13 [Z6 J,ej E.A E.n E.c E.f] (fun x=>.tup [E5 (wqA x (I4 J E.n E.f).1),.int .i64 (I4 J E.n E.f).2]):=by
 intro m w hm hargs;have S1:=Mo J hJ.lab E.A E.n E.c E.f hin;obtain⟨rt,hrt⟩:=eqv ((J9 E.n E.f&&F8 J));rw[<-hrt]at S1;have SN:=JP J E;have SI:=qk J.rct;rw[Ad hRJ]at SI;obtain⟨ri,hri⟩:=eqv (decide J.rct.Is);rw[<-hri]at SI;refine en 38 hm hargs Tryz.func13 fun B O a0 Z=>?_
 refine a6 [1,2,4] [6,2,4] Z fun X0 Z=>?_
 have O1:=S1;refine a7 (i9 [17,1,2,4] [6,2,4] [(2,.r fun _=>.bool (.v rt))] Z fun X1 Z=>?_);apply b7 Z rfl<;>intro hb Z
 .have hf:(F8 J&&(decide (J.kind=12))&&J9 E.n E.f)=false:=by
   have h9:(if(!rt)=true then true else(J.kind != 12))=true:=by subst O;exact hb
   cases hr:rt
   .rw [hr]at hrt;cases h1:J9 E.n E.f<;>cases h2:F8 J<;>simp[h1,h2]at hrt ⊢
   rw[hr]at h9;by_cases k12:J.kind=12<;>simp[k12]at h9 ⊢
  refine a6 [4,5] [6,4] Z fun X2 Z=>?_
  refine i8 ((rsi O a8 Z (⟨0,fun _=>none,fun _=>0,fun _=>.empty⟩) (he:=?_)));subst O;have ht9:I4 J E.n E.f=(zWq,1):=by unfold I4;rw[hf];rfl
  rw[ht9];exact Sim.tup ⟨Sim.agg ⟨zr,zr,zr,zr,zr,zq0,zr,zr,zr,zr,zr,zr,zq0,zr,zr,trivial⟩,zr,trivial⟩
 have hf:(F8 J&&(decide (J.kind=12))&&J9 E.n E.f)=true:=by
  have h9:(if(!rt)=true then true else(J.kind != 12))=false:=by subst O;exact hb
  cases hr:rt
  .rw [hr]at h9;cases h9
  rw[hr]at h9 hrt;cases h1:J9 E.n E.f<;>cases h2:F8 J<;>simp[h1,h2]at hrt ⊢
  by_cases k12:J.kind=12<;>simp[k12]at h9 ⊢
 have hjb:F8 J=true:=by
  simp only[Bool.and_eq_true]at hf;exact hf.1.1
 have hag:J9 E.n E.f=true:=by
  simp only[Bool.and_eq_true]at hf;exact hf.2
 have hkd:J.kind=12:=by
  simp only[Bool.and_eq_true,Bool.or_eq_true,decide_eq_true_eq]at hf;exact hf.1.2
 have hJ1:l6 J:=by
  have:=uu (n:=0) hJ hjb (by omega);have e:J.less 0=J:=by unfold j4.less;simp
  rwa[e]at this
 have hE:E.n<=1000000:=by omega
 obtain⟨p0,hp0e⟩:=eqv (nM E.n E.f);have hp0:j3 p0:=by rw[hp0e];exact tX hin hag
 have hn0:p0.n<=1000000:=by rw[hp0e];show E.n<=_;omega
 have hR0:Rel E 0 p0:=by rw[hp0e];exact⟨rfl,fun j=>by show E.f j=E.f (0+j);rw[Nat.zero_add]⟩
 have hnt0:p0.note=nt0:=by rw[hp0e];rfl
 have hN0:0=E.n-p0.n:=by rw[hp0e];show 0=E.n-E.n;omega
 have hpE:p0.n=E.n:=by rw[hp0e];rfl
 have htot:I4 J E.n E.f=J1 (((aS J.bucket (J.budget-E.n) J.how J.rct p0).bind Z4:Rs Rsl)):=by unfold I4;rw[hf,<-hp0e,xp];rfl
 refine f8 (a7 ?_);refine f7 [6,2,4] [6,2,4] [(2,.x fun x=>⟨.ptr 6 x.b 0,[],[(6,⟨x.b,147,U4 J E 0 nt0⟩)]⟩)] Z (hob:=by intro X;subst O;simp only[i7,Ob.holds,BE.den]<;>and_intros<;>repeat first|trivial|rfl|exact C1.re SN (zl) rfl fun _=>⟨rfl,rfl,Sim.ptr,rfl⟩|exact(fun _ _=>by kernel_rfl)|refine⟨?_,?_⟩|intro h|exact Int.le_refl _|decide|omega) fun X3 Z=>?_
 replace Z:=Z.memS (cells':=U4 J E 0 p0.note) (by rw[hnt0];exact zl);have O1:=SI;refine a7 (i9 [25,6,2,4] [6,2,4] [(2,.r fun _=>.bool (.v ri))] Z fun X4 Z=>?_);apply b7 Z rfl<;>intro hb Z
 .have hnI:¬J.rct.Is:=by
   have h9:ri=false:=by subst O;revert hb;cases ri<;>simp[std]
   exact of_decide_eq_false (hri.symm.trans h9)
  refine f7 [6,4] [6,4] [(2,.x fun _=>⟨k7,[(6,G2 J E 0 (wqA X00 (Z3 ⟨5,false,⟨#[]⟩,[],0,false⟩)) p0.note)],[]⟩)] Z (hob:=by intro X;subst O;simp only[i7,Ob.holds,BE.den]<;>and_intros<;>repeat first|trivial|rfl|exact C1.re (Nu 6 (X3 2).b J E hE 0 ⟨0,⟨0,0⟩,0,zRA,gZ⟩ p0.note 5 false ⟨#[]⟩) ⟨zr,Sim.agg ⟨zr,Sim.ff,zr,zr,zr,zr,trivial⟩,trivial⟩ rfl fun _=>⟨rfl,rfl,zr,rfl⟩|exact(fun _ _=>by kernel_rfl)|refine⟨?_,?_⟩|intro h|exact Int.le_refl _|decide|omega) fun X5 Z=>?_
  have O1:=JM 6 (X3 2).b J E hE 0 (wqA X00 (Z3 ⟨5,false,⟨#[]⟩,[],0,false⟩)) p0.note hRJ;refine i9 [6,4] [6,4] [(1,.x fun _=>⟨k7,[(6,G2 J E 0 (wqA X00 (Z3 ⟨5,false,⟨#[]⟩,[],0,false⟩)) p0.note)],[]⟩)] Z fun X6 Z=>?_
  refine a7 ?_
  rcases Bool.eq_false_or_eq_true (decide (0<E.n))with hlt|hlt
  .have O1:=zw 6 (X3 2).b J E 0 (wqA X00 (Z3 ⟨5,false,⟨#[]⟩,[],0,false⟩)) p0.note (of_decide_eq_true hlt)
   refine f7 [4,7,8] [6,4,7] [(1,.x fun _=>⟨.tup [.agg [.int .i64 0,.int .i64 0,.int .u64 0,.int .u64 0,.int .i64 0,.sl none none 0 0 2 (fun _=>[]),.int .i64 0,.int .u64 0,.int .u64 0,.int .i64 0,.bool .ff,.str ⟨#[]⟩,.sl none none 0 0 2 (fun _=>[]),.int .u64 0,.bool .ff],.int .i64 5],[(6,G2 J E 0 (wqA X00 (Z3 ⟨5,false,⟨#[]⟩,[],0,false⟩)) p0.note)],[]⟩)] Z fun X7 Z=>?_
   have hr9:((aS J.bucket (J.budget-E.n) J.how J.rct p0).bind Z4:Rs Rsl) = .stop (Z3 ⟨5,false,⟨#[]⟩,[],0,false⟩) p0:=(by unfold aS;rw[if_neg hnI];rfl);have ht9:I4 J E.n E.f=(zWq,5):=by
    have h9:=of_decide_eq_true hlt;rw[htot,hr9];unfold J1;simp only;rw[if_pos (by have:=hN0;skip;omega)]
   refine a6 [4,5] [6,4] Z fun X8 Z=>?_
   refine i8 ((rsi O a8 Z (⟨0,fun _=>none,fun _=>0,fun _=>.empty⟩) (he:=?_)));subst O;rw[ht9];exact Sim.tup ⟨Sim.agg ⟨zr,zr,zr,zr,zr,zq0,zr,zr,zr,zr,zr,zr,zq0,zr,zr,trivial⟩,zr,trivial⟩
  have O1:=zy 6 (X3 2).b J E 0 (wqA X00 (Z3 ⟨5,false,⟨#[]⟩,[],0,false⟩)) p0.note (of_decide_eq_false hlt);refine f7 [4,7,8] [6,4,7] [(1,.x fun _=>⟨.tup [E5 (wqA X00 (Z3 ⟨5,false,⟨#[]⟩,[],0,false⟩)),.int .i64 0],[(6,G2 J E 0 (wqA X00 (Z3 ⟨5,false,⟨#[]⟩,[],0,false⟩)) p0.note)],[]⟩)] Z fun X7 Z=>?_
  have hr9:((aS J.bucket (J.budget-E.n) J.how J.rct p0).bind Z4:Rs Rsl) = .stop (Z3 ⟨5,false,⟨#[]⟩,[],0,false⟩) p0:=(by unfold aS;rw[if_neg hnI];rfl);have ht9:I4 J E.n E.f=((Z3 ⟨5,false,⟨#[]⟩,[],0,false⟩),0):=by
   have h9:=of_decide_eq_false hlt;rw[htot,hr9];unfold J1;simp only;rw[if_neg (by have:=hN0;skip;omega)]
  refine a6 [4,5] [6,4] Z fun X8 Z=>?_
  refine i8 ((rsi O a8 Z (X00) (he:=?_)));subst O;rw[ht9,<-(rfl:wqA X00 (Z3 ⟨5,false,⟨#[]⟩,[],0,false⟩)=wqA X00 (Z3 ⟨5,false,⟨#[]⟩,[],0,false⟩))];exact zr
 have hI:J.rct.Is:=by
  have h9:ri=true:=by subst O;revert hb;cases ri<;>simp[std]
  exact of_decide_eq_true (hri.symm.trans h9)
 obtain⟨wq6,p6,N6,W6,hm6,hs6,hN6,hW6,S6⟩:=BO (JL 6 (X3 2).b J hJ1 E hE 0 p0 hR0 hp0 hn0 hRJ hI (wd hjb)) (EU _ _ _ _ _) hp0 hn0 hR0;have O1:=S6;refine f8 (i9 [6,4] [6,4] [(1,.x fun x=>⟨k7,[(6,G2 J E N6 (W6 x) p6.note)],[]⟩)] Z fun X6 Z=>?_);refine a7 ?_
 rcases Bool.eq_false_or_eq_true (decide (N6<E.n))with hlt|hlt
 .have O1:=zw 6 (X3 2).b J E N6 (W6 (X6 1)) p6.note (of_decide_eq_true hlt)
  refine f7 [4,7,8] [6,4,7] [(1,.x fun _=>⟨.tup [.agg [.int .i64 0,.int .i64 0,.int .u64 0,.int .u64 0,.int .i64 0,.sl none none 0 0 2 (fun _=>[]),.int .i64 0,.int .u64 0,.int .u64 0,.int .i64 0,.bool .ff,.str ⟨#[]⟩,.sl none none 0 0 2 (fun _=>[]),.int .u64 0,.bool .ff],.int .i64 5],[(6,G2 J E N6 (W6 (X6 1)) p6.note)],[]⟩)] Z fun X7 Z=>?_
  have hr9:((aS J.bucket (J.budget-E.n) J.how J.rct p0).bind Z4:Rs Rsl) = .stop wq6 p6:=(BN hm6);have ht9:I4 J E.n E.f=(zWq,5):=by
   have h9:=of_decide_eq_true hlt;rw[htot,hr9];unfold J1;simp only;rw[if_pos (by have:=hN6;have:=hs6.le;omega)]
  refine a6 [4,5] [6,4] Z fun X8 Z=>?_
  refine i8 ((rsi O a8 Z (⟨0,fun _=>none,fun _=>0,fun _=>.empty⟩) (he:=?_)));subst O;rw[ht9];exact Sim.tup ⟨Sim.agg ⟨zr,zr,zr,zr,zr,zq0,zr,zr,zr,zr,zr,zr,zq0,zr,zr,trivial⟩,zr,trivial⟩
 have O1:=zy 6 (X3 2).b J E N6 (W6 (X6 1)) p6.note (of_decide_eq_false hlt);refine f7 [4,7,8] [6,4,7] [(1,.x fun _=>⟨.tup [E5 (W6 (X6 1)),.int .i64 0],[(6,G2 J E N6 (W6 (X6 1)) p6.note)],[]⟩)] Z fun X7 Z=>?_
 have hr9:((aS J.bucket (J.budget-E.n) J.how J.rct p0).bind Z4:Rs Rsl) = .stop wq6 p6:=(BN hm6);have ht9:I4 J E.n E.f=(wq6,0):=by
  have h9:=of_decide_eq_false hlt;rw[htot,hr9];unfold J1;simp only;rw[if_neg (by have:=hN6;have:=hs6.le;omega)]
 refine a6 [4,5] [6,4] Z fun X8 Z=>?_
 refine i8 ((rsi O a8 Z ((X6 1)) (he:=?_)));subst O;rw[ht9,<-(hW6 _)];exact zr
theorem wT{n:Nat}{f:Nat->D4}(h:(if n<=300 then tq n f else true)=false):n<=300/\∀i,i<n->(f i).x.r.n<=40:=by
 by_cases hn:n<=300
 .rw [if_pos hn]at h
  refine⟨hn,fun i hi=>?_⟩;unfold tq at h;simp only[Bool.or_eq_false_iff]at h;exact CA (va h.1.2 i hi)
 rw[if_neg hn]at h;cases h
theorem AF{n:Nat}{f:Nat->D4}(hb:n<=300/\∀i,i<n->(f i).x.r.n<=40)(hwf:∀i,i<n->u0 (f i).lab/\U64 (f i).x.r.nx.bits)(hu:∀l,u0 l->U64 l.bits):∀i,i<n->(f i).x.r.n<=1000000/\u0 (f i).lab/\U64 (f i).lab.bits/\U64 (f i).x.r.nx.bits:=fun i hi=>⟨by have:=hb.2 i hi;omega,(hwf i hi).1,hu _ (hwf i hi).1,(hwf i hi).2⟩
theorem qq(l:Lab)(h:u0 l):U64 l.bits:=by
 have:=h.2;simp[Lit.wf,IntKind.min,IntKind.max,IntKind.signed,IntKind.bits]at this;exact⟨by omega,by omega⟩
theorem zN{n:Nat}{f:Nat->D4}(hr:∀i,i<n->u0 (f i).lab/\U64 (f i).ver/\U64 (f i).x.r.nx.bits/\∀t,t<(f i).x.r.n->U64 ((f i).x.r.f t).key):∀r∈J8 f n,RwG r:=by
 intro r hr';obtain⟨i,hi,rfl⟩:=List.mem_map.1 hr';obtain⟨h1,h2,h3,h4⟩:=hr i (List.mem_range.1 hi);refine⟨h1,h2,h3,fun x hx=>?_⟩;obtain⟨t,ht,rfl⟩:=List.mem_map.1 hx;exact h4 t (List.mem_range.1 ht)
theorem kK(A:Option Addr)(n c:Nat)(f:Nat->D4)(hn:n<=maxLen)(hrw:∀i,i<n->u0 (f i).lab/\U64 (f i).ver/\U64 (f i).x.r.nx.bits/\∀t,t<(f i).x.r.n->U64 ((f i).x.r.f t).key)(J:j4)(hJ:eu J)(hRJ:aW J)(A2:Option Addr)(n2 c2:Nat)(f2:Nat->B0)(hn2:n2<=maxLen)(hw2:∀i,i<n2->(f2 i).x.r.n<=maxLen/\u0 (f2 i).lab/\U64 (f2 i).x.r.nx.bits/\∀t,t<(f2 i).x.r.n->U64 ((f2 i).x.r.f t).key)(hnew:dF (J8 f n)=none):k9 Tryz.prog 4 [cP A n c f,Z6 J,.sl none A2 n2 c2 15 (fun i=>ce (f2 i))] (fun _=>.bool .tt):=by
 intro m w hm hargs;have hmx:maxLen=9223372036854775807:=rfl;have hwf:∀i,i<n->u0 (f i).lab/\U64 (f i).x.r.nx.bits:=fun i hi=>⟨(hrw i hi).1,(hrw i hi).2.2.1⟩
 have S1:=Cz A n c f hn;obtain⟨bl,hbl⟩:=eqv (if n<=300 then tq n f else true);rw[<-hbl]at S1;refine en 97 hm hargs Tryz.func4 fun B O a0 Z=>?_
 refine a6 [0,2,4] [4] Z fun X0 Z=>?_
 have O1:=S1;refine a7 (i9 [29,0,2,4] [4] [(1,.r fun _=>.bool (.v bl))] Z fun X1 Z=>?_);apply b7 Z rfl<;>intro hb Z
 .refine a6 [6] [] Z fun X2 Z=>?_
  refine z7 Z ?_;subst O;exact Sim.bool rfl
 have hb0:bl=false:=by
  have h9:(if(if bl=true then true else decide ((20:Int)<(n2:Int)))=true then true else decide ((600:Int)<(J.pn:Int)))=false:=by subst O;exact hb
  revert h9;cases bl<;>simp
 have hb1:=wT (hbl ▸ hb0);have hN:=AF hb1 hwf qq;refine f8 (a7 (wp_region_lit (lpr 0 1 O a8 [31,4] [4] [] Z fun X3_0 _ _ Z=>?_)));have SN:=IJ A n c f hn hN hnew;refine I8 rfl rfl rfl rfl Z rfl rfl ne SN (fun _ _ _=>trivial) (fun b hb=>by cases hb) (zl) (by intro e he;cases he) rfl rfl (fun y=>noK) (fun _ _ _ _ _ _ _ _ _ _=>trivial) ?_;intro y _ _ Z;refine lnd 2 O a8 [2,4,7,8] [4] [] Z fun X3 _ _ Z=>?_
 refine a7 (a6 [36,2,4,7,8] [4] Z fun X4 Z=>?_);refine l7 Z rfl (fun Z=>?_);have O1:=cR;refine i9 [6] [] [(0,.r fun _=>.bool .tt)] Z fun X5 Z=>?_
 refine z7 Z ?_;subst O;refine Sim.bool ?_;simp[std,d4,BE.den,fT]
theorem jI(A:Option Addr)(n c:Nat)(f:Nat->D4)(hn:n<=maxLen)(hrw:∀i,i<n->u0 (f i).lab/\U64 (f i).ver/\U64 (f i).x.r.nx.bits/\∀t,t<(f i).x.r.n->U64 ((f i).x.r.f t).key)(J:j4)(hJ:eu J)(hRJ:aW J)(A2:Option Addr)(n2 c2:Nat)(f2:Nat->B0)(hn2:n2<=maxLen)(hw2:∀i,i<n2->(f2 i).x.r.n<=maxLen/\u0 (f2 i).lab/\U64 (f2 i).x.r.nx.bits/\∀t,t<(f2 i).x.r.n->U64 ((f2 i).x.r.f t).key){L:Shf}(hnew:dF (J8 f n)=some L):k9 Tryz.prog 4 [cP A n c f,Z6 J,.sl none A2 n2 c2 15 (fun i=>ce (f2 i))] (fun _=>.bool .tt):=by
 intro m w hm hargs;have hmx:maxLen=9223372036854775807:=rfl;have hwf:∀i,i<n->u0 (f i).lab/\U64 (f i).x.r.nx.bits:=fun i hi=>⟨(hrw i hi).1,(hrw i hi).2.2.1⟩
 have S1:=Cz A n c f hn;obtain⟨bl,hbl⟩:=eqv (if n<=300 then tq n f else true);rw[<-hbl]at S1;refine en 97 hm hargs Tryz.func4 fun B O a0 Z=>?_
 refine a6 [0,2,4] [4] Z fun X0 Z=>?_
 have O1:=S1;refine a7 (i9 [29,0,2,4] [4] [(1,.r fun _=>.bool (.v bl))] Z fun X1 Z=>?_);apply b7 Z rfl<;>intro hb Z
 .refine a6 [6] [] Z fun X2 Z=>?_
  refine z7 Z ?_;subst O;exact Sim.bool rfl
 have hb0:bl=false:=by
  have h9:(if(if bl=true then true else decide ((20:Int)<(n2:Int)))=true then true else decide ((600:Int)<(J.pn:Int)))=false:=by subst O;exact hb
  revert h9;cases bl<;>simp
 have hb1:=wT (hbl ▸ hb0);have hN:=AF hb1 hwf qq;refine f8 (a7 (wp_region_lit (lpr 0 1 O a8 [31,4,2] [4] [] Z fun X3_0 _ _ Z=>?_)));have SN:=vK A n c f hn hN 14 hnew;have hg0:fU L:=om (zN hrw) hnew;refine I8 rfl rfl rfl rfl Z rfl rfl ne (SN) (fun _ _ _=>trivial) (fun b hb=>by cases hb) (zl) (by intro e he;cases he) rfl rfl (fun y=>shF w.heap.size (y.c 0) L) (fun n x m w m' w' hn _ _ h=>⟨Nat.le_trans hn h.1,h.2⟩) ?_;intro y _ _ Z;obtain⟨sb,hsb⟩:=eqv (y.b);obtain⟨bM,hbM⟩:=eqv (y.c 0);rw[<-hsb,<-hbM]at Z;have hbfr:w.heap.size<=bM:=Z.kept.1;replace Z:=Z.withK (K':=shK bM L) Z.kept.2;refine lnd 2 O a8 [2,4,7,8] [14,4] [] Z fun X3 _ _ Z=>?_
 refine a7 (a6 [36,2,4,7,8] [14,4] Z fun X4 Z=>?_);refine l4 Z rfl (fun Z=>?_);refine f8 (a6 [2,4,7,9] [14,4,9] Z fun X6 Z=>?_);refine a7 (a6 [9,10,2,4,7] [14,4,9] Z fun X7 Z=>?_);replace Z:=Z.headS (v':=.sl (some 9) none 0 0 8 (fun t=>V2 lD)) (zq0) rfl;refine j1 (fF (ι:=Nat×(Nat->s9)×Option Addr×Nat×Shf×Int) (fun p=>shK bM p.2.2.2.2.1) (fun p=>[(9,.sl (some 9) p.2.2.1 p.1 p.2.2.2.1 8 (fun t=>V2 (p.2.1 t))),(10,.int .i64 (p.1:Int))]) (fun p=>[(14,⟨sb,95,[.raw (.map (some bM)),.int .i64 p.2.2.2.2.2]⟩)]) (fun p=>[(9,⟨p.2.2.1,p.1,p.2.2.2.1,8,53⟩)]) (fun p=>p.1<=50/\fU p.2.2.2.2.1/\∀j,j<p.1->InG (p.2.1 j)) (fun p=>50-p.1) (0,fun _=>lD,none,0,L,0) ⟨Nat.zero_le _,hg0,fun j hj=>absurd hj (Nat.not_lt_zero _)⟩ Z ?_)
 rintro⟨i,fz,A1,c1,Lc,kc⟩ ⟨hi,hg,hal⟩ _ _ Z
 try dsimp only at hi
 try dsimp only at hg
 try dsimp only at hal
 replace Z:=Z.withK (K':=shK bM Lc) Z.kept;have hwo:=(vB (J:=J)).ok i fz hal;obtain⟨W9,hW9⟩:=eqv ((I4 J i fz).1);obtain⟨E9,hE9⟩:=eqv ((I4 J i fz).2);obtain⟨rr9,hrr9⟩:=eqv (W9.r.rn);obtain⟨nn9,hnn9⟩:=eqv (W9.res.items.length);obtain⟨ff9,hff9⟩:=eqv (itF W9.res.items);have T9:=k9.wq (ma J hJ hRJ A1 i c1 fz (by omega) hal) hW9 hE9 hrr9 hnn9 hff9;rw[<-hW9]at hwo;have U10:k9 Tryz.prog 13 [Z6 J,.sl none A1 i c1 8 (fun t=>V2 (fz t))] (fun x=>.tup [E5 (wqB x W9 rr9 nn9 ff9),.int .i64 E9]):=k9.wq (JK J hJ hRJ ⟨A1,i,c1,fz⟩ (by show i<=_;omega) hal) hW9 hE9 hrr9 hnn9 hff9
 have SS9:k9 Tryz.prog 12 [Z6 J,.sl (some 9) A1 i c1 8 (fun t=>V2 (fz t))] (fun x=>.tup [E5 (wqB x W9 rr9 nn9 ff9),.int .i64 E9]):=T9.sim ⟨zr,Sim.recell (fun _ _=>rfl),trivial⟩;have SS10:k9 Tryz.prog 13 [Z6 J,.sl (some 9) A1 i c1 8 (fun t=>V2 (fz t))] (fun x=>.tup [E5 (wqB x W9 rr9 nn9 ff9),.int .i64 E9]):=U10.sim ⟨zr,Sim.recell (fun _ _=>rfl),trivial⟩;refine a7 (a6 [43,2,4,7,9,10] [14,4,9] Z fun X8 Z=>?_);apply b7 Z rfl<;>intro hb Z
 .have h60:i<50:=by
   have:(i:Int)<50:=by subst O;simpa[std,d4]using hb
   omega
  have O1:=SS9;refine f8 (a7 (j1 (i9 [2,4,7,9,10,11,12] [14,4,9,11] [(2,.r fun x=>.tup [.agg [.int .i64 W9.kind,.int .i64 W9.lab.len,.int .u64 W9.lab.bits,.int .u64 W9.ver,.int .i64 rr9.kd,.sl none (x.A 1) rr9.n (x.c 1) 2 (fun i=>itC (rr9.f i)),.int .i64 rr9.nx.len,.int .u64 rr9.nx.bits,.int .u64 rr9.mrk,.int .i64 W9.res.code,.bool (.v W9.res.had),.str W9.res.val,.sl none (x.A 2) nn9 (x.c 2) 2 (fun i=>itC (ff9 i)),.int .u64 W9.res.key,.bool (.v W9.res.more)],.int .i64 E9])] Z fun X10 Z=>?_)));have O1:=SS10;refine i9 [2,4,7,9,10,11,12,13,14] [14,4,9,11,13] [(2,.r fun x=>.tup [.agg [.int .i64 W9.kind,.int .i64 W9.lab.len,.int .u64 W9.lab.bits,.int .u64 W9.ver,.int .i64 rr9.kd,.sl none (x.A 1) rr9.n (x.c 1) 2 (fun i=>itC (rr9.f i)),.int .i64 rr9.nx.len,.int .u64 rr9.nx.bits,.int .u64 rr9.mrk,.int .i64 W9.res.code,.bool (.v W9.res.had),.str W9.res.val,.sl none (x.A 2) nn9 (x.c 2) 2 (fun i=>itC (ff9 i)),.int .u64 W9.res.key,.bool (.v W9.res.more)],.int .i64 E9])] Z fun X11 Z=>?_
  have O1:=DB (X10 2) (X11 2) W9 rr9 nn9 ff9;refine a7 (i9 [66,2,4,7,9,10,11,12] [14,4,9,11] [(2,.r fun _=>.bool .tt)] Z fun X12 Z=>?_);apply b7 Z rfl<;>intro hb Z
  .exfalso
   subst O;simp[std,d4,BE.den]at hb
  skip
  refine f8 (a7 (a6 [73,2,4,7,9,10,11] [14,4,9,11] Z fun X14 Z=>?_));apply b7 Z rfl<;>intro hb Z
  .skip
   have O1:=cR;refine j9 (i9 [6] [] [(0,.r fun _=>.bool .tt)] Z fun X20 Z=>?_);refine z7 Z ?_;subst O;refine Sim.bool ?_;simp[std,d4,BE.den,fT]
  skip
  refine f8 (a7 (a6 [77,2,4,7,9,10,11] [14,4,9,11] Z fun X15 Z=>?_));apply b7 Z rfl<;>intro hb Z
  .have hin:i<n2:=by
    have:(i:Int)<(n2:Int):=by subst O;simpa[std,d4]using hb
    omega
   refine wp_region_lit ?_;refine lpr 0 5 O a8 [78,82,9,10,2,4,7,11] [14,4,9,11] [] Z (hob:=by intro X;subst O;simp only[i7,Ob.holds,BE.den]<;>and_intros<;>repeat first|trivial|rfl|exact(show(0:Int)<=(i:Int)by omega)|exact(show(i:Int)<(n2:Int)by omega)|exact(fun _ _=>by kernel_rfl)|refine⟨?_,?_⟩|intro h|exact Int.le_refl _|decide|omega) fun X16_0 _ _ Z=>?_
   have hqe:(f2 (B.toNat (i:Int)))=f2 i:=by subst O;rw[show std.toNat (i:Int)=i from Int.toNat_natCast i]
   obtain⟨hq1,hq2,hq3,hq4⟩:=hw2 i hin;have hq5:=qq _ hq2;rw[<-hqe]at hq1 hq2 hq3 hq4 hq5;have SD:=Fg 14 sb bM Lc (by have:=hg.ok.len;omega) kc (f2 (B.toNat (i:Int))) hq1 hq2 hq5 hq3;obtain⟨D1,hD1⟩:=eqv (doL Lc (B0.abs (f2 (B.toNat (i:Int)))));rw[<-hD1]at SD;obtain⟨GG1,hGG1⟩:∃G:j8->s9,G=fun y=>cY y D1.got:=⟨_,rfl⟩
   have hGf1:∀y,cY y D1.got=GG1 y:=fun y=>by rw[hGG1]
   simp only[hGf1]at SD;obtain⟨k1,hk1⟩:=eqv ((if D1.wrote then IntKind.i64.wrap (kc+1)else kc));rw[<-hk1]at SD;obtain⟨er1,her1⟩:=eqv (D1.err);rw[<-her1]at SD;obtain⟨L1,hL1⟩:=eqv (D1.L);rw[<-hL1]at SD;refine I8 rfl rfl rfl rfl Z rfl rfl jb SD (fun _ _ h=>h) (fun b hb=>by cases hb;exact fun h=>absurd h (Nat.not_lt.2 hbfr)) ⟨zr,Sim.agg (by repeat(first|exact trivial|refine⟨zr,?_⟩|refine⟨Sim.ff,?_⟩|refine⟨zq0,?_⟩)),trivial⟩ (by intro e he;simp only[List.mem_singleton]at he;subst he;rfl) rfl rfl (fun _=>shK bM L1) (fun _ _ _ _ _ _ _ _ _ h=>h) ?_;intro y _ _ Z;obtain⟨g1,hg1⟩:=eqv (GG1 y);rw[<-hg1]at Z;replace Z:=Z.withK (K':=shK bM L1) Z.kept;have hga1:g1.abs=D1.got:=by rw[hg1,<-hGf1,iQ]
   have hg1:fU L1:=by
    rw[hL1,hD1];refine(jg hg ⟨hq2,hq3,fun x hx=>?_⟩).1;obtain⟨t,ht,rfl⟩:=List.mem_map.1 hx;exact hq4 t (List.mem_range.1 ht)
   refine wpList_nil (a7 (wp_region_lit (lpr 0 2 O a8 [85,86,9,10,2,4,7] [14,4,9] [] Z fun X17_0 _ _ Z=>?_)));have SD:=Fg 14 sb bM L1 (by have:=hg1.ok.len;omega) k1 (wqB (X10 2) W9 rr9 nn9 ff9) (by show rr9.n<=_;rw[hrr9];have:=hwo.r.few;show W9.r.items.length<=_;omega) hwo.lab.wf hwo.lab.u (by show U64 rr9.nx.bits;rw[hrr9];exact hwo.r.nx)
   obtain⟨D2,hD2⟩:=eqv (doL L1 (B0.abs (wqB (X10 2) W9 rr9 nn9 ff9)));rw[<-hD2]at SD;obtain⟨GG2,hGG2⟩:∃G:j8->s9,G=fun y=>cY y D2.got:=⟨_,rfl⟩
   have hGf2:∀y,cY y D2.got=GG2 y:=fun y=>by rw[hGG2]
   simp only[hGf2]at SD;obtain⟨k2,hk2⟩:=eqv ((if D2.wrote then IntKind.i64.wrap (k1+1)else k1));rw[<-hk2]at SD;obtain⟨er2,her2⟩:=eqv (D2.err);rw[<-her2]at SD;obtain⟨L2,hL2⟩:=eqv (D2.L);rw[<-hL2]at SD;refine I8 rfl rfl rfl rfl Z rfl rfl jb SD (fun _ _ h=>h) (fun b hb=>by cases hb;exact fun h=>absurd h (Nat.not_lt.2 hbfr)) ⟨zr,Sim.agg (by repeat(first|exact trivial|refine⟨zr,?_⟩|refine⟨Sim.ff,?_⟩|refine⟨zq0,?_⟩)),trivial⟩ (by intro e he;simp only[List.mem_singleton]at he;subst he;rfl) rfl rfl (fun _=>shK bM L2) (fun _ _ _ _ _ _ _ _ _ h=>h) ?_;intro y _ _ Z;obtain⟨g2,hg2⟩:=eqv (GG2 y);rw[<-hg2]at Z;replace Z:=Z.withK (K':=shK bM L2) Z.kept;have hga2:g2.abs=D2.got:=by rw[hg2,<-hGf2,iQ]
   have hgd:fU D2.L/\U64 D2.got.ver/\aa D2.got.r:=by
    rw[hD2];have hra:rr9.abs=W9.r:=by rw[hrr9,aQ]
    refine jg hg1 ⟨hwo.lab.wf,?_,?_⟩
    .show U64 rr9.abs.next.bits
     rw[hra];exact hwo.r.nx
    show ∀x∈rr9.abs.items,U64 x.key
    rw[hra];exact hwo.r.key
   have hgi:InG g2:=uD hga2 hgd.2.1 hgd.2.2;have hg2:fU L2:=by rw[hL2];exact hgd.1
   refine lnd 3 O a8 [2,4,7,9,10,15,16] [14,4,9,15] [] Z fun X17 _ _ Z=>?_
   refine a7 (a6 [91,2,4,7,9,10,15] [14,4,9,15] Z fun X18 Z=>?_);apply b7 Z rfl<;>intro hb Z
   .skip
    have O1:=cR;refine j9 (i9 [6] [] [(0,.r fun _=>.bool .tt)] Z fun X20 Z=>?_);refine z7 Z ?_;subst O;refine Sim.bool ?_;simp[std,d4,BE.den,fT]
   skip
   refine f8 ?_;have O4:i+1<=maxLen:=by omega
   have O5:(i+1)*80<=140737488355328:=by omega
   refine j5 [9,10,2,4,7] [14,4,9] Z fun X19 Z=>?_
   replace Z:=Z.headS (v':=.sl (some 9) ((X19 3).A 0) (B.nadd i 1) ((X19 3).c 0) 8 (fun t=>V2 (if t=i then g2 else fz t))) (Sim.resl rfl (fun t ht=>by
    subst O;have ht2:t<i+1:=ht
    show D3 i (fun t=>V2 (fz t)) (C9 8 (V2 g2)) t=_
    unfold D3
    split
    .rw [if_neg (by omega)]
    have:t=i:=by omega
    subst this;rw[if_pos rfl];simp[C9])) rfl
   refine j5 [9,10,2,4,7] [14,4,9] Z fun X9 Z=>?_
   have e:B.arith .add .i64 (i:Int) 1=((i+1:Nat):Int):=by subst O;exact k4 (n:=2000) (by omega) (by omega)
   refine⟨(i+1,fun t=>if t=i then g2 else fz t,_,_,L2,k2),⟨by simp only;omega,hg2,fun j hj=>?_⟩,by simp only;omega,by rw[<-e,show i+1=B.nadd i 1 by subst O;rfl];exact Z⟩
   by_cases hji:j=i
   .simp only[if_pos hji];exact hgi
   simp only[if_neg hji];exact hal j (by have h9:j<i+1:=hj;omega)
  skip
  refine f8 (a7 (wp_region_lit (lpr 0 2 O a8 [85,86,9,10,2,4,7] [14,4,9] [] Z fun X17_0 _ _ Z=>?_)));have SD:=Fg 14 sb bM Lc (by have:=hg.ok.len;omega) kc (wqB (X10 2) W9 rr9 nn9 ff9) (by show rr9.n<=_;rw[hrr9];have:=hwo.r.few;show W9.r.items.length<=_;omega) hwo.lab.wf hwo.lab.u (by show U64 rr9.nx.bits;rw[hrr9];exact hwo.r.nx)
  obtain⟨D2,hD2⟩:=eqv (doL Lc (B0.abs (wqB (X10 2) W9 rr9 nn9 ff9)));rw[<-hD2]at SD;obtain⟨GG2,hGG2⟩:∃G:j8->s9,G=fun y=>cY y D2.got:=⟨_,rfl⟩
  have hGf2:∀y,cY y D2.got=GG2 y:=fun y=>by rw[hGG2]
  simp only[hGf2]at SD;obtain⟨k2,hk2⟩:=eqv ((if D2.wrote then IntKind.i64.wrap (kc+1)else kc));rw[<-hk2]at SD;obtain⟨er2,her2⟩:=eqv (D2.err);rw[<-her2]at SD;obtain⟨L2,hL2⟩:=eqv (D2.L);rw[<-hL2]at SD;refine I8 rfl rfl rfl rfl Z rfl rfl jb SD (fun _ _ h=>h) (fun b hb=>by cases hb;exact fun h=>absurd h (Nat.not_lt.2 hbfr)) ⟨zr,Sim.agg (by repeat(first|exact trivial|refine⟨zr,?_⟩|refine⟨Sim.ff,?_⟩|refine⟨zq0,?_⟩)),trivial⟩ (by intro e he;simp only[List.mem_singleton]at he;subst he;rfl) rfl rfl (fun _=>shK bM L2) (fun _ _ _ _ _ _ _ _ _ h=>h) ?_;intro y _ _ Z;obtain⟨g2,hg2⟩:=eqv (GG2 y);rw[<-hg2]at Z;replace Z:=Z.withK (K':=shK bM L2) Z.kept;have hga2:g2.abs=D2.got:=by rw[hg2,<-hGf2,iQ]
  have hgd:fU D2.L/\U64 D2.got.ver/\aa D2.got.r:=by
   rw[hD2];have hra:rr9.abs=W9.r:=by rw[hrr9,aQ]
   refine jg hg ⟨hwo.lab.wf,?_,?_⟩
   .show U64 rr9.abs.next.bits
    rw[hra];exact hwo.r.nx
   show ∀x∈rr9.abs.items,U64 x.key
   rw[hra];exact hwo.r.key
  have hgi:InG g2:=uD hga2 hgd.2.1 hgd.2.2;have hg2:fU L2:=by rw[hL2];exact hgd.1
  refine lnd 3 O a8 [2,4,7,9,10,15,16] [14,4,9,15] [] Z fun X17 _ _ Z=>?_
  refine a7 (a6 [91,2,4,7,9,10,15] [14,4,9,15] Z fun X18 Z=>?_);apply b7 Z rfl<;>intro hb Z
  .skip
   have O1:=cR;refine j9 (i9 [6] [] [(0,.r fun _=>.bool .tt)] Z fun X20 Z=>?_);refine z7 Z ?_;subst O;refine Sim.bool ?_;simp[std,d4,BE.den,fT]
  skip
  refine f8 ?_;have O4:i+1<=maxLen:=by omega
  have O5:(i+1)*80<=140737488355328:=by omega
  refine j5 [9,10,2,4,7] [14,4,9] Z fun X19 Z=>?_
  replace Z:=Z.headS (v':=.sl (some 9) ((X19 3).A 0) (B.nadd i 1) ((X19 3).c 0) 8 (fun t=>V2 (if t=i then g2 else fz t))) (Sim.resl rfl (fun t ht=>by
   subst O;have ht2:t<i+1:=ht
   show D3 i (fun t=>V2 (fz t)) (C9 8 (V2 g2)) t=_
   unfold D3
   split
   .rw [if_neg (by omega)]
   have:t=i:=by omega
   subst this;rw[if_pos rfl];simp[C9])) rfl
  refine j5 [9,10,2,4,7] [14,4,9] Z fun X9 Z=>?_
  have e:B.arith .add .i64 (i:Int) 1=((i+1:Nat):Int):=by subst O;exact k4 (n:=2000) (by omega) (by omega)
  refine⟨(i+1,fun t=>if t=i then g2 else fz t,_,_,L2,k2),⟨by simp only;omega,hg2,fun j hj=>?_⟩,by simp only;omega,by rw[<-e,show i+1=B.nadd i 1 by subst O;rfl];exact Z⟩
  by_cases hji:j=i
  .simp only[if_pos hji];exact hgi
  simp only[if_neg hji];exact hal j (by have h9:j<i+1:=hj;omega)
 skip
 have O1:=cR;refine j9 (i9 [6] [] [(0,.r fun _=>.bool .tt)] Z fun X20 Z=>?_);refine z7 Z ?_;subst O;refine Sim.bool ?_;simp[std,d4,BE.den,fT]
end Go.Proofs.YtmbkanpapkhnaaaGreat.Sym
namespace Go.Proofs.YtmbkanpapkhnaaaGreat
open Go Go.RowKit
theorem nK(W:World)(v0 v1 v2:Value)(i0:Sym.HH W v0)(i1:Sym.CT W v1)(i2:Sym.CQ W v2):Calls Tryz.prog 4 #[v0,v1,v2] W fun e w'=>e = .returned (.bool true)/\Below W.heap.size W w':=by
 obtain⟨A,n,c,f,rfl,h0,hn,hf⟩:=i0;obtain⟨J,rfl,h1,hJ,hRJ⟩:=i1;obtain⟨A2,n2,c2,f2,rfl,h2,hn2,hf2⟩:=i2;have hrw:∀i,i<n->Sym.u0 (f i).lab/\U64 (f i).ver/\U64 (f i).x.r.nx.bits/\∀t,t<(f i).x.r.n->U64 ((f i).x.r.f t).key:=fun i hi=>by
  obtain⟨_,_,a,b,c,d⟩:=hf i hi;exact⟨a,c,b.u64,d⟩
 have hw2:∀i,i<n2->(f2 i).x.r.n<=maxLen/\Sym.u0 (f2 i).lab/\U64 (f2 i).x.r.nx.bits/\∀t,t<(f2 i).x.r.n->U64 ((f2 i).x.r.f t).key:=fun i hi=>by
  obtain⟨_,a,b,c,d⟩:=hf2 i hi;exact⟨a,b,c.u64,d⟩
 have S:Sym.k9 Tryz.prog 4 [Sym.cP A n c f,Sym.Z6 J,Sym.zv A2 n2 c2 f2] (fun _=>.bool .tt):=by
  cases hnew:dF (Sym.J8 f n)with
  |none=>exact Sym.kK A n c f hn hrw J hJ hRJ A2 n2 c2 f2 hn2 hw2 hnew
  |some L=>exact Sym.jI A n c f hn hrw J hJ hRJ A2 n2 c2 f2 hn2 hw2 hnew
 refine(S (fun _ _=>False) W (fun _ _ h=>h.elim) (fun v hv=>?_)).mono ?_
 .simp only[List.mem_cons,List.not_mem_nil,or_false]at hv
  rcases hv with rfl|rfl|rfl
  .exact h0
  .exact h1
  exact h2
 rintro e w' ⟨x,rfl,_,hb⟩
 exact⟨rfl,hb⟩
end Go.Proofs.YtmbkanpapkhnaaaGreat
