/-
  PlRectT, SymHas, PlMorO, SymMor, SymMor2, PlMorG, SymMor3, SymMor4, SymSpn, SymRng, SymRng2, SymRng3, SymInl, SymInl2, SymInl3, SymPan, SymKid, SymRct, SymRc1, SymLm, SymTr1, CmpOrd, SortOrd, PlTrie2, SymTr4, SymRun30N, SymSet: put together by a program of mine (a claim may have 60 files at most). Conditions: none.
-/
import Derived.Test.YtmbkanpapkhnaaaGreatMgS5
import Derived.RangeFuncLeaves
import Derived.RangeFuncCalls
import Derived.OrdersIn
set_option linter.unusedVariables false
set_option linter.unusedSimpArgs false
set_option maxRecDepth 100000
set_option maxHeartbeats 1600000
namespace Go.Proofs.YtmbkanpapkhnaaaGreat.Sym
open Go Go.RowKit
def lZ(bk:Int)(R:B8):Nat->Int->Spt->List Itm->Tr Rsl
 |0,_,_,_=>.dead
 |n+1,z,s,o=>
   if kJ R s.lab=true then(yY bk (jG R s.lab) (n+1) s).bind fun s'=>lZ bk R n (jG R s.lab) s' (o++kE R z s)
   else .ret ⟨0,false,⟨#[]⟩,o++kE R z s,0,false⟩
def tU(bk how:Int)(R:B8)(n:Nat):Tr Rsl:=
 if R.Is then(Dy bk how ((T8 R 0).1:Nat) n).bind fun s=>lZ bk R n ((T8 R 0).1:Nat) s []
 else .ret ⟨5,false,⟨#[]⟩,[],0,false⟩
theorem rM{k bk:Int}{R:B8}:∀n z s o p,(lZ bk R n z s o).run k p=cj bk k R n z s o p
 |0,z,s,o,p=>rfl
 |n+1,z,s,o,p=>ri (rb (DJ _ _ _) fun _ _=>rM n _ _ _ _) rfl
theorem DF{k bk how:Int}{R:B8}(p:Pst):(tU bk how R (p.n+1)).run k p=aS bk k how R p:=ri (rb (DE _ _ _) fun _ _=>rM _ _ _ _ _) rfl
theorem Ae{bk:Int}{R:B8}{n:Nat}{z:Int}{s:Spt}{o:List Itm}:lZ bk R (n+1) z s o=if kJ R s.lab=true then(yY bk (jG R s.lab) (n+1) s).bind fun s'=>lZ bk R n (jG R s.lab) s' (o++kE R z s)else .ret ⟨0,false,⟨#[]⟩,o++kE R z s,0,false⟩:=rfl
theorem CH{bk:Int}{R:B8}{d n n':Nat}(z:Int)(s:Spt)(o:List Itm)(h:d<=n)(h':d<=n'):App d (lZ bk R n z s o) (lZ bk R n' z s o):=by
 induction d generalizing n n' z s o with
 |zero=>exact .zero
 |succ d ih=>
  obtain⟨n,rfl⟩:∃m,n=m+1:=⟨n-1,by omega⟩
  obtain⟨n',rfl⟩:∃m,n'=m+1:=⟨n'-1,by omega⟩
  rw[Ae,Ae]
  generalize jG R s.lab=K
  generalize o++kE R z s=o2
  refine s5 (CI h h' fun s'=>?_) (.ret _);exact ih K s' o2 (by omega) (by omega)
theorem Gi{bk how:Int}{R:B8}{d n n':Nat}(h:d<=n)(h':d<=n'):App d (tU bk how R n) (tU bk how R n'):=s5 ((Gh _ h h').bind fun s=>CH _ _ _ h h') (.ret _)
section
variable {X:Nt->Prop} {bk:Int} {R:B8} {M:Nat}
end
theorem DW{J:j4}(hj:F8 J=true)(hk:J.kind=12):TrN (I4 J) J.budget (tU J.bucket J.how J.rct)where
 nxt:=fun n f hg=>by
  unfold I4 fX;rw[if_pos (by simp[hj,hk,hg]),<-DF];rfl
 app:=fun h h'=>Gi h h'
def Cp(v a b:Int):Int:=if a<(if b<v then b else v)then(if b<v then b else v)else a
theorem Co{v a b:Int}(h:a<=b):(Cp v a b==v)=(decide (a<=v)&&decide (v<=b)):=by
 unfold Cp;rw[Bool.eq_iff_iff,beq_iff_eq,Bool.and_eq_true,decide_eq_true_eq,decide_eq_true_eq]
 split<;>split at *<;>omega
theorem lx(l:Lab)(a b:Int)(f:Nat->Itm)(i:Nat):(f5 f (i+1)).filter (gL l a b)=(f5 f i).filter (gL l a b)++(if gL l a b (f i)=true then [f i]else []):=by
 unfold f5;rw[List.range_succ,List.map_append,List.filter_append]
 congr 1
 by_cases h:gL l a b (f i)=true<;>simp[h]
theorem Mt(v a b:Int):k9 Tryz.prog 148 [.int .u64 v,.int .u64 a,.int .u64 b] (fun _=>.int .u64 (Cp v a b)):=by
 intro m w hm hargs;refine en 12 hm hargs Tryz.func148 fun B O a0 Z=>?_
 refine a6 [0,1,2] [] Z fun X0 Z=>?_
 refine a6 [6] [] Z fun X1 Z=>?_
 refine z7 Z ?_;subst O;exact Sim.of_int (by unfold Cp;show(if decide (a<(if decide (b<v)=true then b else v))=true then(if decide (b<v)=true then b else v)else a)=_;simp only[decide_eq_true_eq])
theorem Mf(s:Spt)(hs:aP s)(a b:Int)(hab:a<=b):k9 Tryz.prog 90 [G9 s,.int .u64 a,.int .u64 b] (fun x=>.sl none (x.A 0) (hasL s a b).length (x.c 0) 2 (fun i=>itC (itF (hasL s a b) i))):=by
 intro m w hm hargs;have hmx:maxLen=9223372036854775807:=rfl;have hfw:=hs.ok.ra.few;have hkk:=hs.ok.ra.key;have hlu:=hs.lab.2;obtain⟨lb,gg⟩:=s;obtain⟨gc,gv,gh,gx⟩:=gg;obtain⟨xA,xc,xr⟩:=gx;obtain⟨n,f,kd,nx,mk⟩:=xr;dsimp only at hfw hkk hlu;unfold hasL;dsimp only;refine en 40 hm hargs Tryz.func90 fun B O a0 Z=>?_
 refine a6 [1,2,3] [3] Z fun X0 Z=>?_
 refine a6 [7,3,1,2] [7,3] Z fun X1 Z=>?_
 refine a7 (a6 [7,15,3,1,2,13,14] [7,3] Z fun X2 Z=>?_);replace Z:=Z.headS (v':=.sl (some 7) none 0 0 2 (fun t=>itC s7)) (zq0) rfl;refine j1 (l3 (ι:=Nat×Nat×(Nat->Itm)×Option Addr×Nat) (fun p=>[(7,.sl (some 7) p.2.2.2.1 p.2.1 p.2.2.2.2 2 (fun t=>itC (p.2.2.1 t))),(15,.int .i64 (p.1:Int))]) (fun p=>[]) (fun p=>[(7,⟨p.2.2.2.1,p.2.1,p.2.2.2.2,2,62⟩)]) (fun p=>p.1<=n/\p.2.1<=p.1/\f5 p.2.2.1 p.2.1=(f5 f p.1).filter (gL lb a b)) (fun p=>n-p.1) (0,0,fun _=>s7,none,0) ⟨Nat.zero_le _,Nat.le_refl _,rfl⟩ Z ?_)
 rintro⟨i,q,g,A1,c1⟩ ⟨hi,hq,hg⟩ _ _ Z
 try dsimp only at hi
 try dsimp only at hq
 try dsimp only at hg
 refine a6 [16,7,15,3,1,2,13,14] [7,3] Z fun X3 Z=>?_
 refine a7 (b7 Z rfl (fun hb Z=>?_) (fun hb Z=>?_))
 .have hin:i<n:=by
   have:(i:Int)<(n:Int):=by subst O;simpa[std,d4]using hb
   omega
  have SK:=Mt (f i).key a b;have SC:=wN lb hlu (f i).key (hkk i hin);simp only[i6]at SC;obtain⟨cq,hcq⟩:=eqv (z6 lb (f i).key);rw[<-hcq]at SC;obtain⟨cl,hcl⟩:=eqv (Cp (f i).key a b);rw[<-hcl]at SK;refine f8 (a7 (j1 (a7 ?_)));have O4:(0:Int)<=(i:Int):=by omega
  have O5:(i:Int)<(n:Int):=by omega
  refine j5 [9,7,15,3,1,2,13,14] [9,7,3] Z fun X4 Z=>?_
  replace Z:=Z.memS (cells':=itC (f i)) (by subst O;exact zl);have O1:=SK;have O2:=SC;refine a7 (drg O a8 [33,9,7,15,3,1,2,13,14] [9,7,3] [(4,.r fun _=>.int .u64 cl),(13,.r fun _=>.bool (.v cq))] Z fun X5 _ _ Z=>?_);apply b7 Z rfl<;>intro hb Z
  .have hct:gL lb a b (f i)=true:=by
    have h9:(if(cl==(f i).key)=true then cq else false)=true:=by subst O;exact hb
    rw[hcl,Co hab,hcq]at h9;unfold gL;rw[<-h9];cases(decide (a<=(f i).key)&&decide ((f i).key<=b))<;>rfl
   refine j5 [7,15,3,1,2,13,14] [7,3] Z (hob:=?hob) fun X6 Z=>?_
   case hob=>
    intro X;subst O
    repeat(first|exact trivial|refine⟨⟨rfl,rfl,rfl⟩,?_⟩|refine⟨rfl,?_⟩|refine⟨⟨show q+1<=maxLen by omega,show(q+1)*_<=_ by omega⟩,?_⟩)
   replace Z:=Z.headS (v':=.sl (some 7) ((X6 3).A 0) (B.nadd q 1) ((X6 3).c 0) 2 (fun t=>itC (V3 g q (f i) t))) (Sim.resl rfl (fun t ht=>by
    subst O;have ht2:t<q+1:=ht
    show D3 q (fun t=>itC (g t)) (C9 2 [.int .u64 (f i).key,.str (f i).val]) t=_
    unfold D3 V3
    split
    .rw [if_neg (by omega)]
    have:t=q:=by omega
    subst this;simp[C9,itC])) rfl
   refine j5 [7,15,3,1,2,13,14] [7,3] Z fun X7 Z=>?_
   have e:B.arith .add .i64 (i:Int) 1=((i+1:Nat):Int):=by subst O;exact k4 (n:=n) hin (by omega)
   refine⟨(i+1,q+1,V3 g q (f i),_,_),⟨by simp only;omega,by simp only;omega,?_⟩,by simp only;omega,by rw[<-e,show q+1=B.nadd q 1 by subst O;rfl];exact Z⟩
   simp only;rw[Q8,hg,lx,if_pos hct]
  have hcf:gL lb a b (f i)=false:=by
   have h9:(if(cl==(f i).key)=true then cq else false)=false:=by subst O;exact hb
   rw[hcl,Co hab,hcq]at h9;unfold gL;rw[<-h9];cases(decide (a<=(f i).key)&&decide ((f i).key<=b))<;>rfl
  refine f8 (j5 [7,15,3,1,2,13,14] [7,3] Z fun X7 Z=>?_);have e:B.arith .add .i64 (i:Int) 1=((i+1:Nat):Int):=by subst O;exact k4 (n:=n) hin (by omega)
  refine⟨(i+1,q,g,_,_),⟨by simp only;omega,by simp only;omega,?_⟩,by simp only;omega,by rw[<-e];exact Z⟩;simp only;rw[hg,lx,if_neg (by rw[hcf];decide),List.append_nil]
 have hout:i=n:=by
  have:¬(i:Int)<(n:Int):=by subst O;simpa[std,d4]using hb
  omega
 rw[hout]at hg;refine j9 (a6 [6] [7] Z fun X8 Z=>?_);refine i8 ((rsi O a8 Z (⟨0,fun _=>A1,fun _=>c1,fun _=>⟨#[]⟩⟩) (he:=?_)));subst O;exact Sim.resl (by rw[<-hg,j2]) (fun t ht=>by rw[<-hg,j2]at ht;rw[<-hg,u6 _ _ t ht])
theorem KD(b:Nat)(J:j4)(hJ:l6 J)(A:Option Addr)(c:Nat)(p:Pst)(hp:j3 p)(hn:p.n<=1000000)(s:Spt)(hs:aP s)(key:Int)(hk:U64 key)(n:Nat)(hf:p.n<n):B3 147 0 b J A c p [G9 s,.int .u64 key] (G9) (W8 J.bucket J.budget key n s p):=by
 intro m w hm hargs hpre;have SC:=wN s.g.x.r.nx hs.ok.ra.nx key hk;simp only[i6]at SC;obtain⟨cv,hcv⟩:=eqv (z6 s.g.x.r.nx key);rw[<-hcv]at SC;refine enX 28 hm hpre hargs Tryz.func147 fun B O a0 Z=>?_
 refine a6 [0,2,4,6] [0,4,6] Z fun X0 Z=>?_
 refine a7 (a6 [0,2,6,7] [0,6,7] Z fun X1 Z=>?_);have O1:=SC;refine i9 [15,0,2,6,7] [0,6,7] [(2,.r fun _=>.bool (.v cv))] Z fun X2 Z=>?_
 apply b7 Z rfl<;>intro hb Z
 .have tc:z6 s.g.x.r.nx key=true:=by rw[<-hcv];exact hb
  refine a7 ?_
  rcases(aH 0 b J hJ A c p hp hn s.g.x.r.nx).two (k8 _ _ _) hp hn with⟨w3,p3,hm3,O1⟩|⟨g3,p3,hm3,hs3,hp3,hn3,S3⟩
  .refine stp 2 O a8 [16,17] [0] [] Z O1 fun _ _ _ _ Z hk=>?_
   exact thm (P:=Tryz.prog) (fn:=Tryz.f147) (q:=p3) Z hk (by simp[W8,Rs.bind,tc,hm3])
  have hl3:=B7 hm3;have hg3:=hp.get hm3;have O1:=S3;refine f7 [0,2,6,7,8] [0,6,7,8] [(2,rc J (B2 g3) p3)] Z fun X3 Z=>?_
  obtain⟨q4,hq4⟩:=eqv (gk g3 1);refine a7 ?_;refine f7 [21,0,2,6,7,8] [0,6,7,8,20] [(2,.r fun _=>.bool (.v q4))] Z (hob:=by intro X;subst O;simp only[i7,Ob.holds,BE.den]<;>and_intros<;>repeat first|trivial|rfl|exact(by rw[hq4];exact I2 g3 _ _ 1 _ rfl)|exact by rw[hq4];exact I2 g3 _ _ 1 _ rfl|exact(fun _ _=>by kernel_rfl)|refine⟨?_,?_⟩|intro h|exact Int.le_refl _|decide|omega) fun X4 Z=>?_
  apply b7 Z rfl<;>intro hb Z
  .have tq4:gk g3 1=true:=by rw[<-hq4];exact hb
   refine a6 [6] [0,6] Z fun X5 Z=>?_
   exact i8 ((rmm O a8 Z (v:=(⟨s.g.x.r.nx,g3⟩:Spt)) (q:=p3) ((X3 2).A 0) ((X3 2).c 0) (by simp[W8,Rs.bind,tc,hm3,tq4])).1)
  have tq4:gk g3 1=false:=by rw[<-hq4];exact hb
  refine f8 (a7 ?_)
  rcases(vU 0 b J hJ ((X3 2).A 0) ((X3 2).c 0) p3 hp3 hn3 key hk n (by have:=hl3;omega)).two (D5 _ _ _ _ _ _) hp3 hn3 with⟨w6,p6,hm6,O1⟩|⟨s6,p6,hm6,hs6,hp6,hn6,S6⟩
  .refine stp 2 O a8 [25,26] [0] [] Z O1 fun _ _ _ _ Z hk=>?_
   exact thm (P:=Tryz.prog) (fn:=Tryz.f147) (q:=p6) Z hk (by simp[W8,Rs.bind,tc,hm3,tq4,hm6])
  have O1:=S6;refine f7 [6] [0,6] [(2,rc J (G9 s6) p6)] Z fun X6 Z=>?_
  exact i8 ((rmm O a8 Z (v:=s6) (q:=p6) ((X6 2).A 0) ((X6 2).c 0) (by simp[W8,Rs.bind,tc,hm3,tq4,hm6])).1)
 have tc:z6 s.g.x.r.nx key=false:=by rw[<-hcv];exact hb
 refine f8 (a7 ?_)
 rcases(vU 0 b J hJ A c p hp hn key hk n (by skip;omega)).two (D5 _ _ _ _ _ _) hp hn with⟨w6,p6,hm6,O1⟩|⟨s6,p6,hm6,hs6,hp6,hn6,S6⟩
 .refine stp 2 O a8 [25,26] [0] [] Z O1 fun _ _ _ _ Z hk=>?_
  exact thm (P:=Tryz.prog) (fn:=Tryz.f147) (q:=p6) Z hk (by simp[W8,Rs.bind,tc,hm6])
 have O1:=S6;refine f7 [6] [0,6] [(2,rc J (G9 s6) p6)] Z fun X6 Z=>?_
 exact i8 ((rmm O a8 Z (v:=s6) (q:=p6) ((X6 2).A 0) ((X6 2).c 0) (by simp[W8,Rs.bind,tc,hm6])).1)
theorem MC(k0 b:Nat)(J:j4)(hJ:l6 J)(A:Option Addr)(c:Nat)(p:Pst)(hp:j3 p)(hn:p.n<=1000000)(s:Spt)(hs:aP s)(key:Int)(hk:U64 key)(n:Nat)(hf:p.n<n):B3 147 k0 b J A c p [G9 s,.int .u64 key] (G9) (W8 J.bucket J.budget key n s p):=B3.re (KD b J hJ A c p hp hn s hs key hk n hf) (by repeat(first|exact trivial|refine⟨zr,?_⟩))
theorem jU{x:Nat}(hx:x<2^64):(BitVec.ofInt IntKind.u64.bits (x:Int)).toNat=x:=by
 show(BitVec.ofInt 64 (x:Int)).toNat=x
 rw[BitVec.ofInt_natCast,BitVec.toNat_ofNat];exact Nat.mod_eq_of_lt hx
theorem sg{x y:Nat}(hx:x<2^64)(hy:y<2^64):j0 .and .u64 (x:Int) (y:Int)=((x &&& y:Nat):Int):=by
 unfold j0;simp only;rw[BitVec.toNat_and,jU hx,jU hy,V6];rw[Nat.mod_eq_of_lt (Nat.lt_of_le_of_lt Nat.and_le_left hx)]
theorem AM{x y:Nat}(hx:x<2^64)(hy:y<2^64):j0 .or .u64 (x:Int) (y:Int)=((x ||| y:Nat):Int):=by
 unfold j0;simp only;rw[BitVec.toNat_or,jU hx,jU hy,V6];rw[Nat.mod_eq_of_lt (Nat.or_lt_two_pow hx hy)]
theorem sf{x y:Nat}(hx:x<2^64)(hy:y<2^64):j0 .andNot .u64 (x:Int) (y:Int)=((x ^^^ (x &&& y):Nat):Int):=by
 unfold j0;simp only;have e:(BitVec.ofInt IntKind.u64.bits (x:Int) &&& ~~~BitVec.ofInt IntKind.u64.bits (y:Int)).toNat=x ^^^ (x &&& y):=by
  apply Nat.eq_of_testBit_eq;intro i;rw[BitVec.toNat_and,Nat.testBit_and,BitVec.toNat_not,jU hx,jU hy,Nat.testBit_xor,Nat.testBit_and]
  show(x.testBit i&&(2^64-1-y).testBit i)=_
  rw[show 2^64-1-y=2^64-(y+1)by omega,Nat.testBit_two_pow_sub_succ hy]
  by_cases hi:i<64
  .simp only[hi,decide_true,Bool.true_and]
   cases x.testBit i<;>cases y.testBit i<;>rfl
  rw[Nat.testBit_lt_two_pow (x:=x) (Nat.lt_of_lt_of_le hx (Nat.pow_le_pow_right (by decide) (by omega)))];simp
 rw[e,V6,Nat.mod_eq_of_lt (Nat.xor_lt_two_pow hx (Nat.lt_of_le_of_lt Nat.and_le_left hx))]
theorem AK{x:Nat}{s:Nat}(hs:s<=64):s3 .shl .u64 (x:Int) (s:Int)=(((x <<< s) % 2^64:Nat):Int):=by
 unfold s3;simp only;rw[show min (s:Int).toNat IntKind.u64.bits=s from Nat.min_eq_left hs,show(x:Int)*2^s=((x*2^s:Nat):Int)by push_cast;rfl,V6,Nat.shiftLeft_eq]
theorem LV{a:Nat}(ha:a<64):s3 .shl .u64 1 (a:Int)=((2^a:Nat):Int):=by
 have:=AK (x:=1) (s:=a) (by omega);rw[show((1:Nat):Int)=1 from rfl]at this;rw[this,Nat.shiftLeft_eq,Nat.one_mul,Nat.mod_eq_of_lt (Nat.pow_lt_pow_right (by decide) ha)]
theorem AN{x a:Nat}(hx:x<2^64)(ha:a<64):d4 .neq (j0 .and .u64 (x:Int) ((2^a:Nat):Int)) 0=x.testBit a:=by
 rw[sg hx (Nat.pow_lt_pow_right (by decide) ha)];have e:(x &&& 2^a)=if x.testBit a=true then 2^a else 0:=by
  apply Nat.eq_of_testBit_eq;intro i;rw[Nat.testBit_and,Nat.testBit_two_pow]
  by_cases h:a=i
  .subst h
   cases hb:x.testBit a<;>simp
  cases hb:x.testBit a<;>simp[h]
 rw[e];have hp:0<2^a:=Nat.two_pow_pos a
 cases hb:x.testBit a
 .rfl
 show(((2^a:Nat):Int) != 0)=true
 rw[bne_iff_ne];intro h9;omega
theorem CB:∀a:Nat,a<64->j0 .and .u64 (s3 .shl .u64 6148914691236517205 (j0 .and .i64 (a:Int) 1)) (j0 .sub .u64 (s3 .shl .u64 1 (a:Int)) 1)=((nS a:Nat):Int):=by decide
theorem KC:∀a:Nat,a<64->0<=j0 .and .i64 (a:Int) 1:=by decide
abbrev eR(R:B8):AV:=.agg [.int .u32 (R.x1:Int),.int .u32 (R.x2:Int),.int .u32 (R.y1:Int),.int .u32 (R.y2:Int)]
theorem Gg(a:Nat)(ha:a<64):k9 Tryz.prog 210 [.int .i64 (a:Int)] (fun _=>.int .u64 ((nS a:Nat):Int)):=by
 intro m w hm hargs;refine en 10 hm hargs Tryz.func210 fun B O a0 Z=>?_
 refine a6 [0] [] Z fun X0 Z=>?_
 refine a7 (drg O a8 [2] [] [] Z (hob:=?hob) fun X1 _ _ Z=>?_)
 case hob=>
  intro X;subst O;simp only[i7,Ob.holds]
  and_intros<;>first|trivial|exact KC a ha|exact Int.natCast_nonneg a
 refine z7 Z ?_;subst O;rw[<-CB a ha];exact zr
theorem AP(R:B8):k9 Tryz.prog 53 [eR R] (fun _=>.bool (.v (decide R.Is))):=by
 intro m w hm hargs;refine en 15 hm hargs Tryz.func53 fun B O a0 Z=>?_
 refine a6 [1] [1] Z fun X0 Z=>?_
 refine a6 [2] [] Z fun X1 Z=>?_
 refine z7 Z ?_;subst O;refine Sim.bool ?_
 by_cases h1:R.x1<=R.x2<;>by_cases h2:R.y1<=R.y2<;>simp[std,d4,BE.den,fT,B8.Is,h1,h2]
def byI(i:Nat):Int:=if i=0 then 16 else if i=1 then 8 else if i=2 then 4 else if i=3 then 2 else 1
def mkI(i:Nat):Int:=if i=0 then 281470681808895 else if i=1 then 71777214294589695 else if i=2 then 1085102592571150095 else if i=3 then 3689348814741910323 else 6148914691236517205
def eG(x:Nat):Nat->Int
 |0=>(x:Int)
 |p+1=>j0 .and .u64 (j0 .or .u64 (eG x p) (s3 .shl .u64 (eG x p) (byI p))) (mkI p)
theorem ie{z:Nat}{h m:Nat}(hz:z<2^64)(hh:h<=64)(hm:m<2^64):j0 .and .u64 (j0 .or .u64 (z:Int) (s3 .shl .u64 (z:Int) (h:Int))) (m:Int)=((pK z h m:Nat):Int)/\pK z h m<2^64:=by
 have h1:(z <<< h) % 2^64<2^64:=Nat.mod_lt _ (by decide);rw[AK hh,AM hz h1,sg (Nat.or_lt_two_pow hz h1) hm];exact⟨rfl,Nat.lt_of_le_of_lt Nat.and_le_right hm⟩
theorem Ic{x:Nat}(hx:x<2^32):eG x 5=((kF x:Nat):Int):=by
 have a0:=ie (z:=x) (h:=16) (m:=281470681808895) (by omega) (by decide) (by decide);have a1:=ie (h:=8) (m:=71777214294589695) a0.2 (by decide) (by decide);have a2:=ie (h:=4) (m:=1085102592571150095) a1.2 (by decide) (by decide);have a3:=ie (h:=2) (m:=3689348814741910323) a2.2 (by decide) (by decide);have a4:=ie (h:=1) (m:=6148914691236517205) a3.2 (by decide) (by decide);have e1:=(show eG x 1=j0 .and .u64 (j0 .or .u64 ((x:Nat):Int) (s3 .shl .u64 ((x:Nat):Int) ((16:Nat):Int))) ((281470681808895:Nat):Int)from rfl)
 rw[a0.1]at e1;have e2:=(show eG x 2=j0 .and .u64 (j0 .or .u64 (eG x 1) (s3 .shl .u64 (eG x 1) ((8:Nat):Int))) ((71777214294589695:Nat):Int)from rfl)
 rw[e1,a1.1]at e2;have e3:=(show eG x 3=j0 .and .u64 (j0 .or .u64 (eG x 2) (s3 .shl .u64 (eG x 2) ((4:Nat):Int))) ((1085102592571150095:Nat):Int)from rfl)
 rw[e2,a2.1]at e3;have e4:=(show eG x 4=j0 .and .u64 (j0 .or .u64 (eG x 3) (s3 .shl .u64 (eG x 3) ((2:Nat):Int))) ((3689348814741910323:Nat):Int)from rfl)
 rw[e3,a3.1]at e4
 show j0 .and .u64 (j0 .or .u64 (eG x 4) (s3 .shl .u64 (eG x 4) 1)) 6148914691236517205=_
 rw[e4];exact a4.1
theorem Kv(i:Nat):0<=byI i:=by unfold byI;(repeat' split)<;>decide
theorem MI{x:Nat}(hx:x<2^32):Sim (.int .u64 (IntKind.u64.wrap (x:Int))) (.int .u64 (eG x 0)):=by
 rw[V6,Nat.mod_eq_of_lt (by omega)];exact zr
theorem Dq{x:Nat}:kF x<2^64:=Nat.lt_of_le_of_lt Nat.and_le_right (by decide)
theorem GZ(x:Nat)(hx:x<2^32):k9 Tryz.prog 99 [.int .u32 (x:Int)] (fun _=>.int .u64 ((kF x:Nat):Int)):=by
 intro m w hm hargs;obtain⟨bf,hbf⟩:=eqv (byI);obtain⟨mf,hmf⟩:=eqv (mkI);obtain⟨zf,hzf⟩:=eqv (eG x);refine en 30 hm hargs Tryz.func99 fun B O a0 Z=>?_
 refine a6 [0] [] Z fun X0 Z=>?_
 refine a6 [3] [] Z fun X1 Z=>?_
 replace Z:=Z.headS (v':=.int .u64 (zf 0)) (by subst O hzf;exact MI hx) rfl;refine a7 (a6 [13,3,15,14] [13] Z fun X2 Z=>?_);replace Z:=Z.headS (v':=.sl none (some ⟨(X2 5).b,0,none⟩) 5 5 2 (fun i=>[.int .i64 (bf i),.int .u64 (mf i)])) (Sim.recell (fun i hi=>by have h5:i<5:=hi;subst hbf hmf;match i,h5 with|0,_=>rfl|1,_=>rfl|2,_=>rfl|3,_=>rfl|4,_=>rfl)) rfl;replace Z:=Z.keep [3,15,13,14] [];refine j1 (l3 (ι:=Nat) (fun p=>[(3,.int .u64 (zf p)),(15,.int .i64 (p:Int))]) (fun p=>[]) (fun p=>[]) (fun p=>p<=5) (fun p=>5-p) 0 (Nat.zero_le _) Z ?_)
 rintro i hi _ _ Z
 try dsimp only at hi
 refine a6 [16,3,13,14,15] [13] Z fun X3 Z=>?_
 refine a7 (b7 Z rfl (fun hb Z=>?_) (fun hb Z=>?_))
 .have h5:i<5:=by
   have:(i:Int)<5:=by subst O;simpa[std,d4]using hb
   omega
  refine f8 (a7 (j1 (a7 ?_)));have O4:(0:Int)<=(i:Int):=by omega
  have O5:(i:Int)<(5:Int):=by omega
  refine j5 [3,5,13,14,15] [5,13] Z fun X4 Z=>?_
  refine drg O a8 [3,13,14,15] [13] [] Z (hob:=?hob) fun X5 _ _ Z=>?_
  case hob=>
   intro X;subst O;simp only[i7,Ob.holds,BE.den]<;>(and_intros<;>repeat first|trivial|rfl|(subst hbf;exact Kv _)|intro h)
  refine j5 [3,15,13,14] [13] Z fun X6 Z=>?_
  refine⟨i+1,by omega,by omega,?_⟩;have e1:zf (i+1)=B.arith .and .u64 (B.arith .or .u64 (zf i) (B.shift .shl .u64 (zf i) (bf (B.toNat (i:Int))))) (mf (B.toNat (i:Int))):=by subst O hzf hbf hmf;rfl
  have e2:((i+1:Nat):Int)=B.arith .add .i64 (i:Int) 1:=by subst O;exact(k4 (n:=5) (by omega) (by decide)).symm
  rw[e1,e2];exact Z
 have h5:i=5:=by
  have:¬(i:Int)<5:=by subst O;simpa[std,d4]using hb
  omega
 subst h5;refine j9 (a6 [2] [] Z fun X7 Z=>?_);refine z7 Z ?_;subst O;rw[<-Ic hx,<-hzf];exact zr
theorem CW{x y:Nat}:j0 .or .u64 ((kF x:Nat):Int) (s3 .shl .u64 ((kF y:Nat):Int) 1)=((wvN x y:Nat):Int):=by
 have h:=AK (x:=kF y) (s:=1) (by decide);rw[show((1:Nat):Int)=1 from rfl]at h;rw[h,AM Dq (Nat.mod_lt _ (by decide))];rfl
theorem HN(x y:Nat)(hx:x<2^32)(hy:y<2^32):k9 Tryz.prog 43 [.int .u32 (x:Int),.int .u32 (y:Int)] (fun _=>.int .u64 ((wvN x y:Nat):Int)):=by
 intro m w hm hargs;have S1:=GZ x hx;have S2:=GZ y hy;obtain⟨sx,hsx⟩:=eqv (((kF x:Nat):Int));rw[<-hsx]at S1;obtain⟨sy,hsy⟩:=eqv (((kF y:Nat):Int));rw[<-hsy]at S2;refine en 11 hm hargs Tryz.func43 fun B O a0 Z=>?_
 refine a6 [0,1] [] Z fun X0 Z=>?_
 have O1:=S1;have O2:=S2;refine i9 [4] [] [(1,.r fun _=>.int .u64 sx),(3,.r fun _=>.int .u64 sy)] Z fun X1 Z=>?_
 refine z7 Z ?_;subst O;rw[<-CW,<-hsx,<-hsy];exact zr
def qC(z h m:Nat):Nat:=(z ||| z >>> h) &&& m
def yp(z:Nat):Nat:=qC (qC (qC (qC (qC (z &&& 6148914691236517205) 1 3689348814741910323) 2 1085102592571150095) 4 71777214294589695) 8 281470681808895) 16 4294967295
theorem fh{x z m h:Nat}(hh:h=16 \/ h=8 \/ h=4 \/ h=2 \/ h=1)(hz:∀j,z.testBit j=(decide (j<64)&&decide (j % (2*h)<h)&&x.testBit (2*(j / (2*h)*h+j % h))))
  (hm:∀j,m.testBit j=(decide (j<64)&&decide (j % (2*(2*h))<2*h))) (j:Nat):(qC z h m).testBit j=(decide (j<64)&&decide (j % (2*(2*h))<2*h)&&x.testBit (2*(j / (2*(2*h))*(2*h)+j % (2*h)))):=by
 unfold qC;rw[Nat.testBit_and,Nat.testBit_or,Nat.testBit_shiftRight,hm,hz,hz]
 by_cases h1:j<64
 .by_cases h2:j % (2*(2*h))<2*h
  .rw [decide_eq_true h1,decide_eq_true h2]
   simp only[Bool.true_and,Bool.and_true]
   by_cases h3:j % (2*h)<h
   .have e1:j / (2*h)*h+j % h=j / (2*(2*h))*(2*h)+j % (2*h):=by rcases hh with rfl|rfl|rfl|rfl|rfl<;>omega
    have e2:¬(h+j) % (2*h)<h:=by rcases hh with rfl|rfl|rfl|rfl|rfl<;>omega
    rw[decide_eq_true h3,decide_eq_false e2,e1];simp
   have e2:(h+j) % (2*h)<h:=by rcases hh with rfl|rfl|rfl|rfl|rfl<;>omega
   have e3:(h+j) / (2*h)*h+(h+j) % h=j / (2*(2*h))*(2*h)+j % (2*h):=by rcases hh with rfl|rfl|rfl|rfl|rfl<;>omega
   have e4:h+j<64:=by rcases hh with rfl|rfl|rfl|rfl|rfl<;>omega
   rw[decide_eq_false h3,decide_eq_true e2,decide_eq_true e4,e3];simp
  rw[decide_eq_false h2];simp
 rw[decide_eq_false h1];simp
theorem wu{z:Nat}(hz:z<2^64):yp z=crd 0 z:=by
 have m0:=fun j=>Y7 (m:=6148914691236517205) (h:=1) (by decide) (by decide) j
 have m1:=fun j=>Y7 (m:=3689348814741910323) (h:=2) (by decide) (by decide) j
 have m2:=fun j=>Y7 (m:=1085102592571150095) (h:=4) (by decide) (by decide) j
 have m3:=fun j=>Y7 (m:=71777214294589695) (h:=8) (by decide) (by decide) j
 have m4:=fun j=>Y7 (m:=281470681808895) (h:=16) (by decide) (by decide) j
 have m5:=fun j=>Y7 (m:=4294967295) (h:=32) (by decide) (by decide) j
 have z0:∀j,(z &&& 6148914691236517205).testBit j=(decide (j<64)&&decide (j % (2*1)<1)&&z.testBit (2*(j / (2*1)*1+j % 1))):=fun j=>by
  rw[Nat.testBit_and,m0]
  by_cases h:j % (2*1)<1
  .rw [show 2*(j / (2*1)*1+j % 1)=j by omega]
   cases z.testBit j<;>simp
  rw[decide_eq_false h];simp
 have z1:=fun j=>fh (.inr (.inr (.inr (.inr rfl)))) z0 m1 j
 have z2:=fun j=>fh (.inr (.inr (.inr (.inl rfl)))) z1 m2 j
 have z3:=fun j=>fh (.inr (.inr (.inl rfl))) z2 m3 j
 have z4:=fun j=>fh (.inr (.inl rfl)) z3 m4 j
 have z5:=fun j=>fh (.inl rfl) z4 m5 j
 refine Nat.eq_of_testBit_eq fun i=>?_
 unfold yp;rw[z5,P8]
 by_cases h:i<32
 .rw [decide_eq_true h,decide_eq_true (show i<64 by omega),decide_eq_true (show i % (2*(2*16))<2*16 by omega),show 2*(i / (2*(2*16))*(2*16)+i % (2*16))=2*i+0 by omega];simp
 rw[decide_eq_false h]
 by_cases h64:i<64
 .rw [decide_eq_false (show ¬i % (2*(2*16))<2*16 by omega)];simp
 rw[decide_eq_false h64];simp
theorem FT(z:Nat):crd 0 (z >>> 1)=crd 1 z:=Nat.eq_of_testBit_eq fun i=>by
 rw[P8,P8,Nat.testBit_shiftRight,show 1+(2*i+0)=2*i+1 by omega]
def gbI(i:Nat):Int:=if i=0 then 1 else if i=1 then 2 else if i=2 then 4 else if i=3 then 8 else 16
def gmI(i:Nat):Int:=if i=0 then 3689348814741910323 else if i=1 then 1085102592571150095 else if i=2 then 71777214294589695 else if i=3 then 281470681808895 else 4294967295
def da(x:Nat):Nat->Int
 |0=>j0 .and .u64 (x:Int) 6148914691236517205
 |p+1=>j0 .and .u64 (j0 .or .u64 (da x p) (s3 .shr .u64 (da x p) (gbI p))) (gmI p)
theorem Jk(i:Nat):0<=gbI i:=by unfold gbI;(repeat' split)<;>decide
theorem AJ{x:Nat}{s:Nat}(hx:x<2^64)(hs:s<=64):s3 .shr .u64 (x:Int) (s:Int)=((x >>> s:Nat):Int):=by
 unfold s3;simp only;rw[show min (s:Int).toNat IntKind.u64.bits=s from Nat.min_eq_left hs,show(x:Int).fdiv (2^s)=((x / 2^s:Nat):Int)by rw[Int.fdiv_eq_ediv_of_nonneg _ (Int.le_of_lt (Int.pow_pos (by decide)))];push_cast;rfl,Nat.shiftRight_eq_div_pow]
theorem iT{z:Nat}{h m:Nat}(hz:z<2^64)(hh:h<=64)(hm:m<2^64):j0 .and .u64 (j0 .or .u64 (z:Int) (s3 .shr .u64 (z:Int) (h:Int))) (m:Int)=((qC z h m:Nat):Int)/\qC z h m<2^64:=by
 have h1:z >>> h<2^64:=by rw[Nat.shiftRight_eq_div_pow];exact Nat.lt_of_le_of_lt (Nat.div_le_self _ _) hz
 rw[AJ hz hh,AM hz h1,sg (Nat.or_lt_two_pow hz h1) hm];exact⟨rfl,Nat.lt_of_le_of_lt Nat.and_le_right hm⟩
theorem Jl{x:Nat}(hx:x<2^64):da x 5=((yp x:Nat):Int):=by
 have e0:da x 0=((x &&& 6148914691236517205:Nat):Int):=sg hx (by decide);have a0:=iT (z:=x &&& 6148914691236517205) (h:=1) (m:=3689348814741910323) (Nat.lt_of_le_of_lt Nat.and_le_left hx) (by decide) (by decide);have a1:=iT (h:=2) (m:=1085102592571150095) a0.2 (by decide) (by decide);have a2:=iT (h:=4) (m:=71777214294589695) a1.2 (by decide) (by decide);have a3:=iT (h:=8) (m:=281470681808895) a2.2 (by decide) (by decide);have a4:=iT (h:=16) (m:=4294967295) a3.2 (by decide) (by decide);have e1:=(show da x 1=j0 .and .u64 (j0 .or .u64 (da x 0) (s3 .shr .u64 (da x 0) ((1:Nat):Int))) ((3689348814741910323:Nat):Int)from rfl)
 rw[e0,a0.1]at e1;have e2:=(show da x 2=j0 .and .u64 (j0 .or .u64 (da x 1) (s3 .shr .u64 (da x 1) ((2:Nat):Int))) ((1085102592571150095:Nat):Int)from rfl)
 rw[e1,a1.1]at e2;have e3:=(show da x 3=j0 .and .u64 (j0 .or .u64 (da x 2) (s3 .shr .u64 (da x 2) ((4:Nat):Int))) ((71777214294589695:Nat):Int)from rfl)
 rw[e2,a2.1]at e3;have e4:=(show da x 4=j0 .and .u64 (j0 .or .u64 (da x 3) (s3 .shr .u64 (da x 3) ((8:Nat):Int))) ((281470681808895:Nat):Int)from rfl)
 rw[e3,a3.1]at e4;have e5:=(show da x 5=j0 .and .u64 (j0 .or .u64 (da x 4) (s3 .shr .u64 (da x 4) ((16:Nat):Int))) ((4294967295:Nat):Int)from rfl)
 rw[e4,a4.1]at e5;exact e5
theorem ES(x:Nat):yp x<2^32:=Nat.lt_of_le_of_lt Nat.and_le_right (by decide)
theorem ft{x:Nat}(h:x<2^32):IntKind.u32.wrap (x:Int)=(x:Int):=by
 unfold IntKind.wrap;simp only;rw[if_neg (by simp[IntKind.signed])]
 show(x:Int) % 4294967296=x
 omega
theorem Hp(x:Nat)(hx:x<2^64):k9 Tryz.prog 104 [.int .u64 (x:Int)] (fun _=>.int .u32 ((yp x:Nat):Int)):=by
 intro m w hm hargs;obtain⟨bf,hbf⟩:=eqv (gbI);obtain⟨mf,hmf⟩:=eqv (gmI);obtain⟨zf,hzf⟩:=eqv (da x);refine en 30 hm hargs Tryz.func104 fun B O a0 Z=>?_
 refine a6 [0] [] Z fun X0 Z=>?_
 refine a6 [0] [] Z fun X1 Z=>?_
 replace Z:=Z.headS (v':=.int .u64 (zf 0)) (by subst O hzf;exact zr) rfl;refine a7 (a6 [12,0,14,13] [12] Z fun X2 Z=>?_);replace Z:=Z.headS (v':=.sl none (some ⟨(X2 5).b,0,none⟩) 5 5 2 (fun i=>[.int .i64 (bf i),.int .u64 (mf i)])) (Sim.recell (fun i hi=>by have h5:i<5:=hi;subst hbf hmf;match i,h5 with|0,_=>rfl|1,_=>rfl|2,_=>rfl|3,_=>rfl|4,_=>rfl)) rfl;replace Z:=Z.keep [0,14,12,13] [];refine j1 (l3 (ι:=Nat) (fun p=>[(0,.int .u64 (zf p)),(14,.int .i64 (p:Int))]) (fun p=>[]) (fun p=>[]) (fun p=>p<=5) (fun p=>5-p) 0 (Nat.zero_le _) Z ?_)
 rintro i hi _ _ Z
 try dsimp only at hi
 refine a6 [15,0,12,13,14] [12] Z fun X3 Z=>?_
 refine a7 (b7 Z rfl (fun hb Z=>?_) (fun hb Z=>?_))
 .have h5:i<5:=by
   have:(i:Int)<5:=by subst O;simpa[std,d4]using hb
   omega
  refine f8 (a7 (j1 (a7 ?_)));have O4:(0:Int)<=(i:Int):=by omega
  have O5:(i:Int)<(5:Int):=by omega
  refine j5 [0,4,12,13,14] [4,12] Z fun X4 Z=>?_
  refine drg O a8 [0,12,13,14] [12] [] Z (hob:=?hob) fun X5 _ _ Z=>?_
  case hob=>
   intro X;subst O;simp only[i7,Ob.holds,BE.den]<;>(and_intros<;>repeat first|trivial|rfl|(subst hbf;exact Jk _)|intro h)
  refine j5 [0,14,12,13] [12] Z fun X6 Z=>?_
  refine⟨i+1,by omega,by omega,?_⟩;have e1:zf (i+1)=B.arith .and .u64 (B.arith .or .u64 (zf i) (B.shift .shr .u64 (zf i) (bf (B.toNat (i:Int))))) (mf (B.toNat (i:Int))):=by subst O hzf hbf hmf;rfl
  have e2:((i+1:Nat):Int)=B.arith .add .i64 (i:Int) 1:=by subst O;exact(k4 (n:=5) (by omega) (by decide)).symm
  rw[e1,e2];exact Z
 have h5:i=5:=by
  have:¬(i:Int)<5:=by subst O;simpa[std,d4]using hb
  omega
 subst h5;refine j9 (a6 [2] [] Z fun X7 Z=>?_);refine z7 Z ?_;subst O;have e:=Jl hx;rw[hzf,e]
 show Sim (.int .u32 (IntKind.u32.wrap ((yp x:Nat):Int))) _
 rw[ft (ES x)];exact zr
theorem gV{z:Nat}(hz:z<2^64):s3 .shr .u64 (z:Int) 1=((z >>> 1:Nat):Int)/\z >>> 1<2^64:=by
 have h:=AJ (s:=1) hz (by decide);rw[show((1:Nat):Int)=1 from rfl]at h;exact⟨h,by rw[Nat.shiftRight_eq_div_pow];exact Nat.lt_of_le_of_lt (Nat.div_le_self _ _) hz⟩
theorem MD(z:Nat)(hz:z<2^64):k9 Tryz.prog 52 [.int .u64 (z:Int)] (fun _=>.tup [.int .u32 ((crd 0 z:Nat):Int),.int .u32 ((crd 1 z:Nat):Int)]):=by
 intro m w hm hargs;have S1:=Hp z hz;have S2:=Hp (z >>> 1) (gV hz).2;rw[wu hz]at S1;rw[wu (gV hz).2,FT,<-(gV hz).1]at S2;obtain⟨cx,hcx⟩:=eqv (((crd 0 z:Nat):Int));rw[<-hcx]at S1 ⊢;obtain⟨cy,hcy⟩:=eqv (((crd 1 z:Nat):Int));rw[<-hcy]at S2 ⊢;refine en 9 hm hargs Tryz.func52 fun B O a0 Z=>?_
 refine a6 [0] [] Z fun X0 Z=>?_
 have O1:=S1;have O2:=S2;refine i9 [2,3] [] [(1,.r fun _=>.int .u32 cx),(4,.r fun _=>.int .u32 cy)] Z fun X1 Z=>?_
 refine z7 Z ?_;subst O;exact zr
theorem Bp{R:B8}{z cx cy:Nat}{ri:Bool}(HI:gX R z↔R.x1<=cx/\cx<=R.x2/\R.y1<=cy/\cy<=R.y2)(hri:ri=decide R.Is) :
  decide (R.Is/\gX R z)=(if(if(if(if ri=true then(if decide ((R.x1:Int)<(cx:Int))=true then(R.x1:Int)else cx)==(R.x1:Int)else false)=true then(if decide ((cx:Int)<(R.x2:Int))=true then(R.x2:Int)else cx)==(R.x2:Int)else false)=true then(if decide ((R.y1:Int)<(cy:Int))=true then(R.y1:Int)else cy)==(R.y1:Int)else false)=true then(if decide ((cy:Int)<(R.y2:Int))=true then(R.y2:Int)else cy)==(R.y2:Int)else false):=by
 simp only[decide_eq_true_eq (p:=_<_)];have e1:((if(R.x1:Int)<(cx:Int)then(R.x1:Int)else cx)==(R.x1:Int))=decide (R.x1<=cx):=by
  by_cases h:(R.x1:Int)<(cx:Int)
  .rw [if_pos h,beq_self_eq_true,decide_eq_true (by omega)]
  rw[if_neg h,Bool.eq_iff_iff,beq_iff_eq,decide_eq_true_eq];omega
 have e2:((if(cx:Int)<(R.x2:Int)then(R.x2:Int)else cx)==(R.x2:Int))=decide (cx<=R.x2):=by
  by_cases h:(cx:Int)<(R.x2:Int)
  .rw [if_pos h,beq_self_eq_true,decide_eq_true (by omega)]
  rw[if_neg h,Bool.eq_iff_iff,beq_iff_eq,decide_eq_true_eq];omega
 have e3:((if(R.y1:Int)<(cy:Int)then(R.y1:Int)else cy)==(R.y1:Int))=decide (R.y1<=cy):=by
  by_cases h:(R.y1:Int)<(cy:Int)
  .rw [if_pos h,beq_self_eq_true,decide_eq_true (by omega)]
  rw[if_neg h,Bool.eq_iff_iff,beq_iff_eq,decide_eq_true_eq];omega
 have e4:((if(cy:Int)<(R.y2:Int)then(R.y2:Int)else cy)==(R.y2:Int))=decide (cy<=R.y2):=by
  by_cases h:(cy:Int)<(R.y2:Int)
  .rw [if_pos h,beq_self_eq_true,decide_eq_true (by omega)]
  rw[if_neg h,Bool.eq_iff_iff,beq_iff_eq,decide_eq_true_eq];omega
 rw[e1,e2,e3,e4,hri,Bool.eq_iff_iff,decide_eq_true_eq,HI]
 by_cases h1:R.Is<;>by_cases h2:R.x1<=cx<;>by_cases h3:cx<=R.x2<;>by_cases h4:R.y1<=cy<;>by_cases h5:cy<=R.y2<;>simp[h1,h2,h3,h4,h5]
theorem IQ(R:B8)(z:Nat)(hz:z<2^64):k9 Tryz.prog 20 [eR R,.int .u64 (z:Int)] (fun _=>.bool (.v (decide (R.Is/\gX R z)))):=by
 intro m w hm hargs;have S1:=MD z hz;have S2:=AP R;have HI:gX R z↔R.x1<=crd 0 z/\crd 0 z<=R.x2/\R.y1<=crd 1 z/\crd 1 z<=R.y2:=Iff.rfl;obtain⟨cx,hcx⟩:=eqv (crd 0 z);rw[<-hcx]at S1 HI;obtain⟨cy,hcy⟩:=eqv (crd 1 z);rw[<-hcy]at S1 HI;obtain⟨ri,hri⟩:=eqv (decide R.Is);rw[<-hri]at S2;refine en 50 hm hargs Tryz.func20 fun B O a0 Z=>?_
 refine a6 [1,2] [2] Z fun X0 Z=>?_
 have O1:=S1;refine i9 [2,5,6] [2] [(1,.r fun _=>.tup [.int .u32 (cx:Int),.int .u32 (cy:Int)])] Z fun X1 Z=>?_
 have O1:=S2;refine i9 [4] [] [(1,.r fun _=>.bool (.v ri))] Z fun X2 Z=>?_
 refine z7 Z ?_;subst O;exact Sim.bool ((Bp HI hri).symm)
theorem Sim.of_int2{k:IntKind}{x y:Int}(h:x=y):Sim (.int k x) (.int k y):=h ▸ zr
theorem vI{Kk:Kn}(a b c:BE)(x y z:BE):Ob.holds Tryz.prog Kk (.eql 244 [.bool a,.bool b,.bool c] [.bool x,.bool y,.bool z]):=qh (d:=3) (sh:=[.bool,.bool,.bool]) (by kernel_rfl) (by decide) (by kernel_rfl) (by kernel_rfl) ⟨trivial,trivial,trivial,trivial⟩ ⟨trivial,trivial,trivial,trivial⟩
theorem Kz{z a lo hi best:Nat}{f:Bool}(h1:z.testBit a=false)(h2:lo.testBit a=false)(h3:hi.testBit a=true):bmL z (a+1) lo hi best f=bmL z a lo (hiD a hi) (loU a lo) true:=by
 rw[bmL,if_pos ⟨h1,h2,h3⟩]
theorem My{z a lo hi best:Nat}{f:Bool}(h1:z.testBit a=false)(h2:lo.testBit a=true)(h3:hi.testBit a=true):bmL z (a+1) lo hi best f=(lo,true):=by
 rw[bmL];simp[h1,h2,h3]
theorem Gf{z a lo hi best:Nat}{f:Bool}(h1:z.testBit a=true)(h2:lo.testBit a=false)(h3:hi.testBit a=false):bmL z (a+1) lo hi best f=(best,f):=by
 rw[bmL];simp[h1,h2,h3]
theorem Mx{z a lo hi best:Nat}{f:Bool}(h1:z.testBit a=true)(h2:lo.testBit a=false)(h3:hi.testBit a=true):bmL z (a+1) lo hi best f=bmL z a (loU a lo) hi best f:=by
 rw[bmL];simp[h1,h2,h3]
theorem Mz{z a lo hi best:Nat}{f:Bool}(n1:¬(z.testBit a=false/\lo.testBit a=false/\hi.testBit a=true))(n2:¬(z.testBit a=false/\lo.testBit a=true/\hi.testBit a=true))(n3:¬(z.testBit a=true/\lo.testBit a=false/\hi.testBit a=false))(n4:¬(z.testBit a=true/\lo.testBit a=false/\hi.testBit a=true)):bmL z (a+1) lo hi best f=bmL z a lo hi best f:=by
 rw[bmL,if_neg n1,if_neg n2,if_neg n3,if_neg n4]
theorem wU(a:Nat)(ha:a<64):nS a<2^64:=Nat.lt_pow_two_of_testBit _ fun i hi=>by
 rw[nD a i ha,decide_eq_false (show ¬i<a by omega),Bool.false_and]
theorem Jc{a hi:Nat}(ha:a<64)(h:hi<2^64):hiD a hi<2^64:=Nat.lt_pow_two_of_testBit _ fun i h9=>by
 rw[lq a hi i ha,Nat.testBit_lt_two_pow (Nat.lt_of_lt_of_le h (Nat.pow_le_pow_right (by decide) h9)),decide_eq_false (show ¬i<a by omega)];rfl
theorem AT{a lo:Nat}(ha:a<64)(h:lo<2^64):j0 .or .u64 (j0 .andNot .u64 (lo:Int) ((nS a:Nat):Int)) ((2^a:Nat):Int)=((loU a lo:Nat):Int):=by
 rw[sf h (wU a ha),AM (Nat.xor_lt_two_pow h (Nat.lt_of_le_of_lt Nat.and_le_left h)) (Nat.pow_lt_pow_right (by decide) ha)];rfl
theorem Br{a hi:Nat}(ha:a<64)(h:hi<2^64):j0 .or .u64 (j0 .andNot .u64 (hi:Int) ((2^a:Nat):Int)) ((nS a:Nat):Int)=((hiD a hi:Nat):Int):=by
 rw[sf h (Nat.pow_lt_pow_right (by decide) ha),AM (Nat.xor_lt_two_pow h (Nat.lt_of_le_of_lt Nat.and_le_left h)) (wU a ha)];rfl
theorem Hl(R:B8)(hR:xd R)(z:Nat)(hz:z<2^64):k9 Tryz.prog 144 [eR R,.int .u64 (z:Int)] (fun _=>.tup [.int .u64 ((T8 R z).1:Nat),.bool (.v (T8 R z).2)]):=by
 intro m w hm hargs;have S1:=AP R;have W1:=HN R.x1 R.y1 hR.x1 hR.y1;have W2:=HN R.x2 R.y2 hR.x2 hR.y2;have hl0:=pl hR.x1 hR.y1;have hh0:=pl hR.x2 hR.y2;have hbm:=Ky hR (z:=z);have hle:∀h:R.Is,T8 R z=Z5 R z 64 0:=fun h=>if_pos h
 have hln:¬R.Is->T8 R z=(0,false):=fun h=>if_neg h
 obtain⟨L0,hL0⟩:=eqv (wvN R.x1 R.y1);rw[<-hL0]at W1 hl0 hbm;obtain⟨H0,hH0⟩:=eqv (wvN R.x2 R.y2);rw[<-hH0]at W2 hh0 hbm;obtain⟨ri,hri⟩:=eqv (decide R.Is);rw[<-hri]at S1;obtain⟨q,hq⟩:=eqv (T8 R z);rw[<-hq]at hle hln ⊢;obtain⟨v,f0⟩:=q;dsimp only;refine en 78 hm hargs Tryz.func144 fun B O a0 Z=>?_
 refine a6 [1,2] [2] Z fun X0 Z=>?_
 have O1:=S1;refine wp_scope_straight (a7 (i9 [14,1,2] [2] [(1,.r fun _=>.bool (.v ri))] Z fun X1 Z=>?_));apply b7 Z rfl<;>intro hb Z
 .have hr:ri=false:=by subst O;revert hb;cases ri<;>simp[std]
  have hq0:=hln (by intro h;rw[hri,decide_eq_true h]at hr;cases hr);injection hq0 with hv0 hf0
  refine a6 [4,5] [] Z fun X2 Z=>?_
  refine z7 Z ?_;subst O;rw[hv0,hf0];exact Sim.tup ⟨zr,Sim.bool rfl,trivial⟩
 have hr:ri=true:=by subst O;revert hb;cases ri<;>simp[std]
 have hI:R.Is:=of_decide_eq_true (hri.symm.trans hr);have hrun:(v,f0)=bmL z 64 L0 H0 0 false:=by rw[hle hI,hbm hI hz]
 have O1:=W1;have O2:=W2;refine f8 (a7 (drg O a8 [1,6,7] [] [(4,.r fun _=>.int .u64 (L0:Int)),(9,.r fun _=>.int .u64 (H0:Int))] Z fun X3 _ _ Z=>?_));refine a6 [1,6,7,8,9] [] Z fun X4 Z=>?_
 refine a7 (wp_label (a7 (a6 [6,7,8,9,10,1] [] Z fun X5 Z=>?_)));replace Z:=Z.slots (l:=[(6,.int .u64 (L0:Int)),(7,.int .u64 (H0:Int)),(8,.int .u64 ((0:Nat):Int)),(9,.bool (.v false)),(10,.int .i64 63),(1,.int .u64 (z:Int))]) ⟨⟨rfl,zr⟩,⟨rfl,zr⟩,⟨rfl,zr⟩,⟨rfl,Sim.ff⟩,⟨rfl,zr⟩,⟨rfl,zr⟩,trivial⟩;refine j1 (l3 (ι:=Int×Nat×Nat×Nat×Bool) (fun p=>[(6,.int .u64 (p.2.1:Int)),(7,.int .u64 (p.2.2.1:Int)),(8,.int .u64 (p.2.2.2.1:Int)),(9,.bool (.v p.2.2.2.2)),(10,.int .i64 p.1)]) (fun p=>[]) (fun p=>[]) (fun p=> -1<=p.1/\p.1<=63/\(v,f0)=bmL z (p.1+1).toNat p.2.1 p.2.2.1 p.2.2.2.1 p.2.2.2.2/\p.2.1<2^64/\p.2.2.1<2^64) (fun p=>(p.1+1).toNat) (63,L0,H0,0,false) ⟨by dsimp only;omega,by dsimp only;omega,hrun,hl0,hh0⟩ Z ?_)
 rintro⟨at0,lo,hi,best,f⟩ ⟨ha0,ha1,hrun1,hlo,hhi⟩ _ _ Z
 try dsimp only at ha0
 try dsimp only at ha1
 try dsimp only at hrun1
 try dsimp only at hlo
 try dsimp only at hhi
 refine a7 (a6 [26,6,7,8,9,10,1] [] Z fun X6 Z=>?_);apply b7 Z rfl<;>intro hb Z
 .have hge:0<=at0:=by subst O;simpa[std,d4]using hb
  obtain⟨a,rfl⟩:∃a:Nat,at0=(a:Int):=⟨at0.toNat,by omega⟩
  have ha:a<64:=by omega
  rw[show((a:Int)+1).toNat=a+1 by omega]at hrun1;have SB:=Gg a ha;have hlw:=AT ha hlo;have hhw:=Br ha hhi;have hb1:=AN hz ha;have hb2:=AN hlo ha;have hb3:=AN hhi ha;have how:=LV ha;obtain⟨pw,hpw⟩:=eqv (2^a);rw[<-hpw]at hlw hhw hb1 hb2 hb3 how;obtain⟨bl,hbl⟩:=eqv (nS a);rw[<-hbl]at SB hlw hhw;obtain⟨zb,hzb⟩:=eqv (z.testBit a);rw[<-hzb]at hb1;obtain⟨lb,hlb⟩:=eqv (lo.testBit a);rw[<-hlb]at hb2;obtain⟨hh,hhh⟩:=eqv (hi.testBit a);rw[<-hhh]at hb3;obtain⟨lu,hlu⟩:=eqv (loU a lo);rw[<-hlu]at hlw;obtain⟨hd,hhd⟩:=eqv (hiD a hi);rw[<-hhd]at hhw;refine f8 (a7 (j1 (a7 ?_)));refine j5 [11,6,7,8,9,10,1] [] Z fun X8 Z=>?_
  replace Z:=Z.headS (v':=.int .u64 (pw:Int)) (by subst O;exact Sim.of_int2 how) rfl;refine a6 [43,6,7,8,9,10,1,11] [] Z fun X9 Z=>?_
  replace Z:=Z.headS (v':=.agg [.bool (.v zb),.bool (.v lb),.bool (.v hh)]) (by subst O;exact Sim.agg ⟨Sim.bool hb1,Sim.bool hb2,Sim.bool hb3,trivial⟩) rfl;refine j1 (a7 ?_);refine j5 [44,43,6,7,8,9,10,1,11] [] Z fun X10 Z=>?_
  apply b7 Z rfl<;>intro hb Z
  .have t1:zb=false/\lb=false/\hh=true:=by subst O;revert hb;cases zb<;>cases lb<;>cases hh<;>simp[std,eqL,eqC,BE.den]
   have O1:=SB;refine i9 [8,9,6,7,10,1,11,43] [] [(2,.r fun _=>.int .u64 (bl:Int))] Z fun X11 Z=>?_
   replace Z:=Z.headS (v':=.int .u64 (lu:Int)) (by subst O;exact Sim.of_int2 hlw) rfl;have O1:=SB;refine f7 [7,6,8,9,10,1] [] [(4,.r fun _=>.int .u64 (bl:Int))] Z fun X12 Z=>?_
   replace Z:=Z.slots (l:=[(6,.int .u64 (lo:Int)),(7,.int .u64 (hd:Int)),(8,.int .u64 (lu:Int)),(9,.bool (.v true)),(10,.int .i64 (a:Int)),(1,.int .u64 (z:Int))]) ⟨⟨rfl,zr⟩,⟨rfl,by subst O;exact Sim.of_int2 hhw⟩,⟨rfl,zr⟩,⟨rfl,Sim.tt⟩,⟨rfl,zr⟩,⟨rfl,zr⟩,trivial⟩;refine j5 [6,7,8,9,10,1] [] Z fun X7 Z=>?_
   have e9:B.arith .sub .i64 (a:Int) 1=(a:Int)-1:=by subst O;exact o8 (by omega) (by omega)
   exact⟨((a:Int)-1,lo,hd,lu,true),⟨by dsimp only;omega,by dsimp only;omega,by rw[show(((a:Int)-1,lo,hd,lu,true):Int×Nat×Nat×Nat×Bool).1+1=(a:Int)by dsimp only;omega,Int.toNat_natCast];exact(by rw[hrun1,hhd,hlu];exact Kz (hzb ▸ t1.1) (hlb ▸ t1.2.1) (hhh ▸ t1.2.2)),hlo,by rw[hhd];exact Jc ha hhi⟩,by dsimp only;omega,by rw[<-e9];exact Z⟩
  have nfft:¬(zb=false/\lb=false/\hh=true):=by subst O;revert hb;cases zb<;>cases lb<;>cases hh<;>simp[std,eqL,eqC,BE.den]
  refine a7 ?_;refine j5 [59,43,6,7,8,9,10,1,11] [] Z fun X13 Z=>?_
  apply b7 Z rfl<;>intro hb Z
  .have t1:zb=false/\lb=true/\hh=true:=by subst O;revert hb;cases zb<;>cases lb<;>cases hh<;>simp[std,eqL,eqC,BE.den]
   rw[My (hzb ▸ t1.1) (hlb ▸ t1.2.1) (hhh ▸ t1.2.2)]at hrun1;injection hrun1 with hv0 hf0
   refine a6 [4,5] [] Z fun X14 Z=>?_
   refine z7 Z ?_;subst O;rw[hv0,hf0]
   first|exact zr|exact Sim.tup ⟨zr,Sim.bool rfl,trivial⟩
  have nftt:¬(zb=false/\lb=true/\hh=true):=by subst O;revert hb;cases zb<;>cases lb<;>cases hh<;>simp[std,eqL,eqC,BE.den]
  refine a7 ?_;refine j5 [63,43,6,7,8,9,10,1,11] [] Z fun X15 Z=>?_
  apply b7 Z rfl<;>intro hb Z
  .have t1:zb=true/\lb=false/\hh=false:=by subst O;revert hb;cases zb<;>cases lb<;>cases hh<;>simp[std,eqL,eqC,BE.den]
   rw[Gf (hzb ▸ t1.1) (hlb ▸ t1.2.1) (hhh ▸ t1.2.2)]at hrun1;injection hrun1 with hv0 hf0
   refine a6 [4,5] [] Z fun X16 Z=>?_
   refine z7 Z ?_;subst O;rw[hv0,hf0]
   first|exact zr|exact Sim.tup ⟨zr,Sim.bool rfl,trivial⟩
  have ntff:¬(zb=true/\lb=false/\hh=false):=by subst O;revert hb;cases zb<;>cases lb<;>cases hh<;>simp[std,eqL,eqC,BE.den]
  refine a7 ?_;refine j5 [68,6,7,8,9,10,1,11] [] Z fun X17 Z=>?_
  apply b7 Z rfl<;>intro hb Z
  .have t1:zb=true/\lb=false/\hh=true:=by subst O;revert hb;cases zb<;>cases lb<;>cases hh<;>simp[std,eqL,eqC,BE.den]
   have O1:=SB;refine f7 [6,7,8,9,10,1] [] [(2,.r fun _=>.int .u64 (bl:Int))] Z fun X18 Z=>?_
   replace Z:=Z.headS (v':=.int .u64 (lu:Int)) (by subst O;exact Sim.of_int2 hlw) rfl;refine j5 [6,7,8,9,10,1] [] Z fun X7 Z=>?_
   have e9:B.arith .sub .i64 (a:Int) 1=(a:Int)-1:=by subst O;exact o8 (by omega) (by omega)
   exact⟨((a:Int)-1,lu,hi,best,f),⟨by dsimp only;omega,by dsimp only;omega,by rw[show(((a:Int)-1,lu,hi,best,f):Int×Nat×Nat×Nat×Bool).1+1=(a:Int)by dsimp only;omega,Int.toNat_natCast];exact(by rw[hrun1,hlu];exact Mx (hzb ▸ t1.1) (hlb ▸ t1.2.1) (hhh ▸ t1.2.2)),by rw[hlu];exact un ha hlo,hhi⟩,by dsimp only;omega,by rw[<-e9];exact Z⟩
  have ntft:¬(zb=true/\lb=false/\hh=true):=by subst O;revert hb;cases zb<;>cases lb<;>cases hh<;>simp[std,eqL,eqC,BE.den]
  refine j9 (j5 [6,7,8,9,10,1] [] Z fun X7 Z=>?_);have e9:B.arith .sub .i64 (a:Int) 1=(a:Int)-1:=by subst O;exact o8 (by omega) (by omega)
  exact⟨((a:Int)-1,lo,hi,best,f),⟨by dsimp only;omega,by dsimp only;omega,by rw[show(((a:Int)-1,lo,hi,best,f):Int×Nat×Nat×Nat×Bool).1+1=(a:Int)by dsimp only;omega,Int.toNat_natCast];exact(by rw[hrun1];exact Mz (by rw[<-hzb,<-hlb,<-hhh];exact nfft) (by rw[<-hzb,<-hlb,<-hhh];exact nftt) (by rw[<-hzb,<-hlb,<-hhh];exact ntff) (by rw[<-hzb,<-hlb,<-hhh];exact ntft)),hlo,hhi⟩,by dsimp only;omega,by rw[<-e9];exact Z⟩
 have hlt:¬0<=at0:=by subst O;simpa[std,d4]using hb
 rw[show(at0+1).toNat=0 by omega]at hrun1;injection hrun1 with hv0 hf0
 refine j9 (a6 [4,5] [] Z fun X19 Z=>?_);refine z7 Z ?_;subst O;rw[hv0,hf0]
 first|exact zr|exact Sim.tup ⟨zr,Sim.bool rfl,trivial⟩
theorem zG{l:Lab}(hL:isL l=true)(hb:U64 l.bits):∃m:Nat,l.bits=(m:Int)/\m % 2^(64-l.len.toNat)=0/\m+(2^(64-l.len.toNat)-1)<2^64:=by
 obtain⟨a,h1,h2⟩:=Bk hL hb;have hp:0<2^(64-l.len.toNat):=Nat.pow_pos (by decide);exact⟨_,h1,Nat.mul_mod_right _ _,by omega⟩
theorem Dt{l:Lab}(hL:isL l=true)(hb:U64 l.bits):j0 .or .u64 l.bits (s3 .shr .u64 18446744073709551615 l.len)=l.bits+szL l-1:=by
 obtain⟨h0,h1,h2⟩:=r8 hL;rw[vo h0 h1];obtain⟨m,hm,hmod,hsum⟩:=zG hL hb;have hp:0<2^(64-l.len.toNat):=Nat.pow_pos (by decide);rw[hm,As (a:=m) (b:=2^(64-l.len.toNat)-1) (k:=64-l.len.toNat) hmod (by omega) hsum];unfold szL;omega
theorem sa{l:Lab}(hL:isL l=true)(hb:U64 l.bits):(l.bits+szL l-1==18446744073709551615) = !(gz l)/\(gz l=true->j0 .add .u64 (l.bits+szL l-1) 1=cS l)/\(gz l=false->cS l=0):=by
 have h1:=qr hL hb;have h2:=zD l;have h3:=hb.1;unfold gz cS
 by_cases h:l.bits+szL l=18446744073709551616
 .rw [if_pos h,decide_eq_true h]
  exact⟨by rw[h];rfl,fun h=>(by cases h),fun _=>rfl⟩
 rw[if_neg h,decide_eq_false h];refine⟨?_,fun _=>?_,fun h=>(by cases h)⟩
 .show _=false
  rw[beq_eq_false_iff_ne];omega
 show IntKind.u64.wrap _=_
 rw[IntKind.wrap_u64];omega
theorem Ie(l:Lab)(hL:isL l=true)(hb0:U64 l.bits):k9 Tryz.prog 31 [i6 l] (fun _=>.tup [.int .u64 l.bits,.int .u64 (l.bits+szL l-1),.int .i64 0]):=by
 intro m w hm hargs;have S:=fZ l hb0;rw[hL]at S;simp only[i6]at S hargs;have hll:=r8 hL;refine en 16 hm hargs Tryz.func31 fun B O a0 Z=>?_
 refine a6 [1] [1] Z fun X0 Z=>?_
 have O1:=S;refine a7 (i9 [7,1] [1] [(1,.r fun _=>.bool (.v true))] Z fun X1 Z=>?_);apply b7 Z rfl<;>intro hb Z
 .exfalso
  subst O;cases hb
 have O1:=hll.1;refine f8 (a7 (drg O a8 [2,3,4] [] [] Z fun X3 _ _ Z=>?_));refine z7 Z ?_;subst O;rw[<-Dt hL hb0];exact zr
theorem IG(l:Lab)(hL:isL l=true)(hb0:U64 l.bits):k9 Tryz.prog 146 [i6 l] (fun _=>.tup [.int .u64 (cS l),.bool (.v (gz l))]):=by
 intro m w hm hargs;have S:=Ie l hL hb0;obtain⟨nw1,nw2,nw3⟩:=sa hL hb0;obtain⟨hv,hhv⟩:=eqv (l.bits+szL l-1);rw[<-hhv]at S nw1 nw2;obtain⟨nb,hnb⟩:=eqv (gz l);rw[<-hnb]at nw1 nw2 nw3 ⊢;obtain⟨nk,hnk⟩:=eqv (cS l);rw[<-hnk]at nw2 nw3 ⊢;simp only[i6]at S hargs;refine en 21 hm hargs Tryz.func146 fun B O a0 Z=>?_
 refine a6 [1] [1] Z fun X0 Z=>?_
 have O1:=S;refine i9 [5,6] [] [(1,.r fun _=>.tup [.int .u64 l.bits,.int .u64 hv,.int .i64 0])] Z fun X1 Z=>?_
 refine a7 (a6 [18,5] [] Z fun X2 Z=>?_);apply b7 Z rfl<;>intro hb Z
 .have hn:nb=false:=by
   subst O;revert hb;simp only[std,d4,BE.den];rw[nw1];cases nb<;>simp
  refine a6 [2,3] [] Z fun X3 Z=>?_
  refine z7 Z ?_;subst O;rw[hn,nw3 hn];exact Sim.tup ⟨zr,Sim.bool rfl,trivial⟩
 have hn:nb=true:=by
  subst O;revert hb;simp only[std,d4,BE.den];rw[nw1];cases nb<;>simp
 refine f8 (a6 [2,3] [] Z fun X4 Z=>?_);refine z7 Z ?_;subst O;rw[hn,<-nw2 hn];exact Sim.tup ⟨zr,Sim.bool rfl,trivial⟩
theorem xS(n:Nat):Y6 (List.replicate n 49)=2^n-1:=by
 induction n with
 |zero=>rfl
 |succ n ih=>
  have hp:0<2^n:=Nat.pow_pos (by decide);rw[List.replicate_succ',Q6,ih,Nat.pow_succ]
  show(2^n-1)*2+1=_
  omega
theorem yu{l:Lab}(hL:isL l=true)(hb:U64 l.bits):((Y6 (co l.bits l.len.toNat++List.replicate (64-(co l.bits l.len.toNat).length) 49):Nat):Int)=l.bits+szL l-1:=by
 obtain⟨h0,h1,h2⟩:=r8 hL;have hn:l.len.toNat<=64:=by omega
 rw[bY _ hn,Q6,List.length_replicate,xS];unfold co;rw[iJ _ _ hn,iB,Nat.mod_eq_of_lt (nj (Y5 hb) hn)];have hp:0<2^(64-l.len.toNat):=Nat.pow_pos (by decide);unfold F5 at h2;unfold szL;omega
theorem EV(s:ByteArray)(hl:s.size<=64):k9 Tryz.prog 190 [.str s,.str ⟨#[49]⟩] (fun _=>.str (mkB (unB s++List.replicate (64-s.size) 49))):=by
 intro m w hm hargs;refine en 12 hm hargs Tryz.func190 fun B O a0 Z=>?_
 refine a6 [0,1] [] Z fun X0 Z=>?_
 refine a7 (j1 (l3 (ι:=Nat×ByteArray) (fun p=>[(0,.str p.2)]) (fun p=>[]) (fun p=>[]) (fun p=>p.1<=64-s.size/\p.2=mkB (unB s++List.replicate p.1 49)) (fun p=>64-p.1) (0,s) ⟨Nat.zero_le _,by simp[vM]⟩ Z ?_))
 rintro⟨i,o⟩ ⟨hi,ho⟩ _ _ Z
 try dsimp only at hi
 try dsimp only at ho
 refine a7 (a6 [7,0,1] [] Z fun X1 Z=>?_);apply b7 Z rfl<;>intro hb Z
 .have hsz:o.size=s.size+i:=by rw[ho,J5];simp[az]
  have hin:o.size<64:=by
   have:(o.size:Int)<64:=by subst O;simpa[std,d4]using hb
   omega
  refine f8 (j1 (j5 [0,1] [] Z (hob:=?hob) fun X2 Z=>?_))
  case hob=>
   intro X;subst O;refine⟨?_,trivial⟩
   show o.size+1<=maxLen
   simp only[maxLen];omega
  refine⟨(i+1,B.cat o ⟨#[49]⟩),⟨?_,?_⟩,by simp only;omega,Z⟩
  .simp only;omega
  subst O;rw[ho];show mkB _++mkB [49]=_;rw[fE,List.append_assoc,<-List.replicate_succ']
 have hsz:o.size=s.size+i:=by rw[ho,J5];simp[az]
 have hi2:¬o.size<64:=by
  have:¬(o.size:Int)<64:=by subst O;simpa[std,d4]using hb
  omega
 have hi3:i=64-s.size:=by omega
 refine j9 (a6 [4] [] Z fun X3 Z=>?_);refine N8 Z ?_;subst O;rw[<-hi3,<-ho];rfl
theorem pY(l:Lab)(hL:isL l=true)(hb0:U64 l.bits):k9 Tryz.prog 132 [i6 l] (fun _=>.tup [.int .u64 l.bits,.int .u64 (l.bits+szL l-1),.int .i64 0]):=by
 intro m w hm hargs;have S:=gn l hb0;rw[hL]at S;have hll:=r8 hL;have hf1:=yu hL hb0;have SB:=iy l hb0 hll.1 hll.2.1;have hdl:=bY l.bits (n:=l.len.toNat) (by omega);have hdm:=nm (v:=l.bits) (n:=l.len.toNat);obtain⟨ds,hds⟩:=eqv (co l.bits l.len.toNat);rw[<-hds]at SB hf1 hdl hdm;have SF:=EV (mkB ds) (by rw[J5];omega);rw[Y4,J5]at SF;have SN:=sd (mkB (ds++List.replicate (64-ds.length) 49)) (fun c hc=>by rw[Y4]at hc;rcases List.mem_append.1 hc with hc|hc;exact hdm c hc;exact .inr (List.eq_of_mem_replicate hc)) (by rw[J5];simp;omega);rw[Y4,hf1]at SN;obtain⟨f1,hf1⟩:=eqv (mkB (ds++List.replicate (64-ds.length) 49));rw[<-hf1]at SF SN;obtain⟨d1,hd1⟩:=eqv (mkB ds);rw[<-hd1]at SB SF;obtain⟨hv,hhv⟩:=eqv (l.bits+szL l-1);rw[<-hhv]at SN ⊢;simp only[i6]at S SB hargs;refine en 14 hm hargs Tryz.func132 fun B O a0 Z=>?_
 refine a6 [1] [1] Z fun X0 Z=>?_
 have O1:=S;refine a7 (i9 [7,1] [1] [(1,.r fun _=>.bool (.v true))] Z fun X1 Z=>?_);apply b7 Z rfl<;>intro hb Z
 .exfalso
  subst O;cases hb
 have O1:=SB;have O2:=SF;have O3:=SN;refine f8 (a7 (drg O a8 [2,3,4] [] [(3,.r fun _=>.str d1),(4,.r fun _=>.str f1),(5,.r fun _=>.int .u64 hv)] Z fun X3 _ _ Z=>?_));exact i8 ((rsp O a8 Z C5).1)
theorem vw(l:Lab)(hL:isL l=true)(hb0:U64 l.bits):k9 Tryz.prog 97 [i6 l] (fun _=>.tup [.int .u64 (cS l),.bool (.v (gz l))]):=by
 intro m w hm hargs;have S:=pY l hL hb0;obtain⟨nw1,nw2,nw3⟩:=sa hL hb0;obtain⟨hv,hhv⟩:=eqv (l.bits+szL l-1);rw[<-hhv]at S nw1 nw2;obtain⟨nb,hnb⟩:=eqv (gz l);rw[<-hnb]at nw1 nw2 nw3 ⊢;obtain⟨nk,hnk⟩:=eqv (cS l);rw[<-hnk]at nw2 nw3 ⊢;simp only[i6]at S hargs;refine en 21 hm hargs Tryz.func97 fun B O a0 Z=>?_
 refine a6 [1] [1] Z fun X0 Z=>?_
 have O1:=S;refine i9 [5,6] [] [(1,.r fun _=>.tup [.int .u64 l.bits,.int .u64 hv,.int .i64 0])] Z fun X1 Z=>?_
 refine a7 (a6 [18,5] [] Z fun X2 Z=>?_);apply b7 Z rfl<;>intro hb Z
 .have hn:nb=false:=by
   subst O;revert hb;simp only[std,d4,BE.den];rw[nw1];cases nb<;>simp
  refine a6 [2,3] [] Z fun X3 Z=>?_
  refine z7 Z ?_;subst O;rw[hn,nw3 hn];exact Sim.tup ⟨zr,Sim.bool rfl,trivial⟩
 have hn:nb=true:=by
  subst O;revert hb;simp only[std,d4,BE.den];rw[nw1];cases nb<;>simp
 refine f8 (a6 [2,3] [] Z fun X4 Z=>?_);refine z7 Z ?_;subst O;rw[hn,<-nw2 hn];exact Sim.tup ⟨zr,Sim.bool rfl,trivial⟩
def rF(r:Option Nat):Fence:={ Fence.wide with round:=r }
@[simp] theorem rF_round (r : Option Nat) : (rF r).round = r := rfl
theorem vC(r:Option Nat)(n:Nat):(rF r).room n:=fun d hd=>by cases hd
theorem jY(r:Option Nat)(f:FuncId):(rF r).fn f:=trivial
theorem iz(r:Option Nat)(n:Nat):(rF r).depth.isSome=true->1<=n:=fun h=>by cases h
section
variable {P:Program} {n:Nat} {r:Option Nat}
theorem Gd{f:FuncId}{args:Array Value}{w:World}{R:Ending->World->Prop}(h:Calls P f args w R):CallsIn (rF r) n P f args w R:=callsIn_wide (n:=n).2 h
theorem DN{row:String}{args:Array Value}{w:World}{R:Value->World->Prop}(h:Rows P row args w R):RowsIn (rF r) n P row args w R:=fun c cs _=>by
 obtain⟨v,w',hr,hs⟩:=h c cs;exact⟨v,w',hr,stepsIn_wide.2 hs⟩
def U9(l:List Oper):Bool:=l.all fun o=>match o.op with| .defer _=>false|_=>true
theorem Au{o:Oper}(hd:∀c,o.op ≠ .defer c){a:Act}{w:World}{next next':Act->World->Prop}{Q Q':Exit->Act->World->Prop}(hN:∀a w,next a w->next' a w)(hQ:∀e a w,Q e a w->Q' e a w)(h:o.wp P a w next Q):o.wpIn (rF r) n P a w next' Q':=by
 refine⟨fun f _=>jY r f,?_⟩;rw[Oper.semAt_eq _ _ _ hd];unfold Oper.wp at h
 generalize (execOp a.eval o).run P w=res at h
 have hmap:∀f args w',Calls P f args w' (fun| .returned v,w''=>next (a.put o.dst v) w''| .panicked chain,w''=>Q (.panic chain) a w''| .outgrown,_=>LetsOut Q) →
   Calls P f args w' (fun| .returned v,w''=>next' (a.put o.dst v) w''| .panicked chain,w''=>Q' (.panic chain) a w''| .outgrown,_=>LetsOut Q'):=fun f args w' h=>by
  refine h.mono ?_;intro e w'' he
  cases e with
  |returned v=>exact hN _ _ he
  |panicked chain=>exact hQ _ _ _ he
  |outgrown=>obtain⟨a,w,he⟩:=he;exact⟨a,w,hQ _ _ _ he⟩
 cases res with
 |ok nx w'=>
  cases nx with
  |value v=>exact hN _ _ h
  |skip=>exact hN _ _ h
  |defer d=>exact hN _ _ h
  |enter f args=>exact⟨iz r n,Gd (hmap _ _ _ h)⟩
  |row row args=>exact⟨iz r n,DN (h.mono fun v w' hv=>hN _ _ hv)⟩
  |_=>exact h.elim
 |halt hh w'=>
  cases hh with
  |panic v=>exact hQ _ _ _ h
  |_=>exact h.elim
theorem dG{ops:Array Oper}{Q Q':Exit->Act->World->Prop}{rest:List Oper}(hO:∀a w,¬Q .outgrown a w)(hQ:∀e a w,e ≠ .normal->Q e a w->Q' e a w)(hN:∀a w,Q .normal a w->wpListIn (rF r) n P ops Q' rest a w) :
  ∀(L:List Oper) (a:Act) (w:World),U9 L=true->wpList P ops Q L a w->wpListIn (rF r) n P ops Q' (L++rest) a w
 | [],a,w,_,h=>hN a w h
 |o::L,a,w,hd,h=>by
  have hd1:∀c,o.op ≠ .defer c:=fun c e=>by unfold U9 at hd;simp[e]at hd
  have hd2:U9 L=true:=by unfold U9 at hd ⊢;rw[List.all_cons,Bool.and_eq_true]at hd;exact hd.2
  show(if Region.wanted o (yielded ops a.tmps)then o.wpIn (rF r) n P a w (wpListIn (rF r) n P ops Q' (L++rest)) Q' else(∀f,o.about P w a.eval=some f->(rF r).fn f)/\wpListIn (rF r) n P ops Q' (L++rest) (a.put o.dst undef) w)
  unfold wpList at h
  by_cases hw:Region.wanted o (yielded ops a.tmps)=true
  .rw [if_pos hw]at h ⊢
   rcases h with h|⟨_,a',w',h⟩
   .-- Q may be met at .normal by the list's end only
    have H:o.wp P a w (wpListIn (rF r) n P ops Q' (L++rest)) Q:=by
     unfold Oper.wp at h ⊢
     generalize (execOp a.eval o).run P w=res at h
     cases res with
     |ok nx w'=>
      cases nx with
      |value v=>exact dG hO hQ hN L _ _ hd2 h
      |skip=>exact dG hO hQ hN L _ _ hd2 h
      |defer d=>exact dG hO hQ hN L _ _ hd2 h
      |enter f args=>
       refine Calls.mono h ?_;intro e w'' he
       cases e with
       |returned v=>exact dG hO hQ hN L _ _ hd2 he
       |panicked chain=>exact he
       |outgrown=>exact he
      |row row args=>exact Rows.mono h fun v w' hv=>dG hO hQ hN L _ _ hd2 hv
      |_=>exact h.elim
     |halt hh w'=>
      cases hh with
      |panic v=>exact h
      |_=>exact h.elim
    have H2:o.wp P a w (wpListIn (rF r) n P ops Q' (L++rest)) (fun e a w=>e ≠ .normal/\Q e a w):=by
     unfold Oper.wp at H ⊢
     generalize (execOp a.eval o).run P w=res at H
     cases res with
     |ok nx w'=>
      cases nx with
      |value v=>exact H
      |skip=>exact H
      |defer d=>exact H
      |enter f args=>
       refine Calls.mono H ?_;intro e w'' he
       cases e with
       |returned v=>exact he
       |panicked chain=>exact⟨by simp,he⟩
       |outgrown=>obtain⟨a,w,he⟩:=he;exact absurd he (hO a w)
      |row row args=>exact H
      |_=>exact H.elim
     |halt hh w'=>
      cases hh with
      |panic v=>exact⟨by simp,H⟩
      |_=>exact H.elim
    exact Au hd1 (fun _ _ h=>h) (fun e a w h=>hQ e a w h.1 h.2) H2
   exact absurd h (hO _ _)
  rw[if_neg hw]at h ⊢;exact⟨fun f _=>jY r f,dG hO hQ hN L _ _ hd2 h⟩
theorem rR{id:Nat}{l:List Oper}{Q:Exit->Act->World->Prop}{a:Act}{w:World}(hO:∀a w,¬Q .outgrown a w)(hd:U9 l=true)(h:wpList P l.toArray Q l a w):(Code.region id l.toArray false).wpIn (rF r) n P Q a w:=by
 refine wpIn_region_lit ?_;have:=dG (r:=r) (n:=n) (Q':=Q) (rest:=[]) hO (fun _ _ _ _ h=>h) (fun _ _ h=>h) l a w hd h
 rwa[List.append_nil]at this
def tR(P:Program)(l:Nat)(R:Ending->World->Prop):Exit->Act->World->Prop
 | .normal,_,w=>∃v w',(Instr.endRound l none).run P w = .ok v w'/\R (.returned v) w'
 | .ret,_,w=>∃v w',(Instr.endRound l (some .ret)).run P w = .ok v w'/\R (.returned v) w'
 | .exit id,_,w=>∃v w',(Instr.endRound l (some (.exit id))).run P w = .ok v w'/\R (.returned v) w'
 | .goto t,_,w=>∃v w',(Instr.endRound l (some (.goto t))).run P w = .ok v w'/\R (.returned v) w'
 | .panic chain,a,w=>a.defers=[]/\R (.panicked chain) w
 | .outgrown,_,_=>False
theorem DP{l:Nat}{f:FuncId}{fn:Func}(hfn:P.funcs[f]? = some fn){tmps:Array Value}{assign body:Code}{w:World}{R:Ending->World->Prop}
  (h:assign.wpIn (rF (some l)) n P (Exit.then (fun a₁ w₁=>∃w₂,(Instr.beginRound l).run P w₁ = .ok () w₂/\body.wpIn (rF (some l)) n P (tR P l R) a₁ w₂) (fun _ _ _=>False)) { tmps:=tmps,defers:=[] } w) :
  RoundIn (rF none) n P l f tmps assign body w R:=by
 refine⟨jY none f,fun c cs hr=>?_⟩
 let b:Frame:={ (default:Frame)with fn:=f,kind:=.normal,roundOf:=some l }
 have hb0:Frame.round l f tmps assign body .normal=b.atR { tmps:=tmps,defers:=[] } [.code assign,.beginRound,.code body]:=by
  simp[Frame.round,Frame.atR,b]
 have hro:b.roundOf=(rF (some l)).round:=rfl;obtain⟨e,a₁,w₁,hq,harr⟩:=h b [.beginRound,.code body] (c::cs) hro (jY _ _) (vC _ _);rw[<-hb0]at harr
 cases e with
 |normal=>
  obtain⟨w₂,hbr,hbody⟩:=hq;have s1:StepsIn (Machine.fenced P (rF (some l))) P (lone (b.atR a₁ [.beginRound,.code body]) (c::cs) w₁) (lone (b.atR a₁ [.code body]) (c::cs) w₂):=
   .one (fenced_wide P _) (stepR_beginRound rfl hbr)
  obtain⟨e₂,a₂,w₃,hq₂,harr₂⟩:=hbody b [] (c::cs) hro (jY _ _) (vC _ _)
  cases e₂ with
  |normal=>
   obtain⟨v,w₄,hend,hR⟩:=hq₂;exact⟨.returned v,w₄,hR,(StepsIn.trans harr s1).trans (StepsIn.trans harr₂ (.one (fenced_wide P _) (stepR_round_end rfl rfl hend)))⟩
  |ret=>
   obtain⟨v,w₄,hend,hR⟩:=hq₂;obtain⟨k₁,hs⟩:=harr₂.2 rfl;exact⟨.returned v,w₄,hR,(StepsIn.trans harr s1).trans (StepsIn.trans hs (.one (fenced_wide P _) (stepR_round_ret rfl rfl hend)))⟩
  |exit id=>
   obtain⟨v,w₄,hend,hR⟩:=hq₂;obtain⟨k₁,hk,hs⟩:=harr₂.2 rfl rfl;exact⟨.returned v,w₄,hR,(StepsIn.trans harr s1).trans (StepsIn.trans hs (.one (fenced_wide P _) (stepR_round_exit rfl rfl hk hend)))⟩
  |goto t=>
   obtain⟨v,w₄,hend,hR⟩:=hq₂;obtain⟨k₁,hk,hs⟩:=harr₂.2 rfl rfl;exact⟨.returned v,w₄,hR,(StepsIn.trans harr s1).trans (StepsIn.trans hs (.one (fenced_wide P _) (stepR_round_goto rfl rfl hk hend)))⟩
  |panic chain=>
   obtain⟨hd,hR⟩:=hq₂;obtain⟨todo,hs⟩:=harr₂;exact⟨.panicked chain,w₃,hR,(StepsIn.trans harr s1).trans (StepsIn.trans hs (.one (fenced_wide P _) (step_leave_panicked (fr:={ b.atR a₂ todo with mode:=.panicking chain }) ⟨rfl,hd,fn,hfn⟩)))⟩
  |outgrown=>exact hq₂.elim
 |exit id=>exact hq.elim
 |goto t=>exact hq.elim
 |ret=>exact hq.elim
 |panic chain=>exact hq.elim
 |outgrown=>exact hq.elim
end
def wpN(fn:FuncId)(P:Program)(c:Code)(Q:Exit->Act->World->Prop)(a:Act)(w:World):Prop:=
 ∀(b:Frame) (k:List Item) (cs:List Frame),b.fn=fn->∃e a' w',Q e a' w'/\Arrives P (lone (b.at a (.code c::k)) cs w) b k cs e a' w'
section
variable {P:Program} {fn:FuncId} {Q:Exit->Act->World->Prop} {a:Act} {w:World}
theorem Y1{c:Code}(h:c.wp P Q a w):wpN fn P c Q a w:=fun b k cs _=>h b k cs
theorem P3{x y:Code}(h:wpN fn P x (Exit.then (wpN fn P y Q) Q) a w):wpN fn P (Code.seq x y) Q a w:=by
 intro b k cs hb;obtain⟨e,a₁,w₁,hq,harr⟩:=h b (.code y::k) cs hb
 cases e with
 |normal=>
  obtain⟨e₂,a₂,w₂,hq₂,harr₂⟩:=hq b k cs hb;exact⟨e₂,a₂,w₂,hq₂,.of_steps (.head step_seq harr) harr₂⟩
 |exit id=>exact⟨_,a₁,w₁,hq,.of_steps (.one step_seq) (.pass (x:=.code y) rfl (fun _ _=>.inl (by simp)) harr)⟩
 |goto l=>exact⟨_,a₁,w₁,hq,.of_steps (.one step_seq) (.pass (x:=.code y) rfl (fun _ _=>.inl (by simp)) harr)⟩
 |ret=>exact⟨_,a₁,w₁,hq,.of_steps (.one step_seq) (.pass (x:=.code y) rfl (fun _ _=>.inl (by simp)) harr)⟩
 |panic ch=>exact⟨_,a₁,w₁,hq,.of_steps (.one step_seq) (.pass (x:=.code y) rfl (fun _ _=>.inl (by simp)) harr)⟩
 |outgrown=>exact⟨_,a₁,w₁,hq,.of_steps (.one step_seq) (.pass (x:=.code y) rfl (fun _ _=>.inl (by simp)) harr)⟩
def It(P:Program)(l:Nat)(Q:Exit->Act->World->Prop)(a':Act):Ending->World->Prop
 | .returned _,w₃=>∃jump w₄,(Instr.endLoop l).run P w₃ = .ok jump w₄/\(match jump with
   |none=>Q .normal a' w₄
   |some c=>c.wp P Q a' w₄)
 | .panicked chain,w₃=>Q (.panic chain) a' w₃
 | .outgrown,_=>LetsOut Q
def P4(fn:FuncId)(a:Act)(ps:Array Tmp)(assign body:Code)(D:Nat)(st:LoopState)(pe:Option Code):Loop:={ state:=st,pending:=pe,fn,tmps:=a.tmps,params:=ps,assign,body,defers:=D }
def aE(fn:FuncId)(a:Act)(ps:Array Tmp)(assign body:Code)(w:World):World:=(w.alloc (.deferred (some []))).alloc (.loop (P4 fn a ps assign body w.heap.size .ready none))
theorem nU{g:Operand}{ps:Array Tmp}{assign body:Code}{gf:Nat}{lb:Array Value}(hg:a.eval g = .func (.func gf) #[] lb)(eg:∀args w,(callFunc gf args).run P w = .ok (.enter gf args) w)
  (h:Calls P gf (#[.func (.yield (w.heap.size+1)) #[] #[]]++lb) (aE fn a ps assign body w) (It P (w.heap.size+1) Q { a with defers:={ target:=.collected w.heap.size,args:=#[] }::a.defers })) :
  wpN fn P (Code.rangeFunc g ps assign body) Q a w:=by
 intro b0 k cs hb;have hat:∀a k,b0.at a k=({ b0 with roundOf:=none }:Frame).atR a k:=fun a k=>(Frame.atR_of_none (b:={ b0 with roundOf:=none }) rfl a k).symm
 obtain⟨b,hbd⟩:=eqv (({ b0 with roundOf:=none }:Frame));have hro:b.roundOf=none:=by rw[hbd]
 have hbf:b.fn=fn:=by rw[hbd];exact hb
 have he:(Instr.enterLoop b.fn a.tmps ps assign body b.roundOf).run P w = .ok (w.heap.size+1,[{ target:=.collected w.heap.size,args:=#[] }]) (aE fn a ps assign body w):=by
  rw[hro,hbf];exact run_enterLoop_outer _ _ _ _ _
 have hres:(resolve a.eval (rangeCall g (w.heap.size+1)) 0).run P (aE fn a ps assign body w) = .ok { target:=.fn (.func gf) lb,args:=#[.func (.yield (w.heap.size+1)) #[] #[]] } (aE fn a ps assign body w):=by
  simp only[resolve,hg];simp[go_sem]
 have hinv:(invoke (.fn (.func gf) lb) #[.func (.yield (w.heap.size+1)) #[] #[]]).run P (aE fn a ps assign body w) = .ok (.enter gf (#[.func (.yield (w.heap.size+1)) #[] #[]]++lb)) (aE fn a ps assign body w):=by
  simp[invoke,go_sem,eg]
 have henter:=stepR_rangeFunc (P:=P) (b:=b) (a:=a) (k:=k) (cs:=cs) (w:=w) he hres hinv;obtain⟨e,w₃,fr,hR,hsteps,hfn,hleave⟩:=h (b.atR { a with defers:=[{ target:=.collected w.heap.size,args:=#[] }]++a.defers } (.inRangeFunc (w.heap.size+1)::k)::cs);have hbk:∀a k,b.atR a k=b0.at a k:=fun a k=>by rw[hbd,hat]
 rw[<-hbk]
 cases e with
 |outgrown=>
  obtain⟨a₀,w₀,hq⟩:=hR;exact⟨.outgrown,a₀,w₀,hq,.inr (Outgrown.of_steps (.one henter) hsteps)⟩
 |returned v=>
  obtain⟨jump,w₄,hend,hj⟩:=hR;have sback:Steps P (lone (b.atR a (.code (.rangeFunc g ps assign body)::k)) cs w) (lone (b.atR { a with defers:=[{ target:=.collected w.heap.size,args:=#[] }]++a.defers } ((jump.map Item.code).toList++k)) cs w₄):=by
   refine .head henter (Steps.trans hsteps (.head ?_ (.one (stepR_endRangeFunc hend))));rw[<-finish_atR_inRangeFunc (w.heap.size+1) v];exact step_leave_returned hleave
  cases jump with
  |none=>exact⟨.normal,_,w₄,hj,by rw[hbk]at sback ⊢;rw[hbk]at sback;exact sback⟩
  |some c=>
   obtain⟨e',a'',w₅,hq,harr⟩:=hj b0 k cs;refine⟨e',a'',w₅,hq,.of_steps sback ?_⟩;rw[hbk];exact harr
 |panicked chain=>
  refine⟨.panic chain,_,w₃,hR,.inRangeFunc (w.heap.size+1)::k,.head henter (Steps.trans hsteps (.one ?_))⟩;rw[<-hbk,<-Frame.raise_atR];exact step_leave_panicked hleave
theorem kz{f:FuncId}{fd:Func}{c:Code}{args:Array Value}{R:Ending->World->Prop}(hf:P.funcs[f]? = some fd)(hb:fd.body=some c)
  (h:wpN f P c (bodyPostM Fence.wide 0 P fd R) { tmps:=args++Array.replicate (fd.ntmps-args.size) undef,defers:=[] } w):Calls P f args w R:=by
 intro cs
 let b:Frame:={ (default:Frame)with fn:=f,kind:=.normal }
 have henter:Frame.enter P f args .normal=b.at { tmps:=args++Array.replicate (fd.ntmps-args.size) undef,defers:=[] } [.code c]:=by
  simp[Frame.enter,Frame.at,hf,hb,b]
 obtain⟨e,a',w',hq,harr⟩:=h b [] cs rfl;rw[<-henter]at harr
 cases e with
 |normal=>
  obtain⟨e',w'',fr',hR,hs,hfn,hl⟩:=leaves_stepsInM (F:=Fence.wide) a'.defers .returning w' { b.at a' []with mode:=.returning } cs rfl rfl rfl hf rfl trivial (room_wide _) hq;exact⟨e',w'',fr',hR,Comes.of_steps (Steps.trans harr (.one step_end)) (comesIn_wide.1 hs),hfn,hl⟩
 |ret=>
  obtain⟨todo,hs₀⟩:=harr;obtain⟨e',w'',fr',hR,hs,hfn,hl⟩:=leaves_stepsInM (F:=Fence.wide) a'.defers .returning w' { b.at a' todo with mode:=.returning } cs rfl rfl rfl hf rfl trivial (room_wide _) hq;exact⟨e',w'',fr',hR,Comes.of_steps hs₀ (comesIn_wide.1 hs),hfn,hl⟩
 |panic chain=>
  obtain⟨todo,hs₀⟩:=harr;obtain⟨e',w'',fr',hR,hs,hfn,hl⟩:=leaves_stepsInM (F:=Fence.wide) a'.defers (.panicking chain) w' { b.at a' todo with mode:=.panicking chain } cs rfl rfl rfl hf rfl trivial (room_wide _) hq;exact⟨e',w'',fr',hR,Comes.of_steps hs₀ (comesIn_wide.1 hs),hfn,hl⟩
 |exit id=>exact hq.elim
 |goto l=>exact hq.elim
 |outgrown=>exact⟨.outgrown,w',b,hq,harr.resolve_left (by simp[b]),rfl,trivial⟩
end
section
variable {m0:Nat->Nat->Prop} {w0 w w':World} {S:Nat->Prop} {ds:List Deferred} {K:Kn} {s:St} {a:Act} {P:Program}
abbrev bQ(D:Nat):Deferred:={ target:=.collected D,args:=#[] }
theorem kh(fn:FuncId)(a:Act)(ps:Array Tmp)(assign body:Code)(w:World):Below w.heap.size w (aE fn a ps assign body w):=
 ((Below.refl _ w).alloc (Nat.le_refl _) _).alloc (by simp) _
theorem oy(fn:FuncId)(a:Act)(ps:Array Tmp)(assign body:Code)(w:World):(aE fn a ps assign body w).heap[w.heap.size+1]? = some (.loop (P4 fn a ps assign body w.heap.size .ready none)):=by
 have:=World.alloc_heap_new (w.alloc (.deferred (some []))) (.loop (P4 fn a ps assign body w.heap.size .ready none))
 rwa[World.size_alloc]at this
theorem mz(fn:FuncId)(a:Act)(ps:Array Tmp)(assign body:Code)(w:World):(aE fn a ps assign body w).heap[w.heap.size]? = some (.deferred (some [])):=
 (Below.heap_alloc _ _ _ (by simp)).trans (World.alloc_heap_new w _)
theorem sm{fd:Func}{R:Ending->World->Prop}{D:Nat}{chain:List PanicEntry}(hd:a.defers=[bQ D])(hk:w.heap[D]? = some (.deferred (some [])))(h:R (.panicked chain) (w.putObj D (.deferred none))):bodyPostM Fence.wide 0 P fd R (.panic chain) a w:=by
 show LeavesInM Fence.wide 0 P fd a.tmps R a.defers (.panicking chain) w
 rw[hd];exact⟨by simp,.inl ⟨D,_,rfl,run_takeDeferred hk,h⟩⟩
end
section
variable {m0:Nat->Nat->Prop} {w0 wi w:World} {S:Nat->Prop} {ds di:List Deferred} {K:Kn} {s si:St} {a ai:Act}
def okK(V:List AV):Kn:=⟨fun m w=>∀v∈V,Ok m w v,fun k h v hv=>k.ok (h v hv)⟩
def LL(l:Nat)(r:Loop)(D:Nat):Kn:=⟨fun _ w=>w.heap[l]? = some (.loop r)/\w.heap[D]? = some (.deferred (some [])),fun k h=>⟨k.obj _ _ h.1 (fun _ _ _ e=>by cases e),k.obj _ _ h.2 (fun _ _ _ e=>by cases e)⟩⟩
theorem over(hc:i5 ⟨m0,w0,S,ds,K⟩ s a wi){pre:List (Nat×Blk)}(hi:i5 ⟨s.m ⟨m0,w0,S,ds,K⟩,wi,ats pre,di,noK⟩ si ai w)(hdist:pre.Pairwise fun e f=>e.2.at_≠f.2.at_)(hp:∀e∈pre,j7 s.mem e.1=some e.2){sets:List (Nat×List AV)}{news:List (Nat×Blk)}{ks:List Nat}(hs:C2 si pre sets)(hn:K6 si pre ks news) :
  i5 ⟨m0,w0,S,ds,K⟩ (s.eff (.sets (upd pre sets++news))) a w/\∀v,Ok (si.m ⟨s.m ⟨m0,w0,S,ds,K⟩,wi,ats pre,di,noK⟩) w v->Ok ((s.eff (.sets (upd pre sets++news))).m ⟨m0,w0,S,ds,K⟩) w v:=by
 obtain⟨hl,hok⟩:=dI hi hs hn;obtain⟨f1,f2⟩:=hc.called hdist hp hl;exact⟨f1,fun v hv=>f2 v (hok v hv)⟩
end
section
variable {C:Cx} {P:Program} {Q:Exit->Act->World->Prop} {ops:Array Oper} {s:St} {a:Act} {w:World} {L rest:List Oper} {o:Oper}
abbrev yV(l:Nat):AV:=.raw (.func (.yield l) #[] #[])
theorem nT{c:Call}{g:Operand}{l:Nat}{args:List AV}(hop:o.op = .call c)(hcal:c.callee = .value g)(h:i5 C s a w)(hgv:val s [] g=yV l)(hl:Y3 s [] c.args.toList=some args){rc:Loop}(hr:w.heap[l]? = some (.loop rc))(hsz:args.length=rc.params.size) :
  (execOp a.eval o).run P w = .ok (.round l rc.fn ((rc.params.zip (args.map AV.den).toArray).foldl (fun tmps (t,a)=>tmps.setIfInBounds t a) rc.tmps) rc.assign rc.body) w/\∀v∈args,Ok (s.m C) w v:=by
 obtain⟨h1,h2⟩:=dt h (fun _ h=>by cases h) hl;have hg:=E6 h (q:=[]) (fun _ h=>by cases h) (x:=g) (by rw[hgv];rfl);rw[hgv]at hg;have hargs:c.args.map a.eval=(args.map AV.den).toArray:=by
  apply Array.ext'
  simpa using h1
 have e1:a.eval g = .func (.yield l) #[] #[]:=hg.1;refine⟨?_,h2⟩;have hy:=run_yield (P:=P) (args:=(args.map AV.den).toArray) hr (by simpa using hsz);simp[execOp,hop,resolve,hcal,e1,Deferred.ofValue,invoke,hargs]
 simpa using hy
theorem xm{i g:Nat}{want:Bool}(hg:o.guard=some (i,want))(hd:(ops[i]?).bind (·.dst)=some g)(h:i5 C s a w)(hv:look s.tmps g = .bool (if want then .tt else .ff)):Region.wanted o (yielded ops a.tmps)=true:=by
 have h1:=(h.slot g (by rw[hv];cases want<;>rfl)).1;rw[hv]at h1;simp only[Region.wanted,hg,yielded,hd,Option.bind_some]
 cases want<;>simp[h1,AV.den,BE.den]
theorem uf{c:Call}{g:Operand}{l:Nat}{args:List AV}(hL:L=o::rest)(hw:Region.wanted o (yielded ops a.tmps)=true)(hop:o.op = .call c)(hcal:c.callee = .value g)(h:i5 C s a w)(hgv:val s [] g=yV l)(hl:Y3 s [] c.args.toList=some args){rc:Loop}(hr:w.heap[l]? = some (.loop rc))(hsz:args.length=rc.params.size)
  (K:(∀v∈args,Ok (s.m C) w v)->RoundIn (rF none) 0 P l rc.fn ((rc.params.zip (args.map AV.den).toArray).foldl (fun tmps (t,a)=>tmps.setIfInBounds t a) rc.tmps) rc.assign rc.body w fun
   | .returned v,w''=>wpListIn (rF none) 0 P ops Q rest (a.put o.dst v) w''
   | .panicked chain,w''=>Q (.panic chain) a w''
   | .outgrown,_=>LetsOut Q):wpListIn (rF none) 0 P ops Q L a w:=by
 subst hL;obtain⟨hrun,hok⟩:=nT (P:=P) hop hcal h hgv hl hr hsz
 show(if Region.wanted o (yielded ops a.tmps)then o.wpIn (rF none) 0 P a w (wpListIn (rF none) 0 P ops Q rest) Q else _)
 rw[if_pos hw];refine⟨fun f _=>jY none f,?_⟩;rw[Oper.semAt_eq _ _ _ (fun c' e=>by rw[hop]at e;cases e),hrun];exact⟨iz none 0,K hok⟩
theorem xU{c:Call}{g:Operand}{l:Nat}{args:List AV}(hL:L=o::rest)(hgd:o.guard=none)(hop:o.op = .call c)(hcal:c.callee = .value g)(h:i5 C s a w)(hgv:val s [] g=yV l)(hl:Y3 s [] c.args.toList=some args){rc:Loop}(hr:w.heap[l]? = some (.loop rc))(hsz:args.length=rc.params.size)
  (K:(∀v∈args,Ok (s.m C) w v)->RoundIn (rF none) 0 P l rc.fn ((rc.params.zip (args.map AV.den).toArray).foldl (fun tmps (t,a)=>tmps.setIfInBounds t a) rc.tmps) rc.assign rc.body w fun
   | .returned v,w''=>wpListIn (rF none) 0 P ops Q rest (a.put o.dst v) w''
   | .panicked chain,w''=>Q (.panic chain) a w''
   | .outgrown,_=>LetsOut Q):wpListIn (rF none) 0 P ops Q L a w:=by
 subst hL;obtain⟨hrun,hok⟩:=nT (P:=P) hop hcal h hgv hl hr hsz;have hw:Region.wanted o (yielded ops a.tmps)=true:=by unfold Region.wanted;rw[hgd]
 show(if Region.wanted o (yielded ops a.tmps)then o.wpIn (rF none) 0 P a w (wpListIn (rF none) 0 P ops Q rest) Q else _)
 rw[if_pos hw];refine⟨fun f _=>jY none f,?_⟩;rw[Oper.semAt_eq _ _ _ (fun c' e=>by rw[hop]at e;cases e),hrun];exact⟨iz none 0,K hok⟩
end
section
variable {P:Program} {w:World}
def zV(l:Nat)(r:Loop)(R:Ending->World->Prop):Exit->Act->World->Prop
 | .normal,_,w=>w.heap[l]? = some (.loop { r with state:=.busy })/\R (.returned (.bool true)) (w.putObj l (.loop { r with state:=.ready,pending:=none }))
 | .ret,_,w=>w.heap[l]? = some (.loop { r with state:=.busy })/\R (.returned (.bool false)) (w.putObj l (.loop { r with state:=.done,pending:=some .ret }))
 | .exit id,_,w=>w.heap[l]? = some (.loop { r with state:=.busy })/\R (.returned (.bool false)) (w.putObj l (.loop { r with state:=.done,pending:=some (.exit id) }))
 | .goto t,_,w=>w.heap[l]? = some (.loop { r with state:=.busy })/\R (.returned (.bool false)) (w.putObj l (.loop { r with state:=.done,pending:=some (.goto t) }))
 | .panic chain,a,w=>a.defers=[]/\R (.panicked chain) w
 | .outgrown,_,_=>False
theorem zT{l:Nat}{r:Loop}{fd:Func}(hfn:P.funcs[r.fn]? = some fd)(hst:r.state = .ready){tmps:Array Value}{R:Ending->World->Prop}
  (h:r.assign.wpIn (rF (some l)) 0 P (Exit.then (fun a₁ w₁=>w₁.heap[l]? = some (.loop r)/\r.body.wpIn (rF (some l)) 0 P (zV l r R) a₁ (w₁.putObj l (.loop { r with state:=.busy }))) (fun _ _ _=>False)) { tmps:=tmps,defers:=[] } w) :
  RoundIn (rF none) 0 P l r.fn tmps r.assign r.body w R:=by
 refine DP hfn (wpIn_mono h ?_);intro e a₁ w₁ he
 cases e with
 |normal=>
  obtain⟨hl,hb⟩:=he;refine⟨_,run_beginRound hl hst,wpIn_mono hb ?_⟩;intro e a w he
  cases e with
  |normal=>exact⟨_,_,run_endRound none he.1,he.2⟩
  |ret=>exact⟨_,_,run_endRound (some .ret) he.1,he.2⟩
  |exit id=>exact⟨_,_,run_endRound (some (.exit id)) he.1,he.2⟩
  |goto t=>exact⟨_,_,run_endRound (some (.goto t)) he.1,he.2⟩
  |panic chain=>exact he
  |outgrown=>exact he
 |exit id=>exact he
 |goto t=>exact he
 |ret=>exact he
 |panic chain=>exact he
 |outgrown=>exact he
def St.puts(s:St):List (Nat×AV)->St
 | []=>s
 |e::l=>(s.put (some e.1) e.2).puts l
theorem i5.puts{C:Cx}:∀{l:List (Nat×AV)} {s:St} {a:Act},i5 C s a w->(∀e∈l,e.1<s.nt/\Ok (s.m C) w e.2)->i5 C (s.puts l) { a with tmps:=l.foldl (fun t e=>t.setIfInBounds e.1 e.2.den) a.tmps } w
 | [],s,a,h,_=>h
 |e::l,s,a,h,hl=>by
  obtain⟨h1,h2⟩:=hl e (by simp);have hp:=h.put (some e.1) (fun t ht=>by injection ht with ht;subst ht;exact h1) e.2 (fun _=>h2) e.2.den (fun _=>rfl);exact i5.puts (l:=l) hp fun e' he'=>hl e' (by simp[he'])
end
section
variable {C:Cx} {P:Program} {Q:Exit->Act->World->Prop} {T:List (Nat×TI)} {s:St} {a:Act} {w:World} {B:Alg} {r:Option Nat}
theorem Np{all L:List Oper}{R:Alg->(Nat->j8)->St×List Ob}(i n:Nat)(O:B=std)(hT:o7 P T)(kp km:List Nat)(cs:List (Nat×CS))(h:i5 C s a w)(hO:∀a w,¬Q .outgrown a w)(hQ:∀X a' w',i5 C (R B X).1 a' w'->wpListIn (rF r) 0 P all.toArray Q (L.drop n) a' w')
  (hex:∀A X,(K3 A T cs X all (o9 i (L.take n)) s).map (fun r=>(r.1.keep kp km,r.2.1))=some (R A X)) (hob:∀X,i7 P C.K (R B X).2) (hd:U9 (L.take n)=true):wpListIn (rF r) 0 P all.toArray Q L a w:=by
 have h1:wpList P all.toArray (Exit.then (fun a w=>wpListIn (rF r) 0 P all.toArray Q (L.drop n) a w) Q) (L.take n) a w:=cV i O hT kp km cs h hex hob fun X a' w' hf=>hQ X a' w' hf
 have h2:=dG (r:=r) (n:=0) (ops:=all.toArray) (Q:=Exit.then (fun a w=>wpListIn (rF r) 0 P all.toArray Q (L.drop n) a w) Q) (Q':=Q) (rest:=L.drop n) (fun a w h=>hO a w h) (fun e a w hne h=>by cases e<;>first|exact absurd rfl hne|exact h) (fun a w h=>h) (L.take n) a w hd h1
 rwa[List.take_append_drop]at h2
theorem Ik{all L:List Oper}{R:Alg->(Nat->j8)->St×List Ob}(i n:Nat)(O:B=std)(hT:o7 P T)(kp km:List Nat)(cs:List (Nat×CS))(h:i5 C s a w)(hQ:∀X a' w',i5 C (R B X).1 a' w'->wpListIn (rF r) 0 P all.toArray Q (L.drop n) a' w')
  (hO:∀a w,¬Q .outgrown a w:=by first|exact fun _ _ h=>h|(intro a w h;obtain⟨x,h,_⟩:=h;cases h))
  (hex:∀A X,(K3 A T cs X all (o9 i (L.take n)) s).map (fun r=>(r.1.keep kp km,r.2.1))=some (R A X):=by intro A X;conv=>lhs;cbv) (hob:∀X,i7 P C.K (R B X).2:=by
   intro X;subst O
   first
   |exact trivial
   |(simp only[i7,Ob.holds,BE.den]<;>and_intros<;>(repeat first|trivial|rfl|exact O1|exact O2|exact O3|exact(fun _ _=>by kernel_rfl)|exact O1 _ _ _ rfl|exact O2 _ _ _ rfl|refine⟨?_,?_⟩|intro h|decide|omega)<;>done)
   |(simp[i7,Ob.holds,BE.den,std,d4,j0]<;>omega)) (hd:U9 (L.take n)=true:=by rfl):wpListIn (rF r) 0 P all.toArray Q L a w:=Np i n O hT kp km cs h hO hQ hex hob hd
theorem DQ{all L:List Oper}{R:Alg->(Nat->j8)->St×List Ob}(i:Nat)(O:B=std)(hT:o7 P T)(kp km:List Nat)(cs:List (Nat×CS))(h:i5 C s a w)(hQ:∀X a' w',i5 C (R B X).1 a' w'->Q .normal a' w')
  (hO:∀a w,¬Q .outgrown a w:=by first|exact fun _ _ h=>h|(intro a w h;obtain⟨x,h,_⟩:=h;cases h))
  (hex:∀A X,(K3 A T cs X all (o9 i L) s).map (fun r=>(r.1.keep kp km,r.2.1))=some (R A X):=by intro A X;conv=>lhs;cbv) (hob:∀X,i7 P C.K (R B X).2:=by
   intro X;subst O
   first
   |exact trivial
   |(simp only[i7,Ob.holds,BE.den]<;>and_intros<;>(repeat first|trivial|rfl|exact O1|exact O2|exact O3|exact(fun _ _=>by kernel_rfl)|exact O1 _ _ _ rfl|exact O2 _ _ _ rfl|refine⟨?_,?_⟩|intro h|decide|omega)<;>done)
   |(simp[i7,Ob.holds,BE.den,std,d4,j0]<;>omega)) (hd:U9 L=true:=by rfl):wpListIn (rF r) 0 P all.toArray Q L a w:=by
 have h1:=dG (r:=r) (n:=0) (Q':=Q) (rest:=[]) (fun a w h=>hO a w h) (fun e a w hne h=>h) (fun a w h=>h) L a w hd (cV (Q:=Q) i O hT kp km cs h hex hob hQ)
 rwa[List.append_nil]at h1
theorem rrg{id:Nat}{l:List Oper}{R:Alg->(Nat->j8)->St×List Ob}(O:B=std)(hT:o7 P T)(kp km:List Nat)(cs:List (Nat×CS))(h:i5 C s a w)(hQ:∀X a' w',i5 C (R B X).1 a' w'->Q .normal a' w')
  (hO:∀a w,¬Q .outgrown a w:=by first|exact fun _ _ h=>h|(intro a w h;obtain⟨x,h,_⟩:=h;cases h))
  (hex:∀A X,(K3 A T cs X l (o9 0 l) s).map (fun r=>(r.1.keep kp km,r.2.1))=some (R A X):=by intro A X;conv=>lhs;cbv) (hob:∀X,i7 P C.K (R B X).2:=by
   intro X;subst O
   first
   |exact trivial
   |(simp only[i7,Ob.holds,BE.den]<;>and_intros<;>(repeat first|trivial|rfl|exact O1|exact O2|exact O3|exact(fun _ _=>by kernel_rfl)|exact O1 _ _ _ rfl|exact O2 _ _ _ rfl|refine⟨?_,?_⟩|intro h|decide|omega)<;>done)
   |(simp[i7,Ob.holds,BE.den,std,d4,j0]<;>omega)) (hd:U9 l=true:=by rfl):(Code.region id l.toArray false).wpIn (rF r) 0 P Q a w:=
 rR hO hd (cV (all:=l) 0 O hT kp km cs h hex hob hQ)
end
section
variable {P:Program} {Q:Exit->Act->World->Prop} {C:Cx} {nt t:Nat} {b:Bool} {l:List (Nat×AV)} {mem:List (Nat×Blk)} {gr:List (Nat×Gr)} {a:Act} {w:World} {x y:Code} {r:Option Nat}
theorem LM{s:St}(h:i5 C s a w)(hv:look s.tmps t = .bool (.v b))(h1:b=true->x.wpIn (rF r) 0 P Q a w)(h2:b=false->y.wpIn (rF r) 0 P Q a w):(Code.cond (.tmp t) x y).wpIn (rF r) 0 P Q a w:=by
 have:=(h.slot t (by rw[hv];rfl)).1;rw[hv]at this;refine wpIn_cond_split (t:=b) ?_ h1 h2;simp[Act.eval,this,AV.den,BE.den]
theorem Af{s:St}(h:i5 C s a w)(hv:look s.tmps t = .bool .tt)(h1:x.wpIn (rF r) 0 P Q a w):(Code.cond (.tmp t) x y).wpIn (rF r) 0 P Q a w:=by
 have:=(h.slot t (by rw[hv];rfl)).1;rw[hv]at this;exact wpIn_cond_true (by simp[Act.eval,this,AV.den,BE.den]) h1
theorem Ag{s:St}(h:i5 C s a w)(hv:look s.tmps t = .bool .ff)(h1:y.wpIn (rF r) 0 P Q a w):(Code.cond (.tmp t) x y).wpIn (rF r) 0 P Q a w:=by
 have:=(h.slot t (by rw[hv];rfl)).1;rw[hv]at this;exact wpIn_cond_false (by simp[Act.eval,this,AV.den,BE.den]) h1
theorem cO(h:i5 C ⟨nt,(t,.bool (.v b))::l,[],mem,gr⟩ a w)(hd:(look l t).known=false)(h1:b=true->i5 C ⟨nt,l,[],mem,gr⟩ a w->x.wpIn (rF r) 0 P Q a w)(h2:b=false->i5 C ⟨nt,l,[],mem,gr⟩ a w->y.wpIn (rF r) 0 P Q a w):(Code.cond (.tmp t) x y).wpIn (rF r) 0 P Q a w:=
 LM h (by show look ((t,_)::l) t=_;rw[B6,if_pos rfl]) (fun hb=>h1 hb (h.tail hd)) (fun hb=>h2 hb (h.tail hd))
theorem lX(h:i5 C ⟨nt,(t,.bool .tt)::l,[],mem,gr⟩ a w)(hd:(look l t).known=false)(h1:i5 C ⟨nt,l,[],mem,gr⟩ a w->x.wpIn (rF r) 0 P Q a w):(Code.cond (.tmp t) x y).wpIn (rF r) 0 P Q a w:=
 Af h (by show look ((t,_)::l) t=_;rw[B6,if_pos rfl]) (h1 (h.tail hd))
theorem zR(h:i5 C ⟨nt,(t,.bool .ff)::l,[],mem,gr⟩ a w)(hd:(look l t).known=false)(h1:i5 C ⟨nt,l,[],mem,gr⟩ a w->y.wpIn (rF r) 0 P Q a w):(Code.cond (.tmp t) x y).wpIn (rF r) 0 P Q a w:=
 Ag h (by show look ((t,_)::l) t=_;rw[B6,if_pos rfl]) (h1 (h.tail hd))
end
section
variable {P:Program} {Q:Exit->Act->World->Prop} {r:Option Nat} {m0:Nat->Nat->Prop} {w0:World} {S:Nat->Prop} {ds:List Deferred}
theorem jy{ι : Type}(I:ι->Act->World->Prop)(J:ι->Prop)(μ : ι->Nat){c:Code}{a:Act}{w:World}(p₀:ι)(h₀:J p₀)(hf:I p₀ a w)
  (round:∀p,J p->∀a w,I p a w->c.wpIn (rF r) 0 P (Exit.then (fun a' w'=>∃p',J p'/\μ p'<μ p/\I p' a' w') Q) a w):(Code.loop c).wpIn (rF r) 0 P Q a w:=by
 intro b k fs hro hb hr;have key:∀n p a w,μ p=n->J p->I p a w →
   ∃e a' w',Q e a' w'/\ArrivesIn (Machine.fenced P (rF r)) P (lone (b.atR a (.code c :: .inLoop c::k)) fs w) b k fs e a' w':=by
  intro n
  induction n using Nat.strongRecOn with
  |_ n ih=>
   intro p a w hn hJ Z;obtain⟨e,a₁,w₁,hq,harr⟩:=round p hJ a w Z b (.inLoop c::k) fs hro hb hr
   cases e with
   |normal=>
    obtain⟨p',hJ',hlt,hF'⟩:=hq;obtain⟨e₂,a₂,w₂,hq₂,harr₂⟩:=ih (μ p') (hn ▸ hlt) p' a₁ w₁ rfl hJ' hF';exact⟨e₂,a₂,w₂,hq₂,.of_steps (StepsIn.trans harr (.one (fenced_wide P _) stepR_inLoop)) harr₂⟩
   |exit id=>exact⟨_,a₁,w₁,hq,.pass (x:=.inLoop c) rfl (fun _ _=>.inl (by simp)) harr⟩
   |goto l=>exact⟨_,a₁,w₁,hq,.pass (x:=.inLoop c) rfl (fun _ _=>.inl (by simp)) harr⟩
   |ret=>exact⟨_,a₁,w₁,hq,.pass (x:=.inLoop c) rfl (fun _ _=>.inl (by simp)) harr⟩
   |panic ch=>exact⟨_,a₁,w₁,hq,.pass (x:=.inLoop c) rfl (fun _ _=>.inl (by simp)) harr⟩
   |outgrown=>exact⟨_,a₁,w₁,hq,.pass (x:=.inLoop c) rfl (fun _ _=>.inl (by simp)) harr⟩
 obtain⟨e,a',w',hq,harr⟩:=key _ p₀ a w rfl h₀ hf;exact⟨e,a',w',hq,.of_steps (.one (fenced_wide P _) stepR_loop) harr⟩
end
section
variable {P:Program} {f:FuncId} {fn:Func} {c:Code} {R:Ending->World->Prop} {m:Nat->Nat->Prop} {w:World} {pre:List (Nat×Blk)} {args:List AV}
theorem enY(nt:Nat)(hm:∀b o,m b o->b<w.heap.size)(hp:R1 m w pre)(hargs:∀v∈args,Ok m w v)(hf:P.funcs[f]? = some fn)(h:∀B,B=std->∀a,i5 ⟨m,w,ats pre,[],noK⟩ ⟨nt,C8 0 args,[],pre,[]⟩ a w->c.wpIn (rF none) 0 P (bodyPost P fn R) a w)(hb:fn.body=some c:=by rfl)(hnt:fn.ntmps=nt:=by rfl)(hn:args.length<=nt:=by exact Nat.le_of_ble_eq_true rfl):Calls P f (args.map AV.den).toArray w R:=
 enX nt hm hp hargs hf (fun B O a Z=>(wpIn_wide (n:=0)).1 (h B O a Z)) hb hnt hn
end
section
variable {C:Cx} {P:Program} {Q:Exit->Act->World->Prop} {T:List (Nat×TI)} {B:Alg} {r:Option Nat} {ops:Array Oper}
theorem LU{l:List Oper}(h:U9 l=true){o:Oper}(ho:o∈l):∀c,o.op ≠ .defer c:=fun c e=>by
 have:=List.all_eq_true.1 h o ho;rw[e]at this;cases this
theorem wY(hO:∀a w,¬Q .outgrown a w)(hd:∀o∈ops,∀c,o.op ≠ .defer c){md:Region.Mode}:∀(fuel:Nat) (listed:Array Bool) (a:Act) (w:World),wpAny P md ops Q fuel listed a w->wpAnyIn (rF r) 0 P md ops Q fuel listed a w
 |0,listed,a,w,h=>h
 |fuel+1,listed,a,w,h=>by
  refine⟨h.1,fun i hi=>?_⟩;have h2:=h.2 i hi;unfold wpOp at h2;unfold wpOpIn
  cases ho:ops[i]? with
  |none=>rw[ho]at h2;exact wY hO hd fuel _ _ _ h2
  |some o=>
   rw[ho]at h2;simp only at h2 ⊢
   by_cases hw:Region.wanted o (yielded ops a.tmps)=true
   .rw [if_pos hw]at h2 ⊢
    rcases h2 with h2|⟨_,a',w',h2⟩
    .exact Au (hd o (Array.mem_of_getElem? ho)) (fun a w h=>wY hO hd fuel _ a w h) (fun _ _ _ h=>h) h2
    exact absurd h2 (hO _ _)
   rw[if_neg hw]at h2 ⊢;exact⟨fun f _=>jY r f,wY hO hd fuel _ _ _ h2⟩
end
theorem nV{P:Program}{fn:FuncId}{Q:Exit->Act->World->Prop}{a:Act}{w:World}{id:Nat}{c:Code}(h:wpN fn P c (Exit.inBlock id Q) a w):wpN fn P (Code.block id c) Q a w:=by
 intro b k cs hb;obtain⟨e,a₁,w₁,hq,harr⟩:=h b (.inBlock id::k) cs hb
 cases e with
 |normal=>exact⟨.normal,a₁,w₁,hq,.head step_block (Steps.trans harr (.one step_inBlock))⟩
 |exit id'=>
  by_cases hid:id'=id
  .simp only[Exit.inBlock,hid,if_true]at hq
   exact⟨.normal,a₁,w₁,hq,.head step_block (harr k (by simp[exitTo,hid]))⟩
  simp only[Exit.inBlock,hid,if_false]at hq;refine⟨.exit id',a₁,w₁,hq,fun k' hk=>.head step_block (harr k' ?_)⟩;have:(id==id')=false:=by simp;exact fun h=>hid h.symm
  simp[exitTo,this,hk]
 |goto l=>exact⟨_,a₁,w₁,hq,fun k' hk=>.head step_block (harr k' (by simp[gotoIn,hk]))⟩
 |ret=>exact⟨_,a₁,w₁,hq,.of_steps (.one step_block) harr⟩
 |panic ch=>exact⟨_,a₁,w₁,hq,.of_steps (.one step_block) harr⟩
 |outgrown=>exact⟨_,a₁,w₁,hq,.of_steps (b:=b) (k:=k) (cs:=cs) (e:=.outgrown) (.one step_block) harr⟩
def okT(tm:List (Nat×AV)):Kn:=⟨fun m w=>∀t,(look tm t).known=true->Ok m w (look tm t),fun k h t ht=>k.ok (h t ht)⟩
def aV(nt:Nat)(tm:List (Nat×AV))(ds:List Deferred)(a:Act):Prop:=a.tmps.size=nt/\a.defers=ds/\∀t,(look tm t).known=true->a.tmps[t]? = some (look tm t).den
def Kn.under(K:Kn)(n:Nat):Prop:=∀l,n<=l->∀{w m w' m'},ae (some l) w m w' m'->K.p m w->K.p m' w'
def Kn.off(K:Kn)(l:Nat):Prop:=∀{w m w' m'},ae (some l) w m w' m'->K.p m w->K.p m' w'
theorem Kn.under.off{K:Kn}{n l:Nat}(h:K.under n)(hl:n<=l):K.off l:=h l hl
theorem xQ(tm:List (Nat×AV))(n:Nat):(okT tm).under n:=fun _ _ _ _ _ _ k h t ht=>k.ok (h t ht)
theorem ba(tm:List (Nat×AV))(n:Nat):(okT tm).off n:=fun k h t ht=>k.ok (h t ht)
theorem lB{K K':Kn}{n:Nat}(h:K.off n)(h':K'.off n):(K.and K').off n:=fun k x=>⟨h k x.1,h' k x.2⟩
theorem Ab{l D n:Nat}{r:Loop}(h1:l≠n)(h2:D≠n):(LL l r D).off n:=fun k x=>⟨k.obj _ _ (by intro e;injection e with e;exact h1 e.symm) x.1 (fun _ _ _ e=>by cases e),k.obj _ _ (by intro e;injection e with e;exact h2 e.symm) x.2 (fun _ _ _ e=>by cases e)⟩
def Kn.self(K:Kn):Prop:=∀m w,K.p m w->K.under w.heap.size
theorem Ax(tm:List (Nat×AV)):(okT tm).self:=fun _ _ _=>xQ _ _
def T6(Ds:List Nat):Kn:=⟨fun _ w=>(∀D∈Ds,w.heap[D]? = some (.deferred (some [])))/\Ds.Nodup,fun k h=>⟨fun D hD=>k.obj _ _ (h.1 D hD) (fun _ _ _ e=>by cases e),h.2⟩⟩
section
variable {m0:Nat->Nat->Prop} {w0 w w':World} {S:Nat->Prop} {ds:List Deferred} {K:Kn} {nt:Nat} {tm:List (Nat×AV)} {gs:List (Nat×List (Nat×Bool)×AV)} {mem:List (Nat×Blk)} {gr:List (Nat×Gr)} {a:Act} {P:Program}
abbrev Mem(m0:Nat->Nat->Prop)(w0:World)(S:Nat->Prop)(K:Kn)(mem:List (Nat×Blk))(gr:List (Nat×Gr))(w:World):Prop:=i5 ⟨m0,w0,S,[],K⟩ ⟨0,[],[],mem,gr⟩ ⟨#[],[]⟩ w
abbrev mT(m0:Nat->Nat->Prop)(mem:List (Nat×Blk))(gr:List (Nat×Gr)):Nat->Nat->Prop:=St.m ⟨0,[],[],mem,gr⟩ ⟨m0,default,fun _=>False,[],noK⟩
theorem i5.leave(h:i5 ⟨m0,w0,S,ds,K⟩ ⟨nt,tm,gs,mem,gr⟩ a w):Mem m0 w0 S (K.and (okT tm)) mem gr w/\aV nt tm ds a:=
 ⟨⟨rfl,rfl,(fun t ht=>by cases ht),(fun t p v he=>by cases he),h.mem,h.nodup,h.gr,h.sepm,h.sepg,h.chg,h.m0,⟨h.kept,fun t ht=>(h.slot t ht).2⟩⟩,h.size,h.defers,fun t ht=>(h.slot t ht).1⟩
theorem i5.bare(h:i5 ⟨m0,w0,S,ds,K⟩ ⟨nt,tm,gs,mem,gr⟩ a w):Mem m0 w0 S K mem gr w:=
 ⟨rfl,rfl,(fun t ht=>by cases ht),(fun t p v he=>by cases he),h.mem,h.nodup,h.gr,h.sepm,h.sepg,h.chg,h.m0,h.kept⟩
theorem iF(h:Mem m0 w0 S K mem gr w)(ha:aV nt tm ds a)(hok:(okT tm).p (mT m0 mem gr) w):i5 ⟨m0,w0,S,ds,K⟩ ⟨nt,tm,[],mem,gr⟩ a w:=
 ⟨ha.1,ha.2.1,fun t ht=>⟨ha.2.2 t ht,hok t ht⟩,(fun t p v he=>by cases he),h.mem,h.nodup,h.gr,h.sepm,h.sepg,h.chg,h.m0,h.kept⟩
theorem cT(h:Mem m0 w0 S (K.and (okT tm)) mem gr w)(ha:aV nt tm ds a):i5 ⟨m0,w0,S,ds,K⟩ ⟨nt,tm,[],mem,gr⟩ a w:=
 iF (K:=K) (i5.withK (K:=K.and (okT tm)) h h.kept.1) ha h.kept.2
theorem iG{K':Kn}(h:Mem m0 w0 S K mem gr w)(hK:K'.p (mT m0 mem gr) w):Mem m0 w0 S K' mem gr w:=i5.withK (K:=K) h hK
theorem eV{b:Nat}{o:Obj}(h:Mem m0 w0 S K mem gr w)(hb:w.heap[b]? = some o)(ho:∀c t f,o≠Obj.cells c t f)(hg:w.grownBy w' (some b))(hC:b<w0.heap.size->S b){K':Kn}(hK:ae (some b) w (mT m0 mem gr) w' (mT m0 mem gr)->K'.p (mT m0 mem gr) w'):Mem m0 w0 S K' mem gr w':=
 i5.turn (K:=K) h hb ho hg hC (hK (dv hb ho hg))
end
section
variable {m0:Nat->Nat->Prop} {w0 w:World} {S:Nat->Prop} {ds:List Deferred} {K:Kn} {mem:List (Nat×Blk)} {gr:List (Nat×Gr)} {a:Act} {P:Program} {f:FuncId} {fn:Func} {c:Code} {R:Ending->World->Prop} {args:List AV} {B:Alg} {T:List (Nat×TI)} {s:St} {rs:List ResultVar} {r:List AV×List Ob} {Q:Exit->Act->World->Prop} {ops:Array Oper}
theorem HZ(hargs:∀v∈args,Ok (mT m0 mem gr) w v){n:Nat}(hn:args.length<=n):aV n (C8 0 args) [] { tmps:=(args.map AV.den).toArray++Array.replicate (n-args.length) Go.undef,defers:=[] }/\(okT (C8 0 args)).p (mT m0 mem gr) w:=by
 have key:∀t,(look (C8 0 args) t).known=true->args[t]? = some (look (C8 0 args) t):=fun t ht=>by
  have:=(eE args 0 t ht).2
  rwa[Nat.sub_zero]at this
 refine⟨⟨by simp;omega,rfl,fun t ht=>?_⟩,fun t ht=>hargs _ (List.mem_of_getElem? (key t ht))⟩;have h1:=key t ht;have hlt:=(List.getElem?_eq_some_iff.1 h1).1;rw[Array.getElem?_append_left (by simpa using hlt)];simp[h1]
theorem enI(nt:Nat)(h:Mem m0 w0 S K mem gr w)(hargs:∀v∈args,Ok (mT m0 mem gr) w v)(hf:P.funcs[f]? = some fn)(body:∀B,B=std->∀a,i5 ⟨m0,w0,S,[],K⟩ ⟨nt,C8 0 args,[],mem,gr⟩ a w->c.wp P (bodyPost P fn R) a w)(hb:fn.body=some c:=by rfl)(hnt:fn.ntmps=nt:=by rfl)(hn:args.length<=nt:=by exact Nat.le_of_ble_eq_true rfl):Calls P f (args.map AV.den).toArray w R:=by
 refine calls_of_wp hf hb ?_;obtain⟨h1,h2⟩:=HZ hargs hn;have:=body std rfl _ (iF h h1 h2)
 simpa[hnt]using this
theorem NB(nt:Nat)(h:Mem m0 w0 S K mem gr w)(hargs:∀v∈args,Ok (mT m0 mem gr) w v)(hf:P.funcs[f]? = some fn)(body:∀B,B=std->∀a,i5 ⟨m0,w0,S,[],K⟩ ⟨nt,C8 0 args,[],mem,gr⟩ a w->c.wpIn (rF none) 0 P (bodyPost P fn R) a w)(hb:fn.body=some c:=by rfl)(hnt:fn.ntmps=nt:=by rfl)(hn:args.length<=nt:=by exact Nat.le_of_ble_eq_true rfl):Calls P f (args.map AV.den).toArray w R:=
 enI nt h hargs hf (fun B O a Z=>(wpIn_wide (n:=0)).1 (body B O a Z)) hb hnt hn
theorem Ip(O:B=std)(hT:o7 P T){nt:Nat}{tm:List (Nat×AV)}(h:i5 ⟨m0,w0,S,[],K⟩ ⟨nt,tm,[],mem,gr⟩ a w)(hR:Mem m0 w0 S K mem gr w->Ok (mT m0 mem gr) w (K0 r.1)->R (.returned (K0 r.1).den) w)(hfn:fn.results=rs.toArray:=by rfl)(hr:T5 T ⟨nt,tm,[],mem,gr⟩ rs=some r:=by first|rfl|(conv=>lhs;cbv))(ho:i7 P K r.2:=by first|exact trivial|(subst O;simp[i7,Ob.holds])):bodyPost P fn R .ret a w/\bodyPost P fn R .normal a w:=
 gq hT h rfl hfn hr ho fun hv=>hR h.bare hv
end
section
variable {m0:Nat->Nat->Prop} {w0 w:World} {S:Nat->Prop} {ds:List Deferred} {K:Kn} {mem:List (Nat×Blk)} {gr:List (Nat×Gr)} {a:Act} {P:Program} {fn:FuncId}
def fP(rc:Loop)(st:LoopState)(pe:Option Code):Loop:={ rc with state:=st,pending:=pe }
def KL(K:Kn)(tm:List (Nat×AV))(l:Nat)(rc:Loop)(D:Nat)(st:LoopState)(pe:Option Code):Kn:=(K.and (okT tm)).and (LL l (fP rc st pe) D)
theorem Gp{K:Kn}{tm:List (Nat×AV)}{l D:Nat}{rc:Loop}{st st':LoopState}{pe pe':Option Code}{w w':World}{m:Nat->Nat->Prop}(hD:D≠l)(hK:K.off l)(hk:ae (some l) w m w' m)(hl:w'.heap[l]? = some (.loop (fP rc st' pe')))(h:(KL K tm l rc D st pe).p m w):(KL K tm l rc D st' pe').p m w':=
 ⟨⟨hK hk h.1.1,ba tm l hk h.1.2⟩,hl,hk.obj _ _ (by intro e;injection e with e;exact hD e.symm) h.2.2 (fun _ _ _ e=>by cases e)⟩
theorem xJ{w:World}{l:Nat}{o o':Obj}(h:w.heap[l]? = some o):(w.putObj l o').heap[l]? = some o':=by
 have:=(Array.getElem?_eq_some_iff.1 h).1;simp[World.putObj,this]
theorem rS{K E:Kn}{tm:List (Nat×AV)}{l D:Nat}{rc:Loop}{st st':LoopState}{pe pe':Option Code}{nt:Nat}{tm':List (Nat×AV)}(hl0:w0.heap.size<=l)(hD:D≠l)(hK:K.off l)(hE:E.off l)(h:i5 ⟨m0,w0,S,ds,(KL K tm l rc D st pe).and E⟩ ⟨nt,tm',[],mem,gr⟩ a w):i5 ⟨m0,w0,S,ds,(KL K tm l rc D st' pe').and E⟩ ⟨nt,tm',[],mem,gr⟩ a (w.putObj l (.loop (fP rc st' pe'))):=by
 obtain⟨h1,h2⟩:=h.leave;have hk:=h1.kept;have hl:w.heap[l]? = some (.loop (fP rc st pe)):=hk.1.1.2.1;have:=eV (K':=(((KL K tm l rc D st' pe').and E).and (okT tm'))) h1 hl (fun _ _ _ e=>by cases e) (grownBy_putObj' w l (.loop (fP rc st' pe'))) (fun h=>by omega) (fun kb=>⟨⟨Gp hD hK kb (xJ hl) hk.1.1,hE kb hk.1.2⟩,ba tm' l kb hk.2⟩);exact cT this h2
def CO(m0:Nat->Nat->Prop)(w0:World)(S:Nat->Prop)(tm:List (Nat×AV))(l:Nat)(rc:Loop)(D:Nat)(E:Kn)(N:Kn->List (Nat×Blk)->List (Nat×Gr)->Prop)(X:Code->Kn->List (Nat×Blk)->List (Nat×Gr)->Prop)(T:List PanicEntry->Kn->List (Nat×Blk)->List (Nat×Gr)->Prop):Exit->Act->World->Prop
 | .normal,_,w=>∃K mem gr,N K mem gr/\K.off l/\Mem m0 w0 S ((KL K tm l rc D .busy none).and E) mem gr w
 | .ret,_,w=>∃K mem gr,X .ret K mem gr/\K.off l/\Mem m0 w0 S ((KL K tm l rc D .busy none).and E) mem gr w
 | .exit id,_,w=>∃K mem gr,X (.exit id) K mem gr/\K.off l/\Mem m0 w0 S ((KL K tm l rc D .busy none).and E) mem gr w
 | .goto t,_,w=>∃K mem gr,X (.goto t) K mem gr/\K.off l/\Mem m0 w0 S ((KL K tm l rc D .busy none).and E) mem gr w
 | .panic ch,a,w=>a.defers=[]/\∃K mem gr,T ch K mem gr/\K.off l/\Mem m0 w0 S ((KL K tm l rc D .busy none).and E) mem gr w
 | .outgrown,_,_=>False
def CN(m0:Nat->Nat->Prop)(w0:World)(S:Nat->Prop)(tm:List (Nat×AV))(l:Nat)(rc:Loop)(D:Nat)(E:Kn)(N:Kn->List (Nat×Blk)->List (Nat×Gr)->Prop)(X:Code->Kn->List (Nat×Blk)->List (Nat×Gr)->Prop):Exit->Act->World->Prop:=CO m0 w0 S tm l rc D E N X fun _ _ _ _=>False
theorem Ij{fd:Func}{rc:Loop}(hfn:P.funcs[rc.fn]? = some fd){l D ntc nti:Nat}{tmc tmi:List (Nat×AV)}{ac ai:Act}(hl0:w0.heap.size<=l)(hD:D≠l)(hK:K.off l)(hst:rc.pending=none)(htm:rc.tmps=ac.tmps)
  (hi:i5 ⟨m0,w0,S,[],KL K tmc l rc D .ready none⟩ ⟨nti,tmi,[],mem,gr⟩ ai w) (hc:∃d,aV ntc tmc d ac) {ps:List (Nat×AV)} (hps:∀e∈ps,e.1<ntc/\Ok (mT m0 mem gr) w e.2) {R:Ending->World->Prop}
  (N:Kn->List (Nat×Blk)->List (Nat×Gr)->Prop) (X:Code->Kn->List (Nat×Blk)->List (Nat×Gr)->Prop) (T:List PanicEntry->Kn->List (Nat×Blk)->List (Nat×Gr)->Prop)
  (hN:∀K' mem' gr' w',N K' mem' gr'->K'.off l->i5 ⟨m0,w0,S,[],KL K' tmc l rc D .ready none⟩ ⟨nti,tmi,[],mem',gr'⟩ ai w'->R (.returned (.bool true)) w')
  (hX:∀c K' mem' gr' w',X c K' mem' gr'->K'.off l->i5 ⟨m0,w0,S,[],KL K' tmc l rc D .done (some c)⟩ ⟨nti,tmi,[],mem',gr'⟩ ai w'->R (.returned (.bool false)) w')
  (hT:∀ch K' mem' gr' w',T ch K' mem' gr'->K'.off l->Mem m0 w0 S (KL K' tmc l rc D .busy none) mem' gr' w'->R (.panicked ch) w')
  (hbody:∀a,i5 ⟨m0,w0,S,[],(KL K tmc l rc D .ready none).and (okT tmi)⟩ (St.puts ⟨ntc,tmc,[],mem,gr⟩ ps) a w->rc.assign.wpIn (rF (some l)) 0 P (Exit.then (fun a₁ w₁=>∃nt1 tm1 fQ gr1,i5 ⟨m0,w0,S,[],(KL K tmc l rc D .ready none).and (okT tmi)⟩ ⟨nt1,tm1,[],fQ,gr1⟩ a₁ w₁ ∧
   ∀w₂,i5 ⟨m0,w0,S,[],(KL K tmc l rc D .busy none).and (okT tmi)⟩ ⟨nt1,tm1,[],fQ,gr1⟩ a₁ w₂->rc.body.wpIn (rF (some l)) 0 P (CO m0 w0 S tmc l rc D (okT tmi) N X T) a₁ w₂) (fun _ _ _=>False)) a w) :
  RoundIn (rF none) 0 P l rc.fn (ps.foldl (fun t e=>t.setIfInBounds e.1 e.2.den) rc.tmps) rc.assign rc.body w R:=by
 obtain⟨hm,hai⟩:=hi.leave;have hk:=hm.kept;obtain⟨dc,hac⟩:=hc;have hact:aV ntc tmc [] { tmps:=ac.tmps,defers:=[] }:=⟨hac.1,rfl,hac.2.2⟩;have hF0:i5 ⟨m0,w0,S,[],(KL K tmc l rc D .ready none).and (okT tmi)⟩ ⟨ntc,tmc,[],mem,gr⟩ { tmps:=ac.tmps,defers:=[] } w:=iF hm hact hk.1.1.2;have hF1:=hF0.puts (l:=ps) hps;have hb:=hbody _ hF1;have key:=zT (P:=P) (l:=l) (r:=fP rc .ready none) (fd:=fd) hfn rfl (tmps:=ps.foldl (fun t e=>t.setIfInBounds e.1 e.2.den) rc.tmps) (R:=R) (w:=w) ?_
 .exact key
 rw[htm];refine wpIn_mono hb ?_;intro e a₁ w₁ he
 cases e with
 |normal=>
  obtain⟨nt1,tm1,fQ,gr1,hf1,hb1⟩:=he;refine⟨hf1.kept.1.2.1,?_⟩;have hf2:=rS (st':=.busy) (pe':=none) hl0 hD hK (ba tmi l) hf1;refine wpIn_mono (hb1 _ hf2) ?_;have fin:∀{K':Kn} {mem':List (Nat×Blk)} {gr':List (Nat×Gr)} {w':World} (st:LoopState) (pe:Option Code),K'.off l->Mem m0 w0 S ((KL K' tmc l rc D .busy none).and (okT tmi)) mem' gr' w'->w'.heap[l]? = some (.loop { fP rc .ready none with state:=.busy })/\i5 ⟨m0,w0,S,[],KL K' tmc l rc D st pe⟩ ⟨nti,tmi,[],mem',gr'⟩ ai (w'.putObj l (.loop (fP rc st pe))):=fun {K' mem' gr' w'} st pe ho hm'=>by
   refine⟨hm'.kept.1.2.1,?_⟩;have h3:=rS (st':=st) (pe':=pe) (nt:=0) (tm':=[]) hl0 hD ho (ba tmi l) hm';exact cT h3 hai
  intro e a₂ w₂ he
  cases e with
  |normal=>
   obtain⟨K',mem',gr',hn,ho,hm'⟩:=he;obtain⟨g1,g2⟩:=fin .ready none ho hm';exact⟨g1,hN _ _ _ _ hn ho g2⟩
  |ret=>
   obtain⟨K',mem',gr',hn,ho,hm'⟩:=he;obtain⟨g1,g2⟩:=fin .done (some .ret) ho hm';exact⟨g1,hX _ _ _ _ _ hn ho g2⟩
  |exit id=>
   obtain⟨K',mem',gr',hn,ho,hm'⟩:=he;obtain⟨g1,g2⟩:=fin .done (some (.exit id)) ho hm';exact⟨g1,hX _ _ _ _ _ hn ho g2⟩
  |goto t=>
   obtain⟨K',mem',gr',hn,ho,hm'⟩:=he;obtain⟨g1,g2⟩:=fin .done (some (.goto t)) ho hm';exact⟨g1,hX _ _ _ _ _ hn ho g2⟩
  |panic chain=>
   obtain⟨hd,K',mem',gr',hn,ho,hm'⟩:=he;exact⟨hd,hT _ _ _ _ _ hn ho (iG hm' hm'.kept.1)⟩
  |outgrown=>exact he.elim
 |_=>exact he
theorem zU{fd:Func}{rc:Loop}(hfn:P.funcs[rc.fn]? = some fd){l D ntc nti:Nat}{tmc tmi:List (Nat×AV)}{ac ai:Act}(hl0:w0.heap.size<=l)(hD:D≠l)(hK:K.off l)(hst:rc.pending=none)(htm:rc.tmps=ac.tmps)
  (hi:i5 ⟨m0,w0,S,[],KL K tmc l rc D .ready none⟩ ⟨nti,tmi,[],mem,gr⟩ ai w) (hc:∃d,aV ntc tmc d ac) {ps:List (Nat×AV)} (hps:∀e∈ps,e.1<ntc/\Ok (mT m0 mem gr) w e.2) {R:Ending->World->Prop}
  (N:Kn->List (Nat×Blk)->List (Nat×Gr)->Prop) (X:Code->Kn->List (Nat×Blk)->List (Nat×Gr)->Prop)
  (hN:∀K' mem' gr' w',N K' mem' gr'->K'.off l->i5 ⟨m0,w0,S,[],KL K' tmc l rc D .ready none⟩ ⟨nti,tmi,[],mem',gr'⟩ ai w'->R (.returned (.bool true)) w')
  (hX:∀c K' mem' gr' w',X c K' mem' gr'->K'.off l->i5 ⟨m0,w0,S,[],KL K' tmc l rc D .done (some c)⟩ ⟨nti,tmi,[],mem',gr'⟩ ai w'->R (.returned (.bool false)) w')
  (hbody:∀a,i5 ⟨m0,w0,S,[],(KL K tmc l rc D .ready none).and (okT tmi)⟩ (St.puts ⟨ntc,tmc,[],mem,gr⟩ ps) a w->rc.assign.wpIn (rF (some l)) 0 P (Exit.then (fun a₁ w₁=>∃nt1 tm1 fQ gr1,i5 ⟨m0,w0,S,[],(KL K tmc l rc D .ready none).and (okT tmi)⟩ ⟨nt1,tm1,[],fQ,gr1⟩ a₁ w₁ ∧
   ∀w₂,i5 ⟨m0,w0,S,[],(KL K tmc l rc D .busy none).and (okT tmi)⟩ ⟨nt1,tm1,[],fQ,gr1⟩ a₁ w₂->rc.body.wpIn (rF (some l)) 0 P (CN m0 w0 S tmc l rc D (okT tmi) N X) a₁ w₂) (fun _ _ _=>False)) a w) :
  RoundIn (rF none) 0 P l rc.fn (ps.foldl (fun t e=>t.setIfInBounds e.1 e.2.den) rc.tmps) rc.assign rc.body w R:=
 Ij hfn hl0 hD hK hst htm hi hc hps N X (fun _ _ _ _=>False) hN hX (fun _ _ _ _ _ h=>h.elim) hbody
theorem Iu{Q:Exit->Act->World->Prop}{g:Operand}{ps:Array Tmp}{assign body:Code}{gf nt:Nat}{tm:List (Nat×AV)}{lb:List AV}(h:i5 ⟨m0,w0,S,ds,K⟩ ⟨nt,tm,[],mem,gr⟩ a w)(hgv:val ⟨nt,tm,[],mem,gr⟩ [] g = .fn gf [] lb)(hen:l8 P gf)(hK:K.under w.heap.size)
  (hc:∀l D rc w1,l=D+1->D=w.heap.size->rc=P4 fn a ps assign body D .ready none->w0.heap.size<=D->w1.heap.size=D+2->aV nt tm ds a->Mem m0 w0 S (KL K tm l rc D .ready none) mem gr w1->(∀v∈lb,Ok (mT m0 mem gr) w1 v) →
   Calls P gf ((yV l::lb).map AV.den).toArray w1 fun e w3=>∃v,e = .returned v/\∃K' mem' gr',K'.off l ∧
    ((Mem m0 w0 S (KL K' tm l rc D .ready none) mem' gr' w3/\∀a' w',i5 ⟨m0,w0,S,bQ D::ds,K'.and (T6 [D])⟩ ⟨nt,tm,[],mem',gr'⟩ a' w'->Q .normal a' w') ∨
     ∃c,Mem m0 w0 S (KL K' tm l rc D .done (some c)) mem' gr' w3/\∀a' w',i5 ⟨m0,w0,S,bQ D::ds,K'.and (T6 [D])⟩ ⟨nt,tm,[],mem',gr'⟩ a' w'->c.wp P Q a' w')) :
  wpN fn P (Code.rangeFunc g ps assign body) Q a w:=by
 obtain⟨hm,ha⟩:=h.leave;have hgd:=E6 h (q:=[]) (fun _ h=>by cases h) (x:=g) (by rw[hgv];rfl);rw[hgv]at hgd;have hg1:a.eval g = .func (.func gf) #[] (lb.map AV.den).toArray:=by
  have:=hgd.1
  simpa[AV.den,E3,AV.denL]using this
 have hlb:∀v∈lb,Ok (mT m0 mem gr) w v:=by
  cases hgd.2 with
  |fn _ _ _ k1 k2=>exact k2
 have hbl:=kh fn a ps assign body w;have hsz:(aE fn a ps assign body w).heap.size=w.heap.size+2:=by simp[aE]
 have hm1:Mem m0 w0 S (KL K tm (w.heap.size+1) (P4 fn a ps assign body w.heap.size .ready none) w.heap.size .ready none) mem gr (aE fn a ps assign body w):=
  iG (hm.below hbl) ⟨(hm.below hbl).kept,oy fn a ps assign body w,mz fn a ps assign body w⟩
 have hlb1:∀v∈lb,Ok (mT m0 mem gr) (aE fn a ps assign body w) v:=fun v hv=>(dV hbl (mT m0 mem gr)).ok (hlb v hv)
 refine nU (gf:=gf) (lb:=(lb.map AV.den).toArray) hg1 (fun args w=>hen args w) ?_;have hcall:=hc _ _ _ _ rfl rfl rfl h.chg.size hsz ha hm1 hlb1;have eargs:((yV (w.heap.size+1)::lb).map AV.den).toArray = #[.func (.yield (w.heap.size+1)) #[] #[]]++(lb.map AV.den).toArray:=by
  simp[AV.den]
 rw[eargs]at hcall;refine hcall.mono ?_
 rintro e w3 ⟨v,rfl,K',mem',gr',ho,hh⟩
 have ha':aV nt tm (bQ w.heap.size::ds) { a with defers:={ target:=.collected w.heap.size,args:=#[] }::a.defers }:=⟨ha.1,by rw[ha.2.1],ha.2.2⟩;have fin:∀{st:LoopState} {pe:Option Code},st ≠ .busy->Mem m0 w0 S (KL K' tm (w.heap.size+1) (P4 fn a ps assign body w.heap.size .ready none) w.heap.size st pe) mem' gr' w3 →
   ∃w4,(Instr.endLoop (w.heap.size+1)).run P w3 = .ok pe w4/\i5 ⟨m0,w0,S,bQ w.heap.size::ds,K'.and (T6 [w.heap.size])⟩ ⟨nt,tm,[],mem',gr'⟩ { a with defers:={ target:=.collected w.heap.size,args:=#[] }::a.defers } w4:=fun {st pe} hst h3=>by
  have hk:=h3.kept;have hl:=hk.2.1;refine⟨_,run_endLoop hl hst,?_⟩;have h4:=eV (K':=(K'.and (T6 [w.heap.size])).and (okT tm)) h3 hl (fun _ _ _ e=>by cases e) (grownBy_putObj' w3 _ (.loop { fP (P4 fn a ps assign body w.heap.size .ready none) st pe with state:=.exhausted })) (fun hh=>absurd h.chg.size (by simp only at hh ⊢;omega))
   (fun kb=>⟨⟨ho kb hk.1.1,⟨fun D hD=>by
    simp only[List.mem_singleton]at hD;subst hD;exact kb.obj _ _ (by intro e;injection e with e;omega) hk.2.2 (fun _ _ _ e=>by cases e),by simp⟩⟩,ba tm _ kb hk.1.2⟩)
  exact cT h4 ha'
 rcases hh with⟨h3,hq⟩|⟨c,h3,hq⟩
 .obtain ⟨w4,e4,h4⟩:=fin (by simp) h3
  exact⟨none,w4,e4,hq _ _ h4⟩
 obtain⟨w4,e4,h4⟩:=fin (by simp) h3;exact⟨some c,w4,e4,hq _ _ h4⟩
end
section
variable {m0:Nat->Nat->Prop} {w0 w:World} {S:Nat->Prop} {K:Kn} {mem:List (Nat×Blk)} {gr:List (Nat×Gr)} {a:Act} {P:Program} {fn:Func} {R:Ending->World->Prop} {B:Alg} {T:List (Nat×TI)} {rs:List ResultVar} {r:List AV×List Ob} {nt:Nat} {tm:List (Nat×AV)}
theorem ka{tmps:Array Value}:∀(Ds:List Nat) (w:World),Mem m0 w0 S (K.and (T6 Ds)) mem gr w->(∀D∈Ds,K.off D/\w0.heap.size<=D)->(∀w',Mem m0 w0 S K mem gr w'->∃v,(results fn tmps).run P w' = .ok v w'/\R (.returned v) w')->LeavesInM Fence.wide 0 P fn tmps R (Ds.map bQ) .returning w
 | [],w,h,_,hR=>hR w (iG h h.kept.1)
 |D::Ds,w,h,ho,hR=>by
  have hk:=h.kept.2;have hD:w.heap[D]? = some (.deferred (some [])):=hk.1 D (by simp);have hnd:=List.nodup_cons.1 hk.2;refine⟨by simp,.inl ⟨D,_,rfl,run_takeDeferred hD,ka Ds _ ?_ (fun E hE=>ho E (by simp[hE])) hR⟩⟩;refine eV h hD (fun _ _ _ e=>by cases e) (grownBy_putObj' w D _) (fun hh=>absurd (ho D (by simp)).2 (by omega)) fun kb=>⟨(ho D (by simp)).1 kb h.kept.1,fun E hE=>?_,hnd.2⟩
  exact kb.obj _ _ (by intro e;injection e with e;subst e;exact hnd.1 hE) (hk.1 E (by simp[hE])) (fun _ _ _ e=>by cases e)
theorem zY(O:B=std)(hT:o7 P T)(Ds:List Nat)(h:i5 ⟨m0,w0,S,Ds.map bQ,K.and (T6 Ds)⟩ ⟨nt,tm,[],mem,gr⟩ a w)(hof:∀D∈Ds,K.off D/\w0.heap.size<=D)(hR:∀w',Mem m0 w0 S K mem gr w'->Ok (mT m0 mem gr) w' (K0 r.1)->R (.returned (K0 r.1).den) w')(hfn:fn.results=rs.toArray:=by rfl)(hr:T5 T ⟨nt,tm,[],mem,gr⟩ rs=some r:=by first|rfl|(conv=>lhs;cbv))(ho:i7 P (K.and (okT tm)) r.2:=by first|exact trivial|(subst O;simp[i7,Ob.holds])):bodyPostM Fence.wide 0 P fn R .ret a w/\bodyPostM Fence.wide 0 P fn R .normal a w:=by
 obtain⟨h1,h2⟩:=h.leave;have key:LeavesInM Fence.wide 0 P fn a.tmps R a.defers .returning w:=by
  rw[h2.2.1];refine ka (K:=K.and (okT tm)) Ds w (iG h1 ⟨⟨h1.kept.1.1,h1.kept.2⟩,h1.kept.1.2⟩) (fun D hD=>⟨lB (hof D hD).1 (ba tm D),(hof D hD).2⟩) fun w' hm=>?_
  have hf:=iF (ds:=Ds.map bQ) hm h2 hm.kept.2;obtain⟨g1,g2⟩:=gt hT hf hfn hr ho;exact⟨_,g1,hR w' (iG hm hm.kept.1) g2⟩
 exact⟨key,key⟩
theorem LK(O:B=std)(hT:o7 P T)(h:i5 ⟨m0,w0,S,[],K⟩ ⟨nt,tm,[],mem,gr⟩ a w)(hR:∀w',Mem m0 w0 S K mem gr w'->Ok (mT m0 mem gr) w' (K0 r.1)->R (.returned (K0 r.1).den) w')(hfn:fn.results=rs.toArray:=by rfl)(hr:T5 T ⟨nt,tm,[],mem,gr⟩ rs=some r:=by first|rfl|(conv=>lhs;cbv))(ho:i7 P (K.and (okT tm)) r.2:=by first|exact trivial|(subst O;simp[i7,Ob.holds])):bodyPostM Fence.wide 0 P fn R .ret a w/\bodyPostM Fence.wide 0 P fn R .normal a w:=
 zY O hT [] (h.withK (K':=K.and (T6 [])) ⟨h.kept,(⟨fun D hD=>(by cases hD),List.nodup_nil⟩:(∀D∈([]:List Nat),w.heap[D]? = some (.deferred (some [])))/\([]:List Nat).Nodup)⟩) (fun D hD=>by cases hD) hR hfn hr ho
end
section
variable {m0:Nat->Nat->Prop} {w0 wi w:World} {S:Nat->Prop} {ds:List Deferred} {K:Kn} {nt:Nat} {tm tm':List (Nat×AV)} {gs:List (Nat×List (Nat×Bool)×AV)} {mem memi:List (Nat×Blk)} {gr gri:List (Nat×Gr)} {a:Act} {P:Program}
def FzV(b:Nat)(cells:List AV)(v v':AV):Prop:=v'.den=v.den/\(v'.known=true->v.known=true)/\(v'.one=v.one)/\∀m w,Ok m w (.ep (some ⟨b,0,none⟩) 0 0 0 cells)->Ok m w v->Ok m w v'
theorem sD{b:Nat}{cells:List AV}{v:AV}:FzV b cells v v:=⟨rfl,id,rfl,fun _ _ _ h=>h⟩
theorem Jw{m:Nat->Nat->Prop}{w:World}{A:Option Addr}{i k off off':Nat}{cells:List AV}(h:Ok m w (.ep A i k off cells)):Ok m w (.ep A i k off' cells):=by
 cases h with|ep _ _ _ _ _ h1 h2 h3 h4=>exact .ep _ _ _ _ _ h1 h2 h3 h4
theorem Bu{b key off:Nat}{cells:List AV}:FzV b cells (.ptr key b off) (.ep (some ⟨b,0,none⟩) 0 0 off cells):=
 ⟨by simp[AV.den],fun _=>rfl,rfl,fun _ _ h _=>Jw h⟩
def Gq(b:Nat)(cells:List AV):List AV->List AV->Prop
 | [],[]=>True
 |v::l,v'::l'=>FzV b cells v v'/\Gq b cells l l'
 |_,_=>False
theorem fi{b:Nat}{cells:List AV}:∀{l l':List AV},Gq b cells l l'->l'.map AV.den=l.map AV.den/\∀m w,Ok m w (.ep (some ⟨b,0,none⟩) 0 0 0 cells)->(∀v∈l,Ok m w v)->∀v∈l',Ok m w v
 | [],[],_=>⟨rfl,fun _ _ _ h=>h⟩
 |v::l,v'::l',⟨h1,h2⟩=>by
  obtain⟨g1,g2⟩:=fi h2;refine⟨by simp[h1.1,g1],fun m w he h u hu=>?_⟩
  rcases List.mem_cons.1 hu with rfl|hu
  .exact h1.2.2.2 m w he (h v (by simp))
  exact g2 m w he (fun x hx=>h x (by simp[hx])) u hu
theorem Mh{b f:Nat}{cells l l' r r':List AV}(hl:Gq b cells l l')(hr:Gq b cells r r'):FzV b cells (.fn f l r) (.fn f l' r'):=by
 refine⟨by simp[AV.den,E3,(fi hl).1,(fi hr).1],fun _=>rfl,rfl,fun m w he h=>?_⟩
 cases h with
 |fn _ _ _ h1 h2=>exact .fn _ _ _ ((fi hl).2 m w he h1) ((fi hr).2 m w he h2)
def FzT(b:Nat)(cells:List AV):List (Nat×AV)->List (Nat×AV)->Prop
 | [],[]=>True
 |e::l,e'::l'=>e.1=e'.1/\FzV b cells e.2 e'.2/\FzT b cells l l'
 |_,_=>False
theorem sE{b:Nat}{cells:List AV}:∀{l l':List (Nat×AV)},FzT b cells l l'->∀t,FzV b cells (look l t) (look l' t)
 | [],[],_,t=>sD
 |(k,v)::l,(k',v')::l',⟨h1,h2,h3⟩,t=>by
  simp only at h1 h2;subst h1;simp only[B6]
  by_cases h:k=t
  .rw [if_pos h,if_pos h];exact h2
  rw[if_neg h,if_neg h];exact sE h3 t
theorem i5.fz{key b ty:Nat}{cells:List AV}(h:i5 ⟨m0,w0,S,ds,K⟩ ⟨nt,tm,[],(key,⟨b,ty,cells⟩)::mem,gr⟩ a w)(hf:FzT b cells tm tm')(hn:j7 mem key=none:=by rfl)(hS:S b->w0.heap.size<=b:=by first|exact fun h=>h.elim|(rintro⟨_,h,_⟩;cases h)):i5 ⟨m0,w0,S,ds,K⟩ ⟨nt,tm',[],mem,gr⟩ a w:=by
 have hk:j7 ((key,(⟨b,ty,cells⟩:Blk))::mem) key=some ⟨b,ty,cells⟩:=by simp[j7]
 have hup:∀{k e},j7 mem k=some e->j7 ((key,(⟨b,ty,cells⟩:Blk))::mem) k=some e/\k≠key:=fun {k e} he=>by
  have hne:k≠key:=fun e'=>by rw[e',hn]at he;cases he
  exact⟨by rw[F3,if_neg (fun e=>hne e.symm)];exact he,hne⟩
 obtain⟨h1,h2,h3⟩:=h.mem _ _ hk;have hb0:w0.heap.size<=b:=h3.elim id hS;have hnm:∀o,¬St.m ⟨nt,tm',[],mem,gr⟩ ⟨m0,w0,S,ds,K⟩ b o:=by
  intro o hm
  rcases hm with hm|⟨k,e,he,hat⟩|⟨k,t,ht,hv,_⟩
  .exact Nat.lt_irrefl _ (Nat.lt_of_lt_of_le (h.m0 _ _ hm) hb0)
  .exact h.nodup _ _ _ _ (hup he).1 hk (hup he).2 hat
  exact h.sepm _ _ _ _ ht hk hv
 have hle:∀b o,St.m ⟨nt,tm',[],mem,gr⟩ ⟨m0,w0,S,ds,K⟩ b o->St.m ⟨nt,tm,[],(key,⟨b,ty,cells⟩)::mem,gr⟩ ⟨m0,w0,S,ds,K⟩ b o:=by
  intro b o hm
  rcases hm with hm|⟨k,e,he,hat⟩|hm
  .exact .inl hm
  .rcases Classical.em (k=key)with rfl|hne
   .rw [hn]at he;cases he
   exact .inr (.inl ⟨k,e,by rw[F3,if_neg (fun e=>hne e.symm)];exact he,hat⟩)
  exact .inr (.inr hm)
 have hle':∀b' o,St.m ⟨nt,tm',[],mem,gr⟩ ⟨m0,w0,S,ds,K⟩ b' o->St.m ⟨nt,tm,[],(key,⟨b,ty,cells⟩)::mem,gr⟩ ⟨m0,w0,S,ds,K⟩ b' o:=by
  intro b' o hm
  rcases hm with hm|⟨k,e,he,hat⟩|hm
  .exact .inl hm
  .exact .inr (.inl ⟨k,e,(hup he).1,hat⟩)
  exact .inr (.inr hm)
 have kp:cb w (St.m ⟨nt,tm,[],(key,⟨b,ty,cells⟩)::mem,gr⟩ ⟨m0,w0,S,ds,K⟩) w (St.m ⟨nt,tm',[],mem,gr⟩ ⟨m0,w0,S,ds,K⟩):=⟨fun b' o u g1 g2=>⟨g1,fun hm=>g2 (hle' b' o hm)⟩,fun _ _ h _=>h⟩;have hep:Ok (St.m ⟨nt,tm',[],mem,gr⟩ ⟨m0,w0,S,ds,K⟩) w (.ep (some ⟨b,0,none⟩) 0 0 0 cells):=by
  refine .ep _ _ _ _ _ ⟨_,_,rfl⟩ (fun j u hj=>⟨b,0,rfl,?_,hnm _⟩) (fun v hv=>(h2 v hv).1) (fun v hv=>kp.ok (h2 v hv).2);rw[cell_of_row w _ _ _ _ _ h1,List.getElem?_toArray,Nat.zero_mul,Nat.zero_add,Nat.zero_add];exact hj
 refine⟨h.size,h.defers,fun t ht=>?_,(fun t p v he=>by cases he),fun k e he=>⟨(h.mem _ _ (hup he).1).1,fun v hv=>⟨((h.mem _ _ (hup he).1).2.1 v hv).1,kp.ok ((h.mem _ _ (hup he).1).2.1 v hv).2⟩,(h.mem _ _ (hup he).1).2.2⟩,fun k k' e e' he he' hne=>h.nodup _ _ _ _ (hup he).1 (hup he').1 hne,h.gr,fun k t k' e ht he=>h.sepm _ _ _ _ ht (hup he).1,h.sepg,h.chg,h.m0,K.st kp h.kept⟩;have hz:=sE hf t;obtain⟨g1,g2⟩:=h.slot t (hz.2.1 ht);exact⟨by rw[g1];exact congrArg some hz.1.symm,hz.2.2.2 _ _ hep (kp.ok g2)⟩
theorem tO(h:i5 ⟨m0,w0,S,ds,K⟩ ⟨nt,tm,[],mem,gr⟩ a w):i5 ⟨mT m0 mem gr,w,ats [],ds,noK⟩ ⟨nt,tm,[],[],[]⟩ a w:=by
 have mono:∀v,Ok (mT m0 mem gr) w v->Ok (St.m ⟨nt,tm,[],[],[]⟩ ⟨mT m0 mem gr,w,ats [],ds,noK⟩) w v:=fun v hv=>hv.mono fun b' o u h1 h2=>⟨h1,fun h=>by
  rcases h with h|⟨k,e,he,hat⟩|⟨k,e,he,_⟩
  .exact h2 h
  .cases he
  cases he⟩
 exact⟨h.size,h.defers,fun t ht=>⟨(h.slot t ht).1,mono _ (h.slot t ht).2⟩,(fun t p v he=>by cases he),(fun k e he=>by cases he),(fun k k' e e' he=>by cases he),(fun k t ht=>by cases ht),(fun k t k' e ht=>by cases ht),(fun k t k' t' b ht=>by cases ht),Chg.refl _ _,fun b o hb=>qm h b o hb,trivial⟩
theorem ik(h:Mem m0 w0 S K mem gr wi)(hi:i5 ⟨mT m0 mem gr,wi,ats [],ds,noK⟩ ⟨nt,tm,gs,memi,gri⟩ a w):i5 ⟨m0,w0,S,ds,K⟩ ⟨nt,tm,[],mem,gr⟩ a w:=by
 have hb:Below wi.heap.size wi w:=hi.chg.below (Nat.le_refl _) fun k ⟨e,he,_⟩=>(by cases he)
 exact iF (h.below hb) ⟨hi.size,hi.defers,fun t ht=>(hi.slot t ht).1⟩ fun t ht=>(hi.slot t ht).2.mono fun b o u h1 h2=>⟨h1,fun hm=>h2 (.inl hm)⟩
end
section
variable {C:Cx} {P:Program} {Q:Exit->Act->World->Prop} {T:List (Nat×TI)} {s:St} {a:Act} {w:World} {B:Alg} {r:Option Nat}
theorem rd3{id:Nat}{all:List Oper}{R:Alg->(Nat->j8)->St×List Ob}{fs:List F7}(n0:Nat)(O:B=std)(hT:o7 P T)(kp km:List Nat)(cs:List (Nat×CS))(h:i5 C s a w)(hQ:∀X a' w',i5 C (R B X).1 a' w'->wpList P all.toArray Q (all.drop n0) a' w')
  (hO:∀a w,¬Q .outgrown a w:=by first|exact fun _ _ h=>h|(intro a w h;obtain⟨x,h,_⟩:=h;cases h)) (hm:P.follows .mixedOrders=true:=by kernel_rfl) (hgs:s.gs=[]:=by rfl)
  (hex:∀A X,(K7 A T cs none X all (o9 0 (all.take n0)) s).map (fun r=>((r.1.keep kp km,r.2.1),r.2.2))=some (R A X,fs):=by intro A X;conv=>lhs;cbv) (hD:cG (all.take n0) fs=true:=by kernel_rfl) (hZ:gi all n0=true:=by kernel_rfl) (hlen:(all.take n0).length=fs.length:=by rfl) (hob:∀X,i7 P C.K (R B X).2:=by
   intro X;subst O
   first
   |exact trivial
   |(simp only[i7,Ob.holds,BE.den]<;>and_intros<;>(repeat first|trivial|rfl|exact O1|exact O2|exact O3|exact(fun _ _=>by kernel_rfl)|exact O1 _ _ _ rfl|exact O2 _ _ _ rfl|refine⟨?_,?_⟩|intro h|decide|omega)<;>done)
   |(simp[i7,Ob.holds,BE.den,std,d4,j0]<;>omega)) (hd:U9 all=true:=by rfl):(Code.region id all.toArray true).wpIn (rF r) 0 P Q a w:=by
 subst O;exact wpIn_region_any hm (wY hO (fun o ho=>LU hd (by simpa using ho)) _ _ _ _ (nh n0 none L5 hT kp km cs h hgs fs hD hZ hlen hex hob hQ))
end
section
variable {m0:Nat->Nat->Prop} {w0:World} {S:Nat->Prop} {ds:List Deferred} {K:Kn} {P:Program} {Q:Exit->Act->World->Prop} {ops:Array Oper}
theorem ui{K1 E:Kn}{J:Kn}{tmc:List (Nat×AV)}{l D bo:Nat}{rc:Loop}{st:LoopState}{pe:Option Code}{s:St}{a:Act}{w:World}{L rest:List Oper}{o:Oper}{c:Call}{g:Operand}{f:FuncId}{lf r args args':List AV}(hL:L=o::rest)(hg:o.guard=none)(hop:o.op = .call c)(hcal:c.callee = .value g)(h:i5 ⟨m0,w0,S,ds,(KL K1 tmc l rc D st pe).and E⟩ s a w)(hgv:val s [] g = .fn f lf r)(hl:Y3 s [] c.args.toList=some args)(hen:l8 P f)
  {res:j8->CR} (hsp:P9 P f args' [] (some bo) K1 res (fun _ _=>J)) (hlb:l≠bo) (hDb:D≠bo) (hE:E.off bo) (hC:bo<w0.heap.size->S bo) (hsim:G3 (lf++args++r) args') (hd:gK s o.dst=true)
  (Kc:∀x a' w',i5 ⟨m0,w0,S,ds,(KL J tmc l rc D st pe).and E⟩ ((s.eff (.sets (upd [] (res x).sets++(res x).news))).put o.dst (res x).v) a' w'->wpList P ops Q rest a' w'):wpList P ops Q L a w:=
 I8 hL hg hop hcal h hgv hl hen hsp (fun _ _ h=>h.1.1.1) (fun b hb=>by cases hb;exact hC) hsim (fun e he=>by cases he) rfl hd (fun _=>(KL J tmc l rc D st pe).and E)
  (fun n x m w m' w' _ hk hkb hJ=>⟨⟨⟨hJ,ba tmc bo hkb hk.1.1.2⟩,Ab hlb hDb hkb hk.1.2⟩,hE hkb hk.2⟩) Kc
end
section
variable {P:Program} {f:FuncId} {fn:Func} {c:Code} {R:Ending->World->Prop} {m:Nat->Nat->Prop} {w:World} {pre:List (Nat×Blk)} {args:List AV} {I:Kn} {bo:Option Nat}
theorem Eb{n:Nat}(hm:∀b o,m b o->b<w.heap.size)(hp:R1 m w pre)(hI:I.p m w)(hargs:∀v∈args,Ok m w v)(hn:args.length<=n):i5 ⟨m,w,fun k=>ats pre k \/ bo=some k,[],I⟩ ⟨n,C8 0 args,[],pre,[]⟩ { tmps:=(args.map AV.den).toArray++Array.replicate (n-args.length) Go.undef,defers:=[] } w:=
 ((de hm hp hargs hn).wider fun k hk=>.inl hk).withK (I.st ⟨fun b o u h1 h2=>⟨h1,fun hm'=>by
  rcases hm' with h3|⟨k,e,he,hat⟩|⟨k,e,he,_⟩
  .exact h2 h3
  .exact h2 (hat ▸ hp.free _ (I9 he) o)
  cases he⟩,fun _ _ h _=>h⟩ hI)
theorem NA(nt:Nat)(hm:∀b o,m b o->b<w.heap.size)(hp:R1 m w pre)(hI:I.p m w)(hargs:∀v∈args,Ok m w v)(hf:P.funcs[f]? = some fn)(h:∀B,B=std->∀a,i5 ⟨m,w,fun k=>ats pre k \/ bo=some k,[],I⟩ ⟨nt,C8 0 args,[],pre,[]⟩ a w->wpN f P c (bodyPostM Fence.wide 0 P fn R) a w)(hb:fn.body=some c:=by rfl)(hnt:fn.ntmps=nt:=by rfl)(hn:args.length<=nt:=by exact Nat.le_of_ble_eq_true rfl):Calls P f (args.map AV.den).toArray w R:=by
 refine kz hf hb ?_;have:=h std rfl _ (Eb hm hp hI hargs hn)
 simpa[hnt]using this
end
def xe(bo:Option Nat)(m:Nat->Nat->Prop)(w:World)(pre:List (Nat×Blk))(res:j8->CR)(J:j8->Kn)(e:Ending)(w':World):Prop:=
 ∃x,e = .returned (res x).v.den/\Ok (mN m (res x).news) w' (res x).v/\cH bo m w w' pre (res x).sets (res x).news/\(∀b,bo=some b->∃es cl es' cl',w.heap[b]? = some (.map es cl)/\w'.heap[b]? = some (.map es' cl'))/\(J x).p (mN m (res x).news) w'
section
variable {P:Program} {fn:Func} {m:Nat->Nat->Prop} {w0 w:World} {bo:Option Nat} {K:Kn} {nt:Nat} {tm:List (Nat×AV)} {mem:List (Nat×Blk)} {a:Act} {B:Alg} {T:List (Nat×TI)} {rs:List ResultVar} {r:List AV×List Ob} {pre:List (Nat×Blk)}
theorem AO{res:j8->CR}{J:j8->Kn}(hm:Mem m w0 (fun k=>ats pre k \/ bo=some k) K mem [] w)(hv:Ok (mT m mem []) w (K0 r.1))(x:j8)(ks:List Nat)
  (hmap:∀b,bo=some b->(∃es cl,w0.heap[b]? = some (.map es cl))/\∀m,K.p m w->∃es cl,w.heap[b]? = some (.map es cl)) (he:Sim (can (K0 r.1)) (can (res x).v)) (hs:C2 ⟨0,[],[],mem,[]⟩ pre (res x).sets) (hn:K6 ⟨0,[],[],mem,[]⟩ pre ks (res x).news) (hJ:∀m w,K.p m w->(J x).p m w):xe bo m w0 pre res J (.returned (K0 r.1).den) w:=by
 obtain⟨h1,h2⟩:=su hm (fun b hb=>(hmap b hb).2 _ hm.kept) hs hn;refine⟨x,?_,(L9 _).2 (he.2.2 _ _ ((L9 _).1 (h2.ok hv))),h1,fun b hb=>?_,hJ _ _ (K.st h2 hm.kept)⟩
 .rw [<-I6 (K0 r.1),he.1,I6]
 obtain⟨⟨es,cl,h3⟩,h4⟩:=hmap b hb;obtain⟨es',cl',h4⟩:=h4 _ hm.kept;exact⟨_,_,_,_,h3,h4⟩
theorem rmM{res:j8->CR}{J:j8->Kn}(O:B=std)(hT:o7 P T)(Ds:List Nat)(h:i5 ⟨m,w0,fun k=>ats pre k \/ bo=some k,Ds.map bQ,K.and (T6 Ds)⟩ ⟨nt,tm,[],mem,[]⟩ a w)(hof:∀D∈Ds,K.off D/\w0.heap.size<=D)(x:j8)(ks:List Nat)
  (hmap:∀b,bo=some b->(∃es cl,w0.heap[b]? = some (.map es cl))/\∀m w,K.p m w->∃es cl,w.heap[b]? = some (.map es cl)) (he:Sim (can (K0 r.1)) (can (res x).v)) (hs:C2 ⟨0,[],[],mem,[]⟩ pre (res x).sets:=by exact trivial) (hn:K6 ⟨0,[],[],mem,[]⟩ pre ks (res x).news:=by exact trivial) (hJ:∀m w,K.p m w->(J x).p m w:=by exact fun m w h=>h) (hfn:fn.results=rs.toArray:=by rfl) (hr:T5 T ⟨nt,tm,[],mem,[]⟩ rs=some r:=by first|rfl|(conv=>lhs;cbv)) (ho:i7 P (K.and (okT tm)) r.2:=by first|exact trivial|(subst O;simp[i7,Ob.holds])) :
  bodyPostM Fence.wide 0 P fn (xe bo m w0 pre res J) .ret a w/\bodyPostM Fence.wide 0 P fn (xe bo m w0 pre res J) .normal a w:=
 zY O hT Ds h hof (fun w' hm' hv=>AO hm' hv x ks (fun b hb=>⟨(hmap b hb).1,fun m h=>(hmap b hb).2 m _ h⟩) he hs hn hJ) hfn hr ho
end
section
variable {m0:Nat->Nat->Prop} {w0 w:World} {S:Nat->Prop} {ds:List Deferred} {K:Kn} {mem:List (Nat×Blk)} {gr:List (Nat×Gr)} {a:Act} {P:Program} {fn:FuncId}
def HJ(m0:Nat->Nat->Prop)(w0:World)(S:Nat->Prop)(tm:List (Nat×AV))(l:Nat)(rc:Loop)(D:Nat)(N:Kn->List (Nat×Blk)->List (Nat×Gr)->Prop)(X:Code->Kn->List (Nat×Blk)->List (Nat×Gr)->Prop)(T:List PanicEntry->Kn->List (Nat×Blk)->List (Nat×Gr)->Prop)(e:Ending)(w':World):Prop:=
 ∃K' mem' gr',K'.off l/\((∃v,e = .returned v/\((Mem m0 w0 S (KL K' tm l rc D .ready none) mem' gr' w'/\N K' mem' gr') \/ ∃c,X c K' mem' gr'/\Mem m0 w0 S (KL K' tm l rc D .done (some c)) mem' gr' w')) \/ ∃ch st pe,e = .panicked ch/\T ch K' mem' gr'/\Mem m0 w0 S (KL K' tm l rc D st pe) mem' gr' w')
theorem L3{tm:List (Nat×AV)}{l D:Nat}{rc:Loop}{N:Kn->List (Nat×Blk)->List (Nat×Gr)->Prop}{X:Code->Kn->List (Nat×Blk)->List (Nat×Gr)->Prop}{T:List PanicEntry->Kn->List (Nat×Blk)->List (Nat×Gr)->Prop}(h:HJ m0 w0 S tm l rc D N X T .outgrown w):False:=by
 obtain⟨_,_,_,_,⟨_,h,_⟩|⟨_,_,_,h,_⟩⟩:=h<;>cases h
theorem Ir{Q:Exit->Act->World->Prop}{g:Operand}{ps:Array Tmp}{assign body:Code}{gf nt:Nat}{tm:List (Nat×AV)}{lb:List AV}(N:Kn->List (Nat×Blk)->List (Nat×Gr)->Prop)(X:Code->Kn->List (Nat×Blk)->List (Nat×Gr)->Prop)(T:List PanicEntry->Kn->List (Nat×Blk)->List (Nat×Gr)->Prop)
  (h:i5 ⟨m0,w0,S,ds,K⟩ ⟨nt,tm,[],mem,gr⟩ a w) (hgv:val ⟨nt,tm,[],mem,gr⟩ [] g = .fn gf [] lb) (hen:l8 P gf)
  (hN:∀D K' mem' gr',N K' mem' gr'->∀a' w',i5 ⟨m0,w0,S,bQ D::ds,K'.and (T6 [D])⟩ ⟨nt,tm,[],mem',gr'⟩ a' w'->w0.heap.size<=D->Q .normal a' w')
  (hX:∀D c K' mem' gr',X c K' mem' gr'->∀a' w',i5 ⟨m0,w0,S,bQ D::ds,K'.and (T6 [D])⟩ ⟨nt,tm,[],mem',gr'⟩ a' w'->w0.heap.size<=D->c.wp P Q a' w')
  (hT:∀D ch K' mem' gr',T ch K' mem' gr'->∀a' w',i5 ⟨m0,w0,S,bQ D::ds,K'.and (T6 [D])⟩ ⟨nt,tm,[],mem',gr'⟩ a' w'->w0.heap.size<=D->Q (.panic ch) a' w')
  (hc:∀l D rc w1,l=D+1->D=w.heap.size->rc=P4 fn a ps assign body D .ready none->w0.heap.size<=D->w1.heap.size=D+2->aV nt tm ds a->Mem m0 w0 S (KL K tm l rc D .ready none) mem gr w1->(∀v∈lb,Ok (mT m0 mem gr) w1 v) →
   Calls P gf ((yV l::lb).map AV.den).toArray w1 (HJ m0 w0 S tm l rc D N X T)) :
  wpN fn P (Code.rangeFunc g ps assign body) Q a w:=by
 obtain⟨hm,ha⟩:=h.leave;have hgd:=E6 h (q:=[]) (fun _ h=>by cases h) (x:=g) (by rw[hgv];rfl);rw[hgv]at hgd;have hg1:a.eval g = .func (.func gf) #[] (lb.map AV.den).toArray:=by
  have:=hgd.1
  simpa[AV.den,E3,AV.denL]using this
 have hlb:∀v∈lb,Ok (mT m0 mem gr) w v:=by
  cases hgd.2 with
  |fn _ _ _ k1 k2=>exact k2
 have hbl:=kh fn a ps assign body w;have hsz:(aE fn a ps assign body w).heap.size=w.heap.size+2:=by simp[aE]
 have hm1:Mem m0 w0 S (KL K tm (w.heap.size+1) (P4 fn a ps assign body w.heap.size .ready none) w.heap.size .ready none) mem gr (aE fn a ps assign body w):=
  iG (hm.below hbl) ⟨(hm.below hbl).kept,oy fn a ps assign body w,mz fn a ps assign body w⟩
 have hlb1:∀v∈lb,Ok (mT m0 mem gr) (aE fn a ps assign body w) v:=fun v hv=>(dV hbl (mT m0 mem gr)).ok (hlb v hv)
 refine nU (gf:=gf) (lb:=(lb.map AV.den).toArray) hg1 (fun args w=>hen args w) ?_;have hcall:=hc _ _ _ _ rfl rfl rfl h.chg.size hsz ha hm1 hlb1;have eargs:((yV (w.heap.size+1)::lb).map AV.den).toArray = #[.func (.yield (w.heap.size+1)) #[] #[]]++(lb.map AV.den).toArray:=by
  simp[AV.den]
 rw[eargs]at hcall;refine hcall.mono ?_;have ha':aV nt tm (bQ w.heap.size::ds) { a with defers:={ target:=.collected w.heap.size,args:=#[] }::a.defers }:=⟨ha.1,by rw[ha.2.1],ha.2.2⟩;have fin:∀{K':Kn} {mem':List (Nat×Blk)} {gr':List (Nat×Gr)} {w3:World} {st:LoopState} {pe:Option Code},K'.off (w.heap.size+1)->st ≠ .busy->Mem m0 w0 S (KL K' tm (w.heap.size+1) (P4 fn a ps assign body w.heap.size .ready none) w.heap.size st pe) mem' gr' w3 →
   ∃w4,(Instr.endLoop (w.heap.size+1)).run P w3 = .ok pe w4/\i5 ⟨m0,w0,S,bQ w.heap.size::ds,K'.and (T6 [w.heap.size])⟩ ⟨nt,tm,[],mem',gr'⟩ { a with defers:={ target:=.collected w.heap.size,args:=#[] }::a.defers } w4:=fun {K' mem' gr' w3 st pe} ho hst h3=>by
  have hk:=h3.kept;have hl:=hk.2.1;refine⟨_,run_endLoop hl hst,?_⟩;have h4:=eV (K':=(K'.and (T6 [w.heap.size])).and (okT tm)) h3 hl (fun _ _ _ e=>by cases e) (grownBy_putObj' w3 _ (.loop { fP (P4 fn a ps assign body w.heap.size .ready none) st pe with state:=.exhausted })) (fun hh=>absurd h.chg.size (by simp only at hh ⊢;omega))
   (fun kb=>⟨⟨ho kb hk.1.1,⟨fun D hD=>by
    simp only[List.mem_singleton]at hD;subst hD;exact kb.obj _ _ (by intro e;injection e with e;omega) hk.2.2 (fun _ _ _ e=>by cases e),by simp⟩⟩,ba tm _ kb hk.1.2⟩)
  exact cT h4 ha'
 rintro e w3 ⟨K',mem',gr',ho,⟨v,rfl,⟨h3,hq⟩|⟨c,hq,h3⟩⟩|⟨ch,st,pe,rfl,hq,h3⟩⟩
 .obtain ⟨w4,e4,h4⟩:=fin ho (by simp) h3
  exact⟨none,w4,e4,hN _ _ _ _ hq _ _ h4 h.chg.size⟩
 .obtain ⟨w4,e4,h4⟩:=fin ho (by simp) h3
  exact⟨some c,w4,e4,hX _ _ _ _ _ hq _ _ h4 h.chg.size⟩
 have hk:=h3.kept;refine hT _ _ _ _ _ hq _ _ (cT (iG h3 ⟨⟨hk.1.1,⟨fun D hD=>?_,by simp⟩⟩,hk.1.2⟩) ha') h.chg.size;simp only[List.mem_singleton]at hD;subst hD;exact hk.2.2
end
section
variable {m0:Nat->Nat->Prop} {w0 w:World} {S:Nat->Prop} {K:Kn} {mem:List (Nat×Blk)} {gr:List (Nat×Gr)} {a:Act} {P:Program} {fn:Func} {R:Ending->World->Prop} {nt:Nat} {tm:List (Nat×AV)}
theorem Lx{D:Nat}{ch:List PanicEntry}(h:i5 ⟨m0,w0,S,[bQ D],K.and (T6 [D])⟩ ⟨nt,tm,[],mem,gr⟩ a w)(ho:K.off D)(hD:w0.heap.size<=D)(hR:∀w',Mem m0 w0 S K mem gr w'->R (.panicked ch) w'):bodyPostM Fence.wide 0 P fn R (.panic ch) a w:=by
 have hk:=h.kept.2.1 D (by simp);refine sm h.defers hk (hR _ ?_);exact eV h.bare hk (fun _ _ _ e=>by cases e) (grownBy_putObj' w D _) (fun hh=>absurd hD (by omega)) fun kb=>ho kb h.kept.1
theorem vN{pre:List (Nat×Blk)}{out:j8->jr}{v:AV}(h:Mem m0 w0 (ats pre) K mem gr w)(hv:Ok (mT m0 mem gr) w v)(x:j8){cr:CR}(hout:out x = .ret cr)(he:Sim (can v) (can cr.v))(hs:C2 ⟨0,[],[],mem,gr⟩ pre cr.sets)(hn:cr.news=[]):et m0 w0 pre out (.returned v.den) w:=by
 obtain⟨h1,h2⟩:=dI (K:=K) h hs (ks:=[]) (news:=[]) trivial;refine⟨x,?_⟩;rw[hout];refine⟨by rw[<-I6 v,he.1,I6],?_,by rw[hn];exact h1⟩;rw[hn];exact(L9 _).2 (he.2.2 _ _ ((L9 _).1 (h2 _ hv)))
theorem Ev{pre:List (Nat×Blk)}{out:j8->jr}{t:Nat}{v:AV}(h:Mem m0 w0 (ats pre) (K.and (okK [v])) mem gr w)(x:j8){sets:List (Nat×List AV)}(hout:out x = .thr t v sets)(hs:C2 ⟨0,[],[],mem,gr⟩ pre sets):et m0 w0 pre out (.panicked [{ v:=.iface t v.den,recovered:=false }]) w:=by
 obtain⟨h1,h2⟩:=dI (K:=K.and (okK [v])) h hs (ks:=[]) (news:=[]) trivial;refine⟨x,?_⟩;rw[hout];have:=h2 v (h.kept.2 v (by simp));rw[uj]at this;exact⟨rfl,this,h1⟩
end
section
variable {m0:Nat->Nat->Prop} {w0 w:World} {S:Nat->Prop} {K:Kn} {mem:List (Nat×Blk)} {gr:List (Nat×Gr)} {a:Act}
theorem qf(V:List AV)(n:Nat):(okK V).off n:=fun k h v hv=>k.ok (h v hv)
end
section
variable {r0:Option Nat} {C:Cx} {P:Program} {Q:Exit->Act->World->Prop} {T:List (Nat×TI)} {s:St} {a:Act} {w:World} {B:Alg} {f:FuncId} {k:Nat} {blk:Blk} {ty:Nat} {v:j8->AV} {sets:j8->List (Nat×List AV)} {args':List AV} {id:Nat} {all rest:List Oper} {R:Alg->(Nat->j8)->St×List Ob} {fs:List F7} {o:Oper} {c:Call} {g:Operand} {l r args:(Nat->j8)->List AV}
theorem LC(i:Nat)(O:B=std)(hT:o7 P T)(kp km:List Nat)(cs:List (Nat×CS))(h:i5 C s a w)(hsp:U5 P f args' [(k,blk)] (fun x=>.thr ty (v x) (sets x)))
  (K:∀X x a w',i5 C ((R B X).1.eff (.sets (upd [(k,blk)] (sets x)))) a w'->Ok (((R B X).1.eff (.sets (upd [(k,blk)] (sets x)))).m C) w' (v x)->Q (.panic [{ v:=.iface ty (v x).den,recovered:=false }]) a w')
  (hO:∀a w,¬Q .outgrown a w:=by first|exact fun _ _ h=>h|(intro a w h;obtain⟨x,h,_⟩:=h;cases h)) (hdf:U9 all=true:=by rfl) (hex:∀A X,(K3 A T cs X all (o9 0 (all.take i)) s).map (fun r=>(r.1.keep kp km,r.2.1))=some (R A X):=by intro A X;conv=>lhs;cbv) (hob:∀X,i7 P C.K (R B X).2:=by
   intro X;subst O
   first
   |exact trivial
   |(simp only[i7,Ob.holds,BE.den]<;>and_intros<;>(repeat first|trivial|rfl|exact O1|exact O2|exact O3|exact(fun _ _=>by kernel_rfl)|exact O1 _ _ _ rfl|exact O2 _ _ _ rfl|refine⟨?_,?_⟩|intro h|decide|omega)<;>done)
   |(simp[i7,Ob.holds,BE.den,std,d4,j0]<;>omega))
  (hL:all.drop i=o::rest:=by rfl) (hop:o.op = .call c:=by rfl) (hcal:c.callee = .value g:=by rfl) (hg:∀X,uE all (R B X).1 o=true:=by intro X;rfl) (hgv:∀X,val (R B X).1 [] g = .fn f (l X) (r X):=by intro X;rfl) (hl:∀X,Y3 (R B X).1 [] c.args.toList=some (args X):=by intro X;rfl) (hsim:∀X,G3 (l X++args X++r X) args':=by intro X;subst O;exact zl)
  (hpre:∀X,j7 (R B X).1.mem k=some blk:=by intro X;rfl) (hd:∀X,gK (R B X).1 o.dst=true:=by intro X;rfl) (hen:l8 P f:=by exact fun _ _=>by kernel_rfl):(Code.region id all.toArray false).wpIn (rF r0) 0 P Q a w:=
 rR hO hdf (fG 0 i O hT kp km cs h hex hob fun X a1 w1 Z=>cU hL (hg X) hop hcal Z (hgv X) (hl X) hen hsp (hsim X) (fQ (hpre X)) rfl (hd X) fun x w' Z hok=>K X x _ w' Z hok)
end
section
variable {P:Program} {f:FuncId} {fn:Func} {c:Code} {R:Ending->World->Prop} {m:Nat->Nat->Prop} {w:World} {pre:List (Nat×Blk)} {args:List AV}
theorem Nz(nt:Nat)(hm:∀b o,m b o->b<w.heap.size)(hp:R1 m w pre)(hargs:∀v∈args,Ok m w v)(hf:P.funcs[f]? = some fn)(h:∀B,B=std->∀a,i5 ⟨m,w,ats pre,[],noK⟩ ⟨nt,C8 0 args,[],pre,[]⟩ a w->wpN f P c (bodyPostM Fence.wide 0 P fn R) a w)(hb:fn.body=some c:=by rfl)(hnt:fn.ntmps=nt:=by rfl)(hn:args.length<=nt:=by exact Nat.le_of_ble_eq_true rfl):Calls P f (args.map AV.den).toArray w R:=by
 refine kz hf hb ?_;have:=h std rfl _ (de hm hp hargs hn)
 simpa[hnt]using this
end
theorem IV(q:Lab):k9 Tryz.prog 111 [i6 q] (fun y=>.fn 159 [] [.ep (some ⟨y.b,0,none⟩) 0 0 0 [.int .i64 q.len,.int .u64 q.bits]]):=by
 intro m w hm hargs;simp only[i6]at hargs ⊢;refine en 4 hm hargs Tryz.func111 fun B O a0 Z=>?_
 refine a6 [1] [1] Z fun X0 Z=>?_
 refine a6 [2] [1] Z fun X1 Z=>?_
 have Z:=Z.fz (tm':=[(2,.fn 159 [] [.ep (some ⟨(X0 0).b,0,none⟩) 0 0 0 [.int .i64 q.len,.int .u64 q.bits]])]) ⟨rfl,Mh trivial ⟨Bu,trivial⟩,trivial⟩;exact i8 (rsp O a8 Z ⟨(X0 0).b,fun _=>none,fun _=>0,fun _=>.empty⟩).1
theorem yD:l8 Tryz.prog 159:=fun _ _=>by kernel_rfl
theorem ny{F:Fence}{P:Program}{l:Nat}{f:FuncId}{T T':Array Value}{c c':Code}{w:World}{R:Ending->World->Prop}(h:T=T')(h2:RoundIn F 0 P l f T' c c' w R):RoundIn F 0 P l f T c c' w R:=h ▸ h2
theorem iw{P:Program}{C:Cx}{s:St}{a:Act}{w:World}{fn:Func}{R:Ending->World->Prop}(h:i5 C s a w)(hds:C.ds=[])(hR:R (.returned (.tuple #[])) w)(hfn:fn.results = #[]:=by rfl):bodyPost P fn R .ret a w/\bodyPost P fn R .normal a w:=by
 have e:(results fn a.tmps).run P w = .ok (.tuple #[]) w:=by simp[results,hfn]
 exact⟨⟨h.defers.trans hds,_,e,hR⟩,⟨h.defers.trans hds,_,e,hR⟩⟩
def xg(m0:Nat->Nat->Prop)(w0:World)(S:Nat->Prop)(tmc:List (Nat×AV))(l:Nat)(rc:Loop)(D:Nat)(N:Kn->List (Nat×Blk)->List (Nat×Gr)->Prop)(X:Code->Kn->List (Nat×Blk)->List (Nat×Gr)->Prop)(e:Ending)(w3:World):Prop:=
 ∃v,e = .returned v/\∃K' mem' gr',K'.off l/\((Mem m0 w0 S (KL K' tmc l rc D .ready none) mem' gr' w3/\N K' mem' gr') \/ ∃c,X c K' mem' gr'/\Mem m0 w0 S (KL K' tmc l rc D .done (some c)) mem' gr' w3)
theorem IW{m0:Nat->Nat->Prop}{w0:World}{S:Nat->Prop}{l D ntc p:Nat}{tmc:List (Nat×AV)}{ac:Act}{rc:Loop}{fd:Func}(hfn:Tryz.prog.funcs[rc.fn]? = some fd)(hl0:w0.heap.size<=l)(hD:D≠l)(hst:rc.pending=none)(htm:rc.tmps=ac.tmps)(hps:rc.params = #[p])(hpn:p<ntc)(hac:∃d,aV ntc tmc d ac)
  (q:Lab) (hb0:U64 q.bits) (J:Nat->Kn->List (Nat×Blk)->List (Nat×Gr)->Prop) (X:Code->Kn->List (Nat×Blk)->List (Nat×Gr)->Prop)
  (hbody:∀i:Nat,i<2->chE q 0=0->∀(E:Kn),E.self->(∀n,E.off n)->∀K mem gr a w,J i K mem gr->K.off l->i5 ⟨m0,w0,S,[],(KL K tmc l rc D .ready none).and E⟩ ⟨ntc,(p,i6 (chV q i))::tmc,[],mem,gr⟩ a w->rc.assign.wpIn (rF (some l)) 0 Tryz.prog (Exit.then (fun a₁ w₁=>∃nt1 tm1 fQ gr1,i5 ⟨m0,w0,S,[],(KL K tmc l rc D .ready none).and E⟩ ⟨nt1,tm1,[],fQ,gr1⟩ a₁ w₁ ∧
   ∀w₂,i5 ⟨m0,w0,S,[],(KL K tmc l rc D .busy none).and E⟩ ⟨nt1,tm1,[],fQ,gr1⟩ a₁ w₂->rc.body.wpIn (rF (some l)) 0 Tryz.prog (CN m0 w0 S tmc l rc D E (J (i+1)) X) a₁ w₂) (fun _ _ _=>False)) a w)
  {K:Kn} {mem:List (Nat×Blk)} {gr:List (Nat×Gr)} {w:World} {A:Option Addr} (hJ:J 0 K mem gr) (hK:K.off l) (hm:Mem m0 w0 S (KL K tmc l rc D .ready none) mem gr w) (hA:Ok (mT m0 mem gr) w (.ep A 0 0 0 [.int .i64 q.len,.int .u64 q.bits])) :
  Calls Tryz.prog 159 ([yV l,.ep A 0 0 0 [.int .i64 q.len,.int .u64 q.bits]].map AV.den).toArray w (xg m0 w0 S tmc l rc D (J (if chE q 0=0 then 2 else 0)) X):=by
 have hargs:∀v ∈ [yV l,.ep A 0 0 0 [.int .i64 q.len,.int .u64 q.bits]],Ok (mT m0 mem gr) w v:=by
  intro v hv;simp only[List.mem_cons,List.not_mem_nil,or_false]at hv
  rcases hv with rfl|rfl
  .exact .raw _
  exact hA
 refine enY 24 (pre:=[]) (fun b o hb=>qm hm b o hb) ⟨fun e he=>(by cases he),fun e he=>(by cases he),fun e he=>(by cases he),.nil⟩ hargs Tryz.func159 fun B O a0 Z=>?_
 refine wpIn_seq (rrg O a8 [6,0,1] [] [] Z fun X0 _ _ Z=>?_);refine wpIn_block (jy (ι:=Nat) (fun i a w=>∃K mem gr wi,J i K mem gr/\K.off l/\Mem m0 w0 S (KL K tmc l rc D .ready none) mem gr wi/\i5 ⟨mT m0 mem gr,wi,ats [],[],noK⟩ ⟨24,[(6,.int .i64 (i:Int)),(0,yV l),(1,.ep A 0 0 0 [.int .i64 q.len,.int .u64 q.bits])],[],[],[]⟩ a w) (fun i=>i<=2/\(i=0 \/ chE q 0=0)) (fun i=>2-i) 0 ⟨by omega,.inl rfl⟩ ⟨K,mem,gr,w,hJ,hK,hm,Z⟩ ?_)
 rintro i ⟨hi2,hi0⟩ a w ⟨K,mem,gr,wi,hJ,hK,hm,Z⟩
 refine wpIn_seq (rrg O a8 [7,6,0,1] [] [] Z fun X1 _ _ Z=>?_);refine wpIn_seq (cO Z rfl (fun hb Z=>?_) (fun hb Z=>?_))
 .have hin:i<2:=by
   have:(i:Int)<(2:Int):=by subst O;simpa[std,d4]using hb
   omega
  refine wpIn_skip (wpIn_seq (wpIn_block (wpIn_seq (rrg O a8 [3,6,0,1] [] [] Z fun X2 _ _ Z=>?_))));have SC:=lz q hb0 i (by omega);have hCE:chE q i=chE q 0:=rfl;rw[hCE]at SC;obtain⟨e,he⟩:=eqv (chE q 0);obtain⟨c,hc⟩:=eqv (chV q i);simp only[i6,<-hc,<-he]at SC;have O1:=SC;refine wpIn_seq (rrg O a8 [5,4,6,0,1] [4] [(2,.r fun _=>.tup [.agg [.int .i64 c.len,.int .u64 c.bits],.int .i64 e])] Z fun X3 _ _ Z=>?_);have Z:=Z.fz (tm':=[(5,.int .i64 e),(4,.ep (some ⟨(X3 6).b,0,none⟩) 0 0 0 [.int .i64 c.len,.int .u64 c.bits]),(6,.int .i64 (i:Int)),(0,yV l),(1,.ep A 0 0 0 [.int .i64 q.len,.int .u64 q.bits])]) ⟨rfl,sD,rfl,Bu,rfl,sD,rfl,sD,rfl,sD,trivial⟩;refine wpIn_seq (wpIn_region_lit ?_);refine Ik 0 3 O a8 [17,4,6,0,1] [] [] Z (fun X4 _ _ Z=>?_)
  by_cases he0:e=0
  .have Z:=Z.headS (v':=.bool .ff) (by subst O;subst he0;exact Sim.bool rfl) rfl
   refine Ik 3 2 O a8 [19,18,17,6,0,1] [] [] Z (fun X5 _ _ Z=>?_);have hfit:=ik hm Z;refine uf rfl (xm rfl rfl hfit rfl) rfl rfl hfit rfl rfl (rc:=fP rc .ready none) hfit.kept.2.1 (by simp[fP,hps]) (fun _=>?_);refine ny (T':=([(p,i6 c)]:List (Nat×AV)).foldl (fun t e=>t.setIfInBounds e.1 e.2.den) rc.tmps) (by simp[fP,hps,i6];rfl) ?_;refine zU (P:=Tryz.prog) hfn hl0 hD hK hst htm hfit hac (by
     intro x hx;simp only[List.mem_singleton]at hx;subst hx;exact⟨hpn,.agg _ (by intro v hv;simp only[List.mem_cons,List.not_mem_nil,or_false]at hv;rcases hv with rfl|rfl<;>rfl) (by intro v hv;simp only[List.mem_cons,List.not_mem_nil,or_false]at hv;rcases hv with rfl|rfl<;>exact .int _ _)⟩) (J (i+1)) X ?_ ?_ ?_
   .intro K' mem' gr' w' hj' ho' hf'
    have Z:=tO (hf'.put (some 20) (fun t ht=>by injection ht with ht;subst ht;exact Nat.le_of_ble_eq_true rfl) (.bool .tt) (fun _=>.bool _) (.bool true) fun _=>rfl);refine DQ 6 O a8 [22,6,0,1] [] [] Z (fun X6 _ _ Z=>?_);refine zR Z rfl (fun Z=>?_);refine wpIn_skip (rrg O a8 [6,0,1] [] [] Z fun X7 _ _ Z=>?_);have e:B.arith .add .i64 (i:Int) 1=((i+1:Nat):Int):=by subst O;exact k4 (n:=2) hin (by simp only[maxLen];omega)
    exact⟨i+1,⟨by omega,.inr (he.symm.trans he0)⟩,by omega,K',mem',gr',w',hj',ho',hf'.bare,by rw[<-e];exact Z⟩
   .intro cc K' mem' gr' w' hx' ho' hf'
    have Z:=tO (hf'.put (some 20) (fun t ht=>by injection ht with ht;subst ht;exact Nat.le_of_ble_eq_true rfl) (.bool .ff) (fun _=>.bool _) (.bool false) fun _=>rfl);refine DQ 6 O a8 [22,6,0,1] [] [] Z (fun X6 _ _ Z=>?_);refine lX Z rfl (fun Z=>?_);exact wpIn_ret (iw (P:=Tryz.prog) (R:=xg m0 w0 S tmc l rc D (J (if chE q 0=0 then 2 else 0)) X) Z rfl (⟨_,rfl,K',mem',gr',ho',.inr ⟨cc,hx',(ik hf'.bare Z).bare⟩⟩)).1
   intro a hFa;have:=hbody i hin (he.symm.trans he0) (okT _) (Ax _) (ba _) K mem gr a _ hJ hK (by rw[<-hc];exact hFa);exact this
  have Z:=Z.headS (v':=.bool .tt) (by subst O;exact Sim.bool (by simp[std,d4,he0,BE.den])) rfl;refine DQ 3 O a8 [22,6,0,1] [] [] Z (fun X5 _ _ Z=>?_);refine lX Z rfl (fun Z=>?_);have hne:¬chE q 0=0:=fun h=>he0 (he.trans h)
  have hi:i=0:=hi0.resolve_right hne;exact wpIn_ret (iw (P:=Tryz.prog) (R:=xg m0 w0 S tmc l rc D (J (if chE q 0=0 then 2 else 0)) X) Z rfl (⟨_,rfl,K,mem,gr,hK,.inl ⟨(ik hm Z).bare,by rw[if_neg hne,<-hi];exact hJ⟩⟩)).1
 have hi:i=2:=by
  have:¬(i:Int)<(2:Int):=by subst O;simpa[std,d4]using hb
  omega
 refine wpIn_exit ?_;have h0:chE q 0=0:=hi0.resolve_left (by omega);exact(iw (P:=Tryz.prog) (R:=xg m0 w0 S tmc l rc D (J (if chE q 0=0 then 2 else 0)) X) Z rfl (⟨_,rfl,K,mem,gr,hK,.inl ⟨(ik hm Z).bare,by rw[if_pos h0,<-hi];exact hJ⟩⟩)).2
abbrev xH(R:B8):List AV:=[.int .u32 (R.x1:Int),.int .u32 (R.x2:Int),.int .u32 (R.y1:Int),.int .u32 (R.y2:Int)]
theorem mi{Kk:Kn}(a b c d e f g h:Int):Ob.holds Tryz.prog Kk (.eql 28 [.int .u32 a,.int .u32 b,.int .u32 c,.int .u32 d] [.int .u32 e,.int .u32 f,.int .u32 g,.int .u32 h]):=qh (d:=3) (sh:=[.int .u32,.int .u32,.int .u32,.int .u32]) (by kernel_rfl) (by decide) (by kernel_rfl) (by kernel_rfl) ⟨rfl,rfl,rfl,rfl,trivial⟩ ⟨rfl,rfl,rfl,rfl,trivial⟩
def pC(R:B8):Bool:=decide (R.x1=0/\R.x2=4294967295/\R.y1=0/\R.y2=4294967295)
theorem tG(R:B8):eqL (xH R) [.int .u32 0,.int .u32 4294967295,.int .u32 0,.int .u32 4294967295]=pC R:=by
 unfold pC;rw[Bool.eq_iff_iff];simp only[eqL,eqC,Bool.and_eq_true,beq_iff_eq,decide_eq_true_eq,and_true];omega
theorem Cg(c z:Nat):crd c z<=4294967295:=by
 have:crd c z<2^32:=Nat.lt_pow_two_of_testBit _ fun i hi=>by rw[P8,decide_eq_false (by omega),Bool.false_and]
 omega
theorem xk{R:B8}(h:pC R=true)(k:Int):dM R k=true:=by
 have h:=of_decide_eq_true h;unfold dM;refine decide_eq_true ⟨⟨by omega,by omega⟩,?_⟩;have a:=Cg 0 k.toNat;have b:=Cg 1 k.toNat;exact⟨by omega,by omega,by omega,by omega⟩
theorem LZ(b:Nat)(R:B8):C1 Tryz.prog 89 [.ptr 0 b 0,eR R] [] (fun x=>⟨.fn 143 [] [.ptr 901 (x.c 0) 0,.ptr 900 x.b 0],[],[(900,⟨x.b,113,[.ptr 0 b 0]⟩),(901,⟨x.c 0,28,xH R⟩)]⟩):=by
 intro m w hm hargs hpre;refine enX 6 hm hpre hargs Tryz.func89 fun B O a0 Z=>?_
 refine a6 [2,3] [2,3] Z fun X0 Z=>?_
 refine a6 [4] [2,3] Z fun X1 Z=>?_
 refine i8 ((rx O a8 Z ⟨(X0 0).b,fun _=>none,fun _=>(X0 1).b,fun _=>.empty⟩ [2,3] (he:=?_) (hn:=?_)).1)
 .exact Sim.fn trivial ⟨Sim.ptr,Sim.ptr,trivial⟩
 exact⟨⟨_,rfl,⟨Sim.ptr,trivial⟩⟩,fun e he=>(by cases he),(by simp),⟨_,rfl,zl⟩,fun e he=>(by cases he),(by simp),trivial⟩
abbrev zRs:List AV:=[.int .i64 0,.bool .ff,.str ⟨#[]⟩,.sl none none 0 0 2 (fun _=>[]),.int .u64 0,.bool .ff]
abbrev rcM(b b2 b3 b4 b5 br bx:Nat)(R:B8)(wh:Bool)(J:j4)(A:Option Addr)(c:Nat)(q:Pst)(A1:Option Addr)(n1 c1:Nat)(g:Nat->Itm):List (Nat×Blk):=
 [(0,⟨b,139,G1 J A c q⟩),(5,⟨b5,33,[.sl (some 77) A1 n1 c1 2 (fun i=>itC (g i))]⟩),(2,⟨b2,38,zRs⟩),(3,⟨b3,28,xH R⟩),(4,⟨b4,4,[.bool (.v wh)]⟩),(900,⟨br,113,[.ptr 0 b 0]⟩),(901,⟨bx,28,xH R⟩)]
abbrev rcG(A1:Option Addr)(n1 c1:Nat):List (Nat×Gr):=[(77,⟨A1,n1,c1,2,62⟩)]
def NJ(b b2 b3 b4 b5 br bx:Nat)(R:B8)(wh:Bool)(J:j4)(tot:Rs Rsl)(K:Kn)(mem:List (Nat×Blk))(gr:List (Nat×Gr)):Prop:=K=noK/\∃A c q A1 n1 c1 g rest,mem=(rcM b b2 b3 b4 b5 br bx R wh J A c q A1 n1 c1 g)++rest/\gr=rcG A1 n1 c1/\tot = .ok ⟨0,false,⟨#[]⟩,f5 g n1,0,false⟩ q
def NI(b:Nat)(J:j4)(tot:Rs Rsl)(ch:List PanicEntry)(K:Kn)(mem:List (Nat×Blk))(gr:List (Nat×Gr)):Prop:=∃(x:j8) (wq:Wq),ch=[{ v:=.iface 40 (E5 (wqA x wq)).den,recovered:=false }]/\K=noK.and (okK [E5 (wqA x wq)])/\∃q rest,mem=(0,⟨b,139,G1 J (x.A 0) (x.c 0) q⟩)::rest/\tot = .stop wq q
theorem yv:l8 Tryz.prog 143:=fun _ _=>by kernel_rfl
abbrev Ib(s:Spt):List AV:=[.int .i64 s.lab.len,.int .u64 s.lab.bits,.int .i64 s.g.code,.int .u64 s.g.ver,.bool (.v s.g.has),.int .i64 s.g.x.r.kd,.sl none s.g.x.A s.g.x.r.n s.g.x.c 2 (fun i=>itC (s.g.x.r.f i)),.int .i64 s.g.x.r.nx.len,.int .u64 s.g.x.r.nx.bits,.int .u64 s.g.x.r.mrk]
structure RcS where
 n:Nat
 z:Int
 s:Spt
 A:Option Addr
 c:Nat
 p:Pst
 A1:Option Addr
 n1:Nat
 c1:Nat
 g:Nat->Itm
theorem AS(b:Nat)(J:j4)(hJ:l6 J)(hRJ:aW J)(A:Option Addr)(c:Nat)(p:Pst)(hp:j3 p)(hn:p.n<=1000000)(hh:J.how=1 \/ J.how=2):nH 36 0 b J A c p [] (aS J.bucket J.budget J.how J.rct p):=by
 intro m w hm hargs hpre;have hmx:maxLen=9223372036854775807:=rfl;have hRk:=hRJ.ok;have e1:J.x1=((J.rct.x1:Nat):Int):=(Int.toNat_of_nonneg hRJ.x1.1).symm;have e2:J.x2=((J.rct.x2:Nat):Int):=(Int.toNat_of_nonneg hRJ.x2.1).symm;have e3:J.y1=((J.rct.y1:Nat):Int):=(Int.toNat_of_nonneg hRJ.y1.1).symm;have e4:J.y2=((J.rct.y2:Nat):Int):=(Int.toNat_of_nonneg hRJ.y2.1).symm;obtain⟨R,hR⟩:=eqv J.rct;rw[<-hR]at hRk e1 e2 e3 e4 ⊢;obtain⟨tot,htot⟩:=eqv (aS J.bucket J.budget J.how R p);rw[<-htot];refine Nz 49 hm hpre hargs Tryz.func36 fun B O a0 Z=>?_
 refine P3 (Y1 (rg O a8 [2,0] [2,0] [] Z fun X0 a0 w1 Z=>?_));refine P3 (Y1 (rg O a8 [3,2,0] [3,2,0] [] Z fun X1 a0 w1 Z=>?_));have Z:=Z.memS (cells':=xH R) ⟨Sim.of_int2 e1,Sim.of_int2 e2,Sim.of_int2 e3,Sim.of_int2 e4,trivial⟩;have O1:=AP R;obtain⟨ri,hri⟩:=eqv (decide R.Is);rw[<-hri]at O1;refine P3 (Y1 (a7 (rg O a8 [17,3,2,0] [3,2,0] [(1,.r fun _=>.bool (.v ri))] Z fun X2 a0 w1 Z=>?_)));apply b7 Z rfl<;>intro hb Z
 .have hr:ri=false:=by subst O;revert hb;cases ri<;>simp[std]
  have hI:¬R.Is:=fun h=>by rw[hri,decide_eq_true h]at hr;cases hr
  refine a7 (rg O a8 [2] [2,0] [] Z fun X3 a0 w1 Z=>?_);refine i8 (LK O a8 Z (fun w2 hm2 hv=>vN (cr:=⟨tP ⟨0,fun i=>if i=0 then A else none,fun i=>if i=0 then c else 0,fun _=>.empty⟩ ⟨5,false,⟨#[]⟩,[],0,false⟩,[(0,G1 J A c p)],[]⟩) hm2 hv ⟨0,fun i=>if i=0 then A else none,fun i=>if i=0 then c else 0,fun _=>.empty⟩ ?_ ?_ ⟨rfl,⟨_,rfl,zl⟩,trivial⟩ rfl)).1
  .rw [htot];unfold aS;rw[if_neg hI];rfl
  subst O;exact Sim.agg ⟨zr,Sim.bool rfl,zr,zq0,zr,Sim.bool rfl,trivial⟩
 have hr:ri=true:=by subst O;revert hb;cases ri<;>simp[std]
 have hI:R.Is:=of_decide_eq_true (hri.symm.trans hr);refine f8 ?_;have hz:=qp (R:=R) (z:=0) (by decide);have hlt:=vW (R:=R) (z:=0) (by decide);have O1:=tG R;obtain⟨wh,hwh⟩:=eqv (pC R);rw[<-hwh]at O1;have hww:=O1;refine P3 (Y1 (rg O a8 [4,3,2,0] [4,3,2,0] [] Z (fun X3 a0 w1 Z=>?_) (hob:=by intro X;subst O;simp only[i7,Ob.holds,BE.den]<;>and_intros<;>repeat first|trivial|rfl|exact mi (Kk:=noK) _ _ _ _ _ _ _ _|refine⟨?_,?_⟩|intro h)));have Z:=Z.memS (cells':=[.bool (.v wh)]) (by subst O;exact⟨Sim.bool hww,trivial⟩);refine P3 (Y1 (rg O a8 [5,4,3,2,0] [5,4,3,2,0] [] Z fun X4 a0 w1 Z=>?_));have Z:=Z.fresh (Below.refl _ _) 77 (t:=⟨none,0,0,2,62⟩) (by decide) (Own.nil _ _ _ _ none);have Z:=i5.memS (cells':=[.sl (some 77) none 0 0 2 (fun i=>itC ((fun _=>s7) i))]) Z ⟨zq0,trivial⟩;have Z:=Z.keep [5,4,3,2,0] [0,5,2,3,4,77];have O1:=LZ b R;refine P3 (P3 (Y1 (rg O a8 [24,5,4,3,2] [0,5,2,3,4,900,901,77] [(2,.x fun x=>⟨.fn 143 [] [.ptr 901 (x.c 0) 0,.ptr 900 x.b 0],[],[(900,⟨x.b,113,[.ptr 0 b 0]⟩),(901,⟨x.c 0,28,xH R⟩)]⟩)] Z fun X5 a0 w1 Z=>?_)));obtain⟨b2,hb2⟩:=eqv (X0 0).b;obtain⟨b3,hb3⟩:=eqv (X1 5).b;obtain⟨b4,hb4⟩:=eqv (X3 3).b;obtain⟨b5,hb5⟩:=eqv (X4 0).b;obtain⟨br,hbr⟩:=eqv (X5 2).b;obtain⟨bx,hbx⟩:=eqv ((X5 2).c 0);have Z:i5 ⟨m,w,ats [(0,⟨b,139,G1 J A c p⟩)],[],noK⟩ ⟨49,[(24,.fn 143 [] [.ptr 901 bx 0,.ptr 900 br 0]),(5,.ptr 5 b5 0),(4,.ptr 4 b4 0),(3,.ptr 3 b3 0),(2,.ptr 2 b2 0)],[],rcM b b2 b3 b4 b5 br bx R wh J A c p none 0 0 (fun _=>s7),rcG none 0 0⟩ a0 w1:=by
  rw[hb2,hb3,hb4,hb5,hbr,hbx];exact Z
 refine nV ?_;refine Ir (NJ b b2 b3 b4 b5 br bx R wh J tot) (fun _ _ _ _=>False) (NI b J tot) Z rfl yv ?_ (fun D cc K' mem' gr' h=>h.elim) ?_ ?_
 .rintro D K' mem' gr' ⟨rfl,A',c',q,A1,n1,c1,g,rest,rfl,rfl,hq⟩ a' w' Z hD
  refine P3 (Y1 (rg O a8 [2] [0,2,77] [] Z fun X9 a0 w1 Z=>?_));refine Y1 (i8 (zY O a8 [D] Z (fun E hE=>by rw[List.mem_singleton.1 hE];exact⟨fun _ _=>trivial,hD⟩) (fun w2 hm2 hv=>vN (cr:=⟨tP ⟨0,fun i=>if i=0 then A' else A1,fun i=>if i=0 then c' else c1,fun _=>.empty⟩ ⟨0,false,⟨#[]⟩,f5 g n1,0,false⟩,[(0,G1 J A' c' q)],[]⟩) hm2 hv ⟨0,fun i=>if i=0 then A' else A1,fun i=>if i=0 then c' else c1,fun _=>.empty⟩ ?_ ?_ ⟨rfl,⟨_,rfl,zl⟩,trivial⟩ rfl)).1)
  .rw [hq];rfl
  subst O;exact Sim.agg ⟨zr,Sim.bool rfl,zr,Sim.resl (j2 g n1).symm (fun t ht=>by
   rw[j2]at ht
   show itC (g t)=itC (itF (f5 g n1) t)
   rw[u6 g n1 t ht]),zr,Sim.bool rfl,trivial⟩
 .rintro D ch K' mem' gr' ⟨x,wq,rfl,rfl,q,rest,rfl,hq⟩ a' w' Z hD
  exact Lx Z (lB (fun _ _=>trivial) (qf _ D)) hD fun w2 hm2=>Ev (sets:=[(0,G1 J (x.A 0) (x.c 0) q)]) hm2 x (by rw[hq]) ⟨rfl,⟨_,rfl,zl⟩,trivial⟩
 intro lr D rl w1 hlr hD hrl h0 hsz hact hm1 hlb;have hne:D≠lr:=by omega
 have hoff:∀K:Kn,K=noK->K.off lr:=fun K h=>by rw[h];exact fun _ _=>trivial
 refine NB 41 hm1 (args:=[yV lr,.ptr 901 bx 0,.ptr 900 br 0]) (by
  intro v hv;simp only[List.mem_cons,List.not_mem_nil,or_false]at hv
  rcases hv with rfl|rfl|rfl
  .exact .raw _
  .exact .ptr _ _ _
  exact .ptr _ _ _) Tryz.func143 fun _ _ a0 Z=>?_
 have O1:=Hl R hRk 0 (by decide);obtain⟨q0,hq0⟩:=eqv (T8 R 0);rw[<-hq0]at O1 hz hlt;have htq:tot=(ii J.bucket J.budget J.how (q0.1:Nat) (p.n+1) p).bind fun s q=>cj J.bucket J.budget R (p.n+1) (q0.1:Nat) s [] q:=by
  rw[htot];unfold aS;rw[if_pos hI,<-hq0]
 obtain⟨z0,f0⟩:=q0;dsimp only at O1 hz hlt htq;refine wpIn_seq (rrg O a8 [4,0,1,2] [0,5,2,3,4,900,901,77] [(1,.r fun _=>.tup [.int .u64 (z0:Int),.bool (.v f0)])] Z (hO:=fun _ _ h=>L3 h) fun X6 a0 w1 Z=>?_);refine wpIn_seq ?_
 rcases(Lz 0 b J hJ A c p hp hn (z0:Int) hz (p.n+1) (Nat.lt_succ_self _) hh).two (ly _ _ _ _ _ _) hp hn with⟨wq,q,h1,O1⟩|⟨s1,p1,h1,hs1,hp1,hn1,S1⟩
 .refine LC 2 O a8 [14,15] [0,5,2,3,4,900,901,77] [] Z (hO:=fun _ _ h=>L3 h) O1 fun X x _ _ Z hk=>?_
  exact⟨Z.defers,noK.and (okK [E5 (wqA x wq)]),_,_,lB (hoff _ rfl) (qf _ _),.inr ⟨_,.ready,none,rfl,⟨x,wq,rfl,rfl,q,_,rfl,by rw[htq,h1];rfl⟩,iG Z.bare ⟨⟨⟨Z.kept.1.1,fun u hu=>by rw[List.mem_singleton.1 hu];exact hk⟩,Z.kept.1.2⟩,Z.kept.2⟩⟩⟩
 have hx1:=tN hz hp h1;have hle1:=hs1.le;rw[h1]at htq;have O1:=S1;refine rrg O a8 [4,0,1,2,6] [0,5,2,3,4,900,901,6,77] [(2,rc J (G9 s1) p1)] Z (hO:=fun _ _ h=>L3 h) fun X7 a0 w1 Z=>?_
 obtain⟨b6,hb6⟩:=eqv (X7 3).b;refine wpIn_block (jy (ι:=RcS) (fun q a w'=>i5 ⟨m,w,ats [(0,⟨b,139,G1 J A c p⟩)],[],KL noK [(24,.fn 143 [] [.ptr 901 bx 0,.ptr 900 br 0]),(5,.ptr 5 b5 0),(4,.ptr 4 b4 0),(3,.ptr 3 b3 0),(2,.ptr 2 b2 0)] lr rl D .ready none⟩ ⟨41,[(4,.int .u64 q.z),(0,yV lr),(1,.ptr 901 bx 0),(2,.ptr 900 br 0),(6,.ptr 6 b6 0)],[],rcM b b2 b3 b4 b5 br bx R wh J q.A q.c q.p q.A1 q.n1 q.c1 q.g ++ [(6,⟨b6,144,Ib q.s⟩)],rcG q.A1 q.n1 q.c1⟩ a w')
  (fun q=>tot=cj J.bucket J.budget R q.n q.z q.s (f5 q.g q.n1) q.p/\j3 q.p/\q.p.n<=1000000/\q.p.n<q.n/\aP q.s/\U64 q.z/\q.n1+16*q.p.n<=16000000) (fun q=>q.n) ⟨p.n+1,z0,s1,(X7 2).A 0,(X7 2).c 0,p1,none,0,0,fun _=>s7⟩ ⟨htq,hp1,hn1,by dsimp only;omega,hx1,hz,by dsimp only;omega⟩ (by rw[hb6];exact Z) ?_)
 rintro⟨nn,z1,s0,A0,c0,p0,A1,n1,c1,g⟩ ⟨hrun,hp0,hn0,hf0,hx0,hz1,hlen⟩ a w' Z
 dsimp only at hrun hp0 hn0 hf0 hx0 hz1 hlen Z;obtain⟨m0,rfl⟩:∃n2,nn=n2+1:=⟨nn-1,by omega⟩
 refine wpIn_seq (wpIn_seq (wpIn_region_lit ?_));refine Ik 0 3 O a8 [19,18,17,4,0,1,2,6] [0,5,2,3,4,900,901,6,77] [] Z (hO:=fun _ _ h=>L3 h) (fun X8 a0 w1 Z=>?_);have hrec:=Z.kept.2.1;subst hrl;refine xU rfl rfl rfl rfl Z rfl rfl (rc:=fP (P4 _ _ _ _ _ D .ready none) .ready none) hrec (by simp[fP,P4]) (fun hav=>?_);refine ny (T':=([(25,.int .u64 z1),(26,G9 s0)]:List (Nat×AV)).foldl (fun t e=>t.setIfInBounds e.1 e.2.den) _) (by simp[fP,P4];rfl) ?_;obtain⟨tl,htl⟩:=eqv (kE R z1 s0);refine zU (P:=Tryz.prog) (fd:=Tryz.f36) Tryz.func36 (l:=lr) (D:=D) (by omega) hne (hoff _ rfl) rfl rfl Z ⟨_,hact⟩ ?_
  (fun K' mem' gr'=>K'=noK/\∃A2 n2 c2 g2,mem'=rcM b b2 b3 b4 b5 br bx R wh J A0 c0 p0 A2 n2 c2 g2 ++ [(6,⟨b6,144,Ib s0⟩)]/\gr'=rcG A2 n2 c2/\f5 g2 n2=f5 g n1++tl/\n2<=n1+16)
  (fun _ _ _ _=>False) ?_ (fun cc K' mem' gr' w' h=>h.elim) ?_
 .intro e he
  simp only[List.mem_cons,List.not_mem_nil,or_false]at he
  rcases he with rfl|rfl
  .exact ⟨Nat.le_of_ble_eq_true rfl,hav _ (List.Mem.head _)⟩
  exact⟨Nat.le_of_ble_eq_true rfl,hav _ (List.Mem.tail _ (List.Mem.head _))⟩
 .rintro K' mem' gr' w2 ⟨rfl,A2,n2,c2,g2,rfl,rfl,hg2,hn2⟩ ho' hf2
  have Z:=hf2.put (some 20) (fun t ht=>by injection ht with ht;subst ht;exact Nat.le_of_ble_eq_true rfl) (.bool .tt) (fun _=>.bool _) (.bool true) fun _=>rfl
  refine DQ 4 O a8 [20,4,0,1,2,6] [0,5,2,3,4,900,901,6,77] [] Z (hO:=fun _ _ h=>L3 h) (fun X9 a0 w1 Z=>?_);refine lX Z rfl (fun Z=>?_);refine wpIn_skip (wpIn_block ?_);have hrunE:kJ R s0.lab=false->tot = .ok ⟨0,false,⟨#[]⟩,f5 g2 n2,0,false⟩ p0:=fun h=>by
   rw[hrun,cj,if_neg (by rw[h];decide),hg2,htl]
  have hrunG:kJ R s0.lab=true->tot=(W8 J.bucket J.budget (jG R s0.lab) (m0+1) s0 p0).bind fun s' p=>cj J.bucket J.budget R m0 (jG R s0.lab) s' (f5 g2 n2) p:=fun h=>by
   rw[hrun,cj,if_pos h,hg2,htl]
  have hxk:=qj (R:=R) hx0.lab.1 hx0.lab.2;have hnk:=qi hx0.lab.1 hx0.lab.2;have O1:=IG s0.lab hx0.lab.1 hx0.lab.2;have hBd:kJ R s0.lab=(gz s0.lab&&(T8 R (cS s0.lab).toNat).2):=rfl;have hKd:jG R s0.lab=((T8 R (cS s0.lab).toNat).1:Nat):=rfl;simp only[i6]at O1;obtain⟨nk,hnk'⟩:=eqv (cS s0.lab);obtain⟨nb,hnb'⟩:=eqv (gz s0.lab);rw[<-hnk']at O1 hnk hBd hKd;rw[<-hnb']at O1 hBd;refine wpIn_seq (rrg O a8 [8,7,4,0,1,2,6] [0,5,2,3,4,900,901,6,77] [(2,.r fun _=>.tup [.int .u64 nk,.bool (.v nb)])] Z (hO:=fun _ _ h=>L3 h) fun X10 a0 w1 Z=>?_);refine wpIn_seq (wpIn_seq (rrg O a8 [28,7,4,0,1,2,6] [0,5,2,3,4,900,901,6,77] [] Z (hO:=fun _ _ h=>L3 h) fun X11 a0 w1 Z=>?_));refine cO Z rfl (fun hb Z=>?_) (fun hb Z=>?_)
  .have t1:nb=false:=by subst O;revert hb;cases nb<;>simp[std]
   exact wpIn_ret (iw (P:=Tryz.prog) Z rfl (⟨noK,_,_,hoff _ rfl,.inl ⟨_,rfl,.inl ⟨Z.bare,⟨rfl,A0,c0,p0,A2,n2,c2,g2,_,rfl,rfl,hrunE (by rw[hBd,t1];rfl)⟩⟩⟩⟩)).1
  have t1:nb=true:=by subst O;revert hb;cases nb<;>simp[std]
  have O1:=Hl R hRk nk.toNat (Y5 hnk);rw[Int.toNat_of_nonneg hnk.1]at O1;obtain⟨q1,hq1⟩:=eqv (T8 R nk.toNat);rw[<-hq1]at O1 hBd hKd;obtain⟨lv,lb⟩:=q1;dsimp only at O1 hBd hKd;refine wpIn_skip (wpIn_seq (wpIn_seq (rrg O a8 [8,4,0,1,2,6] [0,5,2,3,4,900,901,6,77] [(2,.r fun _=>.tup [.int .u64 (lv:Int),.bool (.v lb)])] Z (hO:=fun _ _ h=>L3 h) fun X12 a0 w1 Z=>?_)));refine wpIn_seq (rrg O a8 [36,4,0,1,2,6] [0,5,2,3,4,900,901,6,77] [] Z (hO:=fun _ _ h=>L3 h) fun X13 a0 w1 Z=>?_);refine cO Z rfl (fun hb Z=>?_) (fun hb Z=>?_)
  .have t2:lb=false:=by subst O;revert hb;cases lb<;>simp[std]
   exact wpIn_ret (iw (P:=Tryz.prog) Z rfl (⟨noK,_,_,hoff _ rfl,.inl ⟨_,rfl,.inl ⟨Z.bare,⟨rfl,A0,c0,p0,A2,n2,c2,g2,_,rfl,rfl,hrunE (by rw[hBd,t2,Bool.and_false])⟩⟩⟩⟩)).1
  have t2:lb=true:=by subst O;revert hb;cases lb<;>simp[std]
  have hrg:=hrunG (by rw[hBd,t1,t2];rfl);rw[hKd]at hrg hxk;refine wpIn_skip ?_
  rcases(MC 0 b J hJ A0 c0 p0 hp0 hn0 s0 hx0 (lv:Int) hxk (m0+1) hf0).two (iW _ _ _ _ _ _) hp0 hn0 with⟨wq,q,h2,O1⟩|⟨s2,p2,h2,hs2,hp2,hnn2,S2⟩
  .refine LC 3 O a8 [37,38,39] [0,5,2,3,4,900,901,6,77] [] Z (hO:=fun _ _ h=>L3 h) O1 fun X x _ _ Z hk=>?_
   exact⟨Z.defers,noK.and (okK [E5 (wqA x wq)]),_,_,lB (hoff _ rfl) (qf _ _),.inr ⟨_,.ready,none,rfl,⟨x,wq,rfl,rfl,q,_,rfl,by rw[hrg,h2];rfl⟩,iG Z.bare ⟨⟨⟨Z.kept.1.1,fun u hu=>by rw[List.mem_singleton.1 hu];exact hk⟩,Z.kept.1.2⟩,Z.kept.2⟩⟩⟩
  have hlt2:=uX h2;have hx2:=qW hxk hx0 hp0 h2;rw[h2]at hrg;have O1:=S2;refine rrg O a8 [4,0,1,2,6] [0,5,2,3,4,900,901,6,77] [(3,rc J (G9 s2) p2)] Z (hO:=fun _ _ h=>L3 h) fun X14 a0 w1 Z=>?_
  exact⟨⟨m0,lv,s2,(X14 3).A 0,(X14 3).c 0,p2,A2,n2,c2,g2⟩,⟨hrg,hp2,hnn2,by dsimp only;omega,hx2,hxk,by dsimp only;omega⟩,by dsimp only;omega,Z⟩
 intro aF Z;refine wpIn_seq (rrg O a8 [6,26,5,4,3] [0,5,2,3,4,900,901,6,77] [] Z fun X9 a0 w1 Z=>?_);refine rrg O a8 [7,6,5,4,3] [0,5,2,3,4,900,901,6,7,77] [] Z fun X10 a0 w1 Z=>⟨_,_,_,_,Z,fun w2 Z=>?_⟩
 have O1:=Mf s0 hx0 z1 dw (by have:=hz1.2;show z1<=18446744073709551615;omega)
 have hlh:=mK s0 z1 dw;have hfew:=hx0.ok.ra.few;have hku:=fun i (h:i∈hasL s0 z1 dw)=>mL hx0 h
 have htd:tl=(hasL s0 z1 dw).filter fun i=>dM R i.key:=htl
 have hfi:=bW (hasL s0 z1 dw);obtain⟨hl,hhl⟩:=eqv (hasL s0 z1 dw);rw[<-hhl]at O1 hlh hku htd hfi;obtain⟨hn9,hhn⟩:=eqv hl.length;obtain⟨hf9,hhf⟩:=eqv (itF hl);rw[<-hhn]at O1 hlh hfi;rw[<-hhf]at O1 hfi;have hkey:∀i,i<hn9->U64 (hf9 i).key:=fun i hi=>hku _ (by rw[<-hfi];exact List.mem_map.2 ⟨i,List.mem_range.2 hi,rfl⟩)
 refine wpIn_block (wpIn_seq (rrg O a8 [31,29,30,5,4,3] [0,5,2,3,4,900,901,6,77] [(2,.r fun x=>.sl none (x.A 0) hn9 (x.c 0) 2 (fun i=>itC (hf9 i)))] Z fun X11 a0 w1 Z=>?_));refine wpIn_block (jy (ι:=Nat×Option Addr×Nat×Nat×(Nat->Itm)) (fun q a w'=>i5 ⟨m,w,ats [(0,⟨b,139,G1 J A c p⟩)],[],_⟩ ⟨49,[(31,.int .i64 (q.1:Int)),(29,.sl none ((X11 2).A 0) hn9 ((X11 2).c 0) 2 (fun i=>itC (hf9 i))),(30,.int .i64 (hn9:Int)),(5,.ptr 5 b5 0),(4,.ptr 4 b4 0),(3,.ptr 3 b3 0)],[],rcM b b2 b3 b4 b5 br bx R wh J A0 c0 p0 q.2.1 q.2.2.1 q.2.2.2.1 q.2.2.2.2 ++ [(6,⟨b6,144,Ib s0⟩)],rcG q.2.1 q.2.2.1 q.2.2.2.1⟩ a w')
  (fun q=>q.1<=hn9/\f5 q.2.2.2.2 q.2.2.1=f5 g n1++((List.range q.1).map hf9).filter (fun x=>dM R x.key)/\q.2.2.1<=n1+q.1) (fun q=>hn9-q.1) (0,A1,n1,c1,g) ⟨Nat.zero_le _,by simp,Nat.le_refl _⟩ (by subst O;exact Z) ?_)
 rintro⟨i,A2,n2,c2,g2⟩ ⟨hi,hg2,hle2⟩ a2 w3 Z
 dsimp only at hi hg2 hle2 Z;refine wpIn_seq (rrg O a8 [32,31,29,30,5,4,3] [0,5,2,3,4,900,901,6,77] [] Z fun X12 a0 w1 Z=>?_);refine wpIn_seq (cO Z rfl (fun hb Z=>?_) (fun hb Z=>?_))
 .have hin:i<hn9:=by
   have:(i:Int)<(hn9:Int):=by subst O;simpa[std,d4]using hb
   omega
  have e:B.arith .add .i64 (i:Int) 1=((i+1:Nat):Int):=by subst O;exact k4 (n:=hn9) hin (by omega)
  refine wpIn_skip (wpIn_seq (wpIn_block (wpIn_seq (rrg O a8 [9,31,29,30,5,4,3] [9,0,5,2,3,4,900,901,6,77] [] Z (fun X13 a0 w1 Z=>?_) (hob:=by intro X;subst O;simp only[i7,Ob.holds,BE.den]<;>and_intros<;>repeat first|trivial|rfl|exact(show(0:Int)<=(i:Int)by omega)|exact(show(i:Int)<(hn9:Int)by omega)|refine⟨?_,?_⟩|intro h)))))
  have Z:=Z.memS (cells':=itC (hf9 i)) (by subst O;exact zl);have hik:=hkey i hin;have O1:=IQ R (hf9 i).key.toNat (Y5 hik);rw[Int.toNat_of_nonneg hik.1]at O1;have hiB:dM R (hf9 i).key=decide (R.Is/\gX R (hf9 i).key.toNat):=rfl;have hwi:=fun h:wh=true=>xk (hwh.symm.trans h) (hf9 i).key
  obtain⟨iq,hiq⟩:=eqv (decide (R.Is/\gX R (hf9 i).key.toNat));rw[<-hiq]at O1 hiB;have hst:=qv R hf9 i;refine wpIn_seq (rrg O a8 [41,9,31,29,30,5,4,3] [5,0,9,2,3,4,900,901,6,77] [(5,.r fun _=>.bool (.v iq))] Z fun X14 a0 w1 Z=>?_);refine cO Z rfl (fun hb Z=>?_) (fun hb Z=>?_)
  .have hins:dM R (hf9 i).key=true:=by
    have h9:(if wh=true then true else iq)=true:=by subst O;exact hb
    cases hw9:wh with
    |true=>exact hwi hw9
    |false=>rw[hw9]at h9;rw[hiB];exact h9
   rw[if_pos hins]at hst;refine rrg O a8 [31,29,30,5,4,3] [5,0,2,3,4,900,901,6,77] [] Z (fun X15 a0 w1 Z=>?_) (hob:=?hob)
   case hob=>
    intro X;subst O
    repeat(first|exact trivial|refine⟨⟨rfl,rfl,rfl⟩,?_⟩|refine⟨rfl,?_⟩|refine⟨⟨show n2+1<=maxLen by omega,show(n2+1)*_<=_ by omega⟩,?_⟩)
   have Z:=Z.memS (cells':=[.sl (some 77) ((X15 3).A 0) (n2+1) ((X15 3).c 0) 2 (fun t=>itC (V3 g2 n2 (hf9 i) t))]) (by
    subst O;refine⟨Sim.resl rfl (fun t ht=>?_),trivial⟩;have ht2:t<n2+1:=ht
    show D3 n2 (fun t=>itC (g2 t)) (C9 2 (itC (hf9 i))) t=_
    unfold D3 V3
    split
    .rw [if_neg (by omega)]
    have:t=n2:=by omega
    subst this;simp[C9,itC])
   have Z:=Z.regr (n':=n2+1) (by subst O;rfl);refine rrg O a8 [31,29,30,5,4,3] [0,5,2,3,4,900,901,6,77] [] Z fun X16 a0 w1 Z=>?_
   exact⟨(i+1,_,n2+1,_,V3 g2 n2 (hf9 i)),⟨hin,by simp only;rw[Q8,hg2,hst,List.append_assoc],by dsimp only;omega⟩,by dsimp only;omega,by rw[<-e];exact Z⟩
  have hins:¬dM R (hf9 i).key=true:=by
   have h9:(if wh=true then true else iq)=false:=by subst O;exact hb
   cases hw9:wh with
   |true=>rw[hw9]at h9;cases h9
   |false=>rw[hw9]at h9;rw[hiB];intro h8;rw[h8]at h9;cases h9
  rw[if_neg hins,List.append_nil]at hst;refine wpIn_skip (rrg O a8 [31,29,30,5,4,3] [0,5,2,3,4,900,901,6,77] [] Z fun X16 a0 w1 Z=>?_);exact⟨(i+1,A2,n2,c2,g2),⟨hin,by simp only;rw[hg2,hst],by dsimp only;omega⟩,by dsimp only;omega,by rw[<-e];exact Z⟩
 have hout:i=hn9:=by
  have:¬(i:Int)<(hn9:Int):=by subst O;simpa[std,d4]using hb
  omega
 refine wpIn_exit ⟨noK,_,_,⟨rfl,A2,n2,c2,g2,rfl,rfl,?_,by omega⟩,hoff _ rfl,Z.bare⟩;rw[hg2,hout,htd]
 congr 2
theorem Ex(k0 b:Nat)(J:j4)(hJ:l6 J)(hRJ:aW J)(A:Option Addr)(c:Nat)(p:Pst)(hp:j3 p)(hn:p.n<=1000000)(hh:J.how=1 \/ J.how=2):nH 36 k0 b J A c p [] (aS J.bucket J.budget J.how J.rct p):=by
 refine U5.re (AS b J hJ hRJ A c p hp hn hh) ⟨Sim.ptr,trivial⟩ rfl fun x=>?_
 cases aS J.bucket J.budget J.how J.rct p with
 |ok a q=>exact⟨rfl,rfl,zr,rfl⟩
 |stop wq q=>exact⟨rfl,zr,rfl,rfl⟩
theorem BI:l8 Tryz.prog 36:=fun _ _=>by kernel_rfl
theorem aW.less{J:j4}(h:aW J)(n:Nat):aW (J.less n):=⟨h.x1,h.x2,h.y1,h.y2⟩
theorem ma(J:j4)(hJ:eu J)(hRJ:aW J)(A:Option Addr)(n c:Nat)(f:Nat->s9)(hn:n<=900000)(hin:∀j,j<n->InG (f j)):k9 Tryz.prog 12 [Z6 J,ej A n c f] (fun x=>.tup [E5 (wqA x (I4 J n f).1),.int .i64 (I4 J n f).2]):=by
 intro m w hm hargs;have hk:dZ 1 (fun _=>12) J.kind=(decide (J.kind=12)):=by rw[HE];simp only[wH J.kind]<;>rfl
 have hdo:(F8 J&&dZ 1 (fun _=>12) J.kind&&J9 n f)=true->∀k0 b,nH 36 k0 b (J.less n) A c (nM n f) [] (aS J.bucket (J.budget-n) J.how J.rct (nM n f)):=by
  intro hok k0 b;rw[hk]at hok;simp only[Bool.and_eq_true]at hok;obtain⟨⟨h1,h2⟩,h3⟩:=hok;exact Ex k0 b (J.less n) (uu hJ h1 hn) (hRJ.less n) A c (nM n f) (tX hin h3) (by show n<=1000000;omega) (by have h:=wd h1;exact h)
 have S:∀kG kA cells,cells 0=[.int .i64 12]->k9 Tryz.prog 35 [Z6 J,ej A n c f,.sl kG kA 1 1 1 cells,.fn 36 [] []] (fun x=>.tup [E5 (wqA x (I4 J n f).1),.int .i64 (I4 J n f).2]):=by
  intro kG kA cells h10;unfold I4;rw[<-hk];refine(((II (cap:=[]) 36 _ J hJ A n c f hn hin kG kA 1 1 (fun _=>12) hdo BI).x (fun _=>rfl)).pure (fun _=>rfl)).sim ⟨zr,zr,Sim.recell (fun i hi=>?_),zr,trivial⟩
  match i,hi with
  |0,_=>rw[h10]<;>rfl
 obtain⟨W9,hW9⟩:=eqv ((I4 J n f).1);obtain⟨E9,hE9⟩:=eqv ((I4 J n f).2);obtain⟨rr9,hrr9⟩:=eqv (W9.r.rn);obtain⟨nn9,hnn9⟩:=eqv (W9.res.items.length);obtain⟨ff9,hff9⟩:=eqv (itF W9.res.items);have T9:=k9.wq (S none none (fun i=>[.int .i64 ((fun _=>12) i)]) rfl) hW9 hE9 hrr9 hnn9 hff9;have T:∀kG kA cells,cells 0=[.int .i64 12]->k9 Tryz.prog 35 [Z6 J,ej A n c f,.sl kG kA 1 1 1 cells,.fn 36 [] []] (fun x=>.tup [E5 (wqB x W9 rr9 nn9 ff9),.int .i64 E9]):=fun kG kA cells h10=>k9.wq (S kG kA cells h10) hW9 hE9 hrr9 hnn9 hff9
 refine en 12 hm hargs Tryz.func12 fun B O a0 Z=>?_
 refine a6 [1,2,4] [2,4] Z fun X0 Z=>?_
 refine a7 ?_;refine f7 [4,5] [4,8] [(3,.r fun x=>.tup [.agg [.int .i64 W9.kind,.int .i64 W9.lab.len,.int .u64 W9.lab.bits,.int .u64 W9.ver,.int .i64 rr9.kd,.sl none (x.A 1) rr9.n (x.c 1) 2 (fun i=>itC (rr9.f i)),.int .i64 rr9.nx.len,.int .u64 rr9.nx.bits,.int .u64 rr9.mrk,.int .i64 W9.res.code,.bool (.v W9.res.had),.str W9.res.val,.sl none (x.A 2) nn9 (x.c 2) 2 (fun i=>itC (ff9 i)),.int .u64 W9.res.key,.bool (.v W9.res.more)],.int .i64 E9])] Z (hob:=by intro X;subst O;simp only[i7,Ob.holds,BE.den]<;>and_intros<;>repeat first|trivial|rfl|exact T _ _ _ rfl|exact(fun _ _=>by kernel_rfl)|refine⟨?_,?_⟩|intro h|exact Int.le_refl _|decide|omega) fun X1 Z=>?_
 refine i8 ((rsi O a8 Z ((X1 3)) (he:=?_)));subst O;rw[<-hW9,<-hE9];unfold wqA;rw[<-hrr9,<-hnn9,<-hff9];exact zr
section
variable {α : Type}
def Z7(l:Lab):List (Lab×α)->Option α
 | []=>none
 |p::L=>if p.1=l then some p.2 else Z7 l L
def L4(l:Lab)(x:α):List (Lab×α)->List (Lab×α)
 | []=>[(l,x)]
 |p::L=>if p.1=l then(l,x)::L else p::L4 l x L
theorem cZ{l:Lab}{x:α}:∀{L:List (Lab×α)},Z7 l L=some x->(l,x)∈L
 |p::L,h=>by
  unfold Z7 at h
  split at h
  .rename_i he;injection h with h;subst h;subst he;exact List.mem_cons_self ..
  exact List.mem_cons_of_mem _ (cZ h)
theorem iD{p:Lab×α}:∀{L:List (Lab×α)},(L.map (·.1)).Nodup->p∈L->Z7 p.1 L=some p.2
 |q::L,h,hp=>by
  have h':=List.nodup_cons.1 h;unfold Z7
  rcases List.mem_cons.1 hp with rfl|hp
  .rw [if_pos rfl]
  rw[if_neg (fun e=>h'.1 (List.mem_map.2 ⟨p,hp,e.symm⟩))];exact iD h'.2 hp
theorem iS{l k:Lab}{x:α}:∀{L:List (Lab×α)},Z7 k (L4 l x L)=if l=k then some x else Z7 k L
 | []=>by simp[L4,Z7]
 |p::L=>by
  unfold L4
  by_cases h:p.1=l
  .rw [if_pos h]
   unfold Z7
   by_cases hk:l=k
   .simp [hk]
   simp[hk,h]
  rw[if_neg h];unfold Z7;rw[iS]
  by_cases hk:l=k
  .subst hk;simp[h]
  simp[hk]
theorem lR{l:Lab}{x:α}:∀{L:List (Lab×α)},(L4 l x L).map (·.1)=if(Z7 l L).isSome then L.map (·.1)else L.map (·.1) ++ [l]
 | []=>by simp[L4,Z7]
 |p::L=>by
  unfold L4 Z7
  by_cases h:p.1=l
  .simp [h]
  simp only[if_neg h,List.map_cons,lR]
  split<;>simp
theorem kW{l:Lab}{x:α}(L:List (Lab×α)):(L4 l x L).length=if(Z7 l L).isSome then L.length else L.length+1:=by
 have:=congrArg List.length (lR (l:=l) (x:=x) (L:=L));rw[List.length_map]at this;rw[this]
 split<;>simp
theorem oL{l:Lab}:∀{L:List (Lab×α)},Z7 l L=none->l ∉ L.map (·.1)
 | [],_=>by simp
 |p::L,h=>by
  unfold Z7 at h
  split at h
  .cases h
  rename_i hn
  simp only[List.map_cons,List.mem_cons,not_or];exact⟨fun e=>hn e.symm,oL h⟩
theorem oe{l:Lab}{x:α}{L:List (Lab×α)}(h:(L.map (·.1)).Nodup):((L4 l x L).map (·.1)).Nodup:=by
 rw[lR]
 split
 .exact h
 rename_i hn
 have:=oL (by simpa using hn:Z7 l L=none);exact List.nodup_append.2 ⟨h,by simp,fun a ha b hb=>by simp at hb;subst hb;exact fun e=>this (e ▸ ha)⟩
theorem Dx{l:Lab}{x:α}{L:List (Lab×α)}(h:(L.map (·.1)).Nodup)(p:Lab×α):p∈L4 l x L↔p=(l,x) \/ (p∈L/\p.1≠l):=by
 constructor
 .intro hp
  have h1:=iD (oe (l:=l) (x:=x) h) hp;rw[iS]at h1
  by_cases he:l=p.1
  .rw [if_pos he]at h1
   injection h1 with h1
   obtain⟨p1,p2⟩:=p;simp only at he h1;subst he;subst h1;exact .inl rfl
  rw[if_neg he]at h1;exact .inr ⟨cZ h1,fun e=>he e.symm⟩
 rintro(rfl|⟨hp,hne⟩)
 .exact cZ (by rw[iS,if_pos rfl])
 exact cZ (x:=p.2) (l:=p.1) (by rw[iS,if_neg (fun e=>hne e.symm)];exact iD h hp)
structure LmD(el:α->AV)(D:DataW Value)(b:Nat)(L:List (Lab×α))(m:Nat->Nat->Prop)(w:World):Prop where
 map:Y0 Tryz.prog 24 w b L.length D
 nd:(L.map (·.1)).Nodup
 labs:∀p∈L,u0 p.1
 has:∀kl,Maps.has D kl=true ↔ ∃p∈L,K5 p.1=kl
 size:Maps.size D=L.length
 at_:∀p∈L,∀zd,D.atKey (K5 p.1) zd = .held (el p.2).den
 ok:∀p∈L,Ok m w (el p.2)
variable {el:α->AV} {D:DataW Value} {b:Nat} {L:List (Lab×α)} {m m':Nat->Nat->Prop} {w w':World} {l:Lab}
theorem LmD.keepB{bo:Option Nat}(h:LmD el D b L m w)(k:ae bo w m w' m')(hb:bo≠some b):LmD el D b L m' w':=
 ⟨mu k hb h.map,h.nd,h.labs,h.has,h.size,h.at_,fun p hp=>k.ok (h.ok p hp)⟩
theorem LmD.keep(h:LmD el D b L m w)(k:cb w m w' m'):LmD el D b L m' w':=
 ⟨ou k h.map,h.nd,h.labs,h.has,h.size,h.at_,fun p hp=>k.ok (h.ok p hp)⟩
def lmK(el:α->AV)(b:Nat)(L:List (Lab×α)):Kn:=⟨fun m w=>∃D,LmD el D b L m w,fun k ⟨D,h⟩=>⟨D,h.keep k⟩⟩
def lmF(el:α->AV)(n b:Nat)(L:List (Lab×α)):Kn:=⟨fun m w=>n<=b/\(lmK el b L).p m w,fun k h=>⟨h.1,(lmK el b L).st k h.2⟩⟩
theorem vT{n:Nat}(h:b≠n):(lmK el b L).off n:=fun k ⟨D,x⟩=>⟨D,x.keepB k (fun e=>h (by injection e with e;exact e.symm))⟩
theorem qo(h:(lmK el b L).p m w):∃es cl,w.heap[b]? = some (.map es cl):=by
 obtain⟨D,h⟩:=h;obtain⟨es,cl,hb,_⟩:=h.map;exact⟨es,cl,hb⟩
theorem AW(h:(lmK el b L).p m w):b<w.heap.size:=by
 obtain⟨es,cl,hb⟩:=qo h;exact aC hb
theorem LmD.empty(h:Y0 Tryz.prog 24 w b 0 (.map [])):LmD el (.map []) b [] m w:=
 ⟨h,.nil,fun p hp=>(by cases hp),fun kl=>⟨fun h=>(by cases h),fun⟨p,hp,_⟩=>(by cases hp)⟩,rfl,fun p hp=>(by cases hp),fun p hp=>(by cases hp)⟩
theorem LmD.hasL(h:LmD el D b L m w)(hl:u0 l):Maps.has D (K5 l)=(Z7 l L).isSome:=by
 cases hf:Z7 l L with
 |some x=>exact(h.has _).2 ⟨(l,x),cZ hf,rfl⟩
 |none=>
  rw[Option.isSome_none,Bool.eq_false_iff];intro hh;obtain⟨p,hp,he⟩:=(h.has _).1 hh;have:p.1=l:=fe (h.labs p hp) hl he;rw[<-this,iD h.nd hp]at hf
  cases hf
theorem LmD.look(h:LmD el D b L m w)(hl:u0 l){mt e:TypeId}(ht:Tryz.prog.underlying mt=some (.map 24 e)){z:α}(hz:(zeroValue e).run Tryz.prog w = .ok (el z).den w)(hzo:Ok m w (el z))(c:Bool) :
  (Instr.lookup mt (.map (some b)) (i6 l).den c).run Tryz.prog w = .ok (if c then .tuple #[(el ((Z7 l L).getD z)).den,.bool (Z7 l L).isSome]else(el ((Z7 l L).getD z)).den) w/\Ok m w (el ((Z7 l L).getD z)):=by
 have hh:=h.hasL hl;obtain⟨es,clock,hb,F,_,hD⟩:=h.map
 rcases Maps.fit_look c dK ht hz hb F (P6 hl)with⟨hrun,_,hat⟩|⟨e0,y,_,_,hrun,hRv,hat,_⟩
 .rw [<-hD]at hat
  have hf:=Maps.has_false_of_atKey hat;rw[hh]at hf;have hn:Z7 l L=none:=by cases hg:Z7 l L with
   |none=>rfl
   |some x=>rw[hg]at hf;cases hf
  rw[hn];exact⟨hrun,hzo⟩
 rw[<-hD]at hat;have hf:=Maps.has_true_of_atKey hat;rw[hh]at hf;obtain⟨x,hx⟩:=Option.isSome_iff_exists.1 hf;have hm:=cZ hx;have e1:=h.at_ _ hm (.held Go.undef);rw[hat]at e1;have e2:y.1 = .held e0.val:=by unfold hR at hRv;injection hRv with hRv;rw[<-hRv]
 rw[e2]at e1;injection e1 with e1
 rw[hx];simp only at e1;simp only[Option.getD_some,Option.isSome_some];exact⟨by rw[<-e1];exact hrun,h.ok _ hm⟩
theorem Ey{K:Kn}(hK:∀m w,K.p m w->(lmK el b L).p m w)(hl:u0 l){mt e:TypeId}(ht:Tryz.prog.underlying mt=some (.map 24 e)){z:α}(hz:∀w,(zeroValue e).run Tryz.prog w = .ok (el z).den w)(hzo:∀m w,Ok m w (el z)){v:AV}(hv:el ((Z7 l L).getD z)=v):Ob.holds Tryz.prog K (.look mt false (.raw (.map (some b))) (i6 l) v):=by
 intro m w hk;obtain⟨D,hD⟩:=hK m w hk;obtain⟨h1,h2⟩:=hD.look hl ht (hz w) (hzo m w) false;rw[hv]at h1 h2;exact⟨h1,h2⟩
theorem LmD.put(h:LmD el D b L m w)(hl:u0 l)(k:ae (some b) w m w' m){x:α}(hv:Ok m w (el x))(hM:Y0 Tryz.prog 24 w' b (L.length+1) (D.put (K5 l) (.held (el x).den))):∃D',LmD el D' b (L4 l x L) m w':=by
 have hkey:WideAt.IsKeyLit (K5 l):=dK.key (P6 hl);have hmp:Maps.IsMap D:=(h.map.tidy dK).isMap;have hsz:=ot hM;have hlen:Maps.size (D.put (K5 l) (.held (el x).den))=(L4 l x L).length:=by
  rw[Maps.size_put (h.map.tidy dK),h.hasL hl,kW];rw[h.size]
 have hin:=Dx (l:=l) (x:=x) h.nd;refine⟨_,?_,oe h.nd,fun p hp=>?_,fun kl=>?_,hlen,fun p hp zd=>?_,fun p hp=>?_⟩
 .rw [hlen]at hsz;exact hsz
 .rcases (hin p).1 hp with rfl|⟨hp,_⟩
  .exact hl
  exact h.labs p hp
 .by_cases he:kl=K5 l
  .subst he
   rw[Maps.has_put_same hmp hkey];exact⟨fun _=>⟨_,(hin _).2 (.inl rfl),rfl⟩,fun _=>rfl⟩
  rw[Maps.has_put_other he,h.has]
  constructor
  .rintro ⟨p,hp,hk⟩
   exact⟨p,(hin p).2 (.inr ⟨hp,fun e=>he (by rw[<-hk,e])⟩),hk⟩
  rintro⟨p,hp,hk⟩
  rcases(hin p).1 hp with rfl|⟨hp,_⟩
  .exact absurd hk.symm he
  exact⟨p,hp,hk⟩
 .rcases (hin p).1 hp with rfl|⟨hp,hne⟩
  .rw [Maps.atKey_put_same hmp hkey]
  rw[Maps.atKey_put_other (fun e=>hne (fe (h.labs p hp) hl e))];exact h.at_ p hp zd
 rcases(hin p).1 hp with rfl|⟨hp,hne⟩
 .exact k.ok hv
 exact k.ok (h.ok p hp)
theorem qn{n:Nat}(h0:Y0 Tryz.prog 24 w b n D)(hl:u0 l)(h:(lmK el b L).p m w)(k:ae (some b) w m w' m){v:AV}{x:α}(hs:Sim v (el x))(hv:Ok m w v)(hM:Y0 Tryz.prog 24 w' b (L.length+1) (D.put (K5 l) (.held v.den))):(lmK el b (L4 l x L)).p m w':=by
 obtain⟨D1,h1⟩:=h;have:=so h0 h1.map;subst this;rw[hs.1]at hM;exact h1.put hl k (hs.2.2 _ _ hv) hM
end
theorem iH:Tryz.prog.underlying 125=some (.map 24 35):=by kernel_rfl
theorem mq:Tryz.prog.underlying 130=some (.map 24 24):=by kernel_rfl
theorem wM(l:Lab)(f:Nat->Itm)(i:Nat):G8 l (f5 f (i+1))=G8 l (f5 f i)++(if z6 l (f i).key=true then [f i]else []):=by
 unfold f5 G8;rw[List.range_succ,List.map_append,List.filter_append]
 congr 1
 by_cases h:z6 l (f i).key=true<;>simp[h]
theorem HS(A:Option Addr)(n c:Nat)(f:Nat->Itm)(hn:n<=1000000)(l:Lab)(hb0:U64 l.bits)(hki:∀i,i<n->U64 (f i).key):k9 Tryz.prog 112 [s4 A n c f,i6 l] (fun x=>s4 (x.A 0) (G8 l (f5 f n)).length (x.c 0) (itF (G8 l (f5 f n)))):=by
 intro m w hm hargs;have hmx:maxLen=9223372036854775807:=rfl;unfold s4 at hargs ⊢;simp only[i6]at hargs ⊢;refine en 24 hm hargs Tryz.func112 fun B O a0 Z=>?_
 refine a6 [0,3] [3] Z fun X0 Z=>?_
 refine a6 [5,3,0] [3,5] Z fun X1 Z=>?_
 refine a7 (a6 [5,10,3,8,9] [3,5] Z fun X2 Z=>?_);replace Z:=Z.headS (v':=.sl (some 5) none 0 0 2 (fun t=>itC s7)) (zq0) rfl;refine j1 (l3 (ι:=Nat×Nat×(Nat->Itm)×Option Addr×Nat) (fun p=>[(5,.sl (some 5) p.2.2.2.1 p.2.1 p.2.2.2.2 2 (fun t=>itC (p.2.2.1 t))),(10,.int .i64 (p.1:Int))]) (fun p=>[]) (fun p=>[(5,⟨p.2.2.2.1,p.2.1,p.2.2.2.2,2,62⟩)]) (fun p=>p.1<=n/\p.2.1<=p.1/\f5 p.2.2.1 p.2.1=G8 l (f5 f p.1)) (fun p=>n-p.1) (0,0,fun _=>s7,none,0) ⟨Nat.zero_le _,Nat.le_refl _,rfl⟩ Z ?_)
 rintro⟨i,q,g,A1,c1⟩ ⟨hi,hq,hg⟩ _ _ Z
 try dsimp only at hi
 try dsimp only at hq
 try dsimp only at hg
 refine a6 [11,5,10,3,8,9] [3,5] Z fun X3 Z=>?_
 refine a7 (b7 Z rfl (fun hb Z=>?_) (fun hb Z=>?_))
 .have hin:i<n:=by
   have:(i:Int)<(n:Int):=by subst O;simpa[std,d4]using hb
   omega
  have S:=wN l hb0 (f i).key (hki i hin);simp only[i6]at S;obtain⟨cq,hcq⟩:=eqv (z6 l (f i).key);rw[<-hcq]at S;refine f8 (a7 (j1 (a7 ?_)));have O4:(0:Int)<=(i:Int):=by omega
  have O5:(i:Int)<(n:Int):=by omega
  refine j5 [7,5,10,3,8,9] [7,3,5] Z fun X4 Z=>?_
  replace Z:=Z.memS (cells':=itC (f i)) (by subst O;exact zl);have O1:=S;refine i9 [17,7,5,10,3,8,9] [7,3,5] [(3,.r fun _=>.bool (.v cq))] Z fun X5 Z=>?_
  apply b7 Z rfl<;>intro hb Z
  .have hct:cq=true:=hb
   rw[hct]at hcq;refine j5 [5,10,3,8,9] [3,5] Z (hob:=?hob) fun X6 Z=>?_
   case hob=>
    intro X;subst O
    repeat(first|exact trivial|refine⟨⟨rfl,rfl,rfl⟩,?_⟩|refine⟨rfl,?_⟩|refine⟨⟨show q+1<=maxLen by omega,show(q+1)*_<=_ by omega⟩,?_⟩)
   replace Z:=Z.headS (v':=.sl (some 5) ((X6 3).A 0) (B.nadd q 1) ((X6 3).c 0) 2 (fun t=>itC (V3 g q (f i) t))) (Sim.resl rfl (fun t ht=>by
    subst O;have ht2:t<q+1:=ht
    show D3 q (fun t=>itC (g t)) (C9 2 [.int .u64 (f i).key,.str (f i).val]) t=_
    unfold D3 V3
    split
    .rw [if_neg (by omega)]
    have:t=q:=by omega
    subst this;simp[C9,itC])) rfl
   refine j5 [5,10,3,8,9] [3,5] Z fun X7 Z=>?_
   have e:B.arith .add .i64 (i:Int) 1=((i+1:Nat):Int):=by subst O;exact k4 (n:=n) hin (by omega)
   refine⟨(i+1,q+1,V3 g q (f i),_,_),⟨by simp only;omega,by simp only;omega,?_⟩,by simp only;omega,by rw[<-e,show q+1=B.nadd q 1 by subst O;rfl];exact Z⟩
   simp only;rw[Q8,hg,wM,if_pos hcq.symm]
  have hcf:cq=false:=hb;rw[hcf]at hcq;refine f8 (j5 [5,10,3,8,9] [3,5] Z fun X7 Z=>?_);have e:B.arith .add .i64 (i:Int) 1=((i+1:Nat):Int):=by subst O;exact k4 (n:=n) hin (by omega)
  refine⟨(i+1,q,g,_,_),⟨by simp only;omega,by simp only;omega,?_⟩,by simp only;omega,by rw[<-e];exact Z⟩;simp only;rw[hg,wM,if_neg (by rw[<-hcq];decide),List.append_nil]
 have hout:i=n:=by
  have:¬(i:Int)<(n:Int):=by subst O;simpa[std,d4]using hb
  omega
 rw[hout]at hg;refine j9 (a6 [4] [5] Z fun X8 Z=>?_);refine i8 ((rsi O a8 Z (⟨0,fun _=>A1,fun _=>c1,fun _=>⟨#[]⟩⟩) (he:=?_)));subst O;exact Sim.resl (by rw[<-hg,j2]) (fun t ht=>by rw[<-hg,j2]at ht;rw[<-hg,u6 _ _ t ht])
theorem vE(a b:Lab)(W:World):Calls Tryz.prog 79 #[(i6 a).den,(i6 b).den] W fun e w'=>e = .returned (.int .i64 (fo a b))/\GrF W w':=by
 obtain⟨al,ab⟩:=a;obtain⟨bl,bb⟩:=b;simp only[i6,AV.den,AV.denL,fo];have hU:=fun w=>Km ab bb w
 have hN:=fun w=>Ko al bl w
 generalize dm ab bb=x at hU ⊢
 generalize dm al bl=y at hN ⊢
 have hO:=fun b w h0 h1=>Ns b x y w h0 h1
 generalize (if x≠0 then x else y)=r at hO ⊢
 go_enter Tryz.func79,Tryz.ntmps79
 go_wp2_with fail
 obtain⟨W5,hW5⟩:=eqv ((W.alloc (.cells #[.int .i64 al,.int .u64 ab] 24)).alloc (.cells #[.int .i64 bl,.int .u64 bb] 24));have hG:GrF W W5:=by rw[hW5];exact((GrF.refl W).alloc _).alloc _
 have hs:W5.heap.size=W.heap.size+1+1:=by rw[hW5];simp
 have z0:W5.heap[W.heap.size]? = some (.cells #[.int .i64 al,.int .u64 ab] 24 (0,0)):=by
  rw[hW5,Below.heap_alloc _ _ _ (by simp)];exact heap_alloc_new W _
 have z1:W5.heap[W.heap.size+1]? = some (.cells #[.int .i64 bl,.int .u64 bb] 24 (0,0)):=by
  have:=heap_alloc_new (W.alloc (.cells #[.int .i64 al,.int .u64 ab] 24)) (.cells #[.int .i64 bl,.int .u64 bb] 24);rw[hW5];simpa using this
 have c0:W5.cell? ⟨W.heap.size,0,none⟩=some (.int .i64 al):=cell_of_row W5 _ 0 _ _ _ z0;have c1:W5.cell? ⟨W.heap.size,1,none⟩=some (.int .u64 ab):=cell_of_row W5 _ 1 _ _ _ z0;have c2:W5.cell? ⟨W.heap.size+1,0,none⟩=some (.int .i64 bl):=cell_of_row W5 _ 0 _ _ _ z1;have c3:W5.cell? ⟨W.heap.size+1,1,none⟩=some (.int .u64 bb):=cell_of_row W5 _ 1 _ _ _ z1;clear z0 z1;rw[<-hW5];clear hW5;clear hs
 go_region_held3 (fun w'=>w'.cell? ⟨W.heap.size,0,none⟩=some (.int .i64 al)/\w'.cell? ⟨W.heap.size,1,none⟩=some (.int .u64 ab)/\w'.cell? ⟨W.heap.size+1,0,none⟩=some (.int .i64 bl)/\w'.cell? ⟨W.heap.size+1,1,none⟩=some (.int .u64 bb)/\W5.heap.size<=w'.heap.size/\GrF W w')
  ((go_split_ands;(repeat' apply And.intro)<;>first|with_reducible assumption|with_reducible exact GrF.drew (by assumption)|with_reducible exact GrF.alloc (by assumption) _|with_reducible exact GrF.drew (GrF.alloc (by assumption) _)|with_reducible exact uV (by assumption) _|with_reducible exact size_alloc (by assumption) _|go_keep))
  (first|(go_at_call 70;refine(hU _).mono ?_;rintro e w' ⟨rfl,rfl⟩)|(go_at_call 107;refine(hN _).mono ?_;rintro e w' ⟨rfl,rfl⟩)|(go_at_call 106;refine(hO _ _ (by first|exact AH _ _ _ _|exact pa (AH _ _ _ _)) (by first|exact AG _ _ _ _|exact pa (AG _ _ _ _))).mono ?_;rintro e w' ⟨rfl,rfl⟩))
 all_goals(go_wp2_with fail;go_ret;exact⟨rfl,by first|exact(hG.alloc _).drew|exact hG.alloc _⟩)
theorem GrF.trans{W w w':World}(h:GrF W w)(h':GrF w w'):GrF W w':=by
 obtain⟨q,os,rfl⟩:=h;obtain⟨q',os',rfl⟩:=h';exact⟨q+q',os++os',by simp[Go.Sort.grow,World.drewN,Array.append_assoc,Nat.add_assoc]⟩
theorem Kw(a b:D4)(W:World):Calls Tryz.prog 78 #[.agg ((J2 a).map AV.den).toArray,.agg ((J2 b).map AV.den).toArray] W fun e w'=>e = .returned (.int .i64 (fo a.lab b.lab))/\GrF W w':=by
 obtain⟨⟨al,ab⟩,av,⟨aA,ac,⟨an,af,ak,⟨anl,anb⟩,am⟩⟩⟩:=a;obtain⟨⟨bl,bb⟩,bv,⟨bA,bc,⟨bn,bf,bk,⟨bnl,bnb⟩,bm⟩⟩⟩:=b;simp only[J2,List.map_cons,List.map_nil,AV.den];have hO:=fun w=>vE ⟨al,ab⟩ ⟨bl,bb⟩ w
 simp only[i6,AV.den,AV.denL]at hO
 generalize fo ⟨al,ab⟩ ⟨bl,bb⟩=r at hO ⊢
 go_enter Tryz.func78,Tryz.ntmps78
 go_wp2_with (go_at_call 79;refine(hO _).mono ?_;rintro e w' ⟨rfl,hG⟩)
 all_goals(go_ret;exact⟨rfl,GrF.trans (((GrF.refl W).alloc _).alloc _) hG⟩)
end Go.Proofs.YtmbkanpapkhnaaaGreat.Sym
namespace Go.Proofs.YtmbkanpapkhnaaaGreat.Sym
open Go Go.RowKit Go.Sort
theorem tM{n B e:Nat}{A:Option Addr}{c:Nat}{h:Nat->D4}{w:World}(hO:Own w B e 8 (.slice A n c) n (j6 (fun t=>J2 (h t)) n))(hn:n<4611686018427387904) :
  Calls Tryz.prog 77 #[.slice A n c,.func (.func 78) #[] #[]] w fun e' w'=>e' = .returned (.tuple #[])/\∃h':Nat->D4,((List.range n).map h').Perm ((List.range n).map h)/\(∀i j,i<j->j<n->ei (h' j).lab (h' i).lab=false)/\Own w' B e 8 (.slice A n c) n (j6 (fun t=>J2 (h' t)) n)/\Chg (fun x=>B4 (.slice A n c)=some x) w w':=by
 refine rG (cells:=J2) (lt:=ltOf sZ) (k:=8) (fun _=>rfl) hO (fun b d hd hH hb=>?_) (fun h0=>?_)
 .have eg:∀args w,(callFunc 78 args).run Tryz.prog w = .ok (.enter 78 args) w:=enters_of Tryz.func78 (by kernel_rfl) rfl
  have hcmp:CmpLays Tryz.prog 78 #[] (fl J2) 8 sZ b 0 d.size w:=by
   intro m os dk hdk x y;refine(Kw x y _).mono ?_
   rintro e w' ⟨rfl,q,os',rfl⟩
   exact⟨rfl,q,os',rfl⟩
  have:=AnyQ.slices_SortFunc Tryz.sortRow 8 (fun _=>by kernel_rfl) (fun _=>by kernel_rfl) (fl J2) (fun _=>rfl) (fun x v hv=>by
   simp only[fl,J2,List.map_cons,List.map_nil,AV.den,List.mem_cons,List.not_mem_nil,or_false]at hv
   rcases hv with rfl|rfl|rfl|rfl|rfl|rfl|rfl|rfl<;>rfl) sZ HT 78 #[] b 0 c d w eg hcmp hH hb (by omega)
  exact this
 exact AnyF.slices_SortFunc_none (P:=Tryz.prog) (ρ:=Tryz.sortRow_ren) { Tryz.sortRow with } A c _ w
instance : Inhabited Lab := ⟨⟨0, 0⟩⟩
abbrev aG(x:Lab):List AV:=[.int .i64 x.len,.int .u64 x.bits]
def ta(x y:Lab):Int:=fo x y
theorem nw(x y:Lab):ltOf ta x y=ei x y:=rfl
theorem HU:SWO (ltOf ta):=by
 refine⟨fun x=>?_,fun x y z h1 h2=>?_,fun x y z h1 h2=>?_⟩
 .rw [nw,fH];omega
 .rw [nw,fI]at *;omega
 rw[nw,fH]at *;omega
theorem xu{n B e:Nat}{A:Option Addr}{c:Nat}{h:Nat->Lab}{w:World}(hO:Own w B e 2 (.slice A n c) n (j6 (fun t=>aG (h t)) n))(hn:n<4611686018427387904) :
  Calls Tryz.prog 81 #[.slice A n c,.func (.func 79) #[] #[]] w fun e' w'=>e' = .returned (.tuple #[])/\∃h':Nat->Lab,((List.range n).map h').Perm ((List.range n).map h)/\(∀i j,i<j->j<n->ei (h' j) (h' i)=false)/\Own w' B e 2 (.slice A n c) n (j6 (fun t=>aG (h' t)) n)/\Chg (fun x=>B4 (.slice A n c)=some x) w w':=by
 refine rG (cells:=aG) (lt:=ltOf ta) (k:=2) (fun _=>rfl) hO (fun b d hd hH hb=>?_) (fun h0=>?_)
 .have eg:∀args w,(callFunc 79 args).run Tryz.prog w = .ok (.enter 79 args) w:=enters_of Tryz.func79 (by kernel_rfl) rfl
  have hcmp:CmpLays Tryz.prog 79 #[] (fl aG) 2 ta b 0 d.size w:=by
   intro m os dk hdk x y;refine(vE x y _).mono ?_
   rintro e w' ⟨rfl,q,os',rfl⟩
   exact⟨rfl,q,os',rfl⟩
  have:=AnyQ.slices_SortFunc Tryz.sortLab 2 (fun _=>by kernel_rfl) (fun _=>by kernel_rfl) (fl aG) (fun _=>rfl) (fun x v hv=>by
   simp only[fl,aG,List.map_cons,List.map_nil,AV.den,List.mem_cons,List.not_mem_nil,or_false]at hv
   rcases hv with rfl|rfl<;>rfl) ta HU 79 #[] b 0 c d w eg hcmp hH hb (by omega)
  exact this
 exact AnyF.slices_SortFunc_none (P:=Tryz.prog) (ρ:=Tryz.sortLab_ren) { Tryz.sortLab with } A c _ w
end Go.Proofs.YtmbkanpapkhnaaaGreat.Sym
namespace Go.Proofs.YtmbkanpapkhnaaaGreat.Sym
open Go Go.RowKit
def qw(x:Lab):List Lab->List Lab
 | []=>[x]
 |y::l=>if M5 x y=true then x::y::l else y::qw x l
def rI(l:List Lab):List Lab:=l.foldl (fun o x=>qw x o) []
def eh(l:List Rw):List Lab:=(l.filter fun w=>decide (w.r.kind=1)).map (·.lab)
def L7(l:List Rw):List Lab:=rI (eh l)
def leL(a b:Lab):Prop:=M5 b a=false
theorem oB{a b c:Lab}(h:leL a b)(h':leL b c):leL a c:=by
 unfold leL at *
 cases hx:M5 c a with
 |false=>rfl
 |true=>
  rcases bU a b with h1|h1|h1
  .have:=bS hx h1
   rw[h']at this;cases this
  .subst h1
   rw[h']at hx;cases hx
  rw[h]at h1;cases h1
theorem lh{a b:Lab}(h:M5 a b=true):leL a b:=by
 unfold leL
 cases hx:M5 b a with
 |false=>rfl
 |true=>have:=bS h hx;rw[ss]at this;cases this
theorem sB{a b:Lab}(h:leL a b)(h':leL b a):a=b:=by
 unfold leL at *
 rcases bU a b with h1|h1|h1
 .rw [h']at h1;cases h1
 .exact h1
 rw[h]at h1;cases h1
theorem jJ(x:Lab):∀l:List Lab,(qw x l).Perm (x::l)
 | []=>List.Perm.refl _
 |y::l=>by
  unfold qw
  split
  .exact List.Perm.refl _
  exact(List.Perm.cons _ (jJ x l)).trans (List.Perm.swap _ _ _)
theorem kr(x:Lab):∀{l:List Lab},l.Pairwise leL->(qw x l).Pairwise leL
 | [],_=>List.pairwise_singleton _ _
 |y::l,h=>by
  have h':=List.pairwise_cons.1 h;unfold qw
  split
  .rename_i hx
   refine List.pairwise_cons.2 ⟨fun z hz=>?_,h⟩
   rcases List.mem_cons.1 hz with rfl|hz
   .exact lh hx
   exact oB (lh hx) (h'.1 z hz)
  rename_i hx
  refine List.pairwise_cons.2 ⟨fun z hz=>?_,kr x h'.2⟩
  rcases List.mem_cons.1 ((jJ x l).mem_iff.1 hz)with rfl|hz
  .exact (Bool.not_eq_true _).mp hx
  exact h'.1 z hz
theorem rH(l:List Lab):∀(o:List Lab),(l.foldl (fun o x=>qw x o) o).Perm (l++o)/\(o.Pairwise leL->(l.foldl (fun o x=>qw x o) o).Pairwise leL):=by
 induction l with
 |nil=>exact fun o=>⟨List.Perm.refl _,id⟩
 |cons x l ih=>
  intro o;obtain⟨h1,h2⟩:=ih (qw x o);refine⟨?_,fun ho=>h2 (kr x ho)⟩;refine h1.trans ?_;have:=(jJ x o).append_left l;exact this.trans List.perm_middle
theorem gj(l:List Lab):(rI l).Perm l:=by
 have:=(rH l []).1
 rwa[List.append_nil]at this
theorem pM(l:List Lab):(rI l).Pairwise leL:=(rH l []).2 .nil
theorem rE{l l':List Lab}(hp:l.Perm l')(h:l.Pairwise leL)(h':l'.Pairwise leL):l=l':=
 List.Perm.eq_of_pairwise (le:=leL) (fun a b _ _ h1 h2=>sB h1 h2) h h' hp
theorem zH{l l':List Lab}(hp:l.Perm l')(h:l.Pairwise leL):rI l'=l:=(rE (hp.trans (gj l').symm) h (pM l')).symm
theorem xw(l:List Lab):(rI l).length=l.length:=(gj l).length_eq
theorem xZ(l:List Rw):(eh l).length<=l.length:=by
 unfold eh;rw[List.length_map];exact List.length_filter_le _ _
theorem uq(l:List Rw):(L7 l).length<=l.length:=by
 unfold L7;rw[xw];exact xZ l
abbrev ko(A:Option Addr)(n c:Nat)(g:Nat->Lab):AV:=.sl none A n c 2 (fun t=>aG (g t))
def cX(l:List Lab):Nat->Lab:=fun t=>l.getD t ⟨0,0⟩
def ye(g:Nat->Lab)(p:Nat)(x:Lab):Nat->Lab:=fun i=>if i=p then x else g i
theorem mC(f:Nat->D4)(i:Nat):eh (J8 f (i+1))=eh (J8 f i)++(if(f i).x.r.kd=1 then [(f i).lab]else []):=by
 show eh (V8 D4.abs f (i+1))=eh (V8 D4.abs f i)++_
 rw[mB];unfold eh;rw[List.filter_append,List.map_append]
 congr 1
 by_cases h:(f i).x.r.kd=1
 .simp [D4.abs,RN.abs,h]
 simp[D4.abs,RN.abs,h]
theorem AQ(g:Nat->Lab)(q:Nat)(x:Lab):(List.range (q+1)).map (ye g q x)=(List.range q).map g ++ [x]:=by
 rw[List.range_succ,List.map_append]
 congr 1
 .apply List.map_congr_left
  intro t ht;have:=List.mem_range.1 ht;unfold ye;rw[if_neg (by omega)]
 simp[ye]
theorem sC(a b:Lab):ei a b=M5 a b:=by
 rw[Bool.eq_iff_iff,fI];simp[M5]
theorem ur{l:List Rw}{h h':Nat->Lab}{k:Nat}(hl:(List.range k).map h=eh l)(hp:((List.range k).map h').Perm ((List.range k).map h))(hs:∀i j,i<j->j<k->ei (h' j) (h' i)=false):L7 l=(List.range k).map h':=by
 unfold L7;rw[<-hl];refine zH hp ?_;rw[List.pairwise_map];refine List.Pairwise.imp_of_mem ?_ (List.pairwise_lt_range (n:=k));intro a b ha hb hab;unfold leL;rw[<-sC];exact hs a b hab (List.mem_range.1 hb)
theorem Bl{h:Nat->Lab}{k t:Nat}(ht:t<k):cX ((List.range k).map h) t=h t:=by
 unfold cX;simp[List.getD_eq_getElem?_getD,ht]
theorem BF:l8 Tryz.prog 81:=fun _ _=>by kernel_rfl
theorem Ba(A:Option Addr)(n c:Nat)(f:Nat->D4)(hn:n<=100000):k9 Tryz.prog 30 [cP A n c f] (fun y=>ko (y.A 0) (L7 (J8 f n)).length (y.c 0) (cX (L7 (J8 f n)))):=by
 intro m w hm hargs;have hmx:maxLen=9223372036854775807:=rfl;refine en 25 hm hargs Tryz.func30 fun B O a0 Z=>?_
 refine a7 (rg O a8 [0] [] [] Z fun X0 a0 w1 Z=>?_);refine a7 (rg O a8 [3,0] [3] [] Z fun X1 a0 w1 Z=>?_);refine a7 (a7 (rg O a8 [3,8,6,7] [3] [] Z fun X2 a0 w1 Z=>?_));replace Z:=Z.headS (v':=.sl (some 3) none 0 0 2 (fun t=>aG ⟨0,0⟩)) (zq0) rfl;refine j1 (l3 (ι:=Nat×Nat×(Nat->Lab)×Option Addr×Nat) (fun p=>[(3,.sl (some 3) p.2.2.2.1 p.2.1 p.2.2.2.2 2 (fun t=>aG (p.2.2.1 t))),(8,.int .i64 (p.1:Int))]) (fun p=>[]) (fun p=>[(3,⟨p.2.2.2.1,p.2.1,p.2.2.2.2,2,24⟩)]) (fun p=>p.1<=n/\p.2.1<=p.1/\(List.range p.2.1).map p.2.2.1=eh (J8 f p.1)) (fun p=>n-p.1) (0,0,fun _=>⟨0,0⟩,none,0) ⟨Nat.zero_le _,Nat.le_refl _,rfl⟩ Z ?_)
 rintro⟨i,q,g,A1,c1⟩ ⟨hi,hq,hg⟩ a0 w1 Z
 try dsimp only at hi
 try dsimp only at hq
 try dsimp only at hg
 refine a7 (rg O a8 [9,3,8,6,7] [3] [] Z fun X3 a0 w1 Z=>?_);refine a7 (b7 Z rfl (fun hb Z=>?_) (fun hb Z=>?_))
 .have hin:i<n:=by
   have:(i:Int)<(n:Int):=by subst O;simpa[std,d4]using hb
   omega
  refine f8 (a7 (j1 (a7 ?_)));refine rg O a8 [5,3,8,6,7] [5,3] [] Z (hob:=by intro X;subst O;simp only[i7,Ob.holds,BE.den]<;>and_intros<;>repeat first|trivial|rfl|exact(show(0:Int)<=(i:Int)by omega)|exact(show(i:Int)<(n:Int)by omega)|exact(fun _ _=>by kernel_rfl)|refine⟨?_,?_⟩|intro h|exact Int.le_refl _|decide|omega) fun X4 a0 w1 Z=>?_
  replace Z:=Z.memS (cells':=J2 (f i)) (by subst O;exact zl);refine a7 (rg O a8 [15,5,3,8,6,7] [5,3] [] Z fun X5 a0 w1 Z=>?_);apply b7 Z rfl<;>intro hb Z
  .have hk:(f i).x.r.kd=1:=by subst O;simpa[std,d4]using hb
   refine rg O a8 [3,8,6,7] [3] [] Z (hob:=?hob) fun X6 a0 w1 Z=>?_
   case hob=>
    intro X;subst O
    repeat(first|exact trivial|refine⟨⟨rfl,rfl,rfl⟩,?_⟩|refine⟨rfl,?_⟩|refine⟨⟨show q+1<=maxLen by omega,show(q+1)*_<=_ by omega⟩,?_⟩)
   replace Z:=Z.headS (v':=.sl (some 3) ((X6 4).A 0) (B.nadd q 1) ((X6 4).c 0) 2 (fun t=>aG (ye g q (f i).lab t))) (Sim.resl rfl (fun t ht=>by
    subst O;have ht2:t<q+1:=ht
    show D3 q (fun t=>aG (g t)) (C9 2 [.int .i64 (f i).lab.len,.int .u64 (f i).lab.bits]) t=_
    unfold D3 ye
    split
    .rw [if_neg (by omega)]
    have:t=q:=by omega
    subst this;simp[C9,aG])) rfl
   refine rg O a8 [3,8,6,7] [3] [] Z fun X7 a0 w1 Z=>?_
   have e:B.arith .add .i64 (i:Int) 1=((i+1:Nat):Int):=by subst O;exact k4 (n:=n) hin (by omega)
   refine⟨(i+1,q+1,ye g q (f i).lab,_,_),⟨by simp only;omega,by simp only;omega,?_⟩,by simp only;omega,by rw[<-e,show q+1=B.nadd q 1 by subst O;rfl];exact Z⟩
   simp only;rw[AQ,hg,mC,if_pos hk]
  have hk:¬(f i).x.r.kd=1:=by subst O;simpa[std,d4]using hb
  refine f8 (rg O a8 [3,8,6,7] [3] [] Z fun X7 a0 w1 Z=>?_);have e:B.arith .add .i64 (i:Int) 1=((i+1:Nat):Int):=by subst O;exact k4 (n:=n) hin (by omega)
  refine⟨(i+1,q,g,_,_),⟨by simp only;omega,by simp only;omega,?_⟩,by simp only;omega,by rw[<-e];exact Z⟩;simp only;rw[hg,mC,if_neg hk,List.append_nil]
 have hout:i=n:=by
  have:¬(i:Int)<(n:Int):=by subst O;simpa[std,d4]using hb
  omega
 rw[hout]at hg;refine j9 (a7 (wp_region_lit (lpr 0 1 O a8 [22,3] [3] [] Z fun X8_0 a0 w1 Z=>?_)));obtain⟨_,xs,hO⟩:=Z.gr 3 ⟨A1,q,c1,2,24⟩ rfl;have hs3:=Z.slot 3 rfl;have hk3:Ok _ w1 (.sl (some 3) A1 q c1 2 (fun t=>aG (g t))):=hs3.2;have hd3:a0.tmps[3]? = some (AV.sl (some 3) A1 q c1 2 (fun t=>aG (g t))).den:=hs3.1;have hfl:=rW hO hk3;rw[hfl]at hO;have hO:Own w1 w.heap.size 24 2 (.slice A1 q c1) q (j6 (fun t=>aG (g t)) q):=hO;refine mw rfl rfl rfl rfl rfl Z rfl rfl BF (fun w'=>∃h':Nat->Lab,((List.range q).map h').Perm ((List.range q).map g)/\(∀i j,i<j->j<q->ei (h' j) (h' i)=false)/\Own w' w.heap.size 24 2 (.slice A1 q c1) q (j6 (fun t=>aG (h' t)) q)) ((xu hO (by omega)).mono ?_) ?_
 .rintro e w2 ⟨he,h',g1,g2,g3,g4⟩
  exact⟨he,⟨h',g1,g2,g3⟩,g4⟩
 rintro w2 ⟨h',g1,g2,g3⟩ g4
 have hfin:=ur hg g1 g2;have hF2:=i5.sorted Z g4 (l':=[(3,.sl none A1 q c1 2 (fun t=>aG (h' t)))]) (fun x hx=>?hl) (fun x e he v hv=>?hm)
 case hl=>
  by_cases hx3:x=3
  .subst hx3
   refine⟨hd3,xN g3 (fun _ _=>rfl) (i5.notM Z) (fun i hi v hv=>?_) none⟩;simp only[aG,List.mem_cons,List.not_mem_nil,or_false]at hv
   rcases hv with rfl|rfl<;>exact⟨rfl,.int _ _⟩
  have:look [(3,AV.sl none A1 q c1 2 (fun t=>aG (h' t)))] x = .undef:=by rw[B6,if_neg (fun e=>hx3 e.symm)];rfl
  rw[this]at hx;cases hx
 case hm=>cases he
 have Z:i5 _ _ (a0.put (some 23) (.tuple #[])) w2:=hF2.put (some 23) (fun t ht=>by injection ht with ht;subst ht;exact Nat.le_of_ble_eq_true rfl) (.tup []) (fun _=>.tup _ fun u hu=>by cases hu) _ fun _=>rfl
 refine wpList_nil (a7 (rg O a8 [2] [2,3,20] [] Z fun X9 a0 w1 Z=>?_));refine i8 ((rsi O a8 Z (⟨0,fun _=>A1,fun _=>c1,fun _=>⟨#[]⟩⟩) (he:=?_)));subst O;rw[hfin,List.length_map,List.length_range];exact Sim.resl rfl (fun t ht=>by rw[Bl ht])
def yn(R:MG):List Lab:=if R.st=2 then R.ls else []
abbrev XG(x:j8)(A:Option Addr)(c:Nat):j8:=⟨x.b,fun i=>if i=3 then A else x.A i,fun i=>if i=3 then c else x.c i,x.s⟩
theorem Ji{r:Rsl}{n:Nat}{e:Int}{L:Shf}{k:Int}{ls:List Lab}:yn ⟨2,r,n,e,L,k,ls⟩=ls:=rfl
theorem LG{g:Option Nat}{x:j8}{A:Option Addr}{n c:Nat}{f:Nat->Lab}:Sim (.sl g A n c 2 (fun t=>aG (f t))) (ko ((XG x A c).A 3) n ((XG x A c).c 3) f):=Sim.recell (fun _ _=>rfl)
theorem Bm(ls:List Lab)(l:Lab)(t:Nat):cX (ls ++ [l]) t=if t<ls.length then cX ls t else if t=ls.length then l else⟨0,0⟩:=by
 unfold cX
 by_cases h:t<ls.length
 .rw [if_pos h];simp[List.getD,List.getElem?_append_left h]
 rw[if_neg h]
 by_cases h2:t=ls.length
 .rw [if_pos h2];subst h2;simp[List.getD]
 rw[if_neg h2];simp[List.getD,List.getElem?_append_right (show ls.length<=t by omega),show t-ls.length≠0 by omega]
theorem Mw(n:Nat)(L:Shf)(k:Int):L=kP [] n L/\k=yW [] n L k:=by
 unfold kP yW;exact⟨(if_neg (Nat.not_lt_zero _)).symm,(if_neg (Nat.not_lt_zero _)).symm⟩
theorem sR:l8 Tryz.prog 19:=fun _ _=>by kernel_rfl
theorem zQ(b bM:Nat)(J:j4)(hJ:eu J)(hRJ:aW J)(f2:Nat->B0)(L:Shf)(hL:fU L)(k:Int):P9 Tryz.prog 19 [.ptr 0 b 0,Z6 J,.sl none none 0 0 15 (fun i=>ce (f2 i))] [(0,⟨b,95,[.raw (.map (some bM)),.int .i64 k]⟩)] (some bM) (shK bM L) (fun y=>⟨.tup [tP y (V0 (I4 J) [] 2001 [] L k []).res,ko (y.A 3) (yn (V0 (I4 J) [] 2001 [] L k [])).length (y.c 3) (cX (yn (V0 (I4 J) [] 2001 [] L k []))),.bool (.v (decide ((V0 (I4 J) [] 2001 [] L k []).st=2 \/ (V0 (I4 J) [] 2001 [] L k []).st=4/\(V0 (I4 J) [] 2001 [] L k []).err=12)))],[(0,[.raw (.map (some bM)),.int .i64 (V0 (I4 J) [] 2001 [] L k []).k])],[]⟩) (fun _ _=>shK bM (V0 (I4 J) [] 2001 [] L k []).L):=by
 intro m w hm hargs hpre hI;have hmx:maxLen=9223372036854775807:=rfl;have hmp:=J4 hI;have hNx:MH (I4 J):=vB;obtain⟨RQ,hRQ⟩:=eqv (V0 (I4 J) [] 2001 [] L k []);rw[<-hRQ]at ⊢;refine enM (bo:=some bM) 74 hm hpre hI hargs Tryz.func19 fun B O a0 Z=>?_
 refine a6 [0,2,4,6] [0,4,6] Z fun X0 Z=>?_
 refine a6 [9,0,2,4,6] [0,4,6,9,72] Z fun X1 Z=>?_
 replace Z:=Z.headS (v':=.sl (some 9) none 0 0 8 (fun t=>V2 (V9 L6))) (zq0) rfl;refine a6 [10,9,0,2,4,6] [0,4,6,9,10,68,72] Z fun X2 Z=>?_
 replace Z:=Z.headS (v':=.sl (some 10) none 0 0 2 (fun t=>aG (cX [] t))) (zq0) rfl;refine a7 (a6 [9,10,11,0,2,4,6] [0,4,6,9,10,68,72] Z fun X3 Z=>?_);refine j1 (fF (ι:=Nat×(Nat->s9)×Option Addr×Nat×Shf×Int×List Got×List Lab×Option Addr×Nat×Nat) (fun q=>shK bM q.2.2.2.2.1) (fun q=>[(9,.sl (some 9) q.2.2.1 q.1 q.2.2.2.1 8 (fun t=>V2 (q.2.1 t))),(10,.sl (some 10) q.2.2.2.2.2.2.2.2.1 q.2.2.2.2.2.2.2.2.2.2 q.2.2.2.2.2.2.2.2.2.1 2 (fun t=>aG (cX q.2.2.2.2.2.2.2.1 t))),(11,.int .i64 (q.1:Int))]) (fun q=>[(0,⟨b,95,[.raw (.map (some bM)),.int .i64 q.2.2.2.2.2.1]⟩)]) (fun q=>[(9,⟨q.2.2.1,q.1,q.2.2.2.1,8,53⟩),(10,⟨q.2.2.2.2.2.2.2.2.1,q.2.2.2.2.2.2.2.2.2.2,q.2.2.2.2.2.2.2.2.2.1,2,24⟩)]) (fun q=>q.1<=2001/\fU q.2.2.2.2.1/\(∀j,j<q.1->InG (q.2.1 j))/\q.2.2.2.2.2.2.1.length=q.1/\ru q.2.2.2.2.2.2.1 q.2.1/\RQ=V0 (I4 J) [] (2001-q.1) q.2.2.2.2.2.2.1 q.2.2.2.2.1 q.2.2.2.2.2.1 q.2.2.2.2.2.2.2.1/\q.2.2.2.2.2.2.2.1.length=q.2.2.2.2.2.2.2.2.2.2/\q.2.2.2.2.2.2.2.2.2.2<=q.1) (fun q=>2001-q.1) (0,fun _=>V9 L6,none,0,L,k,[],[],none,0,0) ⟨Nat.zero_le _,hL,fun j hj=>absurd hj (Nat.not_lt_zero _),rfl,ru.nil,hRQ,rfl,Nat.le_refl _⟩ Z ?_)
 rintro⟨i,fz,A1,c1,Lc,kc,gs,ls,AL,cL,nl⟩ ⟨hi,hg,hal,hgl,hlie,hrun,hnl,hll⟩ _ _ Z
 try dsimp only at hi
 try dsimp only at hg
 try dsimp only at hal
 try dsimp only at hgl
 try dsimp only at hlie
 try dsimp only at hrun
 try dsimp only at hnl
 try dsimp only at hll
 replace Z:=Z.withK (K':=shK bM Lc) Z.kept;refine a7 (a6 [17,0,2,4,6,9,10,11] [0,4,6,9,10,68,72] Z fun X4 Z=>?_);apply b7 Z rfl<;>intro hb Z
 .have hi0:i<2001:=by
   have:(i:Int)<=2000:=by subst O;simpa[std,d4]using hb
   omega
  obtain⟨m0,hm0⟩:∃m,2001-i=m+1:=⟨2000-i,by omega⟩
  rw[hm0]at hrun;have hwo:=hNx.ok i fz hal;obtain⟨W9,hW9⟩:=eqv ((I4 J i fz).1);obtain⟨E9,hE9⟩:=eqv ((I4 J i fz).2);obtain⟨rr9,hrr9⟩:=eqv (W9.r.rn);obtain⟨nn9,hnn9⟩:=eqv (W9.res.items.length);obtain⟨ff9,hff9⟩:=eqv (itF W9.res.items);have T9:=k9.wq (ma J hJ hRJ A1 i c1 fz (by omega) hal) hW9 hE9 hrr9 hnn9 hff9;rw[<-hW9]at hwo;have S9:k9 Tryz.prog 12 [Z6 J,.sl (some 9) A1 i c1 8 (fun t=>V2 (fz t))] (fun x=>.tup [E5 (wqB x W9 rr9 nn9 ff9),.int .i64 E9]):=T9.sim ⟨zr,Sim.recell (fun _ _=>rfl),trivial⟩;have hq9:I4 J gs.length (cK gs)=(W9,E9):=by
   rw[<-hlie.next hNx.er,hgl,hW9,hE9]
  have O1:=S9;refine f8 (a7 (j1 (i9 [0,2,4,6,9,10,11,12,13] [0,4,6,9,10,12,68,72] [(2,.r fun x=>.tup [.agg [.int .i64 W9.kind,.int .i64 W9.lab.len,.int .u64 W9.lab.bits,.int .u64 W9.ver,.int .i64 rr9.kd,.sl none (x.A 1) rr9.n (x.c 1) 2 (fun i=>itC (rr9.f i)),.int .i64 rr9.nx.len,.int .u64 rr9.nx.bits,.int .u64 rr9.mrk,.int .i64 W9.res.code,.bool (.v W9.res.had),.str W9.res.val,.sl none (x.A 2) nn9 (x.c 2) 2 (fun i=>itC (ff9 i)),.int .u64 W9.res.key,.bool (.v W9.res.more)],.int .i64 E9])] Z fun X6 Z=>?_)));refine a7 (a6 [27,0,2,4,6,9,10,11,12] [0,4,6,9,10,12,68,72] Z fun X7 Z=>?_);apply b7 Z rfl<;>intro hb Z
  .have he:E9≠0:=by subst O;simpa[std,d4]using hb
   have hq:RQ=⟨1,dq,gs.length,0,Lc,kc,ls⟩:=by rw[hrun];exact DL hq9 he
   refine a6 [6,7,8] [0,6,7,10,68] Z fun X8 Z=>?_
   refine i8 ((rm O a8 Z (⟨0,fun _=>none,fun _=>0,fun _=>.empty⟩) [] (hmap:=?_) (he:=?_) (hs:=?_) (hJ:=?_)).1)
   .intro b hb;cases hb;exact⟨hmp,fun m h=>J4 h⟩
   .rw [hq];subst O
    exact Sim.tup ⟨Sim.agg ⟨zr,zr,zr,zq0,zr,zr,trivial⟩,zq0,zr,trivial⟩
   .rw [hq];subst O;exact⟨rfl,⟨_,rfl,zl⟩,trivial⟩
   rw[hq];exact fun _ _ h=>h
  have he:E9=0:=by subst O;simpa[std,d4]using hb
  rw[he]at hq9;refine f8 (a7 (a6 [31,0,2,4,6,9,10,11,12] [0,4,6,9,10,12,68,72] Z fun X9 Z=>?_));apply b7 Z rfl<;>intro hb Z
  .have hk4:W9.kind=4:=by subst O;simpa[std,d4]using hb
   have hq:RQ=⟨2,W9.res,gs.length,0,Lc,kc,ls⟩:=by rw[hrun];exact rO hq9 hk4
   refine a6 [6,7,8] [0,6,7,10,68] Z fun X10 Z=>?_
   refine i8 ((rm O a8 Z ((XG (X6 2) AL cL)) [] (hmap:=?_) (he:=?_) (hs:=?_) (hJ:=?_)).1)
   .intro b hb;cases hb;exact⟨hmp,fun m h=>J4 h⟩
   .rw [hq];subst O
    rw[show nn9=W9.res.items.length from hnn9,show ff9=itF W9.res.items from hff9];rw[Ji,hnl];exact Sim.tup ⟨zr,LG,zr,trivial⟩
   .rw [hq];subst O;exact⟨rfl,⟨_,rfl,zl⟩,trivial⟩
   rw[hq];exact fun _ _ h=>h
  have hk4:¬W9.kind=4:=by subst O;simpa[std,d4]using hb
  refine f8 (a7 (a6 [38,0,2,4,6,9,10,11,12] [0,4,6,9,10,12,68,72] Z fun X11 Z=>?_));apply b7 Z rfl<;>intro hb Z
  .exfalso
   have h9:(i:Int)<0:=by subst O;simpa[std,d4]using hb
   omega
  obtain⟨hb1,hb2⟩:=Mw gs.length Lc kc;refine f8 (a7 (wp_region_lit (lpr 0 2 O a8 [46,47,9,10,11,12,0,2,4,6] [0,4,6,9,10,12] [] Z fun X13_0 _ _ Z=>?_)));have SD:=Fg 0 b bM Lc (by have:=hg.ok.len;omega) kc (wqB (X6 2) W9 rr9 nn9 ff9) (by show rr9.n<=_;rw[hrr9];have:=hwo.r.few;show W9.r.items.length<=_;omega) hwo.lab.wf hwo.lab.u (by show U64 rr9.nx.bits;rw[hrr9];exact hwo.r.nx)
  obtain⟨D2,hD2⟩:=eqv (doL Lc (B0.abs (wqB (X6 2) W9 rr9 nn9 ff9)));rw[<-hD2]at SD;obtain⟨GG2,hGG2⟩:∃G:j8->s9,G=fun y=>cY y D2.got:=⟨_,rfl⟩
  have hGf2:∀y,cY y D2.got=GG2 y:=fun y=>by rw[hGG2]
  simp only[hGf2]at SD;obtain⟨k2,hk2⟩:=eqv ((if D2.wrote then IntKind.i64.wrap (kc+1)else kc));rw[<-hk2]at SD;obtain⟨er2,her2⟩:=eqv (D2.err);rw[<-her2]at SD;obtain⟨L2,hL2⟩:=eqv (D2.L);rw[<-hL2]at SD;refine I8 rfl rfl rfl rfl Z rfl rfl jb SD (fun _ _ h=>h) (fun b hb=>by cases hb;exact fun _=>.inr rfl) ⟨zr,Sim.agg (by repeat(first|exact trivial|refine⟨zr,?_⟩|refine⟨Sim.ff,?_⟩|refine⟨zq0,?_⟩)),trivial⟩ (by intro e he;simp only[List.mem_singleton]at he;subst he;rfl) rfl rfl (fun _=>shK bM L2) (fun _ _ _ _ _ _ _ _ _ h=>h) ?_;intro y _ _ Z;obtain⟨g2,hg2⟩:=eqv (GG2 y);rw[<-hg2]at Z;replace Z:=Z.withK (K':=shK bM L2) Z.kept;have hga2:g2.abs=D2.got:=by rw[hg2,<-hGf2,iQ]
  have hg2x:=hg2;have hra:rr9.abs=W9.r:=by rw[hrr9,aQ]
  have hD2w:D2=doL Lc (U0 W9):=by
   rw[hD2];unfold B0.abs wqB U0;simp only[hra]
  have hgd:fU D2.L/\U64 D2.got.ver/\aa D2.got.r:=by
   rw[hD2w];exact jg hg ⟨hwo.lab.wf,hwo.r.nx,hwo.r.key⟩
  have hgi:InG g2:=uD hga2 hgd.2.1 hgd.2.2;have hg2:fU L2:=by rw[hL2];exact hgd.1
  have hge:g2.er=V9 D2.got:=by rw[hg2x,<-hGf2];rfl
  refine lnd 3 O a8 [0,2,4,6,9,10,11,12,14,15] [0,4,6,9,10,12,14,68,72] [] Z fun X13 _ _ Z=>?_
  refine a7 (a6 [52,0,2,4,6,9,10,11,12,14,15] [0,4,6,9,10,12,14,68,72] Z fun X14 Z=>?_);apply b7 Z rfl<;>intro hb Z
  .have he1:er2≠0:=by subst O;simpa[std,d4]using hb
   have hq:RQ=⟨4,dq,gs.length,D2.err,L2,k2,ls⟩:=by rw[hrun,hL2,hk2];exact zP hq9 hk4 hb1 hb2 hD2w (by rw[<-her2];exact he1)
   refine a6 [6,7,8] [0,6,7,10,68] Z fun X15 Z=>?_
   refine i8 ((rm O a8 Z (⟨0,fun _=>none,fun _=>0,fun _=>.empty⟩) [] (hmap:=?_) (he:=?_) (hs:=?_) (hJ:=?_)).1)
   .intro b hb;cases hb;exact⟨hmp,fun m h=>J4 h⟩
   .rw [hq];subst O
    exact Sim.tup ⟨Sim.agg ⟨zr,zr,zr,zq0,zr,zr,trivial⟩,zq0,Sim.bool (by simp[std,d4,BE.den,fT,<-her2];rfl),trivial⟩
   .rw [hq];subst O;exact⟨rfl,⟨_,rfl,zl⟩,trivial⟩
   rw[hq];exact fun _ _ h=>h
  have he1:er2=0:=by subst O;simpa[std,d4]using hb
  have hrun2:=hrun.trans (vt hq9 hk4 hb1 hb2 hD2w (by rw[<-her2];exact he1));rw[<-hL2,show m0=2001-(i+1)by omega,show zt D2 kc=k2 from hk2.symm]at hrun2;refine f8 (a7 (a6 [63,0,2,4,6,9,10,11,12,14] [0,4,6,9,10,12,14,68,72] Z fun X16 Z=>?_));apply b7 Z rfl<;>intro hb Z
  .have hgt:mP ls W9.lab D2.got=ls ++ [W9.lab]:=by
    unfold mP;rw[if_pos];rw[<-hga2];have h9:(g2.has&&decide (g2.x.r.kd=1))=true:=by subst O;simpa[std,d4]using hb
    exact h9
   rw[hgt]at hrun2;have O4:nl+1<=maxLen:=by omega
   have O5:(nl+1)*16<=140737488355328:=by omega
   refine j5 [10,9,11,0,2,4,6,14] [0,4,6,9,10,14,68,72] Z fun X17 Z=>?_
   replace Z:=Z.headS (v':=.sl (some 10) ((X17 4).A 0) (B.nadd nl 1) ((X17 4).c 0) 2 (fun t=>aG (cX (ls ++ [W9.lab]) t))) (Sim.resl rfl (fun t ht=>by
    subst O;have ht2:t<nl+1:=ht
    show D3 nl (fun t=>aG (cX ls t)) (C9 2 (aG W9.lab)) t=_
    unfold D3;rw[Bm,hnl]
    split
    .rfl
    have:t=nl:=by omega
    subst this;simp[C9])) rfl
   have O4:i+1<=maxLen:=by omega
   have O5:(i+1)*80<=140737488355328:=by omega
   refine j5 [9,10,11,0,2,4,6] [0,4,6,9,10,68,72] Z fun X18 Z=>?_
   replace Z:=Z.headS (v':=.sl (some 9) ((X18 3).A 0) (B.nadd i 1) ((X18 3).c 0) 8 (fun t=>V2 (if t=i then g2 else fz t))) (Sim.resl rfl (fun t ht=>by
    subst O;have ht2:t<i+1:=ht
    show D3 i (fun t=>V2 (fz t)) (C9 8 (V2 g2)) t=_
    unfold D3
    split
    .rw [if_neg (by omega)]
    have:t=i:=by omega
    subst this;rw[if_pos rfl];simp[C9])) rfl
   refine j5 [9,10,11,0,2,4,6] [0,4,6,9,10,68,72] Z fun X5 Z=>?_
   have e:B.arith .add .i64 (i:Int) 1=((i+1:Nat):Int):=by subst O;exact k4 (n:=2001) (by omega) (by omega)
   refine⟨(i+1,fun t=>if t=i then g2 else fz t,_,_,L2,k2,gs ++ [D2.got],(ls ++ [W9.lab]),_,_,(nl+1)),⟨by simp only;omega,hg2,fun j hj=>?_,by simp[hgl],?_,hrun2,by simp[hnl],by simp only;omega⟩,by simp only;omega,by rw[<-e,show i+1=B.nadd i 1 by subst O;rfl,show nl+1=B.nadd nl 1 by subst O;rfl];exact Z⟩
   .by_cases hji:j=i
    .simp only[if_pos hji];exact hgi
    simp only[if_neg hji];exact hal j (by have h9:j<i+1:=hj;omega)
   have:=hlie.add hge;rw[hgl]at this;exact this
  have hgt:mP ls W9.lab D2.got=ls:=by
   unfold mP;rw[if_neg];rw[<-hga2];have h9:(g2.has&&decide (g2.x.r.kd=1))=false:=by subst O;simpa[std,d4]using hb
   exact fun h=>absurd (h.symm.trans h9) (by decide)
  rw[hgt]at hrun2;refine f8 ?_;have O4:i+1<=maxLen:=by omega
  have O5:(i+1)*80<=140737488355328:=by omega
  refine j5 [9,10,11,0,2,4,6] [0,4,6,9,10,68,72] Z fun X18 Z=>?_
  replace Z:=Z.headS (v':=.sl (some 9) ((X18 3).A 0) (B.nadd i 1) ((X18 3).c 0) 8 (fun t=>V2 (if t=i then g2 else fz t))) (Sim.resl rfl (fun t ht=>by
   subst O;have ht2:t<i+1:=ht
   show D3 i (fun t=>V2 (fz t)) (C9 8 (V2 g2)) t=_
   unfold D3
   split
   .rw [if_neg (by omega)]
   have:t=i:=by omega
   subst this;rw[if_pos rfl];simp[C9])) rfl
  refine j5 [9,10,11,0,2,4,6] [0,4,6,9,10,68,72] Z fun X5 Z=>?_
  have e:B.arith .add .i64 (i:Int) 1=((i+1:Nat):Int):=by subst O;exact k4 (n:=2001) (by omega) (by omega)
  refine⟨(i+1,fun t=>if t=i then g2 else fz t,_,_,L2,k2,gs ++ [D2.got],ls,_,_,nl),⟨by simp only;omega,hg2,fun j hj=>?_,by simp[hgl],?_,hrun2,by simp[hnl],by simp only;omega⟩,by simp only;omega,by rw[<-e,show i+1=B.nadd i 1 by subst O;rfl];exact Z⟩
  .by_cases hji:j=i
   .simp only[if_pos hji];exact hgi
   simp only[if_neg hji];exact hal j (by have h9:j<i+1:=hj;omega)
  have:=hlie.add hge;rw[hgl]at this;exact this
 have hi0:i=2001:=by
  have:¬(i:Int)<=2000:=by subst O;simpa[std,d4]using hb
  omega
 have hq:RQ=⟨0,dq,gs.length,0,Lc,kc,ls⟩:=by rw[hrun,hi0];rfl
 refine j9 (a6 [6,7,8] [0,6,7,10,68] Z fun X19 Z=>?_);refine i8 ((rm O a8 Z (⟨0,fun _=>none,fun _=>0,fun _=>.empty⟩) [] (hmap:=?_) (he:=?_) (hs:=?_) (hJ:=?_)).1)
 .intro b hb;cases hb;exact⟨hmp,fun m h=>J4 h⟩
 .rw [hq];subst O
  exact Sim.tup ⟨Sim.agg ⟨zr,zr,zr,zq0,zr,zr,trivial⟩,zq0,zr,trivial⟩
 .rw [hq];subst O;exact⟨rfl,⟨_,rfl,zl⟩,trivial⟩
 rw[hq];exact fun _ _ h=>h
theorem vu(k0:Nat)(b bM:Nat)(J:j4)(hJ:eu J)(hRJ:aW J)(f2:Nat->B0)(L:Shf)(hL:fU L)(k:Int):P9 Tryz.prog 19 [.ptr k0 b 0,Z6 J,.sl none none 0 0 15 (fun i=>ce (f2 i))] [(k0,⟨b,95,[.raw (.map (some bM)),.int .i64 k]⟩)] (some bM) (shK bM L) (fun y=>⟨.tup [tP y (V0 (I4 J) [] 2001 [] L k []).res,ko (y.A 3) (yn (V0 (I4 J) [] 2001 [] L k [])).length (y.c 3) (cX (yn (V0 (I4 J) [] 2001 [] L k []))),.bool (.v (decide ((V0 (I4 J) [] 2001 [] L k []).st=2 \/ (V0 (I4 J) [] 2001 [] L k []).st=4/\(V0 (I4 J) [] 2001 [] L k []).err=12)))],[(k0,[.raw (.map (some bM)),.int .i64 (V0 (I4 J) [] 2001 [] L k []).k])],[]⟩) (fun _ _=>shK bM (V0 (I4 J) [] 2001 [] L k []).L):=
 (zQ b bM J hJ hRJ f2 L hL k).re (by repeat(first|exact trivial|refine⟨Sim.ptr,?_⟩|refine⟨Sim.fn ⟨Sim.ptr,trivial⟩ trivial,?_⟩|refine⟨Sim.fn trivial ⟨Sim.ptr,trivial⟩,?_⟩|refine⟨zr,?_⟩)) rfl (fun x=>⟨rfl,rfl,zr,rfl⟩)
theorem bL{m:Nat->Nat->Prop}{w:World}{B e k:Nat}{A:Option Addr}{n c:Nat}{f:Nat->List AV}(hO:Own w B e k (.slice A n c) n (j6 f n))(hk:∀i,i<n->(f i).length=k)(hm:∀b,B4 (.slice A n c)=some b->∀o,o<n*k-> ¬m b o)(h1:∀i,i<n->∀v∈f i,v.one=true/\Ok m w v)(g:Option Nat):Ok m w (.sl g A n c k f):=by
 obtain⟨A',c',he,h2,h3⟩:=hO.isSlice;injection he with e1 e2 e3;subst e3
 refine .sl _ _ _ _ _ _ h2 h3 hk (fun i hi=>?_) (fun i hi=>?_) (fun i hi v hv=>(h1 i hi v hv).1) (fun i hi v hv=>(h1 i hi v hv).2)
 .obtain ⟨b,hA,_⟩:=M2 hO (by omega)
  exact⟨b,0,hA⟩
 obtain⟨b,hA,hb⟩:=M2 hO (by omega);intro j u hu;have hj:j<k:=by
  have:=(List.getElem?_eq_some_iff.1 hu).1
  rwa[List.length_map,hk i hi]at this
 have hget:=C7 (cells:=f) hk hi hj;rw[hu]at hget;refine⟨b,0,hA,by rw[Nat.zero_add];exact N5 hO hb _ u hget,hm b hb _ ?_⟩;have:=Nat.mul_le_mul_right k (Nat.succ_le_of_lt hi);rw[Nat.succ_mul]at this;omega
section
variable {m0:Nat->Nat->Prop} {w0 w w':World} {S:Nat->Prop} {ds:List Deferred} {K K':Kn} {nt key:Nat} {t:Gr} {l l':List (Nat×AV)} {mem:List (Nat×Blk)} {a:Act}
abbrev mG(m0:Nat->Nat->Prop)(mem:List (Nat×Blk))(gr:List (Nat×Gr)):Nat->Nat->Prop:=St.m ⟨0,[],[],mem,gr⟩ ⟨m0,default,fun _=>False,[],noK⟩
theorem i5.rowset(h:i5 ⟨m0,w0,S,ds,K⟩ ⟨nt,l,[],mem,[(key,t)]⟩ a w)(hc:Chg (fun x=>B4 t.v=some x) w w'){xs':List Value}(hO:Own w' w0.heap.size t.e t.k t.v t.n xs')
  (hl:∀x,(look l' x).known=true->a.tmps[x]? = some (look l' x).den/\Ok (mG m0 mem [(key,t)]) w' (look l' x)) (hm:∀k e,j7 mem k=some e->∀v∈e.cells,Ok (mG m0 mem [(key,t)]) w' v) (hK:K'.p (mG m0 mem [(key,t)]) w'):i5 ⟨m0,w0,S,ds,K'⟩ ⟨nt,l',[],mem,[(key,t)]⟩ a w':=by
 have hlt:∀b,B4 t.v=some b->w0.heap.size<=b:=fun b hb=>by
  obtain⟨_,xs,ho⟩:=h.gr key t (by simp[j7]);exact(ho.lt b hb).1
 refine⟨h.size,h.defers,hl,(fun t p v hg=>by cases hg),fun k e he=>?_,h.nodup,fun k t' ht=>?_,h.sepm,h.sepg,?_,h.m0,hK⟩
 .obtain ⟨h1,h2,h3⟩:=h.mem k e he
  refine⟨?_,fun v hv=>⟨(h2 v hv).1,hm k e he v hv⟩,h3⟩;rw[hc.block _ (aC h1) (fun hb=>h.sepm key t k e (by simp[j7]) he hb)];exact h1
 .have hk:=(h.gr k t' ht).1
  have:t'=t:=by
   simp only[j7]at ht
   split at ht
   .injection ht with ht;exact ht.symm
   cases ht
  subst this;exact⟨hk,xs',hO⟩
 exact h.chg.trans hc fun k hk hb=>absurd hk (Nat.not_lt.2 (hlt k hb))
theorem mM(h:i5 ⟨m0,w0,S,ds,K⟩ ⟨nt,l,[],mem,[(key,t)]⟩ a w):∀b,B4 t.v=some b->∀o,o<t.n*t.k-> ¬mG m0 mem [(key,t)] b o:=by
 intro b hb o ho hm;obtain⟨_,xs,hO⟩:=h.gr key t (by simp[j7]);have h1:=(hO.lt b hb).1
 rcases hm with hm|⟨k,e,he,hm⟩|⟨k,t',ht,_,hle⟩
 .exact absurd (h.m0 _ _ hm) (Nat.not_lt.2 h1)
 .subst hm
  exact h.sepm key t k e (by simp[j7]) he hb
 have:t'=t:=by
  simp only[j7]at ht
  split at ht
  .injection ht with ht;exact ht.symm
  cases ht
 subst this;omega
end
theorem vm{α : Type}(L M N:List α)(x:Nat):(L++M++N)[x]? = if x<L.length then L[x]? else if x<L.length+M.length then M[x-L.length]? else N[x-(L.length+M.length)]?:=by
 by_cases h1:x<L.length
 .rw [if_pos h1,List.append_assoc,List.getElem?_append_left h1]
 rw[if_neg h1]
 by_cases h2:x<L.length+M.length
 .rw [if_pos h2,List.append_assoc,List.getElem?_append_right (by omega),List.getElem?_append_left (by omega)]
 rw[if_neg h2,List.getElem?_append_right (by rw[List.length_append];omega),List.length_append]
def wrC(f:Nat->List AV)(i off:Nat)(vs:List AV):Nat->List AV:=fun j=>if j=i then(f i).take off++vs++(f i).drop (off+vs.length)else f j
theorem vg{f:Nat->List AV}{i off k n:Nat}{vs:List AV}(hk:∀j,j<n->(f j).length=k)(hi:i<n)(hfit:off+vs.length<=k):∀j,j<n->(wrC f i off vs j).length=k:=by
 intro j hj;unfold wrC
 split
 .have:=hk i hi
  simp only[List.length_append,List.length_take,List.length_drop];omega
 exact hk j hj
theorem CX{f:Nat->List AV}{i off k n:Nat}{vs:List AV}(hk:∀j,j<n->(f j).length=k)(hi:i<n)(hfit:off+vs.length<=k) :
  j6 (wrC f i off vs) n=(j6 f n).take (i*k+off)++vs.map AV.den++(j6 f n).drop (i*k+off+vs.length):=by
 have hlen:=D8 hk;have hik:i*k+k<=n*k:=by
  have:=Nat.mul_le_mul_right k (Nat.succ_le_of_lt hi)
  rwa[Nat.succ_mul]at this
 apply List.ext_getElem?;intro x
 by_cases hx:x<n*k
 .obtain ⟨j,p,hj,hp,rfl⟩:=fW (cells:=f) hx
  rw[C7 (vg hk hi hfit) hj hp];have hb:∀{j':Nat},j'<i->j'*k+k<=i*k:=fun {j'} h=>by
   have:=Nat.mul_le_mul_right k (Nat.succ_le_of_lt h)
   rwa[Nat.succ_mul]at this
  have ha:∀{j':Nat},i<j'->i*k+k<=j'*k:=fun {j'} h=>by
   have:=Nat.mul_le_mul_right k (Nat.succ_le_of_lt h)
   rwa[Nat.succ_mul]at this
  have hl1:((j6 f n).take (i*k+off)).length=i*k+off:=by rw[List.length_take,hlen];omega
  rcases Nat.lt_trichotomy j i with h|h|h
  .have:=hb h
   unfold wrC;rw[if_neg (by omega),List.append_assoc,List.getElem?_append_left (by rw[hl1];omega),List.getElem?_take,if_pos (by omega),C7 hk hj hp]
  .subst h
   have hfl:=hk j hj;unfold wrC;rw[if_pos rfl];simp only[List.map_append,List.map_take,List.map_drop];have hl2:(((f j).map AV.den).take off).length=off:=by simp;omega
   rw[vm,vm,hl1,hl2,List.length_map]
   rcases Nat.lt_or_ge p off with h1|h1
   .rw [if_pos h1,if_pos (by omega),List.getElem?_take,List.getElem?_take,if_pos h1,if_pos (by omega),C7 hk hj hp]
   rcases Nat.lt_or_ge p (off+vs.length)with h2|h2
   .rw [if_neg (by omega),if_pos h2,if_neg (by omega),if_pos (by omega)]
    congr 1
    omega
   rw[if_neg (by omega),if_neg (by omega),if_neg (by omega),if_neg (by omega),List.getElem?_drop,List.getElem?_drop];rw[show j*k+off+vs.length+(j*k+p-(j*k+off+vs.length))=j*k+p by omega,C7 hk hj hp]
   congr 1
   omega
  have:=ha h;unfold wrC;rw[if_neg (by omega),List.getElem?_append_right (by rw[List.length_append,hl1];simp;omega),List.length_append,hl1,List.length_map,List.getElem?_drop];rw[show i*k+off+vs.length+(j*k+p-(i*k+off+vs.length))=j*k+p by omega,C7 hk hj hp]
 rw[List.getElem?_eq_none (by rw[D8 (vg hk hi hfit)];omega),List.getElem?_eq_none ?_];simp only[List.length_append,List.length_take,List.length_drop,List.length_map,hlen];omega
theorem vD{w:World}{B e k:Nat}{A:Option Addr}{n c:Nat}{xs:List Value}(hO:Own w B e k (.slice A n c) n xs){o:Nat}{vs:List Value}(ho:o+vs.length<=n*k)(hn:0<n) :
  ∃g cur,A=some ⟨g,0,none⟩/\w.heap[g]? = some (.cells cur e (0,0))/\cur.size=c*k/\n*k<=c*k/\B4 (.slice A n c)=some g ∧
   Own (w.setRow g (cur.toList.take o++vs++cur.toList.drop (o+vs.length)).toArray) B e k (.slice A n c) n (xs.take o++vs++xs.drop (o+vs.length))/\Chg (fun x=>B4 (.slice A n c)=some x) w (w.setRow g (cur.toList.take o++vs++cur.toList.drop (o+vs.length)).toArray):=by
 rcases hO.2 with⟨rfl,_⟩|⟨g,cap,cur,hv,O,hg,hnc,hc0,hcm,hcs,ht⟩
 .omega
 injection hv with e1 e2 e3
 subst e1;subst e3;have hnk:n*k<=c*k:=Nat.mul_le_mul_right _ hnc;have hob:B4 (.slice (some ⟨g,0,none⟩) n c)=some g:=by simp[B4];omega
 have hcl:cur.toList.length=c*k:=by simp[hcs]
 refine⟨g,cur,rfl,hg,hcs,hnk,hob,⟨?_,.inr ⟨g,c,_,rfl,O,setRow_heap w g cur _ e _ hg,hnc,hc0,hcm,?_,?_⟩⟩,⟨rfl,rfl,rfl,by simp[World.setRow],fun x _ hx=>setRow_other w g x _ (fun e=>hx (by rw[hob,e]))⟩⟩
 .have:=hO.1
  simp only[List.length_append,List.length_take,List.length_drop];omega
 .simp only[List.size_toArray,List.length_append,List.length_take,List.length_drop,hcl]
  omega
 rw[<-ht];apply List.ext_getElem?;intro x;rw[List.getElem?_take]
 by_cases hx:x<n*k
 .rw [if_pos hx]
  rw[vm,vm];have l1:(cur.toList.take o).length=o:=by rw[List.length_take,hcl];omega
  have l2:((cur.toList.take (n*k)).take o).length=o:=by rw[List.length_take,List.length_take,hcl];omega
  rw[l1,l2]
  rcases Nat.lt_or_ge x o with h2|h2
  .rw [if_pos h2,if_pos h2,List.getElem?_take,List.getElem?_take,List.getElem?_take,if_pos h2,if_pos h2,if_pos hx]
  rcases Nat.lt_or_ge x (o+vs.length)with h3|h3
  .rw [if_neg (by omega),if_pos h3,if_neg (by omega),if_pos h3]
  rw[if_neg (by omega),if_neg (by omega),if_neg (by omega),if_neg (by omega),List.getElem?_drop,List.getElem?_drop,List.getElem?_take,if_pos (by omega)]
 rw[if_neg hx,List.getElem?_eq_none];simp only[List.length_append,List.length_take,List.length_drop,hcl];omega
section
variable {m0:Nat->Nat->Prop} {w0 w:World} {S:Nat->Prop} {ds:List Deferred} {K:Kn} {nt key:Nat} {l:List (Nat×AV)} {mem:List (Nat×Blk)} {a:Act} {P:Program} {T:List (Nat×TI)} {Q:Exit->Act->World->Prop} {ops:Array Oper}
theorem uC{A:Option Addr}{n c k e:Nat}{f:Nat->List AV}{g:Option Nat}(h:i5 ⟨m0,w0,S,ds,K⟩ ⟨nt,l,[],mem,[(key,⟨A,n,c,k,e⟩)]⟩ a w){m:Nat->Nat->Prop}(hrow:Ok m w (.sl g A n c k f)):Own w w0.heap.size e k (.slice A n c) n (j6 f n):=by
 obtain⟨_,xs,hO⟩:=h.gr key ⟨A,n,c,k,e⟩ (by simp[j7]);have hO':Own w w0.heap.size e k (.slice A n c) n xs:=hO;have:=rW hO' hrow;rw[<-this];exact hO'
theorem my{L rest:List Oper}{o:Oper}{A:Option Addr}{n c k e i off ty:Nat}{f:Nat->List AV}{g:Option Nat}{cells:List AV}{p x:Operand}{v:AV}{ti:TI}(hL:L=o::rest)(hg:o.guard=none)(hop:o.op = .store ty p x)(hdst:o.dst=none)(h:i5 ⟨m0,w0,S,ds,K⟩ ⟨nt,l,[],mem,[(key,⟨A,n,c,k,e⟩)]⟩ a w)
  (hp:val ⟨nt,l,[],mem,[(key,⟨A,n,c,k,e⟩)]⟩ [] p = .ep A i k off cells) (hx:val ⟨nt,l,[],mem,[(key,⟨A,n,c,k,e⟩)]⟩ [] x=v) (hv:v.one=true \/ dL v=true) (hT:o7 P T) (hti:G5 T ty=some ti) (hsz:v.cells.length=ti.size) {m:Nat->Nat->Prop} (hrow:Ok m w (.sl g A n c k f)) (hk:∀j,j<n->(f j).length=k) (hi:i<n) (hfit:off+v.cells.length<=k)
  (Kc:∀w',Own w' w0.heap.size e k (.slice A n c) n (j6 (wrC f i off v.cells) n)->Chg (fun b=>B4 (.slice A n c)=some b) w w'->(∀u∈v.cells,u.one=true)->wpList P ops Q rest a w'):wpList P ops Q L a w:=by
 have hO:=uC h hrow;have hik:i*k+k<=n*k:=by
  have:=Nat.mul_le_mul_right k (Nat.succ_le_of_lt hi)
  rwa[Nat.succ_mul]at this
 have hv1:v.one||dL v=true:=by rcases hv with hv|hv<;>simp[hv]
 have hvk:v.known=true:=eZ (by simpa using hv1);have hpv:=(E6 h (q:=[]) (fun _ h=>by cases h) (x:=p) (by rw[hp];rfl)).1;have hxv:=E6 h (q:=[]) (fun _ h=>by cases h) (x:=x) (by rw[hx];exact hvk);rw[hp]at hpv;rw[hx]at hxv;have hxc:=mh hxv.2 (by simpa using hv1);obtain⟨b,cur,hA,hb,hcs,hnc,hob,hO2,hchg⟩:=vD hO (o:=i*k+off) (vs:=v.cells.map AV.den) (by rw[List.length_map];omega) (by omega);have hst:=run_storeCells_at P b (i*k+off) e (v.cells.map AV.den) 0 cur w hb (by rw[List.length_map,hcs];omega) (by
  intro u hu;obtain⟨y,hy,rfl⟩:=List.mem_map.1 hu;exact qe (hxc y hy).1)
 simp only[Nat.add_zero]at hst;have hdc:=fO (jD (by simpa using hv1):v.one=true \/ ∃l,v = .agg l);have hszr:=(o5 hT hti).size w;have hpd:a.eval p = .pointer (some ⟨b,i*k+off,none⟩):=by
  rw[hpv,hA];simp[AV.den]
 refine ap hL hg ?_;refine lE (w':=w.setRow b (cur.toList.take (i*k+off)++v.cells.map AV.den++cur.toList.drop (i*k+off+(v.cells.map AV.den).length)).toArray) ?_ ?_
 .simp only[List.length_map]at hst
  simp[execOp,hop,hpd,hxv.1,Instr.storeAt,Instr.sureAddr,storeVar,hdc,hszr,hsz,hst]
 rw[hdst];refine Kc _ ?_ hchg fun u hu=>(hxc u hu).1
 rw[CX hk hi hfit]
 simpa using hO2
end
end Go.Proofs.YtmbkanpapkhnaaaGreat.Sym
