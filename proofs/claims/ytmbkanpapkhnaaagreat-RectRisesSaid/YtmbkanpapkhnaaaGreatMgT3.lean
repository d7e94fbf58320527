/-
  PlCov, PlUp, SymAt, SymCov, PlProc, SymHd3, SymThr, SymPr0, SymUp, SymPr1, EtyI, InsertI, ItOwn, ItGrow, PlMap, ItCut, SymHalf, SymUni, SymPr2, SymPr3, SymPr4, SymPr5, SymPr6, SymPr7, SymPr8: put together by a program of mine (a claim may have 60 files at most). Conditions: none.
-/
import Derived.Test.YtmbkanpapkhnaaaGreatMgT2
import Derived.LoopN
set_option linter.unusedVariables false
set_option linter.unusedSimpArgs false
set_option maxRecDepth 100000
set_option maxHeartbeats 1600000
namespace Go.Proofs.YtmbkanpapkhnaaaGreat
open Go.RowKit Sym
def s4(l:Lab)(key:Int):Bool:=isL l&&decide ((G7 key.toNat l.len.toNat:Int)=l.bits)
def D3(l:Lab)(b:Int):Lab:=⟨l.len+1,if b=1 then l.bits+(2^(63-l.len.toNat):Nat)else l.bits⟩
theorem eF{v:Int}(h:U64 v):v.toNat<2^64:=by have:=h.1;have:=h.2;omega
theorem zD{v n:Nat}(hv:v<2^64)(hn:n<=64):v / 2^(64-n)<2^n:=by
 rw[Nat.div_lt_iff_lt_mul (Nat.pow_pos (by decide)),<-Nat.pow_add,show n+(64-n)=64 by omega];exact hv
theorem z8{l:Lab}(h:isL l=true):0<=l.len/\l.len<=64/\(G7 l.bits.toNat l.len.toNat:Int)=l.bits:=by
 unfold isL at h;simp only[Bool.and_eq_true,decide_eq_true_eq]at h;exact⟨h.1.1,h.1.2,h.2⟩
theorem dD{n:Nat}(h:n<64):2^(64-n)=2*2^(63-n):=by
 have h9:64-n=(63-n)+1:=by omega
 rw[h9,Nat.pow_succ,Nat.mul_comm]
theorem ji{l:Lab}(hl:isL l=true)(hb:U64 l.bits)(h64:l.len≠64):∃q,l.bits=((q*(2*2^(63-l.len.toNat)):Nat):Int)/\q*(2*2^(63-l.len.toNat))+2*2^(63-l.len.toNat)<=2^64:=by
 obtain⟨h0,h1,h2⟩:=z8 hl;have hn:l.len.toNat<64:=by omega
 refine⟨l.bits.toNat / 2^(64-l.len.toNat),?_,?_⟩
 .rw [<-h2]
  unfold G7;rw[dD hn]
  congr 1
  have:(((l.bits.toNat / (2*2^(63-l.len.toNat))*(2*2^(63-l.len.toNat)):Nat):Int).toNat)=l.bits.toNat / (2*2^(63-l.len.toNat))*(2*2^(63-l.len.toNat)):=Int.toNat_natCast _;have hpos:0<2*2^(63-l.len.toNat):=Nat.mul_pos (by decide) (Nat.pow_pos (by decide));rw[this,Nat.mul_div_cancel _ hpos]
 have h3:=zD (eF hb) (show l.len.toNat<=64 by omega)
 rw[<-dD hn];have:=Nat.mul_le_mul_right (2^(64-l.len.toNat)) (Nat.succ_le_of_lt h3);rw[<-Nat.pow_add,show l.len.toNat+(64-l.len.toNat)=64 by omega,Nat.succ_mul]at this;exact this
theorem oQ{l:Lab}(hl:isL l=true)(hb:U64 l.bits)(h64:l.len≠64)(b:Int):U64 (D3 l b).bits:=by
 obtain⟨q,h1,h2⟩:=ji hl hb h64;unfold D3;simp only
 split
 .rw [h1];constructor
  .omega
  have:0<2^(63-l.len.toNat):=Nat.pow_pos (by decide);omega
 exact hb
theorem bB{l:Lab}(hl:isL l=true)(hb:U64 l.bits)(h64:l.len≠64)(b:Int):isL (D3 l b)=true:=by
 obtain⟨q,h1,h2⟩:=ji hl hb h64;obtain⟨h3,h4,h5⟩:=z8 hl;have hlen:(l.len+1).toNat=l.len.toNat+1:=by omega
 have hpow:64-(l.len.toNat+1)=63-l.len.toNat:=by omega
 unfold isL D3;simp only[Bool.and_eq_true,decide_eq_true_eq];refine⟨⟨by omega,by omega⟩,?_⟩;unfold G7;rw[hlen,hpow];have hp:0<2^(63-l.len.toNat):=Nat.pow_pos (by decide)
 split
 .have e:(l.bits+((2^(63-l.len.toNat):Nat):Int)).toNat=(q*2+1)*2^(63-l.len.toNat):=by
   rw[h1,Nat.add_mul,Nat.one_mul,Nat.mul_assoc];omega
  rw[e,Nat.mul_div_cancel _ hp,h1,Nat.add_mul,Nat.one_mul,Nat.mul_assoc];omega
 have e:l.bits.toNat=(q*2)*2^(63-l.len.toNat):=by rw[h1,Nat.mul_assoc];omega
 rw[e,Nat.mul_div_cancel _ hp,h1,Nat.mul_assoc]
theorem wP{l:Lab}(hl:isL l=true)(hb:U64 l.bits)(h64:l.len≠64){key:Int}(hk:U64 key)(hc:s4 l key=true) :
  s4 (D3 l 0) key=decide (key<(D3 l 1).bits)/\s4 (D3 l 1) key=decide ((D3 l 1).bits<=key):=by
 obtain⟨q,h1,h2⟩:=ji hl hb h64;obtain⟨h3,h4,h5⟩:=z8 hl;have hlen:(l.len+1).toNat=l.len.toNat+1:=by omega
 have hpow:64-(l.len.toNat+1)=63-l.len.toNat:=by omega
 have hn:l.len.toNat<64:=by omega
 obtain⟨M,hM⟩:=eqv (2^(63-l.len.toNat));have hp:0<M:=by rw[hM];exact Nat.pow_pos (by decide)
 have hh:(G7 key.toNat l.len.toNat:Int)=l.bits:=by
  unfold s4 at hc;simp only[Bool.and_eq_true,decide_eq_true_eq]at hc;exact hc.2
 rw[<-hM]at h1;have hq:key.toNat / (2*M)=q:=by
  unfold G7 at hh;rw[dD hn,<-hM,h1]at hh;have:key.toNat / (2*M)*(2*M)=q*(2*M):=by omega
  exact Nat.eq_of_mul_eq_mul_right (by omega) this
 have hkey:key.toNat=q*(2*M)+key.toNat % (2*M):=by
  have:=Nat.div_add_mod key.toNat (2*M);rw[hq,Nat.mul_comm]at this;omega
 have hr:=Nat.mod_lt key.toNat (show 0<2*M by omega)
 have hdiv:key.toNat / M=q*2+key.toNat % (2*M) / M:=by
  conv=>lhs;rw[hkey]
  rw[<-Nat.mul_assoc,Nat.mul_comm,Nat.mul_add_div hp]
 have hk0:=hk.1;unfold s4;rw[bB hl hb h64 0,bB hl hb h64 1,Bool.true_and,Bool.true_and];unfold D3 G7;simp only[hlen,hpow,<-hM,if_true,show ¬((0:Int)=1)by decide,if_false,hdiv,h1]
 by_cases hlt:key.toNat % (2*M)<M
 .rw [Nat.div_eq_of_lt hlt,Nat.add_zero,Nat.mul_assoc]
  constructor
  .rw [decide_eq_true rfl,eq_comm,decide_eq_true_eq];omega
  rw[Bool.eq_iff_iff,decide_eq_true_eq,decide_eq_true_eq];omega
 have h9:key.toNat % (2*M) / M=1:=by
  have h10:=Nat.div_lt_of_lt_mul (m:=key.toNat % (2*M)) (n:=M) (k:=2) (by omega);have h11:=(Nat.le_div_iff_mul_le hp (x:=1) (y:=key.toNat % (2*M))).2 (by omega);omega
 rw[h9,Nat.add_mul,Nat.one_mul,Nat.mul_assoc]
 constructor
 .rw [Bool.eq_iff_iff,decide_eq_true_eq,decide_eq_true_eq];omega
 rw[Bool.eq_iff_iff,decide_eq_true_eq,decide_eq_true_eq];omega
def J2(l:Lab)(its:List Itm):List Itm:=its.filter fun x=>s4 l x.key
def R4(kd:Int)(n:Nat)(f:Nat->Itm)(nx:Lab)(mk:Int)(l:Lab):Rec×Rec×Int:=
 if(N7 kd n f nx mk&&isL l&&decide ((J2 l (d4 f n)).length=n))=false then(j3,j3,1)
 else if kd≠1/\kd≠3 then(j3,j3,13)else if l.len=64 then(j3,j3,5)
 else(⟨1,J2 (D3 l 0) (d4 f n),D3 l 1,0⟩,⟨1,J2 (D3 l 1) (d4 f n),nx,0⟩,0)
theorem CB{l:Lab}{its:List Itm}:(J2 l its).length=its.length ↔ ∀x∈its,s4 l x.key=true:=by
 unfold J2;exact List.length_filter_eq_length_iff
def ovl(n:Nat)(f:Nat->Itm)(n2:Nat)(f2:Nat->Itm):Bool:=decide (0<n)&&(decide (0<n2)&&decide ((f2 0).key<=(f (n-1)).key))
def iI(kd:Int)(n:Nat)(f:Nat->Itm)(nx:Lab)(mk:Int)(kd2:Int)(n2:Nat)(f2:Nat->Itm)(nx2:Lab)(mk2:Int):Rec×Int:=
 if(N7 kd n f nx mk&&N7 kd2 n2 f2 nx2 mk2)=false then(j3,1)else if ovl n f n2 f2=true then(j3,1)
 else if ¬(kd=1 \/ kd=5) \/ ¬(kd2=1 \/ kd2=5)then(j3,13)else if 16<n+n2 then(j3,12)else(⟨1,d4 f n++d4 f2 n2,nx2,0⟩,0)
theorem M8{kd:Int}{n:Nat}{f:Nat->Itm}{nx:Lab}{mk:Int}(h:N7 kd n f nx mk=true):1<=kd/\kd<=5/\n<=16/\(nx=D6 \/ isL nx=true)/\okF f n=true:=by
 rw[kH]at h;simp only[Bool.and_eq_true,Bool.not_eq_true',Bool.or_eq_false_iff,decide_eq_false_iff_not]at h;obtain⟨⟨⟨⟨⟨h1,h2⟩,h3⟩,h4⟩,_⟩,h5⟩:=h;refine⟨by omega,by omega,by omega,?_,h5⟩
 by_cases hd:nx=D6
 .exact .inl hd
 right
 cases hl:isL nx with
 |true=>rfl
 |false=>simp[hd,hl]at h4
def aw(l:Lab):Int:=if isL l=false then 1 else if l.len=0 then 7 else 0
def nZ(l:Lab):Lab:=⟨l.len-1,(G7 l.bits.toNat (l.len.toNat-1):Nat)⟩
def V9(l:Lab):Lab:=if aw l=0 then nZ l else⟨0,0⟩
theorem wj(v n:Nat):G7 v n<=v:=Nat.div_mul_le_self _ _
theorem uv{v:Int}(hv:U64 v)(n:Nat):U64 ((G7 v.toNat n:Nat):Int):=by
 have:=wj v.toNat n;have h1:=hv.1;have h2:=hv.2;exact⟨by omega,by omega⟩
theorem HX{l:Lab}(hb:U64 l.bits):U64 (nZ l).bits:=uv hb _
theorem kJ{v n:Nat}:G7 (G7 v n) n=G7 v n:=by
 unfold G7;rw[Nat.mul_div_cancel _ (Nat.pow_pos (by decide))]
theorem Bx{l:Lab}(hl:isL l=true)(hb:U64 l.bits)(h0:l.len≠0):isL (nZ l)=true:=by
 obtain⟨h1,h2,_⟩:=z8 hl;unfold isL nZ;simp only[Bool.and_eq_true,decide_eq_true_eq];refine⟨⟨by omega,by omega⟩,?_⟩;rw[show(l.len-1).toNat=l.len.toNat-1 by omega,Int.toNat_natCast,kJ]
theorem kh{n v k:Nat}(hv:v<2^n)(hm:v % 2^k=0):v &&& (2^n-1-2^k)=v / 2^(k+1)*2^(k+1):=by
 apply Nat.eq_of_testBit_eq;intro i;rw[Nat.testBit_and,Nat.testBit_mul_two_pow,Nat.testBit_div_two_pow];have hvk:∀i,i<k->v.testBit i=false:=by
  intro i hi;obtain⟨q,hq⟩:=Nat.dvd_of_mod_eq_zero hm;rw[hq,Nat.mul_comm,Nat.testBit_mul_two_pow];simp[show ¬k<=i by omega]
 by_cases h1:i<k
 .simp [hvk i h1,show ¬(k+1<=i)by omega]
 by_cases hin:i<n
 .by_cases hkn:k<n
  .rw [show 2^n-1-2^k=2^n-(2^k+1)by omega,Nat.testBit_two_pow_sub_succ (Nat.pow_lt_pow_right (by decide) hkn),Nat.testBit_two_pow]
   by_cases h2:i=k
   .subst h2;simp;intro h;omega
   simp[hin,show ¬k=i by omega,show k+1<=i by omega,show i-(k+1)+(k+1)=i by omega]
  exfalso;omega
 have hvi:v.testBit i=false:=Nat.testBit_lt_two_pow (Nat.lt_of_lt_of_le hv (Nat.pow_le_pow_right (by decide) (by omega)));rw[hvi]
 by_cases h3:k+1<=i
 .simp [show i-(k+1)+(k+1)=i by omega,hvi]
 simp[h3]
theorem ta{l:Lab}(hl:isL l=true)(hb:U64 l.bits)(h0:l.len≠0):i5 .andNot .u64 l.bits ((2^(64-l.len.toNat):Nat):Int)=(nZ l).bits:=by
 obtain⟨h1,h2,h3⟩:=z8 hl;obtain⟨n,hn⟩:∃n:Nat,l.len=n:=⟨l.len.toNat,by omega⟩
 have hn0:0<n:=by omega
 have hn64:n<=64:=by omega
 have hlt:=eF hb;have hm:l.bits.toNat % 2^(64-n)=0:=by
  have:l.bits.toNat=G7 l.bits.toNat n:=by rw[hn]at h3;simp at h3;omega
  rw[this];unfold G7;exact Nat.mul_mod_left _ _
 show IntKind.u64.wrap (BitVec.ofInt 64 l.bits &&& ~~~BitVec.ofInt 64 _).toNat=_
 have hp:2^(64-n)<2^64:=Nat.pow_lt_pow_right (by decide) (by omega);have e1:(BitVec.ofInt 64 l.bits).toNat=l.bits.toNat:=by
  rw[BitVec.toNat_ofInt];have h1:=hb.1;have h2:=hb.2;rw[Int.emod_eq_of_lt h1 (by simpa using h2)]
 have e2:(BitVec.ofInt 64 ((2^(64-l.len.toNat):Nat):Int)).toNat=2^(64-n):=by
  rw[hn,Int.toNat_natCast,BitVec.ofInt_natCast,BitVec.toNat_ofNat,Nat.mod_eq_of_lt hp]
 rw[BitVec.toNat_and,BitVec.toNat_not,e1,e2,show 2^64-1-2^(64-n)=2^64-1-2^(64-n)from rfl,kh hlt hm];unfold nZ G7;simp only[hn,Int.toNat_natCast];rw[show 64-(n-1)=64-n+1 by omega,Q2];have:=Nat.div_mul_le_self l.bits.toNat (2^(64-n+1));rw[Nat.mod_eq_of_lt (by omega)]
end Go.Proofs.YtmbkanpapkhnaaaGreat
namespace Go.Proofs.YtmbkanpapkhnaaaGreat.Sym
open Go Go.RowKit
def gC(x y:Int):Int:=if x<y then -1 else if y<x then 1 else 0
theorem CG{x y:Int}(h:gC x y<0):x<y:=by
 unfold gC at h
 split at h
 .assumption
 split at h<;>omega
theorem zP{x y:Int}(h:x<y):gC x y<0:=by
 unfold gC;rw[if_pos h]
 decide
theorem CH(x y:Int):decide (gC x y=0)=decide (x=y):=by
 unfold gC
 by_cases h1:x<y
 .simp [h1];omega
 by_cases h2:y<x
 .simp [h1,h2];omega
 simp[h1,h2];omega
def bsF(f:Nat->Itm)(key:Int)(lo hi:Nat):Nat:=
 if h:lo<hi then(if(f ((lo+hi) / 2)).key<key then bsF f key ((lo+hi) / 2+1) hi else bsF f key lo ((lo+hi) / 2))else lo
termination_by hi-lo
decreasing_by all_goals omega
theorem oU{f:Nat->Itm}{key:Int}{lo hi:Nat}(h:¬lo<hi):bsF f key lo hi=lo:=by rw[bsF,dif_neg h]
theorem zX{f:Nat->Itm}{key:Int}{lo hi m:Nat}(h:lo<hi)(hm:m=(lo+hi) / 2)(hk:(f m).key<key):bsF f key lo hi=bsF f key (m+1) hi:=by
 subst hm;conv=>lhs;rw[bsF]
 rw[dif_pos h,if_pos hk]
theorem zY{f:Nat->Itm}{key:Int}{lo hi m:Nat}(h:lo<hi)(hm:m=(lo+hi) / 2)(hk:¬(f m).key<key):bsF f key lo hi=bsF f key lo m:=by
 subst hm;conv=>lhs;rw[bsF]
 rw[dif_pos h,if_neg hk]
def we(f:Nat->Itm)(key:Int)(n p:Nat):Bool:=decide (p<n)&&decide ((f p).key=key)
theorem Ch(lo hi:Nat)(h:lo+hi<1000000000):IntKind.i64.wrap (o7 .shr .u64 (IntKind.u64.wrap ((lo:Int)+(hi:Int))) 1)=(((lo+hi) / 2:Nat):Int):=by
 rw[wrap_u64 _ ⟨by omega,by omega⟩];have e:o7 .shr .u64 ((lo:Int)+(hi:Int)) 1=(((lo+hi) / 2:Nat):Int):=by
  have h1:=AS (v:=(lo:Int)+(hi:Int)) ⟨by omega,by omega⟩ 1 (by decide);rw[show((1:Nat):Int)=1 from rfl]at h1;rw[h1,show((lo:Int)+(hi:Int)).toNat=lo+hi by omega]
 rw[e,s5 (by omega) (by omega)]
theorem mY:o3 Tryz.prog 135:=fun _ _=>by kernel_rfl
theorem DX(x:Int):l7 Tryz.prog 135 [.int .u64 x] (fun _=>.bool .ff):=by
 intro m w hm hargs;refine en 6 hm hargs Tryz.func135 fun B O a0 Z=>?_
 refine a6 [0] [] Z fun X0 Z=>?_
 refine a6 [2] [] Z fun X1 Z=>?_
 refine B4 Z ?_;subst O;exact Sim.bool (by simp[BE.den,std,b7];rfl)
theorem qF:o3 Tryz.prog 70:=fun _ _=>by kernel_rfl
theorem Iv(x y:Int):l7 Tryz.prog 70 [.int .u64 x,.int .u64 y] (fun _=>.int .i64 (gC x y)):=by
 intro m w hm hargs;refine en 20 hm hargs Tryz.func70 fun B O a0 Z=>?_
 refine a6 [0,1] [] Z fun X0 Z=>?_
 refine j6 [0,1,5] [] [(1,.r fun _=>.bool .ff)] Z (hob:=?hob) fun X1 Z=>?_
 case hob=>
  intro X;subst O;exact⟨⟨mY,DX x⟩,trivial⟩
 refine j6 [0,1,5,6] [] [(1,.r fun _=>.bool .ff)] Z (hob:=?hob) fun X2 Z=>?_
 case hob=>
  intro X;subst O;exact⟨⟨mY,DX y⟩,trivial⟩
 refine a7 (a6 [11,0,1,6] [] Z fun X3 Z=>?_);refine F2 Z rfl (fun Z=>?_);refine f9 (a7 (a6 [13,0,1] [] Z fun X7 Z=>?_));refine F2 Z rfl (fun Z=>?_);refine f9 (a7 (a6 [16,0,1] [] Z fun X9 Z=>?_));apply d7 Z rfl<;>intro hb Z
 .have h1:x<y:=by subst O;simpa[std,b7]using hb
  refine a6 [4] [] Z fun X10 Z=>?_
  refine aS Z ?_;simp only[gC,h1,if_true];rfl
 have h1:¬x<y:=by subst O;simpa[std,b7]using hb
 refine f9 (a7 (a6 [19] [] Z fun X11 Z=>?_));apply d7 Z rfl<;>intro hb Z
 .have h2:y<x:=by subst O;simpa[std,b7]using hb
  refine a6 [4] [] Z fun X12 Z=>?_
  refine aS Z ?_;simp only[gC,h1,h2,if_true,if_false];rfl
 have h2:¬y<x:=by subst O;simpa[std,b7]using hb
 refine f9 (a6 [4] [] Z fun X13 Z=>?_);refine aS Z ?_;simp only[gC,h1,h2,if_false];rfl
theorem mU:o3 Tryz.prog 256:=fun _ _=>by kernel_rfl
theorem Et(k:Int)(v:ByteArray)(y:Int):l7 Tryz.prog 256 [.agg [.int .u64 k,.str v],.int .u64 y] (fun _=>.int .i64 (gC k y)):=by
 intro m w hm hargs;obtain⟨c,hc⟩:=eqv (gC k y);have S:=Iv k y;rw[<-hc]at S;refine en 9 hm hargs Tryz.func256 fun B O a0 Z=>?_
 refine a6 [1,2] [2] Z fun X0 Z=>?_
 refine j6 [4] [] [(3,.r fun _=>.int .i64 c)] Z (hob:=?hob) fun X1 Z=>?_
 case hob=>
  intro X;subst O;first|exact⟨⟨qF,S⟩,trivial⟩|exact⟨rfl,⟨qF,S⟩,trivial⟩
 refine aS Z ?_;rw[hc];rfl
theorem wC:o3 Tryz.prog 255:=fun _ _=>by kernel_rfl
theorem JH(A:Option Addr)(n c:Nat)(f:Nat->Itm)(hn:n<=1000000)(key:Int):l7 Tryz.prog 255 [r6 A n c f,.int .u64 key,.fn 256 [] []] (fun _=>.tup [.int .i64 (bsF f key 0 n:Nat),.bool (.v (we f key n (bsF f key 0 n)))]):=by
 intro m w hm hargs;have hmx:maxLen=9223372036854775807:=rfl;unfold r6 at hargs
 try unfold r6
 refine en 49 hm hargs Tryz.func255 fun B O a0 Z=>?_
 refine a6 [0,1,2] [] Z fun X0 Z=>?_
 refine a6 [8,0,1,2] [] Z fun X1 Z=>?_
 replace Z:=Z.head (v':=.int .i64 (n:Int)) (by subst O;rfl);refine a6 [9,10,0,1,2,8] [] Z fun X2 Z=>?_
 refine a7 (j0 (r9 (ι:=Nat×Nat) (fun p=>[(9,.int .i64 (p.1:Int)),(10,.int .i64 (p.2:Int))]) (fun p=>[]) (fun p=>[]) (fun p=>p.1<=p.2/\p.2<=n/\bsF f key p.1 p.2=bsF f key 0 n) (fun p=>p.2-p.1) (0,n) ⟨Nat.zero_le _,Nat.le_refl _,rfl⟩ Z ?_))
 rintro⟨lo,hi⟩ ⟨hlh,hhn,hbs⟩ _ _ Z
 try dsimp only at hlh
 try dsimp only at hhn
 try dsimp only at hbs
 refine a7 (a6 [17,9,10,0,1,2,8] [] Z fun X3 Z=>?_);apply d7 Z rfl<;>intro hb Z
 .have hlt:lo<hi:=by
   have:(lo:Int)<(hi:Int):=by subst O;simpa[std,b7]using hb
   omega
  refine f9 (j0 (a6 [11,9,10,0,1,2,8] [] Z fun X4 Z=>?_));obtain⟨m,hm⟩:∃m:Nat,m=(lo+hi) / 2:=⟨_,rfl⟩
  have hmlo:lo<=m/\m<hi:=by omega
  replace Z:=Z.head (v':=.int .i64 (m:Int)) (by
   subst O
   show AV.int .i64 (IntKind.i64.wrap (o7 .shr .u64 (IntKind.u64.wrap (IntKind.i64.wrap ((lo:Int)+(hi:Int)))) 1))=_
   rw[s5 (x:=(lo:Int)+(hi:Int)) (by omega) (by omega),Ch lo hi (by omega),hm])
  obtain⟨cv,hcv⟩:=eqv (gC (f m).key key);have S1:=Et (f m).key (f m).val key;rw[<-hcv]at S1;refine j6 [31,11,9,10,0,1,2,8] [] [(6,.r fun _=>.int .i64 cv)] Z (hob:=?hob) fun X5 Z=>?_
  case hob=>
   intro X;subst O;refine⟨⟨?_,?_⟩,⟨mU,?_⟩,trivial⟩
   .show (0:Int)<=(m:Int);omega
   .show (m:Int)<(n:Int);omega
   exact S1
  apply d7 Z rfl<;>intro hb Z
  .have hlt2:(f m).key<key:=by
    have h9:cv<0:=by subst O;simpa[std,b7]using hb
    rw[hcv]at h9;exact CG h9
   have e:B.arith .add .i64 (m:Int) 1=((m+1:Nat):Int):=by subst O;exact j7 (n:=n) (by omega) (by omega)
   refine j5 [9,10,0,1,2,8] [] Z fun X6 Z=>?_
   refine⟨(m+1,hi),⟨by simp only;omega,hhn,?_⟩,by simp only;omega,by rw[<-e];exact Z⟩;exact(zX hlt hm hlt2).symm.trans hbs
  have hlt2:¬(f m).key<key:=by
   have h9:¬cv<0:=by subst O;simpa[std,b7]using hb
   rw[hcv]at h9;exact fun h=>h9 (zP h)
  refine j5 [9,10,0,1,2,8] [] Z fun X7 Z=>?_
  refine⟨(lo,m),⟨by simp only;omega,by simp only;omega,?_⟩,by simp only;omega,Z⟩;exact(zY hlt hm hlt2).symm.trans hbs
 have hge:¬lo<hi:=by
  have:¬(lo:Int)<(hi:Int):=by subst O;simpa[std,b7]using hb
  omega
 have hlo:lo=bsF f key 0 n:=by rw[<-hbs,oU hge]
 obtain⟨cv,hcv⟩:=eqv (gC (f lo).key key);have S2:=Et (f lo).key (f lo).val key;rw[<-hcv]at S2;refine o4 (j6 [6,7] [] [(11,.r fun _=>.int .i64 cv)] Z (hob:=?hob) fun X8 Z=>?_)
 case hob=>
  intro X;subst O;simp only[f8,Ob.holds,BE.den,List.mem_cons,List.not_mem_nil,or_false,forall_eq_or_imp,forall_eq]
  and_intros<;>first|trivial|(intro h;first|trivial|exact⟨mU,S2⟩|(have h2:(lo:Int)<(n:Int):=of_decide_eq_true h;exact⟨Int.natCast_nonneg _,h2⟩))
 refine B4 Z ?_;subst O;rw[<-hlo];refine Sim.tup ⟨zr,Sim.bool ?_,trivial⟩
 show(if decide ((lo:Int)<(n:Int))=true then decide (cv=0)else false)=we f key n lo
 unfold we;rw[hcv]
 by_cases h:lo<n
 .have h1:(lo:Int)<(n:Int):=by omega
  rw[if_pos (by simpa using h1)];simp only[h,decide_true,Bool.true_and];exact CH _ _
 have h1:¬(lo:Int)<(n:Int):=by omega
 rw[if_neg (by simpa using h1)];simp[h]
theorem mV:o3 Tryz.prog 222:=fun _ _=>by kernel_rfl
theorem JI(A:Option Addr)(n c:Nat)(f:Nat->Itm)(hn:n<=1000000)(key:Int):l7 Tryz.prog 222 [r6 A n c f,.int .u64 key] (fun _=>.tup [.int .i64 (bsF f key 0 n:Nat),.bool (.v (we f key n (bsF f key 0 n)))]):=by
 intro m w hm hargs;have S:=JH A n c f hn key;unfold r6 at S hargs ⊢
 generalize we f key n (bsF f key 0 n)=hh at S ⊢
 generalize bsF f key 0 n=p at S ⊢
 refine en 11 hm hargs Tryz.func222 fun B O a0 Z=>?_
 refine a6 [0,1] [] Z fun X0 Z=>?_
 refine j6 [4,5] [] [(2,.r fun _=>.tup [.int .i64 (p:Int),.bool (.v hh)])] Z (hob:=?hob) fun X1 Z=>?_
 case hob=>
  intro X;subst O;exact⟨⟨wC,S⟩,trivial⟩
 exact j2 ((rsp O a8 Z G6).1)
def chE(l:Lab)(b:Int):Int:=if isL l=false then 1 else if l.len=64 then 5 else 0
def chV(l:Lab)(b:Int):Lab:=if chE l b=0 then D3 l b else⟨0,0⟩
theorem AT{n:Int}(h0:0<=n)(h1:n<64):o7 .shl .u64 1 (IntKind.i64.wrap (63-n))=((2^(63-n.toNat):Nat):Int):=by
 rw[s5 (by omega) (by omega)]
 show IntKind.u64.wrap (1*(2:Int)^(min (63-n).toNat 64))=_
 rw[Nat.min_eq_left (by omega),Int.one_mul,show(63-n).toNat=63-n.toNat by omega,show(2:Int)^(63-n.toNat)=((2^(63-n.toNat):Nat):Int)by simp,Q2];have:2^(63-n.toNat)<=2^63:=Nat.pow_le_pow_right (by decide) (by omega);rw[Nat.mod_eq_of_lt (by omega)]
theorem ye{l:Lab}(hl:isL l=true)(hb:U64 l.bits)(h64:l.len≠64):i5 .or .u64 l.bits ((2^(63-l.len.toNat):Nat):Int)=l.bits+((2^(63-l.len.toNat):Nat):Int):=by
 obtain⟨q,h1,h2⟩:=ji hl hb h64;obtain⟨h3,h4,h5⟩:=z8 hl;have hn:l.len.toNat<64:=by omega
 have hp:0<2^(63-l.len.toNat):=Nat.pow_pos (by decide);rw[h1];rw[yd (a:=q*(2*2^(63-l.len.toNat))) (b:=2^(63-l.len.toNat)) (k:=64-l.len.toNat) (by rw[dD hn];exact Nat.mul_mod_left _ _) (by rw[dD hn];omega) (by omega)];exact Int.natCast_add _ _
theorem fS{l:Lab}{il:Bool}(hil:il=isL l)(h:∀e ∈ [((BE.v il:BE),true)],e.1.den=e.2):0<=l.len/\l.len<=64:=by
 have hl:il=true:=h _ (List.mem_singleton.2 rfl);obtain⟨a,b,_⟩:=z8 (l:=l) (by rw[<-hil];exact hl);exact⟨a,b⟩
theorem mW:o3 Tryz.prog 220:=fun _ _=>by kernel_rfl
theorem Es(n:Int)(h0:0<=n)(h1:n<64):l7 Tryz.prog 220 [.int .i64 n] (fun _=>.int .u64 ((2^(63-n.toNat):Nat):Int)):=by
 intro m w hm hargs;refine en 6 hm hargs Tryz.func220 fun B O a0 Z=>?_
 refine a6 [0] [] Z fun X0 Z=>?_
 refine a6 [2] [] Z (hob:=?hob) fun X1 Z=>?_
 case hob=>
  intro X;subst O;refine⟨?_,trivial⟩
  show 0<=IntKind.i64.wrap (63-n)
  rw[s5 (by omega) (by omega)];omega
 refine B4 Z ?_;subst O;rw[<-AT h0 h1];exact zr
theorem mX:o3 Tryz.prog 160:=fun _ _=>by kernel_rfl
theorem jr(l:Lab)(hb0:U64 l.bits)(b:Int)(hb01:b=0 \/ b=1):l7 Tryz.prog 160 [i9 l,.int .i64 b] (fun _=>.tup [i9 (chV l b),.int .i64 (chE l b)]):=by
 intro m w hm hargs;have SI:=eB l hb0;simp only[i9]at SI hargs ⊢;obtain⟨il,hil⟩:=eqv (isL l);rw[<-hil]at SI;refine en 38 hm hargs Tryz.func160 fun B O a0 Z=>?_
 refine a6 [1,2,4] [2,4] Z fun X0 Z=>?_
 refine a7 (j0 (j6 [6,1,2,4] [2,4] [(1,.r fun _=>.bool (.v il))] Z (hob:=?hob) fun X1 Z=>?_))
 case hob=>
  intro X;subst O
  repeat(first|exact trivial|refine⟨rfl,?_⟩|refine⟨fun _=>rfl,?_⟩|refine⟨C3 (Kk:=noK) _ _ _ _,?_⟩|refine⟨fun _=>C3 (Kk:=noK) _ _ _ _,?_⟩|refine⟨⟨V2,SI⟩,?_⟩|refine⟨fun _=>⟨V2,SI⟩,?_⟩)
 apply d7 Z rfl<;>intro hb Z
 .have h9:(if(if(!il)=true then true else decide (b<0))=true then true else decide (b>1))=true:=by subst O;exact hb
  have hilf:il=false:=by rcases hb01 with rfl|rfl<;>cases il<;>first|rfl|(simp at h9)
  have hE:chE l b=1:=by unfold chE;rw[<-hil,hilf];rfl
  have hV:chV l b=⟨0,0⟩:=by unfold chV;rw[hE];rfl
  refine a6 [4,5] [4] Z fun X2 Z=>?_
  refine B4 Z ?_;subst O;rw[hV,hE];exact zr
 have h9:(if(if(!il)=true then true else decide (b<0))=true then true else decide (b>1))=false:=by subst O;exact hb
 have hilt:il=true:=by cases il<;>first|rfl|(simp at h9)
 have hLt:isL l=true:=by rw[<-hil];exact hilt
 obtain⟨hl0,hl1,hl2⟩:=z8 hLt;refine a6 [19,1,2,4] [2,4] Z fun X3 Z=>?_
 apply d7 Z rfl<;>intro hb Z
 .have h64:l.len=64:=by subst O;simpa[std,b7]using hb
  have hE:chE l b=5:=by unfold chE;rw[<-hil,hilt,if_neg (by decide),if_pos h64]
  have hV:chV l b=⟨0,0⟩:=by unfold chV;rw[hE];rfl
  refine a6 [4,5] [4] Z fun X4 Z=>?_
  refine B4 Z ?_;subst O;rw[hV,hE];exact zr
 have h64:l.len≠64:=by subst O;simpa[std,b7]using hb
 have hE:chE l b=0:=by unfold chE;rw[<-hil,hilt,if_neg (by decide),if_neg h64]
 have hV:chV l b=D3 l b:=by unfold chV;rw[hE];rfl
 refine f9 (a7 (a6 [25,2,4] [2,4] Z fun X5 Z=>?_));refine uK (ι:=Int) (S0:=[(25,_)]) (M0:=[(2,_)]) (G0:=[]) (fun p=>[]) (fun p=>[(2,⟨(X0 0).b,24,[.int .i64 l.len,.int .u64 p]⟩)]) (fun p=>[]) (fun p=>p=(D3 l b).bits) Z ?_ ?_
 .apply d7 Z rfl<;>intro hb Z
  .have hb1:b=1:=by subst O;simpa[std,b7]using hb
   have SB:=Es l.len hl0 (by omega);obtain⟨bt,hbt⟩:=eqv (((2^(63-l.len.toNat):Nat):Int));rw[<-hbt]at SB;have hor:i5 .or .u64 l.bits bt=l.bits+bt:=by rw[hbt];exact ye hLt hb0 h64
   refine drg O a8 [2,4] [2,4] [(4,.r fun _=>.int .u64 bt)] Z (hob:=?hob) fun X6 _ _ Z=>?_
   case hob=>
    intro X;subst O
    repeat(first|exact trivial|refine⟨rfl,?_⟩|refine⟨fun _=>rfl,?_⟩|refine⟨C3 (Kk:=noK) _ _ _ _,?_⟩|refine⟨fun _=>C3 (Kk:=noK) _ _ _ _,?_⟩|refine⟨⟨mW,SB⟩,?_⟩|refine⟨fun _=>⟨mW,SB⟩,?_⟩)
   refine⟨(D3 l b).bits,rfl,?_⟩;have e:(D3 l b).bits=B.arith .or .u64 l.bits bt:=by
    subst O
    show _=i5 .or .u64 l.bits bt
    rw[hor,hb1,hbt];rfl
   rw[e];exact Z
  have hb1:b=0:=by
   have:¬b=1:=by subst O;simpa[std,b7]using hb
   exact hb01.resolve_right this
  exact f9 (⟨(D3 l b).bits,rfl,by rw[hb1];exact Z⟩)
 rintro bb hbb _ _ Z
 try dsimp only at hbb
 refine a6 [2,4] [2,4] Z fun X7 Z=>?_
 refine a6 [4,5] [4] Z fun X8 Z=>?_
 refine B4 Z ?_;subst O;rw[hV,hE];have e1:IntKind.i64.wrap (l.len+1)=l.len+1:=s5 (by omega) (by omega);refine Sim.tup ⟨Sim.agg ⟨?_,?_,trivial⟩,zr,trivial⟩
 .show Sim (.int .i64 (IntKind.i64.wrap (l.len+1))) _
  rw[e1];exact zr
 rw[hbb];exact zr
theorem qG:o3 Tryz.prog 32:=fun _ _=>by kernel_rfl
theorem uM(l:Lab)(hb0:U64 l.bits)(key:Int)(hk:U64 key):l7 Tryz.prog 32 [i9 l,.int .u64 key] (fun _=>.bool (.v (s4 l key))):=by
 intro m w hm hargs;have SI:=eB l hb0;have SH:=fun h0 h1=>sv key l.len hk h0 h1
 simp only[i9]at SI hargs;unfold s4;obtain⟨il,hil⟩:=eqv (isL l);rw[<-hil]at SI ⊢;obtain⟨hd,hhd⟩:=eqv (((G7 key.toNat l.len.toNat:Nat):Int));rw[<-hhd];simp only[<-hhd]at SH;refine en 16 hm hargs Tryz.func32 fun B O a0 Z=>?_
 refine a6 [1,2] [2] Z fun X0 Z=>?_
 refine a7 (drg O a8 [4] [] [(1,.r fun _=>.bool (.v il)),(6,.r fun _=>.int .u64 hd)] Z (hob:=?hob) fun X1 _ _ Z=>?_)
 case hob=>
  intro X;subst O
  repeat(first|exact trivial|refine⟨rfl,?_⟩|refine⟨fun _=>rfl,?_⟩|refine⟨⟨V2,SI⟩,?_⟩|refine⟨fun h=>⟨qD,SH (fS hil h).1 (fS hil h).2⟩,?_⟩)
 refine B4 Z ?_;subst O;exact Sim.bool (by show(if il=true then decide (hd=l.bits)else false)=_;rw[M7];rfl)
structure Nt where
 code:Int
 had:Bool
 val:ByteArray
structure Rsl where
 code:Int
 had:Bool
 val:ByteArray
 items:List Itm
 key:Int
 more:Bool
deriving DecidableEq
def Y0:Rsl:=⟨0,false,⟨#[]⟩,[],0,false⟩
structure Wq where
 kind:Int
 lab:Lab
 ver:Int
 r:Rec
 res:Rsl
deriving DecidableEq
def zWq:Wq:=⟨0,⟨0,0⟩,0,j3,Y0⟩
structure Pst where
 n:Nat
 g:Nat->r5
 note:Nt
def Pst.tl(p:Pst):Pst:=⟨p.n-1,fun j=>p.g (j+1),p.note⟩
inductive Rs(α : Type)where
 |ok (a:α) (p:Pst)
 |stop (w:Wq) (p:Pst)
def Rs.bind{α β : Type}(m:Rs α)(f:α->Pst->Rs β):Rs β:=match m with
 | .ok a p=>f a p
 | .stop w p=>.stop w p
def yc(p:Pst):Wq:=⟨4,⟨0,0⟩,0,j3,⟨p.note.code,p.note.had,p.note.val,[],0,false⟩⟩
def M2(k:Int)(w:Wq)(p:Pst):Rs r5:=if 0<p.n/\0<(p.n:Int)+k then .ok (p.g 0) p.tl else .stop (if(p.n:Int)+k<=0 then yc p else w) p
def N0(k:Int)(l:Lab)(p:Pst):Rs r5:=M2 k ⟨1,l,0,j3,Y0⟩ p
def aN(k:Int)(l:Lab)(v:Int)(r:Rec)(p:Pst):Rs Bool:=(M2 k ⟨2,l,v,r,Y0⟩ p).bind fun g p=>.ok (decide (g.code=0)) p
def lS(k:Int)(l:Lab)(v:Int)(p:Pst):Rs Bool:=(M2 k ⟨3,l,v,j3,Y0⟩ p).bind fun g p=>.ok (decide (g.code=0)) p
def gk(g:r5)(kd:Int):Bool:=g.has&&decide (g.x.r.kd=kd)
def asR(kd:Int)(x:RA)(mk:Int):RA:=⟨x.A,x.c,⟨x.r.n,x.r.f,kd,x.r.nx,mk⟩⟩
def dC:Rec:=⟨2,[],D6,0⟩
def N8(x:RA)(l:Lab):Rec×Rec×Int:=R4 x.r.kd x.r.n x.r.f x.r.nx x.r.mrk l
def cK(x y:RA):Rec×Int:=iI x.r.kd x.r.n x.r.f x.r.nx x.r.mrk y.r.kd y.r.n y.r.f y.r.nx y.r.mrk
def I8(k:Int)(l:Lab)(v:Int)(c:Lab)(x:Rec):Nat->Pst->Rs Bool
 |0,p=>.stop zWq p
 |n+1,p=>(N0 k c p).bind fun g p=>if(g.has && !decide (g.x.r.kd=5))=true then .ok true p else(N0 k l p).bind fun q p=>if q.ver=v then(aN k c g.ver x p).bind fun d p=>if d=true then .ok true p else I8 k l v c x n p else .ok false p
def C2(k:Int)(n:Nat)(l:Lab)(v:Int)(x:RA)(p:Pst):Rs Unit:=
 if(N8 x l).2.2=0 then
  (I8 k l v (chV l 0) (N8 x l).1 n p).bind fun go p=>if go=true then(I8 k l v (chV l 1) (N8 x l).2.1 n p).bind fun go p=>if go=true then(aN k l v dC p).bind fun _ p=>.ok () p else .ok () p else .ok () p
 else .ok () p
inductive Fz where
 |over
 |unfit
 |fr (x:RA)
def ap(k:Int)(l:Lab)(v:Int)(c:Lab):Nat->Pst->Rs Fz
 |0,p=>.stop zWq p
 |n+1,p=>(N0 k c p).bind fun g p=>if(gk g 1||gk g 5)=true then(if(gk g 5&&decide (g.x.r.mrk=v))=true then .ok (.fr g.x) p else(N0 k l p).bind fun q p=>if q.ver=v then(aN k c g.ver (asR 5 g.x v).r.abs p).bind fun d p=>if d=true then .ok (.fr (asR 5 g.x v)) p else ap k l v c n p else .ok .over p)else .ok .unfit p
def T0(k:Int)(l:Lab)(cl:Lab->Pst->Rs Unit)(c:Lab)(p:Pst):Rs Bool:=
 (N0 k c p).bind fun g p=>if gk g 5=true then(cl c p).bind fun _ p=>(N0 k l p).bind fun q p=>if(gk q 1||gk q 5)=true then(lS k c g.ver p).bind fun _ p=>.ok true p else .ok false p else .ok true p
def P0(k:Int):Nat->Lab->Pst->Rs Unit
 |0,_,p=>.stop zWq p
 |n+1,l,p=>if l.len=64 then .ok () p else(T0 k l (P0 k n) (chV l 0) p).bind fun go p=>if go=true then(T0 k l (P0 k n) (chV l 1) p).bind fun _ p=>.ok () p else .ok () p
def eu(k:Int)(th:Lab->Pst->Rs Unit)(l:Lab)(v:Int)(p:Pst):Rs Unit:=(aN k l v dC p).bind fun d p=>if d=true then(th (chV l 0) p).bind fun _ p=>th (chV l 1) p else .ok () p
def Z8(bk k:Int)(n:Nat)(th:Lab->Pst->Rs Unit)(l:Lab)(v:Int)(p:Pst):Rs Unit:=
 (ap k l v (chV l 0) n p).bind fun a p=>match a with
  | .over=>.ok () p
  | .unfit=>eu k th l v p
  | .fr a=>(ap k l v (chV l 1) n p).bind fun b p=>match b with
   | .over=>.ok () p
   | .unfit=>eu k th l v p
   | .fr b=>if(cK a b).2=0/\((cK a b).1.items.length:Int)<=bk then(aN k l v (cK a b).1 p).bind fun d p=>if d=true then P0 k n l p else .ok () p else eu k th l v p
def gW(bk k:Int)(n:Nat)(th:Lab->Pst->Rs Unit)(l:Lab)(g:r5)(p:Pst):Rs Unit:=
 if gk g 3=true then C2 k n l g.ver g.x p else if l.len<64 then Z8 bk k n th l g.ver p else .ok () p
def cU(bk k:Int):Nat->Lab->Lab->Pst->Rs Unit
 |0,_,_,p=>.stop zWq p
 |n+1,l,up,p=>(N0 k l p).bind fun g p=>if gk g 5=true then(N0 k up p).bind fun q p=>
   (if(gk q 3||gk q 4)=true then gW bk k n (fun c p=>if aw c=0 then cU bk k n c (V9 c) p else .ok () p) up q p else .ok () p).bind fun _ p=>
    if gk q 2=true then(aN k l g.ver (asR 1 g.x 0).r.abs p).bind fun d p=>if d=true then .ok () p else cU bk k n l up p else .ok () p else .ok () p
def T3(bk k:Int)(n:Nat)(l:Lab)(p:Pst):Rs Unit:=if aw l=0 then cU bk k n l (V9 l) p else .ok () p
def cP(bk k:Int)(n:Nat)(l:Lab)(g:r5)(p:Pst):Rs Unit:=gW bk k n (T3 bk k n) l g p
def K6(r:Rs Rsl):Wq×Int:=match r with
 | .ok a p=>if 0<p.n then(zWq,5)else(⟨4,⟨0,0⟩,0,j3,a⟩,0)
 | .stop w p=>if 0<p.n then(zWq,5)else(w,0)
def Suf(p p':Pst):Prop:=∃d,p'.n+d=p.n/\∀j,p'.g j=p.g (j+d)
theorem Suf.refl(p:Pst):Suf p p:=⟨0,rfl,fun _=>rfl⟩
theorem Suf.trans{p q r:Pst}(h:Suf p q)(h':Suf q r):Suf p r:=by
 obtain⟨d,h1,h2⟩:=h;obtain⟨e,h3,h4⟩:=h';exact⟨e+d,by omega,fun j=>by rw[h4,h2];congr 1;omega⟩
theorem Suf.le{p q:Pst}(h:Suf p q):q.n<=p.n:=by obtain⟨d,h1,_⟩:=h;omega
theorem EJ{p:Pst}(h:0<p.n):Suf p p.tl:=⟨1,by simp only[Pst.tl];omega,fun _=>rfl⟩
def Fro{α : Type}(p:Pst)(r:Rs α):Prop:=match r with
 | .ok _ q=>Suf p q
 | .stop _ q=>Suf p q
theorem Fro.bind{α β : Type}{p:Pst}{m:Rs α}{f:α->Pst->Rs β}(h:Fro p m)(hf:∀a q,Suf p q->Fro q (f a q)):Fro p (m.bind f):=by
 cases m with
 |ok a q=>
  have h1:=hf a q h
  show Fro p (f a q)
  cases hr:f a q with
  |ok b r=>rw[hr]at h1;exact Suf.trans h h1
  |stop w r=>rw[hr]at h1;exact Suf.trans h h1
 |stop w q=>exact h
theorem ga(k:Int)(w:Wq)(p:Pst):Fro p (M2 k w p):=by
 unfold M2
 split
 .rename_i h;exact EJ h.1
 exact Suf.refl _
theorem u0{α : Type}(a:α)(p:Pst):Fro p (Rs.ok a p):=Suf.refl p
theorem bi{α : Type}(w:Wq)(p:Pst):Fro p (Rs.stop w p:Rs α):=Suf.refl p
theorem k8{α : Type}{p:Pst}{c:Prop} [Decidable c]{x y:Rs α}(hx:Fro p x)(hy:Fro p y):Fro p (if c then x else y):=by split<;>assumption
theorem l3(k:Int)(l:Lab)(p:Pst):Fro p (N0 k l p):=ga _ _ _
theorem A4(k:Int)(l:Lab)(v:Int)(r:Rec)(p:Pst):Fro p (aN k l v r p):=(ga _ _ _).bind fun _ _ _=>u0 _ _
theorem jo(k:Int)(l:Lab)(v:Int)(p:Pst):Fro p (lS k l v p):=(ga _ _ _).bind fun _ _ _=>u0 _ _
theorem kO(k:Int)(l:Lab)(v:Int)(c:Lab)(x:Rec):∀n p,Fro p (I8 k l v c x n p)
 |0,p=>bi _ _
 |n+1,p=>(l3 _ _ _).bind fun _ _ _=>k8 (u0 _ _) ((l3 _ _ _).bind fun _ _ _=>k8 ((A4 _ _ _ _ _).bind fun _ _ _=>k8 (u0 _ _) (kO k l v c x n _)) (u0 _ _))
theorem mO(k:Int)(n:Nat)(l:Lab)(v:Int)(x:RA)(p:Pst):Fro p (C2 k n l v x p):=
 k8 ((kO _ _ _ _ _ _ _).bind fun _ _ _=>k8 ((kO _ _ _ _ _ _ _).bind fun _ _ _=>k8 ((A4 _ _ _ _ _).bind fun _ _ _=>u0 _ _) (u0 _ _)) (u0 _ _)) (u0 _ _)
theorem cb(k:Int)(l:Lab)(v:Int)(c:Lab):∀n p,Fro p (ap k l v c n p)
 |0,p=>bi _ _
 |n+1,p=>(l3 _ _ _).bind fun _ _ _=>k8 (k8 (u0 _ _) ((l3 _ _ _).bind fun _ _ _=>k8 ((A4 _ _ _ _ _).bind fun _ _ _=>k8 (u0 _ _) (cb k l v c n _)) (u0 _ _))) (u0 _ _)
theorem qx(k:Int)(l:Lab)(cl:Lab->Pst->Rs Unit)(h:∀c p,Fro p (cl c p))(c:Lab)(p:Pst):Fro p (T0 k l cl c p):=
 (l3 _ _ _).bind fun _ _ _=>k8 ((h _ _).bind fun _ _ _=>(l3 _ _ _).bind fun _ _ _=>k8 ((jo _ _ _ _).bind fun _ _ _=>u0 _ _) (u0 _ _)) (u0 _ _)
theorem cd(k:Int):∀n l p,Fro p (P0 k n l p)
 |0,l,p=>bi _ _
 |n+1,l,p=>k8 (u0 _ _) ((qx _ _ _ (cd k n) _ _).bind fun _ _ _=>k8 ((qx _ _ _ (cd k n) _ _).bind fun _ _ _=>u0 _ _) (u0 _ _))
theorem ec(k:Int)(th:Lab->Pst->Rs Unit)(h:∀c p,Fro p (th c p))(l:Lab)(v:Int)(p:Pst):Fro p (eu k th l v p):=
 (A4 _ _ _ _ _).bind fun _ _ _=>k8 ((h _ _).bind fun _ _ _=>h _ _) (u0 _ _)
theorem uA(bk k:Int)(n:Nat)(th:Lab->Pst->Rs Unit)(h:∀c p,Fro p (th c p))(l:Lab)(v:Int)(p:Pst):Fro p (Z8 bk k n th l v p):=
 (cb _ _ _ _ _ _).bind fun a _ _=>match a with
  | .over=>u0 _ _
  | .unfit=>ec _ _ h _ _ _
  | .fr a=>(cb _ _ _ _ _ _).bind fun b _ _=>match b with
   | .over=>u0 _ _
   | .unfit=>ec _ _ h _ _ _
   | .fr b=>k8 ((A4 _ _ _ _ _).bind fun _ _ _=>k8 (cd _ _ _ _) (u0 _ _)) (ec _ _ h _ _ _)
theorem oF(bk k:Int)(n:Nat)(th:Lab->Pst->Rs Unit)(h:∀c p,Fro p (th c p))(l:Lab)(g:r5)(p:Pst):Fro p (gW bk k n th l g p):=
 k8 (mO _ _ _ _ _ _) (k8 (uA _ _ _ _ h _ _ _) (u0 _ _))
theorem fZ(bk k:Int):∀n l up p,Fro p (cU bk k n l up p)
 |0,l,up,p=>bi _ _
 |n+1,l,up,p=>(l3 _ _ _).bind fun _ _ _=>k8 ((l3 _ _ _).bind fun _ _ _=>(k8 (oF _ _ _ _ (fun c p=>k8 (fZ bk k n _ _ _) (u0 _ _)) _ _ _) (u0 _ _)).bind fun _ _ _=>k8 ((A4 _ _ _ _ _).bind fun _ _ _=>k8 (u0 _ _) (fZ bk k n _ _ _)) (u0 _ _)) (u0 _ _)
theorem J0(bk k:Int)(n:Nat)(l:Lab)(p:Pst):Fro p (T3 bk k n l p):=k8 (fZ _ _ _ _ _ _) (u0 _ _)
theorem U7(bk k:Int)(n:Nat)(l:Lab)(g:r5)(p:Pst):Fro p (cP bk k n l g p):=oF _ _ _ _ (J0 _ _ _) _ _ _
theorem Fro.of{α : Type}{p q:Pst}{m:Rs α}{a:α}(h:Fro p m)(e:m = .ok a q):Suf p q:=by rw[e]at h;exact h
theorem sV{k:Int}{w:Wq}{p q:Pst}{g:r5}(h:M2 k w p = .ok g q):0<p.n/\g=p.g 0/\q=p.tl:=by
 unfold M2 at h
 split at h
 .rename_i h0;injection h with h1 h2;exact⟨h0.1,h1.symm,h2.symm⟩
 cases h
theorem I1{k:Int}{l:Lab}{p q:Pst}{g:r5}(h:N0 k l p = .ok g q):q.n<p.n:=by
 obtain⟨h1,_,rfl⟩:=sV h;simp only[Pst.tl];omega
structure bF(x:RA):Prop where
 nx:U64 x.r.nx.bits
 key:∀i,i<x.r.n->U64 (x.r.f i).key
 few:x.r.n<=16
structure eD(g:r5):Prop where
 ra:bF g.x
 ver:U64 g.ver
structure xb(g:r5):Prop where
 code:g.code=0 \/ g.code=8
 rf:g.has=true->N7 g.x.r.kd g.x.r.n g.x.r.f g.x.r.nx g.x.r.mrk=true
 no:g.has=false->g.x.r.kd=0/\g.x.r.n=0/\g.x.r.nx=⟨0,0⟩/\g.x.r.mrk=0
def j8(p:Pst):Prop:=∀j,j<p.n->eD (p.g j)/\xb (p.g j)
theorem j8.suf{p q:Pst}(h:j8 p)(hs:Suf p q):j8 q:=by
 obtain⟨d,h1,h2⟩:=hs;intro j hj;rw[h2];exact h _ (by omega)
theorem j8.get{k:Int}{l:Lab}{p q:Pst}{g:r5}(h:j8 p)(e:N0 k l p = .ok g q):eD g:=by
 obtain⟨h1,rfl,_⟩:=sV e;exact(h 0 h1).1
theorem j8.getR{k:Int}{l:Lab}{p q:Pst}{g:r5}(h:j8 p)(e:N0 k l p = .ok g q):xb g:=by
 obtain⟨h1,rfl,_⟩:=sV e;exact(h 0 h1).2
theorem bF.as{x:RA}(h:bF x)(kd mk:Int):bF (asR kd x mk):=⟨h.nx,h.key,h.few⟩
theorem kN{k:Int}{l:Lab}{v:Int}{c:Lab}:∀{n:Nat} {p q:Pst} {x:RA},j8 p->ap k l v c n p = .ok (.fr x) q->bF x
 |0,p,q,x,_,h=>by cases h
 |n+1,p,q,x,hp,h=>by
  unfold ap at h
  cases h1:N0 k c p with
  |stop w p1=>rw[h1]at h;cases h
  |ok g p1=>
   rw[h1]at h;have hg:=(hp.get h1).ra;have hp1:=hp.suf ((l3 k c p).of h1);simp only[Rs.bind]at h
   split at h
   .split at h
    .injection h with h _;injection h with h;rw[<-h];exact hg
    cases h2:N0 k l p1 with
    |stop w p2=>rw[h2]at h;cases h
    |ok q2 p2=>
     rw[h2]at h;have hp2:=hp1.suf ((l3 k l p1).of h2);simp only[Rs.bind]at h
     split at h
     .cases h3:aN k c g.ver (asR 5 g.x v).r.abs p2 with
      |stop w p3=>rw[h3]at h;cases h
      |ok d p3=>
       rw[h3]at h;simp only[Rs.bind]at h
       split at h
       .injection h with h _;injection h with h;rw[<-h];exact hg.as _ _
       exact kN (hp2.suf ((A4 _ _ _ _ _).of h3)) h
     cases h
   cases h
end Go.Proofs.YtmbkanpapkhnaaaGreat.Sym
namespace Go.Proofs.YtmbkanpapkhnaaaGreat.Sym
open Go.RowKit
section
variable {C:Cx} {P:Program} {Q:Exit->Act->World->Prop} {T:List (Nat×TI)} {cs:List (Nat×CS)} {ops:Array Oper} {all:List Oper} {H:lK}
theorem zS{listed:Array Bool}(hDC:∀k o,all[k]? = some o->listed.getD k false=true->∀e∈o.after.toList,Region.binds .any e=true->listed.getD e.on false=true){i j:Nat}(hr:B9 all i j):(∀o e,all[i]? = some o->e∈o.after.toList->Region.binds .any e=true->listed.getD e.on false=true)->listed.getD j false=true:=by
 induction hr with
 |one h1 h2 h3 h4=>intro hi;rw[<-h4];exact hi _ _ h1 h2 h3
 |more h1 h2 h3 h4 ih=>intro hi;exact ih fun o e g1 g2 g3=>hDC _ o g1 (hi _ _ h1 h2 h3) e g2 g3
theorem qM{tz:List Nat}(hops:ops=all.toArray)(htz:∀i j,iS tz i j=true->B9 all i j){n0:Nat}(hz:∀k,n0<=k->k<ops.size->∀j,j<k->iS tz k j=true)(hze:∀(k:Nat) (o:Oper),ops[k]? = some o->∀e∈o.after.toList,Region.binds .any e=true->e.on<k) :
  ∀(n k:Nat) (listed:Array Bool) (a:Act) (w:World),n0<=k->ops.size-k=n->k<=ops.size->listed.size=ops.size->(∀j,j<k->listed.getD j false=true)->(∀j,k<=j->j<ops.size->listed.getD j true=false) →
  (∀k o,all[k]? = some o->listed.getD k false=true->∀e∈o.after.toList,Region.binds .any e=true->listed.getD e.on false=true)->wpList P ops Q (all.drop k) a w->wpAny P .any ops Q n listed a w
 |0,k,listed,a,w,h0,hn,hk,hsz,hlo,hhi,hDC,hq=>by
  have hlen:all.length=ops.size:=by rw[hops];simp
  have:all.drop k=[]:=List.drop_eq_nil_of_le (by omega);rw[this]at hq;refine⟨?_,hq⟩
  cases hr:Region.ready .any ops listed with
  |nil=>rfl
  |cons i r=>
   obtain⟨h1,o,h2,_⟩:=mem_ready.1 (hr ▸ List.mem_cons_self:i∈Region.ready .any ops listed);have hi:=(Array.getElem?_eq_some_iff.1 h2).1;have:=hlo i (by omega);rw[R5 h1]at this;cases this
 |n+1,k,listed,a,w,h0,hn,hk,hsz,hlo,hhi,hDC,hq=>by
  have hlen:all.length=ops.size:=by rw[hops];simp
  have hkl:k<ops.size:=by omega
  obtain⟨o,ho⟩:∃o,ops[k]? = some o:=⟨_,Array.getElem?_eq_getElem hkl⟩
  have hoa:all[k]? = some o:=by rw[hops]at ho;simpa using ho
  have hd:all.drop k=o::all.drop (k+1):=by
   have hka:k<all.length:=by omega
   rw[List.drop_eq_getElem_cons hka]
   congr 1
   exact(List.getElem?_eq_some_iff.1 hoa).2
  refine⟨fun hr=>?_,fun i hi=>?_⟩
  .exfalso
   have:k∈Region.ready .any ops listed:=mem_ready.2 ⟨hhi k (Nat.le_refl _) hkl,o,ho,fun e he hb=>hlo _ (hze k o ho e (by simpa using he) hb)⟩;rw[hr]at this;cases this
  obtain⟨h1,o',h2,h3⟩:=mem_ready.1 hi;have hil:=(Array.getElem?_eq_some_iff.1 h2).1;have hik:i=k:=by
   refine Decidable.byContradiction fun hne=>?_
   by_cases hlt:i<k
   .have:=hlo i hlt
    rw[R5 h1]at this;cases this
   have hw:=htz _ _ (hz i (by omega) hil k (by omega));have h4:=zS hDC hw (fun o'' e g1 g2 g3=>by
    have:o''=o':=by
     have e1:ops[i]? = some o'':=by rw[hops];simpa using g1
     rw[h2]at e1;injection e1 with e1;exact e1.symm
    subst this;exact h3 e (by simpa using g2) g3)
   have:=hhi k (Nat.le_refl _) hkl;rw[R5 this]at h4;cases h4
  subst hik;have:o'=o:=by rw[ho]at h2;injection h2 with h2;exact h2.symm
  subst this;have fin:∀a w,wpList P ops Q (all.drop (i+1)) a w->wpAny P .any ops Q n (listed.setIfInBounds i true) a w:=by
   intro a w hq';refine qM hops htz hz hze n (i+1) _ a w (by omega) (by omega) (by omega) (by simpa using hsz) (fun j hj=>?_) (fun j hj hj'=>?_) (fun k2 ok hk2 hu e he hb=>?_) hq'
   .by_cases hji:j=i
    .subst hji;simp[Array.getD_eq_getD_getElem?,hsz,hil]
    rw[getD_set_ne false (fun e'=>hji e'.symm)];exact hlo j (by omega)
   .rw [getD_set_ne true (by omega)];exact hhi j (by omega) hj'
   have hon:listed.getD e.on false=true:=by
    by_cases hki:k2=i
    .subst hki
     have:ok=o':=by
      have e1:ops[k2]? = some ok:=by rw[hops];simpa using hk2
      rw[h2]at e1;injection e1 with e1;exact e1.symm
     subst this;exact h3 e (by simpa using he) hb
    rw[getD_set_ne false (fun e'=>hki e'.symm)]at hu;exact hDC k2 ok hk2 hu e he hb
   by_cases hei:e.on=i
   .rw [hei];simp[Array.getD_eq_getD_getElem?,hsz,hil]
   rw[getD_set_ne false (fun e'=>hei e'.symm)];exact hon
  rw[hd]at hq;unfold wpOp;simp only[h2];unfold wpList at hq
  by_cases hw:Region.wanted o' (yielded ops a.tmps)=true
  .rw [if_pos hw]at hq ⊢
   exact hq.imp (Oper.wp_mono fin) id
  rw[if_neg hw]at hq ⊢;exact fin _ _ hq
theorem uX{tb tz:List Nat}(hT:l9 P T)(hops:ops=all.toArray)(htb:∀i j,iS tb i j=true->B9 all i j)(htz:∀i j,iS tz i j=true->B9 all i j)(hH:aP C P all H){n0:Nat}(hz:∀k,n0<=k->k<ops.size->∀j,j<k->iS tz k j=true)(hze:∀(k:Nat) (o:Oper),ops[k]? = some o->∀e∈o.after.toList,Region.binds .any e=true->e.on<k)(hz4:n0<=ops.size):∀(n:Nat) (L:List (Nat×Oper)) (fs:List C8) (listed:Array Bool) (s:St) (a:Act) (w:World),L.length=n->f7 C s a w->NM s (ds fs)->Ord fs->tg tb L fs->(∀k o,all[k]? = some o->listed.getD k false=true->∀e∈o.after.toList,Region.binds .any e=true->listed.getD e.on false=true) →
  L.Pairwise (fun x y=>x.1<y.1)->(∀x∈L,ops[x.1]? = some x.2/\listed.getD x.1 true=false)->(∀k o,k<n0->ops[k]? = some o->listed.getD k true=false->(k,o)∈L)->(∀k,n0<=k->k<ops.size->listed.getD k true=false)->(∀x∈L,x.1<n0)->listed.size=ops.size →
  (∀x∈L,∀e∈x.2.after.toList,Region.binds .any e=true->e.on<x.1) →
  (∀X,∃τ obs,I3 std T cs H X all L s=some (τ,obs,fs)/\f8 P C.K obs/\∀a' w',f7 C τ a' w'->wpList P ops Q (all.drop n0) a' w')->wpAny P .any ops Q (n+(ops.size-n0)) listed a w
 |0,L,fs,listed,s,a,w,hn,h,hNM,Z,hP,hDC,hsr,hL,hA,hZ,hLn,hsz,hE,hs=>by
  have:L=[]:=List.eq_nil_of_length_eq_zero hn;subst this;obtain⟨τ,obs,e1,_,e2⟩:=hs (fun _=>⟨0,fun _=>none,fun _=>0,fun _=>.empty⟩);simp only[I3,Option.some.injEq,Prod.mk.injEq]at e1;obtain⟨rfl,_⟩:=e1;rw[Nat.zero_add];refine qM hops htz hz hze (ops.size-n0) n0 listed a w (Nat.le_refl _) rfl hz4 hsz (fun k hk=>?_) hZ hDC (e2 a w h)
  by_cases hl:listed.getD k false=true
  .exact hl
  have:=hA k _ hk (Array.getElem?_eq_getElem (by omega)) (fW (by rw[hsz];omega) hl)
  cases this
 |n+1,L,fs,listed,s,a,w,hn,h,hNM,Z,hP,hDC,hsr,hL,hA,hZ,hLn,hsz,hE,hs=>by
  rw[show n+1+(ops.size-n0)=(n+(ops.size-n0))+1 by omega];refine⟨fun hr=>?_,fun i hi=>?_⟩
  .-- the first one that is left may come up
   exfalso
   cases L with
   |nil=>cases hn
   |cons x L=>
    obtain⟨i0,o0⟩:=x;obtain⟨h1,h2⟩:=hL (i0,o0) (by simp);have:i0∈Region.ready .any ops listed:=mem_ready.2 ⟨h2,o0,h1,fun e he hb=>by
     have hlt:=hE (i0,o0) (by simp) e (by simpa using he) hb;simp only at hlt;have hi0:i0<ops.size:=(Array.getElem?_eq_some_iff.1 h1).1;have hon:e.on<listed.size:=by rw[hsz];omega
     by_cases hl:listed.getD e.on false=true
     .exact hl
     exfalso
     have hm:=hA e.on _ (by have:=hLn (i0,o0) (by simp);simp only at this;omega) (Array.getElem?_eq_getElem (by omega)) (fW hon hl)
     rcases List.mem_cons.1 hm with he'|hm
     .injection he' with he';omega
     have:=(List.pairwise_cons.1 hsr).1 _ hm;simp only at this;omega⟩
    rw[hr]at this
    cases this
  obtain⟨h1,o,h2,h3⟩:=mem_ready.1 hi;have hi0:i<n0:=by
   refine Decidable.byContradiction fun hni=>?_
   cases L with
   |nil=>cases hn
   |cons x L=>
    have hx0:=hLn x (by simp);have hw:=htz _ _ (hz i (by omega) (Array.getElem?_eq_some_iff.1 h2).1 x.1 (by omega));have h4:=zS hDC hw (fun o' e g1 g2 g3=>by
     have:o'=o:=by
      have e1:ops[i]? = some o':=by rw[hops];simpa using g1
      rw[h2]at e1;injection e1 with e1;exact e1.symm
     subst this;exact h3 e (by simpa using g2) g3)
    have q5:=(hL x (by simp)).2;rw[R5 q5]at h4
    cases h4
  have hio:all[i]? = some o:=by rw[hops]at h2;simpa using h2
  have hin:=hA i o hi0 h2 h1;obtain⟨L1,L2,rfl⟩:=List.append_of_mem hin;obtain⟨fs1,f,fs2,hlen,rfl⟩:∃fs1 f fs2,fs1.length=L1.length/\fs=fs1++f::fs2:=by
   have hl:=hP.1;simp only[List.length_append,List.length_cons]at hl;have hlt:L1.length<fs.length:=by omega
   refine⟨fs.take L1.length,fs[L1.length],fs.drop (L1.length+1),by simp;omega,?_⟩;rw[<-List.drop_eq_getElem_cons hlt,List.take_append_drop]
  obtain⟨hP1,hcm⟩:=bS hlen hP.2;have hcomm:∀g∈fs1,gA g f=true:=by
   intro g hg;obtain⟨k,hk⟩:=List.getElem?_of_mem hg;have hkl:k<L1.length:=by rw[<-hlen];exact(List.getElem?_eq_some_iff.1 hk).1
   rcases hcm k _ g (List.getElem?_eq_getElem hkl) hk with he|he
   .exfalso
    have h5:=(hL L1[k] (List.mem_append_left _ (List.getElem_mem hkl))).2;have hr:=htb _ _ he;have dc:∀{i j:Nat},B9 all i j->(∀o e,all[i]? = some o->e∈o.after.toList->Region.binds .any e=true->listed.getD e.on false=true)->listed.getD j false=true:=by
     intro i j hr
     induction hr with
     |one h1 h2 h3 h4=>intro hi;rw[<-h4];exact hi _ _ h1 h2 h3
     |more h1 h2 h3 h4 ih=>intro hi;exact ih fun o e g1 g2 g3=>hDC _ o g1 (hi _ _ h1 h2 h3) e g2 g3
    have h4:=dc hr fun o' e g1 g2 g3=>by
     have:o'=o:=by
      have e1:ops[i]? = some o':=by rw[hops];simpa using g1
      rw[h2]at e1;injection e1 with e1;exact e1.symm
     subst this;exact h3 e (by simpa using g2) g3
    rw[R5 h5]at h4
    cases h4
   exact he
  have mf:∀X,∃δ ob,K4 std T cs H (X i) all i o s=some (δ,ob,f)/\f8 P C.K ob/\∃τ' obs',I3 std T cs H X all (L1++L2) (s.app δ)=some (τ',obs',fs1++fs2)/\f8 P C.K obs'/\∀a' w',f7 C τ' a' w'->wpList P ops Q (all.drop n0) a' w':=by
   intro X;obtain⟨τ,obs,e1,e2,e3⟩:=hs X;obtain⟨δ,ob,g1,τ',obs',g2,g3,g4⟩:=eU (P:=P) e1 hlen hNM Z hcomm;exact⟨δ,ob,g1,(g4 e2).1,τ',obs',g2,(g4 e2).2,fun a' w' hf=>e3 a' w' (hf.alike g3)⟩
  have hsrt:(L1++L2).Pairwise (fun x y=>x.1<y.1):=hsr.sublist (List.Sublist.append_left (List.sublist_cons_self _ _) _);have hnot:∀x∈L1++L2,x.1≠i:=by
   intro x hx;rw[List.pairwise_append]at hsr;obtain⟨p1,p2,p3⟩:=hsr
   rcases List.mem_append.1 hx with hx|hx
   .have:=p3 x hx (i,o) (by simp);simp only at this;omega
   have:=(List.pairwise_cons.1 p2).1 x hx;simp only at this;omega
  have key:=na (C:=C) (K:=fun a' w'=>wpAny P .any ops Q (n+(ops.size-n0)) (listed.setIfInBounds i true) a' w') (Q:=Q) (cs:=cs) (i:=i) (o:=o) hT hH hio hops h (fun x=>by
   obtain⟨δ,ob,g1,g2,_⟩:=mf (fun _=>x);exact⟨_,g1,g2⟩) (fun x r a' w' hr hf=>by
   have hfo:=V4 hr;obtain⟨δ,ob,f'⟩:=r;obtain⟨δ0,ob0,g0,_⟩:=mf (fun _=>x);rw[hr]at g0;injection g0 with g0;injection g0 with q1 q2;injection q2 with q2 q3
   subst q1;subst q2;subst q3;have hinF:∀g∈fs1++fs2,g∈fs1++f'::fs2:=fun g hg=>by
    rcases List.mem_append.1 hg with hg|hg
    .exact List.mem_append_left _ hg
    exact List.mem_append_right _ (List.mem_cons_of_mem _ hg)
   obtain⟨n1,n2⟩:=dp hfo (gs:=fs1++fs2) hNM (by simp) hinF (fun g hg=>by
    rcases List.mem_append.1 hg with hg|hg
    .have:=hcomm g hg
     simp only[gA,Bool.and_eq_true]at this;exact this.1.1.1.1.1.1.1.1.1
    exact(List.pairwise_cons.1 (List.pairwise_append.1 Z).2.1).1 g hg)
   refine uX hT hops htb htz hH hz hze hz4 n (L1++L2) (fs1++fs2) (listed.setIfInBounds i true) (s.app δ) a' w' ?_ hf n2 ?_ ?_ ?_ hsrt ?_ ?_ (fun k hk hk'=>by rw[getD_set_ne true (by omega)];exact hZ k hk hk') ?_ (by simpa using hsz) ?_ ?_
   .simp at hn ⊢;omega
   .exact Z.sublist (List.Sublist.append_left (List.sublist_cons_self _ _) _)
   .refine ⟨?_,hP1⟩
    have:=hP.1;simp at this ⊢;omega
   .intro k ok hk hu e he hb
    by_cases hki:k=i
    .subst hki
     have:ok=o:=by
      have e1:ops[k]? = some ok:=by rw[hops];simpa using hk
      rw[h2]at e1;injection e1 with e1;exact e1.symm
     subst this;have hl:=h3 e (by simpa using he) hb
     by_cases hei:e.on=k
     .have:=hE (k,ok) hin e he hb
      simp only at this;omega
     rw[getD_set_ne false (fun e'=>hei e'.symm)];exact hl
    rw[getD_set_ne false (fun e'=>hki e'.symm)]at hu;have hl:=hDC k ok hk hu e he hb
    by_cases hei:e.on=i
    .rw [hei]at hl
     have h5:=(hL (i,o) hin).2;simp only at h5;rw[R5 h5]at hl;cases hl
    rw[getD_set_ne false (fun e'=>hei e'.symm)];exact hl
   .intro x' hx
    have hx':x'∈L1++(i,o)::L2:=by
     rcases List.mem_append.1 hx with hx|hx
     .exact List.mem_append_left _ hx
     exact List.mem_append_right _ (List.mem_cons_of_mem _ hx)
    obtain⟨e1,e2⟩:=hL x' hx';refine⟨e1,?_⟩;rw[getD_set_ne true (fun e=>hnot x' hx e.symm)];exact e2
   .intro k ok hkn hk hu
    by_cases hki:k=i
    .subst hki
     have hlt:k<listed.size:=by rw[hsz];exact(Array.getElem?_eq_some_iff.1 h2).1
     simp[Array.getD_eq_getD_getElem?,hlt]at hu
    rw[getD_set_ne true (fun e=>hki e.symm)]at hu;have:=hA k ok hkn hk hu
    rcases List.mem_append.1 this with hx|hx
    .exact List.mem_append_left _ hx
    rcases List.mem_cons.1 hx with hx|hx
    .injection hx with hx;exact absurd hx hki
    exact List.mem_append_right _ hx
   .intro x' hx
    refine hLn x' ?_
    rcases List.mem_append.1 hx with hx|hx
    .exact List.mem_append_left _ hx
    exact List.mem_append_right _ (List.mem_cons_of_mem _ hx)
   .intro x' hx
    refine hE x' ?_
    rcases List.mem_append.1 hx with hx|hx
    .exact List.mem_append_left _ hx
    exact List.mem_append_right _ (List.mem_cons_of_mem _ hx)
   intro X;obtain⟨Y,hY,hYX⟩:∃Y:Nat->j1,Y i=x/\∀j,j≠i->Y j=X j:=⟨fun j=>if j=i then x else X j,by simp,fun j hj=>by simp[hj]⟩
   obtain⟨δ1,ob1,g1,_,τ',obs',g2,g3,g4⟩:=mf Y;rw[hY,hr]at g1;injection g1 with g1;injection g1 with q1 _
   subst q1;rw[dG _ _ (fun x' hx=>hYX x'.1 (hnot x' hx))]at g2;exact⟨τ',obs',g2,g3,g4⟩)
  unfold wpOp;simp only[h2]
  by_cases hw:Region.wanted o (yielded ops a.tmps)=true
  .rw [if_pos hw]at key ⊢
   exact .inl key
  rw[if_neg hw]at key ⊢;exact key
def eG(all:List Oper)(n0:Nat):Bool:=Nat.ble n0 all.length&&(cp (l6 0 all)&&(List.range all.length).all fun k=>Nat.blt k n0||(List.range k).all fun j=>iS (eA all []) k j)
theorem lg{s:St}{a:Act}{w:World}{all:List Oper}(n0:Nat)(H:lK)(hH:aP C P all H)(hT:l9 P T)(kp km:List Nat)(cs:List (Nat×CS))(h:f7 C s a w)(hgs:s.gs=[])(fs:List C8)(hD:aJ (all.take n0) fs=true)(hZ:eG all n0=true)(hlen:(all.take n0).length=fs.length)
  {R:Alg->(Nat->j1)->St×List Ob}
  (hex:∀A X,(I3 A T cs H X all (l6 0 (all.take n0)) s).map (fun r=>((r.1.keep kp km,r.2.1),r.2.2))=some (R A X,fs)) (hob:∀X,f8 P C.K (R std X).2) (hQ:∀X a' w',f7 C (R std X).1 a' w'->wpList P all.toArray Q (all.drop n0) a' w'):wpAny P .any all.toArray Q all.toArray.size (Array.replicate all.toArray.size false) a { w with drawn:=w.drawn+1 }:=by
 simp only[aJ,Bool.and_eq_true]at hD;obtain⟨⟨d1,d2⟩,d3⟩:=hD;simp only[eG,Bool.and_eq_true,Nat.ble_eq]at hZ;obtain⟨hn0,hZe,hZ⟩:=hZ;have hf:f7 C s a { w with drawn:=w.drawn+1 }:=h.world (fun _ _ _=>rfl) (fun _ _ _ _ _=>rfl) ⟨h.chg.os,h.chg.tape,h.chg.output,h.chg.size,h.chg.block⟩ (fun _ _ _ hc _=>hc) (fun _ _ h _=>h);have hnl:∀(l:List Oper) (i:Nat),(l6 i l).length=l.length:=by
  intro l
  induction l with
  |nil=>intro i;rfl
  |cons o l ih=>intro i;simp[l6,ih]
 have htk:(all.take n0).length=n0:=by simp;omega
 have hsz:all.toArray.size=(l6 0 (all.take n0)).length+(all.toArray.size-n0):=by rw[hnl,htk];simp;omega
 have hgt:∀{k o},(all.take n0)[k]? = some o->all[k]? = some o/\k<n0:=by
  intro k o hk;have hlt:=(List.getElem?_eq_some_iff.1 hk).1;rw[htk]at hlt;rw[List.getElem?_take,if_pos hlt]at hk;exact⟨hk,hlt⟩
 have hlst:∀k (b:Bool),k<all.length->(Array.replicate all.toArray.size false).getD k b=false:=by
  intro k b hk;have:k<all.toArray.size:=by simpa using hk
  simp[Array.getD_eq_getD_getElem?,hk]
 have hmk:∀i j,iS (eA (all.take n0) []) i j=true->B9 all i j:=by
  intro i j hij;have:=dt (all:=all.take n0) (l:=all.take n0) (tb:=[]) rfl (fun i j h=>by simp at h) i j hij;have conv:∀{i j},B9 (all.take n0) i j->B9 all i j:=by
   intro i j hw
   induction hw with
   |one h1 h2 h3 h4=>exact .one (hgt h1).1 h2 h3 h4
   |more h1 h2 h3 h4 ih=>exact .more (hgt h1).1 h2 h3 ih
  exact conv this
 have ed:∀(L:List (Nat×Oper)),cp L=true->∀x∈L,∀e∈x.2.after.toList,Region.binds .any e=true->e.on<x.1:=by
  intro L
  induction L with
  |nil=>intro _ x hx;cases hx
  |cons y L ih=>
   obtain⟨i,o⟩:=y;intro hL x hx e he hb;simp only[cp,Bool.and_eq_true]at hL
   rcases List.mem_cons.1 hx with rfl|hx
   .have:=List.all_eq_true.1 hL.1 e he
    simpa[hb]using this
   exact ih hL.2 x hx e he hb
 have e0:all.toArray.size=(Array.replicate all.toArray.size false).size:=by simp
 rw[show wpAny P .any all.toArray Q all.toArray.size=wpAny P .any all.toArray Q ((l6 0 (all.take n0)).length+(all.toArray.size-n0))by rw[<-hsz]];refine uX (cs:=cs) (all:=all) (tb:=eA (all.take n0) []) (tz:=eA all []) hT rfl hmk (dt (all:=all) (l:=all) (tb:=[]) rfl (fun i j h=>by simp at h)) hH (n0:=n0) (fun k hk hk' j hj=>?_) (fun k o hk e he hb=>?_) (by simpa using hn0) _ (l6 0 (all.take n0)) fs _ s a _ rfl hf (fun t p v hl=>by rw[hgs]at hl;cases hl) ?_ ⟨by rw[hnl];exact hlen,d1⟩ ?_ (U5 _ 0) ?_ ?_ ?_ ?_ ?_ ?_ ?_
 .have:=List.all_eq_true.1 hZ k (List.mem_range.2 (by simpa using hk'))
  simp only[Bool.or_eq_true,Nat.blt_eq]at this
  rcases this with h|h
  .omega
  exact List.all_eq_true.1 h j (List.mem_range.2 hj)
 .have:=Z7 (i:=0) (l:=all) (k:=k) (o:=o) (by simpa using hk)
  rw[Nat.zero_add]at this;exact ed _ hZe (k,o) this e he hb
 .exact jc d3
 .intro k o hk hu
  exfalso
  rw[hlst k false (List.getElem?_eq_some_iff.1 hk).1]at hu
  cases hu
 .intro x hx
  obtain⟨h1,h2⟩:=T6 hx;rw[Nat.sub_zero]at h2;obtain⟨h3,_⟩:=hgt h2;exact⟨by simpa using h3,hlst _ _ (List.getElem?_eq_some_iff.1 h3).1⟩
 .intro k o hkn hk _
  have hk':(all.take n0)[k]? = some o:=by rw[List.getElem?_take,if_pos hkn];simpa using hk
  have:=Z7 (i:=0) (l:=all.take n0) (k:=k) (o:=o) hk'
  rwa[Nat.zero_add]at this
 .intro k _ hk
  exact hlst _ _ (by simpa using hk)
 .intro x hx
  obtain⟨h1,h2⟩:=T6 hx;rw[Nat.sub_zero]at h2;exact(hgt h2).2
 .simp
 .exact ed _ d2
 intro X;obtain⟨r,hr,e⟩:=Option.map_eq_some_iff.1 (hex std X);obtain⟨τ,obs,fs'⟩:=r;simp only[Prod.mk.injEq]at e;obtain⟨e1,rfl⟩:=e;refine⟨τ,obs,hr,?_,fun a' w' hf'=>hQ X a' w' ?_⟩
 .have:=hob X;rw[<-e1]at this;exact this
 rw[<-e1];exact hf'.keep kp km
theorem wJ{s:St}{a:Act}{w:World}{id:Nat}{all:List Oper}(n0:Nat)(H:lK)(hH:aP C P all H)(hm:P.follows .mixedOrders=true)(hT:l9 P T)(kp km:List Nat)(cs:List (Nat×CS))(h:f7 C s a w)(hgs:s.gs=[])(fs:List C8)(hD:aJ (all.take n0) fs=true)(hZ:eG all n0=true)(hlen:(all.take n0).length=fs.length)
  {R:Alg->(Nat->j1)->St×List Ob}
  (hex:∀A X,(I3 A T cs H X all (l6 0 (all.take n0)) s).map (fun r=>((r.1.keep kp km,r.2.1),r.2.2))=some (R A X,fs)) (hob:∀X,f8 P C.K (R std X).2) (hQ:∀X a' w',f7 C (R std X).1 a' w'->wpList P all.toArray Q (all.drop n0) a' w'):(Code.region id all.toArray true).wp P Q a w:=
 wp_region_any hm (lg n0 H hH hT kp km cs h hgs fs hD hZ hlen hex hob hQ)
theorem ld{s:St}{a:Act}{w:World}{id:Nat}{all:List Oper}{B:Alg}(O:B=std)(n0:Nat)(H:lK)(hH:aP C P all H)(hm:P.follows .mixedOrders=true)(hT:l9 P T)(kp km:List Nat)(cs:List (Nat×CS))(h:f7 C s a w)(hgs:s.gs=[])(fs:List C8)(hD:aJ (all.take n0) fs=true)(hZ:eG all n0=true)(hlen:(all.take n0).length=fs.length)
  {R:Alg->(Nat->j1)->St×List Ob}
  (hex:∀A X,(I3 A T cs H X all (l6 0 (all.take n0)) s).map (fun r=>((r.1.keep kp km,r.2.1),r.2.2))=some (R A X,fs)) (hob:∀X,f8 P C.K (R B X).2) (hQ:∀X a' w',f7 C (R B X).1 a' w'->wpList P all.toArray Q (all.drop n0) a' w'):(Code.region id all.toArray true).wp P Q a w:=by
 subst O;exact wJ n0 H hH hm hT kp km cs h hgs fs hD hZ hlen hex hob hQ
end
section
variable {C:Cx} {P:Program} {Q:Exit->Act->World->Prop} {T:List (Nat×TI)} {s:St} {a:Act} {w:World} {B:Alg}
theorem d3{id:Nat}{all:List Oper}{R:Alg->(Nat->j1)->St×List Ob}{fs:List C8}(n0:Nat)(O:B=std)(hT:l9 P T)(kp km:List Nat)(cs:List (Nat×CS))(h:f7 C s a w)(hQ:∀X a' w',f7 C (R B X).1 a' w'->wpList P all.toArray Q (all.drop n0) a' w')(hm:P.follows .mixedOrders=true:=by kernel_rfl)(hgs:s.gs=[]:=by rfl)
  (hex:∀A X,(I3 A T cs none X all (l6 0 (all.take n0)) s).map (fun r=>((r.1.keep kp km,r.2.1),r.2.2))=some (R A X,fs):=by intro A X;conv=>lhs;cbv) (hD:aJ (all.take n0) fs=true:=by kernel_rfl) (hZ:eG all n0=true:=by kernel_rfl) (hlen:(all.take n0).length=fs.length:=by rfl) (hob:∀X,f8 P C.K (R B X).2:=by
   intro X;subst O
   first
   |exact trivial
   |(simp only[f8,Ob.holds,BE.den]<;>and_intros<;>(repeat first|trivial|rfl|exact O1|exact O2|exact O3|exact(fun _ _=>by kernel_rfl)|exact O1 _ _ _ rfl|exact O2 _ _ _ rfl|refine⟨?_,?_⟩|intro h|decide|omega)<;>done)
   |(simp[f8,Ob.holds,BE.den,std,b7,i5]<;>omega)):(Code.region id all.toArray true).wp P Q a w:=ld O n0 none I7 hm hT kp km cs h hgs fs hD hZ hlen hex hob hQ
end
theorem Y3{P:Program}{Q:Exit->Act->World->Prop}{c:Code}{n:Nat}{a:Act}{w:World}(h:c.wp P (Exit.then (Code.rounds P c Q n) Q) a w):Code.rounds P c Q (n+1) a w:=h
theorem u6{P:Program}{Q:Exit->Act->World->Prop}{c:Code}{n:Nat}{a:Act}{w:World}(h:c.wp P (Exit.then (Code.rounds P c Q n) Q) a w):Exit.then (Code.rounds P c Q (n+1)) Q .normal a w:=h
inductive gI where
 |ret (r:CR)
 |thr (t:Nat) (v:AV) (sets:List (Nat×List AV))
def GO(m:Nat->Nat->Prop)(w:World)(pre:List (Nat×Blk))(e:Ending)(w':World):gI->Prop
 | .ret r=>e = .returned r.v.den/\Ok (mN m r.news) w' r.v/\gJ m w w' pre r.sets r.news
 | .thr t v sets=>e = .panicked [{ v:=.iface t v.den,recovered:=false }]/\Ok m w' v/\gJ m w w' pre sets []
def cJ(m:Nat->Nat->Prop)(w:World)(pre:List (Nat×Blk))(out:j1->gI)(e:Ending)(w':World):Prop:=∃x,GO m w pre e w' (out x)
def P2(P:Program)(f:FuncId)(args:List AV)(pre:List (Nat×Blk))(out:j1->gI):Prop:=
 ∀(m:Nat->Nat->Prop) (w:World),(∀b o,m b o->b<w.heap.size)->(∀v∈args,Ok m w v)->M4 m w pre->Calls P f (args.map AV.den).toArray w (cJ m w pre out)
theorem P2.x{P:Program}{f:FuncId}{args:List AV}{pre:List (Nat×Blk)}{out:j1->gI}{res:j1->CR}(h:P2 P f args pre out)(e:∀x,out x = .ret (res x)):L4 P f args pre res:=by
 intro m w h1 h2 h3;refine(h m w h1 h2 h3).mono ?_
 rintro e' w' ⟨x,hx⟩
 rw[e x]at hx;exact⟨x,hx⟩
theorem L4.t{P:Program}{f:FuncId}{args:List AV}{pre:List (Nat×Blk)}{out:j1->gI}{res:j1->CR}(h:L4 P f args pre res)(e:∀x,out x = .ret (res x)):P2 P f args pre out:=by
 intro m w h1 h2 h3;refine(h m w h1 h2 h3).mono ?_
 rintro e' w' ⟨x,hx⟩
 exact⟨x,by rw[e x];exact hx⟩
theorem sa(m:Nat->Nat->Prop):mN m []=m:=by
 funext b o
 apply propext;exact⟨fun h=>h.resolve_right fun⟨e,he,_⟩=>(by cases he),.inl⟩
def Ar(pre':List (Nat×Blk)):gI->gI->Prop
 | .ret r,.ret r'=>r'.sets.map (·.2)=r.sets.map (·.2)/\r'.sets.map (·.1)=pre'.map (·.1)/\Sim r.v r'.v/\r'.news.map (·.2)=r.news.map (·.2)
 | .thr t v sets,.thr t' v' sets'=>t'=t/\Sim v v'/\sets'.map (·.2)=sets.map (·.2)/\sets'.map (·.1)=pre'.map (·.1)
 |_,_=>False
theorem P2.re{P:Program}{f:FuncId}{args args':List AV}{pre pre':List (Nat×Blk)}{out out':j1->gI}(h:P2 P f args pre out)(ha:E7 args' args)(hp:pre'.map (·.2)=pre.map (·.2))(hr:∀x,Ar pre' (out x) (out' x)):P2 P f args' pre' out':=by
 intro m w h1 h2 h3;rw[ha.map];refine(h m w h1 (ha.ok h2) (h3.re hp.symm)).mono ?_
 rintro e w' ⟨x,hx⟩
 refine⟨x,?_⟩;have hrx:=hr x
 cases ho:out x with
 |ret r=>
  cases ho':out' x with
  |ret r'=>
   rw[ho]at hx hrx;rw[ho']at hrx;obtain⟨r1,r2,r3,r4⟩:=hrx;obtain⟨rfl,hok,hl⟩:=hx;have hm:mN m r'.news=mN m r.news:=by funext b o;simp only[mN,cw r4]
   exact⟨by rw[r3.1],by rw[hm];exact r3.2.2 _ _ hok,hl.re hp r1 r2 r4⟩
  |thr t v sets=>rw[ho,ho']at hrx;exact hrx.elim
 |thr t v sets=>
  cases ho':out' x with
  |ret r'=>rw[ho,ho']at hrx;exact hrx.elim
  |thr t' v' sets'=>
   rw[ho]at hx hrx;rw[ho']at hrx;obtain⟨rfl,r3,r1,r2⟩:=hrx;obtain⟨rfl,hok,hl⟩:=hx;exact⟨by rw[r3.1],r3.2.2 _ _ hok,hl.re hp r1 r2 rfl⟩
section
variable {P:Program} {T:List (Nat×TI)} {s:St} {a:Act} {w:World}
theorem HN{Kk:Kn}(hT:l9 P T){m:Nat->Nat->Prop}{w0:World}{pre:List (Nat×Blk)}(h:f7 ⟨m,w0,ats pre,[],Kk⟩ s a w){fn:Func}{out:j1->gI}{rs:List ResultVar}(hfn:fn.results=rs.toArray){r:List AV×List Ob}(hr:T5 T s rs=some r)(ho:f8 P Kk r.2)
  (x:j1) {cr:CR} (hout:out x = .ret cr) (ks:List Nat) (he:Sim (can (J5 r.1)) (can cr.v)) (hs:C4 s pre cr.sets) (hn:I2 s pre ks cr.news):bodyPost P fn (cJ m w0 pre out) .ret a w/\bodyPost P fn (cJ m w0 pre out) .normal a w:=by
 obtain⟨h1,h2⟩:=bX h hs hn;refine eN hT h rfl hfn hr ho fun hv=>⟨x,?_⟩
 rw[hout];exact⟨by rw[<-F6 (J5 r.1),he.1,F6],(J3 _).2 (he.2.2 _ _ ((J3 _).1 (h2 _ hv))),h1⟩
theorem xj{Kk:Kn}{m:Nat->Nat->Prop}{w0:World}{pre:List (Nat×Blk)}(h:f7 ⟨m,w0,ats pre,[],Kk⟩ s a w){fn:Func}{out:j1->gI}{t:Nat}{v v':AV}(hok:Ok (s.m ⟨m,w0,ats pre,[],Kk⟩) w v)(x:j1){sets:List (Nat×List AV)}(hout:out x = .thr t v' sets)(hv:Sim v v')(hs:C4 s pre sets) :
  bodyPost P fn (cJ m w0 pre out) (.panic [{ v:=.iface t v.den,recovered:=false }]) a w:=by
 obtain⟨h1,h2⟩:=bX h hs (ks:=[]) (news:=[]) trivial;refine⟨h.defers,x,?_⟩;rw[hout];have:=h2 _ (hv.2.2 _ _ hok);rw[sa]at this;exact⟨by rw[hv.1],this,h1⟩
end
section
variable {C:Cx} {P:Program} {Q:Exit->Act->World->Prop} {T:List (Nat×TI)} {all:List Oper}
def sD(all:List Oper)(s:St)(o:Oper):Bool:=match o.guard with
 |none=>true
 |some (j,want)=>match(all[j]?).bind (·.dst)with
  |none=>false
  |some g=>match J7 s.gs g with
   |some _=>false
   |none=>match look s.tmps g with
    | .bool .tt=>want
    | .bool .ff=>!want
    |_=>false
theorem Cj{s:St}{a:Act}{w:World}{o:Oper}(h:f7 C s a w)(hg:sD all s o=true):Region.wanted o (yielded all.toArray a.tmps)=true:=by
 unfold sD at hg
 split at hg
 .rename_i hn;simp[Region.wanted,hn]
 rename_i j want hn
 split at hg
 .cases hg
 rename_i g hd
 split at hg
 .cases hg
 have hd':((all.toArray)[j]?).bind (·.dst)=some g:=by simpa using hd
 have hs:=h.slot g;have key:∀b,a.tmps[g]? = some (.bool b)->b=want->Region.wanted o (yielded all.toArray a.tmps)=true:=by
  intro b hb hw;simp only[Region.wanted,hn,yielded,hd',Option.bind_some,hb,hw];simp
 split at hg
 .rename_i e;rw[e]at hs
  exact key _ (hs rfl).1 hg.symm
 .rename_i e;rw[e]at hs
  refine key _ (hs rfl).1 ?_
  cases want<;>first|rfl|cases hg
 cases hg
theorem aW{s:St}{a:Act}{w:World}{L rest:List Oper}{o:Oper}{c:Call}{g:Operand}{f:FuncId}{l r args args':List AV}(hL:L=o::rest)(hg:sD all s o=true)(hop:o.op = .call c)(hcal:c.callee = .value g)(h:f7 C s a w)(hgv:val s [] g = .fn f l r)(hl:R0 s [] c.args.toList=some args)(hen:o3 P f)
  {pre:List (Nat×Blk)} {out:j1->gI} (hsp:P2 P f args' pre out) (hsim:E7 (l++args++r) args') (hpre:∀e∈pre,i8 s.mem e.1=some e.2) (hnd:bU pre=true) (hd:fa s o.dst=true)
  (K:∀x w',match out x with
   | .ret cr=>∀a',f7 C ((s.eff (.sets (upd pre cr.sets++cr.news))).put o.dst cr.v) a' w'->wpList P all.toArray Q rest a' w'
   | .thr t v sets=>f7 C (s.eff (.sets (upd pre sets))) a w'->Ok ((s.eff (.sets (upd pre sets))).m C) w' v->Q (.panic [{ v:=.iface t v.den,recovered:=false }]) a w'):wpList P all.toArray Q L a w:=by
 subst hL;unfold wpList;rw[if_pos (Cj h hg)];refine .inl ?_;obtain⟨hrun,hok⟩:=gE hop hcal h hgv hl hen;have hdist:=T7 h hnd hpre;unfold Oper.wp;rw[hrun];simp only[Oper.upon];have:=hsp (s.m C) w (oi h) (hsim.ok hok) ⟨fun e he=>(h.mem _ _ (hpre e he)).1,fun e he=>(h.mem _ _ (hpre e he)).2.1,fun e he o=>.inr (.inl ⟨e.1,e.2,hpre e he,rfl⟩),hdist⟩;rw[<-hsim.map]at this;refine this.mono ?_
 rintro e w' ⟨x,hx⟩
 have hK:=K x w'
 cases ho:out x with
 |ret cr=>
  rw[ho]at hx hK;obtain⟨rfl,g1,g2⟩:=hx;obtain⟨f1,f2⟩:=h.called hdist hpre g2;refine hK _ (f1.put o.dst (fun t ht=>?_) cr.v (fun _=>f2 _ g1) _ fun _=>rfl);rw[lc];exact fU hd t ht
 |thr t v sets=>
  rw[ho]at hx hK;obtain⟨rfl,g1,g2⟩:=hx;obtain⟨f1,f2⟩:=h.called hdist hpre g2;rw[List.append_nil]at f1 f2;exact hK f1 (f2 _ (by rw[sa];exact g1))
end
end Go.Proofs.YtmbkanpapkhnaaaGreat.Sym
namespace Go.Proofs.YtmbkanpapkhnaaaGreat.Sym
open Go Go.RowKit
structure l4 where
 kind:Int
 lab:Lab
 key:Int
 hi:Int
 val:ByteArray
 most:Int
 pA:Option Addr
 pn:Nat
 pc:Nat
 pf:Nat->Int
 x1:Int
 x2:Int
 y1:Int
 y2:Int
 how:Int
 bucket:Int
 budget:Int
abbrev FJ(J:l4):List AV:=[.int .i64 J.kind,.int .i64 J.lab.len,.int .u64 J.lab.bits,.int .u64 J.key,.int .u64 J.hi,.str J.val,.int .i64 J.most,.sl none J.pA J.pn J.pc 1 (fun i=>[.int .i64 (J.pf i)]),.int .u32 J.x1,.int .u32 J.x2,.int .u32 J.y1,.int .u32 J.y2,.int .i64 J.how,.int .i64 J.bucket,.int .i64 J.budget]
abbrev U0(J:l4):AV:=.agg (FJ J)
abbrev D4(J:l4)(A:Option Addr)(c:Nat)(p:Pst):List AV:=[.int .i64 J.kind,.int .i64 J.lab.len,.int .u64 J.lab.bits,.int .u64 J.key,.int .u64 J.hi,.str J.val,.int .i64 J.most,.sl none J.pA J.pn J.pc 1 (fun i=>[.int .i64 (J.pf i)]),.int .u32 J.x1,.int .u32 J.x2,.int .u32 J.y1,.int .u32 J.y2,.int .i64 J.how,.int .i64 J.bucket,.int .i64 J.budget,
 .sl none A p.n c 8 (fun j=>N9 (p.g j)),.int .i64 p.note.code,.bool (.v p.note.had),.str p.note.val,.sl none none 0 0 2 (fun _=>[]),.int .u64 0,.bool .ff]
def xa.abs(s:xa):Rsl:=⟨s.code,s.had,s.val,d4 s.f s.n,s.key,s.more⟩
def F7.absQ(q:F7):Wq:=⟨q.kind,q.lab,q.ver,q.x.r.abs,q.s.abs⟩
def wqA(x:j1)(w:Wq):F7:=⟨w.kind,w.lab,w.ver,⟨x.A 1,x.c 1,w.r.rn⟩,⟨w.res.code,w.res.had,w.res.val,x.A 2,w.res.items.length,x.c 2,itF w.res.items,w.res.key,w.res.more⟩⟩
theorem tH(A:Option Addr)(n c:Nat)(f:Nat->Itm):Sim (.sl none A n c 2 (fun i=>itC (f i))) (.sl none A (d4 f n).length c 2 (fun i=>itC (itF (d4 f n) i))):=
 Sim.resl (i6 f n).symm fun t ht=>by rw[i6]at ht;rw[s7 f n t ht]
theorem AF(q:F7)(x:j1)(h1:x.A 1=q.x.A)(h2:x.c 1=q.x.c)(h3:x.A 2=q.s.A)(h4:x.c 2=q.s.c):Sim (E8 q) (E8 (wqA x q.absQ)):=by
 unfold wqA;simp only[h1,h2,h3,h4];exact Sim.agg ⟨zr,zr,zr,zr,zr,tH _ _ _ _,zr,zr,zr,zr,zr,zr,tH _ _ _ _,zr,zr,trivial⟩
def gQ{α : Type}(k0:Nat)(J:l4)(enc:α->AV)(r:Rs α)(x:j1):gI:=match r with
 | .ok a p=>.ret ⟨enc a,[(k0,D4 J (x.A 0) (x.c 0) p)],[]⟩
 | .stop w p=>.thr 40 (E8 (wqA x w)) [(k0,D4 J (x.A 0) (x.c 0) p)]
theorem Bz{α : Type}(k0 b:Nat)(J:l4)(enc:α->AV)(r:Rs α)(x:j1)(t:Nat)(cs:List AV):Ar [(k0,⟨b,t,cs⟩)] (gQ 0 J enc r x) (gQ k0 J enc r x):=by
 cases r with
 |ok a p=>exact⟨rfl,rfl,zr,rfl⟩
 |stop w p=>exact⟨rfl,zr,rfl,rfl⟩
structure u7(J:l4):Prop where
 lo:-1000000<=J.budget
 hi:J.budget<=1000000
 lab:U64 J.lab.bits
 key:U64 J.key
 hik:U64 J.hi
abbrev G1:AV:=.tup []
def s8{α : Type}(f:FuncId)(k0 b:Nat)(J:l4)(A:Option Addr)(c:Nat)(p:Pst)(args:List AV)(enc:α->AV)(r:Rs α):Prop:=
 P2 Tryz.prog f (.ptr k0 b 0::args) [(k0,⟨b,139,D4 J A c p⟩)] (fun x=>gQ k0 J enc r x)
theorem s8.ok{α : Type}{f:FuncId}{k0 b:Nat}{J:l4}{A:Option Addr}{c:Nat}{p q:Pst}{args:List AV}{enc:α->AV}{r:Rs α}{a:α}(h:s8 f k0 b J A c p args enc r)(e:r = .ok a q) :
  L4 Tryz.prog f (.ptr k0 b 0::args) [(k0,⟨b,139,D4 J A c p⟩)] (fun x=>⟨enc a,[(k0,D4 J (x.A 0) (x.c 0) q)],[]⟩):=by
 subst e;exact P2.x h fun _=>rfl
theorem s8.stop{α : Type}{f:FuncId}{k0 b:Nat}{J:l4}{A:Option Addr}{c:Nat}{p q:Pst}{args:List AV}{enc:α->AV}{r:Rs α}{w:Wq}(h:s8 f k0 b J A c p args enc r)(e:r = .stop w q) :
  P2 Tryz.prog f (.ptr k0 b 0::args) [(k0,⟨b,139,D4 J A c p⟩)] (fun x=>.thr 40 (E8 (wqA x w)) [(k0,D4 J (x.A 0) (x.c 0) q)]):=by
 subst e;exact h
theorem s8.re{α : Type}{f:FuncId}{k0 b:Nat}{J:l4}{A:Option Addr}{c:Nat}{p:Pst}{args args':List AV}{enc:α->AV}{r:Rs α}(h:s8 f 0 b J A c p args enc r)(ha:E7 args' args):s8 f k0 b J A c p args' enc r:=
 P2.re h ⟨Sim.ptr,ha⟩ rfl fun x=>Bz _ _ _ _ _ _ _ _
section
variable {P:Program} {T:List (Nat×TI)} {s:St} {a:Act} {w:World} {α : Type} {Kk:Kn} {m:Nat->Nat->Prop} {w0:World} {b k0 ty:Nat} {cs:List AV} {fn:Func} {enc:α->AV} {J:l4} {r:Rs α}
theorem Hz(h:f7 ⟨m,w0,ats [(k0,⟨b,ty,cs⟩)],[],Kk⟩ s a w){x:j1}{wq:Wq}{q:Pst}(hok:Ok (s.m ⟨m,w0,ats [(k0,⟨b,ty,cs⟩)],[],Kk⟩) w (E8 (wqA x wq)))(hr:r = .stop wq q)(hs:C4 s [(k0,⟨b,ty,cs⟩)] [(k0,D4 J (x.A 0) (x.c 0) q)]) :
  bodyPost P fn (cJ m w0 [(k0,⟨b,ty,cs⟩)] (fun x=>gQ k0 J enc r x)) (.panic [{ v:=.iface 40 (E8 (wqA x wq)).den,recovered:=false }]) a w:=by
 subst hr;exact xj h hok x rfl (zr) hs
theorem EZ(hT:l9 P T)(h:f7 ⟨m,w0,ats [(k0,⟨b,ty,cs⟩)],[],Kk⟩ s a w){rs:List ResultVar}(hfn:fn.results=rs.toArray){rr:List AV×List Ob}(hrr:T5 T s rs=some rr)(ho:f8 P Kk rr.2)
  {v:α} {q:Pst} (A:Option Addr) (c:Nat) (hr:r = .ok v q) (he:Sim (can (J5 rr.1)) (can (enc v))) (hs:C4 s [(k0,⟨b,ty,cs⟩)] [(k0,D4 J A c q)]) :
  bodyPost P fn (cJ m w0 [(k0,⟨b,ty,cs⟩)] (fun x=>gQ k0 J enc r x)) .ret a w/\bodyPost P fn (cJ m w0 [(k0,⟨b,ty,cs⟩)] (fun x=>gQ k0 J enc r x)) .normal a w:=by
 subst hr;exact HN hT h hfn hrr ho ⟨0,fun _=>A,fun _=>c,fun _=>.empty⟩ rfl [] he hs trivial
end
theorem yg{m:Nat->Nat->Prop}{w:World}{t:Nat}{v:AV}(h:Ok m w (.ifc t v)):Ok m w v:=by cases h with|ifc _ _ h=>exact h
abbrev Ij:AV:=.agg [.int .i64 2,.sl none none 0 0 2 (fun _=>[]),.int .i64 (-1),.int .u64 0,.int .u64 0]
def cB(n:Nat)(f:Nat->Int)(v:Int):Bool:=(List.range n).any fun i=>decide (f i=v)
theorem CZ{n:Nat}{f:Nat->Int}{v:Int}{i:Nat}(hi:i<n)(h:f i=v):cB n f v=true:=List.any_eq_true.2 ⟨i,List.mem_range.2 hi,by simp[h]⟩
theorem CY{n:Nat}{f:Nat->Int}{v:Int}(h:∀j,j<n->f j≠v):cB n f v=false:=by
 rw[Bool.eq_false_iff];intro ha;obtain⟨i,hi,he⟩:=List.any_eq_true.1 ha;exact h i (List.mem_range.1 hi) (of_decide_eq_true he)
theorem Eu(f:Nat->Int)(v:Int):cB 1 f v=decide (f 0=v):=by
 show(decide (f 0=v)||false)=_
 exact Bool.or_false _
theorem IN(f:Nat->Int)(v:Int):cB 2 f v=(decide (f 0=v)||decide (f 1=v)):=by
 show(decide (f 0=v)||(decide (f 1=v)||false))=_
 rw[Bool.or_false]
theorem uJ(a b:Int):decide (a=b)=decide (b=a):=decide_eq_decide.2 ⟨Eq.symm,Eq.symm⟩
section
variable {P:Program} {T:List (Nat×TI)} {s:St} {a:Act} {w:World} {α : Type} {Kk:Kn} {m:Nat->Nat->Prop} {w0:World} {b k0 ty:Nat} {cs:List AV} {fn:Func} {enc:α->AV} {J:l4} {r:Rs α} {rs:List ResultVar} {rr:List AV×List Ob} {B:Alg}
theorem s8.two{f:FuncId}{A:Option Addr}{c:Nat}{p:Pst}{args:List AV}(h:s8 f k0 b J A c p args enc r)(hf:Fro p r)(hp:j8 p)(hn:p.n<=1000000) :
  (∃wq q,r = .stop wq q/\P2 Tryz.prog f (.ptr k0 b 0::args) [(k0,⟨b,139,D4 J A c p⟩)] (fun x=>.thr 40 (E8 (wqA x wq)) [(k0,D4 J (x.A 0) (x.c 0) q)])) ∨
  ∃v q,r = .ok v q/\Suf p q/\j8 q/\q.n<=1000000/\L4 Tryz.prog f (.ptr k0 b 0::args) [(k0,⟨b,139,D4 J A c p⟩)] (fun x=>⟨enc v,[(k0,D4 J (x.A 0) (x.c 0) q)],[]⟩):=by
 cases hr:r with
 |ok v q=>have hs:=hf.of hr;exact .inr ⟨v,q,rfl,hs,hp.suf hs,Nat.le_trans hs.le hn,h.ok hr⟩
 |stop wq q=>exact .inl ⟨wq,q,rfl,h.stop hr⟩
abbrev rc(J:l4)(v:AV)(q:Pst):CS:=.x fun x=>⟨v,[(0,D4 J (x.A 0) (x.c 0) q)],[]⟩
theorem thm(h:f7 ⟨m,w0,ats [(k0,⟨b,ty,cs⟩)],[],Kk⟩ s a w){x:j1}{wq:Wq}{q:Pst}(hok:Ok (s.m ⟨m,w0,ats [(k0,⟨b,ty,cs⟩)],[],Kk⟩) w (E8 (wqA x wq)))(hr:r = .stop wq q)(hs:C4 s [(k0,⟨b,ty,cs⟩)] [(k0,D4 J (x.A 0) (x.c 0) q)]:=by exact⟨rfl,⟨_,rfl,zl⟩,trivial⟩) :
  bodyPost P fn (cJ m w0 [(k0,⟨b,ty,cs⟩)] (fun x=>gQ k0 J enc r x)) (.panic [{ v:=.iface 40 (E8 (wqA x wq)).den,recovered:=false }]) a w:=Hz h hok hr hs
theorem rmm(O:B=std)(hT:l9 P T)(h:f7 ⟨m,w0,ats [(k0,⟨b,ty,cs⟩)],[],Kk⟩ s a w){v:α}{q:Pst}(A:Option Addr)(c:Nat)(hr0:r = .ok v q)(hfn:fn.results=rs.toArray:=by rfl)(hr:T5 T s rs=some rr:=by first|rfl|(conv=>lhs;cbv))(ho:f8 P Kk rr.2:=by first|exact trivial|(subst O;simp[f8,Ob.holds]))
  (he:Sim (can (J5 rr.1)) (can (enc v)):=by subst O;exact zr) (hs:C4 s [(k0,⟨b,ty,cs⟩)] [(k0,D4 J A c q)]:=by subst O;exact⟨rfl,⟨_,rfl,zl⟩,trivial⟩) :
  bodyPost P fn (cJ m w0 [(k0,⟨b,ty,cs⟩)] (fun x=>gQ k0 J enc r x)) .ret a w/\bodyPost P fn (cJ m w0 [(k0,⟨b,ty,cs⟩)] (fun x=>gQ k0 J enc r x)) .normal a w:=EZ hT h hfn hr ho A c hr0 he hs
end
section
variable {C:Cx} {P:Program} {Q:Exit->Act->World->Prop} {T:List (Nat×TI)} {s:St} {a:Act} {w:World} {B:Alg} {f:FuncId} {k:Nat} {blk:Blk} {ty:Nat} {v:j1->AV} {sets:j1->List (Nat×List AV)} {args':List AV} {id:Nat} {all rest:List Oper} {R:Alg->(Nat->j1)->St×List Ob} {fs:List C8} {o:Oper} {c:Call} {g:Operand} {l r args:(Nat->j1)->List AV}
theorem stp(i:Nat)(O:B=std)(hT:l9 P T)(kp km:List Nat)(cs:List (Nat×CS))(h:f7 C s a w)(hsp:P2 P f args' [(k,blk)] (fun x=>.thr ty (v x) (sets x)))
  (K:∀X x a w',f7 C ((R B X).1.eff (.sets (upd [(k,blk)] (sets x)))) a w'->Ok (((R B X).1.eff (.sets (upd [(k,blk)] (sets x)))).m C) w' (v x)->Q (.panic [{ v:=.iface ty (v x).den,recovered:=false }]) a w')
  (hex:∀A X,(G8 A T cs X all (l6 0 (all.take i)) s).map (fun r=>(r.1.keep kp km,r.2.1))=some (R A X):=by intro A X;conv=>lhs;cbv) (hob:∀X,f8 P C.K (R B X).2:=by
   intro X;subst O
   first
   |exact trivial
   |(simp only[f8,Ob.holds,BE.den]<;>and_intros<;>(repeat first|trivial|rfl|exact O1|exact O2|exact O3|exact(fun _ _=>by kernel_rfl)|exact O1 _ _ _ rfl|exact O2 _ _ _ rfl|refine⟨?_,?_⟩|intro h|decide|omega)<;>done)
   |(simp[f8,Ob.holds,BE.den,std,b7,i5]<;>omega))
  (hL:all.drop i=o::rest:=by rfl) (hop:o.op = .call c:=by rfl) (hcal:c.callee = .value g:=by rfl) (hg:∀X,sD all (R B X).1 o=true:=by intro X;rfl) (hgv:∀X,val (R B X).1 [] g = .fn f (l X) (r X):=by intro X;rfl) (hl:∀X,R0 (R B X).1 [] c.args.toList=some (args X):=by intro X;rfl) (hsim:∀X,E7 (l X++args X++r X) args':=by intro X;subst O;exact zl)
  (hpre:∀X,i8 (R B X).1.mem k=some blk:=by intro X;rfl) (hd:∀X,fa (R B X).1 o.dst=true:=by intro X;rfl) (hen:o3 P f:=by exact fun _ _=>by kernel_rfl):(Code.region id all.toArray false).wp P Q a w:=
 wp_region_lit (dX 0 i O hT kp km cs h hex hob fun X a1 w1 Z=>aW hL (hg X) hop hcal Z (hgv X) (hl X) hen hsp (hsim X) (eq (hpre X)) rfl (hd X) fun x w' Z hok=>K X x _ w' Z hok)
theorem jD(i:Nat)(O:B=std)(hT:l9 P T)(kp km:List Nat)(cs:List (Nat×CS))(h:f7 C s a w)(hsp:P2 P f args' [(k,blk)] (fun x=>.thr ty (v x) (sets x)))
  (K:∀X x a w',f7 C ((R B X).1.eff (.sets (upd [(k,blk)] (sets x)))) a w'->Ok (((R B X).1.eff (.sets (upd [(k,blk)] (sets x)))).m C) w' (v x)->Q (.panic [{ v:=.iface ty (v x).den,recovered:=false }]) a w')
  (hm:P.follows .mixedOrders=true:=by kernel_rfl) (hgs:s.gs=[]:=by rfl) (hex:∀A X,(I3 A T cs none X all (l6 0 (all.take i)) s).map (fun r=>((r.1.keep kp km,r.2.1),r.2.2))=some (R A X,fs):=by intro A X;conv=>lhs;cbv) (hD:aJ (all.take i) fs=true:=by kernel_rfl) (hZ:eG all i=true:=by kernel_rfl) (hlen:(all.take i).length=fs.length:=by rfl) (hob:∀X,f8 P C.K (R B X).2:=by
   intro X;subst O
   first
   |exact trivial
   |(simp only[f8,Ob.holds,BE.den]<;>and_intros<;>(repeat first|trivial|rfl|exact O1|exact O2|exact O3|exact(fun _ _=>by kernel_rfl)|exact O1 _ _ _ rfl|exact O2 _ _ _ rfl|refine⟨?_,?_⟩|intro h|decide|omega)<;>done)
   |(simp[f8,Ob.holds,BE.den,std,b7,i5]<;>omega))
  (hL:all.drop i=o::rest:=by rfl) (hop:o.op = .call c:=by rfl) (hcal:c.callee = .value g:=by rfl) (hg:∀X,sD all (R B X).1 o=true:=by intro X;rfl) (hgv:∀X,val (R B X).1 [] g = .fn f (l X) (r X):=by intro X;rfl) (hl:∀X,R0 (R B X).1 [] c.args.toList=some (args X):=by intro X;rfl) (hsim:∀X,E7 (l X++args X++r X) args':=by intro X;subst O;exact zl)
  (hpre:∀X,i8 (R B X).1.mem k=some blk:=by intro X;rfl) (hd:∀X,fa (R B X).1 o.dst=true:=by intro X;rfl) (hen:o3 P f:=by exact fun _ _=>by kernel_rfl):(Code.region id all.toArray true).wp P Q a w:=
 ld O i none I7 hm hT kp km cs h hgs fs hD hZ hlen hex hob fun X a1 w1 Z=>aW hL (hg X) hop hcal Z (hgv X) (hl X) hen hsp (hsim X) (eq (hpre X)) rfl (hd X) fun x w' Z hok=>K X x _ w' Z hok
end
theorem Fo(l:Lab)(hL:isL l=true)(hb0:U64 l.bits)(h0:l.len≠0):l7 Tryz.prog 289 [i9 l,.int .u64 ((2^(64-l.len.toNat):Nat):Int)] (fun _=>i9 (nZ l)):=by
 intro m w hm hargs;obtain⟨hl0,hl1,hl2⟩:=z8 hL;have e2:=ta hL hb0 h0;obtain⟨bt,hbt⟩:=eqv (((2^(64-l.len.toNat):Nat):Int));rw[<-hbt]at hargs e2 ⊢;simp only[i9]at hargs;refine en 13 hm hargs Tryz.func289 fun B O a0 Z=>?_
 refine a6 [1,2,4] [2,4] Z fun X0 Z=>?_
 refine a6 [4] [4] Z fun X1 Z=>?_
 refine B4 Z ?_;subst O;have e1:IntKind.i64.wrap (l.len-1)=l.len-1:=s5 (by omega) (by omega);refine Sim.agg ⟨?_,?_,trivial⟩
 .show Sim (.int .i64 (IntKind.i64.wrap (l.len-1))) _
  rw[e1];exact zr
 show Sim (.int .u64 (i5 .andNot .u64 l.bits bt)) _
 rw[e2];exact zr
theorem BS(l:Lab)(hb0:U64 l.bits):l7 Tryz.prog 269 [i9 l,.fn 289 [] []] (fun _=>.tup [i9 (V9 l),.int .i64 (aw l)]):=by
 intro m w hm hargs;have SI:=eB l hb0;simp only[i9]at SI hargs ⊢;obtain⟨il,hil⟩:=eqv (isL l);rw[<-hil]at SI;refine en 23 hm hargs Tryz.func269 fun B O a0 Z=>?_
 refine a6 [1,2,4] [2,4] Z fun X0 Z=>?_
 have O1:=SI;refine a7 (j0 (j6 [6,1,2,4] [2,4] [(1,.r fun _=>.bool (.v il))] Z fun X1 Z=>?_));apply d7 Z rfl<;>intro hb Z
 .have hilf:il=false:=by subst O;cases il<;>first|rfl|(simp[std]at hb)
  have hE:aw l=1:=by unfold aw;rw[<-hil,hilf];rfl
  have hV:V9 l=⟨0,0⟩:=by unfold V9;rw[hE];rfl
  refine a6 [4,5] [4] Z fun X2 Z=>?_
  refine B4 Z ?_;subst O;rw[hV,hE];exact zr
 have hilt:il=true:=by subst O;cases il<;>first|rfl|(simp[std]at hb)
 have hLt:isL l=true:=by rw[<-hil];exact hilt
 obtain⟨hl0,hl1,hl2⟩:=z8 hLt;refine a6 [11,1,2,4] [2,4] Z fun X3 Z=>?_
 apply d7 Z rfl<;>intro hb Z
 .have h0:l.len=0:=by subst O;simpa[std,b7]using hb
  have hE:aw l=7:=by unfold aw;rw[<-hil,hilt,if_neg (by decide),if_pos h0]
  have hV:V9 l=⟨0,0⟩:=by unfold V9;rw[hE];rfl
  refine a6 [4,5] [4] Z fun X4 Z=>?_
  refine B4 Z ?_;subst O;rw[hV,hE];exact zr
 have h0:¬l.len=0:=by subst O;simpa[std,b7]using hb
 have hE:aw l=0:=by unfold aw;rw[<-hil,hilt,if_neg (by decide),if_neg h0]
 have hV:V9 l=nZ l:=by unfold V9;rw[hE];rfl
 have SB:=Es (l.len-1) (by omega) (by omega);rw[show 63-(l.len-1).toNat=64-l.len.toNat by omega]at SB;have S1:=Fo l hLt hb0 h0;simp only[i9]at S1;have e1:IntKind.i64.wrap (l.len-1)=l.len-1:=s5 (by omega) (by omega);rw[<-e1]at SB;obtain⟨bt,hbt⟩:=eqv (((2^(64-l.len.toNat):Nat):Int));rw[<-hbt]at SB S1;obtain⟨k,hk⟩:=eqv (nZ l);rw[<-hk]at S1 hV;have O1:=SB;have O2:=S1;refine f9 (a7 (drg O a8 [4,5] [4] [(5,.r fun _=>.int .u64 bt),(6,.r fun _=>.agg [.int .i64 k.len,.int .u64 k.bits])] Z fun X5 _ _ Z=>?_));refine B4 Z ?_;subst O;rw[hV,hE];exact zr
theorem DR(l:Lab)(hb0:U64 l.bits):l7 Tryz.prog 267 [i9 l] (fun _=>.tup [i9 (V9 l),.int .i64 (aw l)]):=by
 intro m w hm hargs;have SI:=BS l hb0;simp only[i9]at SI hargs ⊢;obtain⟨k,hk⟩:=eqv (V9 l);rw[<-hk]at SI ⊢;obtain⟨q,hq⟩:=eqv (aw l);rw[<-hq]at SI ⊢;refine en 8 hm hargs Tryz.func267 fun B O a0 Z=>?_
 refine a6 [1,2] [1,2] Z fun X0 Z=>?_
 have O1:=SI;refine j6 [2,3] [2] [(1,.r fun _=>.tup [.agg [.int .i64 k.len,.int .u64 k.bits],.int .i64 q])] Z fun X1 Z=>?_
 exact j2 ((rsp O a8 Z G6).1)
theorem FK(A:Option Addr)(n c:Nat)(f:Nat->Int)(v:Int):l7 Tryz.prog 141 [.sl none A n c 1 (fun i=>[.int .i64 (f i)]),.int .i64 v] (fun x=>.int .i64 (if cB n f v then(x.b:Int)else -1)):=by
 intro m w hm hargs;have hlen:=rQ (hargs (.sl none A n c 1 (fun i=>[.int .i64 (f i)])) (by simp));have hmx:maxLen=9223372036854775807:=rfl;refine en 19 hm hargs Tryz.func141 fun B O a0 Z=>?_
 refine a6 [0,1] [] Z fun X0 Z=>?_
 refine a7 (a6 [8,0,1,7] [] Z fun X1 Z=>?_);refine j0 (r9 (ι:=Nat) (fun p=>[(8,.int .i64 (p:Int))]) (fun p=>[]) (fun p=>[]) (fun p=>p<=n/\∀j,j<p->f j≠v) (fun p=>n-p) 0 ⟨Nat.zero_le _,fun i hi=>absurd hi (Nat.not_lt_zero _)⟩ Z ?_)
 rintro i ⟨hi,hall⟩ _ _ Z
 try dsimp only at hi
 try dsimp only at hall
 refine a6 [9,0,1,7,8] [] Z fun X2 Z=>?_
 refine a7 (d7 Z rfl (fun hb Z=>?_) (fun hb Z=>?_))
 .have hin:i<n:=by
   have:(i:Int)<(n:Int):=by subst O;simpa[std,b7]using hb
   omega
  refine f9 (a7 (j0 (a6 [0,1,5,7,8] [] Z fun X3 Z=>?_)));refine a7 ?_;have O4:(0:Int)<=(i:Int):=by omega
  have O5:(i:Int)<(n:Int):=by omega
  refine j5 [16,0,1,5,7,8] [] Z fun X4 Z=>?_
  apply d7 Z rfl<;>intro hb Z
  .have heq:f i=v:=by
    have:(v==f i)=true:=by subst O;exact hb
    simpa using(beq_iff_eq.1 this).symm
   refine a6 [4] [] Z fun X5 Z=>?_
   refine j2 ((rsp O a8 Z (⟨i,fun _=>none,fun _=>0,fun _=>.empty⟩) (he:=?_)).1);subst O;rw[CZ hin heq];rfl
  have hne:f i≠v:=by
   have:(v==f i)=false:=by subst O;exact hb
   intro h;rw[h]at this;simp at this
  refine f9 (j5 [8,0,1,7] [] Z fun X6 Z=>?_);have e:B.arith .add .i64 (i:Int) 1=((i+1:Nat):Int):=by subst O;exact j7 (n:=n) hin (by omega)
  refine⟨i+1,⟨by omega,fun j hj=>?_⟩,by omega,by rw[<-e];exact Z⟩
  by_cases hij:j=i
  .rw [hij];exact hne
  exact hall j (by omega)
 have hout:i=n:=by
  have:¬(i:Int)<(n:Int):=by subst O;simpa[std,b7]using hb
  omega
 refine o4 (a6 [4] [] Z fun X7 Z=>?_);refine aS Z ?_;subst O;rw[hout]at hall;rw[CY hall];rfl
theorem oO(A:Option Addr)(n c:Nat)(f:Nat->Int)(v:Int):l7 Tryz.prog 86 [.sl none A n c 1 (fun i=>[.int .i64 (f i)]),.int .i64 v] (fun _=>.bool (.v (cB n f v))):=by
 intro m w hm hargs;have S0:=FK A n c f v;obtain⟨q,hq⟩:=eqv (cB n f v);rw[<-hq]at S0 ⊢;have S:∀x:j1,∃z:Int,z=(if q=true then(x.b:Int)else -1):=fun x=>⟨_,rfl⟩
 refine en 9 hm hargs Tryz.func86 fun B O a0 Z=>?_
 refine a6 [0,1] [] Z fun X0 Z=>?_
 have O1:=S0;refine j6 [4] [] [(2,.r fun x=>.int .i64 (if q=true then(x.b:Int)else -1))] Z fun X1 Z=>?_
 refine B4 Z ?_;subst O;refine Sim.bool ?_
 show decide ((if q=true then(((X1 2).b:Nat):Int)else -1) ≥ 0)=q
 cases q
 .rfl
 simp
theorem JA(g:r5)(A:Option Addr)(k:Int)(f:Nat->Int)(h0:f 0=k):l7 Tryz.prog 179 [F4 g,.sl none A 1 1 1 (fun i=>[.int .i64 (f i)])] (fun _=>.bool (.v (gk g k))):=by
 intro m w hm hargs;have S:=oO A 1 1 f g.x.r.kd;obtain⟨q,hq⟩:=eqv (cB 1 f g.x.r.kd);rw[<-hq]at S;refine en 14 hm hargs Tryz.func179 fun B O a0 Z=>?_
 refine a6 [1,2] [2] Z fun X0 Z=>?_
 have O1:=S;refine j6 [4] [] [(7,.r fun _=>.bool (.v q))] Z fun X1 Z=>?_
 refine B4 Z ?_;subst O;refine Sim.bool ?_
 show(if g.has=true then q else false)=_
 rw[hq,Eu,h0];unfold gk;simp only[uJ g.x.r.kd];cases g.has<;>rfl
theorem F0(g:r5)(G:Option Nat)(A:Option Addr)(k:Int)(cells:Nat->List AV)(h0:cells 0=[.int .i64 k]):l7 Tryz.prog 179 [F4 g,.sl G A 1 1 1 cells] (fun _=>.bool (.v (gk g k))):=
 (JA g A k (fun _=>k) rfl).sim ⟨zr,Sim.recell (fun i hi=>by
  match i,hi with
  |0,_=>rw[h0]),trivial⟩
theorem Jz(g:r5)(A:Option Addr)(k k2:Int)(f:Nat->Int)(h0:f 0=k)(h1:f 1=k2):l7 Tryz.prog 179 [F4 g,.sl none A 2 2 1 (fun i=>[.int .i64 (f i)])] (fun _=>.bool (.v ((gk g k||gk g k2)))):=by
 intro m w hm hargs;have S:=oO A 2 2 f g.x.r.kd;obtain⟨q,hq⟩:=eqv (cB 2 f g.x.r.kd);rw[<-hq]at S;refine en 14 hm hargs Tryz.func179 fun B O a0 Z=>?_
 refine a6 [1,2] [2] Z fun X0 Z=>?_
 have O1:=S;refine j6 [4] [] [(7,.r fun _=>.bool (.v q))] Z fun X1 Z=>?_
 refine B4 Z ?_;subst O;refine Sim.bool ?_
 show(if g.has=true then q else false)=_
 rw[hq,IN,h0,h1];unfold gk;simp only[uJ g.x.r.kd];cases g.has<;>rfl
theorem aH(g:r5)(G:Option Nat)(A:Option Addr)(k k2:Int)(cells:Nat->List AV)(h0:cells 0=[.int .i64 k])(h1:cells 1=[.int .i64 k2]):l7 Tryz.prog 179 [F4 g,.sl G A 2 2 1 cells] (fun _=>.bool (.v ((gk g k||gk g k2)))):=
 (Jz g A k k2 (fun i=>if i=0 then k else k2) rfl rfl).sim ⟨zr,Sim.recell (fun i hi=>by
  match i,hi with
  |0,_=>rw[h0];rfl
  |1,_=>rw[h1];rfl),trivial⟩
theorem sX(kd:Int)(x:RA)(mk:Int):l7 Tryz.prog 164 [.int .i64 kd,N6 x,.int .u64 mk] (fun _=>N6 (asR kd x mk)):=by
 intro m w hm hargs;refine en 14 hm hargs Tryz.func164 fun B O a0 Z=>?_
 refine a6 [0,2,4,6] [4,6] Z fun X0 Z=>?_
 refine a6 [6] [6] Z fun X1 Z=>?_
 exact j2 ((rsp O a8 Z G6).1)
theorem eC:l7 Tryz.prog 262 [] (fun _=>Ij):=by
 intro m w hm hargs;have SN:=ka;simp only[i9,D6]at SN;refine en 3 hm hargs Tryz.func262 fun B O a0 Z=>?_
 refine a6 [0] [0] Z fun X0 Z=>?_
 have O1:=SN;refine j6 [0] [0] [(0,.r fun _=>.agg [.int .i64 (-1),.int .u64 0])] Z fun X1 Z=>?_
 exact j2 ((rsp O a8 Z G6).1)
theorem uO(l:Lab)(hb0:U64 l.bits):l7 Tryz.prog 260 [i9 l] (fun _=>.agg [.int .i64 (chV l 0).len,.int .u64 (chV l 0).bits,.int .i64 (chV l 1).len,.int .u64 (chV l 1).bits]):=by
 intro m w hm hargs;have S0:=jr l hb0 0 (.inl rfl);have S1:=jr l hb0 1 (.inr rfl);simp only[i9]at S0 S1 hargs;obtain⟨x,hx⟩:=eqv (chV l 0);rw[<-hx]at S0 ⊢;obtain⟨y,hy⟩:=eqv (chV l 1);rw[<-hy]at S1 ⊢;obtain⟨u,hu⟩:=eqv (chE l 0);rw[<-hu]at S0;obtain⟨v,hv⟩:=eqv (chE l 1);rw[<-hv]at S1;refine en 20 hm hargs Tryz.func260 fun B O a0 Z=>?_
 refine a6 [1,2] [1,2] Z fun X0 Z=>?_
 have O1:=S0;refine j6 [1,2,3] [1,2,3] [(1,.r fun _=>.tup [.agg [.int .i64 x.len,.int .u64 x.bits],.int .i64 u])] Z fun X1 Z=>?_
 have O1:=S1;refine j6 [2,3,5] [2,3,5] [(1,.r fun _=>.tup [.agg [.int .i64 y.len,.int .u64 y.bits],.int .i64 v])] Z fun X2 Z=>?_
 refine a6 [2] [2] Z fun X3 Z=>?_
 exact j2 ((rsp O a8 Z G6).1)
theorem GN(b:Nat)(J:l4)(hJ:u7 J)(A:Option Addr)(c:Nat)(p:Pst)(hp:j8 p)(hn:p.n<=1000000)(q:F7):s8 224 0 b J A c p [E8 q] (F4) (M2 J.budget q.absQ p):=by
 intro m w hm hargs hpre;obtain⟨ha,hbu,_,_,_⟩:=hJ;have hmx:maxLen=9223372036854775807:=rfl;have e1:IntKind.i64.wrap ((p.n:Int)+J.budget)=(p.n:Int)+J.budget:=s5 (by omega) (by omega);refine enX 60 hm hpre hargs Tryz.func224 fun B O a0 Z=>?_
 refine a6 [0,3,4] [0,3,4] Z fun X0 Z=>?_
 refine a7 (a7 (drg O a8 [25,0,3,4] [0,3,4] [] Z fun X1 _ _ Z=>?_));apply d7 Z rfl<;>intro hb Z
 .have ht:0<p.n/\0<(p.n:Int)+J.budget:=by
   have h9:(if decide ((p.n:Int)>0)=true then decide (IntKind.i64.wrap ((p.n:Int)+J.budget)>0)else false)=true:=by subst O;exact hb
   rw[e1]at h9;simp at h9;omega
  refine a7 ?_;refine j5 [0,4,5] [0,4,5] Z (hob:=by intro X;subst O;simp only[f8,Ob.holds,BE.den]<;>and_intros<;>repeat first|trivial|rfl|exact⟨Int.le_refl _,(by show(0:Int)<(p.n:Int);omega)⟩|exact(by show(0:Int)<(p.n:Int);omega)|exact(fun _ _=>by kernel_rfl)|refine⟨?_,?_⟩|intro h|exact Int.le_refl _|decide|omega) fun X2 Z=>?_
  refine a7 ?_;refine j5 [4,5] [0,4,5] Z (hob:=by intro X;subst O;simp only[f8,Ob.holds,BE.den]<;>and_intros<;>repeat first|trivial|rfl|exact(by show(0:Int)<=1;decide)|exact(by show(1:Int)<=(p.n:Int);omega)|exact(show(0:Int)<=1/\(1:Int)<=(p.n:Int)/\(p.n:Int)<=(p.n:Int)by omega)|exact(fun _ _=>by kernel_rfl)|refine⟨?_,?_⟩|intro h|exact Int.le_refl _|decide|omega) fun X3 Z=>?_
  refine a6 [4] [0,4] Z fun X4 Z=>?_
  refine j2 ((rmm O a8 Z (v:=p.g 0) (q:=p.tl) (M3 A c 1 8) (c-1) (if_pos ht) (he:=?_) (hs:=?_)).1)
  .subst O;exact zr
  subst O;exact⟨rfl,⟨_,rfl,⟨zr,zr,zr,zr,zr,zr,zr,zr,zr,zr,zr,zr,zr,zr,zr,Sim.recell (fun i hi=>by show N9 (p.g (1+i))=N9 (p.g (i+1));rw[Nat.add_comm]),zr,zr,zr,zr,zr,zr,trivial⟩⟩,trivial⟩
 have ht:¬(0<p.n/\0<(p.n:Int)+J.budget):=by
  have h9:(if decide ((p.n:Int)>0)=true then decide (IntKind.i64.wrap ((p.n:Int)+J.budget)>0)else false)=false:=by subst O;exact hb
  rw[e1]at h9;simp at h9;omega
 refine f9 (a7 (a7 (drg O a8 [52,0,3] [0,3] [] Z fun X5 _ _ Z=>?_)));apply d7 Z rfl<;>intro hb Z
 .have ho:(p.n:Int)+J.budget<=0:=by
   have h9:decide (IntKind.i64.wrap ((p.n:Int)+J.budget)<=0)=true:=by subst O;exact hb
   rw[e1]at h9;simpa using h9
  refine j5 [3] [0,3] Z fun X6 Z=>?_
  refine wp_region_lit (lpr 0 2 O a8 [59] [0] [] Z fun X7_0 _ _ Z=>?_);refine my rfl rfl rfl Z rfl (xj (P:=Tryz.prog) (fn:=Tryz.f224) (pre:=[(0,⟨b,139,D4 J A c p⟩)]) (sets:=[(0,D4 J A c p)]) (out:=fun x=>gQ 0 J F4 (M2 J.budget q.absQ p) x) Z (yg (Z.slot 59 rfl).2) ⟨0,fun i=>if i=0 then A else none,fun i=>if i=0 then c else 0,fun _=>.empty⟩ (by show gQ 0 J F4 (M2 J.budget q.absQ p) _=_;unfold M2;rw[if_neg ht,if_pos ho];rfl) ?_ ⟨rfl,⟨_,rfl,zl⟩,trivial⟩)
  subst O;exact Sim.agg ⟨zr,zr,zr,zr,zr,zq0,zr,zr,zr,zr,zr,zr,zq0,zr,Sim.ff,trivial⟩
 have ho:¬(p.n:Int)+J.budget<=0:=by
  have h9:decide (IntKind.i64.wrap ((p.n:Int)+J.budget)<=0)=false:=by subst O;exact hb
  rw[e1]at h9;simpa using h9
 refine f9 (wp_region_lit (lpr 0 2 O a8 [59] [0] [] Z fun X7_0 _ _ Z=>?_));refine my rfl rfl rfl Z rfl (xj (P:=Tryz.prog) (fn:=Tryz.f224) (pre:=[(0,⟨b,139,D4 J A c p⟩)]) (sets:=[(0,D4 J A c p)]) (out:=fun x=>gQ 0 J F4 (M2 J.budget q.absQ p) x) Z (yg (Z.slot 59 rfl).2) ⟨0,fun i=>if i=0 then A else if i=1 then q.x.A else q.s.A,fun i=>if i=0 then c else if i=1 then q.x.c else q.s.c,fun _=>.empty⟩ (by show gQ 0 J F4 (M2 J.budget q.absQ p) _=_;unfold M2;rw[if_neg ht,if_neg ho];rfl) ?_ ⟨rfl,⟨_,rfl,zl⟩,trivial⟩)
 subst O;exact AF q _ rfl rfl rfl rfl
theorem Ag(k0 b:Nat)(J:l4)(hJ:u7 J)(A:Option Addr)(c:Nat)(p:Pst)(hp:j8 p)(hn:p.n<=1000000)(q:F7):s8 224 k0 b J A c p [E8 q] (F4) (M2 J.budget q.absQ p):=s8.re (GN b J hJ A c p hp hn q) (by repeat(first|exact trivial|refine⟨zr,?_⟩))
def xe:xa:=⟨0,false,⟨#[]⟩,none,0,0,fun _=>C0,0,false⟩
theorem GK(k0 b:Nat)(J:l4)(hJ:u7 J)(A:Option Addr)(c:Nat)(p:Pst)(hp:j8 p)(hn:p.n<=1000000)(l:Lab):s8 224 k0 b J A c p [.agg [.int .i64 1,.int .i64 l.len,.int .u64 l.bits,.int .u64 0,.int .i64 0,.sl none none 0 0 2 (fun _=>[]),.int .i64 0,.int .u64 0,.int .u64 0,.int .i64 0,.bool .ff,.str ⟨#[]⟩,.sl none none 0 0 2 (fun _=>[]),.int .u64 0,.bool .ff]] F4 (N0 J.budget l p):=
 s8.re (Ag 0 b J hJ A c p hp hn ⟨1,l,0,zRA,xe⟩) ⟨Sim.agg ⟨zr,zr,zr,zr,zr,zq0,zr,zr,zr,zr,Sim.ff,zr,zq0,zr,Sim.ff,trivial⟩,trivial⟩
theorem GM(k0 b:Nat)(J:l4)(hJ:u7 J)(A:Option Addr)(c:Nat)(p:Pst)(hp:j8 p)(hn:p.n<=1000000)(l:Lab)(v:Int)(x:RA):s8 224 k0 b J A c p [.agg [.int .i64 2,.int .i64 l.len,.int .u64 l.bits,.int .u64 v,.int .i64 x.r.kd,.sl none x.A x.r.n x.c 2 (fun i=>itC (x.r.f i)),.int .i64 x.r.nx.len,.int .u64 x.r.nx.bits,.int .u64 x.r.mrk,.int .i64 0,.bool .ff,.str ⟨#[]⟩,.sl none none 0 0 2 (fun _=>[]),.int .u64 0,.bool .ff]] F4 (M2 J.budget ⟨2,l,v,x.r.abs,Y0⟩ p):=
 s8.re (Ag 0 b J hJ A c p hp hn ⟨2,l,v,x,xe⟩) ⟨Sim.agg ⟨zr,zr,zr,zr,zr,zr,zr,zr,zr,zr,Sim.ff,zr,zq0,zr,Sim.ff,trivial⟩,trivial⟩
theorem GL(k0 b:Nat)(J:l4)(hJ:u7 J)(A:Option Addr)(c:Nat)(p:Pst)(hp:j8 p)(hn:p.n<=1000000)(l:Lab)(v:Int):s8 224 k0 b J A c p [.agg [.int .i64 3,.int .i64 l.len,.int .u64 l.bits,.int .u64 v,.int .i64 0,.sl none none 0 0 2 (fun _=>[]),.int .i64 0,.int .u64 0,.int .u64 0,.int .i64 0,.bool .ff,.str ⟨#[]⟩,.sl none none 0 0 2 (fun _=>[]),.int .u64 0,.bool .ff]] F4 (M2 J.budget ⟨3,l,v,j3,Y0⟩ p):=
 s8.re (Ag 0 b J hJ A c p hp hn ⟨3,l,v,zRA,xe⟩) ⟨Sim.agg ⟨zr,zr,zr,zr,zr,zq0,zr,zr,zr,zr,Sim.ff,zr,zq0,zr,Sim.ff,trivial⟩,trivial⟩
theorem FT(b:Nat)(J:l4)(hJ:u7 J)(A:Option Addr)(c:Nat)(p:Pst)(hp:j8 p)(hn:p.n<=1000000)(l:Lab):s8 178 0 b J A c p [i9 l] (F4) (N0 J.budget l p):=by
 intro m w hm hargs hpre;refine enX 9 hm hpre hargs Tryz.func178 fun B O a0 Z=>?_
 refine a6 [0,3,4] [0,3,4] Z fun X0 Z=>?_
 refine a7 ?_
 rcases(GK 0 b J hJ A c p hp hn l).two (l3 _ _ _) hp hn with⟨w1,p1,hm1,O1⟩|⟨g1,p1,hm1,hs1,hp1,hn1,S1⟩
 .refine stp 3 O a8 [5,7] [0] [] Z O1 fun _ _ _ _ Z hk=>?_
  exact thm (P:=Tryz.prog) (fn:=Tryz.f178) (q:=p1) Z hk (by simp[Rs.bind,hm1])
 have O1:=S1;refine j4 [4] [0,4] [(3,rc J (F4 g1) p1)] Z fun X1 Z=>?_
 exact j2 ((rmm O a8 Z (v:=g1) (q:=p1) ((X1 3).A 0) ((X1 3).c 0) (by simp[Rs.bind,hm1])).1)
theorem V0(k0 b:Nat)(J:l4)(hJ:u7 J)(A:Option Addr)(c:Nat)(p:Pst)(hp:j8 p)(hn:p.n<=1000000)(l:Lab):s8 178 k0 b J A c p [i9 l] (F4) (N0 J.budget l p):=s8.re (FT b J hJ A c p hp hn l) (by repeat(first|exact trivial|refine⟨zr,?_⟩))
theorem Gy(b:Nat)(J:l4)(hJ:u7 J)(A:Option Addr)(c:Nat)(p:Pst)(hp:j8 p)(hn:p.n<=1000000)(l:Lab)(v:Int)(x:RA):s8 163 0 b J A c p [i9 l,.int .u64 v,N6 x] (fun d=>.bool (.v d)) (aN J.budget l v x.r.abs p):=by
 intro m w hm hargs hpre;refine enX 17 hm hpre hargs Tryz.func163 fun B O a0 Z=>?_
 refine a6 [0,2,5,7] [0,5,7] Z fun X0 Z=>?_
 refine a7 ?_
 rcases(GM 0 b J hJ A c p hp hn l v x).two (ga _ _ _) hp hn with⟨w1,p1,hm1,O1⟩|⟨g1,p1,hm1,hs1,hp1,hn1,S1⟩
 .refine stp 5 O a8 [9,13] [0] [] Z O1 fun _ _ _ _ Z hk=>?_
  exact thm (P:=Tryz.prog) (fn:=Tryz.f163) (q:=p1) Z hk (by simp[aN,Rs.bind,hm1])
 have O1:=S1;refine j4 [8] [0] [(5,rc J (F4 g1) p1)] Z fun X1 Z=>?_
 exact j2 ((rmm O a8 Z (v:=decide (g1.code=0)) (q:=p1) ((X1 5).A 0) ((X1 5).c 0) (by simp[aN,Rs.bind,hm1])).1)
theorem gD(k0 b:Nat)(J:l4)(hJ:u7 J)(A:Option Addr)(c:Nat)(p:Pst)(hp:j8 p)(hn:p.n<=1000000)(l:Lab)(v:Int)(x:RA):s8 163 k0 b J A c p [i9 l,.int .u64 v,N6 x] (fun d=>.bool (.v d)) (aN J.budget l v x.r.abs p):=s8.re (Gy b J hJ A c p hp hn l v x) (by repeat(first|exact trivial|refine⟨zr,?_⟩))
theorem Gl(b:Nat)(J:l4)(hJ:u7 J)(A:Option Addr)(c:Nat)(p:Pst)(hp:j8 p)(hn:p.n<=1000000)(l:Lab)(v:Int):s8 288 0 b J A c p [i9 l,.int .u64 v] (fun d=>.bool (.v d)) (lS J.budget l v p):=by
 intro m w hm hargs hpre;refine enX 14 hm hpre hargs Tryz.func288 fun B O a0 Z=>?_
 refine a6 [0,2,4] [0,4] Z fun X0 Z=>?_
 refine a7 ?_
 rcases(GL 0 b J hJ A c p hp hn l v).two (ga _ _ _) hp hn with⟨w1,p1,hm1,O1⟩|⟨g1,p1,hm1,hs1,hp1,hn1,S1⟩
 .refine stp 4 O a8 [7,10] [0] [] Z O1 fun _ _ _ _ Z hk=>?_
  exact thm (P:=Tryz.prog) (fn:=Tryz.f288) (q:=p1) Z hk (by simp[lS,Rs.bind,hm1])
 have O1:=S1;refine j4 [6] [0] [(4,rc J (F4 g1) p1)] Z fun X1 Z=>?_
 exact j2 ((rmm O a8 Z (v:=decide (g1.code=0)) (q:=p1) ((X1 4).A 0) ((X1 4).c 0) (by simp[lS,Rs.bind,hm1])).1)
theorem zE(k0 b:Nat)(J:l4)(hJ:u7 J)(A:Option Addr)(c:Nat)(p:Pst)(hp:j8 p)(hn:p.n<=1000000)(l:Lab)(v:Int):s8 288 k0 b J A c p [i9 l,.int .u64 v] (fun d=>.bool (.v d)) (lS J.budget l v p):=s8.re (Gl b J hJ A c p hp hn l v) (by repeat(first|exact trivial|refine⟨zr,?_⟩))
theorem xp(b:Nat)(J:l4)(hJ:u7 J)(A:Option Addr)(c:Nat)(p:Pst)(hp:j8 p)(hn:p.n<=1000000)(l:Lab)(v:Int):s8 261 0 b J A c p [i9 l,.int .u64 v] (fun q:r5=>.bool (.v (decide (q.ver=v)))) (N0 J.budget l p):=by
 intro m w hm hargs hpre;refine enX 13 hm hpre hargs Tryz.func261 fun B O a0 Z=>?_
 refine a6 [0,2,4] [0,4] Z fun X0 Z=>?_
 refine a7 ?_
 rcases(V0 0 b J hJ A c p hp hn l).two (l3 _ _ _) hp hn with⟨w1,p1,hm1,O1⟩|⟨g1,p1,hm1,hs1,hp1,hn1,S1⟩
 .refine stp 2 O a8 [7,8] [0] [] Z O1 fun _ _ _ _ Z hk=>?_
  exact thm (P:=Tryz.prog) (fn:=Tryz.f261) (q:=p1) Z hk (by simp[Rs.bind,hm1])
 have O1:=S1;refine j4 [6] [0] [(2,rc J (F4 g1) p1)] Z fun X1 Z=>?_
 exact j2 ((rmm O a8 Z (v:=g1) (q:=p1) ((X1 2).A 0) ((X1 2).c 0) (by simp[Rs.bind,hm1])).1)
theorem iY(k0 b:Nat)(J:l4)(hJ:u7 J)(A:Option Addr)(c:Nat)(p:Pst)(hp:j8 p)(hn:p.n<=1000000)(l:Lab)(v:Int):s8 261 k0 b J A c p [i9 l,.int .u64 v] (fun q:r5=>.bool (.v (decide (q.ver=v)))) (N0 J.budget l p):=s8.re (xp b J hJ A c p hp hn l v) (by repeat(first|exact trivial|refine⟨zr,?_⟩))
end Go.Proofs.YtmbkanpapkhnaaaGreat.Sym
namespace Go.Proofs.YtmbkanpapkhnaaaGreat
open Go.RowKit
theorem El:aQ Tryz.prog 33 62 2 24 (.agg #[.int .u64 0,.string ⟨#[]⟩]):=⟨by kernel_rfl,by kernel_rfl,rfl,by decide⟩
theorem etyI:aQ Tryz.prog 33 62 2 24 (.agg #[.int .u64 0,.string ⟨#[]⟩]):=⟨by kernel_rfl,by kernel_rfl,rfl,by decide⟩
end Go.Proofs.YtmbkanpapkhnaaaGreat
namespace Go.Proofs.YtmbkanpapkhnaaaGreat.Sym
open Go Go.RowKit
theorem kE(x:Itm):∀v∈itmE x,v.oneCell'=true:=by
 intro v hv;simp only[itmE,List.mem_cons,List.not_mem_nil,or_false]at hv
 rcases hv with rfl|rfl<;>rfl
theorem rowFlat_its(l:List Itm):i7 (fun i=>itC (itF l i)) l.length=l.flatMap itmE:=by
 have key:∀n,n<=l.length->i7 (fun i=>itC (itF l i)) n=(l.take n).flatMap itmE:=by
  intro n
  induction n with
  |zero=>intro _;simp[i7]
  |succ n ih=>
   intro h;rw[F3,ih (by omega),List.take_succ_eq_append_getElem (by omega),List.flatMap_append];simp[itF,List.getD,List.getElem?_eq_getElem (show n<l.length by omega)];rfl
 have:=key l.length (Nat.le_refl _)
 rwa[List.take_length]at this
theorem its_reads{m:Nat->Nat->Prop}{w:World}{A:Option Addr}{c:Nat}{l:List Itm}(h:Ok m w (r6 A l.length c (itF l))):U4 itmE w w.heap.size A l:=by
 have:=aU h;rw[rowFlat_its]at this;exact this
theorem kD{m:Nat->Nat->Prop}{w:World}{A:Option Addr}{c:Nat}{l:List Itm}(h:Ok m w (r6 A l.length c (itF l))):∀x∈l,x.val.size<=maxLen:=by
 intro x hx;obtain⟨i,hi,rfl⟩:=List.mem_iff_getElem.1 hx
 cases h with
 |sl _ _ _ _ _ _ h1 h2 h3 h4 h5 h6 h7=>
  have:=h7 i hi (.str (itF l i).val) (by simp[itC])
  cases this with|str _ h=>simpa[itF,List.getD,hi]using h
theorem oa{m:Nat->Nat->Prop}{w:World}{B:Nat}{e:TypeId}{A:Option Addr}{n c:Nat}{l:List Itm}(h:tj itmE 2 w B e (.slice A n c) l)(hm:∀b o,m b o->b<B)(hs:∀x∈l,x.val.size<=maxLen):Ok m w (r6 A l.length c (itF l)):=by
 obtain⟨A',c',he,h1,h2⟩:=Own.isSlice h;injection he with e1 e2 e3;subst e3;subst e2
 refine jb h1 h2 hs fun hp=>?_
 rw[F8 K0]at hp;obtain⟨b,hA,hb⟩:=J6 h (by omega);refine⟨b,0,hA,fun j u hu=>⟨by rw[Nat.zero_add];exact K3 h hb j u hu,fun hmm=>?_⟩⟩;have:=(Own.lt h b hb).1;have:=hm _ _ hmm;omega
theorem clone_c(w:World)(A:Option Addr)(k:Nat)(l:List Itm)(hr:U4 itmE w w.heap.size A l)(hl:l.length<2147483000) :
  Calls Tryz.prog 72 #[.slice A l.length k] w fun e w'=>∃v',e = .returned v'/\tj itmE 2 w' w.heap.size 62 v' l/\Below w.heap.size w w':=by
 have hq:∀(A:Option Addr) (n k:Nat) (w:World),(binOp .eql 33 (.slice A n k) (.slice none 0 0)).run Tryz.prog w = .ok (.bool A.isNone) w:=fun A n k w=>Go.Lib.run_eql_slice_nil w _ _ A n k 0 0 Tryz.underlying33
 cases A with
 |none=>
  obtain rfl:l=[]:=by
   refine List.eq_nil_of_length_eq_zero (Nat.eq_zero_of_not_pos fun h=>?_);obtain⟨b,off,he,_⟩:=hr.at_ (k:=2) K0 (by decide) h
   cases he
  clear hr
  go_enter Tryz.func72,Tryz.ntmps72
  go_wp2_with fail
  go_ret
  exact⟨_,rfl,Own.nil _ _ _ _ _,Below.refl _ _⟩
 |some a=>
  obtain⟨W1,hW1⟩:=eqv (w.alloc (.cells #[] 62));have hb1:Below w.heap.size w W1:=by rw[hW1];exact(Below.refl _ _).alloc (Nat.le_refl _) _
  obtain⟨v',w',hr',hO,hG,hv⟩:=de (P:=Tryz.prog) El 33 (Own.nil W1 w.heap.size 62 2 (some ⟨w.heap.size,0,none⟩)) (some a) l.length k (l.flatMap itmE) (F8 K0 l) (hr.below hb1) (qy kE l) (by simp only[maxLen];omega) (by omega) hb1.size;rw[Nat.zero_add,List.nil_append]at hO;have HO:Hid (tj itmE 2 w' w.heap.size 62 v' l/\Below w.heap.size w w'):=⟨hO,hb1.grown hG hb1.size fun g hg=>by simp[s9]at hg⟩;rw[hW1]at hr';clear hO hG hv hb1 hW1
  go_enter Tryz.func72,Tryz.ntmps72
  go_wp2_with (at_builtin;refine Q9 hr' rfl (.tmp 5) (.tmp 6) rfl rfl rfl rfl ?_)
  go_ret
  exact⟨_,rfl,HO.out⟩
theorem oP(A:Option Addr)(c:Nat)(l:List Itm)(hs:l.length<2147483000):l7 Tryz.prog 72 [r6 A l.length c (itF l)] (fun y=>r6 (y.A 0) l.length (y.c 0) (itF l)):=by
 intro m w hm ha;have h1:=ha (r6 A l.length c (itF l)) (by simp);refine(clone_c w A c l (its_reads h1) hs).mono ?_
 rintro e w' ⟨v',rfl,ho,hb⟩
 obtain⟨A',c',rfl,_,_⟩:=Own.isSlice ho;exact⟨⟨0,fun _=>A',fun _=>c',fun _=>⟨#[]⟩⟩,rfl,oa ho hm (kD h1),hb⟩
theorem clone_sf(A:Option Addr)(n c:Nat)(f:Nat->Itm)(hs:n<2147483000):l7 Tryz.prog 72 [r6 A n c f] (fun y=>r6 (y.A 0) n (y.c 0) f):=by
 have h:=oP A c (d4 f n) (by rw[i6];exact hs);have e:∀A c,Sim (r6 A (d4 f n).length c (itF (d4 f n))) (r6 A n c f):=fun A c=>Sim.resl (i6 f n) fun t ht=>by rw[s7 f n t ht]
 have e':∀A c,Sim (r6 A n c f) (r6 A (d4 f n).length c (itF (d4 f n))):=fun A c=>Sim.resl (i6 f n).symm fun t ht=>by rw[i6]at ht;rw[s7 f n t ht]
 intro m w hm ha;have h2:l7 Tryz.prog 72 [r6 A n c f] (fun y=>r6 (y.A 0) (d4 f n).length (y.c 0) (itF (d4 f n))):=h.sim ⟨e' A c,trivial⟩;refine(h2 m w hm ha).mono ?_
 rintro en w' ⟨x,rfl,hok,hb⟩
 exact⟨x,by rw[(e (x.A 0) (x.c 0)).1],(e (x.A 0) (x.c 0)).2.2 _ _ hok,hb⟩
theorem FS(w:World)(n:Nat)(hn:n<=1000000):Calls Tryz.prog 295 #[.slice none 0 0,.int .i64 n] w fun e w'=>
  ∃A' c',e = .returned (.slice A' 0 c')/\Own w' w.heap.size 62 2 (.slice A' 0 c') 0 []/\Below w.heap.size w w':=by
 have hneg:¬(n:Int)<0:=by omega
 have hw:IntKind.i64.wrap (n:Int)=(n:Int):=s5 (by omega) (by omega);have hw0:IntKind.i64.wrap 0=0:=by decide
 by_cases h0:n=0
 .subst h0
  go_enter Tryz.func295,Tryz.ntmps295
  go_wp2_with fail
  go_ret
  exact⟨none,0,rfl,Own.nil _ _ _ _ _,Below.refl _ _⟩
 have hpos:(0:Int)<(n:Int):=by omega
 have HA:=db (P:=Tryz.prog) (w:=w) (kq:=.i64) El (Tryz.underlying3) 33 (A:=none) (n:=0) (c:=0) (xs:=[]) (by simp) (P3.nil (B:=0)) n (by omega) (by omega) (by simp only[maxLen];omega) (by omega);obtain⟨_,cap2,cur2,hr,rfl,hge2,hcm2,hcs2,ht2⟩:=HA;rw[Nat.zero_add]at hr hge2;obtain⟨w1,hw1⟩:=eqv (w.drew.alloc (.cells cur2 62));rw[<-hw1]at hr;have HF:Hid (Own w1 w.heap.size 62 2 (.slice (some ⟨w.heap.size,0,none⟩) 0 cap2) 0 []/\Below w.heap.size w w1):=by
  refine⟨⟨by simp,.inr ⟨w.heap.size,cap2,cur2,rfl,Nat.le_refl _,by rw[hw1];exact heap_alloc_new w.drew _,Nat.zero_le _,by omega,hcm2,hcs2,by simp⟩⟩,?_⟩;rw[hw1];exact(Below.refl _ _).drew.alloc (by simp) _
 clear hw1 ht2 hcs2 hge2
 go_enter Tryz.func295,Tryz.ntmps295
 go_wp2_with (at_builtin;refine Q9 hr rfl (.tmp 20) (.tmp 21) rfl rfl rfl rfl ?_)
 go_ret
 exact⟨_,_,rfl,HF.out⟩
end Go.Proofs.YtmbkanpapkhnaaaGreat.Sym
namespace Go.Proofs.YtmbkanpapkhnaaaGreat
open Go.RowKit Sym
def isK(key:Int)(x:Itm):Bool:=decide (x.key=key)
def cH(l:List Itm)(key:Int):ByteArray:=match l.find? (isK key)with
 |some x=>x.val
 |none=>⟨#[]⟩
def cI(l:List Itm)(key:Int):Bool:=(l.find? (isK key)).isSome
theorem ge(f:Nat->Itm)(n i:Nat)(h:i<n):d4 f n=d4 f i++f i::(List.range (n-i-1)).map fun j=>f (i+1+j):=by
 apply List.ext_getElem
 .simp [d4];omega
 intro t h1 h2;have ht:t<n:=by simpa[d4]using h1
 simp only[d4,List.getElem_map,List.getElem_range]
 by_cases hi:t<i
 .rw [List.getElem_append_left (by simpa using hi)]
  simp
 rw[List.getElem_append_right (by simp;omega)];obtain⟨q,rfl⟩:∃q,t=i+q:=⟨t-i,by omega⟩
 cases q with
 |zero=>simp
 |succ q=>
  simp only[List.length_map,List.length_range,show i+(q+1)-i=q+1 by omega,List.getElem_cons_succ,List.getElem_map,List.getElem_range]
  congr 1
  omega
theorem J1{f:Nat->Itm}{n:Nat}{x:Itm}(h:x∈d4 f n):∃t,t<n/\x=f t:=by
 unfold d4 at h;obtain⟨t,ht,rfl⟩:=List.mem_map.1 h;exact⟨t,List.mem_range.1 ht,rfl⟩
theorem qz{f:Nat->Itm}{n i:Nat}{key:Int}(hi:i<n)(hm:∀t,t<i->(f t).key≠key)(h:(f i).key=key):(d4 f n).find? (isK key)=some (f i):=by
 rw[List.find?_eq_some_iff_append];refine⟨by simp[isK,h],d4 f i,_,ge f n i hi,fun a ha=>?_⟩;obtain⟨t,ht,rfl⟩:=J1 ha;simp[isK,hm t ht]
theorem mQ{f:Nat->Itm}{n:Nat}{key:Int}(hm:∀t,t<n->(f t).key≠key):(d4 f n).find? (isK key)=none:=by
 rw[List.find?_eq_none];intro a ha;obtain⟨t,ht,rfl⟩:=J1 ha;simp[isK,hm t ht]
def lQ(p:Nat->Bool)(n:Nat):Int:=match(List.range n).find? p with
 |some i=>(i:Int)
 |none=> -1
theorem jj{p:Nat->Bool}{n i:Nat}(hi:i<n)(hm:∀t,t<i->p t=false)(h:p i=true):lQ p n=(i:Int):=by
 have:(List.range n).find? p=some i:=by
  rw[List.find?_eq_some_iff_append];refine⟨h,List.range i,(List.range (n-i-1)).map fun j=>i+1+j,?_,fun a ha=>by rw[hm a (List.mem_range.1 ha)];rfl⟩;apply List.ext_getElem
  .simp;omega
  intro t h1 h2;have ht:t<n:=by simpa using h1
  simp only[List.getElem_range]
  by_cases hti:t<i
  .rw [List.getElem_append_left (by simpa using hti)];simp
  rw[List.getElem_append_right (by simp;omega)];obtain⟨q,rfl⟩:∃q,t=i+q:=⟨t-i,by omega⟩
  cases q with
  |zero=>simp
  |succ q=>simp[show i+(q+1)-i=q+1 by omega];omega
 simp[lQ,this]
theorem kI{p:Nat->Bool}{n:Nat}(hm:∀t,t<n->p t=false):lQ p n = -1:=by
 have:(List.range n).find? p=none:=by
  rw[List.find?_eq_none];intro a ha;rw[hm a (List.mem_range.1 ha)]
  decide
 simp[lQ,this]
theorem mF(p:Nat->Bool)(n:Nat):(∃i,i<n/\lQ p n=(i:Int)/\p i=true/\∀t,t<i->p t=false) \/ (lQ p n = -1/\∀t,t<n->p t=false):=by
 induction n with
 |zero=>exact .inr ⟨rfl,fun t ht=>absurd ht (Nat.not_lt_zero _)⟩
 |succ n ih=>
  rcases ih with⟨i,h1,h2,h3,h4⟩|⟨h1,h2⟩
  .exact .inl ⟨i,by omega,jj (by omega) h4 h3,h3,h4⟩
  cases hp:p n with
  |true=>exact .inl ⟨n,by omega,jj (by omega) h2 hp,hp,h2⟩
  |false=>
   have:∀t,t<n+1->p t=false:=fun t ht=>by
    by_cases h:t=n
    .rw [h];exact hp
    exact h2 t (by omega)
   exact .inr ⟨kI this,this⟩
def bu(l:List Itm)(key:Int):List Itm:=l.filter fun x=>!isK key x
def sc(l:List Itm)(key:Int):List Itm:=l.takeWhile fun x=>decide (x.key<key)
def Fi(l:List Itm)(key:Int)(val:ByteArray):List Itm:=sc (bu l key) key++⟨key,val⟩::(bu l key).drop (sc (bu l key) key).length
def iN(l:List Itm)(key:Int)(val:ByteArray):List Itm:=if 64<val.size then l else Fi l key val
def ofL(l:List Itm):List Itm:=l.foldl (fun m x=>iN m x.key x.val) []
def Srt(l:List Itm):Prop:=l.Pairwise fun x y=>x.key<y.key
theorem jd{f:Nat->Itm}{n:Nat}(h:okF f n=true):∀i j,i<j->j<n->(f i).key<(f j).key:=by
 intro i j hij
 induction j with
 |zero=>omega
 |succ j ih=>
  intro hj;have hk:=yj (f:=f) (i:=j+1) hj h;unfold eo at hk;simp only[Bool.and_eq_true,decide_eq_true_eq,Bool.or_eq_true,beq_iff_eq]at hk;have h2:(f j).key<(f (j+1)).key:=by
   rcases hk.2 with h0|h0
   .omega
   simpa using h0
  by_cases he:i=j
  .rw [he];exact h2
  have:=ih (by omega) (by omega);omega
theorem je{f:Nat->Itm}{n:Nat}(h:okF f n=true):Srt (d4 f n):=by
 unfold Srt d4;rw[List.pairwise_map];refine List.Pairwise.imp_of_mem ?_ (List.pairwise_lt_range (n:=n));intro a b ha hb hab;exact jd h a b hab (List.mem_range.1 hb)
theorem W0(f:Nat->Itm)(i:Nat):ofL (d4 f (i+1))=iN (ofL (d4 f i)) (f i).key (f i).val:=by
 unfold ofL d4;rw[List.range_succ,List.map_append,List.foldl_append];rfl
section
variable {l:List Itm} {key:Int} {p:Nat}
end
end Go.Proofs.YtmbkanpapkhnaaaGreat
namespace Go.Proofs.YtmbkanpapkhnaaaGreat.Sym
open Go Go.RowKit
theorem lz{f:Nat->Itm}{n:Nat}{key:Int}(hs:∀i j,i<j->j<n->(f i).key<(f j).key):∀k lo hi,hi-lo<=k->lo<=hi->hi<=n->(∀t,t<lo->(f t).key<key)->(∀t,hi<=t->t<n->key<=(f t).key) →
  lo<=bsF f key lo hi/\bsF f key lo hi<=hi/\(∀t,t<bsF f key lo hi->(f t).key<key)/\∀t,bsF f key lo hi<=t->t<n->key<=(f t).key
 |0,lo,hi,hk,h1,h2,h3,h4=>by
  rw[oU (by omega)];exact⟨Nat.le_refl _,h1,h3,fun t ht=>h4 t (by omega)⟩
 |k+1,lo,hi,hk,h1,h2,h3,h4=>by
  by_cases hlt:lo<hi
  .obtain ⟨m,hm⟩:∃m,m=(lo+hi) / 2:=⟨_,rfl⟩
   by_cases hkm:(f m).key<key
   .rw [zX hlt hm hkm]
    obtain⟨a,b,c,d⟩:=lz hs k (m+1) hi (by omega) (by omega) h2 (fun t ht=>by
     by_cases h:t=m
     .rw [h];exact hkm
     have:=hs t m (by omega) (by omega);omega) h4
    exact⟨by omega,b,c,d⟩
   rw[zY hlt hm hkm];obtain⟨a,b,c,d⟩:=lz hs k lo m (by omega) (by omega) (by omega) h3 (fun t ht htn=>by
    by_cases h:t=m
    .rw [h];omega
    have:=hs m t (by omega) htn;omega)
   exact⟨a,by omega,c,d⟩
  rw[oU hlt];exact⟨Nat.le_refl _,h1,h3,fun t ht=>h4 t (by omega)⟩
theorem kQ(f:Nat->Itm)(p m:Nat):d4 f (p+m)=d4 f p++d4 (fun j=>f (p+j)) m:=by
 unfold d4;rw[List.range_add,List.map_append,List.map_map];rfl
theorem sB{f:Nat->Itm}{n:Nat}{l:Lab}(hok:okF f n=true)(hki:∀i,i<n->U64 (f i).key)(hl:isL l=true)(hb:U64 l.bits)(h64:l.len≠64)(hc:∀i,i<n->s4 l (f i).key=true){p:Nat}(hp:p=bsF f (D3 l 1).bits 0 n) :
  p<=n/\J2 (D3 l 0) (d4 f n)=d4 f p/\J2 (D3 l 1) (d4 f n)=d4 (fun j=>f (p+j)) (n-p):=by
 obtain⟨_,h1,h2,h3⟩:=lz (f:=f) (n:=n) (key:=(D3 l 1).bits) (jd hok) n 0 n (by omega) (Nat.zero_le _) (Nat.le_refl _) (fun t ht=>absurd ht (Nat.not_lt_zero _)) (fun t h1 h2=>absurd h2 (by omega));rw[<-hp]at h1 h2 h3;have hsp:=kQ f p (n-p);rw[show p+(n-p)=n by omega]at hsp;have cc:=fun i hi=>wP hl hb h64 (hki i hi) (hc i hi)
 refine⟨h1,?_,?_⟩
 .rw [hsp]
  unfold J2;rw[List.filter_append,List.filter_eq_self.2 (fun x hx=>by
   obtain⟨t,ht,rfl⟩:=J1 hx;rw[(cc t (by omega)).1];exact decide_eq_true (h2 t ht)),List.filter_eq_nil_iff.2 (fun x hx=>by
   obtain⟨t,ht,rfl⟩:=J1 hx;rw[(cc (p+t) (by omega)).1];have:=h3 (p+t) (by omega) (by omega);simp;omega),List.append_nil]
 rw[hsp];unfold J2;rw[List.filter_append,List.filter_eq_nil_iff.2 (fun x hx=>by
  obtain⟨t,ht,rfl⟩:=J1 hx;rw[(cc t (by omega)).2];have:=h2 t ht;simp;omega),List.filter_eq_self.2 (fun x hx=>by
  obtain⟨t,ht,rfl⟩:=J1 hx;rw[(cc (p+t) (by omega)).2];exact decide_eq_true (h3 (p+t) (by omega) (by omega))),List.nil_append]
theorem li{l:Lab}{f:Nat->Itm}{n:Nat}:(J2 l (d4 f n)).length=n ↔ ∀i,i<n->s4 l (f i).key=true:=by
 have:=CB (l:=l) (its:=d4 f n);rw[i6]at this;rw[this]
 constructor
 .intro h i hi
  exact h (f i) (List.mem_map.2 ⟨i,List.mem_range.2 hi,rfl⟩)
 intro h x hx;obtain⟨t,ht,rfl⟩:=J1 hx;exact h t ht
theorem Er{l:Lab}{b:Int}(hl:isL l=true)(h64:l.len≠64):chE l b=0/\chV l b=D3 l b:=by
 have h:chE l b=0:=by
  unfold chE;rw[hl,if_neg (by decide),if_neg h64]
 exact⟨h,by unfold chV;rw[if_pos h]⟩
theorem kX:o3 Tryz.prog 72:=fun _ _=>by kernel_rfl
theorem wA:o3 Tryz.prog 285:=fun _ _=>by kernel_rfl
theorem FM(b:Nat)(l:Lab)(hb0:U64 l.bits)(k:Int)(v:ByteArray)(hk:U64 k):L4 Tryz.prog 285 [.agg [.int .u64 k,.str v],.ptr 0 b 0] [(0,⟨b,24,[.int .i64 l.len,.int .u64 l.bits]⟩)] (fun _=>⟨.bool (.v (!s4 l k)),[(0,[.int .i64 l.len,.int .u64 l.bits])],[]⟩):=by
 intro m w hm hargs hpre;have S:=uM l hb0 k hk;simp only[i9]at S
 generalize s4 l k=cq at S ⊢
 refine enX 9 hm hpre hargs Tryz.func285 fun B O a0 Z=>?_
 refine a6 [1,2] [0,2] Z fun X0 Z=>?_
 refine j6 [3] [0] [(3,.r fun _=>.bool (.v cq))] Z (hob:=?hob) fun X1 Z=>?_
 case hob=>
  intro X;subst O
  repeat(first|exact trivial|refine⟨rfl,?_⟩|refine⟨fun _=>rfl,?_⟩|refine⟨C3 (Kk:=noK) _ _ _ _,?_⟩|refine⟨fun _=>C3 (Kk:=noK) _ _ _ _,?_⟩|refine⟨⟨qG,S⟩,?_⟩|refine⟨fun _=>⟨qG,S⟩,?_⟩)
 refine j2 ((rx O a8 Z G6 [] (he:=?_)).1);subst O;exact Sim.bool rfl
theorem wG:o3 Tryz.prog 136:=fun _ _=>by kernel_rfl
theorem Ce(b:Nat)(A:Option Addr)(n c:Nat)(f:Nat->Itm)(hn:n<=1000000)(l:Lab)(hb0:U64 l.bits)(hki:∀i,i<n->U64 (f i).key):L4 Tryz.prog 136 [r6 A n c f,.fn 285 [] [.ptr 0 b 0]] [(0,⟨b,24,[.int .i64 l.len,.int .u64 l.bits]⟩)] (fun _=>⟨.int .i64 (lQ (fun t=>!s4 l (f t).key) n),[(0,[.int .i64 l.len,.int .u64 l.bits])],[]⟩):=by
 intro m w hm hargs hpre;have hmx:maxLen=9223372036854775807:=rfl;unfold r6 at hargs;refine enX 19 hm hpre hargs Tryz.func136 fun B O a0 Z=>?_
 refine a6 [0,1] [0] Z fun X0 Z=>?_
 refine a7 (a6 [8,0,1,7] [0] Z fun X1 Z=>?_);refine j0 (r9 (ι:=Nat) (fun p=>[(8,.int .i64 (p:Int))]) (fun p=>[]) (fun p=>[]) (fun p=>p<=n/\∀t,t<p->(!s4 l (f t).key)=false) (fun p=>n-p) 0 ⟨Nat.zero_le _,fun t ht=>absurd ht (Nat.not_lt_zero _)⟩ Z ?_)
 rintro i ⟨hi,hlt⟩ _ _ Z
 try dsimp only at hi
 try dsimp only at hlt
 refine a6 [9,8,0,1,7] [0] Z fun X2 Z=>?_
 refine a7 (d7 Z rfl (fun hb Z=>?_) (fun hb Z=>?_))
 .have hin:i<n:=by
   have:(i:Int)<(n:Int):=by subst O;simpa[std,b7]using hb
   omega
  have S:=FM b l hb0 (f i).key (f i).val (hki i hin);obtain⟨q,hq⟩:=eqv (!s4 l (f i).key);rw[<-hq]at S;refine f9 (a7 (j0 (a6 [5,8,0,1,7] [0] Z fun X3 Z=>?_)));refine j6 [16,5,8,0,1,7] [0] [(5,.x fun _=>⟨.bool (.v q),[(0,[.int .i64 l.len,.int .u64 l.bits])],[]⟩)] Z (hob:=?hob) fun X4 Z=>?_
  case hob=>
   intro X;subst O
   repeat(first|exact trivial|refine⟨rfl,?_⟩|refine⟨⟨show(0:Int)<=(i:Int)by omega,show(i:Int)<(n:Int)by omega⟩,?_⟩|refine⟨⟨wA,S⟩,?_⟩)
  apply d7 Z rfl<;>intro hb Z
  .have hqt:q=true:=hb
   refine a6 [4] [0] Z fun X5 Z=>?_
   refine j2 ((rx O a8 Z G6 [] (he:=?_)).1);subst O;rw[jj (p:=fun t=>!s4 l (f t).key) hin hlt (by show(!s4 l (f i).key)=true;rw[<-hq];exact hqt)];exact zr
  have hqf:q=false:=hb;refine f9 (j5 [8,0,1,7] [0] Z fun X6 Z=>?_);have e:B.arith .add .i64 (i:Int) 1=((i+1:Nat):Int):=by subst O;exact j7 (n:=n) hin (by omega)
  refine⟨i+1,⟨by omega,fun t ht=>?_⟩,by omega,by rw[<-e];exact Z⟩
  by_cases h:t=i
  .rw [h,<-hq];exact hqf
  exact hlt t (by omega)
 have hout:i=n:=by
  have:¬(i:Int)<(n:Int):=by subst O;simpa[std,b7]using hb
  omega
 rw[hout]at hlt;refine o4 (a6 [4] [0] Z fun X7 Z=>?_);refine j2 ((rx O a8 Z G6 [] (he:=?_)).1);subst O;rw[kI (p:=fun t=>!s4 l (f t).key) hlt];exact zr
theorem qE:o3 Tryz.prog 74:=fun _ _=>by kernel_rfl
theorem Cf(b:Nat)(A:Option Addr)(n c:Nat)(f:Nat->Itm)(hn:n<=1000000)(l:Lab)(hb0:U64 l.bits)(hki:∀i,i<n->U64 (f i).key):L4 Tryz.prog 74 [r6 A n c f,.fn 285 [] [.ptr 0 b 0]] [(0,⟨b,24,[.int .i64 l.len,.int .u64 l.bits]⟩)] (fun _=>⟨.bool (.v (!decide ((J2 l (d4 f n)).length=n))),[(0,[.int .i64 l.len,.int .u64 l.bits])],[]⟩):=by
 intro m w hm hargs hpre;have S:=Ce b A n c f hn l hb0 hki;have HC:=mF (fun t=>!s4 l (f t).key) n
 generalize (lQ (fun t=>!s4 l (f t).key) n)=ix at S HC
 unfold r6 at S hargs;refine enX 9 hm hpre hargs Tryz.func74 fun B O a0 Z=>?_
 refine a6 [0,1] [0] Z fun X0 Z=>?_
 refine j6 [4] [0] [(2,.x fun _=>⟨.int .i64 ix,[(0,[.int .i64 l.len,.int .u64 l.bits])],[]⟩)] Z (hob:=?hob) fun X1 Z=>?_
 case hob=>
  intro X;subst O
  repeat(first|exact trivial|refine⟨rfl,?_⟩|refine⟨⟨show(0:Int)<=(i:Int)by omega,show(i:Int)<(n:Int)by omega⟩,?_⟩|refine⟨⟨wG,S⟩,?_⟩)
 refine j2 ((rx O a8 Z G6 [] (he:=?_)).1);subst O;refine Sim.bool ?_
 show decide (ix ≥ 0) = !decide ((J2 l (d4 f n)).length=n)
 rw[decide_eq_decide.2 (li (l:=l) (f:=f) (n:=n))]
 rcases HC with⟨i,h1,h2,h3,h4⟩|⟨h1,h2⟩
 .have h5:¬∀i,i<n->s4 l (f i).key=true:=fun h=>by have:=h i h1;simp[this]at h3
  rw[decide_eq_false h5,h2];simp
 have h5:∀i,i<n->s4 l (f i).key=true:=fun i hi=>by simpa using h2 i hi
 rw[decide_eq_true h5,h1];rfl
theorem FO(k0:Nat)(b:Nat)(A:Option Addr)(n c:Nat)(f:Nat->Itm)(hn:n<=1000000)(l:Lab)(hb0:U64 l.bits)(hki:∀i,i<n->U64 (f i).key):L4 Tryz.prog 74 [r6 A n c f,.fn 285 [] [.ptr k0 b 0]] [(k0,⟨b,24,[.int .i64 l.len,.int .u64 l.bits]⟩)] (fun _=>⟨.bool (.v (!decide ((J2 l (d4 f n)).length=n))),[(k0,[.int .i64 l.len,.int .u64 l.bits])],[]⟩):=
 (Cf b A n c f hn l hb0 hki).re (by repeat(first|exact trivial|refine⟨Sim.ptr,?_⟩|refine⟨Sim.fn ⟨Sim.ptr,trivial⟩ trivial,?_⟩|refine⟨Sim.fn trivial ⟨Sim.ptr,trivial⟩,?_⟩|refine⟨zr,?_⟩)) rfl (fun x=>⟨rfl,rfl,zr,rfl⟩)
theorem wl(A:Option Addr)(n c:Nat)(f:Nat->Itm)(hn:n<=1000000)(kd:Int)(nx:Lab)(mk:Int)(hv:U64 nx.bits)(hki:∀i,i<n->U64 (f i).key)(l:Lab)(hb0:U64 l.bits)(hil:(N7 kd n f nx mk&&isL l)=false):l7 Tryz.prog 259 [bR A n c f kd nx mk,i9 l] (fun x=>.tup [pT (x.A 0) (x.c 0) (R4 kd n f nx mk l).1,pT (x.A 1) (x.c 1) (R4 kd n f nx mk l).2.1,.int .i64 (R4 kd n f nx mk l).2.2]):=by
 intro m w hm hargs;have hmx:maxLen=9223372036854775807:=rfl;have SI:=kF A n c f (by omega) kd nx mk hv;have SL:=eB l hb0;unfold bR r6 at SI hargs;simp only[i9]at SL hargs;obtain⟨ir,hir⟩:=eqv (N7 kd n f nx mk);obtain⟨il,hll⟩:=eqv (isL l);rw[<-hir]at SI hil;rw[<-hll]at SL hil;have hW:(R4 kd n f nx mk l)=(j3,j3,1):=by unfold R4;rw[<-hir,<-hll,hil];rfl
 refine en 79 hm hargs Tryz.func259 fun B O a0 Z=>?_
 refine a6 [2,3,4,5] [2,3,4,5] Z fun X0 Z=>?_
 refine a6 [7,2,3,4,5] [2,3,4,5] Z fun X1 Z=>?_
 refine a7 (j0 (a7 (wp_region_lit (lpr 0 9 O a8 [24,7,2,3,4,5] [2,3,4,5] [(1,.r fun _=>.bool (.v ir)),(5,.r fun _=>.bool (.v il))] Z (hob:=?hob) fun X2_0 _ _ Z=>?_))))
 case hob=>
  intro X;subst O
  repeat(first|exact trivial|refine⟨rfl,?_⟩|refine⟨fun _=>rfl,?_⟩|refine⟨C3 (Kk:=noK) _ _ _ _,?_⟩|refine⟨fun _=>C3 (Kk:=noK) _ _ _ _,?_⟩|refine⟨⟨aq,SI⟩,?_⟩|refine⟨fun _=>⟨aq,SI⟩,?_⟩|refine⟨⟨V2,SL⟩,?_⟩|refine⟨fun _=>⟨V2,SL⟩,?_⟩)
 replace Z:=Z.headS (v':=.bool .tt) (Sim.bool (by subst O;show(if(!ir)=true then true else !il)=true;cases ir<;>cases il<;>first|rfl|(cases hil))) rfl;refine lnd 9 O a8 [15,2,3,4,5] [2,3,4,5] [(1,.r fun _=>.bool (.v ir)),(5,.r fun _=>.bool (.v il))] Z (hob:=?hob) fun X2 _ _ Z=>?_
 case hob=>
  intro X;subst O
  repeat(first|exact trivial|refine⟨rfl,?_⟩|refine⟨fun _=>rfl,?_⟩|refine⟨C3 (Kk:=noK) _ _ _ _,?_⟩|refine⟨fun _=>C3 (Kk:=noK) _ _ _ _,?_⟩)
 refine D5 Z rfl (fun Z=>?_);refine a6 [4,5,6] [2,3,4,5] Z fun X3 Z=>?_
 refine j2 ((rsi O a8 Z (⟨0,fun _=>none,fun _=>0,fun _=>⟨#[]⟩⟩) (he:=?_)));subst O;rw[hW];exact Sim.tup ⟨Sim.agg ⟨zr,zq0,zr,zr,zr,trivial⟩,Sim.agg ⟨zr,zq0,zr,zr,zr,trivial⟩,zr,trivial⟩
theorem sA(A:Option Addr)(n c:Nat)(f:Nat->Itm)(hn:n<=1000000)(kd:Int)(nx:Lab)(mk:Int)(hv:U64 nx.bits)(hki:∀i,i<n->U64 (f i).key)(l:Lab)(hb0:U64 l.bits)(hil:(N7 kd n f nx mk&&isL l)=true):l7 Tryz.prog 259 [bR A n c f kd nx mk,i9 l] (fun x=>.tup [pT (x.A 0) (x.c 0) (R4 kd n f nx mk l).1,pT (x.A 1) (x.c 1) (R4 kd n f nx mk l).2.1,.int .i64 (R4 kd n f nx mk l).2.2]):=by
 intro m w hm hargs;have hmx:maxLen=9223372036854775807:=rfl;have SI:=kF A n c f (by omega) kd nx mk hv;have SL:=eB l hb0;unfold bR r6 at SI hargs;simp only[i9]at SL hargs;obtain⟨ir,hir⟩:=eqv (N7 kd n f nx mk);obtain⟨il,hll⟩:=eqv (isL l);rw[<-hir]at SI hil;rw[<-hll]at SL hil;rw[Bool.and_eq_true]at hil;have hLt:isL l=true:=by rw[<-hll];exact hil.2
 obtain⟨hl0,hl1,hl2⟩:=z8 hLt;obtain⟨hkd1,hkd5,hn16,hnl,hok⟩:=M8 (hir.symm.trans hil.1);refine en 79 hm hargs Tryz.func259 fun B O a0 Z=>?_
 refine a6 [2,3,4,5] [2,3,4,5] Z fun X0 Z=>?_
 refine a6 [7,2,3,4,5] [2,3,4,5] Z fun X1 Z=>?_
 have SC:=FO 3 (X0 1).b A n c f hn l hb0 hki;obtain⟨ca,hca⟩:=eqv (decide ((J2 l (d4 f n)).length=n));rw[<-hca]at SC;unfold r6 at SC;refine a7 (j0 (a7 (wp_region_lit (lpr 0 9 O a8 [24,7,2,3,4,5] [2,3,4,5] [(1,.r fun _=>.bool (.v ir)),(5,.r fun _=>.bool (.v il)),(12,.x fun _=>⟨.bool (.v (!ca)),[(3,[.int .i64 l.len,.int .u64 l.bits])],[]⟩)] Z (hob:=?hob) fun X2_0 _ _ Z=>?_))))
 case hob=>
  intro X;subst O
  repeat(first|exact trivial|refine⟨rfl,?_⟩|refine⟨fun _=>rfl,?_⟩|refine⟨C3 (Kk:=noK) _ _ _ _,?_⟩|refine⟨fun _=>C3 (Kk:=noK) _ _ _ _,?_⟩|refine⟨⟨aq,SI⟩,?_⟩|refine⟨fun _=>⟨aq,SI⟩,?_⟩|refine⟨⟨V2,SL⟩,?_⟩|refine⟨fun _=>⟨V2,SL⟩,?_⟩)
 replace Z:=Z.headS (v':=.bool .ff) (Sim.bool (by subst O;show(if(!ir)=true then true else !il)=false;rw[hil.1,hil.2];rfl)) rfl;refine lnd 9 O a8 [15,2,3,4,5] [2,3,4,5] [(1,.r fun _=>.bool (.v ir)),(5,.r fun _=>.bool (.v il)),(12,.x fun _=>⟨.bool (.v (!ca)),[(3,[.int .i64 l.len,.int .u64 l.bits])],[]⟩)] Z (hob:=?hob) fun X2 _ _ Z=>?_
 case hob=>
  intro X;subst O
  repeat(first|exact trivial|refine⟨rfl,?_⟩|refine⟨fun _=>rfl,?_⟩|refine⟨C3 (Kk:=noK) _ _ _ _,?_⟩|refine⟨fun _=>C3 (Kk:=noK) _ _ _ _,?_⟩|refine⟨⟨qE,SC⟩,?_⟩|refine⟨fun _=>⟨qE,SC⟩,?_⟩)
 apply d7 Z rfl<;>intro hb Z
 .have hcf:ca=false:=by
   have h9:(!ca)=true:=by subst O;exact hb
   cases ca<;>first|rfl|(cases h9)
  have hW:(R4 kd n f nx mk l)=(j3,j3,1):=by unfold R4;rw[<-hir,<-hll,<-hca,hil.1,hil.2,hcf];rfl
  refine a6 [4,5,6] [2,3,4,5] Z fun X3 Z=>?_
  refine j2 ((rsi O a8 Z (⟨0,fun _=>none,fun _=>0,fun _=>⟨#[]⟩⟩) (he:=?_)));subst O;rw[hW];exact Sim.tup ⟨Sim.agg ⟨zr,zq0,zr,zr,zr,trivial⟩,Sim.agg ⟨zr,zq0,zr,zr,zr,trivial⟩,zr,trivial⟩
 have hct:ca=true:=by
  have h9:(!ca)=false:=by subst O;exact hb
  cases ca<;>first|rfl|(cases h9)
 have hcn:=of_decide_eq_true (hca.symm.trans hct);have hcc:=li.1 hcn;refine a6 [32,2,3,4,5] [2,3,4,5] Z fun X4 Z=>?_
 apply d7 Z rfl<;>intro hb Z
 .have h9:(if(!decide (kd=1))=true then !decide (kd=3)else false)=true:=by subst O;exact hb
  have hk:kd≠1/\kd≠3:=by
   rw[M7]at h9
   simpa using h9
  have hW:(R4 kd n f nx mk l)=(j3,j3,13):=by unfold R4;rw[<-hir,<-hll,<-hca,hil.1,hil.2,hct,if_neg (by decide),if_pos hk]
  refine a6 [4,5,6] [2,3,4,5] Z fun X5 Z=>?_
  refine j2 ((rsi O a8 Z (⟨0,fun _=>none,fun _=>0,fun _=>⟨#[]⟩⟩) (he:=?_)));subst O;rw[hW];exact Sim.tup ⟨Sim.agg ⟨zr,zq0,zr,zr,zr,trivial⟩,Sim.agg ⟨zr,zq0,zr,zr,zr,trivial⟩,zr,trivial⟩
 have h9:(if(!decide (kd=1))=true then !decide (kd=3)else false)=false:=by subst O;exact hb
 have hk:¬(kd≠1/\kd≠3):=by
  intro h;rw[M7]at h9;simp[h.1,h.2]at h9
 refine a6 [43,2,3,4,5] [2,3,4,5] Z fun X6 Z=>?_
 apply d7 Z rfl<;>intro hb Z
 .have h64:l.len=64:=by subst O;simpa[std,b7]using hb
  have hW:(R4 kd n f nx mk l)=(j3,j3,5):=by unfold R4;rw[<-hir,<-hll,<-hca,hil.1,hil.2,hct,if_neg (by decide),if_neg hk,if_pos h64]
  refine a6 [4,5,6] [2,3,4,5] Z fun X7 Z=>?_
  refine j2 ((rsi O a8 Z (⟨0,fun _=>none,fun _=>0,fun _=>⟨#[]⟩⟩) (he:=?_)));subst O;rw[hW];exact Sim.tup ⟨Sim.agg ⟨zr,zq0,zr,zr,zr,trivial⟩,Sim.agg ⟨zr,zq0,zr,zr,zr,trivial⟩,zr,trivial⟩
 have h64:l.len≠64:=by subst O;simpa[std,b7]using hb
 obtain⟨k,hk1⟩:=eqv (D3 l 1);have SCH:=jr l hb0 1 (.inr rfl);rw[(Er (b:=1) hLt h64).1,(Er (b:=1) hLt h64).2,<-hk1]at SCH;simp only[i9]at SCH;have SA:=JI A n c f hn k.bits;obtain⟨p,hp⟩:=eqv (bsF f k.bits 0 n);rw[<-hp]at SA;rw[hk1]at hp;obtain⟨hpn,hc0,hc1⟩:=sB hok hki hLt hb0 h64 hcc hp
 generalize we f k.bits n p=hh at SA
 unfold r6 at SA;have hW:(R4 kd n f nx mk l)=(⟨1,J2 (D3 l 0) (d4 f n),D3 l 1,0⟩,⟨1,J2 (D3 l 1) (d4 f n),nx,0⟩,0):=by unfold R4;rw[<-hir,<-hll,<-hca,hil.1,hil.2,hct,if_neg (by decide),if_neg hk,if_neg h64]
 rw[hc0,hc1,<-hk1]at hW;have SC0:=fun A c=>clone_sf A p c f (by omega)
 obtain⟨r,hr⟩:=eqv (n-p);rw[<-hr]at hW;have SC1:=fun A c=>clone_sf A r c (fun j=>f (p+j)) (by omega)
 unfold r6 at SC0 SC1;refine f9 (j6 [2,4,5,8] [2,8,4,5] [(1,.r fun _=>.tup [.agg [.int .i64 k.len,.int .u64 k.bits],.int .i64 0])] Z (hob:=?hob) fun X8 Z=>?_)
 case hob=>
  intro X;subst O
  repeat(first|exact trivial|refine⟨rfl,?_⟩|refine⟨fun _=>rfl,?_⟩|refine⟨C3 (Kk:=noK) _ _ _ _,?_⟩|refine⟨fun _=>C3 (Kk:=noK) _ _ _ _,?_⟩|refine⟨⟨mX,SCH⟩,?_⟩|refine⟨fun _=>⟨mX,SCH⟩,?_⟩)
 refine j6 [2,4,5,8,10] [2,8,4,5] [(4,.r fun _=>.tup [.int .i64 (p:Int),.bool (.v hh)])] Z (hob:=?hob) fun X9 Z=>?_
 case hob=>
  intro X;subst O
  repeat(first|exact trivial|refine⟨rfl,?_⟩|refine⟨fun _=>rfl,?_⟩|refine⟨C3 (Kk:=noK) _ _ _ _,?_⟩|refine⟨fun _=>C3 (Kk:=noK) _ _ _ _,?_⟩|refine⟨⟨mV,SA⟩,?_⟩|refine⟨fun _=>⟨mV,SA⟩,?_⟩)
 refine a7 (drg O a8 [2,4,5,8,10,12] [2,8,12,4,5] [(4,.r fun x=>.sl none (x.A 0) p (x.c 0) 2 (fun i=>itC (f i)))] Z (hob:=?hob) fun X10 _ _ Z=>?_)
 case hob=>
  intro X;subst O;refine⟨rfl,?_⟩;refine⟨⟨Int.le_refl _,show(0:Int)<=(p:Int)by omega,show(p:Int)<=(n:Int)by omega⟩,?_⟩
  refine⟨⟨kX,(SC0 _ _).sim ⟨Sim.resl (Nat.sub_zero p) (fun i hi=>by show itC (f (0+i))=itC (f i);rw[Nat.zero_add]),trivial⟩⟩,?_⟩
  repeat(first|exact trivial|refine⟨rfl,?_⟩|refine⟨⟨kX,(SC0 _ _).sim ⟨Sim.resl (Nat.sub_zero p) (fun i hi=>by show itC (f (0+i))=itC (f i);rw[Nat.zero_add]),trivial⟩⟩,?_⟩|refine⟨⟨Int.le_refl _,show(0:Int)<=(p:Int)by omega,show(p:Int)<=(n:Int)by omega⟩,?_⟩|refine⟨⟨show(0:Int)<=0 by omega,show(0:Int)<=(p:Int)by omega,show(p:Int)<=(c:Int)by omega⟩,?_⟩)
 refine a7 (drg O a8 [4,5,12,13] [12,13,4,5] [(4,.r fun x=>.sl none (x.A 0) r (x.c 0) 2 (fun i=>itC (f (p+i))))] Z (hob:=?hob) fun X11 _ _ Z=>?_)
 case hob=>
  intro X;subst O
  repeat(first|exact trivial|refine⟨rfl,?_⟩|refine⟨⟨kX,(SC1 _ _).sim ⟨Sim.resl (show _=r by rw[hr];rfl) (fun i hi=>rfl),trivial⟩⟩,?_⟩|refine⟨⟨show(0:Int)<=(p:Int)by omega,show(p:Int)<=(n:Int)by omega,Int.le_refl _⟩,?_⟩)
 refine a7 (drg O a8 [4,5,6] [4,5] [] Z (hob:=?hob) fun X12 _ _ Z=>?_)
 case hob=>
  intro X;subst O
  repeat(first|exact trivial|refine⟨rfl,?_⟩|refine⟨fun _=>rfl,?_⟩|refine⟨C3 (Kk:=noK) _ _ _ _,?_⟩|refine⟨fun _=>C3 (Kk:=noK) _ _ _ _,?_⟩)
 refine j2 ((rsi O a8 Z (⟨0,fun i=>if i=0 then(X10 4).A 0 else(X11 4).A 0,fun i=>if i=0 then(X10 4).c 0 else(X11 4).c 0,fun _=>⟨#[]⟩⟩) (he:=?_)));subst O;rw[hW];exact Sim.tup ⟨Sim.agg ⟨zr,Sim.resl (i6 f p).symm (fun t ht=>by rw[i6]at ht;rw[s7 f p t ht]),zr,zr,zr,trivial⟩,Sim.agg ⟨zr,Sim.resl (i6 _ r).symm (fun t ht=>by rw[i6]at ht;rw[s7 _ r t ht]),zr,zr,zr,trivial⟩,zr,trivial⟩
theorem tx{n:Nat}{m:Bool}(h:(if decide ((n:Int)>0)=true then m else false)=true):0<n/\m=true:=by
 rw[M7,Bool.and_eq_true,decide_eq_true_eq]at h;exact⟨by omega,h.2⟩
theorem AI{n N:Nat}(hn:n<=1000)(h:(if decide ((n:Int)>0)=true then decide ((n:Int)<(N:Int))else false)=true):0<=IntKind.i64.wrap ((n:Int)-1)/\IntKind.i64.wrap ((n:Int)-1)<(N:Int):=by
 obtain⟨h1,h2⟩:=tx h;have h2:=of_decide_eq_true h2;rw[s5 (by omega) (by omega)];omega
theorem AH{n N:Nat}(h:(if decide ((n:Int)>0)=true then decide ((n:Int)<(N:Int))else false)=true):0<=(n:Int)/\(n:Int)<(N:Int):=by
 obtain⟨h1,h2⟩:=tx h;have h2:=of_decide_eq_true h2;omega
def ll(n:Nat)(f f2:Nat->Itm):Nat->Itm:=fun t=>if t<n then f t else f2 (t-n)
def oR(NN:Nat->Nat)(FF:Nat->Nat->Itm)(k:Nat):List Itm:=(List.range k).flatMap fun i=>d4 (FF i) (NN i)
theorem ng(NN:Nat->Nat)(FF:Nat->Nat->Itm)(k:Nat):oR NN FF (k+1)=oR NN FF k++d4 (FF k) (NN k):=by simp[oR,List.range_succ]
theorem zU(n n2:Nat)(f f2:Nat->Itm):oR (fun i=>if i=0 then n else n2) (fun i=>if i=0 then f else f2) 2=d4 f n++d4 f2 n2:=by simp[oR,List.range_succ]
theorem iD(q m:Nat)(g h:Nat->Itm):d4 (ll q g h) (q+m)=d4 g q++d4 h m:=by
 rw[kQ]
 congr 1
 .unfold d4 ll
  apply List.map_congr_left;intro t ht;rw[if_pos (List.mem_range.1 ht)]
 unfold d4 ll;apply List.map_congr_left;intro t ht;rw[if_neg (by omega)]
 congr 1
 omega
theorem zT(f:Nat->Itm)(n:Nat)(f2:Nat->Itm)(n2 t:Nat)(h:t<n+n2):itF (d4 f n++d4 f2 n2) t=ll n f f2 t:=by
 rw[<-iD,s7 _ _ t h]
theorem By(f:Nat->Itm)(n:Nat)(f2:Nat->Itm)(n2:Nat)(hn:n<=1000)(hn2:n2<=1000){b:Bool}:(if b=true then true else(if(if decide ((n:Int)>0)=true then decide ((n:Int)<((n+n2:Nat):Int))else false)=true then decide ((itF (d4 f n++d4 f2 n2) (IntKind.i64.wrap ((n:Int)-1)).toNat).key ≥ (itF (d4 f n++d4 f2 n2) (n:Int).toNat).key)else false))=(if b=true then true else ovl n f n2 f2):=by
 congr 1
 unfold ovl
 by_cases h1:0<n
 .by_cases h2:0<n2
  .have e1:IntKind.i64.wrap ((n:Int)-1)=(n:Int)-1:=s5 (by omega) (by omega)
   rw[e1,Int.toNat_natCast,show((n:Int)-1).toNat=n-1 by omega,zT _ _ _ _ _ (show n-1<n+n2 by omega),zT _ _ _ _ _ (show n<n+n2 by omega)];have c1:ll n f f2 (n-1)=f (n-1):=by unfold ll;rw[if_pos (by omega)]
   have c2:ll n f f2 n=f2 0:=by unfold ll;rw[if_neg (by omega),Nat.sub_self]
   rw[c1,c2];have a:decide ((n:Int)>0)=true:=by simp;omega
   have b:decide ((n:Int)<((n+n2:Nat):Int))=true:=by simp;omega
   rw[a,b,decide_eq_true h1,decide_eq_true h2];simp
  have b:decide ((n:Int)<((n+n2:Nat):Int))=false:=by simp;omega
  rw[b,decide_eq_false h2];simp
 have a:decide ((n:Int)>0)=false:=by simp;omega
 rw[a,decide_eq_false h1];simp
theorem wy:o3 Tryz.prog 295:=fun _ _=>by kernel_rfl
theorem wz:o3 Tryz.prog 286:=fun _ _=>by kernel_rfl
theorem zO(A0:Option Addr)(k c0:Nat)(AA:Nat->Option Addr)(NN CC:Nat->Nat)(FF:Nat->Nat->Itm)(hk:k<=10)(hN:∀i,i<k->NN i<=1000):l7 Tryz.prog 286 [.sl none A0 k c0 1 (fun i=>[.sl none (AA i) (NN i) (CC i) 2 (fun t=>itC (FF i t))])] (fun x=>r6 (x.A 0) (oR NN FF k).length (x.c 0) (itF (oR NN FF k))):=by
 intro m w hm hargs;have hmx:maxLen=9223372036854775807:=rfl;refine en 36 hm hargs Tryz.func286 fun B O a0 Z=>?_
 refine a6 [0] [] Z fun X0 Z=>?_
 refine a6 [3,0] [] Z fun X1 Z=>?_
 refine a7 (a6 [3,11,0,9,10] [] Z fun X2 Z=>?_);refine j0 (r9 (ι:=Nat×Nat) (fun p=>[(3,.int .i64 (p.2:Int)),(11,.int .i64 (p.1:Int))]) (fun p=>[]) (fun p=>[]) (fun p=>p.1<=k/\p.2=(oR NN FF p.1).length/\p.2<=1000*p.1) (fun p=>k-p.1) (0,0) ⟨Nat.zero_le _,rfl,Nat.le_refl _⟩ Z ?_)
 rintro⟨i,z⟩ ⟨hi,hz,hzb⟩ a0 w1 Z
 try dsimp only at hi
 try dsimp only at hz
 try dsimp only at hzb
 refine a6 [12,3,11,0,9,10] [] Z fun X3 Z=>?_
 refine a7 (d7 Z rfl (fun hb Z=>?_) (fun hb Z=>?_))
 .have hin:i<k:=by
   have:(i:Int)<(k:Int):=by subst O;simpa[std,b7]using hb
   omega
  have hNi:=hN i hin;refine f9 (a7 (j0 (a6 [5,3,11,0,9,10] [] Z (hob:=?hob) fun X4 Z=>?_)))
  case hob=>
   intro X;subst O
   repeat(first|exact trivial|refine⟨rfl,?_⟩|refine⟨⟨show(0:Int)<=(i:Int)by omega,show(i:Int)<(k:Int)by omega⟩,?_⟩)
  refine a6 [3,11,0,9,10] [] Z fun X5 Z=>?_
  obtain⟨z2,hz2⟩:=eqv (z+NN i);replace Z:=Z.head (v':=.int .i64 (z2:Int)) (by
   subst O
   show AV.int .i64 (IntKind.i64.wrap ((z:Int)+(NN i:Int)))=_
   rw[s5 (by omega) (by omega),hz2];rfl)
  refine a6 [20,3,11,0,9,10] [] Z fun X6 Z=>?_
  apply d7 Z rfl<;>intro hb Z
  .exfalso
   have:(z2:Int)<0:=by subst O;simpa[std,b7]using hb
   omega
  skip
  refine f9 (j5 [3,11,0,9,10] [] Z fun X8 Z=>?_);have e:B.arith .add .i64 (i:Int) 1=((i+1:Nat):Int):=by subst O;exact j7 (n:=k) hin (by omega)
  refine⟨(i+1,z2),⟨by simp only;omega,?_,by simp only;omega⟩,by simp only;omega,by rw[<-e];exact Z⟩;simp only;rw[hz2,ng,List.length_append,i6,<-hz]
 have hout:i=k:=by
  have:¬(i:Int)<(k:Int):=by subst O;simpa[std,b7]using hb
  omega
 rw[hout]at hz hzb;refine o4 (a7 (wp_region_lit (lpr 0 1 O a8 [23,0] [] [] Z fun X9_0 a0 w1 Z=>?_)));have ev:=zj Z (t:=23) (k:=.i64) (n:=(z:Int)) rfl;refine rY (argv:=#[.slice none 0 0,.int .i64 (z:Int)]) rfl rfl rfl rfl rfl Z (by have e2:=ev;simp[Act.eval]at e2 ⊢;exact e2) wy (by show 24<36;decide) (e:=62) (k:=2) (by decide) (fun t=>itC C0) (FS w1 z (by omega)) ?_
 intro A9 c9 a0 w1 Z;refine lnd 2 O a8 [6,0] [24] [] Z fun X9 a0 w1 Z=>?_
 refine a7 (a6 [6,27,25,26] [24] Z fun X10 Z=>?_);refine j0 (r9 (ι:=Nat×Nat×(Nat->Itm)×Option Addr×Nat) (fun p=>[(6,.sl (some 24) p.2.2.2.1 p.2.1 p.2.2.2.2 2 (fun t=>itC (p.2.2.1 t))),(27,.int .i64 (p.1:Int))]) (fun p=>[]) (fun p=>[(24,⟨p.2.2.2.1,p.2.1,p.2.2.2.2,2,62⟩)]) (fun p=>p.1<=k/\d4 p.2.2.1 p.2.1=oR NN FF p.1/\p.2.1<=1000*p.1) (fun p=>k-p.1) (0,0,fun _=>C0,A9,c9) ⟨Nat.zero_le _,rfl,Nat.le_refl _⟩ Z ?_)
 rintro⟨i,q,g,A1,c1⟩ ⟨hi,hg,hqb⟩ a0 w1 Z
 try dsimp only at hi
 try dsimp only at hg
 try dsimp only at hqb
 refine a6 [28,6,27,25,26] [24] Z fun X11 Z=>?_
 refine a7 (d7 Z rfl (fun hb Z=>?_) (fun hb Z=>?_))
 .have hin:i<k:=by
   have:(i:Int)<(k:Int):=by subst O;simpa[std,b7]using hb
   omega
  have hNi:=hN i hin;refine f9 (a7 (j0 (a6 [8,6,27,25,26] [24] Z (hob:=?hob) fun X12 Z=>?_)))
  case hob=>
   intro X;subst O
   repeat(first|exact trivial|refine⟨rfl,?_⟩|refine⟨⟨show(0:Int)<=(i:Int)by omega,show(i:Int)<(k:Int)by omega⟩,?_⟩)
  refine j5 [6,27,25,26] [24] Z (hob:=?hob) fun X13 Z=>?_
  case hob=>
   intro X;subst O
   repeat(first|exact trivial|refine⟨⟨rfl,rfl,rfl⟩,?_⟩|refine⟨⟨show q+NN i<=maxLen by omega,show(q+NN i)*_<=_ by omega⟩,?_⟩|refine⟨rfl,?_⟩)
  replace Z:=Z.headS (v':=.sl (some 24) ((X13 2).A 0) (B.nadd q (NN (B.toNat (i:Int)))) ((X13 2).c 0) 2 (fun t=>itC (ll q g (FF i) t))) (Sim.resl rfl (fun t ht=>by
   subst O
   show B8 q (fun t=>itC (g t)) (fun t=>itC (FF i t)) t=_
   unfold B8 ll
   split<;>rfl)) rfl
  refine j5 [6,27,25,26] [24] Z fun X14 Z=>?_
  have e:B.arith .add .i64 (i:Int) 1=((i+1:Nat):Int):=by subst O;exact j7 (n:=k) hin (by omega)
  refine⟨(i+1,q+NN i,ll q g (FF i),_,_),⟨by simp only;omega,?_,by simp only;omega⟩,by simp only;omega,by rw[<-e,show q+NN i=B.nadd q (NN (B.toNat (i:Int)))by subst O;rfl];exact Z⟩
  simp only;rw[ng,iD,hg]
 have hout:i=k:=by
  have:¬(i:Int)<(k:Int):=by subst O;simpa[std,b7]using hb
  omega
 rw[hout]at hg;refine o4 (a6 [2] [2,33] Z fun X15 Z=>?_);refine j2 ((rsi O a8 Z (⟨0,fun _=>A1,fun _=>c1,fun _=>⟨#[]⟩⟩) (he:=?_)));subst O;exact Sim.resl (by rw[<-hg,i6]) (fun t ht=>by rw[<-hg,i6]at ht;rw[<-hg,s7 _ _ t ht])
theorem ef:o3 Tryz.prog 287:=fun _ _=>by kernel_rfl
theorem uD(A:Option Addr)(n c:Nat)(f:Nat->Itm)(hn:n<=1000000)(kd:Int)(nx:Lab)(mk:Int):l7 Tryz.prog 287 [bR A n c f kd nx mk] (fun _=>.bool (.v (decide (kd=1)||decide (kd=5)))):=by
 intro m w hm hargs;unfold bR r6 at hargs;refine en 11 hm hargs Tryz.func287 fun B O a0 Z=>?_
 refine a6 [1] [1] Z fun X0 Z=>?_
 refine a6 [2] [] Z fun X1 Z=>?_
 refine B4 Z ?_;subst O;exact Sim.bool (by show(if decide (kd=1)=true then true else decide (kd=5))=_;rw[sn];rfl)
theorem AG(A:Option Addr)(n c:Nat)(f:Nat->Itm)(hn:n<=1000)(kd:Int)(nx:Lab)(mk:Int)(hv:U64 nx.bits)(A2:Option Addr)(n2 c2:Nat)(f2:Nat->Itm)(hn2:n2<=1000)(kd2:Int)(nx2:Lab)(mk2:Int)(hv2:U64 nx2.bits):l7 Tryz.prog 265 [bR A n c f kd nx mk,bR A2 n2 c2 f2 kd2 nx2 mk2] (fun x=>.tup [pT (x.A 0) (x.c 0) (iI kd n f nx mk kd2 n2 f2 nx2 mk2).1,.int .i64 (iI kd n f nx mk kd2 n2 f2 nx2 mk2).2]):=by
 intro m w hm hargs;have hmx:maxLen=9223372036854775807:=rfl;have SI:=kF A n c f (by omega) kd nx mk hv;have SI2:=kF A2 n2 c2 f2 (by omega) kd2 nx2 mk2 hv2;obtain⟨i1,hi1⟩:=eqv (N7 kd n f nx mk);obtain⟨i2,hi2⟩:=eqv (N7 kd2 n2 f2 nx2 mk2);obtain⟨ov,hov⟩:=eqv (ovl n f n2 f2);rw[<-hi1]at SI;rw[<-hi2]at SI2;unfold bR r6 at SI SI2 hargs;have SF:=uD A n c f (by omega) kd nx mk;have SF2:=uD A2 n2 c2 f2 (by omega) kd2 nx2 mk2;unfold bR r6 at SF SF2;obtain⟨x1,hx1⟩:=eqv ((decide (kd=1)||decide (kd=5)));obtain⟨x2,hx2⟩:=eqv ((decide (kd2=1)||decide (kd2=5)));rw[<-hx1]at SF;rw[<-hx2]at SF2;have SC:=fun A0=>zO A0 2 2 (fun i=>if i=0 then A else A2) (fun i=>if i=0 then n else n2) (fun i=>if i=0 then c else c2) (fun i=>if i=0 then f else f2) (by decide) (fun i hi=>by show(if i=0 then n else n2)<=1000;split<;>omega)
 rw[zU]at SC;obtain⟨N,hN⟩:=eqv ((d4 f n++d4 f2 n2).length);obtain⟨g,hg⟩:=eqv (itF (d4 f n++d4 f2 n2));rw[<-hN,<-hg]at SC;have hNn:N=n+n2:=by rw[hN,List.length_append,i6,i6]
 have hot:=By (b:=(if(!i1)=true then true else !i2)) f n f2 n2 (by omega) (by omega);rw[<-hg,<-hNn,<-hov]at hot;unfold r6 at SC;refine en 70 hm hargs Tryz.func265 fun B O a0 Z=>?_
 refine a6 [2,3,4] [2,3,4] Z fun X0 Z=>?_
 refine j6 [6,2,3,4] [2,3,4] [(5,.r fun x=>.sl none (x.A 0) N (x.c 0) 2 (fun i=>itC (g i)))] Z (hob:=?hob) fun X1 Z=>?_
 case hob=>
  intro X;subst O
  repeat(first|exact trivial|refine⟨rfl,?_⟩|refine⟨⟨wz,(SC _).sim ⟨Sim.resl rfl (fun i hi=>by have h2:i=0 \/ i=1:=(by omega);rcases h2 with rfl|rfl<;>rfl),trivial⟩⟩,?_⟩)
 refine a6 [7,6,2,3,4] [2,3,4] Z fun X2 Z=>?_
 replace Z:=Z.head (v':=.int .i64 (n:Int)) (by subst O;rfl);refine a7 (j0 (a7 (drg O a8 [17,6,7,2,3,4] [2,3,4] [(1,.r fun _=>.bool (.v i1)),(5,.r fun _=>.bool (.v i2))] Z (hob:=?hob) fun X3 _ _ Z=>?_)))
 case hob=>
  intro X;subst O;simp only[f8,Ob.holds,BE.den,List.mem_cons,List.not_mem_nil,or_false,forall_eq_or_imp,forall_eq]
  and_intros<;>first|trivial|exact aq|exact SI|exact SI2|(intros;first|trivial|exact aq|exact SI2|exact⟨aq,SI2⟩)|(intro h;first|exact AI hn h.1|exact AH h.1)
 apply d7 Z rfl<;>intro hb Z
 .have h9:(if(if(!i1)=true then true else !i2)=true then true else(if(if decide ((n:Int)>0)=true then decide ((n:Int)<(N:Int))else false)=true then decide ((g (IntKind.i64.wrap ((n:Int)-1)).toNat).key ≥ (g (n:Int).toNat).key)else false))=true:=by subst O;exact hb
  rw[hot]at h9;have hW:(iI kd n f nx mk kd2 n2 f2 nx2 mk2)=(j3,1):=by unfold iI;rw[<-hi1,<-hi2,<-hov];cases i1<;>cases i2<;>cases ov<;>first|rfl|(simp at h9)
  refine a6 [4,5] [4] Z fun X4 Z=>?_
  refine j2 ((rsi O a8 Z (⟨0,fun _=>none,fun _=>0,fun _=>⟨#[]⟩⟩) (he:=?_)));subst O;rw[hW];exact Sim.tup ⟨Sim.agg ⟨zr,zq0,zr,zr,zr,trivial⟩,zr,trivial⟩
 have h9:(if(if(!i1)=true then true else !i2)=true then true else(if(if decide ((n:Int)>0)=true then decide ((n:Int)<(N:Int))else false)=true then decide ((g (IntKind.i64.wrap ((n:Int)-1)).toNat).key ≥ (g (n:Int).toNat).key)else false))=false:=by subst O;exact hb
 rw[hot]at h9;have h12:i1=true/\i2=true/\ov=false:=by cases i1<;>cases i2<;>cases ov<;>first|exact⟨rfl,rfl,rfl⟩|(simp at h9)
 obtain⟨h1t,h2t,hovf⟩:=h12;have hU:(iI kd n f nx mk kd2 n2 f2 nx2 mk2)=(if ¬(kd=1 \/ kd=5) \/ ¬(kd2=1 \/ kd2=5)then(j3,13)else if 16<n+n2 then(j3,12)else(⟨1,d4 f n++d4 f2 n2,nx2,0⟩,0)):=by unfold iI;rw[<-hi1,<-hi2,<-hov,h1t,h2t,hovf];rfl
 refine j6 [51,6,3,4] [3,4] [(1,.r fun _=>.bool (.v x1)),(5,.r fun _=>.bool (.v x2))] Z (hob:=?hob) fun X5 Z=>?_
 case hob=>
  intro X;subst O
  repeat(first|exact trivial|refine⟨rfl,?_⟩|refine⟨fun _=>rfl,?_⟩|refine⟨C3 (Kk:=noK) _ _ _ _,?_⟩|refine⟨fun _=>C3 (Kk:=noK) _ _ _ _,?_⟩|refine⟨⟨ef,SF⟩,?_⟩|refine⟨fun _=>⟨ef,SF⟩,?_⟩|refine⟨⟨ef,SF2⟩,?_⟩|refine⟨fun _=>⟨ef,SF2⟩,?_⟩)
 apply d7 Z rfl<;>intro hb Z
 .have h9:(if(!x1)=true then true else !x2)=true:=by subst O;exact hb
  have hfx:¬(kd=1 \/ kd=5) \/ ¬(kd2=1 \/ kd2=5):=by
   cases h1:x1 with
   |false=>left;rw[h1]at hx1;simpa using hx1.symm
   |true=>
    right
    rw[h1]at h9;have h2:x2=false:=by cases x2<;>first|rfl|(simp at h9)
    rw[h2]at hx2;simpa using hx2.symm
  have hW:(iI kd n f nx mk kd2 n2 f2 nx2 mk2)=(j3,13):=by rw[hU,if_pos hfx]
  refine a6 [4,5] [4] Z fun X6 Z=>?_
  refine j2 ((rsi O a8 Z (⟨0,fun _=>none,fun _=>0,fun _=>⟨#[]⟩⟩) (he:=?_)));subst O;rw[hW];exact Sim.tup ⟨Sim.agg ⟨zr,zq0,zr,zr,zr,trivial⟩,zr,trivial⟩
 have h9:(if(!x1)=true then true else !x2)=false:=by subst O;exact hb
 have hfx:¬(¬(kd=1 \/ kd=5) \/ ¬(kd2=1 \/ kd2=5)):=by
  have h1:x1=true/\x2=true:=by cases x1<;>cases x2<;>first|exact⟨rfl,rfl⟩|(simp at h9)
  rw[h1.1]at hx1;rw[h1.2]at hx2;have a:=hx1.symm;have b:=hx2.symm;simp only[Bool.or_eq_true,decide_eq_true_eq]at a b;intro h
  rcases h with h|h
  .exact h a
  exact h b
 refine a6 [61,6,3,4] [3,4] Z fun X7 Z=>?_
 apply d7 Z rfl<;>intro hb Z
 .have hf16:16<n+n2:=by
   have:(16:Int)<(N:Int):=by subst O;simpa[std,b7]using hb
   omega
  have hW:(iI kd n f nx mk kd2 n2 f2 nx2 mk2)=(j3,12):=by rw[hU,if_neg hfx,if_pos hf16]
  refine a6 [4,5] [4] Z fun X8 Z=>?_
  refine j2 ((rsi O a8 Z (⟨0,fun _=>none,fun _=>0,fun _=>⟨#[]⟩⟩) (he:=?_)));subst O;rw[hW];exact Sim.tup ⟨Sim.agg ⟨zr,zq0,zr,zr,zr,trivial⟩,zr,trivial⟩
 have hf16:¬16<n+n2:=by
  have:¬(16:Int)<(N:Int):=by subst O;simpa[std,b7]using hb
  omega
 have hW:(iI kd n f nx mk kd2 n2 f2 nx2 mk2)=(⟨1,d4 f n++d4 f2 n2,nx2,0⟩,0):=by rw[hU,if_neg hfx,if_neg hf16]
 refine f9 (a6 [4,5] [4] Z fun X9 Z=>?_);refine j2 ((rsi O a8 Z (⟨0,fun _=>(X1 5).A 0,fun _=>(X1 5).c 0,fun _=>⟨#[]⟩⟩) (he:=?_)));subst O;rw[hW];exact Sim.tup ⟨Sim.agg ⟨zr,Sim.resl hN (fun t ht=>by rw[hg]),zr,zr,zr,trivial⟩,zr,trivial⟩
structure LOk(l:Lab):Prop where
 isl:isL l=true
 u:U64 l.bits
theorem J8:LOk ⟨0,0⟩:=⟨by decide,by decide,by decide⟩
theorem LOk.ch{l:Lab}(h:LOk l)(b:Int):LOk (chV l b):=by
 unfold chV
 split
 .rename_i he
  have h64:l.len≠64:=by
   intro h64;unfold chE at he;rw[h.isl]at he;simp[h64]at he
  exact⟨bB h.isl h.u h64 b,oQ h.isl h.u h64 b⟩
 exact J8
theorem LOk.par{l:Lab}(h:LOk l):LOk (V9 l):=by
 unfold V9
 split
 .rename_i he
  have h0:l.len≠0:=by
   intro h0;unfold aw at he;rw[h.isl]at he;simp[h0]at he
  exact⟨Bx h.isl h.u h0,HX h.u⟩
 exact J8
theorem fF{f:Nat->Itm}{c:Nat}{A:Option Addr}:Sim (.sl none A 0 c 2 (fun _=>[])) (.sl none A 0 c 2 (fun i=>itC (f i))):=Sim.recell fun i hi=>absurd hi (Nat.not_lt_zero _)
theorem FQ(x:RA)(h:bF x)(l:Lab)(hl:U64 l.bits):l7 Tryz.prog 259 [N6 x,i9 l] (fun y=>.tup [N6 ⟨y.A 0,y.c 0,(N8 x l).1.rn⟩,N6 ⟨y.A 1,y.c 1,(N8 x l).2.1.rn⟩,.int .i64 (N8 x l).2.2]):=by
 have hf:=h.few
 cases hb:(N7 x.r.kd x.r.n x.r.f x.r.nx x.r.mrk&&isL l)with
 |false=>exact wl x.A x.r.n x.c x.r.f (by omega) x.r.kd x.r.nx x.r.mrk h.nx h.key l hl hb
 |true=>exact sA x.A x.r.n x.c x.r.f (by omega) x.r.kd x.r.nx x.r.mrk h.nx h.key l hl hb
theorem GX(x y:RA)(h:bF x)(h':bF y):l7 Tryz.prog 265 [N6 x,N6 y] (fun z=>.tup [N6 ⟨z.A 0,z.c 0,(cK x y).1.rn⟩,.int .i64 (cK x y).2]):=by
 have hf:=h.few;have hf':=h'.few;exact AG x.A x.r.n x.c x.r.f (by omega) x.r.kd x.r.nx x.r.mrk h.nx y.A y.r.n y.c y.r.f (by omega) y.r.kd y.r.nx y.r.mrk h'.nx
def fzR:Fz->RA
 | .fr x=>x
 |_=>zRA
def fzI:Fz->Int
 | .over=>0
 | .unfit=>1
 | .fr _=>2
def uH(z:Fz):AV:=.tup [N6 (fzR z),.int .i64 (fzI z)]
theorem Ip{z:Fz}(h:fzI z=0):z = .over:=by cases z<;>first|rfl|(simp[fzI]at h)
theorem Io{z:Fz}(h:fzI z=1):z = .unfit:=by cases z<;>first|rfl|(simp[fzI]at h)
theorem In{z:Fz}(h0:fzI z≠0)(h1:fzI z≠1):z = .fr (fzR z):=by cases z<;>first|rfl|exact absurd rfl h0|exact absurd rfl h1
theorem D9 (bk k:Int) (n:Nat) (l up:Lab) (p:Pst):cU bk k (n + 1) l up p=(N0 k l p).bind fun g p => if gk g 5=true then (N0 k up p).bind fun q p =>
      (if(gk q 3||gk q 4)=true then cP bk k n up q p else .ok () p).bind fun _ p=>
        if gk q 2=true then(aN k l g.ver (asR 1 g.x 0).r.abs p).bind fun d p=>if d=true then .ok () p else cU bk k n l up p else .ok () p else .ok () p:=rfl
section
def ClC(n:Nat):Prop:=∀(k0 b:Nat) (J:l4) (hJ:u7 J) (A:Option Addr) (c:Nat) (p:Pst) (hp:j8 p) (hn:p.n<=1000000) (l:Lab) (hl:LOk l),p.n<n->s8 266 k0 b J A c p [i9 l] (fun _=>G1) (P0 J.budget n l p)
def ThC(n:Nat):Prop:=∀(k0 b:Nat) (J:l4) (hJ:u7 J) (A:Option Addr) (c:Nat) (p:Pst) (hp:j8 p) (hn:p.n<=1000000) (l:Lab) (hl:LOk l),p.n<n->s8 228 k0 b J A c p [i9 l] (fun _=>G1) (T3 J.bucket J.budget n l p)
def Dh(n:Nat):Prop:=∀(k0 b:Nat) (J:l4) (hJ:u7 J) (A:Option Addr) (c:Nat) (p:Pst) (hp:j8 p) (hn:p.n<=1000000) (l:Lab) (hl:LOk l) (g:r5) (hg:eD g),p.n<n->s8 165 k0 b J A c p [i9 l,F4 g] (fun _=>G1) (cP J.bucket J.budget n l g p)
end
theorem FW(b:Nat)(J:l4)(hJ:u7 J)(A:Option Addr)(c:Nat)(p:Pst)(hp:j8 p)(hn:p.n<=1000000)(l:Lab)(v:Int)(d:Lab)(n:Nat)(hf:p.n<n):s8 263 0 b J A c p [i9 l,.int .u64 v,i9 d] (uH) (ap J.budget l v d n p):=by
 intro m w hm hargs hpre;refine enX 52 hm hpre hargs Tryz.func263 fun B O a0 Z=>?_
 refine a6 [0,2,5,7,8] [0,5,7,8] Z fun X0 Z=>?_
 refine j0 (r9 (ι:=Nat×Pst×Option Addr×Nat) (fun q=>[]) (fun q=>[(0,⟨b,139,D4 J q.2.2.1 q.2.2.2 q.2.1⟩)]) (fun q=>[]) (fun q=>ap J.budget l v d n p=ap J.budget l v d q.1 q.2.1/\j8 q.2.1/\q.2.1.n<=1000000/\q.2.1.n<q.1) (fun q=>q.1) (n,p,A,c) ⟨rfl,hp,hn,hf⟩ Z ?_)
 rintro⟨nn,p0,A0,c0⟩ ⟨hrun,hp0,hn0,hf0⟩ a0 w1 Z
 try dsimp only at hrun
 try dsimp only at hp0
 try dsimp only at hn0
 try dsimp only at hf0
 obtain⟨n2,rfl⟩:∃n2,nn=n2+1:=⟨nn-1,by omega⟩
 refine j0 (a7 ?_)
 rcases(V0 0 b J hJ A0 c0 p0 hp0 hn0 d).two (l3 _ _ _) hp0 hn0 with⟨w1,p1,hm1,O1⟩|⟨g1,p1,hm1,hs1,hp1,hn1,S1⟩
 .refine stp 2 O a8 [12,13] [0] [] Z O1 fun _ _ _ _ Z hk=>?_
  exact thm (P:=Tryz.prog) (fn:=Tryz.f263) (q:=p1) Z hk (by simp[hrun,ap,Rs.bind,hm1])
 have hl1:=I1 hm1;have hg1:=hp0.get hm1;have O1:=S1;refine j4 [0,2,5,7,8,10] [0,5,7,8,10] [(2,rc J (F4 g1) p1)] Z fun X1 Z=>?_
 obtain⟨q2,hq2⟩:=eqv ((gk g1 1||gk g1 5));refine a7 (j0 (a7 ?_));refine j4 [15,0,2,5,7,8,10] [0,5,7,8,10] [(2,.r fun _=>.bool (.v q2))] Z (hob:=by intro X;subst O;simp only[f8,Ob.holds,BE.den]<;>and_intros<;>repeat first|trivial|rfl|exact(by rw[hq2];exact aH g1 _ _ 1 5 _ rfl rfl)|exact by rw[hq2];exact aH g1 _ _ 1 5 _ rfl rfl|exact(fun _ _=>by kernel_rfl)|refine⟨?_,?_⟩|intro h|exact Int.le_refl _|decide|omega) fun X2 Z=>?_
 apply d7 Z rfl<;>intro hb Z
 .have tq2:(gk g1 1||gk g1 5)=false:=by subst O;rw[<-hq2];revert hb;cases q2<;>simp[std]
  refine a6 [8,9] [0,8] Z fun X3 Z=>?_
  refine j2 ((rmm O a8 Z (v:=Fz.unfit) (q:=p1) ((X1 2).A 0) ((X1 2).c 0) (by simp[hrun,ap,Rs.bind,hm1,tq2]) (he:=?_)).1);subst O;exact Sim.tup ⟨Sim.agg ⟨zr,fF,zr,zr,zr,trivial⟩,zr,trivial⟩
 have tq2:(gk g1 1||gk g1 5)=true:=by subst O;rw[<-hq2];revert hb;cases q2<;>simp[std]
 obtain⟨q4,hq4⟩:=eqv (gk g1 5);refine a7 ?_;refine j4 [21,0,2,5,7,8,10] [0,5,7,8,10] [(2,.r fun _=>.bool (.v q4))] Z (hob:=by intro X;subst O;simp only[f8,Ob.holds,BE.den]<;>and_intros<;>repeat first|trivial|rfl|exact(by rw[hq4];exact F0 g1 _ _ 5 _ rfl)|exact by rw[hq4];exact F0 g1 _ _ 5 _ rfl|exact(fun _ _=>by kernel_rfl)|refine⟨?_,?_⟩|intro h|exact Int.le_refl _|decide|omega) fun X4 Z=>?_
 apply d7 Z rfl<;>intro hb Z
 .have t4:(gk g1 5&&decide (g1.x.r.mrk=v))=true:=by subst O;rw[<-hq4];revert hb;cases q4<;>simp[std,b7]
  refine a6 [8,9] [0,8] Z fun X5 Z=>?_
  exact j2 ((rmm O a8 Z (v:=(Fz.fr g1.x)) (q:=p1) ((X1 2).A 0) ((X1 2).c 0) (by simp[hrun,ap,Rs.bind,hm1,tq2,t4])).1)
 have t4:(gk g1 5&&decide (g1.x.r.mrk=v))=false:=by subst O;rw[<-hq4];revert hb;cases q4<;>simp[std,b7]
 refine a7 ?_
 rcases(iY 0 b J hJ ((X1 2).A 0) ((X1 2).c 0) p1 hp1 hn1 l v).two (l3 _ _ _) hp1 hn1 with⟨w6,p6,hm6,O1⟩|⟨g6,p6,hm6,hs6,hp6,hn6,S6⟩
 .refine stp 3 O a8 [35,36,37] [0] [] Z O1 fun _ _ _ _ Z hk=>?_
  exact thm (P:=Tryz.prog) (fn:=Tryz.f263) (q:=p6) Z hk (by simp[hrun,ap,Rs.bind,hm1,tq2,t4,hm6])
 have hl6:=I1 hm6;have hg6:=hp1.get hm6
 try dsimp only at S6
 obtain⟨d6,hd6⟩:=eqv (decide (g6.ver=v));rw[<-hd6]at S6;have O1:=S6;refine j4 [34,0,2,5,7,8,10] [0,5,7,8,10] [(3,rc J (.bool (.v d6)) p6)] Z fun X6 Z=>?_
 apply d7 Z rfl<;>intro hb Z
 .have t6:¬g6.ver=v:=by
   have h9:(!d6)=true:=by subst O;exact hb
   rw[hd6]at h9;simpa using h9
  refine a6 [8,9] [0,8] Z fun X7 Z=>?_
  refine j2 ((rmm O a8 Z (v:=Fz.over) (q:=p6) ((X6 3).A 0) ((X6 3).c 0) (by simp[hrun,ap,Rs.bind,hm1,tq2,t4,hm6,t6]) (he:=?_)).1);subst O;exact Sim.tup ⟨Sim.agg ⟨zr,fF,zr,zr,zr,trivial⟩,zr,trivial⟩
 have t6:g6.ver=v:=by
  have h9:(!d6)=false:=by subst O;exact hb
  rw[hd6]at h9;simpa using h9
 have O1:=sX 5 g1.x v;refine f9 (j6 [0,2,5,7,8,10,11] [0,5,7,8,10,11] [(3,.r fun _=>N6 (asR 5 g1.x v))] Z fun X8 Z=>?_);refine a7 ?_
 rcases(gD 0 b J hJ ((X6 3).A 0) ((X6 3).c 0) p6 hp6 hn6 d g1.ver (asR 5 g1.x v)).two (A4 _ _ _ _ _) hp6 hn6 with⟨w9,p9,hm9,O1⟩|⟨d9,p9,hm9,hs9,hp9,hn9,S9⟩
 .refine stp 5 O a8 [45,46,48,49] [0] [] Z O1 fun _ _ _ _ Z hk=>?_
  exact thm (P:=Tryz.prog) (fn:=Tryz.f263) (q:=p9) Z hk (by simp[hrun,ap,Rs.bind,hm1,tq2,t4,hm6,t6,hm9])
 have O1:=S9;refine j4 [50,0,2,5,7,8,11] [0,5,7,8,11] [(5,rc J (.bool (.v d9)) p9)] Z fun X9 Z=>?_
 apply d7 Z rfl<;>intro hb Z
 .have t9:d9=true:=by exact hb
  refine a6 [8,9] [0,8] Z fun X10 Z=>?_
  exact j2 ((rmm O a8 Z (v:=(Fz.fr (asR 5 g1.x v))) (q:=p9) ((X9 5).A 0) ((X9 5).c 0) (by simp[hrun,ap,Rs.bind,hm1,tq2,t4,hm6,t6,hm9,t9])).1)
 have t9:d9=false:=by exact hb
 replace Z:=Z.keep [0,2,5,7,8] [0,5,7,8];exact f9 (⟨(n2,p9,_,_),⟨by rw[hrun];simp[ap,Rs.bind,hm1,tq2,t4,hm6,t6,hm9,t9],hp9,hn9,by dsimp only;have:=hl1;have:=hs6.le;have:=hs9.le;have:=hf0;omega⟩,by simp only;omega,Z⟩)
theorem Ej(k0 b:Nat)(J:l4)(hJ:u7 J)(A:Option Addr)(c:Nat)(p:Pst)(hp:j8 p)(hn:p.n<=1000000)(l:Lab)(v:Int)(d:Lab)(n:Nat)(hf:p.n<n):s8 263 k0 b J A c p [i9 l,.int .u64 v,i9 d] (uH) (ap J.budget l v d n p):=s8.re (FW b J hJ A c p hp hn l v d n hf) (by repeat(first|exact trivial|refine⟨zr,?_⟩))
theorem lp(k0 b:Nat)(J:l4)(hJ:u7 J)(A:Option Addr)(c:Nat)(p:Pst)(hp:j8 p)(hn:p.n<=1000000)(l:Lab)(v:Int):s8 163 k0 b J A c p [i9 l,.int .u64 v,Ij] (fun d=>.bool (.v d)) (aN J.budget l v dC p):=
 s8.re (gD 0 b J hJ A c p hp hn l v ⟨none,0,dC.rn⟩) ⟨zr,zr,Sim.agg ⟨zr,fF,zr,zr,zr,trivial⟩,trivial⟩
theorem GJ(b:Nat)(J:l4)(hJ:u7 J)(A:Option Addr)(c:Nat)(p:Pst)(hp:j8 p)(hn:p.n<=1000000)(l:Lab)(hl:LOk l)(v:Int)(n:Nat)(hth:ThC n)(hf:p.n<n):s8 264 0 b J A c p [i9 l,.int .u64 v] (fun _=>G1) (eu J.budget (T3 J.bucket J.budget n) l v p):=by
 intro m w hm hargs hpre;have SC:=uO l hl.u;have hk0:=hl.ch 0;have hk1:=hl.ch 1;simp only[i9]at SC;obtain⟨x0,hx0⟩:=eqv (chV l 0);rw[<-hx0]at SC hk0;obtain⟨x1,hx1⟩:=eqv (chV l 1);rw[<-hx1]at SC hk1;refine enX 23 hm hpre hargs Tryz.func264 fun B O a0 Z=>?_
 refine a6 [0,2,4] [0,4] Z fun X0 Z=>?_
 refine a7 (a7 ?_)
 rcases(lp 0 b J hJ A c p hp hn l v).two (A4 _ _ _ _ _) hp hn with⟨w1,p1,hm1,O1⟩|⟨d1,p1,hm1,hs1,hp1,hn1,S1⟩
 .have O2:=eC
  refine jD 4 O a8 [8,9,10,11] [0] [(3,.r fun _=>.agg [.int .i64 2,.sl none none 0 0 2 (fun _=>[]),.int .i64 (-1),.int .u64 0,.int .u64 0])] Z O1 fun _ _ _ _ Z hk=>?_
  exact thm (P:=Tryz.prog) (fn:=Tryz.f264) (q:=p1) Z hk (by simp[eu,<-hx0,<-hx1,Rs.bind,hm1])
 have O1:=eC;have O2:=S1;refine drg O a8 [13,0,4] [0,4] [(3,.r fun _=>.agg [.int .i64 2,.sl none none 0 0 2 (fun _=>[]),.int .i64 (-1),.int .u64 0,.int .u64 0]),(4,rc J (.bool (.v d1)) p1)] Z fun X1 a0 w1 Z=>?_
 apply d7 Z rfl<;>intro hb Z
 .have t1:d1=false:=by subst O;revert hb;cases d1<;>simp[std]
  exact j2 ((rmm O a8 Z (v:=()) (q:=p1) ((X1 4).A 0) ((X1 4).c 0) (by simp[eu,<-hx0,<-hx1,Rs.bind,hm1,t1])).1)
 have t1:d1=true:=by subst O;revert hb;cases d1<;>simp[std]
 have O1:=SC;refine f9 (j6 [16,0,15] [0] [(1,.r fun _=>.agg [.int .i64 x0.len,.int .u64 x0.bits,.int .i64 x1.len,.int .u64 x1.bits])] Z fun X2 Z=>?_);refine j0 (wp_loop_rounds 3 (Y3 (a6 [17,0,15,16] [0] Z fun X3 Z=>?_)));replace Z:=Z.headS (v':=.bool .tt) (Sim.bool (by subst O;rfl)) rfl;refine a7 (D5 Z rfl (fun Z=>?_));refine f9 (a7 (j0 (a6 [0,7,15,16] [0,7] Z fun X4 Z=>?_)))
 rcases(hth 0 b J hJ ((X1 4).A 0) ((X1 4).c 0) p1 hp1 hn1 x0 hk0 (by have:=Nat.lt_of_le_of_lt hs1.le hf;omega)).two (J0 _ _ _ _ _) hp1 hn1 with⟨w50,p50,hm50,O1⟩|⟨_u50,p50,hm50,hs50,hp50,hn50,S50⟩
 .refine stp 2 O a8 [19,20] [0] [] Z O1 fun _ _ _ _ Z hk=>?_
  exact thm (P:=Tryz.prog) (fn:=Tryz.f264) (q:=p50) Z hk (by simp[eu,<-hx0,<-hx1,Rs.bind,hm1,t1,hm50])
 have O1:=S50;refine j4 [0,15,16] [0] [(2,rc J (G1) p50)] Z fun X5 Z=>?_
 refine j5 [16,0,15] [0] Z fun X6 Z=>?_
 replace Z:=Z.headS (v':=.int .i64 1) (by subst O;exact zr) rfl;refine u6 (a6 [17,0,15,16] [0] Z fun X3 Z=>?_);replace Z:=Z.headS (v':=.bool .tt) (Sim.bool (by subst O;rfl)) rfl;refine a7 (D5 Z rfl (fun Z=>?_));refine f9 (a7 (j0 (a6 [0,7,15,16] [0,7] Z fun X4 Z=>?_)))
 rcases(hth 0 b J hJ ((X5 2).A 0) ((X5 2).c 0) p50 hp50 hn50 x1 hk1 (by have:=Nat.lt_of_le_of_lt (Suf.trans hs1 hs50).le hf;omega)).two (J0 _ _ _ _ _) hp50 hn50 with⟨w51,p51,hm51,O1⟩|⟨_u51,p51,hm51,hs51,hp51,hn51,S51⟩
 .refine stp 2 O a8 [19,20] [0] [] Z O1 fun _ _ _ _ Z hk=>?_
  exact thm (P:=Tryz.prog) (fn:=Tryz.f264) (q:=p51) Z hk (by simp[eu,<-hx0,<-hx1,Rs.bind,hm1,t1,hm50,hm51])
 have O1:=S51;refine j4 [0,15,16] [0] [(2,rc J (G1) p51)] Z fun X5 Z=>?_
 refine j5 [16,0,15] [0] Z fun X6 Z=>?_
 replace Z:=Z.headS (v':=.int .i64 2) (by subst O;exact zr) rfl;refine u6 (a6 [17,0,15,16] [0] Z fun X3 Z=>?_);replace Z:=Z.headS (v':=.bool .ff) (Sim.bool (by subst O;rfl)) rfl;refine a7 (F2 Z rfl (fun Z=>?_));exact o4 ((rmm O a8 Z (v:=()) (q:=p51) ((X5 2).A 0) ((X5 2).c 0) (by simp[eu,<-hx0,<-hx1,Rs.bind,hm1,t1,hm50,hm51])).2)
theorem Af(k0 b:Nat)(J:l4)(hJ:u7 J)(A:Option Addr)(c:Nat)(p:Pst)(hp:j8 p)(hn:p.n<=1000000)(l:Lab)(hl:LOk l)(v:Int)(n:Nat)(hth:ThC n)(hf:p.n<n):s8 264 k0 b J A c p [i9 l,.int .u64 v] (fun _=>G1) (eu J.budget (T3 J.bucket J.budget n) l v p):=s8.re (GJ b J hJ A c p hp hn l hl v n hth hf) (by repeat(first|exact trivial|refine⟨zr,?_⟩))
theorem CI(b:Nat)(J:l4)(hJ:u7 J)(A:Option Addr)(c:Nat)(p:Pst)(hp:j8 p)(hn:p.n<=1000000)(l:Lab)(hl:LOk l)(n:Nat)(ih:ClC n)(hf:p.n<n+1):s8 266 0 b J A c p [i9 l] (fun _=>G1) (P0 J.budget (n+1) l p):=by
 intro m w hm hargs hpre;have SC:=uO l hl.u;have hk0:=hl.ch 0;have hk1:=hl.ch 1;simp only[i9]at SC;obtain⟨x0,hx0⟩:=eqv (chV l 0);rw[<-hx0]at SC hk0;obtain⟨x1,hx1⟩:=eqv (chV l 1);rw[<-hx1]at SC hk1;refine enX 37 hm hpre hargs Tryz.func266 fun B O a0 Z=>?_
 refine a6 [0,3] [0,3] Z fun X0 Z=>?_
 refine a7 (a6 [9,0,3] [0,3] Z fun X1 Z=>?_);apply d7 Z rfl<;>intro hb Z
 .have t0:l.len=64:=by subst O;simpa[std,b7]using hb
  exact j2 ((rmm O a8 Z (v:=()) (q:=p) A c (by simp[P0,T0,<-hx0,<-hx1,Rs.bind,t0])).1)
 have t0:¬l.len=64:=by subst O;simpa[std,b7]using hb
 have O1:=SC;refine f9 (j6 [12,0,3,11] [0,3] [(1,.r fun _=>.agg [.int .i64 x0.len,.int .u64 x0.bits,.int .i64 x1.len,.int .u64 x1.bits])] Z fun X2 Z=>?_);refine j0 (wp_loop_rounds 3 (Y3 (a6 [13,0,3,11,12] [0,3] Z fun X3 Z=>?_)));replace Z:=Z.headS (v':=.bool .tt) (Sim.bool (by subst O;rfl)) rfl;refine a7 (D5 Z rfl (fun Z=>?_));refine f9 (a7 (j0 (a6 [0,3,5,11,12] [0,3,5] Z fun X4 Z=>?_)));refine a7 ?_
 rcases(V0 0 b J hJ A c p hp hn x0).two (l3 _ _ _) hp hn with⟨w50,p50,hm50,O1⟩|⟨g0,p50,hm50,hs50,hp50,hn50,S50⟩
 .refine stp 2 O a8 [15,16] [0] [] Z O1 fun _ _ _ _ Z hk=>?_
  exact thm (P:=Tryz.prog) (fn:=Tryz.f266) (q:=p50) Z hk (by simp[P0,T0,<-hx0,<-hx1,Rs.bind,t0,hm50])
 have hl50:=I1 hm50;have hg50:=hp.get hm50;have O1:=S50;refine j4 [0,3,5,6,11,12] [0,3,5,6] [(2,rc J (F4 g0) p50)] Z fun X5 Z=>?_
 obtain⟨q0,hq0⟩:=eqv (gk g0 5);refine a7 (a7 ?_);refine j4 [21,0,3,5,6,11,12] [0,3,5,6] [(2,.r fun _=>.bool (.v q0))] Z (hob:=by intro X;subst O;simp only[f8,Ob.holds,BE.den]<;>and_intros<;>repeat first|trivial|rfl|exact(by rw[hq0];exact F0 g0 _ _ 5 _ rfl)|exact by rw[hq0];exact F0 g0 _ _ 5 _ rfl|exact(fun _ _=>by kernel_rfl)|refine⟨?_,?_⟩|intro h|exact Int.le_refl _|decide|omega) fun X6 Z=>?_
 apply d7 Z rfl<;>intro hb Z
 .have tq0:gk g0 5=false:=by subst O;rw[<-hq0];revert hb;cases q0<;>simp[std]
  refine o4 (j5 [12,0,3,11] [0,3] Z fun X10 Z=>?_);replace Z:=Z.headS (v':=.int .i64 1) (by subst O;exact zr) rfl;refine u6 (a6 [13,0,3,11,12] [0,3] Z fun X3 Z=>?_);replace Z:=Z.headS (v':=.bool .tt) (Sim.bool (by subst O;rfl)) rfl;refine a7 (D5 Z rfl (fun Z=>?_));refine f9 (a7 (j0 (a6 [0,3,5,11,12] [0,3,5] Z fun X4 Z=>?_)));refine a7 ?_
  rcases(V0 0 b J hJ ((X5 2).A 0) ((X5 2).c 0) p50 hp50 hn50 x1).two (l3 _ _ _) hp50 hn50 with⟨w51,p51,hm51,O1⟩|⟨g1,p51,hm51,hs51,hp51,hn51,S51⟩
  .refine stp 2 O a8 [15,16] [0] [] Z O1 fun _ _ _ _ Z hk=>?_
   exact thm (P:=Tryz.prog) (fn:=Tryz.f266) (q:=p51) Z hk (by simp[P0,T0,<-hx0,<-hx1,Rs.bind,t0,hm50,tq0,hm51])
  have hl51:=I1 hm51;have hg51:=hp50.get hm51;have O1:=S51;refine j4 [0,3,5,6,11,12] [0,3,5,6] [(2,rc J (F4 g1) p51)] Z fun X5 Z=>?_
  obtain⟨q1,hq1⟩:=eqv (gk g1 5);refine a7 (a7 ?_);refine j4 [21,0,3,5,6,11,12] [0,3,5,6] [(2,.r fun _=>.bool (.v q1))] Z (hob:=by intro X;subst O;simp only[f8,Ob.holds,BE.den]<;>and_intros<;>repeat first|trivial|rfl|exact(by rw[hq1];exact F0 g1 _ _ 5 _ rfl)|exact by rw[hq1];exact F0 g1 _ _ 5 _ rfl|exact(fun _ _=>by kernel_rfl)|refine⟨?_,?_⟩|intro h|exact Int.le_refl _|decide|omega) fun X6 Z=>?_
  apply d7 Z rfl<;>intro hb Z
  .have tq1:gk g1 5=false:=by subst O;rw[<-hq1];revert hb;cases q1<;>simp[std]
   refine o4 (j5 [12,0,3,11] [0,3] Z fun X10 Z=>?_);replace Z:=Z.headS (v':=.int .i64 2) (by subst O;exact zr) rfl;refine u6 (a6 [13,0,3,11,12] [0,3] Z fun X3 Z=>?_);replace Z:=Z.headS (v':=.bool .ff) (Sim.bool (by subst O;rfl)) rfl;refine a7 (F2 Z rfl (fun Z=>?_));exact o4 ((rmm O a8 Z (v:=()) (q:=p51) ((X5 2).A 0) ((X5 2).c 0) (by simp[P0,T0,<-hx0,<-hx1,Rs.bind,t0,hm50,tq0,hm51,tq1])).2)
  have tq1:gk g1 5=true:=by subst O;rw[<-hq1];revert hb;cases q1<;>simp[std]
  refine f9 (a7 ?_)
  rcases(ih 0 b J hJ ((X5 2).A 0) ((X5 2).c 0) p51 hp51 hn51 x1 hk1 (by have:=hs51.le;have:=hl51;have:=(Suf.trans (Suf.refl p) hs50).le;omega)).two (cd _ _ _ _) hp51 hn51 with⟨w71,p71,hm71,O1⟩|⟨v71,p71,hm71,hs71,hp71,hn71,S71⟩
  .refine stp 2 O a8 [22,23] [0] [] Z O1 fun _ _ _ _ Z hk=>?_
   exact thm (P:=Tryz.prog) (fn:=Tryz.f266) (q:=p71) Z hk (by simp[P0,T0,<-hx0,<-hx1,Rs.bind,t0,hm50,tq0,hm51,tq1,hm71])
  have O1:=S71;refine j4 [0,3,5,6,11,12] [0,3,5,6] [(2,rc J (G1) p71)] Z fun X7 Z=>?_
  refine a7 (a7 ?_)
  rcases(V0 0 b J hJ ((X7 2).A 0) ((X7 2).c 0) p71 hp71 hn71 l).two (l3 _ _ _) hp71 hn71 with⟨w81,p81,hm81,O1⟩|⟨h1,p81,hm81,hs81,hp81,hn81,S81⟩
  .refine stp 2 O a8 [25,26] [0] [] Z O1 fun _ _ _ _ Z hk=>?_
   exact thm (P:=Tryz.prog) (fn:=Tryz.f266) (q:=p81) Z hk (by simp[P0,T0,<-hx0,<-hx1,Rs.bind,t0,hm50,tq0,hm51,tq1,hm71,hm81])
  have hl81:=I1 hm81;have hg81:=hp71.get hm81;obtain⟨r1,hr1⟩:=eqv ((gk h1 1||gk h1 5));refine j4 [30,0,3,5,6,11,12] [0,3,5,6] [(4,.r fun _=>.bool (.v r1)),(2,rc J (F4 h1) p81)] Z (hob:=by intro X;subst O;simp only[f8,Ob.holds,BE.den]<;>and_intros<;>repeat first|trivial|rfl|exact S81|exact(by rw[hr1];exact aH h1 _ _ 1 5 _ rfl rfl)|exact by rw[hr1];exact aH h1 _ _ 1 5 _ rfl rfl|exact(fun _ _=>by kernel_rfl)|refine⟨?_,?_⟩|intro h|exact Int.le_refl _|decide|omega) fun X8 Z=>?_
  apply d7 Z rfl<;>intro hb Z
  .have tr1:(gk h1 1||gk h1 5)=false:=by subst O;rw[<-hr1];revert hb;cases r1<;>simp[std]
   exact j2 ((rmm O a8 Z (v:=()) (q:=p81) ((X8 2).A 0) ((X8 2).c 0) (by simp[P0,T0,<-hx0,<-hx1,Rs.bind,t0,hm50,tq0,hm51,tq1,hm71,hm81,tr1])).1)
  have tr1:(gk h1 1||gk h1 5)=true:=by subst O;rw[<-hr1];revert hb;cases r1<;>simp[std]
  refine f9 ?_
  rcases(zE 0 b J hJ ((X8 2).A 0) ((X8 2).c 0) p81 hp81 hn81 x1 g1.ver).two (jo _ _ _ _) hp81 hn81 with⟨w91,p91,hm91,O1⟩|⟨d1,p91,hm91,hs91,hp91,hn91,S91⟩
  .refine stp 4 O a8 [31,32,34] [0] [] Z O1 fun _ _ _ _ Z hk=>?_
   exact thm (P:=Tryz.prog) (fn:=Tryz.f266) (q:=p91) Z hk (by simp[P0,T0,<-hx0,<-hx1,Rs.bind,t0,hm50,tq0,hm51,tq1,hm71,hm81,tr1,hm91])
  have O1:=S91;refine j4 [0,3,11,12] [0,3] [(4,rc J (.bool (.v d1)) p91)] Z fun X9 Z=>?_
  refine j5 [12,0,3,11] [0,3] Z fun X10 Z=>?_
  replace Z:=Z.headS (v':=.int .i64 2) (by subst O;exact zr) rfl;refine u6 (a6 [13,0,3,11,12] [0,3] Z fun X3 Z=>?_);replace Z:=Z.headS (v':=.bool .ff) (Sim.bool (by subst O;rfl)) rfl;refine a7 (F2 Z rfl (fun Z=>?_));exact o4 ((rmm O a8 Z (v:=()) (q:=p91) ((X9 4).A 0) ((X9 4).c 0) (by simp[P0,T0,<-hx0,<-hx1,Rs.bind,t0,hm50,tq0,hm51,tq1,hm71,hm81,tr1,hm91])).2)
 have tq0:gk g0 5=true:=by subst O;rw[<-hq0];revert hb;cases q0<;>simp[std]
 refine f9 (a7 ?_)
 rcases(ih 0 b J hJ ((X5 2).A 0) ((X5 2).c 0) p50 hp50 hn50 x0 hk0 (by have:=hs50.le;have:=hl50;have:=(Suf.refl p).le;omega)).two (cd _ _ _ _) hp50 hn50 with⟨w70,p70,hm70,O1⟩|⟨v70,p70,hm70,hs70,hp70,hn70,S70⟩
 .refine stp 2 O a8 [22,23] [0] [] Z O1 fun _ _ _ _ Z hk=>?_
  exact thm (P:=Tryz.prog) (fn:=Tryz.f266) (q:=p70) Z hk (by simp[P0,T0,<-hx0,<-hx1,Rs.bind,t0,hm50,tq0,hm70])
 have O1:=S70;refine j4 [0,3,5,6,11,12] [0,3,5,6] [(2,rc J (G1) p70)] Z fun X7 Z=>?_
 refine a7 (a7 ?_)
 rcases(V0 0 b J hJ ((X7 2).A 0) ((X7 2).c 0) p70 hp70 hn70 l).two (l3 _ _ _) hp70 hn70 with⟨w80,p80,hm80,O1⟩|⟨h0,p80,hm80,hs80,hp80,hn80,S80⟩
 .refine stp 2 O a8 [25,26] [0] [] Z O1 fun _ _ _ _ Z hk=>?_
  exact thm (P:=Tryz.prog) (fn:=Tryz.f266) (q:=p80) Z hk (by simp[P0,T0,<-hx0,<-hx1,Rs.bind,t0,hm50,tq0,hm70,hm80])
 have hl80:=I1 hm80;have hg80:=hp70.get hm80;obtain⟨r0,hr0⟩:=eqv ((gk h0 1||gk h0 5));refine j4 [30,0,3,5,6,11,12] [0,3,5,6] [(4,.r fun _=>.bool (.v r0)),(2,rc J (F4 h0) p80)] Z (hob:=by intro X;subst O;simp only[f8,Ob.holds,BE.den]<;>and_intros<;>repeat first|trivial|rfl|exact S80|exact(by rw[hr0];exact aH h0 _ _ 1 5 _ rfl rfl)|exact by rw[hr0];exact aH h0 _ _ 1 5 _ rfl rfl|exact(fun _ _=>by kernel_rfl)|refine⟨?_,?_⟩|intro h|exact Int.le_refl _|decide|omega) fun X8 Z=>?_
 apply d7 Z rfl<;>intro hb Z
 .have tr0:(gk h0 1||gk h0 5)=false:=by subst O;rw[<-hr0];revert hb;cases r0<;>simp[std]
  exact j2 ((rmm O a8 Z (v:=()) (q:=p80) ((X8 2).A 0) ((X8 2).c 0) (by simp[P0,T0,<-hx0,<-hx1,Rs.bind,t0,hm50,tq0,hm70,hm80,tr0])).1)
 have tr0:(gk h0 1||gk h0 5)=true:=by subst O;rw[<-hr0];revert hb;cases r0<;>simp[std]
 refine f9 ?_
 rcases(zE 0 b J hJ ((X8 2).A 0) ((X8 2).c 0) p80 hp80 hn80 x0 g0.ver).two (jo _ _ _ _) hp80 hn80 with⟨w90,p90,hm90,O1⟩|⟨d0,p90,hm90,hs90,hp90,hn90,S90⟩
 .refine stp 4 O a8 [31,32,34] [0] [] Z O1 fun _ _ _ _ Z hk=>?_
  exact thm (P:=Tryz.prog) (fn:=Tryz.f266) (q:=p90) Z hk (by simp[P0,T0,<-hx0,<-hx1,Rs.bind,t0,hm50,tq0,hm70,hm80,tr0,hm90])
 have O1:=S90;refine j4 [0,3,11,12] [0,3] [(4,rc J (.bool (.v d0)) p90)] Z fun X9 Z=>?_
 refine j5 [12,0,3,11] [0,3] Z fun X10 Z=>?_
 replace Z:=Z.headS (v':=.int .i64 1) (by subst O;exact zr) rfl;refine u6 (a6 [13,0,3,11,12] [0,3] Z fun X3 Z=>?_);replace Z:=Z.headS (v':=.bool .tt) (Sim.bool (by subst O;rfl)) rfl;refine a7 (D5 Z rfl (fun Z=>?_));refine f9 (a7 (j0 (a6 [0,3,5,11,12] [0,3,5] Z fun X4 Z=>?_)));refine a7 ?_
 rcases(V0 0 b J hJ ((X9 4).A 0) ((X9 4).c 0) p90 hp90 hn90 x1).two (l3 _ _ _) hp90 hn90 with⟨w51,p51,hm51,O1⟩|⟨g1,p51,hm51,hs51,hp51,hn51,S51⟩
 .refine stp 2 O a8 [15,16] [0] [] Z O1 fun _ _ _ _ Z hk=>?_
  exact thm (P:=Tryz.prog) (fn:=Tryz.f266) (q:=p51) Z hk (by simp[P0,T0,<-hx0,<-hx1,Rs.bind,t0,hm50,tq0,hm70,hm80,tr0,hm90,hm51])
 have hl51:=I1 hm51;have hg51:=hp90.get hm51;have O1:=S51;refine j4 [0,3,5,6,11,12] [0,3,5,6] [(2,rc J (F4 g1) p51)] Z fun X5 Z=>?_
 obtain⟨q1,hq1⟩:=eqv (gk g1 5);refine a7 (a7 ?_);refine j4 [21,0,3,5,6,11,12] [0,3,5,6] [(2,.r fun _=>.bool (.v q1))] Z (hob:=by intro X;subst O;simp only[f8,Ob.holds,BE.den]<;>and_intros<;>repeat first|trivial|rfl|exact(by rw[hq1];exact F0 g1 _ _ 5 _ rfl)|exact by rw[hq1];exact F0 g1 _ _ 5 _ rfl|exact(fun _ _=>by kernel_rfl)|refine⟨?_,?_⟩|intro h|exact Int.le_refl _|decide|omega) fun X6 Z=>?_
 apply d7 Z rfl<;>intro hb Z
 .have tq1:gk g1 5=false:=by subst O;rw[<-hq1];revert hb;cases q1<;>simp[std]
  refine o4 (j5 [12,0,3,11] [0,3] Z fun X10 Z=>?_);replace Z:=Z.headS (v':=.int .i64 2) (by subst O;exact zr) rfl;refine u6 (a6 [13,0,3,11,12] [0,3] Z fun X3 Z=>?_);replace Z:=Z.headS (v':=.bool .ff) (Sim.bool (by subst O;rfl)) rfl;refine a7 (F2 Z rfl (fun Z=>?_));exact o4 ((rmm O a8 Z (v:=()) (q:=p51) ((X5 2).A 0) ((X5 2).c 0) (by simp[P0,T0,<-hx0,<-hx1,Rs.bind,t0,hm50,tq0,hm70,hm80,tr0,hm90,hm51,tq1])).2)
 have tq1:gk g1 5=true:=by subst O;rw[<-hq1];revert hb;cases q1<;>simp[std]
 refine f9 (a7 ?_)
 rcases(ih 0 b J hJ ((X5 2).A 0) ((X5 2).c 0) p51 hp51 hn51 x1 hk1 (by have:=hs51.le;have:=hl51;have:=(Suf.trans (Suf.trans (Suf.trans (Suf.trans (Suf.refl p) hs50) hs70) hs80) hs90).le;omega)).two (cd _ _ _ _) hp51 hn51 with⟨w71,p71,hm71,O1⟩|⟨v71,p71,hm71,hs71,hp71,hn71,S71⟩
 .refine stp 2 O a8 [22,23] [0] [] Z O1 fun _ _ _ _ Z hk=>?_
  exact thm (P:=Tryz.prog) (fn:=Tryz.f266) (q:=p71) Z hk (by simp[P0,T0,<-hx0,<-hx1,Rs.bind,t0,hm50,tq0,hm70,hm80,tr0,hm90,hm51,tq1,hm71])
 have O1:=S71;refine j4 [0,3,5,6,11,12] [0,3,5,6] [(2,rc J (G1) p71)] Z fun X7 Z=>?_
 refine a7 (a7 ?_)
 rcases(V0 0 b J hJ ((X7 2).A 0) ((X7 2).c 0) p71 hp71 hn71 l).two (l3 _ _ _) hp71 hn71 with⟨w81,p81,hm81,O1⟩|⟨h1,p81,hm81,hs81,hp81,hn81,S81⟩
 .refine stp 2 O a8 [25,26] [0] [] Z O1 fun _ _ _ _ Z hk=>?_
  exact thm (P:=Tryz.prog) (fn:=Tryz.f266) (q:=p81) Z hk (by simp[P0,T0,<-hx0,<-hx1,Rs.bind,t0,hm50,tq0,hm70,hm80,tr0,hm90,hm51,tq1,hm71,hm81])
 have hl81:=I1 hm81;have hg81:=hp71.get hm81;obtain⟨r1,hr1⟩:=eqv ((gk h1 1||gk h1 5));refine j4 [30,0,3,5,6,11,12] [0,3,5,6] [(4,.r fun _=>.bool (.v r1)),(2,rc J (F4 h1) p81)] Z (hob:=by intro X;subst O;simp only[f8,Ob.holds,BE.den]<;>and_intros<;>repeat first|trivial|rfl|exact S81|exact(by rw[hr1];exact aH h1 _ _ 1 5 _ rfl rfl)|exact by rw[hr1];exact aH h1 _ _ 1 5 _ rfl rfl|exact(fun _ _=>by kernel_rfl)|refine⟨?_,?_⟩|intro h|exact Int.le_refl _|decide|omega) fun X8 Z=>?_
 apply d7 Z rfl<;>intro hb Z
 .have tr1:(gk h1 1||gk h1 5)=false:=by subst O;rw[<-hr1];revert hb;cases r1<;>simp[std]
  exact j2 ((rmm O a8 Z (v:=()) (q:=p81) ((X8 2).A 0) ((X8 2).c 0) (by simp[P0,T0,<-hx0,<-hx1,Rs.bind,t0,hm50,tq0,hm70,hm80,tr0,hm90,hm51,tq1,hm71,hm81,tr1])).1)
 have tr1:(gk h1 1||gk h1 5)=true:=by subst O;rw[<-hr1];revert hb;cases r1<;>simp[std]
 refine f9 ?_
 rcases(zE 0 b J hJ ((X8 2).A 0) ((X8 2).c 0) p81 hp81 hn81 x1 g1.ver).two (jo _ _ _ _) hp81 hn81 with⟨w91,p91,hm91,O1⟩|⟨d1,p91,hm91,hs91,hp91,hn91,S91⟩
 .refine stp 4 O a8 [31,32,34] [0] [] Z O1 fun _ _ _ _ Z hk=>?_
  exact thm (P:=Tryz.prog) (fn:=Tryz.f266) (q:=p91) Z hk (by simp[P0,T0,<-hx0,<-hx1,Rs.bind,t0,hm50,tq0,hm70,hm80,tr0,hm90,hm51,tq1,hm71,hm81,tr1,hm91])
 have O1:=S91;refine j4 [0,3,11,12] [0,3] [(4,rc J (.bool (.v d1)) p91)] Z fun X9 Z=>?_
 refine j5 [12,0,3,11] [0,3] Z fun X10 Z=>?_
 replace Z:=Z.headS (v':=.int .i64 2) (by subst O;exact zr) rfl;refine u6 (a6 [13,0,3,11,12] [0,3] Z fun X3 Z=>?_);replace Z:=Z.headS (v':=.bool .ff) (Sim.bool (by subst O;rfl)) rfl;refine a7 (F2 Z rfl (fun Z=>?_));exact o4 ((rmm O a8 Z (v:=()) (q:=p91) ((X9 4).A 0) ((X9 4).c 0) (by simp[P0,T0,<-hx0,<-hx1,Rs.bind,t0,hm50,tq0,hm70,hm80,tr0,hm90,hm51,tq1,hm71,hm81,tr1,hm91])).2)
theorem Gt(k0 b:Nat)(J:l4)(hJ:u7 J)(A:Option Addr)(c:Nat)(p:Pst)(hp:j8 p)(hn:p.n<=1000000)(l:Lab)(hl:LOk l)(n:Nat)(ih:ClC n)(hf:p.n<n+1):s8 266 k0 b J A c p [i9 l] (fun _=>G1) (P0 J.budget (n+1) l p):=s8.re (CI b J hJ A c p hp hn l hl n ih hf) (by repeat(first|exact trivial|refine⟨zr,?_⟩))
theorem Ep:∀n,ClC n
 |0=>fun _ _ _ _ _ _ _ _ _ _ _ h=>absurd h (Nat.not_lt_zero _)
 |n+1=>fun k0 b J hJ A c p hp hn l hl hf=>Gt k0 b J hJ A c p hp hn l hl n (Ep n) hf
theorem EQ(b:Nat)(J:l4)(hJ:u7 J)(A:Option Addr)(c:Nat)(p:Pst)(hp:j8 p)(hn:p.n<=1000000)(l:Lab)(hl:LOk l)(v:Int)(x:RA)(hx:bF x)(n:Nat)(hf:p.n<n):s8 225 0 b J A c p [i9 l,.int .u64 v,N6 x] (fun _=>G1) (C2 J.budget n l v x p):=by
 intro m w hm hargs hpre;have SC:=uO l hl.u;have hk0:=hl.ch 0;have hk1:=hl.ch 1;simp only[i9]at SC;obtain⟨x0,hx0⟩:=eqv (chV l 0);rw[<-hx0]at SC hk0;obtain⟨x1,hx1⟩:=eqv (chV l 1);rw[<-hx1]at SC hk1;have SH:=FQ x hx l hl.u;obtain⟨e,he⟩:=eqv ((N8 x l).2.2);rw[<-he]at SH;obtain⟨r0,hr0⟩:=eqv ((N8 x l).1.rn);rw[<-hr0]at SH;obtain⟨r1,hr1⟩:=eqv ((N8 x l).2.1.rn);rw[<-hr1]at SH;have ha0:r0.abs=(N8 x l).1:=by rw[hr0];exact Z4 _
 have ha1:r1.abs=(N8 x l).2.1:=by rw[hr1];exact Z4 _
 simp only[i9]at SH;refine enX 63 hm hpre hargs Tryz.func225 fun B O a0 Z=>?_
 refine a6 [0,2,5,7] [0,5,7] Z fun X0 Z=>?_
 have O1:=SH;refine j6 [0,2,5,8,9,10] [0,5,8,9] [(2,.r fun y=>.tup [.agg [.int .i64 r0.kd,.sl none (y.A 0) r0.n (y.c 0) 2 (fun i=>itC (r0.f i)),.int .i64 r0.nx.len,.int .u64 r0.nx.bits,.int .u64 r0.mrk],.agg [.int .i64 r1.kd,.sl none (y.A 1) r1.n (y.c 1) 2 (fun i=>itC (r1.f i)),.int .i64 r1.nx.len,.int .u64 r1.nx.bits,.int .u64 r1.mrk],.int .i64 e])] Z fun X1 Z=>?_
 refine a7 (a6 [23,0,2,5,8,9] [0,5,8,9] Z fun X2 Z=>?_);apply d7 Z rfl<;>intro hb Z
 .have t0:¬e=0:=by subst O;simpa[std,b7]using hb
  exact j2 ((rmm O a8 Z (v:=()) (q:=p) A c (by simp[C2,I8,<-hx0,<-hx1,<-ha0,<-ha1,<-he,Rs.bind,t0])).1)
 have t0:e=0:=by subst O;simpa[std,b7]using hb
 refine f9 (a6 [0,2,5,11] [0,5,11] Z fun X3 Z=>?_);have O1:=SC;refine a7 (j6 [29,0,2,5,11,28] [0,5,11] [(1,.r fun _=>.agg [.int .i64 x0.len,.int .u64 x0.bits,.int .i64 x1.len,.int .u64 x1.bits])] Z fun X4 Z=>?_);refine j0 (wp_loop_rounds 3 (Y3 (a6 [30,0,2,5,11,28,29] [0,5,11] Z fun X5 Z=>?_)));replace Z:=Z.headS (v':=.bool .tt) (Sim.bool (by subst O;rfl)) rfl;refine a7 (D5 Z rfl (fun Z=>?_));refine f9 (a7 (j0 (a6 [0,2,5,11,12,13,28,29] [0,5,11,13] Z fun X6 Z=>?_)));refine j0 (r9 (ι:=Nat×Pst×Option Addr×Nat) (fun q=>[]) (fun q=>[(0,⟨b,139,D4 J q.2.2.1 q.2.2.2 q.2.1⟩)]) (fun q=>[]) (fun q=>I8 J.budget l v x0 r0.abs n p=I8 J.budget l v x0 r0.abs q.1 q.2.1/\j8 q.2.1/\q.2.1.n<=1000000/\q.2.1.n<q.1/\q.2.1.n<=p.n) (fun q=>q.1) (n,p,A,c) ⟨rfl,hp,hn,(by dsimp only;skip;omega),(by dsimp only;skip;omega)⟩ Z ?_)
 rintro⟨nn0,p0,A0,c0⟩ ⟨hrun0,hp0,hn0,hf0,hle0⟩ _ _ Z
 try dsimp only at hrun0
 try dsimp only at hp0
 try dsimp only at hn0
 try dsimp only at hf0
 try dsimp only at hle0
 obtain⟨m0,rfl⟩:∃n2,nn0=n2+1:=⟨nn0-1,by omega⟩
 refine j0 (a7 ?_)
 rcases(V0 0 b J hJ A0 c0 p0 hp0 hn0 x0).two (l3 _ _ _) hp0 hn0 with⟨w70,p70,hm70,O1⟩|⟨g0,p70,hm70,hs70,hp70,hn70,S70⟩
 .refine stp 2 O a8 [33,34] [0] [] Z O1 fun _ _ _ _ Z hk=>?_
  exact thm (P:=Tryz.prog) (fn:=Tryz.f225) (q:=p70) Z hk (by simp[C2,I8,<-hx0,<-hx1,<-ha0,<-ha1,<-he,Rs.bind,t0,hrun0,hm70])
 have hl70:=I1 hm70;have hg70:=hp0.get hm70;have O1:=S70;refine j4 [0,2,5,11,12,13,14,28,29] [0,5,11,13,14] [(2,rc J (F4 g0) p70)] Z fun X7 Z=>?_
 refine a7 (a6 [43,0,2,5,11,12,13,14,28,29] [0,5,11,13,14] Z fun X8 Z=>?_);apply d7 Z rfl<;>intro hb Z
 .have tq0:(g0.has && !decide (g0.x.r.kd=5))=true:=by
   have h9:(if g0.has=true then !decide (g0.x.r.kd=5)else false)=true:=by
    have h8:(if g0.has=true then(g0.x.r.kd != 5)else false)=true:=by subst O;exact hb
    exact h8
   rw[<-h9];cases g0.has<;>rfl
  refine o4 (j5 [29,0,2,5,11,28] [0,5,11] Z fun X11 Z=>?_);replace Z:=Z.headS (v':=.int .i64 1) (by subst O;exact zr) rfl;refine u6 (a6 [30,0,2,5,11,28,29] [0,5,11] Z fun X5 Z=>?_);replace Z:=Z.headS (v':=.bool .tt) (Sim.bool (by subst O;rfl)) rfl;refine a7 (D5 Z rfl (fun Z=>?_));refine f9 (a7 (j0 (a6 [0,2,5,11,12,13,28,29] [0,5,11,13] Z fun X6 Z=>?_)));refine j0 (r9 (ι:=Nat×Pst×Option Addr×Nat) (fun q=>[]) (fun q=>[(0,⟨b,139,D4 J q.2.2.1 q.2.2.2 q.2.1⟩)]) (fun q=>[]) (fun q=>I8 J.budget l v x1 r1.abs n p70=I8 J.budget l v x1 r1.abs q.1 q.2.1/\j8 q.2.1/\q.2.1.n<=1000000/\q.2.1.n<q.1/\q.2.1.n<=p.n) (fun q=>q.1) (n,p70,((X7 2).A 0),((X7 2).c 0)) ⟨rfl,hp70,hn70,(by dsimp only;have:=hle0;have:=hs70.le;omega),(by dsimp only;have:=hle0;have:=hs70.le;omega)⟩ Z ?_)
  rintro⟨nn1,p1,A1,c1⟩ ⟨hrun1,hp1,hn1,hf1,hle1⟩ _ _ Z
  try dsimp only at hrun1
  try dsimp only at hp1
  try dsimp only at hn1
  try dsimp only at hf1
  try dsimp only at hle1
  obtain⟨m1,rfl⟩:∃n2,nn1=n2+1:=⟨nn1-1,by omega⟩
  refine j0 (a7 ?_)
  rcases(V0 0 b J hJ A1 c1 p1 hp1 hn1 x1).two (l3 _ _ _) hp1 hn1 with⟨w71,p71,hm71,O1⟩|⟨g1,p71,hm71,hs71,hp71,hn71,S71⟩
  .refine stp 2 O a8 [33,34] [0] [] Z O1 fun _ _ _ _ Z hk=>?_
   exact thm (P:=Tryz.prog) (fn:=Tryz.f225) (q:=p71) Z hk (by simp[C2,I8,<-hx0,<-hx1,<-ha0,<-ha1,<-he,Rs.bind,t0,hrun0,hm70,tq0,hrun1,hm71])
  have hl71:=I1 hm71;have hg71:=hp1.get hm71;have O1:=S71;refine j4 [0,2,5,11,12,13,14,28,29] [0,5,11,13,14] [(2,rc J (F4 g1) p71)] Z fun X7 Z=>?_
  refine a7 (a6 [43,0,2,5,11,12,13,14,28,29] [0,5,11,13,14] Z fun X8 Z=>?_);apply d7 Z rfl<;>intro hb Z
  .have tq1:(g1.has && !decide (g1.x.r.kd=5))=true:=by
    have h9:(if g1.has=true then !decide (g1.x.r.kd=5)else false)=true:=by
     have h8:(if g1.has=true then(g1.x.r.kd != 5)else false)=true:=by subst O;exact hb
     exact h8
    rw[<-h9];cases g1.has<;>rfl
   refine o4 (j5 [29,0,2,5,11,28] [0,5,11] Z fun X11 Z=>?_);replace Z:=Z.headS (v':=.int .i64 2) (by subst O;exact zr) rfl;refine u6 (a6 [30,0,2,5,11,28,29] [0,5,11] Z fun X5 Z=>?_);replace Z:=Z.headS (v':=.bool .ff) (Sim.bool (by subst O;rfl)) rfl;refine a7 (F2 Z rfl (fun Z=>?_));refine o4 ?_
   rcases(lp 0 b J hJ ((X7 2).A 0) ((X7 2).c 0) p71 hp71 hn71 l v).two (A4 _ _ _ _ _) hp71 hn71 with⟨w12,p12,hm12,O1⟩|⟨d2,p12,hm12,hs12,hp12,hn12,S12⟩
   .have O2:=eC
    refine jD 4 O a8 [58,59,60,61] [0] [(3,.r fun _=>.agg [.int .i64 2,.sl none none 0 0 2 (fun _=>[]),.int .i64 (-1),.int .u64 0,.int .u64 0])] Z O1 fun _ _ _ _ Z hk=>?_
    exact thm (P:=Tryz.prog) (fn:=Tryz.f225) (q:=p12) Z hk (by simp[C2,I8,<-hx0,<-hx1,<-ha0,<-ha1,<-he,Rs.bind,t0,hrun0,hm70,tq0,hrun1,hm71,tq1,hm12])
   have O1:=eC;have O2:=S12;refine drg O a8 [] [0] [(3,.r fun _=>.agg [.int .i64 2,.sl none none 0 0 2 (fun _=>[]),.int .i64 (-1),.int .u64 0,.int .u64 0]),(4,rc J (.bool (.v d2)) p12)] Z fun X12 _ _ Z=>?_
   exact(rmm O a8 Z (v:=()) (q:=p12) ((X12 4).A 0) ((X12 4).c 0) (by simp[C2,I8,<-hx0,<-hx1,<-ha0,<-ha1,<-he,Rs.bind,t0,hrun0,hm70,tq0,hrun1,hm71,tq1,hm12])).2
  have tq1:(g1.has && !decide (g1.x.r.kd=5))=false:=by
   have h9:(if g1.has=true then !decide (g1.x.r.kd=5)else false)=false:=by
    have h8:(if g1.has=true then(g1.x.r.kd != 5)else false)=false:=by subst O;exact hb
    exact h8
   rw[<-h9];cases g1.has<;>rfl
  refine f9 (a7 (a7 ?_))
  rcases(iY 0 b J hJ ((X7 2).A 0) ((X7 2).c 0) p71 hp71 hn71 l v).two (l3 _ _ _) hp71 hn71 with⟨w91,p91,hm91,O1⟩|⟨h1,p91,hm91,hs91,hp91,hn91,S91⟩
  .refine stp 3 O a8 [44,45,46] [0] [] Z O1 fun _ _ _ _ Z hk=>?_
   exact thm (P:=Tryz.prog) (fn:=Tryz.f225) (q:=p91) Z hk (by simp[C2,I8,<-hx0,<-hx1,<-ha0,<-ha1,<-he,Rs.bind,t0,hrun0,hm70,tq0,hrun1,hm71,tq1,hm91])
  have hl91:=I1 hm91;have hg91:=hp71.get hm91
  try dsimp only at S91
  obtain⟨e1,he1⟩:=eqv (decide (h1.ver=v));rw[<-he1]at S91;have O1:=S91;refine j4 [48,0,2,5,11,12,13,14,28,29] [0,5,11,13,14] [(3,rc J (.bool (.v e1)) p91)] Z fun X9 Z=>?_
  apply d7 Z rfl<;>intro hb Z
  .have t91:¬h1.ver=v:=by
    have h9:(!e1)=true:=by subst O;exact hb
    rw[he1]at h9;simpa using h9
   exact j2 ((rmm O a8 Z (v:=()) (q:=p91) ((X9 3).A 0) ((X9 3).c 0) (by simp[C2,I8,<-hx0,<-hx1,<-ha0,<-ha1,<-he,Rs.bind,t0,hrun0,hm70,tq0,hrun1,hm71,tq1,hm91,t91])).1)
  have t91:h1.ver=v:=by
   have h9:(!e1)=false:=by subst O;exact hb
   rw[he1]at h9;simpa using h9
  refine f9 (a7 ?_)
  rcases(gD 0 b J hJ ((X9 3).A 0) ((X9 3).c 0) p91 hp91 hn91 x1 g1.ver ⟨(X1 2).A 1,(X1 2).c 1,r1⟩).two (A4 _ _ _ _ _) hp91 hn91 with⟨w101,p101,hm101,O1⟩|⟨d1,p101,hm101,hs101,hp101,hn101,S101⟩
  .refine jD 7 O a8 [49,50,52,55] [0] [] Z O1 fun _ _ _ _ Z hk=>?_
   exact thm (P:=Tryz.prog) (fn:=Tryz.f225) (q:=p101) Z hk (by simp[C2,I8,<-hx0,<-hx1,<-ha0,<-ha1,<-he,Rs.bind,t0,hrun0,hm70,tq0,hrun1,hm71,tq1,hm91,t91,hm101])
  have O1:=S101;refine drg O a8 [56,0,2,5,11,12,13,28,29] [0,5,11,13] [(7,rc J (.bool (.v d1)) p101)] Z fun X10 _ _ Z=>?_
  apply d7 Z rfl<;>intro hb Z
  .have td1:d1=true:=by exact hb
   refine o4 (j5 [29,0,2,5,11,28] [0,5,11] Z fun X11 Z=>?_);replace Z:=Z.headS (v':=.int .i64 2) (by subst O;exact zr) rfl;refine u6 (a6 [30,0,2,5,11,28,29] [0,5,11] Z fun X5 Z=>?_);replace Z:=Z.headS (v':=.bool .ff) (Sim.bool (by subst O;rfl)) rfl;refine a7 (F2 Z rfl (fun Z=>?_));refine o4 ?_
   rcases(lp 0 b J hJ ((X10 7).A 0) ((X10 7).c 0) p101 hp101 hn101 l v).two (A4 _ _ _ _ _) hp101 hn101 with⟨w12,p12,hm12,O1⟩|⟨d2,p12,hm12,hs12,hp12,hn12,S12⟩
   .have O2:=eC
    refine jD 4 O a8 [58,59,60,61] [0] [(3,.r fun _=>.agg [.int .i64 2,.sl none none 0 0 2 (fun _=>[]),.int .i64 (-1),.int .u64 0,.int .u64 0])] Z O1 fun _ _ _ _ Z hk=>?_
    exact thm (P:=Tryz.prog) (fn:=Tryz.f225) (q:=p12) Z hk (by simp[C2,I8,<-hx0,<-hx1,<-ha0,<-ha1,<-he,Rs.bind,t0,hrun0,hm70,tq0,hrun1,hm71,tq1,hm91,t91,hm101,td1,hm12])
   have O1:=eC;have O2:=S12;refine drg O a8 [] [0] [(3,.r fun _=>.agg [.int .i64 2,.sl none none 0 0 2 (fun _=>[]),.int .i64 (-1),.int .u64 0,.int .u64 0]),(4,rc J (.bool (.v d2)) p12)] Z fun X12 _ _ Z=>?_
   exact(rmm O a8 Z (v:=()) (q:=p12) ((X12 4).A 0) ((X12 4).c 0) (by simp[C2,I8,<-hx0,<-hx1,<-ha0,<-ha1,<-he,Rs.bind,t0,hrun0,hm70,tq0,hrun1,hm71,tq1,hm91,t91,hm101,td1,hm12])).2
  have td1:d1=false:=by exact hb
  replace Z:=Z.keep [0,2,5,11,12,13,28,29] [0,5,11,13];exact f9 (⟨(m1,p101,_,_),⟨by rw[hrun1];simp[I8,Rs.bind,t0,hrun0,hm70,tq0,hrun1,hm71,tq1,hm91,t91,hm101,td1],hp101,hn101,by dsimp only;have:=hl71;have:=hs91.le;have:=hs101.le;have:=hf1;omega,by dsimp only;have:=hl71;have:=hs91.le;have:=hs101.le;have:=hle1;omega⟩,by simp only;omega,Z⟩)
 have tq0:(g0.has && !decide (g0.x.r.kd=5))=false:=by
  have h9:(if g0.has=true then !decide (g0.x.r.kd=5)else false)=false:=by
   have h8:(if g0.has=true then(g0.x.r.kd != 5)else false)=false:=by subst O;exact hb
   exact h8
  rw[<-h9];cases g0.has<;>rfl
 refine f9 (a7 (a7 ?_))
 rcases(iY 0 b J hJ ((X7 2).A 0) ((X7 2).c 0) p70 hp70 hn70 l v).two (l3 _ _ _) hp70 hn70 with⟨w90,p90,hm90,O1⟩|⟨h0,p90,hm90,hs90,hp90,hn90,S90⟩
 .refine stp 3 O a8 [44,45,46] [0] [] Z O1 fun _ _ _ _ Z hk=>?_
  exact thm (P:=Tryz.prog) (fn:=Tryz.f225) (q:=p90) Z hk (by simp[C2,I8,<-hx0,<-hx1,<-ha0,<-ha1,<-he,Rs.bind,t0,hrun0,hm70,tq0,hm90])
 have hl90:=I1 hm90;have hg90:=hp70.get hm90
 try dsimp only at S90
 obtain⟨e0,he0⟩:=eqv (decide (h0.ver=v));rw[<-he0]at S90;have O1:=S90;refine j4 [48,0,2,5,11,12,13,14,28,29] [0,5,11,13,14] [(3,rc J (.bool (.v e0)) p90)] Z fun X9 Z=>?_
 apply d7 Z rfl<;>intro hb Z
 .have t90:¬h0.ver=v:=by
   have h9:(!e0)=true:=by subst O;exact hb
   rw[he0]at h9;simpa using h9
  exact j2 ((rmm O a8 Z (v:=()) (q:=p90) ((X9 3).A 0) ((X9 3).c 0) (by simp[C2,I8,<-hx0,<-hx1,<-ha0,<-ha1,<-he,Rs.bind,t0,hrun0,hm70,tq0,hm90,t90])).1)
 have t90:h0.ver=v:=by
  have h9:(!e0)=false:=by subst O;exact hb
  rw[he0]at h9;simpa using h9
 refine f9 (a7 ?_)
 rcases(gD 0 b J hJ ((X9 3).A 0) ((X9 3).c 0) p90 hp90 hn90 x0 g0.ver ⟨(X1 2).A 0,(X1 2).c 0,r0⟩).two (A4 _ _ _ _ _) hp90 hn90 with⟨w100,p100,hm100,O1⟩|⟨d0,p100,hm100,hs100,hp100,hn100,S100⟩
 .refine jD 7 O a8 [49,50,52,55] [0] [] Z O1 fun _ _ _ _ Z hk=>?_
  exact thm (P:=Tryz.prog) (fn:=Tryz.f225) (q:=p100) Z hk (by simp[C2,I8,<-hx0,<-hx1,<-ha0,<-ha1,<-he,Rs.bind,t0,hrun0,hm70,tq0,hm90,t90,hm100])
 have O1:=S100;refine drg O a8 [56,0,2,5,11,12,13,28,29] [0,5,11,13] [(7,rc J (.bool (.v d0)) p100)] Z fun X10 _ _ Z=>?_
 apply d7 Z rfl<;>intro hb Z
 .have td0:d0=true:=by exact hb
  refine o4 (j5 [29,0,2,5,11,28] [0,5,11] Z fun X11 Z=>?_);replace Z:=Z.headS (v':=.int .i64 1) (by subst O;exact zr) rfl;refine u6 (a6 [30,0,2,5,11,28,29] [0,5,11] Z fun X5 Z=>?_);replace Z:=Z.headS (v':=.bool .tt) (Sim.bool (by subst O;rfl)) rfl;refine a7 (D5 Z rfl (fun Z=>?_));refine f9 (a7 (j0 (a6 [0,2,5,11,12,13,28,29] [0,5,11,13] Z fun X6 Z=>?_)));refine j0 (r9 (ι:=Nat×Pst×Option Addr×Nat) (fun q=>[]) (fun q=>[(0,⟨b,139,D4 J q.2.2.1 q.2.2.2 q.2.1⟩)]) (fun q=>[]) (fun q=>I8 J.budget l v x1 r1.abs n p100=I8 J.budget l v x1 r1.abs q.1 q.2.1/\j8 q.2.1/\q.2.1.n<=1000000/\q.2.1.n<q.1/\q.2.1.n<=p.n) (fun q=>q.1) (n,p100,((X10 7).A 0),((X10 7).c 0)) ⟨rfl,hp100,hn100,(by dsimp only;have:=hle0;have:=hs70.le;have:=hs90.le;have:=hs100.le;omega),(by dsimp only;have:=hle0;have:=hs70.le;have:=hs90.le;have:=hs100.le;omega)⟩ Z ?_)
  rintro⟨nn1,p1,A1,c1⟩ ⟨hrun1,hp1,hn1,hf1,hle1⟩ _ _ Z
  try dsimp only at hrun1
  try dsimp only at hp1
  try dsimp only at hn1
  try dsimp only at hf1
  try dsimp only at hle1
  obtain⟨m1,rfl⟩:∃n2,nn1=n2+1:=⟨nn1-1,by omega⟩
  refine j0 (a7 ?_)
  rcases(V0 0 b J hJ A1 c1 p1 hp1 hn1 x1).two (l3 _ _ _) hp1 hn1 with⟨w71,p71,hm71,O1⟩|⟨g1,p71,hm71,hs71,hp71,hn71,S71⟩
  .refine stp 2 O a8 [33,34] [0] [] Z O1 fun _ _ _ _ Z hk=>?_
   exact thm (P:=Tryz.prog) (fn:=Tryz.f225) (q:=p71) Z hk (by simp[C2,I8,<-hx0,<-hx1,<-ha0,<-ha1,<-he,Rs.bind,t0,hrun0,hm70,tq0,hm90,t90,hm100,td0,hrun1,hm71])
  have hl71:=I1 hm71;have hg71:=hp1.get hm71;have O1:=S71;refine j4 [0,2,5,11,12,13,14,28,29] [0,5,11,13,14] [(2,rc J (F4 g1) p71)] Z fun X7 Z=>?_
  refine a7 (a6 [43,0,2,5,11,12,13,14,28,29] [0,5,11,13,14] Z fun X8 Z=>?_);apply d7 Z rfl<;>intro hb Z
  .have tq1:(g1.has && !decide (g1.x.r.kd=5))=true:=by
    have h9:(if g1.has=true then !decide (g1.x.r.kd=5)else false)=true:=by
     have h8:(if g1.has=true then(g1.x.r.kd != 5)else false)=true:=by subst O;exact hb
     exact h8
    rw[<-h9];cases g1.has<;>rfl
   refine o4 (j5 [29,0,2,5,11,28] [0,5,11] Z fun X11 Z=>?_);replace Z:=Z.headS (v':=.int .i64 2) (by subst O;exact zr) rfl;refine u6 (a6 [30,0,2,5,11,28,29] [0,5,11] Z fun X5 Z=>?_);replace Z:=Z.headS (v':=.bool .ff) (Sim.bool (by subst O;rfl)) rfl;refine a7 (F2 Z rfl (fun Z=>?_));refine o4 ?_
   rcases(lp 0 b J hJ ((X7 2).A 0) ((X7 2).c 0) p71 hp71 hn71 l v).two (A4 _ _ _ _ _) hp71 hn71 with⟨w12,p12,hm12,O1⟩|⟨d2,p12,hm12,hs12,hp12,hn12,S12⟩
   .have O2:=eC
    refine jD 4 O a8 [58,59,60,61] [0] [(3,.r fun _=>.agg [.int .i64 2,.sl none none 0 0 2 (fun _=>[]),.int .i64 (-1),.int .u64 0,.int .u64 0])] Z O1 fun _ _ _ _ Z hk=>?_
    exact thm (P:=Tryz.prog) (fn:=Tryz.f225) (q:=p12) Z hk (by simp[C2,I8,<-hx0,<-hx1,<-ha0,<-ha1,<-he,Rs.bind,t0,hrun0,hm70,tq0,hm90,t90,hm100,td0,hrun1,hm71,tq1,hm12])
   have O1:=eC;have O2:=S12;refine drg O a8 [] [0] [(3,.r fun _=>.agg [.int .i64 2,.sl none none 0 0 2 (fun _=>[]),.int .i64 (-1),.int .u64 0,.int .u64 0]),(4,rc J (.bool (.v d2)) p12)] Z fun X12 _ _ Z=>?_
   exact(rmm O a8 Z (v:=()) (q:=p12) ((X12 4).A 0) ((X12 4).c 0) (by simp[C2,I8,<-hx0,<-hx1,<-ha0,<-ha1,<-he,Rs.bind,t0,hrun0,hm70,tq0,hm90,t90,hm100,td0,hrun1,hm71,tq1,hm12])).2
  have tq1:(g1.has && !decide (g1.x.r.kd=5))=false:=by
   have h9:(if g1.has=true then !decide (g1.x.r.kd=5)else false)=false:=by
    have h8:(if g1.has=true then(g1.x.r.kd != 5)else false)=false:=by subst O;exact hb
    exact h8
   rw[<-h9];cases g1.has<;>rfl
  refine f9 (a7 (a7 ?_))
  rcases(iY 0 b J hJ ((X7 2).A 0) ((X7 2).c 0) p71 hp71 hn71 l v).two (l3 _ _ _) hp71 hn71 with⟨w91,p91,hm91,O1⟩|⟨h1,p91,hm91,hs91,hp91,hn91,S91⟩
  .refine stp 3 O a8 [44,45,46] [0] [] Z O1 fun _ _ _ _ Z hk=>?_
   exact thm (P:=Tryz.prog) (fn:=Tryz.f225) (q:=p91) Z hk (by simp[C2,I8,<-hx0,<-hx1,<-ha0,<-ha1,<-he,Rs.bind,t0,hrun0,hm70,tq0,hm90,t90,hm100,td0,hrun1,hm71,tq1,hm91])
  have hl91:=I1 hm91;have hg91:=hp71.get hm91
  try dsimp only at S91
  obtain⟨e1,he1⟩:=eqv (decide (h1.ver=v));rw[<-he1]at S91;have O1:=S91;refine j4 [48,0,2,5,11,12,13,14,28,29] [0,5,11,13,14] [(3,rc J (.bool (.v e1)) p91)] Z fun X9 Z=>?_
  apply d7 Z rfl<;>intro hb Z
  .have t91:¬h1.ver=v:=by
    have h9:(!e1)=true:=by subst O;exact hb
    rw[he1]at h9;simpa using h9
   exact j2 ((rmm O a8 Z (v:=()) (q:=p91) ((X9 3).A 0) ((X9 3).c 0) (by simp[C2,I8,<-hx0,<-hx1,<-ha0,<-ha1,<-he,Rs.bind,t0,hrun0,hm70,tq0,hm90,t90,hm100,td0,hrun1,hm71,tq1,hm91,t91])).1)
  have t91:h1.ver=v:=by
   have h9:(!e1)=false:=by subst O;exact hb
   rw[he1]at h9;simpa using h9
  refine f9 (a7 ?_)
  rcases(gD 0 b J hJ ((X9 3).A 0) ((X9 3).c 0) p91 hp91 hn91 x1 g1.ver ⟨(X1 2).A 1,(X1 2).c 1,r1⟩).two (A4 _ _ _ _ _) hp91 hn91 with⟨w101,p101,hm101,O1⟩|⟨d1,p101,hm101,hs101,hp101,hn101,S101⟩
  .refine jD 7 O a8 [49,50,52,55] [0] [] Z O1 fun _ _ _ _ Z hk=>?_
   exact thm (P:=Tryz.prog) (fn:=Tryz.f225) (q:=p101) Z hk (by simp[C2,I8,<-hx0,<-hx1,<-ha0,<-ha1,<-he,Rs.bind,t0,hrun0,hm70,tq0,hm90,t90,hm100,td0,hrun1,hm71,tq1,hm91,t91,hm101])
  have O1:=S101;refine drg O a8 [56,0,2,5,11,12,13,28,29] [0,5,11,13] [(7,rc J (.bool (.v d1)) p101)] Z fun X10 _ _ Z=>?_
  apply d7 Z rfl<;>intro hb Z
  .have td1:d1=true:=by exact hb
   refine o4 (j5 [29,0,2,5,11,28] [0,5,11] Z fun X11 Z=>?_);replace Z:=Z.headS (v':=.int .i64 2) (by subst O;exact zr) rfl;refine u6 (a6 [30,0,2,5,11,28,29] [0,5,11] Z fun X5 Z=>?_);replace Z:=Z.headS (v':=.bool .ff) (Sim.bool (by subst O;rfl)) rfl;refine a7 (F2 Z rfl (fun Z=>?_));refine o4 ?_
   rcases(lp 0 b J hJ ((X10 7).A 0) ((X10 7).c 0) p101 hp101 hn101 l v).two (A4 _ _ _ _ _) hp101 hn101 with⟨w12,p12,hm12,O1⟩|⟨d2,p12,hm12,hs12,hp12,hn12,S12⟩
   .have O2:=eC
    refine jD 4 O a8 [58,59,60,61] [0] [(3,.r fun _=>.agg [.int .i64 2,.sl none none 0 0 2 (fun _=>[]),.int .i64 (-1),.int .u64 0,.int .u64 0])] Z O1 fun _ _ _ _ Z hk=>?_
    exact thm (P:=Tryz.prog) (fn:=Tryz.f225) (q:=p12) Z hk (by simp[C2,I8,<-hx0,<-hx1,<-ha0,<-ha1,<-he,Rs.bind,t0,hrun0,hm70,tq0,hm90,t90,hm100,td0,hrun1,hm71,tq1,hm91,t91,hm101,td1,hm12])
   have O1:=eC;have O2:=S12;refine drg O a8 [] [0] [(3,.r fun _=>.agg [.int .i64 2,.sl none none 0 0 2 (fun _=>[]),.int .i64 (-1),.int .u64 0,.int .u64 0]),(4,rc J (.bool (.v d2)) p12)] Z fun X12 _ _ Z=>?_
   exact(rmm O a8 Z (v:=()) (q:=p12) ((X12 4).A 0) ((X12 4).c 0) (by simp[C2,I8,<-hx0,<-hx1,<-ha0,<-ha1,<-he,Rs.bind,t0,hrun0,hm70,tq0,hm90,t90,hm100,td0,hrun1,hm71,tq1,hm91,t91,hm101,td1,hm12])).2
  have td1:d1=false:=by exact hb
  replace Z:=Z.keep [0,2,5,11,12,13,28,29] [0,5,11,13];exact f9 (⟨(m1,p101,_,_),⟨by rw[hrun1];simp[I8,Rs.bind,t0,hrun0,hm70,tq0,hm90,t90,hm100,td0,hrun1,hm71,tq1,hm91,t91,hm101,td1],hp101,hn101,by dsimp only;have:=hl71;have:=hs91.le;have:=hs101.le;have:=hf1;omega,by dsimp only;have:=hl71;have:=hs91.le;have:=hs101.le;have:=hle1;omega⟩,by simp only;omega,Z⟩)
 have td0:d0=false:=by exact hb
 replace Z:=Z.keep [0,2,5,11,12,13,28,29] [0,5,11,13];exact f9 (⟨(m0,p100,_,_),⟨by rw[hrun0];simp[I8,Rs.bind,t0,hrun0,hm70,tq0,hm90,t90,hm100,td0],hp100,hn100,by dsimp only;have:=hl70;have:=hs90.le;have:=hs100.le;have:=hf0;omega,by dsimp only;have:=hl70;have:=hs90.le;have:=hs100.le;have:=hle0;omega⟩,by simp only;omega,Z⟩)
theorem HD(k0 b:Nat)(J:l4)(hJ:u7 J)(A:Option Addr)(c:Nat)(p:Pst)(hp:j8 p)(hn:p.n<=1000000)(l:Lab)(hl:LOk l)(v:Int)(x:RA)(hx:bF x)(n:Nat)(hf:p.n<n):s8 225 k0 b J A c p [i9 l,.int .u64 v,N6 x] (fun _=>G1) (C2 J.budget n l v x p):=s8.re (EQ b J hJ A c p hp hn l hl v x hx n hf) (by repeat(first|exact trivial|refine⟨zr,?_⟩))
theorem FA(b:Nat)(J:l4)(hJ:u7 J)(A:Option Addr)(c:Nat)(p:Pst)(hp:j8 p)(hn:p.n<=1000000)(l:Lab)(hl:LOk l)(v:Int)(n:Nat)(hth:ThC n)(hf:p.n<n):s8 226 0 b J A c p [i9 l,.int .u64 v] (fun _=>G1) (Z8 J.bucket J.budget n (T3 J.bucket J.budget n) l v p):=by
 intro m w hm hargs hpre;have SC:=uO l hl.u;have hk0:=hl.ch 0;have hk1:=hl.ch 1;simp only[i9]at SC;obtain⟨x0,hx0⟩:=eqv (chV l 0);rw[<-hx0]at SC hk0;obtain⟨x1,hx1⟩:=eqv (chV l 1);rw[<-hx1]at SC hk1;refine enX 73 hm hpre hargs Tryz.func226 fun B O a0 Z=>?_
 refine a6 [0,2,4] [0,4] Z fun X0 Z=>?_
 refine a6 [0,2,4,6] [0,4,6] Z fun X1 Z=>?_
 have O1:=SC;refine a7 (j6 [15,0,2,4,6,14] [0,4,6] [(1,.r fun _=>.agg [.int .i64 x0.len,.int .u64 x0.bits,.int .i64 x1.len,.int .u64 x1.bits])] Z fun X2 Z=>?_);refine j0 (wp_loop_rounds 3 (Y3 (a6 [16,0,2,4,6,14,15] [0,4,6] Z fun X3 Z=>?_)));replace Z:=Z.headS (v':=.bool .tt) (Sim.bool (by subst O;rfl)) rfl;refine a7 (D5 Z rfl (fun Z=>?_));refine f9 (a7 (j0 (a6 [0,2,4,6,7,8,14,15] [0,4,6,8] Z fun X4 Z=>?_)));refine a7 ?_
 rcases(Ej 0 b J hJ A c p hp hn l v x0 n (by have:=(Suf.refl p).le;omega)).two (cb _ _ _ _ _ _) hp hn with⟨w50,p50,hm50,O1⟩|⟨z0,p50,hm50,hs50,hp50,hn50,S50⟩
 .refine stp 4 O a8 [20,21,22,23] [0] [] Z O1 fun _ _ _ _ Z hk=>?_
  exact thm (P:=Tryz.prog) (fn:=Tryz.f226) (q:=p50) Z hk (by simp[Z8,<-hx0,<-hx1,Rs.bind,hm50])
 have hz0:∀y,z0 = .fr y->bF y:=fun y hy=>kN hp (by rw[hm50,hy])
 have T50:=S50;unfold uH at T50;obtain⟨y0,hy0⟩:=eqv (fzR z0);rw[<-hy0]at T50;obtain⟨i0,hi0⟩:=eqv (fzI z0);rw[<-hi0]at T50;have O1:=T50;refine j4 [0,2,4,6,7,9,10,14,15] [0,4,6,9] [(4,rc J (.tup [.agg [.int .i64 y0.r.kd,.sl none y0.A y0.r.n y0.c 2 (fun i=>itC (y0.r.f i)),.int .i64 y0.r.nx.len,.int .u64 y0.r.nx.bits,.int .u64 y0.r.mrk],.int .i64 i0]) p50)] Z fun X5 Z=>?_
 refine a7 (a6 [0,2,4,6,7,9,14,15,27] [0,4,6,9] Z fun X6 Z=>?_);refine j0 (a7 (j0 (a7 (j0 (a7 (a7 (a6 [28,0,2,4,6,7,9,14,15,27] [0,4,6,9] Z fun X7 Z=>?_)))))));apply d7 Z rfl<;>intro hb Z
 .have tz0:z0 = .unfit:=Io (by rw[<-hi0];subst O;simpa[std,b7]using hb)
  refine o4 ?_
  rcases(Af 0 b J hJ ((X5 4).A 0) ((X5 4).c 0) p50 hp50 hn50 l hl v n hth (by have:=(Suf.trans (Suf.refl p) hs50).le;omega)).two (ec _ _ (J0 _ _ _) _ _ _) hp50 hn50 with⟨w90,p90,hm90,O1⟩|⟨v90,p90,hm90,hs90,hp90,hn90,S90⟩
  .refine stp 3 O a8 [32,33,34] [0] [] Z O1 fun _ _ _ _ Z hk=>?_
   exact thm (P:=Tryz.prog) (fn:=Tryz.f226) (q:=p90) Z hk (by simp[Z8,<-hx0,<-hx1,Rs.bind,hm50,tz0,hm90])
  have O1:=S90;refine j4 [] [0] [(3,rc J (G1) p90)] Z fun X9 Z=>?_
  exact a7 (j2 ((rmm O a8 Z (v:=()) (q:=p90) ((X9 3).A 0) ((X9 3).c 0) (by simp[Z8,<-hx0,<-hx1,Rs.bind,hm50,tz0,hm90])).1))
 have ta0:fzI z0≠1:=by
  have:¬i0=1:=by subst O;simpa[std,b7]using hb
  rw[<-hi0];exact this
 refine f9 (a6 [30,0,2,4,6,7,9,14,15] [0,4,6,9] Z fun X8 Z=>?_);apply d7 Z rfl<;>intro hb Z
 .have tz0:z0 = .over:=Ip (by rw[<-hi0];subst O;simpa[std,b7]using hb)
  exact o4 (a7 (j2 ((rmm O a8 Z (v:=()) (q:=p50) ((X5 4).A 0) ((X5 4).c 0) (by simp[Z8,<-hx0,<-hx1,Rs.bind,hm50,tz0])).1)))
 have tz0:z0 = .fr y0:=by
  rw[hy0];refine In ?_ ta0;have:¬i0=0:=by subst O;simpa[std,b7]using hb
  rw[<-hi0];exact this
 have ty0:=hz0 _ tz0;refine f9 (o4 (j5 [0,2,4,6,14,15] [0,4,6] Z fun X10 Z=>?_));refine j5 [15,0,2,4,6,14] [0,4,6] Z fun X11 Z=>?_
 replace Z:=Z.headS (v':=.int .i64 1) (by subst O;exact zr) rfl;refine u6 (a6 [16,0,2,4,6,14,15] [0,4,6] Z fun X3 Z=>?_);replace Z:=Z.headS (v':=.bool .tt) (Sim.bool (by subst O;rfl)) rfl;refine a7 (D5 Z rfl (fun Z=>?_));refine f9 (a7 (j0 (a6 [0,2,4,6,7,8,14,15] [0,4,6,8] Z fun X4 Z=>?_)));refine a7 ?_
 rcases(Ej 0 b J hJ ((X5 4).A 0) ((X5 4).c 0) p50 hp50 hn50 l v x1 n (by have:=(Suf.trans (Suf.refl p) hs50).le;omega)).two (cb _ _ _ _ _ _) hp50 hn50 with⟨w51,p51,hm51,O1⟩|⟨z1,p51,hm51,hs51,hp51,hn51,S51⟩
 .refine stp 4 O a8 [20,21,22,23] [0] [] Z O1 fun _ _ _ _ Z hk=>?_
  exact thm (P:=Tryz.prog) (fn:=Tryz.f226) (q:=p51) Z hk (by simp[Z8,<-hx0,<-hx1,Rs.bind,hm50,tz0,hm51])
 have hz1:∀y,z1 = .fr y->bF y:=fun y hy=>kN hp50 (by rw[hm51,hy])
 have T51:=S51;unfold uH at T51;obtain⟨y1,hy1⟩:=eqv (fzR z1);rw[<-hy1]at T51;obtain⟨i1,hi1⟩:=eqv (fzI z1);rw[<-hi1]at T51;have O1:=T51;refine j4 [0,2,4,6,7,9,10,14,15] [0,4,6,9] [(4,rc J (.tup [.agg [.int .i64 y1.r.kd,.sl none y1.A y1.r.n y1.c 2 (fun i=>itC (y1.r.f i)),.int .i64 y1.r.nx.len,.int .u64 y1.r.nx.bits,.int .u64 y1.r.mrk],.int .i64 i1]) p51)] Z fun X5 Z=>?_
 refine a7 (a6 [0,2,4,6,7,9,14,15,27] [0,4,6,9] Z fun X6 Z=>?_);refine j0 (a7 (j0 (a7 (j0 (a7 (a7 (a6 [28,0,2,4,6,7,9,14,15,27] [0,4,6,9] Z fun X7 Z=>?_)))))));apply d7 Z rfl<;>intro hb Z
 .have tz1:z1 = .unfit:=Io (by rw[<-hi1];subst O;simpa[std,b7]using hb)
  refine o4 ?_
  rcases(Af 0 b J hJ ((X5 4).A 0) ((X5 4).c 0) p51 hp51 hn51 l hl v n hth (by have:=(Suf.trans (Suf.trans (Suf.refl p) hs50) hs51).le;omega)).two (ec _ _ (J0 _ _ _) _ _ _) hp51 hn51 with⟨w91,p91,hm91,O1⟩|⟨v91,p91,hm91,hs91,hp91,hn91,S91⟩
  .refine stp 3 O a8 [32,33,34] [0] [] Z O1 fun _ _ _ _ Z hk=>?_
   exact thm (P:=Tryz.prog) (fn:=Tryz.f226) (q:=p91) Z hk (by simp[Z8,<-hx0,<-hx1,Rs.bind,hm50,tz0,hm51,tz1,hm91])
  have O1:=S91;refine j4 [] [0] [(3,rc J (G1) p91)] Z fun X9 Z=>?_
  exact a7 (j2 ((rmm O a8 Z (v:=()) (q:=p91) ((X9 3).A 0) ((X9 3).c 0) (by simp[Z8,<-hx0,<-hx1,Rs.bind,hm50,tz0,hm51,tz1,hm91])).1))
 have ta1:fzI z1≠1:=by
  have:¬i1=1:=by subst O;simpa[std,b7]using hb
  rw[<-hi1];exact this
 refine f9 (a6 [30,0,2,4,6,7,9,14,15] [0,4,6,9] Z fun X8 Z=>?_);apply d7 Z rfl<;>intro hb Z
 .have tz1:z1 = .over:=Ip (by rw[<-hi1];subst O;simpa[std,b7]using hb)
  exact o4 (a7 (j2 ((rmm O a8 Z (v:=()) (q:=p51) ((X5 4).A 0) ((X5 4).c 0) (by simp[Z8,<-hx0,<-hx1,Rs.bind,hm50,tz0,hm51,tz1])).1)))
 have tz1:z1 = .fr y1:=by
  rw[hy1];refine In ?_ ta1;have:¬i1=0:=by subst O;simpa[std,b7]using hb
  rw[<-hi1];exact this
 have ty1:=hz1 _ tz1;refine f9 (o4 (j5 [0,2,4,6,14,15] [0,4,6] Z fun X10 Z=>?_));refine j5 [15,0,2,4,6,14] [0,4,6] Z fun X11 Z=>?_
 replace Z:=Z.headS (v':=.int .i64 2) (by subst O;exact zr) rfl;refine u6 (a6 [16,0,2,4,6,14,15] [0,4,6] Z fun X3 Z=>?_);replace Z:=Z.headS (v':=.bool .ff) (Sim.bool (by subst O;rfl)) rfl;refine a7 (F2 Z rfl (fun Z=>?_));have SU:=GX y0 y1 ty0 ty1;obtain⟨r2,hr2⟩:=eqv ((cK y0 y1).1.rn);rw[<-hr2]at SU;obtain⟨e2,he2⟩:=eqv ((cK y0 y1).2);rw[<-he2]at SU;have ha2:r2.abs=(cK y0 y1).1:=by rw[hr2];exact Z4 _
 have hl2:r2.abs.items.length=r2.n:=by rw[ha2,hr2];rfl
 have O1:=SU;refine o4 (j6 [0,2,4,11,12] [0,4,11] [(4,.r fun z=>.tup [.agg [.int .i64 r2.kd,.sl none (z.A 0) r2.n (z.c 0) 2 (fun i=>itC (r2.f i)),.int .i64 r2.nx.len,.int .u64 r2.nx.bits,.int .u64 r2.mrk],.int .i64 e2])] Z fun X12 Z=>?_);refine a7 (a7 (drg O a8 [60,0,2,4,11] [0,4,11] [] Z fun X13 _ _ Z=>?_));apply d7 Z rfl<;>intro hb Z
 .have tu:¬((cK y0 y1).2=0/\(r2.abs.items.length:Int)<=J.bucket):=by
   have h9:(if(!decide (e2=0))=true then true else decide ((r2.n:Int)>J.bucket))=true:=by subst O;exact hb
   rw[<-he2,hl2];intro h;simp[h.1]at h9;omega
  refine a7 ?_
  rcases(Af 0 b J hJ ((X5 4).A 0) ((X5 4).c 0) p51 hp51 hn51 l hl v n hth (by have:=(Suf.trans (Suf.trans (Suf.refl p) hs50) hs51).le;omega)).two (ec _ _ (J0 _ _ _) _ _ _) hp51 hn51 with⟨w14,p14,hm14,O1⟩|⟨v14,p14,hm14,hs14,hp14,hn14,S14⟩
  .refine stp 3 O a8 [61,62,63] [0] [] Z O1 fun _ _ _ _ Z hk=>?_
   exact thm (P:=Tryz.prog) (fn:=Tryz.f226) (q:=p14) Z hk (by simp[Z8,<-hx0,<-hx1,Rs.bind,hm50,tz0,hm51,tz1,<-ha2,if_neg tu,hm14])
  have O1:=S14;refine j4 [] [0] [(3,rc J (G1) p14)] Z fun X14 Z=>?_
  exact j2 ((rmm O a8 Z (v:=()) (q:=p14) ((X14 3).A 0) ((X14 3).c 0) (by simp[Z8,<-hx0,<-hx1,Rs.bind,hm50,tz0,hm51,tz1,<-ha2,if_neg tu,hm14])).1)
 have tu:(cK y0 y1).2=0/\(r2.abs.items.length:Int)<=J.bucket:=by
  have h9:(if(!decide (e2=0))=true then true else decide ((r2.n:Int)>J.bucket))=false:=by subst O;exact hb
  rw[<-he2,hl2];simp at h9;exact⟨h9.1,by omega⟩
 refine f9 (a7 ?_)
 rcases(gD 0 b J hJ ((X5 4).A 0) ((X5 4).c 0) p51 hp51 hn51 l v ⟨(X12 4).A 0,(X12 4).c 0,r2⟩).two (A4 _ _ _ _ _) hp51 hn51 with⟨w15,p15,hm15,O1⟩|⟨d5,p15,hm15,hs15,hp15,hn15,S15⟩
 .refine stp 4 O a8 [65,66,67,68] [0] [] Z O1 fun _ _ _ _ Z hk=>?_
  exact thm (P:=Tryz.prog) (fn:=Tryz.f226) (q:=p15) Z hk (by simp[Z8,<-hx0,<-hx1,Rs.bind,hm50,tz0,hm51,tz1,<-ha2,if_pos tu,hm15])
 have O1:=S15;refine j4 [69,0,4] [0,4] [(4,rc J (.bool (.v d5)) p15)] Z fun X15 Z=>?_
 apply d7 Z rfl<;>intro hb Z
 .have t5:d5=true:=by exact hb
  rcases(Ep n 0 b J hJ ((X15 4).A 0) ((X15 4).c 0) p15 hp15 hn15 l hl (by have:=(Suf.trans (Suf.trans (Suf.trans (Suf.refl p) hs50) hs51) hs15).le;omega)).two (cd _ _ _ _) hp15 hn15 with⟨w16,p16,hm16,O1⟩|⟨v16,p16,hm16,hs16,hp16,hn16,S16⟩
  .refine stp 2 O a8 [70,71] [0] [] Z O1 fun _ _ _ _ Z hk=>?_
   exact thm (P:=Tryz.prog) (fn:=Tryz.f226) (q:=p16) Z hk (by simp[Z8,<-hx0,<-hx1,Rs.bind,hm50,tz0,hm51,tz1,<-ha2,if_pos tu,hm15,t5,hm16])
  have O1:=S16;refine j4 [] [0] [(2,rc J (G1) p16)] Z fun X16 Z=>?_
  exact(rmm O a8 Z (v:=()) (q:=p16) ((X16 2).A 0) ((X16 2).c 0) (by simp[Z8,<-hx0,<-hx1,Rs.bind,hm50,tz0,hm51,tz1,<-ha2,if_pos tu,hm15,t5,hm16])).2
 have t5:d5=false:=by exact hb
 exact f9 ((rmm O a8 Z (v:=()) (q:=p15) ((X15 4).A 0) ((X15 4).c 0) (by simp[Z8,<-hx0,<-hx1,Rs.bind,hm50,tz0,hm51,tz1,<-ha2,if_pos tu,hm15,t5])).2)
theorem Ib(k0 b:Nat)(J:l4)(hJ:u7 J)(A:Option Addr)(c:Nat)(p:Pst)(hp:j8 p)(hn:p.n<=1000000)(l:Lab)(hl:LOk l)(v:Int)(n:Nat)(hth:ThC n)(hf:p.n<n):s8 226 k0 b J A c p [i9 l,.int .u64 v] (fun _=>G1) (Z8 J.bucket J.budget n (T3 J.bucket J.budget n) l v p):=s8.re (FA b J hJ A c p hp hn l hl v n hth hf) (by repeat(first|exact trivial|refine⟨zr,?_⟩))
theorem FY(b:Nat)(J:l4)(hJ:u7 J)(A:Option Addr)(c:Nat)(p:Pst)(hp:j8 p)(hn:p.n<=1000000)(l:Lab)(hl:LOk l)(g:r5)(hg:eD g)(n:Nat)(hth:ThC n)(hf:p.n<n):s8 165 0 b J A c p [i9 l,F4 g] (fun _=>G1) (cP J.bucket J.budget n l g p):=by
 intro m w hm hargs hpre;refine enX 26 hm hpre hargs Tryz.func165 fun B O a0 Z=>?_
 refine a6 [0,4,5] [0,4,5] Z fun X0 Z=>?_
 obtain⟨q1,hq1⟩:=eqv (gk g 3);refine j0 (a7 ?_);refine j4 [6,0,4,5] [0,4,5,8] [(2,.r fun _=>.bool (.v q1))] Z (hob:=by intro X;subst O;simp only[f8,Ob.holds,BE.den]<;>and_intros<;>repeat first|trivial|rfl|exact(by rw[hq1];exact F0 g _ _ 3 _ rfl)|exact by rw[hq1];exact F0 g _ _ 3 _ rfl|exact(fun _ _=>by kernel_rfl)|refine⟨?_,?_⟩|intro h|exact Int.le_refl _|decide|omega) fun X1 Z=>?_
 apply d7 Z rfl<;>intro hb Z
 .have tq1:gk g 3=true:=by rw[<-hq1];exact hb
  rcases(HD 0 b J hJ A c p hp hn l hl g.ver g.x hg.ra n hf).two (mO _ _ _ _ _ _) hp hn with⟨w2,p2,hm2,O1⟩|⟨v2,p2,hm2,hs2,hp2,hn2,S2⟩
  .refine stp 6 O a8 [10,11,13,15] [0] [] Z O1 fun _ _ _ _ Z hk=>?_
   exact thm (P:=Tryz.prog) (fn:=Tryz.f165) (q:=p2) Z hk (by simp[cP,gW,Rs.bind,tq1,hm2])
  have O1:=S2;refine j4 [] [0] [(6,rc J (G1) p2)] Z fun X2 Z=>?_
  exact(rmm O a8 Z (v:=()) (q:=p2) ((X2 6).A 0) ((X2 6).c 0) (by simp[cP,gW,Rs.bind,tq1,hm2])).2
 have tq1:gk g 3=false:=by rw[<-hq1];exact hb
 refine a6 [17,0,4,5] [0,4,5] Z fun X3 Z=>?_
 apply d7 Z rfl<;>intro hb Z
 .have t2:l.len<64:=by subst O;simpa[std,b7]using hb
  rcases(Ib 0 b J hJ A c p hp hn l hl g.ver n hth hf).two (uA _ _ _ _ (J0 _ _ _) _ _ _) hp hn with⟨w4,p4,hm4,O1⟩|⟨v4,p4,hm4,hs4,hp4,hn4,S4⟩
  .refine stp 4 O a8 [21,22,24] [0] [] Z O1 fun _ _ _ _ Z hk=>?_
   exact thm (P:=Tryz.prog) (fn:=Tryz.f165) (q:=p4) Z hk (by simp[cP,gW,Rs.bind,tq1,t2,hm4])
  have O1:=S4;refine j4 [] [0] [(4,rc J (G1) p4)] Z fun X4 Z=>?_
  exact(rmm O a8 Z (v:=()) (q:=p4) ((X4 4).A 0) ((X4 4).c 0) (by simp[cP,gW,Rs.bind,tq1,t2,hm4])).2
 have t2:¬l.len<64:=by subst O;simpa[std,b7]using hb
 exact f9 ((rmm O a8 Z (v:=()) (q:=p) A c (by simp[cP,gW,Rs.bind,tq1,t2])).2)
theorem Iq(k0 b:Nat)(J:l4)(hJ:u7 J)(A:Option Addr)(c:Nat)(p:Pst)(hp:j8 p)(hn:p.n<=1000000)(l:Lab)(hl:LOk l)(g:r5)(hg:eD g)(n:Nat)(hth:ThC n)(hf:p.n<n):s8 165 k0 b J A c p [i9 l,F4 g] (fun _=>G1) (cP J.bucket J.budget n l g p):=s8.re (FY b J hJ A c p hp hn l hl g hg n hth hf) (by repeat(first|exact trivial|refine⟨zr,?_⟩))
theorem ED(b:Nat)(J:l4)(hJ:u7 J)(A:Option Addr)(c:Nat)(p:Pst)(hp:j8 p)(hn:p.n<=1000000)(l:Lab)(hl:LOk l)(n:Nat)(hfin:∀j,j<n->Dh j)(hf:p.n<n):s8 228 0 b J A c p [i9 l] (fun _=>G1) (T3 J.bucket J.budget n l p):=by
 intro m w hm hargs hpre;have SP:=DR l hl.u;have hpar:=hl.par;simp only[i9]at SP;obtain⟨up,hup⟩:=eqv (V9 l);rw[<-hup]at SP hpar;obtain⟨ue,hue⟩:=eqv (aw l);rw[<-hue]at SP;refine enX 46 hm hpre hargs Tryz.func228 fun B O a0 Z=>?_
 refine a6 [0,3] [0,3] Z fun X0 Z=>?_
 have O1:=SP;refine j6 [0,3,4,5] [0,3,4] [(1,.r fun _=>.tup [.agg [.int .i64 up.len,.int .u64 up.bits],.int .i64 ue])] Z fun X1 Z=>?_
 refine a7 (a6 [14,0,3,4] [0,3,4] Z fun X2 Z=>?_);apply d7 Z rfl<;>intro hb Z
 .have t0:¬ue=0:=by subst O;simpa[std,b7]using hb
  exact j2 ((rmm O a8 Z (v:=()) (q:=p) A c (by simp[T3,<-hup,<-hue,Rs.bind,t0])).1)
 have t0:ue=0:=by subst O;simpa[std,b7]using hb
 refine f9 (j0 (r9 (ι:=Nat×Pst×Option Addr×Nat) (fun q=>[]) (fun q=>[(0,⟨b,139,D4 J q.2.2.1 q.2.2.2 q.2.1⟩)]) (fun q=>[]) (fun q=>cU J.bucket J.budget n l up p=cU J.bucket J.budget q.1 l up q.2.1/\j8 q.2.1/\q.2.1.n<=1000000/\q.2.1.n<q.1/\q.1<=n) (fun q=>q.1) (n,p,A,c) ⟨rfl,hp,hn,hf,Nat.le_refl _⟩ Z ?_))
 rintro⟨nn,p0,A0,c0⟩ ⟨hrun,hp0,hn0,hf0,hnn⟩ _ _ Z
 try dsimp only at hrun
 try dsimp only at hp0
 try dsimp only at hn0
 try dsimp only at hf0
 try dsimp only at hnn
 obtain⟨n2,rfl⟩:∃n2,nn=n2+1:=⟨nn-1,by omega⟩
 refine j0 (a7 ?_)
 rcases(V0 0 b J hJ A0 c0 p0 hp0 hn0 l).two (l3 _ _ _) hp0 hn0 with⟨w3,p3,hm3,O1⟩|⟨g3,p3,hm3,hs3,hp3,hn3,S3⟩
 .refine stp 2 O a8 [15,16] [0] [] Z O1 fun _ _ _ _ Z hk=>?_
  exact thm (P:=Tryz.prog) (fn:=Tryz.f228) (q:=p3) Z hk (by simp[T3,<-hup,<-hue,Rs.bind,t0,hrun,D9,hm3])
 have hl3:=I1 hm3;have hg3:=hp0.get hm3;have O1:=S3;refine j4 [0,3,4,6] [0,3,4,6] [(2,rc J (F4 g3) p3)] Z fun X3 Z=>?_
 obtain⟨q4,hq4⟩:=eqv (gk g3 5);refine a7 (a7 ?_);refine j4 [21,0,3,4,6] [0,3,4,6] [(2,.r fun _=>.bool (.v q4))] Z (hob:=by intro X;subst O;simp only[f8,Ob.holds,BE.den]<;>and_intros<;>repeat first|trivial|rfl|exact(by rw[hq4];exact F0 g3 _ _ 5 _ rfl)|exact by rw[hq4];exact F0 g3 _ _ 5 _ rfl|exact(fun _ _=>by kernel_rfl)|refine⟨?_,?_⟩|intro h|exact Int.le_refl _|decide|omega) fun X4 Z=>?_
 apply d7 Z rfl<;>intro hb Z
 .have tq4:gk g3 5=false:=by subst O;rw[<-hq4];revert hb;cases q4<;>simp[std]
  exact j2 ((rmm O a8 Z (v:=()) (q:=p3) ((X3 2).A 0) ((X3 2).c 0) (by simp[T3,<-hup,<-hue,Rs.bind,t0,hrun,D9,hm3,tq4])).1)
 have tq4:gk g3 5=true:=by subst O;rw[<-hq4];revert hb;cases q4<;>simp[std]
 refine f9 (a7 ?_)
 rcases(V0 0 b J hJ ((X3 2).A 0) ((X3 2).c 0) p3 hp3 hn3 up).two (l3 _ _ _) hp3 hn3 with⟨w5,p5,hm5,O1⟩|⟨g5,p5,hm5,hs5,hp5,hn5,S5⟩
 .refine stp 2 O a8 [22,23] [0] [] Z O1 fun _ _ _ _ Z hk=>?_
  exact thm (P:=Tryz.prog) (fn:=Tryz.f228) (q:=p5) Z hk (by simp[T3,<-hup,<-hue,Rs.bind,t0,hrun,D9,hm3,tq4,hm5])
 have hl5:=I1 hm5;have hg5:=hp3.get hm5;have O1:=S5;refine j4 [0,3,4,6,7] [0,3,4,6,7] [(2,rc J (F4 g5) p5)] Z fun X5 Z=>?_
 obtain⟨q6,hq6⟩:=eqv ((gk g5 3||gk g5 4));refine a7 (a7 ?_);refine j4 [27,0,3,4,6,7] [0,3,4,6,7,26] [(2,.r fun _=>.bool (.v q6))] Z (hob:=by intro X;subst O;simp only[f8,Ob.holds,BE.den]<;>and_intros<;>repeat first|trivial|rfl|exact(by rw[hq6];exact aH g5 _ _ 3 4 _ rfl rfl)|exact by rw[hq6];exact aH g5 _ _ 3 4 _ rfl rfl|exact(fun _ _=>by kernel_rfl)|refine⟨?_,?_⟩|intro h|exact Int.le_refl _|decide|omega) fun X6 Z=>?_
 apply d7 Z rfl<;>intro hb Z
 .have tq6:(gk g5 3||gk g5 4)=true:=by rw[<-hq6];exact hb
  rcases(hfin n2 (by omega) 0 b J hJ ((X5 2).A 0) ((X5 2).c 0) p5 hp5 hn5 up hpar g5 hg5 (by have:=hl3;have:=hl5;omega)).two (U7 _ _ _ _ _ _) hp5 hn5 with⟨w7,p7,hm7,O1⟩|⟨v7,p7,hm7,hs7,hp7,hn7,S7⟩
  .refine stp 3 O a8 [28,29,30] [0] [] Z O1 fun _ _ _ _ Z hk=>?_
   exact thm (P:=Tryz.prog) (fn:=Tryz.f228) (q:=p7) Z hk (by simp[T3,<-hup,<-hue,Rs.bind,t0,hrun,D9,hm3,tq4,hm5,tq6,hm7])
  have O1:=S7;refine j4 [0,3,4,6,7] [0,3,4,6,7] [(3,rc J (G1) p7)] Z fun X7 Z=>?_
  refine a7 ?_
  rcases Bool.eq_false_or_eq_true (gk g5 2)with t8|t8
  .rcases (gD 0 b J hJ ((X7 3).A 0) ((X7 3).c 0) p7 hp7 hn7 l g3.ver (asR 1 g3.x 0)).two (A4 _ _ _ _ _) hp7 hn7 with⟨w8,p8,hm8,O1⟩|⟨d8,p8,hm8,hs8,hp8,hn8,S8⟩
   .refine jD 12 O a8 [36,37,38,40,43] [0] [(2,.r fun _=>.bool .tt),(11,.r fun _=>N6 (asR 1 g3.x 0))] Z O1 (hob:=by intro X;subst O;simp only[f8,Ob.holds,BE.den]<;>and_intros<;>repeat first|trivial|rfl|exact((F0 g5 _ _ 2 _ rfl).res fun _=>Sim.bool (by rw[t8];rfl))|exact sX 1 g3.x 0|exact(fun _ _=>by kernel_rfl)|refine⟨?_,?_⟩|intro h|exact Int.le_refl _|decide|omega) fun _ _ _ _ Z hk=>?_
    exact thm (P:=Tryz.prog) (fn:=Tryz.f228) (q:=p8) Z hk (by simp[T3,<-hup,<-hue,Rs.bind,t0,hrun,D9,hm3,tq4,hm5,tq6,hm7,t8,hm8])
   refine drg O a8 [45,0,3,4] [0,3,4] [(2,.r fun _=>.bool .tt),(11,.r fun _=>N6 (asR 1 g3.x 0)),(12,rc J (.bool (.v d8)) p8)] Z (hob:=by intro X;subst O;simp only[f8,Ob.holds,BE.den]<;>and_intros<;>repeat first|trivial|rfl|exact((F0 g5 _ _ 2 _ rfl).res fun _=>Sim.bool (by rw[t8];rfl))|exact sX 1 g3.x 0|exact S8|exact(fun _ _=>by kernel_rfl)|refine⟨?_,?_⟩|intro h|exact Int.le_refl _|decide|omega) fun X8 _ _ Z=>?_
   apply d7 Z rfl<;>intro hb Z
   .have t9:d8=true:=by exact hb
    exact j2 ((rmm O a8 Z (v:=()) (q:=p8) ((X8 12).A 0) ((X8 12).c 0) (by simp[T3,<-hup,<-hue,Rs.bind,t0,hrun,D9,hm3,tq4,hm5,tq6,hm7,t8,hm8,t9])).1)
   have t9:d8=false:=by exact hb
   replace Z:=Z.keep [0,3,4] [0,3,4];exact f9 (⟨(n2,p8,_,_),⟨by rw[hrun];simp[D9,Rs.bind,t0,hrun,D9,hm3,tq4,hm5,tq6,hm7,t8,hm8,t9],hp8,hn8,by dsimp only;have:=hl3;have:=hs5.le;have:=hs7.le;have:=hs8.le;have:=hf0;omega,by dsimp only;omega⟩,by simp only;omega,Z⟩)
  refine drg O a8 [45,0,3,4] [0,3,4] [(2,.r fun _=>.bool .ff)] Z (hob:=by intro X;subst O;simp only[f8,Ob.holds,BE.den]<;>and_intros<;>repeat first|trivial|rfl|exact((F0 g5 _ _ 2 _ rfl).res fun _=>Sim.bool (by rw[t8];rfl))|exact sX 1 g3.x 0|exact(fun _ _=>by kernel_rfl)|refine⟨?_,?_⟩|intro h|exact Int.le_refl _|decide|omega) fun X8 _ _ Z=>?_
  refine D5 Z rfl (fun Z=>?_);exact j2 ((rmm O a8 Z (v:=()) (q:=p7) ((X7 3).A 0) ((X7 3).c 0) (by simp[T3,<-hup,<-hue,Rs.bind,t0,hrun,D9,hm3,tq4,hm5,tq6,hm7,t8])).1)
 have tq6:(gk g5 3||gk g5 4)=false:=by rw[<-hq6];exact hb
 refine f9 (a7 ?_)
 rcases Bool.eq_false_or_eq_true (gk g5 2)with t8|t8
 .rcases (gD 0 b J hJ ((X5 2).A 0) ((X5 2).c 0) p5 hp5 hn5 l g3.ver (asR 1 g3.x 0)).two (A4 _ _ _ _ _) hp5 hn5 with⟨w8,p8,hm8,O1⟩|⟨d8,p8,hm8,hs8,hp8,hn8,S8⟩
  .refine jD 12 O a8 [36,37,38,40,43] [0] [(2,.r fun _=>.bool .tt),(11,.r fun _=>N6 (asR 1 g3.x 0))] Z O1 (hob:=by intro X;subst O;simp only[f8,Ob.holds,BE.den]<;>and_intros<;>repeat first|trivial|rfl|exact((F0 g5 _ _ 2 _ rfl).res fun _=>Sim.bool (by rw[t8];rfl))|exact sX 1 g3.x 0|exact(fun _ _=>by kernel_rfl)|refine⟨?_,?_⟩|intro h|exact Int.le_refl _|decide|omega) fun _ _ _ _ Z hk=>?_
   exact thm (P:=Tryz.prog) (fn:=Tryz.f228) (q:=p8) Z hk (by simp[T3,<-hup,<-hue,Rs.bind,t0,hrun,D9,hm3,tq4,hm5,tq6,t8,hm8])
  refine drg O a8 [45,0,3,4] [0,3,4] [(2,.r fun _=>.bool .tt),(11,.r fun _=>N6 (asR 1 g3.x 0)),(12,rc J (.bool (.v d8)) p8)] Z (hob:=by intro X;subst O;simp only[f8,Ob.holds,BE.den]<;>and_intros<;>repeat first|trivial|rfl|exact((F0 g5 _ _ 2 _ rfl).res fun _=>Sim.bool (by rw[t8];rfl))|exact sX 1 g3.x 0|exact S8|exact(fun _ _=>by kernel_rfl)|refine⟨?_,?_⟩|intro h|exact Int.le_refl _|decide|omega) fun X8 _ _ Z=>?_
  apply d7 Z rfl<;>intro hb Z
  .have t9:d8=true:=by exact hb
   exact j2 ((rmm O a8 Z (v:=()) (q:=p8) ((X8 12).A 0) ((X8 12).c 0) (by simp[T3,<-hup,<-hue,Rs.bind,t0,hrun,D9,hm3,tq4,hm5,tq6,t8,hm8,t9])).1)
  have t9:d8=false:=by exact hb
  replace Z:=Z.keep [0,3,4] [0,3,4];exact f9 (⟨(n2,p8,_,_),⟨by rw[hrun];simp[D9,Rs.bind,t0,hrun,D9,hm3,tq4,hm5,tq6,t8,hm8,t9],hp8,hn8,by dsimp only;have:=hl3;have:=hs5.le;have:=(Suf.refl p5).le;have:=hs8.le;have:=hf0;omega,by dsimp only;omega⟩,by simp only;omega,Z⟩)
 refine drg O a8 [45,0,3,4] [0,3,4] [(2,.r fun _=>.bool .ff)] Z (hob:=by intro X;subst O;simp only[f8,Ob.holds,BE.den]<;>and_intros<;>repeat first|trivial|rfl|exact((F0 g5 _ _ 2 _ rfl).res fun _=>Sim.bool (by rw[t8];rfl))|exact sX 1 g3.x 0|exact(fun _ _=>by kernel_rfl)|refine⟨?_,?_⟩|intro h|exact Int.le_refl _|decide|omega) fun X8 _ _ Z=>?_
 refine D5 Z rfl (fun Z=>?_);exact j2 ((rmm O a8 Z (v:=()) (q:=p5) ((X5 2).A 0) ((X5 2).c 0) (by simp[T3,<-hup,<-hue,Rs.bind,t0,hrun,D9,hm3,tq4,hm5,tq6,t8])).1)
theorem Hy(k0 b:Nat)(J:l4)(hJ:u7 J)(A:Option Addr)(c:Nat)(p:Pst)(hp:j8 p)(hn:p.n<=1000000)(l:Lab)(hl:LOk l)(n:Nat)(hfin:∀j,j<n->Dh j)(hf:p.n<n):s8 228 k0 b J A c p [i9 l] (fun _=>G1) (T3 J.bucket J.budget n l p):=s8.re (ED b J hJ A c p hp hn l hl n hfin hf) (by repeat(first|exact trivial|refine⟨zr,?_⟩))
theorem xk:∀n,ThC n/\Dh n:=by
 intro n
 induction n using Nat.strongRecOn with
 |_ n ih=>
  have h1:ThC n:=fun k0 b J hJ A c p hp hn l hl hf=>Hy k0 b J hJ A c p hp hn l hl n (fun j hj=>(ih j hj).2) hf
  exact⟨h1,fun k0 b J hJ A c p hp hn l hl g hg hf=>Iq k0 b J hJ A c p hp hn l hl g hg n h1 hf⟩
theorem DN(n:Nat):ThC n:=(xk n).1
theorem Ek(n:Nat):Dh n:=(xk n).2
end Go.Proofs.YtmbkanpapkhnaaaGreat.Sym
