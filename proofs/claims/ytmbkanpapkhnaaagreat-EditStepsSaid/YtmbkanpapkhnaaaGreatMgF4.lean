/-
  SymUni, SymPr2, SymPr3, SymPr4, SymPr5, SymPr6, SymPr7, SymPr8, SymRcv, SymNx0, OpenS25, OpenW25, PlSeek, PlSib, SymSk1, SymMap1, SymMap2, PlEdit, PlEr, PlWok, ItClone: put together by a program of mine (a claim may have 60 files at most). Conditions: none.
-/
import Derived.Test.YtmbkanpapkhnaaaGreatMgF3
set_option linter.unusedVariables false
set_option linter.unusedSimpArgs false
set_option maxRecDepth 100000
set_option maxHeartbeats 1600000
namespace Go.Proofs.YtmbkanpapkhnaaaGreat.Sym
open Go Go.RowKit
theorem jZ{n:Nat}{m:Bool}(h:(if decide ((n:Int)>0)=true then m else false)=true):0<n/\m=true:=by
 rw[z8,Bool.and_eq_true,decide_eq_true_eq]at h;exact⟨by omega,h.2⟩
theorem zu{n N:Nat}(hn:n<=1000)(h:(if decide ((n:Int)>0)=true then decide ((n:Int)<(N:Int))else false)=true):0<=IntKind.i64.wrap ((n:Int)-1)/\IntKind.i64.wrap ((n:Int)-1)<(N:Int):=by
 obtain⟨h1,h2⟩:=jZ h;have h2:=of_decide_eq_true h2;rw[o8 (by omega) (by omega)];omega
theorem zt{n N:Nat}(h:(if decide ((n:Int)>0)=true then decide ((n:Int)<(N:Int))else false)=true):0<=(n:Int)/\(n:Int)<(N:Int):=by
 obtain⟨h1,h2⟩:=jZ h;have h2:=of_decide_eq_true h2;omega
theorem zq{n n2:Nat}(hn:n<=1000)(h:(if decide ((n:Int)>0)=true then decide ((n2:Int)>0)else false)=true):0<=IntKind.i64.wrap ((n:Int)-1)/\IntKind.i64.wrap ((n:Int)-1)<(n:Int):=by
 obtain⟨h1,h2⟩:=jZ h;rw[o8 (by omega) (by omega)];omega
theorem zn{n n2:Nat}(h:(if decide ((n:Int)>0)=true then decide ((n2:Int)>0)else false)=true):0<=(0:Int)/\(0:Int)<(n2:Int):=by
 obtain⟨h1,h2⟩:=jZ h;have h2:=of_decide_eq_true h2;omega
def jU(n:Nat)(f f2:Nat->Itm):Nat->Itm:=fun t=>if t<n then f t else f2 (t-n)
def oW(NN:Nat->Nat)(FF:Nat->Nat->Itm)(k:Nat):List Itm:=(List.range k).flatMap fun i=>b4 (FF i) (NN i)
theorem nL(NN:Nat->Nat)(FF:Nat->Nat->Itm)(k:Nat):oW NN FF (k+1)=oW NN FF k++b4 (FF k) (NN k):=by simp[oW,List.range_succ]
theorem yL(n n2:Nat)(f f2:Nat->Itm):oW (fun i=>if i=0 then n else n2) (fun i=>if i=0 then f else f2) 2=b4 f n++b4 f2 n2:=by simp[oW,List.range_succ]
theorem jH(q m:Nat)(g h:Nat->Itm):b4 (jU q g h) (q+m)=b4 g q++b4 h m:=by
 rw[lJ]
 congr 1
 .unfold b4 jU
  apply List.map_congr_left;intro t ht;rw[if_pos (List.mem_range.1 ht)]
 unfold b4 jU;apply List.map_congr_left;intro t ht;rw[if_neg (by omega)]
 congr 1
 omega
theorem sa(f:Nat->Itm)(n:Nat)(f2:Nat->Itm)(n2 t:Nat)(h:t<n+n2):itF (b4 f n++b4 f2 n2) t=jU n f f2 t:=by
 rw[<-jH,u0 _ _ t h]
theorem Ak(f:Nat->Itm)(n:Nat)(f2:Nat->Itm)(n2:Nat)(hn:n<=1000)(hn2:n2<=1000){b:Bool}:(if b=true then true else(if(if decide ((n:Int)>0)=true then decide ((n:Int)<((n+n2:Nat):Int))else false)=true then decide ((itF (b4 f n++b4 f2 n2) (IntKind.i64.wrap ((n:Int)-1)).toNat).key ≥ (itF (b4 f n++b4 f2 n2) (n:Int).toNat).key)else false))=(if b=true then true else ovl n f n2 f2):=by
 congr 1
 unfold ovl
 by_cases h1:0<n
 .by_cases h2:0<n2
  .have e1:IntKind.i64.wrap ((n:Int)-1)=(n:Int)-1:=o8 (by omega) (by omega)
   rw[e1,Int.toNat_natCast,show((n:Int)-1).toNat=n-1 by omega,sa _ _ _ _ _ (show n-1<n+n2 by omega),sa _ _ _ _ _ (show n<n+n2 by omega)];have c1:jU n f f2 (n-1)=f (n-1):=by unfold jU;rw[if_pos (by omega)]
   have c2:jU n f f2 n=f2 0:=by unfold jU;rw[if_neg (by omega),Nat.sub_self]
   rw[c1,c2];have a:decide ((n:Int)>0)=true:=by simp;omega
   have b:decide ((n:Int)<((n+n2:Nat):Int))=true:=by simp;omega
   rw[a,b,decide_eq_true h1,decide_eq_true h2];simp
  have b:decide ((n:Int)<((n+n2:Nat):Int))=false:=by simp;omega
  rw[b,decide_eq_false h2];simp
 have a:decide ((n:Int)>0)=false:=by simp;omega
 rw[a,decide_eq_false h1];simp
theorem xd(f:Nat->Itm)(n:Nat)(f2:Nat->Itm)(n2:Nat)(hn:n<=1000):(if(if decide ((n:Int)>0)=true then decide ((n2:Int)>0)else false)=true then decide ((f (IntKind.i64.wrap ((n:Int)-1)).toNat).key ≥ (f2 (0:Int).toNat).key)else false)=ovl n f n2 f2:=by
 unfold ovl
 by_cases h1:0<n
 .have e1:IntKind.i64.wrap ((n:Int)-1)=(n:Int)-1:=o8 (by omega) (by omega)
  have a:decide ((n:Int)>0)=true:=by simp;omega
  rw[e1,show((n:Int)-1).toNat=n-1 by omega,a,decide_eq_true h1]
  by_cases h2:0<n2
  .have b:decide ((n2:Int)>0)=true:=by simp;omega
   rw[b,decide_eq_true h2];simp
  have b:decide ((n2:Int)>0)=false:=by simp;omega
  rw[b,decide_eq_false h2];simp
 have a:decide ((n:Int)>0)=false:=by simp;omega
 rw[a,decide_eq_false h1];simp
theorem nj(kd kd2:Int):((if(if(!decide (kd=1))=true then !decide (kd=5)else false)=true then true else(if(!decide (kd2=1))=true then !decide (kd2=5)else false))=true-> ¬(kd=1 \/ kd=5) \/ ¬(kd2=1 \/ kd2=5)) ∧
  ((if(if(!decide (kd=1))=true then !decide (kd=5)else false)=true then true else(if(!decide (kd2=1))=true then !decide (kd2=5)else false))=false-> ¬(¬(kd=1 \/ kd=5) \/ ¬(kd2=1 \/ kd2=5))):=by
 rw[z8,z8,V7]
 constructor
 .intro h
  simp at h;omega
 intro h;simp at h;omega
theorem vn:j6 Tryz.prog 295:=fun _ _=>by kernel_rfl
theorem vo:j6 Tryz.prog 286:=fun _ _=>by kernel_rfl
theorem yH(A0:Option Addr)(k c0:Nat)(AA:Nat->Option Addr)(NN CC:Nat->Nat)(FF:Nat->Nat->Itm)(hk:k<=10)(hN:∀i,i<k->NN i<=1000):j7 Tryz.prog 286 [.sl none A0 k c0 1 (fun i=>[.sl none (AA i) (NN i) (CC i) 2 (fun t=>itC (FF i t))])] (fun x=>l7 (x.A 0) (oW NN FF k).length (x.c 0) (itF (oW NN FF k))):=by
 intro m w hm hargs;have hmx:maxLen=9223372036854775807:=rfl;refine en 36 hm hargs Tryz.func286 fun B O a0 Z=>?_
 refine wp_seq (rg O a6 [0] [] [] Z fun X0 a0 w1 Z=>?_);refine wp_seq (rg O a6 [3,0] [] [] Z fun X1 a0 w1 Z=>?_);refine wp_seq (wp_seq (rg O a6 [3,11,0,9,10] [] [] Z fun X2 a0 w1 Z=>?_));refine wp_block (l5 (ι:=Nat×Nat) (fun p=>[(3,.int .i64 (p.2:Int)),(11,.int .i64 (p.1:Int))]) (fun p=>[]) (fun p=>[]) (fun p=>p.1<=k/\p.2=(oW NN FF p.1).length/\p.2<=1000*p.1) (fun p=>k-p.1) (0,0) ⟨Nat.zero_le _,rfl,Nat.le_refl _⟩ Z ?_)
 rintro⟨i,z⟩ ⟨hi,hz,hzb⟩ a0 w1 Z
 try dsimp only at hi
 try dsimp only at hz
 try dsimp only at hzb
 refine wp_seq (rg O a6 [12,3,11,0,9,10] [] [] Z fun X3 a0 w1 Z=>?_);refine wp_seq (a7 Z rfl (fun hb Z=>?_) (fun hb Z=>?_))
 .have hin:i<k:=by
   have:(i:Int)<(k:Int):=by subst O;simpa[std,a8]using hb
   omega
  have hNi:=hN i hin;refine wp_skip (wp_seq (wp_block (wp_seq (rg O a6 [5,3,11,0,9,10] [] [] Z (hob:=?hob) fun X4 a0 w1 Z=>?_))))
  case hob=>
   intro X;subst O
   repeat(first|exact trivial|refine⟨rfl,?_⟩|refine⟨⟨show(0:Int)<=(i:Int)by omega,show(i:Int)<(k:Int)by omega⟩,?_⟩)
  refine wp_seq (rg O a6 [3,11,0,9,10] [] [] Z fun X5 a0 w1 Z=>?_);obtain⟨z2,hz2⟩:=eqv (z+NN i);replace Z:=Z.head (v':=.int .i64 (z2:Int)) (by
   subst O
   show AV.int .i64 (IntKind.i64.wrap ((z:Int)+(NN i:Int)))=_
   rw[o8 (by omega) (by omega),hz2];rfl)
  refine wp_seq (rg O a6 [20,3,11,0,9,10] [] [] Z fun X6 a0 w1 Z=>?_);apply a7 Z rfl<;>intro hb Z
  .exfalso
   have:(z2:Int)<0:=by subst O;simpa[std,a8]using hb
   omega
  skip
  refine wp_skip (rg O a6 [3,11,0,9,10] [] [] Z fun X8 a0 w1 Z=>?_);have e:B.arith .add .i64 (i:Int) 1=((i+1:Nat):Int):=by subst O;exact o3 (n:=k) hin (by omega)
  refine⟨(i+1,z2),⟨by simp only;omega,?_,by simp only;omega⟩,by simp only;omega,by rw[<-e];exact Z⟩;simp only;rw[hz2,nL,List.length_append,i3,<-hz]
 have hout:i=k:=by
  have:¬(i:Int)<(k:Int):=by subst O;simpa[std,a8]using hb
  omega
 rw[hout]at hz hzb;refine wp_exit (wp_seq (wp_region_lit (lpr 0 1 O a6 [23,0] [] [] Z fun X9_0 a0 w1 Z=>?_)));have ev:=yc Z (t:=23) (k:=.i64) (n:=(z:Int)) rfl;refine rq (argv:=#[.slice none 0 0,.int .i64 (z:Int)]) rfl rfl rfl rfl rfl Z (by have e2:=ev;simp[Act.eval]at e2 ⊢;exact e2) vn (by show 24<36;decide) (e:=62) (k:=2) (by decide) (fun t=>itC C2) (EV w1 z (by omega)) ?_
 intro A9 c9 a0 w1 Z;refine lnd 2 O a6 [6,0] [24] [] Z fun X9 a0 w1 Z=>?_
 refine wp_seq (wp_seq (rg O a6 [6,27,25,26] [24] [] Z fun X10 a0 w1 Z=>?_));refine wp_block (l5 (ι:=Nat×Nat×(Nat->Itm)×Option Addr×Nat) (fun p=>[(6,.sl (some 24) p.2.2.2.1 p.2.1 p.2.2.2.2 2 (fun t=>itC (p.2.2.1 t))),(27,.int .i64 (p.1:Int))]) (fun p=>[]) (fun p=>[(24,⟨p.2.2.2.1,p.2.1,p.2.2.2.2,2,62⟩)]) (fun p=>p.1<=k/\b4 p.2.2.1 p.2.1=oW NN FF p.1/\p.2.1<=1000*p.1) (fun p=>k-p.1) (0,0,fun _=>C2,A9,c9) ⟨Nat.zero_le _,rfl,Nat.le_refl _⟩ Z ?_)
 rintro⟨i,q,g,A1,c1⟩ ⟨hi,hg,hqb⟩ a0 w1 Z
 try dsimp only at hi
 try dsimp only at hg
 try dsimp only at hqb
 refine wp_seq (rg O a6 [28,6,27,25,26] [24] [] Z fun X11 a0 w1 Z=>?_);refine wp_seq (a7 Z rfl (fun hb Z=>?_) (fun hb Z=>?_))
 .have hin:i<k:=by
   have:(i:Int)<(k:Int):=by subst O;simpa[std,a8]using hb
   omega
  have hNi:=hN i hin;refine wp_skip (wp_seq (wp_block (wp_seq (rg O a6 [8,6,27,25,26] [24] [] Z (hob:=?hob) fun X12 a0 w1 Z=>?_))))
  case hob=>
   intro X;subst O
   repeat(first|exact trivial|refine⟨rfl,?_⟩|refine⟨⟨show(0:Int)<=(i:Int)by omega,show(i:Int)<(k:Int)by omega⟩,?_⟩)
  refine rg O a6 [6,27,25,26] [24] [] Z (hob:=?hob) fun X13 a0 w1 Z=>?_
  case hob=>
   intro X;subst O
   repeat(first|exact trivial|refine⟨⟨rfl,rfl,rfl⟩,?_⟩|refine⟨⟨show q+NN i<=maxLen by omega,show(q+NN i)*_<=_ by omega⟩,?_⟩|refine⟨rfl,?_⟩)
  replace Z:=Z.headS (v':=.sl (some 24) ((X13 2).A 0) (B.nadd q (NN (B.toNat (i:Int)))) ((X13 2).c 0) 2 (fun t=>itC (jU q g (FF i) t))) (Sim.resl rfl (fun t ht=>by
   subst O
   show L0 q (fun t=>itC (g t)) (fun t=>itC (FF i t)) t=_
   unfold L0 jU
   split<;>rfl)) rfl
  refine rg O a6 [6,27,25,26] [24] [] Z fun X14 a0 w1 Z=>?_
  have e:B.arith .add .i64 (i:Int) 1=((i+1:Nat):Int):=by subst O;exact o3 (n:=k) hin (by omega)
  refine⟨(i+1,q+NN i,jU q g (FF i),_,_),⟨by simp only;omega,?_,by simp only;omega⟩,by simp only;omega,by rw[<-e,show q+NN i=B.nadd q (NN (B.toNat (i:Int)))by subst O;rfl];exact Z⟩
  simp only;rw[nL,jH,hg]
 have hout:i=k:=by
  have:¬(i:Int)<(k:Int):=by subst O;simpa[std,a8]using hb
  omega
 rw[hout]at hg;refine wp_exit (wp_seq (rg O a6 [2] [2,33] [] Z fun X15 a0 w1 Z=>?_));refine wp_ret ((rsi O a6 Z (⟨0,fun _=>A1,fun _=>c1,fun _=>⟨#[]⟩⟩) (he:=?_)));subst O;exact Sim.resl (by rw[<-hg,i3]) (fun t ht=>by rw[<-hg,i3]at ht;rw[<-hg,u0 _ _ t ht])
theorem fo:j6 Tryz.prog 287:=fun _ _=>by kernel_rfl
theorem tB(A:Option Addr)(n c:Nat)(f:Nat->Itm)(hn:n<=1000000)(kd:Int)(nx:Lab)(mk:Int):j7 Tryz.prog 287 [F2 A n c f kd nx mk] (fun _=>.bool (.v (decide (kd=1)||decide (kd=5)))):=by
 intro m w hm hargs;unfold F2 l7 at hargs;refine en 11 hm hargs Tryz.func287 fun B O a0 Z=>?_
 refine wp_seq (rg O a6 [1] [1] [] Z fun X0 _ _ Z=>?_);refine wp_seq (rg O a6 [2] [] [] Z fun X1 _ _ Z=>?_);refine wp_ret ((rsi O a6 Z f8 (he:=?_)));subst O;exact Sim.bool (by show(if decide (kd=1)=true then true else decide (kd=5))=_;rw[V7];rfl)
theorem zm(A:Option Addr)(n c:Nat)(f:Nat->Itm)(hn:n<=1000)(kd:Int)(nx:Lab)(mk:Int)(hv:U64 nx.bits)(A2:Option Addr)(n2 c2:Nat)(f2:Nat->Itm)(hn2:n2<=1000)(kd2:Int)(nx2:Lab)(mk2:Int)(hv2:U64 nx2.bits):j7 Tryz.prog 265 [F2 A n c f kd nx mk,F2 A2 n2 c2 f2 kd2 nx2 mk2] (fun x=>.tup [bB (x.A 0) (x.c 0) (bS kd n f nx mk kd2 n2 f2 nx2 mk2).1,.int .i64 (bS kd n f nx mk kd2 n2 f2 nx2 mk2).2]):=by
 intro m w hm hargs;have hmx:maxLen=9223372036854775807:=rfl;have SI:=eI A n c f (by omega) kd nx mk hv;have SI2:=eI A2 n2 c2 f2 (by omega) kd2 nx2 mk2 hv2;obtain⟨i1,hi1⟩:=eqv (D9 kd n f nx mk);obtain⟨i2,hi2⟩:=eqv (D9 kd2 n2 f2 nx2 mk2);obtain⟨ov,hov⟩:=eqv (ovl n f n2 f2);rw[<-hi1]at SI;rw[<-hi2]at SI2;unfold F2 l7 at SI SI2 hargs;have SF:=tB A n c f (by omega) kd nx mk;have SF2:=tB A2 n2 c2 f2 (by omega) kd2 nx2 mk2;unfold F2 l7 at SF SF2;obtain⟨x1,hx1⟩:=eqv ((decide (kd=1)||decide (kd=5)));obtain⟨x2,hx2⟩:=eqv ((decide (kd2=1)||decide (kd2=5)));rw[<-hx1]at SF;rw[<-hx2]at SF2;have SC:=fun A0=>yH A0 2 2 (fun i=>if i=0 then A else A2) (fun i=>if i=0 then n else n2) (fun i=>if i=0 then c else c2) (fun i=>if i=0 then f else f2) (by decide) (fun i hi=>by show(if i=0 then n else n2)<=1000;split<;>omega)
 rw[yL]at SC;obtain⟨N,hN⟩:=eqv ((b4 f n++b4 f2 n2).length);obtain⟨g,hg⟩:=eqv (itF (b4 f n++b4 f2 n2));rw[<-hN,<-hg]at SC;have hNn:N=n+n2:=by rw[hN,List.length_append,i3,i3]
 have hot:=Ak (b:=(if(!i1)=true then true else !i2)) f n f2 n2 (by omega) (by omega);rw[<-hg,<-hNn,<-hov]at hot;unfold l7 at SC;refine en 70 hm hargs Tryz.func265 fun B O a0 Z=>?_
 refine wp_seq (rg O a6 [2,3,4] [2,3,4] [] Z fun X0 _ _ Z=>?_);refine wp_seq (rg O a6 [6,2,3,4] [2,3,4] [(5,.r fun x=>.sl none (x.A 0) N (x.c 0) 2 (fun i=>itC (g i)))] Z (hob:=?hob) fun X1 _ _ Z=>?_)
 case hob=>
  intro X;subst O
  repeat(first|exact trivial|refine⟨rfl,?_⟩|refine⟨⟨vo,(SC _).sim ⟨Sim.resl rfl (fun i hi=>by have h2:i=0 \/ i=1:=(by omega);rcases h2 with rfl|rfl<;>rfl),trivial⟩⟩,?_⟩)
 refine wp_seq (rg O a6 [7,6,2,3,4] [2,3,4] [] Z fun X2 _ _ Z=>?_);replace Z:=Z.head (v':=.int .i64 (n:Int)) (by subst O;rfl);refine wp_seq (wp_block (wp_seq (drg O a6 [17,6,7,2,3,4] [2,3,4] [(1,.r fun _=>.bool (.v i1)),(5,.r fun _=>.bool (.v i2))] Z (hob:=?hob) fun X3 _ _ Z=>?_)))
 case hob=>
  intro X;subst O;simp only[b7,Ob.holds,BE.den,List.mem_cons,List.not_mem_nil,or_false,forall_eq_or_imp,forall_eq]
  and_intros<;>first|trivial|exact Q6|exact SI|exact SI2|(intros;first|trivial|exact Q6|exact SI2|exact⟨Q6,SI2⟩)|(intro h;first|exact zu hn h.1|exact zt h.1)
 apply a7 Z rfl<;>intro hb Z
 .have h9:(if(if(!i1)=true then true else !i2)=true then true else(if(if decide ((n:Int)>0)=true then decide ((n:Int)<(N:Int))else false)=true then decide ((g (IntKind.i64.wrap ((n:Int)-1)).toNat).key ≥ (g (n:Int).toNat).key)else false))=true:=by subst O;exact hb
  rw[hot]at h9;have hW:(bS kd n f nx mk kd2 n2 f2 nx2 mk2)=(i9,1):=by unfold bS;rw[<-hi1,<-hi2,<-hov];cases i1<;>cases i2<;>cases ov<;>first|rfl|(simp at h9)
  refine wp_seq (rg O a6 [4,5] [4] [] Z (hob:=?hob) fun X4 _ _ Z=>?_)
  case hob=>
   intro X;subst O
   repeat(first|exact trivial|refine⟨rfl,?_⟩|refine⟨fun _=>rfl,?_⟩|refine⟨f7 (Kk:=noK) _ _ _ _,?_⟩|refine⟨fun _=>f7 (Kk:=noK) _ _ _ _,?_⟩)
  refine wp_ret ((rsi O a6 Z (⟨0,fun _=>none,fun _=>0,fun _=>⟨#[]⟩⟩) (he:=?_)));subst O;rw[hW];exact Sim.tup ⟨Sim.agg ⟨zr,zq0,zr,zr,zr,trivial⟩,zr,trivial⟩
 have h9:(if(if(!i1)=true then true else !i2)=true then true else(if(if decide ((n:Int)>0)=true then decide ((n:Int)<(N:Int))else false)=true then decide ((g (IntKind.i64.wrap ((n:Int)-1)).toNat).key ≥ (g (n:Int).toNat).key)else false))=false:=by subst O;exact hb
 rw[hot]at h9;have h12:i1=true/\i2=true/\ov=false:=by cases i1<;>cases i2<;>cases ov<;>first|exact⟨rfl,rfl,rfl⟩|(simp at h9)
 obtain⟨h1t,h2t,hovf⟩:=h12;have hU:(bS kd n f nx mk kd2 n2 f2 nx2 mk2)=(if ¬(kd=1 \/ kd=5) \/ ¬(kd2=1 \/ kd2=5)then(i9,13)else if 16<n+n2 then(i9,12)else(⟨1,b4 f n++b4 f2 n2,nx2,0⟩,0)):=by unfold bS;rw[<-hi1,<-hi2,<-hov,h1t,h2t,hovf];rfl
 refine wp_seq (rg O a6 [51,6,3,4] [3,4] [(1,.r fun _=>.bool (.v x1)),(5,.r fun _=>.bool (.v x2))] Z (hob:=?hob) fun X5 _ _ Z=>?_)
 case hob=>
  intro X;subst O
  repeat(first|exact trivial|refine⟨rfl,?_⟩|refine⟨fun _=>rfl,?_⟩|refine⟨f7 (Kk:=noK) _ _ _ _,?_⟩|refine⟨fun _=>f7 (Kk:=noK) _ _ _ _,?_⟩|refine⟨⟨fo,SF⟩,?_⟩|refine⟨fun _=>⟨fo,SF⟩,?_⟩|refine⟨⟨fo,SF2⟩,?_⟩|refine⟨fun _=>⟨fo,SF2⟩,?_⟩)
 apply a7 Z rfl<;>intro hb Z
 .have h9:(if(!x1)=true then true else !x2)=true:=by subst O;exact hb
  have hfx:¬(kd=1 \/ kd=5) \/ ¬(kd2=1 \/ kd2=5):=by
   cases h1:x1 with
   |false=>left;rw[h1]at hx1;simpa using hx1.symm
   |true=>
    right
    rw[h1]at h9;have h2:x2=false:=by cases x2<;>first|rfl|(simp at h9)
    rw[h2]at hx2;simpa using hx2.symm
  have hW:(bS kd n f nx mk kd2 n2 f2 nx2 mk2)=(i9,13):=by rw[hU,if_pos hfx]
  refine wp_seq (rg O a6 [4,5] [4] [] Z (hob:=?hob) fun X6 _ _ Z=>?_)
  case hob=>
   intro X;subst O
   repeat(first|exact trivial|refine⟨rfl,?_⟩|refine⟨fun _=>rfl,?_⟩|refine⟨f7 (Kk:=noK) _ _ _ _,?_⟩|refine⟨fun _=>f7 (Kk:=noK) _ _ _ _,?_⟩)
  refine wp_ret ((rsi O a6 Z (⟨0,fun _=>none,fun _=>0,fun _=>⟨#[]⟩⟩) (he:=?_)));subst O;rw[hW];exact Sim.tup ⟨Sim.agg ⟨zr,zq0,zr,zr,zr,trivial⟩,zr,trivial⟩
 have h9:(if(!x1)=true then true else !x2)=false:=by subst O;exact hb
 have hfx:¬(¬(kd=1 \/ kd=5) \/ ¬(kd2=1 \/ kd2=5)):=by
  have h1:x1=true/\x2=true:=by cases x1<;>cases x2<;>first|exact⟨rfl,rfl⟩|(simp at h9)
  rw[h1.1]at hx1;rw[h1.2]at hx2;have a:=hx1.symm;have b:=hx2.symm;simp only[Bool.or_eq_true,decide_eq_true_eq]at a b;intro h
  rcases h with h|h
  .exact h a
  exact h b
 refine wp_seq (rg O a6 [61,6,3,4] [3,4] [] Z fun X7 _ _ Z=>?_);apply a7 Z rfl<;>intro hb Z
 .have hf16:16<n+n2:=by
   have:(16:Int)<(N:Int):=by subst O;simpa[std,a8]using hb
   omega
  have hW:(bS kd n f nx mk kd2 n2 f2 nx2 mk2)=(i9,12):=by rw[hU,if_neg hfx,if_pos hf16]
  refine wp_seq (rg O a6 [4,5] [4] [] Z (hob:=?hob) fun X8 _ _ Z=>?_)
  case hob=>
   intro X;subst O
   repeat(first|exact trivial|refine⟨rfl,?_⟩|refine⟨fun _=>rfl,?_⟩|refine⟨f7 (Kk:=noK) _ _ _ _,?_⟩|refine⟨fun _=>f7 (Kk:=noK) _ _ _ _,?_⟩)
  refine wp_ret ((rsi O a6 Z (⟨0,fun _=>none,fun _=>0,fun _=>⟨#[]⟩⟩) (he:=?_)));subst O;rw[hW];exact Sim.tup ⟨Sim.agg ⟨zr,zq0,zr,zr,zr,trivial⟩,zr,trivial⟩
 have hf16:¬16<n+n2:=by
  have:¬(16:Int)<(N:Int):=by subst O;simpa[std,a8]using hb
  omega
 have hW:(bS kd n f nx mk kd2 n2 f2 nx2 mk2)=(⟨1,b4 f n++b4 f2 n2,nx2,0⟩,0):=by rw[hU,if_neg hfx,if_neg hf16]
 refine wp_skip (wp_seq (rg O a6 [4,5] [4] [] Z (hob:=?hob) fun X9 _ _ Z=>?_))
 case hob=>
  intro X;subst O
  repeat(first|exact trivial|refine⟨rfl,?_⟩|refine⟨fun _=>rfl,?_⟩|refine⟨f7 (Kk:=noK) _ _ _ _,?_⟩|refine⟨fun _=>f7 (Kk:=noK) _ _ _ _,?_⟩)
 refine wp_ret ((rsi O a6 Z (⟨0,fun _=>(X1 5).A 0,fun _=>(X1 5).c 0,fun _=>⟨#[]⟩⟩) (he:=?_)));subst O;rw[hW];exact Sim.tup ⟨Sim.agg ⟨zr,Sim.resl hN (fun t ht=>by rw[hg]),zr,zr,zr,trivial⟩,zr,trivial⟩
theorem wB(A:Option Addr)(n c:Nat)(f:Nat->Itm)(hn:n<=1000)(kd:Int)(nx:Lab)(mk:Int)(hv:U64 nx.bits)(A2:Option Addr)(n2 c2:Nat)(f2:Nat->Itm)(hn2:n2<=1000)(kd2:Int)(nx2:Lab)(mk2:Int)(hv2:U64 nx2.bits):j7 Tryz.prog 237 [F2 A n c f kd nx mk,F2 A2 n2 c2 f2 kd2 nx2 mk2] (fun x=>.tup [bB (x.A 0) (x.c 0) (bS kd n f nx mk kd2 n2 f2 nx2 mk2).1,.int .i64 (bS kd n f nx mk kd2 n2 f2 nx2 mk2).2]):=by
 intro m w hm hargs;have hmx:maxLen=9223372036854775807:=rfl;have SI:=iQ A n c f (by omega) kd nx mk hv;have SI2:=iQ A2 n2 c2 f2 (by omega) kd2 nx2 mk2 hv2;obtain⟨i1,hi1⟩:=eqv (D9 kd n f nx mk);obtain⟨i2,hi2⟩:=eqv (D9 kd2 n2 f2 nx2 mk2);obtain⟨ov,hov⟩:=eqv (ovl n f n2 f2);rw[<-hi1]at SI;rw[<-hi2]at SI2;unfold F2 l7 at SI SI2 hargs;have hot:=xd f n f2 n2 (by omega);rw[<-hov]at hot;refine en 82 hm hargs Tryz.func237 fun B O a0 Z=>?_
 refine wp_seq (rg O a6 [2,3,4] [2,3,4] [] Z fun X0 _ _ Z=>?_);refine wp_seq (wp_seq (rg O a6 [15,2,3,4] [2,3,4] [(1,.r fun _=>.bool (.v i1)),(5,.r fun _=>.bool (.v i2))] Z (hob:=?hob) fun X1 _ _ Z=>?_))
 case hob=>
  intro X;subst O
  repeat(first|exact trivial|refine⟨rfl,?_⟩|refine⟨fun _=>rfl,?_⟩|refine⟨f7 (Kk:=noK) _ _ _ _,?_⟩|refine⟨fun _=>f7 (Kk:=noK) _ _ _ _,?_⟩|refine⟨⟨M9,SI⟩,?_⟩|refine⟨fun _=>⟨M9,SI⟩,?_⟩|refine⟨⟨M9,SI2⟩,?_⟩|refine⟨fun _=>⟨M9,SI2⟩,?_⟩)
 apply a7 Z rfl<;>intro hb Z
 .have h9:(if(!i1)=true then true else !i2)=true:=by subst O;exact hb
  have hW:(bS kd n f nx mk kd2 n2 f2 nx2 mk2)=(i9,1):=by unfold bS;rw[<-hi1,<-hi2,<-hov];cases i1<;>cases i2<;>cases ov<;>first|rfl|(simp at h9)
  refine wp_seq (rg O a6 [4,5] [4] [] Z (hob:=?hob) fun X2 _ _ Z=>?_)
  case hob=>
   intro X;subst O
   repeat(first|exact trivial|refine⟨rfl,?_⟩|refine⟨fun _=>rfl,?_⟩|refine⟨f7 (Kk:=noK) _ _ _ _,?_⟩|refine⟨fun _=>f7 (Kk:=noK) _ _ _ _,?_⟩)
  refine wp_ret ((rsi O a6 Z (⟨0,fun _=>none,fun _=>0,fun _=>⟨#[]⟩⟩) (he:=?_)));subst O;rw[hW];exact Sim.tup ⟨Sim.agg ⟨zr,zq0,zr,zr,zr,trivial⟩,zr,trivial⟩
 have h9:(if(!i1)=true then true else !i2)=false:=by subst O;exact hb
 have h12:i1=true/\i2=true:=by cases i1<;>cases i2<;>first|exact⟨rfl,rfl⟩|(simp at h9)
 obtain⟨h1t,h2t⟩:=h12;refine wp_skip (wp_seq (rg O a6 [6,2,3,4] [2,3,4] [] Z (hob:=?hob) fun X3 _ _ Z=>?_))
 case hob=>
  intro X;subst O
  repeat(first|exact trivial|refine⟨rfl,?_⟩|refine⟨fun _=>rfl,?_⟩|refine⟨f7 (Kk:=noK) _ _ _ _,?_⟩|refine⟨fun _=>f7 (Kk:=noK) _ _ _ _,?_⟩)
 replace Z:=Z.head (v':=.int .i64 (n:Int)) (by subst O;rfl);refine wp_seq (wp_seq (drg O a6 [42,6,2,3,4] [2,3,4] [] Z (hob:=?hob) fun X4 _ _ Z=>?_))
 case hob=>
  intro X;subst O;simp only[b7,Ob.holds,BE.den,List.mem_cons,List.not_mem_nil,or_false,forall_eq_or_imp,forall_eq]
  and_intros<;>first|trivial|(intro h;first|trivial|exact zq hn h|exact zn h)
 apply a7 Z rfl<;>intro hb Z
 .have h8:(if(if decide ((n:Int)>0)=true then decide ((n2:Int)>0)else false)=true then decide ((f (IntKind.i64.wrap ((n:Int)-1)).toNat).key ≥ (f2 (0:Int).toNat).key)else false)=true:=by subst O;exact hb
  rw[hot]at h8;have hW:(bS kd n f nx mk kd2 n2 f2 nx2 mk2)=(i9,1):=by unfold bS;rw[<-hi1,<-hi2,<-hov,h1t,h2t,h8];rfl
  refine wp_seq (rg O a6 [4,5] [4] [] Z (hob:=?hob) fun X5 _ _ Z=>?_)
  case hob=>
   intro X;subst O
   repeat(first|exact trivial|refine⟨rfl,?_⟩|refine⟨fun _=>rfl,?_⟩|refine⟨f7 (Kk:=noK) _ _ _ _,?_⟩|refine⟨fun _=>f7 (Kk:=noK) _ _ _ _,?_⟩)
  refine wp_ret ((rsi O a6 Z (⟨0,fun _=>none,fun _=>0,fun _=>⟨#[]⟩⟩) (he:=?_)));subst O;rw[hW];exact Sim.tup ⟨Sim.agg ⟨zr,zq0,zr,zr,zr,trivial⟩,zr,trivial⟩
 have h8:(if(if decide ((n:Int)>0)=true then decide ((n2:Int)>0)else false)=true then decide ((f (IntKind.i64.wrap ((n:Int)-1)).toNat).key ≥ (f2 (0:Int).toNat).key)else false)=false:=by subst O;exact hb
 rw[hot]at h8;have hU:(bS kd n f nx mk kd2 n2 f2 nx2 mk2)=(if ¬(kd=1 \/ kd=5) \/ ¬(kd2=1 \/ kd2=5)then(i9,13)else if 16<n+n2 then(i9,12)else(⟨1,b4 f n++b4 f2 n2,nx2,0⟩,0)):=by unfold bS;rw[<-hi1,<-hi2,<-hov,h1t,h2t,h8];rfl
 refine wp_skip (wp_seq (wp_seq (rg O a6 [61,6,2,3,4] [2,3,4] [] Z fun X6 _ _ Z=>?_)));apply a7 Z rfl<;>intro hb Z
 .have h7:(if(if(!decide (kd=1))=true then !decide (kd=5)else false)=true then true else(if(!decide (kd2=1))=true then !decide (kd2=5)else false))=true:=by subst O;exact hb
  have hfx:=(nj kd kd2).1 h7;have hW:(bS kd n f nx mk kd2 n2 f2 nx2 mk2)=(i9,13):=by rw[hU,if_pos hfx]
  refine wp_seq (rg O a6 [4,5] [4] [] Z (hob:=?hob) fun X7 _ _ Z=>?_)
  case hob=>
   intro X;subst O
   repeat(first|exact trivial|refine⟨rfl,?_⟩|refine⟨fun _=>rfl,?_⟩|refine⟨f7 (Kk:=noK) _ _ _ _,?_⟩|refine⟨fun _=>f7 (Kk:=noK) _ _ _ _,?_⟩)
  refine wp_ret ((rsi O a6 Z (⟨0,fun _=>none,fun _=>0,fun _=>⟨#[]⟩⟩) (he:=?_)));subst O;rw[hW];exact Sim.tup ⟨Sim.agg ⟨zr,zq0,zr,zr,zr,trivial⟩,zr,trivial⟩
 have h7:(if(if(!decide (kd=1))=true then !decide (kd=5)else false)=true then true else(if(!decide (kd2=1))=true then !decide (kd2=5)else false))=false:=by subst O;exact hb
 have hfx:=(nj kd kd2).2 h7;refine wp_skip (wp_seq (wp_seq (rg O a6 [68,2,3,4] [2,3,4] [] Z (hob:=?hob) fun X8 _ _ Z=>?_)))
 case hob=>
  intro X;subst O
  repeat(first|exact trivial|refine⟨rfl,?_⟩|refine⟨fun _=>rfl,?_⟩|refine⟨f7 (Kk:=noK) _ _ _ _,?_⟩|refine⟨fun _=>f7 (Kk:=noK) _ _ _ _,?_⟩)
 apply a7 Z rfl<;>intro hb Z
 .have hf16:16<n+n2:=by
   have:(16:Int)<IntKind.i64.wrap ((n:Int)+(n2:Int)):=by subst O;simpa[std,a8,o9]using hb
   rw[o8 (by omega) (by omega)]at this;omega
  have hW:(bS kd n f nx mk kd2 n2 f2 nx2 mk2)=(i9,12):=by rw[hU,if_neg hfx,if_pos hf16]
  refine wp_seq (rg O a6 [4,5] [4] [] Z (hob:=?hob) fun X9 _ _ Z=>?_)
  case hob=>
   intro X;subst O
   repeat(first|exact trivial|refine⟨rfl,?_⟩|refine⟨fun _=>rfl,?_⟩|refine⟨f7 (Kk:=noK) _ _ _ _,?_⟩|refine⟨fun _=>f7 (Kk:=noK) _ _ _ _,?_⟩)
  refine wp_ret ((rsi O a6 Z (⟨0,fun _=>none,fun _=>0,fun _=>⟨#[]⟩⟩) (he:=?_)));subst O;rw[hW];exact Sim.tup ⟨Sim.agg ⟨zr,zq0,zr,zr,zr,trivial⟩,zr,trivial⟩
 have hf16:¬16<n+n2:=by
  have:¬(16:Int)<IntKind.i64.wrap ((n:Int)+(n2:Int)):=by subst O;simpa[std,a8,o9]using hb
  rw[o8 (by omega) (by omega)]at this;omega
 have hW:(bS kd n f nx mk kd2 n2 f2 nx2 mk2)=(⟨1,b4 f n++b4 f2 n2,nx2,0⟩,0):=by rw[hU,if_neg hfx,if_neg hf16]
 refine wp_skip (wp_seq (rg O a6 [7,2,3,4] [2,3,4,7] [] Z fun X10 _ _ Z=>?_));refine wp_seq (rg O a6 [7,3,4] [3,4,7] [] Z (hob:=?hob) fun X11 _ _ Z=>?_)
 case hob=>
  intro X;subst O
  repeat(first|exact trivial|refine⟨⟨rfl,rfl,rfl⟩,?_⟩|refine⟨⟨show 0+n<=maxLen by omega,show(0+n)*_<=_ by omega⟩,?_⟩|refine⟨rfl,?_⟩)
 refine wp_seq (rg O a6 [7,3,4] [3,4,7] [] Z (hob:=?hob) fun X12 _ _ Z=>?_)
 case hob=>
  intro X;subst O
  repeat(first|exact trivial|refine⟨⟨rfl,rfl,rfl⟩,?_⟩|refine⟨⟨show 0+n+n2<=maxLen by omega,show(0+n+n2)*_<=_ by omega⟩,?_⟩|refine⟨rfl,?_⟩)
 refine wp_seq (rg O a6 [4,5] [4] [] Z (hob:=?hob) fun X13 _ _ Z=>?_)
 case hob=>
  intro X;subst O
  repeat(first|exact trivial|refine⟨rfl,?_⟩|refine⟨fun _=>rfl,?_⟩|refine⟨f7 (Kk:=noK) _ _ _ _,?_⟩|refine⟨fun _=>f7 (Kk:=noK) _ _ _ _,?_⟩)
 refine wp_ret ((rsi O a6 Z (⟨0,fun _=>(X12 3).A 0,fun _=>(X12 3).c 0,fun _=>⟨#[]⟩⟩) (he:=?_)));subst O;rw[hW];refine Sim.tup ⟨Sim.agg ⟨zr,Sim.resl (show 0+n+n2=(b4 f n++b4 f2 n2).length by rw[List.length_append,i3,i3];omega) (fun t ht=>?_),zr,zr,zr,trivial⟩,zr,trivial⟩
 show L0 (0+n) (L0 0 _ (fun t=>itC (f t))) (fun t=>itC (f2 t)) t=itC (itF (b4 f n++b4 f2 n2) t)
 rw[sa f n f2 n2 t (by have h:t<(b4 f n++b4 f2 n2).length:=ht;rw[List.length_append,i3,i3]at h;exact h)];unfold L0 jU;rw[Nat.zero_add]
 by_cases h:t<n
 .rw [if_pos h,if_neg (Nat.not_lt_zero _),if_pos h];rfl
 rw[if_neg h,if_neg h]
structure LOk(l:Lab):Prop where
 isl:isL l=true
 u:U64 l.bits
theorem R7:LOk ⟨0,0⟩:=⟨by decide,by decide,by decide⟩
theorem LOk.ch{l:Lab}(h:LOk l)(b:Int):LOk (chV l b):=by
 unfold chV
 split
 .rename_i he
  have h64:l.len≠64:=by
   intro h64;unfold chE at he;rw[h.isl]at he;simp[h64]at he
  exact⟨ft h.isl h.u h64 b,dH h.isl h.u h64 b⟩
 exact R7
theorem LOk.par{l:Lab}(h:LOk l):LOk (G1 l):=by
 unfold G1
 split
 .rename_i he
  have h0:l.len≠0:=by
   intro h0;unfold G4 at he;rw[h.isl]at he;simp[h0]at he
  exact⟨sM h.isl h.u h0,Hn h.u⟩
 exact R7
theorem J0{f:Nat->Itm}{c:Nat}{A:Option Addr}:Sim (.sl none A 0 c 2 (fun _=>[])) (.sl none A 0 c 2 (fun i=>itC (f i))):=Sim.recell fun i hi=>absurd hi (Nat.not_lt_zero _)
theorem EU(x:RA)(h:L3 x)(l:Lab)(hl:U64 l.bits):j7 Tryz.prog 259 [C7 x,f4 l] (fun y=>.tup [C7 ⟨y.A 0,y.c 0,(R8 x l).1.rn⟩,C7 ⟨y.A 1,y.c 1,(R8 x l).2.1.rn⟩,.int .i64 (R8 x l).2.2]):=by
 have hf:=h.few
 cases hb:(D9 x.r.kd x.r.n x.r.f x.r.nx x.r.mrk&&isL l)with
 |false=>exact vj x.A x.r.n x.c x.r.f (by omega) x.r.kd x.r.nx x.r.mrk h.nx h.key l hl hb
 |true=>exact rG x.A x.r.n x.c x.r.f (by omega) x.r.kd x.r.nx x.r.mrk h.nx h.key l hl hb
theorem Gx(x y:RA)(h:L3 x)(h':L3 y):j7 Tryz.prog 265 [C7 x,C7 y] (fun z=>.tup [C7 ⟨z.A 0,z.c 0,(dg x y).1.rn⟩,.int .i64 (dg x y).2]):=by
 have hf:=h.few;have hf':=h'.few;exact zm x.A x.r.n x.c x.r.f (by omega) x.r.kd x.r.nx x.r.mrk h.nx y.A y.r.n y.c y.r.f (by omega) y.r.kd y.r.nx y.r.mrk h'.nx
def fzR:Fz->RA
 | .fr x=>x
 |_=>zRA
def fzI:Fz->Int
 | .over=>0
 | .unfit=>1
 | .fr _=>2
def tF(z:Fz):AV:=.tup [C7 (fzR z),.int .i64 (fzI z)]
theorem HJ{z:Fz}(h:fzI z=0):z = .over:=by cases z<;>first|rfl|(simp[fzI]at h)
theorem HH{z:Fz}(h:fzI z=1):z = .unfit:=by cases z<;>first|rfl|(simp[fzI]at h)
theorem HG{z:Fz}(h0:fzI z≠0)(h1:fzI z≠1):z = .fr (fzR z):=by cases z<;>first|rfl|exact absurd rfl h0|exact absurd rfl h1
theorem u9 (bk k:Int) (n:Nat) (l up:Lab) (p:Pst):dm bk k (n + 1) l up p=(K0 k l p).bind fun g p => if gk g 5=true then (K0 k up p).bind fun q p =>
      (if(gk q 3||gk q 4)=true then R5 bk k n up q p else .ok () p).bind fun _ p=>
        if gk q 2=true then(P3 k l g.ver (asR 1 g.x 0).r.abs p).bind fun d p=>if d=true then .ok () p else dm bk k n l up p else .ok () p else .ok () p:=rfl
section
def ClC(n:Nat):Prop:=∀(k0 b:Nat) (J:i5) (hJ:j0 J) (A:Option Addr) (c:Nat) (p:Pst) (hp:f9 p) (hn:p.n<=1000000) (l:Lab) (hl:LOk l),p.n<n->s5 266 k0 b J A c p [f4 l] (fun _=>i4) (E6 J.budget n l p)
def ThC(n:Nat):Prop:=∀(k0 b:Nat) (J:i5) (hJ:j0 J) (A:Option Addr) (c:Nat) (p:Pst) (hp:f9 p) (hn:p.n<=1000000) (l:Lab) (hl:LOk l),p.n<n->s5 228 k0 b J A c p [f4 l] (fun _=>i4) (I6 J.bucket J.budget n l p)
def CA(n:Nat):Prop:=∀(k0 b:Nat) (J:i5) (hJ:j0 J) (A:Option Addr) (c:Nat) (p:Pst) (hp:f9 p) (hn:p.n<=1000000) (l:Lab) (hl:LOk l) (g:u2) (hg:db g),p.n<n->s5 165 k0 b J A c p [f4 l,u5 g] (fun _=>i4) (R5 J.bucket J.budget n l g p)
end
theorem EY(b:Nat)(J:i5)(hJ:j0 J)(A:Option Addr)(c:Nat)(p:Pst)(hp:f9 p)(hn:p.n<=1000000)(l:Lab)(v:Int)(d:Lab)(n:Nat)(hf:p.n<n):s5 263 0 b J A c p [f4 l,.int .u64 v,f4 d] (tF) (P1 J.budget l v d n p):=by
 intro m w hm hargs hpre;refine enX 52 hm hpre hargs Tryz.func263 fun B O a0 Z=>?_
 refine wp_seq (rg O a6 [0,2,5,7,8] [0,5,7,8] [] Z fun X0 a0 w1 Z=>?_);refine wp_block (l5 (ι:=Nat×Pst×Option Addr×Nat) (fun q=>[]) (fun q=>[(0,⟨b,139,C0 J q.2.2.1 q.2.2.2 q.2.1⟩)]) (fun q=>[]) (fun q=>P1 J.budget l v d n p=P1 J.budget l v d q.1 q.2.1/\f9 q.2.1/\q.2.1.n<=1000000/\q.2.1.n<q.1) (fun q=>q.1) (n,p,A,c) ⟨rfl,hp,hn,hf⟩ Z ?_)
 rintro⟨nn,p0,A0,c0⟩ ⟨hrun,hp0,hn0,hf0⟩ a0 w1 Z
 try dsimp only at hrun
 try dsimp only at hp0
 try dsimp only at hn0
 try dsimp only at hf0
 obtain⟨n2,rfl⟩:∃n2,nn=n2+1:=⟨nn-1,by omega⟩
 refine wp_block (wp_seq ?_)
 rcases(W0 0 b J hJ A0 c0 p0 hp0 hn0 d).two (i7 _ _ _) hp0 hn0 with⟨w1,p1,hm1,O1⟩|⟨g1,p1,hm1,hs1,hp1,hn1,S1⟩
 .refine stp 2 O a6 [12,13] [0] [] Z O1 fun _ _ _ _ Z hk=>?_
  exact thm (P:=Tryz.prog) (fn:=Tryz.f263) (q:=p1) Z hk (by simp[hrun,P1,Rs.bind,hm1])
 have hl1:=u7 hm1;have hg1:=hp0.get hm1;have O1:=S1;refine rg O a6 [0,2,5,7,8,10] [0,5,7,8,10] [(2,rc J (u5 g1) p1)] Z fun X1 a0 w1 Z=>?_
 obtain⟨q2,hq2⟩:=eqv ((gk g1 1||gk g1 5));refine wp_seq (wp_block (wp_seq ?_));refine rg O a6 [15,0,2,5,7,8,10] [0,5,7,8,10] [(2,.r fun _=>.bool (.v q2))] Z (hob:=by intro X;subst O;simp only[b7,Ob.holds,BE.den]<;>and_intros<;>repeat first|trivial|rfl|exact(by rw[hq2];exact cw g1 _ _ 1 5 _ rfl rfl)|exact by rw[hq2];exact cw g1 _ _ 1 5 _ rfl rfl|exact(fun _ _=>by kernel_rfl)|refine⟨?_,?_⟩|intro h|exact Int.le_refl _|decide|omega) fun X2 a0 w1 Z=>?_
 apply a7 Z rfl<;>intro hb Z
 .have tq2:(gk g1 1||gk g1 5)=false:=by subst O;rw[<-hq2];revert hb;cases q2<;>simp[std]
  refine wp_seq (rg O a6 [8,9] [0,8] [] Z fun X3 a0 w1 Z=>?_);refine wp_ret ((rmm O a6 Z (v:=Fz.unfit) (q:=p1) ((X1 2).A 0) ((X1 2).c 0) (by simp[hrun,P1,Rs.bind,hm1,tq2]) (he:=?_)).1);subst O;exact Sim.tup ⟨Sim.agg ⟨zr,J0,zr,zr,zr,trivial⟩,zr,trivial⟩
 have tq2:(gk g1 1||gk g1 5)=true:=by subst O;rw[<-hq2];revert hb;cases q2<;>simp[std]
 obtain⟨q4,hq4⟩:=eqv (gk g1 5);apply wp_seq;refine rg O a6 [21,0,2,5,7,8,10] [0,5,7,8,10] [(2,.r fun _=>.bool (.v q4))] Z (hob:=by intro X;subst O;simp only[b7,Ob.holds,BE.den]<;>and_intros<;>repeat first|trivial|rfl|exact(by rw[hq4];exact F5 g1 _ _ 5 _ rfl)|exact by rw[hq4];exact F5 g1 _ _ 5 _ rfl|exact(fun _ _=>by kernel_rfl)|refine⟨?_,?_⟩|intro h|exact Int.le_refl _|decide|omega) fun X4 a0 w1 Z=>?_
 apply a7 Z rfl<;>intro hb Z
 .have t4:(gk g1 5&&decide (g1.x.r.mrk=v))=true:=by subst O;rw[<-hq4];revert hb;cases q4<;>simp[std,a8]
  refine wp_seq (rg O a6 [8,9] [0,8] [] Z fun X5 a0 w1 Z=>?_);exact wp_ret ((rmm O a6 Z (v:=(Fz.fr g1.x)) (q:=p1) ((X1 2).A 0) ((X1 2).c 0) (by simp[hrun,P1,Rs.bind,hm1,tq2,t4])).1)
 have t4:(gk g1 5&&decide (g1.x.r.mrk=v))=false:=by subst O;rw[<-hq4];revert hb;cases q4<;>simp[std,a8]
 apply wp_seq
 rcases(ka 0 b J hJ ((X1 2).A 0) ((X1 2).c 0) p1 hp1 hn1 l v).two (i7 _ _ _) hp1 hn1 with⟨w6,p6,hm6,O1⟩|⟨g6,p6,hm6,hs6,hp6,hn6,S6⟩
 .refine stp 3 O a6 [35,36,37] [0] [] Z O1 fun _ _ _ _ Z hk=>?_
  exact thm (P:=Tryz.prog) (fn:=Tryz.f263) (q:=p6) Z hk (by simp[hrun,P1,Rs.bind,hm1,tq2,t4,hm6])
 have hl6:=u7 hm6;have hg6:=hp1.get hm6
 try dsimp only at S6
 obtain⟨d6,hd6⟩:=eqv (decide (g6.ver=v));rw[<-hd6]at S6;have O1:=S6;refine rg O a6 [34,0,2,5,7,8,10] [0,5,7,8,10] [(3,rc J (.bool (.v d6)) p6)] Z fun X6 a0 w1 Z=>?_
 apply a7 Z rfl<;>intro hb Z
 .have t6:¬g6.ver=v:=by
   have h9:(!d6)=true:=by subst O;exact hb
   rw[hd6]at h9;simpa using h9
  refine wp_seq (rg O a6 [8,9] [0,8] [] Z fun X7 a0 w1 Z=>?_);refine wp_ret ((rmm O a6 Z (v:=Fz.over) (q:=p6) ((X6 3).A 0) ((X6 3).c 0) (by simp[hrun,P1,Rs.bind,hm1,tq2,t4,hm6,t6]) (he:=?_)).1);subst O;exact Sim.tup ⟨Sim.agg ⟨zr,J0,zr,zr,zr,trivial⟩,zr,trivial⟩
 have t6:g6.ver=v:=by
  have h9:(!d6)=false:=by subst O;exact hb
  rw[hd6]at h9;simpa using h9
 have O1:=qC 5 g1.x v;refine wp_skip (wp_seq (rg O a6 [0,2,5,7,8,10,11] [0,5,7,8,10,11] [(3,.r fun _=>C7 (asR 5 g1.x v))] Z fun X8 a0 w1 Z=>?_));apply wp_seq
 rcases(cW 0 b J hJ ((X6 3).A 0) ((X6 3).c 0) p6 hp6 hn6 d g1.ver (asR 5 g1.x v)).two (l6 _ _ _ _ _) hp6 hn6 with⟨w9,p9,hm9,O1⟩|⟨d9,p9,hm9,hs9,hp9,hn9,S9⟩
 .refine stp 5 O a6 [45,46,48,49] [0] [] Z O1 fun _ _ _ _ Z hk=>?_
  exact thm (P:=Tryz.prog) (fn:=Tryz.f263) (q:=p9) Z hk (by simp[hrun,P1,Rs.bind,hm1,tq2,t4,hm6,t6,hm9])
 have O1:=S9;refine rg O a6 [50,0,2,5,7,8,11] [0,5,7,8,11] [(5,rc J (.bool (.v d9)) p9)] Z fun X9 a0 w1 Z=>?_
 apply a7 Z rfl<;>intro hb Z
 .have t9:d9=true:=by exact hb
  refine wp_seq (rg O a6 [8,9] [0,8] [] Z fun X10 a0 w1 Z=>?_);exact wp_ret ((rmm O a6 Z (v:=(Fz.fr (asR 5 g1.x v))) (q:=p9) ((X9 5).A 0) ((X9 5).c 0) (by simp[hrun,P1,Rs.bind,hm1,tq2,t4,hm6,t6,hm9,t9])).1)
 have t9:d9=false:=by exact hb
 replace Z:=Z.keep [0,2,5,7,8] [0,5,7,8];exact wp_skip (⟨(n2,p9,_,_),⟨by rw[hrun];simp[P1,Rs.bind,hm1,tq2,t4,hm6,t6,hm9,t9],hp9,hn9,by dsimp only;have:=hl1;have:=hs6.le;have:=hs9.le;have:=hf0;omega⟩,by simp only;omega,Z⟩)
theorem Dw(k0 b:Nat)(J:i5)(hJ:j0 J)(A:Option Addr)(c:Nat)(p:Pst)(hp:f9 p)(hn:p.n<=1000000)(l:Lab)(v:Int)(d:Lab)(n:Nat)(hf:p.n<n):s5 263 k0 b J A c p [f4 l,.int .u64 v,f4 d] (tF) (P1 J.budget l v d n p):=s5.re (EY b J hJ A c p hp hn l v d n hf) (by repeat(first|exact trivial|refine⟨zr,?_⟩))
theorem me(k0 b:Nat)(J:i5)(hJ:j0 J)(A:Option Addr)(c:Nat)(p:Pst)(hp:f9 p)(hn:p.n<=1000000)(l:Lab)(v:Int):s5 163 k0 b J A c p [f4 l,.int .u64 v,xT] (fun d=>.bool (.v d)) (P3 J.budget l v eK p):=
 s5.re (cW 0 b J hJ A c p hp hn l v ⟨none,0,eK.rn⟩) ⟨zr,zr,Sim.agg ⟨zr,J0,zr,zr,zr,trivial⟩,trivial⟩
theorem Ge(b:Nat)(J:i5)(hJ:j0 J)(A:Option Addr)(c:Nat)(p:Pst)(hp:f9 p)(hn:p.n<=1000000)(l:Lab)(hl:LOk l)(v:Int)(n:Nat)(hth:ThC n)(hf:p.n<n):s5 264 0 b J A c p [f4 l,.int .u64 v] (fun _=>i4) (aU J.budget (I6 J.bucket J.budget n) l v p):=by
 intro m w hm hargs hpre;have SC:=tS l hl.u;have hk0:=hl.ch 0;have hk1:=hl.ch 1;simp only[f4]at SC;obtain⟨x0,hx0⟩:=eqv (chV l 0);rw[<-hx0]at SC hk0;obtain⟨x1,hx1⟩:=eqv (chV l 1);rw[<-hx1]at SC hk1;refine enX 23 hm hpre hargs Tryz.func264 fun B O a0 Z=>?_
 refine wp_seq (rg O a6 [0,2,4] [0,4] [] Z fun X0 a0 w1 Z=>?_);refine wp_seq (wp_seq ?_)
 rcases(me 0 b J hJ A c p hp hn l v).two (l6 _ _ _ _ _) hp hn with⟨w1,p1,hm1,O1⟩|⟨d1,p1,hm1,hs1,hp1,hn1,S1⟩
 .have O2:=fE
  refine kM 4 O a6 [8,9,10,11] [0] [(3,.r fun _=>.agg [.int .i64 2,.sl none none 0 0 2 (fun _=>[]),.int .i64 (-1),.int .u64 0,.int .u64 0])] Z O1 fun _ _ _ _ Z hk=>?_
  exact thm (P:=Tryz.prog) (fn:=Tryz.f264) (q:=p1) Z hk (by simp[aU,<-hx0,<-hx1,Rs.bind,hm1])
 have O1:=fE;have O2:=S1;refine drg O a6 [13,0,4] [0,4] [(3,.r fun _=>.agg [.int .i64 2,.sl none none 0 0 2 (fun _=>[]),.int .i64 (-1),.int .u64 0,.int .u64 0]),(4,rc J (.bool (.v d1)) p1)] Z fun X1 a0 w1 Z=>?_
 apply a7 Z rfl<;>intro hb Z
 .have t1:d1=false:=by subst O;revert hb;cases d1<;>simp[std]
  exact wp_ret ((rmm O a6 Z (v:=()) (q:=p1) ((X1 4).A 0) ((X1 4).c 0) (by simp[aU,<-hx0,<-hx1,Rs.bind,hm1,t1])).1)
 have t1:d1=true:=by subst O;revert hb;cases d1<;>simp[std]
 have O1:=SC;refine wp_skip (wp_seq (rg O a6 [16,0,15] [0] [(1,.r fun _=>.agg [.int .i64 x0.len,.int .u64 x0.bits,.int .i64 x1.len,.int .u64 x1.bits])] Z fun X2 a0 w1 Z=>?_));refine wp_block (wp_loop_rounds 3 (C3 (wp_seq (rg O a6 [17,0,15,16] [0] [] Z fun X3 a0 w1 Z=>?_))));replace Z:=Z.headS (v':=.bool .tt) (Sim.bool (by subst O;rfl)) rfl;refine wp_seq (j1 Z rfl (fun Z=>?_));refine wp_skip (wp_seq (wp_block (wp_seq (rg O a6 [0,7,15,16] [0,7] [] Z fun X4 a0 w1 Z=>?_))))
 rcases(hth 0 b J hJ ((X1 4).A 0) ((X1 4).c 0) p1 hp1 hn1 x0 hk0 (by have:=Nat.lt_of_le_of_lt hs1.le hf;omega)).two (E8 _ _ _ _ _) hp1 hn1 with⟨w50,p50,hm50,O1⟩|⟨_u50,p50,hm50,hs50,hp50,hn50,S50⟩
 .refine stp 2 O a6 [19,20] [0] [] Z O1 fun _ _ _ _ Z hk=>?_
  exact thm (P:=Tryz.prog) (fn:=Tryz.f264) (q:=p50) Z hk (by simp[aU,<-hx0,<-hx1,Rs.bind,hm1,t1,hm50])
 have O1:=S50;refine rg O a6 [0,15,16] [0] [(2,rc J (i4) p50)] Z fun X5 a0 w1 Z=>?_
 refine rg O a6 [16,0,15] [0] [] Z fun X6 a0 w1 Z=>?_
 replace Z:=Z.headS (v':=.int .i64 1) (by subst O;exact zr) rfl;refine j5 (wp_seq (rg O a6 [17,0,15,16] [0] [] Z fun X3 a0 w1 Z=>?_));replace Z:=Z.headS (v':=.bool .tt) (Sim.bool (by subst O;rfl)) rfl;refine wp_seq (j1 Z rfl (fun Z=>?_));refine wp_skip (wp_seq (wp_block (wp_seq (rg O a6 [0,7,15,16] [0,7] [] Z fun X4 a0 w1 Z=>?_))))
 rcases(hth 0 b J hJ ((X5 2).A 0) ((X5 2).c 0) p50 hp50 hn50 x1 hk1 (by have:=Nat.lt_of_le_of_lt (Suf.trans hs1 hs50).le hf;omega)).two (E8 _ _ _ _ _) hp50 hn50 with⟨w51,p51,hm51,O1⟩|⟨_u51,p51,hm51,hs51,hp51,hn51,S51⟩
 .refine stp 2 O a6 [19,20] [0] [] Z O1 fun _ _ _ _ Z hk=>?_
  exact thm (P:=Tryz.prog) (fn:=Tryz.f264) (q:=p51) Z hk (by simp[aU,<-hx0,<-hx1,Rs.bind,hm1,t1,hm50,hm51])
 have O1:=S51;refine rg O a6 [0,15,16] [0] [(2,rc J (i4) p51)] Z fun X5 a0 w1 Z=>?_
 refine rg O a6 [16,0,15] [0] [] Z fun X6 a0 w1 Z=>?_
 replace Z:=Z.headS (v':=.int .i64 2) (by subst O;exact zr) rfl;refine j5 (wp_seq (rg O a6 [17,0,15,16] [0] [] Z fun X3 a0 w1 Z=>?_));replace Z:=Z.headS (v':=.bool .ff) (Sim.bool (by subst O;rfl)) rfl;refine wp_seq (j3 Z rfl (fun Z=>?_));exact wp_exit ((rmm O a6 Z (v:=()) (q:=p51) ((X5 2).A 0) ((X5 2).c 0) (by simp[aU,<-hx0,<-hx1,Rs.bind,hm1,t1,hm50,hm51])).2)
theorem yR(k0 b:Nat)(J:i5)(hJ:j0 J)(A:Option Addr)(c:Nat)(p:Pst)(hp:f9 p)(hn:p.n<=1000000)(l:Lab)(hl:LOk l)(v:Int)(n:Nat)(hth:ThC n)(hf:p.n<n):s5 264 k0 b J A c p [f4 l,.int .u64 v] (fun _=>i4) (aU J.budget (I6 J.bucket J.budget n) l v p):=s5.re (Ge b J hJ A c p hp hn l hl v n hth hf) (by repeat(first|exact trivial|refine⟨zr,?_⟩))
theorem Cp(b:Nat)(J:i5)(hJ:j0 J)(A:Option Addr)(c:Nat)(p:Pst)(hp:f9 p)(hn:p.n<=1000000)(l:Lab)(hl:LOk l)(n:Nat)(ih:ClC n)(hf:p.n<n+1):s5 266 0 b J A c p [f4 l] (fun _=>i4) (E6 J.budget (n+1) l p):=by
 intro m w hm hargs hpre;have SC:=tS l hl.u;have hk0:=hl.ch 0;have hk1:=hl.ch 1;simp only[f4]at SC;obtain⟨x0,hx0⟩:=eqv (chV l 0);rw[<-hx0]at SC hk0;obtain⟨x1,hx1⟩:=eqv (chV l 1);rw[<-hx1]at SC hk1;refine enX 37 hm hpre hargs Tryz.func266 fun B O a0 Z=>?_
 refine wp_seq (rg O a6 [0,3] [0,3] [] Z fun X0 _ _ Z=>?_);refine wp_seq (wp_seq (rg O a6 [9,0,3] [0,3] [] Z fun X1 _ _ Z=>?_));apply a7 Z rfl<;>intro hb Z
 .have t0:l.len=64:=by subst O;simpa[std,a8]using hb
  exact wp_ret ((rmm O a6 Z (v:=()) (q:=p) A c (by simp[E6,I1,<-hx0,<-hx1,Rs.bind,t0])).1)
 have t0:¬l.len=64:=by subst O;simpa[std,a8]using hb
 have O1:=SC;refine wp_skip (wp_seq (rg O a6 [12,0,3,11] [0,3] [(1,.r fun _=>.agg [.int .i64 x0.len,.int .u64 x0.bits,.int .i64 x1.len,.int .u64 x1.bits])] Z fun X2 _ _ Z=>?_));refine wp_block (wp_loop_rounds 3 (C3 (wp_seq (rg O a6 [13,0,3,11,12] [0,3] [] Z fun X3 _ _ Z=>?_))));replace Z:=Z.headS (v':=.bool .tt) (Sim.bool (by subst O;rfl)) rfl;refine wp_seq (j1 Z rfl (fun Z=>?_));refine wp_skip (wp_seq (wp_block (wp_seq (rg O a6 [0,3,5,11,12] [0,3,5] [] Z fun X4 _ _ Z=>?_))));apply wp_seq
 rcases(W0 0 b J hJ A c p hp hn x0).two (i7 _ _ _) hp hn with⟨w50,p50,hm50,O1⟩|⟨g0,p50,hm50,hs50,hp50,hn50,S50⟩
 .refine stp 2 O a6 [15,16] [0] [] Z O1 fun _ _ _ _ Z hk=>?_
  exact thm (P:=Tryz.prog) (fn:=Tryz.f266) (q:=p50) Z hk (by simp[E6,I1,<-hx0,<-hx1,Rs.bind,t0,hm50])
 have hl50:=u7 hm50;have hg50:=hp.get hm50;have O1:=S50;refine rg O a6 [0,3,5,6,11,12] [0,3,5,6] [(2,rc J (u5 g0) p50)] Z fun X5 _ _ Z=>?_
 obtain⟨q0,hq0⟩:=eqv (gk g0 5);refine wp_seq (wp_seq ?_);refine rg O a6 [21,0,3,5,6,11,12] [0,3,5,6] [(2,.r fun _=>.bool (.v q0))] Z (hob:=by intro X;subst O;simp only[b7,Ob.holds,BE.den]<;>and_intros<;>repeat first|trivial|rfl|exact(by rw[hq0];exact F5 g0 _ _ 5 _ rfl)|exact by rw[hq0];exact F5 g0 _ _ 5 _ rfl|exact(fun _ _=>by kernel_rfl)|refine⟨?_,?_⟩|intro h|exact Int.le_refl _|decide|omega) fun X6 _ _ Z=>?_
 apply a7 Z rfl<;>intro hb Z
 .have tq0:gk g0 5=false:=by subst O;rw[<-hq0];revert hb;cases q0<;>simp[std]
  refine wp_exit (rg O a6 [12,0,3,11] [0,3] [] Z fun X10 _ _ Z=>?_);replace Z:=Z.headS (v':=.int .i64 1) (by subst O;exact zr) rfl;refine j5 (wp_seq (rg O a6 [13,0,3,11,12] [0,3] [] Z fun X3 _ _ Z=>?_));replace Z:=Z.headS (v':=.bool .tt) (Sim.bool (by subst O;rfl)) rfl;refine wp_seq (j1 Z rfl (fun Z=>?_));refine wp_skip (wp_seq (wp_block (wp_seq (rg O a6 [0,3,5,11,12] [0,3,5] [] Z fun X4 _ _ Z=>?_))));apply wp_seq
  rcases(W0 0 b J hJ ((X5 2).A 0) ((X5 2).c 0) p50 hp50 hn50 x1).two (i7 _ _ _) hp50 hn50 with⟨w51,p51,hm51,O1⟩|⟨g1,p51,hm51,hs51,hp51,hn51,S51⟩
  .refine stp 2 O a6 [15,16] [0] [] Z O1 fun _ _ _ _ Z hk=>?_
   exact thm (P:=Tryz.prog) (fn:=Tryz.f266) (q:=p51) Z hk (by simp[E6,I1,<-hx0,<-hx1,Rs.bind,t0,hm50,tq0,hm51])
  have hl51:=u7 hm51;have hg51:=hp50.get hm51;have O1:=S51;refine rg O a6 [0,3,5,6,11,12] [0,3,5,6] [(2,rc J (u5 g1) p51)] Z fun X5 _ _ Z=>?_
  obtain⟨q1,hq1⟩:=eqv (gk g1 5);refine wp_seq (wp_seq ?_);refine rg O a6 [21,0,3,5,6,11,12] [0,3,5,6] [(2,.r fun _=>.bool (.v q1))] Z (hob:=by intro X;subst O;simp only[b7,Ob.holds,BE.den]<;>and_intros<;>repeat first|trivial|rfl|exact(by rw[hq1];exact F5 g1 _ _ 5 _ rfl)|exact by rw[hq1];exact F5 g1 _ _ 5 _ rfl|exact(fun _ _=>by kernel_rfl)|refine⟨?_,?_⟩|intro h|exact Int.le_refl _|decide|omega) fun X6 _ _ Z=>?_
  apply a7 Z rfl<;>intro hb Z
  .have tq1:gk g1 5=false:=by subst O;rw[<-hq1];revert hb;cases q1<;>simp[std]
   refine wp_exit (rg O a6 [12,0,3,11] [0,3] [] Z fun X10 _ _ Z=>?_);replace Z:=Z.headS (v':=.int .i64 2) (by subst O;exact zr) rfl;refine j5 (wp_seq (rg O a6 [13,0,3,11,12] [0,3] [] Z fun X3 _ _ Z=>?_));replace Z:=Z.headS (v':=.bool .ff) (Sim.bool (by subst O;rfl)) rfl;refine wp_seq (j3 Z rfl (fun Z=>?_));exact wp_exit ((rmm O a6 Z (v:=()) (q:=p51) ((X5 2).A 0) ((X5 2).c 0) (by simp[E6,I1,<-hx0,<-hx1,Rs.bind,t0,hm50,tq0,hm51,tq1])).2)
  have tq1:gk g1 5=true:=by subst O;rw[<-hq1];revert hb;cases q1<;>simp[std]
  refine wp_skip (wp_seq ?_)
  rcases(ih 0 b J hJ ((X5 2).A 0) ((X5 2).c 0) p51 hp51 hn51 x1 hk1 (by have:=hs51.le;have:=hl51;have:=(Suf.trans (Suf.refl p) hs50).le;omega)).two (Z0 _ _ _ _) hp51 hn51 with⟨w71,p71,hm71,O1⟩|⟨v71,p71,hm71,hs71,hp71,hn71,S71⟩
  .refine stp 2 O a6 [22,23] [0] [] Z O1 fun _ _ _ _ Z hk=>?_
   exact thm (P:=Tryz.prog) (fn:=Tryz.f266) (q:=p71) Z hk (by simp[E6,I1,<-hx0,<-hx1,Rs.bind,t0,hm50,tq0,hm51,tq1,hm71])
  have O1:=S71;refine rg O a6 [0,3,5,6,11,12] [0,3,5,6] [(2,rc J (i4) p71)] Z fun X7 _ _ Z=>?_
  refine wp_seq (wp_seq ?_)
  rcases(W0 0 b J hJ ((X7 2).A 0) ((X7 2).c 0) p71 hp71 hn71 l).two (i7 _ _ _) hp71 hn71 with⟨w81,p81,hm81,O1⟩|⟨h1,p81,hm81,hs81,hp81,hn81,S81⟩
  .refine stp 2 O a6 [25,26] [0] [] Z O1 fun _ _ _ _ Z hk=>?_
   exact thm (P:=Tryz.prog) (fn:=Tryz.f266) (q:=p81) Z hk (by simp[E6,I1,<-hx0,<-hx1,Rs.bind,t0,hm50,tq0,hm51,tq1,hm71,hm81])
  have hl81:=u7 hm81;have hg81:=hp71.get hm81;obtain⟨r1,hr1⟩:=eqv ((gk h1 1||gk h1 5));refine rg O a6 [30,0,3,5,6,11,12] [0,3,5,6] [(4,.r fun _=>.bool (.v r1)),(2,rc J (u5 h1) p81)] Z (hob:=by intro X;subst O;simp only[b7,Ob.holds,BE.den]<;>and_intros<;>repeat first|trivial|rfl|exact S81|exact(by rw[hr1];exact cw h1 _ _ 1 5 _ rfl rfl)|exact by rw[hr1];exact cw h1 _ _ 1 5 _ rfl rfl|exact(fun _ _=>by kernel_rfl)|refine⟨?_,?_⟩|intro h|exact Int.le_refl _|decide|omega) fun X8 _ _ Z=>?_
  apply a7 Z rfl<;>intro hb Z
  .have tr1:(gk h1 1||gk h1 5)=false:=by subst O;rw[<-hr1];revert hb;cases r1<;>simp[std]
   exact wp_ret ((rmm O a6 Z (v:=()) (q:=p81) ((X8 2).A 0) ((X8 2).c 0) (by simp[E6,I1,<-hx0,<-hx1,Rs.bind,t0,hm50,tq0,hm51,tq1,hm71,hm81,tr1])).1)
  have tr1:(gk h1 1||gk h1 5)=true:=by subst O;rw[<-hr1];revert hb;cases r1<;>simp[std]
  refine wp_skip ?_
  rcases(yu 0 b J hJ ((X8 2).A 0) ((X8 2).c 0) p81 hp81 hn81 x1 g1.ver).two (dD _ _ _ _) hp81 hn81 with⟨w91,p91,hm91,O1⟩|⟨d1,p91,hm91,hs91,hp91,hn91,S91⟩
  .refine stp 4 O a6 [31,32,34] [0] [] Z O1 fun _ _ _ _ Z hk=>?_
   exact thm (P:=Tryz.prog) (fn:=Tryz.f266) (q:=p91) Z hk (by simp[E6,I1,<-hx0,<-hx1,Rs.bind,t0,hm50,tq0,hm51,tq1,hm71,hm81,tr1,hm91])
  have O1:=S91;refine rg O a6 [0,3,11,12] [0,3] [(4,rc J (.bool (.v d1)) p91)] Z fun X9 _ _ Z=>?_
  refine rg O a6 [12,0,3,11] [0,3] [] Z fun X10 _ _ Z=>?_
  replace Z:=Z.headS (v':=.int .i64 2) (by subst O;exact zr) rfl;refine j5 (wp_seq (rg O a6 [13,0,3,11,12] [0,3] [] Z fun X3 _ _ Z=>?_));replace Z:=Z.headS (v':=.bool .ff) (Sim.bool (by subst O;rfl)) rfl;refine wp_seq (j3 Z rfl (fun Z=>?_));exact wp_exit ((rmm O a6 Z (v:=()) (q:=p91) ((X9 4).A 0) ((X9 4).c 0) (by simp[E6,I1,<-hx0,<-hx1,Rs.bind,t0,hm50,tq0,hm51,tq1,hm71,hm81,tr1,hm91])).2)
 have tq0:gk g0 5=true:=by subst O;rw[<-hq0];revert hb;cases q0<;>simp[std]
 refine wp_skip (wp_seq ?_)
 rcases(ih 0 b J hJ ((X5 2).A 0) ((X5 2).c 0) p50 hp50 hn50 x0 hk0 (by have:=hs50.le;have:=hl50;have:=(Suf.refl p).le;omega)).two (Z0 _ _ _ _) hp50 hn50 with⟨w70,p70,hm70,O1⟩|⟨v70,p70,hm70,hs70,hp70,hn70,S70⟩
 .refine stp 2 O a6 [22,23] [0] [] Z O1 fun _ _ _ _ Z hk=>?_
  exact thm (P:=Tryz.prog) (fn:=Tryz.f266) (q:=p70) Z hk (by simp[E6,I1,<-hx0,<-hx1,Rs.bind,t0,hm50,tq0,hm70])
 have O1:=S70;refine rg O a6 [0,3,5,6,11,12] [0,3,5,6] [(2,rc J (i4) p70)] Z fun X7 _ _ Z=>?_
 refine wp_seq (wp_seq ?_)
 rcases(W0 0 b J hJ ((X7 2).A 0) ((X7 2).c 0) p70 hp70 hn70 l).two (i7 _ _ _) hp70 hn70 with⟨w80,p80,hm80,O1⟩|⟨h0,p80,hm80,hs80,hp80,hn80,S80⟩
 .refine stp 2 O a6 [25,26] [0] [] Z O1 fun _ _ _ _ Z hk=>?_
  exact thm (P:=Tryz.prog) (fn:=Tryz.f266) (q:=p80) Z hk (by simp[E6,I1,<-hx0,<-hx1,Rs.bind,t0,hm50,tq0,hm70,hm80])
 have hl80:=u7 hm80;have hg80:=hp70.get hm80;obtain⟨r0,hr0⟩:=eqv ((gk h0 1||gk h0 5));refine rg O a6 [30,0,3,5,6,11,12] [0,3,5,6] [(4,.r fun _=>.bool (.v r0)),(2,rc J (u5 h0) p80)] Z (hob:=by intro X;subst O;simp only[b7,Ob.holds,BE.den]<;>and_intros<;>repeat first|trivial|rfl|exact S80|exact(by rw[hr0];exact cw h0 _ _ 1 5 _ rfl rfl)|exact by rw[hr0];exact cw h0 _ _ 1 5 _ rfl rfl|exact(fun _ _=>by kernel_rfl)|refine⟨?_,?_⟩|intro h|exact Int.le_refl _|decide|omega) fun X8 _ _ Z=>?_
 apply a7 Z rfl<;>intro hb Z
 .have tr0:(gk h0 1||gk h0 5)=false:=by subst O;rw[<-hr0];revert hb;cases r0<;>simp[std]
  exact wp_ret ((rmm O a6 Z (v:=()) (q:=p80) ((X8 2).A 0) ((X8 2).c 0) (by simp[E6,I1,<-hx0,<-hx1,Rs.bind,t0,hm50,tq0,hm70,hm80,tr0])).1)
 have tr0:(gk h0 1||gk h0 5)=true:=by subst O;rw[<-hr0];revert hb;cases r0<;>simp[std]
 refine wp_skip ?_
 rcases(yu 0 b J hJ ((X8 2).A 0) ((X8 2).c 0) p80 hp80 hn80 x0 g0.ver).two (dD _ _ _ _) hp80 hn80 with⟨w90,p90,hm90,O1⟩|⟨d0,p90,hm90,hs90,hp90,hn90,S90⟩
 .refine stp 4 O a6 [31,32,34] [0] [] Z O1 fun _ _ _ _ Z hk=>?_
  exact thm (P:=Tryz.prog) (fn:=Tryz.f266) (q:=p90) Z hk (by simp[E6,I1,<-hx0,<-hx1,Rs.bind,t0,hm50,tq0,hm70,hm80,tr0,hm90])
 have O1:=S90;refine rg O a6 [0,3,11,12] [0,3] [(4,rc J (.bool (.v d0)) p90)] Z fun X9 _ _ Z=>?_
 refine rg O a6 [12,0,3,11] [0,3] [] Z fun X10 _ _ Z=>?_
 replace Z:=Z.headS (v':=.int .i64 1) (by subst O;exact zr) rfl;refine j5 (wp_seq (rg O a6 [13,0,3,11,12] [0,3] [] Z fun X3 _ _ Z=>?_));replace Z:=Z.headS (v':=.bool .tt) (Sim.bool (by subst O;rfl)) rfl;refine wp_seq (j1 Z rfl (fun Z=>?_));refine wp_skip (wp_seq (wp_block (wp_seq (rg O a6 [0,3,5,11,12] [0,3,5] [] Z fun X4 _ _ Z=>?_))));apply wp_seq
 rcases(W0 0 b J hJ ((X9 4).A 0) ((X9 4).c 0) p90 hp90 hn90 x1).two (i7 _ _ _) hp90 hn90 with⟨w51,p51,hm51,O1⟩|⟨g1,p51,hm51,hs51,hp51,hn51,S51⟩
 .refine stp 2 O a6 [15,16] [0] [] Z O1 fun _ _ _ _ Z hk=>?_
  exact thm (P:=Tryz.prog) (fn:=Tryz.f266) (q:=p51) Z hk (by simp[E6,I1,<-hx0,<-hx1,Rs.bind,t0,hm50,tq0,hm70,hm80,tr0,hm90,hm51])
 have hl51:=u7 hm51;have hg51:=hp90.get hm51;have O1:=S51;refine rg O a6 [0,3,5,6,11,12] [0,3,5,6] [(2,rc J (u5 g1) p51)] Z fun X5 _ _ Z=>?_
 obtain⟨q1,hq1⟩:=eqv (gk g1 5);refine wp_seq (wp_seq ?_);refine rg O a6 [21,0,3,5,6,11,12] [0,3,5,6] [(2,.r fun _=>.bool (.v q1))] Z (hob:=by intro X;subst O;simp only[b7,Ob.holds,BE.den]<;>and_intros<;>repeat first|trivial|rfl|exact(by rw[hq1];exact F5 g1 _ _ 5 _ rfl)|exact by rw[hq1];exact F5 g1 _ _ 5 _ rfl|exact(fun _ _=>by kernel_rfl)|refine⟨?_,?_⟩|intro h|exact Int.le_refl _|decide|omega) fun X6 _ _ Z=>?_
 apply a7 Z rfl<;>intro hb Z
 .have tq1:gk g1 5=false:=by subst O;rw[<-hq1];revert hb;cases q1<;>simp[std]
  refine wp_exit (rg O a6 [12,0,3,11] [0,3] [] Z fun X10 _ _ Z=>?_);replace Z:=Z.headS (v':=.int .i64 2) (by subst O;exact zr) rfl;refine j5 (wp_seq (rg O a6 [13,0,3,11,12] [0,3] [] Z fun X3 _ _ Z=>?_));replace Z:=Z.headS (v':=.bool .ff) (Sim.bool (by subst O;rfl)) rfl;refine wp_seq (j3 Z rfl (fun Z=>?_));exact wp_exit ((rmm O a6 Z (v:=()) (q:=p51) ((X5 2).A 0) ((X5 2).c 0) (by simp[E6,I1,<-hx0,<-hx1,Rs.bind,t0,hm50,tq0,hm70,hm80,tr0,hm90,hm51,tq1])).2)
 have tq1:gk g1 5=true:=by subst O;rw[<-hq1];revert hb;cases q1<;>simp[std]
 refine wp_skip (wp_seq ?_)
 rcases(ih 0 b J hJ ((X5 2).A 0) ((X5 2).c 0) p51 hp51 hn51 x1 hk1 (by have:=hs51.le;have:=hl51;have:=(Suf.trans (Suf.trans (Suf.trans (Suf.trans (Suf.refl p) hs50) hs70) hs80) hs90).le;omega)).two (Z0 _ _ _ _) hp51 hn51 with⟨w71,p71,hm71,O1⟩|⟨v71,p71,hm71,hs71,hp71,hn71,S71⟩
 .refine stp 2 O a6 [22,23] [0] [] Z O1 fun _ _ _ _ Z hk=>?_
  exact thm (P:=Tryz.prog) (fn:=Tryz.f266) (q:=p71) Z hk (by simp[E6,I1,<-hx0,<-hx1,Rs.bind,t0,hm50,tq0,hm70,hm80,tr0,hm90,hm51,tq1,hm71])
 have O1:=S71;refine rg O a6 [0,3,5,6,11,12] [0,3,5,6] [(2,rc J (i4) p71)] Z fun X7 _ _ Z=>?_
 refine wp_seq (wp_seq ?_)
 rcases(W0 0 b J hJ ((X7 2).A 0) ((X7 2).c 0) p71 hp71 hn71 l).two (i7 _ _ _) hp71 hn71 with⟨w81,p81,hm81,O1⟩|⟨h1,p81,hm81,hs81,hp81,hn81,S81⟩
 .refine stp 2 O a6 [25,26] [0] [] Z O1 fun _ _ _ _ Z hk=>?_
  exact thm (P:=Tryz.prog) (fn:=Tryz.f266) (q:=p81) Z hk (by simp[E6,I1,<-hx0,<-hx1,Rs.bind,t0,hm50,tq0,hm70,hm80,tr0,hm90,hm51,tq1,hm71,hm81])
 have hl81:=u7 hm81;have hg81:=hp71.get hm81;obtain⟨r1,hr1⟩:=eqv ((gk h1 1||gk h1 5));refine rg O a6 [30,0,3,5,6,11,12] [0,3,5,6] [(4,.r fun _=>.bool (.v r1)),(2,rc J (u5 h1) p81)] Z (hob:=by intro X;subst O;simp only[b7,Ob.holds,BE.den]<;>and_intros<;>repeat first|trivial|rfl|exact S81|exact(by rw[hr1];exact cw h1 _ _ 1 5 _ rfl rfl)|exact by rw[hr1];exact cw h1 _ _ 1 5 _ rfl rfl|exact(fun _ _=>by kernel_rfl)|refine⟨?_,?_⟩|intro h|exact Int.le_refl _|decide|omega) fun X8 _ _ Z=>?_
 apply a7 Z rfl<;>intro hb Z
 .have tr1:(gk h1 1||gk h1 5)=false:=by subst O;rw[<-hr1];revert hb;cases r1<;>simp[std]
  exact wp_ret ((rmm O a6 Z (v:=()) (q:=p81) ((X8 2).A 0) ((X8 2).c 0) (by simp[E6,I1,<-hx0,<-hx1,Rs.bind,t0,hm50,tq0,hm70,hm80,tr0,hm90,hm51,tq1,hm71,hm81,tr1])).1)
 have tr1:(gk h1 1||gk h1 5)=true:=by subst O;rw[<-hr1];revert hb;cases r1<;>simp[std]
 refine wp_skip ?_
 rcases(yu 0 b J hJ ((X8 2).A 0) ((X8 2).c 0) p81 hp81 hn81 x1 g1.ver).two (dD _ _ _ _) hp81 hn81 with⟨w91,p91,hm91,O1⟩|⟨d1,p91,hm91,hs91,hp91,hn91,S91⟩
 .refine stp 4 O a6 [31,32,34] [0] [] Z O1 fun _ _ _ _ Z hk=>?_
  exact thm (P:=Tryz.prog) (fn:=Tryz.f266) (q:=p91) Z hk (by simp[E6,I1,<-hx0,<-hx1,Rs.bind,t0,hm50,tq0,hm70,hm80,tr0,hm90,hm51,tq1,hm71,hm81,tr1,hm91])
 have O1:=S91;refine rg O a6 [0,3,11,12] [0,3] [(4,rc J (.bool (.v d1)) p91)] Z fun X9 _ _ Z=>?_
 refine rg O a6 [12,0,3,11] [0,3] [] Z fun X10 _ _ Z=>?_
 replace Z:=Z.headS (v':=.int .i64 2) (by subst O;exact zr) rfl;refine j5 (wp_seq (rg O a6 [13,0,3,11,12] [0,3] [] Z fun X3 _ _ Z=>?_));replace Z:=Z.headS (v':=.bool .ff) (Sim.bool (by subst O;rfl)) rfl;refine wp_seq (j3 Z rfl (fun Z=>?_));exact wp_exit ((rmm O a6 Z (v:=()) (q:=p91) ((X9 4).A 0) ((X9 4).c 0) (by simp[E6,I1,<-hx0,<-hx1,Rs.bind,t0,hm50,tq0,hm70,hm80,tr0,hm90,hm51,tq1,hm71,hm81,tr1,hm91])).2)
theorem FW(k0 b:Nat)(J:i5)(hJ:j0 J)(A:Option Addr)(c:Nat)(p:Pst)(hp:f9 p)(hn:p.n<=1000000)(l:Lab)(hl:LOk l)(n:Nat)(ih:ClC n)(hf:p.n<n+1):s5 266 k0 b J A c p [f4 l] (fun _=>i4) (E6 J.budget (n+1) l p):=s5.re (Cp b J hJ A c p hp hn l hl n ih hf) (by repeat(first|exact trivial|refine⟨zr,?_⟩))
theorem DC:∀n,ClC n
 |0=>fun _ _ _ _ _ _ _ _ _ _ _ h=>absurd h (Nat.not_lt_zero _)
 |n+1=>fun k0 b J hJ A c p hp hn l hl hf=>FW k0 b J hJ A c p hp hn l hl n (DC n) hf
theorem DY(b:Nat)(J:i5)(hJ:j0 J)(A:Option Addr)(c:Nat)(p:Pst)(hp:f9 p)(hn:p.n<=1000000)(l:Lab)(hl:LOk l)(v:Int)(x:RA)(hx:L3 x)(n:Nat)(hf:p.n<n):s5 225 0 b J A c p [f4 l,.int .u64 v,C7 x] (fun _=>i4) (u4 J.budget n l v x p):=by
 intro m w hm hargs hpre;have SC:=tS l hl.u;have hk0:=hl.ch 0;have hk1:=hl.ch 1;simp only[f4]at SC;obtain⟨x0,hx0⟩:=eqv (chV l 0);rw[<-hx0]at SC hk0;obtain⟨x1,hx1⟩:=eqv (chV l 1);rw[<-hx1]at SC hk1;have SH:=EU x hx l hl.u;obtain⟨e,he⟩:=eqv ((R8 x l).2.2);rw[<-he]at SH;obtain⟨r0,hr0⟩:=eqv ((R8 x l).1.rn);rw[<-hr0]at SH;obtain⟨r1,hr1⟩:=eqv ((R8 x l).2.1.rn);rw[<-hr1]at SH;have ha0:r0.abs=(R8 x l).1:=by rw[hr0];exact Q4 _
 have ha1:r1.abs=(R8 x l).2.1:=by rw[hr1];exact Q4 _
 simp only[f4]at SH;refine enX 63 hm hpre hargs Tryz.func225 fun B O a0 Z=>?_
 refine wp_seq (rg O a6 [0,2,5,7] [0,5,7] [] Z fun X0 _ _ Z=>?_);have O1:=SH;refine wp_seq (rg O a6 [0,2,5,8,9,10] [0,5,8,9] [(2,.r fun y=>.tup [.agg [.int .i64 r0.kd,.sl none (y.A 0) r0.n (y.c 0) 2 (fun i=>itC (r0.f i)),.int .i64 r0.nx.len,.int .u64 r0.nx.bits,.int .u64 r0.mrk],.agg [.int .i64 r1.kd,.sl none (y.A 1) r1.n (y.c 1) 2 (fun i=>itC (r1.f i)),.int .i64 r1.nx.len,.int .u64 r1.nx.bits,.int .u64 r1.mrk],.int .i64 e])] Z fun X1 _ _ Z=>?_);refine wp_seq (wp_seq (rg O a6 [23,0,2,5,8,9] [0,5,8,9] [] Z fun X2 _ _ Z=>?_));apply a7 Z rfl<;>intro hb Z
 .have t0:¬e=0:=by subst O;simpa[std,a8]using hb
  exact wp_ret ((rmm O a6 Z (v:=()) (q:=p) A c (by simp[u4,A5,<-hx0,<-hx1,<-ha0,<-ha1,<-he,Rs.bind,t0])).1)
 have t0:e=0:=by subst O;simpa[std,a8]using hb
 refine wp_skip (wp_seq (rg O a6 [0,2,5,11] [0,5,11] [] Z fun X3 _ _ Z=>?_));have O1:=SC;refine wp_seq (wp_seq (rg O a6 [29,0,2,5,11,28] [0,5,11] [(1,.r fun _=>.agg [.int .i64 x0.len,.int .u64 x0.bits,.int .i64 x1.len,.int .u64 x1.bits])] Z fun X4 _ _ Z=>?_));refine wp_block (wp_loop_rounds 3 (C3 (wp_seq (rg O a6 [30,0,2,5,11,28,29] [0,5,11] [] Z fun X5 _ _ Z=>?_))));replace Z:=Z.headS (v':=.bool .tt) (Sim.bool (by subst O;rfl)) rfl;refine wp_seq (j1 Z rfl (fun Z=>?_));refine wp_skip (wp_seq (wp_block (wp_seq (rg O a6 [0,2,5,11,12,13,28,29] [0,5,11,13] [] Z fun X6 _ _ Z=>?_))));refine wp_block (l5 (ι:=Nat×Pst×Option Addr×Nat) (fun q=>[]) (fun q=>[(0,⟨b,139,C0 J q.2.2.1 q.2.2.2 q.2.1⟩)]) (fun q=>[]) (fun q=>A5 J.budget l v x0 r0.abs n p=A5 J.budget l v x0 r0.abs q.1 q.2.1/\f9 q.2.1/\q.2.1.n<=1000000/\q.2.1.n<q.1/\q.2.1.n<=p.n) (fun q=>q.1) (n,p,A,c) ⟨rfl,hp,hn,(by dsimp only;skip;omega),(by dsimp only;skip;omega)⟩ Z ?_)
 rintro⟨nn0,p0,A0,c0⟩ ⟨hrun0,hp0,hn0,hf0,hle0⟩ _ _ Z
 try dsimp only at hrun0
 try dsimp only at hp0
 try dsimp only at hn0
 try dsimp only at hf0
 try dsimp only at hle0
 obtain⟨m0,rfl⟩:∃n2,nn0=n2+1:=⟨nn0-1,by omega⟩
 refine wp_block (wp_seq ?_)
 rcases(W0 0 b J hJ A0 c0 p0 hp0 hn0 x0).two (i7 _ _ _) hp0 hn0 with⟨w70,p70,hm70,O1⟩|⟨g0,p70,hm70,hs70,hp70,hn70,S70⟩
 .refine stp 2 O a6 [33,34] [0] [] Z O1 fun _ _ _ _ Z hk=>?_
  exact thm (P:=Tryz.prog) (fn:=Tryz.f225) (q:=p70) Z hk (by simp[u4,A5,<-hx0,<-hx1,<-ha0,<-ha1,<-he,Rs.bind,t0,hrun0,hm70])
 have hl70:=u7 hm70;have hg70:=hp0.get hm70;have O1:=S70;refine rg O a6 [0,2,5,11,12,13,14,28,29] [0,5,11,13,14] [(2,rc J (u5 g0) p70)] Z fun X7 _ _ Z=>?_
 refine wp_seq (wp_seq (rg O a6 [43,0,2,5,11,12,13,14,28,29] [0,5,11,13,14] [] Z fun X8 _ _ Z=>?_));apply a7 Z rfl<;>intro hb Z
 .have tq0:(g0.has && !decide (g0.x.r.kd=5))=true:=by
   have h9:(if g0.has=true then !decide (g0.x.r.kd=5)else false)=true:=by
    have h8:(if g0.has=true then(g0.x.r.kd != 5)else false)=true:=by subst O;exact hb
    exact h8
   rw[<-h9];cases g0.has<;>rfl
  refine wp_exit (rg O a6 [29,0,2,5,11,28] [0,5,11] [] Z fun X11 _ _ Z=>?_);replace Z:=Z.headS (v':=.int .i64 1) (by subst O;exact zr) rfl;refine j5 (wp_seq (rg O a6 [30,0,2,5,11,28,29] [0,5,11] [] Z fun X5 _ _ Z=>?_));replace Z:=Z.headS (v':=.bool .tt) (Sim.bool (by subst O;rfl)) rfl;refine wp_seq (j1 Z rfl (fun Z=>?_));refine wp_skip (wp_seq (wp_block (wp_seq (rg O a6 [0,2,5,11,12,13,28,29] [0,5,11,13] [] Z fun X6 _ _ Z=>?_))));refine wp_block (l5 (ι:=Nat×Pst×Option Addr×Nat) (fun q=>[]) (fun q=>[(0,⟨b,139,C0 J q.2.2.1 q.2.2.2 q.2.1⟩)]) (fun q=>[]) (fun q=>A5 J.budget l v x1 r1.abs n p70=A5 J.budget l v x1 r1.abs q.1 q.2.1/\f9 q.2.1/\q.2.1.n<=1000000/\q.2.1.n<q.1/\q.2.1.n<=p.n) (fun q=>q.1) (n,p70,((X7 2).A 0),((X7 2).c 0)) ⟨rfl,hp70,hn70,(by dsimp only;have:=hle0;have:=hs70.le;omega),(by dsimp only;have:=hle0;have:=hs70.le;omega)⟩ Z ?_)
  rintro⟨nn1,p1,A1,c1⟩ ⟨hrun1,hp1,hn1,hf1,hle1⟩ _ _ Z
  try dsimp only at hrun1
  try dsimp only at hp1
  try dsimp only at hn1
  try dsimp only at hf1
  try dsimp only at hle1
  obtain⟨m1,rfl⟩:∃n2,nn1=n2+1:=⟨nn1-1,by omega⟩
  refine wp_block (wp_seq ?_)
  rcases(W0 0 b J hJ A1 c1 p1 hp1 hn1 x1).two (i7 _ _ _) hp1 hn1 with⟨w71,p71,hm71,O1⟩|⟨g1,p71,hm71,hs71,hp71,hn71,S71⟩
  .refine stp 2 O a6 [33,34] [0] [] Z O1 fun _ _ _ _ Z hk=>?_
   exact thm (P:=Tryz.prog) (fn:=Tryz.f225) (q:=p71) Z hk (by simp[u4,A5,<-hx0,<-hx1,<-ha0,<-ha1,<-he,Rs.bind,t0,hrun0,hm70,tq0,hrun1,hm71])
  have hl71:=u7 hm71;have hg71:=hp1.get hm71;have O1:=S71;refine rg O a6 [0,2,5,11,12,13,14,28,29] [0,5,11,13,14] [(2,rc J (u5 g1) p71)] Z fun X7 _ _ Z=>?_
  refine wp_seq (wp_seq (rg O a6 [43,0,2,5,11,12,13,14,28,29] [0,5,11,13,14] [] Z fun X8 _ _ Z=>?_));apply a7 Z rfl<;>intro hb Z
  .have tq1:(g1.has && !decide (g1.x.r.kd=5))=true:=by
    have h9:(if g1.has=true then !decide (g1.x.r.kd=5)else false)=true:=by
     have h8:(if g1.has=true then(g1.x.r.kd != 5)else false)=true:=by subst O;exact hb
     exact h8
    rw[<-h9];cases g1.has<;>rfl
   refine wp_exit (rg O a6 [29,0,2,5,11,28] [0,5,11] [] Z fun X11 _ _ Z=>?_);replace Z:=Z.headS (v':=.int .i64 2) (by subst O;exact zr) rfl;refine j5 (wp_seq (rg O a6 [30,0,2,5,11,28,29] [0,5,11] [] Z fun X5 _ _ Z=>?_));replace Z:=Z.headS (v':=.bool .ff) (Sim.bool (by subst O;rfl)) rfl;refine wp_seq (j3 Z rfl (fun Z=>?_));refine wp_exit ?_
   rcases(me 0 b J hJ ((X7 2).A 0) ((X7 2).c 0) p71 hp71 hn71 l v).two (l6 _ _ _ _ _) hp71 hn71 with⟨w12,p12,hm12,O1⟩|⟨d2,p12,hm12,hs12,hp12,hn12,S12⟩
   .have O2:=fE
    refine kM 4 O a6 [58,59,60,61] [0] [(3,.r fun _=>.agg [.int .i64 2,.sl none none 0 0 2 (fun _=>[]),.int .i64 (-1),.int .u64 0,.int .u64 0])] Z O1 fun _ _ _ _ Z hk=>?_
    exact thm (P:=Tryz.prog) (fn:=Tryz.f225) (q:=p12) Z hk (by simp[u4,A5,<-hx0,<-hx1,<-ha0,<-ha1,<-he,Rs.bind,t0,hrun0,hm70,tq0,hrun1,hm71,tq1,hm12])
   have O1:=fE;have O2:=S12;refine drg O a6 [] [0] [(3,.r fun _=>.agg [.int .i64 2,.sl none none 0 0 2 (fun _=>[]),.int .i64 (-1),.int .u64 0,.int .u64 0]),(4,rc J (.bool (.v d2)) p12)] Z fun X12 _ _ Z=>?_
   exact(rmm O a6 Z (v:=()) (q:=p12) ((X12 4).A 0) ((X12 4).c 0) (by simp[u4,A5,<-hx0,<-hx1,<-ha0,<-ha1,<-he,Rs.bind,t0,hrun0,hm70,tq0,hrun1,hm71,tq1,hm12])).2
  have tq1:(g1.has && !decide (g1.x.r.kd=5))=false:=by
   have h9:(if g1.has=true then !decide (g1.x.r.kd=5)else false)=false:=by
    have h8:(if g1.has=true then(g1.x.r.kd != 5)else false)=false:=by subst O;exact hb
    exact h8
   rw[<-h9];cases g1.has<;>rfl
  refine wp_skip (wp_seq (wp_seq ?_))
  rcases(ka 0 b J hJ ((X7 2).A 0) ((X7 2).c 0) p71 hp71 hn71 l v).two (i7 _ _ _) hp71 hn71 with⟨w91,p91,hm91,O1⟩|⟨h1,p91,hm91,hs91,hp91,hn91,S91⟩
  .refine stp 3 O a6 [44,45,46] [0] [] Z O1 fun _ _ _ _ Z hk=>?_
   exact thm (P:=Tryz.prog) (fn:=Tryz.f225) (q:=p91) Z hk (by simp[u4,A5,<-hx0,<-hx1,<-ha0,<-ha1,<-he,Rs.bind,t0,hrun0,hm70,tq0,hrun1,hm71,tq1,hm91])
  have hl91:=u7 hm91;have hg91:=hp71.get hm91
  try dsimp only at S91
  obtain⟨e1,he1⟩:=eqv (decide (h1.ver=v));rw[<-he1]at S91;have O1:=S91;refine rg O a6 [48,0,2,5,11,12,13,14,28,29] [0,5,11,13,14] [(3,rc J (.bool (.v e1)) p91)] Z fun X9 _ _ Z=>?_
  apply a7 Z rfl<;>intro hb Z
  .have t91:¬h1.ver=v:=by
    have h9:(!e1)=true:=by subst O;exact hb
    rw[he1]at h9;simpa using h9
   exact wp_ret ((rmm O a6 Z (v:=()) (q:=p91) ((X9 3).A 0) ((X9 3).c 0) (by simp[u4,A5,<-hx0,<-hx1,<-ha0,<-ha1,<-he,Rs.bind,t0,hrun0,hm70,tq0,hrun1,hm71,tq1,hm91,t91])).1)
  have t91:h1.ver=v:=by
   have h9:(!e1)=false:=by subst O;exact hb
   rw[he1]at h9;simpa using h9
  refine wp_skip (wp_seq ?_)
  rcases(cW 0 b J hJ ((X9 3).A 0) ((X9 3).c 0) p91 hp91 hn91 x1 g1.ver ⟨(X1 2).A 1,(X1 2).c 1,r1⟩).two (l6 _ _ _ _ _) hp91 hn91 with⟨w101,p101,hm101,O1⟩|⟨d1,p101,hm101,hs101,hp101,hn101,S101⟩
  .refine kM 7 O a6 [49,50,52,55] [0] [] Z O1 fun _ _ _ _ Z hk=>?_
   exact thm (P:=Tryz.prog) (fn:=Tryz.f225) (q:=p101) Z hk (by simp[u4,A5,<-hx0,<-hx1,<-ha0,<-ha1,<-he,Rs.bind,t0,hrun0,hm70,tq0,hrun1,hm71,tq1,hm91,t91,hm101])
  have O1:=S101;refine drg O a6 [56,0,2,5,11,12,13,28,29] [0,5,11,13] [(7,rc J (.bool (.v d1)) p101)] Z fun X10 _ _ Z=>?_
  apply a7 Z rfl<;>intro hb Z
  .have td1:d1=true:=by exact hb
   refine wp_exit (rg O a6 [29,0,2,5,11,28] [0,5,11] [] Z fun X11 _ _ Z=>?_);replace Z:=Z.headS (v':=.int .i64 2) (by subst O;exact zr) rfl;refine j5 (wp_seq (rg O a6 [30,0,2,5,11,28,29] [0,5,11] [] Z fun X5 _ _ Z=>?_));replace Z:=Z.headS (v':=.bool .ff) (Sim.bool (by subst O;rfl)) rfl;refine wp_seq (j3 Z rfl (fun Z=>?_));refine wp_exit ?_
   rcases(me 0 b J hJ ((X10 7).A 0) ((X10 7).c 0) p101 hp101 hn101 l v).two (l6 _ _ _ _ _) hp101 hn101 with⟨w12,p12,hm12,O1⟩|⟨d2,p12,hm12,hs12,hp12,hn12,S12⟩
   .have O2:=fE
    refine kM 4 O a6 [58,59,60,61] [0] [(3,.r fun _=>.agg [.int .i64 2,.sl none none 0 0 2 (fun _=>[]),.int .i64 (-1),.int .u64 0,.int .u64 0])] Z O1 fun _ _ _ _ Z hk=>?_
    exact thm (P:=Tryz.prog) (fn:=Tryz.f225) (q:=p12) Z hk (by simp[u4,A5,<-hx0,<-hx1,<-ha0,<-ha1,<-he,Rs.bind,t0,hrun0,hm70,tq0,hrun1,hm71,tq1,hm91,t91,hm101,td1,hm12])
   have O1:=fE;have O2:=S12;refine drg O a6 [] [0] [(3,.r fun _=>.agg [.int .i64 2,.sl none none 0 0 2 (fun _=>[]),.int .i64 (-1),.int .u64 0,.int .u64 0]),(4,rc J (.bool (.v d2)) p12)] Z fun X12 _ _ Z=>?_
   exact(rmm O a6 Z (v:=()) (q:=p12) ((X12 4).A 0) ((X12 4).c 0) (by simp[u4,A5,<-hx0,<-hx1,<-ha0,<-ha1,<-he,Rs.bind,t0,hrun0,hm70,tq0,hrun1,hm71,tq1,hm91,t91,hm101,td1,hm12])).2
  have td1:d1=false:=by exact hb
  replace Z:=Z.keep [0,2,5,11,12,13,28,29] [0,5,11,13];exact wp_skip (⟨(m1,p101,_,_),⟨by rw[hrun1];simp[A5,Rs.bind,t0,hrun0,hm70,tq0,hrun1,hm71,tq1,hm91,t91,hm101,td1],hp101,hn101,by dsimp only;have:=hl71;have:=hs91.le;have:=hs101.le;have:=hf1;omega,by dsimp only;have:=hl71;have:=hs91.le;have:=hs101.le;have:=hle1;omega⟩,by simp only;omega,Z⟩)
 have tq0:(g0.has && !decide (g0.x.r.kd=5))=false:=by
  have h9:(if g0.has=true then !decide (g0.x.r.kd=5)else false)=false:=by
   have h8:(if g0.has=true then(g0.x.r.kd != 5)else false)=false:=by subst O;exact hb
   exact h8
  rw[<-h9];cases g0.has<;>rfl
 refine wp_skip (wp_seq (wp_seq ?_))
 rcases(ka 0 b J hJ ((X7 2).A 0) ((X7 2).c 0) p70 hp70 hn70 l v).two (i7 _ _ _) hp70 hn70 with⟨w90,p90,hm90,O1⟩|⟨h0,p90,hm90,hs90,hp90,hn90,S90⟩
 .refine stp 3 O a6 [44,45,46] [0] [] Z O1 fun _ _ _ _ Z hk=>?_
  exact thm (P:=Tryz.prog) (fn:=Tryz.f225) (q:=p90) Z hk (by simp[u4,A5,<-hx0,<-hx1,<-ha0,<-ha1,<-he,Rs.bind,t0,hrun0,hm70,tq0,hm90])
 have hl90:=u7 hm90;have hg90:=hp70.get hm90
 try dsimp only at S90
 obtain⟨e0,he0⟩:=eqv (decide (h0.ver=v));rw[<-he0]at S90;have O1:=S90;refine rg O a6 [48,0,2,5,11,12,13,14,28,29] [0,5,11,13,14] [(3,rc J (.bool (.v e0)) p90)] Z fun X9 _ _ Z=>?_
 apply a7 Z rfl<;>intro hb Z
 .have t90:¬h0.ver=v:=by
   have h9:(!e0)=true:=by subst O;exact hb
   rw[he0]at h9;simpa using h9
  exact wp_ret ((rmm O a6 Z (v:=()) (q:=p90) ((X9 3).A 0) ((X9 3).c 0) (by simp[u4,A5,<-hx0,<-hx1,<-ha0,<-ha1,<-he,Rs.bind,t0,hrun0,hm70,tq0,hm90,t90])).1)
 have t90:h0.ver=v:=by
  have h9:(!e0)=false:=by subst O;exact hb
  rw[he0]at h9;simpa using h9
 refine wp_skip (wp_seq ?_)
 rcases(cW 0 b J hJ ((X9 3).A 0) ((X9 3).c 0) p90 hp90 hn90 x0 g0.ver ⟨(X1 2).A 0,(X1 2).c 0,r0⟩).two (l6 _ _ _ _ _) hp90 hn90 with⟨w100,p100,hm100,O1⟩|⟨d0,p100,hm100,hs100,hp100,hn100,S100⟩
 .refine kM 7 O a6 [49,50,52,55] [0] [] Z O1 fun _ _ _ _ Z hk=>?_
  exact thm (P:=Tryz.prog) (fn:=Tryz.f225) (q:=p100) Z hk (by simp[u4,A5,<-hx0,<-hx1,<-ha0,<-ha1,<-he,Rs.bind,t0,hrun0,hm70,tq0,hm90,t90,hm100])
 have O1:=S100;refine drg O a6 [56,0,2,5,11,12,13,28,29] [0,5,11,13] [(7,rc J (.bool (.v d0)) p100)] Z fun X10 _ _ Z=>?_
 apply a7 Z rfl<;>intro hb Z
 .have td0:d0=true:=by exact hb
  refine wp_exit (rg O a6 [29,0,2,5,11,28] [0,5,11] [] Z fun X11 _ _ Z=>?_);replace Z:=Z.headS (v':=.int .i64 1) (by subst O;exact zr) rfl;refine j5 (wp_seq (rg O a6 [30,0,2,5,11,28,29] [0,5,11] [] Z fun X5 _ _ Z=>?_));replace Z:=Z.headS (v':=.bool .tt) (Sim.bool (by subst O;rfl)) rfl;refine wp_seq (j1 Z rfl (fun Z=>?_));refine wp_skip (wp_seq (wp_block (wp_seq (rg O a6 [0,2,5,11,12,13,28,29] [0,5,11,13] [] Z fun X6 _ _ Z=>?_))));refine wp_block (l5 (ι:=Nat×Pst×Option Addr×Nat) (fun q=>[]) (fun q=>[(0,⟨b,139,C0 J q.2.2.1 q.2.2.2 q.2.1⟩)]) (fun q=>[]) (fun q=>A5 J.budget l v x1 r1.abs n p100=A5 J.budget l v x1 r1.abs q.1 q.2.1/\f9 q.2.1/\q.2.1.n<=1000000/\q.2.1.n<q.1/\q.2.1.n<=p.n) (fun q=>q.1) (n,p100,((X10 7).A 0),((X10 7).c 0)) ⟨rfl,hp100,hn100,(by dsimp only;have:=hle0;have:=hs70.le;have:=hs90.le;have:=hs100.le;omega),(by dsimp only;have:=hle0;have:=hs70.le;have:=hs90.le;have:=hs100.le;omega)⟩ Z ?_)
  rintro⟨nn1,p1,A1,c1⟩ ⟨hrun1,hp1,hn1,hf1,hle1⟩ _ _ Z
  try dsimp only at hrun1
  try dsimp only at hp1
  try dsimp only at hn1
  try dsimp only at hf1
  try dsimp only at hle1
  obtain⟨m1,rfl⟩:∃n2,nn1=n2+1:=⟨nn1-1,by omega⟩
  refine wp_block (wp_seq ?_)
  rcases(W0 0 b J hJ A1 c1 p1 hp1 hn1 x1).two (i7 _ _ _) hp1 hn1 with⟨w71,p71,hm71,O1⟩|⟨g1,p71,hm71,hs71,hp71,hn71,S71⟩
  .refine stp 2 O a6 [33,34] [0] [] Z O1 fun _ _ _ _ Z hk=>?_
   exact thm (P:=Tryz.prog) (fn:=Tryz.f225) (q:=p71) Z hk (by simp[u4,A5,<-hx0,<-hx1,<-ha0,<-ha1,<-he,Rs.bind,t0,hrun0,hm70,tq0,hm90,t90,hm100,td0,hrun1,hm71])
  have hl71:=u7 hm71;have hg71:=hp1.get hm71;have O1:=S71;refine rg O a6 [0,2,5,11,12,13,14,28,29] [0,5,11,13,14] [(2,rc J (u5 g1) p71)] Z fun X7 _ _ Z=>?_
  refine wp_seq (wp_seq (rg O a6 [43,0,2,5,11,12,13,14,28,29] [0,5,11,13,14] [] Z fun X8 _ _ Z=>?_));apply a7 Z rfl<;>intro hb Z
  .have tq1:(g1.has && !decide (g1.x.r.kd=5))=true:=by
    have h9:(if g1.has=true then !decide (g1.x.r.kd=5)else false)=true:=by
     have h8:(if g1.has=true then(g1.x.r.kd != 5)else false)=true:=by subst O;exact hb
     exact h8
    rw[<-h9];cases g1.has<;>rfl
   refine wp_exit (rg O a6 [29,0,2,5,11,28] [0,5,11] [] Z fun X11 _ _ Z=>?_);replace Z:=Z.headS (v':=.int .i64 2) (by subst O;exact zr) rfl;refine j5 (wp_seq (rg O a6 [30,0,2,5,11,28,29] [0,5,11] [] Z fun X5 _ _ Z=>?_));replace Z:=Z.headS (v':=.bool .ff) (Sim.bool (by subst O;rfl)) rfl;refine wp_seq (j3 Z rfl (fun Z=>?_));refine wp_exit ?_
   rcases(me 0 b J hJ ((X7 2).A 0) ((X7 2).c 0) p71 hp71 hn71 l v).two (l6 _ _ _ _ _) hp71 hn71 with⟨w12,p12,hm12,O1⟩|⟨d2,p12,hm12,hs12,hp12,hn12,S12⟩
   .have O2:=fE
    refine kM 4 O a6 [58,59,60,61] [0] [(3,.r fun _=>.agg [.int .i64 2,.sl none none 0 0 2 (fun _=>[]),.int .i64 (-1),.int .u64 0,.int .u64 0])] Z O1 fun _ _ _ _ Z hk=>?_
    exact thm (P:=Tryz.prog) (fn:=Tryz.f225) (q:=p12) Z hk (by simp[u4,A5,<-hx0,<-hx1,<-ha0,<-ha1,<-he,Rs.bind,t0,hrun0,hm70,tq0,hm90,t90,hm100,td0,hrun1,hm71,tq1,hm12])
   have O1:=fE;have O2:=S12;refine drg O a6 [] [0] [(3,.r fun _=>.agg [.int .i64 2,.sl none none 0 0 2 (fun _=>[]),.int .i64 (-1),.int .u64 0,.int .u64 0]),(4,rc J (.bool (.v d2)) p12)] Z fun X12 _ _ Z=>?_
   exact(rmm O a6 Z (v:=()) (q:=p12) ((X12 4).A 0) ((X12 4).c 0) (by simp[u4,A5,<-hx0,<-hx1,<-ha0,<-ha1,<-he,Rs.bind,t0,hrun0,hm70,tq0,hm90,t90,hm100,td0,hrun1,hm71,tq1,hm12])).2
  have tq1:(g1.has && !decide (g1.x.r.kd=5))=false:=by
   have h9:(if g1.has=true then !decide (g1.x.r.kd=5)else false)=false:=by
    have h8:(if g1.has=true then(g1.x.r.kd != 5)else false)=false:=by subst O;exact hb
    exact h8
   rw[<-h9];cases g1.has<;>rfl
  refine wp_skip (wp_seq (wp_seq ?_))
  rcases(ka 0 b J hJ ((X7 2).A 0) ((X7 2).c 0) p71 hp71 hn71 l v).two (i7 _ _ _) hp71 hn71 with⟨w91,p91,hm91,O1⟩|⟨h1,p91,hm91,hs91,hp91,hn91,S91⟩
  .refine stp 3 O a6 [44,45,46] [0] [] Z O1 fun _ _ _ _ Z hk=>?_
   exact thm (P:=Tryz.prog) (fn:=Tryz.f225) (q:=p91) Z hk (by simp[u4,A5,<-hx0,<-hx1,<-ha0,<-ha1,<-he,Rs.bind,t0,hrun0,hm70,tq0,hm90,t90,hm100,td0,hrun1,hm71,tq1,hm91])
  have hl91:=u7 hm91;have hg91:=hp71.get hm91
  try dsimp only at S91
  obtain⟨e1,he1⟩:=eqv (decide (h1.ver=v));rw[<-he1]at S91;have O1:=S91;refine rg O a6 [48,0,2,5,11,12,13,14,28,29] [0,5,11,13,14] [(3,rc J (.bool (.v e1)) p91)] Z fun X9 _ _ Z=>?_
  apply a7 Z rfl<;>intro hb Z
  .have t91:¬h1.ver=v:=by
    have h9:(!e1)=true:=by subst O;exact hb
    rw[he1]at h9;simpa using h9
   exact wp_ret ((rmm O a6 Z (v:=()) (q:=p91) ((X9 3).A 0) ((X9 3).c 0) (by simp[u4,A5,<-hx0,<-hx1,<-ha0,<-ha1,<-he,Rs.bind,t0,hrun0,hm70,tq0,hm90,t90,hm100,td0,hrun1,hm71,tq1,hm91,t91])).1)
  have t91:h1.ver=v:=by
   have h9:(!e1)=false:=by subst O;exact hb
   rw[he1]at h9;simpa using h9
  refine wp_skip (wp_seq ?_)
  rcases(cW 0 b J hJ ((X9 3).A 0) ((X9 3).c 0) p91 hp91 hn91 x1 g1.ver ⟨(X1 2).A 1,(X1 2).c 1,r1⟩).two (l6 _ _ _ _ _) hp91 hn91 with⟨w101,p101,hm101,O1⟩|⟨d1,p101,hm101,hs101,hp101,hn101,S101⟩
  .refine kM 7 O a6 [49,50,52,55] [0] [] Z O1 fun _ _ _ _ Z hk=>?_
   exact thm (P:=Tryz.prog) (fn:=Tryz.f225) (q:=p101) Z hk (by simp[u4,A5,<-hx0,<-hx1,<-ha0,<-ha1,<-he,Rs.bind,t0,hrun0,hm70,tq0,hm90,t90,hm100,td0,hrun1,hm71,tq1,hm91,t91,hm101])
  have O1:=S101;refine drg O a6 [56,0,2,5,11,12,13,28,29] [0,5,11,13] [(7,rc J (.bool (.v d1)) p101)] Z fun X10 _ _ Z=>?_
  apply a7 Z rfl<;>intro hb Z
  .have td1:d1=true:=by exact hb
   refine wp_exit (rg O a6 [29,0,2,5,11,28] [0,5,11] [] Z fun X11 _ _ Z=>?_);replace Z:=Z.headS (v':=.int .i64 2) (by subst O;exact zr) rfl;refine j5 (wp_seq (rg O a6 [30,0,2,5,11,28,29] [0,5,11] [] Z fun X5 _ _ Z=>?_));replace Z:=Z.headS (v':=.bool .ff) (Sim.bool (by subst O;rfl)) rfl;refine wp_seq (j3 Z rfl (fun Z=>?_));refine wp_exit ?_
   rcases(me 0 b J hJ ((X10 7).A 0) ((X10 7).c 0) p101 hp101 hn101 l v).two (l6 _ _ _ _ _) hp101 hn101 with⟨w12,p12,hm12,O1⟩|⟨d2,p12,hm12,hs12,hp12,hn12,S12⟩
   .have O2:=fE
    refine kM 4 O a6 [58,59,60,61] [0] [(3,.r fun _=>.agg [.int .i64 2,.sl none none 0 0 2 (fun _=>[]),.int .i64 (-1),.int .u64 0,.int .u64 0])] Z O1 fun _ _ _ _ Z hk=>?_
    exact thm (P:=Tryz.prog) (fn:=Tryz.f225) (q:=p12) Z hk (by simp[u4,A5,<-hx0,<-hx1,<-ha0,<-ha1,<-he,Rs.bind,t0,hrun0,hm70,tq0,hm90,t90,hm100,td0,hrun1,hm71,tq1,hm91,t91,hm101,td1,hm12])
   have O1:=fE;have O2:=S12;refine drg O a6 [] [0] [(3,.r fun _=>.agg [.int .i64 2,.sl none none 0 0 2 (fun _=>[]),.int .i64 (-1),.int .u64 0,.int .u64 0]),(4,rc J (.bool (.v d2)) p12)] Z fun X12 _ _ Z=>?_
   exact(rmm O a6 Z (v:=()) (q:=p12) ((X12 4).A 0) ((X12 4).c 0) (by simp[u4,A5,<-hx0,<-hx1,<-ha0,<-ha1,<-he,Rs.bind,t0,hrun0,hm70,tq0,hm90,t90,hm100,td0,hrun1,hm71,tq1,hm91,t91,hm101,td1,hm12])).2
  have td1:d1=false:=by exact hb
  replace Z:=Z.keep [0,2,5,11,12,13,28,29] [0,5,11,13];exact wp_skip (⟨(m1,p101,_,_),⟨by rw[hrun1];simp[A5,Rs.bind,t0,hrun0,hm70,tq0,hm90,t90,hm100,td0,hrun1,hm71,tq1,hm91,t91,hm101,td1],hp101,hn101,by dsimp only;have:=hl71;have:=hs91.le;have:=hs101.le;have:=hf1;omega,by dsimp only;have:=hl71;have:=hs91.le;have:=hs101.le;have:=hle1;omega⟩,by simp only;omega,Z⟩)
 have td0:d0=false:=by exact hb
 replace Z:=Z.keep [0,2,5,11,12,13,28,29] [0,5,11,13];exact wp_skip (⟨(m0,p100,_,_),⟨by rw[hrun0];simp[A5,Rs.bind,t0,hrun0,hm70,tq0,hm90,t90,hm100,td0],hp100,hn100,by dsimp only;have:=hl70;have:=hs90.le;have:=hs100.le;have:=hf0;omega,by dsimp only;have:=hl70;have:=hs90.le;have:=hs100.le;have:=hle0;omega⟩,by simp only;omega,Z⟩)
theorem Hc(k0 b:Nat)(J:i5)(hJ:j0 J)(A:Option Addr)(c:Nat)(p:Pst)(hp:f9 p)(hn:p.n<=1000000)(l:Lab)(hl:LOk l)(v:Int)(x:RA)(hx:L3 x)(n:Nat)(hf:p.n<n):s5 225 k0 b J A c p [f4 l,.int .u64 v,C7 x] (fun _=>i4) (u4 J.budget n l v x p):=s5.re (DY b J hJ A c p hp hn l hl v x hx n hf) (by repeat(first|exact trivial|refine⟨zr,?_⟩))
theorem EH(b:Nat)(J:i5)(hJ:j0 J)(A:Option Addr)(c:Nat)(p:Pst)(hp:f9 p)(hn:p.n<=1000000)(l:Lab)(hl:LOk l)(v:Int)(n:Nat)(hth:ThC n)(hf:p.n<n):s5 226 0 b J A c p [f4 l,.int .u64 v] (fun _=>i4) (M3 J.bucket J.budget n (I6 J.bucket J.budget n) l v p):=by
 intro m w hm hargs hpre;have SC:=tS l hl.u;have hk0:=hl.ch 0;have hk1:=hl.ch 1;simp only[f4]at SC;obtain⟨x0,hx0⟩:=eqv (chV l 0);rw[<-hx0]at SC hk0;obtain⟨x1,hx1⟩:=eqv (chV l 1);rw[<-hx1]at SC hk1;refine enX 73 hm hpre hargs Tryz.func226 fun B O a0 Z=>?_
 refine wp_seq (rg O a6 [0,2,4] [0,4] [] Z fun X0 _ _ Z=>?_);refine wp_seq (rg O a6 [0,2,4,6] [0,4,6] [] Z fun X1 _ _ Z=>?_);have O1:=SC;refine wp_seq (wp_seq (rg O a6 [15,0,2,4,6,14] [0,4,6] [(1,.r fun _=>.agg [.int .i64 x0.len,.int .u64 x0.bits,.int .i64 x1.len,.int .u64 x1.bits])] Z fun X2 _ _ Z=>?_));refine wp_block (wp_loop_rounds 3 (C3 (wp_seq (rg O a6 [16,0,2,4,6,14,15] [0,4,6] [] Z fun X3 _ _ Z=>?_))));replace Z:=Z.headS (v':=.bool .tt) (Sim.bool (by subst O;rfl)) rfl;refine wp_seq (j1 Z rfl (fun Z=>?_));refine wp_skip (wp_seq (wp_block (wp_seq (rg O a6 [0,2,4,6,7,8,14,15] [0,4,6,8] [] Z fun X4 _ _ Z=>?_))));apply wp_seq
 rcases(Dw 0 b J hJ A c p hp hn l v x0 n (by have:=(Suf.refl p).le;omega)).two (aS _ _ _ _ _ _) hp hn with⟨w50,p50,hm50,O1⟩|⟨z0,p50,hm50,hs50,hp50,hn50,S50⟩
 .refine stp 4 O a6 [20,21,22,23] [0] [] Z O1 fun _ _ _ _ Z hk=>?_
  exact thm (P:=Tryz.prog) (fn:=Tryz.f226) (q:=p50) Z hk (by simp[M3,<-hx0,<-hx1,Rs.bind,hm50])
 have hz0:∀y,z0 = .fr y->L3 y:=fun y hy=>gd hp (by rw[hm50,hy])
 have T50:=S50;unfold tF at T50;obtain⟨y0,hy0⟩:=eqv (fzR z0);rw[<-hy0]at T50;obtain⟨i0,hi0⟩:=eqv (fzI z0);rw[<-hi0]at T50;have O1:=T50;refine rg O a6 [0,2,4,6,7,9,10,14,15] [0,4,6,9] [(4,rc J (.tup [.agg [.int .i64 y0.r.kd,.sl none y0.A y0.r.n y0.c 2 (fun i=>itC (y0.r.f i)),.int .i64 y0.r.nx.len,.int .u64 y0.r.nx.bits,.int .u64 y0.r.mrk],.int .i64 i0]) p50)] Z fun X5 _ _ Z=>?_
 refine wp_seq (wp_seq (rg O a6 [0,2,4,6,7,9,14,15,27] [0,4,6,9] [] Z fun X6 _ _ Z=>?_));refine wp_block (wp_seq (wp_block (wp_seq (wp_block (wp_seq (wp_seq (wp_seq (rg O a6 [28,0,2,4,6,7,9,14,15,27] [0,4,6,9] [] Z fun X7 _ _ Z=>?_))))))));apply a7 Z rfl<;>intro hb Z
 .have tz0:z0 = .unfit:=HH (by rw[<-hi0];subst O;simpa[std,a8]using hb)
  refine wp_exit ?_
  rcases(yR 0 b J hJ ((X5 4).A 0) ((X5 4).c 0) p50 hp50 hn50 l hl v n hth (by have:=(Suf.trans (Suf.refl p) hs50).le;omega)).two (cy _ _ (E8 _ _ _) _ _ _) hp50 hn50 with⟨w90,p90,hm90,O1⟩|⟨v90,p90,hm90,hs90,hp90,hn90,S90⟩
  .refine stp 3 O a6 [32,33,34] [0] [] Z O1 fun _ _ _ _ Z hk=>?_
   exact thm (P:=Tryz.prog) (fn:=Tryz.f226) (q:=p90) Z hk (by simp[M3,<-hx0,<-hx1,Rs.bind,hm50,tz0,hm90])
  have O1:=S90;refine rg O a6 [] [0] [(3,rc J (i4) p90)] Z fun X9 _ _ Z=>?_
  exact wp_seq (wp_ret ((rmm O a6 Z (v:=()) (q:=p90) ((X9 3).A 0) ((X9 3).c 0) (by simp[M3,<-hx0,<-hx1,Rs.bind,hm50,tz0,hm90])).1))
 have ta0:fzI z0≠1:=by
  have:¬i0=1:=by subst O;simpa[std,a8]using hb
  rw[<-hi0];exact this
 refine wp_skip (wp_seq (rg O a6 [30,0,2,4,6,7,9,14,15] [0,4,6,9] [] Z fun X8 _ _ Z=>?_));apply a7 Z rfl<;>intro hb Z
 .have tz0:z0 = .over:=HJ (by rw[<-hi0];subst O;simpa[std,a8]using hb)
  exact wp_exit (wp_seq (wp_ret ((rmm O a6 Z (v:=()) (q:=p50) ((X5 4).A 0) ((X5 4).c 0) (by simp[M3,<-hx0,<-hx1,Rs.bind,hm50,tz0])).1)))
 have tz0:z0 = .fr y0:=by
  rw[hy0];refine HG ?_ ta0;have:¬i0=0:=by subst O;simpa[std,a8]using hb
  rw[<-hi0];exact this
 have ty0:=hz0 _ tz0;refine wp_skip (wp_exit (rg O a6 [0,2,4,6,14,15] [0,4,6] [] Z fun X10 _ _ Z=>?_));refine rg O a6 [15,0,2,4,6,14] [0,4,6] [] Z fun X11 _ _ Z=>?_
 replace Z:=Z.headS (v':=.int .i64 1) (by subst O;exact zr) rfl;refine j5 (wp_seq (rg O a6 [16,0,2,4,6,14,15] [0,4,6] [] Z fun X3 _ _ Z=>?_));replace Z:=Z.headS (v':=.bool .tt) (Sim.bool (by subst O;rfl)) rfl;refine wp_seq (j1 Z rfl (fun Z=>?_));refine wp_skip (wp_seq (wp_block (wp_seq (rg O a6 [0,2,4,6,7,8,14,15] [0,4,6,8] [] Z fun X4 _ _ Z=>?_))));apply wp_seq
 rcases(Dw 0 b J hJ ((X5 4).A 0) ((X5 4).c 0) p50 hp50 hn50 l v x1 n (by have:=(Suf.trans (Suf.refl p) hs50).le;omega)).two (aS _ _ _ _ _ _) hp50 hn50 with⟨w51,p51,hm51,O1⟩|⟨z1,p51,hm51,hs51,hp51,hn51,S51⟩
 .refine stp 4 O a6 [20,21,22,23] [0] [] Z O1 fun _ _ _ _ Z hk=>?_
  exact thm (P:=Tryz.prog) (fn:=Tryz.f226) (q:=p51) Z hk (by simp[M3,<-hx0,<-hx1,Rs.bind,hm50,tz0,hm51])
 have hz1:∀y,z1 = .fr y->L3 y:=fun y hy=>gd hp50 (by rw[hm51,hy])
 have T51:=S51;unfold tF at T51;obtain⟨y1,hy1⟩:=eqv (fzR z1);rw[<-hy1]at T51;obtain⟨i1,hi1⟩:=eqv (fzI z1);rw[<-hi1]at T51;have O1:=T51;refine rg O a6 [0,2,4,6,7,9,10,14,15] [0,4,6,9] [(4,rc J (.tup [.agg [.int .i64 y1.r.kd,.sl none y1.A y1.r.n y1.c 2 (fun i=>itC (y1.r.f i)),.int .i64 y1.r.nx.len,.int .u64 y1.r.nx.bits,.int .u64 y1.r.mrk],.int .i64 i1]) p51)] Z fun X5 _ _ Z=>?_
 refine wp_seq (wp_seq (rg O a6 [0,2,4,6,7,9,14,15,27] [0,4,6,9] [] Z fun X6 _ _ Z=>?_));refine wp_block (wp_seq (wp_block (wp_seq (wp_block (wp_seq (wp_seq (wp_seq (rg O a6 [28,0,2,4,6,7,9,14,15,27] [0,4,6,9] [] Z fun X7 _ _ Z=>?_))))))));apply a7 Z rfl<;>intro hb Z
 .have tz1:z1 = .unfit:=HH (by rw[<-hi1];subst O;simpa[std,a8]using hb)
  refine wp_exit ?_
  rcases(yR 0 b J hJ ((X5 4).A 0) ((X5 4).c 0) p51 hp51 hn51 l hl v n hth (by have:=(Suf.trans (Suf.trans (Suf.refl p) hs50) hs51).le;omega)).two (cy _ _ (E8 _ _ _) _ _ _) hp51 hn51 with⟨w91,p91,hm91,O1⟩|⟨v91,p91,hm91,hs91,hp91,hn91,S91⟩
  .refine stp 3 O a6 [32,33,34] [0] [] Z O1 fun _ _ _ _ Z hk=>?_
   exact thm (P:=Tryz.prog) (fn:=Tryz.f226) (q:=p91) Z hk (by simp[M3,<-hx0,<-hx1,Rs.bind,hm50,tz0,hm51,tz1,hm91])
  have O1:=S91;refine rg O a6 [] [0] [(3,rc J (i4) p91)] Z fun X9 _ _ Z=>?_
  exact wp_seq (wp_ret ((rmm O a6 Z (v:=()) (q:=p91) ((X9 3).A 0) ((X9 3).c 0) (by simp[M3,<-hx0,<-hx1,Rs.bind,hm50,tz0,hm51,tz1,hm91])).1))
 have ta1:fzI z1≠1:=by
  have:¬i1=1:=by subst O;simpa[std,a8]using hb
  rw[<-hi1];exact this
 refine wp_skip (wp_seq (rg O a6 [30,0,2,4,6,7,9,14,15] [0,4,6,9] [] Z fun X8 _ _ Z=>?_));apply a7 Z rfl<;>intro hb Z
 .have tz1:z1 = .over:=HJ (by rw[<-hi1];subst O;simpa[std,a8]using hb)
  exact wp_exit (wp_seq (wp_ret ((rmm O a6 Z (v:=()) (q:=p51) ((X5 4).A 0) ((X5 4).c 0) (by simp[M3,<-hx0,<-hx1,Rs.bind,hm50,tz0,hm51,tz1])).1)))
 have tz1:z1 = .fr y1:=by
  rw[hy1];refine HG ?_ ta1;have:¬i1=0:=by subst O;simpa[std,a8]using hb
  rw[<-hi1];exact this
 have ty1:=hz1 _ tz1;refine wp_skip (wp_exit (rg O a6 [0,2,4,6,14,15] [0,4,6] [] Z fun X10 _ _ Z=>?_));refine rg O a6 [15,0,2,4,6,14] [0,4,6] [] Z fun X11 _ _ Z=>?_
 replace Z:=Z.headS (v':=.int .i64 2) (by subst O;exact zr) rfl;refine j5 (wp_seq (rg O a6 [16,0,2,4,6,14,15] [0,4,6] [] Z fun X3 _ _ Z=>?_));replace Z:=Z.headS (v':=.bool .ff) (Sim.bool (by subst O;rfl)) rfl;refine wp_seq (j3 Z rfl (fun Z=>?_));have SU:=Gx y0 y1 ty0 ty1;obtain⟨r2,hr2⟩:=eqv ((dg y0 y1).1.rn);rw[<-hr2]at SU;obtain⟨e2,he2⟩:=eqv ((dg y0 y1).2);rw[<-he2]at SU;have ha2:r2.abs=(dg y0 y1).1:=by rw[hr2];exact Q4 _
 have hl2:r2.abs.items.length=r2.n:=by rw[ha2,hr2];rfl
 have O1:=SU;refine wp_exit (wp_seq (rg O a6 [0,2,4,11,12] [0,4,11] [(4,.r fun z=>.tup [.agg [.int .i64 r2.kd,.sl none (z.A 0) r2.n (z.c 0) 2 (fun i=>itC (r2.f i)),.int .i64 r2.nx.len,.int .u64 r2.nx.bits,.int .u64 r2.mrk],.int .i64 e2])] Z fun X12 _ _ Z=>?_));refine wp_seq (wp_seq (drg O a6 [60,0,2,4,11] [0,4,11] [] Z fun X13 _ _ Z=>?_));apply a7 Z rfl<;>intro hb Z
 .have tu:¬((dg y0 y1).2=0/\(r2.abs.items.length:Int)<=J.bucket):=by
   have h9:(if(!decide (e2=0))=true then true else decide ((r2.n:Int)>J.bucket))=true:=by subst O;exact hb
   rw[<-he2,hl2];intro h;simp[h.1]at h9;omega
  apply wp_seq
  rcases(yR 0 b J hJ ((X5 4).A 0) ((X5 4).c 0) p51 hp51 hn51 l hl v n hth (by have:=(Suf.trans (Suf.trans (Suf.refl p) hs50) hs51).le;omega)).two (cy _ _ (E8 _ _ _) _ _ _) hp51 hn51 with⟨w14,p14,hm14,O1⟩|⟨v14,p14,hm14,hs14,hp14,hn14,S14⟩
  .refine stp 3 O a6 [61,62,63] [0] [] Z O1 fun _ _ _ _ Z hk=>?_
   exact thm (P:=Tryz.prog) (fn:=Tryz.f226) (q:=p14) Z hk (by simp[M3,<-hx0,<-hx1,Rs.bind,hm50,tz0,hm51,tz1,<-ha2,if_neg tu,hm14])
  have O1:=S14;refine rg O a6 [] [0] [(3,rc J (i4) p14)] Z fun X14 _ _ Z=>?_
  exact wp_ret ((rmm O a6 Z (v:=()) (q:=p14) ((X14 3).A 0) ((X14 3).c 0) (by simp[M3,<-hx0,<-hx1,Rs.bind,hm50,tz0,hm51,tz1,<-ha2,if_neg tu,hm14])).1)
 have tu:(dg y0 y1).2=0/\(r2.abs.items.length:Int)<=J.bucket:=by
  have h9:(if(!decide (e2=0))=true then true else decide ((r2.n:Int)>J.bucket))=false:=by subst O;exact hb
  rw[<-he2,hl2];simp at h9;exact⟨h9.1,by omega⟩
 refine wp_skip (wp_seq ?_)
 rcases(cW 0 b J hJ ((X5 4).A 0) ((X5 4).c 0) p51 hp51 hn51 l v ⟨(X12 4).A 0,(X12 4).c 0,r2⟩).two (l6 _ _ _ _ _) hp51 hn51 with⟨w15,p15,hm15,O1⟩|⟨d5,p15,hm15,hs15,hp15,hn15,S15⟩
 .refine stp 4 O a6 [65,66,67,68] [0] [] Z O1 fun _ _ _ _ Z hk=>?_
  exact thm (P:=Tryz.prog) (fn:=Tryz.f226) (q:=p15) Z hk (by simp[M3,<-hx0,<-hx1,Rs.bind,hm50,tz0,hm51,tz1,<-ha2,if_pos tu,hm15])
 have O1:=S15;refine rg O a6 [69,0,4] [0,4] [(4,rc J (.bool (.v d5)) p15)] Z fun X15 _ _ Z=>?_
 apply a7 Z rfl<;>intro hb Z
 .have t5:d5=true:=by exact hb
  rcases(DC n 0 b J hJ ((X15 4).A 0) ((X15 4).c 0) p15 hp15 hn15 l hl (by have:=(Suf.trans (Suf.trans (Suf.trans (Suf.refl p) hs50) hs51) hs15).le;omega)).two (Z0 _ _ _ _) hp15 hn15 with⟨w16,p16,hm16,O1⟩|⟨v16,p16,hm16,hs16,hp16,hn16,S16⟩
  .refine stp 2 O a6 [70,71] [0] [] Z O1 fun _ _ _ _ Z hk=>?_
   exact thm (P:=Tryz.prog) (fn:=Tryz.f226) (q:=p16) Z hk (by simp[M3,<-hx0,<-hx1,Rs.bind,hm50,tz0,hm51,tz1,<-ha2,if_pos tu,hm15,t5,hm16])
  have O1:=S16;refine rg O a6 [] [0] [(2,rc J (i4) p16)] Z fun X16 _ _ Z=>?_
  exact(rmm O a6 Z (v:=()) (q:=p16) ((X16 2).A 0) ((X16 2).c 0) (by simp[M3,<-hx0,<-hx1,Rs.bind,hm50,tz0,hm51,tz1,<-ha2,if_pos tu,hm15,t5,hm16])).2
 have t5:d5=false:=by exact hb
 exact wp_skip ((rmm O a6 Z (v:=()) (q:=p15) ((X15 4).A 0) ((X15 4).c 0) (by simp[M3,<-hx0,<-hx1,Rs.bind,hm50,tz0,hm51,tz1,<-ha2,if_pos tu,hm15,t5])).2)
theorem Hu(k0 b:Nat)(J:i5)(hJ:j0 J)(A:Option Addr)(c:Nat)(p:Pst)(hp:f9 p)(hn:p.n<=1000000)(l:Lab)(hl:LOk l)(v:Int)(n:Nat)(hth:ThC n)(hf:p.n<n):s5 226 k0 b J A c p [f4 l,.int .u64 v] (fun _=>i4) (M3 J.bucket J.budget n (I6 J.bucket J.budget n) l v p):=s5.re (EH b J hJ A c p hp hn l hl v n hth hf) (by repeat(first|exact trivial|refine⟨zr,?_⟩))
theorem Fb(b:Nat)(J:i5)(hJ:j0 J)(A:Option Addr)(c:Nat)(p:Pst)(hp:f9 p)(hn:p.n<=1000000)(l:Lab)(hl:LOk l)(g:u2)(hg:db g)(n:Nat)(hth:ThC n)(hf:p.n<n):s5 165 0 b J A c p [f4 l,u5 g] (fun _=>i4) (R5 J.bucket J.budget n l g p):=by
 intro m w hm hargs hpre;refine enX 26 hm hpre hargs Tryz.func165 fun B O a0 Z=>?_
 refine wp_seq (rg O a6 [0,4,5] [0,4,5] [] Z fun X0 _ _ Z=>?_);obtain⟨q1,hq1⟩:=eqv (gk g 3);refine wp_block (wp_seq ?_);refine rg O a6 [6,0,4,5] [0,4,5,8] [(2,.r fun _=>.bool (.v q1))] Z (hob:=by intro X;subst O;simp only[b7,Ob.holds,BE.den]<;>and_intros<;>repeat first|trivial|rfl|exact(by rw[hq1];exact F5 g _ _ 3 _ rfl)|exact by rw[hq1];exact F5 g _ _ 3 _ rfl|exact(fun _ _=>by kernel_rfl)|refine⟨?_,?_⟩|intro h|exact Int.le_refl _|decide|omega) fun X1 _ _ Z=>?_
 apply a7 Z rfl<;>intro hb Z
 .have tq1:gk g 3=true:=by rw[<-hq1];exact hb
  rcases(Hc 0 b J hJ A c p hp hn l hl g.ver g.x hg.ra n hf).two (jf _ _ _ _ _ _) hp hn with⟨w2,p2,hm2,O1⟩|⟨v2,p2,hm2,hs2,hp2,hn2,S2⟩
  .refine stp 6 O a6 [10,11,13,15] [0] [] Z O1 fun _ _ _ _ Z hk=>?_
   exact thm (P:=Tryz.prog) (fn:=Tryz.f165) (q:=p2) Z hk (by simp[R5,dW,Rs.bind,tq1,hm2])
  have O1:=S2;refine rg O a6 [] [0] [(6,rc J (i4) p2)] Z fun X2 _ _ Z=>?_
  exact(rmm O a6 Z (v:=()) (q:=p2) ((X2 6).A 0) ((X2 6).c 0) (by simp[R5,dW,Rs.bind,tq1,hm2])).2
 have tq1:gk g 3=false:=by rw[<-hq1];exact hb
 refine wp_seq (rg O a6 [17,0,4,5] [0,4,5] [] Z fun X3 _ _ Z=>?_);apply a7 Z rfl<;>intro hb Z
 .have t2:l.len<64:=by subst O;simpa[std,a8]using hb
  rcases(Hu 0 b J hJ A c p hp hn l hl g.ver n hth hf).two (oF _ _ _ _ (E8 _ _ _) _ _ _) hp hn with⟨w4,p4,hm4,O1⟩|⟨v4,p4,hm4,hs4,hp4,hn4,S4⟩
  .refine stp 4 O a6 [21,22,24] [0] [] Z O1 fun _ _ _ _ Z hk=>?_
   exact thm (P:=Tryz.prog) (fn:=Tryz.f165) (q:=p4) Z hk (by simp[R5,dW,Rs.bind,tq1,t2,hm4])
  have O1:=S4;refine rg O a6 [] [0] [(4,rc J (i4) p4)] Z fun X4 _ _ Z=>?_
  exact(rmm O a6 Z (v:=()) (q:=p4) ((X4 4).A 0) ((X4 4).c 0) (by simp[R5,dW,Rs.bind,tq1,t2,hm4])).2
 have t2:¬l.len<64:=by subst O;simpa[std,a8]using hb
 exact wp_skip ((rmm O a6 Z (v:=()) (q:=p) A c (by simp[R5,dW,Rs.bind,tq1,t2])).2)
theorem HL(k0 b:Nat)(J:i5)(hJ:j0 J)(A:Option Addr)(c:Nat)(p:Pst)(hp:f9 p)(hn:p.n<=1000000)(l:Lab)(hl:LOk l)(g:u2)(hg:db g)(n:Nat)(hth:ThC n)(hf:p.n<n):s5 165 k0 b J A c p [f4 l,u5 g] (fun _=>i4) (R5 J.bucket J.budget n l g p):=s5.re (Fb b J hJ A c p hp hn l hl g hg n hth hf) (by repeat(first|exact trivial|refine⟨zr,?_⟩))
theorem DS(b:Nat)(J:i5)(hJ:j0 J)(A:Option Addr)(c:Nat)(p:Pst)(hp:f9 p)(hn:p.n<=1000000)(l:Lab)(hl:LOk l)(n:Nat)(hfin:∀j,j<n->CA j)(hf:p.n<n):s5 228 0 b J A c p [f4 l] (fun _=>i4) (I6 J.bucket J.budget n l p):=by
 intro m w hm hargs hpre;have SP:=wY l hl.u;have hpar:=hl.par;simp only[f4]at SP;obtain⟨up,hup⟩:=eqv (G1 l);rw[<-hup]at SP hpar;obtain⟨ue,hue⟩:=eqv (G4 l);rw[<-hue]at SP;refine enX 46 hm hpre hargs Tryz.func228 fun B O a0 Z=>?_
 refine wp_seq (rg O a6 [0,3] [0,3] [] Z fun X0 _ _ Z=>?_);have O1:=SP;refine wp_seq (rg O a6 [0,3,4,5] [0,3,4] [(1,.r fun _=>.tup [.agg [.int .i64 up.len,.int .u64 up.bits],.int .i64 ue])] Z fun X1 _ _ Z=>?_);refine wp_seq (wp_seq (rg O a6 [14,0,3,4] [0,3,4] [] Z fun X2 _ _ Z=>?_));apply a7 Z rfl<;>intro hb Z
 .have t0:¬ue=0:=by subst O;simpa[std,a8]using hb
  exact wp_ret ((rmm O a6 Z (v:=()) (q:=p) A c (by simp[I6,<-hup,<-hue,Rs.bind,t0])).1)
 have t0:ue=0:=by subst O;simpa[std,a8]using hb
 refine wp_skip (wp_block (l5 (ι:=Nat×Pst×Option Addr×Nat) (fun q=>[]) (fun q=>[(0,⟨b,139,C0 J q.2.2.1 q.2.2.2 q.2.1⟩)]) (fun q=>[]) (fun q=>dm J.bucket J.budget n l up p=dm J.bucket J.budget q.1 l up q.2.1/\f9 q.2.1/\q.2.1.n<=1000000/\q.2.1.n<q.1/\q.1<=n) (fun q=>q.1) (n,p,A,c) ⟨rfl,hp,hn,hf,Nat.le_refl _⟩ Z ?_))
 rintro⟨nn,p0,A0,c0⟩ ⟨hrun,hp0,hn0,hf0,hnn⟩ _ _ Z
 try dsimp only at hrun
 try dsimp only at hp0
 try dsimp only at hn0
 try dsimp only at hf0
 try dsimp only at hnn
 obtain⟨n2,rfl⟩:∃n2,nn=n2+1:=⟨nn-1,by omega⟩
 refine wp_block (wp_seq ?_)
 rcases(W0 0 b J hJ A0 c0 p0 hp0 hn0 l).two (i7 _ _ _) hp0 hn0 with⟨w3,p3,hm3,O1⟩|⟨g3,p3,hm3,hs3,hp3,hn3,S3⟩
 .refine stp 2 O a6 [15,16] [0] [] Z O1 fun _ _ _ _ Z hk=>?_
  exact thm (P:=Tryz.prog) (fn:=Tryz.f228) (q:=p3) Z hk (by simp[I6,<-hup,<-hue,Rs.bind,t0,hrun,u9,hm3])
 have hl3:=u7 hm3;have hg3:=hp0.get hm3;have O1:=S3;refine rg O a6 [0,3,4,6] [0,3,4,6] [(2,rc J (u5 g3) p3)] Z fun X3 _ _ Z=>?_
 obtain⟨q4,hq4⟩:=eqv (gk g3 5);refine wp_seq (wp_seq ?_);refine rg O a6 [21,0,3,4,6] [0,3,4,6] [(2,.r fun _=>.bool (.v q4))] Z (hob:=by intro X;subst O;simp only[b7,Ob.holds,BE.den]<;>and_intros<;>repeat first|trivial|rfl|exact(by rw[hq4];exact F5 g3 _ _ 5 _ rfl)|exact by rw[hq4];exact F5 g3 _ _ 5 _ rfl|exact(fun _ _=>by kernel_rfl)|refine⟨?_,?_⟩|intro h|exact Int.le_refl _|decide|omega) fun X4 _ _ Z=>?_
 apply a7 Z rfl<;>intro hb Z
 .have tq4:gk g3 5=false:=by subst O;rw[<-hq4];revert hb;cases q4<;>simp[std]
  exact wp_ret ((rmm O a6 Z (v:=()) (q:=p3) ((X3 2).A 0) ((X3 2).c 0) (by simp[I6,<-hup,<-hue,Rs.bind,t0,hrun,u9,hm3,tq4])).1)
 have tq4:gk g3 5=true:=by subst O;rw[<-hq4];revert hb;cases q4<;>simp[std]
 refine wp_skip (wp_seq ?_)
 rcases(W0 0 b J hJ ((X3 2).A 0) ((X3 2).c 0) p3 hp3 hn3 up).two (i7 _ _ _) hp3 hn3 with⟨w5,p5,hm5,O1⟩|⟨g5,p5,hm5,hs5,hp5,hn5,S5⟩
 .refine stp 2 O a6 [22,23] [0] [] Z O1 fun _ _ _ _ Z hk=>?_
  exact thm (P:=Tryz.prog) (fn:=Tryz.f228) (q:=p5) Z hk (by simp[I6,<-hup,<-hue,Rs.bind,t0,hrun,u9,hm3,tq4,hm5])
 have hl5:=u7 hm5;have hg5:=hp3.get hm5;have O1:=S5;refine rg O a6 [0,3,4,6,7] [0,3,4,6,7] [(2,rc J (u5 g5) p5)] Z fun X5 _ _ Z=>?_
 obtain⟨q6,hq6⟩:=eqv ((gk g5 3||gk g5 4));refine wp_seq (wp_seq ?_);refine rg O a6 [27,0,3,4,6,7] [0,3,4,6,7,26] [(2,.r fun _=>.bool (.v q6))] Z (hob:=by intro X;subst O;simp only[b7,Ob.holds,BE.den]<;>and_intros<;>repeat first|trivial|rfl|exact(by rw[hq6];exact cw g5 _ _ 3 4 _ rfl rfl)|exact by rw[hq6];exact cw g5 _ _ 3 4 _ rfl rfl|exact(fun _ _=>by kernel_rfl)|refine⟨?_,?_⟩|intro h|exact Int.le_refl _|decide|omega) fun X6 _ _ Z=>?_
 apply a7 Z rfl<;>intro hb Z
 .have tq6:(gk g5 3||gk g5 4)=true:=by rw[<-hq6];exact hb
  rcases(hfin n2 (by omega) 0 b J hJ ((X5 2).A 0) ((X5 2).c 0) p5 hp5 hn5 up hpar g5 hg5 (by have:=hl3;have:=hl5;omega)).two (F9 _ _ _ _ _ _) hp5 hn5 with⟨w7,p7,hm7,O1⟩|⟨v7,p7,hm7,hs7,hp7,hn7,S7⟩
  .refine stp 3 O a6 [28,29,30] [0] [] Z O1 fun _ _ _ _ Z hk=>?_
   exact thm (P:=Tryz.prog) (fn:=Tryz.f228) (q:=p7) Z hk (by simp[I6,<-hup,<-hue,Rs.bind,t0,hrun,u9,hm3,tq4,hm5,tq6,hm7])
  have O1:=S7;refine rg O a6 [0,3,4,6,7] [0,3,4,6,7] [(3,rc J (i4) p7)] Z fun X7 _ _ Z=>?_
  apply wp_seq
  rcases Bool.eq_false_or_eq_true (gk g5 2)with t8|t8
  .rcases (cW 0 b J hJ ((X7 3).A 0) ((X7 3).c 0) p7 hp7 hn7 l g3.ver (asR 1 g3.x 0)).two (l6 _ _ _ _ _) hp7 hn7 with⟨w8,p8,hm8,O1⟩|⟨d8,p8,hm8,hs8,hp8,hn8,S8⟩
   .refine kM 12 O a6 [36,37,38,40,43] [0] [(2,.r fun _=>.bool .tt),(11,.r fun _=>C7 (asR 1 g3.x 0))] Z O1 (hob:=by intro X;subst O;simp only[b7,Ob.holds,BE.den]<;>and_intros<;>repeat first|trivial|rfl|exact((F5 g5 _ _ 2 _ rfl).res fun _=>Sim.bool (by rw[t8];rfl))|exact qC 1 g3.x 0|exact(fun _ _=>by kernel_rfl)|refine⟨?_,?_⟩|intro h|exact Int.le_refl _|decide|omega) fun _ _ _ _ Z hk=>?_
    exact thm (P:=Tryz.prog) (fn:=Tryz.f228) (q:=p8) Z hk (by simp[I6,<-hup,<-hue,Rs.bind,t0,hrun,u9,hm3,tq4,hm5,tq6,hm7,t8,hm8])
   refine drg O a6 [45,0,3,4] [0,3,4] [(2,.r fun _=>.bool .tt),(11,.r fun _=>C7 (asR 1 g3.x 0)),(12,rc J (.bool (.v d8)) p8)] Z (hob:=by intro X;subst O;simp only[b7,Ob.holds,BE.den]<;>and_intros<;>repeat first|trivial|rfl|exact((F5 g5 _ _ 2 _ rfl).res fun _=>Sim.bool (by rw[t8];rfl))|exact qC 1 g3.x 0|exact S8|exact(fun _ _=>by kernel_rfl)|refine⟨?_,?_⟩|intro h|exact Int.le_refl _|decide|omega) fun X8 _ _ Z=>?_
   apply a7 Z rfl<;>intro hb Z
   .have t9:d8=true:=by exact hb
    exact wp_ret ((rmm O a6 Z (v:=()) (q:=p8) ((X8 12).A 0) ((X8 12).c 0) (by simp[I6,<-hup,<-hue,Rs.bind,t0,hrun,u9,hm3,tq4,hm5,tq6,hm7,t8,hm8,t9])).1)
   have t9:d8=false:=by exact hb
   replace Z:=Z.keep [0,3,4] [0,3,4];exact wp_skip (⟨(n2,p8,_,_),⟨by rw[hrun];simp[u9,Rs.bind,t0,hrun,u9,hm3,tq4,hm5,tq6,hm7,t8,hm8,t9],hp8,hn8,by dsimp only;have:=hl3;have:=hs5.le;have:=hs7.le;have:=hs8.le;have:=hf0;omega,by dsimp only;omega⟩,by simp only;omega,Z⟩)
  refine drg O a6 [45,0,3,4] [0,3,4] [(2,.r fun _=>.bool .ff)] Z (hob:=by intro X;subst O;simp only[b7,Ob.holds,BE.den]<;>and_intros<;>repeat first|trivial|rfl|exact((F5 g5 _ _ 2 _ rfl).res fun _=>Sim.bool (by rw[t8];rfl))|exact qC 1 g3.x 0|exact(fun _ _=>by kernel_rfl)|refine⟨?_,?_⟩|intro h|exact Int.le_refl _|decide|omega) fun X8 _ _ Z=>?_
  refine j1 Z rfl (fun Z=>?_);exact wp_ret ((rmm O a6 Z (v:=()) (q:=p7) ((X7 3).A 0) ((X7 3).c 0) (by simp[I6,<-hup,<-hue,Rs.bind,t0,hrun,u9,hm3,tq4,hm5,tq6,hm7,t8])).1)
 have tq6:(gk g5 3||gk g5 4)=false:=by rw[<-hq6];exact hb
 refine wp_skip (wp_seq ?_)
 rcases Bool.eq_false_or_eq_true (gk g5 2)with t8|t8
 .rcases (cW 0 b J hJ ((X5 2).A 0) ((X5 2).c 0) p5 hp5 hn5 l g3.ver (asR 1 g3.x 0)).two (l6 _ _ _ _ _) hp5 hn5 with⟨w8,p8,hm8,O1⟩|⟨d8,p8,hm8,hs8,hp8,hn8,S8⟩
  .refine kM 12 O a6 [36,37,38,40,43] [0] [(2,.r fun _=>.bool .tt),(11,.r fun _=>C7 (asR 1 g3.x 0))] Z O1 (hob:=by intro X;subst O;simp only[b7,Ob.holds,BE.den]<;>and_intros<;>repeat first|trivial|rfl|exact((F5 g5 _ _ 2 _ rfl).res fun _=>Sim.bool (by rw[t8];rfl))|exact qC 1 g3.x 0|exact(fun _ _=>by kernel_rfl)|refine⟨?_,?_⟩|intro h|exact Int.le_refl _|decide|omega) fun _ _ _ _ Z hk=>?_
   exact thm (P:=Tryz.prog) (fn:=Tryz.f228) (q:=p8) Z hk (by simp[I6,<-hup,<-hue,Rs.bind,t0,hrun,u9,hm3,tq4,hm5,tq6,t8,hm8])
  refine drg O a6 [45,0,3,4] [0,3,4] [(2,.r fun _=>.bool .tt),(11,.r fun _=>C7 (asR 1 g3.x 0)),(12,rc J (.bool (.v d8)) p8)] Z (hob:=by intro X;subst O;simp only[b7,Ob.holds,BE.den]<;>and_intros<;>repeat first|trivial|rfl|exact((F5 g5 _ _ 2 _ rfl).res fun _=>Sim.bool (by rw[t8];rfl))|exact qC 1 g3.x 0|exact S8|exact(fun _ _=>by kernel_rfl)|refine⟨?_,?_⟩|intro h|exact Int.le_refl _|decide|omega) fun X8 _ _ Z=>?_
  apply a7 Z rfl<;>intro hb Z
  .have t9:d8=true:=by exact hb
   exact wp_ret ((rmm O a6 Z (v:=()) (q:=p8) ((X8 12).A 0) ((X8 12).c 0) (by simp[I6,<-hup,<-hue,Rs.bind,t0,hrun,u9,hm3,tq4,hm5,tq6,t8,hm8,t9])).1)
  have t9:d8=false:=by exact hb
  replace Z:=Z.keep [0,3,4] [0,3,4];exact wp_skip (⟨(n2,p8,_,_),⟨by rw[hrun];simp[u9,Rs.bind,t0,hrun,u9,hm3,tq4,hm5,tq6,t8,hm8,t9],hp8,hn8,by dsimp only;have:=hl3;have:=hs5.le;have:=(Suf.refl p5).le;have:=hs8.le;have:=hf0;omega,by dsimp only;omega⟩,by simp only;omega,Z⟩)
 refine drg O a6 [45,0,3,4] [0,3,4] [(2,.r fun _=>.bool .ff)] Z (hob:=by intro X;subst O;simp only[b7,Ob.holds,BE.den]<;>and_intros<;>repeat first|trivial|rfl|exact((F5 g5 _ _ 2 _ rfl).res fun _=>Sim.bool (by rw[t8];rfl))|exact qC 1 g3.x 0|exact(fun _ _=>by kernel_rfl)|refine⟨?_,?_⟩|intro h|exact Int.le_refl _|decide|omega) fun X8 _ _ Z=>?_
 refine j1 Z rfl (fun Z=>?_);exact wp_ret ((rmm O a6 Z (v:=()) (q:=p5) ((X5 2).A 0) ((X5 2).c 0) (by simp[I6,<-hup,<-hue,Rs.bind,t0,hrun,u9,hm3,tq4,hm5,tq6,t8])).1)
theorem GZ(k0 b:Nat)(J:i5)(hJ:j0 J)(A:Option Addr)(c:Nat)(p:Pst)(hp:f9 p)(hn:p.n<=1000000)(l:Lab)(hl:LOk l)(n:Nat)(hfin:∀j,j<n->CA j)(hf:p.n<n):s5 228 k0 b J A c p [f4 l] (fun _=>i4) (I6 J.bucket J.budget n l p):=s5.re (DS b J hJ A c p hp hn l hl n hfin hf) (by repeat(first|exact trivial|refine⟨zr,?_⟩))
theorem we:∀n,ThC n/\CA n:=by
 intro n
 induction n using Nat.strongRecOn with
 |_ n ih=>
  have h1:ThC n:=fun k0 b J hJ A c p hp hn l hl hf=>GZ k0 b J hJ A c p hp hn l hl n (fun j hj=>(ih j hj).2) hf
  exact⟨h1,fun k0 b J hJ A c p hp hn l hl g hg hf=>HL k0 b J hJ A c p hp hn l hl g hg n h1 hf⟩
theorem Dh(n:Nat):ThC n:=(we n).1
theorem tC(n:Nat):CA n:=(we n).2
end Go.Proofs.YtmbkanpapkhnaaaGreat.Sym
namespace Go.Proofs.YtmbkanpapkhnaaaGreat.Sym
open Go.RowKit
theorem Sim.of_eq{v v':AV}(h:v=v'):Sim v v':=h ▸ Sim.refl v
inductive Rcv:FrameMode->FrameMode->AV->Prop
 |no:Rcv .returning .returning .nili
 |yes (t:Nat) (v:AV):Rcv (.panicking [{ v:=.iface t v.den,recovered:=false }]) (.panicking [{ v:=.iface t v.den,recovered:=true }]) (.ifc t v)
def qG(P:Program)(f:FuncId)(u u':FrameMode)(x:AV)(args:List AV)(pre:List (Nat×Blk))(res:i8->CR):Prop:=
 ∀(m:Nat->Nat->Prop) (w:World),(∀b o,m b o->b<w.heap.size)->(∀v∈args,Ok m w v)->M7 m w pre->Ok m w x->CallsD P f (args.map AV.den).toArray u w fun e um w'=>um=u'/\Z2 m w pre res e w'
section
variable {P:Program}
theorem bp{fn:Func}{c₀:Frame}{cs:List Frame}{U:FrameMode}{R:Ending->World->Prop}{e:Exit}{a:Act}{w:World}(h:bodyPost P fn R e a w):bodyPostS P fn c₀ cs (fun e u w=>u=U/\R e w) e a ({ c₀ with mode:=U }::cs) w:=by
 cases e with
 |normal=>obtain⟨h1,v,h2,h3⟩:=h;exact⟨h1,U,rfl,v,h2,rfl,h3⟩
 |ret=>obtain⟨h1,v,h2,h3⟩:=h;exact⟨h1,U,rfl,v,h2,rfl,h3⟩
 |panic ch=>obtain⟨h1,h2⟩:=h;exact⟨h1,U,rfl,rfl,h2⟩
 |outgrown=>exact⟨U,rfl,h⟩
 |exit id=>exact h.elim
 |goto l=>exact h.elim
theorem im{u u':FrameMode}{x:AV}(hr:Rcv u u' x){m:Nat->Nat->Prop}{w:World}{pre:List (Nat×Blk)}(hm:∀b o,m b o->b<w.heap.size)(hp:M7 m w pre){args:List AV}(hargs:∀v∈args,Ok m w v)(hx:Ok m w x){f:FuncId}{fn:Func}{id:Nat}{o:Oper}{rest after:Code}{ts:Array TypeId}{d:Nat}{R:Ending->World->Prop}
  (hf:P.funcs[f]? = some fn) {ops:Array Oper} (hbd:fn.body=some (.seq (.seq (.region id ops false) rest) after)) (hops:ops = #[o]) (ho:o.op = .call (Call.mk (.builtin .recover) #[] ts)) (hg:o.guard=none) (hd:o.dst=some d) (hn:args.length<=fn.ntmps) (hdn:d<fn.ntmps)
  (h:∀a,b6 ⟨m,w,ats pre,[],noK⟩ (St.put ⟨fn.ntmps,B8 0 args,[],pre,[]⟩ (some d) x) a w->rest.wp P (Exit.then (after.wp P (bodyPost P fn R)) (bodyPost P fn R)) a w):CallsD P f (args.map AV.den).toArray u w fun e um w'=>um=u'/\R e w':=by
 subst hops;refine callsD_of_wpS hf hbd fun c₀ cs hu=>?_
 apply wpS_seq;apply wpS_seq;apply wpS_region;have h0:=fq hm hp hargs hn;have mono:Ok (St.m ⟨fn.ntmps,B8 0 args,[],pre,[]⟩ ⟨m,w,ats pre,[],noK⟩) w x:=hx.mono fun b' o u h1 h2=>⟨h1,fun h=>by
  rcases h with h|⟨k,e,he,hat⟩|⟨k,e,he,_⟩
  .exact h2 h
  .exact h2 (hat ▸ hp.free _ (G9 he) o)
  cases he⟩
 have h1:=h0.put (some d) (fun t ht=>by injection ht with ht;subst ht;exact hdn) x (fun _=>mono) x.den (fun _=>rfl);have h2:=h _ h1;have hrun:∀a:Act,(execOp a.eval o).run P w = .ok .recover w:=by
  intro a;simp[execOp,ho,resolve,invoke,builtin]
 have hrg:List.range (#[o]:Array Oper).size=[0]:=rfl;rw[hrg];have hw:∀tm:Array Value,Region.wanted o (yielded #[o] tm)=true:=by intro tm;simp[Region.wanted,hg]
 have fin1:∀a w,after.wp P (bodyPost P fn R) a w->after.wpS P (bodyPostS P fn c₀ cs (fun e um w'=>um=u'/\R e w')) a ({ c₀ with mode:=u' }::cs) w:=fun a w ha=>wpS_of_wp (Code.wp_mono (fun e a w hb=>bp hb) ha)
 have fin:∀a,rest.wp P (Exit.then (after.wp P (bodyPost P fn R)) (bodyPost P fn R)) a w->rest.wpS P (Exit.thenS (after.wpS P (bodyPostS P fn c₀ cs (fun e um w'=>um=u'/\R e w'))) (bodyPostS P fn c₀ cs (fun e um w'=>um=u'/\R e w'))) a ({ c₀ with mode:=u' }::cs) w:=fun a ha=>wpS_of_wp (Code.wp_mono (fun e a w hb=>by
  cases e with
  |normal=>exact fin1 a w hb
  |ret=>exact bp (P:=P) (fn:=fn) (c₀:=c₀) (cs:=cs) (a:=a) (w:=w) (U:=u') (R:=R) (e:=.ret) hb
  |panic ch=>exact bp (P:=P) (fn:=fn) (c₀:=c₀) (cs:=cs) (a:=a) (w:=w) (U:=u') (R:=R) (e:=.panic ch) hb
  |outgrown=>exact bp (P:=P) (fn:=fn) (c₀:=c₀) (cs:=cs) (a:=a) (w:=w) (U:=u') (R:=R) (e:=.outgrown) hb
  |exit id=>exact bp (P:=P) (fn:=fn) (c₀:=c₀) (cs:=cs) (a:=a) (w:=w) (U:=u') (R:=R) (e:=.exit id) hb
  |goto l=>exact bp (P:=P) (fn:=fn) (c₀:=c₀) (cs:=cs) (a:=a) (w:=w) (U:=u') (R:=R) (e:=.goto l) hb) ha)
 have hsz:(args.map AV.den).toArray.size=args.length:=by simp
 have hact:({ tmps:=(args.map AV.den).toArray++Array.replicate (fn.ntmps-(args.map AV.den).toArray.size) undef,defers:=[] }:Act) = { tmps:=(args.map AV.den).toArray++Array.replicate (fn.ntmps-args.length) undef,defers:=[] }:=by rw[hsz]
 rw[hact]
 cases hr with
 |no=>
  have hrec:recoverD (c₀::cs)=none:=by simp[recoverD,hu]
  have hc:({ c₀ with mode:=.returning }:Frame)=c₀:=by rw[<-hu]
  have:=fin _ h2;rw[hc]at this
  simpa[wpOpsS,hw,hrun,hrec,hd,Exit.thenS,AV.den]using this
 |yes t v=>
  have hrec:recoverD (c₀::cs)=some (.iface t v.den,{ c₀ with mode:=.panicking [{ v:=.iface t v.den,recovered:=true }] }::cs):=by simp[recoverD,hu]
  have:=fin _ h2
  simpa[wpOpsS,hw,hrun,hrec,hd,Exit.thenS,AV.den]using this
variable {C:Cx}
theorem kw{s:St}{a:Act}{w:World}{fn:Func}{R:Ending->World->Prop}{u u1:FrameMode}{f:FuncId}{l r:List AV}{ds:List Deferred}{x:AV}(h:b6 ⟨C.m0,C.w0,C.S,{ target:=.fn (.func f) (AV.denL r).toArray,args:=(AV.denL l).toArray }::ds,C.K⟩ s a w)(hu:u ≠ .run)(hen:j6 P f)
  {pre:List (Nat×Blk)} {sets:List (Nat×List AV)} {v:AV} (hsp:qG P f u u1 x (l++r) pre (fun _=>⟨v,sets,[]⟩)) (hok:∀v∈l++r,Ok (s.m C) w v) (hx:Ok (s.m C) w x) (hpre:∀e∈pre,i6 s.mem e.1=some e.2) (hnd:dw pre=true)
  (K:∀w',b6 ⟨C.m0,C.w0,C.S,ds,C.K⟩ (s.eff (.sets (upd pre sets))) { tmps:=a.tmps,defers:=ds } w'->Leaves P fn a.tmps R ds (settle u1) w'):Leaves P fn a.tmps R a.defers u w:=by
 have hlt:∀b o,s.m C b o->b<w.heap.size:=ow (C:=⟨C.m0,C.w0,C.S,{ target:=.fn (.func f) (AV.denL r).toArray,args:=(AV.denL l).toArray }::ds,C.K⟩) h
 refine ry h hu hen hpre hnd (fun hp=>(hsp (s.m C) w hlt hok hp hx).mono ?_) K
 rintro e u' w' ⟨rfl,x,rfl,_,hl⟩
 exact⟨⟨_,rfl⟩,rfl,hl⟩
end
section
variable {C:Cx} {P:Program} {Q:Exit->Act->World->Prop} {ops:Array Oper}
theorem jz{s:St}{a:Act}{w:World}{L rest:List Oper}{o:Oper}{x:Operand}{ti t d:Nat}{v:AV}{dd:TypeDesc}(hL:L=o::rest)(hg:o.guard=none)(hop:o.op = .typeAssert x ti t true)(hdst:o.dst=some d)(h:b6 C s a w)(hd:d<s.nt)(hx:val s [] x = .ifc t v)(hu:P.underlying t=some dd)(hni:∀ms,dd ≠ .interface ms)
  (K:∀a',b6 C (s.put (some d) (.tup [v,.bool .tt])) a' w->wpList P ops Q rest a' w):wpList P ops Q L a w:=by
 have hxv:=F1 h (q:=[]) (fun _ h=>by cases h) (x:=x) (by rw[hx];rfl);rw[hx]at hxv;have hok:Ok (s.m C) w v:=by cases hxv.2 with|ifc _ _ h=>exact h
 refine kv hL hg hdst h hd (v:=.tup [v,.bool .tt]) ?_ (.tup _ (fun y hy=>?_)) K
 .have e:a.eval x = .iface t v.den:=hxv.1
  simp only[execOp,hop,e,AV.den,AV.denL,BE.den]
  cases dd<;>first|exact absurd rfl (hni _)|simp[Instr.typeAssert,run_underlying hu]
 simp only[List.mem_cons,List.not_mem_nil,or_false]at hy
 rcases hy with rfl|rfl
 .exact hok
 exact .bool _
end
end Go.Proofs.YtmbkanpapkhnaaaGreat.Sym
namespace Go.Proofs.YtmbkanpapkhnaaaGreat.Sym
open Go Go.RowKit
def btw(v lo hi:Int):Bool:=decide (lo<=v)&&decide (v<=hi)
def E5(J:i5):Bool:=btw J.bucket 1 16&&btw J.budget 0 2000&&btw J.how 1 2&&btw J.most 0 500&&decide ((J.pn:Int)<=500)&&isL J.lab
def F4(g:u2):Bool:=(decide (g.code=0)||decide (g.code=8))&&(if g.has=true then D9 g.x.r.kd g.x.r.n g.x.r.f g.x.r.nx g.x.r.mrk else decide (g.x.r.kd=0)&&decide (g.x.r.n=0)&&decide (g.x.r.nx=⟨0,0⟩)&&decide (g.x.r.mrk=0))
def K4(n:Nat)(f:Nat->u2):Bool:=(List.range n).all fun j=>F4 (f j)
theorem nO{n j:Nat}{f:Nat->u2}(hj:j<n)(h:F4 (f j)=false):K4 n f=false:=by
 rw[Bool.eq_false_iff];intro h2;have:=List.all_eq_true.1 h2 j (List.mem_range.2 hj);rw[h]at this;cases this
theorem mi{n:Nat}{f:Nat->u2}(h:∀j,j<n->F4 (f j)=true):K4 n f=true:=List.all_eq_true.2 fun j hj=>h j (List.mem_range.1 hj)
theorem nP{n j:Nat}{f:Nat->u2}(h:K4 n f=true)(hj:j<n):F4 (f j)=true:=List.all_eq_true.1 h j (List.mem_range.2 hj)
structure InG(g:u2):Prop where
 nx:U64 g.x.r.nx.bits
 ver:U64 g.ver
 len:g.x.r.n<=maxLen
 key:∀i,i<g.x.r.n->U64 (g.x.r.f i).key
theorem EW{g:u2}(h:InG g)(hg:F4 g=true):db g:=by
 refine⟨⟨h.nx,h.key,?_⟩,h.ver⟩;unfold F4 at hg;rw[Bool.and_eq_true]at hg;obtain⟨_,h2⟩:=hg
 by_cases hh:g.has=true
 .rw [if_pos hh]at h2
  exact(E4 h2).2.2.1
 rw[if_neg hh]at h2;simp only[Bool.and_eq_true,decide_eq_true_eq]at h2;omega
abbrev cR(A:Option Addr)(n c:Nat)(f:Nat->u2):AV:=.sl none A n c 8 (fun j=>Z3 (f j))
def nt0:Nt:=⟨11,false,⟨#[]⟩⟩
def my(n:Nat)(f:Nat->u2):Pst:=⟨n,f,nt0⟩
def i5.less(J:i5)(n:Nat):i5:={ J with budget:=J.budget-n }
structure da(J:i5):Prop where
 lab:U64 J.lab.bits
 key:U64 J.key
 hi:U64 J.hi
theorem oB{J:i5}{n:Nat}(hJ:da J)(h:E5 J=true)(hn:n<=900000):j0 (J.less n):=by
 unfold E5 btw at h;simp only[Bool.and_eq_true,decide_eq_true_eq]at h;refine⟨?_,?_,hJ.lab,hJ.key,hJ.hi⟩
 .show -1000000<=J.budget-n;omega
 show J.budget-n<=1000000;omega
theorem HD{g:u2}(hg:F4 g=true):vP g:=by
 unfold F4 at hg;simp only[Bool.and_eq_true,Bool.or_eq_true,decide_eq_true_eq]at hg;obtain⟨h1,h2⟩:=hg;refine⟨h1,fun hh=>?_,fun hh=>?_⟩
 .rw [if_pos hh]at h2;exact h2
 rw[if_neg (by rw[hh];decide)]at h2;simp only[Bool.and_eq_true,decide_eq_true_eq]at h2;exact⟨h2.1.1.1,h2.1.1.2,h2.1.2,h2.2⟩
theorem rb{n:Nat}{f:Nat->u2}(hin:∀j,j<n->InG (f j))(h:K4 n f=true):f9 (my n f):=fun j hj=>⟨EW (hin j hj) (nP h hj),HD (nP h hj)⟩
abbrev wD(x:i8)(r:Rsl):AV:=.agg [.int .i64 r.code,.bool (.v r.had),.str r.val,.sl none (x.A 2) r.items.length (x.c 2) 2 (fun i=>itC (itF r.items i)),.int .u64 r.key,.bool (.v r.more)]
abbrev jO(r:Rsl):AV:=.agg [.int .i64 r.code,.bool (.v r.had),.str r.val,.sl none none 0 0 2 (fun _=>[]),.int .u64 r.key,.bool (.v r.more)]
def pl(f:FuncId)(k0 b:Nat)(J:i5)(A:Option Addr)(c:Nat)(p:Pst)(args:List AV)(r:Rs Rsl):Prop:=
 W8 Tryz.prog f (.ptr k0 b 0::args) [(k0,⟨b,139,C0 J A c p⟩)] (fun x=>match r with
  | .ok a p=>.ret ⟨wD x a,[(k0,C0 J (x.A 0) (x.c 0) p)],[]⟩
  | .stop w p=>.thr 40 (D5 (wqA x w)) [(k0,C0 J (x.A 0) (x.c 0) p)])
theorem s5.a{f:FuncId}{k0 b:Nat}{J:i5}{A:Option Addr}{c:Nat}{p:Pst}{args:List AV}{r:Rs Rsl}(h:s5 f k0 b J A c p args jO r)(hr:∀a q,r = .ok a q->a.items=[]):pl f k0 b J A c p args r:=by
 intro m w h1 h2 h3;refine(h m w h1 h2 h3).mono ?_
 rintro e w' ⟨x,hx⟩
 cases r with
 |stop wq q=>exact⟨x,hx⟩
 |ok a q=>
  refine⟨⟨x.b,fun i=>if i=2 then none else x.A i,fun i=>if i=2 then 0 else x.c i,x.s⟩,?_⟩;have hi:=hr a q rfl;obtain⟨he,hok,hl⟩:=hx;have hs:Sim (jO a) (wD ⟨x.b,fun i=>if i=2 then none else x.A i,fun i=>if i=2 then 0 else x.c i,x.s⟩ a):=by
   obtain⟨c1,h1,v1,it,k1,m1⟩:=a;simp only at hi;subst hi;exact Sim.agg ⟨zr,zr,zr,zq0,zr,zr,trivial⟩
  exact⟨by rw[he];exact congrArg _ hs.1,hs.2.2 _ _ hok,hl⟩
theorem pl.ok{f:FuncId}{k0 b:Nat}{J:i5}{A:Option Addr}{c:Nat}{p q:Pst}{args:List AV}{r:Rs Rsl}{a:Rsl}(h:pl f k0 b J A c p args r)(e:r = .ok a q) :
  W8 Tryz.prog f (.ptr k0 b 0::args) [(k0,⟨b,139,C0 J A c p⟩)] (fun x=>.ret ⟨wD x a,[(k0,C0 J (x.A 0) (x.c 0) q)],[]⟩):=by
 subst e;exact h
theorem pl.stop{f:FuncId}{k0 b:Nat}{J:i5}{A:Option Addr}{c:Nat}{p q:Pst}{args:List AV}{r:Rs Rsl}{w:Wq}(h:pl f k0 b J A c p args r)(e:r = .stop w q) :
  W8 Tryz.prog f (.ptr k0 b 0::args) [(k0,⟨b,139,C0 J A c p⟩)] (fun x=>.thr 40 (D5 (wqA x w)) [(k0,C0 J (x.A 0) (x.c 0) q)]):=by
 subst e;exact h
theorem Hv{s s':St}{C C':Cx}(h0:∀b o,C'.m0 b o->C.m0 b o)(h:∀x∈s'.mem,∃k' e',i6 s.mem k'=some e'/\e'.at_=x.2.at_)(hg:s'.gr=[]){b o:Nat}(hh:s'.m C' b o):s.m C b o:=by
 rcases hh with hh|⟨k,e,he,hat⟩|⟨k,t,ht,_⟩
 .exact .inl (h0 b o hh)
 .obtain ⟨k',e',h1,h2⟩:=h _ (G9 he)
  exact .inr (.inl ⟨k',e',h1,h2.trans hat⟩)
 rw[hg]at ht;cases ht
theorem pl.ok'{f:FuncId}{k0 b:Nat}{J:i5}{A:Option Addr}{c:Nat}{p q:Pst}{args:List AV}{r:Rs Rsl}{a:Rsl}(h:pl f k0 b J A c p args r)(e:r = .ok a q){nn:Nat}{ff:Nat->Itm}(h1:nn=a.items.length)(h2:ff=itF a.items) :
  W8 Tryz.prog f (.ptr k0 b 0::args) [(k0,⟨b,139,C0 J A c p⟩)] (fun x=>.ret ⟨.agg [.int .i64 a.code,.bool (.v a.had),.str a.val,.sl none (x.A 2) nn (x.c 2) 2 (fun i=>itC (ff i)),.int .u64 a.key,.bool (.v a.more)],[(k0,C0 J (x.A 0) (x.c 0) q)],[]⟩):=by
 subst h1;subst h2;exact h.ok e
def gK(ok:Bool)(r:Rs Rsl):Wq×Int:=if ok=true then L8 r else(zWq,1)
abbrev wqB(x:i8)(w:Wq)(rr:RN)(nn:Nat)(ff:Nat->Itm):A8:=⟨w.kind,w.lab,w.ver,⟨x.A 1,x.c 1,rr⟩,⟨w.res.code,w.res.had,w.res.val,x.A 2,nn,x.c 2,ff,w.res.key,w.res.more⟩⟩
theorem j7.wq{P:Program}{f:Nat}{args:List AV}{r:Wq×Int}(h:j7 P f args (fun x=>.tup [D5 (wqA x r.1),.int .i64 r.2])){w:Wq}{e:Int}{rr:RN}{nn:Nat}{ff:Nat->Itm}(h1:w=r.1)(h2:e=r.2)(h3:rr=w.r.rn)(h4:nn=w.res.items.length)(h5:ff=itF w.res.items) :
  j7 P f args (fun x=>.tup [D5 (wqB x w rr nn ff),.int .i64 e]):=by
 subst h1;subst h2;subst h3;subst h4;subst h5;exact h
end Go.Proofs.YtmbkanpapkhnaaaGreat.Sym
namespace Go.Proofs.YtmbkanpapkhnaaaGreat.Sym
open Go Go.ChangeShapes Go.WideShapes Go.ChangeAt Go.RowKit Go.Deep
def OkL(w:World)(l:List AV):Prop:=∀v∈l,v.one=true/\Ok m0 w v
theorem OkL.nil{w:World}:OkL w []:=fun v hv=>by cases hv
theorem OkL.cons{w:World}{v:AV}{l:List AV}(h1:v.one=true)(h2:Ok m0 w v)(h:OkL w l):OkL w (v::l):=by
 intro u hu
 rcases List.mem_cons.1 hu with rfl|hu
 .exact ⟨h1,h2⟩
 exact h u hu
theorem OkL.int{w:World}{k:IntKind}{x:Int}{l:List AV}(h:OkL w l):OkL w (.int k x::l):=.cons rfl (.int _ _) h
theorem OkL.bool{w:World}{b:BE}{l:List AV}(h:OkL w l):OkL w (.bool b::l):=.cons rfl (.bool _) h
theorem OkL.append{w:World}{l l':List AV}(h:OkL w l)(h':OkL w l'):OkL w (l++l'):=by
 intro u hu
 rcases List.mem_append.1 hu with hu|hu
 .exact h u hu
 exact h' u hu
theorem OkL.agg{w:World}{l:List AV}(h:OkL w l):Ok m0 w (.agg l):=.agg _ (fun v hv=>(h v hv).1) fun v hv=>(h v hv).2
def yX(w:World)(x:C1):Prop:=OkL w (T8 x)/\x.x.r.n<=maxLen/\s8 x.lab/\s8 x.x.r.nx/\U64 x.ver/\∀i,i<x.x.r.n->U64 (x.x.r.f i).key
theorem s8.u64{l:Lab}(h:s8 l):U64 l.bits:=kK h.2
theorem kV{α : Type} [Inhabited α]{k:Nat}{cells:α->List AV}{w:World}{A:Option Addr}{c:Nat}{l:List α}(hk:∀x,(cells x).length=k)(hl:l.length<=c)(hc:c<=maxLen)(ho:∀x∈l,OkL w (cells x))
  (h:0<(l.flatMap fun x=>(cells x).map AV.den).length->∃b off,A=some ⟨b,off,none⟩/\∀j u,(l.flatMap fun x=>(cells x).map AV.den)[j]? = some u->w.cell? ⟨b,off+j,none⟩=some u) (hk0:0<k):Ok m0 w (.sl none A l.length c k (fun i=>cells (l.getD i default))):=by
 have hg:∀i (hi:i<l.length),l.getD i default=l[i]:=fun i hi=>by simp[List.getD,hi]
 have hkm:∀x,((cells x).map AV.den).length=k:=fun x=>by rw[List.length_map,hk]
 have hpos:∀i,i<l.length->0<(l.flatMap fun x=>(cells x).map AV.den).length:=fun i hi=>by rw[G8 hkm];exact Nat.mul_pos (by omega) hk0
 refine .sl _ _ _ _ _ _ hl hc (fun i _=>hk _) (fun i hi=>?_) (fun i hi j u hu=>?_) (fun i hi v hv=>?_) (fun i hi v hv=>?_)
 .obtain ⟨b,off,hA,_⟩:=h (hpos i hi);exact⟨b,off,hA⟩
 .obtain ⟨b,off,hA,hcl⟩:=h (hpos i hi)
  rw[hg i hi]at hu;exact⟨b,off,hA,hcl _ u (ib hkm (List.getElem?_eq_getElem hi) hu),id⟩
 .rw [hg i hi]at hv;exact(ho _ (List.getElem_mem hi) v hv).1
 rw[hg i hi]at hv;exact(ho _ (List.getElem_mem hi) v hv).2
section
variable {H:Type} {enc:TypeId×Value->H} {w:World} {base:Nat} {spare:Nat->Bool} {held:Bool}
theorem iz(n:Nat)(cs:List Value)(y:DataW H×List MemPlace)(h:DataW.trod enc Tryz.prog w base spare held n 24 cs=some y):∃x:Lab,cs=[.int .i64 x.len,.int .u64 x.bits]/\s8 x:=by
 obtain⟨xs,m,rfl,rfl,hlen,hxl,hf⟩:=DataW.trod_struct Tryz.underlying24 h;have hC:Tryz.prog.cellsOf 24=2:=by kernel_rfl
 have h0:DataW.trod enc Tryz.prog w base spare held m 3 ((cs.drop 0).take (Tryz.prog.cellsOf 3))=xs[0]?:=hf 0 _ rfl;have h1:DataW.trod enc Tryz.prog w base spare held m 22 ((cs.drop 1).take (Tryz.prog.cellsOf 22))=xs[1]?:=hf 1 _ rfl;rw[hC]at hlen;rw[show Tryz.prog.cellsOf 3=1 by kernel_rfl]at h0;rw[show Tryz.prog.cellsOf 22=1 by kernel_rfl]at h1
 match cs,hlen with
 | [c0,c1],_=>
  match xs,hxl with
  | [y0,y1],_=>
   obtain⟨a,e0,_,wa⟩:=DataW.trod_int Tryz.underlying3 h0;obtain⟨b,e1,_,wb⟩:=DataW.trod_int Tryz.underlying22 h1;simp at e0 e1;subst e0;subst e1;exact⟨⟨a,b⟩,rfl,wa,wb⟩
theorem tJ(n:Nat)(cs:List Value)(y:DataW H×List MemPlace)(h:DataW.trod enc Tryz.prog w base spare held n 33 cs=some y):∃(A:Option Addr) (c k:Nat) (f:Nat->Itm),cs=[(AV.sl none A k c 2 (fun i=>itC (f i))).den]/\Ok m0 w (.sl none A k c 2 (fun i=>itC (f i)))/\k<=maxLen/\∀i,i<k->U64 (f i).key:=by
 obtain⟨A,c,l,e1,hr,hl,hm,hwf⟩:=eX (en:=C9) Tryz.underlying33 (k:=2) (by kernel_rfl) F3 (by decide) BT h;have hrow:Ok m0 w (l7 A l.length c (itF l)):=kj hl hm (fun x hx=>(hwf x hx).1) fun hp=>by
  obtain⟨b,off,hA,_,hc⟩:=hr hp;exact⟨b,off,hA,fun j u hu=>⟨hc j u hu,id⟩⟩
 exact⟨A,c,l.length,itF l,e1,hrow,by omega,fun i hi=>by simp only[itF,List.getD,List.getElem?_eq_getElem hi];exact(hwf _ (List.getElem_mem hi)).2⟩
theorem qr(n:Nat)(cs:List Value)(y:DataW H×List MemPlace)(h:DataW.trod enc Tryz.prog w base spare held n 35 cs=some y):∃x:RA,cs=(ew x).map AV.den/\OkL w (ew x)/\x.r.n<=maxLen/\s8 x.r.nx/\∀i,i<x.r.n->U64 (x.r.f i).key:=by
 obtain⟨xs,m,rfl,rfl,hlen,hxl,hf⟩:=DataW.trod_struct Tryz.underlying35 h;have hC:Tryz.prog.cellsOf 35=5:=by kernel_rfl
 have h0:DataW.trod enc Tryz.prog w base spare held m 3 ((cs.drop 0).take (Tryz.prog.cellsOf 3))=xs[0]?:=hf 0 _ rfl;have h1:DataW.trod enc Tryz.prog w base spare held m 33 ((cs.drop 1).take (Tryz.prog.cellsOf 33))=xs[1]?:=hf 1 _ rfl;have h2:DataW.trod enc Tryz.prog w base spare held m 24 ((cs.drop 2).take (Tryz.prog.cellsOf 24))=xs[2]?:=hf 2 _ rfl;have h3:DataW.trod enc Tryz.prog w base spare held m 22 ((cs.drop 4).take (Tryz.prog.cellsOf 22))=xs[3]?:=hf 3 _ rfl;rw[hC]at hlen;rw[show Tryz.prog.cellsOf 3=1 by kernel_rfl]at h0;rw[show Tryz.prog.cellsOf 33=1 by kernel_rfl]at h1;rw[show Tryz.prog.cellsOf 24=2 by kernel_rfl]at h2;rw[show Tryz.prog.cellsOf 22=1 by kernel_rfl]at h3
 match cs,hlen with
 | [c0,c1,c2,c3,c4],_=>
  match xs,hxl with
  | [y0,y1,y2,y3],_=>
   obtain⟨kd,e0,_,_⟩:=DataW.trod_int Tryz.underlying3 h0;obtain⟨A,c,k,f,e1,hrow,hk,hky⟩:=tJ _ _ _ h1;obtain⟨nx,e2,hb⟩:=iz _ _ _ h2;obtain⟨mk,e3,_,wm⟩:=DataW.trod_int Tryz.underlying22 h3;simp only[List.drop_zero,List.drop_succ_cons,List.take_succ_cons,List.take_zero,List.cons.injEq,and_true]at e0 e1 e2 e3;obtain⟨e2,e4⟩:=e2;subst e0;subst e1;subst e2;subst e3;subst e4;exact⟨⟨A,c,⟨k,f,kd,nx,mk⟩⟩,rfl,.int (.cons rfl hrow (.int (.int (.int .nil)))),hk,hb,hky⟩
theorem BQ(n:Nat)(cs:List Value)(y:DataW H×List MemPlace)(h:DataW.trod enc Tryz.prog w base spare held n 92 cs=some y):∃x:C1,cs=(T8 x).map AV.den/\yX w x:=by
 obtain⟨xs,m,rfl,rfl,hlen,hxl,hf⟩:=DataW.trod_struct Tryz.underlying92 h;have hC:Tryz.prog.cellsOf 92=8:=by kernel_rfl
 have h0:DataW.trod enc Tryz.prog w base spare held m 24 ((cs.drop 0).take (Tryz.prog.cellsOf 24))=xs[0]?:=hf 0 _ rfl;have h1:DataW.trod enc Tryz.prog w base spare held m 22 ((cs.drop 2).take (Tryz.prog.cellsOf 22))=xs[1]?:=hf 1 _ rfl;have h2:DataW.trod enc Tryz.prog w base spare held m 35 ((cs.drop 3).take (Tryz.prog.cellsOf 35))=xs[2]?:=hf 2 _ rfl;rw[hC]at hlen;rw[show Tryz.prog.cellsOf 24=2 by kernel_rfl]at h0;rw[show Tryz.prog.cellsOf 22=1 by kernel_rfl]at h1;rw[show Tryz.prog.cellsOf 35=5 by kernel_rfl]at h2
 match cs,hlen with
 | [c0,c1,c2,c3,c4,c5,c6,c7],_=>
  match xs,hxl with
  | [y0,y1,y2],_=>
   obtain⟨l,e0,hl⟩:=iz _ _ _ h0;obtain⟨v,e1,_,wv⟩:=DataW.trod_int Tryz.underlying22 h1;obtain⟨x,e2,hx,hn,hnx,hky⟩:=qr _ _ _ h2;simp only[List.drop_zero,List.drop_succ_cons,List.take_succ_cons,List.take_zero,List.cons.injEq,and_true,ew,List.map_cons,List.map_nil]at e0 e1 e2;obtain⟨e0,e3⟩:=e0;obtain⟨e4,e5,e6,e7,e8⟩:=e2;subst e0;subst e1;subst e3;subst e4;subst e5;subst e6;subst e7;subst e8;exact⟨⟨l,v,x⟩,rfl,.int (.int (.int hx)),hn,hl,hnx,kK wv,hky⟩
theorem yx(n:Nat)(cs:List Value)(y:DataW H×List MemPlace)(h:DataW.trod enc Tryz.prog w base spare held n 3 cs=some y):∃x:Int,cs=[Value.int .i64 x]/\True:=by
 obtain⟨a,e0,_,_⟩:=DataW.trod_int Tryz.underlying3 h;exact⟨a,e0,trivial⟩
theorem yw(n:Nat)(cs:List Value)(y:DataW H×List MemPlace)(h:DataW.trod enc Tryz.prog w base spare held n 25 cs=some y):∃(A:Option Addr) (c k:Nat) (f:Nat->Int),cs=[(AV.sl none A k c 1 (fun i=>[.int .i64 (f i)])).den]/\Ok m0 w (.sl none A k c 1 (fun i=>[.int .i64 (f i)])):=by
 obtain⟨A,c,l,e1,hr,hl,hm,hwf⟩:=eX (en:=fun x:Int=>[Value.int .i64 x]) Tryz.underlying25 (k:=1) (by kernel_rfl) (fun _=>rfl) (by decide) yx h;have hrow:Ok m0 w (.sl none A l.length c 1 (fun i=>[.int .i64 (l.getD i default)])):=kV (cells:=fun x:Int=>[AV.int .i64 x]) (fun _=>rfl) hl hm (fun x _=>.int .nil) (fun hp=>by
  obtain⟨b,off,hA,_,hc⟩:=hr hp;exact⟨b,off,hA,fun j u hu=>hc j u hu⟩) (by decide)
 exact⟨A,c,l.length,fun i=>l.getD i default,e1,hrow⟩
theorem yv(n:Nat)(cs:List Value)(y:DataW H×List MemPlace)(h:DataW.trod enc Tryz.prog w base spare held n 28 cs=some y):∃x1 x2 y1 y2:Int,cs=[.int .u32 x1,.int .u32 x2,.int .u32 y1,.int .u32 y2]:=by
 obtain⟨xs,m,rfl,rfl,hlen,hxl,hf⟩:=DataW.trod_struct Tryz.underlying28 h;have hC:Tryz.prog.cellsOf 28=4:=by kernel_rfl
 have h0:DataW.trod enc Tryz.prog w base spare held m 26 ((cs.drop 0).take (Tryz.prog.cellsOf 26))=xs[0]?:=hf 0 _ rfl;have h1:DataW.trod enc Tryz.prog w base spare held m 26 ((cs.drop 1).take (Tryz.prog.cellsOf 26))=xs[1]?:=hf 1 _ rfl;have h2:DataW.trod enc Tryz.prog w base spare held m 26 ((cs.drop 2).take (Tryz.prog.cellsOf 26))=xs[2]?:=hf 2 _ rfl;have h3:DataW.trod enc Tryz.prog w base spare held m 26 ((cs.drop 3).take (Tryz.prog.cellsOf 26))=xs[3]?:=hf 3 _ rfl;rw[hC]at hlen;rw[show Tryz.prog.cellsOf 26=1 by kernel_rfl]at h0 h1 h2 h3
 match cs,hlen with
 | [c0,c1,c2,c3],_=>
  match xs,hxl with
  | [y0,y1,y2,y3],_=>
   obtain⟨a0,e0,_,_⟩:=DataW.trod_int Tryz.underlying26 h0;obtain⟨a1,e1,_,_⟩:=DataW.trod_int Tryz.underlying26 h1;obtain⟨a2,e2,_,_⟩:=DataW.trod_int Tryz.underlying26 h2;obtain⟨a3,e3,_,_⟩:=DataW.trod_int Tryz.underlying26 h3;simp at e0 e1 e2 e3;subst e0;subst e1;subst e2;subst e3;exact⟨_,_,_,_,rfl⟩
theorem BS(n:Nat)(cs:List Value)(y:DataW H×List MemPlace)(h:DataW.trod enc Tryz.prog w base spare held n 30 cs=some y):∃x:i5,cs=(jR x).map AV.den/\OkL w (jR x)/\da x:=by
 obtain⟨xs,m,rfl,rfl,hlen,hxl,hf⟩:=DataW.trod_struct Tryz.underlying30 h;have hC:Tryz.prog.cellsOf 30=15:=by kernel_rfl
 have h0:DataW.trod enc Tryz.prog w base spare held m 3 ((cs.drop 0).take (Tryz.prog.cellsOf 3))=xs[0]?:=hf 0 _ rfl;have h1:DataW.trod enc Tryz.prog w base spare held m 24 ((cs.drop 1).take (Tryz.prog.cellsOf 24))=xs[1]?:=hf 1 _ rfl;have h2:DataW.trod enc Tryz.prog w base spare held m 22 ((cs.drop 3).take (Tryz.prog.cellsOf 22))=xs[2]?:=hf 2 _ rfl;have h3:DataW.trod enc Tryz.prog w base spare held m 22 ((cs.drop 4).take (Tryz.prog.cellsOf 22))=xs[3]?:=hf 3 _ rfl;have h4:DataW.trod enc Tryz.prog w base spare held m 9 ((cs.drop 5).take (Tryz.prog.cellsOf 9))=xs[4]?:=hf 4 _ rfl;have h5:DataW.trod enc Tryz.prog w base spare held m 3 ((cs.drop 6).take (Tryz.prog.cellsOf 3))=xs[5]?:=hf 5 _ rfl;have h6:DataW.trod enc Tryz.prog w base spare held m 25 ((cs.drop 7).take (Tryz.prog.cellsOf 25))=xs[6]?:=hf 6 _ rfl;have h7:DataW.trod enc Tryz.prog w base spare held m 28 ((cs.drop 8).take (Tryz.prog.cellsOf 28))=xs[7]?:=hf 7 _ rfl;have h8:DataW.trod enc Tryz.prog w base spare held m 3 ((cs.drop 12).take (Tryz.prog.cellsOf 3))=xs[8]?:=hf 8 _ rfl;have h9:DataW.trod enc Tryz.prog w base spare held m 3 ((cs.drop 13).take (Tryz.prog.cellsOf 3))=xs[9]?:=hf 9 _ rfl;have h10:DataW.trod enc Tryz.prog w base spare held m 3 ((cs.drop 14).take (Tryz.prog.cellsOf 3))=xs[10]?:=hf 10 _ rfl;rw[hC]at hlen;rw[show Tryz.prog.cellsOf 3=1 by kernel_rfl]at h0 h5 h8 h9 h10;rw[show Tryz.prog.cellsOf 24=2 by kernel_rfl]at h1;rw[show Tryz.prog.cellsOf 22=1 by kernel_rfl]at h2 h3;rw[show Tryz.prog.cellsOf 9=1 by kernel_rfl]at h4;rw[show Tryz.prog.cellsOf 25=1 by kernel_rfl]at h6;rw[show Tryz.prog.cellsOf 28=4 by kernel_rfl]at h7
 match cs,hlen with
 | [c0,c1,c2,c3,c4,c5,c6,c7,c8,c9,c10,c11,c12,c13,c14],_=>
  match xs,hxl with
  | [y0,y1,y2,y3,y4,y5,y6,y7,y8,y9,y10],_=>
   obtain⟨kd,e0,_,_⟩:=DataW.trod_int Tryz.underlying3 h0;obtain⟨l,e1,hl⟩:=iz _ _ _ h1;obtain⟨ky,e2,_,wk⟩:=DataW.trod_int Tryz.underlying22 h2;obtain⟨hi,e3,_,wh⟩:=DataW.trod_int Tryz.underlying22 h3;obtain⟨vl,e4,_,ws⟩:=DataW.trod_string Tryz.underlying9 h4;obtain⟨ms,e5,_,_⟩:=DataW.trod_int Tryz.underlying3 h5;obtain⟨pA,pc,pn,pf,e6,hp⟩:=yw _ _ _ h6;obtain⟨x1,x2,y1,y2,e7⟩:=yv _ _ _ h7;obtain⟨hw,e8,_,_⟩:=DataW.trod_int Tryz.underlying3 h8;obtain⟨bk,e9,_,_⟩:=DataW.trod_int Tryz.underlying3 h9;obtain⟨bg,e10,_,_⟩:=DataW.trod_int Tryz.underlying3 h10;simp only[List.drop_zero,List.drop_succ_cons,List.take_succ_cons,List.take_zero,List.cons.injEq,and_true]at e0 e1 e2 e3 e4 e5 e6 e7 e8 e9 e10;obtain⟨e1,f1⟩:=e1;obtain⟨g0,g1,g2,g3⟩:=e7;subst e0;subst e1;subst f1;subst e2;subst e3;subst e4;subst e5;subst e6;subst g0;subst g1;subst g2;subst g3;subst e8;subst e9;subst e10;exact⟨⟨kd,l,ky,hi,vl,ms,pA,pn,pc,pf,x1,x2,y1,y2,hw,bk,bg⟩,rfl,.int (.int (.int (.int (.int (.cons rfl (.str _ ws) (.int (.cons rfl hp (.int (.int (.int (.int (.int (.int (.int .nil)))))))))))))),hl.u64,kK wk,kK wh⟩
variable {r:Reach} {b0:Nat} {v:Value} {d:DataW H} {p:List MemPlace}
def DH(w:World)(v:Value):Prop:=∃J:i5,v=(aR J).den/\Ok m0 w (aR J)/\da J
def DG(w:World)(v:Value):Prop:=∃(A:Option Addr) (n c:Nat) (f:Nat->C1),v=(aM A n c f).den/\Ok m0 w (aM A n c f)/\n<=maxLen/\∀i,i<n->yX w (f i)
instance inhGot25 : Inhabited u2 := ⟨mp⟩
instance inhRow25 : Inhabited C1 := ⟨qM⟩
theorem AY(hv:Value.okWide Tryz.prog w r b0 46 v)(h:DataW.Trod enc Tryz.prog w base spare held 46 v d p):DG w v:=by
 obtain⟨a,len,cap,rfl⟩:=okWide_slice Tryz.underlying46 hv;obtain⟨fuel,hf⟩:=h;obtain⟨A,c,l,e1,hr,hl,hm,hwf⟩:=eX (en:=fun x=>(T8 x).map AV.den) (wf:=yX w) Tryz.underlying46 (k:=8) (by kernel_rfl) (fun _=>rfl) (by decide) BQ hf;simp only[Value.cells,List.cons.injEq,and_true]at e1;rw[e1];refine⟨A,l.length,c,fun i=>l.getD i default,rfl,kV (fun _=>rfl) hl hm (fun x hx=>(hwf x hx).1) (fun hp=>?_) (by decide),by omega,fun i hi=>?_⟩
 .obtain ⟨b,off,hA,_,hc⟩:=hr hp
  exact⟨b,off,hA,fun j u hu=>hc j u hu⟩
 have:l.getD i default=l[i]:=by simp[List.getD,hi]
 simp only[this];exact hwf _ (List.getElem_mem hi)
theorem EP(hv:Value.okWide Tryz.prog w r b0 30 v)(h:DataW.Trod enc Tryz.prog w base spare held 30 v d p):DH w v:=by
 obtain⟨cs,rfl,_⟩:=okWide_struct Tryz.underlying30 hv;obtain⟨fuel,hf⟩:=h;obtain⟨x,hx,hw⟩:=BS _ _ _ hf;simp only[Value.cells]at hx;obtain⟨l,rfl⟩:∃l:List Value,cs=l.toArray:=⟨cs.toList,by simp⟩
 simp only[List.toList_toArray]at hx;subst hx;exact⟨x,by simp[AV.den,AV.denL],hw.1.agg,hw.2⟩
end
abbrev vU(A:Option Addr)(n c:Nat)(f:Nat->A8):AV:=.sl none A n c 15 (fun i=>dU (f i))
def yU(w:World)(x:A8):Prop:=OkL w (dU x)/\x.x.r.n<=maxLen/\s8 x.lab/\s8 x.x.r.nx/\∀i,i<x.x.r.n->U64 (x.x.r.f i).key
section
variable {H:Type} {enc:TypeId×Value->H} {w:World} {base:Nat} {spare:Nat->Bool} {held:Bool}
abbrev Eo(s:mF):List AV:=[.int .i64 s.code,.bool (.v s.had),.str s.val,.sl none s.A s.n s.c 2 (fun i=>itC (s.f i)),.int .u64 s.key,.bool (.v s.more)]
theorem BR(n:Nat)(cs:List Value)(y:DataW H×List MemPlace)(h:DataW.trod enc Tryz.prog w base spare held n 38 cs=some y):∃x:mF,cs=(Eo x).map AV.den/\OkL w (Eo x):=by
 obtain⟨xs,m,rfl,rfl,hlen,hxl,hf⟩:=DataW.trod_struct Tryz.underlying38 h;have hC:Tryz.prog.cellsOf 38=6:=by kernel_rfl
 have h0:DataW.trod enc Tryz.prog w base spare held m 36 ((cs.drop 0).take (Tryz.prog.cellsOf 36))=xs[0]?:=hf 0 _ rfl;have h1:DataW.trod enc Tryz.prog w base spare held m 4 ((cs.drop 1).take (Tryz.prog.cellsOf 4))=xs[1]?:=hf 1 _ rfl;have h2:DataW.trod enc Tryz.prog w base spare held m 9 ((cs.drop 2).take (Tryz.prog.cellsOf 9))=xs[2]?:=hf 2 _ rfl;have h3:DataW.trod enc Tryz.prog w base spare held m 33 ((cs.drop 3).take (Tryz.prog.cellsOf 33))=xs[3]?:=hf 3 _ rfl;have h4:DataW.trod enc Tryz.prog w base spare held m 22 ((cs.drop 4).take (Tryz.prog.cellsOf 22))=xs[4]?:=hf 4 _ rfl;have h5:DataW.trod enc Tryz.prog w base spare held m 4 ((cs.drop 5).take (Tryz.prog.cellsOf 4))=xs[5]?:=hf 5 _ rfl;rw[hC]at hlen;rw[show Tryz.prog.cellsOf 36=1 by kernel_rfl]at h0;rw[show Tryz.prog.cellsOf 4=1 by kernel_rfl]at h1 h5;rw[show Tryz.prog.cellsOf 9=1 by kernel_rfl]at h2;rw[show Tryz.prog.cellsOf 33=1 by kernel_rfl]at h3;rw[show Tryz.prog.cellsOf 22=1 by kernel_rfl]at h4
 match cs,hlen with
 | [c0,c1,c2,c3,c4,c5],_=>
  match xs,hxl with
  | [y0,y1,y2,y3,y4,y5],_=>
   obtain⟨a,e0,_,_⟩:=DataW.trod_int Tryz.underlying36 h0;obtain⟨b,e1,_⟩:=DataW.trod_bool Tryz.underlying4 h1;obtain⟨s,e2,_,ws⟩:=DataW.trod_string Tryz.underlying9 h2;obtain⟨A,c,k,f,e3,hrow,hk,_⟩:=tJ _ _ _ h3;obtain⟨kk,e4,_,_⟩:=DataW.trod_int Tryz.underlying22 h4;obtain⟨mo,e5,_⟩:=DataW.trod_bool Tryz.underlying4 h5;simp only[List.drop_zero,List.drop_succ_cons,List.take_succ_cons,List.take_zero,List.cons.injEq,and_true]at e0 e1 e2 e3 e4 e5;subst e0;subst e1;subst e2;subst e3;subst e4;subst e5;exact⟨⟨a,b,s,A,k,c,f,kk,mo⟩,rfl,.int (.bool (.cons rfl (.str _ ws) (.cons rfl hrow (.int (.bool .nil)))))⟩
theorem BP(n:Nat)(cs:List Value)(y:DataW H×List MemPlace)(h:DataW.trod enc Tryz.prog w base spare held n 40 cs=some y):∃x:A8,cs=(dU x).map AV.den/\yU w x:=by
 obtain⟨xs,m,rfl,rfl,hlen,hxl,hf⟩:=DataW.trod_struct Tryz.underlying40 h;have hC:Tryz.prog.cellsOf 40=15:=by kernel_rfl
 have h0:DataW.trod enc Tryz.prog w base spare held m 3 ((cs.drop 0).take (Tryz.prog.cellsOf 3))=xs[0]?:=hf 0 _ rfl;have h1:DataW.trod enc Tryz.prog w base spare held m 24 ((cs.drop 1).take (Tryz.prog.cellsOf 24))=xs[1]?:=hf 1 _ rfl;have h2:DataW.trod enc Tryz.prog w base spare held m 22 ((cs.drop 3).take (Tryz.prog.cellsOf 22))=xs[2]?:=hf 2 _ rfl;have h3:DataW.trod enc Tryz.prog w base spare held m 35 ((cs.drop 4).take (Tryz.prog.cellsOf 35))=xs[3]?:=hf 3 _ rfl;have h4:DataW.trod enc Tryz.prog w base spare held m 38 ((cs.drop 9).take (Tryz.prog.cellsOf 38))=xs[4]?:=hf 4 _ rfl;rw[hC]at hlen;rw[show Tryz.prog.cellsOf 3=1 by kernel_rfl]at h0;rw[show Tryz.prog.cellsOf 24=2 by kernel_rfl]at h1;rw[show Tryz.prog.cellsOf 22=1 by kernel_rfl]at h2;rw[show Tryz.prog.cellsOf 35=5 by kernel_rfl]at h3;rw[show Tryz.prog.cellsOf 38=6 by kernel_rfl]at h4
 match cs,hlen with
 | [c0,c1,c2,c3,c4,c5,c6,c7,c8,c9,c10,c11,c12,c13,c14],_=>
  match xs,hxl with
  | [y0,y1,y2,y3,y4],_=>
   obtain⟨k,e0,_,_⟩:=DataW.trod_int Tryz.underlying3 h0;obtain⟨l,e1,hl⟩:=iz _ _ _ h1;obtain⟨v,e2,_,wv⟩:=DataW.trod_int Tryz.underlying22 h2;obtain⟨x,e3,hx,hn,hnx,hky⟩:=qr _ _ _ h3;obtain⟨s,e4,hs⟩:=BR _ _ _ h4;simp only[List.drop_zero,List.drop_succ_cons,List.take_succ_cons,List.take_zero,List.cons.injEq,and_true,ew,Eo,List.map_cons,List.map_nil]at e0 e1 e2 e3 e4;obtain⟨e1,e5⟩:=e1;obtain⟨e6,e7,e8,e9,e10⟩:=e3;obtain⟨e11,e12,e13,e14,e15,e16⟩:=e4;subst e0;subst e1;subst e2;subst e5;subst e6;subst e7;subst e8;subst e9;subst e10;subst e11;subst e12;subst e13;subst e14;subst e15;subst e16;exact⟨⟨k,l,v,x,s⟩,rfl,.int (.int (.int (.int (hx.append hs)))),hn,hl,hnx,hky⟩
variable {r:Reach} {b0:Nat} {v:Value} {d:DataW H} {p:List MemPlace}
def zb(w:World)(v:Value):Prop:=∃(A:Option Addr) (n c:Nat) (f:Nat->A8),v=(vU A n c f).den/\Ok m0 w (vU A n c f)/\n<=maxLen/\∀i,i<n->yU w (f i)
instance inhWnt25 : Inhabited A8 := ⟨⟨0, ⟨0, 0⟩, 0, zRA, ⟨0, false, .empty, none, 0, 0, fun _ => C2, 0, false⟩⟩⟩
theorem AX(hv:Value.okWide Tryz.prog w r b0 47 v)(h:DataW.Trod enc Tryz.prog w base spare held 47 v d p):zb w v:=by
 obtain⟨a,len,cap,rfl⟩:=okWide_slice Tryz.underlying47 hv;obtain⟨fuel,hf⟩:=h;obtain⟨A,c,l,e1,hr,hl,hm,hwf⟩:=eX (en:=fun x=>(dU x).map AV.den) (wf:=yU w) Tryz.underlying47 (k:=15) (by kernel_rfl) (fun _=>rfl) (by decide) BP hf;simp only[Value.cells,List.cons.injEq,and_true]at e1;rw[e1];refine⟨A,l.length,c,fun i=>l.getD i default,rfl,kV (fun _=>rfl) hl hm (fun x hx=>(hwf x hx).1) (fun hp=>?_) (by decide),by omega,fun i hi=>?_⟩
 .obtain ⟨b,off,hA,_,hc⟩:=hr hp
  exact⟨b,off,hA,fun j u hu=>hc j u hu⟩
 have:l.getD i default=l[i]:=by simp[List.getD,hi]
 simp only[this];exact hwf _ (List.getElem_mem hi)
end
end Go.Proofs.YtmbkanpapkhnaaaGreat.Sym
namespace Go.Proofs.YtmbkanpapkhnaaaGreat.Sym
open Go Go.RowKit
def ofE(n:Int):Int:=if n<0 \/ 64<n then 1 else 0
def ofV(key n:Int):Lab:=if n<0 \/ 64<n then⟨0,0⟩else⟨n,(A6 key.toNat n.toNat:Nat)⟩
theorem xl{key:Int}(hk:U64 key)(n:Int):U64 (ofV key n).bits:=by
 unfold ofV
 split
 .exact ⟨by decide,by decide⟩
 exact tq hk _
theorem oi{key:Int}(n:Int):isL (ofV key n)=true:=by
 unfold ofV
 split
 .decide
 rename_i h
 rw[AU];refine⟨⟨by show 0<=n;omega,by show n<=64;omega⟩,?_⟩
 show((A6 ((A6 key.toNat n.toNat:Nat):Int).toNat n.toNat:Nat):Int)=_
 rw[Int.toNat_natCast,lE]
abbrev D6:Lab:=⟨0,0⟩
structure Spt where
 lab:Lab
 g:u2
def lz:Rec:=⟨1,[],B9,0⟩
def C8(bk k key:Int):Nat->Lab->Pst->Rs Spt
 |0,_,p=>.stop zWq p
 |n+1,l,p=>(K0 k l p).bind fun g p=>
   if gk g 1=true then .ok ⟨l,g⟩ p
   else if(gk g 3||gk g 4)=true then(R5 bk k n l g p).bind fun _ p=>C8 bk k key n l p
   else if(gk g 2&&decide (l.len<64))=true then C8 bk k key n (ofV key (l.len+1)) p
   else if gk g 5=true then(I6 bk k n l p).bind fun _ p=>C8 bk k key n D6 p
   else if(!g.has&&decide (l=D6))=true then(P3 k D6 g.ver lz p).bind fun _ p=>C8 bk k key n D6 p
   else C8 bk k key n D6 p
def bG(bk k:Int)(n:Nat)(l:Lab)(p:Pst):Rs Bool:=
 if G4 l=0 then(K0 k (G1 l) p).bind fun q p=>if(gk q 2||gk q 3||gk q 4)=true then(I6 bk k n l p).bind fun _ p=>.ok false p else .ok true p else .ok true p
def D7(bk k key:Int):Nat->Int->Int->Pst->Rs Spt
 |0,_,_,p=>.stop zWq p
 |n+1,lo,hi,p=>
   if lo<=hi then(K0 k (ofV key ((lo+hi) / 2)) p).bind fun g p=>
    if gk g 1=true then .ok ⟨ofV key ((lo+hi) / 2),g⟩ p
    else if gk g 2=true then D7 bk k key n ((lo+hi) / 2+1) hi p
    else if(gk g 3||gk g 4)=true then(R5 bk k n (ofV key ((lo+hi) / 2)) g p).bind fun _ p=>D7 bk k key n lo hi p
    else if gk g 5=true then(bG bk k n (ofV key ((lo+hi) / 2)) p).bind fun b p=>if b=true then D7 bk k key n lo ((lo+hi) / 2-1) p else D7 bk k key n lo hi p
    else D7 bk k key n lo ((lo+hi) / 2-1) p
   else C8 bk k key (n+1) D6 p
def dV(bk k how key:Int)(n:Nat)(p:Pst):Rs Spt:=if how=1 then C8 bk k key n D6 p else D7 bk k key n 0 64 p
def jh(x:RA)(key:Int):Int:=jS (fun t=>decide ((x.r.f t).key=key)) x.r.n
def lL(x:RA)(key:Int):Bool:=decide (0<=jh x key)
def lK(x:RA)(key:Int):ByteArray:=if 0<=jh x key then(x.r.f (jh x key).toNat).val else⟨#[]⟩
theorem J6(bk k key:Int):∀n l p,Fro p (C8 bk k key n l p)
 |0,l,p=>U2 _ _
 |n+1,l,p=>(i7 _ _ _).bind fun _ _ _=>k7 (s9 _ _) (k7 ((F9 _ _ _ _ _ _).bind fun _ _ _=>J6 bk k key n _ _) (k7 (J6 bk k key n _ _) (k7 ((E8 _ _ _ _ _).bind fun _ _ _=>J6 bk k key n _ _) (k7 ((l6 _ _ _ _ _).bind fun _ _ _=>J6 bk k key n _ _) (J6 bk k key n _ _)))))
theorem gY(bk k:Int)(n:Nat)(l:Lab)(p:Pst):Fro p (bG bk k n l p):=
 k7 ((i7 _ _ _).bind fun _ _ _=>k7 ((E8 _ _ _ _ _).bind fun _ _ _=>s9 _ _) (s9 _ _)) (s9 _ _)
theorem cx(bk k key:Int):∀n lo hi p,Fro p (D7 bk k key n lo hi p)
 |0,lo,hi,p=>U2 _ _
 |n+1,lo,hi,p=>k7 ((i7 _ _ _).bind fun _ _ _=>k7 (s9 _ _) (k7 (cx bk k key n _ _ _) (k7 ((F9 _ _ _ _ _ _).bind fun _ _ _=>cx bk k key n _ _ _) (k7 ((gY _ _ _ _ _).bind fun _ _ _=>k7 (cx bk k key n _ _ _) (cx bk k key n _ _ _)) (cx bk k key n _ _ _))))) (J6 _ _ _ _ _ _)
theorem R4(bk k how key:Int)(n:Nat)(p:Pst):Fro p (dV bk k how key n p):=k7 (J6 _ _ _ _ _ _) (cx _ _ _ _ _ _ _)
structure jK(s:Spt):Prop where
 ok:db s.g
 r:vP s.g
 leaf:gk s.g 1=true
 lab:isL s.lab=true/\U64 s.lab.bits
theorem cC{bk k key:Int}(hk:U64 key):∀{n:Nat} {l:Lab} {p q:Pst} {s:Spt},f9 p->(isL l=true/\U64 l.bits)->C8 bk k key n l p = .ok s q->jK s
 |0,l,p,q,s,_,_,h=>by cases h
 |n+1,l,p,q,s,hp,hl,h=>by
  have hz:isL D6=true/\U64 D6.bits:=⟨by decide,by decide,by decide⟩;unfold C8 at h
  cases h1:K0 k l p with
  |stop w p1=>rw[h1]at h;cases h
  |ok g p1=>
   rw[h1]at h;have hp1:=hp.suf ((i7 k l p).of h1);simp only[Rs.bind]at h
   split at h
   .rename_i hg
    injection h with h _
    subst h;exact⟨hp.get h1,hp.getR h1,hg,hl⟩
   split at h
   .cases h2:R5 bk k n l g p1 with
    |stop w p2=>rw[h2]at h;cases h
    |ok u p2=>rw[h2]at h;exact cC hk (hp1.suf ((F9 _ _ _ _ _ _).of h2)) hl h
   split at h
   .exact cC hk hp1 ⟨oi _,xl hk _⟩ h
   split at h
   .cases h2:I6 bk k n l p1 with
    |stop w p2=>rw[h2]at h;cases h
    |ok u p2=>rw[h2]at h;exact cC hk (hp1.suf ((E8 _ _ _ _ _).of h2)) hz h
   split at h
   .cases h2:P3 k D6 g.ver lz p1 with
    |stop w p2=>rw[h2]at h;cases h
    |ok u p2=>rw[h2]at h;exact cC hk (hp1.suf ((l6 _ _ _ _ _).of h2)) hz h
   exact cC hk hp1 hz h
theorem js{bk k key:Int}(hk:U64 key):∀{n:Nat} {lo hi:Int} {p q:Pst} {s:Spt},f9 p->D7 bk k key n lo hi p = .ok s q->jK s
 |0,lo,hi,p,q,s,_,h=>by cases h
 |n+1,lo,hi,p,q,s,hp,h=>by
  unfold D7 at h
  split at h
  .cases h1:K0 k (ofV key ((lo+hi) / 2)) p with
   |stop w p1=>rw[h1]at h;cases h
   |ok g p1=>
    rw[h1]at h;have hp1:=hp.suf ((i7 _ _ _).of h1);simp only[Rs.bind]at h
    split at h
    .rename_i hg
     injection h with h _
     subst h;exact⟨hp.get h1,hp.getR h1,hg,oi _,xl hk _⟩
    split at h
    .exact js hk hp1 h
    split at h
    .cases h2:R5 bk k n (ofV key ((lo+hi) / 2)) g p1 with
     |stop w p2=>rw[h2]at h;cases h
     |ok u p2=>rw[h2]at h;exact js hk (hp1.suf ((F9 _ _ _ _ _ _).of h2)) h
    split at h
    .cases h2:bG bk k n (ofV key ((lo+hi) / 2)) p1 with
     |stop w p2=>rw[h2]at h;cases h
     |ok u p2=>
      rw[h2]at h;have hp2:=hp1.suf ((gY _ _ _ _ _).of h2);simp only[Rs.bind]at h
      split at h
      .exact js hk hp2 h
      exact js hk hp2 h
    exact js hk hp1 h
  exact cC hk hp ⟨by decide,by decide,by decide⟩ h
theorem dq{bk k how key:Int}(hk:U64 key){n:Nat}{p q:Pst}{s:Spt}(hp:f9 p)(h:dV bk k how key n p = .ok s q):jK s:=by
 unfold dV at h
 split at h
 .exact cC hk hp ⟨by decide,by decide,by decide⟩ h
 exact js hk hp h
def kQ(l:Lab):Lab:=if l.bits=(N8 l).bits then⟨l.len,(N8 l).bits+(2^(64-l.len.toNat):Nat)⟩else⟨l.len,(N8 l).bits⟩
def cF(l:Lab):Lab:=if G4 l=0 then kQ l else⟨0,0⟩
theorem so(q k:Nat):(2^(k+1)*q) ^^^ 2^k=2^(k+1)*q+2^k:=by
 have hk:2^k<2^(k+1):=Nat.pow_lt_pow_right (by decide) (by omega);apply Nat.eq_of_testBit_eq;intro i;rw[Nat.testBit_xor,Nat.testBit_two_pow_mul_add q hk,show 2^(k+1)*q=2^(k+1)*q+0 from rfl,Nat.testBit_two_pow_mul_add q (Nat.pow_pos (by decide))]
 by_cases h:i<k+1
 .rw [if_pos h,if_pos h,Nat.zero_testBit,Bool.false_xor]
 rw[if_neg h,if_neg h,Nat.testBit_two_pow,decide_eq_false (by omega),Bool.xor_false]
theorem uo{l:Lab}(hl:isL l=true)(hb:U64 l.bits)(h0:l.len≠0):∃q n:Nat,l.len=(n:Int)/\0<n/\n<=64/\(N8 l).bits=((2^(64-n+1)*q:Nat):Int) ∧
  (l.bits=((2^(64-n+1)*q:Nat):Int) \/ l.bits=((2^(64-n+1)*q+2^(64-n):Nat):Int))/\2^(64-n+1)*q+2^(64-n)<2^64:=by
 obtain⟨h1,h2,h3⟩:=r7 hl;obtain⟨n,hn⟩:∃n:Nat,l.len=n:=⟨l.len.toNat,by omega⟩
 have hlt:=eb hb;have hu:=hb.1;have hpos:0<2^(64-n):=Nat.pow_pos (by decide);have hp1:2^(64-n+1)=2*2^(64-n):=by rw[Nat.pow_succ,Nat.mul_comm]
 have hv:l.bits.toNat=l.bits.toNat / 2^(64-n)*2^(64-n):=by
  have:l.bits.toNat=A6 l.bits.toNat n:=by rw[hn,Int.toNat_natCast]at h3;omega
  exact this
 have hpar:(N8 l).bits=((2^(64-n+1)*(l.bits.toNat / 2^(64-n+1)):Nat):Int):=by
  unfold N8 A6;simp only[hn,Int.toNat_natCast];rw[show 64-(n-1)=64-n+1 by omega,Nat.mul_comm]
 have hqq:l.bits.toNat / 2^(64-n+1)=l.bits.toNat / 2^(64-n) / 2:=by rw[hp1,Nat.mul_comm,Nat.div_div_eq_div_mul]
 refine⟨l.bits.toNat / 2^(64-n+1),n,hn,by omega,by omega,hpar,?_,?_⟩
 .rw [hqq,hp1]
  generalize hx:l.bits.toNat / 2^(64-n)=x at hv
  have hm:l.bits=((x*2^(64-n):Nat):Int):=by omega
  rcases Nat.mod_two_eq_zero_or_one x with h|h
  .refine .inl ?_
   rw[hm]
   congr 1
   rw[Nat.mul_right_comm,show 2*(x / 2)=x by omega]
  refine .inr ?_;rw[hm]
  congr 1
  rw[Nat.mul_right_comm,show 2*(x / 2)=x-1 by omega,Nat.sub_mul,Nat.one_mul];have:2^(64-n)<=x*2^(64-n):=Nat.le_mul_of_pos_left _ (by omega);omega
 rw[hp1];have e64:2^64=2*2^(64-n)*2^(n-1):=by rw[<-hp1,<-Nat.pow_add];congr 1;omega
 have hq:l.bits.toNat / (2*2^(64-n))<2^(n-1):=by
  rw[Nat.div_lt_iff_lt_mul (by omega),Nat.mul_comm,<-e64];exact hlt
 have h9:2*2^(64-n)*(l.bits.toNat / (2*2^(64-n))+1)<=2*2^(64-n)*2^(n-1):=Nat.mul_le_mul_left _ hq;rw[Nat.mul_add,Nat.mul_one,<-e64]at h9;omega
theorem zD{l:Lab}(hl:isL l=true)(hb:U64 l.bits)(h0:l.len≠0):o9 .xor .u64 l.bits ((2^(64-l.len.toNat):Nat):Int)=(kQ l).bits:=by
 obtain⟨q,n,hn,hn0,hn64,hpar,hbits,hlt⟩:=uo hl hb h0;have hpos:0<2^(64-n):=Nat.pow_pos (by decide);have hp:2^(64-n)<2^64:=Nat.pow_lt_pow_right (by decide) (by omega);have e2:∀v:Nat,v<2^64->(BitVec.ofInt 64 (v:Int)).toNat=v:=fun v hv=>by rw[BitVec.ofInt_natCast,BitVec.toNat_ofNat,Nat.mod_eq_of_lt hv]
 have key:∀v r:Nat,v<2^64->v ^^^ 2^(64-n)=r->r<2^64->o9 .xor .u64 (v:Int) ((2^(64-n):Nat):Int)=(r:Int):=fun v r hv hr hrl=>by
  show IntKind.u64.wrap (BitVec.ofInt 64 (v:Int) ^^^ BitVec.ofInt 64 _).toNat=_
  rw[BitVec.toNat_xor,e2 v hv,e2 _ hp,hr,eU,Nat.mod_eq_of_lt hrl]
 rw[hn,Int.toNat_natCast];unfold kQ
 rcases hbits with h|h
 .rw [if_pos (by rw[h,hpar]),hn,Int.toNat_natCast,hpar,h]
  rw[key _ _ (by omega) (so q (64-n)) hlt];exact Int.natCast_add _ _
 rw[if_neg (by rw[h,hpar];omega),hpar,h];refine key _ _ hlt ?_ (by omega);rw[<-so,Nat.xor_assoc,Nat.xor_self,Nat.xor_zero]
theorem sA{l:Lab}(hl:isL l=true)(hb:U64 l.bits)(h0:l.len≠0):chE (N8 l) 0=0/\chE (N8 l) 1=0/\kQ l=(if l=chV (N8 l) 0 then chV (N8 l) 1 else chV (N8 l) 0):=by
 obtain⟨h1,h2,h3⟩:=r7 hl;have hp:=sM hl hb h0;have hpl:(N8 l).len=l.len-1:=rfl;have e:∀b,chE (N8 l) b=0:=fun b=>by unfold chE;rw[if_neg (by rw[hp];decide),if_neg (by rw[hpl];omega)]
 refine⟨e 0,e 1,?_⟩;have c:∀b,chV (N8 l) b=k8 (N8 l) b:=fun b=>if_pos (e b)
 rw[c,c];have c0:k8 (N8 l) 0=⟨l.len,(N8 l).bits⟩:=by
  unfold k8;rw[if_neg (show ¬(0:Int)=1 by decide),hpl,show l.len-1+1=l.len by omega]
 have c1:k8 (N8 l) 1=⟨l.len,(N8 l).bits+(2^(64-l.len.toNat):Nat)⟩:=by
  unfold k8;rw[if_pos rfl,hpl,show l.len-1+1=l.len by omega,show 63-(l.len-1).toNat=64-l.len.toNat by omega]
 rw[c0,c1];unfold kQ
 by_cases h:l.bits=(N8 l).bits
 .have e9:l=⟨l.len,(N8 l).bits⟩:=congrArg (Lab.mk l.len) h
  rw[if_pos h,if_pos e9]
 rw[if_neg h,if_neg (fun h':l=⟨l.len,(N8 l).bits⟩=>h (by have h9:=congrArg (fun x:Lab=>x.bits) h';exact h9))]
theorem LOk.sib{l:Lab}(h:LOk l):LOk (cF l):=by
 unfold cF
 split
 .rename_i he
  have h0:l.len≠0:=fun h0=>by
   unfold G4 at he;rw[if_pos h0]at he
   split at he<;>cases he
  obtain⟨_,_,e⟩:=sA h.isl h.u h0;have hp:=h.par;have hv:G1 l=N8 l:=if_pos he;rw[hv]at hp;rw[e]
  split
  .exact hp.ch 1
  exact hp.ch 0
 exact R7
theorem Dr(key n:Int)(hk:U64 key):j7 Tryz.prog 227 [.int .u64 key,.int .i64 n] (fun _=>.tup [f4 (ofV key n),.int .i64 (ofE n)]):=by
 intro m w hm hargs;refine en 18 hm hargs Tryz.func227 fun B O a0 Z=>?_
 refine wp_seq (rg O a6 [0,1,4] [4] [] Z fun X0 _ _ Z=>?_);refine wp_seq (wp_seq (rg O a6 [11,0,1,4] [4] [] Z fun X1 _ _ Z=>?_));apply a7 Z rfl<;>intro hb Z
 .have h9:(if decide (n<0)=true then true else decide (n>64))=true:=by subst O;exact hb
  have hr:n<0 \/ 64<n:=by
   by_cases h:n<0
   .exact .inl h
   simp[h]at h9;exact .inr h9
  have hV:ofV key n=⟨0,0⟩:=if_pos hr;have hE:ofE n=1:=if_pos hr;refine wp_seq (rg O a6 [4,5] [4] [] Z fun X2 _ _ Z=>?_);refine wp_ret ((rsi O a6 Z f8 (he:=?_)));rw[hV,hE];subst O;exact zr
 have h9:(if decide (n<0)=true then true else decide (n>64))=false:=by subst O;exact hb
 have hr:0<=n/\n<=64:=by
  by_cases h:n<0
  .simp [h]at h9
  simp[h]at h9;omega
 have hV:ofV key n=⟨n,(A6 key.toNat n.toNat:Nat)⟩:=if_neg (by omega);have hE:ofE n=0:=if_neg (by omega);have S:=rD key n hk hr.1 hr.2;obtain⟨hd,hhd⟩:=eqv (((A6 key.toNat n.toNat:Nat):Int));rw[<-hhd]at S hV;have O1:=S;refine wp_skip (wp_seq (rg O a6 [4,5] [4] [(3,.r fun _=>.int .u64 hd)] Z fun X3 _ _ Z=>?_));refine wp_ret ((rsi O a6 Z f8 (he:=?_)));rw[hV,hE];subst O;exact zr
theorem Di(key n:Int)(hk:U64 key):j7 Tryz.prog 217 [.int .u64 key,.int .i64 n] (fun _=>.tup [f4 (ofV key n),.int .i64 (ofE n)]):=by
 intro m w hm hargs;refine en 18 hm hargs Tryz.func217 fun B O a0 Z=>?_
 refine wp_seq (rg O a6 [0,1,4] [4] [] Z fun X0 _ _ Z=>?_);refine wp_seq (wp_seq (rg O a6 [11,0,1,4] [4] [] Z fun X1 _ _ Z=>?_));apply a7 Z rfl<;>intro hb Z
 .have h9:(if decide (n<0)=true then true else decide (n>64))=true:=by subst O;exact hb
  have hr:n<0 \/ 64<n:=by
   by_cases h:n<0
   .exact .inl h
   simp[h]at h9;exact .inr h9
  have hV:ofV key n=⟨0,0⟩:=if_pos hr;have hE:ofE n=1:=if_pos hr;refine wp_seq (rg O a6 [4,5] [4] [] Z fun X2 _ _ Z=>?_);refine wp_ret ((rsi O a6 Z f8 (he:=?_)));rw[hV,hE];subst O;exact zr
 have h9:(if decide (n<0)=true then true else decide (n>64))=false:=by subst O;exact hb
 have hr:0<=n/\n<=64:=by
  by_cases h:n<0
  .simp [h]at h9
  simp[h]at h9;omega
 have hV:ofV key n=⟨n,(A6 key.toNat n.toNat:Nat)⟩:=if_neg (by omega);have hE:ofE n=0:=if_neg (by omega);have SD:=pg key hk;obtain⟨d,hd⟩:=eqv (mkB (K6 64 key.toNat));rw[<-hd]at SD;have hds:d.size=64:=by rw[hd,R1,Y7]
 have hdx:unB (d.extract 0 n.toNat)=(K6 64 key.toNat).take n.toNat:=by
  rw[hd,bC,aL,List.drop_zero]
 have hxs:(d.extract 0 n.toNat).size=n.toNat:=by rw[ByteArray.size_extract];omega
 have SO:=xk (d.extract 0 n.toNat) (fun x hx=>by rw[hdx]at hx;exact gM x (List.mem_of_mem_take hx)) (by omega);have hk0:ofT (d.extract 0 n.toNat)=⟨n,(A6 key.toNat n.toNat:Nat)⟩:=by
  unfold ofT;rw[hdx,hxs,ku (eb hk) (by omega)];congr 1;omega
 refine wp_skip (wp_seq ?_);rw[hk0,<-hV]at SO;simp only[f4]at SO;obtain⟨k,hk⟩:=eqv (ofV key n);rw[<-hk]at SO;refine rg O a6 [4,5] [4] [(1,.r fun _=>.str d),(4,.r fun _=>.agg [.int .i64 k.len,.int .u64 k.bits])] Z (hob:=by intro X;subst O;simp only[b7,Ob.holds,BE.den]<;>and_intros<;>repeat first|trivial|rfl|exact SD|exact SO|exact⟨by decide,hr.1,by rw[show((d.size:Nat):Int)=64 by omega];exact hr.2⟩|exact hr.1|exact(show n<=(d.size:Int)by omega)|exact(fun _ _=>by kernel_rfl)|refine⟨?_,?_⟩|intro h|exact Int.le_refl _|decide|omega) fun X3 _ _ Z=>?_
 refine wp_ret ((rsi O a6 Z f8 (he:=?_)));rw[hE,<-hk];subst O;exact zr
abbrev qa:AV:=.agg [.int .i64 1,.sl none none 0 0 2 (fun _=>[]),.int .i64 (-1),.int .u64 0,.int .u64 0]
abbrev L9(s:Spt):AV:=.agg [.int .i64 s.lab.len,.int .u64 s.lab.bits,.int .i64 s.g.code,.int .u64 s.g.ver,.bool (.v s.g.has),.int .i64 s.g.x.r.kd,.sl none s.g.x.A s.g.x.r.n s.g.x.c 2 (fun i=>itC (s.g.x.r.f i)),.int .i64 s.g.x.r.nx.len,.int .u64 s.g.x.r.nx.bits,.int .u64 s.g.x.r.mrk]
theorem iX{key:Int}(hk:U64 key)(n:Int):LOk (ofV key n):=⟨oi n,xl hk n⟩
theorem xN:j7 Tryz.prog 229 [] (fun _=>qa):=by
 intro m w hm hargs;have SN:=ou;simp only[f4,B9]at SN;refine en 3 hm hargs Tryz.func229 fun B O a0 Z=>?_
 refine wp_seq (rg O a6 [0] [0] [] Z fun X0 _ _ Z=>?_);have O1:=SN;refine wp_seq (rg O a6 [0] [0] [(0,.r fun _=>.agg [.int .i64 (-1),.int .u64 0])] Z fun X1 _ _ Z=>?_);exact wp_ret ((rsp O a6 Z f8).1)
theorem Bg(b:Nat)(key k:Int)(v:ByteArray):v8 Tryz.prog 221 [.agg [.int .u64 k,.str v],.ptr 0 b 0] [(0,⟨b,22,[.int .u64 key]⟩)] (fun _=>⟨.bool (.v (decide (k=key))),[(0,[.int .u64 key])],[]⟩):=by
 intro m w hm hargs hpre;refine enX 8 hm hpre hargs Tryz.func221 fun B O a0 Z=>?_
 refine wp_seq (rg O a6 [1,2] [0,2] [] Z fun X0 _ _ Z=>?_);refine wp_seq (rg O a6 [3] [0] [] Z fun X1 _ _ Z=>?_);refine wp_ret ((rx O a6 Z f8 [] (he:=?_)).1);subst O;refine Sim.bool ?_
 show(k==key)=decide (k=key)
 exact rfl
theorem Ba(b:Nat)(A:Option Addr)(n c:Nat)(f:Nat->Itm)(hn:n<=1000000)(key:Int):v8 Tryz.prog 136 [.sl none A n c 2 (fun i=>itC (f i)),.fn 221 [] [.ptr 0 b 0]] [(0,⟨b,22,[.int .u64 key]⟩)] (fun _=>⟨.int .i64 (jS (fun t=>decide ((f t).key=key)) n),[(0,[.int .u64 key])],[]⟩):=by
 intro m w hm hargs hpre;have hmx:maxLen=9223372036854775807:=rfl;refine enX 19 hm hpre hargs Tryz.func136 fun B O a0 Z=>?_
 refine wp_seq (rg O a6 [0,1] [0] [] Z fun X0 _ _ Z=>?_);refine wp_seq (wp_seq (rg O a6 [8,0,1,7] [0] [] Z fun X1 _ _ Z=>?_));refine wp_block (l5 (ι:=Nat) (fun p=>[(8,.int .i64 (p:Int))]) (fun p=>[]) (fun p=>[]) (fun p=>p<=n/\∀t,t<p->decide ((f t).key=key)=false) (fun p=>n-p) 0 ⟨Nat.zero_le _,fun t ht=>absurd ht (Nat.not_lt_zero _)⟩ Z ?_)
 rintro i ⟨hi,hlt⟩ _ _ Z
 try dsimp only at hi
 try dsimp only at hlt
 refine wp_seq (rg O a6 [9,8,0,1,7] [0] [] Z fun X2 _ _ Z=>?_);refine wp_seq (a7 Z rfl (fun hb Z=>?_) (fun hb Z=>?_))
 .have hin:i<n:=by
   have:(i:Int)<(n:Int):=by subst O;simpa[std,a8]using hb
   omega
  have S:=Bg b key (f i).key (f i).val;obtain⟨q,hq⟩:=eqv (decide ((f i).key=key));rw[<-hq]at S;refine wp_skip (wp_seq (wp_block (wp_seq (rg O a6 [5,8,0,1,7] [0] [] Z fun X3 _ _ Z=>?_))));apply wp_seq;refine rg O a6 [16,5,8,0,1,7] [0] [(5,.x fun _=>⟨.bool (.v q),[(0,[.int .u64 key])],[]⟩)] Z (hob:=by intro X;subst O;simp only[b7,Ob.holds,BE.den]<;>and_intros<;>repeat first|trivial|rfl|exact S|exact(show(0:Int)<=(i:Int)by omega)|exact(show(i:Int)<(n:Int)by omega)|exact(fun _ _=>by kernel_rfl)|refine⟨?_,?_⟩|intro h|exact Int.le_refl _|decide|omega) fun X4 _ _ Z=>?_
  apply a7 Z rfl<;>intro hb Z
  .have hqt:q=true:=hb
   refine wp_seq (rg O a6 [4] [0] [] Z fun X5 _ _ Z=>?_);refine wp_ret ((rx O a6 Z f8 [] (he:=?_)).1);rw[gU (p:=(fun t=>decide ((f t).key=key))) hin hlt (by show decide ((f i).key=key)=true;rw[<-hq];exact hqt)];subst O;exact zr
  have hqf:q=false:=hb;refine wp_skip (rg O a6 [8,0,1,7] [0] [] Z fun X6 _ _ Z=>?_);have e:B.arith .add .i64 (i:Int) 1=((i+1:Nat):Int):=by subst O;exact o3 (n:=n) hin (by omega)
  refine⟨i+1,⟨by omega,fun t ht=>?_⟩,by omega,by rw[<-e];exact Z⟩
  by_cases h:t=i
  .rw [h,<-hq];exact hqf
  exact hlt t (by omega)
 have hout:i=n:=by
  have:¬(i:Int)<(n:Int):=by subst O;simpa[std,a8]using hb
  omega
 rw[hout]at hlt;refine wp_exit (wp_seq (rg O a6 [4] [0] [] Z fun X7 _ _ Z=>?_));refine wp_ret ((rx O a6 Z f8 [] (he:=?_)).1);rw[gT (p:=(fun t=>decide ((f t).key=key))) hlt];subst O;exact zr
theorem ER(k0:Nat)(b:Nat)(A:Option Addr)(n c:Nat)(f:Nat->Itm)(hn:n<=1000000)(key:Int):v8 Tryz.prog 136 [.sl none A n c 2 (fun i=>itC (f i)),.fn 221 [] [.ptr k0 b 0]] [(k0,⟨b,22,[.int .u64 key]⟩)] (fun _=>⟨.int .i64 (jS (fun t=>decide ((f t).key=key)) n),[(k0,[.int .u64 key])],[]⟩):=
 (Ba b A n c f hn key).re (by repeat(first|exact trivial|refine⟨Sim.ptr,?_⟩|refine⟨Sim.fn ⟨Sim.ptr,trivial⟩ trivial,?_⟩|refine⟨Sim.fn trivial ⟨Sim.ptr,trivial⟩,?_⟩|refine⟨zr,?_⟩)) rfl (fun x=>⟨rfl,rfl,zr,rfl⟩)
theorem yb(x:RA)(hx:L3 x)(key:Int):j7 Tryz.prog 161 [C7 x,.int .u64 key] (fun _=>.tup [.str (lK x key),.bool (.v (lL x key))]):=by
 intro m w hm hargs;have hf:=hx.few;have HC:=nl (fun t=>decide ((x.r.f t).key=key)) x.r.n;have hV:lK x key=if 0<=jh x key then(x.r.f (jh x key).toNat).val else⟨#[]⟩:=rfl
 have hI:lL x key=decide (0<=jh x key):=rfl;refine en 19 hm hargs Tryz.func161 fun B O a0 Z=>?_
 refine wp_seq (rg O a6 [2,3] [2,3] [] Z fun X0 _ _ Z=>?_);have S:=ER 3 (X0 1).b x.A x.r.n x.c x.r.f (by omega) key;rw[show jS (fun t=>decide ((x.r.f t).key=key)) x.r.n=jh x key from rfl]at S HC;obtain⟨ix,hix⟩:=eqv (jh x key);rw[<-hix]at S HC hV hI;have O1:=S;refine wp_seq (rg O a6 [2,6] [2] [(3,.x fun _=>⟨.int .i64 ix,[(3,[.int .u64 key])],[]⟩)] Z fun X1 _ _ Z=>?_);refine wp_seq (wp_seq (rg O a6 [12,2,6] [2] [] Z fun X2 _ _ Z=>?_));apply a7 Z rfl<;>intro hb Z
 .have hr:ix<0:=by subst O;simpa[std,a8]using hb
  refine wp_seq (rg O a6 [4,5] [] [] Z fun X3 _ _ Z=>?_);refine wp_ret ((rsi O a6 Z f8 (he:=?_)));rw[hV,hI,if_neg (by omega),decide_eq_false (by omega)];subst O;exact zr
 have hr:¬ix<0:=by subst O;simpa[std,a8]using hb
 obtain⟨j,hj1,hj2⟩:∃j,j<x.r.n/\ix=(j:Int):=by
  rcases HC with⟨i,h1,h2,_⟩|⟨h1,_⟩
  .exact ⟨i,h1,h2⟩
  omega
 rw[hj2,if_pos (by omega),Int.toNat_natCast]at hV;refine wp_skip (wp_seq ?_);refine rg O a6 [4,5] [] [] Z (hob:=by intro X;subst O;simp only[b7,Ob.holds,BE.den]<;>and_intros<;>repeat first|trivial|rfl|exact⟨(show(0:Int)<=ix by omega),(show ix<(x.r.n:Int)by omega)⟩|exact(show(0:Int)<=ix by omega)|exact(show ix<(x.r.n:Int)by omega)|exact(fun _ _=>by kernel_rfl)|refine⟨?_,?_⟩|intro h|exact Int.le_refl _|decide|omega) fun X4 _ _ Z=>?_
 refine wp_ret ((rsi O a6 Z f8 (he:=?_)));rw[hV,hI,decide_eq_true (by omega)];subst O;subst hj2;exact zr
theorem nD:j6 Tryz.prog 117:=fun _ _=>by kernel_rfl
theorem sF(x:RA)(hx:L3 x)(key:Int):j7 Tryz.prog 117 [C7 x,.int .u64 key] (fun _=>.tup [.str (lK x key),.bool (.v (lL x key))]):=by
 intro m w hm hargs;have hf:=hx.few;have hmx:maxLen=9223372036854775807:=rfl;have hV:lK x key=if 0<=jh x key then(x.r.f (jh x key).toNat).val else⟨#[]⟩:=rfl
 have hI:lL x key=decide (0<=jh x key):=rfl;refine en 28 hm hargs Tryz.func117 fun B O a0 Z=>?_
 refine wp_seq (rg O a6 [1,2] [2] [] Z fun X0 _ _ Z=>?_);refine wp_seq (wp_seq (rg O a6 [6,1,2] [2] [] Z fun X1 _ _ Z=>?_));refine wp_block (l5 (ι:=Nat) (fun p=>[(6,.int .i64 (p:Int))]) (fun p=>[]) (fun p=>[]) (fun p=>p<=x.r.n/\∀t,t<p->decide ((x.r.f t).key=key)=false) (fun p=>x.r.n-p) 0 ⟨Nat.zero_le _,fun t ht=>absurd ht (Nat.not_lt_zero _)⟩ Z ?_)
 rintro i ⟨hi,hlt⟩ _ _ Z
 try dsimp only at hi
 try dsimp only at hlt
 refine wp_seq (wp_seq (rg O a6 [11,1,2,6] [2] [] Z fun X2 _ _ Z=>?_));apply a7 Z rfl<;>intro hb Z
 .have hin:i<x.r.n:=by
   have:(i:Int)<(x.r.n:Int):=by subst O;simpa[std,a8]using hb
   omega
  refine wp_skip (wp_seq (wp_block (wp_seq ?_)));refine rg O a6 [21,1,2,6] [2] [] Z (hob:=by intro X;subst O;simp only[b7,Ob.holds,BE.den]<;>and_intros<;>repeat first|trivial|rfl|exact(show(0:Int)<=(i:Int)by omega)|exact(show(i:Int)<(x.r.n:Int)by omega)|exact(fun _ _=>by kernel_rfl)|refine⟨?_,?_⟩|intro h|exact Int.le_refl _|decide|omega) fun X4 _ _ Z=>?_
  apply a7 Z rfl<;>intro hb Z
  .have heq:(x.r.f i).key=key:=by
    have:((x.r.f i).key==key)=true:=by subst O;exact hb
    simpa using this
   have hix:jh x key=(i:Int):=gU (p:=(fun t=>decide ((x.r.f t).key=key))) hin hlt (by simp[heq]);apply wp_seq;refine rg O a6 [4,5] [] [] Z (hob:=by intro X;subst O;simp only[b7,Ob.holds,BE.den]<;>and_intros<;>repeat first|trivial|rfl|exact(show(0:Int)<=(i:Int)by omega)|exact(show(i:Int)<(x.r.n:Int)by omega)|exact(fun _ _=>by kernel_rfl)|refine⟨?_,?_⟩|intro h|exact Int.le_refl _|decide|omega) fun X5 _ _ Z=>?_
   refine wp_ret ((rsi O a6 Z f8 (he:=?_)));rw[hV,hI,hix,if_pos (by omega),decide_eq_true (by omega),Int.toNat_natCast];subst O;exact zr
  have hne:¬(x.r.f i).key=key:=by
   have:((x.r.f i).key==key)=false:=by subst O;exact hb
   simpa using this
  refine wp_skip (rg O a6 [6,1,2] [2] [] Z fun X3 _ _ Z=>?_);have e:B.arith .add .i64 (i:Int) 1=((i+1:Nat):Int):=by subst O;exact o3 (n:=x.r.n) hin (by omega)
  refine⟨i+1,⟨by omega,fun t ht=>?_⟩,by omega,by rw[<-e];exact Z⟩
  by_cases h:t=i
  .rw [h];exact decide_eq_false hne
  exact hlt t (by omega)
 have hout:i=x.r.n:=by
  have:¬(i:Int)<(x.r.n:Int):=by subst O;simpa[std,a8]using hb
  omega
 rw[hout]at hlt;have hix:jh x key = -1:=gT (p:=(fun t=>decide ((x.r.f t).key=key))) hlt;refine wp_exit (wp_seq (rg O a6 [4,5] [] [] Z fun X6 _ _ Z=>?_));refine wp_ret ((rsi O a6 Z f8 (he:=?_)));rw[hV,hI,hix];subst O;exact zr
theorem nG(f:Nat->Itm)(i:Nat)(key:Int):I4 (b4 f (i+1)) key=I4 (b4 f i) key++if(f i).key=key then []else [f i]:=by
 have:b4 f (i+1)=b4 f i ++ [f i]:=by simp[b4,List.range_succ]
 rw[this];unfold I4;rw[List.filter_append]
 congr 1
 by_cases h:(f i).key=key<;>simp[isK,h]
theorem zY(A:Option Addr)(n c:Nat)(f:Nat->Itm)(hn:n<=1000000)(kd:Int)(nx:Lab)(mk:Int)(key:Int):j7 Tryz.prog 117 [F2 A n c f kd nx mk,.int .u64 key] (fun _=>.tup [.str (aD (b4 f n) key),.bool (.v (R9 (b4 f n) key))]):=by
 intro m w hm hargs;have hmx:maxLen=9223372036854775807:=rfl;unfold F2 l7 at hargs;refine en 28 hm hargs Tryz.func117 fun B O a0 Z=>?_
 refine wp_seq (rg O a6 [1,2] [2] [] Z fun X0 _ _ Z=>?_);refine wp_seq (wp_seq (rg O a6 [6,1,2] [2] [] Z fun X1 _ _ Z=>?_));refine wp_block (l5 (ι:=Nat) (fun p=>[(6,.int .i64 (p:Int))]) (fun p=>[]) (fun p=>[]) (fun p=>p<=n/\∀t,t<p->(f t).key≠key) (fun p=>n-p) 0 ⟨Nat.zero_le _,fun t ht=>absurd ht (Nat.not_lt_zero _)⟩ Z ?_)
 rintro i ⟨hi,hlt⟩ _ _ Z
 try dsimp only at hi
 try dsimp only at hlt
 refine wp_seq (wp_seq (rg O a6 [11,6,1,2] [2] [] Z (hob:=?hob) fun X2 _ _ Z=>?_))
 case hob=>
  intro X;subst O
  repeat(first|exact trivial|refine⟨rfl,?_⟩|refine⟨⟨show(0:Int)<=(i:Int)by omega,show(i:Int)<(n:Int)by omega⟩,?_⟩)
 apply a7 Z rfl<;>intro hb Z
 .have hin:i<n:=by
   have:(i:Int)<(n:Int):=by subst O;simpa[std,a8]using hb
   omega
  refine wp_skip (wp_seq (wp_block (wp_seq (rg O a6 [21,6,1,2] [2] [] Z (hob:=?hob) fun X4 _ _ Z=>?_))))
  case hob=>
   intro X;subst O
   repeat(first|exact trivial|refine⟨rfl,?_⟩|refine⟨⟨show(0:Int)<=(i:Int)by omega,show(i:Int)<(n:Int)by omega⟩,?_⟩)
  apply a7 Z rfl<;>intro hb Z
  .have hk:(f i).key=key:=by subst O;simpa[std,a8]using hb
   have hfd:=qf hin hlt hk;have hV:aD (b4 f n) key=(f i).val:=by simp only[aD,hfd]
   have hE:R9 (b4 f n) key=true:=by simp only[R9,hfd];rfl
   refine wp_seq (rg O a6 [4,5] [] [] Z (hob:=?hob) fun X5 _ _ Z=>?_)
   case hob=>
    intro X;subst O
    repeat(first|exact trivial|refine⟨rfl,?_⟩|refine⟨⟨show(0:Int)<=(i:Int)by omega,show(i:Int)<(n:Int)by omega⟩,?_⟩)
   refine wp_ret ((rsi O a6 Z f8 (he:=?_)));subst O;rw[hV,hE];exact Sim.tup ⟨zr,Sim.bool rfl,trivial⟩
  have hk:¬(f i).key=key:=by subst O;simpa[std,a8]using hb
  refine wp_skip (rg O a6 [6,1,2] [2] [] Z fun X3 _ _ Z=>?_);have e:B.arith .add .i64 (i:Int) 1=((i+1:Nat):Int):=by subst O;exact o3 (n:=n) hin (by omega)
  refine⟨i+1,⟨by omega,fun t ht=>by
  by_cases h:t=i
  .rw [h];exact hk
  exact hlt t (by omega)⟩,by omega,by rw[<-e];exact Z⟩
 have hout:i=n:=by
  have:¬(i:Int)<(n:Int):=by subst O;simpa[std,a8]using hb
  omega
 rw[hout]at hlt;have hfd:=nr hlt;have hV:aD (b4 f n) key=⟨#[]⟩:=by simp only[aD,hfd]
 have hE:R9 (b4 f n) key=false:=by simp only[R9,hfd];rfl
 refine wp_exit (wp_seq (rg O a6 [4,5] [] [] Z fun X6 _ _ Z=>?_));refine wp_ret ((rsi O a6 Z f8 (he:=?_)));subst O;rw[hV,hE];exact Sim.tup ⟨zr,Sim.bool rfl,trivial⟩
theorem nB:j6 Tryz.prog 156:=fun _ _=>by kernel_rfl
theorem sV(b:Nat)(A:Option Addr)(n c:Nat)(f:Nat->Itm)(hn:n<=1000000)(key:Int):v8 Tryz.prog 156 [.ptr 0 b 0,.int .u64 key] [(0,⟨b,85,[l7 A n c f]⟩)] (fun _=>⟨.tup [.str (aD (b4 f n) key),.bool (.v (R9 (b4 f n) key))],[(0,[l7 A n c f])],[]⟩):=by
 intro m w hm hargs hpre;have hmx:maxLen=9223372036854775807:=rfl;unfold l7 at hpre ⊢;refine enX 34 hm hpre hargs Tryz.func156 fun B O a0 Z=>?_
 refine wp_seq (rg O a6 [0,1] [0] [] Z fun X0 _ _ Z=>?_);refine wp_seq (wp_seq (rg O a6 [6,0,1] [0] [] Z fun X1 _ _ Z=>?_));refine wp_block (l5 (ι:=Nat) (fun p=>[(6,.int .i64 (p:Int))]) (fun p=>[]) (fun p=>[]) (fun p=>p<=n/\∀t,t<p->(f t).key≠key) (fun p=>n-p) 0 ⟨Nat.zero_le _,fun t ht=>absurd ht (Nat.not_lt_zero _)⟩ Z ?_)
 rintro i ⟨hi,hlt⟩ _ _ Z
 try dsimp only at hi
 try dsimp only at hlt
 refine wp_seq (wp_seq (rg O a6 [13,6,0,1] [0] [] Z (hob:=?hob) fun X2 _ _ Z=>?_))
 case hob=>
  intro X;subst O
  repeat(first|exact trivial|refine⟨rfl,?_⟩|refine⟨⟨show(0:Int)<=(i:Int)by omega,show(i:Int)<(n:Int)by omega⟩,?_⟩)
 apply a7 Z rfl<;>intro hb Z
 .have hin:i<n:=by
   have:(i:Int)<(n:Int):=by subst O;simpa[std,a8]using hb
   omega
  refine wp_skip (wp_seq (wp_block (wp_seq (rg O a6 [25,6,0,1] [0] [] Z (hob:=?hob) fun X4 _ _ Z=>?_))))
  case hob=>
   intro X;subst O
   repeat(first|exact trivial|refine⟨rfl,?_⟩|refine⟨⟨show(0:Int)<=(i:Int)by omega,show(i:Int)<(n:Int)by omega⟩,?_⟩)
  apply a7 Z rfl<;>intro hb Z
  .have hk:(f i).key=key:=by subst O;simpa[std,a8]using hb
   have hfd:=qf hin hlt hk;have hV:aD (b4 f n) key=(f i).val:=by simp only[aD,hfd]
   have hE:R9 (b4 f n) key=true:=by simp only[R9,hfd];rfl
   refine wp_seq (rg O a6 [4,5] [0] [] Z (hob:=?hob) fun X5 _ _ Z=>?_)
   case hob=>
    intro X;subst O
    repeat(first|exact trivial|refine⟨rfl,?_⟩|refine⟨⟨show(0:Int)<=(i:Int)by omega,show(i:Int)<(n:Int)by omega⟩,?_⟩)
   refine wp_ret ((rx O a6 Z f8 [] (he:=?_) (hs:=?_)).1)
   .subst O;rw[hV,hE]
    exact Sim.tup ⟨zr,Sim.bool rfl,trivial⟩
   subst O;exact⟨rfl,⟨_,rfl,zl⟩,trivial⟩
  have hk:¬(f i).key=key:=by subst O;simpa[std,a8]using hb
  refine wp_skip (rg O a6 [6,0,1] [0] [] Z fun X3 _ _ Z=>?_);have e:B.arith .add .i64 (i:Int) 1=((i+1:Nat):Int):=by subst O;exact o3 (n:=n) hin (by omega)
  refine⟨i+1,⟨by omega,fun t ht=>by
  by_cases h:t=i
  .rw [h];exact hk
  exact hlt t (by omega)⟩,by omega,by rw[<-e];exact Z⟩
 have hout:i=n:=by
  have:¬(i:Int)<(n:Int):=by subst O;simpa[std,a8]using hb
  omega
 rw[hout]at hlt;have hfd:=nr hlt;have hV:aD (b4 f n) key=⟨#[]⟩:=by simp only[aD,hfd]
 have hE:R9 (b4 f n) key=false:=by simp only[R9,hfd];rfl
 refine wp_exit (wp_seq (rg O a6 [4,5] [0] [] Z fun X6 _ _ Z=>?_));refine wp_ret ((rx O a6 Z f8 [] (he:=?_) (hs:=?_)).1)
 .subst O;rw[hV,hE]
  exact Sim.tup ⟨zr,Sim.bool rfl,trivial⟩
 subst O;exact⟨rfl,⟨_,rfl,zl⟩,trivial⟩
theorem nA:j6 Tryz.prog 157:=fun _ _=>by kernel_rfl
theorem xy(b:Nat)(A:Option Addr)(n c:Nat)(f:Nat->Itm)(hn:n<=1000000)(key:Int):v8 Tryz.prog 157 [.ptr 0 b 0,.int .u64 key] [(0,⟨b,85,[l7 A n c f]⟩)] (fun x=>⟨l7 (x.A 0) (I4 (b4 f n) key).length (x.c 0) (itF (I4 (b4 f n) key)),[(0,[l7 A n c f])],[]⟩):=by
 intro m w hm hargs hpre;have hmx:maxLen=9223372036854775807:=rfl;unfold l7 at hpre ⊢;refine enX 37 hm hpre hargs Tryz.func157 fun B O a0 Z=>?_
 refine wp_seq (rg O a6 [0,1] [0] [] Z fun X0 _ _ Z=>?_);refine wp_seq (rg O a6 [5,0,1] [0,5,35] [] Z fun X1 _ _ Z=>?_);refine wp_seq (wp_seq (rg O a6 [5,6,0,1] [0,5,35] [] Z fun X2 _ _ Z=>?_));replace Z:=Z.headS (v':=.sl (some 5) none 0 0 2 (fun t=>itC C2)) (zq0) rfl;refine wp_block (l5 (ι:=Nat×Nat×(Nat->Itm)×Option Addr×Nat) (fun p=>[(5,.sl (some 5) p.2.2.2.1 p.2.1 p.2.2.2.2 2 (fun t=>itC (p.2.2.1 t))),(6,.int .i64 (p.1:Int))]) (fun p=>[]) (fun p=>[(5,⟨p.2.2.2.1,p.2.1,p.2.2.2.2,2,62⟩)]) (fun p=>p.1<=n/\p.2.1<=p.1/\b4 p.2.2.1 p.2.1=I4 (b4 f p.1) key) (fun p=>n-p.1) (0,0,fun _=>C2,none,0) ⟨Nat.zero_le _,Nat.le_refl _,rfl⟩ Z ?_)
 rintro⟨i,q,g,A1,c1⟩ ⟨hi,hq,hg⟩ _ _ Z
 try dsimp only at hi
 try dsimp only at hq
 try dsimp only at hg
 refine wp_seq (wp_seq (rg O a6 [13,5,6,0,1] [0,5,35] [] Z (hob:=?hob) fun X3 _ _ Z=>?_))
 case hob=>
  intro X;subst O
  repeat(first|exact trivial|refine⟨rfl,?_⟩|refine⟨⟨show(0:Int)<=(i:Int)by omega,show(i:Int)<(n:Int)by omega⟩,?_⟩)
 apply a7 Z rfl<;>intro hb Z
 .have hin:i<n:=by
   have:(i:Int)<(n:Int):=by subst O;simpa[std,a8]using hb
   omega
  refine wp_skip (wp_seq (wp_block (wp_seq (rg O a6 [25,5,6,0,1] [0,5,35] [] Z (hob:=?hob) fun X5 _ _ Z=>?_))))
  case hob=>
   intro X;subst O
   repeat(first|exact trivial|refine⟨rfl,?_⟩|refine⟨⟨show(0:Int)<=(i:Int)by omega,show(i:Int)<(n:Int)by omega⟩,?_⟩)
  apply a7 Z rfl<;>intro hb Z
  .have hk:(f i).key≠key:=by subst O;simpa[std,a8]using hb
   refine rg O a6 [5,6,0,1] [0,5,35] [] Z (hob:=?hob) fun X6 _ _ Z=>?_
   case hob=>
    intro X;subst O
    repeat(first|exact trivial|refine⟨⟨rfl,rfl,rfl⟩,?_⟩|refine⟨rfl,?_⟩|refine⟨⟨show(0:Int)<=(i:Int)by omega,show(i:Int)<(n:Int)by omega⟩,?_⟩|refine⟨⟨show q+1<=maxLen by omega,show(q+1)*_<=_ by omega⟩,?_⟩)
   replace Z:=Z.headS (v':=.sl (some 5) ((X6 9).A 0) (B.nadd q 1) ((X6 9).c 0) 2 (fun t=>itC (fA g q (f i) t))) (Sim.resl rfl (fun t ht=>by
    subst O;have ht2:t<q+1:=ht
    show L0 q (fun t=>itC (g t)) (K9 2 [.int .u64 (f i).key,.str (f i).val]) t=_
    unfold L0 fA
    split
    .rw [if_neg (by omega)]
    have:t=q:=by omega
    subst this;simp[K9,itC])) rfl
   refine rg O a6 [5,6,0,1] [0,5,35] [] Z fun X4 _ _ Z=>?_
   have e:B.arith .add .i64 (i:Int) 1=((i+1:Nat):Int):=by subst O;exact o3 (n:=n) hin (by omega)
   refine⟨(i+1,q+1,fA g q (f i),_,_),⟨by simp only;omega,by simp only;omega,?_⟩,by simp only;omega,by rw[<-e,show q+1=B.nadd q 1 by subst O;rfl];exact Z⟩
   simp only;rw[ge,hg,nG,if_neg hk]
  have hk:(f i).key=key:=by subst O;simpa[std,a8]using hb
  refine wp_skip (rg O a6 [5,6,0,1] [0,5,35] [] Z fun X4 _ _ Z=>?_);have e:B.arith .add .i64 (i:Int) 1=((i+1:Nat):Int):=by subst O;exact o3 (n:=n) hin (by omega)
  refine⟨(i+1,q,g,_,_),⟨by simp only;omega,by simp only;omega,?_⟩,by simp only;omega,by rw[<-e];exact Z⟩;simp only;rw[hg,nG,if_pos hk,List.append_nil]
 have hout:i=n:=by
  have:¬(i:Int)<(n:Int):=by subst O;simpa[std,a8]using hb
  omega
 rw[hout]at hg;refine wp_exit (wp_seq (rg O a6 [4] [0,4,5,35] [] Z fun X7 _ _ Z=>?_));refine wp_ret ((rx O a6 Z (⟨0,fun _=>A1,fun _=>c1,fun _=>⟨#[]⟩⟩) [] (he:=?_) (hs:=?_)).1)
 .subst O;exact Sim.resl (by rw[<-hg,i3]) (fun t ht=>by rw[<-hg,i3]at ht;rw[<-hg,u0 _ _ t ht])
 subst O;exact⟨rfl,⟨_,rfl,zl⟩,trivial⟩
def pS(l:List Itm)(key:Int)(val:ByteArray):ByteArray:=if 64<val.size then⟨#[]⟩else aD l key
def pB(l:List Itm)(key:Int)(val:ByteArray):Bool:=if 64<val.size then false else R9 l key
def pE(val:ByteArray):Int:=if 64<val.size then 2 else 0
def vf(f:Nat->Itm)(i:Nat)(x:Itm):Nat->Itm:=fun t=>if t<i then f t else if t=i then x else f (t-1)
theorem rC(f:Nat->Itm)(n i:Nat)(x:Itm)(h:i<=n):b4 (vf f i x) (n+1)=b4 f i++x::(b4 f n).drop i:=by
 apply List.ext_getElem
 .simp [b4];omega
 intro t h1 h2;have ht:t<n+1:=by simpa[b4]using h1
 simp only[b4,List.getElem_map,List.getElem_range,vf]
 by_cases hi:t<i
 .rw [List.getElem_append_left (by simpa using hi)]
  simp[hi]
 rw[List.getElem_append_right (by simp;omega)];obtain⟨q,rfl⟩:∃q,t=i+q:=⟨t-i,by omega⟩
 cases q with
 |zero=>simp
 |succ q=>
  simp only[List.length_map,List.length_range,show i+(q+1)-i=q+1 by omega,List.getElem_cons_succ,List.getElem_drop,List.getElem_map,List.getElem_range];rw[if_neg (by omega),if_neg (by omega)]
  congr 1
theorem Ae{l:List Itm}{f1:Nat->Itm}{n1 i:Nat}{key:Int}{val:ByteArray}(hl:b4 f1 n1=l)(hi:i<=n1)(hlt:∀t,t<i->(f1 t).key<key)(hend:i<n1-> ¬(f1 i).key<key) :
  mA l key++⟨key,val⟩::l.drop (mA l key).length=b4 (vf f1 i ⟨key,val⟩) (n1+1):=by
 have hlow:mA l key=b4 f1 i:=by
  rw[<-hl];unfold mA
  by_cases h:i=n1
  .rw [h]at hlt ⊢
   have:=List.takeWhile_append_of_pos (p:=fun x:Itm=>decide (x.key<key)) (l₁:=b4 f1 n1) (l₂:=[]) (fun a ha=>by
    obtain⟨t,ht,rfl⟩:=G3 ha
    simpa using hlt t ht)
   simpa using this
  rw[ic f1 n1 i (by omega),List.takeWhile_append_of_pos (fun a ha=>by
   obtain⟨t,ht,rfl⟩:=G3 ha
   simpa using hlt t ht),List.takeWhile_cons_of_neg (by simpa using hend (by omega))]
  simp
 rw[hlow,i3,rC f1 n1 i _ hi,hl]
theorem wW(l:List Itm)(key:Int)(val:ByteArray):(fO l key val).length<=l.length+1:=by
 unfold fO
 split
 .omega
 have h1:=List.length_filter_le (fun x=>!isK key x) l;have h2:(I4 l key).length<=l.length:=h1;have h3:(mA (I4 l key) key).length<=(I4 l key).length:=(List.takeWhile_sublist _).length_le;unfold fQ;simp only[List.length_append,List.length_cons,List.length_drop];omega
theorem sO(f:Nat->Itm):∀i,(ofL (b4 f i)).length<=i
 |0=>Nat.le_refl _
 |i+1=>by
  rw[U8];have:=wW (ofL (b4 f i)) (f i).key (f i).val;have:=sO f i;omega
def wR(kd:Int)(n:Nat)(f:Nat->Itm)(nx:Lab)(mk:Int)(key:Int)(val:ByteArray):Rec×Int:=
 if D9 kd n f nx mk=false then(i9,1)else if kd≠1 then(i9,13)else if 64<val.size then(i9,2)else if 16<(fQ (b4 f n) key val).length then(i9,12)else(⟨1,fQ (b4 f n) key val,nx,0⟩,0)
def oR(kd:Int)(n:Nat)(f:Nat->Itm)(nx:Lab)(mk:Int)(key:Int):Rec×Bool:=
 if(D9 kd n f nx mk&&R9 (b4 f n) key)=true then(⟨kd,I4 (b4 f n) key,nx,mk⟩,true)else(⟨kd,b4 f n,nx,mk⟩,false)
theorem jo:j6 Tryz.prog 100:=fun _ _=>by kernel_rfl
theorem AD(b:Nat)(A:Option Addr)(n c:Nat)(f:Nat->Itm)(hn:n<=1000000)(key:Int)(val:ByteArray):v8 Tryz.prog 100 [.ptr 0 b 0,.int .u64 key,.str val] [(0,⟨b,85,[l7 A n c f]⟩)] (fun x=>⟨.tup [.str (pS (b4 f n) key val),.bool (.v (pB (b4 f n) key val)),.int .i64 (pE val)],[(0,[l7 (x.A 0) (fO (b4 f n) key val).length (x.c 0) (itF (fO (b4 f n) key val))])],[]⟩):=by
 intro m w hm hargs hpre;have hmx:maxLen=9223372036854775807:=rfl;have SG:=sV b A n c f hn key;have SW:=xy b A n c f hn key;unfold l7 at hpre SG SW;obtain⟨l,hl⟩:=eqv (I4 (b4 f n) key);have hln:l.length<=n:=by rw[hl];have:=List.length_filter_le (fun x=>!isK key x) (b4 f n);rw[i3]at this;exact this
 rw[<-hl]at SW;obtain⟨n1,hn1⟩:=eqv (l.length);obtain⟨f1,hf1⟩:=eqv (itF l);rw[<-hn1,<-hf1]at SW;have hl1:b4 f1 n1=l:=by rw[hf1,hn1];exact I3 l
 obtain⟨fs,hfs⟩:=eqv (aD (b4 f n) key);obtain⟨fb,hfb⟩:=eqv (R9 (b4 f n) key);rw[<-hfs,<-hfb]at SG;refine enX 65 hm hpre hargs Tryz.func100 fun B O a0 Z=>?_
 refine wp_seq (rg O a6 [0,1,2] [0] [] Z fun X0 _ _ Z=>?_);refine wp_seq (wp_seq (rg O a6 [16,0,1,2] [0] [] Z fun X1 _ _ Z=>?_));apply a7 Z rfl<;>intro hb Z
 .have hlong:64<val.size:=by
   have:(64:Int)<(val.size:Int):=by subst O;simpa[std,a8]using hb
   omega
  refine wp_seq (rg O a6 [6,7,8] [0] [] Z fun X2 _ _ Z=>?_);refine wp_ret ((rx O a6 Z (⟨0,fun _=>A,fun _=>c,fun _=>⟨#[]⟩⟩) [] (he:=?_) (hs:=?_)).1)
  .subst O;simp only[pS,pB,pE,hlong,if_true]
   exact Sim.tup ⟨zr,Sim.bool rfl,zr,trivial⟩
  subst O;exact⟨rfl,⟨_,rfl,⟨by unfold fO;rw[if_pos hlong];exact Sim.resl (i3 f n).symm (fun t ht=>by rw[i3]at ht;rw[u0 f n t ht]),trivial⟩⟩,trivial⟩
 have hlong:¬64<val.size:=by
  have:¬(64:Int)<(val.size:Int):=by subst O;simpa[std,a8]using hb
  omega
 refine wp_skip (wp_seq (rg O a6 [0,1,2,9,10] [0] [(2,.x fun _=>⟨.tup [.str fs,.bool (.v fb)],[(0,[.sl none A n c 2 (fun i=>itC (f i))])],[]⟩)] Z (hob:=?hob) fun X3 _ _ Z=>?_))
 case hob=>
  intro X;subst O;exact⟨⟨nB,SG⟩,trivial⟩
 refine wp_seq (rg O a6 [11,0,1,2,9,10] [0] [(2,.x fun x=>⟨.sl none (x.A 0) n1 (x.c 0) 2 (fun i=>itC (f1 i)),[(0,[.sl none A n c 2 (fun i=>itC (f i))])],[]⟩)] Z (hob:=?hob) fun X4 _ _ Z=>?_)
 case hob=>
  intro X;subst O;exact⟨⟨nA,SW⟩,trivial⟩
 refine wp_seq (rg O a6 [12,0,1,2,9,10,11] [0,12,45,53,58] [] Z fun X5 _ _ Z=>?_);refine wp_seq (rg O a6 [12,13,0,1,2,9,10,11] [0,12,45,53,58] [] Z fun X6 _ _ Z=>?_);replace Z:=Z.headS (v':=.sl (some 12) none 0 0 2 (fun t=>itC (f1 t))) (zq0) rfl;refine wp_seq (wp_block (l5 (ι:=Nat×Option Addr×Nat) (fun p=>[(12,.sl (some 12) p.2.1 p.1 p.2.2 2 (fun t=>itC (f1 t))),(13,.int .i64 (p.1:Int))]) (fun p=>[]) (fun p=>[(12,⟨p.2.1,p.1,p.2.2,2,62⟩)]) (fun p=>p.1<=n1/\∀t,t<p.1->(f1 t).key<key) (fun p=>n1-p.1) (0,none,0) ⟨Nat.zero_le _,fun t ht=>absurd ht (Nat.not_lt_zero _)⟩ Z ?_))
 rintro⟨i,A1,c1⟩ ⟨hi,hlt⟩ _ _ Z
 try dsimp only at hi
 try dsimp only at hlt
 refine wp_seq (wp_seq (rg O a6 [38,12,13,0,1,2,9,10,11] [0,12,45,53,58] [] Z (hob:=?hob) fun X7 _ _ Z=>?_))
 case hob=>
  intro X;subst O;simp only[b7,Ob.holds,BE.den,List.mem_cons,List.not_mem_nil,or_false,forall_eq_or_imp,forall_eq]
  and_intros<;>first|trivial|(intro h;first|trivial|exact⟨Int.natCast_nonneg _,(of_decide_eq_true h:(i:Int)<(n1:Int))⟩)
 apply a7 Z rfl<;>intro hb Z
 .have h9:(if decide ((i:Int)<(n1:Int))=true then decide ((f1 i).key<key)else false)=true:=by subst O;exact hb
  rw[z8,Bool.and_eq_true,decide_eq_true_eq,decide_eq_true_eq]at h9;have hin:i<n1:=by omega
  have hk:=h9.2;refine wp_skip (wp_block (wp_seq (rg O a6 [12,13,0,1,2,9,10,11] [0,12,45,53,58] [] Z (hob:=?hob) fun X8 _ _ Z=>?_)))
  case hob=>
   intro X;subst O
   repeat(first|exact trivial|refine⟨⟨rfl,rfl,rfl⟩,?_⟩|refine⟨rfl,?_⟩|refine⟨⟨show(0:Int)<=(i:Int)by omega,show(i:Int)<(n1:Int)by omega⟩,?_⟩|refine⟨⟨show i+1<=maxLen by omega,show(i+1)*_<=_ by omega⟩,?_⟩)
  replace Z:=Z.headS (v':=.sl (some 12) ((X8 6).A 0) (B.nadd i 1) ((X8 6).c 0) 2 (fun t=>itC (f1 t))) (Sim.resl rfl (fun t ht=>by
   subst O;have ht2:t<i+1:=ht
   show L0 i (fun t=>itC (f1 t)) (K9 2 [.int .u64 (f1 i).key,.str (f1 i).val]) t=_
   unfold L0
   split
   .rfl
   .have:t=i:=by omega
    subst this;simp[K9,itC]
   )) rfl
  refine rg O a6 [12,13,0,1,2,9,10,11] [0,12,45,53,58] [] Z fun X9 _ _ Z=>?_
  have e:B.arith .add .i64 (i:Int) 1=((i+1:Nat):Int):=by subst O;exact o3 (n:=n1) hin (by omega)
  refine⟨(i+1,_,_),⟨by simp only;omega,fun t ht=>?_⟩,by simp only;omega,by rw[<-e,show i+1=B.nadd i 1 by subst O;rfl];exact Z⟩
  by_cases h:t=i
  .rw [h];exact hk
  exact hlt t (by simp only at ht;omega)
 have h9:(if decide ((i:Int)<(n1:Int))=true then decide ((f1 i).key<key)else false)=false:=by subst O;exact hb
 rw[z8]at h9;have hend:i<n1-> ¬(f1 i).key<key:=fun h hk=>by
  rw[decide_eq_true (show(i:Int)<(n1:Int)by omega),decide_eq_true hk]at h9
  cases h9
 have hPL:=Ae (val:=val) hl1 hi hlt hend;have hPM:fO (b4 f n) key val=b4 (vf f1 i ⟨key,val⟩) (n1+1):=by unfold fO fQ;rw[if_neg hlong,<-hl];exact hPL
 refine wp_exit (wp_seq (rg O a6 [12,13,0,1,2,9,10,11] [0,12,45,53,58] [] Z (hob:=?hob) fun X10 _ _ Z=>?_))
 case hob=>
  intro X;subst O
  repeat(first|exact trivial|refine⟨⟨rfl,rfl,rfl⟩,?_⟩|refine⟨rfl,?_⟩|refine⟨⟨show i+1<=maxLen by omega,show(i+1)*_<=_ by omega⟩,?_⟩)
 replace Z:=Z.headS (v':=.sl (some 12) ((X10 5).A 0) (B.nadd i 1) ((X10 5).c 0) 2 (fun t=>itC ((fA f1 i ⟨key,val⟩) t))) (Sim.resl rfl (fun t ht=>by
  subst O;have ht2:t<i+1:=ht
  show L0 i (fun t=>itC (f1 t)) (K9 2 [.int .u64 key,.str val]) t=_
  unfold L0 fA
  split
  .rw [if_neg (by omega)]
  .have:t=i:=by omega
   subst this;simp[K9,itC]
  )) rfl
 refine wp_seq (rg O a6 [12,0,9,10] [0,12,45,53,58] [] Z (hob:=?hob) fun X11 _ _ Z=>?_)
 case hob=>
  intro X;subst O
  repeat(first|exact trivial|refine⟨⟨rfl,rfl,rfl⟩,?_⟩|refine⟨⟨show(0:Int)<=(i:Int)by omega,show(i:Int)<=(n1:Int)by omega,Int.le_refl _⟩,?_⟩|refine⟨⟨show i+1+(n1-i)<=maxLen by omega,show(i+1+(n1-i))*_<=_ by omega⟩,?_⟩|refine⟨rfl,?_⟩)
 replace Z:=Z.headS (v':=.sl (some 12) ((X11 4).A 0) (B.nadd (B.nadd i 1) (B.nsub (B.toNat (B.ofNat n1)) (B.toNat (i:Int)))) ((X11 4).c 0) 2 (fun t=>itC (vf f1 i ⟨key,val⟩ t))) (Sim.resl rfl (fun t ht=>by
  subst O;have ht2:t<i+1+((n1:Int).toNat-(i:Int).toNat):=ht
  show L0 (i+1) (fun t=>itC (fA f1 i ⟨key,val⟩ t)) (xZ i (fun t=>itC (f1 t))) t=_
  unfold L0 fA vf xZ
  by_cases h1:t<i
  .simp [h1,show t<i+1 by omega,show ¬t=i by omega]
  by_cases h2:t=i
  .simp [h2]
  simp[h1,h2,show ¬t<i+1 by omega,show i+(t-(i+1))=t-1 by omega])) rfl
 refine wp_seq (rg O a6 [9,10] [0] [] Z (hob:=?hob) fun X12 _ _ Z=>?_)
 case hob=>
  intro X;subst O
  repeat(first|exact trivial|refine⟨rfl,?_⟩|refine⟨⟨show(0:Int)<=(i:Int)by omega,show(i:Int)<(n:Int)by omega⟩,?_⟩)
 refine wp_seq (rg O a6 [6,7,8] [0] [] Z fun X13 _ _ Z=>?_);refine wp_ret ((rx O a6 Z (⟨0,fun _=>(X11 4).A 0,fun _=>(X11 4).c 0,fun _=>⟨#[]⟩⟩) [] (he:=?_) (hs:=?_)).1)
 .subst O;simp only[pS,pB,pE,hlong,if_false,<-hfs,<-hfb]
  exact zr
 subst O;exact⟨rfl,⟨_,rfl,⟨by rw[hPM];exact Sim.resl (by rw[i3];show i+1+((n1:Int).toNat-(i:Int).toNat)=n1+1;omega) (fun t ht=>by rw[i3]at ht;rw[u0 _ _ t ht]),trivial⟩⟩,trivial⟩
theorem xz(k0:Nat)(b:Nat)(A:Option Addr)(n c:Nat)(f:Nat->Itm)(hn:n<=1000000)(key:Int)(val:ByteArray):v8 Tryz.prog 100 [.ptr k0 b 0,.int .u64 key,.str val] [(k0,⟨b,85,[l7 A n c f]⟩)] (fun x=>⟨.tup [.str (pS (b4 f n) key val),.bool (.v (pB (b4 f n) key val)),.int .i64 (pE val)],[(k0,[l7 (x.A 0) (fO (b4 f n) key val).length (x.c 0) (itF (fO (b4 f n) key val))])],[]⟩):=
 (AD b A n c f hn key val).re (by repeat(first|exact trivial|refine⟨Sim.ptr,?_⟩|refine⟨Sim.fn ⟨Sim.ptr,trivial⟩ trivial,?_⟩|refine⟨Sim.fn trivial ⟨Sim.ptr,trivial⟩,?_⟩|refine⟨zr,?_⟩)) rfl (fun x=>⟨rfl,rfl,zr,rfl⟩)
theorem ny:j6 Tryz.prog 173:=fun _ _=>by kernel_rfl
theorem xD(b:Nat)(A:Option Addr)(n c:Nat)(f:Nat->Itm)(hn:n<=1000000)(key:Int):v8 Tryz.prog 173 [.ptr 0 b 0,.int .u64 key] [(0,⟨b,85,[l7 A n c f]⟩)] (fun x=>⟨.tup [.str (aD (b4 f n) key),.bool (.v (R9 (b4 f n) key))],[(0,[l7 (x.A 0) (I4 (b4 f n) key).length (x.c 0) (itF (I4 (b4 f n) key))])],[]⟩):=by
 intro m w hm hargs hpre;have SG:=sV b A n c f hn key;have SW:=xy b A n c f hn key;unfold l7 at hpre SG SW;obtain⟨l,hl⟩:=eqv (I4 (b4 f n) key);rw[<-hl]at SW ⊢;obtain⟨n1,hn1⟩:=eqv (l.length);obtain⟨f1,hf1⟩:=eqv (itF l);rw[<-hn1,<-hf1]at SW ⊢
 generalize aD (b4 f n) key=fs at SG ⊢
 generalize R9 (b4 f n) key=fb at SG ⊢
 refine enX 22 hm hpre hargs Tryz.func173 fun B O a0 Z=>?_
 refine wp_seq (rg O a6 [0,1] [0] [] Z fun X0 _ _ Z=>?_);refine wp_seq (rg O a6 [0,1,6,7] [0] [(2,.x fun _=>⟨.tup [.str fs,.bool (.v fb)],[(0,[.sl none A n c 2 (fun i=>itC (f i))])],[]⟩)] Z (hob:=?hob) fun X1 _ _ Z=>?_)
 case hob=>
  intro X;subst O;exact⟨⟨nB,SG⟩,trivial⟩
 refine wp_seq (rg O a6 [6,7] [0] [(3,.x fun x=>⟨.sl none (x.A 0) n1 (x.c 0) 2 (fun i=>itC (f1 i)),[(0,[.sl none A n c 2 (fun i=>itC (f i))])],[]⟩)] Z (hob:=?hob) fun X2 _ _ Z=>?_)
 case hob=>
  intro X;subst O;repeat(first|exact trivial|refine⟨rfl,?_⟩|refine⟨⟨nA,SW⟩,?_⟩)
 refine wp_seq (rg O a6 [4,5] [0] [] Z fun X3 _ _ Z=>?_);refine wp_ret ((rx O a6 Z (⟨0,fun _=>(X2 3).A 0,fun _=>(X2 3).c 0,fun _=>⟨#[]⟩⟩) [] (hs:=?_)).1);subst O;exact⟨rfl,⟨_,rfl,⟨zr,trivial⟩⟩,trivial⟩
theorem AG(k0:Nat)(b:Nat)(A:Option Addr)(n c:Nat)(f:Nat->Itm)(hn:n<=1000000)(key:Int):v8 Tryz.prog 173 [.ptr k0 b 0,.int .u64 key] [(k0,⟨b,85,[l7 A n c f]⟩)] (fun x=>⟨.tup [.str (aD (b4 f n) key),.bool (.v (R9 (b4 f n) key))],[(k0,[l7 (x.A 0) (I4 (b4 f n) key).length (x.c 0) (itF (I4 (b4 f n) key))])],[]⟩):=
 (xD b A n c f hn key).re (by repeat(first|exact trivial|refine⟨Sim.ptr,?_⟩|refine⟨Sim.fn ⟨Sim.ptr,trivial⟩ trivial,?_⟩|refine⟨Sim.fn trivial ⟨Sim.ptr,trivial⟩,?_⟩|refine⟨zr,?_⟩)) rfl (fun x=>⟨rfl,rfl,zr,rfl⟩)
theorem ii:j6 Tryz.prog 44:=fun _ _=>by kernel_rfl
theorem Dq(A:Option Addr)(n c:Nat)(f:Nat->Itm)(hn:n<=1000000):v8 Tryz.prog 44 [l7 A n c f] [] (fun x=>⟨.ptr 6 x.b 0,[],[(6,⟨x.b,85,[l7 (x.A 0) (ofL (b4 f n)).length (x.c 0) (itF (ofL (b4 f n)))]⟩)]⟩):=by
 intro m w hm hargs hpre;have hmx:maxLen=9223372036854775807:=rfl;unfold l7 at hargs;refine enX 26 hm hpre hargs Tryz.func44 fun B O a0 Z=>?_
 refine wp_seq (rg O a6 [0] [] [] Z fun X0 _ _ Z=>?_);refine wp_seq (rg O a6 [3,0] [6] [] Z fun X1 _ _ Z=>?_);replace Z:=Z.memS (cells':=[.sl none none 0 0 2 (fun t=>itC (itF [] t))]) ⟨zq0,trivial⟩;refine wp_seq (wp_seq (rg O a6 [4,0,3] [6] [] Z fun X2 _ _ Z=>?_));refine wp_block (l5 (ι:=Nat×Nat×(Nat->Itm)×Option Addr×Nat) (fun p=>[(4,.int .i64 (p.1:Int))]) (fun p=>[(6,⟨(X1 1).b,85,[.sl none p.2.2.2.1 p.2.1 p.2.2.2.2 2 (fun t=>itC (p.2.2.1 t))]⟩)]) (fun p=>[]) (fun p=>p.1<=n/\p.2.1=(ofL (b4 f p.1)).length/\p.2.2.1=itF (ofL (b4 f p.1))) (fun p=>n-p.1) (0,0,itF [],none,0) ⟨Nat.zero_le _,rfl,rfl⟩ Z ?_)
 rintro⟨i,m1,g,A1,c1⟩ ⟨hi,hm1,hg⟩ _ _ Z
 try dsimp only at hi
 try dsimp only at hm1
 try dsimp only at hg
 refine wp_seq (wp_seq (rg O a6 [10,4,0,3] [6] [] Z fun X3 _ _ Z=>?_));apply a7 Z rfl<;>intro hb Z
 .have hin:i<n:=by
   have:(i:Int)<(n:Int):=by subst O;simpa[std,a8]using hb
   omega
  have hml:m1<=1000000:=by rw[hm1];have:=sO f i;omega
  have hfm:b4 g m1=ofL (b4 f i):=by rw[hg,hm1];exact I3 _
  have SP:=xz 6 (X1 1).b A1 m1 c1 g hml (f i).key (f i).val;unfold l7 at SP;obtain⟨l2,hl2⟩:=eqv (fO (b4 g m1) (f i).key (f i).val);rw[<-hl2]at SP;obtain⟨n2,hn2⟩:=eqv (l2.length);obtain⟨g2,hg2⟩:=eqv (itF l2);rw[<-hn2,<-hg2]at SP
  generalize pS (b4 g m1) (f i).key (f i).val=ps at SP
  generalize pB (b4 g m1) (f i).key (f i).val=pb at SP
  generalize pE (f i).val=pe at SP
  refine wp_skip (wp_seq (wp_block (drg O a6 [4,0,3] [6] [(11,.x fun x=>⟨.tup [.str ps,.bool (.v pb),.int .i64 pe],[(6,[.sl none (x.A 0) n2 (x.c 0) 2 (fun t=>itC (g2 t))])],[]⟩)] Z (hob:=?hob) fun X5 _ _ Z=>?_)))
  case hob=>
   intro X;subst O
   repeat(first|exact trivial|refine⟨rfl,?_⟩|refine⟨⟨show(0:Int)<=(i:Int)by omega,show(i:Int)<(n:Int)by omega⟩,?_⟩|refine⟨⟨jo,SP⟩,?_⟩)
  refine rg O a6 [4,0,3] [6] [] Z fun X4 _ _ Z=>?_
  have e:B.arith .add .i64 (i:Int) 1=((i+1:Nat):Int):=by subst O;exact o3 (n:=n) hin (by omega)
  refine⟨(i+1,n2,g2,(X5 11).A 0,(X5 11).c 0),⟨by simp only;omega,?_,?_⟩,by simp only;omega,by rw[<-e];exact Z⟩
  .simp only;rw[U8,hn2,hl2,hfm]
  simp only;rw[U8,hg2,hl2,hfm]
 have hout:i=n:=by
  have:¬(i:Int)<(n:Int):=by subst O;simpa[std,a8]using hb
  omega
 rw[hout]at hm1 hg;refine wp_exit (wp_seq (rg O a6 [2] [6] [] Z fun X6 _ _ Z=>?_));refine wp_ret ((rx O a6 Z (⟨(X1 1).b,fun _=>A1,fun _=>c1,fun _=>⟨#[]⟩⟩) [6] (he:=?_) (hs:=?_) (hn:=?_)).1)
 .subst O;exact zr
 .exact trivial
 exact⟨⟨_,rfl,⟨by rw[hg,hm1];exact zr,trivial⟩⟩,fun e he=>(by cases he),(by simp),trivial⟩
theorem zP(A:Option Addr)(n c:Nat)(f:Nat->Itm)(hn:n<=1000000)(kd:Int)(nx:Lab)(mk:Int)(hv:U64 nx.bits)(key:Int)(val:ByteArray):j7 Tryz.prog 118 [F2 A n c f kd nx mk,.int .u64 key,.str val] (fun x=>.tup [bB (x.A 0) (x.c 0) (wR kd n f nx mk key val).1,.int .i64 (wR kd n f nx mk key val).2]):=by
 intro m w hm hargs;have hmx:maxLen=9223372036854775807:=rfl;have SI:=iQ A n c f (by omega) kd nx mk hv;unfold F2 l7 at hargs SI;obtain⟨ir,hir⟩:=eqv (D9 kd n f nx mk);rw[<-hir]at SI;refine en 42 hm hargs Tryz.func118 fun B O a0 Z=>?_
 refine wp_seq (rg O a6 [1,2,3,6] [3,6] [] Z fun X0 _ _ Z=>?_);refine wp_seq (wp_seq (rg O a6 [11,1,2,3,6] [3,6] [(1,.r fun _=>.bool (.v ir))] Z (hob:=?hob) fun X1 _ _ Z=>?_))
 case hob=>
  intro X;subst O
  repeat(first|exact trivial|refine⟨rfl,?_⟩|refine⟨fun _=>rfl,?_⟩|refine⟨f7 (Kk:=noK) _ _ _ _,?_⟩|refine⟨fun _=>f7 (Kk:=noK) _ _ _ _,?_⟩|refine⟨⟨M9,SI⟩,?_⟩|refine⟨fun _=>⟨M9,SI⟩,?_⟩)
 apply a7 Z rfl<;>intro hb Z
 .have hb2:B.not ir=true:=hb
  have hirf:ir=false:=by subst O;cases ir<;>first|rfl|(simp[std]at hb2)
  rw[hirf]at hir;have hW:(wR kd n f nx mk key val)=(i9,1):=by unfold wR;rw[<-hir];rfl
  refine wp_seq (rg O a6 [6,7] [6] [] Z (hob:=?hob) fun X2 _ _ Z=>?_)
  case hob=>
   intro X;subst O
   repeat(first|exact trivial|refine⟨rfl,?_⟩|refine⟨fun _=>rfl,?_⟩|refine⟨f7 (Kk:=noK) _ _ _ _,?_⟩|refine⟨fun _=>f7 (Kk:=noK) _ _ _ _,?_⟩)
  refine wp_ret ((rsi O a6 Z (⟨0,fun _=>none,fun _=>0,fun _=>⟨#[]⟩⟩) (he:=?_)));subst O;rw[hW];exact Sim.tup ⟨Sim.agg ⟨zr,zq0,zr,zr,zr,trivial⟩,zr,trivial⟩
 have hb2:B.not ir=false:=hb;have hirt:ir=true:=by subst O;cases ir<;>first|rfl|(simp[std]at hb2)
 rw[hirt]at hir;obtain⟨hkd1,hkd5,hn16,hnl,hok⟩:=E4 hir.symm;refine wp_skip (wp_seq (wp_seq (rg O a6 [15,1,2,3,6] [3,6] [] Z (hob:=?hob) fun X3 _ _ Z=>?_)))
 case hob=>
  intro X;subst O
  repeat(first|exact trivial|refine⟨rfl,?_⟩|refine⟨fun _=>rfl,?_⟩|refine⟨f7 (Kk:=noK) _ _ _ _,?_⟩|refine⟨fun _=>f7 (Kk:=noK) _ _ _ _,?_⟩)
 apply a7 Z rfl<;>intro hb Z
 .have hk:kd≠1:=by subst O;simpa[std,a8]using hb
  have hW:(wR kd n f nx mk key val)=(i9,13):=by unfold wR;rw[<-hir];simp[hk]
  refine wp_seq (rg O a6 [6,7] [6] [] Z (hob:=?hob) fun X4 _ _ Z=>?_)
  case hob=>
   intro X;subst O
   repeat(first|exact trivial|refine⟨rfl,?_⟩|refine⟨fun _=>rfl,?_⟩|refine⟨f7 (Kk:=noK) _ _ _ _,?_⟩|refine⟨fun _=>f7 (Kk:=noK) _ _ _ _,?_⟩)
  refine wp_ret ((rsi O a6 Z (⟨0,fun _=>none,fun _=>0,fun _=>⟨#[]⟩⟩) (he:=?_)));subst O;rw[hW];exact Sim.tup ⟨Sim.agg ⟨zr,zq0,zr,zr,zr,trivial⟩,zr,trivial⟩
 have hk:kd=1:=by subst O;simpa[std,a8]using hb
 refine wp_skip (wp_seq (wp_seq (rg O a6 [19,1,2,3,6] [3,6] [] Z fun X5 _ _ Z=>?_)));apply a7 Z rfl<;>intro hb Z
 .have hlong:64<val.size:=by
   have:(64:Int)<(val.size:Int):=by subst O;simpa[std,a8]using hb
   omega
  have hW:(wR kd n f nx mk key val)=(i9,2):=by unfold wR;rw[<-hir];simp[hk,hlong]
  refine wp_seq (rg O a6 [6,7] [6] [] Z (hob:=?hob) fun X6 _ _ Z=>?_)
  case hob=>
   intro X;subst O
   repeat(first|exact trivial|refine⟨rfl,?_⟩|refine⟨fun _=>rfl,?_⟩|refine⟨f7 (Kk:=noK) _ _ _ _,?_⟩|refine⟨fun _=>f7 (Kk:=noK) _ _ _ _,?_⟩)
  refine wp_ret ((rsi O a6 Z (⟨0,fun _=>none,fun _=>0,fun _=>⟨#[]⟩⟩) (he:=?_)));subst O;rw[hW];exact Sim.tup ⟨Sim.agg ⟨zr,zq0,zr,zr,zr,trivial⟩,zr,trivial⟩
 have hlong:¬64<val.size:=by
  have:¬(64:Int)<(val.size:Int):=by subst O;simpa[std,a8]using hb
  omega
 have SO:=(Dq A n c f hn).re (args':=[l7 A n c f]) (pre':=[]) (res':=fun x=>⟨.ptr 8 x.b 0,[],[(8,⟨x.b,85,[l7 (x.A 0) (ofL (b4 f n)).length (x.c 0) (itF (ofL (b4 f n)))]⟩)]⟩) (zl) rfl (fun x=>⟨rfl,rfl,Sim.ptr,rfl⟩);rw[ol hok n (Nat.le_refl _)]at SO;unfold l7 at SO;obtain⟨n0,hn0⟩:=eqv ((b4 f n).length);obtain⟨g0,hg0⟩:=eqv (itF (b4 f n));rw[<-hn0,<-hg0]at SO;have hn0n:n0=n:=by rw[hn0,i3]
 have hfg:b4 g0 n0=(b4 f n):=by rw[hg0,hn0];exact I3 _
 refine wp_skip (wp_seq (rg O a6 [8,1,2,3,6] [3,6,8] [(2,.x fun x=>⟨.ptr 8 x.b 0,[],[(8,⟨x.b,85,[.sl none (x.A 0) n0 (x.c 0) 2 (fun i=>itC (g0 i))]⟩)]⟩)] Z (hob:=?hob) fun X7 _ _ Z=>?_))
 case hob=>
  intro X;subst O
  repeat(first|exact trivial|refine⟨rfl,?_⟩|refine⟨fun _=>rfl,?_⟩|refine⟨f7 (Kk:=noK) _ _ _ _,?_⟩|refine⟨fun _=>f7 (Kk:=noK) _ _ _ _,?_⟩|refine⟨⟨ii,SO⟩,?_⟩|refine⟨fun _=>⟨ii,SO⟩,?_⟩)
 have SP:=xz 8 (X7 2).b ((X7 2).A 0) n0 ((X7 2).c 0) g0 (by omega) key val;unfold l7 at SP;obtain⟨l2,hl2⟩:=eqv (fO (b4 g0 n0) key val);rw[<-hl2]at SP;obtain⟨n2,hn2⟩:=eqv (l2.length);obtain⟨g2,hg2⟩:=eqv (itF l2);rw[<-hn2,<-hg2]at SP;have hl3:l2=fQ (b4 f n) key val:=by rw[hl2,hfg];unfold fO;rw[if_neg hlong]
 generalize pS (b4 g0 n0) key val=ps at SP
 generalize pB (b4 g0 n0) key val=pb at SP
 generalize pE val=pe at SP
 refine wp_seq (rg O a6 [8,3,6] [3,6,8] [(3,.x fun x=>⟨.tup [.str ps,.bool (.v pb),.int .i64 pe],[(8,[.sl none (x.A 0) n2 (x.c 0) 2 (fun t=>itC (g2 t))])],[]⟩)] Z (hob:=?hob) fun X8 _ _ Z=>?_)
 case hob=>
  intro X;subst O
  repeat(first|exact trivial|refine⟨rfl,?_⟩|refine⟨fun _=>rfl,?_⟩|refine⟨f7 (Kk:=noK) _ _ _ _,?_⟩|refine⟨fun _=>f7 (Kk:=noK) _ _ _ _,?_⟩|refine⟨⟨jo,SP⟩,?_⟩|refine⟨fun _=>⟨jo,SP⟩,?_⟩)
 refine wp_seq (wp_seq (rg O a6 [33,8,3,6] [3,6,8] [] Z (hob:=?hob) fun X9 _ _ Z=>?_))
 case hob=>
  intro X;subst O
  repeat(first|exact trivial|refine⟨rfl,?_⟩|refine⟨fun _=>rfl,?_⟩|refine⟨f7 (Kk:=noK) _ _ _ _,?_⟩|refine⟨fun _=>f7 (Kk:=noK) _ _ _ _,?_⟩)
 apply a7 Z rfl<;>intro hb Z
 .have hfull:16<n2:=by
   have:(16:Int)<(n2:Int):=by subst O;simpa[std,a8]using hb
   omega
  have hW:(wR kd n f nx mk key val)=(i9,12):=by unfold wR;rw[<-hir];simp[hk,hlong];rw[<-hl3,<-hn2];simp[hfull]
  refine wp_seq (rg O a6 [6,7] [6] [] Z (hob:=?hob) fun X10 _ _ Z=>?_)
  case hob=>
   intro X;subst O
   repeat(first|exact trivial|refine⟨rfl,?_⟩|refine⟨fun _=>rfl,?_⟩|refine⟨f7 (Kk:=noK) _ _ _ _,?_⟩|refine⟨fun _=>f7 (Kk:=noK) _ _ _ _,?_⟩)
  refine wp_ret ((rsi O a6 Z (⟨0,fun _=>none,fun _=>0,fun _=>⟨#[]⟩⟩) (he:=?_)));subst O;rw[hW];exact Sim.tup ⟨Sim.agg ⟨zr,zq0,zr,zr,zr,trivial⟩,zr,trivial⟩
 have hfull:¬16<n2:=by
  have:¬(16:Int)<(n2:Int):=by subst O;simpa[std,a8]using hb
  omega
 have hW:(wR kd n f nx mk key val)=(⟨1,l2,nx,0⟩,0):=by unfold wR;rw[<-hir];simp[hk,hlong];rw[<-hl3,<-hn2];simp[hfull]
 refine wp_skip (wp_seq (drg O a6 [6,7] [6] [] Z (hob:=?hob) fun X11 _ _ Z=>?_))
 case hob=>
  intro X;subst O
  repeat(first|exact trivial|refine⟨rfl,?_⟩|refine⟨fun _=>rfl,?_⟩|refine⟨f7 (Kk:=noK) _ _ _ _,?_⟩|refine⟨fun _=>f7 (Kk:=noK) _ _ _ _,?_⟩)
 refine wp_ret ((rsi O a6 Z (⟨0,fun _=>(X8 3).A 0,fun _=>(X8 3).c 0,fun _=>⟨#[]⟩⟩) (he:=?_)));subst O;rw[hW];exact Sim.tup ⟨Sim.agg ⟨zr,Sim.resl hn2 (fun t ht=>by rw[hg2]),zr,zr,zr,trivial⟩,zr,trivial⟩
theorem zO(A:Option Addr)(n c:Nat)(f:Nat->Itm)(hn:n<=1000000)(kd:Int)(nx:Lab)(mk:Int)(hv:U64 nx.bits)(key:Int):j7 Tryz.prog 121 [F2 A n c f kd nx mk,.int .u64 key] (fun x=>.tup [bB (x.A 0) (x.c 0) (oR kd n f nx mk key).1,.bool (.v (oR kd n f nx mk key).2)]):=by
 intro m w hm hargs;have hmx:maxLen=9223372036854775807:=rfl;have SI:=iQ A n c f (by omega) kd nx mk hv;have SF:=zY A n c f hn kd nx mk key;unfold F2 l7 at hargs SI SF;obtain⟨ir,hir⟩:=eqv (D9 kd n f nx mk);rw[<-hir]at SI;obtain⟨fb,hfb⟩:=eqv (R9 (b4 f n) key);rw[<-hfb]at SF
 generalize aD (b4 f n) key=fs at SF
 refine en 40 hm hargs Tryz.func121 fun B O a0 Z=>?_
 refine wp_seq (rg O a6 [1,2,4] [2,4] [] Z fun X0 _ _ Z=>?_);refine wp_seq (rg O a6 [1,2,4,7] [2,4] [(2,.r fun _=>.tup [.str fs,.bool (.v fb)])] Z (hob:=?hob) fun X1 _ _ Z=>?_)
 case hob=>
  intro X;subst O
  repeat(first|exact trivial|refine⟨rfl,?_⟩|refine⟨fun _=>rfl,?_⟩|refine⟨f7 (Kk:=noK) _ _ _ _,?_⟩|refine⟨fun _=>f7 (Kk:=noK) _ _ _ _,?_⟩|refine⟨⟨nD,SF⟩,?_⟩|refine⟨fun _=>⟨nD,SF⟩,?_⟩)
 refine wp_seq (wp_seq (rg O a6 [21,1,2,4] [2,4] [(1,.r fun _=>.bool (.v ir))] Z (hob:=?hob) fun X2 _ _ Z=>?_))
 case hob=>
  intro X;subst O
  repeat(first|exact trivial|refine⟨rfl,?_⟩|refine⟨fun _=>rfl,?_⟩|refine⟨f7 (Kk:=noK) _ _ _ _,?_⟩|refine⟨fun _=>f7 (Kk:=noK) _ _ _ _,?_⟩|refine⟨⟨M9,SI⟩,?_⟩|refine⟨fun _=>⟨M9,SI⟩,?_⟩)
 apply a7 Z rfl<;>intro hb Z
 .have h9:(if(!ir)=true then true else !fb)=true:=by subst O;exact hb
  have hW:(oR kd n f nx mk key)=(⟨kd,(b4 f n),nx,mk⟩,false):=by unfold oR;rw[<-hir,<-hfb];cases ir<;>cases fb<;>first|rfl|(simp at h9)
  refine wp_seq (rg O a6 [4,5] [4] [] Z (hob:=?hob) fun X3 _ _ Z=>?_)
  case hob=>
   intro X;subst O
   repeat(first|exact trivial|refine⟨rfl,?_⟩|refine⟨fun _=>rfl,?_⟩|refine⟨f7 (Kk:=noK) _ _ _ _,?_⟩|refine⟨fun _=>f7 (Kk:=noK) _ _ _ _,?_⟩)
  refine wp_ret ((rsi O a6 Z (⟨0,fun _=>A,fun _=>c,fun _=>⟨#[]⟩⟩) (he:=?_)));subst O;rw[hW];exact Sim.tup ⟨Sim.agg ⟨zr,Sim.resl (i3 f n).symm (fun t ht=>by rw[i3]at ht;rw[u0 f n t ht]),zr,zr,zr,trivial⟩,Sim.bool rfl,trivial⟩
 have h9:(if(!ir)=true then true else !fb)=false:=by subst O;exact hb
 have hirt:ir=true:=by cases ir<;>first|rfl|(simp at h9)
 have hfbt:fb=true:=by rw[hirt]at h9;cases fb<;>first|rfl|(simp at h9)
 rw[hirt]at hir;obtain⟨hkd1,hkd5,hn16,hnl,hok⟩:=E4 hir.symm;have hW:(oR kd n f nx mk key)=(⟨kd,I4 (b4 f n) key,nx,mk⟩,true):=by unfold oR;rw[<-hir,<-hfb,hfbt];rfl
 have SO:=(Dq A n c f hn).re (args':=[l7 A n c f]) (pre':=[]) (res':=fun x=>⟨.ptr 8 x.b 0,[],[(8,⟨x.b,85,[l7 (x.A 0) (ofL (b4 f n)).length (x.c 0) (itF (ofL (b4 f n)))]⟩)]⟩) (zl) rfl (fun x=>⟨rfl,rfl,Sim.ptr,rfl⟩);rw[ol hok n (Nat.le_refl _)]at SO;unfold l7 at SO;obtain⟨n0,hn0⟩:=eqv ((b4 f n).length);obtain⟨g0,hg0⟩:=eqv (itF (b4 f n));rw[<-hn0,<-hg0]at SO;have hn0n:n0=n:=by rw[hn0,i3]
 have hfg:b4 g0 n0=(b4 f n):=by rw[hg0,hn0];exact I3 _
 refine wp_skip (wp_seq (rg O a6 [8,1,2,4] [2,4,8] [(2,.x fun x=>⟨.ptr 8 x.b 0,[],[(8,⟨x.b,85,[.sl none (x.A 0) n0 (x.c 0) 2 (fun i=>itC (g0 i))]⟩)]⟩)] Z (hob:=?hob) fun X4 _ _ Z=>?_))
 case hob=>
  intro X;subst O
  repeat(first|exact trivial|refine⟨rfl,?_⟩|refine⟨fun _=>rfl,?_⟩|refine⟨f7 (Kk:=noK) _ _ _ _,?_⟩|refine⟨fun _=>f7 (Kk:=noK) _ _ _ _,?_⟩|refine⟨⟨ii,SO⟩,?_⟩|refine⟨fun _=>⟨ii,SO⟩,?_⟩)
 have SP:=AG 8 (X4 2).b ((X4 2).A 0) n0 ((X4 2).c 0) g0 (by omega) key;unfold l7 at SP;rw[hfg]at SP;obtain⟨l2,hl2⟩:=eqv (I4 (b4 f n) key);rw[<-hl2]at SP hW;obtain⟨n2,hn2⟩:=eqv (l2.length);obtain⟨g2,hg2⟩:=eqv (itF l2);rw[<-hn2,<-hg2]at SP
 generalize aD (b4 f n) key=ps at SP
 generalize R9 (b4 f n) key=pb at SP
 refine wp_seq (rg O a6 [8,2,4] [2,4,8] [(2,.x fun x=>⟨.tup [.str ps,.bool (.v pb)],[(8,[.sl none (x.A 0) n2 (x.c 0) 2 (fun t=>itC (g2 t))])],[]⟩)] Z (hob:=?hob) fun X5 _ _ Z=>?_)
 case hob=>
  intro X;subst O
  repeat(first|exact trivial|refine⟨rfl,?_⟩|refine⟨fun _=>rfl,?_⟩|refine⟨f7 (Kk:=noK) _ _ _ _,?_⟩|refine⟨fun _=>f7 (Kk:=noK) _ _ _ _,?_⟩|refine⟨⟨ny,SP⟩,?_⟩|refine⟨fun _=>⟨ny,SP⟩,?_⟩)
 refine wp_seq (drg O a6 [4,5] [4] [] Z (hob:=?hob) fun X6 _ _ Z=>?_)
 case hob=>
  intro X;subst O
  repeat(first|exact trivial|refine⟨rfl,?_⟩|refine⟨fun _=>rfl,?_⟩|refine⟨f7 (Kk:=noK) _ _ _ _,?_⟩|refine⟨fun _=>f7 (Kk:=noK) _ _ _ _,?_⟩)
 refine wp_ret ((rsi O a6 Z (⟨0,fun _=>(X5 2).A 0,fun _=>(X5 2).c 0,fun _=>⟨#[]⟩⟩) (he:=?_)));subst O;rw[hW];exact Sim.tup ⟨Sim.agg ⟨zr,Sim.resl hn2 (fun t ht=>by rw[hg2]),zr,zr,zr,trivial⟩,Sim.bool rfl,trivial⟩
def fW:Rec:=⟨4,[],B9,0⟩
def upG(g:u2)(x:RA):u2:=⟨0,IntKind.u64.wrap (g.ver+1),true,x⟩
abbrev wA(x:RA)(key:Int)(val:ByteArray):Rec×Int:=wR x.r.kd x.r.n x.r.f x.r.nx x.r.mrk key val
abbrev oA(x:RA)(key:Int):Rec×Bool:=oR x.r.kd x.r.n x.r.f x.r.nx x.r.mrk key
abbrev cB:RA:=⟨none,0,fW.rn⟩
def P0(bk k how key:Int)(val:ByteArray):Nat->Spt->Pst->Rs Rsl
 |0,_,p=>.stop zWq p
 |n+1,x,p=>
   if lL x.g.x key=true \/ (x.g.x.r.n:Int)<bk then
    (P3 k x.lab x.g.ver (wA x.g.x key val).1 p).bind fun d p=>
     if d=true then .ok ⟨0,lL x.g.x key,lK x.g.x key,[],0,false⟩ p else(dV bk k how key n p).bind fun x p=>P0 bk k how key val n x p
   else(P3 k x.lab x.g.ver (asR 3 x.g.x 0).r.abs p).bind fun d p=>
    if d=true then(R5 bk k n x.lab (upG x.g (asR 3 x.g.x 0)) p).bind fun _ p=>(C8 bk k key n x.lab p).bind fun x p=>P0 bk k how key val n x p
    else(dV bk k how key n p).bind fun x p=>P0 bk k how key val n x p
def eJ(bk k how key:Int)(val:ByteArray)(n:Nat)(p:Pst):Rs Rsl:=
 if 64<val.size then .ok ⟨2,false,⟨#[]⟩,[],0,false⟩ p else(dV bk k how key n p).bind fun x p=>P0 bk k how key val n x p
def P7(bk k:Int):Nat->Lab->Pst->Rs Unit
 |0,_,p=>.stop zWq p
 |n+1,l,p=>
   if G4 l=0 then(K0 k (G1 l) p).bind fun q p=>if gk q 2=true then(K0 k (cF l) p).bind fun a p=>if gk a 1=true then(K0 k l p).bind fun b p=>
    if gk b 1=true/\(a.x.r.n:Int)+b.x.r.n<=Int.tdiv bk 2 then(P3 k (G1 l) q.ver fW p).bind fun d p=>
     if d=true then(R5 bk k n (G1 l) (upG q cB) p).bind fun _ p=>(K0 k (G1 l) p).bind fun w p=>if gk w 1=true then P7 bk k n (G1 l) p else .ok () p else .ok () p
    else .ok () p else .ok () p else .ok () p
   else .ok () p
def Pst.nt(p:Pst)(x:Nt):Pst:=⟨p.n,p.g,x⟩
def Y5(bk k how key:Int):Nat->Pst->Rs Rsl
 |0,p=>.stop zWq p
 |n+1,p=>(dV bk k how key (n+1) p).bind fun x p=>
   if lL x.g.x key=true then(P3 k x.lab x.g.ver (oA x.g.x key).1 p).bind fun d p=>
    if d=true then(P7 bk k n x.lab (p.nt ⟨0,true,lK x.g.x key⟩)).bind fun _ p=>.ok ⟨0,true,lK x.g.x key,[],0,false⟩ p else Y5 bk k how key n p
   else .ok aJ p
def bJ(J:i5)(k:Int)(p:Pst):Rs Rsl:=if J.kind=4 then eJ J.bucket k J.how J.key J.val (p.n+1) p else Y5 J.bucket k J.how J.key (p.n+1) p
def J7(J:i5)(n:Nat)(f:Nat->u2):Wq×Int:=gK (E5 J&&(decide (J.kind=4)||decide (J.kind=5))&&K4 n f) (bJ J (J.budget-n) (my n f))
theorem gZ(bk k how key:Int)(val:ByteArray):∀n x p,Fro p (P0 bk k how key val n x p)
 |0,x,p=>U2 _ _
 |n+1,x,p=>k7 ((l6 _ _ _ _ _).bind fun _ _ _=>k7 (s9 _ _) ((R4 _ _ _ _ _ _).bind fun _ _ _=>gZ bk k how key val n _ _))
   ((l6 _ _ _ _ _).bind fun _ _ _=>k7 ((F9 _ _ _ _ _ _).bind fun _ _ _=>(J6 _ _ _ _ _ _).bind fun _ _ _=>gZ bk k how key val n _ _) ((R4 _ _ _ _ _ _).bind fun _ _ _=>gZ bk k how key val n _ _))
theorem tx(bk k how key:Int)(val:ByteArray)(n:Nat)(p:Pst):Fro p (eJ bk k how key val n p):=k7 (s9 _ _) ((R4 _ _ _ _ _ _).bind fun _ _ _=>gZ _ _ _ _ _ _ _ _)
theorem kx(bk k:Int):∀n l p,Fro p (P7 bk k n l p)
 |0,l,p=>U2 _ _
 |n+1,l,p=>k7 ((i7 _ _ _).bind fun _ _ _=>k7 ((i7 _ _ _).bind fun _ _ _=>k7 ((i7 _ _ _).bind fun _ _ _=>k7 ((l6 _ _ _ _ _).bind fun _ _ _=>k7 ((F9 _ _ _ _ _ _).bind fun _ _ _=>(i7 _ _ _).bind fun _ _ _=>k7 (kx bk k n _ _) (s9 _ _)) (s9 _ _)) (s9 _ _)) (s9 _ _)) (s9 _ _)) (s9 _ _)
theorem oE(bk k how key:Int):∀n p,Fro p (Y5 bk k how key n p)
 |0,p=>U2 _ _
 |n+1,p=>(R4 _ _ _ _ _ _).bind fun _ _ _=>k7 ((l6 _ _ _ _ _).bind fun _ q _=>k7 (Fro.bind (p:=q) (show Fro (q.nt _) _ from kx _ _ _ _ _) fun _ _ _=>s9 _ _) (oE bk k how key n _)) (s9 _ _)
theorem cA{k:Int}{l:Lab}{v:Int}{r:Rec}{p q:Pst}{d:Bool}(h:P3 k l v r p = .ok d q):q.n<p.n:=by
 unfold P3 at h
 cases h1:U3 k ⟨2,l,v,r,aJ⟩ p with
 |ok g q1=>
  rw[h1]at h;injection h with _ h
  obtain⟨h2,_,rfl⟩:=ph h1;rw[<-h];simp only[Pst.tl];omega
 |stop w q1=>rw[h1]at h;cases h
theorem dC{bk k how key:Int}{val:ByteArray}:∀{n:Nat} {x:Spt} {p q:Pst} {a:Rsl},P0 bk k how key val n x p = .ok a q->a.items=[]
 |0,x,p,q,a,h=>by cases h
 |n+1,x,p,q,a,h=>by
  have B:∀{α : Type} {m:Rs α} {f:α->Pst->Rs Rsl},m.bind f = .ok a q->(∀b r,f b r = .ok a q->a.items=[])->a.items=[]:=fun {α m f} h hf=>by
   cases m with
   |ok b r=>exact hf b r h
   |stop w r=>cases h
  unfold P0 at h
  split at h
  .refine B h fun d r h=>?_
   split at h
   .injection h with h _;rw[<-h]
   exact B h fun _ _ h=>dC h
  refine B h fun d r h=>?_
  split at h
  .exact B h fun _ _ h=>B h fun _ _ h=>dC h
  exact B h fun _ _ h=>dC h
theorem mU{bk k how key:Int}:∀{n:Nat} {p q:Pst} {a:Rsl},Y5 bk k how key n p = .ok a q->a.items=[]
 |0,p,q,a,h=>by cases h
 |n+1,p,q,a,h=>by
  have B:∀{α : Type} {m:Rs α} {f:α->Pst->Rs Rsl},m.bind f = .ok a q->(∀b r,f b r = .ok a q->a.items=[])->a.items=[]:=fun {α m f} h hf=>by
   cases m with
   |ok b r=>exact hf b r h
   |stop w r=>cases h
  unfold Y5 at h;refine B h fun x r h=>?_
  split at h
  .refine B h fun d r h=>?_
   split at h
   .refine B h fun _ _ h=>?_
    injection h with h _;rw[<-h]
   exact mU h
  injection h with h _;rw[<-h];rfl
theorem ve{bk k how key:Int}{val:ByteArray}{n:Nat}{p q:Pst}{a:Rsl}(h:eJ bk k how key val n p = .ok a q):a.items=[]:=by
 unfold eJ at h
 split at h
 .injection h with h _;rw[<-h]
 cases h2:dV bk k how key n p with
 |ok x r=>rw[h2]at h;exact dC h
 |stop w r=>rw[h2]at h;cases h
theorem nF{J:i5}{k:Int}{p q:Pst}{a:Rsl}(h:bJ J k p = .ok a q):a.items=[]:=by
 unfold bJ at h
 split at h
 .exact ve h
 exact mU h
theorem L3.up{x:RA}(h:L3 x)(g:u2):db (upG g x):=by
 refine⟨h,?_,?_⟩
 .show (0:Int)<=IntKind.u64.wrap (g.ver+1)
  rw[IntKind.wrap_u64];omega
 show IntKind.u64.wrap (g.ver+1)<_
 rw[IntKind.wrap_u64];omega
theorem jK.lab2{s:Spt}(h:jK s):LOk s.lab:=⟨h.lab.1,h.lab.2⟩
theorem kZ:L3 cB:=⟨⟨by decide,by decide⟩,fun i hi=>absurd hi (Nat.not_lt_zero _),by decide⟩
def RA.er(x:RA):RA:=⟨none,0,x.r⟩
def u2.er(g:u2):u2:=⟨g.code,g.ver,g.has,g.x.er⟩
def Pst.er(p:Pst):Pst:=⟨p.n,fun j=>(p.g j).er,p.note⟩
def Rs.er{α : Type}(e:α->α):Rs α->Rs α
 | .ok a p=>.ok (e a) p.er
 | .stop w p=>.stop w p.er
def Fz.er:Fz->Fz
 | .over=>.over
 | .unfit=>.unfit
 | .fr x=>.fr x.er
def Spt.er(s:Spt):Spt:=⟨s.lab,s.g.er⟩
section
variable {α β : Type} {e:α->α} {e2:β->β}
theorem k9{m m':Rs α}{f f':α->Pst->Rs β}(h:m.er e=m')(hf:∀a q,(f a q).er e2=f' (e a) q.er):(m.bind f).er e2=m'.bind f':=by
 subst h
 cases m with
 |ok a p=>exact hf a p
 |stop w p=>rfl
theorem o7{c:Prop} [Decidable c]{x y x' y':Rs α}(hx:x.er e=x')(hy:y.er e=y'):(if c then x else y).er e=if c then x' else y':=by
 split<;>assumption
end
theorem rO(k:Int)(w:Wq)(p:Pst):(U3 k w p).er u2.er=U3 k w p.er:=by
 unfold U3
 by_cases h:0<p.n/\0<(p.n:Int)+k
 .rw [if_pos h,if_pos (show 0<p.er.n/\0<(p.er.n:Int)+k from h)];rfl
 rw[if_neg h,if_neg (show ¬(0<p.er.n/\0<(p.er.n:Int)+k)from h)];rfl
theorem V8(k:Int)(l:Lab)(p:Pst):(K0 k l p).er u2.er=K0 k l p.er:=rO _ _ _
theorem bI(k:Int)(l:Lab)(v:Int)(r:Rec)(p:Pst):(P3 k l v r p).er id=P3 k l v r p.er:=k9 (rO _ _ _) fun _ _=>rfl
theorem Fh(k:Int)(l:Lab)(v:Int)(p:Pst):(iq k l v p).er id=iq k l v p.er:=k9 (rO _ _ _) fun _ _=>rfl
theorem oJ(k:Int)(l:Lab)(v:Int)(c:Lab)(x:Rec):∀n p,(A5 k l v c x n p).er id=A5 k l v c x n p.er
 |0,p=>rfl
 |n+1,p=>k9 (V8 _ _ _) fun _ _=>o7 rfl (k9 (V8 _ _ _) fun _ _=>o7 (k9 (bI _ _ _ _ _) fun _ _=>o7 rfl (oJ k l v c x n _)) rfl)
theorem yd(k:Int)(n:Nat)(l:Lab)(v:Int)(x:RA)(p:Pst):(u4 k n l v x p).er id=u4 k n l v x.er p.er:=
 o7 (k9 (oJ _ _ _ _ _ _ _) fun _ _=>o7 (k9 (oJ _ _ _ _ _ _ _) fun _ _=>o7 (k9 (bI _ _ _ _ _) fun _ _=>rfl) rfl) rfl) rfl
theorem rL(k:Int)(l:Lab)(v:Int)(c:Lab):∀n p,(P1 k l v c n p).er Fz.er=P1 k l v c n p.er
 |0,p=>rfl
 |n+1,p=>k9 (V8 _ _ _) fun _ _=>o7 (o7 rfl (k9 (V8 _ _ _) fun _ _=>o7 (k9 (bI _ _ _ _ _) fun _ _=>o7 rfl (rL k l v c n _)) rfl)) rfl
theorem tD(k:Int)(l:Lab)(cl:Lab->Pst->Rs Unit)(h:∀c p,(cl c p).er id=cl c p.er)(c:Lab)(p:Pst):(I1 k l cl c p).er id=I1 k l cl c p.er:=
 k9 (V8 _ _ _) fun _ _=>o7 (k9 (h _ _) fun _ _=>k9 (V8 _ _ _) fun _ _=>o7 (k9 (Fh _ _ _ _) fun _ _=>rfl) rfl) rfl
theorem rM(k:Int):∀n l p,(E6 k n l p).er id=E6 k n l p.er
 |0,l,p=>rfl
 |n+1,l,p=>o7 rfl (k9 (tD _ _ _ (rM k n) _ _) fun _ _=>o7 (k9 (tD _ _ _ (rM k n) _ _) fun _ _=>rfl) rfl)
theorem rN(k:Int)(th:Lab->Pst->Rs Unit)(h:∀c p,(th c p).er id=th c p.er)(l:Lab)(v:Int)(p:Pst):(aU k th l v p).er id=aU k th l v p.er:=
 k9 (bI _ _ _ _ _) fun _ _=>o7 (k9 (h _ _) fun _ _=>h _ _) rfl
theorem Fd(bk k:Int)(n:Nat)(th:Lab->Pst->Rs Unit)(h:∀c p,(th c p).er id=th c p.er)(l:Lab)(v:Int)(p:Pst):(M3 bk k n th l v p).er id=M3 bk k n th l v p.er:=
 k9 (rL _ _ _ _ _ _) fun a _=>match a with
  | .over=>rfl
  | .unfit=>rN _ _ h _ _ _
  | .fr a=>k9 (rL _ _ _ _ _ _) fun b _=>match b with
   | .over=>rfl
   | .unfit=>rN _ _ h _ _ _
   | .fr b=>o7 (k9 (bI _ _ _ _ _) fun _ _=>o7 (rM _ _ _ _) rfl) (rN _ _ h _ _ _)
theorem yg(bk k:Int)(n:Nat)(th:Lab->Pst->Rs Unit)(h:∀c p,(th c p).er id=th c p.er)(l:Lab)(g:u2)(p:Pst):(dW bk k n th l g p).er id=dW bk k n th l g.er p.er:=
 o7 (yd _ _ _ _ _ _) (o7 (Fd _ _ _ _ h _ _ _) rfl)
theorem oI(bk k:Int):∀n l up p,(dm bk k n l up p).er id=dm bk k n l up p.er
 |0,l,up,p=>rfl
 |n+1,l,up,p=>by
  unfold dm;refine k9 (V8 _ _ _) fun g q=>o7 (k9 (V8 _ _ _) fun q2 p2=>?_) rfl
  have H:=yg bk k n (fun c p=>if G4 c=0 then dm bk k n c (G1 c) p else .ok () p) (fun c p=>o7 (oI bk k n c (G1 c) p) rfl) up q2 p2;refine k9 (e:=id) (o7 H rfl) fun _ p3=>?_
  exact o7 (k9 (bI _ _ _ _ _) fun _ _=>o7 rfl (oI bk k n _ _ _)) rfl
theorem rK(bk k:Int)(n:Nat)(l:Lab)(p:Pst):(I6 bk k n l p).er id=I6 bk k n l p.er:=o7 (oI _ _ _ _ _ _) rfl
theorem oL(bk k:Int)(n:Nat)(l:Lab)(g:u2)(p:Pst):(R5 bk k n l g p).er id=R5 bk k n l g.er p.er:=yg _ _ _ _ (rK _ _ _) _ _ _
theorem eP(bk k key:Int):∀n l p,(C8 bk k key n l p).er Spt.er=C8 bk k key n l p.er
 |0,l,p=>rfl
 |n+1,l,p=>k9 (V8 _ _ _) fun _ _=>o7 rfl (o7 (k9 (oL _ _ _ _ _ _) fun _ _=>eP bk k key n _ _) (o7 (eP bk k key n _ _) (o7 (k9 (rK _ _ _ _ _) fun _ _=>eP bk k key n _ _) (o7 (k9 (bI _ _ _ _ _) fun _ _=>eP bk k key n _ _) (eP bk k key n _ _)))))
theorem Fe(bk k:Int)(n:Nat)(l:Lab)(p:Pst):(bG bk k n l p).er id=bG bk k n l p.er:=
 o7 (k9 (V8 _ _ _) fun _ _=>o7 (k9 (rK _ _ _ _ _) fun _ _=>rfl) rfl) rfl
theorem ji(bk k key:Int):∀n lo hi p,(D7 bk k key n lo hi p).er Spt.er=D7 bk k key n lo hi p.er
 |0,lo,hi,p=>rfl
 |n+1,lo,hi,p=>o7 (k9 (V8 _ _ _) fun _ _=>o7 rfl (o7 (ji bk k key n _ _ _) (o7 (k9 (oL _ _ _ _ _ _) fun _ _=>ji bk k key n _ _ _) (o7 (k9 (Fe _ _ _ _ _) fun _ _=>o7 (ji bk k key n _ _ _) (ji bk k key n _ _ _)) (ji bk k key n _ _ _))))) (eP _ _ _ _ _ _)
theorem oK(bk k how key:Int)(n:Nat)(p:Pst):(dV bk k how key n p).er Spt.er=dV bk k how key n p.er:=o7 (eP _ _ _ _ _ _) (ji _ _ _ _ _ _ _)
theorem zy(r:Rs Rsl):L8 (r.er id)=L8 r:=by cases r<;>rfl
structure U4(r:Rec):Prop where
 nx:U64 r.next.bits
 few:r.items.length<=16
 key:∀x∈r.items,U64 x.key
structure vN(w:Wq):Prop where
 lab:LOk w.lab
 r:U4 w.r
def Q9{α : Type}(r:Rs α):Prop:=match r with
 | .ok _ _=>True
 | .stop w _=>vN w
theorem M1:U4 i9:=⟨⟨by decide,by decide⟩,by decide,fun x hx=>by cases hx⟩
theorem wP:U4 eK:=⟨⟨by decide,by decide⟩,by decide,fun x hx=>by cases hx⟩
theorem L3.ro{x:RA}(h:L3 x):U4 x.r.abs:=by
 refine⟨h.nx,?_,fun y hy=>?_⟩
 .show (b4 x.r.f x.r.n).length<=16
  rw[i3];exact h.few
 obtain⟨i,hi,rfl⟩:=List.mem_map.1 hy;exact h.key i (List.mem_range.1 hi)
theorem dQ:vN zWq:=⟨R7,M1⟩
theorem j4{α β : Type}{m:Rs α}{f:α->Pst->Rs β}(h:Q9 m)(hf:∀a q,m = .ok a q->Q9 (f a q)):Q9 (m.bind f):=by
 cases m with
 |ok a q=>exact hf a q rfl
 |stop w q=>exact h
theorem j8{α : Type}{c:Prop} [Decidable c]{x y:Rs α}(hx:c->Q9 x)(hy:¬c->Q9 y):Q9 (if c then x else y):=by
 by_cases h:c
 .rw [if_pos h];exact hx h
 rw[if_neg h];exact hy h
theorem nV{k:Int}{w:Wq}{p:Pst}(h:vN w):Q9 (U3 k w p):=by
 unfold U3;refine j8 (fun _=>trivial) (fun _=>?_)
 show vN _
 split
 .exact ⟨R7,M1⟩
 exact h
theorem L6{k:Int}{l:Lab}{p:Pst}(h:LOk l):Q9 (K0 k l p):=nV ⟨h,M1⟩
theorem Y1{k:Int}{l:Lab}{v:Int}{r:Rec}{p:Pst}(h:LOk l)(hr:U4 r):Q9 (P3 k l v r p):=j4 (nV ⟨h,hr⟩) fun _ _ _=>trivial
theorem zi{k:Int}{l:Lab}{v:Int}{p:Pst}(h:LOk l):Q9 (iq k l v p):=j4 (nV ⟨h,M1⟩) fun _ _ _=>trivial
theorem kF{k:Int}{l:Lab}{v:Int}{c:Lab}{x:Rec}(hl:LOk l)(hc:LOk c)(hx:U4 x):∀n p,Q9 (A5 k l v c x n p)
 |0,p=>dQ
 |n+1,p=>by
  unfold A5;refine j4 (L6 hc) fun g p1 _=>j8 (fun _=>trivial) fun _=>j4 (L6 hl) fun q p2 _=>j8 (fun _=>?_) fun _=>trivial
  exact j4 (Y1 hc hx) fun d p3 _=>j8 (fun _=>trivial) fun _=>kF hl hc hx n p3
theorem tN{l:Lab}{its:List Itm}{x:Itm}(h:x∈K3 l its):x∈its:=(List.mem_filter.1 h).1
theorem yF(l:Lab)(its:List Itm):(K3 l its).length<=its.length:=List.length_filter_le _ _
theorem tw{x:RA}{l:Lab}(h:L3 x)(hl:LOk l):U4 (R8 x l).1/\U4 (R8 x l).2.1:=by
 have hr:=h.ro;unfold R8 J5
 split
 .exact ⟨M1,M1⟩
 split
 .exact ⟨M1,M1⟩
 split
 .exact ⟨M1,M1⟩
 rename_i h64
 refine⟨⟨dH hl.isl hl.u h64 1,Nat.le_trans (yF _ _) hr.few,fun y hy=>hr.key y (tN hy)⟩,⟨h.nx,Nat.le_trans (yF _ _) hr.few,fun y hy=>hr.key y (tN hy)⟩⟩
theorem DP{x y:RA}(h:L3 x)(h':L3 y):U4 (dg x y).1:=by
 have hr:=h.ro;have hr':=h'.ro;unfold dg bS
 split
 .exact M1
 split
 .exact M1
 split
 .exact M1
 split
 .exact M1
 rename_i h16
 refine⟨h'.nx,?_,fun z hz=>?_⟩
 .show (b4 x.r.f x.r.n++b4 y.r.f y.r.n).length<=16
  rw[List.length_append,i3,i3];omega
 rcases List.mem_append.1 hz with hz|hz
 .exact hr.key z hz
 exact hr'.key z hz
theorem uf{k:Int}{n:Nat}{l:Lab}{v:Int}{x:RA}{p:Pst}(hl:LOk l)(hx:L3 x):Q9 (u4 k n l v x p):=by
 unfold u4;refine j8 (fun _=>?_) fun _=>trivial
 refine j4 (kF hl (hl.ch 0) (tw hx hl).1 n p) fun go p1 _=>j8 (fun _=>?_) fun _=>trivial
 refine j4 (kF hl (hl.ch 1) (tw hx hl).2 n p1) fun go p2 _=>j8 (fun _=>?_) fun _=>trivial
 exact j4 (Y1 hl wP) fun _ _ _=>trivial
theorem nS{k:Int}{l:Lab}{v:Int}{c:Lab}(hl:LOk l)(hc:LOk c):∀n p,f9 p->Q9 (P1 k l v c n p)
 |0,p,_=>dQ
 |n+1,p,hp=>by
  unfold P1;refine j4 (L6 hc) fun g p1 e1=>j8 (fun _=>j8 (fun _=>trivial) fun _=>?_) fun _=>trivial
  have hp1:=hp.suf ((i7 k c p).of e1);refine j4 (L6 hl) fun q p2 e2=>j8 (fun _=>?_) fun _=>trivial
  have hp2:=hp1.suf ((i7 k l p1).of e2);refine j4 (Y1 hc ((hp.get e1).ra.as 5 v).ro) fun d p3 e3=>j8 (fun _=>trivial) fun _=>?_
  exact nS hl hc n p3 (hp2.suf ((l6 _ _ _ _ _).of e3))
theorem pt{k:Int}{l:Lab}{cl:Lab->Pst->Rs Unit}{c:Lab}(hl:LOk l)(hc:LOk c)(hcl:∀c p,LOk c->Q9 (cl c p))(p:Pst):Q9 (I1 k l cl c p):=by
 unfold I1;refine j4 (L6 hc) fun g p1 _=>j8 (fun _=>?_) fun _=>trivial
 refine j4 (hcl c p1 hc) fun _ p2 _=>j4 (L6 hl) fun q p3 _=>j8 (fun _=>?_) fun _=>trivial
 exact j4 (zi hc) fun _ _ _=>trivial
theorem nT{k:Int}:∀(n:Nat) (l:Lab) (p:Pst),LOk l->Q9 (E6 k n l p)
 |0,l,p,_=>dQ
 |n+1,l,p,hl=>by
  unfold E6;refine j8 (fun _=>trivial) fun _=>j4 (pt hl (hl.ch 0) (fun c p hc=>nT n c p hc) p) fun go p1 _=>j8 (fun _=>?_) fun _=>trivial
  exact j4 (pt hl (hl.ch 1) (fun c p hc=>nT n c p hc) p1) fun _ _ _=>trivial
theorem nU{k:Int}{th:Lab->Pst->Rs Unit}{l:Lab}{v:Int}(hl:LOk l)(hth:∀c p,LOk c->f9 p->Q9 (th c p))(hfr:∀c p,Fro p (th c p)){p:Pst}(hp:f9 p):Q9 (aU k th l v p):=by
 unfold aU;refine j4 (Y1 hl wP) fun d p1 e1=>j8 (fun _=>?_) fun _=>trivial
 have hp1:=hp.suf ((l6 _ _ _ _ _).of e1);exact j4 (hth _ _ (hl.ch 0) hp1) fun _ p2 e2=>hth _ _ (hl.ch 1) (hp1.suf ((hfr _ _).of e2))
theorem zg{bk k:Int}{n:Nat}{th:Lab->Pst->Rs Unit}{l:Lab}{v:Int}(hl:LOk l)(hth:∀c p,LOk c->f9 p->Q9 (th c p))(hfr:∀c p,Fro p (th c p)){p:Pst}(hp:f9 p):Q9 (M3 bk k n th l v p):=by
 unfold M3;refine j4 (nS hl (hl.ch 0) n p hp) fun a p1 e1=>?_
 have hp1:=hp.suf ((aS _ _ _ _ _ _).of e1)
 cases a with
 |over=>trivial
 |unfit=>exact nU hl hth hfr hp1
 |fr a=>
  refine j4 (nS hl (hl.ch 1) n p1 hp1) fun b p2 e2=>?_
  have hp2:=hp1.suf ((aS _ _ _ _ _ _).of e2)
  cases b with
  |over=>trivial
  |unfit=>exact nU hl hth hfr hp2
  |fr b=>
   refine j8 (fun _=>?_) fun _=>nU hl hth hfr hp2
   exact j4 (Y1 hl (DP (gd hp e1) (gd hp1 e2))) fun d p3 _=>j8 (fun _=>nT n l p3 hl) fun _=>trivial
theorem su{bk k:Int}{n:Nat}{th:Lab->Pst->Rs Unit}{l:Lab}{g:u2}(hl:LOk l)(hg:db g)(hth:∀c p,LOk c->f9 p->Q9 (th c p))(hfr:∀c p,Fro p (th c p)){p:Pst}(hp:f9 p):Q9 (dW bk k n th l g p):=by
 unfold dW;exact j8 (fun _=>uf hl hg.ra) fun _=>j8 (fun _=>zg hl hth hfr hp) fun _=>trivial
theorem qc(bk k:Int)(n:Nat)(c:Lab)(p:Pst):Fro p (if G4 c=0 then dm bk k n c (G1 c) p else .ok () p:Rs Unit):=k7 (gX _ _ _ _ _ _) (s9 _ _)
theorem kE{bk k:Int}:∀(n:Nat) (l up:Lab) (p:Pst),LOk l->LOk up->f9 p->Q9 (dm bk k n l up p)
 |0,l,up,p,_,_,_=>dQ
 |n+1,l,up,p,hl,hu,hp=>by
  unfold dm;refine j4 (L6 hl) fun g p1 e1=>j8 (fun _=>?_) fun _=>trivial
  have hp1:=hp.suf ((i7 _ _ _).of e1);refine j4 (L6 hu) fun q p2 e2=>?_
  have hp2:=hp1.suf ((i7 _ _ _).of e2);refine j4 (j8 (fun _=>su hu (hp1.get e2) (fun c p hc hp=>show Q9 (if G4 c=0 then dm bk k n c (G1 c) p else .ok () p:Rs Unit)from j8 (fun _=>kE n c (G1 c) p hc hc.par hp) fun _=>trivial) (qc bk k n) hp2) fun _=>trivial) fun _ p3 e3=>j8 (fun _=>?_) fun _=>trivial
  have hp3:=hp2.suf (Fro.of (k7 (oG _ _ _ _ (qc bk k n) _ _ _) (s9 _ _)) e3);refine j4 (Y1 hl ((hp.get e1).ra.as 1 0).ro) fun d p4 e4=>j8 (fun _=>trivial) fun _=>?_
  exact kE n l up p4 hl hu (hp3.suf ((l6 _ _ _ _ _).of e4))
theorem nQ{bk k:Int}{n:Nat}{l:Lab}{p:Pst}(hl:LOk l)(hp:f9 p):Q9 (I6 bk k n l p):=j8 (fun _=>kE n l _ p hl hl.par hp) fun _=>trivial
theorem jX{bk k:Int}{n:Nat}{l:Lab}{g:u2}{p:Pst}(hl:LOk l)(hg:db g)(hp:f9 p):Q9 (R5 bk k n l g p):=su hl hg (fun c p hc hp=>nQ hc hp) (E8 _ _ _) hp
theorem vT{r:Rs Rsl}(h:Q9 r):vN (L8 r).1:=by
 cases r with
 |ok a p=>
  unfold L8;simp only
  split
  .exact dQ
  exact⟨R7,M1⟩
 |stop w p=>
  unfold L8;simp only
  split
  .exact dQ
  exact h
end Go.Proofs.YtmbkanpapkhnaaaGreat.Sym
namespace Go.Proofs.YtmbkanpapkhnaaaGreat.Sym
open Go Go.RowKit
namespace Cl
theorem mB:bR Tryz.prog 33 62 2 24 (.agg #[.int .u64 0,.string ⟨#[]⟩]):=⟨by kernel_rfl,by kernel_rfl,rfl,by decide⟩
def C9(x:Itm):List Value:=[.int .u64 x.key,.string x.val]
theorem F3(x:Itm):(C9 x).length=2:=rfl
theorem kj{m:Nat->Nat->Prop}{w:World}{A:Option Addr}{k:Nat}{l:List Itm}(hl:l.length<=k)(hk:k<=maxLen)(hs:∀x∈l,x.val.size<=maxLen)
  (h:0<(l.flatMap C9).length->∃b off,A=some ⟨b,off,none⟩/\∀j u,(l.flatMap C9)[j]? = some u->w.cell? ⟨b,off+j,none⟩=some u/\¬m b (off+j)):Ok m w (l7 A l.length k (itF l)):=by
 have hg:∀i (hi:i<l.length),itF l i=l[i]:=fun i hi=>by simp[itF,List.getD,hi]
 have hpos:∀i,i<l.length->0<(l.flatMap C9).length:=fun i hi=>by rw[G8 F3];omega
 refine .sl _ _ _ _ _ _ hl hk (fun i _=>rfl) (fun i hi=>?_) (fun i hi j u hu=>?_) (fun i hi v hv=>?_) (fun i hi v hv=>?_)
 .obtain ⟨b,off,hA,_⟩:=h (hpos i hi);exact⟨b,off,hA⟩
 .obtain ⟨b,off,hA,hc⟩:=h (hpos i hi)
  have hu':(C9 (itF l i))[j]? = some u:=hu;rw[hg i hi]at hu';exact⟨b,off,hA,hc _ u (ib F3 (List.getElem?_eq_getElem hi) hu')⟩
 .simp only[itC,List.mem_cons,List.not_mem_nil,or_false]at hv
  rcases hv with rfl|rfl<;>rfl
 simp only[itC,List.mem_cons,List.not_mem_nil,or_false]at hv
 rcases hv with rfl|rfl
 .exact .int _ _
 exact .str _ (by rw[hg i hi];exact hs _ (List.getElem_mem hi))
variable {H:Type} {enc:TypeId×Value->H} {w:World} {base:Nat} {spare:Nat->Bool} {held:Bool}
theorem cP(x:Itm):∀v∈C9 x,v.oneCell'=true:=by
 intro v hv;simp only[C9,List.mem_cons,List.not_mem_nil,or_false]at hv
 rcases hv with rfl|rfl<;>rfl
theorem et(l:List Itm):j9 (fun i=>itC (itF l i)) l.length=l.flatMap C9:=by
 have key:∀n,n<=l.length->j9 (fun i=>itC (itF l i)) n=(l.take n).flatMap C9:=by
  intro n
  induction n with
  |zero=>intro _;simp[j9]
  |succ n ih=>
   intro h;rw[J4,ih (by omega),List.take_succ_eq_append_getElem (by omega),List.flatMap_append];simp[itF,List.getD,List.getElem?_eq_getElem (show n<l.length by omega)];rfl
 have:=key l.length (Nat.le_refl _)
 rwa[List.take_length]at this
theorem cO{m:Nat->Nat->Prop}{w:World}{A:Option Addr}{c:Nat}{l:List Itm}(h:Ok m w (l7 A l.length c (itF l))):T5 C9 w w.heap.size A l:=by
 have:=cG h;rw[et]at this;exact this
theorem eH{m:Nat->Nat->Prop}{w:World}{A:Option Addr}{c:Nat}{l:List Itm}(h:Ok m w (l7 A l.length c (itF l))):∀x∈l,x.val.size<=maxLen:=by
 intro x hx;obtain⟨i,hi,rfl⟩:=List.mem_iff_getElem.1 hx
 cases h with
 |sl _ _ _ _ _ _ h1 h2 h3 h4 h5 h6 h7=>
  have:=h7 i hi (.str (itF l i).val) (by simp[itC])
  cases this with|str _ h=>simpa[itF,List.getD,hi]using h
theorem gG{m:Nat->Nat->Prop}{w:World}{B:Nat}{e:TypeId}{A:Option Addr}{n c:Nat}{l:List Itm}(h:ml C9 2 w B e (.slice A n c) l)(hm:∀b o,m b o->b<B)(hs:∀x∈l,x.val.size<=maxLen):Ok m w (l7 A l.length c (itF l)):=by
 obtain⟨A',c',he,h1,h2⟩:=Own.isSlice h;injection he with e1 e2 e3;subst e3;subst e2
 refine kj h1 h2 hs fun hp=>?_
 rw[G8 F3]at hp;obtain⟨b,hA,hb⟩:=M2 h (by omega);refine⟨b,0,hA,fun j u hu=>⟨by rw[Nat.zero_add];exact M8 h hb j u hu,fun hmm=>?_⟩⟩;have:=(Own.lt h b hb).1;have:=hm _ _ hmm;omega
theorem iD(w:World)(A:Option Addr)(k:Nat)(l:List Itm)(hr:T5 C9 w w.heap.size A l)(hl:l.length<2147483000) :
  Calls Tryz.prog 72 #[.slice A l.length k] w fun e w'=>∃v',e = .returned v'/\ml C9 2 w' w.heap.size 62 v' l/\Below w.heap.size w w':=by
 have hq:∀(A:Option Addr) (n k:Nat) (w:World),(binOp .eql 33 (.slice A n k) (.slice none 0 0)).run Tryz.prog w = .ok (.bool A.isNone) w:=fun A n k w=>Go.Lib.run_eql_slice_nil w _ _ A n k 0 0 Tryz.underlying33
 cases A with
 |none=>
  obtain rfl:l=[]:=by
   refine List.eq_nil_of_length_eq_zero (Nat.eq_zero_of_not_pos fun h=>?_);obtain⟨b,off,he,_⟩:=hr.at_ (k:=2) F3 (by decide) h
   cases he
  clear hr
  go_enter Tryz.func72,Tryz.ntmps72
  go_wp2_with fail
  go_ret
  exact⟨_,rfl,Own.nil _ _ _ _ _,Below.refl _ _⟩
 |some a=>
  obtain⟨W1,hW1⟩:=eqv (w.alloc (.cells #[] 62));have hb1:Below w.heap.size w W1:=by rw[hW1];exact(Below.refl _ _).alloc (Nat.le_refl _) _
  obtain⟨v',w',hr',hO,hG,hv⟩:=bx (P:=Tryz.prog) mB 33 (Own.nil W1 w.heap.size 62 2 (some ⟨w.heap.size,0,none⟩)) (some a) l.length k (l.flatMap C9) (G8 F3 l) (hr.below hb1) (ia cP l) (by simp only[maxLen];omega) (by omega) hb1.size;rw[Nat.zero_add,List.nil_append]at hO;have HO:Hid (ml C9 2 w' w.heap.size 62 v' l/\Below w.heap.size w w'):=⟨hO,hb1.grown hG hb1.size fun g hg=>by simp[o6]at hg⟩;rw[hW1]at hr';clear hO hG hv hb1 hW1
  go_enter Tryz.func72,Tryz.ntmps72
  go_wp2_with (at_builtin;refine F7 hr' rfl (.tmp 5) (.tmp 6) rfl rfl rfl rfl ?_)
  go_ret
  exact⟨_,rfl,HO.out⟩
theorem oV(A:Option Addr)(c:Nat)(l:List Itm)(hs:l.length<2147483000):j7 Tryz.prog 72 [l7 A l.length c (itF l)] (fun y=>l7 (y.A 0) l.length (y.c 0) (itF l)):=by
 intro m w hm ha;have h1:=ha (l7 A l.length c (itF l)) (by simp);refine(iD w A c l (cO h1) hs).mono ?_
 rintro e w' ⟨v',rfl,ho,hb⟩
 obtain⟨A',c',rfl,_,_⟩:=Own.isSlice ho;exact⟨⟨0,fun _=>A',fun _=>c',fun _=>⟨#[]⟩⟩,rfl,gG ho hm (eH h1),hb⟩
theorem clone_sf(A:Option Addr)(n c:Nat)(f:Nat->Itm)(hs:n<2147483000):j7 Tryz.prog 72 [l7 A n c f] (fun y=>l7 (y.A 0) n (y.c 0) f):=by
 have h:=oV A c (b4 f n) (by rw[i3];exact hs);have e:∀A c,Sim (l7 A (b4 f n).length c (itF (b4 f n))) (l7 A n c f):=fun A c=>Sim.resl (i3 f n) fun t ht=>by rw[u0 f n t ht]
 have e':∀A c,Sim (l7 A n c f) (l7 A (b4 f n).length c (itF (b4 f n))):=fun A c=>Sim.resl (i3 f n).symm fun t ht=>by rw[i3]at ht;rw[u0 f n t ht]
 intro m w hm ha;have h2:j7 Tryz.prog 72 [l7 A n c f] (fun y=>l7 (y.A 0) (b4 f n).length (y.c 0) (itF (b4 f n))):=h.sim ⟨e' A c,trivial⟩;refine(h2 m w hm ha).mono ?_
 rintro en w' ⟨x,rfl,hok,hb⟩
 exact⟨x,by rw[(e (x.A 0) (x.c 0)).1],(e (x.A 0) (x.c 0)).2.2 _ _ hok,hb⟩
end Cl
end Go.Proofs.YtmbkanpapkhnaaaGreat.Sym
