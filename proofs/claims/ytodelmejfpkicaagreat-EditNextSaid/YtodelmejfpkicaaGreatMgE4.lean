/-
  SymUni, SymPr2, SymPr3, SymPr4, SymPr5, SymPr6, SymPr7, SymPr8, SymRcv, SymNx0, OpenS25, PlSeek, PlSib, SymSk1, SymMap1, SymMap2, PlEdit, PlEr, PlWok, ItClone, SymShP: put together by a program of mine (a claim may have 60 files at most). Conditions: none.
-/
import Derived.WalkKit
import Derived.WalkLawsBesides
import Derived.WalkSpells
import Derived.Lib.Hide
import Derived.Deep.QuietTactic
import Derived.BigQuiet
import Derived.Deep.LoopGhost
import Derived.Deep.DeepCutAuto
import Derived.Deep.RegionLaw
import Derived.Lib.Overlaps
import Derived.Laws.CopyOwn
import Derived.IntWalk
import Derived.ProofKit
import Derived.OpenShut
import Derived.ShutString
import Derived.ChangeOld
import Derived.Deep.Slices
import Derived.Test.YtodelmejfpkicaaGreatProg
import Derived.Orders
import Derived.OrdersHeld
import Derived.Defers
import Derived.Recover
import Derived.Lib.BitFns
import Derived.ChangeKeysEq
import Derived.Test.YtodelmejfpkicaaGreatChecked
import Derived.Lib.BufferWrite
import Derived.Maps.OwnSet
import Derived.Maps.RangeWalk
import Derived.Maps.Ext
import Derived.DeepKeys4
import Derived.LoopN
import Derived.Test.YtodelmejfpkicaaGreatMgE1
import Derived.Test.YtodelmejfpkicaaGreatMgE2
import Derived.Test.YtodelmejfpkicaaGreatMgE3
set_option linter.unusedVariables false
set_option linter.unusedSimpArgs false
set_option maxRecDepth 100000
set_option maxHeartbeats 1600000
namespace Go.Proofs.YtodelmejfpkicaaGreat.Sym
open Go Go.RowKit
theorem jQ{n:Nat}{m:Bool}(h:(if decide ((n:Int)>0)=true then m else false)=true):0<n/\m=true:=by
 rw[A5,Bool.and_eq_true,decide_eq_true_eq]at h;exact⟨by omega,h.2⟩
theorem yY{n N:Nat}(hn:n<=1000)(h:(if decide ((n:Int)>0)=true then decide ((n:Int)<(N:Int))else false)=true):0<=IntKind.i64.wrap ((n:Int)-1)/\IntKind.i64.wrap ((n:Int)-1)<(N:Int):=by
 obtain⟨h1,h2⟩:=jQ h;have h2:=of_decide_eq_true h2;rw[o8 (by omega) (by omega)];omega
theorem yX{n N:Nat}(h:(if decide ((n:Int)>0)=true then decide ((n:Int)<(N:Int))else false)=true):0<=(n:Int)/\(n:Int)<(N:Int):=by
 obtain⟨h1,h2⟩:=jQ h;have h2:=of_decide_eq_true h2;omega
theorem yW{n n2:Nat}(hn:n<=1000)(h:(if decide ((n:Int)>0)=true then decide ((n2:Int)>0)else false)=true):0<=IntKind.i64.wrap ((n:Int)-1)/\IntKind.i64.wrap ((n:Int)-1)<(n:Int):=by
 obtain⟨h1,h2⟩:=jQ h;rw[o8 (by omega) (by omega)];omega
theorem yU{n n2:Nat}(h:(if decide ((n:Int)>0)=true then decide ((n2:Int)>0)else false)=true):0<=(0:Int)/\(0:Int)<(n2:Int):=by
 obtain⟨h1,h2⟩:=jQ h;have h2:=of_decide_eq_true h2;omega
def jM(n:Nat)(f f2:Nat->Itm):Nat->Itm:=fun t=>if t<n then f t else f2 (t-n)
def oK(NN:Nat->Nat)(FF:Nat->Nat->Itm)(k:Nat):List Itm:=(List.range k).flatMap fun i=>b4 (FF i) (NN i)
theorem nA(NN:Nat->Nat)(FF:Nat->Nat->Itm)(k:Nat):oK NN FF (k+1)=oK NN FF k++b4 (FF k) (NN k):=by simp[oK,List.range_succ]
theorem yx(n n2:Nat)(f f2:Nat->Itm):oK (fun i=>if i=0 then n else n2) (fun i=>if i=0 then f else f2) 2=b4 f n++b4 f2 n2:=by simp[oK,List.range_succ]
theorem jz(q m:Nat)(g h:Nat->Itm):b4 (jM q g h) (q+m)=b4 g q++b4 h m:=by
 rw[lz]
 congr 1
 .unfold b4 jM
  apply List.map_congr_left;intro t ht;rw[if_pos (List.mem_range.1 ht)]
 unfold b4 jM;apply List.map_congr_left;intro t ht;rw[if_neg (by omega)]
 congr 1
 omega
theorem rR(f:Nat->Itm)(n:Nat)(f2:Nat->Itm)(n2 t:Nat)(h:t<n+n2):itF (b4 f n++b4 f2 n2) t=jM n f f2 t:=by
 rw[<-jz,u0 _ _ t h]
theorem zU(f:Nat->Itm)(n:Nat)(f2:Nat->Itm)(n2:Nat)(hn:n<=1000)(hn2:n2<=1000){b:Bool}:(if b=true then true else(if(if decide ((n:Int)>0)=true then decide ((n:Int)<((n+n2:Nat):Int))else false)=true then decide ((itF (b4 f n++b4 f2 n2) (IntKind.i64.wrap ((n:Int)-1)).toNat).key ≥ (itF (b4 f n++b4 f2 n2) (n:Int).toNat).key)else false))=(if b=true then true else ovl n f n2 f2):=by
 congr 1
 unfold ovl
 by_cases h1:0<n
 .by_cases h2:0<n2
  .have e1:IntKind.i64.wrap ((n:Int)-1)=(n:Int)-1:=o8 (by omega) (by omega)
   rw[e1,Int.toNat_natCast,show((n:Int)-1).toNat=n-1 by omega,rR _ _ _ _ _ (show n-1<n+n2 by omega),rR _ _ _ _ _ (show n<n+n2 by omega)];have c1:jM n f f2 (n-1)=f (n-1):=by unfold jM;rw[if_pos (by omega)]
   have c2:jM n f f2 n=f2 0:=by unfold jM;rw[if_neg (by omega),Nat.sub_self]
   rw[c1,c2];have a:decide ((n:Int)>0)=true:=by simp;omega
   have b:decide ((n:Int)<((n+n2:Nat):Int))=true:=by simp;omega
   rw[a,b,decide_eq_true h1,decide_eq_true h2];simp
  have b:decide ((n:Int)<((n+n2:Nat):Int))=false:=by simp;omega
  rw[b,decide_eq_false h2];simp
 have a:decide ((n:Int)>0)=false:=by simp;omega
 rw[a,decide_eq_false h1];simp
theorem wI(f:Nat->Itm)(n:Nat)(f2:Nat->Itm)(n2:Nat)(hn:n<=1000):(if(if decide ((n:Int)>0)=true then decide ((n2:Int)>0)else false)=true then decide ((f (IntKind.i64.wrap ((n:Int)-1)).toNat).key ≥ (f2 (0:Int).toNat).key)else false)=ovl n f n2 f2:=by
 unfold ovl
 by_cases h1:0<n
 .have e1:IntKind.i64.wrap ((n:Int)-1)=(n:Int)-1:=o8 (by omega) (by omega)
  have a:decide ((n:Int)>0)=true:=by simp;omega
  rw[e1,show((n:Int)-1).toNat=n-1 by omega,a,decide_eq_true h1]
  by_cases h2:0<n2
  .have b:decide ((n2:Int)>0)=true:=by simp;omega
   rw[b,decide_eq_true h2];simp
  have b:decide ((n2:Int)>0)=false:=by simp;omega
  rw[b,decide_eq_false h2];simp
 have a:decide ((n:Int)>0)=false:=by simp;omega
 rw[a,decide_eq_false h1];simp
theorem mY(kd kd2:Int):((if(if(!decide (kd=1))=true then !decide (kd=5)else false)=true then true else(if(!decide (kd2=1))=true then !decide (kd2=5)else false))=true-> ¬(kd=1 \/ kd=5) \/ ¬(kd2=1 \/ kd2=5)) ∧
  ((if(if(!decide (kd=1))=true then !decide (kd=5)else false)=true then true else(if(!decide (kd2=1))=true then !decide (kd2=5)else false))=false-> ¬(¬(kd=1 \/ kd=5) \/ ¬(kd2=1 \/ kd2=5))):=by
 rw[A5,A5,Y5]
 constructor
 .intro h
  simp at h;omega
 intro h;simp at h;omega
theorem uU:j6 Tryz.prog 316:=fun _ _=>by kernel_rfl
theorem uV:j6 Tryz.prog 309:=fun _ _=>by kernel_rfl
theorem yt(A0:Option Addr)(k c0:Nat)(AA:Nat->Option Addr)(NN CC:Nat->Nat)(FF:Nat->Nat->Itm)(hk:k<=10)(hN:∀i,i<k->NN i<=1000):k7 Tryz.prog 309 [.sl none A0 k c0 1 (fun i=>[.sl none (AA i) (NN i) (CC i) 2 (fun t=>itC (FF i t))])] (fun x=>l6 (x.A 0) (oK NN FF k).length (x.c 0) (itF (oK NN FF k))):=by
 intro m w hm hargs;have hmx:maxLen=9223372036854775807:=rfl;refine en 36 hm hargs Tryz.func309 fun B O a0 Z=>?_
 refine wp_seq (rg O a6 [0] [] [] Z fun X0 a0 w1 Z=>?_);refine wp_seq (rg O a6 [3,0] [] [] Z fun X1 a0 w1 Z=>?_);refine wp_seq (wp_seq (rg O a6 [3,11,0,9,10] [] [] Z fun X2 a0 w1 Z=>?_));refine wp_block (l4 (ι:=Nat×Nat) (fun p=>[(3,.int .i64 (p.2:Int)),(11,.int .i64 (p.1:Int))]) (fun p=>[]) (fun p=>[]) (fun p=>p.1<=k/\p.2=(oK NN FF p.1).length/\p.2<=1000*p.1) (fun p=>k-p.1) (0,0) ⟨Nat.zero_le _,rfl,Nat.le_refl _⟩ Z ?_)
 rintro⟨i,z⟩ ⟨hi,hz,hzb⟩ a0 w1 Z
 try dsimp only at hi
 try dsimp only at hz
 try dsimp only at hzb
 refine wp_seq (rg O a6 [12,3,11,0,9,10] [] [] Z fun X3 a0 w1 Z=>?_);refine wp_seq (a7 Z rfl (fun hb Z=>?_) (fun hb Z=>?_))
 .have hin:i<k:=by
   have:(i:Int)<(k:Int):=by subst O;simpa[std,a8]using hb
   omega
  have hNi:=hN i hin;refine wp_skip (wp_seq (wp_block (wp_seq (rg O a6 [5,3,11,0,9,10] [] [] Z (hob:=?hob) fun X4 a0 w1 Z=>?_))))
  case hob=>
   intro X;subst O
   repeat(first|exact trivial|refine⟨rfl,?_⟩|refine⟨⟨show(0:Int)<=(i:Int)by omega,show(i:Int)<(k:Int)by omega⟩,?_⟩)
  refine wp_seq (rg O a6 [3,11,0,9,10] [] [] Z fun X5 a0 w1 Z=>?_);obtain⟨z2,hz2⟩:=eqv (z+NN i);replace Z:=Z.head (v':=.int .i64 (z2:Int)) (by
   subst O
   show AV.int .i64 (IntKind.i64.wrap ((z:Int)+(NN i:Int)))=_
   rw[o8 (by omega) (by omega),hz2];rfl)
  refine wp_seq (rg O a6 [20,3,11,0,9,10] [] [] Z fun X6 a0 w1 Z=>?_);apply a7 Z rfl<;>intro hb Z
  .exfalso
   have:(z2:Int)<0:=by subst O;simpa[std,a8]using hb
   omega
  skip
  refine wp_skip (rg O a6 [3,11,0,9,10] [] [] Z fun X8 a0 w1 Z=>?_);have e:B.arith .add .i64 (i:Int) 1=((i+1:Nat):Int):=by subst O;exact o4 (n:=k) hin (by omega)
  refine⟨(i+1,z2),⟨by simp only;omega,?_,by simp only;omega⟩,by simp only;omega,by rw[<-e];exact Z⟩;simp only;rw[hz2,nA,List.length_append,i3,<-hz]
 have hout:i=k:=by
  have:¬(i:Int)<(k:Int):=by subst O;simpa[std,a8]using hb
  omega
 rw[hout]at hz hzb;refine wp_exit (wp_seq (wp_region_lit (lpr 0 1 O a6 [23,0] [] [] Z fun X9_0 a0 w1 Z=>?_)));have ev:=xI Z (t:=23) (k:=.i64) (n:=(z:Int)) rfl;refine qX (argv:=#[.slice none 0 0,.int .i64 (z:Int)]) rfl rfl rfl rfl rfl Z (by have e2:=ev;simp[Act.eval]at e2 ⊢;exact e2) uU (by show 24<36;decide) (e:=62) (k:=2) (by decide) (fun t=>itC C5) (EI w1 z (by omega)) ?_
 intro A9 c9 a0 w1 Z;refine lnd 2 O a6 [6,0] [24] [] Z fun X9 a0 w1 Z=>?_
 refine wp_seq (wp_seq (rg O a6 [6,27,25,26] [24] [] Z fun X10 a0 w1 Z=>?_));refine wp_block (l4 (ι:=Nat×Nat×(Nat->Itm)×Option Addr×Nat) (fun p=>[(6,.sl (some 24) p.2.2.2.1 p.2.1 p.2.2.2.2 2 (fun t=>itC (p.2.2.1 t))),(27,.int .i64 (p.1:Int))]) (fun p=>[]) (fun p=>[(24,⟨p.2.2.2.1,p.2.1,p.2.2.2.2,2,62⟩)]) (fun p=>p.1<=k/\b4 p.2.2.1 p.2.1=oK NN FF p.1/\p.2.1<=1000*p.1) (fun p=>k-p.1) (0,0,fun _=>C5,A9,c9) ⟨Nat.zero_le _,rfl,Nat.le_refl _⟩ Z ?_)
 rintro⟨i,q,g,A1,c1⟩ ⟨hi,hg,hqb⟩ a0 w1 Z
 try dsimp only at hi
 try dsimp only at hg
 try dsimp only at hqb
 refine wp_seq (rg O a6 [28,6,27,25,26] [24] [] Z fun X11 a0 w1 Z=>?_);refine wp_seq (a7 Z rfl (fun hb Z=>?_) (fun hb Z=>?_))
 .have hin:i<k:=by
   have:(i:Int)<(k:Int):=by subst O;simpa[std,a8]using hb
   omega
  have hNi:=hN i hin;refine wp_skip (wp_seq (wp_block (wp_seq (rg O a6 [8,6,27,25,26] [24] [] Z (hob:=?hob) fun X12 a0 w1 Z=>?_))))
  case hob=>
   intro X;subst O
   repeat(first|exact trivial|refine⟨rfl,?_⟩|refine⟨⟨show(0:Int)<=(i:Int)by omega,show(i:Int)<(k:Int)by omega⟩,?_⟩)
  refine rg O a6 [6,27,25,26] [24] [] Z (hob:=?hob) fun X13 a0 w1 Z=>?_
  case hob=>
   intro X;subst O
   repeat(first|exact trivial|refine⟨⟨rfl,rfl,rfl⟩,?_⟩|refine⟨⟨show q+NN i<=maxLen by omega,show(q+NN i)*_<=_ by omega⟩,?_⟩|refine⟨rfl,?_⟩)
  replace Z:=Z.headS (v':=.sl (some 24) ((X13 2).A 0) (B.nadd q (NN (B.toNat (i:Int)))) ((X13 2).c 0) 2 (fun t=>itC (jM q g (FF i) t))) (Sim.resl rfl (fun t ht=>by
   subst O
   show P5 q (fun t=>itC (g t)) (fun t=>itC (FF i t)) t=_
   unfold P5 jM
   split<;>rfl)) rfl
  refine rg O a6 [6,27,25,26] [24] [] Z fun X14 a0 w1 Z=>?_
  have e:B.arith .add .i64 (i:Int) 1=((i+1:Nat):Int):=by subst O;exact o4 (n:=k) hin (by omega)
  refine⟨(i+1,q+NN i,jM q g (FF i),_,_),⟨by simp only;omega,?_,by simp only;omega⟩,by simp only;omega,by rw[<-e,show q+NN i=B.nadd q (NN (B.toNat (i:Int)))by subst O;rfl];exact Z⟩
  simp only;rw[nA,jz,hg]
 have hout:i=k:=by
  have:¬(i:Int)<(k:Int):=by subst O;simpa[std,a8]using hb
  omega
 rw[hout]at hg;refine wp_exit (wp_seq (rg O a6 [2] [2,33] [] Z fun X15 a0 w1 Z=>?_));refine wp_ret ((rsi O a6 Z (⟨0,fun _=>A1,fun _=>c1,fun _=>⟨#[]⟩⟩) (he:=?_)));subst O;exact Sim.resl (by rw[<-hg,i3]) (fun t ht=>by rw[<-hg,i3]at ht;rw[<-hg,u0 _ _ t ht])
theorem fe:j6 Tryz.prog 310:=fun _ _=>by kernel_rfl
theorem sZ(A:Option Addr)(n c:Nat)(f:Nat->Itm)(hn:n<=1000000)(kd:Int)(nx:Lab)(mk:Int):k7 Tryz.prog 310 [F1 A n c f kd nx mk] (fun _=>.bool (.v (decide (kd=1)||decide (kd=5)))):=by
 intro m w hm hargs;unfold F1 l6 at hargs;refine en 11 hm hargs Tryz.func310 fun B O a0 Z=>?_
 refine wp_seq (rg O a6 [1] [1] [] Z fun X0 _ _ Z=>?_);refine wp_seq (rg O a6 [2] [] [] Z fun X1 _ _ Z=>?_);refine wp_ret ((rsi O a6 Z f9 (he:=?_)));subst O;exact Sim.bool (by show(if decide (kd=1)=true then true else decide (kd=5))=_;rw[Y5];rfl)
theorem yT(A:Option Addr)(n c:Nat)(f:Nat->Itm)(hn:n<=1000)(kd:Int)(nx:Lab)(mk:Int)(hv:U64 nx.bits)(A2:Option Addr)(n2 c2:Nat)(f2:Nat->Itm)(hn2:n2<=1000)(kd2:Int)(nx2:Lab)(mk2:Int)(hv2:U64 nx2.bits):k7 Tryz.prog 292 [F1 A n c f kd nx mk,F1 A2 n2 c2 f2 kd2 nx2 mk2] (fun x=>.tup [bz (x.A 0) (x.c 0) (bS kd n f nx mk kd2 n2 f2 nx2 mk2).1,.int .i64 (bS kd n f nx mk kd2 n2 f2 nx2 mk2).2]):=by
 intro m w hm hargs;have hmx:maxLen=9223372036854775807:=rfl;have SI:=eD A n c f (by omega) kd nx mk hv;have SI2:=eD A2 n2 c2 f2 (by omega) kd2 nx2 mk2 hv2;obtain⟨i1,hi1⟩:=eqv (D7 kd n f nx mk);obtain⟨i2,hi2⟩:=eqv (D7 kd2 n2 f2 nx2 mk2);obtain⟨ov,hov⟩:=eqv (ovl n f n2 f2);rw[<-hi1]at SI;rw[<-hi2]at SI2;unfold F1 l6 at SI SI2 hargs;have SF:=sZ A n c f (by omega) kd nx mk;have SF2:=sZ A2 n2 c2 f2 (by omega) kd2 nx2 mk2;unfold F1 l6 at SF SF2;obtain⟨x1,hx1⟩:=eqv ((decide (kd=1)||decide (kd=5)));obtain⟨x2,hx2⟩:=eqv ((decide (kd2=1)||decide (kd2=5)));rw[<-hx1]at SF;rw[<-hx2]at SF2;have SC:=fun A0=>yt A0 2 2 (fun i=>if i=0 then A else A2) (fun i=>if i=0 then n else n2) (fun i=>if i=0 then c else c2) (fun i=>if i=0 then f else f2) (by decide) (fun i hi=>by show(if i=0 then n else n2)<=1000;split<;>omega)
 rw[yx]at SC;obtain⟨N,hN⟩:=eqv ((b4 f n++b4 f2 n2).length);obtain⟨g,hg⟩:=eqv (itF (b4 f n++b4 f2 n2));rw[<-hN,<-hg]at SC;have hNn:N=n+n2:=by rw[hN,List.length_append,i3,i3]
 have hot:=zU (b:=(if(!i1)=true then true else !i2)) f n f2 n2 (by omega) (by omega);rw[<-hg,<-hNn,<-hov]at hot;unfold l6 at SC;refine en 70 hm hargs Tryz.func292 fun B O a0 Z=>?_
 refine wp_seq (rg O a6 [2,3,4] [2,3,4] [] Z fun X0 _ _ Z=>?_);refine wp_seq (rg O a6 [6,2,3,4] [2,3,4] [(5,.r fun x=>.sl none (x.A 0) N (x.c 0) 2 (fun i=>itC (g i)))] Z (hob:=?hob) fun X1 _ _ Z=>?_)
 case hob=>
  intro X;subst O
  repeat(first|exact trivial|refine⟨rfl,?_⟩|refine⟨⟨uV,(SC _).sim ⟨Sim.resl rfl (fun i hi=>by have h2:i=0 \/ i=1:=(by omega);rcases h2 with rfl|rfl<;>rfl),trivial⟩⟩,?_⟩)
 refine wp_seq (rg O a6 [7,6,2,3,4] [2,3,4] [] Z fun X2 _ _ Z=>?_);replace Z:=Z.head (v':=.int .i64 (n:Int)) (by subst O;rfl);refine wp_seq (wp_block (wp_seq (drg O a6 [17,6,7,2,3,4] [2,3,4] [(1,.r fun _=>.bool (.v i1)),(5,.r fun _=>.bool (.v i2))] Z (hob:=?hob) fun X3 _ _ Z=>?_)))
 case hob=>
  intro X;subst O;simp only[b7,Ob.holds,BE.den,List.mem_cons,List.not_mem_nil,or_false,forall_eq_or_imp,forall_eq]
  and_intros<;>first|trivial|exact Q3|exact SI|exact SI2|(intros;first|trivial|exact Q3|exact SI2|exact⟨Q3,SI2⟩)|(intro h;first|exact yY hn h.1|exact yX h.1)
 apply a7 Z rfl<;>intro hb Z
 .have h9:(if(if(!i1)=true then true else !i2)=true then true else(if(if decide ((n:Int)>0)=true then decide ((n:Int)<(N:Int))else false)=true then decide ((g (IntKind.i64.wrap ((n:Int)-1)).toNat).key ≥ (g (n:Int).toNat).key)else false))=true:=by subst O;exact hb
  rw[hot]at h9;have hW:(bS kd n f nx mk kd2 n2 f2 nx2 mk2)=(i9,1):=by unfold bS;rw[<-hi1,<-hi2,<-hov];cases i1<;>cases i2<;>cases ov<;>first|rfl|(simp at h9)
  refine wp_seq (rg O a6 [4,5] [4] [] Z (hob:=?hob) fun X4 _ _ Z=>?_)
  case hob=>
   intro X;subst O
   repeat(first|exact trivial|refine⟨rfl,?_⟩|refine⟨fun _=>rfl,?_⟩|refine⟨f7 (Kk:=noK) _ _ _ _,?_⟩|refine⟨fun _=>f7 (Kk:=noK) _ _ _ _,?_⟩)
  refine wp_ret ((rsi O a6 Z (⟨0,fun _=>none,fun _=>0,fun _=>⟨#[]⟩⟩) (he:=?_)));subst O;rw[hW];exact Sim.tup ⟨Sim.agg ⟨zr,zq0,zr,zr,zr,trivial⟩,zr,trivial⟩
 have h9:(if(if(!i1)=true then true else !i2)=true then true else(if(if decide ((n:Int)>0)=true then decide ((n:Int)<(N:Int))else false)=true then decide ((g (IntKind.i64.wrap ((n:Int)-1)).toNat).key ≥ (g (n:Int).toNat).key)else false))=false:=by subst O;exact hb
 rw[hot]at h9;have h12:i1=true/\i2=true/\ov=false:=by cases i1<;>cases i2<;>cases ov<;>first|exact⟨rfl,rfl,rfl⟩|(simp at h9)
 obtain⟨h1t,h2t,hovf⟩:=h12;have hU:(bS kd n f nx mk kd2 n2 f2 nx2 mk2)=(if ¬(kd=1 \/ kd=5) \/ ¬(kd2=1 \/ kd2=5)then(i9,13)else if 16<n+n2 then(i9,12)else(⟨1,b4 f n++b4 f2 n2,nx2,0⟩,0)):=by unfold bS;rw[<-hi1,<-hi2,<-hov,h1t,h2t,hovf];rfl
 refine wp_seq (rg O a6 [51,6,3,4] [3,4] [(1,.r fun _=>.bool (.v x1)),(5,.r fun _=>.bool (.v x2))] Z (hob:=?hob) fun X5 _ _ Z=>?_)
 case hob=>
  intro X;subst O
  repeat(first|exact trivial|refine⟨rfl,?_⟩|refine⟨fun _=>rfl,?_⟩|refine⟨f7 (Kk:=noK) _ _ _ _,?_⟩|refine⟨fun _=>f7 (Kk:=noK) _ _ _ _,?_⟩|refine⟨⟨fe,SF⟩,?_⟩|refine⟨fun _=>⟨fe,SF⟩,?_⟩|refine⟨⟨fe,SF2⟩,?_⟩|refine⟨fun _=>⟨fe,SF2⟩,?_⟩)
 apply a7 Z rfl<;>intro hb Z
 .have h9:(if(!x1)=true then true else !x2)=true:=by subst O;exact hb
  have hfx:¬(kd=1 \/ kd=5) \/ ¬(kd2=1 \/ kd2=5):=by
   cases h1:x1 with
   |false=>left;rw[h1]at hx1;simpa using hx1.symm
   |true=>
    right
    rw[h1]at h9;have h2:x2=false:=by cases x2<;>first|rfl|(simp at h9)
    rw[h2]at hx2;simpa using hx2.symm
  have hW:(bS kd n f nx mk kd2 n2 f2 nx2 mk2)=(i9,13):=by rw[hU,if_pos hfx]
  refine wp_seq (rg O a6 [4,5] [4] [] Z (hob:=?hob) fun X6 _ _ Z=>?_)
  case hob=>
   intro X;subst O
   repeat(first|exact trivial|refine⟨rfl,?_⟩|refine⟨fun _=>rfl,?_⟩|refine⟨f7 (Kk:=noK) _ _ _ _,?_⟩|refine⟨fun _=>f7 (Kk:=noK) _ _ _ _,?_⟩)
  refine wp_ret ((rsi O a6 Z (⟨0,fun _=>none,fun _=>0,fun _=>⟨#[]⟩⟩) (he:=?_)));subst O;rw[hW];exact Sim.tup ⟨Sim.agg ⟨zr,zq0,zr,zr,zr,trivial⟩,zr,trivial⟩
 have h9:(if(!x1)=true then true else !x2)=false:=by subst O;exact hb
 have hfx:¬(¬(kd=1 \/ kd=5) \/ ¬(kd2=1 \/ kd2=5)):=by
  have h1:x1=true/\x2=true:=by cases x1<;>cases x2<;>first|exact⟨rfl,rfl⟩|(simp at h9)
  rw[h1.1]at hx1;rw[h1.2]at hx2;have a:=hx1.symm;have b:=hx2.symm;simp only[Bool.or_eq_true,decide_eq_true_eq]at a b;intro h
  rcases h with h|h
  .exact h a
  exact h b
 refine wp_seq (rg O a6 [61,6,3,4] [3,4] [] Z fun X7 _ _ Z=>?_);apply a7 Z rfl<;>intro hb Z
 .have hf16:16<n+n2:=by
   have:(16:Int)<(N:Int):=by subst O;simpa[std,a8]using hb
   omega
  have hW:(bS kd n f nx mk kd2 n2 f2 nx2 mk2)=(i9,12):=by rw[hU,if_neg hfx,if_pos hf16]
  refine wp_seq (rg O a6 [4,5] [4] [] Z (hob:=?hob) fun X8 _ _ Z=>?_)
  case hob=>
   intro X;subst O
   repeat(first|exact trivial|refine⟨rfl,?_⟩|refine⟨fun _=>rfl,?_⟩|refine⟨f7 (Kk:=noK) _ _ _ _,?_⟩|refine⟨fun _=>f7 (Kk:=noK) _ _ _ _,?_⟩)
  refine wp_ret ((rsi O a6 Z (⟨0,fun _=>none,fun _=>0,fun _=>⟨#[]⟩⟩) (he:=?_)));subst O;rw[hW];exact Sim.tup ⟨Sim.agg ⟨zr,zq0,zr,zr,zr,trivial⟩,zr,trivial⟩
 have hf16:¬16<n+n2:=by
  have:¬(16:Int)<(N:Int):=by subst O;simpa[std,a8]using hb
  omega
 have hW:(bS kd n f nx mk kd2 n2 f2 nx2 mk2)=(⟨1,b4 f n++b4 f2 n2,nx2,0⟩,0):=by rw[hU,if_neg hfx,if_neg hf16]
 refine wp_skip (wp_seq (rg O a6 [4,5] [4] [] Z (hob:=?hob) fun X9 _ _ Z=>?_))
 case hob=>
  intro X;subst O
  repeat(first|exact trivial|refine⟨rfl,?_⟩|refine⟨fun _=>rfl,?_⟩|refine⟨f7 (Kk:=noK) _ _ _ _,?_⟩|refine⟨fun _=>f7 (Kk:=noK) _ _ _ _,?_⟩)
 refine wp_ret ((rsi O a6 Z (⟨0,fun _=>(X1 5).A 0,fun _=>(X1 5).c 0,fun _=>⟨#[]⟩⟩) (he:=?_)));subst O;rw[hW];exact Sim.tup ⟨Sim.agg ⟨zr,Sim.resl hN (fun t ht=>by rw[hg]),zr,zr,zr,trivial⟩,zr,trivial⟩
theorem vV(A:Option Addr)(n c:Nat)(f:Nat->Itm)(hn:n<=1000)(kd:Int)(nx:Lab)(mk:Int)(hv:U64 nx.bits)(A2:Option Addr)(n2 c2:Nat)(f2:Nat->Itm)(hn2:n2<=1000)(kd2:Int)(nx2:Lab)(mk2:Int)(hv2:U64 nx2.bits):k7 Tryz.prog 264 [F1 A n c f kd nx mk,F1 A2 n2 c2 f2 kd2 nx2 mk2] (fun x=>.tup [bz (x.A 0) (x.c 0) (bS kd n f nx mk kd2 n2 f2 nx2 mk2).1,.int .i64 (bS kd n f nx mk kd2 n2 f2 nx2 mk2).2]):=by
 intro m w hm hargs;have hmx:maxLen=9223372036854775807:=rfl;have SI:=iI A n c f (by omega) kd nx mk hv;have SI2:=iI A2 n2 c2 f2 (by omega) kd2 nx2 mk2 hv2;obtain⟨i1,hi1⟩:=eqv (D7 kd n f nx mk);obtain⟨i2,hi2⟩:=eqv (D7 kd2 n2 f2 nx2 mk2);obtain⟨ov,hov⟩:=eqv (ovl n f n2 f2);rw[<-hi1]at SI;rw[<-hi2]at SI2;unfold F1 l6 at SI SI2 hargs;have hot:=wI f n f2 n2 (by omega);rw[<-hov]at hot;refine en 82 hm hargs Tryz.func264 fun B O a0 Z=>?_
 refine wp_seq (rg O a6 [2,3,4] [2,3,4] [] Z fun X0 _ _ Z=>?_);refine wp_seq (wp_seq (rg O a6 [15,2,3,4] [2,3,4] [(1,.r fun _=>.bool (.v i1)),(5,.r fun _=>.bool (.v i2))] Z (hob:=?hob) fun X1 _ _ Z=>?_))
 case hob=>
  intro X;subst O
  repeat(first|exact trivial|refine⟨rfl,?_⟩|refine⟨fun _=>rfl,?_⟩|refine⟨f7 (Kk:=noK) _ _ _ _,?_⟩|refine⟨fun _=>f7 (Kk:=noK) _ _ _ _,?_⟩|refine⟨⟨M5,SI⟩,?_⟩|refine⟨fun _=>⟨M5,SI⟩,?_⟩|refine⟨⟨M5,SI2⟩,?_⟩|refine⟨fun _=>⟨M5,SI2⟩,?_⟩)
 apply a7 Z rfl<;>intro hb Z
 .have h9:(if(!i1)=true then true else !i2)=true:=by subst O;exact hb
  have hW:(bS kd n f nx mk kd2 n2 f2 nx2 mk2)=(i9,1):=by unfold bS;rw[<-hi1,<-hi2,<-hov];cases i1<;>cases i2<;>cases ov<;>first|rfl|(simp at h9)
  refine wp_seq (rg O a6 [4,5] [4] [] Z (hob:=?hob) fun X2 _ _ Z=>?_)
  case hob=>
   intro X;subst O
   repeat(first|exact trivial|refine⟨rfl,?_⟩|refine⟨fun _=>rfl,?_⟩|refine⟨f7 (Kk:=noK) _ _ _ _,?_⟩|refine⟨fun _=>f7 (Kk:=noK) _ _ _ _,?_⟩)
  refine wp_ret ((rsi O a6 Z (⟨0,fun _=>none,fun _=>0,fun _=>⟨#[]⟩⟩) (he:=?_)));subst O;rw[hW];exact Sim.tup ⟨Sim.agg ⟨zr,zq0,zr,zr,zr,trivial⟩,zr,trivial⟩
 have h9:(if(!i1)=true then true else !i2)=false:=by subst O;exact hb
 have h12:i1=true/\i2=true:=by cases i1<;>cases i2<;>first|exact⟨rfl,rfl⟩|(simp at h9)
 obtain⟨h1t,h2t⟩:=h12;refine wp_skip (wp_seq (rg O a6 [6,2,3,4] [2,3,4] [] Z (hob:=?hob) fun X3 _ _ Z=>?_))
 case hob=>
  intro X;subst O
  repeat(first|exact trivial|refine⟨rfl,?_⟩|refine⟨fun _=>rfl,?_⟩|refine⟨f7 (Kk:=noK) _ _ _ _,?_⟩|refine⟨fun _=>f7 (Kk:=noK) _ _ _ _,?_⟩)
 replace Z:=Z.head (v':=.int .i64 (n:Int)) (by subst O;rfl);refine wp_seq (wp_seq (drg O a6 [42,6,2,3,4] [2,3,4] [] Z (hob:=?hob) fun X4 _ _ Z=>?_))
 case hob=>
  intro X;subst O;simp only[b7,Ob.holds,BE.den,List.mem_cons,List.not_mem_nil,or_false,forall_eq_or_imp,forall_eq]
  and_intros<;>first|trivial|(intro h;first|trivial|exact yW hn h|exact yU h)
 apply a7 Z rfl<;>intro hb Z
 .have h8:(if(if decide ((n:Int)>0)=true then decide ((n2:Int)>0)else false)=true then decide ((f (IntKind.i64.wrap ((n:Int)-1)).toNat).key ≥ (f2 (0:Int).toNat).key)else false)=true:=by subst O;exact hb
  rw[hot]at h8;have hW:(bS kd n f nx mk kd2 n2 f2 nx2 mk2)=(i9,1):=by unfold bS;rw[<-hi1,<-hi2,<-hov,h1t,h2t,h8];rfl
  refine wp_seq (rg O a6 [4,5] [4] [] Z (hob:=?hob) fun X5 _ _ Z=>?_)
  case hob=>
   intro X;subst O
   repeat(first|exact trivial|refine⟨rfl,?_⟩|refine⟨fun _=>rfl,?_⟩|refine⟨f7 (Kk:=noK) _ _ _ _,?_⟩|refine⟨fun _=>f7 (Kk:=noK) _ _ _ _,?_⟩)
  refine wp_ret ((rsi O a6 Z (⟨0,fun _=>none,fun _=>0,fun _=>⟨#[]⟩⟩) (he:=?_)));subst O;rw[hW];exact Sim.tup ⟨Sim.agg ⟨zr,zq0,zr,zr,zr,trivial⟩,zr,trivial⟩
 have h8:(if(if decide ((n:Int)>0)=true then decide ((n2:Int)>0)else false)=true then decide ((f (IntKind.i64.wrap ((n:Int)-1)).toNat).key ≥ (f2 (0:Int).toNat).key)else false)=false:=by subst O;exact hb
 rw[hot]at h8;have hU:(bS kd n f nx mk kd2 n2 f2 nx2 mk2)=(if ¬(kd=1 \/ kd=5) \/ ¬(kd2=1 \/ kd2=5)then(i9,13)else if 16<n+n2 then(i9,12)else(⟨1,b4 f n++b4 f2 n2,nx2,0⟩,0)):=by unfold bS;rw[<-hi1,<-hi2,<-hov,h1t,h2t,h8];rfl
 refine wp_skip (wp_seq (wp_seq (rg O a6 [61,6,2,3,4] [2,3,4] [] Z fun X6 _ _ Z=>?_)));apply a7 Z rfl<;>intro hb Z
 .have h7:(if(if(!decide (kd=1))=true then !decide (kd=5)else false)=true then true else(if(!decide (kd2=1))=true then !decide (kd2=5)else false))=true:=by subst O;exact hb
  have hfx:=(mY kd kd2).1 h7;have hW:(bS kd n f nx mk kd2 n2 f2 nx2 mk2)=(i9,13):=by rw[hU,if_pos hfx]
  refine wp_seq (rg O a6 [4,5] [4] [] Z (hob:=?hob) fun X7 _ _ Z=>?_)
  case hob=>
   intro X;subst O
   repeat(first|exact trivial|refine⟨rfl,?_⟩|refine⟨fun _=>rfl,?_⟩|refine⟨f7 (Kk:=noK) _ _ _ _,?_⟩|refine⟨fun _=>f7 (Kk:=noK) _ _ _ _,?_⟩)
  refine wp_ret ((rsi O a6 Z (⟨0,fun _=>none,fun _=>0,fun _=>⟨#[]⟩⟩) (he:=?_)));subst O;rw[hW];exact Sim.tup ⟨Sim.agg ⟨zr,zq0,zr,zr,zr,trivial⟩,zr,trivial⟩
 have h7:(if(if(!decide (kd=1))=true then !decide (kd=5)else false)=true then true else(if(!decide (kd2=1))=true then !decide (kd2=5)else false))=false:=by subst O;exact hb
 have hfx:=(mY kd kd2).2 h7;refine wp_skip (wp_seq (wp_seq (rg O a6 [68,2,3,4] [2,3,4] [] Z (hob:=?hob) fun X8 _ _ Z=>?_)))
 case hob=>
  intro X;subst O
  repeat(first|exact trivial|refine⟨rfl,?_⟩|refine⟨fun _=>rfl,?_⟩|refine⟨f7 (Kk:=noK) _ _ _ _,?_⟩|refine⟨fun _=>f7 (Kk:=noK) _ _ _ _,?_⟩)
 apply a7 Z rfl<;>intro hb Z
 .have hf16:16<n+n2:=by
   have:(16:Int)<IntKind.i64.wrap ((n:Int)+(n2:Int)):=by subst O;simpa[std,a8,o9]using hb
   rw[o8 (by omega) (by omega)]at this;omega
  have hW:(bS kd n f nx mk kd2 n2 f2 nx2 mk2)=(i9,12):=by rw[hU,if_neg hfx,if_pos hf16]
  refine wp_seq (rg O a6 [4,5] [4] [] Z (hob:=?hob) fun X9 _ _ Z=>?_)
  case hob=>
   intro X;subst O
   repeat(first|exact trivial|refine⟨rfl,?_⟩|refine⟨fun _=>rfl,?_⟩|refine⟨f7 (Kk:=noK) _ _ _ _,?_⟩|refine⟨fun _=>f7 (Kk:=noK) _ _ _ _,?_⟩)
  refine wp_ret ((rsi O a6 Z (⟨0,fun _=>none,fun _=>0,fun _=>⟨#[]⟩⟩) (he:=?_)));subst O;rw[hW];exact Sim.tup ⟨Sim.agg ⟨zr,zq0,zr,zr,zr,trivial⟩,zr,trivial⟩
 have hf16:¬16<n+n2:=by
  have:¬(16:Int)<IntKind.i64.wrap ((n:Int)+(n2:Int)):=by subst O;simpa[std,a8,o9]using hb
  rw[o8 (by omega) (by omega)]at this;omega
 have hW:(bS kd n f nx mk kd2 n2 f2 nx2 mk2)=(⟨1,b4 f n++b4 f2 n2,nx2,0⟩,0):=by rw[hU,if_neg hfx,if_neg hf16]
 refine wp_skip (wp_seq (rg O a6 [7,2,3,4] [2,3,4,7] [] Z fun X10 _ _ Z=>?_));refine wp_seq (rg O a6 [7,3,4] [3,4,7] [] Z (hob:=?hob) fun X11 _ _ Z=>?_)
 case hob=>
  intro X;subst O
  repeat(first|exact trivial|refine⟨⟨rfl,rfl,rfl⟩,?_⟩|refine⟨⟨show 0+n<=maxLen by omega,show(0+n)*_<=_ by omega⟩,?_⟩|refine⟨rfl,?_⟩)
 refine wp_seq (rg O a6 [7,3,4] [3,4,7] [] Z (hob:=?hob) fun X12 _ _ Z=>?_)
 case hob=>
  intro X;subst O
  repeat(first|exact trivial|refine⟨⟨rfl,rfl,rfl⟩,?_⟩|refine⟨⟨show 0+n+n2<=maxLen by omega,show(0+n+n2)*_<=_ by omega⟩,?_⟩|refine⟨rfl,?_⟩)
 refine wp_seq (rg O a6 [4,5] [4] [] Z (hob:=?hob) fun X13 _ _ Z=>?_)
 case hob=>
  intro X;subst O
  repeat(first|exact trivial|refine⟨rfl,?_⟩|refine⟨fun _=>rfl,?_⟩|refine⟨f7 (Kk:=noK) _ _ _ _,?_⟩|refine⟨fun _=>f7 (Kk:=noK) _ _ _ _,?_⟩)
 refine wp_ret ((rsi O a6 Z (⟨0,fun _=>(X12 3).A 0,fun _=>(X12 3).c 0,fun _=>⟨#[]⟩⟩) (he:=?_)));subst O;rw[hW];refine Sim.tup ⟨Sim.agg ⟨zr,Sim.resl (show 0+n+n2=(b4 f n++b4 f2 n2).length by rw[List.length_append,i3,i3];omega) (fun t ht=>?_),zr,zr,zr,trivial⟩,zr,trivial⟩
 show P5 (0+n) (P5 0 _ (fun t=>itC (f t))) (fun t=>itC (f2 t)) t=itC (itF (b4 f n++b4 f2 n2) t)
 rw[rR f n f2 n2 t (by have h:t<(b4 f n++b4 f2 n2).length:=ht;rw[List.length_append,i3,i3]at h;exact h)];unfold P5 jM;rw[Nat.zero_add]
 by_cases h:t<n
 .rw [if_pos h,if_neg (Nat.not_lt_zero _),if_pos h];rfl
 rw[if_neg h,if_neg h]
structure LOk(l:Lab):Prop where
 isl:isL l=true
 u:U64 l.bits
theorem R5:LOk ⟨0,0⟩:=⟨by decide,by decide,by decide⟩
theorem LOk.ch{l:Lab}(h:LOk l)(b:Int):LOk (chV l b):=by
 unfold chV
 split
 .rename_i he
  have h64:l.len≠64:=by
   intro h64;unfold chE at he;rw[h.isl]at he;simp[h64]at he
  exact⟨fk h.isl h.u h64 b,dD h.isl h.u h64 b⟩
 exact R5
theorem LOk.par{l:Lab}(h:LOk l):LOk (F8 l):=by
 unfold F8
 split
 .rename_i he
  have h0:l.len≠0:=by
   intro h0;unfold G2 at he;rw[h.isl]at he;simp[h0]at he
  exact⟨sC h.isl h.u h0,GX h.u⟩
 exact R5
theorem I9{f:Nat->Itm}{c:Nat}{A:Option Addr}:Sim (.sl none A 0 c 2 (fun _=>[])) (.sl none A 0 c 2 (fun i=>itC (f i))):=Sim.recell fun i hi=>absurd hi (Nat.not_lt_zero _)
theorem EH(x:RA)(h:K8 x)(l:Lab)(hl:U64 l.bits):k7 Tryz.prog 287 [C6 x,f4 l] (fun y=>.tup [C6 ⟨y.A 0,y.c 0,(R6 x l).1.rn⟩,C6 ⟨y.A 1,y.c 1,(R6 x l).2.1.rn⟩,.int .i64 (R6 x l).2.2]):=by
 have hf:=h.few
 cases hb:(D7 x.r.kd x.r.n x.r.f x.r.nx x.r.mrk&&isL l)with
 |false=>exact uS x.A x.r.n x.c x.r.f (by omega) x.r.kd x.r.nx x.r.mrk h.nx h.key l hl hb
 |true=>exact rv x.A x.r.n x.c x.r.f (by omega) x.r.kd x.r.nx x.r.mrk h.nx h.key l hl hb
theorem Gk(x y:RA)(h:K8 x)(h':K8 y):k7 Tryz.prog 292 [C6 x,C6 y] (fun z=>.tup [C6 ⟨z.A 0,z.c 0,(cZ x y).1.rn⟩,.int .i64 (cZ x y).2]):=by
 have hf:=h.few;have hf':=h'.few;exact yT x.A x.r.n x.c x.r.f (by omega) x.r.kd x.r.nx x.r.mrk h.nx y.A y.r.n y.c y.r.f (by omega) y.r.kd y.r.nx y.r.mrk h'.nx
def fzR:Fz->RA
 | .fr x=>x
 |_=>zRA
def fzI:Fz->Int
 | .over=>0
 | .unfit=>1
 | .fr _=>2
def tj(z:Fz):AV:=.tup [C6 (fzR z),.int .i64 (fzI z)]
theorem Hp{z:Fz}(h:fzI z=0):z = .over:=by cases z<;>first|rfl|(simp[fzI]at h)
theorem Ho{z:Fz}(h:fzI z=1):z = .unfit:=by cases z<;>first|rfl|(simp[fzI]at h)
theorem Hn{z:Fz}(h0:fzI z≠0)(h1:fzI z≠1):z = .fr (fzR z):=by cases z<;>first|rfl|exact absurd rfl h0|exact absurd rfl h1
theorem u7 (bk k:Int) (n:Nat) (l up:Lab) (p:Pst):de bk k (n + 1) l up p=(J9 k l p).bind fun g p => if gk g 5=true then (J9 k up p).bind fun q p =>
      (if(gk q 3||gk q 4)=true then R3 bk k n up q p else .ok () p).bind fun _ p=>
        if gk q 2=true then(N8 k l g.ver (asR 1 g.x 0).r.abs p).bind fun d p=>if d=true then .ok () p else de bk k n l up p else .ok () p else .ok () p:=rfl
section
def ClC(n:Nat):Prop:=∀(k0 b:Nat) (J:i5) (hJ:j0 J) (A:Option Addr) (c:Nat) (p:Pst) (hp:f8 p) (hn:p.n<=1000000) (l:Lab) (hl:LOk l),p.n<n->s8 235 k0 b J A c p [f4 l] (fun _=>i4) (E5 J.budget n l p)
def ThC(n:Nat):Prop:=∀(k0 b:Nat) (J:i5) (hJ:j0 J) (A:Option Addr) (c:Nat) (p:Pst) (hp:f8 p) (hn:p.n<=1000000) (l:Lab) (hl:LOk l),p.n<n->s8 236 k0 b J A c p [f4 l] (fun _=>i4) (I6 J.bucket J.budget n l p)
def Cj(n:Nat):Prop:=∀(k0 b:Nat) (J:i5) (hJ:j0 J) (A:Option Addr) (c:Nat) (p:Pst) (hp:f8 p) (hn:p.n<=1000000) (l:Lab) (hl:LOk l) (g:r9) (hg:cW g),p.n<n->s8 193 k0 b J A c p [f4 l,u4 g] (fun _=>i4) (R3 J.bucket J.budget n l g p)
end
theorem EM(b:Nat)(J:i5)(hJ:j0 J)(A:Option Addr)(c:Nat)(p:Pst)(hp:f8 p)(hn:p.n<=1000000)(l:Lab)(v:Int)(d:Lab)(n:Nat)(hf:p.n<n):s8 290 0 b J A c p [f4 l,.int .u64 v,f4 d] (tj) (M8 J.budget l v d n p):=by
 intro m w hm hargs hpre;refine enX 52 hm hpre hargs Tryz.func290 fun B O a0 Z=>?_
 refine wp_seq (rg O a6 [0,2,5,7,8] [0,5,7,8] [] Z fun X0 a0 w1 Z=>?_);refine wp_block (l4 (ι:=Nat×Pst×Option Addr×Nat) (fun q=>[]) (fun q=>[(0,⟨b,166,B9 J q.2.2.1 q.2.2.2 q.2.1⟩)]) (fun q=>[]) (fun q=>M8 J.budget l v d n p=M8 J.budget l v d q.1 q.2.1/\f8 q.2.1/\q.2.1.n<=1000000/\q.2.1.n<q.1) (fun q=>q.1) (n,p,A,c) ⟨rfl,hp,hn,hf⟩ Z ?_)
 rintro⟨nn,p0,A0,c0⟩ ⟨hrun,hp0,hn0,hf0⟩ a0 w1 Z
 try dsimp only at hrun
 try dsimp only at hp0
 try dsimp only at hn0
 try dsimp only at hf0
 obtain⟨n2,rfl⟩:∃n2,nn=n2+1:=⟨nn-1,by omega⟩
 refine wp_block (wp_seq ?_)
 rcases(V6 0 b J hJ A0 c0 p0 hp0 hn0 d).two (i7 _ _ _) hp0 hn0 with⟨w1,p1,hm1,O1⟩|⟨g1,p1,hm1,hs1,hp1,hn1,S1⟩
 .refine stp 2 O a6 [12,13] [0] [] Z O1 fun _ _ _ _ Z hk=>?_
  exact thm (P:=Tryz.prog) (fn:=Tryz.f290) (q:=p1) Z hk (by simp[hrun,M8,Rs.bind,hm1])
 have hl1:=u5 hm1;have hg1:=hp0.get hm1;have O1:=S1;refine rg O a6 [0,2,5,7,8,10] [0,5,7,8,10] [(2,rc J (u4 g1) p1)] Z fun X1 a0 w1 Z=>?_
 obtain⟨q2,hq2⟩:=eqv ((gk g1 1||gk g1 5));refine wp_seq (wp_block (wp_seq ?_));refine rg O a6 [15,0,2,5,7,8,10] [0,5,7,8,10] [(2,.r fun _=>.bool (.v q2))] Z (hob:=by intro X;subst O;simp only[b7,Ob.holds,BE.den]<;>and_intros<;>repeat first|trivial|rfl|exact(by rw[hq2];exact cu g1 _ _ 1 5 _ rfl rfl)|exact by rw[hq2];exact cu g1 _ _ 1 5 _ rfl rfl|exact(fun _ _=>by kernel_rfl)|refine⟨?_,?_⟩|intro h|exact Int.le_refl _|decide|omega) fun X2 a0 w1 Z=>?_
 apply a7 Z rfl<;>intro hb Z
 .have tq2:(gk g1 1||gk g1 5)=false:=by subst O;rw[<-hq2];revert hb;cases q2<;>simp[std]
  refine wp_seq (rg O a6 [8,9] [0,8] [] Z fun X3 a0 w1 Z=>?_);refine wp_ret ((rmm O a6 Z (v:=Fz.unfit) (q:=p1) ((X1 2).A 0) ((X1 2).c 0) (by simp[hrun,M8,Rs.bind,hm1,tq2]) (he:=?_)).1);subst O;exact Sim.tup ⟨Sim.agg ⟨zr,I9,zr,zr,zr,trivial⟩,zr,trivial⟩
 have tq2:(gk g1 1||gk g1 5)=true:=by subst O;rw[<-hq2];revert hb;cases q2<;>simp[std]
 obtain⟨q4,hq4⟩:=eqv (gk g1 5);apply wp_seq;refine rg O a6 [21,0,2,5,7,8,10] [0,5,7,8,10] [(2,.r fun _=>.bool (.v q4))] Z (hob:=by intro X;subst O;simp only[b7,Ob.holds,BE.den]<;>and_intros<;>repeat first|trivial|rfl|exact(by rw[hq4];exact F4 g1 _ _ 5 _ rfl)|exact by rw[hq4];exact F4 g1 _ _ 5 _ rfl|exact(fun _ _=>by kernel_rfl)|refine⟨?_,?_⟩|intro h|exact Int.le_refl _|decide|omega) fun X4 a0 w1 Z=>?_
 apply a7 Z rfl<;>intro hb Z
 .have t4:(gk g1 5&&decide (g1.x.r.mrk=v))=true:=by subst O;rw[<-hq4];revert hb;cases q4<;>simp[std,a8]
  refine wp_seq (rg O a6 [8,9] [0,8] [] Z fun X5 a0 w1 Z=>?_);exact wp_ret ((rmm O a6 Z (v:=(Fz.fr g1.x)) (q:=p1) ((X1 2).A 0) ((X1 2).c 0) (by simp[hrun,M8,Rs.bind,hm1,tq2,t4])).1)
 have t4:(gk g1 5&&decide (g1.x.r.mrk=v))=false:=by subst O;rw[<-hq4];revert hb;cases q4<;>simp[std,a8]
 apply wp_seq
 rcases(jR 0 b J hJ ((X1 2).A 0) ((X1 2).c 0) p1 hp1 hn1 l v).two (i7 _ _ _) hp1 hn1 with⟨w6,p6,hm6,O1⟩|⟨g6,p6,hm6,hs6,hp6,hn6,S6⟩
 .refine stp 3 O a6 [35,36,37] [0] [] Z O1 fun _ _ _ _ Z hk=>?_
  exact thm (P:=Tryz.prog) (fn:=Tryz.f290) (q:=p6) Z hk (by simp[hrun,M8,Rs.bind,hm1,tq2,t4,hm6])
 have hl6:=u5 hm6;have hg6:=hp1.get hm6
 try dsimp only at S6
 obtain⟨d6,hd6⟩:=eqv (decide (g6.ver=v));rw[<-hd6]at S6;have O1:=S6;refine rg O a6 [34,0,2,5,7,8,10] [0,5,7,8,10] [(3,rc J (.bool (.v d6)) p6)] Z fun X6 a0 w1 Z=>?_
 apply a7 Z rfl<;>intro hb Z
 .have t6:¬g6.ver=v:=by
   have h9:(!d6)=true:=by subst O;exact hb
   rw[hd6]at h9;simpa using h9
  refine wp_seq (rg O a6 [8,9] [0,8] [] Z fun X7 a0 w1 Z=>?_);refine wp_ret ((rmm O a6 Z (v:=Fz.over) (q:=p6) ((X6 3).A 0) ((X6 3).c 0) (by simp[hrun,M8,Rs.bind,hm1,tq2,t4,hm6,t6]) (he:=?_)).1);subst O;exact Sim.tup ⟨Sim.agg ⟨zr,I9,zr,zr,zr,trivial⟩,zr,trivial⟩
 have t6:g6.ver=v:=by
  have h9:(!d6)=false:=by subst O;exact hb
  rw[hd6]at h9;simpa using h9
 have O1:=qt 5 g1.x v;refine wp_skip (wp_seq (rg O a6 [0,2,5,7,8,10,11] [0,5,7,8,10,11] [(3,.r fun _=>C6 (asR 5 g1.x v))] Z fun X8 a0 w1 Z=>?_));apply wp_seq
 rcases(cS 0 b J hJ ((X6 3).A 0) ((X6 3).c 0) p6 hp6 hn6 d g1.ver (asR 5 g1.x v)).two (l5 _ _ _ _ _) hp6 hn6 with⟨w9,p9,hm9,O1⟩|⟨d9,p9,hm9,hs9,hp9,hn9,S9⟩
 .refine stp 5 O a6 [45,46,48,49] [0] [] Z O1 fun _ _ _ _ Z hk=>?_
  exact thm (P:=Tryz.prog) (fn:=Tryz.f290) (q:=p9) Z hk (by simp[hrun,M8,Rs.bind,hm1,tq2,t4,hm6,t6,hm9])
 have O1:=S9;refine rg O a6 [50,0,2,5,7,8,11] [0,5,7,8,11] [(5,rc J (.bool (.v d9)) p9)] Z fun X9 a0 w1 Z=>?_
 apply a7 Z rfl<;>intro hb Z
 .have t9:d9=true:=by exact hb
  refine wp_seq (rg O a6 [8,9] [0,8] [] Z fun X10 a0 w1 Z=>?_);exact wp_ret ((rmm O a6 Z (v:=(Fz.fr (asR 5 g1.x v))) (q:=p9) ((X9 5).A 0) ((X9 5).c 0) (by simp[hrun,M8,Rs.bind,hm1,tq2,t4,hm6,t6,hm9,t9])).1)
 have t9:d9=false:=by exact hb
 replace Z:=Z.keep [0,2,5,7,8] [0,5,7,8];exact wp_skip (⟨(n2,p9,_,_),⟨by rw[hrun];simp[M8,Rs.bind,hm1,tq2,t4,hm6,t6,hm9,t9],hp9,hn9,by dsimp only;have:=hl1;have:=hs6.le;have:=hs9.le;have:=hf0;omega⟩,by simp only;omega,Z⟩)
theorem Dl(k0 b:Nat)(J:i5)(hJ:j0 J)(A:Option Addr)(c:Nat)(p:Pst)(hp:f8 p)(hn:p.n<=1000000)(l:Lab)(v:Int)(d:Lab)(n:Nat)(hf:p.n<n):s8 290 k0 b J A c p [f4 l,.int .u64 v,f4 d] (tj) (M8 J.budget l v d n p):=s8.re (EM b J hJ A c p hp hn l v d n hf) (by repeat(first|exact trivial|refine⟨zr,?_⟩))
theorem lT(k0 b:Nat)(J:i5)(hJ:j0 J)(A:Option Addr)(c:Nat)(p:Pst)(hp:f8 p)(hn:p.n<=1000000)(l:Lab)(v:Int):s8 164 k0 b J A c p [f4 l,.int .u64 v,xx] (fun d=>.bool (.v d)) (N8 J.budget l v eF p):=
 s8.re (cS 0 b J hJ A c p hp hn l v ⟨none,0,eF.rn⟩) ⟨zr,zr,Sim.agg ⟨zr,I9,zr,zr,zr,trivial⟩,trivial⟩
theorem FT(b:Nat)(J:i5)(hJ:j0 J)(A:Option Addr)(c:Nat)(p:Pst)(hp:f8 p)(hn:p.n<=1000000)(l:Lab)(hl:LOk l)(v:Int)(n:Nat)(hth:ThC n)(hf:p.n<n):s8 291 0 b J A c p [f4 l,.int .u64 v] (fun _=>i4) (aS J.budget (I6 J.bucket J.budget n) l v p):=by
 intro m w hm hargs hpre;have SC:=tF l hl.u;have hk0:=hl.ch 0;have hk1:=hl.ch 1;simp only[f4]at SC;obtain⟨x0,hx0⟩:=eqv (chV l 0);rw[<-hx0]at SC hk0;obtain⟨x1,hx1⟩:=eqv (chV l 1);rw[<-hx1]at SC hk1;refine enX 23 hm hpre hargs Tryz.func291 fun B O a0 Z=>?_
 refine wp_seq (rg O a6 [0,2,4] [0,4] [] Z fun X0 a0 w1 Z=>?_);refine wp_seq (wp_seq ?_)
 rcases(lT 0 b J hJ A c p hp hn l v).two (l5 _ _ _ _ _) hp hn with⟨w1,p1,hm1,O1⟩|⟨d1,p1,hm1,hs1,hp1,hn1,S1⟩
 .have O2:=fy
  refine kC 4 O a6 [8,9,10,11] [0] [(3,.r fun _=>.agg [.int .i64 2,.sl none none 0 0 2 (fun _=>[]),.int .i64 (-1),.int .u64 0,.int .u64 0])] Z O1 fun _ _ _ _ Z hk=>?_
  exact thm (P:=Tryz.prog) (fn:=Tryz.f291) (q:=p1) Z hk (by simp[aS,<-hx0,<-hx1,Rs.bind,hm1])
 have O1:=fy;have O2:=S1;refine drg O a6 [13,0,4] [0,4] [(3,.r fun _=>.agg [.int .i64 2,.sl none none 0 0 2 (fun _=>[]),.int .i64 (-1),.int .u64 0,.int .u64 0]),(4,rc J (.bool (.v d1)) p1)] Z fun X1 a0 w1 Z=>?_
 apply a7 Z rfl<;>intro hb Z
 .have t1:d1=false:=by subst O;revert hb;cases d1<;>simp[std]
  exact wp_ret ((rmm O a6 Z (v:=()) (q:=p1) ((X1 4).A 0) ((X1 4).c 0) (by simp[aS,<-hx0,<-hx1,Rs.bind,hm1,t1])).1)
 have t1:d1=true:=by subst O;revert hb;cases d1<;>simp[std]
 have O1:=SC;refine wp_skip (wp_seq (rg O a6 [16,0,15] [0] [(1,.r fun _=>.agg [.int .i64 x0.len,.int .u64 x0.bits,.int .i64 x1.len,.int .u64 x1.bits])] Z fun X2 a0 w1 Z=>?_));refine wp_block (wp_loop_rounds 3 (C0 (wp_seq (rg O a6 [17,0,15,16] [0] [] Z fun X3 a0 w1 Z=>?_))));replace Z:=Z.headS (v':=.bool .tt) (Sim.bool (by subst O;rfl)) rfl;refine wp_seq (j1 Z rfl (fun Z=>?_));refine wp_skip (wp_seq (wp_block (wp_seq (rg O a6 [0,7,15,16] [0,7] [] Z fun X4 a0 w1 Z=>?_))))
 rcases(hth 0 b J hJ ((X1 4).A 0) ((X1 4).c 0) p1 hp1 hn1 x0 hk0 (by have:=Nat.lt_of_le_of_lt hs1.le hf;omega)).two (E7 _ _ _ _ _) hp1 hn1 with⟨w50,p50,hm50,O1⟩|⟨_u50,p50,hm50,hs50,hp50,hn50,S50⟩
 .refine stp 2 O a6 [19,20] [0] [] Z O1 fun _ _ _ _ Z hk=>?_
  exact thm (P:=Tryz.prog) (fn:=Tryz.f291) (q:=p50) Z hk (by simp[aS,<-hx0,<-hx1,Rs.bind,hm1,t1,hm50])
 have O1:=S50;refine rg O a6 [0,15,16] [0] [(2,rc J (i4) p50)] Z fun X5 a0 w1 Z=>?_
 refine rg O a6 [16,0,15] [0] [] Z fun X6 a0 w1 Z=>?_
 replace Z:=Z.headS (v':=.int .i64 1) (by subst O;exact zr) rfl;refine j5 (wp_seq (rg O a6 [17,0,15,16] [0] [] Z fun X3 a0 w1 Z=>?_));replace Z:=Z.headS (v':=.bool .tt) (Sim.bool (by subst O;rfl)) rfl;refine wp_seq (j1 Z rfl (fun Z=>?_));refine wp_skip (wp_seq (wp_block (wp_seq (rg O a6 [0,7,15,16] [0,7] [] Z fun X4 a0 w1 Z=>?_))))
 rcases(hth 0 b J hJ ((X5 2).A 0) ((X5 2).c 0) p50 hp50 hn50 x1 hk1 (by have:=Nat.lt_of_le_of_lt (Suf.trans hs1 hs50).le hf;omega)).two (E7 _ _ _ _ _) hp50 hn50 with⟨w51,p51,hm51,O1⟩|⟨_u51,p51,hm51,hs51,hp51,hn51,S51⟩
 .refine stp 2 O a6 [19,20] [0] [] Z O1 fun _ _ _ _ Z hk=>?_
  exact thm (P:=Tryz.prog) (fn:=Tryz.f291) (q:=p51) Z hk (by simp[aS,<-hx0,<-hx1,Rs.bind,hm1,t1,hm50,hm51])
 have O1:=S51;refine rg O a6 [0,15,16] [0] [(2,rc J (i4) p51)] Z fun X5 a0 w1 Z=>?_
 refine rg O a6 [16,0,15] [0] [] Z fun X6 a0 w1 Z=>?_
 replace Z:=Z.headS (v':=.int .i64 2) (by subst O;exact zr) rfl;refine j5 (wp_seq (rg O a6 [17,0,15,16] [0] [] Z fun X3 a0 w1 Z=>?_));replace Z:=Z.headS (v':=.bool .ff) (Sim.bool (by subst O;rfl)) rfl;refine wp_seq (j3 Z rfl (fun Z=>?_));exact wp_exit ((rmm O a6 Z (v:=()) (q:=p51) ((X5 2).A 0) ((X5 2).c 0) (by simp[aS,<-hx0,<-hx1,Rs.bind,hm1,t1,hm50,hm51])).2)
theorem yD(k0 b:Nat)(J:i5)(hJ:j0 J)(A:Option Addr)(c:Nat)(p:Pst)(hp:f8 p)(hn:p.n<=1000000)(l:Lab)(hl:LOk l)(v:Int)(n:Nat)(hth:ThC n)(hf:p.n<n):s8 291 k0 b J A c p [f4 l,.int .u64 v] (fun _=>i4) (aS J.budget (I6 J.bucket J.budget n) l v p):=s8.re (FT b J hJ A c p hp hn l hl v n hth hf) (by repeat(first|exact trivial|refine⟨zr,?_⟩))
theorem BX(b:Nat)(J:i5)(hJ:j0 J)(A:Option Addr)(c:Nat)(p:Pst)(hp:f8 p)(hn:p.n<=1000000)(l:Lab)(hl:LOk l)(n:Nat)(ih:ClC n)(hf:p.n<n+1):s8 235 0 b J A c p [f4 l] (fun _=>i4) (E5 J.budget (n+1) l p):=by
 intro m w hm hargs hpre;have SC:=tF l hl.u;have hk0:=hl.ch 0;have hk1:=hl.ch 1;simp only[f4]at SC;obtain⟨x0,hx0⟩:=eqv (chV l 0);rw[<-hx0]at SC hk0;obtain⟨x1,hx1⟩:=eqv (chV l 1);rw[<-hx1]at SC hk1;refine enX 37 hm hpre hargs Tryz.func235 fun B O a0 Z=>?_
 refine wp_seq (rg O a6 [0,3] [0,3] [] Z fun X0 _ _ Z=>?_);refine wp_seq (wp_seq (rg O a6 [9,0,3] [0,3] [] Z fun X1 _ _ Z=>?_));apply a7 Z rfl<;>intro hb Z
 .have t0:l.len=64:=by subst O;simpa[std,a8]using hb
  exact wp_ret ((rmm O a6 Z (v:=()) (q:=p) A c (by simp[E5,I0,<-hx0,<-hx1,Rs.bind,t0])).1)
 have t0:¬l.len=64:=by subst O;simpa[std,a8]using hb
 have O1:=SC;refine wp_skip (wp_seq (rg O a6 [12,0,3,11] [0,3] [(1,.r fun _=>.agg [.int .i64 x0.len,.int .u64 x0.bits,.int .i64 x1.len,.int .u64 x1.bits])] Z fun X2 _ _ Z=>?_));refine wp_block (wp_loop_rounds 3 (C0 (wp_seq (rg O a6 [13,0,3,11,12] [0,3] [] Z fun X3 _ _ Z=>?_))));replace Z:=Z.headS (v':=.bool .tt) (Sim.bool (by subst O;rfl)) rfl;refine wp_seq (j1 Z rfl (fun Z=>?_));refine wp_skip (wp_seq (wp_block (wp_seq (rg O a6 [0,3,5,11,12] [0,3,5] [] Z fun X4 _ _ Z=>?_))));apply wp_seq
 rcases(V6 0 b J hJ A c p hp hn x0).two (i7 _ _ _) hp hn with⟨w50,p50,hm50,O1⟩|⟨g0,p50,hm50,hs50,hp50,hn50,S50⟩
 .refine stp 2 O a6 [15,16] [0] [] Z O1 fun _ _ _ _ Z hk=>?_
  exact thm (P:=Tryz.prog) (fn:=Tryz.f235) (q:=p50) Z hk (by simp[E5,I0,<-hx0,<-hx1,Rs.bind,t0,hm50])
 have hl50:=u5 hm50;have hg50:=hp.get hm50;have O1:=S50;refine rg O a6 [0,3,5,6,11,12] [0,3,5,6] [(2,rc J (u4 g0) p50)] Z fun X5 _ _ Z=>?_
 obtain⟨q0,hq0⟩:=eqv (gk g0 5);refine wp_seq (wp_seq ?_);refine rg O a6 [21,0,3,5,6,11,12] [0,3,5,6] [(2,.r fun _=>.bool (.v q0))] Z (hob:=by intro X;subst O;simp only[b7,Ob.holds,BE.den]<;>and_intros<;>repeat first|trivial|rfl|exact(by rw[hq0];exact F4 g0 _ _ 5 _ rfl)|exact by rw[hq0];exact F4 g0 _ _ 5 _ rfl|exact(fun _ _=>by kernel_rfl)|refine⟨?_,?_⟩|intro h|exact Int.le_refl _|decide|omega) fun X6 _ _ Z=>?_
 apply a7 Z rfl<;>intro hb Z
 .have tq0:gk g0 5=false:=by subst O;rw[<-hq0];revert hb;cases q0<;>simp[std]
  refine wp_exit (rg O a6 [12,0,3,11] [0,3] [] Z fun X10 _ _ Z=>?_);replace Z:=Z.headS (v':=.int .i64 1) (by subst O;exact zr) rfl;refine j5 (wp_seq (rg O a6 [13,0,3,11,12] [0,3] [] Z fun X3 _ _ Z=>?_));replace Z:=Z.headS (v':=.bool .tt) (Sim.bool (by subst O;rfl)) rfl;refine wp_seq (j1 Z rfl (fun Z=>?_));refine wp_skip (wp_seq (wp_block (wp_seq (rg O a6 [0,3,5,11,12] [0,3,5] [] Z fun X4 _ _ Z=>?_))));apply wp_seq
  rcases(V6 0 b J hJ ((X5 2).A 0) ((X5 2).c 0) p50 hp50 hn50 x1).two (i7 _ _ _) hp50 hn50 with⟨w51,p51,hm51,O1⟩|⟨g1,p51,hm51,hs51,hp51,hn51,S51⟩
  .refine stp 2 O a6 [15,16] [0] [] Z O1 fun _ _ _ _ Z hk=>?_
   exact thm (P:=Tryz.prog) (fn:=Tryz.f235) (q:=p51) Z hk (by simp[E5,I0,<-hx0,<-hx1,Rs.bind,t0,hm50,tq0,hm51])
  have hl51:=u5 hm51;have hg51:=hp50.get hm51;have O1:=S51;refine rg O a6 [0,3,5,6,11,12] [0,3,5,6] [(2,rc J (u4 g1) p51)] Z fun X5 _ _ Z=>?_
  obtain⟨q1,hq1⟩:=eqv (gk g1 5);refine wp_seq (wp_seq ?_);refine rg O a6 [21,0,3,5,6,11,12] [0,3,5,6] [(2,.r fun _=>.bool (.v q1))] Z (hob:=by intro X;subst O;simp only[b7,Ob.holds,BE.den]<;>and_intros<;>repeat first|trivial|rfl|exact(by rw[hq1];exact F4 g1 _ _ 5 _ rfl)|exact by rw[hq1];exact F4 g1 _ _ 5 _ rfl|exact(fun _ _=>by kernel_rfl)|refine⟨?_,?_⟩|intro h|exact Int.le_refl _|decide|omega) fun X6 _ _ Z=>?_
  apply a7 Z rfl<;>intro hb Z
  .have tq1:gk g1 5=false:=by subst O;rw[<-hq1];revert hb;cases q1<;>simp[std]
   refine wp_exit (rg O a6 [12,0,3,11] [0,3] [] Z fun X10 _ _ Z=>?_);replace Z:=Z.headS (v':=.int .i64 2) (by subst O;exact zr) rfl;refine j5 (wp_seq (rg O a6 [13,0,3,11,12] [0,3] [] Z fun X3 _ _ Z=>?_));replace Z:=Z.headS (v':=.bool .ff) (Sim.bool (by subst O;rfl)) rfl;refine wp_seq (j3 Z rfl (fun Z=>?_));exact wp_exit ((rmm O a6 Z (v:=()) (q:=p51) ((X5 2).A 0) ((X5 2).c 0) (by simp[E5,I0,<-hx0,<-hx1,Rs.bind,t0,hm50,tq0,hm51,tq1])).2)
  have tq1:gk g1 5=true:=by subst O;rw[<-hq1];revert hb;cases q1<;>simp[std]
  refine wp_skip (wp_seq ?_)
  rcases(ih 0 b J hJ ((X5 2).A 0) ((X5 2).c 0) p51 hp51 hn51 x1 hk1 (by have:=hs51.le;have:=hl51;have:=(Suf.trans (Suf.refl p) hs50).le;omega)).two (Y7 _ _ _ _) hp51 hn51 with⟨w71,p71,hm71,O1⟩|⟨v71,p71,hm71,hs71,hp71,hn71,S71⟩
  .refine stp 2 O a6 [22,23] [0] [] Z O1 fun _ _ _ _ Z hk=>?_
   exact thm (P:=Tryz.prog) (fn:=Tryz.f235) (q:=p71) Z hk (by simp[E5,I0,<-hx0,<-hx1,Rs.bind,t0,hm50,tq0,hm51,tq1,hm71])
  have O1:=S71;refine rg O a6 [0,3,5,6,11,12] [0,3,5,6] [(2,rc J (i4) p71)] Z fun X7 _ _ Z=>?_
  refine wp_seq (wp_seq ?_)
  rcases(V6 0 b J hJ ((X7 2).A 0) ((X7 2).c 0) p71 hp71 hn71 l).two (i7 _ _ _) hp71 hn71 with⟨w81,p81,hm81,O1⟩|⟨h1,p81,hm81,hs81,hp81,hn81,S81⟩
  .refine stp 2 O a6 [25,26] [0] [] Z O1 fun _ _ _ _ Z hk=>?_
   exact thm (P:=Tryz.prog) (fn:=Tryz.f235) (q:=p81) Z hk (by simp[E5,I0,<-hx0,<-hx1,Rs.bind,t0,hm50,tq0,hm51,tq1,hm71,hm81])
  have hl81:=u5 hm81;have hg81:=hp71.get hm81;obtain⟨r1,hr1⟩:=eqv ((gk h1 1||gk h1 5));refine rg O a6 [30,0,3,5,6,11,12] [0,3,5,6] [(4,.r fun _=>.bool (.v r1)),(2,rc J (u4 h1) p81)] Z (hob:=by intro X;subst O;simp only[b7,Ob.holds,BE.den]<;>and_intros<;>repeat first|trivial|rfl|exact S81|exact(by rw[hr1];exact cu h1 _ _ 1 5 _ rfl rfl)|exact by rw[hr1];exact cu h1 _ _ 1 5 _ rfl rfl|exact(fun _ _=>by kernel_rfl)|refine⟨?_,?_⟩|intro h|exact Int.le_refl _|decide|omega) fun X8 _ _ Z=>?_
  apply a7 Z rfl<;>intro hb Z
  .have tr1:(gk h1 1||gk h1 5)=false:=by subst O;rw[<-hr1];revert hb;cases r1<;>simp[std]
   exact wp_ret ((rmm O a6 Z (v:=()) (q:=p81) ((X8 2).A 0) ((X8 2).c 0) (by simp[E5,I0,<-hx0,<-hx1,Rs.bind,t0,hm50,tq0,hm51,tq1,hm71,hm81,tr1])).1)
  have tr1:(gk h1 1||gk h1 5)=true:=by subst O;rw[<-hr1];revert hb;cases r1<;>simp[std]
  refine wp_skip ?_
  rcases(ye 0 b J hJ ((X8 2).A 0) ((X8 2).c 0) p81 hp81 hn81 x1 g1.ver).two (dz _ _ _ _) hp81 hn81 with⟨w91,p91,hm91,O1⟩|⟨d1,p91,hm91,hs91,hp91,hn91,S91⟩
  .refine stp 4 O a6 [31,32,34] [0] [] Z O1 fun _ _ _ _ Z hk=>?_
   exact thm (P:=Tryz.prog) (fn:=Tryz.f235) (q:=p91) Z hk (by simp[E5,I0,<-hx0,<-hx1,Rs.bind,t0,hm50,tq0,hm51,tq1,hm71,hm81,tr1,hm91])
  have O1:=S91;refine rg O a6 [0,3,11,12] [0,3] [(4,rc J (.bool (.v d1)) p91)] Z fun X9 _ _ Z=>?_
  refine rg O a6 [12,0,3,11] [0,3] [] Z fun X10 _ _ Z=>?_
  replace Z:=Z.headS (v':=.int .i64 2) (by subst O;exact zr) rfl;refine j5 (wp_seq (rg O a6 [13,0,3,11,12] [0,3] [] Z fun X3 _ _ Z=>?_));replace Z:=Z.headS (v':=.bool .ff) (Sim.bool (by subst O;rfl)) rfl;refine wp_seq (j3 Z rfl (fun Z=>?_));exact wp_exit ((rmm O a6 Z (v:=()) (q:=p91) ((X9 4).A 0) ((X9 4).c 0) (by simp[E5,I0,<-hx0,<-hx1,Rs.bind,t0,hm50,tq0,hm51,tq1,hm71,hm81,tr1,hm91])).2)
 have tq0:gk g0 5=true:=by subst O;rw[<-hq0];revert hb;cases q0<;>simp[std]
 refine wp_skip (wp_seq ?_)
 rcases(ih 0 b J hJ ((X5 2).A 0) ((X5 2).c 0) p50 hp50 hn50 x0 hk0 (by have:=hs50.le;have:=hl50;have:=(Suf.refl p).le;omega)).two (Y7 _ _ _ _) hp50 hn50 with⟨w70,p70,hm70,O1⟩|⟨v70,p70,hm70,hs70,hp70,hn70,S70⟩
 .refine stp 2 O a6 [22,23] [0] [] Z O1 fun _ _ _ _ Z hk=>?_
  exact thm (P:=Tryz.prog) (fn:=Tryz.f235) (q:=p70) Z hk (by simp[E5,I0,<-hx0,<-hx1,Rs.bind,t0,hm50,tq0,hm70])
 have O1:=S70;refine rg O a6 [0,3,5,6,11,12] [0,3,5,6] [(2,rc J (i4) p70)] Z fun X7 _ _ Z=>?_
 refine wp_seq (wp_seq ?_)
 rcases(V6 0 b J hJ ((X7 2).A 0) ((X7 2).c 0) p70 hp70 hn70 l).two (i7 _ _ _) hp70 hn70 with⟨w80,p80,hm80,O1⟩|⟨h0,p80,hm80,hs80,hp80,hn80,S80⟩
 .refine stp 2 O a6 [25,26] [0] [] Z O1 fun _ _ _ _ Z hk=>?_
  exact thm (P:=Tryz.prog) (fn:=Tryz.f235) (q:=p80) Z hk (by simp[E5,I0,<-hx0,<-hx1,Rs.bind,t0,hm50,tq0,hm70,hm80])
 have hl80:=u5 hm80;have hg80:=hp70.get hm80;obtain⟨r0,hr0⟩:=eqv ((gk h0 1||gk h0 5));refine rg O a6 [30,0,3,5,6,11,12] [0,3,5,6] [(4,.r fun _=>.bool (.v r0)),(2,rc J (u4 h0) p80)] Z (hob:=by intro X;subst O;simp only[b7,Ob.holds,BE.den]<;>and_intros<;>repeat first|trivial|rfl|exact S80|exact(by rw[hr0];exact cu h0 _ _ 1 5 _ rfl rfl)|exact by rw[hr0];exact cu h0 _ _ 1 5 _ rfl rfl|exact(fun _ _=>by kernel_rfl)|refine⟨?_,?_⟩|intro h|exact Int.le_refl _|decide|omega) fun X8 _ _ Z=>?_
 apply a7 Z rfl<;>intro hb Z
 .have tr0:(gk h0 1||gk h0 5)=false:=by subst O;rw[<-hr0];revert hb;cases r0<;>simp[std]
  exact wp_ret ((rmm O a6 Z (v:=()) (q:=p80) ((X8 2).A 0) ((X8 2).c 0) (by simp[E5,I0,<-hx0,<-hx1,Rs.bind,t0,hm50,tq0,hm70,hm80,tr0])).1)
 have tr0:(gk h0 1||gk h0 5)=true:=by subst O;rw[<-hr0];revert hb;cases r0<;>simp[std]
 refine wp_skip ?_
 rcases(ye 0 b J hJ ((X8 2).A 0) ((X8 2).c 0) p80 hp80 hn80 x0 g0.ver).two (dz _ _ _ _) hp80 hn80 with⟨w90,p90,hm90,O1⟩|⟨d0,p90,hm90,hs90,hp90,hn90,S90⟩
 .refine stp 4 O a6 [31,32,34] [0] [] Z O1 fun _ _ _ _ Z hk=>?_
  exact thm (P:=Tryz.prog) (fn:=Tryz.f235) (q:=p90) Z hk (by simp[E5,I0,<-hx0,<-hx1,Rs.bind,t0,hm50,tq0,hm70,hm80,tr0,hm90])
 have O1:=S90;refine rg O a6 [0,3,11,12] [0,3] [(4,rc J (.bool (.v d0)) p90)] Z fun X9 _ _ Z=>?_
 refine rg O a6 [12,0,3,11] [0,3] [] Z fun X10 _ _ Z=>?_
 replace Z:=Z.headS (v':=.int .i64 1) (by subst O;exact zr) rfl;refine j5 (wp_seq (rg O a6 [13,0,3,11,12] [0,3] [] Z fun X3 _ _ Z=>?_));replace Z:=Z.headS (v':=.bool .tt) (Sim.bool (by subst O;rfl)) rfl;refine wp_seq (j1 Z rfl (fun Z=>?_));refine wp_skip (wp_seq (wp_block (wp_seq (rg O a6 [0,3,5,11,12] [0,3,5] [] Z fun X4 _ _ Z=>?_))));apply wp_seq
 rcases(V6 0 b J hJ ((X9 4).A 0) ((X9 4).c 0) p90 hp90 hn90 x1).two (i7 _ _ _) hp90 hn90 with⟨w51,p51,hm51,O1⟩|⟨g1,p51,hm51,hs51,hp51,hn51,S51⟩
 .refine stp 2 O a6 [15,16] [0] [] Z O1 fun _ _ _ _ Z hk=>?_
  exact thm (P:=Tryz.prog) (fn:=Tryz.f235) (q:=p51) Z hk (by simp[E5,I0,<-hx0,<-hx1,Rs.bind,t0,hm50,tq0,hm70,hm80,tr0,hm90,hm51])
 have hl51:=u5 hm51;have hg51:=hp90.get hm51;have O1:=S51;refine rg O a6 [0,3,5,6,11,12] [0,3,5,6] [(2,rc J (u4 g1) p51)] Z fun X5 _ _ Z=>?_
 obtain⟨q1,hq1⟩:=eqv (gk g1 5);refine wp_seq (wp_seq ?_);refine rg O a6 [21,0,3,5,6,11,12] [0,3,5,6] [(2,.r fun _=>.bool (.v q1))] Z (hob:=by intro X;subst O;simp only[b7,Ob.holds,BE.den]<;>and_intros<;>repeat first|trivial|rfl|exact(by rw[hq1];exact F4 g1 _ _ 5 _ rfl)|exact by rw[hq1];exact F4 g1 _ _ 5 _ rfl|exact(fun _ _=>by kernel_rfl)|refine⟨?_,?_⟩|intro h|exact Int.le_refl _|decide|omega) fun X6 _ _ Z=>?_
 apply a7 Z rfl<;>intro hb Z
 .have tq1:gk g1 5=false:=by subst O;rw[<-hq1];revert hb;cases q1<;>simp[std]
  refine wp_exit (rg O a6 [12,0,3,11] [0,3] [] Z fun X10 _ _ Z=>?_);replace Z:=Z.headS (v':=.int .i64 2) (by subst O;exact zr) rfl;refine j5 (wp_seq (rg O a6 [13,0,3,11,12] [0,3] [] Z fun X3 _ _ Z=>?_));replace Z:=Z.headS (v':=.bool .ff) (Sim.bool (by subst O;rfl)) rfl;refine wp_seq (j3 Z rfl (fun Z=>?_));exact wp_exit ((rmm O a6 Z (v:=()) (q:=p51) ((X5 2).A 0) ((X5 2).c 0) (by simp[E5,I0,<-hx0,<-hx1,Rs.bind,t0,hm50,tq0,hm70,hm80,tr0,hm90,hm51,tq1])).2)
 have tq1:gk g1 5=true:=by subst O;rw[<-hq1];revert hb;cases q1<;>simp[std]
 refine wp_skip (wp_seq ?_)
 rcases(ih 0 b J hJ ((X5 2).A 0) ((X5 2).c 0) p51 hp51 hn51 x1 hk1 (by have:=hs51.le;have:=hl51;have:=(Suf.trans (Suf.trans (Suf.trans (Suf.trans (Suf.refl p) hs50) hs70) hs80) hs90).le;omega)).two (Y7 _ _ _ _) hp51 hn51 with⟨w71,p71,hm71,O1⟩|⟨v71,p71,hm71,hs71,hp71,hn71,S71⟩
 .refine stp 2 O a6 [22,23] [0] [] Z O1 fun _ _ _ _ Z hk=>?_
  exact thm (P:=Tryz.prog) (fn:=Tryz.f235) (q:=p71) Z hk (by simp[E5,I0,<-hx0,<-hx1,Rs.bind,t0,hm50,tq0,hm70,hm80,tr0,hm90,hm51,tq1,hm71])
 have O1:=S71;refine rg O a6 [0,3,5,6,11,12] [0,3,5,6] [(2,rc J (i4) p71)] Z fun X7 _ _ Z=>?_
 refine wp_seq (wp_seq ?_)
 rcases(V6 0 b J hJ ((X7 2).A 0) ((X7 2).c 0) p71 hp71 hn71 l).two (i7 _ _ _) hp71 hn71 with⟨w81,p81,hm81,O1⟩|⟨h1,p81,hm81,hs81,hp81,hn81,S81⟩
 .refine stp 2 O a6 [25,26] [0] [] Z O1 fun _ _ _ _ Z hk=>?_
  exact thm (P:=Tryz.prog) (fn:=Tryz.f235) (q:=p81) Z hk (by simp[E5,I0,<-hx0,<-hx1,Rs.bind,t0,hm50,tq0,hm70,hm80,tr0,hm90,hm51,tq1,hm71,hm81])
 have hl81:=u5 hm81;have hg81:=hp71.get hm81;obtain⟨r1,hr1⟩:=eqv ((gk h1 1||gk h1 5));refine rg O a6 [30,0,3,5,6,11,12] [0,3,5,6] [(4,.r fun _=>.bool (.v r1)),(2,rc J (u4 h1) p81)] Z (hob:=by intro X;subst O;simp only[b7,Ob.holds,BE.den]<;>and_intros<;>repeat first|trivial|rfl|exact S81|exact(by rw[hr1];exact cu h1 _ _ 1 5 _ rfl rfl)|exact by rw[hr1];exact cu h1 _ _ 1 5 _ rfl rfl|exact(fun _ _=>by kernel_rfl)|refine⟨?_,?_⟩|intro h|exact Int.le_refl _|decide|omega) fun X8 _ _ Z=>?_
 apply a7 Z rfl<;>intro hb Z
 .have tr1:(gk h1 1||gk h1 5)=false:=by subst O;rw[<-hr1];revert hb;cases r1<;>simp[std]
  exact wp_ret ((rmm O a6 Z (v:=()) (q:=p81) ((X8 2).A 0) ((X8 2).c 0) (by simp[E5,I0,<-hx0,<-hx1,Rs.bind,t0,hm50,tq0,hm70,hm80,tr0,hm90,hm51,tq1,hm71,hm81,tr1])).1)
 have tr1:(gk h1 1||gk h1 5)=true:=by subst O;rw[<-hr1];revert hb;cases r1<;>simp[std]
 refine wp_skip ?_
 rcases(ye 0 b J hJ ((X8 2).A 0) ((X8 2).c 0) p81 hp81 hn81 x1 g1.ver).two (dz _ _ _ _) hp81 hn81 with⟨w91,p91,hm91,O1⟩|⟨d1,p91,hm91,hs91,hp91,hn91,S91⟩
 .refine stp 4 O a6 [31,32,34] [0] [] Z O1 fun _ _ _ _ Z hk=>?_
  exact thm (P:=Tryz.prog) (fn:=Tryz.f235) (q:=p91) Z hk (by simp[E5,I0,<-hx0,<-hx1,Rs.bind,t0,hm50,tq0,hm70,hm80,tr0,hm90,hm51,tq1,hm71,hm81,tr1,hm91])
 have O1:=S91;refine rg O a6 [0,3,11,12] [0,3] [(4,rc J (.bool (.v d1)) p91)] Z fun X9 _ _ Z=>?_
 refine rg O a6 [12,0,3,11] [0,3] [] Z fun X10 _ _ Z=>?_
 replace Z:=Z.headS (v':=.int .i64 2) (by subst O;exact zr) rfl;refine j5 (wp_seq (rg O a6 [13,0,3,11,12] [0,3] [] Z fun X3 _ _ Z=>?_));replace Z:=Z.headS (v':=.bool .ff) (Sim.bool (by subst O;rfl)) rfl;refine wp_seq (j3 Z rfl (fun Z=>?_));exact wp_exit ((rmm O a6 Z (v:=()) (q:=p91) ((X9 4).A 0) ((X9 4).c 0) (by simp[E5,I0,<-hx0,<-hx1,Rs.bind,t0,hm50,tq0,hm70,hm80,tr0,hm90,hm51,tq1,hm71,hm81,tr1,hm91])).2)
theorem FK(k0 b:Nat)(J:i5)(hJ:j0 J)(A:Option Addr)(c:Nat)(p:Pst)(hp:f8 p)(hn:p.n<=1000000)(l:Lab)(hl:LOk l)(n:Nat)(ih:ClC n)(hf:p.n<n+1):s8 235 k0 b J A c p [f4 l] (fun _=>i4) (E5 J.budget (n+1) l p):=s8.re (BX b J hJ A c p hp hn l hl n ih hf) (by repeat(first|exact trivial|refine⟨zr,?_⟩))
theorem Dr:∀n,ClC n
 |0=>fun _ _ _ _ _ _ _ _ _ _ _ h=>absurd h (Nat.not_lt_zero _)
 |n+1=>fun k0 b J hJ A c p hp hn l hl hf=>FK k0 b J hJ A c p hp hn l hl n (Dr n) hf
theorem DN(b:Nat)(J:i5)(hJ:j0 J)(A:Option Addr)(c:Nat)(p:Pst)(hp:f8 p)(hn:p.n<=1000000)(l:Lab)(hl:LOk l)(v:Int)(x:RA)(hx:K8 x)(n:Nat)(hf:p.n<n):s8 254 0 b J A c p [f4 l,.int .u64 v,C6 x] (fun _=>i4) (u3 J.budget n l v x p):=by
 intro m w hm hargs hpre;have SC:=tF l hl.u;have hk0:=hl.ch 0;have hk1:=hl.ch 1;simp only[f4]at SC;obtain⟨x0,hx0⟩:=eqv (chV l 0);rw[<-hx0]at SC hk0;obtain⟨x1,hx1⟩:=eqv (chV l 1);rw[<-hx1]at SC hk1;have SH:=EH x hx l hl.u;obtain⟨e,he⟩:=eqv ((R6 x l).2.2);rw[<-he]at SH;obtain⟨r0,hr0⟩:=eqv ((R6 x l).1.rn);rw[<-hr0]at SH;obtain⟨r1,hr1⟩:=eqv ((R6 x l).2.1.rn);rw[<-hr1]at SH;have ha0:r0.abs=(R6 x l).1:=by rw[hr0];exact U7 _
 have ha1:r1.abs=(R6 x l).2.1:=by rw[hr1];exact U7 _
 simp only[f4]at SH;refine enX 63 hm hpre hargs Tryz.func254 fun B O a0 Z=>?_
 refine wp_seq (rg O a6 [0,2,5,7] [0,5,7] [] Z fun X0 _ _ Z=>?_);have O1:=SH;refine wp_seq (rg O a6 [0,2,5,8,9,10] [0,5,8,9] [(2,.r fun y=>.tup [.agg [.int .i64 r0.kd,.sl none (y.A 0) r0.n (y.c 0) 2 (fun i=>itC (r0.f i)),.int .i64 r0.nx.len,.int .u64 r0.nx.bits,.int .u64 r0.mrk],.agg [.int .i64 r1.kd,.sl none (y.A 1) r1.n (y.c 1) 2 (fun i=>itC (r1.f i)),.int .i64 r1.nx.len,.int .u64 r1.nx.bits,.int .u64 r1.mrk],.int .i64 e])] Z fun X1 _ _ Z=>?_);refine wp_seq (wp_seq (rg O a6 [23,0,2,5,8,9] [0,5,8,9] [] Z fun X2 _ _ Z=>?_));apply a7 Z rfl<;>intro hb Z
 .have t0:¬e=0:=by subst O;simpa[std,a8]using hb
  exact wp_ret ((rmm O a6 Z (v:=()) (q:=p) A c (by simp[u3,z7,<-hx0,<-hx1,<-ha0,<-ha1,<-he,Rs.bind,t0])).1)
 have t0:e=0:=by subst O;simpa[std,a8]using hb
 refine wp_skip (wp_seq (rg O a6 [0,2,5,11] [0,5,11] [] Z fun X3 _ _ Z=>?_));have O1:=SC;refine wp_seq (wp_seq (rg O a6 [29,0,2,5,11,28] [0,5,11] [(1,.r fun _=>.agg [.int .i64 x0.len,.int .u64 x0.bits,.int .i64 x1.len,.int .u64 x1.bits])] Z fun X4 _ _ Z=>?_));refine wp_block (wp_loop_rounds 3 (C0 (wp_seq (rg O a6 [30,0,2,5,11,28,29] [0,5,11] [] Z fun X5 _ _ Z=>?_))));replace Z:=Z.headS (v':=.bool .tt) (Sim.bool (by subst O;rfl)) rfl;refine wp_seq (j1 Z rfl (fun Z=>?_));refine wp_skip (wp_seq (wp_block (wp_seq (rg O a6 [0,2,5,11,12,13,28,29] [0,5,11,13] [] Z fun X6 _ _ Z=>?_))));refine wp_block (l4 (ι:=Nat×Pst×Option Addr×Nat) (fun q=>[]) (fun q=>[(0,⟨b,166,B9 J q.2.2.1 q.2.2.2 q.2.1⟩)]) (fun q=>[]) (fun q=>z7 J.budget l v x0 r0.abs n p=z7 J.budget l v x0 r0.abs q.1 q.2.1/\f8 q.2.1/\q.2.1.n<=1000000/\q.2.1.n<q.1/\q.2.1.n<=p.n) (fun q=>q.1) (n,p,A,c) ⟨rfl,hp,hn,(by dsimp only;skip;omega),(by dsimp only;skip;omega)⟩ Z ?_)
 rintro⟨nn0,p0,A0,c0⟩ ⟨hrun0,hp0,hn0,hf0,hle0⟩ _ _ Z
 try dsimp only at hrun0
 try dsimp only at hp0
 try dsimp only at hn0
 try dsimp only at hf0
 try dsimp only at hle0
 obtain⟨m0,rfl⟩:∃n2,nn0=n2+1:=⟨nn0-1,by omega⟩
 refine wp_block (wp_seq ?_)
 rcases(V6 0 b J hJ A0 c0 p0 hp0 hn0 x0).two (i7 _ _ _) hp0 hn0 with⟨w70,p70,hm70,O1⟩|⟨g0,p70,hm70,hs70,hp70,hn70,S70⟩
 .refine stp 2 O a6 [33,34] [0] [] Z O1 fun _ _ _ _ Z hk=>?_
  exact thm (P:=Tryz.prog) (fn:=Tryz.f254) (q:=p70) Z hk (by simp[u3,z7,<-hx0,<-hx1,<-ha0,<-ha1,<-he,Rs.bind,t0,hrun0,hm70])
 have hl70:=u5 hm70;have hg70:=hp0.get hm70;have O1:=S70;refine rg O a6 [0,2,5,11,12,13,14,28,29] [0,5,11,13,14] [(2,rc J (u4 g0) p70)] Z fun X7 _ _ Z=>?_
 refine wp_seq (wp_seq (rg O a6 [43,0,2,5,11,12,13,14,28,29] [0,5,11,13,14] [] Z fun X8 _ _ Z=>?_));apply a7 Z rfl<;>intro hb Z
 .have tq0:(g0.has && !decide (g0.x.r.kd=5))=true:=by
   have h9:(if g0.has=true then !decide (g0.x.r.kd=5)else false)=true:=by
    have h8:(if g0.has=true then(g0.x.r.kd != 5)else false)=true:=by subst O;exact hb
    exact h8
   rw[<-h9];cases g0.has<;>rfl
  refine wp_exit (rg O a6 [29,0,2,5,11,28] [0,5,11] [] Z fun X11 _ _ Z=>?_);replace Z:=Z.headS (v':=.int .i64 1) (by subst O;exact zr) rfl;refine j5 (wp_seq (rg O a6 [30,0,2,5,11,28,29] [0,5,11] [] Z fun X5 _ _ Z=>?_));replace Z:=Z.headS (v':=.bool .tt) (Sim.bool (by subst O;rfl)) rfl;refine wp_seq (j1 Z rfl (fun Z=>?_));refine wp_skip (wp_seq (wp_block (wp_seq (rg O a6 [0,2,5,11,12,13,28,29] [0,5,11,13] [] Z fun X6 _ _ Z=>?_))));refine wp_block (l4 (ι:=Nat×Pst×Option Addr×Nat) (fun q=>[]) (fun q=>[(0,⟨b,166,B9 J q.2.2.1 q.2.2.2 q.2.1⟩)]) (fun q=>[]) (fun q=>z7 J.budget l v x1 r1.abs n p70=z7 J.budget l v x1 r1.abs q.1 q.2.1/\f8 q.2.1/\q.2.1.n<=1000000/\q.2.1.n<q.1/\q.2.1.n<=p.n) (fun q=>q.1) (n,p70,((X7 2).A 0),((X7 2).c 0)) ⟨rfl,hp70,hn70,(by dsimp only;have:=hle0;have:=hs70.le;omega),(by dsimp only;have:=hle0;have:=hs70.le;omega)⟩ Z ?_)
  rintro⟨nn1,p1,A1,c1⟩ ⟨hrun1,hp1,hn1,hf1,hle1⟩ _ _ Z
  try dsimp only at hrun1
  try dsimp only at hp1
  try dsimp only at hn1
  try dsimp only at hf1
  try dsimp only at hle1
  obtain⟨m1,rfl⟩:∃n2,nn1=n2+1:=⟨nn1-1,by omega⟩
  refine wp_block (wp_seq ?_)
  rcases(V6 0 b J hJ A1 c1 p1 hp1 hn1 x1).two (i7 _ _ _) hp1 hn1 with⟨w71,p71,hm71,O1⟩|⟨g1,p71,hm71,hs71,hp71,hn71,S71⟩
  .refine stp 2 O a6 [33,34] [0] [] Z O1 fun _ _ _ _ Z hk=>?_
   exact thm (P:=Tryz.prog) (fn:=Tryz.f254) (q:=p71) Z hk (by simp[u3,z7,<-hx0,<-hx1,<-ha0,<-ha1,<-he,Rs.bind,t0,hrun0,hm70,tq0,hrun1,hm71])
  have hl71:=u5 hm71;have hg71:=hp1.get hm71;have O1:=S71;refine rg O a6 [0,2,5,11,12,13,14,28,29] [0,5,11,13,14] [(2,rc J (u4 g1) p71)] Z fun X7 _ _ Z=>?_
  refine wp_seq (wp_seq (rg O a6 [43,0,2,5,11,12,13,14,28,29] [0,5,11,13,14] [] Z fun X8 _ _ Z=>?_));apply a7 Z rfl<;>intro hb Z
  .have tq1:(g1.has && !decide (g1.x.r.kd=5))=true:=by
    have h9:(if g1.has=true then !decide (g1.x.r.kd=5)else false)=true:=by
     have h8:(if g1.has=true then(g1.x.r.kd != 5)else false)=true:=by subst O;exact hb
     exact h8
    rw[<-h9];cases g1.has<;>rfl
   refine wp_exit (rg O a6 [29,0,2,5,11,28] [0,5,11] [] Z fun X11 _ _ Z=>?_);replace Z:=Z.headS (v':=.int .i64 2) (by subst O;exact zr) rfl;refine j5 (wp_seq (rg O a6 [30,0,2,5,11,28,29] [0,5,11] [] Z fun X5 _ _ Z=>?_));replace Z:=Z.headS (v':=.bool .ff) (Sim.bool (by subst O;rfl)) rfl;refine wp_seq (j3 Z rfl (fun Z=>?_));refine wp_exit ?_
   rcases(lT 0 b J hJ ((X7 2).A 0) ((X7 2).c 0) p71 hp71 hn71 l v).two (l5 _ _ _ _ _) hp71 hn71 with⟨w12,p12,hm12,O1⟩|⟨d2,p12,hm12,hs12,hp12,hn12,S12⟩
   .have O2:=fy
    refine kC 4 O a6 [58,59,60,61] [0] [(3,.r fun _=>.agg [.int .i64 2,.sl none none 0 0 2 (fun _=>[]),.int .i64 (-1),.int .u64 0,.int .u64 0])] Z O1 fun _ _ _ _ Z hk=>?_
    exact thm (P:=Tryz.prog) (fn:=Tryz.f254) (q:=p12) Z hk (by simp[u3,z7,<-hx0,<-hx1,<-ha0,<-ha1,<-he,Rs.bind,t0,hrun0,hm70,tq0,hrun1,hm71,tq1,hm12])
   have O1:=fy;have O2:=S12;refine drg O a6 [] [0] [(3,.r fun _=>.agg [.int .i64 2,.sl none none 0 0 2 (fun _=>[]),.int .i64 (-1),.int .u64 0,.int .u64 0]),(4,rc J (.bool (.v d2)) p12)] Z fun X12 _ _ Z=>?_
   exact(rmm O a6 Z (v:=()) (q:=p12) ((X12 4).A 0) ((X12 4).c 0) (by simp[u3,z7,<-hx0,<-hx1,<-ha0,<-ha1,<-he,Rs.bind,t0,hrun0,hm70,tq0,hrun1,hm71,tq1,hm12])).2
  have tq1:(g1.has && !decide (g1.x.r.kd=5))=false:=by
   have h9:(if g1.has=true then !decide (g1.x.r.kd=5)else false)=false:=by
    have h8:(if g1.has=true then(g1.x.r.kd != 5)else false)=false:=by subst O;exact hb
    exact h8
   rw[<-h9];cases g1.has<;>rfl
  refine wp_skip (wp_seq (wp_seq ?_))
  rcases(jR 0 b J hJ ((X7 2).A 0) ((X7 2).c 0) p71 hp71 hn71 l v).two (i7 _ _ _) hp71 hn71 with⟨w91,p91,hm91,O1⟩|⟨h1,p91,hm91,hs91,hp91,hn91,S91⟩
  .refine stp 3 O a6 [44,45,46] [0] [] Z O1 fun _ _ _ _ Z hk=>?_
   exact thm (P:=Tryz.prog) (fn:=Tryz.f254) (q:=p91) Z hk (by simp[u3,z7,<-hx0,<-hx1,<-ha0,<-ha1,<-he,Rs.bind,t0,hrun0,hm70,tq0,hrun1,hm71,tq1,hm91])
  have hl91:=u5 hm91;have hg91:=hp71.get hm91
  try dsimp only at S91
  obtain⟨e1,he1⟩:=eqv (decide (h1.ver=v));rw[<-he1]at S91;have O1:=S91;refine rg O a6 [48,0,2,5,11,12,13,14,28,29] [0,5,11,13,14] [(3,rc J (.bool (.v e1)) p91)] Z fun X9 _ _ Z=>?_
  apply a7 Z rfl<;>intro hb Z
  .have t91:¬h1.ver=v:=by
    have h9:(!e1)=true:=by subst O;exact hb
    rw[he1]at h9;simpa using h9
   exact wp_ret ((rmm O a6 Z (v:=()) (q:=p91) ((X9 3).A 0) ((X9 3).c 0) (by simp[u3,z7,<-hx0,<-hx1,<-ha0,<-ha1,<-he,Rs.bind,t0,hrun0,hm70,tq0,hrun1,hm71,tq1,hm91,t91])).1)
  have t91:h1.ver=v:=by
   have h9:(!e1)=false:=by subst O;exact hb
   rw[he1]at h9;simpa using h9
  refine wp_skip (wp_seq ?_)
  rcases(cS 0 b J hJ ((X9 3).A 0) ((X9 3).c 0) p91 hp91 hn91 x1 g1.ver ⟨(X1 2).A 1,(X1 2).c 1,r1⟩).two (l5 _ _ _ _ _) hp91 hn91 with⟨w101,p101,hm101,O1⟩|⟨d1,p101,hm101,hs101,hp101,hn101,S101⟩
  .refine kC 7 O a6 [49,50,52,55] [0] [] Z O1 fun _ _ _ _ Z hk=>?_
   exact thm (P:=Tryz.prog) (fn:=Tryz.f254) (q:=p101) Z hk (by simp[u3,z7,<-hx0,<-hx1,<-ha0,<-ha1,<-he,Rs.bind,t0,hrun0,hm70,tq0,hrun1,hm71,tq1,hm91,t91,hm101])
  have O1:=S101;refine drg O a6 [56,0,2,5,11,12,13,28,29] [0,5,11,13] [(7,rc J (.bool (.v d1)) p101)] Z fun X10 _ _ Z=>?_
  apply a7 Z rfl<;>intro hb Z
  .have td1:d1=true:=by exact hb
   refine wp_exit (rg O a6 [29,0,2,5,11,28] [0,5,11] [] Z fun X11 _ _ Z=>?_);replace Z:=Z.headS (v':=.int .i64 2) (by subst O;exact zr) rfl;refine j5 (wp_seq (rg O a6 [30,0,2,5,11,28,29] [0,5,11] [] Z fun X5 _ _ Z=>?_));replace Z:=Z.headS (v':=.bool .ff) (Sim.bool (by subst O;rfl)) rfl;refine wp_seq (j3 Z rfl (fun Z=>?_));refine wp_exit ?_
   rcases(lT 0 b J hJ ((X10 7).A 0) ((X10 7).c 0) p101 hp101 hn101 l v).two (l5 _ _ _ _ _) hp101 hn101 with⟨w12,p12,hm12,O1⟩|⟨d2,p12,hm12,hs12,hp12,hn12,S12⟩
   .have O2:=fy
    refine kC 4 O a6 [58,59,60,61] [0] [(3,.r fun _=>.agg [.int .i64 2,.sl none none 0 0 2 (fun _=>[]),.int .i64 (-1),.int .u64 0,.int .u64 0])] Z O1 fun _ _ _ _ Z hk=>?_
    exact thm (P:=Tryz.prog) (fn:=Tryz.f254) (q:=p12) Z hk (by simp[u3,z7,<-hx0,<-hx1,<-ha0,<-ha1,<-he,Rs.bind,t0,hrun0,hm70,tq0,hrun1,hm71,tq1,hm91,t91,hm101,td1,hm12])
   have O1:=fy;have O2:=S12;refine drg O a6 [] [0] [(3,.r fun _=>.agg [.int .i64 2,.sl none none 0 0 2 (fun _=>[]),.int .i64 (-1),.int .u64 0,.int .u64 0]),(4,rc J (.bool (.v d2)) p12)] Z fun X12 _ _ Z=>?_
   exact(rmm O a6 Z (v:=()) (q:=p12) ((X12 4).A 0) ((X12 4).c 0) (by simp[u3,z7,<-hx0,<-hx1,<-ha0,<-ha1,<-he,Rs.bind,t0,hrun0,hm70,tq0,hrun1,hm71,tq1,hm91,t91,hm101,td1,hm12])).2
  have td1:d1=false:=by exact hb
  replace Z:=Z.keep [0,2,5,11,12,13,28,29] [0,5,11,13];exact wp_skip (⟨(m1,p101,_,_),⟨by rw[hrun1];simp[z7,Rs.bind,t0,hrun0,hm70,tq0,hrun1,hm71,tq1,hm91,t91,hm101,td1],hp101,hn101,by dsimp only;have:=hl71;have:=hs91.le;have:=hs101.le;have:=hf1;omega,by dsimp only;have:=hl71;have:=hs91.le;have:=hs101.le;have:=hle1;omega⟩,by simp only;omega,Z⟩)
 have tq0:(g0.has && !decide (g0.x.r.kd=5))=false:=by
  have h9:(if g0.has=true then !decide (g0.x.r.kd=5)else false)=false:=by
   have h8:(if g0.has=true then(g0.x.r.kd != 5)else false)=false:=by subst O;exact hb
   exact h8
  rw[<-h9];cases g0.has<;>rfl
 refine wp_skip (wp_seq (wp_seq ?_))
 rcases(jR 0 b J hJ ((X7 2).A 0) ((X7 2).c 0) p70 hp70 hn70 l v).two (i7 _ _ _) hp70 hn70 with⟨w90,p90,hm90,O1⟩|⟨h0,p90,hm90,hs90,hp90,hn90,S90⟩
 .refine stp 3 O a6 [44,45,46] [0] [] Z O1 fun _ _ _ _ Z hk=>?_
  exact thm (P:=Tryz.prog) (fn:=Tryz.f254) (q:=p90) Z hk (by simp[u3,z7,<-hx0,<-hx1,<-ha0,<-ha1,<-he,Rs.bind,t0,hrun0,hm70,tq0,hm90])
 have hl90:=u5 hm90;have hg90:=hp70.get hm90
 try dsimp only at S90
 obtain⟨e0,he0⟩:=eqv (decide (h0.ver=v));rw[<-he0]at S90;have O1:=S90;refine rg O a6 [48,0,2,5,11,12,13,14,28,29] [0,5,11,13,14] [(3,rc J (.bool (.v e0)) p90)] Z fun X9 _ _ Z=>?_
 apply a7 Z rfl<;>intro hb Z
 .have t90:¬h0.ver=v:=by
   have h9:(!e0)=true:=by subst O;exact hb
   rw[he0]at h9;simpa using h9
  exact wp_ret ((rmm O a6 Z (v:=()) (q:=p90) ((X9 3).A 0) ((X9 3).c 0) (by simp[u3,z7,<-hx0,<-hx1,<-ha0,<-ha1,<-he,Rs.bind,t0,hrun0,hm70,tq0,hm90,t90])).1)
 have t90:h0.ver=v:=by
  have h9:(!e0)=false:=by subst O;exact hb
  rw[he0]at h9;simpa using h9
 refine wp_skip (wp_seq ?_)
 rcases(cS 0 b J hJ ((X9 3).A 0) ((X9 3).c 0) p90 hp90 hn90 x0 g0.ver ⟨(X1 2).A 0,(X1 2).c 0,r0⟩).two (l5 _ _ _ _ _) hp90 hn90 with⟨w100,p100,hm100,O1⟩|⟨d0,p100,hm100,hs100,hp100,hn100,S100⟩
 .refine kC 7 O a6 [49,50,52,55] [0] [] Z O1 fun _ _ _ _ Z hk=>?_
  exact thm (P:=Tryz.prog) (fn:=Tryz.f254) (q:=p100) Z hk (by simp[u3,z7,<-hx0,<-hx1,<-ha0,<-ha1,<-he,Rs.bind,t0,hrun0,hm70,tq0,hm90,t90,hm100])
 have O1:=S100;refine drg O a6 [56,0,2,5,11,12,13,28,29] [0,5,11,13] [(7,rc J (.bool (.v d0)) p100)] Z fun X10 _ _ Z=>?_
 apply a7 Z rfl<;>intro hb Z
 .have td0:d0=true:=by exact hb
  refine wp_exit (rg O a6 [29,0,2,5,11,28] [0,5,11] [] Z fun X11 _ _ Z=>?_);replace Z:=Z.headS (v':=.int .i64 1) (by subst O;exact zr) rfl;refine j5 (wp_seq (rg O a6 [30,0,2,5,11,28,29] [0,5,11] [] Z fun X5 _ _ Z=>?_));replace Z:=Z.headS (v':=.bool .tt) (Sim.bool (by subst O;rfl)) rfl;refine wp_seq (j1 Z rfl (fun Z=>?_));refine wp_skip (wp_seq (wp_block (wp_seq (rg O a6 [0,2,5,11,12,13,28,29] [0,5,11,13] [] Z fun X6 _ _ Z=>?_))));refine wp_block (l4 (ι:=Nat×Pst×Option Addr×Nat) (fun q=>[]) (fun q=>[(0,⟨b,166,B9 J q.2.2.1 q.2.2.2 q.2.1⟩)]) (fun q=>[]) (fun q=>z7 J.budget l v x1 r1.abs n p100=z7 J.budget l v x1 r1.abs q.1 q.2.1/\f8 q.2.1/\q.2.1.n<=1000000/\q.2.1.n<q.1/\q.2.1.n<=p.n) (fun q=>q.1) (n,p100,((X10 7).A 0),((X10 7).c 0)) ⟨rfl,hp100,hn100,(by dsimp only;have:=hle0;have:=hs70.le;have:=hs90.le;have:=hs100.le;omega),(by dsimp only;have:=hle0;have:=hs70.le;have:=hs90.le;have:=hs100.le;omega)⟩ Z ?_)
  rintro⟨nn1,p1,A1,c1⟩ ⟨hrun1,hp1,hn1,hf1,hle1⟩ _ _ Z
  try dsimp only at hrun1
  try dsimp only at hp1
  try dsimp only at hn1
  try dsimp only at hf1
  try dsimp only at hle1
  obtain⟨m1,rfl⟩:∃n2,nn1=n2+1:=⟨nn1-1,by omega⟩
  refine wp_block (wp_seq ?_)
  rcases(V6 0 b J hJ A1 c1 p1 hp1 hn1 x1).two (i7 _ _ _) hp1 hn1 with⟨w71,p71,hm71,O1⟩|⟨g1,p71,hm71,hs71,hp71,hn71,S71⟩
  .refine stp 2 O a6 [33,34] [0] [] Z O1 fun _ _ _ _ Z hk=>?_
   exact thm (P:=Tryz.prog) (fn:=Tryz.f254) (q:=p71) Z hk (by simp[u3,z7,<-hx0,<-hx1,<-ha0,<-ha1,<-he,Rs.bind,t0,hrun0,hm70,tq0,hm90,t90,hm100,td0,hrun1,hm71])
  have hl71:=u5 hm71;have hg71:=hp1.get hm71;have O1:=S71;refine rg O a6 [0,2,5,11,12,13,14,28,29] [0,5,11,13,14] [(2,rc J (u4 g1) p71)] Z fun X7 _ _ Z=>?_
  refine wp_seq (wp_seq (rg O a6 [43,0,2,5,11,12,13,14,28,29] [0,5,11,13,14] [] Z fun X8 _ _ Z=>?_));apply a7 Z rfl<;>intro hb Z
  .have tq1:(g1.has && !decide (g1.x.r.kd=5))=true:=by
    have h9:(if g1.has=true then !decide (g1.x.r.kd=5)else false)=true:=by
     have h8:(if g1.has=true then(g1.x.r.kd != 5)else false)=true:=by subst O;exact hb
     exact h8
    rw[<-h9];cases g1.has<;>rfl
   refine wp_exit (rg O a6 [29,0,2,5,11,28] [0,5,11] [] Z fun X11 _ _ Z=>?_);replace Z:=Z.headS (v':=.int .i64 2) (by subst O;exact zr) rfl;refine j5 (wp_seq (rg O a6 [30,0,2,5,11,28,29] [0,5,11] [] Z fun X5 _ _ Z=>?_));replace Z:=Z.headS (v':=.bool .ff) (Sim.bool (by subst O;rfl)) rfl;refine wp_seq (j3 Z rfl (fun Z=>?_));refine wp_exit ?_
   rcases(lT 0 b J hJ ((X7 2).A 0) ((X7 2).c 0) p71 hp71 hn71 l v).two (l5 _ _ _ _ _) hp71 hn71 with⟨w12,p12,hm12,O1⟩|⟨d2,p12,hm12,hs12,hp12,hn12,S12⟩
   .have O2:=fy
    refine kC 4 O a6 [58,59,60,61] [0] [(3,.r fun _=>.agg [.int .i64 2,.sl none none 0 0 2 (fun _=>[]),.int .i64 (-1),.int .u64 0,.int .u64 0])] Z O1 fun _ _ _ _ Z hk=>?_
    exact thm (P:=Tryz.prog) (fn:=Tryz.f254) (q:=p12) Z hk (by simp[u3,z7,<-hx0,<-hx1,<-ha0,<-ha1,<-he,Rs.bind,t0,hrun0,hm70,tq0,hm90,t90,hm100,td0,hrun1,hm71,tq1,hm12])
   have O1:=fy;have O2:=S12;refine drg O a6 [] [0] [(3,.r fun _=>.agg [.int .i64 2,.sl none none 0 0 2 (fun _=>[]),.int .i64 (-1),.int .u64 0,.int .u64 0]),(4,rc J (.bool (.v d2)) p12)] Z fun X12 _ _ Z=>?_
   exact(rmm O a6 Z (v:=()) (q:=p12) ((X12 4).A 0) ((X12 4).c 0) (by simp[u3,z7,<-hx0,<-hx1,<-ha0,<-ha1,<-he,Rs.bind,t0,hrun0,hm70,tq0,hm90,t90,hm100,td0,hrun1,hm71,tq1,hm12])).2
  have tq1:(g1.has && !decide (g1.x.r.kd=5))=false:=by
   have h9:(if g1.has=true then !decide (g1.x.r.kd=5)else false)=false:=by
    have h8:(if g1.has=true then(g1.x.r.kd != 5)else false)=false:=by subst O;exact hb
    exact h8
   rw[<-h9];cases g1.has<;>rfl
  refine wp_skip (wp_seq (wp_seq ?_))
  rcases(jR 0 b J hJ ((X7 2).A 0) ((X7 2).c 0) p71 hp71 hn71 l v).two (i7 _ _ _) hp71 hn71 with⟨w91,p91,hm91,O1⟩|⟨h1,p91,hm91,hs91,hp91,hn91,S91⟩
  .refine stp 3 O a6 [44,45,46] [0] [] Z O1 fun _ _ _ _ Z hk=>?_
   exact thm (P:=Tryz.prog) (fn:=Tryz.f254) (q:=p91) Z hk (by simp[u3,z7,<-hx0,<-hx1,<-ha0,<-ha1,<-he,Rs.bind,t0,hrun0,hm70,tq0,hm90,t90,hm100,td0,hrun1,hm71,tq1,hm91])
  have hl91:=u5 hm91;have hg91:=hp71.get hm91
  try dsimp only at S91
  obtain⟨e1,he1⟩:=eqv (decide (h1.ver=v));rw[<-he1]at S91;have O1:=S91;refine rg O a6 [48,0,2,5,11,12,13,14,28,29] [0,5,11,13,14] [(3,rc J (.bool (.v e1)) p91)] Z fun X9 _ _ Z=>?_
  apply a7 Z rfl<;>intro hb Z
  .have t91:¬h1.ver=v:=by
    have h9:(!e1)=true:=by subst O;exact hb
    rw[he1]at h9;simpa using h9
   exact wp_ret ((rmm O a6 Z (v:=()) (q:=p91) ((X9 3).A 0) ((X9 3).c 0) (by simp[u3,z7,<-hx0,<-hx1,<-ha0,<-ha1,<-he,Rs.bind,t0,hrun0,hm70,tq0,hm90,t90,hm100,td0,hrun1,hm71,tq1,hm91,t91])).1)
  have t91:h1.ver=v:=by
   have h9:(!e1)=false:=by subst O;exact hb
   rw[he1]at h9;simpa using h9
  refine wp_skip (wp_seq ?_)
  rcases(cS 0 b J hJ ((X9 3).A 0) ((X9 3).c 0) p91 hp91 hn91 x1 g1.ver ⟨(X1 2).A 1,(X1 2).c 1,r1⟩).two (l5 _ _ _ _ _) hp91 hn91 with⟨w101,p101,hm101,O1⟩|⟨d1,p101,hm101,hs101,hp101,hn101,S101⟩
  .refine kC 7 O a6 [49,50,52,55] [0] [] Z O1 fun _ _ _ _ Z hk=>?_
   exact thm (P:=Tryz.prog) (fn:=Tryz.f254) (q:=p101) Z hk (by simp[u3,z7,<-hx0,<-hx1,<-ha0,<-ha1,<-he,Rs.bind,t0,hrun0,hm70,tq0,hm90,t90,hm100,td0,hrun1,hm71,tq1,hm91,t91,hm101])
  have O1:=S101;refine drg O a6 [56,0,2,5,11,12,13,28,29] [0,5,11,13] [(7,rc J (.bool (.v d1)) p101)] Z fun X10 _ _ Z=>?_
  apply a7 Z rfl<;>intro hb Z
  .have td1:d1=true:=by exact hb
   refine wp_exit (rg O a6 [29,0,2,5,11,28] [0,5,11] [] Z fun X11 _ _ Z=>?_);replace Z:=Z.headS (v':=.int .i64 2) (by subst O;exact zr) rfl;refine j5 (wp_seq (rg O a6 [30,0,2,5,11,28,29] [0,5,11] [] Z fun X5 _ _ Z=>?_));replace Z:=Z.headS (v':=.bool .ff) (Sim.bool (by subst O;rfl)) rfl;refine wp_seq (j3 Z rfl (fun Z=>?_));refine wp_exit ?_
   rcases(lT 0 b J hJ ((X10 7).A 0) ((X10 7).c 0) p101 hp101 hn101 l v).two (l5 _ _ _ _ _) hp101 hn101 with⟨w12,p12,hm12,O1⟩|⟨d2,p12,hm12,hs12,hp12,hn12,S12⟩
   .have O2:=fy
    refine kC 4 O a6 [58,59,60,61] [0] [(3,.r fun _=>.agg [.int .i64 2,.sl none none 0 0 2 (fun _=>[]),.int .i64 (-1),.int .u64 0,.int .u64 0])] Z O1 fun _ _ _ _ Z hk=>?_
    exact thm (P:=Tryz.prog) (fn:=Tryz.f254) (q:=p12) Z hk (by simp[u3,z7,<-hx0,<-hx1,<-ha0,<-ha1,<-he,Rs.bind,t0,hrun0,hm70,tq0,hm90,t90,hm100,td0,hrun1,hm71,tq1,hm91,t91,hm101,td1,hm12])
   have O1:=fy;have O2:=S12;refine drg O a6 [] [0] [(3,.r fun _=>.agg [.int .i64 2,.sl none none 0 0 2 (fun _=>[]),.int .i64 (-1),.int .u64 0,.int .u64 0]),(4,rc J (.bool (.v d2)) p12)] Z fun X12 _ _ Z=>?_
   exact(rmm O a6 Z (v:=()) (q:=p12) ((X12 4).A 0) ((X12 4).c 0) (by simp[u3,z7,<-hx0,<-hx1,<-ha0,<-ha1,<-he,Rs.bind,t0,hrun0,hm70,tq0,hm90,t90,hm100,td0,hrun1,hm71,tq1,hm91,t91,hm101,td1,hm12])).2
  have td1:d1=false:=by exact hb
  replace Z:=Z.keep [0,2,5,11,12,13,28,29] [0,5,11,13];exact wp_skip (⟨(m1,p101,_,_),⟨by rw[hrun1];simp[z7,Rs.bind,t0,hrun0,hm70,tq0,hm90,t90,hm100,td0,hrun1,hm71,tq1,hm91,t91,hm101,td1],hp101,hn101,by dsimp only;have:=hl71;have:=hs91.le;have:=hs101.le;have:=hf1;omega,by dsimp only;have:=hl71;have:=hs91.le;have:=hs101.le;have:=hle1;omega⟩,by simp only;omega,Z⟩)
 have td0:d0=false:=by exact hb
 replace Z:=Z.keep [0,2,5,11,12,13,28,29] [0,5,11,13];exact wp_skip (⟨(m0,p100,_,_),⟨by rw[hrun0];simp[z7,Rs.bind,t0,hrun0,hm70,tq0,hm90,t90,hm100,td0],hp100,hn100,by dsimp only;have:=hl70;have:=hs90.le;have:=hs100.le;have:=hf0;omega,by dsimp only;have:=hl70;have:=hs90.le;have:=hs100.le;have:=hle0;omega⟩,by simp only;omega,Z⟩)
theorem GM(k0 b:Nat)(J:i5)(hJ:j0 J)(A:Option Addr)(c:Nat)(p:Pst)(hp:f8 p)(hn:p.n<=1000000)(l:Lab)(hl:LOk l)(v:Int)(x:RA)(hx:K8 x)(n:Nat)(hf:p.n<n):s8 254 k0 b J A c p [f4 l,.int .u64 v,C6 x] (fun _=>i4) (u3 J.budget n l v x p):=s8.re (DN b J hJ A c p hp hn l hl v x hx n hf) (by repeat(first|exact trivial|refine⟨zr,?_⟩))
theorem Eu(b:Nat)(J:i5)(hJ:j0 J)(A:Option Addr)(c:Nat)(p:Pst)(hp:f8 p)(hn:p.n<=1000000)(l:Lab)(hl:LOk l)(v:Int)(n:Nat)(hth:ThC n)(hf:p.n<n):s8 255 0 b J A c p [f4 l,.int .u64 v] (fun _=>i4) (L9 J.bucket J.budget n (I6 J.bucket J.budget n) l v p):=by
 intro m w hm hargs hpre;have SC:=tF l hl.u;have hk0:=hl.ch 0;have hk1:=hl.ch 1;simp only[f4]at SC;obtain⟨x0,hx0⟩:=eqv (chV l 0);rw[<-hx0]at SC hk0;obtain⟨x1,hx1⟩:=eqv (chV l 1);rw[<-hx1]at SC hk1;refine enX 73 hm hpre hargs Tryz.func255 fun B O a0 Z=>?_
 refine wp_seq (rg O a6 [0,2,4] [0,4] [] Z fun X0 _ _ Z=>?_);refine wp_seq (rg O a6 [0,2,4,6] [0,4,6] [] Z fun X1 _ _ Z=>?_);have O1:=SC;refine wp_seq (wp_seq (rg O a6 [15,0,2,4,6,14] [0,4,6] [(1,.r fun _=>.agg [.int .i64 x0.len,.int .u64 x0.bits,.int .i64 x1.len,.int .u64 x1.bits])] Z fun X2 _ _ Z=>?_));refine wp_block (wp_loop_rounds 3 (C0 (wp_seq (rg O a6 [16,0,2,4,6,14,15] [0,4,6] [] Z fun X3 _ _ Z=>?_))));replace Z:=Z.headS (v':=.bool .tt) (Sim.bool (by subst O;rfl)) rfl;refine wp_seq (j1 Z rfl (fun Z=>?_));refine wp_skip (wp_seq (wp_block (wp_seq (rg O a6 [0,2,4,6,7,8,14,15] [0,4,6,8] [] Z fun X4 _ _ Z=>?_))));apply wp_seq
 rcases(Dl 0 b J hJ A c p hp hn l v x0 n (by have:=(Suf.refl p).le;omega)).two (aQ _ _ _ _ _ _) hp hn with⟨w50,p50,hm50,O1⟩|⟨z0,p50,hm50,hs50,hp50,hn50,S50⟩
 .refine stp 4 O a6 [20,21,22,23] [0] [] Z O1 fun _ _ _ _ Z hk=>?_
  exact thm (P:=Tryz.prog) (fn:=Tryz.f255) (q:=p50) Z hk (by simp[L9,<-hx0,<-hx1,Rs.bind,hm50])
 have hz0:∀y,z0 = .fr y->K8 y:=fun y hy=>fY hp (by rw[hm50,hy])
 have T50:=S50;unfold tj at T50;obtain⟨y0,hy0⟩:=eqv (fzR z0);rw[<-hy0]at T50;obtain⟨i0,hi0⟩:=eqv (fzI z0);rw[<-hi0]at T50;have O1:=T50;refine rg O a6 [0,2,4,6,7,9,10,14,15] [0,4,6,9] [(4,rc J (.tup [.agg [.int .i64 y0.r.kd,.sl none y0.A y0.r.n y0.c 2 (fun i=>itC (y0.r.f i)),.int .i64 y0.r.nx.len,.int .u64 y0.r.nx.bits,.int .u64 y0.r.mrk],.int .i64 i0]) p50)] Z fun X5 _ _ Z=>?_
 refine wp_seq (wp_seq (rg O a6 [0,2,4,6,7,9,14,15,27] [0,4,6,9] [] Z fun X6 _ _ Z=>?_));refine wp_block (wp_seq (wp_block (wp_seq (wp_block (wp_seq (wp_seq (wp_seq (rg O a6 [28,0,2,4,6,7,9,14,15,27] [0,4,6,9] [] Z fun X7 _ _ Z=>?_))))))));apply a7 Z rfl<;>intro hb Z
 .have tz0:z0 = .unfit:=Ho (by rw[<-hi0];subst O;simpa[std,a8]using hb)
  refine wp_exit ?_
  rcases(yD 0 b J hJ ((X5 4).A 0) ((X5 4).c 0) p50 hp50 hn50 l hl v n hth (by have:=(Suf.trans (Suf.refl p) hs50).le;omega)).two (cx _ _ (E7 _ _ _) _ _ _) hp50 hn50 with⟨w90,p90,hm90,O1⟩|⟨v90,p90,hm90,hs90,hp90,hn90,S90⟩
  .refine stp 3 O a6 [32,33,34] [0] [] Z O1 fun _ _ _ _ Z hk=>?_
   exact thm (P:=Tryz.prog) (fn:=Tryz.f255) (q:=p90) Z hk (by simp[L9,<-hx0,<-hx1,Rs.bind,hm50,tz0,hm90])
  have O1:=S90;refine rg O a6 [] [0] [(3,rc J (i4) p90)] Z fun X9 _ _ Z=>?_
  exact wp_seq (wp_ret ((rmm O a6 Z (v:=()) (q:=p90) ((X9 3).A 0) ((X9 3).c 0) (by simp[L9,<-hx0,<-hx1,Rs.bind,hm50,tz0,hm90])).1))
 have ta0:fzI z0≠1:=by
  have:¬i0=1:=by subst O;simpa[std,a8]using hb
  rw[<-hi0];exact this
 refine wp_skip (wp_seq (rg O a6 [30,0,2,4,6,7,9,14,15] [0,4,6,9] [] Z fun X8 _ _ Z=>?_));apply a7 Z rfl<;>intro hb Z
 .have tz0:z0 = .over:=Hp (by rw[<-hi0];subst O;simpa[std,a8]using hb)
  exact wp_exit (wp_seq (wp_ret ((rmm O a6 Z (v:=()) (q:=p50) ((X5 4).A 0) ((X5 4).c 0) (by simp[L9,<-hx0,<-hx1,Rs.bind,hm50,tz0])).1)))
 have tz0:z0 = .fr y0:=by
  rw[hy0];refine Hn ?_ ta0;have:¬i0=0:=by subst O;simpa[std,a8]using hb
  rw[<-hi0];exact this
 have ty0:=hz0 _ tz0;refine wp_skip (wp_exit (rg O a6 [0,2,4,6,14,15] [0,4,6] [] Z fun X10 _ _ Z=>?_));refine rg O a6 [15,0,2,4,6,14] [0,4,6] [] Z fun X11 _ _ Z=>?_
 replace Z:=Z.headS (v':=.int .i64 1) (by subst O;exact zr) rfl;refine j5 (wp_seq (rg O a6 [16,0,2,4,6,14,15] [0,4,6] [] Z fun X3 _ _ Z=>?_));replace Z:=Z.headS (v':=.bool .tt) (Sim.bool (by subst O;rfl)) rfl;refine wp_seq (j1 Z rfl (fun Z=>?_));refine wp_skip (wp_seq (wp_block (wp_seq (rg O a6 [0,2,4,6,7,8,14,15] [0,4,6,8] [] Z fun X4 _ _ Z=>?_))));apply wp_seq
 rcases(Dl 0 b J hJ ((X5 4).A 0) ((X5 4).c 0) p50 hp50 hn50 l v x1 n (by have:=(Suf.trans (Suf.refl p) hs50).le;omega)).two (aQ _ _ _ _ _ _) hp50 hn50 with⟨w51,p51,hm51,O1⟩|⟨z1,p51,hm51,hs51,hp51,hn51,S51⟩
 .refine stp 4 O a6 [20,21,22,23] [0] [] Z O1 fun _ _ _ _ Z hk=>?_
  exact thm (P:=Tryz.prog) (fn:=Tryz.f255) (q:=p51) Z hk (by simp[L9,<-hx0,<-hx1,Rs.bind,hm50,tz0,hm51])
 have hz1:∀y,z1 = .fr y->K8 y:=fun y hy=>fY hp50 (by rw[hm51,hy])
 have T51:=S51;unfold tj at T51;obtain⟨y1,hy1⟩:=eqv (fzR z1);rw[<-hy1]at T51;obtain⟨i1,hi1⟩:=eqv (fzI z1);rw[<-hi1]at T51;have O1:=T51;refine rg O a6 [0,2,4,6,7,9,10,14,15] [0,4,6,9] [(4,rc J (.tup [.agg [.int .i64 y1.r.kd,.sl none y1.A y1.r.n y1.c 2 (fun i=>itC (y1.r.f i)),.int .i64 y1.r.nx.len,.int .u64 y1.r.nx.bits,.int .u64 y1.r.mrk],.int .i64 i1]) p51)] Z fun X5 _ _ Z=>?_
 refine wp_seq (wp_seq (rg O a6 [0,2,4,6,7,9,14,15,27] [0,4,6,9] [] Z fun X6 _ _ Z=>?_));refine wp_block (wp_seq (wp_block (wp_seq (wp_block (wp_seq (wp_seq (wp_seq (rg O a6 [28,0,2,4,6,7,9,14,15,27] [0,4,6,9] [] Z fun X7 _ _ Z=>?_))))))));apply a7 Z rfl<;>intro hb Z
 .have tz1:z1 = .unfit:=Ho (by rw[<-hi1];subst O;simpa[std,a8]using hb)
  refine wp_exit ?_
  rcases(yD 0 b J hJ ((X5 4).A 0) ((X5 4).c 0) p51 hp51 hn51 l hl v n hth (by have:=(Suf.trans (Suf.trans (Suf.refl p) hs50) hs51).le;omega)).two (cx _ _ (E7 _ _ _) _ _ _) hp51 hn51 with⟨w91,p91,hm91,O1⟩|⟨v91,p91,hm91,hs91,hp91,hn91,S91⟩
  .refine stp 3 O a6 [32,33,34] [0] [] Z O1 fun _ _ _ _ Z hk=>?_
   exact thm (P:=Tryz.prog) (fn:=Tryz.f255) (q:=p91) Z hk (by simp[L9,<-hx0,<-hx1,Rs.bind,hm50,tz0,hm51,tz1,hm91])
  have O1:=S91;refine rg O a6 [] [0] [(3,rc J (i4) p91)] Z fun X9 _ _ Z=>?_
  exact wp_seq (wp_ret ((rmm O a6 Z (v:=()) (q:=p91) ((X9 3).A 0) ((X9 3).c 0) (by simp[L9,<-hx0,<-hx1,Rs.bind,hm50,tz0,hm51,tz1,hm91])).1))
 have ta1:fzI z1≠1:=by
  have:¬i1=1:=by subst O;simpa[std,a8]using hb
  rw[<-hi1];exact this
 refine wp_skip (wp_seq (rg O a6 [30,0,2,4,6,7,9,14,15] [0,4,6,9] [] Z fun X8 _ _ Z=>?_));apply a7 Z rfl<;>intro hb Z
 .have tz1:z1 = .over:=Hp (by rw[<-hi1];subst O;simpa[std,a8]using hb)
  exact wp_exit (wp_seq (wp_ret ((rmm O a6 Z (v:=()) (q:=p51) ((X5 4).A 0) ((X5 4).c 0) (by simp[L9,<-hx0,<-hx1,Rs.bind,hm50,tz0,hm51,tz1])).1)))
 have tz1:z1 = .fr y1:=by
  rw[hy1];refine Hn ?_ ta1;have:¬i1=0:=by subst O;simpa[std,a8]using hb
  rw[<-hi1];exact this
 have ty1:=hz1 _ tz1;refine wp_skip (wp_exit (rg O a6 [0,2,4,6,14,15] [0,4,6] [] Z fun X10 _ _ Z=>?_));refine rg O a6 [15,0,2,4,6,14] [0,4,6] [] Z fun X11 _ _ Z=>?_
 replace Z:=Z.headS (v':=.int .i64 2) (by subst O;exact zr) rfl;refine j5 (wp_seq (rg O a6 [16,0,2,4,6,14,15] [0,4,6] [] Z fun X3 _ _ Z=>?_));replace Z:=Z.headS (v':=.bool .ff) (Sim.bool (by subst O;rfl)) rfl;refine wp_seq (j3 Z rfl (fun Z=>?_));have SU:=Gk y0 y1 ty0 ty1;obtain⟨r2,hr2⟩:=eqv ((cZ y0 y1).1.rn);rw[<-hr2]at SU;obtain⟨e2,he2⟩:=eqv ((cZ y0 y1).2);rw[<-he2]at SU;have ha2:r2.abs=(cZ y0 y1).1:=by rw[hr2];exact U7 _
 have hl2:r2.abs.items.length=r2.n:=by rw[ha2,hr2];rfl
 have O1:=SU;refine wp_exit (wp_seq (rg O a6 [0,2,4,11,12] [0,4,11] [(4,.r fun z=>.tup [.agg [.int .i64 r2.kd,.sl none (z.A 0) r2.n (z.c 0) 2 (fun i=>itC (r2.f i)),.int .i64 r2.nx.len,.int .u64 r2.nx.bits,.int .u64 r2.mrk],.int .i64 e2])] Z fun X12 _ _ Z=>?_));refine wp_seq (wp_seq (drg O a6 [60,0,2,4,11] [0,4,11] [] Z fun X13 _ _ Z=>?_));apply a7 Z rfl<;>intro hb Z
 .have tu:¬((cZ y0 y1).2=0/\(r2.abs.items.length:Int)<=J.bucket):=by
   have h9:(if(!decide (e2=0))=true then true else decide ((r2.n:Int)>J.bucket))=true:=by subst O;exact hb
   rw[<-he2,hl2];intro h;simp[h.1]at h9;omega
  apply wp_seq
  rcases(yD 0 b J hJ ((X5 4).A 0) ((X5 4).c 0) p51 hp51 hn51 l hl v n hth (by have:=(Suf.trans (Suf.trans (Suf.refl p) hs50) hs51).le;omega)).two (cx _ _ (E7 _ _ _) _ _ _) hp51 hn51 with⟨w14,p14,hm14,O1⟩|⟨v14,p14,hm14,hs14,hp14,hn14,S14⟩
  .refine stp 3 O a6 [61,62,63] [0] [] Z O1 fun _ _ _ _ Z hk=>?_
   exact thm (P:=Tryz.prog) (fn:=Tryz.f255) (q:=p14) Z hk (by simp[L9,<-hx0,<-hx1,Rs.bind,hm50,tz0,hm51,tz1,<-ha2,if_neg tu,hm14])
  have O1:=S14;refine rg O a6 [] [0] [(3,rc J (i4) p14)] Z fun X14 _ _ Z=>?_
  exact wp_ret ((rmm O a6 Z (v:=()) (q:=p14) ((X14 3).A 0) ((X14 3).c 0) (by simp[L9,<-hx0,<-hx1,Rs.bind,hm50,tz0,hm51,tz1,<-ha2,if_neg tu,hm14])).1)
 have tu:(cZ y0 y1).2=0/\(r2.abs.items.length:Int)<=J.bucket:=by
  have h9:(if(!decide (e2=0))=true then true else decide ((r2.n:Int)>J.bucket))=false:=by subst O;exact hb
  rw[<-he2,hl2];simp at h9;exact⟨h9.1,by omega⟩
 refine wp_skip (wp_seq ?_)
 rcases(cS 0 b J hJ ((X5 4).A 0) ((X5 4).c 0) p51 hp51 hn51 l v ⟨(X12 4).A 0,(X12 4).c 0,r2⟩).two (l5 _ _ _ _ _) hp51 hn51 with⟨w15,p15,hm15,O1⟩|⟨d5,p15,hm15,hs15,hp15,hn15,S15⟩
 .refine stp 4 O a6 [65,66,67,68] [0] [] Z O1 fun _ _ _ _ Z hk=>?_
  exact thm (P:=Tryz.prog) (fn:=Tryz.f255) (q:=p15) Z hk (by simp[L9,<-hx0,<-hx1,Rs.bind,hm50,tz0,hm51,tz1,<-ha2,if_pos tu,hm15])
 have O1:=S15;refine rg O a6 [69,0,4] [0,4] [(4,rc J (.bool (.v d5)) p15)] Z fun X15 _ _ Z=>?_
 apply a7 Z rfl<;>intro hb Z
 .have t5:d5=true:=by exact hb
  rcases(Dr n 0 b J hJ ((X15 4).A 0) ((X15 4).c 0) p15 hp15 hn15 l hl (by have:=(Suf.trans (Suf.trans (Suf.trans (Suf.refl p) hs50) hs51) hs15).le;omega)).two (Y7 _ _ _ _) hp15 hn15 with⟨w16,p16,hm16,O1⟩|⟨v16,p16,hm16,hs16,hp16,hn16,S16⟩
  .refine stp 2 O a6 [70,71] [0] [] Z O1 fun _ _ _ _ Z hk=>?_
   exact thm (P:=Tryz.prog) (fn:=Tryz.f255) (q:=p16) Z hk (by simp[L9,<-hx0,<-hx1,Rs.bind,hm50,tz0,hm51,tz1,<-ha2,if_pos tu,hm15,t5,hm16])
  have O1:=S16;refine rg O a6 [] [0] [(2,rc J (i4) p16)] Z fun X16 _ _ Z=>?_
  exact(rmm O a6 Z (v:=()) (q:=p16) ((X16 2).A 0) ((X16 2).c 0) (by simp[L9,<-hx0,<-hx1,Rs.bind,hm50,tz0,hm51,tz1,<-ha2,if_pos tu,hm15,t5,hm16])).2
 have t5:d5=false:=by exact hb
 exact wp_skip ((rmm O a6 Z (v:=()) (q:=p15) ((X15 4).A 0) ((X15 4).c 0) (by simp[L9,<-hx0,<-hx1,Rs.bind,hm50,tz0,hm51,tz1,<-ha2,if_pos tu,hm15,t5])).2)
theorem He(k0 b:Nat)(J:i5)(hJ:j0 J)(A:Option Addr)(c:Nat)(p:Pst)(hp:f8 p)(hn:p.n<=1000000)(l:Lab)(hl:LOk l)(v:Int)(n:Nat)(hth:ThC n)(hf:p.n<n):s8 255 k0 b J A c p [f4 l,.int .u64 v] (fun _=>i4) (L9 J.bucket J.budget n (I6 J.bucket J.budget n) l v p):=s8.re (Eu b J hJ A c p hp hn l hl v n hth hf) (by repeat(first|exact trivial|refine⟨zr,?_⟩))
theorem EP(b:Nat)(J:i5)(hJ:j0 J)(A:Option Addr)(c:Nat)(p:Pst)(hp:f8 p)(hn:p.n<=1000000)(l:Lab)(hl:LOk l)(g:r9)(hg:cW g)(n:Nat)(hth:ThC n)(hf:p.n<n):s8 193 0 b J A c p [f4 l,u4 g] (fun _=>i4) (R3 J.bucket J.budget n l g p):=by
 intro m w hm hargs hpre;refine enX 26 hm hpre hargs Tryz.func193 fun B O a0 Z=>?_
 refine wp_seq (rg O a6 [0,4,5] [0,4,5] [] Z fun X0 _ _ Z=>?_);obtain⟨q1,hq1⟩:=eqv (gk g 3);refine wp_block (wp_seq ?_);refine rg O a6 [6,0,4,5] [0,4,5,8] [(2,.r fun _=>.bool (.v q1))] Z (hob:=by intro X;subst O;simp only[b7,Ob.holds,BE.den]<;>and_intros<;>repeat first|trivial|rfl|exact(by rw[hq1];exact F4 g _ _ 3 _ rfl)|exact by rw[hq1];exact F4 g _ _ 3 _ rfl|exact(fun _ _=>by kernel_rfl)|refine⟨?_,?_⟩|intro h|exact Int.le_refl _|decide|omega) fun X1 _ _ Z=>?_
 apply a7 Z rfl<;>intro hb Z
 .have tq1:gk g 3=true:=by rw[<-hq1];exact hb
  rcases(GM 0 b J hJ A c p hp hn l hl g.ver g.x hg.ra n hf).two (iX _ _ _ _ _ _) hp hn with⟨w2,p2,hm2,O1⟩|⟨v2,p2,hm2,hs2,hp2,hn2,S2⟩
  .refine stp 6 O a6 [10,11,13,15] [0] [] Z O1 fun _ _ _ _ Z hk=>?_
   exact thm (P:=Tryz.prog) (fn:=Tryz.f193) (q:=p2) Z hk (by simp[R3,dT,Rs.bind,tq1,hm2])
  have O1:=S2;refine rg O a6 [] [0] [(6,rc J (i4) p2)] Z fun X2 _ _ Z=>?_
  exact(rmm O a6 Z (v:=()) (q:=p2) ((X2 6).A 0) ((X2 6).c 0) (by simp[R3,dT,Rs.bind,tq1,hm2])).2
 have tq1:gk g 3=false:=by rw[<-hq1];exact hb
 refine wp_seq (rg O a6 [17,0,4,5] [0,4,5] [] Z fun X3 _ _ Z=>?_);apply a7 Z rfl<;>intro hb Z
 .have t2:l.len<64:=by subst O;simpa[std,a8]using hb
  rcases(He 0 b J hJ A c p hp hn l hl g.ver n hth hf).two (oq _ _ _ _ (E7 _ _ _) _ _ _) hp hn with⟨w4,p4,hm4,O1⟩|⟨v4,p4,hm4,hs4,hp4,hn4,S4⟩
  .refine stp 4 O a6 [21,22,24] [0] [] Z O1 fun _ _ _ _ Z hk=>?_
   exact thm (P:=Tryz.prog) (fn:=Tryz.f193) (q:=p4) Z hk (by simp[R3,dT,Rs.bind,tq1,t2,hm4])
  have O1:=S4;refine rg O a6 [] [0] [(4,rc J (i4) p4)] Z fun X4 _ _ Z=>?_
  exact(rmm O a6 Z (v:=()) (q:=p4) ((X4 4).A 0) ((X4 4).c 0) (by simp[R3,dT,Rs.bind,tq1,t2,hm4])).2
 have t2:¬l.len<64:=by subst O;simpa[std,a8]using hb
 exact wp_skip ((rmm O a6 Z (v:=()) (q:=p) A c (by simp[R3,dT,Rs.bind,tq1,t2])).2)
theorem Hq(k0 b:Nat)(J:i5)(hJ:j0 J)(A:Option Addr)(c:Nat)(p:Pst)(hp:f8 p)(hn:p.n<=1000000)(l:Lab)(hl:LOk l)(g:r9)(hg:cW g)(n:Nat)(hth:ThC n)(hf:p.n<n):s8 193 k0 b J A c p [f4 l,u4 g] (fun _=>i4) (R3 J.bucket J.budget n l g p):=s8.re (EP b J hJ A c p hp hn l hl g hg n hth hf) (by repeat(first|exact trivial|refine⟨zr,?_⟩))
theorem DH(b:Nat)(J:i5)(hJ:j0 J)(A:Option Addr)(c:Nat)(p:Pst)(hp:f8 p)(hn:p.n<=1000000)(l:Lab)(hl:LOk l)(n:Nat)(hfin:∀j,j<n->Cj j)(hf:p.n<n):s8 236 0 b J A c p [f4 l] (fun _=>i4) (I6 J.bucket J.budget n l p):=by
 intro m w hm hargs hpre;have SP:=wD l hl.u;have hpar:=hl.par;simp only[f4]at SP;obtain⟨up,hup⟩:=eqv (F8 l);rw[<-hup]at SP hpar;obtain⟨ue,hue⟩:=eqv (G2 l);rw[<-hue]at SP;refine enX 46 hm hpre hargs Tryz.func236 fun B O a0 Z=>?_
 refine wp_seq (rg O a6 [0,3] [0,3] [] Z fun X0 _ _ Z=>?_);have O1:=SP;refine wp_seq (rg O a6 [0,3,4,5] [0,3,4] [(1,.r fun _=>.tup [.agg [.int .i64 up.len,.int .u64 up.bits],.int .i64 ue])] Z fun X1 _ _ Z=>?_);refine wp_seq (wp_seq (rg O a6 [14,0,3,4] [0,3,4] [] Z fun X2 _ _ Z=>?_));apply a7 Z rfl<;>intro hb Z
 .have t0:¬ue=0:=by subst O;simpa[std,a8]using hb
  exact wp_ret ((rmm O a6 Z (v:=()) (q:=p) A c (by simp[I6,<-hup,<-hue,Rs.bind,t0])).1)
 have t0:ue=0:=by subst O;simpa[std,a8]using hb
 refine wp_skip (wp_block (l4 (ι:=Nat×Pst×Option Addr×Nat) (fun q=>[]) (fun q=>[(0,⟨b,166,B9 J q.2.2.1 q.2.2.2 q.2.1⟩)]) (fun q=>[]) (fun q=>de J.bucket J.budget n l up p=de J.bucket J.budget q.1 l up q.2.1/\f8 q.2.1/\q.2.1.n<=1000000/\q.2.1.n<q.1/\q.1<=n) (fun q=>q.1) (n,p,A,c) ⟨rfl,hp,hn,hf,Nat.le_refl _⟩ Z ?_))
 rintro⟨nn,p0,A0,c0⟩ ⟨hrun,hp0,hn0,hf0,hnn⟩ _ _ Z
 try dsimp only at hrun
 try dsimp only at hp0
 try dsimp only at hn0
 try dsimp only at hf0
 try dsimp only at hnn
 obtain⟨n2,rfl⟩:∃n2,nn=n2+1:=⟨nn-1,by omega⟩
 refine wp_block (wp_seq ?_)
 rcases(V6 0 b J hJ A0 c0 p0 hp0 hn0 l).two (i7 _ _ _) hp0 hn0 with⟨w3,p3,hm3,O1⟩|⟨g3,p3,hm3,hs3,hp3,hn3,S3⟩
 .refine stp 2 O a6 [15,16] [0] [] Z O1 fun _ _ _ _ Z hk=>?_
  exact thm (P:=Tryz.prog) (fn:=Tryz.f236) (q:=p3) Z hk (by simp[I6,<-hup,<-hue,Rs.bind,t0,hrun,u7,hm3])
 have hl3:=u5 hm3;have hg3:=hp0.get hm3;have O1:=S3;refine rg O a6 [0,3,4,6] [0,3,4,6] [(2,rc J (u4 g3) p3)] Z fun X3 _ _ Z=>?_
 obtain⟨q4,hq4⟩:=eqv (gk g3 5);refine wp_seq (wp_seq ?_);refine rg O a6 [21,0,3,4,6] [0,3,4,6] [(2,.r fun _=>.bool (.v q4))] Z (hob:=by intro X;subst O;simp only[b7,Ob.holds,BE.den]<;>and_intros<;>repeat first|trivial|rfl|exact(by rw[hq4];exact F4 g3 _ _ 5 _ rfl)|exact by rw[hq4];exact F4 g3 _ _ 5 _ rfl|exact(fun _ _=>by kernel_rfl)|refine⟨?_,?_⟩|intro h|exact Int.le_refl _|decide|omega) fun X4 _ _ Z=>?_
 apply a7 Z rfl<;>intro hb Z
 .have tq4:gk g3 5=false:=by subst O;rw[<-hq4];revert hb;cases q4<;>simp[std]
  exact wp_ret ((rmm O a6 Z (v:=()) (q:=p3) ((X3 2).A 0) ((X3 2).c 0) (by simp[I6,<-hup,<-hue,Rs.bind,t0,hrun,u7,hm3,tq4])).1)
 have tq4:gk g3 5=true:=by subst O;rw[<-hq4];revert hb;cases q4<;>simp[std]
 refine wp_skip (wp_seq ?_)
 rcases(V6 0 b J hJ ((X3 2).A 0) ((X3 2).c 0) p3 hp3 hn3 up).two (i7 _ _ _) hp3 hn3 with⟨w5,p5,hm5,O1⟩|⟨g5,p5,hm5,hs5,hp5,hn5,S5⟩
 .refine stp 2 O a6 [22,23] [0] [] Z O1 fun _ _ _ _ Z hk=>?_
  exact thm (P:=Tryz.prog) (fn:=Tryz.f236) (q:=p5) Z hk (by simp[I6,<-hup,<-hue,Rs.bind,t0,hrun,u7,hm3,tq4,hm5])
 have hl5:=u5 hm5;have hg5:=hp3.get hm5;have O1:=S5;refine rg O a6 [0,3,4,6,7] [0,3,4,6,7] [(2,rc J (u4 g5) p5)] Z fun X5 _ _ Z=>?_
 obtain⟨q6,hq6⟩:=eqv ((gk g5 3||gk g5 4));refine wp_seq (wp_seq ?_);refine rg O a6 [27,0,3,4,6,7] [0,3,4,6,7,26] [(2,.r fun _=>.bool (.v q6))] Z (hob:=by intro X;subst O;simp only[b7,Ob.holds,BE.den]<;>and_intros<;>repeat first|trivial|rfl|exact(by rw[hq6];exact cu g5 _ _ 3 4 _ rfl rfl)|exact by rw[hq6];exact cu g5 _ _ 3 4 _ rfl rfl|exact(fun _ _=>by kernel_rfl)|refine⟨?_,?_⟩|intro h|exact Int.le_refl _|decide|omega) fun X6 _ _ Z=>?_
 apply a7 Z rfl<;>intro hb Z
 .have tq6:(gk g5 3||gk g5 4)=true:=by rw[<-hq6];exact hb
  rcases(hfin n2 (by omega) 0 b J hJ ((X5 2).A 0) ((X5 2).c 0) p5 hp5 hn5 up hpar g5 hg5 (by have:=hl3;have:=hl5;omega)).two (F7 _ _ _ _ _ _) hp5 hn5 with⟨w7,p7,hm7,O1⟩|⟨v7,p7,hm7,hs7,hp7,hn7,S7⟩
  .refine stp 3 O a6 [28,29,30] [0] [] Z O1 fun _ _ _ _ Z hk=>?_
   exact thm (P:=Tryz.prog) (fn:=Tryz.f236) (q:=p7) Z hk (by simp[I6,<-hup,<-hue,Rs.bind,t0,hrun,u7,hm3,tq4,hm5,tq6,hm7])
  have O1:=S7;refine rg O a6 [0,3,4,6,7] [0,3,4,6,7] [(3,rc J (i4) p7)] Z fun X7 _ _ Z=>?_
  apply wp_seq
  rcases Bool.eq_false_or_eq_true (gk g5 2)with t8|t8
  .rcases (cS 0 b J hJ ((X7 3).A 0) ((X7 3).c 0) p7 hp7 hn7 l g3.ver (asR 1 g3.x 0)).two (l5 _ _ _ _ _) hp7 hn7 with⟨w8,p8,hm8,O1⟩|⟨d8,p8,hm8,hs8,hp8,hn8,S8⟩
   .refine kC 12 O a6 [36,37,38,40,43] [0] [(2,.r fun _=>.bool .tt),(11,.r fun _=>C6 (asR 1 g3.x 0))] Z O1 (hob:=by intro X;subst O;simp only[b7,Ob.holds,BE.den]<;>and_intros<;>repeat first|trivial|rfl|exact((F4 g5 _ _ 2 _ rfl).res fun _=>Sim.bool (by rw[t8];rfl))|exact qt 1 g3.x 0|exact(fun _ _=>by kernel_rfl)|refine⟨?_,?_⟩|intro h|exact Int.le_refl _|decide|omega) fun _ _ _ _ Z hk=>?_
    exact thm (P:=Tryz.prog) (fn:=Tryz.f236) (q:=p8) Z hk (by simp[I6,<-hup,<-hue,Rs.bind,t0,hrun,u7,hm3,tq4,hm5,tq6,hm7,t8,hm8])
   refine drg O a6 [45,0,3,4] [0,3,4] [(2,.r fun _=>.bool .tt),(11,.r fun _=>C6 (asR 1 g3.x 0)),(12,rc J (.bool (.v d8)) p8)] Z (hob:=by intro X;subst O;simp only[b7,Ob.holds,BE.den]<;>and_intros<;>repeat first|trivial|rfl|exact((F4 g5 _ _ 2 _ rfl).res fun _=>Sim.bool (by rw[t8];rfl))|exact qt 1 g3.x 0|exact S8|exact(fun _ _=>by kernel_rfl)|refine⟨?_,?_⟩|intro h|exact Int.le_refl _|decide|omega) fun X8 _ _ Z=>?_
   apply a7 Z rfl<;>intro hb Z
   .have t9:d8=true:=by exact hb
    exact wp_ret ((rmm O a6 Z (v:=()) (q:=p8) ((X8 12).A 0) ((X8 12).c 0) (by simp[I6,<-hup,<-hue,Rs.bind,t0,hrun,u7,hm3,tq4,hm5,tq6,hm7,t8,hm8,t9])).1)
   have t9:d8=false:=by exact hb
   replace Z:=Z.keep [0,3,4] [0,3,4];exact wp_skip (⟨(n2,p8,_,_),⟨by rw[hrun];simp[u7,Rs.bind,t0,hrun,u7,hm3,tq4,hm5,tq6,hm7,t8,hm8,t9],hp8,hn8,by dsimp only;have:=hl3;have:=hs5.le;have:=hs7.le;have:=hs8.le;have:=hf0;omega,by dsimp only;omega⟩,by simp only;omega,Z⟩)
  refine drg O a6 [45,0,3,4] [0,3,4] [(2,.r fun _=>.bool .ff)] Z (hob:=by intro X;subst O;simp only[b7,Ob.holds,BE.den]<;>and_intros<;>repeat first|trivial|rfl|exact((F4 g5 _ _ 2 _ rfl).res fun _=>Sim.bool (by rw[t8];rfl))|exact qt 1 g3.x 0|exact(fun _ _=>by kernel_rfl)|refine⟨?_,?_⟩|intro h|exact Int.le_refl _|decide|omega) fun X8 _ _ Z=>?_
  refine j1 Z rfl (fun Z=>?_);exact wp_ret ((rmm O a6 Z (v:=()) (q:=p7) ((X7 3).A 0) ((X7 3).c 0) (by simp[I6,<-hup,<-hue,Rs.bind,t0,hrun,u7,hm3,tq4,hm5,tq6,hm7,t8])).1)
 have tq6:(gk g5 3||gk g5 4)=false:=by rw[<-hq6];exact hb
 refine wp_skip (wp_seq ?_)
 rcases Bool.eq_false_or_eq_true (gk g5 2)with t8|t8
 .rcases (cS 0 b J hJ ((X5 2).A 0) ((X5 2).c 0) p5 hp5 hn5 l g3.ver (asR 1 g3.x 0)).two (l5 _ _ _ _ _) hp5 hn5 with⟨w8,p8,hm8,O1⟩|⟨d8,p8,hm8,hs8,hp8,hn8,S8⟩
  .refine kC 12 O a6 [36,37,38,40,43] [0] [(2,.r fun _=>.bool .tt),(11,.r fun _=>C6 (asR 1 g3.x 0))] Z O1 (hob:=by intro X;subst O;simp only[b7,Ob.holds,BE.den]<;>and_intros<;>repeat first|trivial|rfl|exact((F4 g5 _ _ 2 _ rfl).res fun _=>Sim.bool (by rw[t8];rfl))|exact qt 1 g3.x 0|exact(fun _ _=>by kernel_rfl)|refine⟨?_,?_⟩|intro h|exact Int.le_refl _|decide|omega) fun _ _ _ _ Z hk=>?_
   exact thm (P:=Tryz.prog) (fn:=Tryz.f236) (q:=p8) Z hk (by simp[I6,<-hup,<-hue,Rs.bind,t0,hrun,u7,hm3,tq4,hm5,tq6,t8,hm8])
  refine drg O a6 [45,0,3,4] [0,3,4] [(2,.r fun _=>.bool .tt),(11,.r fun _=>C6 (asR 1 g3.x 0)),(12,rc J (.bool (.v d8)) p8)] Z (hob:=by intro X;subst O;simp only[b7,Ob.holds,BE.den]<;>and_intros<;>repeat first|trivial|rfl|exact((F4 g5 _ _ 2 _ rfl).res fun _=>Sim.bool (by rw[t8];rfl))|exact qt 1 g3.x 0|exact S8|exact(fun _ _=>by kernel_rfl)|refine⟨?_,?_⟩|intro h|exact Int.le_refl _|decide|omega) fun X8 _ _ Z=>?_
  apply a7 Z rfl<;>intro hb Z
  .have t9:d8=true:=by exact hb
   exact wp_ret ((rmm O a6 Z (v:=()) (q:=p8) ((X8 12).A 0) ((X8 12).c 0) (by simp[I6,<-hup,<-hue,Rs.bind,t0,hrun,u7,hm3,tq4,hm5,tq6,t8,hm8,t9])).1)
  have t9:d8=false:=by exact hb
  replace Z:=Z.keep [0,3,4] [0,3,4];exact wp_skip (⟨(n2,p8,_,_),⟨by rw[hrun];simp[u7,Rs.bind,t0,hrun,u7,hm3,tq4,hm5,tq6,t8,hm8,t9],hp8,hn8,by dsimp only;have:=hl3;have:=hs5.le;have:=(Suf.refl p5).le;have:=hs8.le;have:=hf0;omega,by dsimp only;omega⟩,by simp only;omega,Z⟩)
 refine drg O a6 [45,0,3,4] [0,3,4] [(2,.r fun _=>.bool .ff)] Z (hob:=by intro X;subst O;simp only[b7,Ob.holds,BE.den]<;>and_intros<;>repeat first|trivial|rfl|exact((F4 g5 _ _ 2 _ rfl).res fun _=>Sim.bool (by rw[t8];rfl))|exact qt 1 g3.x 0|exact(fun _ _=>by kernel_rfl)|refine⟨?_,?_⟩|intro h|exact Int.le_refl _|decide|omega) fun X8 _ _ Z=>?_
 refine j1 Z rfl (fun Z=>?_);exact wp_ret ((rmm O a6 Z (v:=()) (q:=p5) ((X5 2).A 0) ((X5 2).c 0) (by simp[I6,<-hup,<-hue,Rs.bind,t0,hrun,u7,hm3,tq4,hm5,tq6,t8])).1)
theorem GJ(k0 b:Nat)(J:i5)(hJ:j0 J)(A:Option Addr)(c:Nat)(p:Pst)(hp:f8 p)(hn:p.n<=1000000)(l:Lab)(hl:LOk l)(n:Nat)(hfin:∀j,j<n->Cj j)(hf:p.n<n):s8 236 k0 b J A c p [f4 l] (fun _=>i4) (I6 J.bucket J.budget n l p):=s8.re (DH b J hJ A c p hp hn l hl n hfin hf) (by repeat(first|exact trivial|refine⟨zr,?_⟩))
theorem vK:∀n,ThC n/\Cj n:=by
 intro n
 induction n using Nat.strongRecOn with
 |_ n ih=>
  have h1:ThC n:=fun k0 b J hJ A c p hp hn l hl hf=>GJ k0 b J hJ A c p hp hn l hl n (fun j hj=>(ih j hj).2) hf
  exact⟨h1,fun k0 b J hJ A c p hp hn l hl g hg hf=>Hq k0 b J hJ A c p hp hn l hl g hg n h1 hf⟩
theorem CW(n:Nat):ThC n:=(vK n).1
theorem ta(n:Nat):Cj n:=(vK n).2
end Go.Proofs.YtodelmejfpkicaaGreat.Sym
namespace Go.Proofs.YtodelmejfpkicaaGreat.Sym
open Go.RowKit
theorem Sim.of_eq{v v':AV}(h:v=v'):Sim v v':=h ▸ Sim.refl v
inductive Rcv:FrameMode->FrameMode->AV->Prop
 |no:Rcv .returning .returning .nili
 |yes (t:Nat) (v:AV):Rcv (.panicking [{ v:=.iface t v.den,recovered:=false }]) (.panicking [{ v:=.iface t v.den,recovered:=true }]) (.ifc t v)
def qw(P:Program)(f:FuncId)(u u':FrameMode)(x:AV)(args:List AV)(pre:List (Nat×Blk))(res:i8->CR):Prop:=
 ∀(m:Nat->Nat->Prop) (w:World),(∀b o,m b o->b<w.heap.size)->(∀v∈args,Ok m w v)->M3 m w pre->Ok m w x->CallsD P f (args.map AV.den).toArray u w fun e um w'=>um=u'/\Y9 m w pre res e w'
section
variable {P:Program}
theorem bi{fn:Func}{c₀:Frame}{cs:List Frame}{U:FrameMode}{R:Ending->World->Prop}{e:Exit}{a:Act}{w:World}(h:bodyPost P fn R e a w):bodyPostS P fn c₀ cs (fun e u w=>u=U/\R e w) e a ({ c₀ with mode:=U }::cs) w:=by
 cases e with
 |normal=>obtain⟨h1,v,h2,h3⟩:=h;exact⟨h1,U,rfl,v,h2,rfl,h3⟩
 |ret=>obtain⟨h1,v,h2,h3⟩:=h;exact⟨h1,U,rfl,v,h2,rfl,h3⟩
 |panic ch=>obtain⟨h1,h2⟩:=h;exact⟨h1,U,rfl,rfl,h2⟩
 |outgrown=>exact⟨U,rfl,h⟩
 |exit id=>exact h.elim
 |goto l=>exact h.elim
theorem ia{u u':FrameMode}{x:AV}(hr:Rcv u u' x){m:Nat->Nat->Prop}{w:World}{pre:List (Nat×Blk)}(hm:∀b o,m b o->b<w.heap.size)(hp:M3 m w pre){args:List AV}(hargs:∀v∈args,Ok m w v)(hx:Ok m w x){f:FuncId}{fn:Func}{id:Nat}{o:Oper}{rest after:Code}{ts:Array TypeId}{d:Nat}{R:Ending->World->Prop}
  (hf:P.funcs[f]? = some fn) {ops:Array Oper} (hbd:fn.body=some (.seq (.seq (.region id ops false) rest) after)) (hops:ops = #[o]) (ho:o.op = .call (Call.mk (.builtin .recover) #[] ts)) (hg:o.guard=none) (hd:o.dst=some d) (hn:args.length<=fn.ntmps) (hdn:d<fn.ntmps)
  (h:∀a,b6 ⟨m,w,ats pre,[],noK⟩ (St.put ⟨fn.ntmps,B6 0 args,[],pre,[]⟩ (some d) x) a w->rest.wp P (Exit.then (after.wp P (bodyPost P fn R)) (bodyPost P fn R)) a w):CallsD P f (args.map AV.den).toArray u w fun e um w'=>um=u'/\R e w':=by
 subst hops;refine callsD_of_wpS hf hbd fun c₀ cs hu=>?_
 apply wpS_seq;apply wpS_seq;apply wpS_region;have h0:=fi hm hp hargs hn;have mono:Ok (St.m ⟨fn.ntmps,B6 0 args,[],pre,[]⟩ ⟨m,w,ats pre,[],noK⟩) w x:=hx.mono fun b' o u h1 h2=>⟨h1,fun h=>by
  rcases h with h|⟨k,e,he,hat⟩|⟨k,e,he,_⟩
  .exact h2 h
  .exact h2 (hat ▸ hp.free _ (G8 he) o)
  cases he⟩
 have h1:=h0.put (some d) (fun t ht=>by injection ht with ht;subst ht;exact hdn) x (fun _=>mono) x.den (fun _=>rfl);have h2:=h _ h1;have hrun:∀a:Act,(execOp a.eval o).run P w = .ok .recover w:=by
  intro a;simp[execOp,ho,resolve,invoke,builtin]
 have hrg:List.range (#[o]:Array Oper).size=[0]:=rfl;rw[hrg];have hw:∀tm:Array Value,Region.wanted o (yielded #[o] tm)=true:=by intro tm;simp[Region.wanted,hg]
 have fin1:∀a w,after.wp P (bodyPost P fn R) a w->after.wpS P (bodyPostS P fn c₀ cs (fun e um w'=>um=u'/\R e w')) a ({ c₀ with mode:=u' }::cs) w:=fun a w ha=>wpS_of_wp (Code.wp_mono (fun e a w hb=>bi hb) ha)
 have fin:∀a,rest.wp P (Exit.then (after.wp P (bodyPost P fn R)) (bodyPost P fn R)) a w->rest.wpS P (Exit.thenS (after.wpS P (bodyPostS P fn c₀ cs (fun e um w'=>um=u'/\R e w'))) (bodyPostS P fn c₀ cs (fun e um w'=>um=u'/\R e w'))) a ({ c₀ with mode:=u' }::cs) w:=fun a ha=>wpS_of_wp (Code.wp_mono (fun e a w hb=>by
  cases e with
  |normal=>exact fin1 a w hb
  |ret=>exact bi (P:=P) (fn:=fn) (c₀:=c₀) (cs:=cs) (a:=a) (w:=w) (U:=u') (R:=R) (e:=.ret) hb
  |panic ch=>exact bi (P:=P) (fn:=fn) (c₀:=c₀) (cs:=cs) (a:=a) (w:=w) (U:=u') (R:=R) (e:=.panic ch) hb
  |outgrown=>exact bi (P:=P) (fn:=fn) (c₀:=c₀) (cs:=cs) (a:=a) (w:=w) (U:=u') (R:=R) (e:=.outgrown) hb
  |exit id=>exact bi (P:=P) (fn:=fn) (c₀:=c₀) (cs:=cs) (a:=a) (w:=w) (U:=u') (R:=R) (e:=.exit id) hb
  |goto l=>exact bi (P:=P) (fn:=fn) (c₀:=c₀) (cs:=cs) (a:=a) (w:=w) (U:=u') (R:=R) (e:=.goto l) hb) ha)
 have hsz:(args.map AV.den).toArray.size=args.length:=by simp
 have hact:({ tmps:=(args.map AV.den).toArray++Array.replicate (fn.ntmps-(args.map AV.den).toArray.size) undef,defers:=[] }:Act) = { tmps:=(args.map AV.den).toArray++Array.replicate (fn.ntmps-args.length) undef,defers:=[] }:=by rw[hsz]
 rw[hact]
 cases hr with
 |no=>
  have hrec:recoverD (c₀::cs)=none:=by simp[recoverD,hu]
  have hc:({ c₀ with mode:=.returning }:Frame)=c₀:=by rw[<-hu]
  have:=fin _ h2;rw[hc]at this
  simpa[wpOpsS,hw,hrun,hrec,hd,Exit.thenS,AV.den]using this
 |yes t v=>
  have hrec:recoverD (c₀::cs)=some (.iface t v.den,{ c₀ with mode:=.panicking [{ v:=.iface t v.den,recovered:=true }] }::cs):=by simp[recoverD,hu]
  have:=fin _ h2
  simpa[wpOpsS,hw,hrun,hrec,hd,Exit.thenS,AV.den]using this
variable {C:Cx}
theorem ka{s:St}{a:Act}{w:World}{fn:Func}{R:Ending->World->Prop}{u u1:FrameMode}{f:FuncId}{l r:List AV}{ds:List Deferred}{x:AV}(h:b6 ⟨C.m0,C.w0,C.S,{ target:=.fn (.func f) (AV.denL r).toArray,args:=(AV.denL l).toArray }::ds,C.K⟩ s a w)(hu:u ≠ .run)(hen:j6 P f)
  {pre:List (Nat×Blk)} {sets:List (Nat×List AV)} {v:AV} (hsp:qw P f u u1 x (l++r) pre (fun _=>⟨v,sets,[]⟩)) (hok:∀v∈l++r,Ok (s.m C) w v) (hx:Ok (s.m C) w x) (hpre:∀e∈pre,i6 s.mem e.1=some e.2) (hnd:dq pre=true)
  (K:∀w',b6 ⟨C.m0,C.w0,C.S,ds,C.K⟩ (s.eff (.sets (upd pre sets))) { tmps:=a.tmps,defers:=ds } w'->Leaves P fn a.tmps R ds (settle u1) w'):Leaves P fn a.tmps R a.defers u w:=by
 have hlt:∀b o,s.m C b o->b<w.heap.size:=oe (C:=⟨C.m0,C.w0,C.S,{ target:=.fn (.func f) (AV.denL r).toArray,args:=(AV.denL l).toArray }::ds,C.K⟩) h
 refine rb h hu hen hpre hnd (fun hp=>(hsp (s.m C) w hlt hok hp hx).mono ?_) K
 rintro e u' w' ⟨rfl,x,rfl,_,hl⟩
 exact⟨⟨_,rfl⟩,rfl,hl⟩
end
section
variable {C:Cx} {P:Program} {Q:Exit->Act->World->Prop} {ops:Array Oper}
theorem jq{s:St}{a:Act}{w:World}{L rest:List Oper}{o:Oper}{x:Operand}{ti t d:Nat}{v:AV}{dd:TypeDesc}(hL:L=o::rest)(hg:o.guard=none)(hop:o.op = .typeAssert x ti t true)(hdst:o.dst=some d)(h:b6 C s a w)(hd:d<s.nt)(hx:val s [] x = .ifc t v)(hu:P.underlying t=some dd)(hni:∀ms,dd ≠ .interface ms)
  (K:∀a',b6 C (s.put (some d) (.tup [v,.bool .tt])) a' w->wpList P ops Q rest a' w):wpList P ops Q L a w:=by
 have hxv:=F0 h (q:=[]) (fun _ h=>by cases h) (x:=x) (by rw[hx];rfl);rw[hx]at hxv;have hok:Ok (s.m C) w v:=by cases hxv.2 with|ifc _ _ h=>exact h
 refine jZ hL hg hdst h hd (v:=.tup [v,.bool .tt]) ?_ (.tup _ (fun y hy=>?_)) K
 .have e:a.eval x = .iface t v.den:=hxv.1
  simp only[execOp,hop,e,AV.den,AV.denL,BE.den]
  cases dd<;>first|exact absurd rfl (hni _)|simp[Instr.typeAssert,run_underlying hu]
 simp only[List.mem_cons,List.not_mem_nil,or_false]at hy
 rcases hy with rfl|rfl
 .exact hok
 exact .bool _
end
end Go.Proofs.YtodelmejfpkicaaGreat.Sym
namespace Go.Proofs.YtodelmejfpkicaaGreat.Sym
open Go Go.RowKit
def btw(v lo hi:Int):Bool:=decide (lo<=v)&&decide (v<=hi)
def E4(J:i5):Bool:=btw J.bucket 1 16&&btw J.budget 0 2000&&btw J.how 1 2&&btw J.most 0 500&&decide ((J.pn:Int)<=500)&&isL J.lab
def F3(g:r9):Bool:=(decide (g.code=0)||decide (g.code=8))&&(if g.has=true then D7 g.x.r.kd g.x.r.n g.x.r.f g.x.r.nx g.x.r.mrk else decide (g.x.r.kd=0)&&decide (g.x.r.n=0)&&decide (g.x.r.nx=⟨0,0⟩)&&decide (g.x.r.mrk=0))
def K3(n:Nat)(f:Nat->r9):Bool:=(List.range n).all fun j=>F3 (f j)
theorem nD{n j:Nat}{f:Nat->r9}(hj:j<n)(h:F3 (f j)=false):K3 n f=false:=by
 rw[Bool.eq_false_iff];intro h2;have:=List.all_eq_true.1 h2 j (List.mem_range.2 hj);rw[h]at this;cases this
theorem lX{n:Nat}{f:Nat->r9}(h:∀j,j<n->F3 (f j)=true):K3 n f=true:=List.all_eq_true.2 fun j hj=>h j (List.mem_range.1 hj)
theorem nE{n j:Nat}{f:Nat->r9}(h:K3 n f=true)(hj:j<n):F3 (f j)=true:=List.all_eq_true.1 h j (List.mem_range.2 hj)
structure InG(g:r9):Prop where
 nx:U64 g.x.r.nx.bits
 ver:U64 g.ver
 len:g.x.r.n<=maxLen
 key:∀i,i<g.x.r.n->U64 (g.x.r.f i).key
theorem EJ{g:r9}(h:InG g)(hg:F3 g=true):cW g:=by
 refine⟨⟨h.nx,h.key,?_⟩,h.ver⟩;unfold F3 at hg;rw[Bool.and_eq_true]at hg;obtain⟨_,h2⟩:=hg
 by_cases hh:g.has=true
 .rw [if_pos hh]at h2
  exact(E3 h2).2.2.1
 rw[if_neg hh]at h2;simp only[Bool.and_eq_true,decide_eq_true_eq]at h2;omega
abbrev az(A:Option Addr)(n c:Nat)(f:Nat->r9):AV:=.sl none A n c 8 (fun j=>bH (f j))
def nt0:Nt:=⟨11,false,⟨#[]⟩⟩
def mg(n:Nat)(f:Nat->r9):Pst:=⟨n,f,nt0⟩
def i5.less(J:i5)(n:Nat):i5:={ J with budget:=J.budget-n }
structure dQ(J:i5):Prop where
 lab:U64 J.lab.bits
 key:U64 J.key
 hi:U64 J.hi
theorem oi{J:i5}{n:Nat}(hJ:dQ J)(h:E4 J=true)(hn:n<=900000):j0 (J.less n):=by
 unfold E4 btw at h;simp only[Bool.and_eq_true,decide_eq_true_eq]at h;refine⟨?_,?_,hJ.lab,hJ.key,hJ.hi⟩
 .show -1000000<=J.budget-n;omega
 show J.budget-n<=1000000;omega
theorem Hl{g:r9}(hg:F3 g=true):vw g:=by
 unfold F3 at hg;simp only[Bool.and_eq_true,Bool.or_eq_true,decide_eq_true_eq]at hg;obtain⟨h1,h2⟩:=hg;refine⟨h1,fun hh=>?_,fun hh=>?_⟩
 .rw [if_pos hh]at h2;exact h2
 rw[if_neg (by rw[hh];decide)]at h2;simp only[Bool.and_eq_true,decide_eq_true_eq]at h2;exact⟨h2.1.1.1,h2.1.1.2,h2.1.2,h2.2⟩
theorem qS{n:Nat}{f:Nat->r9}(hin:∀j,j<n->InG (f j))(h:K3 n f=true):f8 (mg n f):=fun j hj=>⟨EJ (hin j hj) (nE h hj),Hl (nE h hj)⟩
abbrev vX(x:i8)(r:Rsl):AV:=.agg [.int .i64 r.code,.bool (.v r.had),.str r.val,.sl none (x.A 2) r.items.length (x.c 2) 2 (fun i=>itC (itF r.items i)),.int .u64 r.key,.bool (.v r.more)]
abbrev jH(r:Rsl):AV:=.agg [.int .i64 r.code,.bool (.v r.had),.str r.val,.sl none none 0 0 2 (fun _=>[]),.int .u64 r.key,.bool (.v r.more)]
def oW(f:FuncId)(k0 b:Nat)(J:i5)(A:Option Addr)(c:Nat)(p:Pst)(args:List AV)(r:Rs Rsl):Prop:=
 V7 Tryz.prog f (.ptr k0 b 0::args) [(k0,⟨b,166,B9 J A c p⟩)] (fun x=>match r with
  | .ok a p=>.ret ⟨vX x a,[(k0,B9 J (x.A 0) (x.c 0) p)],[]⟩
  | .stop w p=>.thr 40 (D8 (wqA x w)) [(k0,B9 J (x.A 0) (x.c 0) p)])
theorem s8.a{f:FuncId}{k0 b:Nat}{J:i5}{A:Option Addr}{c:Nat}{p:Pst}{args:List AV}{r:Rs Rsl}(h:s8 f k0 b J A c p args jH r)(hr:∀a q,r = .ok a q->a.items=[]):oW f k0 b J A c p args r:=by
 intro m w h1 h2 h3;refine(h m w h1 h2 h3).mono ?_
 rintro e w' ⟨x,hx⟩
 cases r with
 |stop wq q=>exact⟨x,hx⟩
 |ok a q=>
  refine⟨⟨x.b,fun i=>if i=2 then none else x.A i,fun i=>if i=2 then 0 else x.c i,x.s⟩,?_⟩;have hi:=hr a q rfl;obtain⟨he,hok,hl⟩:=hx;have hs:Sim (jH a) (vX ⟨x.b,fun i=>if i=2 then none else x.A i,fun i=>if i=2 then 0 else x.c i,x.s⟩ a):=by
   obtain⟨c1,h1,v1,it,k1,m1⟩:=a;simp only at hi;subst hi;exact Sim.agg ⟨zr,zr,zr,zq0,zr,zr,trivial⟩
  exact⟨by rw[he];exact congrArg _ hs.1,hs.2.2 _ _ hok,hl⟩
theorem oW.ok{f:FuncId}{k0 b:Nat}{J:i5}{A:Option Addr}{c:Nat}{p q:Pst}{args:List AV}{r:Rs Rsl}{a:Rsl}(h:oW f k0 b J A c p args r)(e:r = .ok a q) :
  V7 Tryz.prog f (.ptr k0 b 0::args) [(k0,⟨b,166,B9 J A c p⟩)] (fun x=>.ret ⟨vX x a,[(k0,B9 J (x.A 0) (x.c 0) q)],[]⟩):=by
 subst e;exact h
theorem oW.stop{f:FuncId}{k0 b:Nat}{J:i5}{A:Option Addr}{c:Nat}{p q:Pst}{args:List AV}{r:Rs Rsl}{w:Wq}(h:oW f k0 b J A c p args r)(e:r = .stop w q) :
  V7 Tryz.prog f (.ptr k0 b 0::args) [(k0,⟨b,166,B9 J A c p⟩)] (fun x=>.thr 40 (D8 (wqA x w)) [(k0,B9 J (x.A 0) (x.c 0) q)]):=by
 subst e;exact h
theorem Hf{s s':St}{C C':Cx}(h0:∀b o,C'.m0 b o->C.m0 b o)(h:∀x∈s'.mem,∃k' e',i6 s.mem k'=some e'/\e'.at_=x.2.at_)(hg:s'.gr=[]){b o:Nat}(hh:s'.m C' b o):s.m C b o:=by
 rcases hh with hh|⟨k,e,he,hat⟩|⟨k,t,ht,_⟩
 .exact .inl (h0 b o hh)
 .obtain ⟨k',e',h1,h2⟩:=h _ (G8 he)
  exact .inr (.inl ⟨k',e',h1,h2.trans hat⟩)
 rw[hg]at ht;cases ht
theorem oW.ok'{f:FuncId}{k0 b:Nat}{J:i5}{A:Option Addr}{c:Nat}{p q:Pst}{args:List AV}{r:Rs Rsl}{a:Rsl}(h:oW f k0 b J A c p args r)(e:r = .ok a q){nn:Nat}{ff:Nat->Itm}(h1:nn=a.items.length)(h2:ff=itF a.items) :
  V7 Tryz.prog f (.ptr k0 b 0::args) [(k0,⟨b,166,B9 J A c p⟩)] (fun x=>.ret ⟨.agg [.int .i64 a.code,.bool (.v a.had),.str a.val,.sl none (x.A 2) nn (x.c 2) 2 (fun i=>itC (ff i)),.int .u64 a.key,.bool (.v a.more)],[(k0,B9 J (x.A 0) (x.c 0) q)],[]⟩):=by
 subst h1;subst h2;exact h.ok e
def gF(ok:Bool)(r:Rs Rsl):Wq×Int:=if ok=true then L5 r else(zWq,1)
abbrev wqB(x:i8)(w:Wq)(rr:RN)(nn:Nat)(ff:Nat->Itm):C1:=⟨w.kind,w.lab,w.ver,⟨x.A 1,x.c 1,rr⟩,⟨w.res.code,w.res.had,w.res.val,x.A 2,nn,x.c 2,ff,w.res.key,w.res.more⟩⟩
theorem k7.wq{P:Program}{f:Nat}{args:List AV}{r:Wq×Int}(h:k7 P f args (fun x=>.tup [D8 (wqA x r.1),.int .i64 r.2])){w:Wq}{e:Int}{rr:RN}{nn:Nat}{ff:Nat->Itm}(h1:w=r.1)(h2:e=r.2)(h3:rr=w.r.rn)(h4:nn=w.res.items.length)(h5:ff=itF w.res.items) :
  k7 P f args (fun x=>.tup [D8 (wqB x w rr nn ff),.int .i64 e]):=by
 subst h1;subst h2;subst h3;subst h4;subst h5;exact h
end Go.Proofs.YtodelmejfpkicaaGreat.Sym
namespace Go.Proofs.YtodelmejfpkicaaGreat.Sym
open Go Go.ChangeShapes Go.WideShapes Go.ChangeAt Go.RowKit Go.Deep
def OkL(w:World)(l:List AV):Prop:=∀v∈l,v.one=true/\Ok m0 w v
theorem OkL.nil{w:World}:OkL w []:=fun v hv=>by cases hv
theorem OkL.cons{w:World}{v:AV}{l:List AV}(h1:v.one=true)(h2:Ok m0 w v)(h:OkL w l):OkL w (v::l):=by
 intro u hu
 rcases List.mem_cons.1 hu with rfl|hu
 .exact ⟨h1,h2⟩
 exact h u hu
theorem OkL.int{w:World}{k:IntKind}{x:Int}{l:List AV}(h:OkL w l):OkL w (.int k x::l):=.cons rfl (.int _ _) h
theorem OkL.bool{w:World}{b:BE}{l:List AV}(h:OkL w l):OkL w (.bool b::l):=.cons rfl (.bool _) h
theorem OkL.agg{w:World}{l:List AV}(h:OkL w l):Ok m0 w (.agg l):=.agg _ (fun v hv=>(h v hv).1) fun v hv=>(h v hv).2
def Dx(w:World)(x:r9):Prop:=OkL w (bH x)/\InG x
theorem B2.u64{l:Lab}(h:B2 l):U64 l.bits:=kz h.2
theorem pu{α : Type} [Inhabited α]{k:Nat}{cells:α->List AV}{w:World}{A:Option Addr}{c:Nat}{l:List α}(hk:∀x,(cells x).length=k)(hl:l.length<=c)(hc:c<=maxLen)(ho:∀x∈l,OkL w (cells x))
  (h:0<(l.flatMap fun x=>(cells x).map AV.den).length->∃b off,A=some ⟨b,off,none⟩/\∀j u,(l.flatMap fun x=>(cells x).map AV.den)[j]? = some u->w.cell? ⟨b,off+j,none⟩=some u) (hk0:0<k):Ok m0 w (.sl none A l.length c k (fun i=>cells (l.getD i default))):=by
 have hg:∀i (hi:i<l.length),l.getD i default=l[i]:=fun i hi=>by simp[List.getD,hi]
 have hkm:∀x,((cells x).map AV.den).length=k:=fun x=>by rw[List.length_map,hk]
 have hpos:∀i,i<l.length->0<(l.flatMap fun x=>(cells x).map AV.den).length:=fun i hi=>by rw[G7 hkm];exact Nat.mul_pos (by omega) hk0
 refine .sl _ _ _ _ _ _ hl hc (fun i _=>hk _) (fun i hi=>?_) (fun i hi j u hu=>?_) (fun i hi v hv=>?_) (fun i hi v hv=>?_)
 .obtain ⟨b,off,hA,_⟩:=h (hpos i hi);exact⟨b,off,hA⟩
 .obtain ⟨b,off,hA,hcl⟩:=h (hpos i hi)
  rw[hg i hi]at hu;exact⟨b,off,hA,hcl _ u (gW hkm (List.getElem?_eq_getElem hi) hu),id⟩
 .rw [hg i hi]at hv;exact(ho _ (List.getElem_mem hi) v hv).1
 rw[hg i hi]at hv;exact(ho _ (List.getElem_mem hi) v hv).2
section
variable {H:Type} {enc:TypeId×Value->H} {w:World} {base:Nat} {spare:Nat->Bool} {held:Bool}
theorem qi(n:Nat)(cs:List Value)(y:DataW H×List MemPlace)(h:DataW.trod enc Tryz.prog w base spare held n 24 cs=some y):∃x:Lab,cs=[.int .i64 x.len,.int .u64 x.bits]/\B2 x:=by
 obtain⟨xs,m,rfl,rfl,hlen,hxl,hf⟩:=DataW.trod_struct Tryz.underlying24 h;have hC:Tryz.prog.cellsOf 24=2:=by kernel_rfl
 have h0:DataW.trod enc Tryz.prog w base spare held m 3 ((cs.drop 0).take (Tryz.prog.cellsOf 3))=xs[0]?:=hf 0 _ rfl;have h1:DataW.trod enc Tryz.prog w base spare held m 22 ((cs.drop 1).take (Tryz.prog.cellsOf 22))=xs[1]?:=hf 1 _ rfl;rw[hC]at hlen;rw[show Tryz.prog.cellsOf 3=1 by kernel_rfl]at h0;rw[show Tryz.prog.cellsOf 22=1 by kernel_rfl]at h1
 match cs,hlen with
 | [c0,c1],_=>
  match xs,hxl with
  | [y0,y1],_=>
   obtain⟨a,e0,_,wa⟩:=DataW.trod_int Tryz.underlying3 h0;obtain⟨b,e1,_,wb⟩:=DataW.trod_int Tryz.underlying22 h1;simp at e0 e1;subst e0;subst e1;exact⟨⟨a,b⟩,rfl,wa,wb⟩
theorem Bz(n:Nat)(cs:List Value)(y:DataW H×List MemPlace)(h:DataW.trod enc Tryz.prog w base spare held n 33 cs=some y):∃(A:Option Addr) (c k:Nat) (f:Nat->Itm),cs=[(AV.sl none A k c 2 (fun i=>itC (f i))).den]/\Ok m0 w (.sl none A k c 2 (fun i=>itC (f i)))/\k<=maxLen/\∀i,i<k->U64 (f i).key:=by
 obtain⟨A,c,l,e1,hr,hl,hm,hwf⟩:=iB (en:=C8) Tryz.underlying33 (k:=2) (by kernel_rfl) F2 (by decide) BA h;have hrow:Ok m0 w (l6 A l.length c (itF l)):=jU hl hm (fun x hx=>(hwf x hx).1) fun hp=>by
  obtain⟨b,off,hA,_,hc⟩:=hr hp;exact⟨b,off,hA,fun j u hu=>⟨hc j u hu,id⟩⟩
 exact⟨A,c,l.length,itF l,e1,hrow,by omega,fun i hi=>by simp only[itF,List.getD,List.getElem?_eq_getElem hi];exact(hwf _ (List.getElem_mem hi)).2⟩
theorem yf(n:Nat)(cs:List Value)(y:DataW H×List MemPlace)(h:DataW.trod enc Tryz.prog w base spare held n 35 cs=some y):∃x:RA,cs=(fo x).map AV.den/\OkL w (fo x)/\x.r.n<=maxLen/\B2 x.r.nx/\∀i,i<x.r.n->U64 (x.r.f i).key:=by
 obtain⟨xs,m,rfl,rfl,hlen,hxl,hf⟩:=DataW.trod_struct Tryz.underlying35 h;have hC:Tryz.prog.cellsOf 35=5:=by kernel_rfl
 have h0:DataW.trod enc Tryz.prog w base spare held m 3 ((cs.drop 0).take (Tryz.prog.cellsOf 3))=xs[0]?:=hf 0 _ rfl;have h1:DataW.trod enc Tryz.prog w base spare held m 33 ((cs.drop 1).take (Tryz.prog.cellsOf 33))=xs[1]?:=hf 1 _ rfl;have h2:DataW.trod enc Tryz.prog w base spare held m 24 ((cs.drop 2).take (Tryz.prog.cellsOf 24))=xs[2]?:=hf 2 _ rfl;have h3:DataW.trod enc Tryz.prog w base spare held m 22 ((cs.drop 4).take (Tryz.prog.cellsOf 22))=xs[3]?:=hf 3 _ rfl;rw[hC]at hlen;rw[show Tryz.prog.cellsOf 3=1 by kernel_rfl]at h0;rw[show Tryz.prog.cellsOf 33=1 by kernel_rfl]at h1;rw[show Tryz.prog.cellsOf 24=2 by kernel_rfl]at h2;rw[show Tryz.prog.cellsOf 22=1 by kernel_rfl]at h3
 match cs,hlen with
 | [c0,c1,c2,c3,c4],_=>
  match xs,hxl with
  | [y0,y1,y2,y3],_=>
   obtain⟨kd,e0,_,_⟩:=DataW.trod_int Tryz.underlying3 h0;obtain⟨A,c,k,f,e1,hrow,hk,hky⟩:=Bz _ _ _ h1;obtain⟨nx,e2,hb⟩:=qi _ _ _ h2;obtain⟨mk,e3,_,wm⟩:=DataW.trod_int Tryz.underlying22 h3;simp only[List.drop_zero,List.drop_succ_cons,List.take_succ_cons,List.take_zero,List.cons.injEq,and_true]at e0 e1 e2 e3;obtain⟨e2,e4⟩:=e2;subst e0;subst e1;subst e2;subst e3;subst e4;exact⟨⟨A,c,⟨k,f,kd,nx,mk⟩⟩,rfl,.int (.cons rfl hrow (.int (.int (.int .nil)))),hk,hb,hky⟩
theorem BB(n:Nat)(cs:List Value)(y:DataW H×List MemPlace)(h:DataW.trod enc Tryz.prog w base spare held n 53 cs=some y):∃x:r9,cs=(bH x).map AV.den/\Dx w x:=by
 obtain⟨xs,m,rfl,rfl,hlen,hxl,hf⟩:=DataW.trod_struct Tryz.underlying53 h;have hC:Tryz.prog.cellsOf 53=8:=by kernel_rfl
 have h0:DataW.trod enc Tryz.prog w base spare held m 36 ((cs.drop 0).take (Tryz.prog.cellsOf 36))=xs[0]?:=hf 0 _ rfl;have h1:DataW.trod enc Tryz.prog w base spare held m 22 ((cs.drop 1).take (Tryz.prog.cellsOf 22))=xs[1]?:=hf 1 _ rfl;have h2:DataW.trod enc Tryz.prog w base spare held m 4 ((cs.drop 2).take (Tryz.prog.cellsOf 4))=xs[2]?:=hf 2 _ rfl;have h3:DataW.trod enc Tryz.prog w base spare held m 35 ((cs.drop 3).take (Tryz.prog.cellsOf 35))=xs[3]?:=hf 3 _ rfl;rw[hC]at hlen;rw[show Tryz.prog.cellsOf 36=1 by kernel_rfl]at h0;rw[show Tryz.prog.cellsOf 22=1 by kernel_rfl]at h1;rw[show Tryz.prog.cellsOf 4=1 by kernel_rfl]at h2;rw[show Tryz.prog.cellsOf 35=5 by kernel_rfl]at h3
 match cs,hlen with
 | [c0,c1,c2,c3,c4,c5,c6,c7],_=>
  match xs,hxl with
  | [y0,y1,y2,y3],_=>
   obtain⟨cd,e0,_,_⟩:=DataW.trod_int Tryz.underlying36 h0;obtain⟨v,e1,_,wv⟩:=DataW.trod_int Tryz.underlying22 h1;obtain⟨hs,e2,_⟩:=DataW.trod_bool Tryz.underlying4 h2;obtain⟨x,e3,hx,hn,hnx,hky⟩:=yf _ _ _ h3;simp only[List.drop_zero,List.drop_succ_cons,List.take_succ_cons,List.take_zero,List.cons.injEq,and_true,fo,List.map_cons,List.map_nil]at e0 e1 e2 e3;obtain⟨e4,e5,e6,e7,e8⟩:=e3;subst e0;subst e1;subst e2;subst e4;subst e5;subst e6;subst e7;subst e8;exact⟨⟨cd,v,hs,x⟩,rfl,.int (.int (.bool hx)),hnx.u64,kz wv,hn,hky⟩
theorem yi(n:Nat)(cs:List Value)(y:DataW H×List MemPlace)(h:DataW.trod enc Tryz.prog w base spare held n 3 cs=some y):∃x:Int,cs=[Value.int .i64 x]/\True:=by
 obtain⟨a,e0,_,_⟩:=DataW.trod_int Tryz.underlying3 h;exact⟨a,e0,trivial⟩
theorem yh(n:Nat)(cs:List Value)(y:DataW H×List MemPlace)(h:DataW.trod enc Tryz.prog w base spare held n 25 cs=some y):∃(A:Option Addr) (c k:Nat) (f:Nat->Int),cs=[(AV.sl none A k c 1 (fun i=>[.int .i64 (f i)])).den]/\Ok m0 w (.sl none A k c 1 (fun i=>[.int .i64 (f i)])):=by
 obtain⟨A,c,l,e1,hr,hl,hm,hwf⟩:=iB (en:=fun x:Int=>[Value.int .i64 x]) Tryz.underlying25 (k:=1) (by kernel_rfl) (fun _=>rfl) (by decide) yi h;have hrow:Ok m0 w (.sl none A l.length c 1 (fun i=>[.int .i64 (l.getD i default)])):=pu (cells:=fun x:Int=>[AV.int .i64 x]) (fun _=>rfl) hl hm (fun x _=>.int .nil) (fun hp=>by
  obtain⟨b,off,hA,_,hc⟩:=hr hp;exact⟨b,off,hA,fun j u hu=>hc j u hu⟩) (by decide)
 exact⟨A,c,l.length,fun i=>l.getD i default,e1,hrow⟩
theorem yg(n:Nat)(cs:List Value)(y:DataW H×List MemPlace)(h:DataW.trod enc Tryz.prog w base spare held n 28 cs=some y):∃x1 x2 y1 y2:Int,cs=[.int .u32 x1,.int .u32 x2,.int .u32 y1,.int .u32 y2]:=by
 obtain⟨xs,m,rfl,rfl,hlen,hxl,hf⟩:=DataW.trod_struct Tryz.underlying28 h;have hC:Tryz.prog.cellsOf 28=4:=by kernel_rfl
 have h0:DataW.trod enc Tryz.prog w base spare held m 26 ((cs.drop 0).take (Tryz.prog.cellsOf 26))=xs[0]?:=hf 0 _ rfl;have h1:DataW.trod enc Tryz.prog w base spare held m 26 ((cs.drop 1).take (Tryz.prog.cellsOf 26))=xs[1]?:=hf 1 _ rfl;have h2:DataW.trod enc Tryz.prog w base spare held m 26 ((cs.drop 2).take (Tryz.prog.cellsOf 26))=xs[2]?:=hf 2 _ rfl;have h3:DataW.trod enc Tryz.prog w base spare held m 26 ((cs.drop 3).take (Tryz.prog.cellsOf 26))=xs[3]?:=hf 3 _ rfl;rw[hC]at hlen;rw[show Tryz.prog.cellsOf 26=1 by kernel_rfl]at h0 h1 h2 h3
 match cs,hlen with
 | [c0,c1,c2,c3],_=>
  match xs,hxl with
  | [y0,y1,y2,y3],_=>
   obtain⟨a0,e0,_,_⟩:=DataW.trod_int Tryz.underlying26 h0;obtain⟨a1,e1,_,_⟩:=DataW.trod_int Tryz.underlying26 h1;obtain⟨a2,e2,_,_⟩:=DataW.trod_int Tryz.underlying26 h2;obtain⟨a3,e3,_,_⟩:=DataW.trod_int Tryz.underlying26 h3;simp at e0 e1 e2 e3;subst e0;subst e1;subst e2;subst e3;exact⟨_,_,_,_,rfl⟩
theorem By(n:Nat)(cs:List Value)(y:DataW H×List MemPlace)(h:DataW.trod enc Tryz.prog w base spare held n 30 cs=some y):∃x:i5,cs=(jJ x).map AV.den/\OkL w (jJ x)/\dQ x:=by
 obtain⟨xs,m,rfl,rfl,hlen,hxl,hf⟩:=DataW.trod_struct Tryz.underlying30 h;have hC:Tryz.prog.cellsOf 30=15:=by kernel_rfl
 have h0:DataW.trod enc Tryz.prog w base spare held m 3 ((cs.drop 0).take (Tryz.prog.cellsOf 3))=xs[0]?:=hf 0 _ rfl;have h1:DataW.trod enc Tryz.prog w base spare held m 24 ((cs.drop 1).take (Tryz.prog.cellsOf 24))=xs[1]?:=hf 1 _ rfl;have h2:DataW.trod enc Tryz.prog w base spare held m 22 ((cs.drop 3).take (Tryz.prog.cellsOf 22))=xs[2]?:=hf 2 _ rfl;have h3:DataW.trod enc Tryz.prog w base spare held m 22 ((cs.drop 4).take (Tryz.prog.cellsOf 22))=xs[3]?:=hf 3 _ rfl;have h4:DataW.trod enc Tryz.prog w base spare held m 9 ((cs.drop 5).take (Tryz.prog.cellsOf 9))=xs[4]?:=hf 4 _ rfl;have h5:DataW.trod enc Tryz.prog w base spare held m 3 ((cs.drop 6).take (Tryz.prog.cellsOf 3))=xs[5]?:=hf 5 _ rfl;have h6:DataW.trod enc Tryz.prog w base spare held m 25 ((cs.drop 7).take (Tryz.prog.cellsOf 25))=xs[6]?:=hf 6 _ rfl;have h7:DataW.trod enc Tryz.prog w base spare held m 28 ((cs.drop 8).take (Tryz.prog.cellsOf 28))=xs[7]?:=hf 7 _ rfl;have h8:DataW.trod enc Tryz.prog w base spare held m 3 ((cs.drop 12).take (Tryz.prog.cellsOf 3))=xs[8]?:=hf 8 _ rfl;have h9:DataW.trod enc Tryz.prog w base spare held m 3 ((cs.drop 13).take (Tryz.prog.cellsOf 3))=xs[9]?:=hf 9 _ rfl;have h10:DataW.trod enc Tryz.prog w base spare held m 3 ((cs.drop 14).take (Tryz.prog.cellsOf 3))=xs[10]?:=hf 10 _ rfl;rw[hC]at hlen;rw[show Tryz.prog.cellsOf 3=1 by kernel_rfl]at h0 h5 h8 h9 h10;rw[show Tryz.prog.cellsOf 24=2 by kernel_rfl]at h1;rw[show Tryz.prog.cellsOf 22=1 by kernel_rfl]at h2 h3;rw[show Tryz.prog.cellsOf 9=1 by kernel_rfl]at h4;rw[show Tryz.prog.cellsOf 25=1 by kernel_rfl]at h6;rw[show Tryz.prog.cellsOf 28=4 by kernel_rfl]at h7
 match cs,hlen with
 | [c0,c1,c2,c3,c4,c5,c6,c7,c8,c9,c10,c11,c12,c13,c14],_=>
  match xs,hxl with
  | [y0,y1,y2,y3,y4,y5,y6,y7,y8,y9,y10],_=>
   obtain⟨kd,e0,_,_⟩:=DataW.trod_int Tryz.underlying3 h0;obtain⟨l,e1,hl⟩:=qi _ _ _ h1;obtain⟨ky,e2,_,wk⟩:=DataW.trod_int Tryz.underlying22 h2;obtain⟨hi,e3,_,wh⟩:=DataW.trod_int Tryz.underlying22 h3;obtain⟨vl,e4,_,ws⟩:=DataW.trod_string Tryz.underlying9 h4;obtain⟨ms,e5,_,_⟩:=DataW.trod_int Tryz.underlying3 h5;obtain⟨pA,pc,pn,pf,e6,hp⟩:=yh _ _ _ h6;obtain⟨x1,x2,y1,y2,e7⟩:=yg _ _ _ h7;obtain⟨hw,e8,_,_⟩:=DataW.trod_int Tryz.underlying3 h8;obtain⟨bk,e9,_,_⟩:=DataW.trod_int Tryz.underlying3 h9;obtain⟨bg,e10,_,_⟩:=DataW.trod_int Tryz.underlying3 h10;simp only[List.drop_zero,List.drop_succ_cons,List.take_succ_cons,List.take_zero,List.cons.injEq,and_true]at e0 e1 e2 e3 e4 e5 e6 e7 e8 e9 e10;obtain⟨e1,f1⟩:=e1;obtain⟨g0,g1,g2,g3⟩:=e7;subst e0;subst e1;subst f1;subst e2;subst e3;subst e4;subst e5;subst e6;subst g0;subst g1;subst g2;subst g3;subst e8;subst e9;subst e10;exact⟨⟨kd,l,ky,hi,vl,ms,pA,pn,pc,pf,x1,x2,y1,y2,hw,bk,bg⟩,rfl,.int (.int (.int (.int (.int (.cons rfl (.str _ ws) (.int (.cons rfl hp (.int (.int (.int (.int (.int (.int (.int .nil)))))))))))))),hl.u64,kz wk,kz wh⟩
variable {r:Reach} {b0:Nat} {v:Value} {d:DataW H} {p:List MemPlace}
def Dw(w:World)(v:Value):Prop:=∃J:i5,v=(dx J).den/\Ok m0 w (dx J)/\dQ J
def yK(w:World)(v:Value):Prop:=∃(A:Option Addr) (n c:Nat) (f:Nat->r9),v=(az A n c f).den/\Ok m0 w (az A n c f)/\n<=maxLen/\∀i,i<n->InG (f i)
instance inhGot25 : Inhabited r9 := ⟨oZ⟩
instance inhRow25 : Inhabited G6 := ⟨qD⟩
theorem AH(hv:Value.okWide Tryz.prog w r b0 31 v)(h:DataW.Trod enc Tryz.prog w base spare held 31 v d p):yK w v:=by
 obtain⟨a,len,cap,rfl⟩:=okWide_slice Tryz.underlying31 hv;obtain⟨fuel,hf⟩:=h;obtain⟨A,c,l,e1,hr,hl,hm,hwf⟩:=iB (en:=fun x=>(bH x).map AV.den) (wf:=Dx w) Tryz.underlying31 (k:=8) (by kernel_rfl) (fun _=>rfl) (by decide) BB hf;simp only[Value.cells,List.cons.injEq,and_true]at e1;rw[e1];refine⟨A,l.length,c,fun i=>l.getD i default,rfl,pu (fun _=>rfl) hl hm (fun x hx=>(hwf x hx).1) (fun hp=>?_) (by decide),by omega,fun i hi=>?_⟩
 .obtain ⟨b,off,hA,_,hc⟩:=hr hp
  exact⟨b,off,hA,fun j u hu=>hc j u hu⟩
 have:l.getD i default=l[i]:=by simp[List.getD,hi]
 simp only[this];exact(hwf _ (List.getElem_mem hi)).2
theorem EC(hv:Value.okWide Tryz.prog w r b0 30 v)(h:DataW.Trod enc Tryz.prog w base spare held 30 v d p):Dw w v:=by
 obtain⟨cs,rfl,_⟩:=okWide_struct Tryz.underlying30 hv;obtain⟨fuel,hf⟩:=h;obtain⟨x,hx,hw⟩:=By _ _ _ hf;simp only[Value.cells]at hx;obtain⟨l,rfl⟩:∃l:List Value,cs=l.toArray:=⟨cs.toList,by simp⟩
 simp only[List.toList_toArray]at hx;subst hx;exact⟨x,by simp[AV.den,AV.denL],hw.1.agg,hw.2⟩
end
end Go.Proofs.YtodelmejfpkicaaGreat.Sym
namespace Go.Proofs.YtodelmejfpkicaaGreat.Sym
open Go Go.RowKit
def ofE(n:Int):Int:=if n<0 \/ 64<n then 1 else 0
def ofV(key n:Int):Lab:=if n<0 \/ 64<n then⟨0,0⟩else⟨n,(z8 key.toNat n.toNat:Nat)⟩
theorem wQ{key:Int}(hk:U64 key)(n:Int):U64 (ofV key n).bits:=by
 unfold ofV
 split
 .exact ⟨by decide,by decide⟩
 exact sV hk _
theorem nW{key:Int}(n:Int):isL (ofV key n)=true:=by
 unfold ofV
 split
 .decide
 rename_i h
 rw[AF];refine⟨⟨by show 0<=n;omega,by show n<=64;omega⟩,?_⟩
 show((z8 ((z8 key.toNat n.toNat:Nat):Int).toNat n.toNat:Nat):Int)=_
 rw[Int.toNat_natCast,lu]
abbrev D4:Lab:=⟨0,0⟩
structure Spt where
 lab:Lab
 g:r9
def lm:Rec:=⟨1,[],B7,0⟩
def C7(bk k key:Int):Nat->Lab->Pst->Rs Spt
 |0,_,p=>.stop zWq p
 |n+1,l,p=>(J9 k l p).bind fun g p=>
   if gk g 1=true then .ok ⟨l,g⟩ p
   else if(gk g 3||gk g 4)=true then(R3 bk k n l g p).bind fun _ p=>C7 bk k key n l p
   else if(gk g 2&&decide (l.len<64))=true then C7 bk k key n (ofV key (l.len+1)) p
   else if gk g 5=true then(I6 bk k n l p).bind fun _ p=>C7 bk k key n D4 p
   else if(!g.has&&decide (l=D4))=true then(N8 k D4 g.ver lm p).bind fun _ p=>C7 bk k key n D4 p
   else C7 bk k key n D4 p
def bF(bk k:Int)(n:Nat)(l:Lab)(p:Pst):Rs Bool:=
 if G2 l=0 then(J9 k (F8 l) p).bind fun q p=>if(gk q 2||gk q 3||gk q 4)=true then(I6 bk k n l p).bind fun _ p=>.ok false p else .ok true p else .ok true p
def D5(bk k key:Int):Nat->Int->Int->Pst->Rs Spt
 |0,_,_,p=>.stop zWq p
 |n+1,lo,hi,p=>
   if lo<=hi then(J9 k (ofV key ((lo+hi) / 2)) p).bind fun g p=>
    if gk g 1=true then .ok ⟨ofV key ((lo+hi) / 2),g⟩ p
    else if gk g 2=true then D5 bk k key n ((lo+hi) / 2+1) hi p
    else if(gk g 3||gk g 4)=true then(R3 bk k n (ofV key ((lo+hi) / 2)) g p).bind fun _ p=>D5 bk k key n lo hi p
    else if gk g 5=true then(bF bk k n (ofV key ((lo+hi) / 2)) p).bind fun b p=>if b=true then D5 bk k key n lo ((lo+hi) / 2-1) p else D5 bk k key n lo hi p
    else D5 bk k key n lo ((lo+hi) / 2-1) p
   else C7 bk k key (n+1) D4 p
def dR(bk k how key:Int)(n:Nat)(p:Pst):Rs Spt:=if how=1 then C7 bk k key n D4 p else D5 bk k key n 0 64 p
def iZ(x:RA)(key:Int):Int:=jK (fun t=>decide ((x.r.f t).key=key)) x.r.n
def lB(x:RA)(key:Int):Bool:=decide (0<=iZ x key)
def lA(x:RA)(key:Int):ByteArray:=if 0<=iZ x key then(x.r.f (iZ x key).toNat).val else⟨#[]⟩
theorem J5(bk k key:Int):∀n l p,Fro p (C7 bk k key n l p)
 |0,l,p=>T8 _ _
 |n+1,l,p=>(i7 _ _ _).bind fun _ _ _=>j9 (s9 _ _) (j9 ((F7 _ _ _ _ _ _).bind fun _ _ _=>J5 bk k key n _ _) (j9 (J5 bk k key n _ _) (j9 ((E7 _ _ _ _ _).bind fun _ _ _=>J5 bk k key n _ _) (j9 ((l5 _ _ _ _ _).bind fun _ _ _=>J5 bk k key n _ _) (J5 bk k key n _ _)))))
theorem gT(bk k:Int)(n:Nat)(l:Lab)(p:Pst):Fro p (bF bk k n l p):=
 j9 ((i7 _ _ _).bind fun _ _ _=>j9 ((E7 _ _ _ _ _).bind fun _ _ _=>s9 _ _) (s9 _ _)) (s9 _ _)
theorem cw(bk k key:Int):∀n lo hi p,Fro p (D5 bk k key n lo hi p)
 |0,lo,hi,p=>T8 _ _
 |n+1,lo,hi,p=>j9 ((i7 _ _ _).bind fun _ _ _=>j9 (s9 _ _) (j9 (cw bk k key n _ _ _) (j9 ((F7 _ _ _ _ _ _).bind fun _ _ _=>cw bk k key n _ _ _) (j9 ((gT _ _ _ _ _).bind fun _ _ _=>j9 (cw bk k key n _ _ _) (cw bk k key n _ _ _)) (cw bk k key n _ _ _))))) (J5 _ _ _ _ _ _)
theorem R2(bk k how key:Int)(n:Nat)(p:Pst):Fro p (dR bk k how key n p):=j9 (J5 _ _ _ _ _ _) (cw _ _ _ _ _ _ _)
structure jC(s:Spt):Prop where
 ok:cW s.g
 r:vw s.g
 leaf:gk s.g 1=true
 lab:isL s.lab=true/\U64 s.lab.bits
theorem cB{bk k key:Int}(hk:U64 key):∀{n:Nat} {l:Lab} {p q:Pst} {s:Spt},f8 p->(isL l=true/\U64 l.bits)->C7 bk k key n l p = .ok s q->jC s
 |0,l,p,q,s,_,_,h=>by cases h
 |n+1,l,p,q,s,hp,hl,h=>by
  have hz:isL D4=true/\U64 D4.bits:=⟨by decide,by decide,by decide⟩;unfold C7 at h
  cases h1:J9 k l p with
  |stop w p1=>rw[h1]at h;cases h
  |ok g p1=>
   rw[h1]at h;have hp1:=hp.suf ((i7 k l p).of h1);simp only[Rs.bind]at h
   split at h
   .rename_i hg
    injection h with h _
    subst h;exact⟨hp.get h1,hp.getR h1,hg,hl⟩
   split at h
   .cases h2:R3 bk k n l g p1 with
    |stop w p2=>rw[h2]at h;cases h
    |ok u p2=>rw[h2]at h;exact cB hk (hp1.suf ((F7 _ _ _ _ _ _).of h2)) hl h
   split at h
   .exact cB hk hp1 ⟨nW _,wQ hk _⟩ h
   split at h
   .cases h2:I6 bk k n l p1 with
    |stop w p2=>rw[h2]at h;cases h
    |ok u p2=>rw[h2]at h;exact cB hk (hp1.suf ((E7 _ _ _ _ _).of h2)) hz h
   split at h
   .cases h2:N8 k D4 g.ver lm p1 with
    |stop w p2=>rw[h2]at h;cases h
    |ok u p2=>rw[h2]at h;exact cB hk (hp1.suf ((l5 _ _ _ _ _).of h2)) hz h
   exact cB hk hp1 hz h
theorem jj{bk k key:Int}(hk:U64 key):∀{n:Nat} {lo hi:Int} {p q:Pst} {s:Spt},f8 p->D5 bk k key n lo hi p = .ok s q->jC s
 |0,lo,hi,p,q,s,_,h=>by cases h
 |n+1,lo,hi,p,q,s,hp,h=>by
  unfold D5 at h
  split at h
  .cases h1:J9 k (ofV key ((lo+hi) / 2)) p with
   |stop w p1=>rw[h1]at h;cases h
   |ok g p1=>
    rw[h1]at h;have hp1:=hp.suf ((i7 _ _ _).of h1);simp only[Rs.bind]at h
    split at h
    .rename_i hg
     injection h with h _
     subst h;exact⟨hp.get h1,hp.getR h1,hg,nW _,wQ hk _⟩
    split at h
    .exact jj hk hp1 h
    split at h
    .cases h2:R3 bk k n (ofV key ((lo+hi) / 2)) g p1 with
     |stop w p2=>rw[h2]at h;cases h
     |ok u p2=>rw[h2]at h;exact jj hk (hp1.suf ((F7 _ _ _ _ _ _).of h2)) h
    split at h
    .cases h2:bF bk k n (ofV key ((lo+hi) / 2)) p1 with
     |stop w p2=>rw[h2]at h;cases h
     |ok u p2=>
      rw[h2]at h;have hp2:=hp1.suf ((gT _ _ _ _ _).of h2);simp only[Rs.bind]at h
      split at h
      .exact jj hk hp2 h
      exact jj hk hp2 h
    exact jj hk hp1 h
  exact cB hk hp ⟨by decide,by decide,by decide⟩ h
theorem dg{bk k how key:Int}(hk:U64 key){n:Nat}{p q:Pst}{s:Spt}(hp:f8 p)(h:dR bk k how key n p = .ok s q):jC s:=by
 unfold dR at h
 split at h
 .exact cB hk hp ⟨by decide,by decide,by decide⟩ h
 exact jj hk hp h
def kH(l:Lab):Lab:=if l.bits=(M6 l).bits then⟨l.len,(M6 l).bits+(2^(64-l.len.toNat):Nat)⟩else⟨l.len,(M6 l).bits⟩
def cE(l:Lab):Lab:=if G2 l=0 then kH l else⟨0,0⟩
theorem rZ(q k:Nat):(2^(k+1)*q) ^^^ 2^k=2^(k+1)*q+2^k:=by
 have hk:2^k<2^(k+1):=Nat.pow_lt_pow_right (by decide) (by omega);apply Nat.eq_of_testBit_eq;intro i;rw[Nat.testBit_xor,Nat.testBit_two_pow_mul_add q hk,show 2^(k+1)*q=2^(k+1)*q+0 from rfl,Nat.testBit_two_pow_mul_add q (Nat.pow_pos (by decide))]
 by_cases h:i<k+1
 .rw [if_pos h,if_pos h,Nat.zero_testBit,Bool.false_xor]
 rw[if_neg h,if_neg h,Nat.testBit_two_pow,decide_eq_false (by omega),Bool.xor_false]
theorem tY{l:Lab}(hl:isL l=true)(hb:U64 l.bits)(h0:l.len≠0):∃q n:Nat,l.len=(n:Int)/\0<n/\n<=64/\(M6 l).bits=((2^(64-n+1)*q:Nat):Int) ∧
  (l.bits=((2^(64-n+1)*q:Nat):Int) \/ l.bits=((2^(64-n+1)*q+2^(64-n):Nat):Int))/\2^(64-n+1)*q+2^(64-n)<2^64:=by
 obtain⟨h1,h2,h3⟩:=r7 hl;obtain⟨n,hn⟩:∃n:Nat,l.len=n:=⟨l.len.toNat,by omega⟩
 have hlt:=dX hb;have hu:=hb.1;have hpos:0<2^(64-n):=Nat.pow_pos (by decide);have hp1:2^(64-n+1)=2*2^(64-n):=by rw[Nat.pow_succ,Nat.mul_comm]
 have hv:l.bits.toNat=l.bits.toNat / 2^(64-n)*2^(64-n):=by
  have:l.bits.toNat=z8 l.bits.toNat n:=by rw[hn,Int.toNat_natCast]at h3;omega
  exact this
 have hpar:(M6 l).bits=((2^(64-n+1)*(l.bits.toNat / 2^(64-n+1)):Nat):Int):=by
  unfold M6 z8;simp only[hn,Int.toNat_natCast];rw[show 64-(n-1)=64-n+1 by omega,Nat.mul_comm]
 have hqq:l.bits.toNat / 2^(64-n+1)=l.bits.toNat / 2^(64-n) / 2:=by rw[hp1,Nat.mul_comm,Nat.div_div_eq_div_mul]
 refine⟨l.bits.toNat / 2^(64-n+1),n,hn,by omega,by omega,hpar,?_,?_⟩
 .rw [hqq,hp1]
  generalize hx:l.bits.toNat / 2^(64-n)=x at hv
  have hm:l.bits=((x*2^(64-n):Nat):Int):=by omega
  rcases Nat.mod_two_eq_zero_or_one x with h|h
  .refine .inl ?_
   rw[hm]
   congr 1
   rw[Nat.mul_right_comm,show 2*(x / 2)=x by omega]
  refine .inr ?_;rw[hm]
  congr 1
  rw[Nat.mul_right_comm,show 2*(x / 2)=x-1 by omega,Nat.sub_mul,Nat.one_mul];have:2^(64-n)<=x*2^(64-n):=Nat.le_mul_of_pos_left _ (by omega);omega
 rw[hp1];have e64:2^64=2*2^(64-n)*2^(n-1):=by rw[<-hp1,<-Nat.pow_add];congr 1;omega
 have hq:l.bits.toNat / (2*2^(64-n))<2^(n-1):=by
  rw[Nat.div_lt_iff_lt_mul (by omega),Nat.mul_comm,<-e64];exact hlt
 have h9:2*2^(64-n)*(l.bits.toNat / (2*2^(64-n))+1)<=2*2^(64-n)*2^(n-1):=Nat.mul_le_mul_left _ hq;rw[Nat.mul_add,Nat.mul_one,<-e64]at h9;omega
theorem zh{l:Lab}(hl:isL l=true)(hb:U64 l.bits)(h0:l.len≠0):o9 .xor .u64 l.bits ((2^(64-l.len.toNat):Nat):Int)=(kH l).bits:=by
 obtain⟨q,n,hn,hn0,hn64,hpar,hbits,hlt⟩:=tY hl hb h0;have hpos:0<2^(64-n):=Nat.pow_pos (by decide);have hp:2^(64-n)<2^64:=Nat.pow_lt_pow_right (by decide) (by omega);have e2:∀v:Nat,v<2^64->(BitVec.ofInt 64 (v:Int)).toNat=v:=fun v hv=>by rw[BitVec.ofInt_natCast,BitVec.toNat_ofNat,Nat.mod_eq_of_lt hv]
 have key:∀v r:Nat,v<2^64->v ^^^ 2^(64-n)=r->r<2^64->o9 .xor .u64 (v:Int) ((2^(64-n):Nat):Int)=(r:Int):=fun v r hv hr hrl=>by
  show IntKind.u64.wrap (BitVec.ofInt 64 (v:Int) ^^^ BitVec.ofInt 64 _).toNat=_
  rw[BitVec.toNat_xor,e2 v hv,e2 _ hp,hr,eO,Nat.mod_eq_of_lt hrl]
 rw[hn,Int.toNat_natCast];unfold kH
 rcases hbits with h|h
 .rw [if_pos (by rw[h,hpar]),hn,Int.toNat_natCast,hpar,h]
  rw[key _ _ (by omega) (rZ q (64-n)) hlt];exact Int.natCast_add _ _
 rw[if_neg (by rw[h,hpar];omega),hpar,h];refine key _ _ hlt ?_ (by omega);rw[<-rZ,Nat.xor_assoc,Nat.xor_self,Nat.xor_zero]
theorem sg{l:Lab}(hl:isL l=true)(hb:U64 l.bits)(h0:l.len≠0):chE (M6 l) 0=0/\chE (M6 l) 1=0/\kH l=(if l=chV (M6 l) 0 then chV (M6 l) 1 else chV (M6 l) 0):=by
 obtain⟨h1,h2,h3⟩:=r7 hl;have hp:=sC hl hb h0;have hpl:(M6 l).len=l.len-1:=rfl;have e:∀b,chE (M6 l) b=0:=fun b=>by unfold chE;rw[if_neg (by rw[hp];decide),if_neg (by rw[hpl];omega)]
 refine⟨e 0,e 1,?_⟩;have c:∀b,chV (M6 l) b=k8 (M6 l) b:=fun b=>if_pos (e b)
 rw[c,c];have c0:k8 (M6 l) 0=⟨l.len,(M6 l).bits⟩:=by
  unfold k8;rw[if_neg (show ¬(0:Int)=1 by decide),hpl,show l.len-1+1=l.len by omega]
 have c1:k8 (M6 l) 1=⟨l.len,(M6 l).bits+(2^(64-l.len.toNat):Nat)⟩:=by
  unfold k8;rw[if_pos rfl,hpl,show l.len-1+1=l.len by omega,show 63-(l.len-1).toNat=64-l.len.toNat by omega]
 rw[c0,c1];unfold kH
 by_cases h:l.bits=(M6 l).bits
 .have e9:l=⟨l.len,(M6 l).bits⟩:=congrArg (Lab.mk l.len) h
  rw[if_pos h,if_pos e9]
 rw[if_neg h,if_neg (fun h':l=⟨l.len,(M6 l).bits⟩=>h (by have h9:=congrArg (fun x:Lab=>x.bits) h';exact h9))]
theorem LOk.sib{l:Lab}(h:LOk l):LOk (cE l):=by
 unfold cE
 split
 .rename_i he
  have h0:l.len≠0:=fun h0=>by
   unfold G2 at he;rw[if_pos h0]at he
   split at he<;>cases he
  obtain⟨_,_,e⟩:=sg h.isl h.u h0;have hp:=h.par;have hv:F8 l=M6 l:=if_pos he;rw[hv]at hp;rw[e]
  split
  .exact hp.ch 1
  exact hp.ch 0
 exact R5
theorem Dh(key n:Int)(hk:U64 key):k7 Tryz.prog 256 [.int .u64 key,.int .i64 n] (fun _=>.tup [f4 (ofV key n),.int .i64 (ofE n)]):=by
 intro m w hm hargs;refine en 18 hm hargs Tryz.func256 fun B O a0 Z=>?_
 refine wp_seq (rg O a6 [0,1,4] [4] [] Z fun X0 _ _ Z=>?_);refine wp_seq (wp_seq (rg O a6 [11,0,1,4] [4] [] Z fun X1 _ _ Z=>?_));apply a7 Z rfl<;>intro hb Z
 .have h9:(if decide (n<0)=true then true else decide (n>64))=true:=by subst O;exact hb
  have hr:n<0 \/ 64<n:=by
   by_cases h:n<0
   .exact .inl h
   simp[h]at h9;exact .inr h9
  have hV:ofV key n=⟨0,0⟩:=if_pos hr;have hE:ofE n=1:=if_pos hr;refine wp_seq (rg O a6 [4,5] [4] [] Z fun X2 _ _ Z=>?_);refine wp_ret ((rsi O a6 Z f9 (he:=?_)));rw[hV,hE];subst O;exact zr
 have h9:(if decide (n<0)=true then true else decide (n>64))=false:=by subst O;exact hb
 have hr:0<=n/\n<=64:=by
  by_cases h:n<0
  .simp [h]at h9
  simp[h]at h9;omega
 have hV:ofV key n=⟨n,(z8 key.toNat n.toNat:Nat)⟩:=if_neg (by omega);have hE:ofE n=0:=if_neg (by omega);have S:=rq key n hk hr.1 hr.2;obtain⟨hd,hhd⟩:=eqv (((z8 key.toNat n.toNat:Nat):Int));rw[<-hhd]at S hV;have O1:=S;refine wp_skip (wp_seq (rg O a6 [4,5] [4] [(3,.r fun _=>.int .u64 hd)] Z fun X3 _ _ Z=>?_));refine wp_ret ((rsi O a6 Z f9 (he:=?_)));rw[hV,hE];subst O;exact zr
theorem CX(key n:Int)(hk:U64 key):k7 Tryz.prog 249 [.int .u64 key,.int .i64 n] (fun _=>.tup [f4 (ofV key n),.int .i64 (ofE n)]):=by
 intro m w hm hargs;refine en 18 hm hargs Tryz.func249 fun B O a0 Z=>?_
 refine wp_seq (rg O a6 [0,1,4] [4] [] Z fun X0 _ _ Z=>?_);refine wp_seq (wp_seq (rg O a6 [11,0,1,4] [4] [] Z fun X1 _ _ Z=>?_));apply a7 Z rfl<;>intro hb Z
 .have h9:(if decide (n<0)=true then true else decide (n>64))=true:=by subst O;exact hb
  have hr:n<0 \/ 64<n:=by
   by_cases h:n<0
   .exact .inl h
   simp[h]at h9;exact .inr h9
  have hV:ofV key n=⟨0,0⟩:=if_pos hr;have hE:ofE n=1:=if_pos hr;refine wp_seq (rg O a6 [4,5] [4] [] Z fun X2 _ _ Z=>?_);refine wp_ret ((rsi O a6 Z f9 (he:=?_)));rw[hV,hE];subst O;exact zr
 have h9:(if decide (n<0)=true then true else decide (n>64))=false:=by subst O;exact hb
 have hr:0<=n/\n<=64:=by
  by_cases h:n<0
  .simp [h]at h9
  simp[h]at h9;omega
 have hV:ofV key n=⟨n,(z8 key.toNat n.toNat:Nat)⟩:=if_neg (by omega);have hE:ofE n=0:=if_neg (by omega);have SD:=oQ key hk;obtain⟨d,hd⟩:=eqv (mkB (K5 64 key.toNat));rw[<-hd]at SD;have hds:d.size=64:=by rw[hd,Q9,Y3]
 have hdx:unB (d.extract 0 n.toNat)=(K5 64 key.toNat).take n.toNat:=by
  rw[hd,bB,aL,List.drop_zero]
 have hxs:(d.extract 0 n.toNat).size=n.toNat:=by rw[ByteArray.size_extract];omega
 have SO:=wP (d.extract 0 n.toNat) (fun x hx=>by rw[hdx]at hx;exact gH x (List.mem_of_mem_take hx)) (by omega);have hk0:ofT (d.extract 0 n.toNat)=⟨n,(z8 key.toNat n.toNat:Nat)⟩:=by
  unfold ofT;rw[hdx,hxs,jY (dX hk) (by omega)];congr 1;omega
 refine wp_skip (wp_seq ?_);rw[hk0,<-hV]at SO;simp only[f4]at SO;obtain⟨k,hk⟩:=eqv (ofV key n);rw[<-hk]at SO;refine rg O a6 [4,5] [4] [(1,.r fun _=>.str d),(4,.r fun _=>.agg [.int .i64 k.len,.int .u64 k.bits])] Z (hob:=by intro X;subst O;simp only[b7,Ob.holds,BE.den]<;>and_intros<;>repeat first|trivial|rfl|exact SD|exact SO|exact⟨by decide,hr.1,by rw[show((d.size:Nat):Int)=64 by omega];exact hr.2⟩|exact hr.1|exact(show n<=(d.size:Int)by omega)|exact(fun _ _=>by kernel_rfl)|refine⟨?_,?_⟩|intro h|exact Int.le_refl _|decide|omega) fun X3 _ _ Z=>?_
 refine wp_ret ((rsi O a6 Z f9 (he:=?_)));rw[hE,<-hk];subst O;exact zr
abbrev pQ:AV:=.agg [.int .i64 1,.sl none none 0 0 2 (fun _=>[]),.int .i64 (-1),.int .u64 0,.int .u64 0]
abbrev L6(s:Spt):AV:=.agg [.int .i64 s.lab.len,.int .u64 s.lab.bits,.int .i64 s.g.code,.int .u64 s.g.ver,.bool (.v s.g.has),.int .i64 s.g.x.r.kd,.sl none s.g.x.A s.g.x.r.n s.g.x.c 2 (fun i=>itC (s.g.x.r.f i)),.int .i64 s.g.x.r.nx.len,.int .u64 s.g.x.r.nx.bits,.int .u64 s.g.x.r.mrk]
theorem iP{key:Int}(hk:U64 key)(n:Int):LOk (ofV key n):=⟨nW n,wQ hk n⟩
theorem xp:k7 Tryz.prog 237 [] (fun _=>pQ):=by
 intro m w hm hargs;have SN:=od;simp only[f4,B7]at SN;refine en 3 hm hargs Tryz.func237 fun B O a0 Z=>?_
 refine wp_seq (rg O a6 [0] [0] [] Z fun X0 _ _ Z=>?_);have O1:=SN;refine wp_seq (rg O a6 [0] [0] [(0,.r fun _=>.agg [.int .i64 (-1),.int .u64 0])] Z fun X1 _ _ Z=>?_);exact wp_ret ((rsp O a6 Z f9).1)
theorem AP(b:Nat)(key k:Int)(v:ByteArray):u9 Tryz.prog 251 [.agg [.int .u64 k,.str v],.ptr 0 b 0] [(0,⟨b,22,[.int .u64 key]⟩)] (fun _=>⟨.bool (.v (decide (k=key))),[(0,[.int .u64 key])],[]⟩):=by
 intro m w hm hargs hpre;refine enX 8 hm hpre hargs Tryz.func251 fun B O a0 Z=>?_
 refine wp_seq (rg O a6 [1,2] [0,2] [] Z fun X0 _ _ Z=>?_);refine wp_seq (rg O a6 [3] [0] [] Z fun X1 _ _ Z=>?_);refine wp_ret ((rx O a6 Z f9 [] (he:=?_)).1);subst O;refine Sim.bool ?_
 show(k==key)=decide (k=key)
 exact rfl
theorem AJ(b:Nat)(A:Option Addr)(n c:Nat)(f:Nat->Itm)(hn:n<=1000000)(key:Int):u9 Tryz.prog 157 [.sl none A n c 2 (fun i=>itC (f i)),.fn 251 [] [.ptr 0 b 0]] [(0,⟨b,22,[.int .u64 key]⟩)] (fun _=>⟨.int .i64 (jK (fun t=>decide ((f t).key=key)) n),[(0,[.int .u64 key])],[]⟩):=by
 intro m w hm hargs hpre;have hmx:maxLen=9223372036854775807:=rfl;refine enX 19 hm hpre hargs Tryz.func157 fun B O a0 Z=>?_
 refine wp_seq (rg O a6 [0,1] [0] [] Z fun X0 _ _ Z=>?_);refine wp_seq (wp_seq (rg O a6 [8,0,1,7] [0] [] Z fun X1 _ _ Z=>?_));refine wp_block (l4 (ι:=Nat) (fun p=>[(8,.int .i64 (p:Int))]) (fun p=>[]) (fun p=>[]) (fun p=>p<=n/\∀t,t<p->decide ((f t).key=key)=false) (fun p=>n-p) 0 ⟨Nat.zero_le _,fun t ht=>absurd ht (Nat.not_lt_zero _)⟩ Z ?_)
 rintro i ⟨hi,hlt⟩ _ _ Z
 try dsimp only at hi
 try dsimp only at hlt
 refine wp_seq (rg O a6 [9,8,0,1,7] [0] [] Z fun X2 _ _ Z=>?_);refine wp_seq (a7 Z rfl (fun hb Z=>?_) (fun hb Z=>?_))
 .have hin:i<n:=by
   have:(i:Int)<(n:Int):=by subst O;simpa[std,a8]using hb
   omega
  have S:=AP b key (f i).key (f i).val;obtain⟨q,hq⟩:=eqv (decide ((f i).key=key));rw[<-hq]at S;refine wp_skip (wp_seq (wp_block (wp_seq (rg O a6 [5,8,0,1,7] [0] [] Z fun X3 _ _ Z=>?_))));apply wp_seq;refine rg O a6 [16,5,8,0,1,7] [0] [(5,.x fun _=>⟨.bool (.v q),[(0,[.int .u64 key])],[]⟩)] Z (hob:=by intro X;subst O;simp only[b7,Ob.holds,BE.den]<;>and_intros<;>repeat first|trivial|rfl|exact S|exact(show(0:Int)<=(i:Int)by omega)|exact(show(i:Int)<(n:Int)by omega)|exact(fun _ _=>by kernel_rfl)|refine⟨?_,?_⟩|intro h|exact Int.le_refl _|decide|omega) fun X4 _ _ Z=>?_
  apply a7 Z rfl<;>intro hb Z
  .have hqt:q=true:=hb
   refine wp_seq (rg O a6 [4] [0] [] Z fun X5 _ _ Z=>?_);refine wp_ret ((rx O a6 Z f9 [] (he:=?_)).1);rw[gP (p:=(fun t=>decide ((f t).key=key))) hin hlt (by show decide ((f i).key=key)=true;rw[<-hq];exact hqt)];subst O;exact zr
  have hqf:q=false:=hb;refine wp_skip (rg O a6 [8,0,1,7] [0] [] Z fun X6 _ _ Z=>?_);have e:B.arith .add .i64 (i:Int) 1=((i+1:Nat):Int):=by subst O;exact o4 (n:=n) hin (by omega)
  refine⟨i+1,⟨by omega,fun t ht=>?_⟩,by omega,by rw[<-e];exact Z⟩
  by_cases h:t=i
  .rw [h,<-hq];exact hqf
  exact hlt t (by omega)
 have hout:i=n:=by
  have:¬(i:Int)<(n:Int):=by subst O;simpa[std,a8]using hb
  omega
 rw[hout]at hlt;refine wp_exit (wp_seq (rg O a6 [4] [0] [] Z fun X7 _ _ Z=>?_));refine wp_ret ((rx O a6 Z f9 [] (he:=?_)).1);rw[gO (p:=(fun t=>decide ((f t).key=key))) hlt];subst O;exact zr
theorem EE(k0:Nat)(b:Nat)(A:Option Addr)(n c:Nat)(f:Nat->Itm)(hn:n<=1000000)(key:Int):u9 Tryz.prog 157 [.sl none A n c 2 (fun i=>itC (f i)),.fn 251 [] [.ptr k0 b 0]] [(k0,⟨b,22,[.int .u64 key]⟩)] (fun _=>⟨.int .i64 (jK (fun t=>decide ((f t).key=key)) n),[(k0,[.int .u64 key])],[]⟩):=
 (AJ b A n c f hn key).re (by repeat(first|exact trivial|refine⟨Sim.ptr,?_⟩|refine⟨Sim.fn ⟨Sim.ptr,trivial⟩ trivial,?_⟩|refine⟨Sim.fn trivial ⟨Sim.ptr,trivial⟩,?_⟩|refine⟨zr,?_⟩)) rfl (fun x=>⟨rfl,rfl,zr,rfl⟩)
theorem xH(x:RA)(hx:K8 x)(key:Int):k7 Tryz.prog 190 [C6 x,.int .u64 key] (fun _=>.tup [.str (lA x key),.bool (.v (lB x key))]):=by
 intro m w hm hargs;have hf:=hx.few;have HC:=na (fun t=>decide ((x.r.f t).key=key)) x.r.n;have hV:lA x key=if 0<=iZ x key then(x.r.f (iZ x key).toNat).val else⟨#[]⟩:=rfl
 have hI:lB x key=decide (0<=iZ x key):=rfl;refine en 19 hm hargs Tryz.func190 fun B O a0 Z=>?_
 refine wp_seq (rg O a6 [2,3] [2,3] [] Z fun X0 _ _ Z=>?_);have S:=EE 3 (X0 1).b x.A x.r.n x.c x.r.f (by omega) key;rw[show jK (fun t=>decide ((x.r.f t).key=key)) x.r.n=iZ x key from rfl]at S HC;obtain⟨ix,hix⟩:=eqv (iZ x key);rw[<-hix]at S HC hV hI;have O1:=S;refine wp_seq (rg O a6 [2,6] [2] [(3,.x fun _=>⟨.int .i64 ix,[(3,[.int .u64 key])],[]⟩)] Z fun X1 _ _ Z=>?_);refine wp_seq (wp_seq (rg O a6 [12,2,6] [2] [] Z fun X2 _ _ Z=>?_));apply a7 Z rfl<;>intro hb Z
 .have hr:ix<0:=by subst O;simpa[std,a8]using hb
  refine wp_seq (rg O a6 [4,5] [] [] Z fun X3 _ _ Z=>?_);refine wp_ret ((rsi O a6 Z f9 (he:=?_)));rw[hV,hI,if_neg (by omega),decide_eq_false (by omega)];subst O;exact zr
 have hr:¬ix<0:=by subst O;simpa[std,a8]using hb
 obtain⟨j,hj1,hj2⟩:∃j,j<x.r.n/\ix=(j:Int):=by
  rcases HC with⟨i,h1,h2,_⟩|⟨h1,_⟩
  .exact ⟨i,h1,h2⟩
  omega
 rw[hj2,if_pos (by omega),Int.toNat_natCast]at hV;refine wp_skip (wp_seq ?_);refine rg O a6 [4,5] [] [] Z (hob:=by intro X;subst O;simp only[b7,Ob.holds,BE.den]<;>and_intros<;>repeat first|trivial|rfl|exact⟨(show(0:Int)<=ix by omega),(show ix<(x.r.n:Int)by omega)⟩|exact(show(0:Int)<=ix by omega)|exact(show ix<(x.r.n:Int)by omega)|exact(fun _ _=>by kernel_rfl)|refine⟨?_,?_⟩|intro h|exact Int.le_refl _|decide|omega) fun X4 _ _ Z=>?_
 refine wp_ret ((rsi O a6 Z f9 (he:=?_)));rw[hV,hI,decide_eq_true (by omega)];subst O;subst hj2;exact zr
theorem nm:j6 Tryz.prog 138:=fun _ _=>by kernel_rfl
theorem so(x:RA)(hx:K8 x)(key:Int):k7 Tryz.prog 138 [C6 x,.int .u64 key] (fun _=>.tup [.str (lA x key),.bool (.v (lB x key))]):=by
 intro m w hm hargs;have hf:=hx.few;have hmx:maxLen=9223372036854775807:=rfl;have hV:lA x key=if 0<=iZ x key then(x.r.f (iZ x key).toNat).val else⟨#[]⟩:=rfl
 have hI:lB x key=decide (0<=iZ x key):=rfl;refine en 28 hm hargs Tryz.func138 fun B O a0 Z=>?_
 refine wp_seq (rg O a6 [1,2] [2] [] Z fun X0 _ _ Z=>?_);refine wp_seq (wp_seq (rg O a6 [6,1,2] [2] [] Z fun X1 _ _ Z=>?_));refine wp_block (l4 (ι:=Nat) (fun p=>[(6,.int .i64 (p:Int))]) (fun p=>[]) (fun p=>[]) (fun p=>p<=x.r.n/\∀t,t<p->decide ((x.r.f t).key=key)=false) (fun p=>x.r.n-p) 0 ⟨Nat.zero_le _,fun t ht=>absurd ht (Nat.not_lt_zero _)⟩ Z ?_)
 rintro i ⟨hi,hlt⟩ _ _ Z
 try dsimp only at hi
 try dsimp only at hlt
 refine wp_seq (wp_seq (rg O a6 [11,1,2,6] [2] [] Z fun X2 _ _ Z=>?_));apply a7 Z rfl<;>intro hb Z
 .have hin:i<x.r.n:=by
   have:(i:Int)<(x.r.n:Int):=by subst O;simpa[std,a8]using hb
   omega
  refine wp_skip (wp_seq (wp_block (wp_seq ?_)));refine rg O a6 [21,1,2,6] [2] [] Z (hob:=by intro X;subst O;simp only[b7,Ob.holds,BE.den]<;>and_intros<;>repeat first|trivial|rfl|exact(show(0:Int)<=(i:Int)by omega)|exact(show(i:Int)<(x.r.n:Int)by omega)|exact(fun _ _=>by kernel_rfl)|refine⟨?_,?_⟩|intro h|exact Int.le_refl _|decide|omega) fun X4 _ _ Z=>?_
  apply a7 Z rfl<;>intro hb Z
  .have heq:(x.r.f i).key=key:=by
    have:((x.r.f i).key==key)=true:=by subst O;exact hb
    simpa using this
   have hix:iZ x key=(i:Int):=gP (p:=(fun t=>decide ((x.r.f t).key=key))) hin hlt (by simp[heq]);apply wp_seq;refine rg O a6 [4,5] [] [] Z (hob:=by intro X;subst O;simp only[b7,Ob.holds,BE.den]<;>and_intros<;>repeat first|trivial|rfl|exact(show(0:Int)<=(i:Int)by omega)|exact(show(i:Int)<(x.r.n:Int)by omega)|exact(fun _ _=>by kernel_rfl)|refine⟨?_,?_⟩|intro h|exact Int.le_refl _|decide|omega) fun X5 _ _ Z=>?_
   refine wp_ret ((rsi O a6 Z f9 (he:=?_)));rw[hV,hI,hix,if_pos (by omega),decide_eq_true (by omega),Int.toNat_natCast];subst O;exact zr
  have hne:¬(x.r.f i).key=key:=by
   have:((x.r.f i).key==key)=false:=by subst O;exact hb
   simpa using this
  refine wp_skip (rg O a6 [6,1,2] [2] [] Z fun X3 _ _ Z=>?_);have e:B.arith .add .i64 (i:Int) 1=((i+1:Nat):Int):=by subst O;exact o4 (n:=x.r.n) hin (by omega)
  refine⟨i+1,⟨by omega,fun t ht=>?_⟩,by omega,by rw[<-e];exact Z⟩
  by_cases h:t=i
  .rw [h];exact decide_eq_false hne
  exact hlt t (by omega)
 have hout:i=x.r.n:=by
  have:¬(i:Int)<(x.r.n:Int):=by subst O;simpa[std,a8]using hb
  omega
 rw[hout]at hlt;have hix:iZ x key = -1:=gO (p:=(fun t=>decide ((x.r.f t).key=key))) hlt;refine wp_exit (wp_seq (rg O a6 [4,5] [] [] Z fun X6 _ _ Z=>?_));refine wp_ret ((rsi O a6 Z f9 (he:=?_)));rw[hV,hI,hix];subst O;exact zr
theorem nu(f:Nat->Itm)(i:Nat)(key:Int):I4 (b4 f (i+1)) key=I4 (b4 f i) key++if(f i).key=key then []else [f i]:=by
 have:b4 f (i+1)=b4 f i ++ [f i]:=by simp[b4,List.range_succ]
 rw[this];unfold I4;rw[List.filter_append]
 congr 1
 by_cases h:(f i).key=key<;>simp[isK,h]
theorem zH(A:Option Addr)(n c:Nat)(f:Nat->Itm)(hn:n<=1000000)(kd:Int)(nx:Lab)(mk:Int)(key:Int):k7 Tryz.prog 138 [F1 A n c f kd nx mk,.int .u64 key] (fun _=>.tup [.str (aD (b4 f n) key),.bool (.v (R7 (b4 f n) key))]):=by
 intro m w hm hargs;have hmx:maxLen=9223372036854775807:=rfl;unfold F1 l6 at hargs;refine en 28 hm hargs Tryz.func138 fun B O a0 Z=>?_
 refine wp_seq (rg O a6 [1,2] [2] [] Z fun X0 _ _ Z=>?_);refine wp_seq (wp_seq (rg O a6 [6,1,2] [2] [] Z fun X1 _ _ Z=>?_));refine wp_block (l4 (ι:=Nat) (fun p=>[(6,.int .i64 (p:Int))]) (fun p=>[]) (fun p=>[]) (fun p=>p<=n/\∀t,t<p->(f t).key≠key) (fun p=>n-p) 0 ⟨Nat.zero_le _,fun t ht=>absurd ht (Nat.not_lt_zero _)⟩ Z ?_)
 rintro i ⟨hi,hlt⟩ _ _ Z
 try dsimp only at hi
 try dsimp only at hlt
 refine wp_seq (wp_seq (rg O a6 [11,6,1,2] [2] [] Z (hob:=?hob) fun X2 _ _ Z=>?_))
 case hob=>
  intro X;subst O
  repeat(first|exact trivial|refine⟨rfl,?_⟩|refine⟨⟨show(0:Int)<=(i:Int)by omega,show(i:Int)<(n:Int)by omega⟩,?_⟩)
 apply a7 Z rfl<;>intro hb Z
 .have hin:i<n:=by
   have:(i:Int)<(n:Int):=by subst O;simpa[std,a8]using hb
   omega
  refine wp_skip (wp_seq (wp_block (wp_seq (rg O a6 [21,6,1,2] [2] [] Z (hob:=?hob) fun X4 _ _ Z=>?_))))
  case hob=>
   intro X;subst O
   repeat(first|exact trivial|refine⟨rfl,?_⟩|refine⟨⟨show(0:Int)<=(i:Int)by omega,show(i:Int)<(n:Int)by omega⟩,?_⟩)
  apply a7 Z rfl<;>intro hb Z
  .have hk:(f i).key=key:=by subst O;simpa[std,a8]using hb
   have hfd:=pW hin hlt hk;have hV:aD (b4 f n) key=(f i).val:=by simp only[aD,hfd]
   have hE:R7 (b4 f n) key=true:=by simp only[R7,hfd];rfl
   refine wp_seq (rg O a6 [4,5] [] [] Z (hob:=?hob) fun X5 _ _ Z=>?_)
   case hob=>
    intro X;subst O
    repeat(first|exact trivial|refine⟨rfl,?_⟩|refine⟨⟨show(0:Int)<=(i:Int)by omega,show(i:Int)<(n:Int)by omega⟩,?_⟩)
   refine wp_ret ((rsi O a6 Z f9 (he:=?_)));subst O;rw[hV,hE];exact Sim.tup ⟨zr,Sim.bool rfl,trivial⟩
  have hk:¬(f i).key=key:=by subst O;simpa[std,a8]using hb
  refine wp_skip (rg O a6 [6,1,2] [2] [] Z fun X3 _ _ Z=>?_);have e:B.arith .add .i64 (i:Int) 1=((i+1:Nat):Int):=by subst O;exact o4 (n:=n) hin (by omega)
  refine⟨i+1,⟨by omega,fun t ht=>by
  by_cases h:t=i
  .rw [h];exact hk
  exact hlt t (by omega)⟩,by omega,by rw[<-e];exact Z⟩
 have hout:i=n:=by
  have:¬(i:Int)<(n:Int):=by subst O;simpa[std,a8]using hb
  omega
 rw[hout]at hlt;have hfd:=nf hlt;have hV:aD (b4 f n) key=⟨#[]⟩:=by simp only[aD,hfd]
 have hE:R7 (b4 f n) key=false:=by simp only[R7,hfd];rfl
 refine wp_exit (wp_seq (rg O a6 [4,5] [] [] Z fun X6 _ _ Z=>?_));refine wp_ret ((rsi O a6 Z f9 (he:=?_)));subst O;rw[hV,hE];exact Sim.tup ⟨zr,Sim.bool rfl,trivial⟩
theorem nq:j6 Tryz.prog 112:=fun _ _=>by kernel_rfl
theorem sK(b:Nat)(A:Option Addr)(n c:Nat)(f:Nat->Itm)(hn:n<=1000000)(key:Int):u9 Tryz.prog 112 [.ptr 0 b 0,.int .u64 key] [(0,⟨b,94,[l6 A n c f]⟩)] (fun _=>⟨.tup [.str (aD (b4 f n) key),.bool (.v (R7 (b4 f n) key))],[(0,[l6 A n c f])],[]⟩):=by
 intro m w hm hargs hpre;have hmx:maxLen=9223372036854775807:=rfl;unfold l6 at hpre ⊢;refine enX 34 hm hpre hargs Tryz.func112 fun B O a0 Z=>?_
 refine wp_seq (rg O a6 [0,1] [0] [] Z fun X0 _ _ Z=>?_);refine wp_seq (wp_seq (rg O a6 [6,0,1] [0] [] Z fun X1 _ _ Z=>?_));refine wp_block (l4 (ι:=Nat) (fun p=>[(6,.int .i64 (p:Int))]) (fun p=>[]) (fun p=>[]) (fun p=>p<=n/\∀t,t<p->(f t).key≠key) (fun p=>n-p) 0 ⟨Nat.zero_le _,fun t ht=>absurd ht (Nat.not_lt_zero _)⟩ Z ?_)
 rintro i ⟨hi,hlt⟩ _ _ Z
 try dsimp only at hi
 try dsimp only at hlt
 refine wp_seq (wp_seq (rg O a6 [13,6,0,1] [0] [] Z (hob:=?hob) fun X2 _ _ Z=>?_))
 case hob=>
  intro X;subst O
  repeat(first|exact trivial|refine⟨rfl,?_⟩|refine⟨⟨show(0:Int)<=(i:Int)by omega,show(i:Int)<(n:Int)by omega⟩,?_⟩)
 apply a7 Z rfl<;>intro hb Z
 .have hin:i<n:=by
   have:(i:Int)<(n:Int):=by subst O;simpa[std,a8]using hb
   omega
  refine wp_skip (wp_seq (wp_block (wp_seq (rg O a6 [25,6,0,1] [0] [] Z (hob:=?hob) fun X4 _ _ Z=>?_))))
  case hob=>
   intro X;subst O
   repeat(first|exact trivial|refine⟨rfl,?_⟩|refine⟨⟨show(0:Int)<=(i:Int)by omega,show(i:Int)<(n:Int)by omega⟩,?_⟩)
  apply a7 Z rfl<;>intro hb Z
  .have hk:(f i).key=key:=by subst O;simpa[std,a8]using hb
   have hfd:=pW hin hlt hk;have hV:aD (b4 f n) key=(f i).val:=by simp only[aD,hfd]
   have hE:R7 (b4 f n) key=true:=by simp only[R7,hfd];rfl
   refine wp_seq (rg O a6 [4,5] [0] [] Z (hob:=?hob) fun X5 _ _ Z=>?_)
   case hob=>
    intro X;subst O
    repeat(first|exact trivial|refine⟨rfl,?_⟩|refine⟨⟨show(0:Int)<=(i:Int)by omega,show(i:Int)<(n:Int)by omega⟩,?_⟩)
   refine wp_ret ((rx O a6 Z f9 [] (he:=?_) (hs:=?_)).1)
   .subst O;rw[hV,hE]
    exact Sim.tup ⟨zr,Sim.bool rfl,trivial⟩
   subst O;exact⟨rfl,⟨_,rfl,zl⟩,trivial⟩
  have hk:¬(f i).key=key:=by subst O;simpa[std,a8]using hb
  refine wp_skip (rg O a6 [6,0,1] [0] [] Z fun X3 _ _ Z=>?_);have e:B.arith .add .i64 (i:Int) 1=((i+1:Nat):Int):=by subst O;exact o4 (n:=n) hin (by omega)
  refine⟨i+1,⟨by omega,fun t ht=>by
  by_cases h:t=i
  .rw [h];exact hk
  exact hlt t (by omega)⟩,by omega,by rw[<-e];exact Z⟩
 have hout:i=n:=by
  have:¬(i:Int)<(n:Int):=by subst O;simpa[std,a8]using hb
  omega
 rw[hout]at hlt;have hfd:=nf hlt;have hV:aD (b4 f n) key=⟨#[]⟩:=by simp only[aD,hfd]
 have hE:R7 (b4 f n) key=false:=by simp only[R7,hfd];rfl
 refine wp_exit (wp_seq (rg O a6 [4,5] [0] [] Z fun X6 _ _ Z=>?_));refine wp_ret ((rx O a6 Z f9 [] (he:=?_) (hs:=?_)).1)
 .subst O;rw[hV,hE]
  exact Sim.tup ⟨zr,Sim.bool rfl,trivial⟩
 subst O;exact⟨rfl,⟨_,rfl,zl⟩,trivial⟩
theorem np:j6 Tryz.prog 113:=fun _ _=>by kernel_rfl
theorem wZ(b:Nat)(A:Option Addr)(n c:Nat)(f:Nat->Itm)(hn:n<=1000000)(key:Int):u9 Tryz.prog 113 [.ptr 0 b 0,.int .u64 key] [(0,⟨b,94,[l6 A n c f]⟩)] (fun x=>⟨l6 (x.A 0) (I4 (b4 f n) key).length (x.c 0) (itF (I4 (b4 f n) key)),[(0,[l6 A n c f])],[]⟩):=by
 intro m w hm hargs hpre;have hmx:maxLen=9223372036854775807:=rfl;unfold l6 at hpre ⊢;refine enX 37 hm hpre hargs Tryz.func113 fun B O a0 Z=>?_
 refine wp_seq (rg O a6 [0,1] [0] [] Z fun X0 _ _ Z=>?_);refine wp_seq (rg O a6 [5,0,1] [0,5,35] [] Z fun X1 _ _ Z=>?_);refine wp_seq (wp_seq (rg O a6 [5,6,0,1] [0,5,35] [] Z fun X2 _ _ Z=>?_));replace Z:=Z.headS (v':=.sl (some 5) none 0 0 2 (fun t=>itC C5)) (zq0) rfl;refine wp_block (l4 (ι:=Nat×Nat×(Nat->Itm)×Option Addr×Nat) (fun p=>[(5,.sl (some 5) p.2.2.2.1 p.2.1 p.2.2.2.2 2 (fun t=>itC (p.2.2.1 t))),(6,.int .i64 (p.1:Int))]) (fun p=>[]) (fun p=>[(5,⟨p.2.2.2.1,p.2.1,p.2.2.2.2,2,62⟩)]) (fun p=>p.1<=n/\p.2.1<=p.1/\b4 p.2.2.1 p.2.1=I4 (b4 f p.1) key) (fun p=>n-p.1) (0,0,fun _=>C5,none,0) ⟨Nat.zero_le _,Nat.le_refl _,rfl⟩ Z ?_)
 rintro⟨i,q,g,A1,c1⟩ ⟨hi,hq,hg⟩ _ _ Z
 try dsimp only at hi
 try dsimp only at hq
 try dsimp only at hg
 refine wp_seq (wp_seq (rg O a6 [13,5,6,0,1] [0,5,35] [] Z (hob:=?hob) fun X3 _ _ Z=>?_))
 case hob=>
  intro X;subst O
  repeat(first|exact trivial|refine⟨rfl,?_⟩|refine⟨⟨show(0:Int)<=(i:Int)by omega,show(i:Int)<(n:Int)by omega⟩,?_⟩)
 apply a7 Z rfl<;>intro hb Z
 .have hin:i<n:=by
   have:(i:Int)<(n:Int):=by subst O;simpa[std,a8]using hb
   omega
  refine wp_skip (wp_seq (wp_block (wp_seq (rg O a6 [25,5,6,0,1] [0,5,35] [] Z (hob:=?hob) fun X5 _ _ Z=>?_))))
  case hob=>
   intro X;subst O
   repeat(first|exact trivial|refine⟨rfl,?_⟩|refine⟨⟨show(0:Int)<=(i:Int)by omega,show(i:Int)<(n:Int)by omega⟩,?_⟩)
  apply a7 Z rfl<;>intro hb Z
  .have hk:(f i).key≠key:=by subst O;simpa[std,a8]using hb
   refine rg O a6 [5,6,0,1] [0,5,35] [] Z (hob:=?hob) fun X6 _ _ Z=>?_
   case hob=>
    intro X;subst O
    repeat(first|exact trivial|refine⟨⟨rfl,rfl,rfl⟩,?_⟩|refine⟨rfl,?_⟩|refine⟨⟨show(0:Int)<=(i:Int)by omega,show(i:Int)<(n:Int)by omega⟩,?_⟩|refine⟨⟨show q+1<=maxLen by omega,show(q+1)*_<=_ by omega⟩,?_⟩)
   replace Z:=Z.headS (v':=.sl (some 5) ((X6 9).A 0) (B.nadd q 1) ((X6 9).c 0) 2 (fun t=>itC (ft g q (f i) t))) (Sim.resl rfl (fun t ht=>by
    subst O;have ht2:t<q+1:=ht
    show P5 q (fun t=>itC (g t)) (Q4 2 [.int .u64 (f i).key,.str (f i).val]) t=_
    unfold P5 ft
    split
    .rw [if_neg (by omega)]
    have:t=q:=by omega
    subst this;simp[Q4,itC])) rfl
   refine rg O a6 [5,6,0,1] [0,5,35] [] Z fun X4 _ _ Z=>?_
   have e:B.arith .add .i64 (i:Int) 1=((i+1:Nat):Int):=by subst O;exact o4 (n:=n) hin (by omega)
   refine⟨(i+1,q+1,ft g q (f i),_,_),⟨by simp only;omega,by simp only;omega,?_⟩,by simp only;omega,by rw[<-e,show q+1=B.nadd q 1 by subst O;rfl];exact Z⟩
   simp only;rw[fZ,hg,nu,if_neg hk]
  have hk:(f i).key=key:=by subst O;simpa[std,a8]using hb
  refine wp_skip (rg O a6 [5,6,0,1] [0,5,35] [] Z fun X4 _ _ Z=>?_);have e:B.arith .add .i64 (i:Int) 1=((i+1:Nat):Int):=by subst O;exact o4 (n:=n) hin (by omega)
  refine⟨(i+1,q,g,_,_),⟨by simp only;omega,by simp only;omega,?_⟩,by simp only;omega,by rw[<-e];exact Z⟩;simp only;rw[hg,nu,if_pos hk,List.append_nil]
 have hout:i=n:=by
  have:¬(i:Int)<(n:Int):=by subst O;simpa[std,a8]using hb
  omega
 rw[hout]at hg;refine wp_exit (wp_seq (rg O a6 [4] [0,4,5,35] [] Z fun X7 _ _ Z=>?_));refine wp_ret ((rx O a6 Z (⟨0,fun _=>A1,fun _=>c1,fun _=>⟨#[]⟩⟩) [] (he:=?_) (hs:=?_)).1)
 .subst O;exact Sim.resl (by rw[<-hg,i3]) (fun t ht=>by rw[<-hg,i3]at ht;rw[<-hg,u0 _ _ t ht])
 subst O;exact⟨rfl,⟨_,rfl,zl⟩,trivial⟩
def pS(l:List Itm)(key:Int)(val:ByteArray):ByteArray:=if 64<val.size then⟨#[]⟩else aD l key
def pB(l:List Itm)(key:Int)(val:ByteArray):Bool:=if 64<val.size then false else R7 l key
def pE(val:ByteArray):Int:=if 64<val.size then 2 else 0
def uP(f:Nat->Itm)(i:Nat)(x:Itm):Nat->Itm:=fun t=>if t<i then f t else if t=i then x else f (t-1)
theorem rp(f:Nat->Itm)(n i:Nat)(x:Itm)(h:i<=n):b4 (uP f i x) (n+1)=b4 f i++x::(b4 f n).drop i:=by
 apply List.ext_getElem
 .simp [b4];omega
 intro t h1 h2;have ht:t<n+1:=by simpa[b4]using h1
 simp only[b4,List.getElem_map,List.getElem_range,uP]
 by_cases hi:t<i
 .rw [List.getElem_append_left (by simpa using hi)]
  simp[hi]
 rw[List.getElem_append_right (by simp;omega)];obtain⟨q,rfl⟩:∃q,t=i+q:=⟨t-i,by omega⟩
 cases q with
 |zero=>simp
 |succ q=>
  simp only[List.length_map,List.length_range,show i+(q+1)-i=q+1 by omega,List.getElem_cons_succ,List.getElem_drop,List.getElem_map,List.getElem_range];rw[if_neg (by omega),if_neg (by omega)]
  congr 1
theorem zO{l:List Itm}{f1:Nat->Itm}{n1 i:Nat}{key:Int}{val:ByteArray}(hl:b4 f1 n1=l)(hi:i<=n1)(hlt:∀t,t<i->(f1 t).key<key)(hend:i<n1-> ¬(f1 i).key<key) :
  mi l key++⟨key,val⟩::l.drop (mi l key).length=b4 (uP f1 i ⟨key,val⟩) (n1+1):=by
 have hlow:mi l key=b4 f1 i:=by
  rw[<-hl];unfold mi
  by_cases h:i=n1
  .rw [h]at hlt ⊢
   have:=List.takeWhile_append_of_pos (p:=fun x:Itm=>decide (x.key<key)) (l₁:=b4 f1 n1) (l₂:=[]) (fun a ha=>by
    obtain⟨t,ht,rfl⟩:=G1 ha
    simpa using hlt t ht)
   simpa using this
  rw[gX f1 n1 i (by omega),List.takeWhile_append_of_pos (fun a ha=>by
   obtain⟨t,ht,rfl⟩:=G1 ha
   simpa using hlt t ht),List.takeWhile_cons_of_neg (by simpa using hend (by omega))]
  simp
 rw[hlow,i3,rp f1 n1 i _ hi,hl]
theorem wB(l:List Itm)(key:Int)(val:ByteArray):(fJ l key val).length<=l.length+1:=by
 unfold fJ
 split
 .omega
 have h1:=List.length_filter_le (fun x=>!isK key x) l;have h2:(I4 l key).length<=l.length:=h1;have h3:(mi (I4 l key) key).length<=(I4 l key).length:=(List.takeWhile_sublist _).length_le;unfold fL;simp only[List.length_append,List.length_cons,List.length_drop];omega
theorem sE(f:Nat->Itm):∀i,(ofL (b4 f i)).length<=i
 |0=>Nat.le_refl _
 |i+1=>by
  rw[U2];have:=wB (ofL (b4 f i)) (f i).key (f i).val;have:=sE f i;omega
def wR(kd:Int)(n:Nat)(f:Nat->Itm)(nx:Lab)(mk:Int)(key:Int)(val:ByteArray):Rec×Int:=
 if D7 kd n f nx mk=false then(i9,1)else if kd≠1 then(i9,13)else if 64<val.size then(i9,2)else if 16<(fL (b4 f n) key val).length then(i9,12)else(⟨1,fL (b4 f n) key val,nx,0⟩,0)
def oR(kd:Int)(n:Nat)(f:Nat->Itm)(nx:Lab)(mk:Int)(key:Int):Rec×Bool:=
 if(D7 kd n f nx mk&&R7 (b4 f n) key)=true then(⟨kd,I4 (b4 f n) key,nx,mk⟩,true)else(⟨kd,b4 f n,nx,mk⟩,false)
theorem lI:j6 Tryz.prog 51:=fun _ _=>by kernel_rfl
theorem Am(b:Nat)(A:Option Addr)(n c:Nat)(f:Nat->Itm)(hn:n<=1000000)(key:Int)(val:ByteArray):u9 Tryz.prog 51 [.ptr 0 b 0,.int .u64 key,.str val] [(0,⟨b,94,[l6 A n c f]⟩)] (fun x=>⟨.tup [.str (pS (b4 f n) key val),.bool (.v (pB (b4 f n) key val)),.int .i64 (pE val)],[(0,[l6 (x.A 0) (fJ (b4 f n) key val).length (x.c 0) (itF (fJ (b4 f n) key val))])],[]⟩):=by
 intro m w hm hargs hpre;have hmx:maxLen=9223372036854775807:=rfl;have SG:=sK b A n c f hn key;have SW:=wZ b A n c f hn key;unfold l6 at hpre SG SW;obtain⟨l,hl⟩:=eqv (I4 (b4 f n) key);have hln:l.length<=n:=by rw[hl];have:=List.length_filter_le (fun x=>!isK key x) (b4 f n);rw[i3]at this;exact this
 rw[<-hl]at SW;obtain⟨n1,hn1⟩:=eqv (l.length);obtain⟨f1,hf1⟩:=eqv (itF l);rw[<-hn1,<-hf1]at SW;have hl1:b4 f1 n1=l:=by rw[hf1,hn1];exact I3 l
 obtain⟨fs,hfs⟩:=eqv (aD (b4 f n) key);obtain⟨fb,hfb⟩:=eqv (R7 (b4 f n) key);rw[<-hfs,<-hfb]at SG;refine enX 65 hm hpre hargs Tryz.func51 fun B O a0 Z=>?_
 refine wp_seq (rg O a6 [0,1,2] [0] [] Z fun X0 _ _ Z=>?_);refine wp_seq (wp_seq (rg O a6 [16,0,1,2] [0] [] Z fun X1 _ _ Z=>?_));apply a7 Z rfl<;>intro hb Z
 .have hlong:64<val.size:=by
   have:(64:Int)<(val.size:Int):=by subst O;simpa[std,a8]using hb
   omega
  refine wp_seq (rg O a6 [6,7,8] [0] [] Z fun X2 _ _ Z=>?_);refine wp_ret ((rx O a6 Z (⟨0,fun _=>A,fun _=>c,fun _=>⟨#[]⟩⟩) [] (he:=?_) (hs:=?_)).1)
  .subst O;simp only[pS,pB,pE,hlong,if_true]
   exact Sim.tup ⟨zr,Sim.bool rfl,zr,trivial⟩
  subst O;exact⟨rfl,⟨_,rfl,⟨by unfold fJ;rw[if_pos hlong];exact Sim.resl (i3 f n).symm (fun t ht=>by rw[i3]at ht;rw[u0 f n t ht]),trivial⟩⟩,trivial⟩
 have hlong:¬64<val.size:=by
  have:¬(64:Int)<(val.size:Int):=by subst O;simpa[std,a8]using hb
  omega
 refine wp_skip (wp_seq (rg O a6 [0,1,2,9,10] [0] [(2,.x fun _=>⟨.tup [.str fs,.bool (.v fb)],[(0,[.sl none A n c 2 (fun i=>itC (f i))])],[]⟩)] Z (hob:=?hob) fun X3 _ _ Z=>?_))
 case hob=>
  intro X;subst O;exact⟨⟨nq,SG⟩,trivial⟩
 refine wp_seq (rg O a6 [11,0,1,2,9,10] [0] [(2,.x fun x=>⟨.sl none (x.A 0) n1 (x.c 0) 2 (fun i=>itC (f1 i)),[(0,[.sl none A n c 2 (fun i=>itC (f i))])],[]⟩)] Z (hob:=?hob) fun X4 _ _ Z=>?_)
 case hob=>
  intro X;subst O;exact⟨⟨np,SW⟩,trivial⟩
 refine wp_seq (rg O a6 [12,0,1,2,9,10,11] [0,12,45,53,58] [] Z fun X5 _ _ Z=>?_);refine wp_seq (rg O a6 [12,13,0,1,2,9,10,11] [0,12,45,53,58] [] Z fun X6 _ _ Z=>?_);replace Z:=Z.headS (v':=.sl (some 12) none 0 0 2 (fun t=>itC (f1 t))) (zq0) rfl;refine wp_seq (wp_block (l4 (ι:=Nat×Option Addr×Nat) (fun p=>[(12,.sl (some 12) p.2.1 p.1 p.2.2 2 (fun t=>itC (f1 t))),(13,.int .i64 (p.1:Int))]) (fun p=>[]) (fun p=>[(12,⟨p.2.1,p.1,p.2.2,2,62⟩)]) (fun p=>p.1<=n1/\∀t,t<p.1->(f1 t).key<key) (fun p=>n1-p.1) (0,none,0) ⟨Nat.zero_le _,fun t ht=>absurd ht (Nat.not_lt_zero _)⟩ Z ?_))
 rintro⟨i,A1,c1⟩ ⟨hi,hlt⟩ _ _ Z
 try dsimp only at hi
 try dsimp only at hlt
 refine wp_seq (wp_seq (rg O a6 [38,12,13,0,1,2,9,10,11] [0,12,45,53,58] [] Z (hob:=?hob) fun X7 _ _ Z=>?_))
 case hob=>
  intro X;subst O;simp only[b7,Ob.holds,BE.den,List.mem_cons,List.not_mem_nil,or_false,forall_eq_or_imp,forall_eq]
  and_intros<;>first|trivial|(intro h;first|trivial|exact⟨Int.natCast_nonneg _,(of_decide_eq_true h:(i:Int)<(n1:Int))⟩)
 apply a7 Z rfl<;>intro hb Z
 .have h9:(if decide ((i:Int)<(n1:Int))=true then decide ((f1 i).key<key)else false)=true:=by subst O;exact hb
  rw[A5,Bool.and_eq_true,decide_eq_true_eq,decide_eq_true_eq]at h9;have hin:i<n1:=by omega
  have hk:=h9.2;refine wp_skip (wp_block (wp_seq (rg O a6 [12,13,0,1,2,9,10,11] [0,12,45,53,58] [] Z (hob:=?hob) fun X8 _ _ Z=>?_)))
  case hob=>
   intro X;subst O
   repeat(first|exact trivial|refine⟨⟨rfl,rfl,rfl⟩,?_⟩|refine⟨rfl,?_⟩|refine⟨⟨show(0:Int)<=(i:Int)by omega,show(i:Int)<(n1:Int)by omega⟩,?_⟩|refine⟨⟨show i+1<=maxLen by omega,show(i+1)*_<=_ by omega⟩,?_⟩)
  replace Z:=Z.headS (v':=.sl (some 12) ((X8 6).A 0) (B.nadd i 1) ((X8 6).c 0) 2 (fun t=>itC (f1 t))) (Sim.resl rfl (fun t ht=>by
   subst O;have ht2:t<i+1:=ht
   show P5 i (fun t=>itC (f1 t)) (Q4 2 [.int .u64 (f1 i).key,.str (f1 i).val]) t=_
   unfold P5
   split
   .rfl
   .have:t=i:=by omega
    subst this;simp[Q4,itC]
   )) rfl
  refine rg O a6 [12,13,0,1,2,9,10,11] [0,12,45,53,58] [] Z fun X9 _ _ Z=>?_
  have e:B.arith .add .i64 (i:Int) 1=((i+1:Nat):Int):=by subst O;exact o4 (n:=n1) hin (by omega)
  refine⟨(i+1,_,_),⟨by simp only;omega,fun t ht=>?_⟩,by simp only;omega,by rw[<-e,show i+1=B.nadd i 1 by subst O;rfl];exact Z⟩
  by_cases h:t=i
  .rw [h];exact hk
  exact hlt t (by simp only at ht;omega)
 have h9:(if decide ((i:Int)<(n1:Int))=true then decide ((f1 i).key<key)else false)=false:=by subst O;exact hb
 rw[A5]at h9;have hend:i<n1-> ¬(f1 i).key<key:=fun h hk=>by
  rw[decide_eq_true (show(i:Int)<(n1:Int)by omega),decide_eq_true hk]at h9
  cases h9
 have hPL:=zO (val:=val) hl1 hi hlt hend;have hPM:fJ (b4 f n) key val=b4 (uP f1 i ⟨key,val⟩) (n1+1):=by unfold fJ fL;rw[if_neg hlong,<-hl];exact hPL
 refine wp_exit (wp_seq (rg O a6 [12,13,0,1,2,9,10,11] [0,12,45,53,58] [] Z (hob:=?hob) fun X10 _ _ Z=>?_))
 case hob=>
  intro X;subst O
  repeat(first|exact trivial|refine⟨⟨rfl,rfl,rfl⟩,?_⟩|refine⟨rfl,?_⟩|refine⟨⟨show i+1<=maxLen by omega,show(i+1)*_<=_ by omega⟩,?_⟩)
 replace Z:=Z.headS (v':=.sl (some 12) ((X10 5).A 0) (B.nadd i 1) ((X10 5).c 0) 2 (fun t=>itC ((ft f1 i ⟨key,val⟩) t))) (Sim.resl rfl (fun t ht=>by
  subst O;have ht2:t<i+1:=ht
  show P5 i (fun t=>itC (f1 t)) (Q4 2 [.int .u64 key,.str val]) t=_
  unfold P5 ft
  split
  .rw [if_neg (by omega)]
  .have:t=i:=by omega
   subst this;simp[Q4,itC]
  )) rfl
 refine wp_seq (rg O a6 [12,0,9,10] [0,12,45,53,58] [] Z (hob:=?hob) fun X11 _ _ Z=>?_)
 case hob=>
  intro X;subst O
  repeat(first|exact trivial|refine⟨⟨rfl,rfl,rfl⟩,?_⟩|refine⟨⟨show(0:Int)<=(i:Int)by omega,show(i:Int)<=(n1:Int)by omega,Int.le_refl _⟩,?_⟩|refine⟨⟨show i+1+(n1-i)<=maxLen by omega,show(i+1+(n1-i))*_<=_ by omega⟩,?_⟩|refine⟨rfl,?_⟩)
 replace Z:=Z.headS (v':=.sl (some 12) ((X11 4).A 0) (B.nadd (B.nadd i 1) (B.nsub (B.toNat (B.ofNat n1)) (B.toNat (i:Int)))) ((X11 4).c 0) 2 (fun t=>itC (uP f1 i ⟨key,val⟩ t))) (Sim.resl rfl (fun t ht=>by
  subst O;have ht2:t<i+1+((n1:Int).toNat-(i:Int).toNat):=ht
  show P5 (i+1) (fun t=>itC (ft f1 i ⟨key,val⟩ t)) (xF i (fun t=>itC (f1 t))) t=_
  unfold P5 ft uP xF
  by_cases h1:t<i
  .simp [h1,show t<i+1 by omega,show ¬t=i by omega]
  by_cases h2:t=i
  .simp [h2]
  simp[h1,h2,show ¬t<i+1 by omega,show i+(t-(i+1))=t-1 by omega])) rfl
 refine wp_seq (rg O a6 [9,10] [0] [] Z (hob:=?hob) fun X12 _ _ Z=>?_)
 case hob=>
  intro X;subst O
  repeat(first|exact trivial|refine⟨rfl,?_⟩|refine⟨⟨show(0:Int)<=(i:Int)by omega,show(i:Int)<(n:Int)by omega⟩,?_⟩)
 refine wp_seq (rg O a6 [6,7,8] [0] [] Z fun X13 _ _ Z=>?_);refine wp_ret ((rx O a6 Z (⟨0,fun _=>(X11 4).A 0,fun _=>(X11 4).c 0,fun _=>⟨#[]⟩⟩) [] (he:=?_) (hs:=?_)).1)
 .subst O;simp only[pS,pB,pE,hlong,if_false,<-hfs,<-hfb]
  exact zr
 subst O;exact⟨rfl,⟨_,rfl,⟨by rw[hPM];exact Sim.resl (by rw[i3];show i+1+((n1:Int).toNat-(i:Int).toNat)=n1+1;omega) (fun t ht=>by rw[i3]at ht;rw[u0 _ _ t ht]),trivial⟩⟩,trivial⟩
theorem xa(k0:Nat)(b:Nat)(A:Option Addr)(n c:Nat)(f:Nat->Itm)(hn:n<=1000000)(key:Int)(val:ByteArray):u9 Tryz.prog 51 [.ptr k0 b 0,.int .u64 key,.str val] [(k0,⟨b,94,[l6 A n c f]⟩)] (fun x=>⟨.tup [.str (pS (b4 f n) key val),.bool (.v (pB (b4 f n) key val)),.int .i64 (pE val)],[(k0,[l6 (x.A 0) (fJ (b4 f n) key val).length (x.c 0) (itF (fJ (b4 f n) key val))])],[]⟩):=
 (Am b A n c f hn key val).re (by repeat(first|exact trivial|refine⟨Sim.ptr,?_⟩|refine⟨Sim.fn ⟨Sim.ptr,trivial⟩ trivial,?_⟩|refine⟨Sim.fn trivial ⟨Sim.ptr,trivial⟩,?_⟩|refine⟨zr,?_⟩)) rfl (fun x=>⟨rfl,rfl,zr,rfl⟩)
theorem qc:j6 Tryz.prog 52:=fun _ _=>by kernel_rfl
theorem xe(b:Nat)(A:Option Addr)(n c:Nat)(f:Nat->Itm)(hn:n<=1000000)(key:Int):u9 Tryz.prog 52 [.ptr 0 b 0,.int .u64 key] [(0,⟨b,94,[l6 A n c f]⟩)] (fun x=>⟨.tup [.str (aD (b4 f n) key),.bool (.v (R7 (b4 f n) key))],[(0,[l6 (x.A 0) (I4 (b4 f n) key).length (x.c 0) (itF (I4 (b4 f n) key))])],[]⟩):=by
 intro m w hm hargs hpre;have SG:=sK b A n c f hn key;have SW:=wZ b A n c f hn key;unfold l6 at hpre SG SW;obtain⟨l,hl⟩:=eqv (I4 (b4 f n) key);rw[<-hl]at SW ⊢;obtain⟨n1,hn1⟩:=eqv (l.length);obtain⟨f1,hf1⟩:=eqv (itF l);rw[<-hn1,<-hf1]at SW ⊢
 generalize aD (b4 f n) key=fs at SG ⊢
 generalize R7 (b4 f n) key=fb at SG ⊢
 refine enX 22 hm hpre hargs Tryz.func52 fun B O a0 Z=>?_
 refine wp_seq (rg O a6 [0,1] [0] [] Z fun X0 _ _ Z=>?_);refine wp_seq (rg O a6 [0,1,6,7] [0] [(2,.x fun _=>⟨.tup [.str fs,.bool (.v fb)],[(0,[.sl none A n c 2 (fun i=>itC (f i))])],[]⟩)] Z (hob:=?hob) fun X1 _ _ Z=>?_)
 case hob=>
  intro X;subst O;exact⟨⟨nq,SG⟩,trivial⟩
 refine wp_seq (rg O a6 [6,7] [0] [(3,.x fun x=>⟨.sl none (x.A 0) n1 (x.c 0) 2 (fun i=>itC (f1 i)),[(0,[.sl none A n c 2 (fun i=>itC (f i))])],[]⟩)] Z (hob:=?hob) fun X2 _ _ Z=>?_)
 case hob=>
  intro X;subst O;repeat(first|exact trivial|refine⟨rfl,?_⟩|refine⟨⟨np,SW⟩,?_⟩)
 refine wp_seq (rg O a6 [4,5] [0] [] Z fun X3 _ _ Z=>?_);refine wp_ret ((rx O a6 Z (⟨0,fun _=>(X2 3).A 0,fun _=>(X2 3).c 0,fun _=>⟨#[]⟩⟩) [] (hs:=?_)).1);subst O;exact⟨rfl,⟨_,rfl,⟨zr,trivial⟩⟩,trivial⟩
theorem Aq(k0:Nat)(b:Nat)(A:Option Addr)(n c:Nat)(f:Nat->Itm)(hn:n<=1000000)(key:Int):u9 Tryz.prog 52 [.ptr k0 b 0,.int .u64 key] [(k0,⟨b,94,[l6 A n c f]⟩)] (fun x=>⟨.tup [.str (aD (b4 f n) key),.bool (.v (R7 (b4 f n) key))],[(k0,[l6 (x.A 0) (I4 (b4 f n) key).length (x.c 0) (itF (I4 (b4 f n) key))])],[]⟩):=
 (xe b A n c f hn key).re (by repeat(first|exact trivial|refine⟨Sim.ptr,?_⟩|refine⟨Sim.fn ⟨Sim.ptr,trivial⟩ trivial,?_⟩|refine⟨Sim.fn trivial ⟨Sim.ptr,trivial⟩,?_⟩|refine⟨zr,?_⟩)) rfl (fun x=>⟨rfl,rfl,zr,rfl⟩)
theorem gZ:j6 Tryz.prog 50:=fun _ _=>by kernel_rfl
theorem Dg(A:Option Addr)(n c:Nat)(f:Nat->Itm)(hn:n<=1000000):u9 Tryz.prog 50 [l6 A n c f] [] (fun x=>⟨.ptr 6 x.b 0,[],[(6,⟨x.b,94,[l6 (x.A 0) (ofL (b4 f n)).length (x.c 0) (itF (ofL (b4 f n)))]⟩)]⟩):=by
 intro m w hm hargs hpre;have hmx:maxLen=9223372036854775807:=rfl;unfold l6 at hargs;refine enX 26 hm hpre hargs Tryz.func50 fun B O a0 Z=>?_
 refine wp_seq (rg O a6 [0] [] [] Z fun X0 _ _ Z=>?_);refine wp_seq (rg O a6 [3,0] [6] [] Z fun X1 _ _ Z=>?_);replace Z:=Z.memS (cells':=[.sl none none 0 0 2 (fun t=>itC (itF [] t))]) ⟨zq0,trivial⟩;refine wp_seq (wp_seq (rg O a6 [4,0,3] [6] [] Z fun X2 _ _ Z=>?_));refine wp_block (l4 (ι:=Nat×Nat×(Nat->Itm)×Option Addr×Nat) (fun p=>[(4,.int .i64 (p.1:Int))]) (fun p=>[(6,⟨(X1 1).b,94,[.sl none p.2.2.2.1 p.2.1 p.2.2.2.2 2 (fun t=>itC (p.2.2.1 t))]⟩)]) (fun p=>[]) (fun p=>p.1<=n/\p.2.1=(ofL (b4 f p.1)).length/\p.2.2.1=itF (ofL (b4 f p.1))) (fun p=>n-p.1) (0,0,itF [],none,0) ⟨Nat.zero_le _,rfl,rfl⟩ Z ?_)
 rintro⟨i,m1,g,A1,c1⟩ ⟨hi,hm1,hg⟩ _ _ Z
 try dsimp only at hi
 try dsimp only at hm1
 try dsimp only at hg
 refine wp_seq (wp_seq (rg O a6 [10,4,0,3] [6] [] Z fun X3 _ _ Z=>?_));apply a7 Z rfl<;>intro hb Z
 .have hin:i<n:=by
   have:(i:Int)<(n:Int):=by subst O;simpa[std,a8]using hb
   omega
  have hml:m1<=1000000:=by rw[hm1];have:=sE f i;omega
  have hfm:b4 g m1=ofL (b4 f i):=by rw[hg,hm1];exact I3 _
  have SP:=xa 6 (X1 1).b A1 m1 c1 g hml (f i).key (f i).val;unfold l6 at SP;obtain⟨l2,hl2⟩:=eqv (fJ (b4 g m1) (f i).key (f i).val);rw[<-hl2]at SP;obtain⟨n2,hn2⟩:=eqv (l2.length);obtain⟨g2,hg2⟩:=eqv (itF l2);rw[<-hn2,<-hg2]at SP
  generalize pS (b4 g m1) (f i).key (f i).val=ps at SP
  generalize pB (b4 g m1) (f i).key (f i).val=pb at SP
  generalize pE (f i).val=pe at SP
  refine wp_skip (wp_seq (wp_block (drg O a6 [4,0,3] [6] [(11,.x fun x=>⟨.tup [.str ps,.bool (.v pb),.int .i64 pe],[(6,[.sl none (x.A 0) n2 (x.c 0) 2 (fun t=>itC (g2 t))])],[]⟩)] Z (hob:=?hob) fun X5 _ _ Z=>?_)))
  case hob=>
   intro X;subst O
   repeat(first|exact trivial|refine⟨rfl,?_⟩|refine⟨⟨show(0:Int)<=(i:Int)by omega,show(i:Int)<(n:Int)by omega⟩,?_⟩|refine⟨⟨lI,SP⟩,?_⟩)
  refine rg O a6 [4,0,3] [6] [] Z fun X4 _ _ Z=>?_
  have e:B.arith .add .i64 (i:Int) 1=((i+1:Nat):Int):=by subst O;exact o4 (n:=n) hin (by omega)
  refine⟨(i+1,n2,g2,(X5 11).A 0,(X5 11).c 0),⟨by simp only;omega,?_,?_⟩,by simp only;omega,by rw[<-e];exact Z⟩
  .simp only;rw[U2,hn2,hl2,hfm]
  simp only;rw[U2,hg2,hl2,hfm]
 have hout:i=n:=by
  have:¬(i:Int)<(n:Int):=by subst O;simpa[std,a8]using hb
  omega
 rw[hout]at hm1 hg;refine wp_exit (wp_seq (rg O a6 [2] [6] [] Z fun X6 _ _ Z=>?_));refine wp_ret ((rx O a6 Z (⟨(X1 1).b,fun _=>A1,fun _=>c1,fun _=>⟨#[]⟩⟩) [6] (he:=?_) (hs:=?_) (hn:=?_)).1)
 .subst O;exact zr
 .exact trivial
 exact⟨⟨_,rfl,⟨by rw[hg,hm1];exact zr,trivial⟩⟩,fun e he=>(by cases he),(by simp),trivial⟩
theorem zx(A:Option Addr)(n c:Nat)(f:Nat->Itm)(hn:n<=1000000)(kd:Int)(nx:Lab)(mk:Int)(hv:U64 nx.bits)(key:Int)(val:ByteArray):k7 Tryz.prog 139 [F1 A n c f kd nx mk,.int .u64 key,.str val] (fun x=>.tup [bz (x.A 0) (x.c 0) (wR kd n f nx mk key val).1,.int .i64 (wR kd n f nx mk key val).2]):=by
 intro m w hm hargs;have hmx:maxLen=9223372036854775807:=rfl;have SI:=iI A n c f (by omega) kd nx mk hv;unfold F1 l6 at hargs SI;obtain⟨ir,hir⟩:=eqv (D7 kd n f nx mk);rw[<-hir]at SI;refine en 42 hm hargs Tryz.func139 fun B O a0 Z=>?_
 refine wp_seq (rg O a6 [1,2,3,6] [3,6] [] Z fun X0 _ _ Z=>?_);refine wp_seq (wp_seq (rg O a6 [11,1,2,3,6] [3,6] [(1,.r fun _=>.bool (.v ir))] Z (hob:=?hob) fun X1 _ _ Z=>?_))
 case hob=>
  intro X;subst O
  repeat(first|exact trivial|refine⟨rfl,?_⟩|refine⟨fun _=>rfl,?_⟩|refine⟨f7 (Kk:=noK) _ _ _ _,?_⟩|refine⟨fun _=>f7 (Kk:=noK) _ _ _ _,?_⟩|refine⟨⟨M5,SI⟩,?_⟩|refine⟨fun _=>⟨M5,SI⟩,?_⟩)
 apply a7 Z rfl<;>intro hb Z
 .have hb2:B.not ir=true:=hb
  have hirf:ir=false:=by subst O;cases ir<;>first|rfl|(simp[std]at hb2)
  rw[hirf]at hir;have hW:(wR kd n f nx mk key val)=(i9,1):=by unfold wR;rw[<-hir];rfl
  refine wp_seq (rg O a6 [6,7] [6] [] Z (hob:=?hob) fun X2 _ _ Z=>?_)
  case hob=>
   intro X;subst O
   repeat(first|exact trivial|refine⟨rfl,?_⟩|refine⟨fun _=>rfl,?_⟩|refine⟨f7 (Kk:=noK) _ _ _ _,?_⟩|refine⟨fun _=>f7 (Kk:=noK) _ _ _ _,?_⟩)
  refine wp_ret ((rsi O a6 Z (⟨0,fun _=>none,fun _=>0,fun _=>⟨#[]⟩⟩) (he:=?_)));subst O;rw[hW];exact Sim.tup ⟨Sim.agg ⟨zr,zq0,zr,zr,zr,trivial⟩,zr,trivial⟩
 have hb2:B.not ir=false:=hb;have hirt:ir=true:=by subst O;cases ir<;>first|rfl|(simp[std]at hb2)
 rw[hirt]at hir;obtain⟨hkd1,hkd5,hn16,hnl,hok⟩:=E3 hir.symm;refine wp_skip (wp_seq (wp_seq (rg O a6 [15,1,2,3,6] [3,6] [] Z (hob:=?hob) fun X3 _ _ Z=>?_)))
 case hob=>
  intro X;subst O
  repeat(first|exact trivial|refine⟨rfl,?_⟩|refine⟨fun _=>rfl,?_⟩|refine⟨f7 (Kk:=noK) _ _ _ _,?_⟩|refine⟨fun _=>f7 (Kk:=noK) _ _ _ _,?_⟩)
 apply a7 Z rfl<;>intro hb Z
 .have hk:kd≠1:=by subst O;simpa[std,a8]using hb
  have hW:(wR kd n f nx mk key val)=(i9,13):=by unfold wR;rw[<-hir];simp[hk]
  refine wp_seq (rg O a6 [6,7] [6] [] Z (hob:=?hob) fun X4 _ _ Z=>?_)
  case hob=>
   intro X;subst O
   repeat(first|exact trivial|refine⟨rfl,?_⟩|refine⟨fun _=>rfl,?_⟩|refine⟨f7 (Kk:=noK) _ _ _ _,?_⟩|refine⟨fun _=>f7 (Kk:=noK) _ _ _ _,?_⟩)
  refine wp_ret ((rsi O a6 Z (⟨0,fun _=>none,fun _=>0,fun _=>⟨#[]⟩⟩) (he:=?_)));subst O;rw[hW];exact Sim.tup ⟨Sim.agg ⟨zr,zq0,zr,zr,zr,trivial⟩,zr,trivial⟩
 have hk:kd=1:=by subst O;simpa[std,a8]using hb
 refine wp_skip (wp_seq (wp_seq (rg O a6 [19,1,2,3,6] [3,6] [] Z fun X5 _ _ Z=>?_)));apply a7 Z rfl<;>intro hb Z
 .have hlong:64<val.size:=by
   have:(64:Int)<(val.size:Int):=by subst O;simpa[std,a8]using hb
   omega
  have hW:(wR kd n f nx mk key val)=(i9,2):=by unfold wR;rw[<-hir];simp[hk,hlong]
  refine wp_seq (rg O a6 [6,7] [6] [] Z (hob:=?hob) fun X6 _ _ Z=>?_)
  case hob=>
   intro X;subst O
   repeat(first|exact trivial|refine⟨rfl,?_⟩|refine⟨fun _=>rfl,?_⟩|refine⟨f7 (Kk:=noK) _ _ _ _,?_⟩|refine⟨fun _=>f7 (Kk:=noK) _ _ _ _,?_⟩)
  refine wp_ret ((rsi O a6 Z (⟨0,fun _=>none,fun _=>0,fun _=>⟨#[]⟩⟩) (he:=?_)));subst O;rw[hW];exact Sim.tup ⟨Sim.agg ⟨zr,zq0,zr,zr,zr,trivial⟩,zr,trivial⟩
 have hlong:¬64<val.size:=by
  have:¬(64:Int)<(val.size:Int):=by subst O;simpa[std,a8]using hb
  omega
 have SO:=(Dg A n c f hn).re (args':=[l6 A n c f]) (pre':=[]) (res':=fun x=>⟨.ptr 8 x.b 0,[],[(8,⟨x.b,94,[l6 (x.A 0) (ofL (b4 f n)).length (x.c 0) (itF (ofL (b4 f n)))]⟩)]⟩) (zl) rfl (fun x=>⟨rfl,rfl,Sim.ptr,rfl⟩);rw[nX hok n (Nat.le_refl _)]at SO;unfold l6 at SO;obtain⟨n0,hn0⟩:=eqv ((b4 f n).length);obtain⟨g0,hg0⟩:=eqv (itF (b4 f n));rw[<-hn0,<-hg0]at SO;have hn0n:n0=n:=by rw[hn0,i3]
 have hfg:b4 g0 n0=(b4 f n):=by rw[hg0,hn0];exact I3 _
 refine wp_skip (wp_seq (rg O a6 [8,1,2,3,6] [3,6,8] [(2,.x fun x=>⟨.ptr 8 x.b 0,[],[(8,⟨x.b,94,[.sl none (x.A 0) n0 (x.c 0) 2 (fun i=>itC (g0 i))]⟩)]⟩)] Z (hob:=?hob) fun X7 _ _ Z=>?_))
 case hob=>
  intro X;subst O
  repeat(first|exact trivial|refine⟨rfl,?_⟩|refine⟨fun _=>rfl,?_⟩|refine⟨f7 (Kk:=noK) _ _ _ _,?_⟩|refine⟨fun _=>f7 (Kk:=noK) _ _ _ _,?_⟩|refine⟨⟨gZ,SO⟩,?_⟩|refine⟨fun _=>⟨gZ,SO⟩,?_⟩)
 have SP:=xa 8 (X7 2).b ((X7 2).A 0) n0 ((X7 2).c 0) g0 (by omega) key val;unfold l6 at SP;obtain⟨l2,hl2⟩:=eqv (fJ (b4 g0 n0) key val);rw[<-hl2]at SP;obtain⟨n2,hn2⟩:=eqv (l2.length);obtain⟨g2,hg2⟩:=eqv (itF l2);rw[<-hn2,<-hg2]at SP;have hl3:l2=fL (b4 f n) key val:=by rw[hl2,hfg];unfold fJ;rw[if_neg hlong]
 generalize pS (b4 g0 n0) key val=ps at SP
 generalize pB (b4 g0 n0) key val=pb at SP
 generalize pE val=pe at SP
 refine wp_seq (rg O a6 [8,3,6] [3,6,8] [(3,.x fun x=>⟨.tup [.str ps,.bool (.v pb),.int .i64 pe],[(8,[.sl none (x.A 0) n2 (x.c 0) 2 (fun t=>itC (g2 t))])],[]⟩)] Z (hob:=?hob) fun X8 _ _ Z=>?_)
 case hob=>
  intro X;subst O
  repeat(first|exact trivial|refine⟨rfl,?_⟩|refine⟨fun _=>rfl,?_⟩|refine⟨f7 (Kk:=noK) _ _ _ _,?_⟩|refine⟨fun _=>f7 (Kk:=noK) _ _ _ _,?_⟩|refine⟨⟨lI,SP⟩,?_⟩|refine⟨fun _=>⟨lI,SP⟩,?_⟩)
 refine wp_seq (wp_seq (rg O a6 [33,8,3,6] [3,6,8] [] Z (hob:=?hob) fun X9 _ _ Z=>?_))
 case hob=>
  intro X;subst O
  repeat(first|exact trivial|refine⟨rfl,?_⟩|refine⟨fun _=>rfl,?_⟩|refine⟨f7 (Kk:=noK) _ _ _ _,?_⟩|refine⟨fun _=>f7 (Kk:=noK) _ _ _ _,?_⟩)
 apply a7 Z rfl<;>intro hb Z
 .have hfull:16<n2:=by
   have:(16:Int)<(n2:Int):=by subst O;simpa[std,a8]using hb
   omega
  have hW:(wR kd n f nx mk key val)=(i9,12):=by unfold wR;rw[<-hir];simp[hk,hlong];rw[<-hl3,<-hn2];simp[hfull]
  refine wp_seq (rg O a6 [6,7] [6] [] Z (hob:=?hob) fun X10 _ _ Z=>?_)
  case hob=>
   intro X;subst O
   repeat(first|exact trivial|refine⟨rfl,?_⟩|refine⟨fun _=>rfl,?_⟩|refine⟨f7 (Kk:=noK) _ _ _ _,?_⟩|refine⟨fun _=>f7 (Kk:=noK) _ _ _ _,?_⟩)
  refine wp_ret ((rsi O a6 Z (⟨0,fun _=>none,fun _=>0,fun _=>⟨#[]⟩⟩) (he:=?_)));subst O;rw[hW];exact Sim.tup ⟨Sim.agg ⟨zr,zq0,zr,zr,zr,trivial⟩,zr,trivial⟩
 have hfull:¬16<n2:=by
  have:¬(16:Int)<(n2:Int):=by subst O;simpa[std,a8]using hb
  omega
 have hW:(wR kd n f nx mk key val)=(⟨1,l2,nx,0⟩,0):=by unfold wR;rw[<-hir];simp[hk,hlong];rw[<-hl3,<-hn2];simp[hfull]
 refine wp_skip (wp_seq (drg O a6 [6,7] [6] [] Z (hob:=?hob) fun X11 _ _ Z=>?_))
 case hob=>
  intro X;subst O
  repeat(first|exact trivial|refine⟨rfl,?_⟩|refine⟨fun _=>rfl,?_⟩|refine⟨f7 (Kk:=noK) _ _ _ _,?_⟩|refine⟨fun _=>f7 (Kk:=noK) _ _ _ _,?_⟩)
 refine wp_ret ((rsi O a6 Z (⟨0,fun _=>(X8 3).A 0,fun _=>(X8 3).c 0,fun _=>⟨#[]⟩⟩) (he:=?_)));subst O;rw[hW];exact Sim.tup ⟨Sim.agg ⟨zr,Sim.resl hn2 (fun t ht=>by rw[hg2]),zr,zr,zr,trivial⟩,zr,trivial⟩
theorem zw(A:Option Addr)(n c:Nat)(f:Nat->Itm)(hn:n<=1000000)(kd:Int)(nx:Lab)(mk:Int)(hv:U64 nx.bits)(key:Int):k7 Tryz.prog 142 [F1 A n c f kd nx mk,.int .u64 key] (fun x=>.tup [bz (x.A 0) (x.c 0) (oR kd n f nx mk key).1,.bool (.v (oR kd n f nx mk key).2)]):=by
 intro m w hm hargs;have hmx:maxLen=9223372036854775807:=rfl;have SI:=iI A n c f (by omega) kd nx mk hv;have SF:=zH A n c f hn kd nx mk key;unfold F1 l6 at hargs SI SF;obtain⟨ir,hir⟩:=eqv (D7 kd n f nx mk);rw[<-hir]at SI;obtain⟨fb,hfb⟩:=eqv (R7 (b4 f n) key);rw[<-hfb]at SF
 generalize aD (b4 f n) key=fs at SF
 refine en 40 hm hargs Tryz.func142 fun B O a0 Z=>?_
 refine wp_seq (rg O a6 [1,2,4] [2,4] [] Z fun X0 _ _ Z=>?_);refine wp_seq (rg O a6 [1,2,4,7] [2,4] [(2,.r fun _=>.tup [.str fs,.bool (.v fb)])] Z (hob:=?hob) fun X1 _ _ Z=>?_)
 case hob=>
  intro X;subst O
  repeat(first|exact trivial|refine⟨rfl,?_⟩|refine⟨fun _=>rfl,?_⟩|refine⟨f7 (Kk:=noK) _ _ _ _,?_⟩|refine⟨fun _=>f7 (Kk:=noK) _ _ _ _,?_⟩|refine⟨⟨nm,SF⟩,?_⟩|refine⟨fun _=>⟨nm,SF⟩,?_⟩)
 refine wp_seq (wp_seq (rg O a6 [21,1,2,4] [2,4] [(1,.r fun _=>.bool (.v ir))] Z (hob:=?hob) fun X2 _ _ Z=>?_))
 case hob=>
  intro X;subst O
  repeat(first|exact trivial|refine⟨rfl,?_⟩|refine⟨fun _=>rfl,?_⟩|refine⟨f7 (Kk:=noK) _ _ _ _,?_⟩|refine⟨fun _=>f7 (Kk:=noK) _ _ _ _,?_⟩|refine⟨⟨M5,SI⟩,?_⟩|refine⟨fun _=>⟨M5,SI⟩,?_⟩)
 apply a7 Z rfl<;>intro hb Z
 .have h9:(if(!ir)=true then true else !fb)=true:=by subst O;exact hb
  have hW:(oR kd n f nx mk key)=(⟨kd,(b4 f n),nx,mk⟩,false):=by unfold oR;rw[<-hir,<-hfb];cases ir<;>cases fb<;>first|rfl|(simp at h9)
  refine wp_seq (rg O a6 [4,5] [4] [] Z (hob:=?hob) fun X3 _ _ Z=>?_)
  case hob=>
   intro X;subst O
   repeat(first|exact trivial|refine⟨rfl,?_⟩|refine⟨fun _=>rfl,?_⟩|refine⟨f7 (Kk:=noK) _ _ _ _,?_⟩|refine⟨fun _=>f7 (Kk:=noK) _ _ _ _,?_⟩)
  refine wp_ret ((rsi O a6 Z (⟨0,fun _=>A,fun _=>c,fun _=>⟨#[]⟩⟩) (he:=?_)));subst O;rw[hW];exact Sim.tup ⟨Sim.agg ⟨zr,Sim.resl (i3 f n).symm (fun t ht=>by rw[i3]at ht;rw[u0 f n t ht]),zr,zr,zr,trivial⟩,Sim.bool rfl,trivial⟩
 have h9:(if(!ir)=true then true else !fb)=false:=by subst O;exact hb
 have hirt:ir=true:=by cases ir<;>first|rfl|(simp at h9)
 have hfbt:fb=true:=by rw[hirt]at h9;cases fb<;>first|rfl|(simp at h9)
 rw[hirt]at hir;obtain⟨hkd1,hkd5,hn16,hnl,hok⟩:=E3 hir.symm;have hW:(oR kd n f nx mk key)=(⟨kd,I4 (b4 f n) key,nx,mk⟩,true):=by unfold oR;rw[<-hir,<-hfb,hfbt];rfl
 have SO:=(Dg A n c f hn).re (args':=[l6 A n c f]) (pre':=[]) (res':=fun x=>⟨.ptr 8 x.b 0,[],[(8,⟨x.b,94,[l6 (x.A 0) (ofL (b4 f n)).length (x.c 0) (itF (ofL (b4 f n)))]⟩)]⟩) (zl) rfl (fun x=>⟨rfl,rfl,Sim.ptr,rfl⟩);rw[nX hok n (Nat.le_refl _)]at SO;unfold l6 at SO;obtain⟨n0,hn0⟩:=eqv ((b4 f n).length);obtain⟨g0,hg0⟩:=eqv (itF (b4 f n));rw[<-hn0,<-hg0]at SO;have hn0n:n0=n:=by rw[hn0,i3]
 have hfg:b4 g0 n0=(b4 f n):=by rw[hg0,hn0];exact I3 _
 refine wp_skip (wp_seq (rg O a6 [8,1,2,4] [2,4,8] [(2,.x fun x=>⟨.ptr 8 x.b 0,[],[(8,⟨x.b,94,[.sl none (x.A 0) n0 (x.c 0) 2 (fun i=>itC (g0 i))]⟩)]⟩)] Z (hob:=?hob) fun X4 _ _ Z=>?_))
 case hob=>
  intro X;subst O
  repeat(first|exact trivial|refine⟨rfl,?_⟩|refine⟨fun _=>rfl,?_⟩|refine⟨f7 (Kk:=noK) _ _ _ _,?_⟩|refine⟨fun _=>f7 (Kk:=noK) _ _ _ _,?_⟩|refine⟨⟨gZ,SO⟩,?_⟩|refine⟨fun _=>⟨gZ,SO⟩,?_⟩)
 have SP:=Aq 8 (X4 2).b ((X4 2).A 0) n0 ((X4 2).c 0) g0 (by omega) key;unfold l6 at SP;rw[hfg]at SP;obtain⟨l2,hl2⟩:=eqv (I4 (b4 f n) key);rw[<-hl2]at SP hW;obtain⟨n2,hn2⟩:=eqv (l2.length);obtain⟨g2,hg2⟩:=eqv (itF l2);rw[<-hn2,<-hg2]at SP
 generalize aD (b4 f n) key=ps at SP
 generalize R7 (b4 f n) key=pb at SP
 refine wp_seq (rg O a6 [8,2,4] [2,4,8] [(2,.x fun x=>⟨.tup [.str ps,.bool (.v pb)],[(8,[.sl none (x.A 0) n2 (x.c 0) 2 (fun t=>itC (g2 t))])],[]⟩)] Z (hob:=?hob) fun X5 _ _ Z=>?_)
 case hob=>
  intro X;subst O
  repeat(first|exact trivial|refine⟨rfl,?_⟩|refine⟨fun _=>rfl,?_⟩|refine⟨f7 (Kk:=noK) _ _ _ _,?_⟩|refine⟨fun _=>f7 (Kk:=noK) _ _ _ _,?_⟩|refine⟨⟨qc,SP⟩,?_⟩|refine⟨fun _=>⟨qc,SP⟩,?_⟩)
 refine wp_seq (drg O a6 [4,5] [4] [] Z (hob:=?hob) fun X6 _ _ Z=>?_)
 case hob=>
  intro X;subst O
  repeat(first|exact trivial|refine⟨rfl,?_⟩|refine⟨fun _=>rfl,?_⟩|refine⟨f7 (Kk:=noK) _ _ _ _,?_⟩|refine⟨fun _=>f7 (Kk:=noK) _ _ _ _,?_⟩)
 refine wp_ret ((rsi O a6 Z (⟨0,fun _=>(X5 2).A 0,fun _=>(X5 2).c 0,fun _=>⟨#[]⟩⟩) (he:=?_)));subst O;rw[hW];exact Sim.tup ⟨Sim.agg ⟨zr,Sim.resl hn2 (fun t ht=>by rw[hg2]),zr,zr,zr,trivial⟩,Sim.bool rfl,trivial⟩
def fR:Rec:=⟨4,[],B7,0⟩
def upG(g:r9)(x:RA):r9:=⟨0,IntKind.u64.wrap (g.ver+1),true,x⟩
abbrev wA(x:RA)(key:Int)(val:ByteArray):Rec×Int:=wR x.r.kd x.r.n x.r.f x.r.nx x.r.mrk key val
abbrev oA(x:RA)(key:Int):Rec×Bool:=oR x.r.kd x.r.n x.r.f x.r.nx x.r.mrk key
abbrev cA:RA:=⟨none,0,fR.rn⟩
def M7(bk k how key:Int)(val:ByteArray):Nat->Spt->Pst->Rs Rsl
 |0,_,p=>.stop zWq p
 |n+1,x,p=>
   if lB x.g.x key=true \/ (x.g.x.r.n:Int)<bk then
    (N8 k x.lab x.g.ver (wA x.g.x key val).1 p).bind fun d p=>
     if d=true then .ok ⟨0,lB x.g.x key,lA x.g.x key,[],0,false⟩ p else(dR bk k how key n p).bind fun x p=>M7 bk k how key val n x p
   else(N8 k x.lab x.g.ver (asR 3 x.g.x 0).r.abs p).bind fun d p=>
    if d=true then(R3 bk k n x.lab (upG x.g (asR 3 x.g.x 0)) p).bind fun _ p=>(C7 bk k key n x.lab p).bind fun x p=>M7 bk k how key val n x p
    else(dR bk k how key n p).bind fun x p=>M7 bk k how key val n x p
def eE(bk k how key:Int)(val:ByteArray)(n:Nat)(p:Pst):Rs Rsl:=
 if 64<val.size then .ok ⟨2,false,⟨#[]⟩,[],0,false⟩ p else(dR bk k how key n p).bind fun x p=>M7 bk k how key val n x p
def P4(bk k:Int):Nat->Lab->Pst->Rs Unit
 |0,_,p=>.stop zWq p
 |n+1,l,p=>
   if G2 l=0 then(J9 k (F8 l) p).bind fun q p=>if gk q 2=true then(J9 k (cE l) p).bind fun a p=>if gk a 1=true then(J9 k l p).bind fun b p=>
    if gk b 1=true/\(a.x.r.n:Int)+b.x.r.n<=Int.tdiv bk 2 then(N8 k (F8 l) q.ver fR p).bind fun d p=>
     if d=true then(R3 bk k n (F8 l) (upG q cA) p).bind fun _ p=>(J9 k (F8 l) p).bind fun w p=>if gk w 1=true then P4 bk k n (F8 l) p else .ok () p else .ok () p
    else .ok () p else .ok () p else .ok () p
   else .ok () p
def Pst.nt(p:Pst)(x:Nt):Pst:=⟨p.n,p.g,x⟩
def Y1(bk k how key:Int):Nat->Pst->Rs Rsl
 |0,p=>.stop zWq p
 |n+1,p=>(dR bk k how key (n+1) p).bind fun x p=>
   if lB x.g.x key=true then(N8 k x.lab x.g.ver (oA x.g.x key).1 p).bind fun d p=>
    if d=true then(P4 bk k n x.lab (p.nt ⟨0,true,lA x.g.x key⟩)).bind fun _ p=>.ok ⟨0,true,lA x.g.x key,[],0,false⟩ p else Y1 bk k how key n p
   else .ok aJ p
def bJ(J:i5)(k:Int)(p:Pst):Rs Rsl:=if J.kind=4 then eE J.bucket k J.how J.key J.val (p.n+1) p else Y1 J.bucket k J.how J.key (p.n+1) p
def J6(J:i5)(n:Nat)(f:Nat->r9):Wq×Int:=gF (E4 J&&(decide (J.kind=4)||decide (J.kind=5))&&K3 n f) (bJ J (J.budget-n) (mg n f))
theorem gU(bk k how key:Int)(val:ByteArray):∀n x p,Fro p (M7 bk k how key val n x p)
 |0,x,p=>T8 _ _
 |n+1,x,p=>j9 ((l5 _ _ _ _ _).bind fun _ _ _=>j9 (s9 _ _) ((R2 _ _ _ _ _ _).bind fun _ _ _=>gU bk k how key val n _ _))
   ((l5 _ _ _ _ _).bind fun _ _ _=>j9 ((F7 _ _ _ _ _ _).bind fun _ _ _=>(J5 _ _ _ _ _ _).bind fun _ _ _=>gU bk k how key val n _ _) ((R2 _ _ _ _ _ _).bind fun _ _ _=>gU bk k how key val n _ _))
theorem sX(bk k how key:Int)(val:ByteArray)(n:Nat)(p:Pst):Fro p (eE bk k how key val n p):=j9 (s9 _ _) ((R2 _ _ _ _ _ _).bind fun _ _ _=>gU _ _ _ _ _ _ _ _)
theorem kg(bk k:Int):∀n l p,Fro p (P4 bk k n l p)
 |0,l,p=>T8 _ _
 |n+1,l,p=>j9 ((i7 _ _ _).bind fun _ _ _=>j9 ((i7 _ _ _).bind fun _ _ _=>j9 ((i7 _ _ _).bind fun _ _ _=>j9 ((l5 _ _ _ _ _).bind fun _ _ _=>j9 ((F7 _ _ _ _ _ _).bind fun _ _ _=>(i7 _ _ _).bind fun _ _ _=>j9 (kg bk k n _ _) (s9 _ _)) (s9 _ _)) (s9 _ _)) (s9 _ _)) (s9 _ _)) (s9 _ _)
theorem oo(bk k how key:Int):∀n p,Fro p (Y1 bk k how key n p)
 |0,p=>T8 _ _
 |n+1,p=>(R2 _ _ _ _ _ _).bind fun _ _ _=>j9 ((l5 _ _ _ _ _).bind fun _ q _=>j9 (Fro.bind (p:=q) (show Fro (q.nt _) _ from kg _ _ _ _ _) fun _ _ _=>s9 _ _) (oo bk k how key n _)) (s9 _ _)
theorem cz{k:Int}{l:Lab}{v:Int}{r:Rec}{p q:Pst}{d:Bool}(h:N8 k l v r p = .ok d q):q.n<p.n:=by
 unfold N8 at h
 cases h1:U0 k ⟨2,l,v,r,aJ⟩ p with
 |ok g q1=>
  rw[h1]at h;injection h with _ h
  obtain⟨h2,_,rfl⟩:=oS h1;rw[<-h];simp only[Pst.tl];omega
 |stop w q1=>rw[h1]at h;cases h
theorem dy{bk k how key:Int}{val:ByteArray}:∀{n:Nat} {x:Spt} {p q:Pst} {a:Rsl},M7 bk k how key val n x p = .ok a q->a.items=[]
 |0,x,p,q,a,h=>by cases h
 |n+1,x,p,q,a,h=>by
  have B:∀{α : Type} {m:Rs α} {f:α->Pst->Rs Rsl},m.bind f = .ok a q->(∀b r,f b r = .ok a q->a.items=[])->a.items=[]:=fun {α m f} h hf=>by
   cases m with
   |ok b r=>exact hf b r h
   |stop w r=>cases h
  unfold M7 at h
  split at h
  .refine B h fun d r h=>?_
   split at h
   .injection h with h _;rw[<-h]
   exact B h fun _ _ h=>dy h
  refine B h fun d r h=>?_
  split at h
  .exact B h fun _ _ h=>B h fun _ _ h=>dy h
  exact B h fun _ _ h=>dy h
theorem mI{bk k how key:Int}:∀{n:Nat} {p q:Pst} {a:Rsl},Y1 bk k how key n p = .ok a q->a.items=[]
 |0,p,q,a,h=>by cases h
 |n+1,p,q,a,h=>by
  have B:∀{α : Type} {m:Rs α} {f:α->Pst->Rs Rsl},m.bind f = .ok a q->(∀b r,f b r = .ok a q->a.items=[])->a.items=[]:=fun {α m f} h hf=>by
   cases m with
   |ok b r=>exact hf b r h
   |stop w r=>cases h
  unfold Y1 at h;refine B h fun x r h=>?_
  split at h
  .refine B h fun d r h=>?_
   split at h
   .refine B h fun _ _ h=>?_
    injection h with h _;rw[<-h]
   exact mI h
  injection h with h _;rw[<-h];rfl
theorem uO{bk k how key:Int}{val:ByteArray}{n:Nat}{p q:Pst}{a:Rsl}(h:eE bk k how key val n p = .ok a q):a.items=[]:=by
 unfold eE at h
 split at h
 .injection h with h _;rw[<-h]
 cases h2:dR bk k how key n p with
 |ok x r=>rw[h2]at h;exact dy h
 |stop w r=>rw[h2]at h;cases h
theorem ns{J:i5}{k:Int}{p q:Pst}{a:Rsl}(h:bJ J k p = .ok a q):a.items=[]:=by
 unfold bJ at h
 split at h
 .exact uO h
 exact mI h
theorem K8.up{x:RA}(h:K8 x)(g:r9):cW (upG g x):=by
 refine⟨h,?_,?_⟩
 .show (0:Int)<=IntKind.u64.wrap (g.ver+1)
  rw[IntKind.wrap_u64];omega
 show IntKind.u64.wrap (g.ver+1)<_
 rw[IntKind.wrap_u64];omega
theorem jC.lab2{s:Spt}(h:jC s):LOk s.lab:=⟨h.lab.1,h.lab.2⟩
theorem kP:K8 cA:=⟨⟨by decide,by decide⟩,fun i hi=>absurd hi (Nat.not_lt_zero _),by decide⟩
def RA.er(x:RA):RA:=⟨none,0,x.r⟩
def r9.er(g:r9):r9:=⟨g.code,g.ver,g.has,g.x.er⟩
def Pst.er(p:Pst):Pst:=⟨p.n,fun j=>(p.g j).er,p.note⟩
def Rs.er{α : Type}(e:α->α):Rs α->Rs α
 | .ok a p=>.ok (e a) p.er
 | .stop w p=>.stop w p.er
def Fz.er:Fz->Fz
 | .over=>.over
 | .unfit=>.unfit
 | .fr x=>.fr x.er
def Spt.er(s:Spt):Spt:=⟨s.lab,s.g.er⟩
section
variable {α β : Type} {e:α->α} {e2:β->β}
theorem k9{m m':Rs α}{f f':α->Pst->Rs β}(h:m.er e=m')(hf:∀a q,(f a q).er e2=f' (e a) q.er):(m.bind f).er e2=m'.bind f':=by
 subst h
 cases m with
 |ok a p=>exact hf a p
 |stop w p=>rfl
theorem o7{c:Prop} [Decidable c]{x y x' y':Rs α}(hx:x.er e=x')(hy:y.er e=y'):(if c then x else y).er e=if c then x' else y':=by
 split<;>assumption
end
theorem rE(k:Int)(w:Wq)(p:Pst):(U0 k w p).er r9.er=U0 k w p.er:=by
 unfold U0
 by_cases h:0<p.n/\0<(p.n:Int)+k
 .rw [if_pos h,if_pos (show 0<p.er.n/\0<(p.er.n:Int)+k from h)];rfl
 rw[if_neg h,if_neg (show ¬(0<p.er.n/\0<(p.er.n:Int)+k)from h)];rfl
theorem U9(k:Int)(l:Lab)(p:Pst):(J9 k l p).er r9.er=J9 k l p.er:=rE _ _ _
theorem bI(k:Int)(l:Lab)(v:Int)(r:Rec)(p:Pst):(N8 k l v r p).er id=N8 k l v r p.er:=k9 (rE _ _ _) fun _ _=>rfl
theorem EV(k:Int)(l:Lab)(v:Int)(p:Pst):(ie k l v p).er id=ie k l v p.er:=k9 (rE _ _ _) fun _ _=>rfl
theorem ox(k:Int)(l:Lab)(v:Int)(c:Lab)(x:Rec):∀n p,(z7 k l v c x n p).er id=z7 k l v c x n p.er
 |0,p=>rfl
 |n+1,p=>k9 (U9 _ _ _) fun _ _=>o7 rfl (k9 (U9 _ _ _) fun _ _=>o7 (k9 (bI _ _ _ _ _) fun _ _=>o7 rfl (ox k l v c x n _)) rfl)
theorem xJ(k:Int)(n:Nat)(l:Lab)(v:Int)(x:RA)(p:Pst):(u3 k n l v x p).er id=u3 k n l v x.er p.er:=
 o7 (k9 (ox _ _ _ _ _ _ _) fun _ _=>o7 (k9 (ox _ _ _ _ _ _ _) fun _ _=>o7 (k9 (bI _ _ _ _ _) fun _ _=>rfl) rfl) rfl) rfl
theorem rB(k:Int)(l:Lab)(v:Int)(c:Lab):∀n p,(M8 k l v c n p).er Fz.er=M8 k l v c n p.er
 |0,p=>rfl
 |n+1,p=>k9 (U9 _ _ _) fun _ _=>o7 (o7 rfl (k9 (U9 _ _ _) fun _ _=>o7 (k9 (bI _ _ _ _ _) fun _ _=>o7 rfl (rB k l v c n _)) rfl)) rfl
theorem tf(k:Int)(l:Lab)(cl:Lab->Pst->Rs Unit)(h:∀c p,(cl c p).er id=cl c p.er)(c:Lab)(p:Pst):(I0 k l cl c p).er id=I0 k l cl c p.er:=
 k9 (U9 _ _ _) fun _ _=>o7 (k9 (h _ _) fun _ _=>k9 (U9 _ _ _) fun _ _=>o7 (k9 (EV _ _ _ _) fun _ _=>rfl) rfl) rfl
theorem rC(k:Int):∀n l p,(E5 k n l p).er id=E5 k n l p.er
 |0,l,p=>rfl
 |n+1,l,p=>o7 rfl (k9 (tf _ _ _ (rC k n) _ _) fun _ _=>o7 (k9 (tf _ _ _ (rC k n) _ _) fun _ _=>rfl) rfl)
theorem rD(k:Int)(th:Lab->Pst->Rs Unit)(h:∀c p,(th c p).er id=th c p.er)(l:Lab)(v:Int)(p:Pst):(aS k th l v p).er id=aS k th l v p.er:=
 k9 (bI _ _ _ _ _) fun _ _=>o7 (k9 (h _ _) fun _ _=>h _ _) rfl
theorem ER(bk k:Int)(n:Nat)(th:Lab->Pst->Rs Unit)(h:∀c p,(th c p).er id=th c p.er)(l:Lab)(v:Int)(p:Pst):(L9 bk k n th l v p).er id=L9 bk k n th l v p.er:=
 k9 (rB _ _ _ _ _ _) fun a _=>match a with
  | .over=>rfl
  | .unfit=>rD _ _ h _ _ _
  | .fr a=>k9 (rB _ _ _ _ _ _) fun b _=>match b with
   | .over=>rfl
   | .unfit=>rD _ _ h _ _ _
   | .fr b=>o7 (k9 (bI _ _ _ _ _) fun _ _=>o7 (rC _ _ _ _) rfl) (rD _ _ h _ _ _)
theorem xM(bk k:Int)(n:Nat)(th:Lab->Pst->Rs Unit)(h:∀c p,(th c p).er id=th c p.er)(l:Lab)(g:r9)(p:Pst):(dT bk k n th l g p).er id=dT bk k n th l g.er p.er:=
 o7 (xJ _ _ _ _ _ _) (o7 (ER _ _ _ _ h _ _ _) rfl)
theorem ow(bk k:Int):∀n l up p,(de bk k n l up p).er id=de bk k n l up p.er
 |0,l,up,p=>rfl
 |n+1,l,up,p=>by
  unfold de;refine k9 (U9 _ _ _) fun g q=>o7 (k9 (U9 _ _ _) fun q2 p2=>?_) rfl
  have H:=xM bk k n (fun c p=>if G2 c=0 then de bk k n c (F8 c) p else .ok () p) (fun c p=>o7 (ow bk k n c (F8 c) p) rfl) up q2 p2;refine k9 (e:=id) (o7 H rfl) fun _ p3=>?_
  exact o7 (k9 (bI _ _ _ _ _) fun _ _=>o7 rfl (ow bk k n _ _ _)) rfl
theorem rA(bk k:Int)(n:Nat)(l:Lab)(p:Pst):(I6 bk k n l p).er id=I6 bk k n l p.er:=o7 (ow _ _ _ _ _ _) rfl
theorem oz(bk k:Int)(n:Nat)(l:Lab)(g:r9)(p:Pst):(R3 bk k n l g p).er id=R3 bk k n l g.er p.er:=xM _ _ _ _ (rA _ _ _) _ _ _
theorem eK(bk k key:Int):∀n l p,(C7 bk k key n l p).er Spt.er=C7 bk k key n l p.er
 |0,l,p=>rfl
 |n+1,l,p=>k9 (U9 _ _ _) fun _ _=>o7 rfl (o7 (k9 (oz _ _ _ _ _ _) fun _ _=>eK bk k key n _ _) (o7 (eK bk k key n _ _) (o7 (k9 (rA _ _ _ _ _) fun _ _=>eK bk k key n _ _) (o7 (k9 (bI _ _ _ _ _) fun _ _=>eK bk k key n _ _) (eK bk k key n _ _)))))
theorem ES(bk k:Int)(n:Nat)(l:Lab)(p:Pst):(bF bk k n l p).er id=bF bk k n l p.er:=
 o7 (k9 (U9 _ _ _) fun _ _=>o7 (k9 (rA _ _ _ _ _) fun _ _=>rfl) rfl) rfl
theorem ja(bk k key:Int):∀n lo hi p,(D5 bk k key n lo hi p).er Spt.er=D5 bk k key n lo hi p.er
 |0,lo,hi,p=>rfl
 |n+1,lo,hi,p=>o7 (k9 (U9 _ _ _) fun _ _=>o7 rfl (o7 (ja bk k key n _ _ _) (o7 (k9 (oz _ _ _ _ _ _) fun _ _=>ja bk k key n _ _ _) (o7 (k9 (ES _ _ _ _ _) fun _ _=>o7 (ja bk k key n _ _ _) (ja bk k key n _ _ _)) (ja bk k key n _ _ _))))) (eK _ _ _ _ _ _)
theorem oy(bk k how key:Int)(n:Nat)(p:Pst):(dR bk k how key n p).er Spt.er=dR bk k how key n p.er:=o7 (eK _ _ _ _ _ _) (ja _ _ _ _ _ _ _)
theorem zc(r:Rs Rsl):L5 (r.er id)=L5 r:=by cases r<;>rfl
structure Z0(r:Rec):Prop where
 nx:U64 r.next.bits
 few:r.items.length<=16
 key:∀x∈r.items,U64 x.key
structure vt(w:Wq):Prop where
 lab:LOk w.lab
 r:Z0 w.r
def Q7{α : Type}(r:Rs α):Prop:=match r with
 | .ok _ _=>True
 | .stop w _=>vt w
theorem L7:Z0 i9:=⟨⟨by decide,by decide⟩,by decide,fun x hx=>by cases hx⟩
theorem wt:Z0 eF:=⟨⟨by decide,by decide⟩,by decide,fun x hx=>by cases hx⟩
theorem K8.ro{x:RA}(h:K8 x):Z0 x.r.abs:=by
 refine⟨h.nx,?_,fun y hy=>?_⟩
 .show (b4 x.r.f x.r.n).length<=16
  rw[i3];exact h.few
 obtain⟨i,hi,rfl⟩:=List.mem_map.1 hy;exact h.key i (List.mem_range.1 hi)
theorem dL:vt zWq:=⟨R5,L7⟩
theorem j4{α β : Type}{m:Rs α}{f:α->Pst->Rs β}(h:Q7 m)(hf:∀a q,m = .ok a q->Q7 (f a q)):Q7 (m.bind f):=by
 cases m with
 |ok a q=>exact hf a q rfl
 |stop w q=>exact h
theorem j7{α : Type}{c:Prop} [Decidable c]{x y:Rs α}(hx:c->Q7 x)(hy:¬c->Q7 y):Q7 (if c then x else y):=by
 by_cases h:c
 .rw [if_pos h];exact hx h
 rw[if_neg h];exact hy h
theorem nK{k:Int}{w:Wq}{p:Pst}(h:vt w):Q7 (U0 k w p):=by
 unfold U0;refine j7 (fun _=>trivial) (fun _=>?_)
 show vt _
 split
 .exact ⟨R5,L7⟩
 exact h
theorem L3{k:Int}{l:Lab}{p:Pst}(h:LOk l):Q7 (J9 k l p):=nK ⟨h,L7⟩
theorem V9{k:Int}{l:Lab}{v:Int}{r:Rec}{p:Pst}(h:LOk l)(hr:Z0 r):Q7 (N8 k l v r p):=j4 (nK ⟨h,hr⟩) fun _ _ _=>trivial
theorem yQ{k:Int}{l:Lab}{v:Int}{p:Pst}(h:LOk l):Q7 (ie k l v p):=j4 (nK ⟨h,L7⟩) fun _ _ _=>trivial
theorem ku{k:Int}{l:Lab}{v:Int}{c:Lab}{x:Rec}(hl:LOk l)(hc:LOk c)(hx:Z0 x):∀n p,Q7 (z7 k l v c x n p)
 |0,p=>dL
 |n+1,p=>by
  unfold z7;refine j4 (L3 hc) fun g p1 _=>j7 (fun _=>trivial) fun _=>j4 (L3 hl) fun q p2 _=>j7 (fun _=>?_) fun _=>trivial
  exact j4 (V9 hc hx) fun d p3 _=>j7 (fun _=>trivial) fun _=>ku hl hc hx n p3
theorem tA{l:Lab}{its:List Itm}{x:Itm}(h:x∈K2 l its):x∈its:=(List.mem_filter.1 h).1
theorem yq(l:Lab)(its:List Itm):(K2 l its).length<=its.length:=List.length_filter_le _ _
theorem sW{x:RA}{l:Lab}(h:K8 x)(hl:LOk l):Z0 (R6 x l).1/\Z0 (R6 x l).2.1:=by
 have hr:=h.ro;unfold R6 J4
 split
 .exact ⟨L7,L7⟩
 split
 .exact ⟨L7,L7⟩
 split
 .exact ⟨L7,L7⟩
 rename_i h64
 refine⟨⟨dD hl.isl hl.u h64 1,Nat.le_trans (yq _ _) hr.few,fun y hy=>hr.key y (tA hy)⟩,⟨h.nx,Nat.le_trans (yq _ _) hr.few,fun y hy=>hr.key y (tA hy)⟩⟩
theorem DE{x y:RA}(h:K8 x)(h':K8 y):Z0 (cZ x y).1:=by
 have hr:=h.ro;have hr':=h'.ro;unfold cZ bS
 split
 .exact L7
 split
 .exact L7
 split
 .exact L7
 split
 .exact L7
 rename_i h16
 refine⟨h'.nx,?_,fun z hz=>?_⟩
 .show (b4 x.r.f x.r.n++b4 y.r.f y.r.n).length<=16
  rw[List.length_append,i3,i3];omega
 rcases List.mem_append.1 hz with hz|hz
 .exact hr.key z hz
 exact hr'.key z hz
theorem tQ{k:Int}{n:Nat}{l:Lab}{v:Int}{x:RA}{p:Pst}(hl:LOk l)(hx:K8 x):Q7 (u3 k n l v x p):=by
 unfold u3;refine j7 (fun _=>?_) fun _=>trivial
 refine j4 (ku hl (hl.ch 0) (sW hx hl).1 n p) fun go p1 _=>j7 (fun _=>?_) fun _=>trivial
 refine j4 (ku hl (hl.ch 1) (sW hx hl).2 n p1) fun go p2 _=>j7 (fun _=>?_) fun _=>trivial
 exact j4 (V9 hl wt) fun _ _ _=>trivial
theorem nH{k:Int}{l:Lab}{v:Int}{c:Lab}(hl:LOk l)(hc:LOk c):∀n p,f8 p->Q7 (M8 k l v c n p)
 |0,p,_=>dL
 |n+1,p,hp=>by
  unfold M8;refine j4 (L3 hc) fun g p1 e1=>j7 (fun _=>j7 (fun _=>trivial) fun _=>?_) fun _=>trivial
  have hp1:=hp.suf ((i7 k c p).of e1);refine j4 (L3 hl) fun q p2 e2=>j7 (fun _=>?_) fun _=>trivial
  have hp2:=hp1.suf ((i7 k l p1).of e2);refine j4 (V9 hc ((hp.get e1).ra.as 5 v).ro) fun d p3 e3=>j7 (fun _=>trivial) fun _=>?_
  exact nH hl hc n p3 (hp2.suf ((l5 _ _ _ _ _).of e3))
theorem pd{k:Int}{l:Lab}{cl:Lab->Pst->Rs Unit}{c:Lab}(hl:LOk l)(hc:LOk c)(hcl:∀c p,LOk c->Q7 (cl c p))(p:Pst):Q7 (I0 k l cl c p):=by
 unfold I0;refine j4 (L3 hc) fun g p1 _=>j7 (fun _=>?_) fun _=>trivial
 refine j4 (hcl c p1 hc) fun _ p2 _=>j4 (L3 hl) fun q p3 _=>j7 (fun _=>?_) fun _=>trivial
 exact j4 (yQ hc) fun _ _ _=>trivial
theorem nI{k:Int}:∀(n:Nat) (l:Lab) (p:Pst),LOk l->Q7 (E5 k n l p)
 |0,l,p,_=>dL
 |n+1,l,p,hl=>by
  unfold E5;refine j7 (fun _=>trivial) fun _=>j4 (pd hl (hl.ch 0) (fun c p hc=>nI n c p hc) p) fun go p1 _=>j7 (fun _=>?_) fun _=>trivial
  exact j4 (pd hl (hl.ch 1) (fun c p hc=>nI n c p hc) p1) fun _ _ _=>trivial
theorem nJ{k:Int}{th:Lab->Pst->Rs Unit}{l:Lab}{v:Int}(hl:LOk l)(hth:∀c p,LOk c->f8 p->Q7 (th c p))(hfr:∀c p,Fro p (th c p)){p:Pst}(hp:f8 p):Q7 (aS k th l v p):=by
 unfold aS;refine j4 (V9 hl wt) fun d p1 e1=>j7 (fun _=>?_) fun _=>trivial
 have hp1:=hp.suf ((l5 _ _ _ _ _).of e1);exact j4 (hth _ _ (hl.ch 0) hp1) fun _ p2 e2=>hth _ _ (hl.ch 1) (hp1.suf ((hfr _ _).of e2))
theorem yO{bk k:Int}{n:Nat}{th:Lab->Pst->Rs Unit}{l:Lab}{v:Int}(hl:LOk l)(hth:∀c p,LOk c->f8 p->Q7 (th c p))(hfr:∀c p,Fro p (th c p)){p:Pst}(hp:f8 p):Q7 (L9 bk k n th l v p):=by
 unfold L9;refine j4 (nH hl (hl.ch 0) n p hp) fun a p1 e1=>?_
 have hp1:=hp.suf ((aQ _ _ _ _ _ _).of e1)
 cases a with
 |over=>trivial
 |unfit=>exact nJ hl hth hfr hp1
 |fr a=>
  refine j4 (nH hl (hl.ch 1) n p1 hp1) fun b p2 e2=>?_
  have hp2:=hp1.suf ((aQ _ _ _ _ _ _).of e2)
  cases b with
  |over=>trivial
  |unfit=>exact nJ hl hth hfr hp2
  |fr b=>
   refine j7 (fun _=>?_) fun _=>nJ hl hth hfr hp2
   exact j4 (V9 hl (DE (fY hp e1) (fY hp1 e2))) fun d p3 _=>j7 (fun _=>nI n l p3 hl) fun _=>trivial
theorem se{bk k:Int}{n:Nat}{th:Lab->Pst->Rs Unit}{l:Lab}{g:r9}(hl:LOk l)(hg:cW g)(hth:∀c p,LOk c->f8 p->Q7 (th c p))(hfr:∀c p,Fro p (th c p)){p:Pst}(hp:f8 p):Q7 (dT bk k n th l g p):=by
 unfold dT;exact j7 (fun _=>tQ hl hg.ra) fun _=>j7 (fun _=>yO hl hth hfr hp) fun _=>trivial
theorem pT(bk k:Int)(n:Nat)(c:Lab)(p:Pst):Fro p (if G2 c=0 then de bk k n c (F8 c) p else .ok () p:Rs Unit):=j9 (gS _ _ _ _ _ _) (s9 _ _)
theorem kt{bk k:Int}:∀(n:Nat) (l up:Lab) (p:Pst),LOk l->LOk up->f8 p->Q7 (de bk k n l up p)
 |0,l,up,p,_,_,_=>dL
 |n+1,l,up,p,hl,hu,hp=>by
  unfold de;refine j4 (L3 hl) fun g p1 e1=>j7 (fun _=>?_) fun _=>trivial
  have hp1:=hp.suf ((i7 _ _ _).of e1);refine j4 (L3 hu) fun q p2 e2=>?_
  have hp2:=hp1.suf ((i7 _ _ _).of e2);refine j4 (j7 (fun _=>se hu (hp1.get e2) (fun c p hc hp=>show Q7 (if G2 c=0 then de bk k n c (F8 c) p else .ok () p:Rs Unit)from j7 (fun _=>kt n c (F8 c) p hc hc.par hp) fun _=>trivial) (pT bk k n) hp2) fun _=>trivial) fun _ p3 e3=>j7 (fun _=>?_) fun _=>trivial
  have hp3:=hp2.suf (Fro.of (j9 (ot _ _ _ _ (pT bk k n) _ _ _) (s9 _ _)) e3);refine j4 (V9 hl ((hp.get e1).ra.as 1 0).ro) fun d p4 e4=>j7 (fun _=>trivial) fun _=>?_
  exact kt n l up p4 hl hu (hp3.suf ((l5 _ _ _ _ _).of e4))
theorem nF{bk k:Int}{n:Nat}{l:Lab}{p:Pst}(hl:LOk l)(hp:f8 p):Q7 (I6 bk k n l p):=j7 (fun _=>kt n l _ p hl hl.par hp) fun _=>trivial
theorem jO{bk k:Int}{n:Nat}{l:Lab}{g:r9}{p:Pst}(hl:LOk l)(hg:cW g)(hp:f8 p):Q7 (R3 bk k n l g p):=se hl hg (fun c p hc hp=>nF hc hp) (E7 _ _ _) hp
theorem vC{r:Rs Rsl}(h:Q7 r):vt (L5 r).1:=by
 cases r with
 |ok a p=>
  unfold L5;simp only
  split
  .exact dL
  exact⟨R5,L7⟩
 |stop w p=>
  unfold L5;simp only
  split
  .exact dL
  exact h
end Go.Proofs.YtodelmejfpkicaaGreat.Sym
namespace Go.Proofs.YtodelmejfpkicaaGreat.Sym
open Go Go.RowKit
namespace Cl
theorem ml:bR Tryz.prog 33 62 2 24 (.agg #[.int .u64 0,.string ⟨#[]⟩]):=⟨by kernel_rfl,by kernel_rfl,rfl,by decide⟩
def C8(x:Itm):List Value:=[.int .u64 x.key,.string x.val]
theorem F2(x:Itm):(C8 x).length=2:=rfl
theorem jU{m:Nat->Nat->Prop}{w:World}{A:Option Addr}{k:Nat}{l:List Itm}(hl:l.length<=k)(hk:k<=maxLen)(hs:∀x∈l,x.val.size<=maxLen)
  (h:0<(l.flatMap C8).length->∃b off,A=some ⟨b,off,none⟩/\∀j u,(l.flatMap C8)[j]? = some u->w.cell? ⟨b,off+j,none⟩=some u/\¬m b (off+j)):Ok m w (l6 A l.length k (itF l)):=by
 have hg:∀i (hi:i<l.length),itF l i=l[i]:=fun i hi=>by simp[itF,List.getD,hi]
 have hpos:∀i,i<l.length->0<(l.flatMap C8).length:=fun i hi=>by rw[G7 F2];omega
 refine .sl _ _ _ _ _ _ hl hk (fun i _=>rfl) (fun i hi=>?_) (fun i hi j u hu=>?_) (fun i hi v hv=>?_) (fun i hi v hv=>?_)
 .obtain ⟨b,off,hA,_⟩:=h (hpos i hi);exact⟨b,off,hA⟩
 .obtain ⟨b,off,hA,hc⟩:=h (hpos i hi)
  have hu':(C8 (itF l i))[j]? = some u:=hu;rw[hg i hi]at hu';exact⟨b,off,hA,hc _ u (gW F2 (List.getElem?_eq_getElem hi) hu')⟩
 .simp only[itC,List.mem_cons,List.not_mem_nil,or_false]at hv
  rcases hv with rfl|rfl<;>rfl
 simp only[itC,List.mem_cons,List.not_mem_nil,or_false]at hv
 rcases hv with rfl|rfl
 .exact .int _ _
 exact .str _ (by rw[hg i hi];exact hs _ (List.getElem_mem hi))
variable {H:Type} {enc:TypeId×Value->H} {w:World} {base:Nat} {spare:Nat->Bool} {held:Bool}
theorem cN(x:Itm):∀v∈C8 x,v.oneCell'=true:=by
 intro v hv;simp only[C8,List.mem_cons,List.not_mem_nil,or_false]at hv
 rcases hv with rfl|rfl<;>rfl
theorem eh(l:List Itm):j8 (fun i=>itC (itF l i)) l.length=l.flatMap C8:=by
 have key:∀n,n<=l.length->j8 (fun i=>itC (itF l i)) n=(l.take n).flatMap C8:=by
  intro n
  induction n with
  |zero=>intro _;simp[j8]
  |succ n ih=>
   intro h;rw[J3,ih (by omega),List.take_succ_eq_append_getElem (by omega),List.flatMap_append];simp[itF,List.getD,List.getElem?_eq_getElem (show n<l.length by omega)];rfl
 have:=key l.length (Nat.le_refl _)
 rwa[List.take_length]at this
theorem cM{m:Nat->Nat->Prop}{w:World}{A:Option Addr}{c:Nat}{l:List Itm}(h:Ok m w (l6 A l.length c (itF l))):T2 C8 w w.heap.size A l:=by
 have:=cF h;rw[eh]at this;exact this
theorem eC{m:Nat->Nat->Prop}{w:World}{A:Option Addr}{c:Nat}{l:List Itm}(h:Ok m w (l6 A l.length c (itF l))):∀x∈l,x.val.size<=maxLen:=by
 intro x hx;obtain⟨i,hi,rfl⟩:=List.mem_iff_getElem.1 hx
 cases h with
 |sl _ _ _ _ _ _ h1 h2 h3 h4 h5 h6 h7=>
  have:=h7 i hi (.str (itF l i).val) (by simp[itC])
  cases this with|str _ h=>simpa[itF,List.getD,hi]using h
theorem gB{m:Nat->Nat->Prop}{w:World}{B:Nat}{e:TypeId}{A:Option Addr}{n c:Nat}{l:List Itm}(h:ma C8 2 w B e (.slice A n c) l)(hm:∀b o,m b o->b<B)(hs:∀x∈l,x.val.size<=maxLen):Ok m w (l6 A l.length c (itF l)):=by
 obtain⟨A',c',he,h1,h2⟩:=Own.isSlice h;injection he with e1 e2 e3;subst e3;subst e2
 refine jU h1 h2 hs fun hp=>?_
 rw[G7 F2]at hp;obtain⟨b,hA,hb⟩:=L8 h (by omega);refine⟨b,0,hA,fun j u hu=>⟨by rw[Nat.zero_add];exact M4 h hb j u hu,fun hmm=>?_⟩⟩;have:=(Own.lt h b hb).1;have:=hm _ _ hmm;omega
theorem iq(w:World)(A:Option Addr)(k:Nat)(l:List Itm)(hr:T2 C8 w w.heap.size A l)(hl:l.length<2147483000) :
  Calls Tryz.prog 88 #[.slice A l.length k] w fun e w'=>∃v',e = .returned v'/\ma C8 2 w' w.heap.size 62 v' l/\Below w.heap.size w w':=by
 have hq:∀(A:Option Addr) (n k:Nat) (w:World),(binOp .eql 33 (.slice A n k) (.slice none 0 0)).run Tryz.prog w = .ok (.bool A.isNone) w:=fun A n k w=>Go.Lib.run_eql_slice_nil w _ _ A n k 0 0 Tryz.underlying33
 cases A with
 |none=>
  obtain rfl:l=[]:=by
   refine List.eq_nil_of_length_eq_zero (Nat.eq_zero_of_not_pos fun h=>?_);obtain⟨b,off,he,_⟩:=hr.at_ (k:=2) F2 (by decide) h
   cases he
  clear hr
  go_enter Tryz.func88,Tryz.ntmps88
  go_wp2_with fail
  go_ret
  exact⟨_,rfl,Own.nil _ _ _ _ _,Below.refl _ _⟩
 |some a=>
  obtain⟨W1,hW1⟩:=eqv (w.alloc (.cells #[] 62));have hb1:Below w.heap.size w W1:=by rw[hW1];exact(Below.refl _ _).alloc (Nat.le_refl _) _
  obtain⟨v',w',hr',hO,hG,hv⟩:=bw (P:=Tryz.prog) ml 33 (Own.nil W1 w.heap.size 62 2 (some ⟨w.heap.size,0,none⟩)) (some a) l.length k (l.flatMap C8) (G7 F2 l) (hr.below hb1) (gV cN l) (by simp only[maxLen];omega) (by omega) hb1.size;rw[Nat.zero_add,List.nil_append]at hO;have HO:Hid (ma C8 2 w' w.heap.size 62 v' l/\Below w.heap.size w w'):=⟨hO,hb1.grown hG hb1.size fun g hg=>by simp[o6]at hg⟩;rw[hW1]at hr';clear hO hG hv hb1 hW1
  go_enter Tryz.func88,Tryz.ntmps88
  go_wp2_with (at_builtin;refine F5 hr' rfl (.tmp 5) (.tmp 6) rfl rfl rfl rfl ?_)
  go_ret
  exact⟨_,rfl,HO.out⟩
theorem oJ(A:Option Addr)(c:Nat)(l:List Itm)(hs:l.length<2147483000):k7 Tryz.prog 88 [l6 A l.length c (itF l)] (fun y=>l6 (y.A 0) l.length (y.c 0) (itF l)):=by
 intro m w hm ha;have h1:=ha (l6 A l.length c (itF l)) (by simp);refine(iq w A c l (cM h1) hs).mono ?_
 rintro e w' ⟨v',rfl,ho,hb⟩
 obtain⟨A',c',rfl,_,_⟩:=Own.isSlice ho;exact⟨⟨0,fun _=>A',fun _=>c',fun _=>⟨#[]⟩⟩,rfl,gB ho hm (eC h1),hb⟩
theorem clone_sf(A:Option Addr)(n c:Nat)(f:Nat->Itm)(hs:n<2147483000):k7 Tryz.prog 88 [l6 A n c f] (fun y=>l6 (y.A 0) n (y.c 0) f):=by
 have h:=oJ A c (b4 f n) (by rw[i3];exact hs);have e:∀A c,Sim (l6 A (b4 f n).length c (itF (b4 f n))) (l6 A n c f):=fun A c=>Sim.resl (i3 f n) fun t ht=>by rw[u0 f n t ht]
 have e':∀A c,Sim (l6 A n c f) (l6 A (b4 f n).length c (itF (b4 f n))):=fun A c=>Sim.resl (i3 f n).symm fun t ht=>by rw[i3]at ht;rw[u0 f n t ht]
 intro m w hm ha;have h2:k7 Tryz.prog 88 [l6 A n c f] (fun y=>l6 (y.A 0) (b4 f n).length (y.c 0) (itF (b4 f n))):=h.sim ⟨e' A c,trivial⟩;refine(h2 m w hm ha).mono ?_
 rintro en w' ⟨x,rfl,hok,hb⟩
 exact⟨x,by rw[(e (x.A 0) (x.c 0)).1],(e (x.A 0) (x.c 0)).2.2 _ _ hok,hb⟩
end Cl
end Go.Proofs.YtodelmejfpkicaaGreat.Sym
namespace Go.Proofs.YtodelmejfpkicaaGreat.Sym
open Go Go.RowKit
theorem xQ:j6 Tryz.prog 68:=fun _ _=>by kernel_rfl
theorem CZ(x:RA)(hn:x.r.n<=1000000):k7 Tryz.prog 68 [C6 x] (fun y=>C6 ⟨y.A 0,y.c 0,x.r⟩):=by
 intro m w hm hargs;have S:=Cl.clone_sf x.A x.r.n x.c x.r.f (by omega);simp only[l6]at S;refine en 8 hm hargs Tryz.func68 fun B O a0 Z=>?_
 refine wp_seq (rg O a6 [1,2] [1,2] [] Z fun X0 _ _ Z=>?_);have O1:=S;refine wp_seq (rg O a6 [1,2] [1,2] [(2,.r fun y=>.sl none (y.A 0) x.r.n (y.c 0) 2 (fun t=>itC (x.r.f t)))] Z fun X1 _ _ Z=>?_);refine wp_seq (rg O a6 [2] [2] [] Z fun X2 _ _ Z=>?_);refine wp_ret ((rsi O a6 Z (⟨0,fun _=>(X1 2).A 0,fun _=>(X1 2).c 0,fun _=>⟨#[]⟩⟩) (he:=?_)));subst O;exact zr
theorem xT:j6 Tryz.prog 22:=fun _ _=>by kernel_rfl
theorem De(A:Option Addr)(n c:Nat)(f:Nat->G6)(hn:n<=maxLen)(hN:∀i,i<n->(f i).x.r.n<=1000000/\B2 (f i).lab/\U64 (f i).lab.bits/\U64 (f i).x.r.nx.bits):P3 Tryz.prog 22 [jl A n c f] [] none noK (fun y=>(match dS (I2 f n)with|none=>⟨.tup [.nilp,.int .i64 1],[],[]⟩|some L=>⟨.tup [.ptr 14 y.b 0,.int .i64 0],[],[(14,⟨y.b,113,[.raw (.map (some (y.c 0))),.int .i64 0]⟩)]⟩)) (fun N y=>(match dS (I2 f n)with|none=>noK|some L=>shF N (y.c 0) L)):=by
 intro m w hm hargs hpre hI;have hmx:maxLen=9223372036854775807:=rfl;refine enM (bo:=none) 58 hm hpre hI hargs Tryz.func22 fun B O a0 Z=>?_
 refine wp_seq (rg O a6 [0] [] [] Z fun X0 a0 w1 Z=>?_);refine wp_seq (wp_seq (rg O a6 [11,0] [] [] Z fun X1 a0 w1 Z=>?_));apply a7 Z rfl<;>intro hb Z
 .have hbig:2000<n:=by
   have:(2000:Int)<(n:Int):=by subst O;simpa[std,a8]using hb
   omega
  have hW:dS (I2 f n)=none:=by unfold dS;rw[if_pos (by rw[R0];exact hbig)]
  refine wp_seq (rg O a6 [2,3] [14] [] Z fun X2 a0 w1 Z=>?_);refine wp_ret ((rm O a6 Z (⟨0,fun _=>none,fun _=>0,fun _=>⟨#[]⟩⟩) [] (he:=?_) (hs:=?_) (hn:=?_) (hJ:=?_)).1)
  .subst O;simp only[hW];exact zr
  .simp only[hW];exact trivial
  .simp only[hW];exact trivial
  simp only[hW];exact fun _ _ _=>trivial
 have hbig:n<=2000:=by
  have:¬(2000:Int)<(n:Int):=by subst O;simpa[std,a8]using hb
  omega
 have hS:dS (I2 f n)=ew (I2 f n) []:=by unfold dS;rw[if_neg (by rw[R0];omega)]
 refine wp_skip (wp_seq (wp_region_lit (jr (k:=24) (e:=0) rfl rfl rfl rfl Z (Nat.le_of_ble_eq_true rfl) (shK w1.heap.size []) (fun m w' _ _ hM=>⟨_,fun _=>(none,0),ShD.empty hM _⟩) ?_)));obtain⟨bM,hbM⟩:=eqv (w1.heap.size);rw[<-hbM];intro a0 w1 hfresh Z;have hbfr:w.heap.size<=bM:=hfresh;refine lnd 1 O a6 [4,0] [14] [] Z fun X3 a0 w1 Z=>?_
 refine wp_seq (wp_seq (rg O a6 [17,16,15,4] [14] [] Z fun X4 a0 w1 Z=>?_));refine wp_block (eW (ι:=Nat×Shf) (fun p=>shK bM p.2) (fun p=>[(17,.int .i64 (p.1:Int))]) (fun p=>[]) (fun p=>[]) (fun p=>p.1<=n/\p.2.length<=p.1/\ew (I2 f n) []=ew ((I2 f n).drop p.1) p.2) (fun p=>n-p.1) (0,[]) ⟨Nat.zero_le _,Nat.le_refl _,rfl⟩ Z ?_)
 rintro⟨i,L⟩ ⟨hi,hk,hnew⟩ a0 w1 Z
 try dsimp only at hi
 try dsimp only at hk
 try dsimp only at hnew
 replace Z:=Z.withK (K':=shK bM L) Z.kept;refine wp_seq (rg O a6 [18,17,16,15,4] [14] [] Z fun X5 a0 w1 Z=>?_);refine wp_seq (a7 Z rfl (fun hb Z=>?_) (fun hb Z=>?_))
 .have hin:i<n:=by
   have:(i:Int)<(n:Int):=by subst O;simpa[std,a8]using hb
   omega
  obtain⟨hN1,hN2,hN3,hN4⟩:=hN i hin;have S2:=fx (f i).lab hN3;have S3:=eD (f i).x.A (f i).x.r.n (f i).x.c (f i).x.r.f (by omega) (f i).x.r.kd (f i).x.r.nx (f i).x.r.mrk hN4;rw[<-gL]at S3;simp only[f4,F1,l6]at S2 S3;obtain⟨il,hil⟩:=eqv (isL (f i).lab);obtain⟨ir,hir⟩:=eqv (isR (f i).x.r.abs);rw[<-hil]at S2;rw[<-hir]at S3;have hstep:=uC (f:=f) (L:=L) hin;rw[<-hil,<-hir]at hstep;refine wp_skip (wp_seq (wp_block (wp_seq ?_)));refine rg O a6 [6,17,16,15,4] [6,14] [] Z (hob:=by intro X;subst O;simp only[b7,Ob.holds,BE.den]<;>and_intros<;>repeat first|trivial|rfl|exact(show(0:Int)<=(i:Int)by omega)|exact(show(i:Int)<(n:Int)by omega)|exact(fun _ _=>by kernel_rfl)|refine⟨?_,?_⟩|intro h|exact Int.le_refl _|decide|omega) fun X6 a0 w1 Z=>?_
  replace Z:=Z.memS (cells':=Z1 (f i)) (by subst O;exact zl);obtain⟨D,E,hSh⟩:=Z.kept;replace Z:=Z.withK (K':=shD D E bM L) hSh;have hlab:B2 (f i).lab:=hN2;obtain⟨el,hel⟩:=eqv (elA (adr E L) (f i).lab (D6 L (f i).lab));obtain⟨hh,hhh⟩:=eqv ((C2 (f i).lab L).isSome);refine wp_seq (wp_seq ?_);apply bL O 13 (some (6,[.tmp 25,.tmp 27],[.raw (.map (some bM)),.agg [.int .i64 (f i).lab.len,.int .u64 (f i).lab.bits]],.tup [.agg [.int .u64 el.w.ver,.bool (.v el.has),.int .i64 el.w.x.r.kd,.sl none el.w.x.A el.w.x.r.n el.w.x.c 2 (fun i=>itC (el.w.x.r.f i)),.int .i64 el.w.x.r.nx.len,.int .u64 el.w.x.r.nx.bits,.int .u64 el.w.x.r.mrk],.bool (.v hh)])) ?hH (by kernel_rfl) a6 [8,6,17,16,15,4] [6,14] [] Z rfl
  case hH=>exact nc hlab hel hhh (fun o h=>by cases h;rfl)
  case hex=>intro A X;conv=>lhs;cbv
  case hD=>kernel_rfl
  case hZ=>kernel_rfl
  case hlen=>rfl
  case hob=>
   intro X;subst O;simp only[b7,Ob.holds,BE.den]<;>and_intros<;>intros<;>trivial
  case hQ=>
  intro X7 a0 w1 Z;replace Z:=Z.withK (K':=shK bM L) ⟨D,E,Z.kept⟩;have O1:=S2;have O2:=S3;refine wpList_nil (wp_seq (rg O a6 [43,6,17,16,15,4] [6,14] [(4,.r fun _=>.bool (.v il)),(10,.r fun _=>.bool (.v ir))] Z fun X8 a0 w1 Z=>?_));apply a7 Z rfl<;>intro hb Z
  .have h9:(if(if hh=true then true else !il)=true then true else !ir)=true:=by subst O;exact hb
   have hW:dS (I2 f n)=none:=by
    rw[hS,hnew,hstep,<-hhh]
    cases hh<;>cases il<;>cases ir<;>first|rfl|(simp at h9)
   refine wp_seq (rg O a6 [2,3] [14] [] Z fun X9 a0 w1 Z=>?_);refine wp_ret ((rm O a6 Z (⟨0,fun _=>none,fun _=>0,fun _=>⟨#[]⟩⟩) [] (he:=?_) (hs:=?_) (hn:=?_) (hJ:=?_)).1)
   .subst O;simp only[hW];exact zr
   .simp only[hW];exact trivial
   .simp only[hW];exact trivial
   simp only[hW];exact fun _ _ _=>trivial
  have h9:(if(if hh=true then true else !il)=true then true else !ir)=false:=by subst O;exact hb
  have h10:(hh || !il || !ir)=false:=by cases hh<;>cases il<;>cases ir<;>first|rfl|(simp at h9)
  rw[<-hhh,h10]at hstep;obtain⟨L2,hL2⟩:=eqv (bU (f i).lab ⟨(f i).ver,true,(f i).x.r.abs⟩ L);have hstep:ew ((I2 f n).drop i) L=ew ((I2 f n).drop (i+1)) L2:=by rw[hL2];exact hstep
  have SO:=CZ (f i).x hN1;have hL2n:L2.length<=i+1:=by rw[hL2,gz _ _ hSh.ris];split<;>omega
  refine wp_skip ?_;apply bL O 12 none ?hH (by kernel_rfl) a6 [47,49,55,17,16,15,4] [14] [(10,.r fun y=>.agg [.int .i64 (f i).x.r.kd,.sl none (y.A 0) (f i).x.r.n (y.c 0) 2 (fun t=>itC ((f i).x.r.f t)),.int .i64 (f i).x.r.nx.len,.int .u64 (f i).x.r.nx.bits,.int .u64 (f i).x.r.mrk])] Z rfl
  case hH=>exact ay
  case hex=>intro A X;conv=>lhs;cbv
  case hD=>kernel_rfl
  case hZ=>kernel_rfl
  case hlen=>rfl
  case hob=>
   intro X;subst O;simp only[b7,Ob.holds,BE.den]<;>(and_intros<;>repeat first|trivial|rfl|exact xQ|exact SO|refine⟨?_,?_⟩|intro h)
  case hQ=>
  intro X10 a0 w1 Z;obtain⟨D2,E2,hSh2⟩:=Z.kept;refine ao (k:=24) (e:=115) rfl rfl rfl rfl Z rfl rfl rfl rfl rfl fq cI hSh2.map (by omega) (Y4 hlab) (fun h=>absurd h (by omega)) (shK bM L2) (fun m w' hk hkb hv hM=>?_) ?_
  .rw [hL2]
   refine nR hSh2.map hlab hk hkb (x:=⟨⟨(f i).lab,(f i).ver,⟨(X10 10).A 0,(X10 10).c 0,(f i).x.r⟩⟩,true⟩) ?_ hv hM;exact Sim.agg ⟨zr,Sim.tt,zr,zr,zr,zr,zr,trivial⟩
  intro w1 Z;replace Z:=Z.keep [17,16,15,4] [14];refine wpList_nil (rg O a6 [17,16,15,4] [14] [] Z fun X11 a0 w1 Z=>?_);have e:B.arith .add .i64 (i:Int) 1=((i+1:Nat):Int):=by subst O;exact o4 (n:=n) hin (by omega)
  refine⟨(i+1,L2),⟨by simp only;omega,hL2n,hnew.trans hstep⟩,by simp only;omega,by rw[<-e];exact Z⟩
 have hout:i=n:=by
  have:¬(i:Int)<(n:Int):=by subst O;simpa[std,a8]using hb
  omega
 have hW:dS (I2 f n)=some L:=by rw[hS,hnew,List.drop_eq_nil_of_le (by rw[R0];omega)];rfl
 refine wp_exit (wp_seq (rg O a6 [2,3] [14] [] Z fun X12 a0 w1 Z=>?_));refine wp_ret ((rm O a6 Z (⟨(X3 2).b,fun _=>none,fun _=>bM,fun _=>⟨#[]⟩⟩) [14] (he:=?_) (hs:=?_) (hn:=?_) (hJ:=?_)).1)
 .subst O;simp only[hW];exact zr
 .simp only[hW];exact trivial
 .simp only[hW]
  exact⟨⟨_,rfl,zl⟩,fun e he=>(by cases he),(by simp),trivial⟩
 simp only[hW];exact fun _ _ h=>⟨hbfr,h⟩
end Go.Proofs.YtodelmejfpkicaaGreat.Sym
