/-
  SymShP, SymShQ, SymShD, SortGen, CmpBase, LaySort, SortBase, CmpRow, SortRow, SymSrt, SymRow0, SymShR, SymRSh3, SymLw0, PlGood, PlRun, SymSk2, SymStl, SymSk3, SymSk4, SymDr0, SymDr1, SymDr2, SymDr3, SymDr4, SymDr5, SymDr6: put together by a program of mine (a claim may have 60 files at most). Conditions: none.
-/
import Derived.Test.YtmbkanpapkhnaaaGreatMgF4
import Derived.Shelf.SlSortCmp.WholeK
import Derived.Shelf.SlSortCmp.NoneTotal
import Derived.Deep.RegionHeld3
import Derived.Ground.SlsfProg
import Derived.Shelf.SlGeneric
set_option linter.unusedVariables false
set_option linter.unusedSimpArgs false
set_option maxRecDepth 100000
set_option maxHeartbeats 1600000
namespace Go.Proofs.YtmbkanpapkhnaaaGreat.Sym
open Go Go.RowKit
theorem yk:j6 Tryz.prog 50:=fun _ _=>by kernel_rfl
theorem Dk(x:RA)(hn:x.r.n<=1000000):j7 Tryz.prog 50 [C7 x] (fun y=>C7 ⟨y.A 0,y.c 0,x.r⟩):=by
 intro m w hm hargs;have S:=Cl.clone_sf x.A x.r.n x.c x.r.f (by omega);simp only[l7]at S;refine en 8 hm hargs Tryz.func50 fun B O a0 Z=>?_
 refine wp_seq (rg O a6 [1,2] [1,2] [] Z fun X0 _ _ Z=>?_);have O1:=S;refine wp_seq (rg O a6 [1,2] [1,2] [(2,.r fun y=>.sl none (y.A 0) x.r.n (y.c 0) 2 (fun t=>itC (x.r.f t)))] Z fun X1 _ _ Z=>?_);refine wp_seq (rg O a6 [2] [2] [] Z fun X2 _ _ Z=>?_);refine wp_ret ((rsi O a6 Z (⟨0,fun _=>(X1 2).A 0,fun _=>(X1 2).c 0,fun _=>⟨#[]⟩⟩) (he:=?_)));subst O;exact zr
theorem lS:j6 Tryz.prog 17:=fun _ _=>by kernel_rfl
theorem xu(A:Option Addr)(n c:Nat)(f:Nat->C1)(hn:n<=maxLen)(hN:∀i,i<n->(f i).x.r.n<=1000000/\s8 (f i).lab/\U64 (f i).lab.bits/\U64 (f i).x.r.nx.bits):M6 Tryz.prog 17 [aM A n c f] [] none noK (fun y=>(match bW (F6 f n)with|none=>⟨.tup [.nilp,.int .i64 1],[],[]⟩|some L=>⟨.tup [.ptr 14 y.b 0,.int .i64 0],[],[(14,⟨y.b,95,[.raw (.map (some (y.c 0))),.int .i64 0]⟩)]⟩)) (fun N y=>(match bW (F6 f n)with|none=>noK|some L=>shF N (y.c 0) L)):=by
 intro m w hm hargs hpre hI;have hmx:maxLen=9223372036854775807:=rfl;refine enM (bo:=none) 58 hm hpre hI hargs Tryz.func17 fun B O a0 Z=>?_
 refine wp_seq (rg O a6 [0] [] [] Z fun X0 a0 w1 Z=>?_);refine wp_seq (wp_seq (rg O a6 [11,0] [] [] Z fun X1 a0 w1 Z=>?_));apply a7 Z rfl<;>intro hb Z
 .have hbig:2000<n:=by
   have:(2000:Int)<(n:Int):=by subst O;simpa[std,a8]using hb
   omega
  have hW:bW (F6 f n)=none:=by unfold bW;rw[if_pos (by rw[R2];exact hbig)]
  refine wp_seq (rg O a6 [2,3] [14] [] Z fun X2 a0 w1 Z=>?_);refine wp_ret ((rm O a6 Z (⟨0,fun _=>none,fun _=>0,fun _=>⟨#[]⟩⟩) [] (he:=?_) (hs:=?_) (hn:=?_) (hJ:=?_)).1)
  .subst O;simp only[hW];exact zr
  .simp only[hW];exact trivial
  .simp only[hW];exact trivial
  simp only[hW];exact fun _ _ _=>trivial
 have hbig:n<=2000:=by
  have:¬(2000:Int)<(n:Int):=by subst O;simpa[std,a8]using hb
  omega
 have hS:bW (F6 f n)=eD (F6 f n) []:=by unfold bW;rw[if_neg (by rw[R2];omega)]
 refine wp_skip (wp_seq (wp_region_lit (jA (k:=24) (e:=0) rfl rfl rfl rfl Z (Nat.le_of_ble_eq_true rfl) (shK w1.heap.size []) (fun m w' _ _ hM=>⟨_,fun _=>(none,0),ShD.empty hM _⟩) ?_)));obtain⟨bM,hbM⟩:=eqv (w1.heap.size);rw[<-hbM];intro a0 w1 hfresh Z;have hbfr:w.heap.size<=bM:=hfresh;refine lnd 1 O a6 [4,0] [14] [] Z fun X3 a0 w1 Z=>?_
 refine wp_seq (wp_seq (rg O a6 [17,16,15,4] [14] [] Z fun X4 a0 w1 Z=>?_));refine wp_block (cL (ι:=Nat×Shf) (fun p=>shK bM p.2) (fun p=>[(17,.int .i64 (p.1:Int))]) (fun p=>[]) (fun p=>[]) (fun p=>p.1<=n/\p.2.length<=p.1/\eD (F6 f n) []=eD ((F6 f n).drop p.1) p.2) (fun p=>n-p.1) (0,[]) ⟨Nat.zero_le _,Nat.le_refl _,rfl⟩ Z ?_)
 rintro⟨i,L⟩ ⟨hi,hk,hnew⟩ a0 w1 Z
 try dsimp only at hi
 try dsimp only at hk
 try dsimp only at hnew
 replace Z:=Z.withK (K':=shK bM L) Z.kept;refine wp_seq (rg O a6 [18,17,16,15,4] [14] [] Z fun X5 a0 w1 Z=>?_);refine wp_seq (a7 Z rfl (fun hb Z=>?_) (fun hb Z=>?_))
 .have hin:i<n:=by
   have:(i:Int)<(n:Int):=by subst O;simpa[std,a8]using hb
   omega
  obtain⟨hN1,hN2,hN3,hN4⟩:=hN i hin;have S2:=fD (f i).lab hN3;have S3:=eI (f i).x.A (f i).x.r.n (f i).x.c (f i).x.r.f (by omega) (f i).x.r.kd (f i).x.r.nx (f i).x.r.mrk hN4;rw[<-gQ]at S3;simp only[f4,F2,l7]at S2 S3;obtain⟨il,hil⟩:=eqv (isL (f i).lab);obtain⟨ir,hir⟩:=eqv (isR (f i).x.r.abs);rw[<-hil]at S2;rw[<-hir]at S3;have hstep:=uQ (f:=f) (L:=L) hin;rw[<-hil,<-hir]at hstep;refine wp_skip (wp_seq (wp_block (wp_seq ?_)));refine rg O a6 [6,17,16,15,4] [6,14] [] Z (hob:=by intro X;subst O;simp only[b7,Ob.holds,BE.den]<;>and_intros<;>repeat first|trivial|rfl|exact(show(0:Int)<=(i:Int)by omega)|exact(show(i:Int)<(n:Int)by omega)|exact(fun _ _=>by kernel_rfl)|refine⟨?_,?_⟩|intro h|exact Int.le_refl _|decide|omega) fun X6 a0 w1 Z=>?_
  replace Z:=Z.memS (cells':=T8 (f i)) (by subst O;exact zl);obtain⟨D,E,hSh⟩:=Z.kept;replace Z:=Z.withK (K':=shD D E bM L) hSh;have hlab:s8 (f i).lab:=hN2;obtain⟨el,hel⟩:=eqv (elA (adr E L) (f i).lab (D8 L (f i).lab));obtain⟨hh,hhh⟩:=eqv ((C4 (f i).lab L).isSome);refine wp_seq (wp_seq ?_);apply bL O 13 (some (6,[.tmp 25,.tmp 27],[.raw (.map (some bM)),.agg [.int .i64 (f i).lab.len,.int .u64 (f i).lab.bits]],.tup [.agg [.int .u64 el.w.ver,.bool (.v el.has),.int .i64 el.w.x.r.kd,.sl none el.w.x.A el.w.x.r.n el.w.x.c 2 (fun i=>itC (el.w.x.r.f i)),.int .i64 el.w.x.r.nx.len,.int .u64 el.w.x.r.nx.bits,.int .u64 el.w.x.r.mrk],.bool (.v hh)])) ?hH (by kernel_rfl) a6 [8,6,17,16,15,4] [6,14] [] Z rfl
  case hH=>exact np hlab hel hhh (fun o h=>by cases h;rfl)
  case hex=>intro A X;conv=>lhs;cbv
  case hD=>kernel_rfl
  case hZ=>kernel_rfl
  case hlen=>rfl
  case hob=>
   intro X;subst O;simp only[b7,Ob.holds,BE.den]<;>and_intros<;>intros<;>trivial
  case hQ=>
  intro X7 a0 w1 Z;replace Z:=Z.withK (K':=shK bM L) ⟨D,E,Z.kept⟩;have O1:=S2;have O2:=S3;refine wpList_nil (wp_seq (rg O a6 [43,6,17,16,15,4] [6,14] [(4,.r fun _=>.bool (.v il)),(10,.r fun _=>.bool (.v ir))] Z fun X8 a0 w1 Z=>?_));apply a7 Z rfl<;>intro hb Z
  .have h9:(if(if hh=true then true else !il)=true then true else !ir)=true:=by subst O;exact hb
   have hW:bW (F6 f n)=none:=by
    rw[hS,hnew,hstep,<-hhh]
    cases hh<;>cases il<;>cases ir<;>first|rfl|(simp at h9)
   refine wp_seq (rg O a6 [2,3] [14] [] Z fun X9 a0 w1 Z=>?_);refine wp_ret ((rm O a6 Z (⟨0,fun _=>none,fun _=>0,fun _=>⟨#[]⟩⟩) [] (he:=?_) (hs:=?_) (hn:=?_) (hJ:=?_)).1)
   .subst O;simp only[hW];exact zr
   .simp only[hW];exact trivial
   .simp only[hW];exact trivial
   simp only[hW];exact fun _ _ _=>trivial
  have h9:(if(if hh=true then true else !il)=true then true else !ir)=false:=by subst O;exact hb
  have h10:(hh || !il || !ir)=false:=by cases hh<;>cases il<;>cases ir<;>first|rfl|(simp at h9)
  rw[<-hhh,h10]at hstep;obtain⟨L2,hL2⟩:=eqv (bU (f i).lab ⟨(f i).ver,true,(f i).x.r.abs⟩ L);have hstep:eD ((F6 f n).drop i) L=eD ((F6 f n).drop (i+1)) L2:=by rw[hL2];exact hstep
  have SO:=Dk (f i).x hN1;have hL2n:L2.length<=i+1:=by rw[hL2,gE _ _ hSh.ris];split<;>omega
  refine wp_skip ?_;apply bL O 12 none ?hH (by kernel_rfl) a6 [47,49,55,17,16,15,4] [14] [(10,.r fun y=>.agg [.int .i64 (f i).x.r.kd,.sl none (y.A 0) (f i).x.r.n (y.c 0) 2 (fun t=>itC ((f i).x.r.f t)),.int .i64 (f i).x.r.nx.len,.int .u64 (f i).x.r.nx.bits,.int .u64 (f i).x.r.mrk])] Z rfl
  case hH=>exact az
  case hex=>intro A X;conv=>lhs;cbv
  case hD=>kernel_rfl
  case hZ=>kernel_rfl
  case hlen=>rfl
  case hob=>
   intro X;subst O;simp only[b7,Ob.holds,BE.den]<;>(and_intros<;>repeat first|trivial|rfl|exact yk|exact SO|refine⟨?_,?_⟩|intro h)
  case hQ=>
  intro X10 a0 w1 Z;obtain⟨D2,E2,hSh2⟩:=Z.kept;refine ap (k:=24) (e:=97) rfl rfl rfl rfl Z rfl rfl rfl rfl rfl fy cJ hSh2.map (by omega) (Y8 hlab) (fun h=>absurd h (by omega)) (shK bM L2) (fun m w' hk hkb hv hM=>?_) ?_
  .rw [hL2]
   refine oc hSh2.map hlab hk hkb (x:=⟨⟨(f i).lab,(f i).ver,⟨(X10 10).A 0,(X10 10).c 0,(f i).x.r⟩⟩,true⟩) ?_ hv hM;exact Sim.agg ⟨zr,Sim.tt,zr,zr,zr,zr,zr,trivial⟩
  intro w1 Z;replace Z:=Z.keep [17,16,15,4] [14];refine wpList_nil (rg O a6 [17,16,15,4] [14] [] Z fun X11 a0 w1 Z=>?_);have e:B.arith .add .i64 (i:Int) 1=((i+1:Nat):Int):=by subst O;exact o3 (n:=n) hin (by omega)
  refine⟨(i+1,L2),⟨by simp only;omega,hL2n,hnew.trans hstep⟩,by simp only;omega,by rw[<-e];exact Z⟩
 have hout:i=n:=by
  have:¬(i:Int)<(n:Int):=by subst O;simpa[std,a8]using hb
  omega
 have hW:bW (F6 f n)=some L:=by rw[hS,hnew,List.drop_eq_nil_of_le (by rw[R2];omega)];rfl
 refine wp_exit (wp_seq (rg O a6 [2,3] [14] [] Z fun X12 a0 w1 Z=>?_));refine wp_ret ((rm O a6 Z (⟨(X3 2).b,fun _=>none,fun _=>bM,fun _=>⟨#[]⟩⟩) [14] (he:=?_) (hs:=?_) (hn:=?_) (hJ:=?_)).1)
 .subst O;simp only[hW];exact zr
 .simp only[hW];exact trivial
 .simp only[hW]
  exact⟨⟨_,rfl,zl⟩,fun e he=>(by cases he),(by simp),trivial⟩
 simp only[hW];exact fun _ _ h=>⟨hbfr,h⟩
theorem yj:j6 Tryz.prog 51:=fun _ _=>by kernel_rfl
theorem Cq(b bM:Nat)(L:Shf)(hL:L.length<=100000)(k:Int)(q:A8)(hl:s8 q.lab)(x z:SpA):M6 Tryz.prog 51 [.ptr 0 b 0,D5 q,.agg (elC x),.agg (elC z),.bool .tt] [(0,⟨b,95,[.raw (.map (some bM)),.int .i64 k]⟩)] (some bM) (shK bM L) (fun y=>⟨.tup [u5 (cS y (Y0 L q.lab q.ver x.w.ver true ⟨z.w.ver,z.has,z.w.x.r.abs⟩).got),.int .i64 (Y0 L q.lab q.ver x.w.ver true ⟨z.w.ver,z.has,z.w.x.r.abs⟩).err],[(0,[.raw (.map (some bM)),.int .i64 (if(Y0 L q.lab q.ver x.w.ver true ⟨z.w.ver,z.has,z.w.x.r.abs⟩).wrote then IntKind.i64.wrap (k+1)else k)])],[]⟩) (fun _ _=>shK bM (Y0 L q.lab q.ver x.w.ver true ⟨z.w.ver,z.has,z.w.x.r.abs⟩).L):=by
 intro m w hm hargs hpre hI;have hmx:maxLen=9223372036854775807:=rfl;have hmp:=G6 hI;obtain⟨CD,hCD⟩:=eqv ((Y0 L q.lab q.ver x.w.ver true ⟨z.w.ver,z.has,z.w.x.r.abs⟩));rw[<-hCD];refine enM (bo:=some bM) 50 hm hpre hI hargs Tryz.func51 fun B O a0 Z=>?_
 refine wp_seq (rg O a6 [0,4,6,7,8,10] [0,6,7,8,10] [] Z fun X0 a0 w1 Z=>?_);refine wp_seq (wp_block (wp_seq (rg O a6 [12,0,4,6,7,8,10] [0,6,7,8,10] [] Z fun X1 a0 w1 Z=>?_)));apply a7 Z rfl<;>intro hb Z
 .have hv:q.ver≠x.w.ver:=by subst O;simpa[std,a8]using hb
  have hW:CD=⟨L,false,⟨8,x.w.ver,false,i9⟩,0⟩:=by rw[hCD];unfold Y0;rw[if_pos hv]
  refine wp_seq (rg O a6 [10,11] [0,10] [] Z fun X2 a0 w1 Z=>?_);refine wp_ret ((rm O a6 Z (⟨0,fun _=>none,fun _=>0,fun _=>⟨#[]⟩⟩) [] (hmap:=?_) (he:=?_) (hs:=?_) (hJ:=?_)).1)
  .intro b hb;cases hb;exact⟨hmp,fun m h=>G6 h⟩
  .subst O;simp only[hW]
   exact Sim.tup ⟨Sim.agg ⟨zr,zr,zr,zr,zq0,zr,zr,zr,trivial⟩,zr,trivial⟩
  .subst O;simp only[hW]
   exact⟨rfl,⟨_,rfl,zl⟩,trivial⟩
  simp only[hW];exact fun _ _ h=>h
 have hv:¬q.ver≠x.w.ver:=by subst O;simpa[std,a8]using hb
 refine wp_seq (rg O a6 [21,0,6,8,10] [0,6,8,10] [] Z fun X3 a0 w1 Z=>?_);obtain⟨L2,hL2⟩:=eqv (bU q.lab ⟨z.w.ver,z.has,z.w.x.r.abs⟩ L);have hW:CD=⟨L2,true,⟨0,z.w.ver,false,i9⟩,0⟩:=by rw[hCD,hL2];unfold Y0;rw[if_neg hv,if_neg (fun h=>by cases h.1)]
 refine j3 Z rfl (fun Z=>?_);refine wp_skip (wp_seq ?_);apply bL O 7 none ?hH (by kernel_rfl) a6 [36,38,39,0,8,10] [0,8,10] [] Z rfl
 case hH=>exact az
 case hex=>intro A X;conv=>lhs;cbv
 case hD=>kernel_rfl
 case hZ=>kernel_rfl
 case hlen=>rfl
 case hob=>
  intro X;subst O;simp only[b7,Ob.holds,BE.den]<;>and_intros<;>intros<;>trivial
 case hQ=>
 intro X5 a0 w1 Z;obtain⟨D2,E2,hSh2⟩:=Z.kept;refine ap (k:=24) (e:=97) rfl rfl rfl rfl Z rfl rfl rfl rfl rfl fy cJ hSh2.map (by omega) (Y8 hl) (fun _=>.inr rfl) (shK bM L2) (fun m w' hk hkb hv hM=>?_) ?_
 .rw [hL2];exact oc hSh2.map hl hk hkb (x:=⟨⟨q.lab,z.w.ver,z.w.x⟩,z.has⟩) (zr) hv hM
 intro w1 Z;replace Z:=Z.keep [0,8,10] [0,8,10];refine wpList_nil (wp_seq (rg O a6 [8,10] [0,8,10] [] Z fun X6 a0 w1 Z=>?_));refine wp_seq (rg O a6 [10,11] [0,10] [] Z fun X7 a0 w1 Z=>?_);refine wp_ret ((rm O a6 Z (⟨0,fun _=>none,fun _=>0,fun _=>⟨#[]⟩⟩) [] (hmap:=?_) (he:=?_) (hs:=?_) (hJ:=?_)).1)
 .intro b hb;cases hb;exact⟨hmp,fun m h=>G6 h⟩
 .subst O;simp only[hW]
  exact Sim.tup ⟨Sim.agg ⟨zr,zr,zr,zr,zq0,zr,zr,zr,trivial⟩,zr,trivial⟩
 .subst O;simp only[hW]
  exact⟨rfl,⟨_,rfl,zl⟩,trivial⟩
 simp only[hW];exact fun _ _ h=>h
theorem FX(k0:Nat)(b bM:Nat)(L:Shf)(hL:L.length<=100000)(k:Int)(q:A8)(hl:s8 q.lab)(x z:SpA):M6 Tryz.prog 51 [.ptr k0 b 0,D5 q,.agg (elC x),.agg (elC z),.bool .tt] [(k0,⟨b,95,[.raw (.map (some bM)),.int .i64 k]⟩)] (some bM) (shK bM L) (fun y=>⟨.tup [u5 (cS y (Y0 L q.lab q.ver x.w.ver true ⟨z.w.ver,z.has,z.w.x.r.abs⟩).got),.int .i64 (Y0 L q.lab q.ver x.w.ver true ⟨z.w.ver,z.has,z.w.x.r.abs⟩).err],[(k0,[.raw (.map (some bM)),.int .i64 (if(Y0 L q.lab q.ver x.w.ver true ⟨z.w.ver,z.has,z.w.x.r.abs⟩).wrote then IntKind.i64.wrap (k+1)else k)])],[]⟩) (fun _ _=>shK bM (Y0 L q.lab q.ver x.w.ver true ⟨z.w.ver,z.has,z.w.x.r.abs⟩).L):=
 (Cq b bM L hL k q hl x z).re (by repeat(first|exact trivial|refine⟨Sim.ptr,?_⟩|refine⟨Sim.fn ⟨Sim.ptr,trivial⟩ trivial,?_⟩|refine⟨Sim.fn trivial ⟨Sim.ptr,trivial⟩,?_⟩|refine⟨zr,?_⟩)) rfl (fun x=>⟨rfl,rfl,zr,rfl⟩)
theorem Cr(b bM:Nat)(L:Shf)(hL:L.length<=100000)(k:Int)(q:A8)(hl:s8 q.lab)(x z:SpA):M6 Tryz.prog 51 [.ptr 0 b 0,D5 q,.agg (elC x),.agg (elC z),.bool .ff] [(0,⟨b,95,[.raw (.map (some bM)),.int .i64 k]⟩)] (some bM) (shK bM L) (fun y=>⟨.tup [u5 (cS y (Y0 L q.lab q.ver x.w.ver false ⟨z.w.ver,z.has,z.w.x.r.abs⟩).got),.int .i64 (Y0 L q.lab q.ver x.w.ver false ⟨z.w.ver,z.has,z.w.x.r.abs⟩).err],[(0,[.raw (.map (some bM)),.int .i64 (if(Y0 L q.lab q.ver x.w.ver false ⟨z.w.ver,z.has,z.w.x.r.abs⟩).wrote then IntKind.i64.wrap (k+1)else k)])],[]⟩) (fun _ _=>shK bM (Y0 L q.lab q.ver x.w.ver false ⟨z.w.ver,z.has,z.w.x.r.abs⟩).L):=by
 intro m w hm hargs hpre hI;have hmx:maxLen=9223372036854775807:=rfl;have hmp:=G6 hI;obtain⟨CD,hCD⟩:=eqv ((Y0 L q.lab q.ver x.w.ver false ⟨z.w.ver,z.has,z.w.x.r.abs⟩));rw[<-hCD];refine enM (bo:=some bM) 50 hm hpre hI hargs Tryz.func51 fun B O a0 Z=>?_
 refine wp_seq (rg O a6 [0,4,6,7,8,10] [0,6,7,8,10] [] Z fun X0 a0 w1 Z=>?_);refine wp_seq (wp_block (wp_seq (rg O a6 [12,0,4,6,7,8,10] [0,6,7,8,10] [] Z fun X1 a0 w1 Z=>?_)));apply a7 Z rfl<;>intro hb Z
 .have hv:q.ver≠x.w.ver:=by subst O;simpa[std,a8]using hb
  have hW:CD=⟨L,false,⟨8,x.w.ver,false,i9⟩,0⟩:=by rw[hCD];unfold Y0;rw[if_pos hv]
  refine wp_seq (rg O a6 [10,11] [0,10] [] Z fun X2 a0 w1 Z=>?_);refine wp_ret ((rm O a6 Z (⟨0,fun _=>none,fun _=>0,fun _=>⟨#[]⟩⟩) [] (hmap:=?_) (he:=?_) (hs:=?_) (hJ:=?_)).1)
  .intro b hb;cases hb;exact⟨hmp,fun m h=>G6 h⟩
  .subst O;simp only[hW]
   exact Sim.tup ⟨Sim.agg ⟨zr,zr,zr,zr,zq0,zr,zr,zr,trivial⟩,zr,trivial⟩
  .subst O;simp only[hW]
   exact⟨rfl,⟨_,rfl,zl⟩,trivial⟩
  simp only[hW];exact fun _ _ h=>h
 have hv:¬q.ver≠x.w.ver:=by subst O;simpa[std,a8]using hb
 refine wp_seq (wp_region_lit (lpr 0 7 O a6 [24,28,0,6,8,10] [0,6,8,10] [] Z fun X3_0 a0 w1 Z=>?_));obtain⟨D,E,hSh⟩:=Z.kept;obtain⟨zz,hzz⟩:=eqv (Maps.size D);have hzl:zz=L.length:=hzz.trans hSh.size;refine zv (uh Z rfl rfl rfl) (xE rfl rfl rfl rfl rfl rfl rfl Z (Nat.le_of_ble_eq_true rfl) rfl cJ hSh.map ?_);rw[<-hzz];intro a0 Z;refine lnd 8 O a6 [21,0,6,8,10] [0,6,8,10] [] Z fun X3 a0 w1 Z=>?_
 apply a7 Z rfl<;>intro hb Z
 .have hfull:2000<=L.length:=by
   have:(2000:Int)<=(zz:Int):=by subst O;simpa[std,a8]using hb
   omega
  have hW:CD=⟨L,false,U7,12⟩:=by rw[hCD];unfold Y0;rw[if_neg hv,if_pos ⟨rfl,hfull⟩]
  refine wp_seq (rg O a6 [10,11] [0,10] [] Z fun X4 a0 w1 Z=>?_);refine wp_ret ((rm O a6 Z (⟨0,fun _=>none,fun _=>0,fun _=>⟨#[]⟩⟩) [] (hmap:=?_) (he:=?_) (hs:=?_) (hJ:=?_)).1)
  .intro b hb;cases hb;exact⟨hmp,fun m h=>G6 h⟩
  .subst O;simp only[hW]
   exact Sim.tup ⟨Sim.agg ⟨zr,zr,zr,zr,zq0,zr,zr,zr,trivial⟩,zr,trivial⟩
  .subst O;simp only[hW]
   exact⟨rfl,⟨_,rfl,zl⟩,trivial⟩
  simp only[hW];exact fun _ _ h=>h
 have hfull:¬2000<=L.length:=by
  have:¬(2000:Int)<=(zz:Int):=by subst O;simpa[std,a8]using hb
  omega
 obtain⟨L2,hL2⟩:=eqv (bU q.lab ⟨z.w.ver,z.has,z.w.x.r.abs⟩ L);have hW:CD=⟨L2,true,⟨0,z.w.ver,false,i9⟩,0⟩:=by rw[hCD,hL2];unfold Y0;rw[if_neg hv,if_neg (fun h=>hfull h.2)]
 refine wp_skip (wp_seq ?_);apply bL O 7 none ?hH (by kernel_rfl) a6 [36,38,39,0,8,10] [0,8,10] [] Z rfl
 case hH=>exact az
 case hex=>intro A X;conv=>lhs;cbv
 case hD=>kernel_rfl
 case hZ=>kernel_rfl
 case hlen=>rfl
 case hob=>
  intro X;subst O;simp only[b7,Ob.holds,BE.den]<;>and_intros<;>intros<;>trivial
 case hQ=>
 intro X5 a0 w1 Z;obtain⟨D2,E2,hSh2⟩:=Z.kept;refine ap (k:=24) (e:=97) rfl rfl rfl rfl Z rfl rfl rfl rfl rfl fy cJ hSh2.map (by omega) (Y8 hl) (fun _=>.inr rfl) (shK bM L2) (fun m w' hk hkb hv hM=>?_) ?_
 .rw [hL2];exact oc hSh2.map hl hk hkb (x:=⟨⟨q.lab,z.w.ver,z.w.x⟩,z.has⟩) (zr) hv hM
 intro w1 Z;replace Z:=Z.keep [0,8,10] [0,8,10];refine wpList_nil (wp_seq (rg O a6 [8,10] [0,8,10] [] Z fun X6 a0 w1 Z=>?_));refine wp_seq (rg O a6 [10,11] [0,10] [] Z fun X7 a0 w1 Z=>?_);refine wp_ret ((rm O a6 Z (⟨0,fun _=>none,fun _=>0,fun _=>⟨#[]⟩⟩) [] (hmap:=?_) (he:=?_) (hs:=?_) (hJ:=?_)).1)
 .intro b hb;cases hb;exact⟨hmp,fun m h=>G6 h⟩
 .subst O;simp only[hW]
  exact Sim.tup ⟨Sim.agg ⟨zr,zr,zr,zr,zq0,zr,zr,zr,trivial⟩,zr,trivial⟩
 .subst O;simp only[hW]
  exact⟨rfl,⟨_,rfl,zl⟩,trivial⟩
 simp only[hW];exact fun _ _ h=>h
theorem FY(k0:Nat)(b bM:Nat)(L:Shf)(hL:L.length<=100000)(k:Int)(q:A8)(hl:s8 q.lab)(x z:SpA):M6 Tryz.prog 51 [.ptr k0 b 0,D5 q,.agg (elC x),.agg (elC z),.bool .ff] [(k0,⟨b,95,[.raw (.map (some bM)),.int .i64 k]⟩)] (some bM) (shK bM L) (fun y=>⟨.tup [u5 (cS y (Y0 L q.lab q.ver x.w.ver false ⟨z.w.ver,z.has,z.w.x.r.abs⟩).got),.int .i64 (Y0 L q.lab q.ver x.w.ver false ⟨z.w.ver,z.has,z.w.x.r.abs⟩).err],[(k0,[.raw (.map (some bM)),.int .i64 (if(Y0 L q.lab q.ver x.w.ver false ⟨z.w.ver,z.has,z.w.x.r.abs⟩).wrote then IntKind.i64.wrap (k+1)else k)])],[]⟩) (fun _ _=>shK bM (Y0 L q.lab q.ver x.w.ver false ⟨z.w.ver,z.has,z.w.x.r.abs⟩).L):=
 (Cr b bM L hL k q hl x z).re (by repeat(first|exact trivial|refine⟨Sim.ptr,?_⟩|refine⟨Sim.fn ⟨Sim.ptr,trivial⟩ trivial,?_⟩|refine⟨Sim.fn trivial ⟨Sim.ptr,trivial⟩,?_⟩|refine⟨zr,?_⟩)) rfl (fun x=>⟨rfl,rfl,zr,rfl⟩)
theorem Ib(k0:Nat)(b bM:Nat)(L:Shf)(hL:L.length<=100000)(k:Int)(q:A8)(hl:s8 q.lab)(x z:SpA)(hh:Bool):M6 Tryz.prog 51 [.ptr k0 b 0,D5 q,.agg (elC x),.agg (elC z),.bool (.v hh)] [(k0,⟨b,95,[.raw (.map (some bM)),.int .i64 k]⟩)] (some bM) (shK bM L) (fun y=>⟨.tup [u5 (cS y (Y0 L q.lab q.ver x.w.ver hh ⟨z.w.ver,z.has,z.w.x.r.abs⟩).got),.int .i64 (Y0 L q.lab q.ver x.w.ver hh ⟨z.w.ver,z.has,z.w.x.r.abs⟩).err],[(k0,[.raw (.map (some bM)),.int .i64 (if(Y0 L q.lab q.ver x.w.ver hh ⟨z.w.ver,z.has,z.w.x.r.abs⟩).wrote then IntKind.i64.wrap (k+1)else k)])],[]⟩) (fun _ _=>shK bM (Y0 L q.lab q.ver x.w.ver hh ⟨z.w.ver,z.has,z.w.x.r.abs⟩).L):=by
 cases hh with
 |true=>exact(FX k0 b bM L hL k q hl x z).args ⟨zr,zr,zr,zr,Sim.bool rfl,trivial⟩
 |false=>exact(FY k0 b bM L hL k q hl x z).args ⟨zr,zr,zr,zr,Sim.bool rfl,trivial⟩
theorem Bx{L:Shf}{w:Wnt}(hg:(w.kind=1 \/ w.kind=2 \/ w.kind=3)/\isL w.lab=true/\(w.kind=2->isR w.r=true))(hk:¬w.kind=1):doL L w=Y0 L w.lab w.ver (D8 L w.lab).ver (C4 w.lab L).isSome ⟨inc (D8 L w.lab).ver,decide (w.kind=2),if w.kind=2 then w.r else i9⟩:=by
 refine(if_pos hg).trans ((if_neg hk).trans ?_);unfold Y0
 by_cases hv:w.ver=(D8 L w.lab).ver
 .have h1:¬w.ver≠(D8 L w.lab).ver:=fun h=>h hv
  have e:((C4 w.lab L).isNone=true/\2000<=L.length)=((C4 w.lab L).isSome=false/\2000<=L.length):=by
   cases C4 w.lab L<;>simp
  refine(if_neg h1).trans (Eq.symm ((if_neg h1).trans ?_));rw[<-hv];simp only[<-e];rfl
 exact(if_pos hv).trans (if_pos hv).symm
theorem ik:j6 Tryz.prog 18:=fun _ _=>by kernel_rfl
theorem HX(b bM:Nat)(L:Shf)(hL:L.length<=100000)(k:Int)(q:A8)(hwn:q.x.r.n<=maxLen)(hl:s8 q.lab)(hwb:U64 q.lab.bits)(hwx:U64 q.x.r.nx.bits):M6 Tryz.prog 18 [.ptr 0 b 0,D5 q] [(0,⟨b,95,[.raw (.map (some bM)),.int .i64 k]⟩)] (some bM) (shK bM L) (fun y=>⟨.tup [u5 (cS y (doL L q.abs).got),.int .i64 (doL L q.abs).err],[(0,[.raw (.map (some bM)),.int .i64 (if(doL L q.abs).wrote then IntKind.i64.wrap (k+1)else k)])],[]⟩) (fun _ _=>shK bM (doL L q.abs).L):=by
 intro m w hm hargs hpre hI;have hmx:maxLen=9223372036854775807:=rfl;have hmp:=G6 hI;have S1:=fD q.lab hwb;have S2:=eI q.x.A q.x.r.n q.x.c q.x.r.f (by omega) q.x.r.kd q.x.r.nx q.x.r.mrk hwx;rw[<-gQ]at S2;simp only[f4,F2,l7]at S1 S2;obtain⟨il,hil⟩:=eqv (isL q.lab);obtain⟨ir,hir⟩:=eqv (isR q.x.r.abs);rw[<-hil]at S1;rw[<-hir]at S2;obtain⟨D0,hD⟩:=eqv ((doL L q.abs));rw[<-hD]
 skip
 refine enM (bo:=some bM) 70 hm hpre hI hargs Tryz.func18 fun B O a0 Z=>?_
 refine wp_seq (rg O a6 [0,3,4] [0,3,4] [] Z fun X0 _ _ Z=>?_);refine wp_seq (wp_seq (rg O a6 [10,0,3,4] [0,3,4] [] Z fun X1 _ _ Z=>?_));refine j3 Z rfl (fun Z=>?_);obtain⟨DM,E,hSh⟩:=Z.kept;replace Z:=Z.withK (K':=shD DM E bM L) hSh;obtain⟨el,hel⟩:=eqv (elA (adr E L) q.lab (D8 L q.lab));obtain⟨hh,hhh⟩:=eqv ((C4 q.lab L).isSome);refine wp_skip (wp_seq ?_);apply bL O 13 (some (6,[.tmp 16,.tmp 18],[.raw (.map (some bM)),.agg [.int .i64 q.lab.len,.int .u64 q.lab.bits]],.tup [.agg [.int .u64 el.w.ver,.bool (.v el.has),.int .i64 el.w.x.r.kd,.sl none el.w.x.A el.w.x.r.n el.w.x.c 2 (fun i=>itC (el.w.x.r.f i)),.int .i64 el.w.x.r.nx.len,.int .u64 el.w.x.r.nx.bits,.int .u64 el.w.x.r.mrk],.bool (.v hh)])) ?hH (by kernel_rfl) a6 [0,3,4,6,7] [0,3,4,6] [] Z rfl
 case hH=>exact np hl hel hhh (fun o h=>by cases h;rfl)
 case hex=>intro A X;conv=>lhs;cbv
 case hD=>kernel_rfl
 case hZ=>kernel_rfl
 case hlen=>rfl
 case hob=>
  intro X;subst O;simp only[b7,Ob.holds,BE.den]<;>and_intros<;>intros<;>trivial
 case hQ=>
 intro X3 _ _ Z;replace Z:=Z.withK (K':=shK bM L) ⟨DM,E,Z.kept⟩;have hev:el.w.ver=(D8 L q.lab).ver:=by rw[hel]
 have heh:el.has=(D8 L q.lab).has:=by rw[hel]
 have her:el.w.x.r.abs=(D8 L q.lab).r:=by rw[hel];exact mj _
 refine wpList_nil (wp_seq (rg O a6 [0,3,4,6,7,8] [8,0,3,4,6] [] Z fun X4 _ _ Z=>?_));obtain⟨vi,hvi⟩:=eqv (inc (D8 L q.lab).ver);replace Z:=Z.memS (cells':=[.int .u64 vi,.bool .ff,.int .i64 0,.sl none none 0 0 2 (fun _=>[]),.int .i64 0,.int .u64 0,.int .u64 0]) ⟨(by subst O;rw[hvi,<-hev];exact zr),zr,zr,zr,zr,zr,zr,trivial⟩;refine wp_seq (wp_block (wp_seq (oT (ι:=SpA) (S0:=[]) (M0:=[(8,_)]) (G0:=[]) (fun z=>[]) (fun z=>[(8,⟨(X4 4).b,97,elC z⟩)]) (fun z=>[]) (fun z=>¬q.kind=1/\z.w.ver=vi/\((q.kind=1 \/ q.kind=2 \/ q.kind=3)/\isL q.lab=true/\(q.kind=2->isR q.x.r.abs=true))/\z.has=decide (q.kind=2)/\z.w.x.r.abs=(if q.kind=2 then q.x.r.abs else i9)) Z ?_ ?_)))
 .have O1:=S1
  refine wp_block (wp_seq (wp_block (wp_seq (wp_block (wp_seq (wp_block (wp_seq (wp_seq (wp_seq (rg O a6 [26,0,3,4,6,7,8] [8,0,3,4,6] [(2,.r fun _=>.bool (.v il))] Z fun X5 _ _ Z=>?_))))))))));apply a7 Z rfl<;>intro hb Z
  .have h9:(!il)=true:=by subst O;exact hb
   have hbad:¬((q.kind=1 \/ q.kind=2 \/ q.kind=3)/\isL q.lab=true/\(q.kind=2->isR q.x.r.abs=true)):=by rw[<-hil];intro h;rw[h.2.1]at h9;cases h9
   have hW:D0=⟨L,false,U7,1⟩:=by rw[hD];exact if_neg hbad
   refine wp_exit (wp_seq (wp_seq (rg O a6 [4,5] [0,4] [] Z fun X9 _ _ Z=>?_)));refine wp_ret ((rm O a6 Z (⟨0,fun _=>none,fun _=>0,fun _=>⟨#[]⟩⟩) [] (hmap:=?_) (he:=?_) (hs:=?_) (hJ:=?_)).1)
   .intro b hb;cases hb;exact⟨hmp,fun m h=>G6 h⟩
   .subst O;simp only[hW]
    exact Sim.tup ⟨Sim.agg ⟨zr,zr,zr,zr,zq0,zr,zr,zr,trivial⟩,zr,trivial⟩
   .subst O;simp only[hW]
    exact⟨rfl,⟨_,rfl,zl⟩,trivial⟩
   simp only[hW];exact fun _ _ h=>h
  have hl1:isL q.lab=true:=by
   have h9:(!il)=false:=by subst O;exact hb
   rw[<-hil];simpa using h9
  refine wp_skip (wp_seq (wp_seq (rg O a6 [31,0,3,4,6,7,8] [8,0,3,4,6] [] Z fun X6 _ _ Z=>?_)));apply a7 Z rfl<;>intro hb Z
  .have hk1:q.kind=1:=by subst O;simpa[std,a8]using hb
   have hgd:((q.kind=1 \/ q.kind=2 \/ q.kind=3)/\isL q.lab=true/\(q.kind=2->isR q.x.r.abs=true)):=⟨.inl hk1,hl1,fun h=>by omega⟩;have hW:D0=⟨L,false,⟨0,el.w.ver,el.has,el.w.x.r.abs⟩,0⟩:=by rw[hD,hev,heh,her];refine(if_pos hgd).trans ?_;exact if_pos hk1
   refine wp_exit (wp_seq (wp_seq (rg O a6 [4,5] [0,4] [] Z fun X10 _ _ Z=>?_)));refine wp_ret ((rm O a6 Z (spY none 0 (fun _=>zSp) el.w.x.A el.w.x.c 0) [] (hmap:=?_) (he:=?_) (hs:=?_) (hJ:=?_)).1)
   .intro b hb;cases hb;exact⟨hmp,fun m h=>G6 h⟩
   .subst O;simp only[hW]
    exact Sim.tup ⟨Sim.agg (Bd (v:=⟨0,el.w.ver,el.has,el.w.x⟩) rfl rfl rfl),zr,trivial⟩
   .subst O;simp only[hW]
    exact⟨rfl,⟨_,rfl,zl⟩,trivial⟩
   simp only[hW];exact fun _ _ h=>h
  have hk1:¬q.kind=1:=by subst O;simpa[std,a8]using hb
  refine wp_skip (wp_seq (wp_seq (rg O a6 [35,0,3,4,6,7,8] [8,0,3,4,6] [] Z fun X7 _ _ Z=>?_)));apply a7 Z rfl<;>intro hb Z
  .have hk2:q.kind=2:=by subst O;simpa[std,a8]using hb
   have O1:=S2;refine wp_exit (wp_seq (wp_seq (rg O a6 [54,0,3,4,6,7,8] [8,0,3,4,6] [(2,.r fun _=>.bool (.v ir))] Z fun X11 _ _ Z=>?_)));apply a7 Z rfl<;>intro hb Z
   .have h9:(!ir)=true:=by subst O;exact hb
    have hbad:¬((q.kind=1 \/ q.kind=2 \/ q.kind=3)/\isL q.lab=true/\(q.kind=2->isR q.x.r.abs=true)):=by rw[<-hir];intro h;rw[h.2.2 hk2]at h9;cases h9
    have hW:D0=⟨L,false,U7,1⟩:=by rw[hD];exact if_neg hbad
    refine wp_seq (rg O a6 [4,5] [0,4] [] Z fun X12 _ _ Z=>?_);refine wp_ret ((rm O a6 Z (⟨0,fun _=>none,fun _=>0,fun _=>⟨#[]⟩⟩) [] (hmap:=?_) (he:=?_) (hs:=?_) (hJ:=?_)).1)
    .intro b hb;cases hb;exact⟨hmp,fun m h=>G6 h⟩
    .subst O;simp only[hW]
     exact Sim.tup ⟨Sim.agg ⟨zr,zr,zr,zr,zq0,zr,zr,zr,trivial⟩,zr,trivial⟩
    .subst O;simp only[hW]
     exact⟨rfl,⟨_,rfl,zl⟩,trivial⟩
    simp only[hW];exact fun _ _ h=>h
   have hr1:isR q.x.r.abs=true:=by
    have h9:(!ir)=false:=by subst O;exact hb
    rw[<-hir];simpa using h9
   have S3:=Dk q.x (by have h8:=hr1;rw[gQ]at h8;have:=(E4 h8).2.2.1;omega);have O1:=S3;refine wp_skip (rg O a6 [0,3,4,6,7,8] [8,0,3,4,6] [(2,.r fun y=>.agg [.int .i64 q.x.r.kd,.sl none (y.A 0) q.x.r.n (y.c 0) 2 (fun t=>itC (q.x.r.f t)),.int .i64 q.x.r.nx.len,.int .u64 q.x.r.nx.bits,.int .u64 q.x.r.mrk])] Z fun X13 _ _ Z=>?_);refine⟨⟨⟨q.lab,vi,⟨(X13 2).A 0,(X13 2).c 0,q.x.r⟩⟩,true⟩,⟨hk1,rfl,⟨.inr (.inl hk2),hl1,fun _=>hr1⟩,?_,?_⟩,Z.memS (cells':=elC ⟨⟨q.lab,vi,⟨(X13 2).A 0,(X13 2).c 0,q.x.r⟩⟩,true⟩) ⟨zr,Sim.tt,zr,zr,zr,zr,zr,trivial⟩⟩
   .rw [decide_eq_true hk2]
   rw[if_pos hk2]
  have hk2:¬q.kind=2:=by subst O;simpa[std,a8]using hb
  refine wp_skip (wp_seq (rg O a6 [39,0,3,4,6,7,8] [8,0,3,4,6] [] Z fun X8 _ _ Z=>?_));apply a7 Z rfl<;>intro hb Z
  .have hk3:q.kind=3:=by subst O;simpa[std,a8]using hb
   refine wp_exit (⟨⟨⟨q.lab,vi,zRA⟩,false⟩,⟨hk1,rfl,⟨.inr (.inr hk3),hl1,fun h=>by omega⟩,?_,?_⟩,Z.memS (cells':=elC ⟨⟨q.lab,vi,zRA⟩,false⟩) ⟨zr,Sim.ff,zr,zq0,zr,zr,zr,trivial⟩⟩)
   .rw [decide_eq_false (by omega)]
   rw[if_neg (by omega)];rfl
  have hk3:¬q.kind=3:=by subst O;simpa[std,a8]using hb
  have hbad:¬((q.kind=1 \/ q.kind=2 \/ q.kind=3)/\isL q.lab=true/\(q.kind=2->isR q.x.r.abs=true)):=fun h=>by rcases h.1 with h|h|h;exact hk1 h;exact hk2 h;exact hk3 h
  have hW:D0=⟨L,false,U7,1⟩:=by rw[hD];exact if_neg hbad
  refine wp_skip (wp_exit (wp_seq (rg O a6 [4,5] [0,4] [] Z fun X15 _ _ Z=>?_)));refine wp_ret ((rm O a6 Z (⟨0,fun _=>none,fun _=>0,fun _=>⟨#[]⟩⟩) [] (hmap:=?_) (he:=?_) (hs:=?_) (hJ:=?_)).1)
  .intro b hb;cases hb;exact⟨hmp,fun m h=>G6 h⟩
  .subst O;simp only[hW]
   exact Sim.tup ⟨Sim.agg ⟨zr,zr,zr,zr,zq0,zr,zr,zr,trivial⟩,zr,trivial⟩
  .subst O;simp only[hW]
   exact⟨rfl,⟨_,rfl,zl⟩,trivial⟩
  simp only[hW];exact fun _ _ h=>h
 rintro z ⟨hk1,hz1,hgd,hz2,hz3⟩ _ _ Z
 try dsimp only at hk1
 try dsimp only at hz1
 try dsimp only at hgd
 try dsimp only at hz2
 try dsimp only at hz3
 have SC:=Ib 0 b bM L hL k q hl el z hh;obtain⟨CD,hCD⟩:=eqv (Y0 L q.lab q.ver el.w.ver hh ⟨z.w.ver,z.has,z.w.x.r.abs⟩);rw[<-hCD]at SC;have hDC:D0=CD:=by
  rw[hD,hCD,Bx (w:=q.abs) hgd hk1,hz1,hz2,hz3,hvi,hev,hhh];rfl
 obtain⟨G,hG⟩:∃G:i8->u2,G=fun y=>cS y CD.got:=⟨_,rfl⟩
 have hGG:∀y,cS y CD.got=G y:=fun y=>by rw[hG]
 simp only[hGG]at SC;obtain⟨k2,hk2⟩:=eqv ((if CD.wrote then IntKind.i64.wrap (k+1)else k));rw[<-hk2]at SC;refine wp_seq (wp_seq (wp_region_lit (lpr 0 5 O a6 [61,62,63,64,65,4] [0,4] [] Z fun X14_0 _ _ Z=>?_)));refine I8 rfl rfl rfl rfl Z rfl rfl yj SC (fun _ _ h=>h) (fun b hb=>by cases hb;exact fun _=>.inr rfl) (zl) (by intro e he;simp only[List.mem_singleton]at he;subst he;rfl) rfl rfl (fun _=>shK bM CD.L) (fun _ _ _ _ _ _ _ _ _ h=>h) ?_;intro y _ _ Z;refine lnd 6 O a6 [4,5] [0,4] [] Z fun X14 _ _ Z=>?_
 refine wp_ret ((rm O a6 Z (y) [] (hmap:=?_) (he:=?_) (hs:=?_) (hJ:=?_)).1)
 .intro b hb;cases hb;exact⟨hmp,fun m h=>G6 h⟩
 .subst O;rw[hDC,hGG];exact zr
 .rw [hDC,<-hk2]
  exact⟨rfl,⟨_,rfl,zl⟩,trivial⟩
 rw[hDC];exact fun _ _ h=>h
theorem Bw(k0:Nat)(b bM:Nat)(L:Shf)(hL:L.length<=100000)(k:Int)(q:A8)(hwn:q.x.r.n<=maxLen)(hl:s8 q.lab)(hwb:U64 q.lab.bits)(hwx:U64 q.x.r.nx.bits):M6 Tryz.prog 18 [.ptr k0 b 0,D5 q] [(k0,⟨b,95,[.raw (.map (some bM)),.int .i64 k]⟩)] (some bM) (shK bM L) (fun y=>⟨.tup [u5 (cS y (doL L q.abs).got),.int .i64 (doL L q.abs).err],[(k0,[.raw (.map (some bM)),.int .i64 (if(doL L q.abs).wrote then IntKind.i64.wrap (k+1)else k)])],[]⟩) (fun _ _=>shK bM (doL L q.abs).L):=
 (HX b bM L hL k q hwn hl hwb hwx).re (by repeat(first|exact trivial|refine⟨Sim.ptr,?_⟩|refine⟨Sim.fn ⟨Sim.ptr,trivial⟩ trivial,?_⟩|refine⟨Sim.fn trivial ⟨Sim.ptr,trivial⟩,?_⟩|refine⟨zr,?_⟩)) rfl (fun x=>⟨rfl,rfl,zr,rfl⟩)
end Go.Proofs.YtmbkanpapkhnaaaGreat.Sym
namespace Go.Proofs.YtmbkanpapkhnaaaGreat.Sym
open Go Go.RowKit
open Go.Sort (flatK HoldsK putRowK get_flatK size_flatK)
section
variable {α : Type} [Inhabited α] {k:Nat} {cells:α->List AV} {w w':World} {B e:Nat} {A:Option Addr} {n c:Nat} {h:Nat->α}
abbrev io(cells:α->List AV):α->List Value:=fun x=>(cells x).map AV.den
theorem tA(hk:∀x,(cells x).length=k)(d:Array α)(i j:Nat)(hi:i<d.size)(hj:j<k):(flatK (io cells) k d)[i*k+j]! = ((cells d[i]!).map AV.den)[j]!:=by
 have hlt:i*k+j<d.size*k:=by
  have:(i+1)*k<=d.size*k:=Nat.mul_le_mul_right k hi;rw[Nat.add_mul,Nat.one_mul]at this;omega
 rw[get_flatK _ _ _ _ hlt];have h1:(i*k+j) / k=i:=by rw[Nat.mul_comm,Nat.mul_add_div (by omega),Nat.div_eq_of_lt hj,Nat.add_zero]
 have h2:(i*k+j) % k=j:=by rw[Nat.mul_comm,Nat.mul_add_mod,Nat.mod_eq_of_lt hj]
 rw[h1,h2]
theorem oD(hk:∀x,(cells x).length=k)(hO:Own w B e k (.slice A n c) n (j9 (fun t=>cells (h t)) n))(hn:0<n):∃b,A=some ⟨b,0,none⟩/\B<=b/\b<w.heap.size/\HoldsK (io cells) k w b 0 ((List.range n).map h).toArray:=by
 obtain⟨b,hA,hb⟩:=M2 hO hn;obtain⟨h1,h2⟩:=hO.lt b hb;refine⟨b,hA,h1,h2,fun t ht=>?_⟩;have hsz:((List.range n).map h).toArray.size=n:=by simp
 rw[size_flatK,hsz]at ht;have hk0:0<k:=by rcases Nat.eq_zero_or_pos k with h0|h0;rw[h0]at ht;omega;exact h0
 obtain⟨i,j,hj,rfl⟩:∃i j,j<k/\t=i*k+j:=⟨t / k,t % k,Nat.mod_lt _ hk0,by rw[Nat.mul_comm];exact(Nat.div_add_mod t k).symm⟩
 have hi:i<n:=by
  refine Nat.lt_of_not_le fun hle=>?_
  have:=Nat.mul_le_mul_right k hle;omega
 have hd:((List.range n).map h).toArray[i]! = h i:=by
  rw[getElem!_pos _ i (by rw[hsz];exact hi)];simp
 rw[tA hk _ i j (by rw[hsz];exact hi) hj,hd,Nat.zero_add];have hg:=L4 (cells:=fun t=>cells (h t)) (n:=n) (fun i _=>hk _) hi hj;have hjl:j<((cells (h i)).map AV.den).length:=by rw[List.length_map,hk];exact hj
 rw[List.getElem?_eq_getElem hjl]at hg;refine⟨?_,?_⟩
 .rw [M8 hO hb _ _ hg,getElem!_pos _ j hjl];rfl
 obtain⟨_,h2|⟨g,cap,cur,hv,_,hcur,_⟩⟩:=hO
 .obtain ⟨h0,_⟩:=h2;omega
 injection hv with e1
 rw[hA]at e1;injection e1 with e1
 injection e1 with e1
 subst e1;simp[World.frozen?,hcur]
theorem nm(d':Array α)(m:Nat)(os:Array Obj){b:Nat}(hb:b<w.heap.size):(sortWorldK (io cells) k w b 0 m d' os).heap[b]? = (w.heap[b]?).map (Go.Sort.onCells (Go.Sort.putCells id 0 (flatK (io cells) k d')))/\∀x,x<w.heap.size->x≠b->(sortWorldK (io cells) k w b 0 m d' os).heap[x]? = w.heap[x]?:=by
 have hsz:(putRowK (io cells) k (Go.Sort.ahead w m) b 0 d').heap.size=w.heap.size:=by simp[putRowK,Go.Sort.putRow,Go.Sort.mapBlock,Go.Sort.ahead]
 refine⟨?_,fun x hx hne=>?_⟩
 .unfold sortWorldK Go.Sort.grow
  simp only;rw[Array.getElem?_append_left (by rw[hsz];exact hb)];simp[putRowK,Go.Sort.putRow,Go.Sort.mapBlock,Go.Sort.ahead,Array.getElem?_modify]
 unfold sortWorldK Go.Sort.grow;simp only;rw[Array.getElem?_append_left (by rw[hsz];exact hx)];simp[putRowK,Go.Sort.putRow,Go.Sort.mapBlock,Go.Sort.ahead,Array.getElem?_modify];intro e;exact absurd e.symm hne
theorem wZ(hk:∀x,(cells x).length=k)(hO:Own w B e k (.slice A n c) n (j9 (fun t=>cells (h t)) n))(hn:0<n){b:Nat}(hA:A=some ⟨b,0,none⟩)(hb:b<w.heap.size)(d':Array α)(hd:d'.size=n)(m:Nat)(os:Array Obj) :
  Own (sortWorldK (io cells) k w b 0 m d' os) B e k (.slice A n c) n (j9 (fun t=>cells d'[t]!) n):=by
 have hlen:(j9 (fun t=>cells d'[t]!) n).length=n*k:=Q3 fun i _=>hk _
 refine⟨hlen,?_⟩
 rcases hO.2 with⟨h0,_⟩|⟨g,cap,cur,hv,h1,h2,h3,h4,h5,h6,h7⟩
 .omega
 injection hv with e1 e2 e3
 subst e3;have:g=b:=by rw[hA]at e1;injection e1 with e1;injection e1 with e1;exact e1.symm
 subst this;subst e1
 right
 refine⟨g,c,Go.Sort.putCells id 0 (flatK (io cells) k d') cur,rfl,h1,?_,h3,h4,h5,?_,?_⟩
 .rw [(nm d' m os hb).1,h2];rfl
 .simp [Go.Sort.putCells,h6]
 apply List.ext_getElem?;intro t
 by_cases ht:t<n*k
 .have hcs:t<cur.size:=by
   rw[h6];have:=Nat.mul_le_mul_right k h3;omega
  rw[List.getElem?_take_of_lt ht];have hk0:0<k:=by rcases Nat.eq_zero_or_pos k with h0|h0;rw[h0]at ht;omega;exact h0
  obtain⟨i,j,hj,rfl⟩:∃i j,j<k/\t=i*k+j:=⟨t / k,t % k,Nat.mod_lt _ hk0,by rw[Nat.mul_comm];exact(Nat.div_add_mod t k).symm⟩
  have hi:i<n:=by
   refine Nat.lt_of_not_le fun hle=>?_
   have:=Nat.mul_le_mul_right k hle;omega
  rw[L4 (cells:=fun t=>cells d'[t]!) (n:=n) (fun i _=>hk _) hi hj];have hf:=tA hk d' i j (by rw[hd];exact hi) hj;have hjl:j<((cells d'[i]!).map AV.den).length:=by rw[List.length_map,hk];exact hj
  rw[getElem!_pos _ j hjl]at hf;simp only[Array.getElem?_toList,Go.Sort.putCells,Array.getElem?_mapIdx,Array.getElem?_eq_getElem hcs,Option.map_some,Nat.zero_le,true_and,Nat.zero_add,Nat.sub_zero,size_flatK,hd,ht,if_true,id];rw[hf,List.getElem?_eq_getElem hjl]
 rw[List.getElem?_eq_none (by rw[List.length_take];omega),List.getElem?_eq_none (by rw[hlen];omega)]
theorem wt{P:Program}{f:Nat}{fv:Value}{lt:α->α->Bool}(hk:∀x,(cells x).length=k)(hO:Own w B e k (.slice A n c) n (j9 (fun t=>cells (h t)) n))
  (hc:∀b (d:Array α),d.size=n->HoldsK (io cells) k w b 0 d->b<w.heap.size->Calls P f #[.slice (some ⟨b,0,none⟩) d.size c,fv] w fun e w'=>e = .returned (.tuple #[])/\∃d' m os,Go.Sort.PermIn 0 d.size d d'/\Go.Sort.SortedIn lt 0 d.size d'/\w'=sortWorldK (io cells) k w b 0 m d' os)
  (h0:n=0->Calls P f #[.slice A 0 c,fv] w fun e w'=>e = .returned (.tuple #[])/\w'=w) :
  Calls P f #[.slice A n c,fv] w fun e' w'=>e' = .returned (.tuple #[])/\∃h':Nat->α,((List.range n).map h').Perm ((List.range n).map h)/\(∀i j,i<j->j<n->lt (h' j) (h' i)=false)/\Own w' B e k (.slice A n c) n (j9 (fun t=>cells (h' t)) n)/\Chg (fun x=>o6 (.slice A n c)=some x) w w':=by
 rcases Nat.eq_zero_or_pos n with hn|hn
 .subst hn
  refine(h0 rfl).mono ?_
  rintro e' w' ⟨rfl,rfl⟩
  exact⟨rfl,h,.refl _,fun i j _ hj=>absurd hj (Nat.not_lt_zero _),hO,Chg.refl _ _⟩
 obtain⟨b,hA,O,hb,hH⟩:=oD hk hO hn;have hsz:((List.range n).map h).toArray.size=n:=by simp
 have:=hc b _ hsz hH hb;rw[hsz,<-hA]at this;refine this.mono ?_
 rintro e' w' ⟨rfl,d',m,os,hp,hs,rfl⟩
 have hd:d'.size=n:=by rw[hp.1,hsz]
 refine⟨rfl,fun i=>d'[i]!,?_,fun i j hij hj=>hs i j (Nat.zero_le _) hij hj,wZ hk hO hn hA hb d' hd m os,?_⟩
 .have h3:=hp.2.2
  have e1:(d'.extract 0 n).toList=(List.range n).map fun i=>d'[i]!:=by
   apply List.ext_getElem
   .simp [hd]
   intro i g1 g2;have hi:i<n:=by simpa using g2
   simp[getElem!_pos d' i (by rw[hd];exact hi)]
  have e2:(((List.range n).map h).toArray.extract 0 n).toList=(List.range n).map h:=by
   simp[List.take_of_length_le]
  rw[e1,e2]at h3;exact h3
 have hown:o6 (.slice A n c)=some b:=by
  obtain⟨b',hA',hb'⟩:=M2 hO hn;rw[hA]at hA';injection hA' with hA';injection hA' with hA'
  rw[hA'];exact hb'
 refine⟨rfl,rfl,rfl,?_,fun x hx hne=>(nm d' m os hb).2 x hx (fun e=>hne (by rw[e];exact hown))⟩;exact size_sortWorldK_c (io cells) k w b 0 m d' os
end
theorem uH{m:Nat->Nat->Prop}{w:World}{B e k:Nat}{A:Option Addr}{n c:Nat}{f:Nat->List AV}(hO:Own w B e k (.slice A n c) n (j9 f n))(hk:∀i,i<n->(f i).length=k)(hm:∀b,o6 (.slice A n c)=some b->∀o,¬m b o)(h1:∀i,i<n->∀v∈f i,v.one=true/\Ok m w v)(g:Option Nat):Ok m w (.sl g A n c k f):=by
 obtain⟨A',c',he,h2,h3⟩:=hO.isSlice;injection he with e1 e2 e3;subst e3
 refine .sl _ _ _ _ _ _ h2 h3 hk (fun i hi=>?_) (fun i hi=>?_) (fun i hi v hv=>(h1 i hi v hv).1) (fun i hi v hv=>(h1 i hi v hv).2)
 .obtain ⟨b,hA,_⟩:=M2 hO (by omega)
  exact⟨b,0,hA⟩
 obtain⟨b,hA,hb⟩:=M2 hO (by omega);intro j u hu;have hj:j<k:=by
  have:=(List.getElem?_eq_some_iff.1 hu).1
  rwa[List.length_map,hk i hi]at this
 have hget:=L4 (cells:=f) hk hi hj;rw[hu]at hget;exact⟨b,0,hA,by rw[Nat.zero_add];exact M8 hO hb _ u hget,hm b hb _⟩
theorem b6.sorted{m0:Nat->Nat->Prop}{w0:World}{S:Nat->Prop}{ds:List Deferred}{K:Kn}{nt key:Nat}{t:Gr}{l l':List (Nat×AV)}{mem:List (Nat×Blk)}{a:Act}{w w':World}(h:b6 ⟨m0,w0,S,ds,K⟩ ⟨nt,l,[],mem,[(key,t)]⟩ a w)(hc:Chg (fun x=>o6 t.v=some x) w w')
  (hl:∀x,(look l' x).known=true->a.tmps[x]? = some (look l' x).den/\Ok (St.m ⟨nt,l',[],mem,[]⟩ ⟨m0,w0,S,ds,noK⟩) w' (look l' x)) (hm:∀k e,i6 mem k=some e->∀v∈e.cells,Ok (St.m ⟨nt,l',[],mem,[]⟩ ⟨m0,w0,S,ds,noK⟩) w' v):b6 ⟨m0,w0,S,ds,noK⟩ ⟨nt,l',[],mem,[]⟩ a w':=by
 have hlt:∀b,o6 t.v=some b->w0.heap.size<=b:=fun b hb=>by
  obtain⟨_,xs,ho⟩:=h.gr key t (by simp[i6]);exact(ho.lt b hb).1
 refine⟨h.size,h.defers,hl,(fun t p v hg=>by cases hg),fun k e he=>?_,h.nodup,(fun k t ht=>by cases ht),(fun k t k' e ht=>by cases ht),(fun k t k' t' b ht=>by cases ht),?_,h.m0,trivial⟩
 .obtain ⟨h1,h2,h3⟩:=h.mem k e he
  refine⟨?_,fun v hv=>⟨(h2 v hv).1,hm k e he v hv⟩,h3⟩;rw[hc.block _ (ct h1) (fun hb=>h.sepm key t k e (by simp[i6]) he hb)];exact h1
 exact h.chg.trans hc fun k hk hb=>absurd hk (Nat.not_lt.2 (hlt k hb))
theorem b6.notM{m0:Nat->Nat->Prop}{w0:World}{S:Nat->Prop}{ds:List Deferred}{K:Kn}{nt key:Nat}{t:Gr}{l l':List (Nat×AV)}{mem:List (Nat×Blk)}{a:Act}{w:World}(h:b6 ⟨m0,w0,S,ds,K⟩ ⟨nt,l,[],mem,[(key,t)]⟩ a w):∀b,o6 t.v=some b->∀o,¬St.m ⟨nt,l',[],mem,[]⟩ ⟨m0,w0,S,ds,noK⟩ b o:=by
 intro b hb o hm;obtain⟨_,xs,ho⟩:=h.gr key t (by simp[i6]);have h1:=(ho.lt b hb).1
 rcases hm with hm|⟨k,e,he,hm⟩|⟨k,t',ht,_⟩
 .exact absurd (h.m0 _ _ hm) (Nat.not_lt.2 h1)
 .subst hm
  exact h.sepm key t k e (by simp[i6]) he hb
 cases ht
end Go.Proofs.YtmbkanpapkhnaaaGreat.Sym
namespace Go.Proofs.YtmbkanpapkhnaaaGreat.Sym
open Go Go.RowKit
def mD(x y:Int):Int:=if x<y then -1 else if y<x then 1 else 0
theorem FU(x y:Int)(w:World):Calls Tryz.prog 70 #[.int .u64 x,.int .u64 y] w fun e w'=>e = .returned (.int .i64 (mD x y))/\w'=w:=by
 have hn:∀(x:Int) (w:World),Calls Tryz.prog 135 #[.int .u64 x] w fun e w'=>e = .returned (.bool false)/\w'=w:=by
  intro x w
  go_enter Tryz.func135,Tryz.ntmps135
  go_wp2_with fail
  go_ret
  simp
 unfold mD
 go_enter Tryz.func70,Tryz.ntmps70
 go_wp2_with (go_at_call 135;refine(hn _ _).mono ?_;rintro e w' ⟨rfl,rfl⟩)
 all_goals(go_ret;exact⟨rfl,rfl⟩)
theorem FV(x y:Int)(w:World):Calls Tryz.prog 107 #[.int .i64 x,.int .i64 y] w fun e w'=>e = .returned (.int .i64 (mD x y))/\w'=w:=by
 have hn:∀(x:Int) (w:World),Calls Tryz.prog 158 #[.int .i64 x] w fun e w'=>e = .returned (.bool false)/\w'=w:=by
  intro x w
  go_enter Tryz.func158,Tryz.ntmps158
  go_wp2_with fail
  go_ret
  simp
 unfold mD
 go_enter Tryz.func107,Tryz.ntmps107
 go_wp2_with (go_at_call 158;refine(hn _ _).mono ?_;rintro e w' ⟨rfl,rfl⟩)
 all_goals(go_ret;exact⟨rfl,rfl⟩)
theorem IQ(b:Nat)(x y:Int)(w:World)(h0:w.cell? ⟨b,0,none⟩=some (.int .i64 x))(h1:w.cell? ⟨b,1,none⟩=some (.int .i64 y)):Calls Tryz.prog 106 #[.slice (some ⟨b,0,none⟩) 2 2] w fun e w'=>e = .returned (.int .i64 (if x≠0 then x else y))/\w'=w:=by
 go_enter Tryz.func106,Tryz.ntmps106
 go_wp2_with fail
 refine wp_loop_rounds 3 ?_;simp only[Code.rounds]
 go_wp2_with fail
 all_goals(go_ret;first|exact⟨rfl,rfl⟩|(exfalso;simp_all;done)|(refine⟨?_,rfl⟩;simp_all;done))
def GrF(W w:World):Prop:=∃q os,w=Go.Sort.grow (W.drewN q) os
theorem GrF.refl(W:World):GrF W W:=⟨0,#[],by simp[Go.Sort.grow,World.drewN]⟩
theorem GrF.drew{W w:World}(h:GrF W w):GrF W w.drew:=by
 obtain⟨q,os,rfl⟩:=h;exact⟨q+1,os,rfl⟩
theorem GrF.alloc{W w:World}(h:GrF W w)(o:Obj):GrF W (w.alloc o):=by
 obtain⟨q,os,rfl⟩:=h;exact⟨q,os.push o,by simp[Go.Sort.grow,World.alloc,World.drewN]⟩
theorem GrF.size{W w:World}(h:GrF W w):W.heap.size<=w.heap.size:=by
 obtain⟨q,os,rfl⟩:=h;simp[Go.Sort.grow,World.drewN]
theorem rZ{w:World}{a:Addr}{u:Value}(h:w.cell? a=some u)(o:Obj):(w.alloc o).cell? a=some u:=by
 have hl:=World.block_lt_of_cell? w _ h;unfold World.cell? at h ⊢;rw[Below.heap_alloc _ _ _ hl];exact h
theorem nK{w:World}{a:Addr}{u:Value}(h:w.cell? a=some u):w.drew.cell? a=some u:=h
theorem xx(w:World)(x y:Value)(t:TypeId):(w.alloc (.cells #[x,y] t)).cell? ⟨w.heap.size,0,none⟩=some x:=cell_of_row _ _ 0 _ _ _ (heap_alloc_new w _)
theorem xw(w:World)(x y:Value)(t:TypeId):(w.alloc (.cells #[x,y] t)).cell? ⟨w.heap.size,1,none⟩=some y:=cell_of_row _ _ 1 _ _ _ (heap_alloc_new w _)
theorem size_alloc{n:Nat}{w:World}(h:n<=w.heap.size)(o:Obj):n<=(w.alloc o).heap.size:=by simp;omega
def lZ(a b:Lab):Int:=if mD a.bits b.bits≠0 then mD a.bits b.bits else mD a.len b.len
end Go.Proofs.YtmbkanpapkhnaaaGreat.Sym
namespace Go.Proofs
open Go.Shelf
def Tryz.sortRow_ren:Go.Shelf.Ren:=⟨fun|6=>77|15=>138|14=>137|28=>200|29=>201|20=>192|21=>193|22=>194|23=>195|24=>196|25=>197|26=>198|27=>199|46=>245|47=>246|48=>247|49=>248|50=>249|57=>282|n=>n,fun|22=>46|24=>92|25=>129|3=>3|39=>156|0=>0|53=>26|55=>22|4=>4|46=>231|45=>230|50=>235|5=>5|9=>9|66=>272|70=>275|76=>297|77=>298|n=>n,fun|n=>n⟩
theorem Tryz.sortRow:Go.Proofs.SlLaysF0.n6 Tryz.prog Tryz.sortRow_ren:={
 mixed:=by kernel_rfl
 f6:=⟨Tryz.f77.name,by decide,Tryz.func77.trans (congrArg some (by kernel_rfl))⟩
 f14:=⟨Tryz.f137.name,by decide,Tryz.func137.trans (congrArg some (by kernel_rfl))⟩
 f15:=Tryz.func138.trans (congrArg some (by kernel_rfl))
 f20:=⟨Tryz.f192.name,by decide,Tryz.func192.trans (congrArg some (by kernel_rfl))⟩
 f21:=⟨Tryz.f193.name,by decide,Tryz.func193.trans (congrArg some (by kernel_rfl))⟩
 f22:=⟨Tryz.f194.name,by decide,Tryz.func194.trans (congrArg some (by kernel_rfl))⟩
 f23:=⟨Tryz.f195.name,by decide,Tryz.func195.trans (congrArg some (by kernel_rfl))⟩
 f24:=⟨Tryz.f196.name,by decide,Tryz.func196.trans (congrArg some (by kernel_rfl))⟩
 f25:=⟨Tryz.f197.name,by decide,Tryz.func197.trans (congrArg some (by kernel_rfl))⟩
 f26:=⟨Tryz.f198.name,by decide,Tryz.func198.trans (congrArg some (by kernel_rfl))⟩
 f27:=⟨Tryz.f199.name,by decide,Tryz.func199.trans (congrArg some (by kernel_rfl))⟩
 f28:=Tryz.func200.trans (congrArg some (by kernel_rfl))
 f29:=Tryz.func201.trans (congrArg some (by kernel_rfl))
 f46:=⟨Tryz.f245.name,by decide,Tryz.func245.trans (congrArg some (by kernel_rfl))⟩
 f47:=Tryz.func246.trans (congrArg some (by kernel_rfl))
 f48:=Tryz.func247.trans (congrArg some (by kernel_rfl))
 f49:=⟨Tryz.f248.name,by decide,Tryz.func248.trans (congrArg some (by kernel_rfl))⟩
 f50:=⟨Tryz.f249.name,by decide,Tryz.func249.trans (congrArg some (by kernel_rfl))⟩
 f57:=⟨Tryz.f282.name,by decide,Tryz.func282.trans (congrArg some (by kernel_rfl))⟩
 t0:=Tryz.underlying0
 a0:=Tryz.isAgg0
 z0:=Tryz.sizeOf0
 v0:=Tryz.zeroValue0
 t3:=Tryz.underlying3
 a3:=Tryz.isAgg3
 z3:=Tryz.sizeOf3
 v3:=Tryz.zeroValue3
 t4:=Tryz.underlying4
 a4:=Tryz.isAgg4
 z4:=Tryz.sizeOf4
 v4:=Tryz.zeroValue4
 t5:=Tryz.underlying5
 a5:=Tryz.isAgg5
 z5:=Tryz.sizeOf5
 v5:=Tryz.zeroValue5
 t9:=Tryz.underlying9
 a9:=Tryz.isAgg9
 z9:=Tryz.sizeOf9
 v9:=Tryz.zeroValue9
 t22:=Tryz.underlying46
 a22:=Tryz.isAgg46
 z22:=Tryz.sizeOf46
 v22:=Tryz.zeroValue46
 t25:=Tryz.underlying129
 a25:=Tryz.isAgg129
 z25:=Tryz.sizeOf129
 v25:=Tryz.zeroValue129
 t39:=Tryz.underlying156
 a39:=Tryz.isAgg156
 z39:=Tryz.sizeOf156
 v39:=Tryz.zeroValue156
 t45:=Tryz.underlying230
 a45:=Tryz.isAgg230
 z45:=Tryz.sizeOf230
 v45:=Tryz.zeroValue230
 t46:=Tryz.underlying231
 a46:=Tryz.isAgg231
 z46:=Tryz.sizeOf231
 v46:=Tryz.zeroValue231
 t50:=Tryz.underlying235
 a50:=Tryz.isAgg235
 z50:=Tryz.sizeOf235
 v50:=Tryz.zeroValue235
 t53:=Tryz.underlying26
 a53:=Tryz.isAgg26
 z53:=Tryz.sizeOf26
 v53:=Tryz.zeroValue26
 t55:=Tryz.underlying22
 a55:=Tryz.isAgg22
 z55:=Tryz.sizeOf22
 v55:=Tryz.zeroValue22
 t66:=Tryz.underlying272
 a66:=Tryz.isAgg272
 z66:=Tryz.sizeOf272
 v66:=Tryz.zeroValue272
 t70:=Tryz.underlying275
 a70:=Tryz.isAgg275
 z70:=Tryz.sizeOf275
 v70:=Tryz.zeroValue275
 t76:=Tryz.underlying297
 a76:=Tryz.isAgg297
 z76:=Tryz.sizeOf297
 v76:=Tryz.zeroValue297
 t77:=Tryz.underlying298
 a77:=Tryz.isAgg298
 z77:=Tryz.sizeOf298
 v77:=Tryz.zeroValue298 }
end Go.Proofs
namespace Go.Proofs.YtmbkanpapkhnaaaGreat.Sym
open Go Go.RowKit Go.Sort
instance : Inhabited C1 := ⟨qM⟩
def gO(a b:Lab):Bool:=decide (lZ a b<0)
theorem jc(a b:Lab):gO a b=true↔a.bits<b.bits \/ (a.bits=b.bits/\a.len<b.len):=by
 unfold gO lZ mD;rw[decide_eq_true_iff]
 split<;>rename_i h<;>(repeat' split at h)<;>(repeat' split)<;>omega
theorem ni(a b:Lab):gO a b=false ↔ ¬(a.bits<b.bits \/ (a.bits=b.bits/\a.len<b.len)):=by
 rw[<-jc];simp
def qx(x y:C1):Int:=lZ x.lab y.lab
theorem mb(x y:C1):ltOf qx x y=gO x.lab y.lab:=rfl
theorem DU:SWO (ltOf qx):=by
 refine⟨fun x=>?_,fun x y z h1 h2=>?_,fun x y z h1 h2=>?_⟩
 .rw [mb,ni];omega
 .rw [mb,jc]at *;omega
 rw[mb,ni]at *;omega
end Go.Proofs.YtmbkanpapkhnaaaGreat.Sym
namespace Go.Proofs.YtmbkanpapkhnaaaGreat.Sym
open Go Go.RowKit
theorem wH(a b:C1)(W:World):Calls Tryz.prog 105 #[.agg ((T8 a).map AV.den).toArray,.agg ((T8 b).map AV.den).toArray] W fun e w'=>e = .returned (.int .i64 (lZ a.lab b.lab))/\GrF W w':=by
 obtain⟨⟨al,ab⟩,av,⟨aA,ac,⟨an,af,ak,⟨anl,anb⟩,am⟩⟩⟩:=a;obtain⟨⟨bl,bb⟩,bv,⟨bA,bc,⟨bn,bf,bk,⟨bnl,bnb⟩,bm⟩⟩⟩:=b;simp only[T8,List.map_cons,List.map_nil,AV.den,lZ];have hU:=fun w=>FU ab bb w
 have hN:=fun w=>FV al bl w
 generalize mD ab bb=x at hU ⊢
 generalize mD al bl=y at hN ⊢
 have hO:=fun b w h0 h1=>IQ b x y w h0 h1
 generalize (if x≠0 then x else y)=r at hO ⊢
 go_enter Tryz.func105,Tryz.ntmps105
 go_wp2_with fail
 obtain⟨W5,hW5⟩:=eqv ((W.alloc (.cells #[.int .i64 al,.int .u64 ab,.int .u64 av,.int .i64 ak,.slice aA an ac,.int .i64 anl,.int .u64 anb,.int .u64 am] 92)).alloc (.cells #[.int .i64 bl,.int .u64 bb,.int .u64 bv,.int .i64 bk,.slice bA bn bc,.int .i64 bnl,.int .u64 bnb,.int .u64 bm] 92));have hG:GrF W W5:=by rw[hW5];exact((GrF.refl W).alloc _).alloc _
 have hs:W5.heap.size=W.heap.size+1+1:=by rw[hW5];simp
 have z0:W5.heap[W.heap.size]? = some (.cells #[.int .i64 al,.int .u64 ab,.int .u64 av,.int .i64 ak,.slice aA an ac,.int .i64 anl,.int .u64 anb,.int .u64 am] 92 (0,0)):=by
  rw[hW5,Below.heap_alloc _ _ _ (by simp)];exact heap_alloc_new W _
 have z1:W5.heap[W.heap.size+1]? = some (.cells #[.int .i64 bl,.int .u64 bb,.int .u64 bv,.int .i64 bk,.slice bA bn bc,.int .i64 bnl,.int .u64 bnb,.int .u64 bm] 92 (0,0)):=by
  have:=heap_alloc_new (W.alloc (.cells #[.int .i64 al,.int .u64 ab,.int .u64 av,.int .i64 ak,.slice aA an ac,.int .i64 anl,.int .u64 anb,.int .u64 am] 92)) (.cells #[.int .i64 bl,.int .u64 bb,.int .u64 bv,.int .i64 bk,.slice bA bn bc,.int .i64 bnl,.int .u64 bnb,.int .u64 bm] 92);rw[hW5];simpa using this
 have c0:W5.cell? ⟨W.heap.size,0,none⟩=some (.int .i64 al):=cell_of_row W5 _ 0 _ _ _ z0;have c1:W5.cell? ⟨W.heap.size,1,none⟩=some (.int .u64 ab):=cell_of_row W5 _ 1 _ _ _ z0;have c2:W5.cell? ⟨W.heap.size+1,0,none⟩=some (.int .i64 bl):=cell_of_row W5 _ 0 _ _ _ z1;have c3:W5.cell? ⟨W.heap.size+1,1,none⟩=some (.int .u64 bb):=cell_of_row W5 _ 1 _ _ _ z1;clear z0 z1;rw[<-hW5];clear hW5;clear hs
 go_region_held3 (fun w'=>w'.cell? ⟨W.heap.size,0,none⟩=some (.int .i64 al)/\w'.cell? ⟨W.heap.size,1,none⟩=some (.int .u64 ab)/\w'.cell? ⟨W.heap.size+1,0,none⟩=some (.int .i64 bl)/\w'.cell? ⟨W.heap.size+1,1,none⟩=some (.int .u64 bb)/\W5.heap.size<=w'.heap.size/\GrF W w')
  ((go_split_ands;(repeat' apply And.intro)<;>first|with_reducible assumption|with_reducible exact GrF.drew (by assumption)|with_reducible exact GrF.alloc (by assumption) _|with_reducible exact GrF.drew (GrF.alloc (by assumption) _)|with_reducible exact rZ (by assumption) _|with_reducible exact size_alloc (by assumption) _|go_keep))
  (first|(go_at_call 70;refine(hU _).mono ?_;rintro e w' ⟨rfl,rfl⟩)|(go_at_call 107;refine(hN _).mono ?_;rintro e w' ⟨rfl,rfl⟩)|(go_at_call 106;refine(hO _ _ (by first|exact xx _ _ _ _|exact nK (xx _ _ _ _)) (by first|exact xw _ _ _ _|exact nK (xw _ _ _ _))).mono ?_;rintro e w' ⟨rfl,rfl⟩))
 all_goals(go_wp2_with fail;go_ret;exact⟨rfl,by first|exact(hG.alloc _).drew|exact hG.alloc _⟩)
end Go.Proofs.YtmbkanpapkhnaaaGreat.Sym
namespace Go.Proofs.YtmbkanpapkhnaaaGreat.Sym
open Go Go.RowKit Go.Sort
theorem un{n B e:Nat}{A:Option Addr}{c:Nat}{h:Nat->C1}{w:World}(hO:Own w B e 8 (.slice A n c) n (j9 (fun t=>T8 (h t)) n))(hn:n<4611686018427387904) :
  Calls Tryz.prog 77 #[.slice A n c,.func (.func 105) #[] #[]] w fun e' w'=>e' = .returned (.tuple #[])/\∃h':Nat->C1,((List.range n).map h').Perm ((List.range n).map h)/\(∀i j,i<j->j<n->gO (h' j).lab (h' i).lab=false)/\Own w' B e 8 (.slice A n c) n (j9 (fun t=>T8 (h' t)) n)/\Chg (fun x=>o6 (.slice A n c)=some x) w w':=by
 refine wt (cells:=T8) (lt:=ltOf qx) (k:=8) (fun _=>rfl) hO (fun b d hd hH hb=>?_) (fun h0=>?_)
 .have eg:∀args w,(callFunc 105 args).run Tryz.prog w = .ok (.enter 105 args) w:=enters_of Tryz.func105 (by kernel_rfl) rfl
  have hcmp:CmpLays Tryz.prog 105 #[] (io T8) 8 qx b 0 d.size w:=by
   intro m os dk hdk x y;refine(wH x y _).mono ?_
   rintro e w' ⟨rfl,q,os',rfl⟩
   exact⟨rfl,q,os',rfl⟩
  have:=AnyQ.slices_SortFunc Tryz.sortRow 8 (fun _=>by kernel_rfl) (fun _=>by kernel_rfl) (io T8) (fun _=>rfl) (fun x v hv=>by
   simp only[io,T8,List.map_cons,List.map_nil,AV.den,List.mem_cons,List.not_mem_nil,or_false]at hv
   rcases hv with rfl|rfl|rfl|rfl|rfl|rfl|rfl|rfl<;>rfl) qx DU 105 #[] b 0 c d w eg hcmp hH hb (by omega)
  exact this
 exact AnyF.slices_SortFunc_none (P:=Tryz.prog) (ρ:=Tryz.sortRow_ren) { Tryz.sortRow with } A c _ w
end Go.Proofs.YtmbkanpapkhnaaaGreat.Sym
namespace Go.Proofs.YtmbkanpapkhnaaaGreat.Sym
open Go Go.RowKit
section
variable {m0:Nat->Nat->Prop} {w0:World} {S:Nat->Prop} {ds:List Deferred} {K:Kn} {P:Program} {Q:Exit->Act->World->Prop} {ops:Array Oper} {s:St} {a:Act} {w:World} {L rest:List Oper} {o:Oper}
open Go.Maps in
theorem uT{it:Operand}{k:TypeId}{d b r n cnt:Nat}{D:DataW Value}{left:Lit->Bool}(hL:L=o::rest)(hg:o.guard=none)(hop:o.op = .next it false)(hdst:o.dst=some d)(h:b6 ⟨m0,w0,S,ds,K⟩ s a w)(hd:d<s.nt)(hit:val s [] it = .raw (.pointer (some ⟨r,0,none⟩)))
  (Kd:Keyed P k) (hM:w.ranges P k hR b r n D left cnt) (hC:r<w0.heap.size->S r)
  (K1:Bool->Value->Value->Lit->Nat->Kn) (hK0:∀m,K.p m w->(∀kl,left kl=false)->(K1 false (.bool false) (.bool false) (.bool false) 0).p m w) (hK1:∀key v kl cnt' m w',K.p m w->Z5 (some r) w m w' m->w'.ranges P k hR b r n D (fun x=>left x && !x.sameKey kl) cnt'->dO P w' r key v->(K1 true key v kl cnt').p m w')
  (K':∀a' w' bb rest' key v kl cnt',(bb=false->∀kl,left kl=false)->(bb=true->Go.keyOf P k key=some kl/\left kl=true/\(∀zd,D.atKey kl zd = .held v)/\cnt'<cnt)->b6 ⟨m0,w0,S,ds,K1 bb key v kl cnt'⟩ (s.put (some d) (.tup (.bool (.v bb)::rest'))) a' w'->wpList P ops Q rest a' w'):wpList P ops Q L a w:=by
 have hiv:=(F1 h (q:=[]) (fun _ h=>by cases h) (x:=it) (by rw[hit];rfl)).1;rw[hit]at hiv;have hr0:∃o',w.heap[r]? = some o'/\∀c t f,o'≠Obj.cells c t f:=by
  obtain⟨es,clock,since,seen,c0,_,_,_,_,hr,_⟩:=hM;exact⟨_,hr,fun c t f e=>by cases e⟩
 obtain⟨o',hr,hro⟩:=hr0;refine bD hL hg ?_;unfold Oper.wp
 rcases hM.next Kd o.type with⟨h0,hl,hrun⟩|⟨key,v,kl,y,w',cnt',hkey,hlk,hv,hat,hrun,hrg,hlt,hgr,hsz,hen⟩
 .have e1:(execOp a.eval o).run P w = .ok (.value (.tuple #[.bool false])) w:=by simp[execOp,hop,hiv,hrun,Result.andThen,AV.den]
  rw[e1];simp only[Oper.upon];rw[hdst];exact K' _ _ false [] (.bool false) (.bool false) (.bool false) 0 (fun _=>hl) (fun h=>by cases h) ((h.withK (hK0 _ h.kept hl)).put (some d) (fun t ht=>by injection ht with ht;subst ht;exact hd) (.tup [.bool (.v false)]) (fun _=>.tup _ fun u hu=>by simp at hu;subst hu;exact .bool _) _ fun _=>rfl)
 have e1:(execOp a.eval o).run P w = .ok (.value (.tuple #[.bool true,key,v])) w':=by simp[execOp,hop,hiv,hrun,Result.andThen,AV.den]
 rw[e1];simp only[Oper.upon];rw[hdst];have hv':y.1 = .held v:=by unfold hR at hv;injection hv with hv;rw[<-hv]
 have hea:dO P w' r key v:=by
  obtain⟨es,clock,since,seen,c0,hb',_,_,_,hr',_⟩:=hrg;exact⟨⟨_,_,_,_,_,_,hr',hb'⟩,hen⟩
 have h2:=h.turn hr hro hgr hC (hK1 key v kl cnt' _ _ h.kept (dh hr hro hgr) hrg hea);refine K' _ _ true [.raw key,.raw v] key v kl cnt' (fun h=>by cases h) (fun _=>⟨hkey,hlk,fun zd=>(hat zd).trans hv',hlt⟩) (h2.put (some d) (fun t ht=>by injection ht with ht;subst ht;exact hd) (.tup [.bool (.v true),.raw key,.raw v]) (fun _=>.tup _ fun u hu=>?_) _ fun _=>rfl);simp only[List.mem_cons,List.not_mem_nil,or_false]at hu
 rcases hu with rfl|rfl|rfl
 .exact .bool _
 .exact .raw _
 exact .raw _
theorem xb{m:Nat->Nat->Prop}{w:World}{B e k:Nat}{g:Option Nat}{A:Option Addr}{n c:Nat}{f:Nat->List AV}{xs:List Value}(hO:Own w B e k (.slice A n c) n xs)(hk:Ok m w (.sl g A n c k f)):xs=j9 f n:=by
 cases hk with
 |sl _ _ _ _ _ _ h1 h2 h3 h4 h5 h6 h7=>
  have hl1:=hO.1;have hl2:=Q3 (cells:=f) (k:=k) (n:=n) h3;apply List.ext_getElem
  .rw [hl1,hl2]
  intro t g1 g2;have ht:t<n*k:=by rw[hl1]at g1;exact g1
  have hk0:0<k:=by rcases Nat.eq_zero_or_pos k with h0|h0;rw[h0]at ht;omega;exact h0
  obtain⟨i,j,hj,rfl⟩:∃i j,j<k/\t=i*k+j:=⟨t / k,t % k,Nat.mod_lt _ hk0,by rw[Nat.mul_comm];exact(Nat.div_add_mod t k).symm⟩
  have hi:i<n:=by
   refine Nat.lt_of_not_le fun hle=>?_
   have:=Nat.mul_le_mul_right k hle;omega
  obtain⟨b,hA,hb⟩:=M2 hO (by omega);have e1:=M8 hO hb (i*k+j) _ (List.getElem?_eq_getElem g1);have hjl:j<((f i).map AV.den).length:=by rw[List.length_map,h3 i hi];exact hj
  obtain⟨b',off,hA',e2,_⟩:=h5 i hi j _ (List.getElem?_eq_getElem hjl);have hg:=L4 (cells:=f) h3 hi hj;rw[List.getElem?_eq_getElem g2,List.getElem?_eq_getElem hjl]at hg;rw[hA]at hA';injection hA' with hA';injection hA' with q1 q2
  subst q1;subst q2;rw[Nat.zero_add]at e2;rw[e1]at e2;injection e2 with e2
  injection hg with hg
  rw[e2,hg]
theorem rp{nt key d:Nat}{t:Gr}{l:List (Nat×AV)}{mem:List (Nat×Blk)}{c:Call}{g:Operand}{f:FuncId}{args:List AV}(hL:L=o::rest)(hg:o.guard=none)(hop:o.op = .call c)(hcal:c.callee = .value g)(hdst:o.dst=some d)(h:b6 ⟨m0,w0,S,ds,K⟩ ⟨nt,l,[],mem,[(key,t)]⟩ a w)(hgv:val ⟨nt,l,[],mem,[(key,t)]⟩ [] g = .fn f [] [])(hl:I2 ⟨nt,l,[],mem,[(key,t)]⟩ [] c.args.toList=some args)(hen:j6 P f)
  (R:World->Prop) (hc:Calls P f (args.map AV.den).toArray w fun e w'=>e = .returned (.tuple #[])/\R w'/\Chg (fun x=>o6 t.v=some x) w w')
  (K':∀w',R w'->Chg (fun x=>o6 t.v=some x) w w'->wpList P ops Q rest (a.put (some d) (.tuple #[])) w'):wpList P ops Q L a w:=by
 refine bD hL hg ?_;obtain⟨hrun,_⟩:=iE hop hcal h hgv hl hen;unfold Oper.wp;rw[hrun];simp only[Oper.upon];simp only[List.nil_append,List.append_nil];refine hc.mono ?_
 rintro e w' ⟨rfl,h1,h2⟩
 rw[hdst];exact K' w' h1 h2
end
def wL(D:DataW Value)(E:Adr)(b r:Nat)(L:Shf)(left:Lit->Bool)(cnt:Nat):Kn:=⟨fun m w=>ShD D E b L m w/\w.ranges Tryz.prog 24 hR b r L.length D left cnt,fun k h=>⟨h.1.keep k,ez k h.2⟩⟩
def IM(D:DataW Value)(E:Adr)(b r:Nat)(L:Shf)(left:Lit->Bool)(bb:Bool)(key v:Value)(kl:Lit)(cnt:Nat):Kn:=⟨fun m w=>ShD D E b L m w/\(bb=true->w.ranges Tryz.prog 24 hR b r L.length D (fun x=>left x && !x.sameKey kl) cnt/\dO Tryz.prog w r key v),fun k h=>⟨h.1.keep k,fun hb=>⟨ez k (h.2 hb).1,lP k (h.2 hb).2⟩⟩⟩
def IU(D:DataW Value)(E:Adr)(b r:Nat)(L:Shf)(left:Lit->Bool)(key v:Value)(cnt:Nat):Kn:=⟨fun m w=>ShD D E b L m w/\w.ranges Tryz.prog 24 hR b r L.length D left cnt/\dO Tryz.prog w r key v,fun k h=>⟨h.1.keep k,ez k h.2.1,lP k h.2.2⟩⟩
theorem ShD.entry{D:DataW Value}{E:Adr}{b:Nat}{L:Shf}{m:Nat->Nat->Prop}{w:World}(h:ShD D E b L m w){key v:Value}{kl:Lit}(hk:Go.keyOf Tryz.prog 24 key=some kl)(hh:Maps.has D kl=true)(ha:∀zd,D.atKey kl zd = .held v):∃p∈L,I0 p.1=kl/\key=(f4 p.1).den/\v=(AV.agg (elC (elA E p.1 p.2))).den:=by
 obtain⟨p,hp,he⟩:=(h.has kl).1 hh;refine⟨p,hp,he,?_,?_⟩
 .exact fy.inj hk (he ▸ Y8 (h.labs p hp))
 have h1:=h.at_ p hp (.held v);rw[he,ha]at h1;injection h1
def kX(p:Lab×Spo):Rw:=⟨p.1,p.2.ver,p.2.r⟩
theorem kW(L:Shf):J3 L=(L.filter (fun p=>p.2.has)).map kX:=rfl
theorem qU(p:Lab×Spo)(L:Shf):J3 (p::L)=(if p.2.has then [kX p]else [])++J3 L:=by
 unfold J3;rw[List.filter_cons]
 split<;>rfl
theorem qT{L M:Shf}(h:L.Perm M):(J3 L).Perm (J3 M):=(h.filter _).map _
theorem mQ(L:Shf):(J3 L).length<=L.length:=by
 rw[kW,List.length_map];exact List.length_filter_le _ _
theorem mM(l:Lab):(I0 l).sameKey (I0 l)=true:=by simp[I0,Lit.sameKey]
theorem pG{l l':Lab}(h:s8 l)(h':s8 l'):(I0 l).sameKey (I0 l')=decide (l=l'):=by
 by_cases he:l=l'
 .subst he;rw[mM,decide_eq_true rfl]
 rw[decide_eq_false he];have:I0 l≠I0 l':=fun e=>he (eG h h' e)
 unfold I0 at this ⊢;simp only[Lit.sameKey]
 simpa using this
theorem nh{left:Lit->Bool}{p:Lab×Spo}:∀{L:Shf},cY L->(∀q∈L,s8 q.1)->p∈L->left (I0 p.1)=true →
  (L.filter fun q=>left (I0 q.1)).Perm (p::L.filter fun q=>left (I0 q.1) && !(I0 q.1).sameKey (I0 p.1))
 |q::L,hr,hl,hp,h1=>by
  have hr':=List.pairwise_cons.1 hr
  rcases List.mem_cons.1 hp with rfl|hp
  .rw [List.filter_cons,if_pos h1,List.filter_cons,mM]
   simp only[Bool.not_true,Bool.and_false,Bool.false_eq_true,if_false];refine List.Perm.cons _ ?_;have:∀q∈L,(left (I0 q.1))=(left (I0 q.1) && !(I0 q.1).sameKey (I0 p.1)):=by
    intro q hq;rw[pG (hl q (by simp[hq])) (hl p (by simp)),decide_eq_false (fun e=>dA (hr'.1 q hq) e.symm)];simp
   rw[List.filter_congr this]
  have hne:q.1≠p.1:=dA (hr'.1 p hp);have ih:=nh hr'.2 (fun q hq=>hl q (by simp[hq])) hp h1;rw[List.filter_cons,List.filter_cons,pG (hl q (by simp)) (hl p (by simp[hp])),decide_eq_false hne];simp only[Bool.not_false,Bool.and_true]
  split
  .exact (List.Perm.cons _ ih).trans (List.Perm.swap _ _ _)
  exact ih
theorem mO{left:Lit->Bool}{p:Lab×Spo}{L:Shf}(hr:cY L)(hl:∀q∈L,s8 q.1)(hp:p∈L)(h1:left (I0 p.1)=true){R:List Rw}(h:(R++J3 (L.filter fun q=>left (I0 q.1))).Perm (J3 L)) :
  ((R++if p.2.has=true then [kX p]else [])++J3 (L.filter fun q=>left (I0 q.1) && !(I0 q.1).sameKey (I0 p.1))).Perm (J3 L):=by
 refine List.Perm.trans ?_ h;rw[List.append_assoc];refine List.Perm.append_left _ ?_;have:=qT (nh hr hl hp h1);rw[qU]at this;exact this.symm
theorem mP{L:Shf}{x:Rw}(h:x∈J3 L):∃p∈L,p.2.has=true/\kX p=x:=by
 rw[kW]at h;obtain⟨p,hp,he⟩:=List.mem_map.1 h;have:=List.mem_filter.1 hp;exact⟨p,this.1,this.2,he⟩
theorem pK{L:Shf}(h:cY L):(J3 L).Pairwise fun a b=>V9 a.lab b.lab=true:=by
 rw[kW,List.pairwise_map];exact(List.Pairwise.filter _ h)
theorem lB(a b:Lab):gO a b=V9 a b:=by
 rw[Bool.eq_iff_iff,jc];simp[V9]
def AL(a b:Rw):Prop:=gO b.lab a.lab=false
theorem pJ{L:Shf}(hr:cY L){R:List Rw}(hp:R.Perm (J3 L))(hs:R.Pairwise AL):R=J3 L:=by
 refine List.Perm.eq_of_pairwise (le:=AL) ?_ hs ?_ hp
 .intro a b ha hb h1 h2
  have hl:a.lab=b.lab:=by
   unfold AL at h1 h2;rw[lB]at h1 h2
   rcases dz a.lab b.lab with h|h|h
   .rw [h]at h2;cases h2
   .exact h
   rw[h]at h1;cases h1
  obtain⟨p,hp1,_,rfl⟩:=mP (hp.mem_iff.1 ha);obtain⟨q,hq1,_,rfl⟩:=mP hb;have e1:=cH hr hp1;have e2:=cH hr hq1;have hl':p.1=q.1:=hl;rw[hl',e2]at e1;injection e1 with e1
  have:p=q:=Prod.ext hl' e1.symm;rw[this]
 refine(pK hr).imp ?_;intro a b h;unfold AL;rw[lB]
 rcases hx:V9 b.lab a.lab with _|_
 .rfl
 have:=dy h hx;rw[pZ]at this;cases this
theorem wG{L:Shf}(hr:cY L){h h':Nat->C1}{k:Nat}(hp:(F6 h k).Perm (J3 L))(hp':((List.range k).map h').Perm ((List.range k).map h))(hs:∀i j,i<j->j<k->gO (h' j).lab (h' i).lab=false):F6 h' k=J3 L:=by
 refine pJ hr ?_ ?_
 .refine List.Perm.trans ?_ hp
  have:=hp'.map C1.abs;simp only[List.map_map]at this;exact this
 rw[List.pairwise_iff_getElem];intro i j hi hj hij;have hj':j<k:=by rw[R2]at hj;exact hj
 have hi':i<k:=by omega
 have e:∀t (g:t<(F6 h' k).length),t<k->(F6 h' k)[t]=(h' t).abs:=by
  intro t g ht;have:=ng C1.abs h' ht;rw[List.getElem?_eq_getElem g]at this;exact Option.some.inj this
 rw[e i hi hi',e j hj hj'];exact hs i j hij hj'
theorem uJ{m:Nat->Nat->Prop}{w:World}{el:SpA}(h:Ok m w (.agg (elC el))):∀v∈T8 el.w,v.one=true/\Ok m w v:=by
 cases h with
 |agg _ h1 h2=>
  intro v hv;simp only[T8,List.mem_cons,List.not_mem_nil,or_false]at hv
  rcases hv with rfl|rfl|rfl|rfl|rfl|rfl|rfl|rfl
  .exact ⟨rfl,.int _ _⟩
  .exact ⟨rfl,.int _ _⟩
  .exact ⟨rfl,.int _ _⟩
  .exact ⟨rfl,.int _ _⟩
  .exact ⟨h1 _ (by simp[elC]),h2 _ (by simp[elC])⟩
  .exact ⟨rfl,.int _ _⟩
  .exact ⟨rfl,.int _ _⟩
  exact⟨rfl,.int _ _⟩
theorem ul{m:Nat->Nat->Prop}{w w1 w':World}{pre:List (Nat×Blk)}{ds:List Deferred}{K:Kn}{nt key:Nat}{t:Gr}{l l':List (Nat×AV)}{mem:List (Nat×Blk)}{a:Act}(h:b6 ⟨m,w,ats pre,ds,K⟩ ⟨nt,l,[],mem,[(key,t)]⟩ a w1)(hp:M7 m w pre)(hc:Chg (fun x=>o6 t.v=some x) w1 w'){v:AV}(hv:Ok m w v):Ok (St.m ⟨nt,l',[],mem,[]⟩ ⟨m,w,ats pre,ds,noK⟩) w' v:=by
 refine hv.mono fun b o u hcell hn=>?_
 have hlt:=World.block_lt_of_cell? w _ hcell;have hna:¬ats pre b:=by
  rintro⟨e,he,rfl⟩
  exact hn (hp.free e he o)
 have hown:o6 t.v≠some b:=by
  intro hb;obtain⟨_,xs,ho⟩:=h.gr key t (by simp[i6]);exact absurd hlt (Nat.not_lt.2 (ho.lt b hb).1)
 refine⟨?_,?_⟩
 .have e1:=h.chg.block b hlt hna
  have e2:=hc.block b (Nat.lt_of_lt_of_le hlt h.chg.size) hown;unfold World.cell? at hcell ⊢;rw[e2,e1];exact hcell
 rintro(h1|⟨k,e,he,h1⟩|⟨k,t',ht,_⟩)
 .exact hn h1
 .subst h1
  rcases(h.mem k e he).2.2 with h2|h2
  .exact absurd hlt (Nat.not_lt.2 h2)
  exact hna h2
 cases ht
theorem fF.re{P:Program}{K:Kn}{f:FuncId}{args args':List AV}{pre pre':List (Nat×Blk)}{res res':i8->AV}(h:fF P K f args pre res)(ha:F0 args' args)(hp:pre'.map (·.2)=pre.map (·.2))(hr:∀x,Sim (res x) (res' x)):fF P K f args' pre' res':=by
 intro m w h1 h2 h3 hI;rw[ha.map];refine(h m w h1 (ha.ok h2) (h3.re hp.symm) hI).mono ?_
 rintro e w' ⟨x,rfl,hok,hl⟩
 exact⟨x,by rw[(hr x).1],(hr x).2.2 _ _ hok,hl⟩
theorem AO{m:Nat->Nat->Prop}{w:World}(x y:Int):Ok m w (.agg [.int .i64 x,.int .u64 y]):=by
 refine .agg _ (fun v hv=>?_) fun v hv=>?_
 .simp only[List.mem_cons,List.not_mem_nil,or_false]at hv
  rcases hv with rfl|rfl<;>rfl
 simp only[List.mem_cons,List.not_mem_nil,or_false]at hv
 rcases hv with rfl|rfl<;>exact .int _ _
theorem Bh(E:Adr)(p:Lab×Spo):(elA E p.1 p.2).w.abs=kX p:=by
 unfold elA C1.abs kX;simp only[Q4]
theorem yh:j6 Tryz.prog 77:=fun _ _=>by kernel_rfl
theorem qS{D:DataW Value}{E:Adr}{b:Nat}{L:Shf}{m:Nat->Nat->Prop}{w:World}(h:ShD D E b L m w):(F6 (fun _=>qM) 0++J3 (L.filter fun q=>Maps.has D (I0 q.1))).Perm (J3 L):=by
 have:L.filter (fun q=>Maps.has D (I0 q.1))=L:=List.filter_eq_self.2 fun q hq=>(h.has _).2 ⟨q,hq,rfl⟩
 rw[this];exact List.Perm.refl _
theorem zT(b bM:Nat)(L:Shf)(hL:L.length<=100000)(k:Int):fF Tryz.prog (shK bM L) 55 [.ptr 0 b 0] [(0,⟨b,95,[.raw (.map (some bM)),.int .i64 k]⟩)] (fun y=>aM (y.A 0) (J3 L).length (y.c 0) (fu y (J3 L))):=by
 apply fF.of;intro m w hm hargs hpre hI;have hmx:maxLen=9223372036854775807:=rfl;obtain⟨D,E,hI1⟩:=hI;obtain⟨es0,cl0,hmap0,_⟩:=hI1.map;have hlt:bM<w.heap.size:=ct hmap0;have hI:(shD D E bM L).p m w:=hI1;refine enR 32 hm hpre hI hargs Tryz.func55 fun B O a0 Z=>?_
 refine wp_seq (rg O a6 [0] [0] [] Z fun X0 a0 w1 Z=>?_);refine wp_seq (wp_seq (rg O a6 [7,0] [0] [] Z fun X1 a0 w1 Z=>?_));refine j3 Z rfl (fun Z=>?_);refine wp_skip (wp_seq (rg O a6 [3,0] [0,3] [] Z fun X3 a0 w1 Z=>?_));refine wp_seq (wp_seq (wp_region_lit (lpr 0 4 O a6 [11,3] [0,3] [] Z fun X4_0 a0 w1 Z=>?_)));have hSh:ShD D E bM L _ _:=Z.kept;obtain⟨rr,hrr⟩:=eqv (w1.heap.size);refine uS rfl rfl rfl rfl Z (Nat.le_of_ble_eq_true rfl) rfl fy cJ hSh.map (wL D E bM rr L (Maps.has D) (Maps.size D)) (fun m w' h1 h2 h3=>⟨h1.keep h2,by rw[hrr];exact h3⟩) ?_;rw[<-hrr];intro a0 w1 hfr Z;have hne:some rr≠some bM:=by
  intro e;injection e with e
  have:w.heap.size<=rr:=hfr;omega
 have Z:b6 ⟨m,w,ats [(0,⟨b,95,[.raw (.map (some bM)),.int .i64 k]⟩)],[],wL D E bM rr L (Maps.has D) (Maps.size D)⟩ ⟨32,[(3,.sl (some 3) none 0 0 8 (fun _=>[])),(12,.raw (.pointer (some ⟨rr,0,none⟩)))],[],[(0,⟨b,95,[.raw (.map (some bM)),.int .i64 k]⟩)],[(3,⟨none,0,0,8,92⟩)]⟩ a0 w1:=Z.keep [3,12] [0,3];replace Z:=Z.headS (v':=.sl (some 3) none 0 0 8 (fun t=>T8 qM)) (zq0) rfl;refine wpList_nil (wp_block (cL (ι:=Nat×(Nat->C1)×Option Addr×Nat×(Lit->Bool)×Nat) (fun p=>wL D E bM rr L p.2.2.2.2.1 p.2.2.2.2.2) (fun p=>[(3,.sl (some 3) p.2.2.1 p.1 p.2.2.2.1 8 (fun t=>T8 (p.2.1 t)))]) (fun p=>[]) (fun p=>[(3,⟨p.2.2.1,p.1,p.2.2.2.1,8,92⟩)]) (fun p=>(∀kl,p.2.2.2.2.1 kl=true->Maps.has D kl=true)/\(F6 p.2.1 p.1++J3 (L.filter fun q=>p.2.2.2.2.1 (I0 q.1))).Perm (J3 L)/\∀t,t<p.1->∃q∈L,p.2.1 t=(elA E q.1 q.2).w) (fun p=>p.2.2.2.2.2) (0,fun _=>qM,none,0,Maps.has D,Maps.size D) ⟨fun _ h=>h,qS hI,fun t ht=>absurd ht (Nat.not_lt_zero _)⟩ Z ?_))
 rintro⟨k1,h,A1,c1,left,cnt⟩ ⟨hlft,hprm,hels⟩ a0 w1 Z
 try dsimp only at hlft
 try dsimp only at hprm
 try dsimp only at hels
 replace Z:=Z.withK (K':=wL D E bM rr L left cnt) Z.kept;refine wp_seq (wp_region_lit (uT rfl rfl rfl rfl Z (Nat.le_of_ble_eq_true rfl) rfl fy Z.kept.2 (fun h=>absurd h (Nat.not_lt.2 hfr)) (IM D E bM rr L left) (fun m h _=>⟨h.1,fun h=>by cases h⟩) (fun key v kl cnt' m w' h1 h2 h3 h4=>⟨h1.1.keepB h2 hne,fun _=>⟨h3,h4⟩⟩) ?_));intro a0 w1 bb rest' key v kl cnt' hn0 hn1 Z;refine lnd 1 O a6 [14,3,12] [0,3] [] Z fun X5 a0 w1 Z=>?_
 refine wp_seq (a7 Z rfl (fun hb Z=>?_) (fun hb Z=>?_))
 .have hbb:bb=true:=by subst O;exact hb
  obtain⟨hnx1,hnx2,hnx3,hnx4⟩:=hn1 hbb;replace Z:=Z.withK (K':=IU D E bM rr L (fun x=>left x && !x.sameKey kl) key v cnt') ⟨Z.kept.1,Z.kept.2 hbb⟩;obtain⟨hSh,hrg,hent⟩:=Z.kept;obtain⟨p,hp,hpk,hpkey,hpv⟩:=hSh.entry hnx1 (hlft _ hnx2) hnx3;have hok:=hSh.ok p hp;obtain⟨el,hel⟩:=eqv (elA E p.1 p.2);rw[<-hel]at hok hpv;have hel_has:el.has=p.2.has:=by rw[hel]
  have hkd:key=(AV.agg [.int .i64 el.w.lab.len,.int .u64 el.w.lab.bits]).den:=by rw[hel];exact hpkey
  refine wp_skip (wp_block (wp_seq (wp_region_lit ?_)));rw[hkd,hpv]at hent;refine uU rfl rfl rfl rfl Z (Nat.le_of_ble_eq_true rfl) rfl hent (AO _ _) hok ?_;intro a0 Z;refine lnd 1 O a6 [3,12,4,5] [0,4,5,3] [] Z fun X6 a0 w1 Z=>?_
  replace Z:=Z.withK (K':=wL D E bM rr L (fun x=>left x && !x.sameKey kl) cnt') ⟨Z.kept.1,Z.kept.2.1⟩;refine wp_seq (rg O a6 [19,3,12,4,5] [0,4,5,3] [] Z fun X7 a0 w1 Z=>?_);apply a7 Z rfl<;>intro hb Z
  .have hhas:el.has=true:=by subst O;exact hb
   refine rg O a6 [3,12] [0,3] [] Z (hob:=?hob) fun X8 a0 w1 Z=>?_
   case hob=>
    intro X;have hkL:k1<=L.length:=by
     have h9:=hprm.length_eq;rw[List.length_append,R2]at h9;have:=mQ L;omega
    subst O
    repeat(first|exact trivial|refine⟨⟨rfl,rfl,rfl⟩,?_⟩|refine⟨rfl,?_⟩|refine⟨⟨show k1+1<=maxLen by omega,show(k1+1)*_<=_ by omega⟩,?_⟩)
   replace Z:=Z.headS (v':=.sl (some 3) ((X8 8).A 0) (B.nadd k1 1) ((X8 8).c 0) 8 (fun t=>T8 (if t=k1 then el.w else h t))) (Sim.resl rfl (fun t ht=>by
    subst O;have ht2:t<k1+1:=ht
    show L0 k1 (fun t=>T8 (h t)) (K9 8 (T8 el.w)) t=_
    unfold L0
    split
    .rw [if_neg (by omega)]
    have:t=k1:=by omega
    subst this;rw[if_pos rfl];simp[K9])) rfl
   refine⟨(k1+1,fun t=>if t=k1 then el.w else h t,_,_,(fun x=>left x && !x.sameKey kl),cnt'),⟨?_,?_,?_⟩,hnx4,by rw[show k1+1=B.nadd k1 1 by subst O;rfl];exact Z⟩
   .intro x hx
    simp only[Bool.and_eq_true]at hx;exact hlft _ hx.1
   .have h9:=mO hSh.ris hSh.labs hp (hpk ▸ hnx2) hprm
    rw[hpk,if_pos (by rw[<-hel_has];exact hhas)]at h9;have e9:F6 (fun t=>if t=k1 then el.w else h t) (k1+1)=F6 h k1 ++ [kX p]:=by
     show bF C1.abs _ (k1+1)=bF C1.abs h k1++_
     rw[lx];simp only[if_true]
     congr 1
     .unfold bF
      apply List.map_congr_left;intro t ht;have h5:=List.mem_range.1 ht
      show C1.abs (if t=k1 then el.w else h t)=_
      rw[if_neg (by omega)]
     rw[hel,Bh]
    simp only;rw[e9];exact h9
   intro t ht;simp only at ht ⊢
   by_cases he:t=k1
   .rw [if_pos he];exact⟨p,hp,by rw[hel]⟩
   rw[if_neg he];exact hels t (by omega)
  have hhas:¬el.has=true:=by subst O;rw[show el.has=false from hb];simp
  refine wp_skip (⟨(k1,h,A1,c1,(fun x=>left x && !x.sameKey kl),cnt'),⟨?_,?_,hels⟩,hnx4,Z.keep [3,12] [0,3]⟩)
  .intro x hx
   simp only[Bool.and_eq_true]at hx;exact hlft _ hx.1
  have h9:=mO hSh.ris hSh.labs hp (hpk ▸ hnx2) hprm;rw[hpk,if_neg (by rw[<-hel_has];exact hhas),List.append_nil]at h9;exact h9
 have hbb:bb=false:=by subst O;exact hb
 have hall:=hn0 hbb;replace Z:=Z.withK (K':=shD D E bM L) Z.kept.1;refine wp_exit (wp_seq (wp_region_lit (lpr 0 1 O a6 [29,3] [0,3] [] Z fun X9_0 a0 w1 Z=>?_)));have hSh:ShD D E bM L _ _:=Z.kept;have hprm2:(F6 h k1).Perm (J3 L):=by
  have e9:(L.filter fun q=>left (I0 q.1))=[]:=List.filter_eq_nil_iff.2 fun q _=>by rw[hall];simp
  rw[e9]at hprm
  simpa[J3]using hprm
 have hkL:k1<=L.length:=by
  have h9:=hprm2.length_eq;rw[R2]at h9;have:=mQ L;omega
 obtain⟨_,xs,hO⟩:=Z.gr 3 ⟨A1,k1,c1,8,92⟩ rfl;have hs3:=Z.slot 3 rfl;have hk3:Ok _ w1 (.sl (some 3) A1 k1 c1 8 (fun t=>T8 (h t))):=hs3.2;have hd3:a0.tmps[3]? = some (AV.sl (some 3) A1 k1 c1 8 (fun t=>T8 (h t))).den:=hs3.1;have hfl:=xb hO hk3;rw[hfl]at hO;have hO:Own w1 w.heap.size 92 8 (.slice A1 k1 c1) k1 (j9 (fun t=>T8 (h t)) k1):=hO;refine rp rfl rfl rfl rfl rfl Z rfl rfl yh (fun w'=>∃h':Nat->C1,((List.range k1).map h').Perm ((List.range k1).map h)/\(∀i j,i<j->j<k1->gO (h' j).lab (h' i).lab=false)/\Own w' w.heap.size 92 8 (.slice A1 k1 c1) k1 (j9 (fun t=>T8 (h' t)) k1)) ((un hO (by omega)).mono ?_) ?_
 .rintro e w2 ⟨he,h',g1,g2,g3,g4⟩
  exact⟨he,⟨h',g1,g2,g3⟩,g4⟩
 rintro w2 ⟨h',g1,g2,g3⟩ g4
 have hfin:=wG hSh.ris hprm2 g1 g2;have hF2:=b6.sorted Z g4 (l':=[(3,.sl none A1 k1 c1 8 (fun t=>T8 (h' t)))]) (fun x hx=>?hl) (fun x e he v hv=>?hm)
 case hl=>
  by_cases hx3:x=3
  .subst hx3
   refine⟨hd3,uH g3 (fun _ _=>rfl) (b6.notM Z) (fun i hi=>?_) none⟩;have hmem:=g1.mem_iff.1 (List.mem_map.2 ⟨i,List.mem_range.2 hi,rfl⟩);obtain⟨j,hj,hje⟩:=List.mem_map.1 hmem;obtain⟨q,hq,hqe⟩:=hels j (List.mem_range.1 hj);rw[<-hje,hqe];exact uJ (ul Z hpre g4 (hI.ok q hq))
  have:look [(3,AV.sl none A1 k1 c1 8 (fun t=>T8 (h' t)))] x = .undef:=by rw[B5,if_neg (fun e=>hx3 e.symm)];rfl
  rw[this]at hx;cases hx
 case hm=>
  by_cases hx3:0=x
  .subst hx3
   simp only[i6,List.lookup,List.find?]at he;simp at he;subst he;simp only[List.mem_cons,List.not_mem_nil,or_false]at hv
   rcases hv with rfl|rfl
   .exact .raw _
   exact .int _ _
  rw[z7,if_neg hx3]at he;cases he
 have Z:b6 _ _ (a0.put (some 30) (.tuple #[])) w2:=hF2.put (some 30) (fun t ht=>by injection ht with ht;subst ht;exact Nat.le_of_ble_eq_true rfl) (.tup []) (fun _=>.tup _ fun u hu=>by cases hu) _ fun _=>rfl
 refine wpList_nil (wp_seq (rg O a6 [2] [0] [] Z fun X10 a0 w1 Z=>?_));refine wp_ret ((rx O a6 Z (rwY A1 c1 h' 0) [] (he:=?_) (hs:=?_)).1)
 .subst O;exact zM hfin
 exact⟨rfl,⟨_,rfl,zl⟩,trivial⟩
theorem wE(k0:Nat)(b bM:Nat)(L:Shf)(hL:L.length<=100000)(k:Int):fF Tryz.prog (shK bM L) 55 [.ptr k0 b 0] [(k0,⟨b,95,[.raw (.map (some bM)),.int .i64 k]⟩)] (fun y=>aM (y.A 0) (J3 L).length (y.c 0) (fu y (J3 L))):=
 (zT b bM L hL k).re (by repeat(first|exact trivial|refine⟨Sim.ptr,?_⟩|refine⟨Sim.fn ⟨Sim.ptr,trivial⟩ trivial,?_⟩|refine⟨Sim.fn trivial ⟨Sim.ptr,trivial⟩,?_⟩|refine⟨zr,?_⟩)) rfl (fun x=>zr)
theorem b6.swap{C:Cx}{nt i j:Nat}{u v:AV}{l:List (Nat×AV)}{mem:List (Nat×Blk)}{gr:List (Nat×Gr)}{a:Act}{w:World}(h:b6 C ⟨nt,(i,u)::(j,v)::l,[],mem,gr⟩ a w)(hne:i≠j:=by decide):b6 C ⟨nt,(j,v)::(i,u)::l,[],mem,gr⟩ a w:=
 h.alike ⟨rfl,fun k=>by
  simp only[B5]
  by_cases h1:i=k
  .by_cases h2:j=k
   .exact absurd (h1.trans h2.symm) hne
   simp[h1,h2]
  simp[h1],fun _=>rfl,fun _=>rfl,fun _=>rfl⟩
theorem yP(A:Option Addr)(n c:Nat)(f:Nat->C1)(hn:n<=maxLen):j7 Tryz.prog 16 [aM A n c f] (fun _=>.bool (.v (if n<=300 then qB n f else true))):=by
 intro m w hm hargs;have hmx:maxLen=9223372036854775807:=rfl;have hln:=wF (hargs (aM A n c f) (by simp));refine en 38 hm hargs Tryz.func16 fun B O a0 Z=>?_
 refine wp_seq (rg O a6 [0] [] [] Z fun X0 _ _ Z=>?_);refine wp_seq (rg O a6 [3,0] [] [] Z fun X1 _ _ Z=>?_);refine wp_seq (wp_seq (rg O a6 [3,4,0] [] [] Z fun X2 _ _ Z=>?_));refine wp_block (l5 (ι:=Nat×Int) (fun p=>[(3,.int .i64 p.2),(4,.int .i64 (p.1:Int))]) (fun p=>[]) (fun p=>[]) (fun p=>p.1<=n/\p.2=DV f p.1/\∀i,i<p.1->jW (f i).x.r.n (f i).x.r.f=false) (fun p=>n-p.1) (0,0) ⟨Nat.zero_le _,rfl,fun i hi=>absurd hi (Nat.not_lt_zero _)⟩ Z ?_)
 rintro⟨i,s⟩ ⟨hi,hs,hal⟩ _ _ Z
 try dsimp only at hi
 try dsimp only at hs
 try dsimp only at hal
 refine wp_seq (wp_seq (rg O a6 [13,3,4,0] [] [] Z fun X3 _ _ Z=>?_));apply a7 Z rfl<;>intro hb Z
 .have h9:(if decide ((i:Int)<(n:Int))=true then decide ((n:Int)<=300)else false)=true:=by subst O;exact hb
  rw[z8,Bool.and_eq_true,decide_eq_true_eq,decide_eq_true_eq]at h9;have hin:i<n:=by omega
  have hsm:n<=300:=by omega
  have S:=Id (f i).x.A (f i).x.r.n (f i).x.c (f i).x.r.f (hln i hin) (f i).x.r.kd (f i).x.r.nx (f i).x.r.mrk;simp only[F2,l7]at S;obtain⟨q,hq⟩:=eqv (jW (f i).x.r.n (f i).x.r.f);rw[<-hq]at S;refine wp_skip (wp_seq (wp_block (wp_seq (wp_seq ?_))));refine rg O a6 [21,3,4,0] [] [(5,.r fun _=>.bool (.v q))] Z (hob:=by intro X;subst O;simp only[b7,Ob.holds,BE.den]<;>and_intros<;>repeat first|trivial|rfl|exact(show(0:Int)<=(i:Int)by omega)|exact(show(i:Int)<(n:Int)by omega)|exact S|exact(fun _ _=>by kernel_rfl)|refine⟨?_,?_⟩|intro h|exact Int.le_refl _|decide|omega) fun X5 _ _ Z=>?_
  apply a7 Z rfl<;>intro hb Z
  .have hbt:jW (f i).x.r.n (f i).x.r.f=true:=by rw[<-hq];exact hb
   refine wp_seq (rg O a6 [2] [] [] Z fun X6 _ _ Z=>?_);refine wp_ret ((rsi O a6 Z f8 (he:=?_)));subst O;refine Sim.bool ?_
   show true=(if n<=300 then qB n f else true)
   rw[if_pos hsm];unfold qB;rw[vJ hin hbt];simp
  have hbf:jW (f i).x.r.n (f i).x.r.f=false:=by rw[<-hq];exact hb
  refine wp_skip ?_;refine rg O a6 [3,4,0] [] [] Z (hob:=by intro X;subst O;simp only[b7,Ob.holds,BE.den]<;>and_intros<;>repeat first|trivial|rfl|exact(show(0:Int)<=(i:Int)by omega)|exact(show(i:Int)<(n:Int)by omega)|exact(fun _ _=>by kernel_rfl)|refine⟨?_,?_⟩|intro h|exact Int.le_refl _|decide|omega) fun X7 _ _ Z=>?_
  refine rg O a6 [4,3,0] [] [] Z fun X4 _ _ Z=>?_
  have e:B.arith .add .i64 (i:Int) 1=((i+1:Nat):Int):=by subst O;exact o3 (n:=n) hin (by omega)
  refine⟨(i+1,B.arith .add .i64 s (B.ofNat (f (B.toNat (i:Int))).x.r.n)),⟨by simp only;omega,by subst O;rw[hs];rfl,fun j hj=>?_⟩,by simp only;omega,by rw[<-e];exact Z.swap⟩
  by_cases hij:j=i
  .rw [hij];exact hbf
  exact hal j (by simp only at hj;omega)
 have h9:(if decide ((i:Int)<(n:Int))=true then decide ((n:Int)<=300)else false)=false:=by subst O;exact hb
 rw[z8]at h9;have hend:n<=300->i=n:=fun h3=>by
  rw[decide_eq_true (show(n:Int)<=300 by omega),Bool.and_true]at h9;have:=of_decide_eq_false h9;omega
 refine wp_exit (wp_seq (rg O a6 [2] [] [] Z fun X8 _ _ Z=>?_));refine wp_ret ((rsi O a6 Z f8 (he:=?_)));subst O;refine Sim.bool ?_
 show(if decide ((300:Int)<(n:Int))=true then true else decide (3000<s))=_
 rw[V7]
 by_cases h3:n<=300
 .rw [if_pos h3]
  unfold qB;rw[hend h3]at hs hal;rw[vK hal,hs,decide_eq_false (show ¬(300:Int)<(n:Int)by omega),decide_eq_false (show ¬300<n by omega)];rfl
 rw[if_neg h3,decide_eq_true (show(300:Int)<(n:Int)by omega)];rfl
theorem Sim.nils{g g':Option Nat}{k k':Nat}{f f':Nat->List AV}:Sim (.sl g none 0 0 k f) (.sl g' none 0 0 k' f'):=
 ⟨rfl,fun _=>rfl,fun _ _ _=>.sl _ _ _ _ _ _ (Nat.le_refl _) (Nat.zero_le _) (fun i hi=>absurd hi (Nat.not_lt_zero _)) (fun i hi=>absurd hi (Nat.not_lt_zero _)) (fun i hi=>absurd hi (Nat.not_lt_zero _)) (fun i hi=>absurd hi (Nat.not_lt_zero _)) (fun i hi=>absurd hi (Nat.not_lt_zero _))⟩
theorem gV(y:i8)(g:Got):(cS y g).abs=g:=by
 unfold cS u2.abs;simp only[Q4]
section
variable (A:Option Addr) (n c:Nat) (f:Nat->C1) (hn:n<=maxLen) (hN:∀i,i<n->(f i).x.r.n<=1000000/\s8 (f i).lab/\U64 (f i).lab.bits/\U64 (f i).x.r.nx.bits)
include hn hN
theorem EE(h:bW (F6 f n)=none):M6 Tryz.prog 17 [aM A n c f] [] none noK (fun y=>⟨.tup [.nilp,.int .i64 1],[],[]⟩) (fun _ _=>noK):=by
 have:=xu A n c f hn hN;rw[h]at this;exact this
theorem sR(k0:Nat){L:Shf}(h:bW (F6 f n)=some L):M6 Tryz.prog 17 [aM A n c f] [] none noK (fun y=>⟨.tup [.ptr k0 y.b 0,.int .i64 0],[],[(k0,⟨y.b,95,[.raw (.map (some (y.c 0))),.int .i64 0]⟩)]⟩) (fun N y=>shF N (y.c 0) L):=by
 have:=xu A n c f hn hN;rw[h]at this;exact this.re ⟨zr,trivial⟩ rfl fun x=>⟨rfl,rfl,Sim.tup ⟨Sim.ptr,zr,trivial⟩,rfl⟩
end
structure qH(L:Shf):Prop where
 ris:cY L
 len:L.length<=2000
 lab:∀p∈L,s8 p.1
theorem FB{L:Shf}(h:qH L){w:Wnt}(hl:s8 w.lab):qH (doL L w).L:=by
 unfold doL
 split
 .split
  .exact h
  split
  .exact h
  split
  .exact h
  rename_i hf
  refine⟨fa h.ris,?_,fun p hp=>?_⟩
  .simp only
   rw[gE _ _ h.ris]
   split
   .exact h.len
   rename_i h1
   have:(C4 w.lab L).isNone=true:=by
    cases hx:C4 w.lab L with
    |none=>rfl
    |some x=>rw[hx]at h1;exact absurd rfl h1
   have:=fun h2=>hf ⟨this,h2⟩
   have h3:=h.len
   by_cases h4:2000<=L.length
   .exact absurd h4 this
   omega
  rcases fe hp with rfl|hp
  .exact hl
  exact h.lab p hp
 exact h
theorem sT:∀{l:List Rw} {L L':Shf},(∀r∈l,s8 r.lab)->cY L->(∀p∈L,s8 p.1)->L.length+l.length<=2000->eD l L=some L'->qH L'
 | [],L,L',_,h1,h2,h3,h=>by
  simp only[eD,Option.some.injEq]at h;subst h;exact⟨h1,by simp at h3;omega,h2⟩
 |r::l,L,L',hr,h1,h2,h3,h=>by
  unfold eD at h
  split at h
  .cases h
  refine sT (fun r hr'=>hr r (by simp[hr'])) (fa h1) (fun p hp=>?_) ?_ h
  .rcases fe hp with rfl|hp
   .exact hr r (by simp)
   exact h2 p hp
  rw[gE _ _ h1];simp only[List.length_cons]at h3
  split<;>omega
theorem AB{l:List Rw}{L:Shf}(hr:∀r∈l,s8 r.lab)(h:bW l=some L):qH L:=by
 unfold bW at h
 split at h
 .cases h
 exact sT hr List.Pairwise.nil (fun p hp=>by cases hp) (by simp;omega) h
structure ua(p:Lab×Spo):Prop where
 ver:U64 p.2.ver
 r:U4 p.2.r
structure dY(L:Shf):Prop where
 ok:qH L
 sp:∀p∈L,ua p
theorem vW:U64 0:=⟨by decide,by decide⟩
theorem tj{r:Rec}(h:isR r=true):r.items.length<=16:=by
 have h2:D9 r.kind r.items.length (itF r.items) r.next r.mark=true:=by
  have h3:=gQ r.rn;rw[Q4]at h3;rw[h3]at h;exact h
 exact(E4 h2).2.2.1
theorem Dv(v:Int):U64 (inc v):=by
 unfold inc IntKind.wrap;simp only[IntKind.bits,IntKind.signed];unfold U64
 constructor
 .simp;omega
 simp;omega
theorem ns{l:Lab}{x:Spo}:∀{L:Shf},C4 l L=some x->∃p∈L,p.2=x
 | [],h=>by cases h
 |p::L,h=>by
  unfold C4 at h
  split at h
  .exact ⟨p,by simp,Option.some.inj h⟩
  obtain⟨q,hq,e⟩:=ns h;exact⟨q,by simp[hq],e⟩
theorem zB{L:Shf}(h:∀p∈L,ua p)(l:Lab):U64 (D8 L l).ver/\U4 (D8 L l).r:=by
 unfold D8
 cases e:C4 l L with
 |none=>exact⟨vW,M1⟩
 |some x=>
  obtain⟨p,hp,rfl⟩:=ns e;exact⟨(h p hp).ver,(h p hp).r⟩
structure IZ(w:Wnt):Prop where
 lab:s8 w.lab
 nx:U64 w.r.next.bits
 key:∀x∈w.r.items,U64 x.key
theorem iw{L:Shf}(h:dY L){w:Wnt}(hw:IZ w):dY (doL L w).L/\U64 (doL L w).got.ver/\U4 (doL L w).got.r:=by
 refine⟨⟨FB h.ok hw.lab,?_⟩,?_⟩
 .unfold doL
  split
  .rename_i hg
   split
   .exact h.sp
   split
   .exact h.sp
   split
   .exact h.sp
   intro p hp
   rcases fe hp with rfl|hp
   .refine ⟨Dv _,?_⟩
    show U4 (if w.kind=2 then w.r else i9)
    split
    .rename_i h2
     exact⟨hw.nx,tj (hg.2.2 h2),hw.key⟩
    exact M1
   exact h.sp p hp
  exact h.sp
 have hs:=zB h.sp w.lab;unfold doL
 split
 .split
  .exact hs
  split
  .exact ⟨hs.1,M1⟩
  split
  .exact ⟨vW,M1⟩
  exact⟨Dv _,M1⟩
 exact⟨vW,M1⟩
structure RwG(r:Rw):Prop where
 lab:s8 r.lab
 ver:U64 r.ver
 nx:U64 r.r.next.bits
 key:∀x∈r.r.items,U64 x.key
theorem mY:∀{l:List Rw} {L L':Shf},(∀r∈l,RwG r)->(∀p∈L,ua p)->eD l L=some L'->∀p∈L',ua p
 | [],L,L',_,h2,h=>by
  simp only[eD,Option.some.injEq]at h;subst h;exact h2
 |r::l,L,L',hr,h2,h=>by
  unfold eD at h
  split at h
  .cases h
  rename_i hc
  have hc2:isR r.r=true:=by
   simp only[Bool.or_eq_true,Bool.not_eq_true',not_or]at hc
   simpa using hc.2
  refine mY (fun r hr'=>hr r (by simp[hr'])) (fun p hp=>?_) h
  rcases fe hp with rfl|hp
  .have:=hr r (by simp)
   exact⟨this.ver,⟨this.nx,tj hc2,this.key⟩⟩
  exact h2 p hp
theorem fg{l:List Rw}{L:Shf}(hr:∀r∈l,RwG r)(h:bW l=some L):dY L:=by
 refine⟨AB (fun r hr'=>(hr r hr').lab) h,?_⟩;unfold bW at h
 split at h
 .cases h
 exact mY hr (fun p hp=>by cases hp) h
theorem rI{g:u2}{G:Got}(h:g.abs=G)(h1:U64 G.ver)(h2:U4 G.r):InG g:=by
 subst h;refine⟨h2.nx,h1,?_,fun i hi=>?_⟩
 .have:=h2.few
  have e:g.x.r.abs.items.length=g.x.r.n:=i3 _ _
  show g.x.r.n<=maxLen
  have h3:g.x.r.abs.items.length<=16:=this;have:maxLen=9223372036854775807:=rfl;omega
 exact h2.key _ (List.mem_map.2 ⟨i,List.mem_range.2 hi,rfl⟩)
theorem LOk.wf{l:Lab}(h:LOk l):s8 l:=by
 obtain⟨h1,h2,_⟩:=r7 h.isl;have hb:=h.u;unfold U64 at hb
 constructor
 .simp [Lit.wf,IntKind.min,IntKind.max,IntKind.signed,IntKind.bits];omega
 simp[Lit.wf,IntKind.min,IntKind.max,IntKind.signed,IntKind.bits];omega
def lF(G:Got):u2:=⟨G.code,G.ver,G.has,⟨none,0,G.r.rn⟩⟩
abbrev eT(gs:List Got):Nat->u2:=fun j=>lF (gs.getD j U7)
abbrev qI:=Nat->(Nat->u2)->Wq×Int
def ErN(N:qI):Prop:=∀n f,N n f=N n (fun j=>(f j).er)
def pm(gs:List Got)(f:Nat->u2):Prop:=∀j,(f j).er=lF (gs.getD j U7)
theorem pm.nil:pm [] (fun _=>lF U7):=fun _=>rfl
theorem pm.next{N:qI}(hN:ErN N){gs:List Got}{f:Nat->u2}(h:pm gs f):N gs.length f=N gs.length (eT gs):=by
 rw[hN]
 congr 1
 funext j
 exact h j
theorem pm.add{gs:List Got}{f:Nat->u2}(h:pm gs f){g:u2}{G:Got}(hg:g.er=lF G):pm (gs ++ [G]) (fun j=>if j=gs.length then g else f j):=by
 intro j
 by_cases e:j=gs.length
 .simp only[if_pos e];rw[hg,e];congr 1;simp[List.getD]
 simp only[if_neg e];rw[h j];congr 1;simp only[List.getD_eq_getElem?_getD]
 by_cases hj:j<gs.length
 .rw [List.getElem?_append_left hj]
 rw[List.getElem?_eq_none (by omega),List.getElem?_eq_none (by simp;omega)]
structure Ja where
 /-- 0: too many wants,1: refused,2: it is over,3: cut off,4: a want was not done -/
 st:Nat
 res:Rsl
 n:Nat
 err:Int
 L:Shf
 k:Int
def dZ(w:Wq):Wnt:=⟨w.kind,w.lab,w.ver,w.r⟩
def Y3(N:qI)(most:Int):Nat->List Got->Shf->Int->Ja
 |0,gs,L,k=>⟨0,aJ,gs.length,0,L,k⟩
 |n+1,gs,L,k=>
  if(N gs.length (eT gs)).2≠0 then⟨1,aJ,gs.length,0,L,k⟩
  else if(N gs.length (eT gs)).1.kind=4 then⟨2,(N gs.length (eT gs)).1.res,gs.length,0,L,k⟩
  else if most<=gs.length then⟨3,aJ,gs.length,0,L,k⟩
  else if(doL L (dZ (N gs.length (eT gs)).1)).err≠0 then⟨4,aJ,gs.length,(doL L (dZ (N gs.length (eT gs)).1)).err,(doL L (dZ (N gs.length (eT gs)).1)).L,if(doL L (dZ (N gs.length (eT gs)).1)).wrote then IntKind.i64.wrap (k+1)else k⟩
  else Y3 N most n (gs ++ [(doL L (dZ (N gs.length (eT gs)).1)).got]) (doL L (dZ (N gs.length (eT gs)).1)).L (if(doL L (dZ (N gs.length (eT gs)).1)).wrote then IntKind.i64.wrap (k+1)else k)
section
variable {N:qI} {most:Int} {n:Nat} {gs:List Got} {L:Shf} {k:Int} {w:Wq} {e:Int}
theorem Eg(h:N gs.length (eT gs)=(w,e))(he:e≠0):Y3 N most (n+1) gs L k=⟨1,aJ,gs.length,0,L,k⟩:=by
 unfold Y3;rw[h,if_pos he]
theorem zR(h:N gs.length (eT gs)=(w,0))(hk:w.kind=4):Y3 N most (n+1) gs L k=⟨2,w.res,gs.length,0,L,k⟩:=by
 unfold Y3;rw[h,if_neg (fun h=>h rfl),if_pos hk]
theorem zS(h:N gs.length (eT gs)=(w,0))(hk:¬w.kind=4)(hm:most<=gs.length):Y3 N most (n+1) gs L k=⟨3,aJ,gs.length,0,L,k⟩:=by
 unfold Y3;rw[h,if_neg (fun h=>h rfl),if_neg hk,if_pos hm]
theorem zQ(h:N gs.length (eT gs)=(w,0))(hk:¬w.kind=4)(hm:¬most<=gs.length){D:Did}(hD:D=doL L (dZ w))(he:D.err≠0):Y3 N most (n+1) gs L k=⟨4,aJ,gs.length,D.err,D.L,if D.wrote then IntKind.i64.wrap (k+1)else k⟩:=by
 subst hD;unfold Y3;rw[h,if_neg (fun h=>h rfl),if_neg hk,if_neg hm,if_pos he]
theorem Eh(h:N gs.length (eT gs)=(w,0))(hk:¬w.kind=4)(hm:¬most<=gs.length){D:Did}(hD:D=doL L (dZ w))(he:D.err=0):Y3 N most (n+1) gs L k=Y3 N most n (gs ++ [D.got]) D.L (if D.wrote then IntKind.i64.wrap (k+1)else k):=by
 subst hD
 conv=>lhs;unfold Y3
 rw[h,if_neg (fun h=>h rfl),if_neg hk,if_neg hm,if_neg (fun h=>h he)]
end
theorem xr(b:Bool)(r:Rs Rsl):gK b (r.er id)=gK b r:=by
 unfold gK;rw[zy]
structure Ii(N:qI):Prop where
 er:ErN N
 ok:∀n f,(∀j,j<n->InG (f j))->vN (N n f).1
theorem Ga(k0 b:Nat)(J:i5)(hJ:j0 J)(A:Option Addr)(c:Nat)(p:Pst)(hp:f9 p)(hn:p.n<=1000000)(l:Lab)(v:Int):s5 163 k0 b J A c p [f4 l,.int .u64 v,qa] (fun d=>.bool (.v d)) (P3 J.budget l v lz p):=
 s5.re (cW 0 b J hJ A c p hp hn l v ⟨none,0,lz.rn⟩) ⟨zr,zr,Sim.agg ⟨zr,J0,zr,zr,zr,trivial⟩,trivial⟩
theorem Bf(b:Nat)(J:i5)(hJ:j0 J)(A:Option Addr)(c:Nat)(p:Pst)(hp:f9 p)(hn:p.n<=1000000)(key:Int)(hk:U64 key)(l:Lab)(hl:LOk l)(n:Nat)(hf:p.n<n):s5 166 0 b J A c p [.int .u64 key,f4 l] (L9) (C8 J.bucket J.budget key n l p):=by
 intro m w hm hargs hpre;refine enX 68 hm hpre hargs Tryz.func166 fun B O a0 Z=>?_
 refine wp_seq (rg O a6 [0,1,5,6] [0,5,6] [] Z fun X0 _ _ Z=>?_);refine wp_seq (rg O a6 [0,1,5,6,7] [0,5,6,7] [] Z fun X1 _ _ Z=>?_);refine wp_block (l5 (ι:=Nat×Pst×Option Addr×Nat×Lab) (fun q=>[]) (fun q=>[(0,⟨b,139,C0 J q.2.2.1 q.2.2.2.1 q.2.1⟩),(5,⟨(X0 0).b,24,[.int .i64 q.2.2.2.2.len,.int .u64 q.2.2.2.2.bits]⟩)]) (fun q=>[]) (fun q=>C8 J.bucket J.budget key n l p=C8 J.bucket J.budget key q.1 q.2.2.2.2 q.2.1/\f9 q.2.1/\q.2.1.n<=1000000/\q.2.1.n<q.1/\LOk q.2.2.2.2) (fun q=>q.1) (n,p,A,c,l) ⟨rfl,hp,hn,hf,hl⟩ Z ?_)
 rintro⟨nn,p0,A0,c0,l0⟩ ⟨hrun,hp0,hn0,hf0,hl0⟩ _ _ Z
 try dsimp only at hrun
 try dsimp only at hp0
 try dsimp only at hn0
 try dsimp only at hf0
 try dsimp only at hl0
 obtain⟨m0,rfl⟩:∃n2,nn=n2+1:=⟨nn-1,by omega⟩
 refine wp_block (wp_seq ?_)
 rcases(W0 0 b J hJ A0 c0 p0 hp0 hn0 l0).two (i7 _ _ _) hp0 hn0 with⟨w2,p2,hm2,O1⟩|⟨g2,p2,hm2,hs2,hp2,hn2,S2⟩
 .refine stp 2 O a6 [10,11] [0] [] Z O1 fun _ _ _ _ Z hk=>?_
  exact thm (P:=Tryz.prog) (fn:=Tryz.f166) (q:=p2) Z hk (by simp[hrun,C8,Rs.bind,hm2])
 have hl2:=u7 hm2;have hg2:=hp0.get hm2;have O1:=S2;refine rg O a6 [0,1,5,6,7,8] [0,5,6,7,8] [(2,rc J (u5 g2) p2)] Z fun X2 _ _ Z=>?_
 obtain⟨q3,hq3⟩:=eqv (gk g2 1);refine wp_seq (wp_block (wp_seq ?_));refine rg O a6 [13,0,1,5,6,7,8] [0,5,6,7,8,15] [(2,.r fun _=>.bool (.v q3))] Z (hob:=by intro X;subst O;simp only[b7,Ob.holds,BE.den]<;>and_intros<;>repeat first|trivial|rfl|exact(by rw[hq3];exact F5 g2 _ _ 1 _ rfl)|exact by rw[hq3];exact F5 g2 _ _ 1 _ rfl|exact(fun _ _=>by kernel_rfl)|refine⟨?_,?_⟩|intro h|exact Int.le_refl _|decide|omega) fun X3 _ _ Z=>?_
 apply a7 Z rfl<;>intro hb Z
 .have tq3:gk g2 1=true:=by rw[<-hq3];exact hb
  refine wp_seq (rg O a6 [6] [0,6] [] Z fun X4 _ _ Z=>?_);exact wp_ret ((rmm O a6 Z (v:=(⟨l0,g2⟩:Spt)) (q:=p2) ((X2 2).A 0) ((X2 2).c 0) (by simp[hrun,C8,Rs.bind,hm2,tq3])).1)
 have tq3:gk g2 1=false:=by rw[<-hq3];exact hb
 obtain⟨q5,hq5⟩:=eqv ((gk g2 3||gk g2 4));apply wp_seq;refine rg O a6 [20,0,1,5,6,7,8] [0,5,6,7,8,22] [(2,.r fun _=>.bool (.v q5))] Z (hob:=by intro X;subst O;simp only[b7,Ob.holds,BE.den]<;>and_intros<;>repeat first|trivial|rfl|exact(by rw[hq5];exact cw g2 _ _ 3 4 _ rfl rfl)|exact by rw[hq5];exact cw g2 _ _ 3 4 _ rfl rfl|exact(fun _ _=>by kernel_rfl)|refine⟨?_,?_⟩|intro h|exact Int.le_refl _|decide|omega) fun X5 _ _ Z=>?_
 apply a7 Z rfl<;>intro hb Z
 .have tq5:(gk g2 3||gk g2 4)=true:=by rw[<-hq5];exact hb
  apply wp_seq
  rcases(tC m0 0 b J hJ ((X2 2).A 0) ((X2 2).c 0) p2 hp2 hn2 l0 hl0 g2 hg2 (by have:=hl2;have:=hf0;omega)).two (F9 _ _ _ _ _ _) hp2 hn2 with⟨w6,p6,hm6,O1⟩|⟨v6,p6,hm6,hs6,hp6,hn6,S6⟩
  .refine stp 3 O a6 [24,25,26] [0] [] Z O1 fun _ _ _ _ Z hk=>?_
   exact thm (P:=Tryz.prog) (fn:=Tryz.f166) (q:=p6) Z hk (by simp[hrun,C8,Rs.bind,hm2,tq3,tq5,hm6])
  have O1:=S6;refine rg O a6 [0,1,5,6,7] [0,5,6,7] [(3,rc J (i4) p6)] Z fun X6 _ _ Z=>?_
  replace Z:=Z.keep [0,1,5,6,7] [0,5,6,7];exact wp_exit (⟨(m0,p6,_,_,l0),⟨by rw[hrun];simp[C8,Rs.bind,hm2,tq3,tq5,hm6],hp6,hn6,by dsimp only;have:=hf0;have:=hl2;have:=hs6.le;omega,hl0⟩,by simp only;omega,Z⟩)
 have tq5:(gk g2 3||gk g2 4)=false:=by rw[<-hq5];exact hb
 obtain⟨q7,hq7⟩:=eqv (gk g2 2);apply wp_seq;refine rg O a6 [28,0,1,5,6,7,8] [0,5,6,7,8] [(2,.r fun _=>.bool (.v q7))] Z (hob:=by intro X;subst O;simp only[b7,Ob.holds,BE.den]<;>and_intros<;>repeat first|trivial|rfl|exact(by rw[hq7];exact F5 g2 _ _ 2 _ rfl)|exact by rw[hq7];exact F5 g2 _ _ 2 _ rfl|exact(fun _ _=>by kernel_rfl)|refine⟨?_,?_⟩|intro h|exact Int.le_refl _|decide|omega) fun X7 _ _ Z=>?_
 apply a7 Z rfl<;>intro hb Z
 .have t7:(gk g2 2&&decide (l0.len<64))=true:=by subst O;rw[<-hq7];revert hb;cases q7<;>simp[std,a8]
  have h64:l0.len<64:=by simp at t7;exact t7.2
  have h0l:=(r7 hl0.isl).1;have S8:=Dr key (l0.len+1) hk;simp only[f4]at S8;have e1:IntKind.i64.wrap (l0.len+1)=l0.len+1:=o8 (by omega) (by omega);have hk8:=iX hk (l0.len+1);obtain⟨k,hk⟩:=eqv (ofV key (l0.len+1));rw[<-hk]at S8 hk8;obtain⟨ke,hke⟩:=eqv (ofE (l0.len+1));rw[<-hke]at S8;rw[<-e1]at S8;have O1:=S8;refine wp_seq (rg O a6 [0,1,5,6,7] [0,5,6,7] [(4,.r fun _=>.tup [.agg [.int .i64 k.len,.int .u64 k.bits],.int .i64 ke])] Z fun X8 _ _ Z=>?_);replace Z:=Z.keep [0,1,5,6,7] [0,5,6,7];exact wp_exit (⟨(m0,p2,_,_,k),⟨by rw[hrun];simp[C8,Rs.bind,hm2,tq3,tq5,t7,<-hk],hp2,hn2,by dsimp only;have:=hf0;have:=hl2;omega,hk8⟩,by simp only;omega,Z⟩)
 have t7:(gk g2 2&&decide (l0.len<64))=false:=by subst O;rw[<-hq7];revert hb;cases q7<;>simp[std,a8]
 obtain⟨q9,hq9⟩:=eqv (gk g2 5);apply wp_seq;refine rg O a6 [45,0,1,5,6,7,8] [0,5,6,7,8,47] [(2,.r fun _=>.bool (.v q9))] Z (hob:=by intro X;subst O;simp only[b7,Ob.holds,BE.den]<;>and_intros<;>repeat first|trivial|rfl|exact(by rw[hq9];exact F5 g2 _ _ 5 _ rfl)|exact by rw[hq9];exact F5 g2 _ _ 5 _ rfl|exact(fun _ _=>by kernel_rfl)|refine⟨?_,?_⟩|intro h|exact Int.le_refl _|decide|omega) fun X9 _ _ Z=>?_
 apply a7 Z rfl<;>intro hb Z
 .have tq9:gk g2 5=true:=by rw[<-hq9];exact hb
  rcases(Dh m0 0 b J hJ ((X2 2).A 0) ((X2 2).c 0) p2 hp2 hn2 l0 hl0 (by have:=hl2;have:=hf0;omega)).two (E8 _ _ _ _ _) hp2 hn2 with⟨w10,p10,hm10,O1⟩|⟨v10,p10,hm10,hs10,hp10,hn10,S10⟩
  .refine stp 2 O a6 [49,50] [0] [] Z O1 fun _ _ _ _ Z hk=>?_
   exact thm (P:=Tryz.prog) (fn:=Tryz.f166) (q:=p10) Z hk (by simp[hrun,C8,Rs.bind,hm2,tq3,tq5,t7,tq9,hm10])
  have O1:=S10;refine rg O a6 [0,1,5,6,7] [0,5,6,7] [(2,rc J (i4) p10)] Z fun X10 _ _ Z=>?_
  refine rg O a6 [0,1,5,6,7] [0,5,6,7] [] Z fun X13 _ _ Z=>?_
  replace Z:=Z.keep [0,1,5,6,7] [0,5,6,7];exact⟨(m0,p10,_,_,D6),⟨by rw[hrun];simp[C8,Rs.bind,hm2,tq3,tq5,t7,tq9,hm10],hp10,hn10,by dsimp only;have:=hf0;have:=hl2;have:=hs10.le;omega,R7⟩,by simp only;omega,Z⟩
 have tq9:gk g2 5=false:=by rw[<-hq9];exact hb
 apply wp_seq;refine rg O a6 [52,0,1,5,6,7,8] [0,5,6,7,8] [] Z (hob:=by intro X;subst O;simp only[b7,Ob.holds,BE.den]<;>and_intros<;>repeat first|trivial|rfl|exact f7 (Kk:=noK) _ _ _ _|exact(fun _ _=>by kernel_rfl)|refine⟨?_,?_⟩|intro h|exact Int.le_refl _|decide|omega) fun X11 _ _ Z=>?_
 apply a7 Z rfl<;>intro hb Z
 .have t11:(!g2.has&&decide (l0=D6))=true:=by
   have h9:(if(!g2.has)=true then eqL [.int .i64 l0.len,.int .u64 l0.bits] [.int .i64 0,.int .u64 0]else false)=true:=by subst O;exact hb
   rw[show eqL [.int .i64 l0.len,.int .u64 l0.bits] [.int .i64 0,.int .u64 0]=decide (l0=D6)from aq l0 D6]at h9;rw[<-h9];cases g2.has<;>rfl
  rcases(Ga 0 b J hJ ((X2 2).A 0) ((X2 2).c 0) p2 hp2 hn2 D6 g2.ver).two (l6 _ _ _ _ _) hp2 hn2 with⟨w12,p12,hm12,O1⟩|⟨d12,p12,hm12,hs12,hp12,hn12,S12⟩
  .have O2:=xN
   refine kM 5 O a6 [61,62,64,65] [0] [(4,.r fun _=>qa)] Z O1 fun _ _ _ _ Z hk=>?_
   exact thm (P:=Tryz.prog) (fn:=Tryz.f166) (q:=p12) Z hk (by simp[hrun,C8,Rs.bind,hm2,tq3,tq5,t7,tq9,t11,hm12])
  have O1:=xN;have O2:=S12;refine drg O a6 [0,1,5,6,7] [0,5,6,7] [(4,.r fun _=>qa),(5,rc J (.bool (.v d12)) p12)] Z fun X12 _ _ Z=>?_
  refine rg O a6 [0,1,5,6,7] [0,5,6,7] [] Z fun X13 _ _ Z=>?_
  replace Z:=Z.keep [0,1,5,6,7] [0,5,6,7];exact⟨(m0,p12,_,_,D6),⟨by rw[hrun];simp[C8,Rs.bind,hm2,tq3,tq5,t7,tq9,t11,hm12],hp12,hn12,by dsimp only;have:=hf0;have:=hl2;have:=hs12.le;omega,R7⟩,by simp only;omega,Z⟩
 have t11:(!g2.has&&decide (l0=D6))=false:=by
  have h9:(if(!g2.has)=true then eqL [.int .i64 l0.len,.int .u64 l0.bits] [.int .i64 0,.int .u64 0]else false)=false:=by subst O;exact hb
  rw[show eqL [.int .i64 l0.len,.int .u64 l0.bits] [.int .i64 0,.int .u64 0]=decide (l0=D6)from aq l0 D6]at h9;rw[<-h9];cases g2.has<;>rfl
 refine wp_skip (rg O a6 [0,1,5,6,7] [0,5,6,7] [] Z fun X13 _ _ Z=>?_);replace Z:=Z.keep [0,1,5,6,7] [0,5,6,7];exact⟨(m0,p2,_,_,D6),⟨by rw[hrun];simp[C8,Rs.bind,hm2,tq3,tq5,t7,tq9,t11],hp2,hn2,by dsimp only;have:=hf0;have:=hl2;omega,R7⟩,by simp only;omega,Z⟩
theorem xY(k0 b:Nat)(J:i5)(hJ:j0 J)(A:Option Addr)(c:Nat)(p:Pst)(hp:f9 p)(hn:p.n<=1000000)(key:Int)(hk:U64 key)(l:Lab)(hl:LOk l)(n:Nat)(hf:p.n<n):s5 166 k0 b J A c p [.int .u64 key,f4 l] (L9) (C8 J.bucket J.budget key n l p):=s5.re (Bf b J hJ A c p hp hn key hk l hl n hf) (by repeat(first|exact trivial|refine⟨zr,?_⟩))
theorem EJ(b:Nat)(J:i5)(hJ:j0 J)(A:Option Addr)(c:Nat)(p:Pst)(hp:f9 p)(hn:p.n<=1000000)(key:Int)(hk:U64 key)(n:Nat)(hf:p.n<n):s5 182 0 b J A c p [.int .u64 key] (L9) (C8 J.bucket J.budget key n D6 p):=by
 intro m w hm hargs hpre;refine enX 9 hm hpre hargs Tryz.func182 fun B O a0 Z=>?_
 refine wp_seq (rg O a6 [0,1,4] [0,4] [] Z fun X0 a0 w1 Z=>?_);apply wp_seq
 rcases(xY 0 b J hJ A c p hp hn key hk D6 R7 n hf).two (J6 _ _ _ _ _ _) hp hn with⟨w1,p1,hm1,O1⟩|⟨s1,p1,hm1,hs1,hp1,hn1,S1⟩
 .refine stp 3 O a6 [5,6,7] [0] [] Z O1 fun _ _ _ _ Z hk=>?_
  exact thm (P:=Tryz.prog) (fn:=Tryz.f182) (q:=p1) Z hk (by simp[Rs.bind,hm1])
 have O1:=S1;refine rg O a6 [4] [0,4] [(3,rc J (L9 s1) p1)] Z fun X1 a0 w1 Z=>?_
 exact wp_ret ((rmm O a6 Z (v:=s1) (q:=p1) ((X1 3).A 0) ((X1 3).c 0) (by simp[Rs.bind,hm1])).1)
theorem Dt(k0 b:Nat)(J:i5)(hJ:j0 J)(A:Option Addr)(c:Nat)(p:Pst)(hp:f9 p)(hn:p.n<=1000000)(key:Int)(hk:U64 key)(n:Nat)(hf:p.n<n):s5 182 k0 b J A c p [.int .u64 key] (L9) (C8 J.bucket J.budget key n D6 p):=s5.re (EJ b J hJ A c p hp hn key hk n hf) (by repeat(first|exact trivial|refine⟨zr,?_⟩))
section
variable {C:Cx} {P:Program} {Q:Exit->Act->World->Prop} {T:List (Nat×TI)} {s:St} {a:Act} {w:World} {B:Alg} {f:FuncId} {k:Nat} {blk:Blk} {ty:Nat} {v:i8->AV} {sets:i8->List (Nat×List AV)} {args':List AV} {id:Nat} {all L rest:List Oper} {R:Alg->(Nat->i8)->St×List Ob} {o:Oper} {c:Call} {g:Operand} {l r args:(Nat->i8)->List AV}
theorem stl(i n:Nat)(O:B=std)(hT:o5 P T)(kp km:List Nat)(cs:List (Nat×CS))(h:b6 C s a w)(hsp:W8 P f args' [(k,blk)] (fun x=>.thr ty (v x) (sets x)))
  (K:∀X x a w',b6 C ((R B X).1.eff (.sets (upd [(k,blk)] (sets x)))) a w'->Ok (((R B X).1.eff (.sets (upd [(k,blk)] (sets x)))).m C) w' (v x)->Q (.panic [{ v:=.iface ty (v x).den,recovered:=false }]) a w')
  (hex:∀A X,(K5 A T cs X all (l9 i (L.take n)) s).map (fun r=>(r.1.keep kp km,r.2.1))=some (R A X):=by intro A X;conv=>lhs;cbv) (hob:∀X,b7 P C.K (R B X).2:=by
   intro X;subst O
   first
   |exact trivial
   |(simp only[b7,Ob.holds,BE.den]<;>and_intros<;>(repeat first|trivial|rfl|exact O1|exact O2|exact O3|exact(fun _ _=>by kernel_rfl)|exact O1 _ _ _ rfl|exact O2 _ _ _ rfl|refine⟨?_,?_⟩|intro h|decide|omega)<;>done)
   |(simp[b7,Ob.holds,BE.den,std,a8,o9]<;>omega))
  (hL:L.drop n=o::rest:=by rfl) (hop:o.op = .call c:=by rfl) (hcal:c.callee = .value g:=by rfl) (hg:∀X,rJ all (R B X).1 o=true:=by intro X;rfl) (hgv:∀X,val (R B X).1 [] g = .fn f (l X) (r X):=by intro X;rfl) (hl:∀X,I2 (R B X).1 [] c.args.toList=some (args X):=by intro X;rfl) (hsim:∀X,F0 (l X++args X++r X) args':=by intro X;subst O;exact zl)
  (hpre:∀X,i6 (R B X).1.mem k=some blk:=by intro X;rfl) (hd:∀X,gS (R B X).1 o.dst=true:=by intro X;rfl) (hen:j6 P f:=by exact fun _ _=>by kernel_rfl):wpList P all.toArray Q L a w:=
 fi i n O hT kp km cs h hex hob fun X a1 w1 Z=>cK hL (hg X) hop hcal Z (hgv X) (hl X) hen hsp (hsim X) (fx (hpre X)) rfl (hd X) fun x w' Z hok=>K X x _ w' Z hok
end
theorem Sim.of_int{k:IntKind}{x y:Int}(h:x=y):Sim (.int k x) (.int k y):=h ▸ zr
theorem Ie(f:Nat->Int)(v:Int):dM 3 f v=(decide (f 0=v)||decide (f 1=v)||decide (f 2=v)):=by
 show(decide (f 0=v)||(decide (f 1=v)||(decide (f 2=v)||false)))=_
 rw[Bool.or_false,Bool.or_assoc]
theorem IR(g:u2)(A:Option Addr)(k k2 k3:Int)(f:Nat->Int)(h0:f 0=k)(h1:f 1=k2)(h2:f 2=k3):j7 Tryz.prog 179 [u5 g,.sl none A 3 3 1 (fun i=>[.int .i64 (f i)])] (fun _=>.bool (.v (gk g k||gk g k2||gk g k3))):=by
 intro m w hm hargs;have S:=oU A 3 3 f g.x.r.kd;obtain⟨q,hq⟩:=eqv (dM 3 f g.x.r.kd);rw[<-hq]at S;refine en 14 hm hargs Tryz.func179 fun B O a0 Z=>?_
 refine wp_seq (rg O a6 [1,2] [2] [] Z fun X0 _ _ Z=>?_);have O1:=S;refine wp_seq (rg O a6 [4] [] [(7,.r fun _=>.bool (.v q))] Z fun X1 _ _ Z=>?_);refine wp_ret ((rsi O a6 Z f8 (he:=?_)));subst O;refine Sim.bool ?_
 show(if g.has=true then q else false)=_
 rw[hq,Ie,h0,h1,h2];unfold gk;simp only[tK g.x.r.kd];cases g.has<;>rfl
theorem Du(g:u2)(G:Option Nat)(A:Option Addr)(k k2 k3:Int)(cells:Nat->List AV)(h0:cells 0=[.int .i64 k])(h1:cells 1=[.int .i64 k2])(h2:cells 2=[.int .i64 k3]):j7 Tryz.prog 179 [u5 g,.sl G A 3 3 1 cells] (fun _=>.bool (.v (gk g k||gk g k2||gk g k3))):=
 (IR g A k k2 k3 (fun i=>if i=0 then k else if i=1 then k2 else k3) rfl rfl rfl).sim ⟨zr,Sim.recell (fun i hi=>by
  match i,hi with
  |0,_=>rw[h0];rfl
  |1,_=>rw[h1];rfl
  |2,_=>rw[h2];rfl),trivial⟩
theorem EK(b:Nat)(J:i5)(hJ:j0 J)(A:Option Addr)(c:Nat)(p:Pst)(hp:f9 p)(hn:p.n<=1000000)(l:Lab)(hl:LOk l)(n:Nat)(hf:p.n<n):s5 253 0 b J A c p [f4 l] (fun b:Bool=>.bool (.v b)) (bG J.bucket J.budget n l p):=by
 intro m w hm hargs hpre;have SP:=wY l hl.u;simp only[f4]at SP;obtain⟨up,hup⟩:=eqv (G1 l);rw[<-hup]at SP;obtain⟨ue,hue⟩:=eqv (G4 l);rw[<-hue]at SP;refine enX 25 hm hpre hargs Tryz.func253 fun B O a0 Z=>?_
 refine wp_seq (rg O a6 [0,3] [0,3] [] Z fun X0 _ _ Z=>?_);have O1:=SP;refine wp_seq (rg O a6 [0,3,5,6] [0,3,5] [(1,.r fun _=>.tup [.agg [.int .i64 up.len,.int .u64 up.bits],.int .i64 ue])] Z fun X1 _ _ Z=>?_);refine wp_seq (wp_seq ?_)
 rcases Bool.eq_false_or_eq_true (decide (ue=0))with t8|t8
 .have t9:=of_decide_eq_true t8
  refine wp_region_lit (lpr 0 3 O a6 [14,0,3,5] [0,3,5] [] Z fun X2_0 _ _ Z=>?_);replace Z:=Z.headS (v':=.bool .ff) (Sim.bool (by subst O;have h9:=t8;simp[std,a8,BE.den]at h9 ⊢;exact h9)) rfl
  rcases(W0 0 b J hJ A c p hp hn up).two (i7 _ _ _) hp hn with⟨w2,p2,hm2,O1⟩|⟨q2,p2,hm2,hs2,hp2,hn2,S2⟩
  .refine stl 3 2 O a6 [14,15,16] [0] [] Z O1 fun _ _ _ _ Z hk=>?_
   exact thm (P:=Tryz.prog) (fn:=Tryz.f253) (q:=p2) Z hk (by simp[bG,<-hup,<-hue,Rs.bind,t8,t9,hm2])
  have hl2:=u7 hm2;have hg2:=hp.get hm2;obtain⟨r2,hr2⟩:=eqv ((gk q2 2||gk q2 3||gk q2 4));refine lnd 3 O a6 [21,0,3] [0,3] [(7,.r fun _=>.bool (.v r2)),(5,rc J (u5 q2) p2)] Z (hob:=by intro X;subst O;simp only[b7,Ob.holds,BE.den]<;>and_intros<;>repeat first|trivial|rfl|exact S2|exact(by rw[hr2];exact Du q2 _ _ 2 3 4 _ rfl rfl rfl)|exact by rw[hr2];exact Du q2 _ _ 2 3 4 _ rfl rfl rfl|exact(fun _ _=>by kernel_rfl)|refine⟨?_,?_⟩|intro h|exact Int.le_refl _|decide|omega) fun X2 _ _ Z=>?_
  apply a7 Z rfl<;>intro hb Z
  .have tr:(gk q2 2||gk q2 3||gk q2 4)=false:=by subst O;rw[<-hr2];revert hb;cases r2<;>simp[std]
   refine wp_seq (rg O a6 [4] [0] [] Z fun X3 _ _ Z=>?_);exact wp_ret ((rmm O a6 Z (v:=true) (q:=p2) ((X2 5).A 0) ((X2 5).c 0) (by simp[bG,<-hup,<-hue,Rs.bind,t8,t9,hm2,tr])).1)
  have tr:(gk q2 2||gk q2 3||gk q2 4)=true:=by subst O;rw[<-hr2];revert hb;cases r2<;>simp[std]
  refine wp_skip (wp_seq ?_)
  rcases(Dh n 0 b J hJ ((X2 5).A 0) ((X2 5).c 0) p2 hp2 hn2 l hl (by have:=hs2.le;omega)).two (E8 _ _ _ _ _) hp2 hn2 with⟨w4,p4,hm4,O1⟩|⟨v4,p4,hm4,hs4,hp4,hn4,S4⟩
  .refine stp 2 O a6 [22,23] [0] [] Z O1 fun _ _ _ _ Z hk=>?_
   exact thm (P:=Tryz.prog) (fn:=Tryz.f253) (q:=p4) Z hk (by simp[bG,<-hup,<-hue,Rs.bind,t8,t9,hm2,tr,hm4])
  have O1:=S4;refine rg O a6 [] [0] [(2,rc J (i4) p4)] Z fun X4 _ _ Z=>?_
  refine wp_seq (rg O a6 [4] [0] [] Z fun X5 _ _ Z=>?_);exact wp_ret ((rmm O a6 Z (v:=false) (q:=p4) ((X4 2).A 0) ((X4 2).c 0) (by simp[bG,<-hup,<-hue,Rs.bind,t8,t9,hm2,tr,hm4])).1)
 have t9:=of_decide_eq_false t8;refine wp_region_lit (lpr 0 3 O a6 [14,0,3,5] [0,3,5] [] Z fun X2_0 _ _ Z=>?_);replace Z:=Z.headS (v':=.bool .tt) (Sim.bool (by subst O;have h9:=t8;simp[std,a8,BE.den]at h9 ⊢;exact h9)) rfl;refine lnd 3 O a6 [21,0,3] [0,3] [] Z fun X2 _ _ Z=>?_
 refine j1 Z rfl (fun Z=>?_);refine wp_seq (rg O a6 [4] [0] [] Z fun X3 _ _ Z=>?_);exact wp_ret ((rmm O a6 Z (v:=true) (q:=p) A c (by simp[bG,<-hup,<-hue,Rs.bind,t8,t9])).1)
theorem Hw(k0 b:Nat)(J:i5)(hJ:j0 J)(A:Option Addr)(c:Nat)(p:Pst)(hp:f9 p)(hn:p.n<=1000000)(l:Lab)(hl:LOk l)(n:Nat)(hf:p.n<n):s5 253 k0 b J A c p [f4 l] (fun b:Bool=>.bool (.v b)) (bG J.bucket J.budget n l p):=s5.re (EK b J hJ A c p hp hn l hl n hf) (by repeat(first|exact trivial|refine⟨zr,?_⟩))
theorem Gc(b:Nat)(J:i5)(hJ:j0 J)(A:Option Addr)(c:Nat)(p:Pst)(hp:f9 p)(hn:p.n<=1000000)(key:Int)(hk:U64 key)(n:Nat)(hf:p.n<n):s5 211 0 b J A c p [.int .u64 key] (L9) (D7 J.bucket J.budget key n 0 64 p):=by
 intro m w hm hargs hpre;refine enX 63 hm hpre hargs Tryz.func211 fun B O a0 Z=>?_
 refine wp_seq (rg O a6 [0,1,4] [0,4] [] Z fun X0 _ _ Z=>?_);refine wp_scope_straight (wp_seq (rg O a6 [5,6,0,1,4] [0,4] [] Z fun X1 _ _ Z=>?_));refine wp_seq (wp_label (wp_seq (wp_block (l5 (ι:=Nat×Pst×Option Addr×Nat×Int×Int) (fun q=>[(5,.int .i64 q.2.2.2.2.1),(6,.int .i64 q.2.2.2.2.2)]) (fun q=>[(0,⟨b,139,C0 J q.2.2.1 q.2.2.2.1 q.2.1⟩)]) (fun q=>[]) (fun q=>D7 J.bucket J.budget key n 0 64 p=D7 J.bucket J.budget key q.1 q.2.2.2.2.1 q.2.2.2.2.2 q.2.1/\f9 q.2.1/\q.2.1.n<=1000000/\q.2.1.n<q.1/\0<=q.2.2.2.2.1/\q.2.2.2.2.1<=65/\-1<=q.2.2.2.2.2/\q.2.2.2.2.2<=64) (fun q=>q.1) (n,p,A,c,0,64) ⟨rfl,hp,hn,hf,(by dsimp only;omega),(by dsimp only;omega),(by dsimp only;omega),(by dsimp only;omega)⟩ Z ?_))))
 rintro⟨nn,p0,A0,c0,lo0,hi0⟩ ⟨hrun,hp0,hn0,hf0,ha0,ha1,hb0,hb1⟩ _ _ Z
 try dsimp only at hrun
 try dsimp only at hp0
 try dsimp only at hn0
 try dsimp only at hf0
 try dsimp only at ha0
 try dsimp only at ha1
 try dsimp only at hb0
 try dsimp only at hb1
 obtain⟨m0,rfl⟩:∃n2,nn=n2+1:=⟨nn-1,by omega⟩
 refine wp_seq (wp_seq (rg O a6 [13,0,1,4,5,6] [0,4] [] Z fun X2 _ _ Z=>?_));apply a7 Z rfl<;>intro hb Z
 .have tl:lo0<=hi0:=by subst O;simpa[std,a8]using hb
  obtain⟨md,hmd⟩:=eqv ((lo0+hi0) / 2);have hm0:0<=md/\md<=64:=by omega
  have e3:iO .quo .i64 (o9 .add .i64 lo0 hi0) 2=md:=by
   show IntKind.i64.wrap (Int.tdiv (IntKind.i64.wrap (lo0+hi0)) 2)=md
   rw[o8 (x:=lo0+hi0) (by omega) (by omega),Int.tdiv_eq_ediv_of_nonneg (by omega),<-hmd];exact o8 (by omega) (by omega)
  have e9:o9 .add .i64 md 1=md+1:=o8 (by omega) (by omega);have e13:o9 .sub .i64 md 1=md-1:=o8 (by omega) (by omega);have S8:=Dr key md hk;simp only[f4]at S8;have hk9:=iX hk md;obtain⟨k,hkk⟩:=eqv (ofV key md);rw[<-hkk]at S8 hk9;have hk8:=hkk;obtain⟨ke,hke⟩:=eqv (ofE md);rw[<-hke]at S8;refine wp_skip (wp_block (wp_seq (rg O a6 [7,0,1,4,5,6] [0,4] [] Z fun X3 _ _ Z=>?_)));replace Z:=Z.headS (v':=.int .i64 md) (by subst O;exact Sim.of_int e3) rfl;have O1:=S8;refine wp_seq (rg O a6 [0,1,4,5,6,7,8] [0,4,8] [(2,.r fun _=>.tup [.agg [.int .i64 k.len,.int .u64 k.bits],.int .i64 ke])] Z fun X4 _ _ Z=>?_);apply wp_seq
  rcases(W0 0 b J hJ A0 c0 p0 hp0 hn0 k).two (i7 _ _ _) hp0 hn0 with⟨w5,p5,hm5,O1⟩|⟨g5,p5,hm5,hs5,hp5,hn5,S5⟩
  .refine stp 2 O a6 [24,25] [0] [] Z O1 fun _ _ _ _ Z hk=>?_
   exact thm (P:=Tryz.prog) (fn:=Tryz.f211) (q:=p5) Z hk (by simp[hrun,D7,Rs.bind,tl,<-hmd,<-hk8,hm5])
  have hl5:=u7 hm5;have hg5:=hp0.get hm5;have O1:=S5;refine rg O a6 [0,1,4,5,6,7,8,10] [0,4,8,10] [(2,rc J (u5 g5) p5)] Z fun X5 _ _ Z=>?_
  obtain⟨q6,hq6⟩:=eqv (gk g5 1);refine wp_seq (wp_block (wp_seq ?_));refine rg O a6 [27,0,1,4,5,6,7,8,10] [0,4,8,10,29] [(2,.r fun _=>.bool (.v q6))] Z (hob:=by intro X;subst O;simp only[b7,Ob.holds,BE.den]<;>and_intros<;>repeat first|trivial|rfl|exact(by rw[hq6];exact F5 g5 _ _ 1 _ rfl)|exact by rw[hq6];exact F5 g5 _ _ 1 _ rfl|exact(fun _ _=>by kernel_rfl)|refine⟨?_,?_⟩|intro h|exact Int.le_refl _|decide|omega) fun X6 _ _ Z=>?_
  apply a7 Z rfl<;>intro hb Z
  .have tq6:gk g5 1=true:=by rw[<-hq6];exact hb
   refine wp_seq (rg O a6 [4] [0,4] [] Z fun X7 _ _ Z=>?_);exact wp_ret ((rmm O a6 Z (v:=(⟨k,g5⟩:Spt)) (q:=p5) ((X5 2).A 0) ((X5 2).c 0) (by simp[hrun,D7,Rs.bind,tl,<-hmd,<-hk8,hm5,tq6])).1)
  have tq6:gk g5 1=false:=by rw[<-hq6];exact hb
  obtain⟨q8,hq8⟩:=eqv (gk g5 2);apply wp_seq;refine rg O a6 [34,0,1,4,5,6,7,8,10] [0,4,8,10,36] [(2,.r fun _=>.bool (.v q8))] Z (hob:=by intro X;subst O;simp only[b7,Ob.holds,BE.den]<;>and_intros<;>repeat first|trivial|rfl|exact(by rw[hq8];exact F5 g5 _ _ 2 _ rfl)|exact by rw[hq8];exact F5 g5 _ _ 2 _ rfl|exact(fun _ _=>by kernel_rfl)|refine⟨?_,?_⟩|intro h|exact Int.le_refl _|decide|omega) fun X8 _ _ Z=>?_
  apply a7 Z rfl<;>intro hb Z
  .have tq8:gk g5 2=true:=by rw[<-hq8];exact hb
   refine wp_seq (rg O a6 [5,0,1,4,6] [0,4] [] Z fun X9 _ _ Z=>?_);have e9':B.arith .add .i64 md 1=md+1:=by subst O;exact e9
   replace Z:=Z.keep [5,6,0,1,4] [0,4];exact wp_exit (⟨(m0,p5,_,_,(md+1),hi0),⟨by rw[hrun];simp[D7,Rs.bind,tl,<-hmd,<-hk8,hm5,tq6,tq8],hp5,hn5,(by dsimp only;have:=hf0;have:=hl5;omega),(by dsimp only;omega),(by dsimp only;omega),(by dsimp only;omega),(by dsimp only;omega)⟩,by simp only;omega,by dsimp only;rw[<-e9'];exact Z⟩)
  have tq8:gk g5 2=false:=by rw[<-hq8];exact hb
  obtain⟨q10,hq10⟩:=eqv ((gk g5 3||gk g5 4));apply wp_seq;refine rg O a6 [40,0,1,4,5,6,7,8,10] [0,4,8,10,42] [(2,.r fun _=>.bool (.v q10))] Z (hob:=by intro X;subst O;simp only[b7,Ob.holds,BE.den]<;>and_intros<;>repeat first|trivial|rfl|exact(by rw[hq10];exact cw g5 _ _ 3 4 _ rfl rfl)|exact by rw[hq10];exact cw g5 _ _ 3 4 _ rfl rfl|exact(fun _ _=>by kernel_rfl)|refine⟨?_,?_⟩|intro h|exact Int.le_refl _|decide|omega) fun X10 _ _ Z=>?_
  apply a7 Z rfl<;>intro hb Z
  .have tq10:(gk g5 3||gk g5 4)=true:=by rw[<-hq10];exact hb
   apply wp_seq
   rcases(tC m0 0 b J hJ ((X5 2).A 0) ((X5 2).c 0) p5 hp5 hn5 k hk9 g5 hg5 (by have:=hl5;have:=hf0;omega)).two (F9 _ _ _ _ _ _) hp5 hn5 with⟨w11,p11,hm11,O1⟩|⟨v11,p11,hm11,hs11,hp11,hn11,S11⟩
   .refine stp 3 O a6 [44,45,46] [0] [] Z O1 fun _ _ _ _ Z hk=>?_
    exact thm (P:=Tryz.prog) (fn:=Tryz.f211) (q:=p11) Z hk (by simp[hrun,D7,Rs.bind,tl,<-hmd,<-hk8,hm5,tq6,tq8,tq10,hm11])
   have O1:=S11;refine rg O a6 [0,1,4,5,6] [0,4] [(3,rc J (i4) p11)] Z fun X11 _ _ Z=>?_
   replace Z:=Z.keep [5,6,0,1,4] [0,4];exact wp_exit (⟨(m0,p11,_,_,lo0,hi0),⟨by rw[hrun];simp[D7,Rs.bind,tl,<-hmd,<-hk8,hm5,tq6,tq8,tq10,hm11],hp11,hn11,(by dsimp only;have:=hf0;have:=hl5;have:=hs11.le;omega),(by dsimp only;omega),(by dsimp only;omega),(by dsimp only;omega),(by dsimp only;omega)⟩,by simp only;omega,by exact Z⟩)
  have tq10:(gk g5 3||gk g5 4)=false:=by rw[<-hq10];exact hb
  apply wp_seq
  rcases Bool.eq_false_or_eq_true (gk g5 5)with t8|t8
  .rcases (Hw 0 b J hJ ((X5 2).A 0) ((X5 2).c 0) p5 hp5 hn5 k hk9 m0 (by have:=hl5;have:=hf0;omega)).two (gY _ _ _ _ _) hp5 hn5 with⟨w12,p12,hm12,O1⟩|⟨b12,p12,hm12,hs12,hp12,hn12,S12⟩
   .refine stp 6 O a6 [52,53,54] [0] [(2,.r fun _=>.bool .tt)] Z O1 (hob:=by intro X;subst O;simp only[b7,Ob.holds,BE.den]<;>and_intros<;>repeat first|trivial|rfl|exact((F5 g5 _ _ 5 _ rfl).res fun _=>Sim.bool (by rw[t8];rfl))|exact(fun _ _=>by kernel_rfl)|refine⟨?_,?_⟩|intro h|exact Int.le_refl _|decide|omega) fun _ _ _ _ Z hk=>?_
    exact thm (P:=Tryz.prog) (fn:=Tryz.f211) (q:=p12) Z hk (by simp[hrun,D7,Rs.bind,tl,<-hmd,<-hk8,hm5,tq6,tq8,tq10,t8,hm12])
   refine rg O a6 [48,0,1,4,5,6,7] [0,4] [(2,.r fun _=>.bool .tt),(6,rc J (.bool (.v b12)) p12)] Z (hob:=by intro X;subst O;simp only[b7,Ob.holds,BE.den]<;>and_intros<;>repeat first|trivial|rfl|exact((F5 g5 _ _ 5 _ rfl).res fun _=>Sim.bool (by rw[t8];rfl))|exact S12|exact(fun _ _=>by kernel_rfl)|refine⟨?_,?_⟩|intro h|exact Int.le_refl _|decide|omega) fun X12 _ _ Z=>?_
   apply a7 Z rfl<;>intro hb Z
   .have tb:b12=false:=by subst O;revert hb;cases b12<;>simp[std]
    replace Z:=Z.keep [5,6,0,1,4] [0,4];exact wp_exit (⟨(m0,p12,_,_,lo0,hi0),⟨by rw[hrun];simp[D7,Rs.bind,tl,<-hmd,<-hk8,hm5,tq6,tq8,tq10,t8,hm12,tb],hp12,hn12,(by dsimp only;have:=hf0;have:=hl5;have:=hs12.le;omega),(by dsimp only;omega),(by dsimp only;omega),(by dsimp only;omega),(by dsimp only;omega)⟩,by simp only;omega,by exact Z⟩)
   have tb:b12=true:=by subst O;revert hb;cases b12<;>simp[std]
   refine wp_skip (rg O a6 [0,1,4,5,6] [0,4] [] Z fun X13 _ _ Z=>?_);have e13':B.arith .sub .i64 md 1=md-1:=by subst O;exact e13
   replace Z:=Z.keep [5,6,0,1,4] [0,4];exact⟨(m0,p12,_,_,lo0,(md-1)),⟨by rw[hrun];simp[D7,Rs.bind,tl,<-hmd,<-hk8,hm5,tq6,tq8,tq10,t8,hm12,tb],hp12,hn12,(by dsimp only;have:=hf0;have:=hl5;have:=hs12.le;omega),(by dsimp only;omega),(by dsimp only;omega),(by dsimp only;omega),(by dsimp only;omega)⟩,by simp only;omega,by dsimp only;rw[<-e13'];exact Z⟩
  refine rg O a6 [48,0,1,4,5,6,7] [0,4] [(2,.r fun _=>.bool .ff)] Z (hob:=by intro X;subst O;simp only[b7,Ob.holds,BE.den]<;>and_intros<;>repeat first|trivial|rfl|exact((F5 g5 _ _ 5 _ rfl).res fun _=>Sim.bool (by rw[t8];rfl))|exact(fun _ _=>by kernel_rfl)|refine⟨?_,?_⟩|intro h|exact Int.le_refl _|decide|omega) fun X12 _ _ Z=>?_
  refine j3 Z rfl (fun Z=>?_);refine wp_skip (rg O a6 [0,1,4,5,6] [0,4] [] Z fun X13 _ _ Z=>?_);have e13':B.arith .sub .i64 md 1=md-1:=by subst O;exact e13
  replace Z:=Z.keep [5,6,0,1,4] [0,4];exact⟨(m0,p5,_,_,lo0,(md-1)),⟨by rw[hrun];simp[D7,Rs.bind,tl,<-hmd,<-hk8,hm5,tq6,tq8,tq10,t8],hp5,hn5,(by dsimp only;have:=hf0;have:=hl5;omega),(by dsimp only;omega),(by dsimp only;omega),(by dsimp only;omega),(by dsimp only;omega)⟩,by simp only;omega,by dsimp only;rw[<-e13'];exact Z⟩
 have tl:¬lo0<=hi0:=by subst O;simpa[std,a8]using hb
 refine wp_exit (wp_seq ?_)
 rcases(Dt 0 b J hJ A0 c0 p0 hp0 hn0 key hk (m0+1) hf0).two (J6 _ _ _ _ _ _) hp0 hn0 with⟨w14,p14,hm14,O1⟩|⟨s14,p14,hm14,hs14,hp14,hn14,S14⟩
 .refine stp 2 O a6 [60,61] [0] [] Z O1 fun _ _ _ _ Z hk=>?_
  exact thm (P:=Tryz.prog) (fn:=Tryz.f211) (q:=p14) Z hk (by simp[hrun,D7,Rs.bind,tl,hm14])
 have O1:=S14;refine rg O a6 [4] [0,4] [(2,rc J (L9 s14) p14)] Z fun X14 _ _ Z=>?_
 exact wp_ret ((rmm O a6 Z (v:=s14) (q:=p14) ((X14 2).A 0) ((X14 2).c 0) (by simp[hrun,D7,Rs.bind,tl,hm14])).1)
theorem Ic(k0 b:Nat)(J:i5)(hJ:j0 J)(A:Option Addr)(c:Nat)(p:Pst)(hp:f9 p)(hn:p.n<=1000000)(key:Int)(hk:U64 key)(n:Nat)(hf:p.n<n):s5 211 k0 b J A c p [.int .u64 key] (L9) (D7 J.bucket J.budget key n 0 64 p):=s5.re (Gc b J hJ A c p hp hn key hk n hf) (by repeat(first|exact trivial|refine⟨zr,?_⟩))
theorem zK(b:Nat)(J:i5)(hJ:j0 J)(A:Option Addr)(c:Nat)(p:Pst)(hp:f9 p)(hn:p.n<=1000000)(key:Int)(hk:U64 key)(n:Nat)(hf:p.n<n)(hh:J.how=1):s5 145 0 b J A c p [.int .u64 key] (L9) (C8 J.bucket J.budget key n D6 p):=by
 intro m w hm hargs hpre;refine enX 17 hm hpre hargs Tryz.func145 fun B O a0 Z=>?_
 refine wp_seq (rg O a6 [0,1,4] [0,4] [] Z fun X0 _ _ Z=>?_);refine wp_seq (rg O a6 [0,1,4,5] [0,4,5] [] Z fun X1 _ _ Z=>?_);refine wp_seq (wp_region_lit (lpr 0 5 O a6 [11,0,1,4,5] [0,4,5] [] Z fun X2_0 _ _ Z=>?_));replace Z:=Z.headS (v':=.int .i64 1) (Sim.of_int hh) rfl
 rcases(Dt 0 b J hJ A c p hp hn key hk n hf).two (J6 _ _ _ _ _ _) hp hn with⟨w2,p2,hm2,O1⟩|⟨s2,p2,hm2,hs2,hp2,hn2,S2⟩
 .refine stl 5 4 O a6 [13,14,15] [0] [] Z O1 fun _ _ _ _ Z hk=>?_
  exact thm (P:=Tryz.prog) (fn:=Tryz.f145) (q:=p2) Z hk (by simp[Rs.bind,hm2])
 have O1:=S2;refine lnd 5 O a6 [4] [0,4] [(9,rc J (L9 s2) p2)] Z fun X2 _ _ Z=>?_
 exact wp_ret ((rmm O a6 Z (v:=s2) (q:=p2) ((X2 9).A 0) ((X2 9).c 0) (by simp[Rs.bind,hm2])).1)
theorem Ec(k0 b:Nat)(J:i5)(hJ:j0 J)(A:Option Addr)(c:Nat)(p:Pst)(hp:f9 p)(hn:p.n<=1000000)(key:Int)(hk:U64 key)(n:Nat)(hf:p.n<n)(hh:J.how=1):s5 145 k0 b J A c p [.int .u64 key] (L9) (C8 J.bucket J.budget key n D6 p):=s5.re (zK b J hJ A c p hp hn key hk n hf hh) (by repeat(first|exact trivial|refine⟨zr,?_⟩))
theorem zI(b:Nat)(J:i5)(hJ:j0 J)(A:Option Addr)(c:Nat)(p:Pst)(hp:f9 p)(hn:p.n<=1000000)(key:Int)(hk:U64 key)(n:Nat)(hf:p.n<n)(hh:J.how=2):s5 145 0 b J A c p [.int .u64 key] (L9) (D7 J.bucket J.budget key n 0 64 p):=by
 intro m w hm hargs hpre;refine enX 17 hm hpre hargs Tryz.func145 fun B O a0 Z=>?_
 refine wp_seq (rg O a6 [0,1,4] [0,4] [] Z fun X0 _ _ Z=>?_);refine wp_seq (rg O a6 [0,1,4,5] [0,4,5] [] Z fun X1 _ _ Z=>?_);refine wp_seq (wp_region_lit (lpr 0 5 O a6 [11,0,1,4,5] [0,4,5] [] Z fun X2_0 _ _ Z=>?_));replace Z:=Z.headS (v':=.int .i64 2) (Sim.of_int hh) rfl
 rcases(Ic 0 b J hJ A c p hp hn key hk n hf).two (cx _ _ _ _ _ _ _) hp hn with⟨w2,p2,hm2,O1⟩|⟨s2,p2,hm2,hs2,hp2,hn2,S2⟩
 .refine stl 5 4 O a6 [13,14,15] [0] [] Z O1 fun _ _ _ _ Z hk=>?_
  exact thm (P:=Tryz.prog) (fn:=Tryz.f145) (q:=p2) Z hk (by simp[Rs.bind,hm2])
 have O1:=S2;refine lnd 5 O a6 [4] [0,4] [(9,rc J (L9 s2) p2)] Z fun X2 _ _ Z=>?_
 exact wp_ret ((rmm O a6 Z (v:=s2) (q:=p2) ((X2 9).A 0) ((X2 9).c 0) (by simp[Rs.bind,hm2])).1)
theorem Eb(k0 b:Nat)(J:i5)(hJ:j0 J)(A:Option Addr)(c:Nat)(p:Pst)(hp:f9 p)(hn:p.n<=1000000)(key:Int)(hk:U64 key)(n:Nat)(hf:p.n<n)(hh:J.how=2):s5 145 k0 b J A c p [.int .u64 key] (L9) (D7 J.bucket J.budget key n 0 64 p):=s5.re (zI b J hJ A c p hp hn key hk n hf hh) (by repeat(first|exact trivial|refine⟨zr,?_⟩))
theorem sD(k0 b:Nat)(J:i5)(hJ:j0 J)(A:Option Addr)(c:Nat)(p:Pst)(hp:f9 p)(hn:p.n<=1000000)(key:Int)(hk:U64 key)(n:Nat)(hf:p.n<n)(hh:J.how=1 \/ J.how=2):s5 145 k0 b J A c p [.int .u64 key] L9 (dV J.bucket J.budget J.how key n p):=by
 unfold dV
 rcases hh with hh|hh
 .rw [if_pos hh];exact Ec k0 b J hJ A c p hp hn key hk n hf hh
 rw[if_neg (by omega)];exact Eb k0 b J hJ A c p hp hn key hk n hf hh
structure r9 where
 A:Option Addr
 n:Nat
 c:Nat
 f:Nat->u2
structure Rel(E:r9)(N:Nat)(p:Pst):Prop where
 n:p.n+N=E.n
 g:∀j,p.g j=E.f (N+j)
theorem Rel.suf{E:r9}{N:Nat}{p q:Pst}(h:Rel E N p)(hs:Suf p q):Rel E (E.n-q.n) q:=by
 obtain⟨d,h1,h2⟩:=hs;have h3:=h.n;refine⟨by omega,fun j=>?_⟩;rw[h2,h.g]
 congr 1
 omega
abbrev T0(J:i5)(E:r9)(N:Nat)(t:Nt):List AV:=[.int .i64 J.kind,.int .i64 J.lab.len,.int .u64 J.lab.bits,.int .u64 J.key,.int .u64 J.hi,.str J.val,.int .i64 J.most,.sl none J.pA J.pn J.pc 1 (fun i=>[.int .i64 (J.pf i)]),.int .u32 J.x1,.int .u32 J.x2,.int .u32 J.y1,.int .u32 J.y2,.int .i64 J.how,.int .i64 J.bucket,.int .i64 J.budget,
 .sl none E.A E.n E.c 8 (fun j=>Z3 (E.f j)),.int .i64 (N:Int),.bool .ff,
 .int .i64 0,.int .i64 0,.int .u64 0,.int .u64 0,.int .i64 0,.sl none none 0 0 2 (fun _=>[]),.int .i64 0,.int .u64 0,.int .u64 0,.int .i64 0,.bool .ff,.str ⟨#[]⟩,.sl none none 0 0 2 (fun _=>[]),.int .u64 0,.bool .ff,
 .int .i64 t.code,.bool (.v t.had),.str t.val,.sl none none 0 0 2 (fun _=>[]),.int .u64 0,.bool .ff]
abbrev E0(J:i5)(E:r9)(N:Nat)(w:A8)(t:Nt):List AV:=[.int .i64 J.kind,.int .i64 J.lab.len,.int .u64 J.lab.bits,.int .u64 J.key,.int .u64 J.hi,.str J.val,.int .i64 J.most,.sl none J.pA J.pn J.pc 1 (fun i=>[.int .i64 (J.pf i)]),.int .u32 J.x1,.int .u32 J.x2,.int .u32 J.y1,.int .u32 J.y2,.int .i64 J.how,.int .i64 J.bucket,.int .i64 J.budget,
 .sl none E.A E.n E.c 8 (fun j=>Z3 (E.f j)),.int .i64 (N:Int),.bool .tt,
 .int .i64 w.kind,.int .i64 w.lab.len,.int .u64 w.lab.bits,.int .u64 w.ver,.int .i64 w.x.r.kd,.sl none w.x.A w.x.r.n w.x.c 2 (fun i=>itC (w.x.r.f i)),.int .i64 w.x.r.nx.len,.int .u64 w.x.r.nx.bits,.int .u64 w.x.r.mrk,.int .i64 w.s.code,.bool (.v w.s.had),.str w.s.val,.sl none w.s.A w.s.n w.s.c 2 (fun i=>itC (w.s.f i)),.int .u64 w.s.key,.bool (.v w.s.more),
 .int .i64 t.code,.bool (.v t.had),.str t.val,.sl none none 0 0 2 (fun _=>[]),.int .u64 0,.bool .ff]
abbrev DA(b:Bool)(J:i5)(E:r9)(N:Nat)(w:A8)(t:Nt):List AV:=[.int .i64 J.kind,.int .i64 J.lab.len,.int .u64 J.lab.bits,.int .u64 J.key,.int .u64 J.hi,.str J.val,.int .i64 J.most,.sl none J.pA J.pn J.pc 1 (fun i=>[.int .i64 (J.pf i)]),.int .u32 J.x1,.int .u32 J.x2,.int .u32 J.y1,.int .u32 J.y2,.int .i64 J.how,.int .i64 J.bucket,.int .i64 J.budget,
 .sl none E.A E.n E.c 8 (fun j=>Z3 (E.f j)),.int .i64 (N:Int),.bool (.v b),
 .int .i64 w.kind,.int .i64 w.lab.len,.int .u64 w.lab.bits,.int .u64 w.ver,.int .i64 w.x.r.kd,.sl none w.x.A w.x.r.n w.x.c 2 (fun i=>itC (w.x.r.f i)),.int .i64 w.x.r.nx.len,.int .u64 w.x.r.nx.bits,.int .u64 w.x.r.mrk,.int .i64 w.s.code,.bool (.v w.s.had),.str w.s.val,.sl none w.s.A w.s.n w.s.c 2 (fun i=>itC (w.s.f i)),.int .u64 w.s.key,.bool (.v w.s.more),
 .int .i64 t.code,.bool (.v t.had),.str t.val,.sl none none 0 0 2 (fun _=>[]),.int .u64 0,.bool .ff]
theorem cU{b:Bool}(h:b=true)(J:i5)(E:r9)(N:Nat)(w:A8)(t:Nt):F0 (E0 J E N w t) (DA b J E N w t):=by
 subst h;exact⟨zr,zr,zr,zr,zr,zr,zr,zr,zr,zr,zr,zr,zr,zr,zr,zr,zr,Sim.bool rfl,zr,zr,zr,zr,zr,zr,zr,zr,zr,zr,zr,zr,zr,zr,zr,zr,zr,zr,zr,zr,zr,trivial⟩
theorem cV{b:Bool}(h:b=true)(J:i5)(E:r9)(N:Nat)(w:A8)(t:Nt):F0 (DA b J E N w t) (E0 J E N w t):=by
 subst h;exact⟨zr,zr,zr,zr,zr,zr,zr,zr,zr,zr,zr,zr,zr,zr,zr,zr,zr,Sim.bool rfl,zr,zr,zr,zr,zr,zr,zr,zr,zr,zr,zr,zr,zr,zr,zr,zr,zr,zr,zr,zr,zr,trivial⟩
def lW{α : Type}(k0:Nat)(J:i5)(E:r9)(enc:α->AV)(dfl:AV)(r:Rs α)(x:i8):CR:=match r with
 | .ok a p=>⟨enc a,[(k0,T0 J E (E.n-p.n) p.note)],[]⟩
 | .stop w p=>⟨dfl,[(k0,E0 J E (E.n-p.n) (wqA x w) p.note)],[]⟩
def u3{α : Type}(f:FuncId)(k0 b:Nat)(J:i5)(E:r9)(N:Nat)(p:Pst)(args:List AV)(enc:α->AV)(dfl:AV)(r:Rs α):Prop:=
 v8 Tryz.prog f (.ptr k0 b 0::args) [(k0,⟨b,147,T0 J E N p.note⟩)] (fun x=>lW k0 J E enc dfl r x)
theorem u3.ok{α : Type}{f:FuncId}{k0 b:Nat}{J:i5}{E:r9}{N M:Nat}{p q:Pst}{args:List AV}{enc:α->AV}{dfl:AV}{r:Rs α}{a:α}(h:u3 f k0 b J E N p args enc dfl r)(e:r = .ok a q)(hM:M=E.n-q.n) :
  v8 Tryz.prog f (.ptr k0 b 0::args) [(k0,⟨b,147,T0 J E N p.note⟩)] (fun x=>⟨enc a,[(k0,T0 J E M q.note)],[]⟩):=by
 subst e;subst hM;exact h
theorem u3.stop{α : Type}{f:FuncId}{k0 b:Nat}{J:i5}{E:r9}{N M:Nat}{p q:Pst}{args:List AV}{enc:α->AV}{dfl:AV}{r:Rs α}{w:Wq}(h:u3 f k0 b J E N p args enc dfl r)(e:r = .stop w q)(hM:M=E.n-q.n)
  {rr:RN} {nn:Nat} {ff:Nat->Itm} (h1:rr=w.r.rn) (h2:nn=w.res.items.length) (h3:ff=itF w.res.items) :
  v8 Tryz.prog f (.ptr k0 b 0::args) [(k0,⟨b,147,T0 J E N p.note⟩)] (fun x=>⟨dfl,[(k0,E0 J E M ⟨w.kind,w.lab,w.ver,⟨x.A 1,x.c 1,rr⟩,⟨w.res.code,w.res.had,w.res.val,x.A 2,nn,x.c 2,ff,w.res.key,w.res.more⟩⟩ q.note)],[]⟩):=by
 subst e;subst hM;subst h1;subst h2;subst h3;exact h
theorem u3.re{α : Type}{f:FuncId}{k0 b:Nat}{J:i5}{E:r9}{N:Nat}{p:Pst}{args args':List AV}{enc:α->AV}{dfl:AV}{r:Rs α}(h:u3 f 0 b J E N p args enc dfl r)(ha:F0 args' args):u3 f k0 b J E N p args' enc dfl r:=
 v8.re h ⟨Sim.ptr,ha⟩ rfl fun x=>by
  cases r with
  |ok a p=>exact⟨rfl,rfl,zr,rfl⟩
  |stop w p=>exact⟨rfl,rfl,zr,rfl⟩
def L5(f:FuncId)(k0 b:Nat)(J:i5)(E:r9)(N:Nat)(q:A8)(t:Nt)(args:List AV)(dfl:AV):Prop:=
 v8 Tryz.prog f (.ptr k0 b 0::args) [(k0,⟨b,147,E0 J E N q t⟩)] (fun _=>⟨dfl,[(k0,E0 J E N q t)],[]⟩)
theorem L5.re{f:FuncId}{k0 b:Nat}{J:i5}{E:r9}{N:Nat}{q:A8}{t:Nt}{args args':List AV}{dfl:AV}(h:L5 f 0 b J E N q t args dfl)(ha:F0 args' args):L5 f k0 b J E N q t args' dfl:=
 v8.re h ⟨Sim.ptr,ha⟩ rfl fun x=>⟨rfl,rfl,zr,rfl⟩
section
variable {P:Program} {T:List (Nat×TI)} {s:St} {a:Act} {w:World} {α : Type} {Kk:Kn} {m:Nat->Nat->Prop} {w0:World} {b k0 ty:Nat} {cs:List AV} {fn:Func} {enc:α->AV} {dfl:AV} {J:i5} {E:r9} {r:Rs α}
theorem En(hT:o5 P T)(h:b6 ⟨m,w0,ats [(k0,⟨b,ty,cs⟩)],[],Kk⟩ s a w){rs:List ResultVar}(hfn:fn.results=rs.toArray){rr:List AV×List Ob}(hrr:Y4 T s rs=some rr)(ho:b7 P Kk rr.2)
  {v:α} {q:Pst} {M:Nat} (hr:r = .ok v q) (hM:M=E.n-q.n) (he:Sim (can (Q5 rr.1)) (can (enc v))) (hs:B7 s [(k0,⟨b,ty,cs⟩)] [(k0,T0 J E M q.note)]) :
  bodyPost P fn (Z2 m w0 [(k0,⟨b,ty,cs⟩)] (fun x=>lW k0 J E enc dfl r x)) .ret a w/\bodyPost P fn (Z2 m w0 [(k0,⟨b,ty,cs⟩)] (fun x=>lW k0 J E enc dfl r x)) .normal a w:=by
 subst hr;subst hM;exact sG (res:=fun x=>lW k0 J E enc dfl (.ok v q) x) hT h hfn hrr ho ⟨0,fun _=>none,fun _=>0,fun _=>.empty⟩ [] he hs trivial
theorem El(hT:o5 P T)(h:b6 ⟨m,w0,ats [(k0,⟨b,ty,cs⟩)],[],Kk⟩ s a w){rs:List ResultVar}(hfn:fn.results=rs.toArray){rr:List AV×List Ob}(hrr:Y4 T s rs=some rr)(ho:b7 P Kk rr.2)
  {q:Pst} {wq:Wq} {Q:A8} {M:Nat} (x:i8) (hr:r = .stop wq q) (hM:M=E.n-q.n) (hq:Q=wqA x wq) (he:Sim (can (Q5 rr.1)) (can dfl)) (hs:B7 s [(k0,⟨b,ty,cs⟩)] [(k0,E0 J E M Q q.note)]) :
  bodyPost P fn (Z2 m w0 [(k0,⟨b,ty,cs⟩)] (fun x=>lW k0 J E enc dfl r x)) .ret a w/\bodyPost P fn (Z2 m w0 [(k0,⟨b,ty,cs⟩)] (fun x=>lW k0 J E enc dfl r x)) .normal a w:=by
 subst hr;subst hM;subst hq;exact sG (res:=fun x=>lW k0 J E enc dfl (.stop wq q) x) hT h hfn hrr ho x [] he hs trivial
theorem wN(hT:o5 P T)(h:b6 ⟨m,w0,ats [(k0,⟨b,ty,cs⟩)],[],Kk⟩ s a w){rs:List ResultVar}(hfn:fn.results=rs.toArray){rr:List AV×List Ob}(hrr:Y4 T s rs=some rr)(ho:b7 P Kk rr.2)
  {sets:List (Nat×List AV)} (he:Sim (can (Q5 rr.1)) (can dfl)) (hs:B7 s [(k0,⟨b,ty,cs⟩)] sets) :
  bodyPost P fn (Z2 m w0 [(k0,⟨b,ty,cs⟩)] (fun _=>⟨dfl,sets,[]⟩)) .ret a w/\bodyPost P fn (Z2 m w0 [(k0,⟨b,ty,cs⟩)] (fun _=>⟨dfl,sets,[]⟩)) .normal a w:=
 sG (res:=fun _=>⟨dfl,sets,[]⟩) hT h hfn hrr ho ⟨0,fun _=>none,fun _=>0,fun _=>.empty⟩ [] he hs trivial
end
abbrev bq:AV:=.agg [.int .i64 0,.int .u64 0,.bool .ff,.int .i64 0,.sl none none 0 0 2 (fun _=>[]),.int .i64 0,.int .u64 0,.int .u64 0]
theorem Ad{J:i5}{E:r9}{N:Nat}{p:Pst}(h:Rel E N p):((p.n:Int)+(J.budget-E.n)<=0↔J.budget<=(N:Int))/\(0<p.n↔N<E.n):=by
 have:=h.n;omega
inductive LSt where
 |go (n:Nat) (p:Pst) (N:Nat)
 |dn (p:Pst) (N:Nat)
 |sp (N:Nat) (Q:A8) (t:Nt)
abbrev lsC(J:i5)(E:r9):LSt->List AV
 | .go _ p N=>T0 J E N p.note
 | .dn p N=>T0 J E N p.note
 | .sp N Q t=>E0 J E N Q t
abbrev lsB:LSt->BE
 | .dn .. =>.tt
 |_=>.ff
def lsM:LSt->Nat
 | .go n _ _=>n+1
 |_=>0
abbrev Ej(x:mF):AV:=.agg [.int .i64 x.code,.bool (.v x.had),.str x.val,.sl none x.A x.n x.c 2 (fun i=>itC (x.f i)),.int .u64 x.key,.bool (.v x.more)]
section
variable {P:Program} {T:List (Nat×TI)} {s:St} {a:Act} {w:World} {α : Type} {Kk:Kn} {m:Nat->Nat->Prop} {w0:World} {b k0 ty:Nat} {cs:List AV} {fn:Func} {enc:α->AV} {dfl:AV} {J:i5} {E:r9} {r:Rs α} {rs:List ResultVar} {rr:List AV×List Ob} {B:Alg}
theorem u3.two{f:FuncId}{N:Nat}{p:Pst}{args:List AV}(h:u3 f k0 b J E N p args enc dfl r)(hf:Fro p r)(hp:f9 p)(hn:p.n<=1000000)(hR:Rel E N p) :
  (∃v q M,r = .ok v q/\Suf p q/\f9 q/\q.n<=1000000/\Rel E M q/\M=E.n-q.n/\v8 Tryz.prog f (.ptr k0 b 0::args) [(k0,⟨b,147,T0 J E N p.note⟩)] (fun _=>⟨enc v,[(k0,T0 J E M q.note)],[]⟩)) ∨
  ∃wq q M,∃W:i8->A8,r = .stop wq q/\Suf p q/\M=E.n-q.n/\(∀x,W x=wqA x wq)/\v8 Tryz.prog f (.ptr k0 b 0::args) [(k0,⟨b,147,T0 J E N p.note⟩)] (fun x=>⟨dfl,[(k0,E0 J E M (W x) q.note)],[]⟩):=by
 cases hr:r with
 |ok v q=>have hs:=hf.of hr;exact .inl ⟨v,q,_,rfl,hs,hp.suf hs,Nat.le_trans hs.le hn,hR.suf hs,rfl,h.ok hr rfl⟩
 |stop wq q=>exact .inr ⟨wq,q,_,fun x=>wqA x wq,rfl,hf.ofs hr,rfl,fun _=>rfl,h.stop hr rfl rfl rfl rfl⟩
abbrev lc(J:i5)(E:r9)(v:AV)(N:Nat)(p:Pst):CS:=.x fun _=>⟨v,[(0,T0 J E N p.note)],[]⟩
abbrev sc(J:i5)(E:r9)(v:AV)(N:Nat)(W:i8->A8)(t:Nt):CS:=.x fun x=>⟨v,[(0,E0 J E N (W x) t)],[]⟩
abbrev dc(J:i5)(E:r9)(v:AV)(N:Nat)(W:A8)(t:Nt):CS:=.x fun _=>⟨v,[(0,E0 J E N W t)],[]⟩
theorem rgo(O:B=std)(hT:o5 P T)(h:b6 ⟨m,w0,ats [(k0,⟨b,ty,cs⟩)],[],Kk⟩ s a w){v:α}{q:Pst}{M:Nat}(hr0:r = .ok v q)(hM:M=E.n-q.n)(hfn:fn.results=rs.toArray:=by rfl)(hr:Y4 T s rs=some rr:=by first|rfl|(conv=>lhs;cbv))(ho:b7 P Kk rr.2:=by first|exact trivial|(subst O;simp[b7,Ob.holds]))(he:Sim (can (Q5 rr.1)) (can (enc v)):=by subst O;exact zr)(hs:B7 s [(k0,⟨b,ty,cs⟩)] [(k0,T0 J E M q.note)]:=by subst O;exact⟨rfl,⟨_,rfl,zl⟩,trivial⟩) :
  bodyPost P fn (Z2 m w0 [(k0,⟨b,ty,cs⟩)] (fun x=>lW k0 J E enc dfl r x)) .ret a w/\bodyPost P fn (Z2 m w0 [(k0,⟨b,ty,cs⟩)] (fun x=>lW k0 J E enc dfl r x)) .normal a w:=En hT h hfn hr ho hr0 hM he hs
theorem rst(O:B=std)(hT:o5 P T)(h:b6 ⟨m,w0,ats [(k0,⟨b,ty,cs⟩)],[],Kk⟩ s a w){q:Pst}{wq:Wq}{Q:A8}{M:Nat}(x:i8)(hr0:r = .stop wq q)(hM:M=E.n-q.n)(hq:Q=wqA x wq)(hfn:fn.results=rs.toArray:=by rfl)(hr:Y4 T s rs=some rr:=by first|rfl|(conv=>lhs;cbv))(ho:b7 P Kk rr.2:=by first|exact trivial|(subst O;simp[b7,Ob.holds]))(he:Sim (can (Q5 rr.1)) (can dfl):=by subst O;exact zr)(hs:B7 s [(k0,⟨b,ty,cs⟩)] [(k0,E0 J E M Q q.note)]:=by subst O;exact⟨rfl,⟨_,rfl,zl⟩,trivial⟩) :
  bodyPost P fn (Z2 m w0 [(k0,⟨b,ty,cs⟩)] (fun x=>lW k0 J E enc dfl r x)) .ret a w/\bodyPost P fn (Z2 m w0 [(k0,⟨b,ty,cs⟩)] (fun x=>lW k0 J E enc dfl r x)) .normal a w:=El hT h hfn hr ho x hr0 hM hq he hs
theorem rdd(O:B=std)(hT:o5 P T)(h:b6 ⟨m,w0,ats [(k0,⟨b,ty,cs⟩)],[],Kk⟩ s a w){sets:List (Nat×List AV)}(hfn:fn.results=rs.toArray:=by rfl)(hr:Y4 T s rs=some rr:=by first|rfl|(conv=>lhs;cbv))(ho:b7 P Kk rr.2:=by first|exact trivial|(subst O;simp[b7,Ob.holds]))(he:Sim (can (Q5 rr.1)) (can dfl):=by subst O;exact zr)(hs:B7 s [(k0,⟨b,ty,cs⟩)] sets:=by subst O;exact⟨rfl,⟨_,rfl,zl⟩,trivial⟩) :
  bodyPost P fn (Z2 m w0 [(k0,⟨b,ty,cs⟩)] (fun _=>⟨dfl,sets,[]⟩)) .ret a w/\bodyPost P fn (Z2 m w0 [(k0,⟨b,ty,cs⟩)] (fun _=>⟨dfl,sets,[]⟩)) .normal a w:=wN hT h hfn hr ho he hs
end
theorem Ai(b:Nat)(J:i5)(E:r9)(hE:E.n<=1000000)(N:Nat)(q:A8)(t:Nt)(x:mF):v8 Tryz.prog 40 [.ptr 0 b 0,Ej x] [(0,⟨b,147,T0 J E N t⟩)] (fun _=>⟨i4,[(0,E0 J E N ⟨4,⟨0,0⟩,0,zRA,x⟩ t)],[]⟩):=by
 intro m w hm hargs hpre;refine enX 17 hm hpre hargs Tryz.func40 fun B O a0 Z=>?_
 refine wp_seq (rg O a6 [0,3] [0,3] [] Z fun X0 _ _ Z=>?_);refine wp_seq (rg O a6 [8,0,3] [0,3] [] Z fun X1 _ _ Z=>?_);refine j1 Z rfl (fun Z=>?_);refine wp_seq (rg O a6 [0,3] [0,3] [] Z fun X2 _ _ Z=>?_);refine rg O a6 [] [0] [] Z fun X3 _ _ Z=>?_
 refine(rx O a6 Z f8 [] (hs:=?_)).2;subst O;exact⟨rfl,⟨_,rfl,⟨zr,zr,zr,zr,zr,zr,zr,zr,zr,zr,zr,zr,zr,zr,zr,zr,zr,zr,zr,zr,zr,zr,zr,zq0,zr,zr,zr,zr,zr,zr,zr,zr,zr,zr,zr,zr,zr,zr,zr,trivial⟩⟩,trivial⟩
theorem xc(k0 b:Nat)(J:i5)(E:r9)(hE:E.n<=1000000)(N:Nat)(q:A8)(t:Nt)(x:mF):v8 Tryz.prog 40 [.ptr k0 b 0,Ej x] [(k0,⟨b,147,T0 J E N t⟩)] (fun _=>⟨i4,[(k0,E0 J E N ⟨4,⟨0,0⟩,0,zRA,x⟩ t)],[]⟩):=
 v8.re (Ai b J E hE N q t x) ⟨Sim.ptr,zr,trivial⟩ rfl fun x=>⟨rfl,rfl,zr,rfl⟩
theorem Aj(b:Nat)(J:i5)(E:r9)(hE:E.n<=1000000)(N:Nat)(q:A8)(t:Nt)(x:mF):L5 40 0 b J E N q t [Ej x] (i4):=by
 intro m w hm hargs hpre;refine enX 17 hm hpre hargs Tryz.func40 fun B O a0 Z=>?_
 refine wp_seq (rg O a6 [0,3] [0,3] [] Z fun X0 _ _ Z=>?_);refine wp_seq (rg O a6 [8,0,3] [0,3] [] Z fun X1 _ _ Z=>?_);refine j3 Z rfl (fun Z=>?_);exact wp_skip ((rdd O a6 Z).2)
theorem Ch(b:Nat)(J:i5)(hJ:j0 J)(E:r9)(hE:E.n<=1000000)(N:Nat)(p:Pst)(hR:Rel E N p)(hp:f9 p)(hn:p.n<=1000000)(q:A8):u3 170 0 b J E N p [D5 q] (u5) (bq) (U3 (J.budget-E.n) q.absQ p):=by
 intro m w hm hargs hpre;have hN0:N=E.n-p.n:=by have:=hR.n;omega
 obtain⟨ha,hbu,_,_,_⟩:=hJ;have hmx:maxLen=9223372036854775807:=rfl;obtain⟨hq1,hq2⟩:=Ad (J:=J) hR;have hrn:=hR.n;have e1:IntKind.i64.wrap ((N:Int)+1)=((N+1:Nat):Int):=by rw[o8 (by omega) (by omega)];omega
 have e2:IntKind.i64.wrap (((N+1:Nat):Int)-1)=(N:Int):=by rw[o8 (by omega) (by omega)];omega
 refine enX 64 hm hpre hargs Tryz.func170 fun B O a0 Z=>?_
 refine wp_seq (rg O a6 [0,3,4] [0,3,4] [] Z fun X0 _ _ Z=>?_);refine wp_seq (wp_seq (rg O a6 [8,0,3,4] [0,3,4] [] Z fun X1 _ _ Z=>?_));refine j3 Z rfl (fun Z=>?_);refine wp_skip (wp_seq (wp_seq (drg O a6 [19,0,3,4] [0,3,4] [] Z fun X3 _ _ Z=>?_)));apply a7 Z rfl<;>intro hb Z
 .have ho:J.budget<=(N:Int):=by subst O;simpa[std,a8]using hb
  have SO:v8 Tryz.prog 40 [.ptr 0 b 0,.agg [.int .i64 p.note.code,.bool (.v p.note.had),.str p.note.val,.sl none none 0 0 2 (fun _=>[]),.int .u64 0,.bool .ff]] [(0,⟨b,147,T0 J E N p.note⟩)] (fun _=>⟨i4,[(0,E0 J E N ⟨4,⟨0,0⟩,0,zRA,⟨p.note.code,p.note.had,p.note.val,none,0,0,fun _=>C2,0,false⟩⟩ p.note)],[]⟩):=v8.re (xc 0 b J E hE N q p.note ⟨p.note.code,p.note.had,p.note.val,none,0,0,fun _=>C2,0,false⟩) ⟨zr,Sim.agg ⟨zr,zr,zr,zq0,zr,Sim.ff,trivial⟩,trivial⟩ rfl fun x=>⟨rfl,rfl,zr,rfl⟩
  have O1:=SO;refine wp_seq (rg O a6 [4] [0,4] [(5,.x fun _=>⟨i4,[(0,E0 J E N ⟨4,⟨0,0⟩,0,zRA,⟨p.note.code,p.note.had,p.note.val,none,0,0,fun _=>C2,0,false⟩⟩ p.note)],[]⟩)] Z fun X4 _ _ Z=>?_);refine wp_seq (rg O a6 [4] [0,4] [] Z fun X5 _ _ Z=>?_);refine wp_ret ((rst O a6 Z (q:=p) (wq:=(Dl p)) ⟨0,fun _=>none,fun _=>0,fun _=>.empty⟩ (by unfold U3;rw[if_neg (by omega),if_pos (hq1.2 ho)]) hN0 rfl (hs:=?_)).1);subst O;exact⟨rfl,⟨_,rfl,⟨zr,zr,zr,zr,zr,zr,zr,zr,zr,zr,zr,zr,zr,zr,zr,zr,zr,zr,zr,zr,zr,zr,zr,zq0,zr,zr,zr,zr,zr,zr,zq0,zr,zr,zr,zr,zr,zr,zr,zr,trivial⟩⟩,trivial⟩
 have ho:¬J.budget<=(N:Int):=by subst O;simpa[std,a8]using hb
 refine wp_skip (wp_seq (wp_seq (drg O a6 [36,0,3,4] [0,3,4] [] Z fun X6 _ _ Z=>?_)));apply a7 Z rfl<;>intro hb Z
 .have hl:¬0<p.n:=by
   have:(N:Int) ≥ (E.n:Int):=by subst O;simpa[std,a8]using hb
   omega
  refine wp_seq (rg O a6 [0,3,4] [0,3,4] [] Z fun X7 _ _ Z=>?_);refine wp_seq (rg O a6 [4] [0,4] [] Z fun X8 _ _ Z=>?_);refine wp_seq (rg O a6 [4] [0,4] [] Z fun X9 _ _ Z=>?_);refine wp_ret ((rst O a6 Z (q:=p) (wq:=q.absQ) ⟨0,fun i=>if i=1 then q.x.A else q.s.A,fun i=>if i=1 then q.x.c else q.s.c,fun _=>.empty⟩ (by unfold U3;rw[if_neg (by omega),if_neg (fun h=>ho (hq1.1 h))]) hN0 rfl (hs:=?_)).1);subst O;exact⟨rfl,⟨_,rfl,⟨zr,zr,zr,zr,zr,zr,zr,zr,zr,zr,zr,zr,zr,zr,zr,zr,zr,zr,zr,zr,zr,zr,zr,ko _ _ _ _,zr,zr,zr,zr,zr,zr,ko _ _ _ _,zr,zr,zr,zr,zr,zr,zr,zr,trivial⟩⟩,trivial⟩
 have hl:0<p.n:=by
  have:¬(N:Int) ≥ (E.n:Int):=by subst O;simpa[std,a8]using hb
  omega
 refine wp_skip (wp_seq (rg O a6 [0,4] [0,4] [] Z fun X10 _ _ Z=>?_));apply wp_seq;refine drg O a6 [4] [0,4] [] Z (hob:=by intro X;subst O;simp only[b7,Ob.holds,BE.den]<;>and_intros<;>repeat first|trivial|rfl|exact⟨(show(0:Int)<=IntKind.i64.wrap (IntKind.i64.wrap ((N:Int)+1)-1)by rw[e1,e2];omega),(show IntKind.i64.wrap (IntKind.i64.wrap ((N:Int)+1)-1)<(E.n:Int)by rw[e1,e2];omega)⟩|exact(show(0:Int)<=IntKind.i64.wrap (IntKind.i64.wrap ((N:Int)+1)-1)by rw[e1,e2];omega)|exact(show IntKind.i64.wrap (IntKind.i64.wrap ((N:Int)+1)-1)<(E.n:Int)by rw[e1,e2];omega)|exact(fun _ _=>by kernel_rfl)|refine⟨?_,?_⟩|intro h|exact Int.le_refl _|decide|omega) fun X11 _ _ Z=>?_
 refine wp_ret ((rgo O a6 Z (v:=(p.g 0)) (q:=p.tl) (by unfold U3;rw[if_pos (by omega)]) (by show N+1=E.n-(p.n-1);omega) (he:=?_) (hs:=?_)).1)
 .subst O
  rw[hR.g 0]
  show Sim (.agg (Z3 (E.f (IntKind.i64.wrap (IntKind.i64.wrap ((N:Int)+1)-1)).toNat))) (u5 (E.f (N+0)))
  rw[e1,e2];exact zr
 subst O;refine⟨rfl,⟨_,rfl,⟨zr,zr,zr,zr,zr,zr,zr,zr,zr,zr,zr,zr,zr,zr,zr,zr,?_,zr,zr,zr,zr,zr,zr,zr,zr,zr,zr,zr,zr,zr,zr,zr,zr,zr,zr,zr,zr,zr,zr,trivial⟩⟩,trivial⟩
 show Sim (.int .i64 (IntKind.i64.wrap ((N:Int)+1))) _
 rw[e1];exact zr
theorem rX(k0 b:Nat)(J:i5)(hJ:j0 J)(E:r9)(hE:E.n<=1000000)(N:Nat)(p:Pst)(hR:Rel E N p)(hp:f9 p)(hn:p.n<=1000000)(q:A8):u3 170 k0 b J E N p [D5 q] (u5) (bq) (U3 (J.budget-E.n) q.absQ p):=u3.re (Ch b J hJ E hE N p hR hp hn q) (by repeat(first|exact trivial|refine⟨zr,?_⟩))
theorem Ci(b:Nat)(J:i5)(E:r9)(hE:E.n<=1000000)(N:Nat)(q:A8)(t:Nt)(r:A8):L5 170 0 b J E N q t [D5 r] (bq):=by
 intro m w hm hargs hpre;refine enX 64 hm hpre hargs Tryz.func170 fun B O a0 Z=>?_
 refine wp_seq (rg O a6 [0,3,4] [0,3,4] [] Z fun X0 _ _ Z=>?_);refine wp_seq (wp_seq (rg O a6 [8,0,3,4] [0,3,4] [] Z fun X1 _ _ Z=>?_));refine j1 Z rfl (fun Z=>?_);refine wp_seq (rg O a6 [4] [0,4] [] Z fun X2 _ _ Z=>?_);exact wp_ret ((rdd O a6 Z).1)
theorem yB(k0 b:Nat)(J:i5)(E:r9)(hE:E.n<=1000000)(N:Nat)(q:A8)(t:Nt)(r:A8):L5 170 k0 b J E N q t [D5 r] (bq):=L5.re (Ci b J E hE N q t r) (by repeat(first|exact trivial|refine⟨zr,?_⟩))
theorem Cc(k0 b:Nat)(J:i5)(hJ:j0 J)(E:r9)(hE:E.n<=1000000)(N:Nat)(p:Pst)(hR:Rel E N p)(hp:f9 p)(hn:p.n<=1000000)(l:Lab):u3 170 k0 b J E N p [.agg [.int .i64 1,.int .i64 l.len,.int .u64 l.bits,.int .u64 0,.int .i64 0,.sl none none 0 0 2 (fun _=>[]),.int .i64 0,.int .u64 0,.int .u64 0,.int .i64 0,.bool .ff,.str ⟨#[]⟩,.sl none none 0 0 2 (fun _=>[]),.int .u64 0,.bool .ff]] u5 bq (K0 (J.budget-E.n) l p):=
 u3.re (rX 0 b J hJ E hE N p hR hp hn ⟨1,l,0,zRA,fH⟩) ⟨Sim.agg ⟨zr,zr,zr,zr,zr,zq0,zr,zr,zr,zr,Sim.ff,zr,zq0,zr,Sim.ff,trivial⟩,trivial⟩
theorem Cd(k0 b:Nat)(J:i5)(E:r9)(hE:E.n<=1000000)(N:Nat)(q:A8)(t:Nt)(l:Lab):L5 170 k0 b J E N q t [.agg [.int .i64 1,.int .i64 l.len,.int .u64 l.bits,.int .u64 0,.int .i64 0,.sl none none 0 0 2 (fun _=>[]),.int .i64 0,.int .u64 0,.int .u64 0,.int .i64 0,.bool .ff,.str ⟨#[]⟩,.sl none none 0 0 2 (fun _=>[]),.int .u64 0,.bool .ff]] bq:=
 L5.re (yB 0 b J E hE N q t ⟨1,l,0,zRA,fH⟩) ⟨Sim.agg ⟨zr,zr,zr,zr,zr,zq0,zr,zr,zr,zr,Sim.ff,zr,zq0,zr,Sim.ff,trivial⟩,trivial⟩
theorem Cf(k0 b:Nat)(J:i5)(hJ:j0 J)(E:r9)(hE:E.n<=1000000)(N:Nat)(p:Pst)(hR:Rel E N p)(hp:f9 p)(hn:p.n<=1000000)(l:Lab)(v:Int)(x:RA):u3 170 k0 b J E N p [.agg [.int .i64 2,.int .i64 l.len,.int .u64 l.bits,.int .u64 v,.int .i64 x.r.kd,.sl none x.A x.r.n x.c 2 (fun i=>itC (x.r.f i)),.int .i64 x.r.nx.len,.int .u64 x.r.nx.bits,.int .u64 x.r.mrk,.int .i64 0,.bool .ff,.str ⟨#[]⟩,.sl none none 0 0 2 (fun _=>[]),.int .u64 0,.bool .ff]] u5 bq (U3 (J.budget-E.n) ⟨2,l,v,x.r.abs,aJ⟩ p):=
 u3.re (rX 0 b J hJ E hE N p hR hp hn ⟨2,l,v,x,fH⟩) ⟨Sim.agg ⟨zr,zr,zr,zr,zr,zr,zr,zr,zr,zr,Sim.ff,zr,zq0,zr,Sim.ff,trivial⟩,trivial⟩
theorem Cg(k0 b:Nat)(J:i5)(E:r9)(hE:E.n<=1000000)(N:Nat)(q:A8)(t:Nt)(l:Lab)(v:Int)(x:RA):L5 170 k0 b J E N q t [.agg [.int .i64 2,.int .i64 l.len,.int .u64 l.bits,.int .u64 v,.int .i64 x.r.kd,.sl none x.A x.r.n x.c 2 (fun i=>itC (x.r.f i)),.int .i64 x.r.nx.len,.int .u64 x.r.nx.bits,.int .u64 x.r.mrk,.int .i64 0,.bool .ff,.str ⟨#[]⟩,.sl none none 0 0 2 (fun _=>[]),.int .u64 0,.bool .ff]] bq:=
 L5.re (yB 0 b J E hE N q t ⟨2,l,v,x,fH⟩) ⟨Sim.agg ⟨zr,zr,zr,zr,zr,zr,zr,zr,zr,zr,Sim.ff,zr,zq0,zr,Sim.ff,trivial⟩,trivial⟩
theorem Ce(k0 b:Nat)(J:i5)(hJ:j0 J)(E:r9)(hE:E.n<=1000000)(N:Nat)(p:Pst)(hR:Rel E N p)(hp:f9 p)(hn:p.n<=1000000)(l:Lab)(v:Int):u3 170 k0 b J E N p [.agg [.int .i64 3,.int .i64 l.len,.int .u64 l.bits,.int .u64 v,.int .i64 0,.sl none none 0 0 2 (fun _=>[]),.int .i64 0,.int .u64 0,.int .u64 0,.int .i64 0,.bool .ff,.str ⟨#[]⟩,.sl none none 0 0 2 (fun _=>[]),.int .u64 0,.bool .ff]] u5 bq (U3 (J.budget-E.n) ⟨3,l,v,i9,aJ⟩ p):=
 u3.re (rX 0 b J hJ E hE N p hR hp hn ⟨3,l,v,zRA,fH⟩) ⟨Sim.agg ⟨zr,zr,zr,zr,zr,zq0,zr,zr,zr,zr,Sim.ff,zr,zq0,zr,Sim.ff,trivial⟩,trivial⟩
theorem BH(b:Nat)(J:i5)(hJ:j0 J)(E:r9)(hE:E.n<=1000000)(N:Nat)(p:Pst)(hR:Rel E N p)(hp:f9 p)(hn:p.n<=1000000)(l:Lab):u3 129 0 b J E N p [f4 l] (u5) (bq) (K0 (J.budget-E.n) l p):=by
 intro m w hm hargs hpre;have hN0:N=E.n-p.n:=by have:=hR.n;omega
 refine enX 9 hm hpre hargs Tryz.func129 fun B O a0 Z=>?_
 refine wp_seq (rg O a6 [0,3,4] [0,3,4] [] Z fun X0 _ _ Z=>?_);apply wp_seq
 rcases(Cc 0 b J hJ E hE N p hR hp hn l).two (cz _ _ _) hp hn hR with⟨g1,p1,N1,hm1,hs1,hp1,hn1,hR1,hN1,S1⟩|⟨wq1,p1,N1,W1,hm1,hs1,hN1,hW1,S1⟩
 .have O1:=S1
  refine rg O a6 [4] [0,4] [(3,lc J E (u5 g1) N1 p1)] Z fun X1 _ _ Z=>?_
  exact wp_ret ((rgo O a6 Z (v:=g1) (q:=p1) (by simp[Rs.bind,hm1]) hN1).1)
 have O1:=S1;refine rg O a6 [4] [0,4] [(3,sc J E (.agg [.int .i64 0,.int .u64 0,.bool .ff,.int .i64 0,.sl none none 0 0 2 (fun _=>[]),.int .i64 0,.int .u64 0,.int .u64 0]) N1 W1 p1.note)] Z fun X1 _ _ Z=>?_
 exact wp_ret ((rst O a6 Z (q:=p1) (wq:=wq1) (X1 3) (by simp[Rs.bind,hm1]) hN1 (hW1 _)).1)
theorem K2(k0 b:Nat)(J:i5)(hJ:j0 J)(E:r9)(hE:E.n<=1000000)(N:Nat)(p:Pst)(hR:Rel E N p)(hp:f9 p)(hn:p.n<=1000000)(l:Lab):u3 129 k0 b J E N p [f4 l] (u5) (bq) (K0 (J.budget-E.n) l p):=u3.re (BH b J hJ E hE N p hR hp hn l) (by repeat(first|exact trivial|refine⟨zr,?_⟩))
theorem BI(b:Nat)(J:i5)(E:r9)(hE:E.n<=1000000)(N:Nat)(q:A8)(t:Nt)(l:Lab):L5 129 0 b J E N q t [f4 l] (bq):=by
 intro m w hm hargs hpre;refine enX 9 hm hpre hargs Tryz.func129 fun B O a0 Z=>?_
 refine wp_seq (rg O a6 [0,3,4] [0,3,4] [] Z fun X0 _ _ Z=>?_);have O1:=Cd 0 b J E hE N q t l;refine wp_seq (rg O a6 [4] [0,4] [(3,dc J E (.agg [.int .i64 0,.int .u64 0,.bool .ff,.int .i64 0,.sl none none 0 0 2 (fun _=>[]),.int .i64 0,.int .u64 0,.int .u64 0]) N q t)] Z fun X1 _ _ Z=>?_);exact wp_ret ((rdd O a6 Z).1)
theorem gm(k0 b:Nat)(J:i5)(E:r9)(hE:E.n<=1000000)(N:Nat)(q:A8)(t:Nt)(l:Lab):L5 129 k0 b J E N q t [f4 l] (bq):=L5.re (BI b J E hE N q t l) (by repeat(first|exact trivial|refine⟨zr,?_⟩))
theorem BY(b:Nat)(J:i5)(hJ:j0 J)(E:r9)(hE:E.n<=1000000)(N:Nat)(p:Pst)(hR:Rel E N p)(hp:f9 p)(hn:p.n<=1000000)(l:Lab)(v:Int)(x:RA):u3 119 0 b J E N p [f4 l,.int .u64 v,C7 x] (fun d=>.bool (.v d)) (.bool .ff) (P3 (J.budget-E.n) l v x.r.abs p):=by
 intro m w hm hargs hpre;have hN0:N=E.n-p.n:=by have:=hR.n;omega
 refine enX 26 hm hpre hargs Tryz.func119 fun B O a0 Z=>?_
 refine wp_seq (rg O a6 [0,2,5,7] [0,5,7] [] Z fun X0 _ _ Z=>?_);apply wp_seq
 rcases(Cf 0 b J hJ E hE N p hR hp hn l v x).two (cz _ _ _) hp hn hR with⟨g1,p1,N1,hm1,hs1,hp1,hn1,hR1,hN1,S1⟩|⟨wq1,p1,N1,W1,hm1,hs1,hN1,hW1,S1⟩
 .have O1:=S1
  refine rg O a6 [0,9] [0,9] [(5,lc J E (u5 g1) N1 p1)] Z fun X1 _ _ Z=>?_
  refine wp_seq (rg O a6 [8] [0] [] Z fun X2 _ _ Z=>?_);refine wp_ret ((rgo O a6 Z (v:=decide (g1.code=0)) (q:=p1) (by simp[P3,Rs.bind,hm1]) hN1 (he:=?_)).1);subst O;exact zr
 have O1:=S1;refine rg O a6 [0,9] [0,9] [(5,sc J E (.agg [.int .i64 0,.int .u64 0,.bool .ff,.int .i64 0,.sl none none 0 0 2 (fun _=>[]),.int .i64 0,.int .u64 0,.int .u64 0]) N1 W1 p1.note)] Z fun X1 _ _ Z=>?_
 refine wp_seq (rg O a6 [8] [0] [] Z fun X2 _ _ Z=>?_);exact wp_ret ((rst O a6 Z (q:=p1) (wq:=wq1) (X1 5) (by simp[P3,Rs.bind,hm1]) hN1 (hW1 _)).1)
theorem bN(k0 b:Nat)(J:i5)(hJ:j0 J)(E:r9)(hE:E.n<=1000000)(N:Nat)(p:Pst)(hR:Rel E N p)(hp:f9 p)(hn:p.n<=1000000)(l:Lab)(v:Int)(x:RA):u3 119 k0 b J E N p [f4 l,.int .u64 v,C7 x] (fun d=>.bool (.v d)) (.bool .ff) (P3 (J.budget-E.n) l v x.r.abs p):=u3.re (BY b J hJ E hE N p hR hp hn l v x) (by repeat(first|exact trivial|refine⟨zr,?_⟩))
theorem BZ(b:Nat)(J:i5)(E:r9)(hE:E.n<=1000000)(N:Nat)(q:A8)(t:Nt)(l:Lab)(v:Int)(x:RA):L5 119 0 b J E N q t [f4 l,.int .u64 v,C7 x] (.bool .ff):=by
 intro m w hm hargs hpre;refine enX 26 hm hpre hargs Tryz.func119 fun B O a0 Z=>?_
 refine wp_seq (rg O a6 [0,2,5,7] [0,5,7] [] Z fun X0 _ _ Z=>?_);have O1:=Cg 0 b J E hE N q t l v x;refine wp_seq (rg O a6 [0,9] [0,9] [(5,dc J E (.agg [.int .i64 0,.int .u64 0,.bool .ff,.int .i64 0,.sl none none 0 0 2 (fun _=>[]),.int .i64 0,.int .u64 0,.int .u64 0]) N q t)] Z fun X1 _ _ Z=>?_);refine wp_seq (rg O a6 [8] [0] [] Z fun X2 _ _ Z=>?_);exact wp_ret ((rdd O a6 Z).1)
theorem FQ(k0 b:Nat)(J:i5)(E:r9)(hE:E.n<=1000000)(N:Nat)(q:A8)(t:Nt)(l:Lab)(v:Int)(x:RA):L5 119 k0 b J E N q t [f4 l,.int .u64 v,C7 x] (.bool .ff):=L5.re (BZ b J E hE N q t l v x) (by repeat(first|exact trivial|refine⟨zr,?_⟩))
theorem BU(b:Nat)(J:i5)(hJ:j0 J)(E:r9)(hE:E.n<=1000000)(N:Nat)(p:Pst)(hR:Rel E N p)(hp:f9 p)(hn:p.n<=1000000)(l:Lab)(v:Int):u3 272 0 b J E N p [f4 l,.int .u64 v] (fun d=>.bool (.v d)) (.bool .ff) (iq (J.budget-E.n) l v p):=by
 intro m w hm hargs hpre;have hN0:N=E.n-p.n:=by have:=hR.n;omega
 refine enX 23 hm hpre hargs Tryz.func272 fun B O a0 Z=>?_
 refine wp_seq (rg O a6 [0,2,4] [0,4] [] Z fun X0 _ _ Z=>?_);apply wp_seq
 rcases(Ce 0 b J hJ E hE N p hR hp hn l v).two (cz _ _ _) hp hn hR with⟨g1,p1,N1,hm1,hs1,hp1,hn1,hR1,hN1,S1⟩|⟨wq1,p1,N1,W1,hm1,hs1,hN1,hW1,S1⟩
 .have O1:=S1
  refine rg O a6 [0,7] [0,7] [(4,lc J E (u5 g1) N1 p1)] Z fun X1 _ _ Z=>?_
  refine wp_seq (rg O a6 [6] [0] [] Z fun X2 _ _ Z=>?_);refine wp_ret ((rgo O a6 Z (v:=decide (g1.code=0)) (q:=p1) (by simp[iq,Rs.bind,hm1]) hN1 (he:=?_)).1);subst O;exact zr
 have O1:=S1;refine rg O a6 [0,7] [0,7] [(4,sc J E (.agg [.int .i64 0,.int .u64 0,.bool .ff,.int .i64 0,.sl none none 0 0 2 (fun _=>[]),.int .i64 0,.int .u64 0,.int .u64 0]) N1 W1 p1.note)] Z fun X1 _ _ Z=>?_
 refine wp_seq (rg O a6 [6] [0] [] Z fun X2 _ _ Z=>?_);exact wp_ret ((rst O a6 Z (q:=p1) (wq:=wq1) (X1 4) (by simp[iq,Rs.bind,hm1]) hN1 (hW1 _)).1)
theorem rW(k0 b:Nat)(J:i5)(hJ:j0 J)(E:r9)(hE:E.n<=1000000)(N:Nat)(p:Pst)(hR:Rel E N p)(hp:f9 p)(hn:p.n<=1000000)(l:Lab)(v:Int):u3 272 k0 b J E N p [f4 l,.int .u64 v] (fun d=>.bool (.v d)) (.bool .ff) (iq (J.budget-E.n) l v p):=u3.re (BU b J hJ E hE N p hR hp hn l v) (by repeat(first|exact trivial|refine⟨zr,?_⟩))
theorem B2(g:u2)(k:Int):j7 Tryz.prog 130 [u5 g,.int .i64 k] (fun _=>.bool (.v (gk g k))):=by
 intro m w hm hargs;refine en 14 hm hargs Tryz.func130 fun B O a0 Z=>?_
 refine wp_seq (rg O a6 [1,2] [2] [] Z fun X0 _ _ Z=>?_);refine wp_seq (rg O a6 [4] [] [] Z fun X1 _ _ Z=>?_);refine wp_ret ((rsi O a6 Z f8 (he:=?_)));subst O;refine Sim.bool ?_
 show(if g.has=true then decide (g.x.r.kd=k)else false)=_
 unfold gk;cases g.has<;>rfl
theorem jq:j7 Tryz.prog 234 [] (fun _=>xT):=by
 intro m w hm hargs;have SN:=eZ;simp only[f4,B9]at SN;refine en 3 hm hargs Tryz.func234 fun B O a0 Z=>?_
 refine wp_seq (rg O a6 [0] [0] [] Z fun X0 _ _ Z=>?_);have O1:=SN;refine wp_seq (rg O a6 [0] [0] [(0,.r fun _=>.agg [.int .i64 (-1),.int .u64 0])] Z fun X1 _ _ Z=>?_);exact wp_ret ((rsp O a6 Z f8).1)
theorem gl(k:Int):j7 Tryz.prog 130 [bq,.int .i64 k] (fun _=>.bool .ff):=
 have h:j7 Tryz.prog 130 [bq,.int .i64 k] (fun _=>.bool (.v (gk mp k))):=(B2 mp k).sim ⟨Sim.agg ⟨zr,zr,Sim.ff,zr,zq0,zr,zr,zr,trivial⟩,zr,trivial⟩
 h.res fun _=>Sim.bool rfl
theorem tL(k0 b:Nat)(J:i5)(hJ:j0 J)(E:r9)(hE:E.n<=1000000)(N:Nat)(p:Pst)(hR:Rel E N p)(hp:f9 p)(hn:p.n<=1000000)(l:Lab)(v:Int):u3 119 k0 b J E N p [f4 l,.int .u64 v,xT] (fun d=>.bool (.v d)) (.bool .ff) (P3 (J.budget-E.n) l v eK p):=
 u3.re (bN 0 b J hJ E hE N p hR hp hn l v ⟨none,0,eK.rn⟩) ⟨zr,zr,Sim.agg ⟨zr,J0,zr,zr,zr,trivial⟩,trivial⟩
theorem tM(k0 b:Nat)(J:i5)(E:r9)(hE:E.n<=1000000)(N:Nat)(q:A8)(t:Nt)(l:Lab)(v:Int):L5 119 k0 b J E N q t [f4 l,.int .u64 v,xT] (.bool .ff):=
 L5.re (FQ 0 b J E hE N q t l v ⟨none,0,eK.rn⟩) ⟨zr,zr,Sim.agg ⟨zr,J0,zr,zr,zr,trivial⟩,trivial⟩
def fzJ:Fz->Int
 | .over=> -1
 | .unfit=>0
 | .fr _=>1
def tG(z:Fz):AV:=.tup [C7 (fzR z),.int .i64 (fzJ z)]
theorem HV{z:Fz}(h:fzJ z<0):z = .over:=by cases z<;>first|rfl|(simp[fzJ]at h)
theorem HU{z:Fz}(h:fzJ z=0):z = .unfit:=by cases z<;>first|rfl|(simp[fzJ]at h)
theorem Fq{z:Fz}(h0:¬fzJ z<0)(h1:¬fzJ z=0):z = .fr (fzR z):=by cases z<;>first|rfl|exact absurd rfl h1|exact absurd (by decide) h0
theorem vQ:L3 zRA:=⟨⟨by decide,by decide⟩,fun i hi=>absurd hi (Nat.not_lt_zero _),by decide⟩
theorem BJ(b:Nat)(J:i5)(hJ:j0 J)(E:r9)(hE:E.n<=1000000)(N:Nat)(p:Pst)(hR:Rel E N p)(hp:f9 p)(hn:p.n<=1000000)(l:Lab)(v:Int)(d:Lab)(n:Nat)(hf:p.n<n):u3 235 0 b J E N p [f4 l,.int .u64 v,f4 d] (tG) (.tup [.agg [.int .i64 0,.sl none none 0 0 2 (fun _=>[]),.int .i64 0,.int .u64 0,.int .u64 0],.int .i64 (-1)]) (P1 (J.budget-E.n) l v d n p):=by
 intro m w hm hargs hpre;have hN0:N=E.n-p.n:=by have:=hR.n;omega
 refine enX 76 hm hpre hargs Tryz.func235 fun B O a0 Z=>?_
 refine wp_seq (rg O a6 [0,2,5,7,8] [0,5,7,8] [] Z fun X0 _ _ Z=>?_);refine wp_seq (wp_block (l5 (ι:=LSt) (fun q=>[]) (fun q=>[(0,⟨b,147,lsC J E q⟩)]) (fun q=>[]) (fun q=>match q with| .go a r M=>P1 (J.budget-E.n) l v d n p=P1 (J.budget-E.n) l v d a r/\f9 r/\r.n<=1000000/\Rel E M r/\r.n<a/\r.n<=p.n| .dn r M=>False| .sp M Q u=>∃(X:i8) (wq:Wq) (pp:Pst),P1 (J.budget-E.n) l v d n p = .stop wq pp/\M=E.n-pp.n/\Q=wqA X wq/\u=pp.note) (fun q=>lsM q) (.go n p N) ⟨rfl,hp,hn,hR,(by skip;omega),(by skip;omega)⟩ Z ?_))
 rintro q hJ _ _ Z
 rcases q with⟨nn0,p0,N0⟩|⟨p9,N9⟩|⟨N0,Q0,t0⟩
 .dsimp only[lsC,lsB]at hJ Z
  obtain⟨hrun0,hp0,hn0,hR0,hf0,hle0⟩:=hJ;obtain⟨m0,rfl⟩:∃n2,nn0=n2+1:=⟨nn0-1,by omega⟩
  have hN0:N0=E.n-p0.n:=by have:=hR0.n;omega
  refine wp_seq (wp_seq (rg O a6 [17,0,2,5,7,8] [0,5,7,8] [] Z fun X1 _ _ Z=>?_));refine j1 Z rfl (fun Z=>?_);refine wp_skip (wp_block (wp_seq ?_))
  rcases(K2 0 b J hJ E hE N0 p0 hR0 hp0 hn0 d).two (i7 _ _ _) hp0 hn0 hR0 with⟨g1,p2,N2,hm2,hs2,hp2,hn2,hR2,hN2,S2⟩|⟨wq2,p2,N2,W2,hm2,hs2,hN2,hW2,S2⟩
  .have hl2:=u7 hm2
   have hg2:=hp0.get hm2;have O1:=S2;refine rg O a6 [0,2,5,7,8,10] [0,5,7,8,10] [(2,lc J E (u5 g1) N2 p2)] Z fun X2 _ _ Z=>?_
   refine wp_seq (wp_seq (rg O a6 [24,0,2,5,7,8,10] [0,5,7,8,10] [] Z fun X3 _ _ Z=>?_));refine j3 Z rfl (fun Z=>?_);obtain⟨q5,hq5⟩:=eqv (gk g1 1);obtain⟨r5,hr5⟩:=eqv (gk g1 5);refine wp_skip (wp_seq (wp_seq ?_));refine rg O a6 [33,0,2,5,7,8,10] [0,5,7,8,10] [(1,.r fun _=>.bool (.v q5)),(5,.r fun _=>.bool (.v r5))] Z (hob:=by intro X;subst O;simp only[b7,Ob.holds,BE.den]<;>and_intros<;>repeat first|trivial|rfl|exact(by rw[hq5];exact B2 g1 1)|exact by rw[hq5];exact B2 g1 1|exact(by rw[hr5];exact B2 g1 5)|exact by rw[hr5];exact B2 g1 5|exact(fun _ _=>by kernel_rfl)|refine⟨?_,?_⟩|intro h|exact Int.le_refl _|decide|omega) fun X5 _ _ Z=>?_
   apply a7 Z rfl<;>intro hb Z
   .have t5:(gk g1 1||gk g1 5)=false:=by subst O;rw[<-hq5,<-hr5];revert hb;cases q5<;>cases r5<;>simp[std]
    refine wp_seq (rg O a6 [8,9] [0,8] [] Z fun X6 _ _ Z=>?_);refine wp_ret ((rgo O a6 Z (v:=Fz.unfit) (q:=p2) (by simp[Rs.bind,hrun0,P1,hm2,t5]) hN2 (he:=?_)).1);subst O;exact Sim.tup ⟨Sim.agg ⟨zr,J0,zr,zr,zr,trivial⟩,zr,trivial⟩
   have t5:(gk g1 1||gk g1 5)=true:=by subst O;rw[<-hq5,<-hr5];revert hb;cases q5<;>cases r5<;>simp[std]
   obtain⟨q7,hq7⟩:=eqv (gk g1 5);refine wp_skip (wp_seq (wp_seq ?_));refine rg O a6 [43,0,2,5,7,8,10] [0,5,7,8,10] [(1,.r fun _=>.bool (.v q7))] Z (hob:=by intro X;subst O;simp only[b7,Ob.holds,BE.den]<;>and_intros<;>repeat first|trivial|rfl|exact(by rw[hq7];exact B2 g1 5)|exact by rw[hq7];exact B2 g1 5|exact(fun _ _=>by kernel_rfl)|refine⟨?_,?_⟩|intro h|exact Int.le_refl _|decide|omega) fun X7 _ _ Z=>?_
   apply a7 Z rfl<;>intro hb Z
   .have t7:(gk g1 5&&decide (g1.x.r.mrk=v))=true:=by subst O;rw[<-hq7];revert hb;cases q7<;>simp[std,a8]
    refine wp_seq (rg O a6 [8,9] [0,8] [] Z fun X8 _ _ Z=>?_);exact wp_ret ((rgo O a6 Z (v:=(Fz.fr g1.x)) (q:=p2) (by simp[Rs.bind,hrun0,P1,hm2,t5,t7]) hN2).1)
   have t7:(gk g1 5&&decide (g1.x.r.mrk=v))=false:=by subst O;rw[<-hq7];revert hb;cases q7<;>simp[std,a8]
   refine wp_skip (wp_seq ?_)
   rcases(K2 0 b J hJ E hE N2 p2 hR2 hp2 hn2 l).two (i7 _ _ _) hp2 hn2 hR2 with⟨g9,p9,N9,hm9,hs9,hp9,hn9,hR9,hN9,S9⟩|⟨wq9,p9,N9,W9,hm9,hs9,hN9,hW9,S9⟩
   .have hl9:=u7 hm9
    have hg9:=hp2.get hm9;have O1:=S9;refine rg O a6 [0,2,5,7,8,10,11] [0,5,7,8,10,11] [(2,lc J E (u5 g9) N9 p9)] Z fun X9 _ _ Z=>?_
    refine wp_seq (wp_seq (rg O a6 [58,0,2,5,7,8,10] [0,5,7,8,10] [] Z fun X10 _ _ Z=>?_));apply a7 Z rfl<;>intro hb Z
    .have t10:¬g9.ver=v:=by
      have h9:(g9.ver != v)=true:=by subst O;exact hb
      simpa using h9
     refine wp_seq (rg O a6 [8,9] [0,8] [] Z fun X11 _ _ Z=>?_);refine wp_ret ((rgo O a6 Z (v:=Fz.over) (q:=p9) (by simp[Rs.bind,hrun0,P1,hm2,t5,t7,hm9,t10]) hN9 (he:=?_)).1);subst O;exact Sim.tup ⟨Sim.agg ⟨zr,J0,zr,zr,zr,trivial⟩,zr,trivial⟩
    have t10:g9.ver=v:=by
     have h9:(g9.ver != v)=false:=by subst O;exact hb
     simpa using h9
    refine wp_skip (wp_seq (rg O a6 [0,2,5,7,8,10,12] [0,5,7,8,10,12] [] Z fun X12 _ _ Z=>?_));apply wp_seq
    rcases(bN 0 b J hJ E hE N9 p9 hR9 hp9 hn9 d g1.ver (asR 5 g1.x v)).two (l6 _ _ _ _ _) hp9 hn9 hR9 with⟨d9,p13,N13,hm13,hs13,hp13,hn13,hR13,hN13,S13⟩|⟨wq13,p13,N13,W13,hm13,hs13,hN13,hW13,S13⟩
    .have O1:=S13
     refine rg O a6 [73,0,2,5,7,8,12] [0,5,7,8,12] [(5,lc J E (.bool (.v d9)) N13 p13)] Z fun X13 _ _ Z=>?_
     apply a7 Z rfl<;>intro hb Z
     .have t13:d9=true:=by exact hb
      refine wp_seq (rg O a6 [8,9] [0,8] [] Z fun X14 _ _ Z=>?_);exact wp_ret ((rgo O a6 Z (v:=(Fz.fr (asR 5 g1.x v))) (q:=p13) (by simp[Rs.bind,hrun0,P1,hm2,t5,t7,hm9,t10,hm13,t13]) hN13).1)
     have t13:d9=false:=by exact hb
     replace Z:=Z.keep [0,2,5,7,8] [0,5,7,8];exact wp_skip (⟨.go m0 p13 N13,⟨by rw[hrun0];simp[P1,Rs.bind,hrun0,P1,hm2,t5,t7,hm9,t10,hm13,t13],hp13,hn13,hR13,by have:=hl2;have:=hs9.le;have:=hs13.le;have:=hf0;omega,by have:=hl2;have:=hs9.le;have:=hs13.le;have:=hle0;omega⟩,by simp[lsM],Z⟩)
    have O1:=S13;refine rg O a6 [73,0,2,5,7,8,12] [0,5,7,8,12] [(5,sc J E (.bool .ff) N13 W13 p13.note)] Z fun X13 _ _ Z=>?_
    refine j3 Z rfl (fun Z=>?_);replace Z:=Z.keep [0,2,5,7,8] [0,5,7,8];exact wp_skip (⟨.sp N13 (W13 (X13 5)) p13.note,⟨(X13 5),wq13,p13,by simp[Rs.bind,hrun0,P1,hm2,t5,t7,hm9,t10,hm13],hN13,(hW13 _),rfl⟩,by simp[lsM],Z⟩)
   have O1:=S9;refine rg O a6 [0,2,5,7,8,10,11] [0,5,7,8,10,11] [(2,sc J E (.agg [.int .i64 0,.int .u64 0,.bool .ff,.int .i64 0,.sl none none 0 0 2 (fun _=>[]),.int .i64 0,.int .u64 0,.int .u64 0]) N9 W9 p9.note)] Z fun X9 _ _ Z=>?_
   refine wp_seq (wp_seq (rg O a6 [58,0,2,5,7,8,10] [0,5,7,8,10] [] Z fun X10 _ _ Z=>?_));refine j1 Z rfl (fun Z=>?_);refine wp_seq (rg O a6 [8,9] [0,8] [] Z fun X11 _ _ Z=>?_);exact wp_ret ((rst O a6 Z (q:=p9) (wq:=wq9) (X9 2) (by simp[Rs.bind,hrun0,P1,hm2,t5,t7,hm9]) hN9 (hW9 _)).1)
  have O1:=S2;refine rg O a6 [0,2,5,7,8,10] [0,5,7,8,10] [(2,sc J E (.agg [.int .i64 0,.int .u64 0,.bool .ff,.int .i64 0,.sl none none 0 0 2 (fun _=>[]),.int .i64 0,.int .u64 0,.int .u64 0]) N2 W2 p2.note)] Z fun X2 _ _ Z=>?_
  refine wp_seq (wp_seq (rg O a6 [24,0,2,5,7,8,10] [0,5,7,8,10] [] Z fun X3 _ _ Z=>?_));refine j1 Z rfl (fun Z=>?_);refine wp_seq (rg O a6 [8,9] [0,8] [] Z fun X4 _ _ Z=>?_);exact wp_ret ((rst O a6 Z (q:=p2) (wq:=wq2) (X2 2) (by simp[Rs.bind,hrun0,P1,hm2]) hN2 (hW2 _)).1)
 .exact (hJ:False).elim
 dsimp only[lsC,lsB]at hJ Z;obtain⟨X0,wq0,pp0,hsp0,hN0,hW0,ht0⟩:=hJ;subst ht0;refine wp_seq (wp_seq (rg O a6 [17,0,2,5,7,8] [0,5,7,8] [] Z fun X1 _ _ Z=>?_));refine j3 Z rfl (fun Z=>?_);refine wp_exit (wp_seq (rg O a6 [8,9] [0,8] [] Z fun X15 _ _ Z=>?_));exact wp_ret ((rst O a6 Z (q:=pp0) (wq:=wq0) X0 (hsp0) hN0 hW0).1)
theorem yt(k0 b:Nat)(J:i5)(hJ:j0 J)(E:r9)(hE:E.n<=1000000)(N:Nat)(p:Pst)(hR:Rel E N p)(hp:f9 p)(hn:p.n<=1000000)(l:Lab)(v:Int)(d:Lab)(n:Nat)(hf:p.n<n):u3 235 k0 b J E N p [f4 l,.int .u64 v,f4 d] (tG) (.tup [.agg [.int .i64 0,.sl none none 0 0 2 (fun _=>[]),.int .i64 0,.int .u64 0,.int .u64 0],.int .i64 (-1)]) (P1 (J.budget-E.n) l v d n p):=u3.re (BJ b J hJ E hE N p hR hp hn l v d n hf) (by repeat(first|exact trivial|refine⟨zr,?_⟩))
def po(n:Nat):Prop:=∀(k0 b:Nat) (J:i5) (hJ:j0 J) (E:r9) (hE:E.n<=1000000) (N:Nat) (p:Pst) (hR:Rel E N p) (hp:f9 p) (hn:p.n<=1000000) (l:Lab) (hl:LOk l),p.n<n->u3 218 k0 b J E N p [f4 l] (fun _=>i4) i4 (I6 J.bucket (J.budget-E.n) n l p)
def Gp(n:Nat):Prop:=∀(k0 b:Nat) (J:i5) (hJ:j0 J) (E:r9) (hE:E.n<=1000000) (N:Nat) (p:Pst) (hR:Rel E N p) (hp:f9 p) (hn:p.n<=1000000) (l:Lab) (hl:LOk l),p.n<n->u3 238 k0 b J E N p [f4 l] (fun _=>i4) i4 (E6 (J.budget-E.n) n l p)
def uc(n:Nat):Prop:=∀(k0 b:Nat) (J:i5) (hJ:j0 J) (E:r9) (hE:E.n<=1000000) (N:Nat) (p:Pst) (hR:Rel E N p) (hp:f9 p) (hn:p.n<=1000000) (l:Lab) (hl:LOk l) (g:u2) (hg:db g) (hgh:g.has=true),p.n<n->u3 120 k0 b J E N p [f4 l,u5 g] (fun _=>i4) i4 (R5 J.bucket (J.budget-E.n) n l g p)
theorem Bq(b:Nat)(J:i5)(E:r9)(hE:E.n<=1000000)(N:Nat)(q:A8)(t:Nt)(l:Lab)(hl:LOk l):L5 218 0 b J E N q t [f4 l] (i4):=by
 intro m w hm hargs hpre;have SP:=kU l hl.u;simp only[f4]at SP;obtain⟨up,hup⟩:=eqv (G1 l);rw[<-hup]at SP;obtain⟨ue,hue⟩:=eqv (G4 l);rw[<-hue]at SP;refine enX 66 hm hpre hargs Tryz.func218 fun B O a0 Z=>?_
 refine wp_seq (rg O a6 [0,3] [0,3] [] Z fun X0 _ _ Z=>?_);have O1:=SP;refine wp_seq (rg O a6 [0,3,4,5] [0,3,4] [(1,.r fun _=>.tup [.agg [.int .i64 up.len,.int .u64 up.bits],.int .i64 ue])] Z fun X1 _ _ Z=>?_);refine wp_seq (wp_seq (rg O a6 [14,0,3,4] [0,3,4] [] Z fun X2 _ _ Z=>?_));apply a7 Z rfl<;>intro hb Z
 .have t0:¬ue=0:=by subst O;simpa[std,a8]using hb
  exact wp_ret ((rdd O a6 Z).1)
 have t0:ue=0:=by subst O;simpa[std,a8]using hb
 refine wp_skip (wp_block (wp_loop_rounds 2 (C3 (wp_seq (wp_seq (rg O a6 [19,0,3,4] [0,3,4] [] Z fun X3 _ _ Z=>?_))))));refine j3 Z rfl (fun Z=>?_);exact wp_exit ((rdd O a6 Z).2)
theorem Ft(k0 b:Nat)(J:i5)(E:r9)(hE:E.n<=1000000)(N:Nat)(q:A8)(t:Nt)(l:Lab)(hl:LOk l):L5 218 k0 b J E N q t [f4 l] (i4):=L5.re (Bq b J E hE N q t l hl) (by repeat(first|exact trivial|refine⟨zr,?_⟩))
theorem Cb(b:Nat)(J:i5)(hJ:j0 J)(E:r9)(hE:E.n<=1000000)(N:Nat)(p:Pst)(hR:Rel E N p)(hp:f9 p)(hn:p.n<=1000000)(l:Lab)(hl:LOk l)(v:Int)(x0 x1:Lab)(hx0:x0=chV l 0)(hx1:x1=chV l 1)(n:Nat)(hth:po n)(hf:p.n<n):u3 236 0 b J E N p [f4 l,.int .u64 v,f4 x0,f4 x1] (fun _=>i4) (i4) (aU (J.budget-E.n) (I6 J.bucket (J.budget-E.n) n) l v p):=by
 intro m w hm hargs hpre;have hN0:N=E.n-p.n:=by have:=hR.n;omega
 have hk0:LOk x0:=by rw[hx0];exact hl.ch 0
 have hk1:LOk x1:=by rw[hx1];exact hl.ch 1
 refine enX 21 hm hpre hargs Tryz.func236 fun B O a0 Z=>?_
 refine wp_seq (rg O a6 [0,2,6,8,9] [0,6,8,9] [] Z fun X0 _ _ Z=>?_);apply wp_seq
 rcases(tL 0 b J hJ E hE N p hR hp hn l v).two (l6 _ _ _ _ _) hp hn hR with⟨d1,p1,N1,hm1,hs1,hp1,hn1,hR1,hN1,S1⟩|⟨wq1,p1,N1,W1,hm1,hs1,hN1,hW1,S1⟩
 .have O1:=jq
  have O2:=S1;refine drg O a6 [14,0,8,9] [0,8,9] [(3,.r fun _=>.agg [.int .i64 2,.sl none none 0 0 2 (fun _=>[]),.int .i64 (-1),.int .u64 0,.int .u64 0]),(4,lc J E (.bool (.v d1)) N1 p1)] Z fun X1 _ _ Z=>?_
  apply a7 Z rfl<;>intro hb Z
  .have t1:d1=true:=by exact hb
   apply wp_seq
   rcases(hth 0 b J hJ E hE N1 p1 hR1 hp1 hn1 x0 hk0 (by have:=hs1.le;omega)).two (E8 _ _ _ _ _) hp1 hn1 hR1 with⟨v2,p2,N2,hm2,hs2,hp2,hn2,hR2,hN2,S2⟩|⟨wq2,p2,N2,W2,hm2,hs2,hN2,hW2,S2⟩
   .have O1:=S2
    refine rg O a6 [0,9] [0,9] [(2,lc J E (i4) N2 p2)] Z fun X2 _ _ Z=>?_
    rcases(hth 0 b J hJ E hE N2 p2 hR2 hp2 hn2 x1 hk1 (by have:=hs1.le;have:=hs2.le;omega)).two (E8 _ _ _ _ _) hp2 hn2 hR2 with⟨v3,p3,N3,hm3,hs3,hp3,hn3,hR3,hN3,S3⟩|⟨wq3,p3,N3,W3,hm3,hs3,hN3,hW3,S3⟩
    .have O1:=S3
     refine rg O a6 [] [0] [(2,lc J E (i4) N3 p3)] Z fun X3 _ _ Z=>?_
     exact(rgo O a6 Z (v:=()) (q:=p3) (by simp[aU,<-hx0,<-hx1,Rs.bind,hm1,t1,hm2,hm3]) hN3).2
    have O1:=S3;refine rg O a6 [] [0] [(2,sc J E (i4) N3 W3 p3.note)] Z fun X3 _ _ Z=>?_
    exact(rst O a6 Z (q:=p3) (wq:=wq3) (X3 2) (by simp[aU,<-hx0,<-hx1,Rs.bind,hm1,t1,hm2,hm3]) hN3 (hW3 _)).2
   have O1:=S2;refine rg O a6 [0,9] [0,9] [(2,sc J E (i4) N2 W2 p2.note)] Z fun X2 _ _ Z=>?_
   have O1:=Ft 0 b J E hE N2 (W2 (X2 2)) p2.note x1 hk1;refine rg O a6 [] [0] [(2,dc J E (i4) N2 (W2 (X2 2)) p2.note)] Z fun X3 _ _ Z=>?_
   exact(rst O a6 Z (q:=p2) (wq:=wq2) (X2 2) (by simp[aU,<-hx0,<-hx1,Rs.bind,hm1,t1,hm2]) hN2 (hW2 _)).2
  have t1:d1=false:=by exact hb
  exact wp_skip ((rgo O a6 Z (v:=()) (q:=p1) (by simp[aU,<-hx0,<-hx1,Rs.bind,hm1,t1]) hN1).2)
 have O1:=jq;have O2:=S1;refine drg O a6 [14,0,8,9] [0,8,9] [(3,.r fun _=>.agg [.int .i64 2,.sl none none 0 0 2 (fun _=>[]),.int .i64 (-1),.int .u64 0,.int .u64 0]),(4,sc J E (.bool .ff) N1 W1 p1.note)] Z fun X1 _ _ Z=>?_
 refine j3 Z rfl (fun Z=>?_);exact wp_skip ((rst O a6 Z (q:=p1) (wq:=wq1) (X1 4) (by simp[aU,<-hx0,<-hx1,Rs.bind,hm1]) hN1 (hW1 _)).2)
theorem yA(k0 b:Nat)(J:i5)(hJ:j0 J)(E:r9)(hE:E.n<=1000000)(N:Nat)(p:Pst)(hR:Rel E N p)(hp:f9 p)(hn:p.n<=1000000)(l:Lab)(hl:LOk l)(v:Int)(x0 x1:Lab)(hx0:x0=chV l 0)(hx1:x1=chV l 1)(n:Nat)(hth:po n)(hf:p.n<n):u3 236 k0 b J E N p [f4 l,.int .u64 v,f4 x0,f4 x1] (fun _=>i4) (i4) (aU (J.budget-E.n) (I6 J.bucket (J.budget-E.n) n) l v p):=u3.re (Cb b J hJ E hE N p hR hp hn l hl v x0 x1 hx0 hx1 n hth hf) (by repeat(first|exact trivial|refine⟨zr,?_⟩))
theorem yy(b:Nat)(J:i5)(hJ:j0 J)(E:r9)(hE:E.n<=1000000)(N:Nat)(p:Pst)(hR:Rel E N p)(hp:f9 p)(hn:p.n<=1000000)(l:Lab)(hl:LOk l)(n:Nat)(ih:Gp n)(hf:p.n<n+1):u3 238 0 b J E N p [f4 l] (fun _=>i4) (i4) (E6 (J.budget-E.n) (n+1) l p):=by
 intro m w hm hargs hpre;have hN0:N=E.n-p.n:=by have:=hR.n;omega
 have SC0:=U0 l hl.u 0 (.inl rfl);have SC1:=U0 l hl.u 1 (.inr rfl);have hk0:=hl.ch 0;have hk1:=hl.ch 1;simp only[f4]at SC0 SC1;obtain⟨x0,hx0⟩:=eqv (chV l 0);rw[<-hx0]at SC0 hk0;obtain⟨x1,hx1⟩:=eqv (chV l 1);rw[<-hx1]at SC1 hk1;obtain⟨y0,hy0⟩:=eqv (chE l 0);rw[<-hy0]at SC0;obtain⟨y1,hy1⟩:=eqv (chE l 1);rw[<-hy1]at SC1;have hlp:=r7 hl.isl;refine enX 59 hm hpre hargs Tryz.func238 fun B O a0 Z=>?_
 refine wp_seq (rg O a6 [0,3] [0,3] [] Z fun X0 _ _ Z=>?_);refine wp_seq (rg O a6 [4,0,3] [0,3] [] Z fun X1 _ _ Z=>?_);refine wp_block (wp_loop_rounds 3 (C3 (wp_seq (wp_seq (rg O a6 [15,0,3,4] [0,3] [] Z fun X2 _ _ Z=>?_)))));apply a7 Z rfl<;>intro hb Z
 .have h6:l.len<64:=by subst O;simpa[std,a8]using hb
  have t64:¬l.len=64:=by omega
  have O1:=SC0;refine wp_skip (wp_seq (wp_block (wp_seq (rg O a6 [0,3,4,5] [0,3,5] [(2,.r fun _=>.tup [.agg [.int .i64 x0.len,.int .u64 x0.bits],.int .i64 y0])] Z fun X4 _ _ Z=>?_))));apply wp_seq
  rcases(K2 0 b J hJ E hE N p hR hp hn x0).two (i7 _ _ _) hp hn hR with⟨g0,p50,N50,hm50,hs50,hp50,hn50,hR50,hN50,S50⟩|⟨wq50,p50,N50,W50,hm50,hs50,hN50,hW50,S50⟩
  .have hl50:=u7 hm50
   have hg50:=hp.get hm50;have O1:=S50;refine rg O a6 [0,3,4,5,7] [0,3,5,7] [(2,lc J E (u5 g0) N50 p50)] Z fun X5 _ _ Z=>?_
   refine wp_seq (wp_seq (rg O a6 [30,0,3,4,5,7] [0,3,5,7] [] Z fun X6 _ _ Z=>?_));refine j3 Z rfl (fun Z=>?_);obtain⟨q0,hq0⟩:=eqv (gk g0 5);refine wp_skip (wp_seq (wp_seq ?_));refine rg O a6 [33,0,3,4,5,7] [0,3,5,7] [(1,.r fun _=>.bool (.v q0))] Z (hob:=by intro X;subst O;simp only[b7,Ob.holds,BE.den]<;>and_intros<;>repeat first|trivial|rfl|exact(by rw[hq0];exact B2 g0 5)|exact by rw[hq0];exact B2 g0 5|exact(fun _ _=>by kernel_rfl)|refine⟨?_,?_⟩|intro h|exact Int.le_refl _|decide|omega) fun X7 _ _ Z=>?_
   apply a7 Z rfl<;>intro hb Z
   .have tq0:gk g0 5=false:=by subst O;rw[<-hq0];revert hb;cases q0<;>simp[std]
    refine wp_exit (rg O a6 [4,0,3] [0,3] [] Z fun X3 _ _ Z=>?_);replace Z:=Z.headS (v':=.int .i64 1) (by subst O;exact zr) rfl;refine j5 (wp_seq (wp_seq (rg O a6 [15,0,3,4] [0,3] [] Z fun X2 _ _ Z=>?_)));apply a7 Z rfl<;>intro hb Z
    .skip
     have O1:=SC1;refine wp_skip (wp_seq (wp_block (wp_seq (rg O a6 [0,3,4,5] [0,3,5] [(2,.r fun _=>.tup [.agg [.int .i64 x1.len,.int .u64 x1.bits],.int .i64 y1])] Z fun X4 _ _ Z=>?_))));apply wp_seq
     rcases(K2 0 b J hJ E hE N50 p50 hR50 hp50 hn50 x1).two (i7 _ _ _) hp50 hn50 hR50 with⟨g1,p51,N51,hm51,hs51,hp51,hn51,hR51,hN51,S51⟩|⟨wq51,p51,N51,W51,hm51,hs51,hN51,hW51,S51⟩
     .have hl51:=u7 hm51
      have hg51:=hp50.get hm51;have O1:=S51;refine rg O a6 [0,3,4,5,7] [0,3,5,7] [(2,lc J E (u5 g1) N51 p51)] Z fun X5 _ _ Z=>?_
      refine wp_seq (wp_seq (rg O a6 [30,0,3,4,5,7] [0,3,5,7] [] Z fun X6 _ _ Z=>?_));refine j3 Z rfl (fun Z=>?_);obtain⟨q1,hq1⟩:=eqv (gk g1 5);refine wp_skip (wp_seq (wp_seq ?_));refine rg O a6 [33,0,3,4,5,7] [0,3,5,7] [(1,.r fun _=>.bool (.v q1))] Z (hob:=by intro X;subst O;simp only[b7,Ob.holds,BE.den]<;>and_intros<;>repeat first|trivial|rfl|exact(by rw[hq1];exact B2 g1 5)|exact by rw[hq1];exact B2 g1 5|exact(fun _ _=>by kernel_rfl)|refine⟨?_,?_⟩|intro h|exact Int.le_refl _|decide|omega) fun X7 _ _ Z=>?_
      apply a7 Z rfl<;>intro hb Z
      .have tq1:gk g1 5=false:=by subst O;rw[<-hq1];revert hb;cases q1<;>simp[std]
       refine wp_exit (rg O a6 [4,0,3] [0,3] [] Z fun X3 _ _ Z=>?_);replace Z:=Z.headS (v':=.int .i64 2) (by subst O;exact zr) rfl;refine j5 (wp_seq (wp_seq (rg O a6 [15,0,3,4] [0,3] [] Z fun X2 _ _ Z=>?_)));replace Z:=Z.headS (v':=.bool .ff) (Sim.bool (by subst O;rfl)) rfl;refine j3 Z rfl (fun Z=>?_);exact wp_exit ((rgo O a6 Z (v:=()) (q:=p51) (by simp[E6,I1,<-hx0,<-hx1,Rs.bind,t64,hm50,tq0,hm51,tq1]) hN51).2)
      have tq1:gk g1 5=true:=by subst O;rw[<-hq1];revert hb;cases q1<;>simp[std]
      refine wp_skip (wp_seq ?_)
      rcases(ih 0 b J hJ E hE N51 p51 hR51 hp51 hn51 x1 hk1 (by skip;have:=hl50;have:=hl51;omega)).two (Z0 _ _ _ _) hp51 hn51 hR51 with⟨v81,p81,N81,hm81,hs81,hp81,hn81,hR81,hN81,S81⟩|⟨wq81,p81,N81,W81,hm81,hs81,hN81,hW81,S81⟩
      .have O1:=S81
       refine rg O a6 [0,3,4,5,7] [0,3,5,7] [(2,lc J E (i4) N81 p81)] Z fun X8 _ _ Z=>?_
       apply wp_seq
       rcases(K2 0 b J hJ E hE N81 p81 hR81 hp81 hn81 l).two (i7 _ _ _) hp81 hn81 hR81 with⟨h1,p91,N91,hm91,hs91,hp91,hn91,hR91,hN91,S91⟩|⟨wq91,p91,N91,W91,hm91,hs91,hN91,hW91,S91⟩
       .have hl91:=u7 hm91
        have hg91:=hp81.get hm91;have O1:=S91;refine rg O a6 [0,3,4,5,7,8] [0,3,5,7,8] [(2,lc J E (u5 h1) N91 p91)] Z fun X9 _ _ Z=>?_
        obtain⟨r1,hr1⟩:=eqv (gk h1 1);obtain⟨s1,hs1⟩:=eqv (gk h1 5);refine wp_seq (wp_seq ?_);refine rg O a6 [53,0,3,4,5,7] [0,3,5,7] [(6,.r fun _=>.bool (.v r1)),(10,.r fun _=>.bool (.v s1))] Z (hob:=by intro X;subst O;simp only[b7,Ob.holds,BE.den]<;>and_intros<;>repeat first|trivial|rfl|exact(by rw[hr1];exact B2 h1 1)|exact by rw[hr1];exact B2 h1 1|exact(by rw[hs1];exact B2 h1 5)|exact by rw[hs1];exact B2 h1 5|exact(fun _ _=>by kernel_rfl)|refine⟨?_,?_⟩|intro h|exact Int.le_refl _|decide|omega) fun X10 _ _ Z=>?_
        apply a7 Z rfl<;>intro hb Z
        .have tr1:(gk h1 1||gk h1 5)=false:=by subst O;rw[<-hr1,<-hs1];revert hb;cases r1<;>cases s1<;>simp[std]
         exact wp_ret ((rgo O a6 Z (v:=()) (q:=p91) (by simp[E6,I1,<-hx0,<-hx1,Rs.bind,t64,hm50,tq0,hm51,tq1,hm81,hm91,tr1]) hN91).1)
        have tr1:(gk h1 1||gk h1 5)=true:=by subst O;rw[<-hr1,<-hs1];revert hb;cases r1<;>cases s1<;>simp[std]
        refine wp_skip ?_
        rcases(rW 0 b J hJ E hE N91 p91 hR91 hp91 hn91 x1 g1.ver).two (dD _ _ _ _) hp91 hn91 hR91 with⟨d1,p111,N111,hm111,hs111,hp111,hn111,hR111,hN111,S111⟩|⟨wq111,p111,N111,W111,hm111,hs111,hN111,hW111,S111⟩
        .have O1:=S111
         refine rg O a6 [0,3,4] [0,3] [(4,lc J E (.bool (.v d1)) N111 p111)] Z fun X11 _ _ Z=>?_
         refine rg O a6 [4,0,3] [0,3] [] Z fun X3 _ _ Z=>?_
         replace Z:=Z.headS (v':=.int .i64 2) (by subst O;exact zr) rfl;refine j5 (wp_seq (wp_seq (rg O a6 [15,0,3,4] [0,3] [] Z fun X2 _ _ Z=>?_)));replace Z:=Z.headS (v':=.bool .ff) (Sim.bool (by subst O;rfl)) rfl;refine j3 Z rfl (fun Z=>?_);exact wp_exit ((rgo O a6 Z (v:=()) (q:=p111) (by simp[E6,I1,<-hx0,<-hx1,Rs.bind,t64,hm50,tq0,hm51,tq1,hm81,hm91,tr1,hm111]) hN111).2)
        have O1:=S111;refine rg O a6 [0,3,4] [0,3] [(4,sc J E (.bool .ff) N111 W111 p111.note)] Z fun X11 _ _ Z=>?_
        refine rg O a6 [4,0,3] [0,3] [] Z fun X3 _ _ Z=>?_
        replace Z:=Z.headS (v':=.int .i64 2) (by subst O;exact zr) rfl;refine j5 (wp_seq (wp_seq (rg O a6 [15,0,3,4] [0,3] [] Z fun X2 _ _ Z=>?_)));replace Z:=Z.headS (v':=.bool .ff) (Sim.bool (by subst O;rfl)) rfl;refine j3 Z rfl (fun Z=>?_);exact wp_exit ((rst O a6 Z (q:=p111) (wq:=wq111) (X11 4) (by simp[E6,I1,<-hx0,<-hx1,Rs.bind,t64,hm50,tq0,hm51,tq1,hm81,hm91,tr1,hm111]) hN111 (hW111 _)).2)
       have O1:=S91;refine rg O a6 [0,3,4,5,7,8] [0,3,5,7,8] [(2,sc J E (.agg [.int .i64 0,.int .u64 0,.bool .ff,.int .i64 0,.sl none none 0 0 2 (fun _=>[]),.int .i64 0,.int .u64 0,.int .u64 0]) N91 W91 p91.note)] Z fun X9 _ _ Z=>?_
       obtain⟨bs,hbs⟩:∃b:Bool,b=true:=⟨_,rfl⟩
       replace Z:=Z.memS (cU hbs J E N91 (W91 (X9 2)) p91.note);refine wp_seq (wp_seq ?_);refine rg O a6 [53,0,3,4,5,7] [0,3,5,7] [(6,.r fun _=>.bool .ff),(10,.r fun _=>.bool .ff)] Z (hob:=by intro X;subst O;simp only[b7,Ob.holds,BE.den]<;>and_intros<;>repeat first|trivial|rfl|exact gl _|exact(fun _ _=>by kernel_rfl)|refine⟨?_,?_⟩|intro h|exact Int.le_refl _|decide|omega) fun X10 _ _ Z=>?_
       replace Z:=Z.headS (v':=.bool .tt) (Sim.bool (by subst O;rw[hbs];rfl)) rfl;replace Z:=Z.memS (cV hbs J E N91 (W91 (X9 2)) p91.note);refine j1 Z rfl (fun Z=>?_);exact wp_ret ((rst O a6 Z (q:=p91) (wq:=wq91) (X9 2) (by simp[E6,I1,<-hx0,<-hx1,Rs.bind,t64,hm50,tq0,hm51,tq1,hm81,hm91]) hN91 (hW91 _)).1)
      have O1:=S81;refine rg O a6 [0,3,4,5,7] [0,3,5,7] [(2,sc J E (i4) N81 W81 p81.note)] Z fun X8 _ _ Z=>?_
      have O1:=gm 0 b J E hE N81 (W81 (X8 2)) p81.note l;refine wp_seq (rg O a6 [0,3,4,5,7,8] [0,3,5,7,8] [(2,dc J E (.agg [.int .i64 0,.int .u64 0,.bool .ff,.int .i64 0,.sl none none 0 0 2 (fun _=>[]),.int .i64 0,.int .u64 0,.int .u64 0]) N81 (W81 (X8 2)) p81.note)] Z fun X9 _ _ Z=>?_);obtain⟨bs,hbs⟩:∃b:Bool,b=true:=⟨_,rfl⟩
      replace Z:=Z.memS (cU hbs J E N81 (W81 (X8 2)) p81.note);refine wp_seq (wp_seq ?_);refine rg O a6 [53,0,3,4,5,7] [0,3,5,7] [(6,.r fun _=>.bool .ff),(10,.r fun _=>.bool .ff)] Z (hob:=by intro X;subst O;simp only[b7,Ob.holds,BE.den]<;>and_intros<;>repeat first|trivial|rfl|exact gl _|exact(fun _ _=>by kernel_rfl)|refine⟨?_,?_⟩|intro h|exact Int.le_refl _|decide|omega) fun X10 _ _ Z=>?_
      replace Z:=Z.headS (v':=.bool .tt) (Sim.bool (by subst O;rw[hbs];rfl)) rfl;replace Z:=Z.memS (cV hbs J E N81 (W81 (X8 2)) p81.note);refine j1 Z rfl (fun Z=>?_);exact wp_ret ((rst O a6 Z (q:=p81) (wq:=wq81) (X8 2) (by simp[E6,I1,<-hx0,<-hx1,Rs.bind,t64,hm50,tq0,hm51,tq1,hm81]) hN81 (hW81 _)).1)
     have O1:=S51;refine rg O a6 [0,3,4,5,7] [0,3,5,7] [(2,sc J E (.agg [.int .i64 0,.int .u64 0,.bool .ff,.int .i64 0,.sl none none 0 0 2 (fun _=>[]),.int .i64 0,.int .u64 0,.int .u64 0]) N51 W51 p51.note)] Z fun X5 _ _ Z=>?_
     refine wp_seq (wp_seq (rg O a6 [30,0,3,4,5,7] [0,3,5,7] [] Z fun X6 _ _ Z=>?_));refine j1 Z rfl (fun Z=>?_);exact wp_ret ((rst O a6 Z (q:=p51) (wq:=wq51) (X5 2) (by simp[E6,I1,<-hx0,<-hx1,Rs.bind,t64,hm50,tq0,hm51]) hN51 (hW51 _)).1)
    exfalso
    have h7:¬l.len<64:=by subst O;simpa[std,a8]using hb
    exact h7 h6
   have tq0:gk g0 5=true:=by subst O;rw[<-hq0];revert hb;cases q0<;>simp[std]
   refine wp_skip (wp_seq ?_)
   rcases(ih 0 b J hJ E hE N50 p50 hR50 hp50 hn50 x0 hk0 (by skip;have:=hl50;omega)).two (Z0 _ _ _ _) hp50 hn50 hR50 with⟨v80,p80,N80,hm80,hs80,hp80,hn80,hR80,hN80,S80⟩|⟨wq80,p80,N80,W80,hm80,hs80,hN80,hW80,S80⟩
   .have O1:=S80
    refine rg O a6 [0,3,4,5,7] [0,3,5,7] [(2,lc J E (i4) N80 p80)] Z fun X8 _ _ Z=>?_
    apply wp_seq
    rcases(K2 0 b J hJ E hE N80 p80 hR80 hp80 hn80 l).two (i7 _ _ _) hp80 hn80 hR80 with⟨h0,p90,N90,hm90,hs90,hp90,hn90,hR90,hN90,S90⟩|⟨wq90,p90,N90,W90,hm90,hs90,hN90,hW90,S90⟩
    .have hl90:=u7 hm90
     have hg90:=hp80.get hm90;have O1:=S90;refine rg O a6 [0,3,4,5,7,8] [0,3,5,7,8] [(2,lc J E (u5 h0) N90 p90)] Z fun X9 _ _ Z=>?_
     obtain⟨r0,hr0⟩:=eqv (gk h0 1);obtain⟨s0,hs0⟩:=eqv (gk h0 5);refine wp_seq (wp_seq ?_);refine rg O a6 [53,0,3,4,5,7] [0,3,5,7] [(6,.r fun _=>.bool (.v r0)),(10,.r fun _=>.bool (.v s0))] Z (hob:=by intro X;subst O;simp only[b7,Ob.holds,BE.den]<;>and_intros<;>repeat first|trivial|rfl|exact(by rw[hr0];exact B2 h0 1)|exact by rw[hr0];exact B2 h0 1|exact(by rw[hs0];exact B2 h0 5)|exact by rw[hs0];exact B2 h0 5|exact(fun _ _=>by kernel_rfl)|refine⟨?_,?_⟩|intro h|exact Int.le_refl _|decide|omega) fun X10 _ _ Z=>?_
     apply a7 Z rfl<;>intro hb Z
     .have tr0:(gk h0 1||gk h0 5)=false:=by subst O;rw[<-hr0,<-hs0];revert hb;cases r0<;>cases s0<;>simp[std]
      exact wp_ret ((rgo O a6 Z (v:=()) (q:=p90) (by simp[E6,I1,<-hx0,<-hx1,Rs.bind,t64,hm50,tq0,hm80,hm90,tr0]) hN90).1)
     have tr0:(gk h0 1||gk h0 5)=true:=by subst O;rw[<-hr0,<-hs0];revert hb;cases r0<;>cases s0<;>simp[std]
     refine wp_skip ?_
     rcases(rW 0 b J hJ E hE N90 p90 hR90 hp90 hn90 x0 g0.ver).two (dD _ _ _ _) hp90 hn90 hR90 with⟨d0,p110,N110,hm110,hs110,hp110,hn110,hR110,hN110,S110⟩|⟨wq110,p110,N110,W110,hm110,hs110,hN110,hW110,S110⟩
     .have O1:=S110
      refine rg O a6 [0,3,4] [0,3] [(4,lc J E (.bool (.v d0)) N110 p110)] Z fun X11 _ _ Z=>?_
      refine rg O a6 [4,0,3] [0,3] [] Z fun X3 _ _ Z=>?_
      replace Z:=Z.headS (v':=.int .i64 1) (by subst O;exact zr) rfl;refine j5 (wp_seq (wp_seq (rg O a6 [15,0,3,4] [0,3] [] Z fun X2 _ _ Z=>?_)));apply a7 Z rfl<;>intro hb Z
      .skip
       have O1:=SC1;refine wp_skip (wp_seq (wp_block (wp_seq (rg O a6 [0,3,4,5] [0,3,5] [(2,.r fun _=>.tup [.agg [.int .i64 x1.len,.int .u64 x1.bits],.int .i64 y1])] Z fun X4 _ _ Z=>?_))));apply wp_seq
       rcases(K2 0 b J hJ E hE N110 p110 hR110 hp110 hn110 x1).two (i7 _ _ _) hp110 hn110 hR110 with⟨g1,p51,N51,hm51,hs51,hp51,hn51,hR51,hN51,S51⟩|⟨wq51,p51,N51,W51,hm51,hs51,hN51,hW51,S51⟩
       .have hl51:=u7 hm51
        have hg51:=hp110.get hm51;have O1:=S51;refine rg O a6 [0,3,4,5,7] [0,3,5,7] [(2,lc J E (u5 g1) N51 p51)] Z fun X5 _ _ Z=>?_
        refine wp_seq (wp_seq (rg O a6 [30,0,3,4,5,7] [0,3,5,7] [] Z fun X6 _ _ Z=>?_));refine j3 Z rfl (fun Z=>?_);obtain⟨q1,hq1⟩:=eqv (gk g1 5);refine wp_skip (wp_seq (wp_seq ?_));refine rg O a6 [33,0,3,4,5,7] [0,3,5,7] [(1,.r fun _=>.bool (.v q1))] Z (hob:=by intro X;subst O;simp only[b7,Ob.holds,BE.den]<;>and_intros<;>repeat first|trivial|rfl|exact(by rw[hq1];exact B2 g1 5)|exact by rw[hq1];exact B2 g1 5|exact(fun _ _=>by kernel_rfl)|refine⟨?_,?_⟩|intro h|exact Int.le_refl _|decide|omega) fun X7 _ _ Z=>?_
        apply a7 Z rfl<;>intro hb Z
        .have tq1:gk g1 5=false:=by subst O;rw[<-hq1];revert hb;cases q1<;>simp[std]
         refine wp_exit (rg O a6 [4,0,3] [0,3] [] Z fun X3 _ _ Z=>?_);replace Z:=Z.headS (v':=.int .i64 2) (by subst O;exact zr) rfl;refine j5 (wp_seq (wp_seq (rg O a6 [15,0,3,4] [0,3] [] Z fun X2 _ _ Z=>?_)));replace Z:=Z.headS (v':=.bool .ff) (Sim.bool (by subst O;rfl)) rfl;refine j3 Z rfl (fun Z=>?_);exact wp_exit ((rgo O a6 Z (v:=()) (q:=p51) (by simp[E6,I1,<-hx0,<-hx1,Rs.bind,t64,hm50,tq0,hm80,hm90,tr0,hm110,hm51,tq1]) hN51).2)
        have tq1:gk g1 5=true:=by subst O;rw[<-hq1];revert hb;cases q1<;>simp[std]
        refine wp_skip (wp_seq ?_)
        rcases(ih 0 b J hJ E hE N51 p51 hR51 hp51 hn51 x1 hk1 (by skip;have:=hl50;have:=hs80.le;have:=hs90.le;have:=hs110.le;have:=hl51;omega)).two (Z0 _ _ _ _) hp51 hn51 hR51 with⟨v81,p81,N81,hm81,hs81,hp81,hn81,hR81,hN81,S81⟩|⟨wq81,p81,N81,W81,hm81,hs81,hN81,hW81,S81⟩
        .have O1:=S81
         refine rg O a6 [0,3,4,5,7] [0,3,5,7] [(2,lc J E (i4) N81 p81)] Z fun X8 _ _ Z=>?_
         apply wp_seq
         rcases(K2 0 b J hJ E hE N81 p81 hR81 hp81 hn81 l).two (i7 _ _ _) hp81 hn81 hR81 with⟨h1,p91,N91,hm91,hs91,hp91,hn91,hR91,hN91,S91⟩|⟨wq91,p91,N91,W91,hm91,hs91,hN91,hW91,S91⟩
         .have hl91:=u7 hm91
          have hg91:=hp81.get hm91;have O1:=S91;refine rg O a6 [0,3,4,5,7,8] [0,3,5,7,8] [(2,lc J E (u5 h1) N91 p91)] Z fun X9 _ _ Z=>?_
          obtain⟨r1,hr1⟩:=eqv (gk h1 1);obtain⟨s1,hs1⟩:=eqv (gk h1 5);refine wp_seq (wp_seq ?_);refine rg O a6 [53,0,3,4,5,7] [0,3,5,7] [(6,.r fun _=>.bool (.v r1)),(10,.r fun _=>.bool (.v s1))] Z (hob:=by intro X;subst O;simp only[b7,Ob.holds,BE.den]<;>and_intros<;>repeat first|trivial|rfl|exact(by rw[hr1];exact B2 h1 1)|exact by rw[hr1];exact B2 h1 1|exact(by rw[hs1];exact B2 h1 5)|exact by rw[hs1];exact B2 h1 5|exact(fun _ _=>by kernel_rfl)|refine⟨?_,?_⟩|intro h|exact Int.le_refl _|decide|omega) fun X10 _ _ Z=>?_
          apply a7 Z rfl<;>intro hb Z
          .have tr1:(gk h1 1||gk h1 5)=false:=by subst O;rw[<-hr1,<-hs1];revert hb;cases r1<;>cases s1<;>simp[std]
           exact wp_ret ((rgo O a6 Z (v:=()) (q:=p91) (by simp[E6,I1,<-hx0,<-hx1,Rs.bind,t64,hm50,tq0,hm80,hm90,tr0,hm110,hm51,tq1,hm81,hm91,tr1]) hN91).1)
          have tr1:(gk h1 1||gk h1 5)=true:=by subst O;rw[<-hr1,<-hs1];revert hb;cases r1<;>cases s1<;>simp[std]
          refine wp_skip ?_
          rcases(rW 0 b J hJ E hE N91 p91 hR91 hp91 hn91 x1 g1.ver).two (dD _ _ _ _) hp91 hn91 hR91 with⟨d1,p111,N111,hm111,hs111,hp111,hn111,hR111,hN111,S111⟩|⟨wq111,p111,N111,W111,hm111,hs111,hN111,hW111,S111⟩
          .have O1:=S111
           refine rg O a6 [0,3,4] [0,3] [(4,lc J E (.bool (.v d1)) N111 p111)] Z fun X11 _ _ Z=>?_
           refine rg O a6 [4,0,3] [0,3] [] Z fun X3 _ _ Z=>?_
           replace Z:=Z.headS (v':=.int .i64 2) (by subst O;exact zr) rfl;refine j5 (wp_seq (wp_seq (rg O a6 [15,0,3,4] [0,3] [] Z fun X2 _ _ Z=>?_)));replace Z:=Z.headS (v':=.bool .ff) (Sim.bool (by subst O;rfl)) rfl;refine j3 Z rfl (fun Z=>?_);exact wp_exit ((rgo O a6 Z (v:=()) (q:=p111) (by simp[E6,I1,<-hx0,<-hx1,Rs.bind,t64,hm50,tq0,hm80,hm90,tr0,hm110,hm51,tq1,hm81,hm91,tr1,hm111]) hN111).2)
          have O1:=S111;refine rg O a6 [0,3,4] [0,3] [(4,sc J E (.bool .ff) N111 W111 p111.note)] Z fun X11 _ _ Z=>?_
          refine rg O a6 [4,0,3] [0,3] [] Z fun X3 _ _ Z=>?_
          replace Z:=Z.headS (v':=.int .i64 2) (by subst O;exact zr) rfl;refine j5 (wp_seq (wp_seq (rg O a6 [15,0,3,4] [0,3] [] Z fun X2 _ _ Z=>?_)));replace Z:=Z.headS (v':=.bool .ff) (Sim.bool (by subst O;rfl)) rfl;refine j3 Z rfl (fun Z=>?_);exact wp_exit ((rst O a6 Z (q:=p111) (wq:=wq111) (X11 4) (by simp[E6,I1,<-hx0,<-hx1,Rs.bind,t64,hm50,tq0,hm80,hm90,tr0,hm110,hm51,tq1,hm81,hm91,tr1,hm111]) hN111 (hW111 _)).2)
         have O1:=S91;refine rg O a6 [0,3,4,5,7,8] [0,3,5,7,8] [(2,sc J E (.agg [.int .i64 0,.int .u64 0,.bool .ff,.int .i64 0,.sl none none 0 0 2 (fun _=>[]),.int .i64 0,.int .u64 0,.int .u64 0]) N91 W91 p91.note)] Z fun X9 _ _ Z=>?_
         obtain⟨bs,hbs⟩:∃b:Bool,b=true:=⟨_,rfl⟩
         replace Z:=Z.memS (cU hbs J E N91 (W91 (X9 2)) p91.note);refine wp_seq (wp_seq ?_);refine rg O a6 [53,0,3,4,5,7] [0,3,5,7] [(6,.r fun _=>.bool .ff),(10,.r fun _=>.bool .ff)] Z (hob:=by intro X;subst O;simp only[b7,Ob.holds,BE.den]<;>and_intros<;>repeat first|trivial|rfl|exact gl _|exact(fun _ _=>by kernel_rfl)|refine⟨?_,?_⟩|intro h|exact Int.le_refl _|decide|omega) fun X10 _ _ Z=>?_
         replace Z:=Z.headS (v':=.bool .tt) (Sim.bool (by subst O;rw[hbs];rfl)) rfl;replace Z:=Z.memS (cV hbs J E N91 (W91 (X9 2)) p91.note);refine j1 Z rfl (fun Z=>?_);exact wp_ret ((rst O a6 Z (q:=p91) (wq:=wq91) (X9 2) (by simp[E6,I1,<-hx0,<-hx1,Rs.bind,t64,hm50,tq0,hm80,hm90,tr0,hm110,hm51,tq1,hm81,hm91]) hN91 (hW91 _)).1)
        have O1:=S81;refine rg O a6 [0,3,4,5,7] [0,3,5,7] [(2,sc J E (i4) N81 W81 p81.note)] Z fun X8 _ _ Z=>?_
        have O1:=gm 0 b J E hE N81 (W81 (X8 2)) p81.note l;refine wp_seq (rg O a6 [0,3,4,5,7,8] [0,3,5,7,8] [(2,dc J E (.agg [.int .i64 0,.int .u64 0,.bool .ff,.int .i64 0,.sl none none 0 0 2 (fun _=>[]),.int .i64 0,.int .u64 0,.int .u64 0]) N81 (W81 (X8 2)) p81.note)] Z fun X9 _ _ Z=>?_);obtain⟨bs,hbs⟩:∃b:Bool,b=true:=⟨_,rfl⟩
        replace Z:=Z.memS (cU hbs J E N81 (W81 (X8 2)) p81.note);refine wp_seq (wp_seq ?_);refine rg O a6 [53,0,3,4,5,7] [0,3,5,7] [(6,.r fun _=>.bool .ff),(10,.r fun _=>.bool .ff)] Z (hob:=by intro X;subst O;simp only[b7,Ob.holds,BE.den]<;>and_intros<;>repeat first|trivial|rfl|exact gl _|exact(fun _ _=>by kernel_rfl)|refine⟨?_,?_⟩|intro h|exact Int.le_refl _|decide|omega) fun X10 _ _ Z=>?_
        replace Z:=Z.headS (v':=.bool .tt) (Sim.bool (by subst O;rw[hbs];rfl)) rfl;replace Z:=Z.memS (cV hbs J E N81 (W81 (X8 2)) p81.note);refine j1 Z rfl (fun Z=>?_);exact wp_ret ((rst O a6 Z (q:=p81) (wq:=wq81) (X8 2) (by simp[E6,I1,<-hx0,<-hx1,Rs.bind,t64,hm50,tq0,hm80,hm90,tr0,hm110,hm51,tq1,hm81]) hN81 (hW81 _)).1)
       have O1:=S51;refine rg O a6 [0,3,4,5,7] [0,3,5,7] [(2,sc J E (.agg [.int .i64 0,.int .u64 0,.bool .ff,.int .i64 0,.sl none none 0 0 2 (fun _=>[]),.int .i64 0,.int .u64 0,.int .u64 0]) N51 W51 p51.note)] Z fun X5 _ _ Z=>?_
       refine wp_seq (wp_seq (rg O a6 [30,0,3,4,5,7] [0,3,5,7] [] Z fun X6 _ _ Z=>?_));refine j1 Z rfl (fun Z=>?_);exact wp_ret ((rst O a6 Z (q:=p51) (wq:=wq51) (X5 2) (by simp[E6,I1,<-hx0,<-hx1,Rs.bind,t64,hm50,tq0,hm80,hm90,tr0,hm110,hm51]) hN51 (hW51 _)).1)
      exfalso
      have h7:¬l.len<64:=by subst O;simpa[std,a8]using hb
      exact h7 h6
     have O1:=S110;refine rg O a6 [0,3,4] [0,3] [(4,sc J E (.bool .ff) N110 W110 p110.note)] Z fun X11 _ _ Z=>?_
     refine rg O a6 [4,0,3] [0,3] [] Z fun X3 _ _ Z=>?_
     replace Z:=Z.headS (v':=.int .i64 1) (by subst O;exact zr) rfl;refine j5 (wp_seq (wp_seq (rg O a6 [15,0,3,4] [0,3] [] Z fun X2 _ _ Z=>?_)));apply a7 Z rfl<;>intro hb Z
     .skip
      have O1:=SC1;refine wp_skip (wp_seq (wp_block (wp_seq (rg O a6 [0,3,4,5] [0,3,5] [(2,.r fun _=>.tup [.agg [.int .i64 x1.len,.int .u64 x1.bits],.int .i64 y1])] Z fun X4 _ _ Z=>?_))));have O1:=gm 0 b J E hE N110 (W110 (X11 4)) p110.note x1;refine wp_seq (rg O a6 [0,3,4,5,7] [0,3,5,7] [(2,dc J E (.agg [.int .i64 0,.int .u64 0,.bool .ff,.int .i64 0,.sl none none 0 0 2 (fun _=>[]),.int .i64 0,.int .u64 0,.int .u64 0]) N110 (W110 (X11 4)) p110.note)] Z fun X5 _ _ Z=>?_);refine wp_seq (wp_seq (rg O a6 [30,0,3,4,5,7] [0,3,5,7] [] Z fun X6 _ _ Z=>?_));refine j1 Z rfl (fun Z=>?_);exact wp_ret ((rst O a6 Z (q:=p110) (wq:=wq110) (X11 4) (by simp[E6,I1,<-hx0,<-hx1,Rs.bind,t64,hm50,tq0,hm80,hm90,tr0,hm110]) hN110 (hW110 _)).1)
     exfalso
     have h7:¬l.len<64:=by subst O;simpa[std,a8]using hb
     exact h7 h6
    have O1:=S90;refine rg O a6 [0,3,4,5,7,8] [0,3,5,7,8] [(2,sc J E (.agg [.int .i64 0,.int .u64 0,.bool .ff,.int .i64 0,.sl none none 0 0 2 (fun _=>[]),.int .i64 0,.int .u64 0,.int .u64 0]) N90 W90 p90.note)] Z fun X9 _ _ Z=>?_
    obtain⟨bs,hbs⟩:∃b:Bool,b=true:=⟨_,rfl⟩
    replace Z:=Z.memS (cU hbs J E N90 (W90 (X9 2)) p90.note);refine wp_seq (wp_seq ?_);refine rg O a6 [53,0,3,4,5,7] [0,3,5,7] [(6,.r fun _=>.bool .ff),(10,.r fun _=>.bool .ff)] Z (hob:=by intro X;subst O;simp only[b7,Ob.holds,BE.den]<;>and_intros<;>repeat first|trivial|rfl|exact gl _|exact(fun _ _=>by kernel_rfl)|refine⟨?_,?_⟩|intro h|exact Int.le_refl _|decide|omega) fun X10 _ _ Z=>?_
    replace Z:=Z.headS (v':=.bool .tt) (Sim.bool (by subst O;rw[hbs];rfl)) rfl;replace Z:=Z.memS (cV hbs J E N90 (W90 (X9 2)) p90.note);refine j1 Z rfl (fun Z=>?_);exact wp_ret ((rst O a6 Z (q:=p90) (wq:=wq90) (X9 2) (by simp[E6,I1,<-hx0,<-hx1,Rs.bind,t64,hm50,tq0,hm80,hm90]) hN90 (hW90 _)).1)
   have O1:=S80;refine rg O a6 [0,3,4,5,7] [0,3,5,7] [(2,sc J E (i4) N80 W80 p80.note)] Z fun X8 _ _ Z=>?_
   have O1:=gm 0 b J E hE N80 (W80 (X8 2)) p80.note l;refine wp_seq (rg O a6 [0,3,4,5,7,8] [0,3,5,7,8] [(2,dc J E (.agg [.int .i64 0,.int .u64 0,.bool .ff,.int .i64 0,.sl none none 0 0 2 (fun _=>[]),.int .i64 0,.int .u64 0,.int .u64 0]) N80 (W80 (X8 2)) p80.note)] Z fun X9 _ _ Z=>?_);obtain⟨bs,hbs⟩:∃b:Bool,b=true:=⟨_,rfl⟩
   replace Z:=Z.memS (cU hbs J E N80 (W80 (X8 2)) p80.note);refine wp_seq (wp_seq ?_);refine rg O a6 [53,0,3,4,5,7] [0,3,5,7] [(6,.r fun _=>.bool .ff),(10,.r fun _=>.bool .ff)] Z (hob:=by intro X;subst O;simp only[b7,Ob.holds,BE.den]<;>and_intros<;>repeat first|trivial|rfl|exact gl _|exact(fun _ _=>by kernel_rfl)|refine⟨?_,?_⟩|intro h|exact Int.le_refl _|decide|omega) fun X10 _ _ Z=>?_
   replace Z:=Z.headS (v':=.bool .tt) (Sim.bool (by subst O;rw[hbs];rfl)) rfl;replace Z:=Z.memS (cV hbs J E N80 (W80 (X8 2)) p80.note);refine j1 Z rfl (fun Z=>?_);exact wp_ret ((rst O a6 Z (q:=p80) (wq:=wq80) (X8 2) (by simp[E6,I1,<-hx0,<-hx1,Rs.bind,t64,hm50,tq0,hm80]) hN80 (hW80 _)).1)
  have O1:=S50;refine rg O a6 [0,3,4,5,7] [0,3,5,7] [(2,sc J E (.agg [.int .i64 0,.int .u64 0,.bool .ff,.int .i64 0,.sl none none 0 0 2 (fun _=>[]),.int .i64 0,.int .u64 0,.int .u64 0]) N50 W50 p50.note)] Z fun X5 _ _ Z=>?_
  refine wp_seq (wp_seq (rg O a6 [30,0,3,4,5,7] [0,3,5,7] [] Z fun X6 _ _ Z=>?_));refine j1 Z rfl (fun Z=>?_);exact wp_ret ((rst O a6 Z (q:=p50) (wq:=wq50) (X5 2) (by simp[E6,I1,<-hx0,<-hx1,Rs.bind,t64,hm50]) hN50 (hW50 _)).1)
 have h6:¬l.len<64:=by subst O;simpa[std,a8]using hb
 have t64:l.len=64:=by omega
 exact wp_exit ((rgo O a6 Z (v:=()) (q:=p) (by simp[E6,I1,<-hx0,<-hx1,Rs.bind,t64]) hN0).2)
theorem BV(k0 b:Nat)(J:i5)(hJ:j0 J)(E:r9)(hE:E.n<=1000000)(N:Nat)(p:Pst)(hR:Rel E N p)(hp:f9 p)(hn:p.n<=1000000)(l:Lab)(hl:LOk l)(n:Nat)(ih:Gp n)(hf:p.n<n+1):u3 238 k0 b J E N p [f4 l] (fun _=>i4) (i4) (E6 (J.budget-E.n) (n+1) l p):=u3.re (yy b J hJ E hE N p hR hp hn l hl n ih hf) (by repeat(first|exact trivial|refine⟨zr,?_⟩))
theorem yz:∀n,Gp n
 |0=>fun _ _ _ _ _ _ _ _ _ _ _ _ _ h=>absurd h (Nat.not_lt_zero _)
 |n+1=>fun k0 b J hJ E hE N p hR hp hn l hl hf=>BV k0 b J hJ E hE N p hR hp hn l hl n (yz n) hf
theorem BG(x:RA)(h:L3 x)(l:Lab)(hl:U64 l.bits):j7 Tryz.prog 233 [C7 x,f4 l] (fun y=>.tup [C7 ⟨y.A 0,y.c 0,(R8 x l).1.rn⟩,C7 ⟨y.A 1,y.c 1,(R8 x l).2.1.rn⟩,.int .i64 (R8 x l).2.2]):=by
 have hf:=h.few;exact ux x.A x.r.n x.c x.r.f (by omega) x.r.kd x.r.nx x.r.mrk h.nx h.key l hl
theorem Fr(x y:RA)(h:L3 x)(h':L3 y):j7 Tryz.prog 237 [C7 x,C7 y] (fun z=>.tup [C7 ⟨z.A 0,z.c 0,(dg x y).1.rn⟩,.int .i64 (dg x y).2]):=by
 have hf:=h.few;have hf':=h'.few;exact wB x.A x.r.n x.c x.r.f (by omega) x.r.kd x.r.nx x.r.mrk h.nx y.A y.r.n y.c y.r.f (by omega) y.r.kd y.r.nx y.r.mrk h'.nx
theorem Br(b:Nat)(J:i5)(hJ:j0 J)(E:r9)(hE:E.n<=1000000)(N:Nat)(p:Pst)(hR:Rel E N p)(hp:f9 p)(hn:p.n<=1000000)(l:Lab)(hl:LOk l)(v:Int)(x:RA)(hx:L3 x)(n:Nat)(hf:p.n<n):u3 171 0 b J E N p [f4 l,.int .u64 v,C7 x] (fun _=>i4) (i4) (u4 (J.budget-E.n) n l v x p):=by
 intro m w hm hargs hpre;have hN0:N=E.n-p.n:=by have:=hR.n;omega
 have SC0:=U0 l hl.u 0 (.inl rfl);have SC1:=U0 l hl.u 1 (.inr rfl);have hk0:=hl.ch 0;have hk1:=hl.ch 1;simp only[f4]at SC0 SC1;obtain⟨x0,hx0⟩:=eqv (chV l 0);rw[<-hx0]at SC0 hk0;obtain⟨x1,hx1⟩:=eqv (chV l 1);rw[<-hx1]at SC1 hk1;obtain⟨y0,hy0⟩:=eqv (chE l 0);rw[<-hy0]at SC0;obtain⟨y1,hy1⟩:=eqv (chE l 1);rw[<-hy1]at SC1;have SH:=BG x hx l hl.u;obtain⟨e,he⟩:=eqv ((R8 x l).2.2);rw[<-he]at SH;obtain⟨r0,hr0⟩:=eqv ((R8 x l).1.rn);rw[<-hr0]at SH;obtain⟨r1,hr1⟩:=eqv ((R8 x l).2.1.rn);rw[<-hr1]at SH;simp only[f4]at SH;refine enX 87 hm hpre hargs Tryz.func171 fun B O a0 Z=>?_
 refine wp_seq (rg O a6 [0,2,5,7] [0,5,7] [] Z fun X0 _ _ Z=>?_);have O1:=SH;refine wp_seq (rg O a6 [0,2,5,8,9,10] [0,5,8,9] [(2,.r fun y=>.tup [.agg [.int .i64 r0.kd,.sl none (y.A 0) r0.n (y.c 0) 2 (fun i=>itC (r0.f i)),.int .i64 r0.nx.len,.int .u64 r0.nx.bits,.int .u64 r0.mrk],.agg [.int .i64 r1.kd,.sl none (y.A 1) r1.n (y.c 1) 2 (fun i=>itC (r1.f i)),.int .i64 r1.nx.len,.int .u64 r1.nx.bits,.int .u64 r1.mrk],.int .i64 e])] Z fun X1 _ _ Z=>?_);refine wp_seq (wp_seq (rg O a6 [26,0,2,5,8,9] [0,5,8,9] [] Z fun X2 _ _ Z=>?_));apply a7 Z rfl<;>intro hb Z
 .have t0:¬e=0:=by subst O;simpa[std,a8]using hb
  exact wp_ret ((rgo O a6 Z (v:=()) (q:=p) (by simp[u4,A5,<-hx0,<-hx1,<-he,Rs.bind,t0]) hN0).1)
 have t0:e=0:=by subst O;simpa[std,a8]using hb
 refine wp_skip (wp_seq (rg O a6 [11,0,2,5] [0,5,29] [] Z fun X3 _ _ Z=>?_));obtain⟨hv,hhv⟩:∃f:Nat->RA,f=fun i=>if i=0 then⟨(X1 2).A 0,(X1 2).c 0,r0⟩else⟨(X1 2).A 1,(X1 2).c 1,r1⟩:=⟨_,rfl⟩
 have hv0:(hv 0).r.abs=(R8 x l).1:=by rw[hhv];show r0.abs=_;rw[hr0];exact Q4 _
 have hv1:(hv 1).r.abs=(R8 x l).2.1:=by rw[hhv];show r1.abs=_;rw[hr1];exact Q4 _
 replace Z:=Z.headS (v':=.sl (some 11) (some ⟨(X3 2).b,0,none⟩) 2 2 5 (fun i=>ew (hv i))) (Sim.recell (fun i hi=>by
   subst hhv
   match i,hi with
   |0,_=>rfl
   |1,_=>rfl)) rfl
 refine wp_seq (wp_seq (rg O a6 [12,0,2,5,11] [0,5,29] [] Z fun X4 _ _ Z=>?_));refine wp_block (wp_loop_rounds 3 (C3 (wp_seq (wp_seq (rg O a6 [31,0,2,5,11,12] [0,5,29] [] Z fun X5 _ _ Z=>?_)))));replace Z:=Z.headS (v':=.bool .tt) (Sim.bool (by subst O;rfl)) rfl;refine j1 Z rfl (fun Z=>?_);have O1:=SC0;refine wp_skip (wp_seq (wp_block (wp_seq (rg O a6 [0,2,5,11,12,13] [0,5,13,29] [(2,.r fun _=>.tup [.agg [.int .i64 x0.len,.int .u64 x0.bits],.int .i64 y0])] Z fun X7 _ _ Z=>?_))));refine wp_seq (rg O a6 [15,0,2,5,11,12,13] [0,5,13,29] [] Z fun X8 _ _ Z=>?_);refine wp_block (l5 (ι:=LSt) (fun q=>[(15,.bool (lsB q))]) (fun q=>[(0,⟨b,147,lsC J E q⟩)]) (fun q=>[]) (fun q=>match q with| .go a r M=>A5 (J.budget-E.n) l v x0 (hv 0).r.abs n p=A5 (J.budget-E.n) l v x0 (hv 0).r.abs a r/\f9 r/\r.n<=1000000/\Rel E M r/\r.n<a/\r.n<=p.n| .dn r M=>A5 (J.budget-E.n) l v x0 (hv 0).r.abs n p = .ok true r/\f9 r/\r.n<=1000000/\Rel E M r/\r.n<=p.n| .sp M Q u=>∃(X:i8) (wq:Wq) (pp:Pst),u4 (J.budget-E.n) n l v x p = .stop wq pp/\M=E.n-pp.n/\Q=wqA X wq/\u=pp.note) (fun q=>lsM q) (.go n p N) ⟨rfl,hp,hn,hR,(by skip;omega),(by skip;omega)⟩ Z ?_)
 rintro q hJ _ _ Z
 rcases q with⟨nn0,p0,N0⟩|⟨p0,N0⟩|⟨N0,Q0,t0⟩
 .dsimp only[lsC,lsB]at hJ Z
  obtain⟨hrun0,hp0,hn0,hR0,hf0,hle0⟩:=hJ;obtain⟨m0,rfl⟩:∃n2,nn0=n2+1:=⟨nn0-1,by omega⟩
  have hN0:N0=E.n-p0.n:=by have:=hR0.n;omega
  refine wp_seq (wp_seq (rg O a6 [48,0,2,5,11,12,13] [0,5,13,29] [] Z fun X9 _ _ Z=>?_));refine j1 Z rfl (fun Z=>?_);refine wp_skip (wp_block (wp_seq ?_))
  rcases(K2 0 b J hJ E hE N0 p0 hR0 hp0 hn0 x0).two (i7 _ _ _) hp0 hn0 hR0 with⟨g0,p100,N100,hm100,hs100,hp100,hn100,hR100,hN100,S100⟩|⟨wq100,p100,N100,W100,hm100,hs100,hN100,hW100,S100⟩
  .have hl100:=u7 hm100
   have hg100:=hp0.get hm100;have O1:=S100;refine rg O a6 [0,2,5,11,12,13,16] [0,5,13,16,29] [(2,lc J E (u5 g0) N100 p100)] Z fun X10 _ _ Z=>?_
   refine wp_seq (wp_seq (rg O a6 [59,0,2,5,11,12,13,16] [0,5,13,16,29] [] Z fun X11 _ _ Z=>?_));apply a7 Z rfl<;>intro hb Z
   .have tq0:(g0.has && !decide (g0.x.r.kd=5))=true:=by
     have h9:(if g0.has=true then !decide (g0.x.r.kd=5)else false)=true:=by
      have h8:(if g0.has=true then(g0.x.r.kd != 5)else false)=true:=by subst O;exact hb
      exact h8
     rw[<-h9];cases g0.has<;>rfl
    refine wp_seq (rg O a6 [0,2,5,11,12,13,15] [0,5,13,29] [] Z fun X12 _ _ Z=>?_);replace Z:=Z.keep [15,0,2,5,11,12,13] [0,5,13,29];exact wp_exit (⟨.dn p100 N100,⟨by rw[hrun0];simp[A5,Rs.bind,t0,<-hv0,<-hv1,hrun0,A5,hm100,tq0],hp100,hn100,hR100,by have:=hl100;have:=hle0;omega⟩,by simp[lsM],Z⟩)
   have tq0:(g0.has && !decide (g0.x.r.kd=5))=false:=by
    have h9:(if g0.has=true then !decide (g0.x.r.kd=5)else false)=false:=by
     have h8:(if g0.has=true then(g0.x.r.kd != 5)else false)=false:=by subst O;exact hb
     exact h8
    rw[<-h9];cases g0.has<;>rfl
   refine wp_skip (wp_seq ?_)
   rcases(K2 0 b J hJ E hE N100 p100 hR100 hp100 hn100 l).two (i7 _ _ _) hp100 hn100 hR100 with⟨h0,p130,N130,hm130,hs130,hp130,hn130,hR130,hN130,S130⟩|⟨wq130,p130,N130,W130,hm130,hs130,hN130,hW130,S130⟩
   .have hl130:=u7 hm130
    have hg130:=hp100.get hm130;have O1:=S130;refine rg O a6 [0,2,5,11,12,13,16,17] [0,5,13,16,17,29] [(2,lc J E (u5 h0) N130 p130)] Z fun X13 _ _ Z=>?_
    refine wp_seq (wp_seq (rg O a6 [72,0,2,5,11,12,13,16] [0,5,13,16,29] [] Z fun X14 _ _ Z=>?_));apply a7 Z rfl<;>intro hb Z
    .have tv0:¬h0.ver=v:=by
      have h9:(h0.ver != v)=true:=by subst O;exact hb
      simpa using h9
     exact wp_ret ((rgo O a6 Z (v:=()) (q:=p130) (by simp[u4,A5,<-hx0,<-hx1,<-he,Rs.bind,t0,<-hv0,<-hv1,hrun0,A5,hm100,tq0,hm130,tv0]) hN130).1)
    have tv0:h0.ver=v:=by
     have h9:(h0.ver != v)=false:=by subst O;exact hb
     simpa using h9
    refine wp_skip ?_
    rcases(bN 0 b J hJ E hE N130 p130 hR130 hp130 hn130 x0 g0.ver (hv 0)).two (l6 _ _ _ _ _) hp130 hn130 hR130 with⟨d0,p150,N150,hm150,hs150,hp150,hn150,hR150,hN150,S150⟩|⟨wq150,p150,N150,W150,hm150,hs150,hN150,hW150,S150⟩
    .have O1:=S150
     refine drg O a6 [0,2,5,11,12,13,15] [0,5,13,29] [(8,lc J E (.bool (.v d0)) N150 p150)] Z fun X15 _ _ Z=>?_
     replace Z:=Z.keep [15,0,2,5,11,12,13] [0,5,13,29]
     rcases Bool.eq_false_or_eq_true d0 with hd|hd
     .exact ⟨.dn p150 N150,⟨by rw[hrun0];simp[A5,Rs.bind,hd,t0,<-hv0,<-hv1,hrun0,A5,hm100,tq0,hm130,tv0,hm150],hp150,hn150,hR150,by have:=hl100;have:=hs130.le;have:=hs150.le;have:=hle0;omega⟩,by simp[lsM],Z.headS (v':=.bool .tt) (Sim.bool hd) rfl⟩
     exact⟨.go m0 p150 N150,⟨by rw[hrun0];simp[A5,Rs.bind,hd,t0,<-hv0,<-hv1,hrun0,A5,hm100,tq0,hm130,tv0,hm150],hp150,hn150,hR150,by have:=hl100;have:=hs130.le;have:=hs150.le;have:=hf0;omega,by have:=hl100;have:=hs130.le;have:=hs150.le;have:=hle0;omega⟩,by simp[lsM],Z.headS (v':=.bool .ff) (Sim.bool hd) rfl⟩
    have O1:=S150;refine drg O a6 [0,2,5,11,12,13,15] [0,5,13,29] [(8,sc J E (.bool .ff) N150 W150 p150.note)] Z fun X15 _ _ Z=>?_
    replace Z:=Z.keep [15,0,2,5,11,12,13] [0,5,13,29];exact⟨.sp N150 (W150 (X15 8)) p150.note,⟨(X15 8),wq150,p150,by simp[u4,A5,<-hx0,<-hx1,<-he,Rs.bind,t0,<-hv0,<-hv1,hrun0,A5,hm100,tq0,hm130,tv0,hm150],hN150,(hW150 _),rfl⟩,by simp[lsM],Z⟩
   have O1:=S130;refine rg O a6 [0,2,5,11,12,13,16,17] [0,5,13,16,17,29] [(2,sc J E (.agg [.int .i64 0,.int .u64 0,.bool .ff,.int .i64 0,.sl none none 0 0 2 (fun _=>[]),.int .i64 0,.int .u64 0,.int .u64 0]) N130 W130 p130.note)] Z fun X13 _ _ Z=>?_
   refine wp_seq (wp_seq (rg O a6 [72,0,2,5,11,12,13,16] [0,5,13,16,29] [] Z fun X14 _ _ Z=>?_));refine j1 Z rfl (fun Z=>?_);exact wp_ret ((rst O a6 Z (q:=p130) (wq:=wq130) (X13 2) (by simp[u4,A5,<-hx0,<-hx1,<-he,Rs.bind,t0,<-hv0,<-hv1,hrun0,A5,hm100,tq0,hm130]) hN130 (hW130 _)).1)
  have O1:=S100;refine rg O a6 [0,2,5,11,12,13,16] [0,5,13,16,29] [(2,sc J E (.agg [.int .i64 0,.int .u64 0,.bool .ff,.int .i64 0,.sl none none 0 0 2 (fun _=>[]),.int .i64 0,.int .u64 0,.int .u64 0]) N100 W100 p100.note)] Z fun X10 _ _ Z=>?_
  refine wp_seq (wp_seq (rg O a6 [59,0,2,5,11,12,13,16] [0,5,13,16,29] [] Z fun X11 _ _ Z=>?_));refine j3 Z rfl (fun Z=>?_);have O1:=gm 0 b J E hE N100 (W100 (X10 2)) p100.note l;refine wp_skip (wp_seq (rg O a6 [0,2,5,11,12,13,16,17] [0,5,13,16,17,29] [(2,dc J E (.agg [.int .i64 0,.int .u64 0,.bool .ff,.int .i64 0,.sl none none 0 0 2 (fun _=>[]),.int .i64 0,.int .u64 0,.int .u64 0]) N100 (W100 (X10 2)) p100.note)] Z fun X13 _ _ Z=>?_));refine wp_seq (wp_seq (rg O a6 [72,0,2,5,11,12,13,16] [0,5,13,16,29] [] Z fun X14 _ _ Z=>?_));refine j1 Z rfl (fun Z=>?_);exact wp_ret ((rst O a6 Z (q:=p100) (wq:=wq100) (X10 2) (by simp[u4,A5,<-hx0,<-hx1,<-he,Rs.bind,t0,<-hv0,<-hv1,hrun0,A5,hm100]) hN100 (hW100 _)).1)
 .dsimp only[lsC,lsB]at hJ Z
  obtain⟨hdn0,hp0,hn0,hR0,hle0⟩:=hJ;have hN0:N0=E.n-p0.n:=by have:=hR0.n;omega
  refine wp_seq (wp_seq (rg O a6 [48,0,2,5,11,12,13] [0,5,13,29] [] Z fun X9 _ _ Z=>?_));refine j3 Z rfl (fun Z=>?_);refine wp_exit (rg O a6 [12,0,2,5,11] [0,5,29] [] Z fun X6 _ _ Z=>?_);replace Z:=Z.headS (v':=.int .i64 1) (by subst O;exact zr) rfl;refine j5 (wp_seq (wp_seq (rg O a6 [31,0,2,5,11,12] [0,5,29] [] Z fun X5 _ _ Z=>?_)));replace Z:=Z.headS (v':=.bool .tt) (Sim.bool (by subst O;rfl)) rfl;refine j1 Z rfl (fun Z=>?_);have O1:=SC1;refine wp_skip (wp_seq (wp_block (wp_seq (rg O a6 [0,2,5,11,12,13] [0,5,13,29] [(2,.r fun _=>.tup [.agg [.int .i64 x1.len,.int .u64 x1.bits],.int .i64 y1])] Z fun X7 _ _ Z=>?_))));refine wp_seq (rg O a6 [15,0,2,5,11,12,13] [0,5,13,29] [] Z fun X8 _ _ Z=>?_);refine wp_block (l5 (ι:=LSt) (fun q=>[(15,.bool (lsB q))]) (fun q=>[(0,⟨b,147,lsC J E q⟩)]) (fun q=>[]) (fun q=>match q with| .go a r M=>A5 (J.budget-E.n) l v x1 (hv 1).r.abs n p0=A5 (J.budget-E.n) l v x1 (hv 1).r.abs a r/\f9 r/\r.n<=1000000/\Rel E M r/\r.n<a/\r.n<=p.n| .dn r M=>A5 (J.budget-E.n) l v x1 (hv 1).r.abs n p0 = .ok true r/\f9 r/\r.n<=1000000/\Rel E M r/\r.n<=p.n| .sp M Q u=>∃(X:i8) (wq:Wq) (pp:Pst),u4 (J.budget-E.n) n l v x p = .stop wq pp/\M=E.n-pp.n/\Q=wqA X wq/\u=pp.note) (fun q=>lsM q) (.go n p0 N0) ⟨rfl,hp0,hn0,hR0,(by have:=hle0;omega),(by have:=hle0;omega)⟩ Z ?_)
  rintro q hJ _ _ Z
  rcases q with⟨nn1,p1,N1⟩|⟨p1,N1⟩|⟨N1,Q1,t1⟩
  .dsimp only[lsC,lsB]at hJ Z
   obtain⟨hrun1,hp1,hn1,hR1,hf1,hle1⟩:=hJ;obtain⟨m1,rfl⟩:∃n2,nn1=n2+1:=⟨nn1-1,by omega⟩
   have hN1:N1=E.n-p1.n:=by have:=hR1.n;omega
   refine wp_seq (wp_seq (rg O a6 [48,0,2,5,11,12,13] [0,5,13,29] [] Z fun X9 _ _ Z=>?_));refine j1 Z rfl (fun Z=>?_);refine wp_skip (wp_block (wp_seq ?_))
   rcases(K2 0 b J hJ E hE N1 p1 hR1 hp1 hn1 x1).two (i7 _ _ _) hp1 hn1 hR1 with⟨g1,p101,N101,hm101,hs101,hp101,hn101,hR101,hN101,S101⟩|⟨wq101,p101,N101,W101,hm101,hs101,hN101,hW101,S101⟩
   .have hl101:=u7 hm101
    have hg101:=hp1.get hm101;have O1:=S101;refine rg O a6 [0,2,5,11,12,13,16] [0,5,13,16,29] [(2,lc J E (u5 g1) N101 p101)] Z fun X10 _ _ Z=>?_
    refine wp_seq (wp_seq (rg O a6 [59,0,2,5,11,12,13,16] [0,5,13,16,29] [] Z fun X11 _ _ Z=>?_));apply a7 Z rfl<;>intro hb Z
    .have tq1:(g1.has && !decide (g1.x.r.kd=5))=true:=by
      have h9:(if g1.has=true then !decide (g1.x.r.kd=5)else false)=true:=by
       have h8:(if g1.has=true then(g1.x.r.kd != 5)else false)=true:=by subst O;exact hb
       exact h8
      rw[<-h9];cases g1.has<;>rfl
     refine wp_seq (rg O a6 [0,2,5,11,12,13,15] [0,5,13,29] [] Z fun X12 _ _ Z=>?_);replace Z:=Z.keep [15,0,2,5,11,12,13] [0,5,13,29];exact wp_exit (⟨.dn p101 N101,⟨by rw[hrun1];simp[A5,Rs.bind,t0,<-hv0,<-hv1,hdn0,hrun1,A5,hm101,tq1],hp101,hn101,hR101,by have:=hl101;have:=hle1;omega⟩,by simp[lsM],Z⟩)
    have tq1:(g1.has && !decide (g1.x.r.kd=5))=false:=by
     have h9:(if g1.has=true then !decide (g1.x.r.kd=5)else false)=false:=by
      have h8:(if g1.has=true then(g1.x.r.kd != 5)else false)=false:=by subst O;exact hb
      exact h8
     rw[<-h9];cases g1.has<;>rfl
    refine wp_skip (wp_seq ?_)
    rcases(K2 0 b J hJ E hE N101 p101 hR101 hp101 hn101 l).two (i7 _ _ _) hp101 hn101 hR101 with⟨h1,p131,N131,hm131,hs131,hp131,hn131,hR131,hN131,S131⟩|⟨wq131,p131,N131,W131,hm131,hs131,hN131,hW131,S131⟩
    .have hl131:=u7 hm131
     have hg131:=hp101.get hm131;have O1:=S131;refine rg O a6 [0,2,5,11,12,13,16,17] [0,5,13,16,17,29] [(2,lc J E (u5 h1) N131 p131)] Z fun X13 _ _ Z=>?_
     refine wp_seq (wp_seq (rg O a6 [72,0,2,5,11,12,13,16] [0,5,13,16,29] [] Z fun X14 _ _ Z=>?_));apply a7 Z rfl<;>intro hb Z
     .have tv1:¬h1.ver=v:=by
       have h9:(h1.ver != v)=true:=by subst O;exact hb
       simpa using h9
      exact wp_ret ((rgo O a6 Z (v:=()) (q:=p131) (by simp[u4,A5,<-hx0,<-hx1,<-he,Rs.bind,t0,<-hv0,<-hv1,hdn0,hrun1,A5,hm101,tq1,hm131,tv1]) hN131).1)
     have tv1:h1.ver=v:=by
      have h9:(h1.ver != v)=false:=by subst O;exact hb
      simpa using h9
     refine wp_skip ?_
     rcases(bN 0 b J hJ E hE N131 p131 hR131 hp131 hn131 x1 g1.ver (hv 1)).two (l6 _ _ _ _ _) hp131 hn131 hR131 with⟨d1,p151,N151,hm151,hs151,hp151,hn151,hR151,hN151,S151⟩|⟨wq151,p151,N151,W151,hm151,hs151,hN151,hW151,S151⟩
     .have O1:=S151
      refine drg O a6 [0,2,5,11,12,13,15] [0,5,13,29] [(8,lc J E (.bool (.v d1)) N151 p151)] Z fun X15 _ _ Z=>?_
      replace Z:=Z.keep [15,0,2,5,11,12,13] [0,5,13,29]
      rcases Bool.eq_false_or_eq_true d1 with hd|hd
      .exact ⟨.dn p151 N151,⟨by rw[hrun1];simp[A5,Rs.bind,hd,t0,<-hv0,<-hv1,hdn0,hrun1,A5,hm101,tq1,hm131,tv1,hm151],hp151,hn151,hR151,by have:=hl101;have:=hs131.le;have:=hs151.le;have:=hle1;omega⟩,by simp[lsM],Z.headS (v':=.bool .tt) (Sim.bool hd) rfl⟩
      exact⟨.go m1 p151 N151,⟨by rw[hrun1];simp[A5,Rs.bind,hd,t0,<-hv0,<-hv1,hdn0,hrun1,A5,hm101,tq1,hm131,tv1,hm151],hp151,hn151,hR151,by have:=hl101;have:=hs131.le;have:=hs151.le;have:=hf1;omega,by have:=hl101;have:=hs131.le;have:=hs151.le;have:=hle1;omega⟩,by simp[lsM],Z.headS (v':=.bool .ff) (Sim.bool hd) rfl⟩
     have O1:=S151;refine drg O a6 [0,2,5,11,12,13,15] [0,5,13,29] [(8,sc J E (.bool .ff) N151 W151 p151.note)] Z fun X15 _ _ Z=>?_
     replace Z:=Z.keep [15,0,2,5,11,12,13] [0,5,13,29];exact⟨.sp N151 (W151 (X15 8)) p151.note,⟨(X15 8),wq151,p151,by simp[u4,A5,<-hx0,<-hx1,<-he,Rs.bind,t0,<-hv0,<-hv1,hdn0,hrun1,A5,hm101,tq1,hm131,tv1,hm151],hN151,(hW151 _),rfl⟩,by simp[lsM],Z⟩
    have O1:=S131;refine rg O a6 [0,2,5,11,12,13,16,17] [0,5,13,16,17,29] [(2,sc J E (.agg [.int .i64 0,.int .u64 0,.bool .ff,.int .i64 0,.sl none none 0 0 2 (fun _=>[]),.int .i64 0,.int .u64 0,.int .u64 0]) N131 W131 p131.note)] Z fun X13 _ _ Z=>?_
    refine wp_seq (wp_seq (rg O a6 [72,0,2,5,11,12,13,16] [0,5,13,16,29] [] Z fun X14 _ _ Z=>?_));refine j1 Z rfl (fun Z=>?_);exact wp_ret ((rst O a6 Z (q:=p131) (wq:=wq131) (X13 2) (by simp[u4,A5,<-hx0,<-hx1,<-he,Rs.bind,t0,<-hv0,<-hv1,hdn0,hrun1,A5,hm101,tq1,hm131]) hN131 (hW131 _)).1)
   have O1:=S101;refine rg O a6 [0,2,5,11,12,13,16] [0,5,13,16,29] [(2,sc J E (.agg [.int .i64 0,.int .u64 0,.bool .ff,.int .i64 0,.sl none none 0 0 2 (fun _=>[]),.int .i64 0,.int .u64 0,.int .u64 0]) N101 W101 p101.note)] Z fun X10 _ _ Z=>?_
   refine wp_seq (wp_seq (rg O a6 [59,0,2,5,11,12,13,16] [0,5,13,16,29] [] Z fun X11 _ _ Z=>?_));refine j3 Z rfl (fun Z=>?_);have O1:=gm 0 b J E hE N101 (W101 (X10 2)) p101.note l;refine wp_skip (wp_seq (rg O a6 [0,2,5,11,12,13,16,17] [0,5,13,16,17,29] [(2,dc J E (.agg [.int .i64 0,.int .u64 0,.bool .ff,.int .i64 0,.sl none none 0 0 2 (fun _=>[]),.int .i64 0,.int .u64 0,.int .u64 0]) N101 (W101 (X10 2)) p101.note)] Z fun X13 _ _ Z=>?_));refine wp_seq (wp_seq (rg O a6 [72,0,2,5,11,12,13,16] [0,5,13,16,29] [] Z fun X14 _ _ Z=>?_));refine j1 Z rfl (fun Z=>?_);exact wp_ret ((rst O a6 Z (q:=p101) (wq:=wq101) (X10 2) (by simp[u4,A5,<-hx0,<-hx1,<-he,Rs.bind,t0,<-hv0,<-hv1,hdn0,hrun1,A5,hm101]) hN101 (hW101 _)).1)
  .dsimp only[lsC,lsB]at hJ Z
   obtain⟨hdn1,hp1,hn1,hR1,hle1⟩:=hJ;have hN1:N1=E.n-p1.n:=by have:=hR1.n;omega
   refine wp_seq (wp_seq (rg O a6 [48,0,2,5,11,12,13] [0,5,13,29] [] Z fun X9 _ _ Z=>?_));refine j3 Z rfl (fun Z=>?_);refine wp_exit (rg O a6 [12,0,2,5,11] [0,5,29] [] Z fun X6 _ _ Z=>?_);replace Z:=Z.headS (v':=.int .i64 2) (by subst O;exact zr) rfl;refine j5 (wp_seq (wp_seq (rg O a6 [31,0,2,5,11,12] [0,5,29] [] Z fun X5 _ _ Z=>?_)));replace Z:=Z.headS (v':=.bool .ff) (Sim.bool (by subst O;rfl)) rfl;refine j3 Z rfl (fun Z=>?_);refine wp_exit ?_
   rcases(tL 0 b J hJ E hE N1 p1 hR1 hp1 hn1 l v).two (l6 _ _ _ _ _) hp1 hn1 hR1 with⟨d2,p16,N16,hm16,hs16,hp16,hn16,hR16,hN16,S16⟩|⟨wq16,p16,N16,W16,hm16,hs16,hN16,hW16,S16⟩
   .have O1:=jq
    have O2:=S16;refine drg O a6 [] [0] [(3,.r fun _=>.agg [.int .i64 2,.sl none none 0 0 2 (fun _=>[]),.int .i64 (-1),.int .u64 0,.int .u64 0]),(4,lc J E (.bool (.v d2)) N16 p16)] Z fun X16 _ _ Z=>?_
    exact(rgo O a6 Z (v:=()) (q:=p16) (by simp[u4,A5,<-hx0,<-hx1,<-he,Rs.bind,t0,<-hv0,<-hv1,hdn0,hdn1,hm16]) hN16).2
   have O1:=jq;have O2:=S16;refine drg O a6 [] [0] [(3,.r fun _=>.agg [.int .i64 2,.sl none none 0 0 2 (fun _=>[]),.int .i64 (-1),.int .u64 0,.int .u64 0]),(4,sc J E (.bool .ff) N16 W16 p16.note)] Z fun X16 _ _ Z=>?_
   exact(rst O a6 Z (q:=p16) (wq:=wq16) (X16 4) (by simp[u4,A5,<-hx0,<-hx1,<-he,Rs.bind,t0,<-hv0,<-hv1,hdn0,hdn1,hm16]) hN16 (hW16 _)).2
  dsimp only[lsC,lsB]at hJ Z;obtain⟨X1,wq1,pp1,hsp1,hN1,hW1,ht1⟩:=hJ;subst ht1;refine wp_seq (wp_seq (rg O a6 [48,0,2,5,11,12,13] [0,5,13,29] [] Z fun X9 _ _ Z=>?_));refine j3 Z rfl (fun Z=>?_);refine wp_exit (rg O a6 [12,0,2,5,11] [0,5,29] [] Z fun X6 _ _ Z=>?_);replace Z:=Z.headS (v':=.int .i64 2) (by subst O;exact zr) rfl;refine j5 (wp_seq (wp_seq (rg O a6 [31,0,2,5,11,12] [0,5,29] [] Z fun X5 _ _ Z=>?_)));replace Z:=Z.headS (v':=.bool .ff) (Sim.bool (by subst O;rfl)) rfl;refine j3 Z rfl (fun Z=>?_);have O1:=jq;have O2:=tM 0 b J E hE N1 Q1 pp1.note l v;refine wp_exit (drg O a6 [] [0] [(3,.r fun _=>.agg [.int .i64 2,.sl none none 0 0 2 (fun _=>[]),.int .i64 (-1),.int .u64 0,.int .u64 0]),(4,dc J E (.bool .ff) N1 Q1 pp1.note)] Z fun X16 _ _ Z=>?_);exact(rst O a6 Z (q:=pp1) (wq:=wq1) X1 (hsp1) hN1 hW1).2
 dsimp only[lsC,lsB]at hJ Z;obtain⟨X0,wq0,pp0,hsp0,hN0,hW0,ht0⟩:=hJ;subst ht0;refine wp_seq (wp_seq (rg O a6 [48,0,2,5,11,12,13] [0,5,13,29] [] Z fun X9 _ _ Z=>?_));refine j3 Z rfl (fun Z=>?_);refine wp_exit (rg O a6 [12,0,2,5,11] [0,5,29] [] Z fun X6 _ _ Z=>?_);replace Z:=Z.headS (v':=.int .i64 1) (by subst O;exact zr) rfl;refine j5 (wp_seq (wp_seq (rg O a6 [31,0,2,5,11,12] [0,5,29] [] Z fun X5 _ _ Z=>?_)));replace Z:=Z.headS (v':=.bool .tt) (Sim.bool (by subst O;rfl)) rfl;refine j1 Z rfl (fun Z=>?_);have O1:=SC1;refine wp_skip (wp_seq (wp_block (wp_seq (rg O a6 [0,2,5,11,12,13] [0,5,13,29] [(2,.r fun _=>.tup [.agg [.int .i64 x1.len,.int .u64 x1.bits],.int .i64 y1])] Z fun X7 _ _ Z=>?_))));refine wp_seq (rg O a6 [15,0,2,5,11,12,13] [0,5,13,29] [] Z fun X8 _ _ Z=>?_);refine wp_block (l5 (ι:=LSt) (fun q=>[(15,.bool (lsB q))]) (fun q=>[(0,⟨b,147,lsC J E q⟩)]) (fun q=>[]) (fun q=>match q with| .sp M Q u=>N0=M/\Q0=Q/\pp0.note=u|_=>False) (fun q=>lsM q) (.sp N0 Q0 pp0.note) ⟨rfl,rfl,rfl⟩ Z ?_)
 rintro q hJ _ _ Z
 rcases q with⟨nn,pp,NN⟩|⟨pp,NN⟩|⟨NN,QQ,tt⟩
 .exact (hJ:False).elim
 .exact (hJ:False).elim
 dsimp only[lsC,lsB]at hJ Z;obtain⟨rfl,rfl,rfl⟩:=hJ;refine wp_seq (wp_seq (rg O a6 [48,0,2,5,11,12,13] [0,5,13,29] [] Z fun X9 _ _ Z=>?_));refine j3 Z rfl (fun Z=>?_);refine wp_exit (rg O a6 [12,0,2,5,11] [0,5,29] [] Z fun X6 _ _ Z=>?_);replace Z:=Z.headS (v':=.int .i64 2) (by subst O;exact zr) rfl;refine j5 (wp_seq (wp_seq (rg O a6 [31,0,2,5,11,12] [0,5,29] [] Z fun X5 _ _ Z=>?_)));replace Z:=Z.headS (v':=.bool .ff) (Sim.bool (by subst O;rfl)) rfl;refine j3 Z rfl (fun Z=>?_);have O1:=jq;have O2:=tM 0 b J E hE N0 Q0 pp0.note l v;refine wp_exit (drg O a6 [] [0] [(3,.r fun _=>.agg [.int .i64 2,.sl none none 0 0 2 (fun _=>[]),.int .i64 (-1),.int .u64 0,.int .u64 0]),(4,dc J E (.bool .ff) N0 Q0 pp0.note)] Z fun X16 _ _ Z=>?_);exact(rst O a6 Z (q:=pp0) (wq:=wq0) X0 (hsp0) hN0 hW0).2
theorem Fu(k0 b:Nat)(J:i5)(hJ:j0 J)(E:r9)(hE:E.n<=1000000)(N:Nat)(p:Pst)(hR:Rel E N p)(hp:f9 p)(hn:p.n<=1000000)(l:Lab)(hl:LOk l)(v:Int)(x:RA)(hx:L3 x)(n:Nat)(hf:p.n<n):u3 171 k0 b J E N p [f4 l,.int .u64 v,C7 x] (fun _=>i4) (i4) (u4 (J.budget-E.n) n l v x p):=u3.re (Br b J hJ E hE N p hR hp hn l hl v x hx n hf) (by repeat(first|exact trivial|refine⟨zr,?_⟩))
theorem By(b:Nat)(J:i5)(hJ:j0 J)(E:r9)(hE:E.n<=1000000)(N:Nat)(p:Pst)(hR:Rel E N p)(hp:f9 p)(hn:p.n<=1000000)(l:Lab)(hl:LOk l)(v:Int)(n:Nat)(hth:po n)(hf:p.n<n):u3 172 0 b J E N p [f4 l,.int .u64 v] (fun _=>i4) (i4) (M3 J.bucket (J.budget-E.n) n (I6 J.bucket (J.budget-E.n) n) l v p):=by
 intro m w hm hargs hpre;have hN0:N=E.n-p.n:=by have:=hR.n;omega
 have SC0:=U0 l hl.u 0 (.inl rfl);have SC1:=U0 l hl.u 1 (.inr rfl);have hk0:=hl.ch 0;have hk1:=hl.ch 1;simp only[f4]at SC0 SC1;obtain⟨x0,hx0⟩:=eqv (chV l 0);rw[<-hx0]at SC0 hk0;obtain⟨x1,hx1⟩:=eqv (chV l 1);rw[<-hx1]at SC1 hk1;obtain⟨y0,hy0⟩:=eqv (chE l 0);rw[<-hy0]at SC0;obtain⟨y1,hy1⟩:=eqv (chE l 1);rw[<-hy1]at SC1;refine enX 91 hm hpre hargs Tryz.func172 fun B O a0 Z=>?_
 refine wp_seq (rg O a6 [0,2,4] [0,4] [] Z fun X0 _ _ Z=>?_);have O1:=SC0;refine wp_seq (rg O a6 [0,2,4,6] [0,4,6] [(1,.r fun _=>.tup [.agg [.int .i64 x0.len,.int .u64 x0.bits],.int .i64 y0])] Z fun X1 _ _ Z=>?_);have O1:=SC1;refine wp_seq (rg O a6 [0,2,4,6,8] [0,4,6,8] [(1,.r fun _=>.tup [.agg [.int .i64 x1.len,.int .u64 x1.bits],.int .i64 y1])] Z fun X2 _ _ Z=>?_);apply wp_seq
 rcases(yt 0 b J hJ E hE N p hR hp hn l v x0 n (by skip;omega)).two (aS _ _ _ _ _ _) hp hn hR with⟨z0,p3,N3,hm3,hs3,hp3,hn3,hR3,hN3,S3⟩|⟨wq3,p3,N3,W3,hm3,hs3,hN3,hW3,S3⟩
 .have hz0:∀y,z0 = .fr y->L3 y:=fun y hy=>gd hp (by rw[hm3,hy])
  have T3:=S3;unfold tG at T3;obtain⟨y0_,hy0_⟩:=eqv (fzR z0);rw[<-hy0_]at T3;obtain⟨i0,hi0⟩:=eqv (fzJ z0);rw[<-hi0]at T3;have O1:=T3;have O2:=S3;refine rg O a6 [0,2,4,6,8,10,11] [0,4,6,8,10] [(4,lc J E (.tup [.agg [.int .i64 y0_.r.kd,.sl none y0_.A y0_.r.n y0_.c 2 (fun i=>itC (y0_.r.f i)),.int .i64 y0_.r.nx.len,.int .u64 y0_.r.nx.bits,.int .u64 y0_.r.mrk],.int .i64 i0]) N3 p3)] Z fun X3 _ _ Z=>?_
  refine wp_seq (wp_seq (rg O a6 [35,0,2,4,6,8,10,11] [0,4,6,8,10] [] Z fun X4 _ _ Z=>?_));apply a7 Z rfl<;>intro hb Z
  .have tz0:z0 = .over:=HV (by rw[<-hi0];subst O;simpa[std,a8]using hb)
   exact wp_ret ((rgo O a6 Z (v:=()) (q:=p3) (by simp[M3,<-hx0,<-hx1,Rs.bind,hm3,tz0]) hN3).1)
  have ta0:¬fzJ z0<0:=by
   have:¬i0<0:=by subst O;simpa[std,a8]using hb
   rw[<-hi0];exact this
  refine wp_skip (wp_seq (wp_seq (rg O a6 [37,0,2,4,6,8,10] [0,4,6,8,10] [] Z fun X5 _ _ Z=>?_)));apply a7 Z rfl<;>intro hb Z
  .have tz0:z0 = .unfit:=HU (by rw[<-hi0];subst O;simpa[std,a8]using hb)
   apply wp_seq
   rcases(yA 0 b J hJ E hE N3 p3 hR3 hp3 hn3 l hl v x0 x1 hx0 hx1 n hth (by skip;have:=hs3.le;omega)).two (cy _ _ (E8 _ _ _) _ _ _) hp3 hn3 hR3 with⟨v6,p6,N6,hm6,hs6,hp6,hn6,hR6,hN6,S6⟩|⟨wq6,p6,N6,W6,hm6,hs6,hN6,hW6,S6⟩
   .have O1:=S6
    refine rg O a6 [] [0] [(5,lc J E (i4) N6 p6)] Z fun X6 _ _ Z=>?_
    exact wp_ret ((rgo O a6 Z (v:=()) (q:=p6) (by simp[M3,<-hx0,<-hx1,Rs.bind,hm3,tz0,hm6]) hN6).1)
   have O1:=S6;refine rg O a6 [] [0] [(5,sc J E (i4) N6 W6 p6.note)] Z fun X6 _ _ Z=>?_
   exact wp_ret ((rst O a6 Z (q:=p6) (wq:=wq6) (X6 5) (by simp[M3,<-hx0,<-hx1,Rs.bind,hm3,tz0,hm6]) hN6 (hW6 _)).1)
  have tz0:z0 = .fr y0_:=by
   rw[hy0_];refine Fq ta0 ?_;have:¬i0=0:=by subst O;simpa[std,a8]using hb
   rw[<-hi0];exact this
  have ty0:=hz0 _ tz0;refine wp_skip (wp_seq ?_)
  rcases(yt 0 b J hJ E hE N3 p3 hR3 hp3 hn3 l v x1 n (by skip;have:=hs3.le;omega)).two (aS _ _ _ _ _ _) hp3 hn3 hR3 with⟨z1,p7,N7,hm7,hs7,hp7,hn7,hR7,hN7,S7⟩|⟨wq7,p7,N7,W7,hm7,hs7,hN7,hW7,S7⟩
  .have hz1:∀y,z1 = .fr y->L3 y:=fun y hy=>gd hp3 (by rw[hm7,hy])
   have T7:=S7;unfold tG at T7;obtain⟨y1_,hy1_⟩:=eqv (fzR z1);rw[<-hy1_]at T7;obtain⟨i1,hi1⟩:=eqv (fzJ z1);rw[<-hi1]at T7;have O1:=T7;have O2:=S7;refine rg O a6 [0,2,4,6,8,10,12,13] [0,4,6,8,10,12] [(4,lc J E (.tup [.agg [.int .i64 y1_.r.kd,.sl none y1_.A y1_.r.n y1_.c 2 (fun i=>itC (y1_.r.f i)),.int .i64 y1_.r.nx.len,.int .u64 y1_.r.nx.bits,.int .u64 y1_.r.mrk],.int .i64 i1]) N7 p7)] Z fun X7 _ _ Z=>?_
   refine wp_seq (wp_seq (rg O a6 [53,0,2,4,6,8,10,12,13] [0,4,6,8,10,12] [] Z fun X8 _ _ Z=>?_));apply a7 Z rfl<;>intro hb Z
   .have tz1:z1 = .over:=HV (by rw[<-hi1];subst O;simpa[std,a8]using hb)
    exact wp_ret ((rgo O a6 Z (v:=()) (q:=p7) (by simp[M3,<-hx0,<-hx1,Rs.bind,hm3,tz0,hm7,tz1]) hN7).1)
   have ta1:¬fzJ z1<0:=by
    have:¬i1<0:=by subst O;simpa[std,a8]using hb
    rw[<-hi1];exact this
   have ty1:L3 y1_:=by
    rw[hy1_]
    cases hz:z1 with
    |fr y=>exact hz1 y hz
    |over=>exact vQ
    |unfit=>exact vQ
   have SU:=Fr y0_ y1_ ty0 ty1;obtain⟨r2,hr2⟩:=eqv ((dg y0_ y1_).1.rn);rw[<-hr2]at SU;obtain⟨e2,he2⟩:=eqv ((dg y0_ y1_).2);rw[<-he2]at SU;have ha2:r2.abs=(dg y0_ y1_).1:=by rw[hr2];exact Q4 _
   have hl2:r2.abs.items.length=r2.n:=by rw[ha2,hr2];rfl
   have O1:=SU;refine wp_skip (wp_seq (rg O a6 [0,2,4,6,8,13,14,15] [0,4,6,8,14] [(2,.r fun z=>.tup [.agg [.int .i64 r2.kd,.sl none (z.A 0) r2.n (z.c 0) 2 (fun i=>itC (r2.f i)),.int .i64 r2.nx.len,.int .u64 r2.nx.bits,.int .u64 r2.mrk],.int .i64 e2])] Z fun X9 _ _ Z=>?_));refine wp_seq (wp_seq (drg O a6 [76,0,2,4,6,8,14] [0,4,6,8,14] [] Z fun X10 _ _ Z=>?_));apply a7 Z rfl<;>intro hb Z
   .have h9:(if(if decide (i1=0)=true then true else !decide (e2=0))=true then true else decide ((r2.n:Int)>J.bucket))=true:=by subst O;exact hb
    have htot:M3 J.bucket (J.budget-E.n) n (I6 J.bucket (J.budget-E.n) n) l v p=aU (J.budget-E.n) (I6 J.bucket (J.budget-E.n) n) l v p7:=by
     by_cases hi:i1=0
     .have hz:=HU (by rw[<-hi1];exact hi)
      simp[M3,Rs.bind,<-hx0,<-hx1,hm3,tz0,hm7,hz]
     have hz:z1 = .fr y1_:=by rw[hy1_];exact Fq ta1 (by rw[<-hi1];exact hi)
     have tu:¬((dg y0_ y1_).2=0/\(r2.abs.items.length:Int)<=J.bucket):=by
      rw[<-he2,hl2];intro h;simp[hi,h.1]at h9;omega
     simp[M3,Rs.bind,<-hx0,<-hx1,hm3,tz0,hm7,hz,<-ha2,if_neg tu]
    apply wp_seq
    rcases(yA 0 b J hJ E hE N7 p7 hR7 hp7 hn7 l hl v x0 x1 hx0 hx1 n hth (by skip;have:=hs3.le;have:=hs7.le;omega)).two (cy _ _ (E8 _ _ _) _ _ _) hp7 hn7 hR7 with⟨v11,p11,N11,hm11,hs11,hp11,hn11,hR11,hN11,S11⟩|⟨wq11,p11,N11,W11,hm11,hs11,hN11,hW11,S11⟩
    .have O1:=S11
     refine rg O a6 [] [0] [(5,lc J E (i4) N11 p11)] Z fun X11 _ _ Z=>?_
     exact wp_ret ((rgo O a6 Z (v:=()) (q:=p11) (by rw[htot,hm11]) hN11).1)
    have O1:=S11;refine rg O a6 [] [0] [(5,sc J E (i4) N11 W11 p11.note)] Z fun X11 _ _ Z=>?_
    exact wp_ret ((rst O a6 Z (q:=p11) (wq:=wq11) (X11 5) (by rw[htot,hm11]) hN11 (hW11 _)).1)
   have h9:(if(if decide (i1=0)=true then true else !decide (e2=0))=true then true else decide ((r2.n:Int)>J.bucket))=false:=by subst O;exact hb
   have hi:¬i1=0:=by intro h;simp[h]at h9
   have tz1:z1 = .fr y1_:=by rw[hy1_];exact Fq ta1 (by rw[<-hi1];exact hi)
   have tu:(dg y0_ y1_).2=0/\(r2.abs.items.length:Int)<=J.bucket:=by
    rw[<-he2,hl2];simp[hi]at h9;exact⟨h9.1,by omega⟩
   refine wp_skip (wp_seq ?_)
   rcases(bN 0 b J hJ E hE N7 p7 hR7 hp7 hn7 l v ⟨(X9 2).A 0,(X9 2).c 0,r2⟩).two (l6 _ _ _ _ _) hp7 hn7 hR7 with⟨d5,p12,N12,hm12,hs12,hp12,hn12,hR12,hN12,S12⟩|⟨wq12,p12,N12,W12,hm12,hs12,hN12,hW12,S12⟩
   .have O1:=S12
    refine rg O a6 [87,0,4] [0,4] [(4,lc J E (.bool (.v d5)) N12 p12)] Z fun X12 _ _ Z=>?_
    apply a7 Z rfl<;>intro hb Z
    .have t5:d5=true:=by exact hb
     rcases(yz n 0 b J hJ E hE N12 p12 hR12 hp12 hn12 l hl (by skip;have:=hs3.le;have:=hs7.le;have:=hs12.le;omega)).two (Z0 _ _ _ _) hp12 hn12 hR12 with⟨v13,p13,N13,hm13,hs13,hp13,hn13,hR13,hN13,S13⟩|⟨wq13,p13,N13,W13,hm13,hs13,hN13,hW13,S13⟩
     .have O1:=S13
      refine rg O a6 [] [0] [(2,lc J E (i4) N13 p13)] Z fun X13 _ _ Z=>?_
      exact(rgo O a6 Z (v:=()) (q:=p13) (by simp[M3,<-hx0,<-hx1,Rs.bind,hm3,tz0,hm7,<-ha2,tz1,if_pos tu,hm12,t5,hm13]) hN13).2
     have O1:=S13;refine rg O a6 [] [0] [(2,sc J E (i4) N13 W13 p13.note)] Z fun X13 _ _ Z=>?_
     exact(rst O a6 Z (q:=p13) (wq:=wq13) (X13 2) (by simp[M3,<-hx0,<-hx1,Rs.bind,hm3,tz0,hm7,<-ha2,tz1,if_pos tu,hm12,t5,hm13]) hN13 (hW13 _)).2
    have t5:d5=false:=by exact hb
    exact wp_skip ((rgo O a6 Z (v:=()) (q:=p12) (by simp[M3,<-hx0,<-hx1,Rs.bind,hm3,tz0,hm7,<-ha2,tz1,if_pos tu,hm12,t5]) hN12).2)
   have O1:=S12;refine rg O a6 [87,0,4] [0,4] [(4,sc J E (.bool .ff) N12 W12 p12.note)] Z fun X12 _ _ Z=>?_
   refine j3 Z rfl (fun Z=>?_);exact wp_skip ((rst O a6 Z (q:=p12) (wq:=wq12) (X12 4) (by simp[M3,<-hx0,<-hx1,Rs.bind,hm3,tz0,hm7,<-ha2,tz1,if_pos tu,hm12]) hN12 (hW12 _)).2)
  have O1:=S7;refine rg O a6 [0,2,4,6,8,10,12,13] [0,4,6,8,10,12] [(4,sc J E (.tup [.agg [.int .i64 0,.sl none none 0 0 2 (fun _=>[]),.int .i64 0,.int .u64 0,.int .u64 0],.int .i64 (-1)]) N7 W7 p7.note)] Z fun X7 _ _ Z=>?_
  refine wp_seq (wp_seq (rg O a6 [53,0,2,4,6,8,10,12,13] [0,4,6,8,10,12] [] Z fun X8 _ _ Z=>?_));apply a7 Z rfl<;>intro hb Z
  .skip
   exact wp_ret ((rst O a6 Z (q:=p7) (wq:=wq7) (X7 4) (by simp[M3,<-hx0,<-hx1,Rs.bind,hm3,tz0,hm7]) hN7 (hW7 _)).1)
  exfalso
  have h9:decide ((-1:Int)<0)=false:=by subst O;exact hb
  exact absurd h9 (by decide)
 have O1:=S3;refine rg O a6 [0,2,4,6,8,10,11] [0,4,6,8,10] [(4,sc J E (.tup [.agg [.int .i64 0,.sl none none 0 0 2 (fun _=>[]),.int .i64 0,.int .u64 0,.int .u64 0],.int .i64 (-1)]) N3 W3 p3.note)] Z fun X3 _ _ Z=>?_
 refine wp_seq (wp_seq (rg O a6 [35,0,2,4,6,8,10,11] [0,4,6,8,10] [] Z fun X4 _ _ Z=>?_));apply a7 Z rfl<;>intro hb Z
 .skip
  exact wp_ret ((rst O a6 Z (q:=p3) (wq:=wq3) (X3 4) (by simp[M3,<-hx0,<-hx1,Rs.bind,hm3]) hN3 (hW3 _)).1)
 exfalso
 have h9:decide ((-1:Int)<0)=false:=by subst O;exact hb
 exact absurd h9 (by decide)
theorem FD(k0 b:Nat)(J:i5)(hJ:j0 J)(E:r9)(hE:E.n<=1000000)(N:Nat)(p:Pst)(hR:Rel E N p)(hp:f9 p)(hn:p.n<=1000000)(l:Lab)(hl:LOk l)(v:Int)(n:Nat)(hth:po n)(hf:p.n<n):u3 172 k0 b J E N p [f4 l,.int .u64 v] (fun _=>i4) (i4) (M3 J.bucket (J.budget-E.n) n (I6 J.bucket (J.budget-E.n) n) l v p):=u3.re (By b J hJ E hE N p hR hp hn l hl v n hth hf) (by repeat(first|exact trivial|refine⟨zr,?_⟩))
end Go.Proofs.YtmbkanpapkhnaaaGreat.Sym
