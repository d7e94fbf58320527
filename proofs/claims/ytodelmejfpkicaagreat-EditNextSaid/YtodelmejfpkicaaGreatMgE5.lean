/-
  SymShQ, SymShD, SortGen, CmpBase, LaySort, SortBase, CmpRow, SortRow, SymSrt, SymRow0, SymShR, SymLw0, PlGood, PlRun, SymSk2, SymStl, SymSk3, SymSk4, SymDr0, SymDr1, SymDr2, SymDr3, SymDr4, SymDr5, SymDr6, SymDr7: put together by a program of mine (a claim may have 60 files at most). Conditions: none.
-/
import Derived.WalkKit
import Derived.WalkLawsBesides
import Derived.WalkSpells
import Derived.Lib.Hide
import Derived.Deep.QuietTactic
import Derived.BigQuiet
import Derived.Deep.LoopGhost
import Derived.Deep.DeepCutAuto
import Derived.Deep.RegionLaw
import Derived.Lib.Overlaps
import Derived.Laws.CopyOwn
import Derived.IntWalk
import Derived.ProofKit
import Derived.OpenShut
import Derived.ShutString
import Derived.ChangeOld
import Derived.Deep.Slices
import Derived.Test.YtodelmejfpkicaaGreatProg
import Derived.Orders
import Derived.OrdersHeld
import Derived.Defers
import Derived.Recover
import Derived.Lib.BitFns
import Derived.ChangeKeysEq
import Derived.Test.YtodelmejfpkicaaGreatChecked
import Derived.Lib.BufferWrite
import Derived.Maps.OwnSet
import Derived.Maps.RangeWalk
import Derived.Maps.Ext
import Derived.DeepKeys4
import Derived.LoopN
import Derived.Shelf.SlSortCmp.WholeK
import Derived.Shelf.SlSortCmp.NoneTotal
import Derived.Deep.RegionHeld3
import Derived.Ground.SlsfProg
import Derived.Shelf.SlGeneric
import Derived.Test.YtodelmejfpkicaaGreatMgE1
import Derived.Test.YtodelmejfpkicaaGreatMgE2
import Derived.Test.YtodelmejfpkicaaGreatMgE3
import Derived.Test.YtodelmejfpkicaaGreatMgE4
set_option linter.unusedVariables false
set_option linter.unusedSimpArgs false
set_option maxRecDepth 100000
set_option maxHeartbeats 1600000
namespace Go.Proofs.YtodelmejfpkicaaGreat.Sym
open Go Go.RowKit
theorem xP:j6 Tryz.prog 69:=fun _ _=>by kernel_rfl
theorem BY(b bM:Nat)(L:Shf)(hL:L.length<=100000)(k:Int)(q:C1)(hl:B2 q.lab)(x z:SpA):P3 Tryz.prog 69 [.ptr 0 b 0,D8 q,.agg (elC x),.agg (elC z),.bool .tt] [(0,⟨b,113,[.raw (.map (some bM)),.int .i64 k]⟩)] (some bM) (shK bM L) (fun y=>⟨.tup [u4 (gQ y (V8 L q.lab q.ver x.w.ver true ⟨z.w.ver,z.has,z.w.x.r.abs⟩).got),.int .i64 (V8 L q.lab q.ver x.w.ver true ⟨z.w.ver,z.has,z.w.x.r.abs⟩).err],[(0,[.raw (.map (some bM)),.int .i64 (if(V8 L q.lab q.ver x.w.ver true ⟨z.w.ver,z.has,z.w.x.r.abs⟩).wrote then IntKind.i64.wrap (k+1)else k)])],[]⟩) (fun _ _=>shK bM (V8 L q.lab q.ver x.w.ver true ⟨z.w.ver,z.has,z.w.x.r.abs⟩).L):=by
 intro m w hm hargs hpre hI;have hmx:maxLen=9223372036854775807:=rfl;have hmp:=G4 hI;obtain⟨CD,hCD⟩:=eqv ((V8 L q.lab q.ver x.w.ver true ⟨z.w.ver,z.has,z.w.x.r.abs⟩));rw[<-hCD];refine enM (bo:=some bM) 50 hm hpre hI hargs Tryz.func69 fun B O a0 Z=>?_
 refine wp_seq (rg O a6 [0,4,6,7,8,10] [0,6,7,8,10] [] Z fun X0 a0 w1 Z=>?_);refine wp_seq (wp_block (wp_seq (rg O a6 [12,0,4,6,7,8,10] [0,6,7,8,10] [] Z fun X1 a0 w1 Z=>?_)));apply a7 Z rfl<;>intro hb Z
 .have hv:q.ver≠x.w.ver:=by subst O;simpa[std,a8]using hb
  have hW:CD=⟨L,false,⟨8,x.w.ver,false,i9⟩,0⟩:=by rw[hCD];unfold V8;rw[if_pos hv]
  refine wp_seq (rg O a6 [10,11] [0,10] [] Z fun X2 a0 w1 Z=>?_);refine wp_ret ((rm O a6 Z (⟨0,fun _=>none,fun _=>0,fun _=>⟨#[]⟩⟩) [] (hmap:=?_) (he:=?_) (hs:=?_) (hJ:=?_)).1)
  .intro b hb;cases hb;exact⟨hmp,fun m h=>G4 h⟩
  .subst O;simp only[hW]
   exact Sim.tup ⟨Sim.agg ⟨zr,zr,zr,zr,zq0,zr,zr,zr,trivial⟩,zr,trivial⟩
  .subst O;simp only[hW]
   exact⟨rfl,⟨_,rfl,zl⟩,trivial⟩
  simp only[hW];exact fun _ _ h=>h
 have hv:¬q.ver≠x.w.ver:=by subst O;simpa[std,a8]using hb
 refine wp_seq (rg O a6 [21,0,6,8,10] [0,6,8,10] [] Z fun X3 a0 w1 Z=>?_);obtain⟨L2,hL2⟩:=eqv (bU q.lab ⟨z.w.ver,z.has,z.w.x.r.abs⟩ L);have hW:CD=⟨L2,true,⟨0,z.w.ver,false,i9⟩,0⟩:=by rw[hCD,hL2];unfold V8;rw[if_neg hv,if_neg (fun h=>by cases h.1)]
 refine j3 Z rfl (fun Z=>?_);refine wp_skip (wp_seq ?_);apply bL O 7 none ?hH (by kernel_rfl) a6 [36,38,39,0,8,10] [0,8,10] [] Z rfl
 case hH=>exact ay
 case hex=>intro A X;conv=>lhs;cbv
 case hD=>kernel_rfl
 case hZ=>kernel_rfl
 case hlen=>rfl
 case hob=>
  intro X;subst O;simp only[b7,Ob.holds,BE.den]<;>and_intros<;>intros<;>trivial
 case hQ=>
 intro X5 a0 w1 Z;obtain⟨D2,E2,hSh2⟩:=Z.kept;refine ao (k:=24) (e:=115) rfl rfl rfl rfl Z rfl rfl rfl rfl rfl fq cI hSh2.map (by omega) (Y4 hl) (fun _=>.inr rfl) (shK bM L2) (fun m w' hk hkb hv hM=>?_) ?_
 .rw [hL2];exact nR hSh2.map hl hk hkb (x:=⟨⟨q.lab,z.w.ver,z.w.x⟩,z.has⟩) (zr) hv hM
 intro w1 Z;replace Z:=Z.keep [0,8,10] [0,8,10];refine wpList_nil (wp_seq (rg O a6 [8,10] [0,8,10] [] Z fun X6 a0 w1 Z=>?_));refine wp_seq (rg O a6 [10,11] [0,10] [] Z fun X7 a0 w1 Z=>?_);refine wp_ret ((rm O a6 Z (⟨0,fun _=>none,fun _=>0,fun _=>⟨#[]⟩⟩) [] (hmap:=?_) (he:=?_) (hs:=?_) (hJ:=?_)).1)
 .intro b hb;cases hb;exact⟨hmp,fun m h=>G4 h⟩
 .subst O;simp only[hW]
  exact Sim.tup ⟨Sim.agg ⟨zr,zr,zr,zr,zq0,zr,zr,zr,trivial⟩,zr,trivial⟩
 .subst O;simp only[hW]
  exact⟨rfl,⟨_,rfl,zl⟩,trivial⟩
 simp only[hW];exact fun _ _ h=>h
theorem FL(k0:Nat)(b bM:Nat)(L:Shf)(hL:L.length<=100000)(k:Int)(q:C1)(hl:B2 q.lab)(x z:SpA):P3 Tryz.prog 69 [.ptr k0 b 0,D8 q,.agg (elC x),.agg (elC z),.bool .tt] [(k0,⟨b,113,[.raw (.map (some bM)),.int .i64 k]⟩)] (some bM) (shK bM L) (fun y=>⟨.tup [u4 (gQ y (V8 L q.lab q.ver x.w.ver true ⟨z.w.ver,z.has,z.w.x.r.abs⟩).got),.int .i64 (V8 L q.lab q.ver x.w.ver true ⟨z.w.ver,z.has,z.w.x.r.abs⟩).err],[(k0,[.raw (.map (some bM)),.int .i64 (if(V8 L q.lab q.ver x.w.ver true ⟨z.w.ver,z.has,z.w.x.r.abs⟩).wrote then IntKind.i64.wrap (k+1)else k)])],[]⟩) (fun _ _=>shK bM (V8 L q.lab q.ver x.w.ver true ⟨z.w.ver,z.has,z.w.x.r.abs⟩).L):=
 (BY b bM L hL k q hl x z).re (by repeat(first|exact trivial|refine⟨Sim.ptr,?_⟩|refine⟨Sim.fn ⟨Sim.ptr,trivial⟩ trivial,?_⟩|refine⟨Sim.fn trivial ⟨Sim.ptr,trivial⟩,?_⟩|refine⟨zr,?_⟩)) rfl (fun x=>⟨rfl,rfl,zr,rfl⟩)
theorem BZ(b bM:Nat)(L:Shf)(hL:L.length<=100000)(k:Int)(q:C1)(hl:B2 q.lab)(x z:SpA):P3 Tryz.prog 69 [.ptr 0 b 0,D8 q,.agg (elC x),.agg (elC z),.bool .ff] [(0,⟨b,113,[.raw (.map (some bM)),.int .i64 k]⟩)] (some bM) (shK bM L) (fun y=>⟨.tup [u4 (gQ y (V8 L q.lab q.ver x.w.ver false ⟨z.w.ver,z.has,z.w.x.r.abs⟩).got),.int .i64 (V8 L q.lab q.ver x.w.ver false ⟨z.w.ver,z.has,z.w.x.r.abs⟩).err],[(0,[.raw (.map (some bM)),.int .i64 (if(V8 L q.lab q.ver x.w.ver false ⟨z.w.ver,z.has,z.w.x.r.abs⟩).wrote then IntKind.i64.wrap (k+1)else k)])],[]⟩) (fun _ _=>shK bM (V8 L q.lab q.ver x.w.ver false ⟨z.w.ver,z.has,z.w.x.r.abs⟩).L):=by
 intro m w hm hargs hpre hI;have hmx:maxLen=9223372036854775807:=rfl;have hmp:=G4 hI;obtain⟨CD,hCD⟩:=eqv ((V8 L q.lab q.ver x.w.ver false ⟨z.w.ver,z.has,z.w.x.r.abs⟩));rw[<-hCD];refine enM (bo:=some bM) 50 hm hpre hI hargs Tryz.func69 fun B O a0 Z=>?_
 refine wp_seq (rg O a6 [0,4,6,7,8,10] [0,6,7,8,10] [] Z fun X0 a0 w1 Z=>?_);refine wp_seq (wp_block (wp_seq (rg O a6 [12,0,4,6,7,8,10] [0,6,7,8,10] [] Z fun X1 a0 w1 Z=>?_)));apply a7 Z rfl<;>intro hb Z
 .have hv:q.ver≠x.w.ver:=by subst O;simpa[std,a8]using hb
  have hW:CD=⟨L,false,⟨8,x.w.ver,false,i9⟩,0⟩:=by rw[hCD];unfold V8;rw[if_pos hv]
  refine wp_seq (rg O a6 [10,11] [0,10] [] Z fun X2 a0 w1 Z=>?_);refine wp_ret ((rm O a6 Z (⟨0,fun _=>none,fun _=>0,fun _=>⟨#[]⟩⟩) [] (hmap:=?_) (he:=?_) (hs:=?_) (hJ:=?_)).1)
  .intro b hb;cases hb;exact⟨hmp,fun m h=>G4 h⟩
  .subst O;simp only[hW]
   exact Sim.tup ⟨Sim.agg ⟨zr,zr,zr,zr,zq0,zr,zr,zr,trivial⟩,zr,trivial⟩
  .subst O;simp only[hW]
   exact⟨rfl,⟨_,rfl,zl⟩,trivial⟩
  simp only[hW];exact fun _ _ h=>h
 have hv:¬q.ver≠x.w.ver:=by subst O;simpa[std,a8]using hb
 refine wp_seq (wp_region_lit (lpr 0 7 O a6 [24,28,0,6,8,10] [0,6,8,10] [] Z fun X3_0 a0 w1 Z=>?_));obtain⟨D,E,hSh⟩:=Z.kept;obtain⟨zz,hzz⟩:=eqv (Maps.size D);have hzl:zz=L.length:=hzz.trans hSh.size;refine yZ (tS Z rfl rfl rfl) (xf rfl rfl rfl rfl rfl rfl rfl Z (Nat.le_of_ble_eq_true rfl) rfl cI hSh.map ?_);rw[<-hzz];intro a0 Z;refine lnd 8 O a6 [21,0,6,8,10] [0,6,8,10] [] Z fun X3 a0 w1 Z=>?_
 apply a7 Z rfl<;>intro hb Z
 .have hfull:2000<=L.length:=by
   have:(2000:Int)<=(zz:Int):=by subst O;simpa[std,a8]using hb
   omega
  have hW:CD=⟨L,false,U1,12⟩:=by rw[hCD];unfold V8;rw[if_neg hv,if_pos ⟨rfl,hfull⟩]
  refine wp_seq (rg O a6 [10,11] [0,10] [] Z fun X4 a0 w1 Z=>?_);refine wp_ret ((rm O a6 Z (⟨0,fun _=>none,fun _=>0,fun _=>⟨#[]⟩⟩) [] (hmap:=?_) (he:=?_) (hs:=?_) (hJ:=?_)).1)
  .intro b hb;cases hb;exact⟨hmp,fun m h=>G4 h⟩
  .subst O;simp only[hW]
   exact Sim.tup ⟨Sim.agg ⟨zr,zr,zr,zr,zq0,zr,zr,zr,trivial⟩,zr,trivial⟩
  .subst O;simp only[hW]
   exact⟨rfl,⟨_,rfl,zl⟩,trivial⟩
  simp only[hW];exact fun _ _ h=>h
 have hfull:¬2000<=L.length:=by
  have:¬(2000:Int)<=(zz:Int):=by subst O;simpa[std,a8]using hb
  omega
 obtain⟨L2,hL2⟩:=eqv (bU q.lab ⟨z.w.ver,z.has,z.w.x.r.abs⟩ L);have hW:CD=⟨L2,true,⟨0,z.w.ver,false,i9⟩,0⟩:=by rw[hCD,hL2];unfold V8;rw[if_neg hv,if_neg (fun h=>hfull h.2)]
 refine wp_skip (wp_seq ?_);apply bL O 7 none ?hH (by kernel_rfl) a6 [36,38,39,0,8,10] [0,8,10] [] Z rfl
 case hH=>exact ay
 case hex=>intro A X;conv=>lhs;cbv
 case hD=>kernel_rfl
 case hZ=>kernel_rfl
 case hlen=>rfl
 case hob=>
  intro X;subst O;simp only[b7,Ob.holds,BE.den]<;>and_intros<;>intros<;>trivial
 case hQ=>
 intro X5 a0 w1 Z;obtain⟨D2,E2,hSh2⟩:=Z.kept;refine ao (k:=24) (e:=115) rfl rfl rfl rfl Z rfl rfl rfl rfl rfl fq cI hSh2.map (by omega) (Y4 hl) (fun _=>.inr rfl) (shK bM L2) (fun m w' hk hkb hv hM=>?_) ?_
 .rw [hL2];exact nR hSh2.map hl hk hkb (x:=⟨⟨q.lab,z.w.ver,z.w.x⟩,z.has⟩) (zr) hv hM
 intro w1 Z;replace Z:=Z.keep [0,8,10] [0,8,10];refine wpList_nil (wp_seq (rg O a6 [8,10] [0,8,10] [] Z fun X6 a0 w1 Z=>?_));refine wp_seq (rg O a6 [10,11] [0,10] [] Z fun X7 a0 w1 Z=>?_);refine wp_ret ((rm O a6 Z (⟨0,fun _=>none,fun _=>0,fun _=>⟨#[]⟩⟩) [] (hmap:=?_) (he:=?_) (hs:=?_) (hJ:=?_)).1)
 .intro b hb;cases hb;exact⟨hmp,fun m h=>G4 h⟩
 .subst O;simp only[hW]
  exact Sim.tup ⟨Sim.agg ⟨zr,zr,zr,zr,zq0,zr,zr,zr,trivial⟩,zr,trivial⟩
 .subst O;simp only[hW]
  exact⟨rfl,⟨_,rfl,zl⟩,trivial⟩
 simp only[hW];exact fun _ _ h=>h
theorem FM(k0:Nat)(b bM:Nat)(L:Shf)(hL:L.length<=100000)(k:Int)(q:C1)(hl:B2 q.lab)(x z:SpA):P3 Tryz.prog 69 [.ptr k0 b 0,D8 q,.agg (elC x),.agg (elC z),.bool .ff] [(k0,⟨b,113,[.raw (.map (some bM)),.int .i64 k]⟩)] (some bM) (shK bM L) (fun y=>⟨.tup [u4 (gQ y (V8 L q.lab q.ver x.w.ver false ⟨z.w.ver,z.has,z.w.x.r.abs⟩).got),.int .i64 (V8 L q.lab q.ver x.w.ver false ⟨z.w.ver,z.has,z.w.x.r.abs⟩).err],[(k0,[.raw (.map (some bM)),.int .i64 (if(V8 L q.lab q.ver x.w.ver false ⟨z.w.ver,z.has,z.w.x.r.abs⟩).wrote then IntKind.i64.wrap (k+1)else k)])],[]⟩) (fun _ _=>shK bM (V8 L q.lab q.ver x.w.ver false ⟨z.w.ver,z.has,z.w.x.r.abs⟩).L):=
 (BZ b bM L hL k q hl x z).re (by repeat(first|exact trivial|refine⟨Sim.ptr,?_⟩|refine⟨Sim.fn ⟨Sim.ptr,trivial⟩ trivial,?_⟩|refine⟨Sim.fn trivial ⟨Sim.ptr,trivial⟩,?_⟩|refine⟨zr,?_⟩)) rfl (fun x=>⟨rfl,rfl,zr,rfl⟩)
theorem HH(k0:Nat)(b bM:Nat)(L:Shf)(hL:L.length<=100000)(k:Int)(q:C1)(hl:B2 q.lab)(x z:SpA)(hh:Bool):P3 Tryz.prog 69 [.ptr k0 b 0,D8 q,.agg (elC x),.agg (elC z),.bool (.v hh)] [(k0,⟨b,113,[.raw (.map (some bM)),.int .i64 k]⟩)] (some bM) (shK bM L) (fun y=>⟨.tup [u4 (gQ y (V8 L q.lab q.ver x.w.ver hh ⟨z.w.ver,z.has,z.w.x.r.abs⟩).got),.int .i64 (V8 L q.lab q.ver x.w.ver hh ⟨z.w.ver,z.has,z.w.x.r.abs⟩).err],[(k0,[.raw (.map (some bM)),.int .i64 (if(V8 L q.lab q.ver x.w.ver hh ⟨z.w.ver,z.has,z.w.x.r.abs⟩).wrote then IntKind.i64.wrap (k+1)else k)])],[]⟩) (fun _ _=>shK bM (V8 L q.lab q.ver x.w.ver hh ⟨z.w.ver,z.has,z.w.x.r.abs⟩).L):=by
 cases hh with
 |true=>exact(FL k0 b bM L hL k q hl x z).args ⟨zr,zr,zr,zr,Sim.bool rfl,trivial⟩
 |false=>exact(FM k0 b bM L hL k q hl x z).args ⟨zr,zr,zr,zr,Sim.bool rfl,trivial⟩
theorem Bh{L:Shf}{w:Wnt}(hg:(w.kind=1 \/ w.kind=2 \/ w.kind=3)/\isL w.lab=true/\(w.kind=2->isR w.r=true))(hk:¬w.kind=1):doL L w=V8 L w.lab w.ver (D6 L w.lab).ver (C2 w.lab L).isSome ⟨inc (D6 L w.lab).ver,decide (w.kind=2),if w.kind=2 then w.r else i9⟩:=by
 refine(if_pos hg).trans ((if_neg hk).trans ?_);unfold V8
 by_cases hv:w.ver=(D6 L w.lab).ver
 .have h1:¬w.ver≠(D6 L w.lab).ver:=fun h=>h hv
  have e:((C2 w.lab L).isNone=true/\2000<=L.length)=((C2 w.lab L).isSome=false/\2000<=L.length):=by
   cases C2 w.lab L<;>simp
  refine(if_neg h1).trans (Eq.symm ((if_neg h1).trans ?_));rw[<-hv];simp only[<-e];rfl
 exact(if_pos hv).trans (if_pos hv).symm
theorem xS:j6 Tryz.prog 23:=fun _ _=>by kernel_rfl
theorem HB(b bM:Nat)(L:Shf)(hL:L.length<=100000)(k:Int)(q:C1)(hwn:q.x.r.n<=maxLen)(hl:B2 q.lab)(hwb:U64 q.lab.bits)(hwx:U64 q.x.r.nx.bits):P3 Tryz.prog 23 [.ptr 0 b 0,D8 q] [(0,⟨b,113,[.raw (.map (some bM)),.int .i64 k]⟩)] (some bM) (shK bM L) (fun y=>⟨.tup [u4 (gQ y (doL L q.abs).got),.int .i64 (doL L q.abs).err],[(0,[.raw (.map (some bM)),.int .i64 (if(doL L q.abs).wrote then IntKind.i64.wrap (k+1)else k)])],[]⟩) (fun _ _=>shK bM (doL L q.abs).L):=by
 intro m w hm hargs hpre hI;have hmx:maxLen=9223372036854775807:=rfl;have hmp:=G4 hI;have S1:=fx q.lab hwb;have S2:=eD q.x.A q.x.r.n q.x.c q.x.r.f (by omega) q.x.r.kd q.x.r.nx q.x.r.mrk hwx;rw[<-gL]at S2;simp only[f4,F1,l6]at S1 S2;obtain⟨il,hil⟩:=eqv (isL q.lab);obtain⟨ir,hir⟩:=eqv (isR q.x.r.abs);rw[<-hil]at S1;rw[<-hir]at S2;obtain⟨D0,hD⟩:=eqv ((doL L q.abs));rw[<-hD]
 skip
 refine enM (bo:=some bM) 70 hm hpre hI hargs Tryz.func23 fun B O a0 Z=>?_
 refine wp_seq (rg O a6 [0,3,4] [0,3,4] [] Z fun X0 _ _ Z=>?_);refine wp_seq (wp_seq (rg O a6 [10,0,3,4] [0,3,4] [] Z fun X1 _ _ Z=>?_));refine j3 Z rfl (fun Z=>?_);obtain⟨DM,E,hSh⟩:=Z.kept;replace Z:=Z.withK (K':=shD DM E bM L) hSh;obtain⟨el,hel⟩:=eqv (elA (adr E L) q.lab (D6 L q.lab));obtain⟨hh,hhh⟩:=eqv ((C2 q.lab L).isSome);refine wp_skip (wp_seq ?_);apply bL O 13 (some (6,[.tmp 16,.tmp 18],[.raw (.map (some bM)),.agg [.int .i64 q.lab.len,.int .u64 q.lab.bits]],.tup [.agg [.int .u64 el.w.ver,.bool (.v el.has),.int .i64 el.w.x.r.kd,.sl none el.w.x.A el.w.x.r.n el.w.x.c 2 (fun i=>itC (el.w.x.r.f i)),.int .i64 el.w.x.r.nx.len,.int .u64 el.w.x.r.nx.bits,.int .u64 el.w.x.r.mrk],.bool (.v hh)])) ?hH (by kernel_rfl) a6 [0,3,4,6,7] [0,3,4,6] [] Z rfl
 case hH=>exact nc hl hel hhh (fun o h=>by cases h;rfl)
 case hex=>intro A X;conv=>lhs;cbv
 case hD=>kernel_rfl
 case hZ=>kernel_rfl
 case hlen=>rfl
 case hob=>
  intro X;subst O;simp only[b7,Ob.holds,BE.den]<;>and_intros<;>intros<;>trivial
 case hQ=>
 intro X3 _ _ Z;replace Z:=Z.withK (K':=shK bM L) ⟨DM,E,Z.kept⟩;have hev:el.w.ver=(D6 L q.lab).ver:=by rw[hel]
 have heh:el.has=(D6 L q.lab).has:=by rw[hel]
 have her:el.w.x.r.abs=(D6 L q.lab).r:=by rw[hel];exact lY _
 refine wpList_nil (wp_seq (rg O a6 [0,3,4,6,7,8] [8,0,3,4,6] [] Z fun X4 _ _ Z=>?_));obtain⟨vi,hvi⟩:=eqv (inc (D6 L q.lab).ver);replace Z:=Z.memS (cells':=[.int .u64 vi,.bool .ff,.int .i64 0,.sl none none 0 0 2 (fun _=>[]),.int .i64 0,.int .u64 0,.int .u64 0]) ⟨(by subst O;rw[hvi,<-hev];exact zr),zr,zr,zr,zr,zr,zr,trivial⟩;refine wp_seq (wp_block (wp_seq (oH (ι:=SpA) (S0:=[]) (M0:=[(8,_)]) (G0:=[]) (fun z=>[]) (fun z=>[(8,⟨(X4 4).b,115,elC z⟩)]) (fun z=>[]) (fun z=>¬q.kind=1/\z.w.ver=vi/\((q.kind=1 \/ q.kind=2 \/ q.kind=3)/\isL q.lab=true/\(q.kind=2->isR q.x.r.abs=true))/\z.has=decide (q.kind=2)/\z.w.x.r.abs=(if q.kind=2 then q.x.r.abs else i9)) Z ?_ ?_)))
 .have O1:=S1
  refine wp_block (wp_seq (wp_block (wp_seq (wp_block (wp_seq (wp_block (wp_seq (wp_seq (wp_seq (rg O a6 [26,0,3,4,6,7,8] [8,0,3,4,6] [(2,.r fun _=>.bool (.v il))] Z fun X5 _ _ Z=>?_))))))))));apply a7 Z rfl<;>intro hb Z
  .have h9:(!il)=true:=by subst O;exact hb
   have hbad:¬((q.kind=1 \/ q.kind=2 \/ q.kind=3)/\isL q.lab=true/\(q.kind=2->isR q.x.r.abs=true)):=by rw[<-hil];intro h;rw[h.2.1]at h9;cases h9
   have hW:D0=⟨L,false,U1,1⟩:=by rw[hD];exact if_neg hbad
   refine wp_exit (wp_seq (wp_seq (rg O a6 [4,5] [0,4] [] Z fun X9 _ _ Z=>?_)));refine wp_ret ((rm O a6 Z (⟨0,fun _=>none,fun _=>0,fun _=>⟨#[]⟩⟩) [] (hmap:=?_) (he:=?_) (hs:=?_) (hJ:=?_)).1)
   .intro b hb;cases hb;exact⟨hmp,fun m h=>G4 h⟩
   .subst O;simp only[hW]
    exact Sim.tup ⟨Sim.agg ⟨zr,zr,zr,zr,zq0,zr,zr,zr,trivial⟩,zr,trivial⟩
   .subst O;simp only[hW]
    exact⟨rfl,⟨_,rfl,zl⟩,trivial⟩
   simp only[hW];exact fun _ _ h=>h
  have hl1:isL q.lab=true:=by
   have h9:(!il)=false:=by subst O;exact hb
   rw[<-hil];simpa using h9
  refine wp_skip (wp_seq (wp_seq (rg O a6 [31,0,3,4,6,7,8] [8,0,3,4,6] [] Z fun X6 _ _ Z=>?_)));apply a7 Z rfl<;>intro hb Z
  .have hk1:q.kind=1:=by subst O;simpa[std,a8]using hb
   have hgd:((q.kind=1 \/ q.kind=2 \/ q.kind=3)/\isL q.lab=true/\(q.kind=2->isR q.x.r.abs=true)):=⟨.inl hk1,hl1,fun h=>by omega⟩;have hW:D0=⟨L,false,⟨0,el.w.ver,el.has,el.w.x.r.abs⟩,0⟩:=by rw[hD,hev,heh,her];refine(if_pos hgd).trans ?_;exact if_pos hk1
   refine wp_exit (wp_seq (wp_seq (rg O a6 [4,5] [0,4] [] Z fun X10 _ _ Z=>?_)));refine wp_ret ((rm O a6 Z (spY none 0 (fun _=>zSp) el.w.x.A el.w.x.c 0) [] (hmap:=?_) (he:=?_) (hs:=?_) (hJ:=?_)).1)
   .intro b hb;cases hb;exact⟨hmp,fun m h=>G4 h⟩
   .subst O;simp only[hW]
    exact Sim.tup ⟨Sim.agg (AM (v:=⟨0,el.w.ver,el.has,el.w.x⟩) rfl rfl rfl),zr,trivial⟩
   .subst O;simp only[hW]
    exact⟨rfl,⟨_,rfl,zl⟩,trivial⟩
   simp only[hW];exact fun _ _ h=>h
  have hk1:¬q.kind=1:=by subst O;simpa[std,a8]using hb
  refine wp_skip (wp_seq (wp_seq (rg O a6 [35,0,3,4,6,7,8] [8,0,3,4,6] [] Z fun X7 _ _ Z=>?_)));apply a7 Z rfl<;>intro hb Z
  .have hk2:q.kind=2:=by subst O;simpa[std,a8]using hb
   have O1:=S2;refine wp_exit (wp_seq (wp_seq (rg O a6 [54,0,3,4,6,7,8] [8,0,3,4,6] [(2,.r fun _=>.bool (.v ir))] Z fun X11 _ _ Z=>?_)));apply a7 Z rfl<;>intro hb Z
   .have h9:(!ir)=true:=by subst O;exact hb
    have hbad:¬((q.kind=1 \/ q.kind=2 \/ q.kind=3)/\isL q.lab=true/\(q.kind=2->isR q.x.r.abs=true)):=by rw[<-hir];intro h;rw[h.2.2 hk2]at h9;cases h9
    have hW:D0=⟨L,false,U1,1⟩:=by rw[hD];exact if_neg hbad
    refine wp_seq (rg O a6 [4,5] [0,4] [] Z fun X12 _ _ Z=>?_);refine wp_ret ((rm O a6 Z (⟨0,fun _=>none,fun _=>0,fun _=>⟨#[]⟩⟩) [] (hmap:=?_) (he:=?_) (hs:=?_) (hJ:=?_)).1)
    .intro b hb;cases hb;exact⟨hmp,fun m h=>G4 h⟩
    .subst O;simp only[hW]
     exact Sim.tup ⟨Sim.agg ⟨zr,zr,zr,zr,zq0,zr,zr,zr,trivial⟩,zr,trivial⟩
    .subst O;simp only[hW]
     exact⟨rfl,⟨_,rfl,zl⟩,trivial⟩
    simp only[hW];exact fun _ _ h=>h
   have hr1:isR q.x.r.abs=true:=by
    have h9:(!ir)=false:=by subst O;exact hb
    rw[<-hir];simpa using h9
   have S3:=CZ q.x (by have h8:=hr1;rw[gL]at h8;have:=(E3 h8).2.2.1;omega);have O1:=S3;refine wp_skip (rg O a6 [0,3,4,6,7,8] [8,0,3,4,6] [(2,.r fun y=>.agg [.int .i64 q.x.r.kd,.sl none (y.A 0) q.x.r.n (y.c 0) 2 (fun t=>itC (q.x.r.f t)),.int .i64 q.x.r.nx.len,.int .u64 q.x.r.nx.bits,.int .u64 q.x.r.mrk])] Z fun X13 _ _ Z=>?_);refine⟨⟨⟨q.lab,vi,⟨(X13 2).A 0,(X13 2).c 0,q.x.r⟩⟩,true⟩,⟨hk1,rfl,⟨.inr (.inl hk2),hl1,fun _=>hr1⟩,?_,?_⟩,Z.memS (cells':=elC ⟨⟨q.lab,vi,⟨(X13 2).A 0,(X13 2).c 0,q.x.r⟩⟩,true⟩) ⟨zr,Sim.tt,zr,zr,zr,zr,zr,trivial⟩⟩
   .rw [decide_eq_true hk2]
   rw[if_pos hk2]
  have hk2:¬q.kind=2:=by subst O;simpa[std,a8]using hb
  refine wp_skip (wp_seq (rg O a6 [39,0,3,4,6,7,8] [8,0,3,4,6] [] Z fun X8 _ _ Z=>?_));apply a7 Z rfl<;>intro hb Z
  .have hk3:q.kind=3:=by subst O;simpa[std,a8]using hb
   refine wp_exit (⟨⟨⟨q.lab,vi,zRA⟩,false⟩,⟨hk1,rfl,⟨.inr (.inr hk3),hl1,fun h=>by omega⟩,?_,?_⟩,Z.memS (cells':=elC ⟨⟨q.lab,vi,zRA⟩,false⟩) ⟨zr,Sim.ff,zr,zq0,zr,zr,zr,trivial⟩⟩)
   .rw [decide_eq_false (by omega)]
   rw[if_neg (by omega)];rfl
  have hk3:¬q.kind=3:=by subst O;simpa[std,a8]using hb
  have hbad:¬((q.kind=1 \/ q.kind=2 \/ q.kind=3)/\isL q.lab=true/\(q.kind=2->isR q.x.r.abs=true)):=fun h=>by rcases h.1 with h|h|h;exact hk1 h;exact hk2 h;exact hk3 h
  have hW:D0=⟨L,false,U1,1⟩:=by rw[hD];exact if_neg hbad
  refine wp_skip (wp_exit (wp_seq (rg O a6 [4,5] [0,4] [] Z fun X15 _ _ Z=>?_)));refine wp_ret ((rm O a6 Z (⟨0,fun _=>none,fun _=>0,fun _=>⟨#[]⟩⟩) [] (hmap:=?_) (he:=?_) (hs:=?_) (hJ:=?_)).1)
  .intro b hb;cases hb;exact⟨hmp,fun m h=>G4 h⟩
  .subst O;simp only[hW]
   exact Sim.tup ⟨Sim.agg ⟨zr,zr,zr,zr,zq0,zr,zr,zr,trivial⟩,zr,trivial⟩
  .subst O;simp only[hW]
   exact⟨rfl,⟨_,rfl,zl⟩,trivial⟩
  simp only[hW];exact fun _ _ h=>h
 rintro z ⟨hk1,hz1,hgd,hz2,hz3⟩ _ _ Z
 try dsimp only at hk1
 try dsimp only at hz1
 try dsimp only at hgd
 try dsimp only at hz2
 try dsimp only at hz3
 have SC:=HH 0 b bM L hL k q hl el z hh;obtain⟨CD,hCD⟩:=eqv (V8 L q.lab q.ver el.w.ver hh ⟨z.w.ver,z.has,z.w.x.r.abs⟩);rw[<-hCD]at SC;have hDC:D0=CD:=by
  rw[hD,hCD,Bh (w:=q.abs) hgd hk1,hz1,hz2,hz3,hvi,hev,hhh];rfl
 obtain⟨G,hG⟩:∃G:i8->r9,G=fun y=>gQ y CD.got:=⟨_,rfl⟩
 have hGG:∀y,gQ y CD.got=G y:=fun y=>by rw[hG]
 simp only[hGG]at SC;obtain⟨k2,hk2⟩:=eqv ((if CD.wrote then IntKind.i64.wrap (k+1)else k));rw[<-hk2]at SC;refine wp_seq (wp_seq (wp_region_lit (lpr 0 5 O a6 [61,62,63,64,65,4] [0,4] [] Z fun X14_0 _ _ Z=>?_)));refine Z9 rfl rfl rfl rfl Z rfl rfl xP SC (fun _ _ h=>h) (fun b hb=>by cases hb;exact fun _=>.inr rfl) (zl) (by intro e he;simp only[List.mem_singleton]at he;subst he;rfl) rfl rfl (fun _=>shK bM CD.L) (fun _ _ _ _ _ _ _ _ _ h=>h) ?_;intro y _ _ Z;refine lnd 6 O a6 [4,5] [0,4] [] Z fun X14 _ _ Z=>?_
 refine wp_ret ((rm O a6 Z (y) [] (hmap:=?_) (he:=?_) (hs:=?_) (hJ:=?_)).1)
 .intro b hb;cases hb;exact⟨hmp,fun m h=>G4 h⟩
 .subst O;rw[hDC,hGG];exact zr
 .rw [hDC,<-hk2]
  exact⟨rfl,⟨_,rfl,zl⟩,trivial⟩
 rw[hDC];exact fun _ _ h=>h
theorem IL(k0:Nat)(b bM:Nat)(L:Shf)(hL:L.length<=100000)(k:Int)(q:C1)(hwn:q.x.r.n<=maxLen)(hl:B2 q.lab)(hwb:U64 q.lab.bits)(hwx:U64 q.x.r.nx.bits):P3 Tryz.prog 23 [.ptr k0 b 0,D8 q] [(k0,⟨b,113,[.raw (.map (some bM)),.int .i64 k]⟩)] (some bM) (shK bM L) (fun y=>⟨.tup [u4 (gQ y (doL L q.abs).got),.int .i64 (doL L q.abs).err],[(k0,[.raw (.map (some bM)),.int .i64 (if(doL L q.abs).wrote then IntKind.i64.wrap (k+1)else k)])],[]⟩) (fun _ _=>shK bM (doL L q.abs).L):=
 (HB b bM L hL k q hwn hl hwb hwx).re (by repeat(first|exact trivial|refine⟨Sim.ptr,?_⟩|refine⟨Sim.fn ⟨Sim.ptr,trivial⟩ trivial,?_⟩|refine⟨Sim.fn trivial ⟨Sim.ptr,trivial⟩,?_⟩|refine⟨zr,?_⟩)) rfl (fun x=>⟨rfl,rfl,zr,rfl⟩)
end Go.Proofs.YtodelmejfpkicaaGreat.Sym
namespace Go.Proofs.YtodelmejfpkicaaGreat.Sym
open Go Go.RowKit
open Go.Sort (flatK HoldsK putRowK get_flatK size_flatK)
section
variable {α : Type} [Inhabited α] {k:Nat} {cells:α->List AV} {w w':World} {B e:Nat} {A:Option Addr} {n c:Nat} {h:Nat->α}
abbrev ib(cells:α->List AV):α->List Value:=fun x=>(cells x).map AV.den
theorem sY(hk:∀x,(cells x).length=k)(d:Array α)(i j:Nat)(hi:i<d.size)(hj:j<k):(flatK (ib cells) k d)[i*k+j]! = ((cells d[i]!).map AV.den)[j]!:=by
 have hlt:i*k+j<d.size*k:=by
  have:(i+1)*k<=d.size*k:=Nat.mul_le_mul_right k hi;rw[Nat.add_mul,Nat.one_mul]at this;omega
 rw[get_flatK _ _ _ _ hlt];have h1:(i*k+j) / k=i:=by rw[Nat.mul_comm,Nat.mul_add_div (by omega),Nat.div_eq_of_lt hj,Nat.add_zero]
 have h2:(i*k+j) % k=j:=by rw[Nat.mul_comm,Nat.mul_add_mod,Nat.mod_eq_of_lt hj]
 rw[h1,h2]
theorem om(hk:∀x,(cells x).length=k)(hO:Own w B e k (.slice A n c) n (j8 (fun t=>cells (h t)) n))(hn:0<n):∃b,A=some ⟨b,0,none⟩/\B<=b/\b<w.heap.size/\HoldsK (ib cells) k w b 0 ((List.range n).map h).toArray:=by
 obtain⟨b,hA,hb⟩:=L8 hO hn;obtain⟨h1,h2⟩:=hO.lt b hb;refine⟨b,hA,h1,h2,fun t ht=>?_⟩;have hsz:((List.range n).map h).toArray.size=n:=by simp
 rw[size_flatK,hsz]at ht;have hk0:0<k:=by rcases Nat.eq_zero_or_pos k with h0|h0;rw[h0]at ht;omega;exact h0
 obtain⟨i,j,hj,rfl⟩:∃i j,j<k/\t=i*k+j:=⟨t / k,t % k,Nat.mod_lt _ hk0,by rw[Nat.mul_comm];exact(Nat.div_add_mod t k).symm⟩
 have hi:i<n:=by
  refine Nat.lt_of_not_le fun hle=>?_
  have:=Nat.mul_le_mul_right k hle;omega
 have hd:((List.range n).map h).toArray[i]! = h i:=by
  rw[getElem!_pos _ i (by rw[hsz];exact hi)];simp
 rw[sY hk _ i j (by rw[hsz];exact hi) hj,hd,Nat.zero_add];have hg:=K9 (cells:=fun t=>cells (h t)) (n:=n) (fun i _=>hk _) hi hj;have hjl:j<((cells (h i)).map AV.den).length:=by rw[List.length_map,hk];exact hj
 rw[List.getElem?_eq_getElem hjl]at hg;refine⟨?_,?_⟩
 .rw [M4 hO hb _ _ hg,getElem!_pos _ j hjl];rfl
 obtain⟨_,h2|⟨g,cap,cur,hv,_,hcur,_⟩⟩:=hO
 .obtain ⟨h0,_⟩:=h2;omega
 injection hv with e1
 rw[hA]at e1;injection e1 with e1
 injection e1 with e1
 subst e1;simp[World.frozen?,hcur]
theorem nb(d':Array α)(m:Nat)(os:Array Obj){b:Nat}(hb:b<w.heap.size):(sortWorldK (ib cells) k w b 0 m d' os).heap[b]? = (w.heap[b]?).map (Go.Sort.onCells (Go.Sort.putCells id 0 (flatK (ib cells) k d')))/\∀x,x<w.heap.size->x≠b->(sortWorldK (ib cells) k w b 0 m d' os).heap[x]? = w.heap[x]?:=by
 have hsz:(putRowK (ib cells) k (Go.Sort.ahead w m) b 0 d').heap.size=w.heap.size:=by simp[putRowK,Go.Sort.putRow,Go.Sort.mapBlock,Go.Sort.ahead]
 refine⟨?_,fun x hx hne=>?_⟩
 .unfold sortWorldK Go.Sort.grow
  simp only;rw[Array.getElem?_append_left (by rw[hsz];exact hb)];simp[putRowK,Go.Sort.putRow,Go.Sort.mapBlock,Go.Sort.ahead,Array.getElem?_modify]
 unfold sortWorldK Go.Sort.grow;simp only;rw[Array.getElem?_append_left (by rw[hsz];exact hx)];simp[putRowK,Go.Sort.putRow,Go.Sort.mapBlock,Go.Sort.ahead,Array.getElem?_modify];intro e;exact absurd e.symm hne
theorem wE(hk:∀x,(cells x).length=k)(hO:Own w B e k (.slice A n c) n (j8 (fun t=>cells (h t)) n))(hn:0<n){b:Nat}(hA:A=some ⟨b,0,none⟩)(hb:b<w.heap.size)(d':Array α)(hd:d'.size=n)(m:Nat)(os:Array Obj) :
  Own (sortWorldK (ib cells) k w b 0 m d' os) B e k (.slice A n c) n (j8 (fun t=>cells d'[t]!) n):=by
 have hlen:(j8 (fun t=>cells d'[t]!) n).length=n*k:=P9 fun i _=>hk _
 refine⟨hlen,?_⟩
 rcases hO.2 with⟨h0,_⟩|⟨g,cap,cur,hv,h1,h2,h3,h4,h5,h6,h7⟩
 .omega
 injection hv with e1 e2 e3
 subst e3;have:g=b:=by rw[hA]at e1;injection e1 with e1;injection e1 with e1;exact e1.symm
 subst this;subst e1
 right
 refine⟨g,c,Go.Sort.putCells id 0 (flatK (ib cells) k d') cur,rfl,h1,?_,h3,h4,h5,?_,?_⟩
 .rw [(nb d' m os hb).1,h2];rfl
 .simp [Go.Sort.putCells,h6]
 apply List.ext_getElem?;intro t
 by_cases ht:t<n*k
 .have hcs:t<cur.size:=by
   rw[h6];have:=Nat.mul_le_mul_right k h3;omega
  rw[List.getElem?_take_of_lt ht];have hk0:0<k:=by rcases Nat.eq_zero_or_pos k with h0|h0;rw[h0]at ht;omega;exact h0
  obtain⟨i,j,hj,rfl⟩:∃i j,j<k/\t=i*k+j:=⟨t / k,t % k,Nat.mod_lt _ hk0,by rw[Nat.mul_comm];exact(Nat.div_add_mod t k).symm⟩
  have hi:i<n:=by
   refine Nat.lt_of_not_le fun hle=>?_
   have:=Nat.mul_le_mul_right k hle;omega
  rw[K9 (cells:=fun t=>cells d'[t]!) (n:=n) (fun i _=>hk _) hi hj];have hf:=sY hk d' i j (by rw[hd];exact hi) hj;have hjl:j<((cells d'[i]!).map AV.den).length:=by rw[List.length_map,hk];exact hj
  rw[getElem!_pos _ j hjl]at hf;simp only[Array.getElem?_toList,Go.Sort.putCells,Array.getElem?_mapIdx,Array.getElem?_eq_getElem hcs,Option.map_some,Nat.zero_le,true_and,Nat.zero_add,Nat.sub_zero,size_flatK,hd,ht,if_true,id];rw[hf,List.getElem?_eq_getElem hjl]
 rw[List.getElem?_eq_none (by rw[List.length_take];omega),List.getElem?_eq_none (by rw[hlen];omega)]
theorem vQ{P:Program}{f:Nat}{fv:Value}{lt:α->α->Bool}(hk:∀x,(cells x).length=k)(hO:Own w B e k (.slice A n c) n (j8 (fun t=>cells (h t)) n))
  (hc:∀b (d:Array α),d.size=n->HoldsK (ib cells) k w b 0 d->b<w.heap.size->Calls P f #[.slice (some ⟨b,0,none⟩) d.size c,fv] w fun e w'=>e = .returned (.tuple #[])/\∃d' m os,Go.Sort.PermIn 0 d.size d d'/\Go.Sort.SortedIn lt 0 d.size d'/\w'=sortWorldK (ib cells) k w b 0 m d' os)
  (h0:n=0->Calls P f #[.slice A 0 c,fv] w fun e w'=>e = .returned (.tuple #[])/\w'=w) :
  Calls P f #[.slice A n c,fv] w fun e' w'=>e' = .returned (.tuple #[])/\∃h':Nat->α,((List.range n).map h').Perm ((List.range n).map h)/\(∀i j,i<j->j<n->lt (h' j) (h' i)=false)/\Own w' B e k (.slice A n c) n (j8 (fun t=>cells (h' t)) n)/\Chg (fun x=>o6 (.slice A n c)=some x) w w':=by
 rcases Nat.eq_zero_or_pos n with hn|hn
 .subst hn
  refine(h0 rfl).mono ?_
  rintro e' w' ⟨rfl,rfl⟩
  exact⟨rfl,h,.refl _,fun i j _ hj=>absurd hj (Nat.not_lt_zero _),hO,Chg.refl _ _⟩
 obtain⟨b,hA,O,hb,hH⟩:=om hk hO hn;have hsz:((List.range n).map h).toArray.size=n:=by simp
 have:=hc b _ hsz hH hb;rw[hsz,<-hA]at this;refine this.mono ?_
 rintro e' w' ⟨rfl,d',m,os,hp,hs,rfl⟩
 have hd:d'.size=n:=by rw[hp.1,hsz]
 refine⟨rfl,fun i=>d'[i]!,?_,fun i j hij hj=>hs i j (Nat.zero_le _) hij hj,wE hk hO hn hA hb d' hd m os,?_⟩
 .have h3:=hp.2.2
  have e1:(d'.extract 0 n).toList=(List.range n).map fun i=>d'[i]!:=by
   apply List.ext_getElem
   .simp [hd]
   intro i g1 g2;have hi:i<n:=by simpa using g2
   simp[getElem!_pos d' i (by rw[hd];exact hi)]
  have e2:(((List.range n).map h).toArray.extract 0 n).toList=(List.range n).map h:=by
   simp[List.take_of_length_le]
  rw[e1,e2]at h3;exact h3
 have hown:o6 (.slice A n c)=some b:=by
  obtain⟨b',hA',hb'⟩:=L8 hO hn;rw[hA]at hA';injection hA' with hA';injection hA' with hA'
  rw[hA'];exact hb'
 refine⟨rfl,rfl,rfl,?_,fun x hx hne=>(nb d' m os hb).2 x hx (fun e=>hne (by rw[e];exact hown))⟩;exact size_sortWorldK_c (ib cells) k w b 0 m d' os
end
theorem ut{m:Nat->Nat->Prop}{w:World}{B e k:Nat}{A:Option Addr}{n c:Nat}{f:Nat->List AV}(hO:Own w B e k (.slice A n c) n (j8 f n))(hk:∀i,i<n->(f i).length=k)(hm:∀b,o6 (.slice A n c)=some b->∀o,¬m b o)(h1:∀i,i<n->∀v∈f i,v.one=true/\Ok m w v)(g:Option Nat):Ok m w (.sl g A n c k f):=by
 obtain⟨A',c',he,h2,h3⟩:=hO.isSlice;injection he with e1 e2 e3;subst e3
 refine .sl _ _ _ _ _ _ h2 h3 hk (fun i hi=>?_) (fun i hi=>?_) (fun i hi v hv=>(h1 i hi v hv).1) (fun i hi v hv=>(h1 i hi v hv).2)
 .obtain ⟨b,hA,_⟩:=L8 hO (by omega)
  exact⟨b,0,hA⟩
 obtain⟨b,hA,hb⟩:=L8 hO (by omega);intro j u hu;have hj:j<k:=by
  have:=(List.getElem?_eq_some_iff.1 hu).1
  rwa[List.length_map,hk i hi]at this
 have hget:=K9 (cells:=f) hk hi hj;rw[hu]at hget;exact⟨b,0,hA,by rw[Nat.zero_add];exact M4 hO hb _ u hget,hm b hb _⟩
theorem b6.sorted{m0:Nat->Nat->Prop}{w0:World}{S:Nat->Prop}{ds:List Deferred}{K:Kn}{nt key:Nat}{t:Gr}{l l':List (Nat×AV)}{mem:List (Nat×Blk)}{a:Act}{w w':World}(h:b6 ⟨m0,w0,S,ds,K⟩ ⟨nt,l,[],mem,[(key,t)]⟩ a w)(hc:Chg (fun x=>o6 t.v=some x) w w')
  (hl:∀x,(look l' x).known=true->a.tmps[x]? = some (look l' x).den/\Ok (St.m ⟨nt,l',[],mem,[]⟩ ⟨m0,w0,S,ds,noK⟩) w' (look l' x)) (hm:∀k e,i6 mem k=some e->∀v∈e.cells,Ok (St.m ⟨nt,l',[],mem,[]⟩ ⟨m0,w0,S,ds,noK⟩) w' v):b6 ⟨m0,w0,S,ds,noK⟩ ⟨nt,l',[],mem,[]⟩ a w':=by
 have hlt:∀b,o6 t.v=some b->w0.heap.size<=b:=fun b hb=>by
  obtain⟨_,xs,ho⟩:=h.gr key t (by simp[i6]);exact(ho.lt b hb).1
 refine⟨h.size,h.defers,hl,(fun t p v hg=>by cases hg),fun k e he=>?_,h.nodup,(fun k t ht=>by cases ht),(fun k t k' e ht=>by cases ht),(fun k t k' t' b ht=>by cases ht),?_,h.m0,trivial⟩
 .obtain ⟨h1,h2,h3⟩:=h.mem k e he
  refine⟨?_,fun v hv=>⟨(h2 v hv).1,hm k e he v hv⟩,h3⟩;rw[hc.block _ (cp h1) (fun hb=>h.sepm key t k e (by simp[i6]) he hb)];exact h1
 exact h.chg.trans hc fun k hk hb=>absurd hk (Nat.not_lt.2 (hlt k hb))
theorem b6.notM{m0:Nat->Nat->Prop}{w0:World}{S:Nat->Prop}{ds:List Deferred}{K:Kn}{nt key:Nat}{t:Gr}{l l':List (Nat×AV)}{mem:List (Nat×Blk)}{a:Act}{w:World}(h:b6 ⟨m0,w0,S,ds,K⟩ ⟨nt,l,[],mem,[(key,t)]⟩ a w):∀b,o6 t.v=some b->∀o,¬St.m ⟨nt,l',[],mem,[]⟩ ⟨m0,w0,S,ds,noK⟩ b o:=by
 intro b hb o hm;obtain⟨_,xs,ho⟩:=h.gr key t (by simp[i6]);have h1:=(ho.lt b hb).1
 rcases hm with hm|⟨k,e,he,hm⟩|⟨k,t',ht,_⟩
 .exact absurd (h.m0 _ _ hm) (Nat.not_lt.2 h1)
 .subst hm
  exact h.sepm key t k e (by simp[i6]) he hb
 cases ht
end Go.Proofs.YtodelmejfpkicaaGreat.Sym
namespace Go.Proofs.YtodelmejfpkicaaGreat.Sym
open Go Go.RowKit
def mp(x y:Int):Int:=if x<y then -1 else if y<x then 1 else 0
theorem FI(x y:Int)(w:World):Calls Tryz.prog 86 #[.int .u64 x,.int .u64 y] w fun e w'=>e = .returned (.int .i64 (mp x y))/\w'=w:=by
 have hn:∀(x:Int) (w:World),Calls Tryz.prog 156 #[.int .u64 x] w fun e w'=>e = .returned (.bool false)/\w'=w:=by
  intro x w
  go_enter Tryz.func156,Tryz.ntmps156
  go_wp2_with fail
  go_ret
  simp
 unfold mp
 go_enter Tryz.func86,Tryz.ntmps86
 go_wp2_with (go_at_call 156;refine(hn _ _).mono ?_;rintro e w' ⟨rfl,rfl⟩)
 all_goals(go_ret;exact⟨rfl,rfl⟩)
theorem FJ(x y:Int)(w:World):Calls Tryz.prog 104 #[.int .i64 x,.int .i64 y] w fun e w'=>e = .returned (.int .i64 (mp x y))/\w'=w:=by
 have hn:∀(x:Int) (w:World),Calls Tryz.prog 168 #[.int .i64 x] w fun e w'=>e = .returned (.bool false)/\w'=w:=by
  intro x w
  go_enter Tryz.func168,Tryz.ntmps168
  go_wp2_with fail
  go_ret
  simp
 unfold mp
 go_enter Tryz.func104,Tryz.ntmps104
 go_wp2_with (go_at_call 168;refine(hn _ _).mono ?_;rintro e w' ⟨rfl,rfl⟩)
 all_goals(go_ret;exact⟨rfl,rfl⟩)
theorem IC(b:Nat)(x y:Int)(w:World)(h0:w.cell? ⟨b,0,none⟩=some (.int .i64 x))(h1:w.cell? ⟨b,1,none⟩=some (.int .i64 y)):Calls Tryz.prog 103 #[.slice (some ⟨b,0,none⟩) 2 2] w fun e w'=>e = .returned (.int .i64 (if x≠0 then x else y))/\w'=w:=by
 go_enter Tryz.func103,Tryz.ntmps103
 go_wp2_with fail
 refine wp_loop_rounds 3 ?_;simp only[Code.rounds]
 go_wp2_with fail
 all_goals(go_ret;first|exact⟨rfl,rfl⟩|(exfalso;simp_all;done)|(refine⟨?_,rfl⟩;simp_all;done))
def GrF(W w:World):Prop:=∃q os,w=Go.Sort.grow (W.drewN q) os
theorem GrF.refl(W:World):GrF W W:=⟨0,#[],by simp[Go.Sort.grow,World.drewN]⟩
theorem GrF.drew{W w:World}(h:GrF W w):GrF W w.drew:=by
 obtain⟨q,os,rfl⟩:=h;exact⟨q+1,os,rfl⟩
theorem GrF.alloc{W w:World}(h:GrF W w)(o:Obj):GrF W (w.alloc o):=by
 obtain⟨q,os,rfl⟩:=h;exact⟨q,os.push o,by simp[Go.Sort.grow,World.alloc,World.drewN]⟩
theorem GrF.size{W w:World}(h:GrF W w):W.heap.size<=w.heap.size:=by
 obtain⟨q,os,rfl⟩:=h;simp[Go.Sort.grow,World.drewN]
theorem rQ{w:World}{a:Addr}{u:Value}(h:w.cell? a=some u)(o:Obj):(w.alloc o).cell? a=some u:=by
 have hl:=World.block_lt_of_cell? w _ h;unfold World.cell? at h ⊢;rw[Below.heap_alloc _ _ _ hl];exact h
theorem nz{w:World}{a:Addr}{u:Value}(h:w.cell? a=some u):w.drew.cell? a=some u:=h
theorem wY(w:World)(x y:Value)(t:TypeId):(w.alloc (.cells #[x,y] t)).cell? ⟨w.heap.size,0,none⟩=some x:=cell_of_row _ _ 0 _ _ _ (heap_alloc_new w _)
theorem wX(w:World)(x y:Value)(t:TypeId):(w.alloc (.cells #[x,y] t)).cell? ⟨w.heap.size,1,none⟩=some y:=cell_of_row _ _ 1 _ _ _ (heap_alloc_new w _)
theorem size_alloc{n:Nat}{w:World}(h:n<=w.heap.size)(o:Obj):n<=(w.alloc o).heap.size:=by simp;omega
def lP(a b:Lab):Int:=if mp a.bits b.bits≠0 then mp a.bits b.bits else mp a.len b.len
end Go.Proofs.YtodelmejfpkicaaGreat.Sym
namespace Go.Proofs
open Go.Shelf
def Tryz.sortRow_ren:Go.Shelf.Ren:=⟨fun|6=>93|15=>159|14=>158|28=>224|29=>225|20=>216|21=>217|22=>218|23=>219|24=>220|25=>221|26=>222|27=>223|46=>271|47=>272|48=>273|49=>274|50=>275|57=>305|n=>n,fun|22=>46|24=>110|25=>142|3=>3|39=>183|0=>0|53=>26|55=>22|4=>4|46=>244|45=>243|50=>248|5=>5|9=>9|66=>285|70=>288|76=>308|77=>309|n=>n,fun|n=>n⟩
theorem Tryz.sortRow:Go.Proofs.SlLaysF0.n6 Tryz.prog Tryz.sortRow_ren:={
 mixed:=by kernel_rfl
 f6:=⟨Tryz.f93.name,by decide,Tryz.func93.trans (congrArg some (by kernel_rfl))⟩
 f14:=⟨Tryz.f158.name,by decide,Tryz.func158.trans (congrArg some (by kernel_rfl))⟩
 f15:=Tryz.func159.trans (congrArg some (by kernel_rfl))
 f20:=⟨Tryz.f216.name,by decide,Tryz.func216.trans (congrArg some (by kernel_rfl))⟩
 f21:=⟨Tryz.f217.name,by decide,Tryz.func217.trans (congrArg some (by kernel_rfl))⟩
 f22:=⟨Tryz.f218.name,by decide,Tryz.func218.trans (congrArg some (by kernel_rfl))⟩
 f23:=⟨Tryz.f219.name,by decide,Tryz.func219.trans (congrArg some (by kernel_rfl))⟩
 f24:=⟨Tryz.f220.name,by decide,Tryz.func220.trans (congrArg some (by kernel_rfl))⟩
 f25:=⟨Tryz.f221.name,by decide,Tryz.func221.trans (congrArg some (by kernel_rfl))⟩
 f26:=⟨Tryz.f222.name,by decide,Tryz.func222.trans (congrArg some (by kernel_rfl))⟩
 f27:=⟨Tryz.f223.name,by decide,Tryz.func223.trans (congrArg some (by kernel_rfl))⟩
 f28:=Tryz.func224.trans (congrArg some (by kernel_rfl))
 f29:=Tryz.func225.trans (congrArg some (by kernel_rfl))
 f46:=⟨Tryz.f271.name,by decide,Tryz.func271.trans (congrArg some (by kernel_rfl))⟩
 f47:=Tryz.func272.trans (congrArg some (by kernel_rfl))
 f48:=Tryz.func273.trans (congrArg some (by kernel_rfl))
 f49:=⟨Tryz.f274.name,by decide,Tryz.func274.trans (congrArg some (by kernel_rfl))⟩
 f50:=⟨Tryz.f275.name,by decide,Tryz.func275.trans (congrArg some (by kernel_rfl))⟩
 f57:=⟨Tryz.f305.name,by decide,Tryz.func305.trans (congrArg some (by kernel_rfl))⟩
 t0:=Tryz.underlying0
 a0:=Tryz.isAgg0
 z0:=Tryz.sizeOf0
 v0:=Tryz.zeroValue0
 t3:=Tryz.underlying3
 a3:=Tryz.isAgg3
 z3:=Tryz.sizeOf3
 v3:=Tryz.zeroValue3
 t4:=Tryz.underlying4
 a4:=Tryz.isAgg4
 z4:=Tryz.sizeOf4
 v4:=Tryz.zeroValue4
 t5:=Tryz.underlying5
 a5:=Tryz.isAgg5
 z5:=Tryz.sizeOf5
 v5:=Tryz.zeroValue5
 t9:=Tryz.underlying9
 a9:=Tryz.isAgg9
 z9:=Tryz.sizeOf9
 v9:=Tryz.zeroValue9
 t22:=Tryz.underlying46
 a22:=Tryz.isAgg46
 z22:=Tryz.sizeOf46
 v22:=Tryz.zeroValue46
 t25:=Tryz.underlying142
 a25:=Tryz.isAgg142
 z25:=Tryz.sizeOf142
 v25:=Tryz.zeroValue142
 t39:=Tryz.underlying183
 a39:=Tryz.isAgg183
 z39:=Tryz.sizeOf183
 v39:=Tryz.zeroValue183
 t45:=Tryz.underlying243
 a45:=Tryz.isAgg243
 z45:=Tryz.sizeOf243
 v45:=Tryz.zeroValue243
 t46:=Tryz.underlying244
 a46:=Tryz.isAgg244
 z46:=Tryz.sizeOf244
 v46:=Tryz.zeroValue244
 t50:=Tryz.underlying248
 a50:=Tryz.isAgg248
 z50:=Tryz.sizeOf248
 v50:=Tryz.zeroValue248
 t53:=Tryz.underlying26
 a53:=Tryz.isAgg26
 z53:=Tryz.sizeOf26
 v53:=Tryz.zeroValue26
 t55:=Tryz.underlying22
 a55:=Tryz.isAgg22
 z55:=Tryz.sizeOf22
 v55:=Tryz.zeroValue22
 t66:=Tryz.underlying285
 a66:=Tryz.isAgg285
 z66:=Tryz.sizeOf285
 v66:=Tryz.zeroValue285
 t70:=Tryz.underlying288
 a70:=Tryz.isAgg288
 z70:=Tryz.sizeOf288
 v70:=Tryz.zeroValue288
 t76:=Tryz.underlying308
 a76:=Tryz.isAgg308
 z76:=Tryz.sizeOf308
 v76:=Tryz.zeroValue308
 t77:=Tryz.underlying309
 a77:=Tryz.isAgg309
 z77:=Tryz.sizeOf309
 v77:=Tryz.zeroValue309 }
end Go.Proofs
namespace Go.Proofs.YtodelmejfpkicaaGreat.Sym
open Go Go.RowKit Go.Sort
instance : Inhabited G6 := ⟨qD⟩
def gJ(a b:Lab):Bool:=decide (lP a b<0)
theorem iU(a b:Lab):gJ a b=true↔a.bits<b.bits \/ (a.bits=b.bits/\a.len<b.len):=by
 unfold gJ lP mp;rw[decide_eq_true_iff]
 split<;>rename_i h<;>(repeat' split at h)<;>(repeat' split)<;>omega
theorem mX(a b:Lab):gJ a b=false ↔ ¬(a.bits<b.bits \/ (a.bits=b.bits/\a.len<b.len)):=by
 rw[<-iU];simp
def qo(x y:G6):Int:=lP x.lab y.lab
theorem lR(x y:G6):ltOf qo x y=gJ x.lab y.lab:=rfl
theorem DJ:SWO (ltOf qo):=by
 refine⟨fun x=>?_,fun x y z h1 h2=>?_,fun x y z h1 h2=>?_⟩
 .rw [lR,mX];omega
 .rw [lR,iU]at *;omega
 rw[lR,mX]at *;omega
end Go.Proofs.YtodelmejfpkicaaGreat.Sym
namespace Go.Proofs.YtodelmejfpkicaaGreat.Sym
open Go Go.RowKit
theorem wc(a b:G6)(W:World):Calls Tryz.prog 102 #[.agg ((Z1 a).map AV.den).toArray,.agg ((Z1 b).map AV.den).toArray] W fun e w'=>e = .returned (.int .i64 (lP a.lab b.lab))/\GrF W w':=by
 obtain⟨⟨al,ab⟩,av,⟨aA,ac,⟨an,af,ak,⟨anl,anb⟩,am⟩⟩⟩:=a;obtain⟨⟨bl,bb⟩,bv,⟨bA,bc,⟨bn,bf,bk,⟨bnl,bnb⟩,bm⟩⟩⟩:=b;simp only[Z1,List.map_cons,List.map_nil,AV.den,lP];have hU:=fun w=>FI ab bb w
 have hN:=fun w=>FJ al bl w
 generalize mp ab bb=x at hU ⊢
 generalize mp al bl=y at hN ⊢
 have hO:=fun b w h0 h1=>IC b x y w h0 h1
 generalize (if x≠0 then x else y)=r at hO ⊢
 go_enter Tryz.func102,Tryz.ntmps102
 go_wp2_with fail
 obtain⟨W5,hW5⟩:=eqv ((W.alloc (.cells #[.int .i64 al,.int .u64 ab,.int .u64 av,.int .i64 ak,.slice aA an ac,.int .i64 anl,.int .u64 anb,.int .u64 am] 110)).alloc (.cells #[.int .i64 bl,.int .u64 bb,.int .u64 bv,.int .i64 bk,.slice bA bn bc,.int .i64 bnl,.int .u64 bnb,.int .u64 bm] 110));have hG:GrF W W5:=by rw[hW5];exact((GrF.refl W).alloc _).alloc _
 have hs:W5.heap.size=W.heap.size+1+1:=by rw[hW5];simp
 have z0:W5.heap[W.heap.size]? = some (.cells #[.int .i64 al,.int .u64 ab,.int .u64 av,.int .i64 ak,.slice aA an ac,.int .i64 anl,.int .u64 anb,.int .u64 am] 110 (0,0)):=by
  rw[hW5,Below.heap_alloc _ _ _ (by simp)];exact heap_alloc_new W _
 have z1:W5.heap[W.heap.size+1]? = some (.cells #[.int .i64 bl,.int .u64 bb,.int .u64 bv,.int .i64 bk,.slice bA bn bc,.int .i64 bnl,.int .u64 bnb,.int .u64 bm] 110 (0,0)):=by
  have:=heap_alloc_new (W.alloc (.cells #[.int .i64 al,.int .u64 ab,.int .u64 av,.int .i64 ak,.slice aA an ac,.int .i64 anl,.int .u64 anb,.int .u64 am] 110)) (.cells #[.int .i64 bl,.int .u64 bb,.int .u64 bv,.int .i64 bk,.slice bA bn bc,.int .i64 bnl,.int .u64 bnb,.int .u64 bm] 110);rw[hW5];simpa using this
 have c0:W5.cell? ⟨W.heap.size,0,none⟩=some (.int .i64 al):=cell_of_row W5 _ 0 _ _ _ z0;have c1:W5.cell? ⟨W.heap.size,1,none⟩=some (.int .u64 ab):=cell_of_row W5 _ 1 _ _ _ z0;have c2:W5.cell? ⟨W.heap.size+1,0,none⟩=some (.int .i64 bl):=cell_of_row W5 _ 0 _ _ _ z1;have c3:W5.cell? ⟨W.heap.size+1,1,none⟩=some (.int .u64 bb):=cell_of_row W5 _ 1 _ _ _ z1;clear z0 z1;rw[<-hW5];clear hW5;clear hs
 go_region_held3 (fun w'=>w'.cell? ⟨W.heap.size,0,none⟩=some (.int .i64 al)/\w'.cell? ⟨W.heap.size,1,none⟩=some (.int .u64 ab)/\w'.cell? ⟨W.heap.size+1,0,none⟩=some (.int .i64 bl)/\w'.cell? ⟨W.heap.size+1,1,none⟩=some (.int .u64 bb)/\W5.heap.size<=w'.heap.size/\GrF W w')
  ((go_split_ands;(repeat' apply And.intro)<;>first|with_reducible assumption|with_reducible exact GrF.drew (by assumption)|with_reducible exact GrF.alloc (by assumption) _|with_reducible exact GrF.drew (GrF.alloc (by assumption) _)|with_reducible exact rQ (by assumption) _|with_reducible exact size_alloc (by assumption) _|go_keep))
  (first|(go_at_call 86;refine(hU _).mono ?_;rintro e w' ⟨rfl,rfl⟩)|(go_at_call 104;refine(hN _).mono ?_;rintro e w' ⟨rfl,rfl⟩)|(go_at_call 103;refine(hO _ _ (by first|exact wY _ _ _ _|exact nz (wY _ _ _ _)) (by first|exact wX _ _ _ _|exact nz (wX _ _ _ _))).mono ?_;rintro e w' ⟨rfl,rfl⟩))
 all_goals(go_wp2_with fail;go_ret;exact⟨rfl,by first|exact(hG.alloc _).drew|exact hG.alloc _⟩)
end Go.Proofs.YtodelmejfpkicaaGreat.Sym
namespace Go.Proofs.YtodelmejfpkicaaGreat.Sym
open Go Go.RowKit Go.Sort
theorem tX{n B e:Nat}{A:Option Addr}{c:Nat}{h:Nat->G6}{w:World}(hO:Own w B e 8 (.slice A n c) n (j8 (fun t=>Z1 (h t)) n))(hn:n<4611686018427387904) :
  Calls Tryz.prog 93 #[.slice A n c,.func (.func 102) #[] #[]] w fun e' w'=>e' = .returned (.tuple #[])/\∃h':Nat->G6,((List.range n).map h').Perm ((List.range n).map h)/\(∀i j,i<j->j<n->gJ (h' j).lab (h' i).lab=false)/\Own w' B e 8 (.slice A n c) n (j8 (fun t=>Z1 (h' t)) n)/\Chg (fun x=>o6 (.slice A n c)=some x) w w':=by
 refine vQ (cells:=Z1) (lt:=ltOf qo) (k:=8) (fun _=>rfl) hO (fun b d hd hH hb=>?_) (fun h0=>?_)
 .have eg:∀args w,(callFunc 102 args).run Tryz.prog w = .ok (.enter 102 args) w:=enters_of Tryz.func102 (by kernel_rfl) rfl
  have hcmp:CmpLays Tryz.prog 102 #[] (ib Z1) 8 qo b 0 d.size w:=by
   intro m os dk hdk x y;refine(wc x y _).mono ?_
   rintro e w' ⟨rfl,q,os',rfl⟩
   exact⟨rfl,q,os',rfl⟩
  have:=AnyQ.slices_SortFunc Tryz.sortRow 8 (fun _=>by kernel_rfl) (fun _=>by kernel_rfl) (ib Z1) (fun _=>rfl) (fun x v hv=>by
   simp only[ib,Z1,List.map_cons,List.map_nil,AV.den,List.mem_cons,List.not_mem_nil,or_false]at hv
   rcases hv with rfl|rfl|rfl|rfl|rfl|rfl|rfl|rfl<;>rfl) qo DJ 102 #[] b 0 c d w eg hcmp hH hb (by omega)
  exact this
 exact AnyF.slices_SortFunc_none (P:=Tryz.prog) (ρ:=Tryz.sortRow_ren) { Tryz.sortRow with } A c _ w
end Go.Proofs.YtodelmejfpkicaaGreat.Sym
namespace Go.Proofs.YtodelmejfpkicaaGreat.Sym
open Go Go.RowKit
section
variable {m0:Nat->Nat->Prop} {w0:World} {S:Nat->Prop} {ds:List Deferred} {K:Kn} {P:Program} {Q:Exit->Act->World->Prop} {ops:Array Oper} {s:St} {a:Act} {w:World} {L rest:List Oper} {o:Oper}
open Go.Maps in
theorem uF{it:Operand}{k:TypeId}{d b r n cnt:Nat}{D:DataW Value}{left:Lit->Bool}(hL:L=o::rest)(hg:o.guard=none)(hop:o.op = .next it false)(hdst:o.dst=some d)(h:b6 ⟨m0,w0,S,ds,K⟩ s a w)(hd:d<s.nt)(hit:val s [] it = .raw (.pointer (some ⟨r,0,none⟩)))
  (Kd:Keyed P k) (hM:w.ranges P k hR b r n D left cnt) (hC:r<w0.heap.size->S r)
  (K1:Bool->Value->Value->Lit->Nat->Kn) (hK0:∀m,K.p m w->(∀kl,left kl=false)->(K1 false (.bool false) (.bool false) (.bool false) 0).p m w) (hK1:∀key v kl cnt' m w',K.p m w->Z3 (some r) w m w' m->w'.ranges P k hR b r n D (fun x=>left x && !x.sameKey kl) cnt'->dJ P w' r key v->(K1 true key v kl cnt').p m w')
  (K':∀a' w' bb rest' key v kl cnt',(bb=false->∀kl,left kl=false)->(bb=true->Go.keyOf P k key=some kl/\left kl=true/\(∀zd,D.atKey kl zd = .held v)/\cnt'<cnt)->b6 ⟨m0,w0,S,ds,K1 bb key v kl cnt'⟩ (s.put (some d) (.tup (.bool (.v bb)::rest'))) a' w'->wpList P ops Q rest a' w'):wpList P ops Q L a w:=by
 have hiv:=(F0 h (q:=[]) (fun _ h=>by cases h) (x:=it) (by rw[hit];rfl)).1;rw[hit]at hiv;have hr0:∃o',w.heap[r]? = some o'/\∀c t f,o'≠Obj.cells c t f:=by
  obtain⟨es,clock,since,seen,c0,_,_,_,_,hr,_⟩:=hM;exact⟨_,hr,fun c t f e=>by cases e⟩
 obtain⟨o',hr,hro⟩:=hr0;refine bC hL hg ?_;unfold Oper.wp
 rcases hM.next Kd o.type with⟨h0,hl,hrun⟩|⟨key,v,kl,y,w',cnt',hkey,hlk,hv,hat,hrun,hrg,hlt,hgr,hsz,hen⟩
 .have e1:(execOp a.eval o).run P w = .ok (.value (.tuple #[.bool false])) w:=by simp[execOp,hop,hiv,hrun,Result.andThen,AV.den]
  rw[e1];simp only[Oper.upon];rw[hdst];exact K' _ _ false [] (.bool false) (.bool false) (.bool false) 0 (fun _=>hl) (fun h=>by cases h) ((h.withK (hK0 _ h.kept hl)).put (some d) (fun t ht=>by injection ht with ht;subst ht;exact hd) (.tup [.bool (.v false)]) (fun _=>.tup _ fun u hu=>by simp at hu;subst hu;exact .bool _) _ fun _=>rfl)
 have e1:(execOp a.eval o).run P w = .ok (.value (.tuple #[.bool true,key,v])) w':=by simp[execOp,hop,hiv,hrun,Result.andThen,AV.den]
 rw[e1];simp only[Oper.upon];rw[hdst];have hv':y.1 = .held v:=by unfold hR at hv;injection hv with hv;rw[<-hv]
 have hea:dJ P w' r key v:=by
  obtain⟨es,clock,since,seen,c0,hb',_,_,_,hr',_⟩:=hrg;exact⟨⟨_,_,_,_,_,_,hr',hb'⟩,hen⟩
 have h2:=h.turn hr hro hgr hC (hK1 key v kl cnt' _ _ h.kept (da hr hro hgr) hrg hea);refine K' _ _ true [.raw key,.raw v] key v kl cnt' (fun h=>by cases h) (fun _=>⟨hkey,hlk,fun zd=>(hat zd).trans hv',hlt⟩) (h2.put (some d) (fun t ht=>by injection ht with ht;subst ht;exact hd) (.tup [.bool (.v true),.raw key,.raw v]) (fun _=>.tup _ fun u hu=>?_) _ fun _=>rfl);simp only[List.mem_cons,List.not_mem_nil,or_false]at hu
 rcases hu with rfl|rfl|rfl
 .exact .bool _
 .exact .raw _
 exact .raw _
theorem wG{m:Nat->Nat->Prop}{w:World}{B e k:Nat}{g:Option Nat}{A:Option Addr}{n c:Nat}{f:Nat->List AV}{xs:List Value}(hO:Own w B e k (.slice A n c) n xs)(hk:Ok m w (.sl g A n c k f)):xs=j8 f n:=by
 cases hk with
 |sl _ _ _ _ _ _ h1 h2 h3 h4 h5 h6 h7=>
  have hl1:=hO.1;have hl2:=P9 (cells:=f) (k:=k) (n:=n) h3;apply List.ext_getElem
  .rw [hl1,hl2]
  intro t g1 g2;have ht:t<n*k:=by rw[hl1]at g1;exact g1
  have hk0:0<k:=by rcases Nat.eq_zero_or_pos k with h0|h0;rw[h0]at ht;omega;exact h0
  obtain⟨i,j,hj,rfl⟩:∃i j,j<k/\t=i*k+j:=⟨t / k,t % k,Nat.mod_lt _ hk0,by rw[Nat.mul_comm];exact(Nat.div_add_mod t k).symm⟩
  have hi:i<n:=by
   refine Nat.lt_of_not_le fun hle=>?_
   have:=Nat.mul_le_mul_right k hle;omega
  obtain⟨b,hA,hb⟩:=L8 hO (by omega);have e1:=M4 hO hb (i*k+j) _ (List.getElem?_eq_getElem g1);have hjl:j<((f i).map AV.den).length:=by rw[List.length_map,h3 i hi];exact hj
  obtain⟨b',off,hA',e2,_⟩:=h5 i hi j _ (List.getElem?_eq_getElem hjl);have hg:=K9 (cells:=f) h3 hi hj;rw[List.getElem?_eq_getElem g2,List.getElem?_eq_getElem hjl]at hg;rw[hA]at hA';injection hA' with hA';injection hA' with q1 q2
  subst q1;subst q2;rw[Nat.zero_add]at e2;rw[e1]at e2;injection e2 with e2
  injection hg with hg
  rw[e2,hg]
theorem qW{nt key d:Nat}{t:Gr}{l:List (Nat×AV)}{mem:List (Nat×Blk)}{c:Call}{g:Operand}{f:FuncId}{args:List AV}(hL:L=o::rest)(hg:o.guard=none)(hop:o.op = .call c)(hcal:c.callee = .value g)(hdst:o.dst=some d)(h:b6 ⟨m0,w0,S,ds,K⟩ ⟨nt,l,[],mem,[(key,t)]⟩ a w)(hgv:val ⟨nt,l,[],mem,[(key,t)]⟩ [] g = .fn f [] [])(hl:I1 ⟨nt,l,[],mem,[(key,t)]⟩ [] c.args.toList=some args)(hen:j6 P f)
  (R:World->Prop) (hc:Calls P f (args.map AV.den).toArray w fun e w'=>e = .returned (.tuple #[])/\R w'/\Chg (fun x=>o6 t.v=some x) w w')
  (K':∀w',R w'->Chg (fun x=>o6 t.v=some x) w w'->wpList P ops Q rest (a.put (some d) (.tuple #[])) w'):wpList P ops Q L a w:=by
 refine bC hL hg ?_;obtain⟨hrun,_⟩:=iu hop hcal h hgv hl hen;unfold Oper.wp;rw[hrun];simp only[Oper.upon];simp only[List.nil_append,List.append_nil];refine hc.mono ?_
 rintro e w' ⟨rfl,h1,h2⟩
 rw[hdst];exact K' w' h1 h2
end
def wl(D:DataW Value)(E:Adr)(b r:Nat)(L:Shf)(left:Lit->Bool)(cnt:Nat):Kn:=⟨fun m w=>ShD D E b L m w/\w.ranges Tryz.prog 24 hR b r L.length D left cnt,fun k h=>⟨h.1.keep k,eo k h.2⟩⟩
def Iz(D:DataW Value)(E:Adr)(b r:Nat)(L:Shf)(left:Lit->Bool)(bb:Bool)(key v:Value)(kl:Lit)(cnt:Nat):Kn:=⟨fun m w=>ShD D E b L m w/\(bb=true->w.ranges Tryz.prog 24 hR b r L.length D (fun x=>left x && !x.sameKey kl) cnt/\dJ Tryz.prog w r key v),fun k h=>⟨h.1.keep k,fun hb=>⟨eo k (h.2 hb).1,lF k (h.2 hb).2⟩⟩⟩
def IG(D:DataW Value)(E:Adr)(b r:Nat)(L:Shf)(left:Lit->Bool)(key v:Value)(cnt:Nat):Kn:=⟨fun m w=>ShD D E b L m w/\w.ranges Tryz.prog 24 hR b r L.length D left cnt/\dJ Tryz.prog w r key v,fun k h=>⟨h.1.keep k,eo k h.2.1,lF k h.2.2⟩⟩
theorem ShD.entry{D:DataW Value}{E:Adr}{b:Nat}{L:Shf}{m:Nat->Nat->Prop}{w:World}(h:ShD D E b L m w){key v:Value}{kl:Lit}(hk:Go.keyOf Tryz.prog 24 key=some kl)(hh:Maps.has D kl=true)(ha:∀zd,D.atKey kl zd = .held v):∃p∈L,G9 p.1=kl/\key=(f4 p.1).den/\v=(AV.agg (elC (elA E p.1 p.2))).den:=by
 obtain⟨p,hp,he⟩:=(h.has kl).1 hh;refine⟨p,hp,he,?_,?_⟩
 .exact fq.inj hk (he ▸ Y4 (h.labs p hp))
 have h1:=h.at_ p hp (.held v);rw[he,ha]at h1;injection h1
def kN(p:Lab×Spo):Rw:=⟨p.1,p.2.ver,p.2.r⟩
theorem kM(L:Shf):J0 L=(L.filter (fun p=>p.2.has)).map kN:=rfl
theorem qM(p:Lab×Spo)(L:Shf):J0 (p::L)=(if p.2.has then [kN p]else [])++J0 L:=by
 unfold J0;rw[List.filter_cons]
 split<;>rfl
theorem qL{L M:Shf}(h:L.Perm M):(J0 L).Perm (J0 M):=(h.filter _).map _
theorem mF(L:Shf):(J0 L).length<=L.length:=by
 rw[kM,List.length_map];exact List.length_filter_le _ _
theorem mC(l:Lab):(G9 l).sameKey (G9 l)=true:=by simp[G9,Lit.sameKey]
theorem pm{l l':Lab}(h:B2 l)(h':B2 l'):(G9 l).sameKey (G9 l')=decide (l=l'):=by
 by_cases he:l=l'
 .subst he;rw[mC,decide_eq_true rfl]
 rw[decide_eq_false he];have:G9 l≠G9 l':=fun e=>he (eB h h' e)
 unfold G9 at this ⊢;simp only[Lit.sameKey]
 simpa using this
theorem mW{left:Lit->Bool}{p:Lab×Spo}:∀{L:Shf},cU L->(∀q∈L,B2 q.1)->p∈L->left (G9 p.1)=true →
  (L.filter fun q=>left (G9 q.1)).Perm (p::L.filter fun q=>left (G9 q.1) && !(G9 q.1).sameKey (G9 p.1))
 |q::L,hr,hl,hp,h1=>by
  have hr':=List.pairwise_cons.1 hr
  rcases List.mem_cons.1 hp with rfl|hp
  .rw [List.filter_cons,if_pos h1,List.filter_cons,mC]
   simp only[Bool.not_true,Bool.and_false,Bool.false_eq_true,if_false];refine List.Perm.cons _ ?_;have:∀q∈L,(left (G9 q.1))=(left (G9 q.1) && !(G9 q.1).sameKey (G9 p.1)):=by
    intro q hq;rw[pm (hl q (by simp[hq])) (hl p (by simp)),decide_eq_false (fun e=>dv (hr'.1 q hq) e.symm)];simp
   rw[List.filter_congr this]
  have hne:q.1≠p.1:=dv (hr'.1 p hp);have ih:=mW hr'.2 (fun q hq=>hl q (by simp[hq])) hp h1;rw[List.filter_cons,List.filter_cons,pm (hl q (by simp)) (hl p (by simp[hp])),decide_eq_false hne];simp only[Bool.not_false,Bool.and_true]
  split
  .exact (List.Perm.cons _ ih).trans (List.Perm.swap _ _ _)
  exact ih
theorem mD{left:Lit->Bool}{p:Lab×Spo}{L:Shf}(hr:cU L)(hl:∀q∈L,B2 q.1)(hp:p∈L)(h1:left (G9 p.1)=true){R:List Rw}(h:(R++J0 (L.filter fun q=>left (G9 q.1))).Perm (J0 L)) :
  ((R++if p.2.has=true then [kN p]else [])++J0 (L.filter fun q=>left (G9 q.1) && !(G9 q.1).sameKey (G9 p.1))).Perm (J0 L):=by
 refine List.Perm.trans ?_ h;rw[List.append_assoc];refine List.Perm.append_left _ ?_;have:=qL (mW hr hl hp h1);rw[qM]at this;exact this.symm
theorem mE{L:Shf}{x:Rw}(h:x∈J0 L):∃p∈L,p.2.has=true/\kN p=x:=by
 rw[kM]at h;obtain⟨p,hp,he⟩:=List.mem_map.1 h;have:=List.mem_filter.1 hp;exact⟨p,this.1,this.2,he⟩
theorem pw{L:Shf}(h:cU L):(J0 L).Pairwise fun a b=>V0 a.lab b.lab=true:=by
 rw[kM,List.pairwise_map];exact(List.Pairwise.filter _ h)
theorem lp(a b:Lab):gJ a b=V0 a b:=by
 rw[Bool.eq_iff_iff,iU];simp[V0]
def Av(a b:Rw):Prop:=gJ b.lab a.lab=false
theorem pt{L:Shf}(hr:cU L){R:List Rw}(hp:R.Perm (J0 L))(hs:R.Pairwise Av):R=J0 L:=by
 refine List.Perm.eq_of_pairwise (le:=Av) ?_ hs ?_ hp
 .intro a b ha hb h1 h2
  have hl:a.lab=b.lab:=by
   unfold Av at h1 h2;rw[lp]at h1 h2
   rcases du a.lab b.lab with h|h|h
   .rw [h]at h2;cases h2
   .exact h
   rw[h]at h1;cases h1
  obtain⟨p,hp1,_,rfl⟩:=mE (hp.mem_iff.1 ha);obtain⟨q,hq1,_,rfl⟩:=mE hb;have e1:=cG hr hp1;have e2:=cG hr hq1;have hl':p.1=q.1:=hl;rw[hl',e2]at e1;injection e1 with e1
  have:p=q:=Prod.ext hl' e1.symm;rw[this]
 refine(pw hr).imp ?_;intro a b h;unfold Av;rw[lp]
 rcases hx:V0 b.lab a.lab with _|_
 .rfl
 have:=dt h hx;rw[pP]at this;cases this
theorem vZ{L:Shf}(hr:cU L){h h':Nat->G6}{k:Nat}(hp:(I2 h k).Perm (J0 L))(hp':((List.range k).map h').Perm ((List.range k).map h))(hs:∀i j,i<j->j<k->gJ (h' j).lab (h' i).lab=false):I2 h' k=J0 L:=by
 refine pt hr ?_ ?_
 .refine List.Perm.trans ?_ hp
  have:=hp'.map G6.abs;simp only[List.map_map]at this;exact this
 rw[List.pairwise_iff_getElem];intro i j hi hj hij;have hj':j<k:=by rw[R0]at hj;exact hj
 have hi':i<k:=by omega
 have e:∀t (g:t<(I2 h' k).length),t<k->(I2 h' k)[t]=(h' t).abs:=by
  intro t g ht;have:=mV G6.abs h' ht;rw[List.getElem?_eq_getElem g]at this;exact Option.some.inj this
 rw[e i hi hi',e j hj hj'];exact hs i j hij hj'
theorem uv{m:Nat->Nat->Prop}{w:World}{el:SpA}(h:Ok m w (.agg (elC el))):∀v∈Z1 el.w,v.one=true/\Ok m w v:=by
 cases h with
 |agg _ h1 h2=>
  intro v hv;simp only[Z1,List.mem_cons,List.not_mem_nil,or_false]at hv
  rcases hv with rfl|rfl|rfl|rfl|rfl|rfl|rfl|rfl
  .exact ⟨rfl,.int _ _⟩
  .exact ⟨rfl,.int _ _⟩
  .exact ⟨rfl,.int _ _⟩
  .exact ⟨rfl,.int _ _⟩
  .exact ⟨h1 _ (by simp[elC]),h2 _ (by simp[elC])⟩
  .exact ⟨rfl,.int _ _⟩
  .exact ⟨rfl,.int _ _⟩
  exact⟨rfl,.int _ _⟩
theorem tW{m:Nat->Nat->Prop}{w w1 w':World}{pre:List (Nat×Blk)}{ds:List Deferred}{K:Kn}{nt key:Nat}{t:Gr}{l l':List (Nat×AV)}{mem:List (Nat×Blk)}{a:Act}(h:b6 ⟨m,w,ats pre,ds,K⟩ ⟨nt,l,[],mem,[(key,t)]⟩ a w1)(hp:M3 m w pre)(hc:Chg (fun x=>o6 t.v=some x) w1 w'){v:AV}(hv:Ok m w v):Ok (St.m ⟨nt,l',[],mem,[]⟩ ⟨m,w,ats pre,ds,noK⟩) w' v:=by
 refine hv.mono fun b o u hcell hn=>?_
 have hlt:=World.block_lt_of_cell? w _ hcell;have hna:¬ats pre b:=by
  rintro⟨e,he,rfl⟩
  exact hn (hp.free e he o)
 have hown:o6 t.v≠some b:=by
  intro hb;obtain⟨_,xs,ho⟩:=h.gr key t (by simp[i6]);exact absurd hlt (Nat.not_lt.2 (ho.lt b hb).1)
 refine⟨?_,?_⟩
 .have e1:=h.chg.block b hlt hna
  have e2:=hc.block b (Nat.lt_of_lt_of_le hlt h.chg.size) hown;unfold World.cell? at hcell ⊢;rw[e2,e1];exact hcell
 rintro(h1|⟨k,e,he,h1⟩|⟨k,t',ht,_⟩)
 .exact hn h1
 .subst h1
  rcases(h.mem k e he).2.2 with h2|h2
  .exact absurd hlt (Nat.not_lt.2 h2)
  exact hna h2
 cases ht
theorem fA.re{P:Program}{K:Kn}{f:FuncId}{args args':List AV}{pre pre':List (Nat×Blk)}{res res':i8->AV}(h:fA P K f args pre res)(ha:E8 args' args)(hp:pre'.map (·.2)=pre.map (·.2))(hr:∀x,Sim (res x) (res' x)):fA P K f args' pre' res':=by
 intro m w h1 h2 h3 hI;rw[ha.map];refine(h m w h1 (ha.ok h2) (h3.re hp.symm) hI).mono ?_
 rintro e w' ⟨x,rfl,hok,hl⟩
 exact⟨x,by rw[(hr x).1],(hr x).2.2 _ _ hok,hl⟩
theorem Ay{m:Nat->Nat->Prop}{w:World}(x y:Int):Ok m w (.agg [.int .i64 x,.int .u64 y]):=by
 refine .agg _ (fun v hv=>?_) fun v hv=>?_
 .simp only[List.mem_cons,List.not_mem_nil,or_false]at hv
  rcases hv with rfl|rfl<;>rfl
 simp only[List.mem_cons,List.not_mem_nil,or_false]at hv
 rcases hv with rfl|rfl<;>exact .int _ _
theorem AQ(E:Adr)(p:Lab×Spo):(elA E p.1 p.2).w.abs=kN p:=by
 unfold elA G6.abs kN;simp only[U7]
theorem xN:j6 Tryz.prog 93:=fun _ _=>by kernel_rfl
theorem qK{D:DataW Value}{E:Adr}{b:Nat}{L:Shf}{m:Nat->Nat->Prop}{w:World}(h:ShD D E b L m w):(I2 (fun _=>qD) 0++J0 (L.filter fun q=>Maps.has D (G9 q.1))).Perm (J0 L):=by
 have:L.filter (fun q=>Maps.has D (G9 q.1))=L:=List.filter_eq_self.2 fun q hq=>(h.has _).2 ⟨q,hq,rfl⟩
 rw[this];exact List.Perm.refl _
theorem zC(b bM:Nat)(L:Shf)(hL:L.length<=100000)(k:Int):fA Tryz.prog (shK bM L) 44 [.ptr 0 b 0] [(0,⟨b,113,[.raw (.map (some bM)),.int .i64 k]⟩)] (fun y=>jl (y.A 0) (J0 L).length (y.c 0) (fl y (J0 L))):=by
 apply fA.of;intro m w hm hargs hpre hI;have hmx:maxLen=9223372036854775807:=rfl;obtain⟨D,E,hI1⟩:=hI;obtain⟨es0,cl0,hmap0,_⟩:=hI1.map;have hlt:bM<w.heap.size:=cp hmap0;have hI:(shD D E bM L).p m w:=hI1;refine enR 32 hm hpre hI hargs Tryz.func44 fun B O a0 Z=>?_
 refine wp_seq (rg O a6 [0] [0] [] Z fun X0 a0 w1 Z=>?_);refine wp_seq (wp_seq (rg O a6 [7,0] [0] [] Z fun X1 a0 w1 Z=>?_));refine j3 Z rfl (fun Z=>?_);refine wp_skip (wp_seq (rg O a6 [3,0] [0,3] [] Z fun X3 a0 w1 Z=>?_));refine wp_seq (wp_seq (wp_region_lit (lpr 0 4 O a6 [11,3] [0,3] [] Z fun X4_0 a0 w1 Z=>?_)));have hSh:ShD D E bM L _ _:=Z.kept;obtain⟨rr,hrr⟩:=eqv (w1.heap.size);refine uE rfl rfl rfl rfl Z (Nat.le_of_ble_eq_true rfl) rfl fq cI hSh.map (wl D E bM rr L (Maps.has D) (Maps.size D)) (fun m w' h1 h2 h3=>⟨h1.keep h2,by rw[hrr];exact h3⟩) ?_;rw[<-hrr];intro a0 w1 hfr Z;have hne:some rr≠some bM:=by
  intro e;injection e with e
  have:w.heap.size<=rr:=hfr;omega
 have Z:b6 ⟨m,w,ats [(0,⟨b,113,[.raw (.map (some bM)),.int .i64 k]⟩)],[],wl D E bM rr L (Maps.has D) (Maps.size D)⟩ ⟨32,[(3,.sl (some 3) none 0 0 8 (fun _=>[])),(12,.raw (.pointer (some ⟨rr,0,none⟩)))],[],[(0,⟨b,113,[.raw (.map (some bM)),.int .i64 k]⟩)],[(3,⟨none,0,0,8,110⟩)]⟩ a0 w1:=Z.keep [3,12] [0,3];replace Z:=Z.headS (v':=.sl (some 3) none 0 0 8 (fun t=>Z1 qD)) (zq0) rfl;refine wpList_nil (wp_block (eW (ι:=Nat×(Nat->G6)×Option Addr×Nat×(Lit->Bool)×Nat) (fun p=>wl D E bM rr L p.2.2.2.2.1 p.2.2.2.2.2) (fun p=>[(3,.sl (some 3) p.2.2.1 p.1 p.2.2.2.1 8 (fun t=>Z1 (p.2.1 t)))]) (fun p=>[]) (fun p=>[(3,⟨p.2.2.1,p.1,p.2.2.2.1,8,110⟩)]) (fun p=>(∀kl,p.2.2.2.2.1 kl=true->Maps.has D kl=true)/\(I2 p.2.1 p.1++J0 (L.filter fun q=>p.2.2.2.2.1 (G9 q.1))).Perm (J0 L)/\∀t,t<p.1->∃q∈L,p.2.1 t=(elA E q.1 q.2).w) (fun p=>p.2.2.2.2.2) (0,fun _=>qD,none,0,Maps.has D,Maps.size D) ⟨fun _ h=>h,qK hI,fun t ht=>absurd ht (Nat.not_lt_zero _)⟩ Z ?_))
 rintro⟨k1,h,A1,c1,left,cnt⟩ ⟨hlft,hprm,hels⟩ a0 w1 Z
 try dsimp only at hlft
 try dsimp only at hprm
 try dsimp only at hels
 replace Z:=Z.withK (K':=wl D E bM rr L left cnt) Z.kept;refine wp_seq (wp_region_lit (uF rfl rfl rfl rfl Z (Nat.le_of_ble_eq_true rfl) rfl fq Z.kept.2 (fun h=>absurd h (Nat.not_lt.2 hfr)) (Iz D E bM rr L left) (fun m h _=>⟨h.1,fun h=>by cases h⟩) (fun key v kl cnt' m w' h1 h2 h3 h4=>⟨h1.1.keepB h2 hne,fun _=>⟨h3,h4⟩⟩) ?_));intro a0 w1 bb rest' key v kl cnt' hn0 hn1 Z;refine lnd 1 O a6 [14,3,12] [0,3] [] Z fun X5 a0 w1 Z=>?_
 refine wp_seq (a7 Z rfl (fun hb Z=>?_) (fun hb Z=>?_))
 .have hbb:bb=true:=by subst O;exact hb
  obtain⟨hnx1,hnx2,hnx3,hnx4⟩:=hn1 hbb;replace Z:=Z.withK (K':=IG D E bM rr L (fun x=>left x && !x.sameKey kl) key v cnt') ⟨Z.kept.1,Z.kept.2 hbb⟩;obtain⟨hSh,hrg,hent⟩:=Z.kept;obtain⟨p,hp,hpk,hpkey,hpv⟩:=hSh.entry hnx1 (hlft _ hnx2) hnx3;have hok:=hSh.ok p hp;obtain⟨el,hel⟩:=eqv (elA E p.1 p.2);rw[<-hel]at hok hpv;have hel_has:el.has=p.2.has:=by rw[hel]
  have hkd:key=(AV.agg [.int .i64 el.w.lab.len,.int .u64 el.w.lab.bits]).den:=by rw[hel];exact hpkey
  refine wp_skip (wp_block (wp_seq (wp_region_lit ?_)));rw[hkd,hpv]at hent;refine uG rfl rfl rfl rfl Z (Nat.le_of_ble_eq_true rfl) rfl hent (Ay _ _) hok ?_;intro a0 Z;refine lnd 1 O a6 [3,12,4,5] [0,4,5,3] [] Z fun X6 a0 w1 Z=>?_
  replace Z:=Z.withK (K':=wl D E bM rr L (fun x=>left x && !x.sameKey kl) cnt') ⟨Z.kept.1,Z.kept.2.1⟩;refine wp_seq (rg O a6 [19,3,12,4,5] [0,4,5,3] [] Z fun X7 a0 w1 Z=>?_);apply a7 Z rfl<;>intro hb Z
  .have hhas:el.has=true:=by subst O;exact hb
   refine rg O a6 [3,12] [0,3] [] Z (hob:=?hob) fun X8 a0 w1 Z=>?_
   case hob=>
    intro X;have hkL:k1<=L.length:=by
     have h9:=hprm.length_eq;rw[List.length_append,R0]at h9;have:=mF L;omega
    subst O
    repeat(first|exact trivial|refine⟨⟨rfl,rfl,rfl⟩,?_⟩|refine⟨rfl,?_⟩|refine⟨⟨show k1+1<=maxLen by omega,show(k1+1)*_<=_ by omega⟩,?_⟩)
   replace Z:=Z.headS (v':=.sl (some 3) ((X8 8).A 0) (B.nadd k1 1) ((X8 8).c 0) 8 (fun t=>Z1 (if t=k1 then el.w else h t))) (Sim.resl rfl (fun t ht=>by
    subst O;have ht2:t<k1+1:=ht
    show P5 k1 (fun t=>Z1 (h t)) (Q4 8 (Z1 el.w)) t=_
    unfold P5
    split
    .rw [if_neg (by omega)]
    have:t=k1:=by omega
    subst this;rw[if_pos rfl];simp[Q4])) rfl
   refine⟨(k1+1,fun t=>if t=k1 then el.w else h t,_,_,(fun x=>left x && !x.sameKey kl),cnt'),⟨?_,?_,?_⟩,hnx4,by rw[show k1+1=B.nadd k1 1 by subst O;rfl];exact Z⟩
   .intro x hx
    simp only[Bool.and_eq_true]at hx;exact hlft _ hx.1
   .have h9:=mD hSh.ris hSh.labs hp (hpk ▸ hnx2) hprm
    rw[hpk,if_pos (by rw[<-hel_has];exact hhas)]at h9;have e9:I2 (fun t=>if t=k1 then el.w else h t) (k1+1)=I2 h k1 ++ [kN p]:=by
     show bE G6.abs _ (k1+1)=bE G6.abs h k1++_
     rw[lk];simp only[if_true]
     congr 1
     .unfold bE
      apply List.map_congr_left;intro t ht;have h5:=List.mem_range.1 ht
      show G6.abs (if t=k1 then el.w else h t)=_
      rw[if_neg (by omega)]
     rw[hel,AQ]
    simp only;rw[e9];exact h9
   intro t ht;simp only at ht ⊢
   by_cases he:t=k1
   .rw [if_pos he];exact⟨p,hp,by rw[hel]⟩
   rw[if_neg he];exact hels t (by omega)
  have hhas:¬el.has=true:=by subst O;rw[show el.has=false from hb];simp
  refine wp_skip (⟨(k1,h,A1,c1,(fun x=>left x && !x.sameKey kl),cnt'),⟨?_,?_,hels⟩,hnx4,Z.keep [3,12] [0,3]⟩)
  .intro x hx
   simp only[Bool.and_eq_true]at hx;exact hlft _ hx.1
  have h9:=mD hSh.ris hSh.labs hp (hpk ▸ hnx2) hprm;rw[hpk,if_neg (by rw[<-hel_has];exact hhas),List.append_nil]at h9;exact h9
 have hbb:bb=false:=by subst O;exact hb
 have hall:=hn0 hbb;replace Z:=Z.withK (K':=shD D E bM L) Z.kept.1;refine wp_exit (wp_seq (wp_region_lit (lpr 0 1 O a6 [29,3] [0,3] [] Z fun X9_0 a0 w1 Z=>?_)));have hSh:ShD D E bM L _ _:=Z.kept;have hprm2:(I2 h k1).Perm (J0 L):=by
  have e9:(L.filter fun q=>left (G9 q.1))=[]:=List.filter_eq_nil_iff.2 fun q _=>by rw[hall];simp
  rw[e9]at hprm
  simpa[J0]using hprm
 have hkL:k1<=L.length:=by
  have h9:=hprm2.length_eq;rw[R0]at h9;have:=mF L;omega
 obtain⟨_,xs,hO⟩:=Z.gr 3 ⟨A1,k1,c1,8,110⟩ rfl;have hs3:=Z.slot 3 rfl;have hk3:Ok _ w1 (.sl (some 3) A1 k1 c1 8 (fun t=>Z1 (h t))):=hs3.2;have hd3:a0.tmps[3]? = some (AV.sl (some 3) A1 k1 c1 8 (fun t=>Z1 (h t))).den:=hs3.1;have hfl:=wG hO hk3;rw[hfl]at hO;have hO:Own w1 w.heap.size 110 8 (.slice A1 k1 c1) k1 (j8 (fun t=>Z1 (h t)) k1):=hO;refine qW rfl rfl rfl rfl rfl Z rfl rfl xN (fun w'=>∃h':Nat->G6,((List.range k1).map h').Perm ((List.range k1).map h)/\(∀i j,i<j->j<k1->gJ (h' j).lab (h' i).lab=false)/\Own w' w.heap.size 110 8 (.slice A1 k1 c1) k1 (j8 (fun t=>Z1 (h' t)) k1)) ((tX hO (by omega)).mono ?_) ?_
 .rintro e w2 ⟨he,h',g1,g2,g3,g4⟩
  exact⟨he,⟨h',g1,g2,g3⟩,g4⟩
 rintro w2 ⟨h',g1,g2,g3⟩ g4
 have hfin:=vZ hSh.ris hprm2 g1 g2;have hF2:=b6.sorted Z g4 (l':=[(3,.sl none A1 k1 c1 8 (fun t=>Z1 (h' t)))]) (fun x hx=>?hl) (fun x e he v hv=>?hm)
 case hl=>
  by_cases hx3:x=3
  .subst hx3
   refine⟨hd3,ut g3 (fun _ _=>rfl) (b6.notM Z) (fun i hi=>?_) none⟩;have hmem:=g1.mem_iff.1 (List.mem_map.2 ⟨i,List.mem_range.2 hi,rfl⟩);obtain⟨j,hj,hje⟩:=List.mem_map.1 hmem;obtain⟨q,hq,hqe⟩:=hels j (List.mem_range.1 hj);rw[<-hje,hqe];exact uv (tW Z hpre g4 (hI.ok q hq))
  have:look [(3,AV.sl none A1 k1 c1 8 (fun t=>Z1 (h' t)))] x = .undef:=by rw[B8,if_neg (fun e=>hx3 e.symm)];rfl
  rw[this]at hx;cases hx
 case hm=>
  by_cases hx3:0=x
  .subst hx3
   simp only[i6,List.lookup,List.find?]at he;simp at he;subst he;simp only[List.mem_cons,List.not_mem_nil,or_false]at hv
   rcases hv with rfl|rfl
   .exact .raw _
   exact .int _ _
  rw[z6,if_neg hx3]at he;cases he
 have Z:b6 _ _ (a0.put (some 30) (.tuple #[])) w2:=hF2.put (some 30) (fun t ht=>by injection ht with ht;subst ht;exact Nat.le_of_ble_eq_true rfl) (.tup []) (fun _=>.tup _ fun u hu=>by cases hu) _ fun _=>rfl
 refine wpList_nil (wp_seq (rg O a6 [2] [0] [] Z fun X10 a0 w1 Z=>?_));refine wp_ret ((rx O a6 Z (rwY A1 c1 h' 0) [] (he:=?_) (hs:=?_)).1)
 .subst O;exact zu hfin
 exact⟨rfl,⟨_,rfl,zl⟩,trivial⟩
theorem vY(k0:Nat)(b bM:Nat)(L:Shf)(hL:L.length<=100000)(k:Int):fA Tryz.prog (shK bM L) 44 [.ptr k0 b 0] [(k0,⟨b,113,[.raw (.map (some bM)),.int .i64 k]⟩)] (fun y=>jl (y.A 0) (J0 L).length (y.c 0) (fl y (J0 L))):=
 (zC b bM L hL k).re (by repeat(first|exact trivial|refine⟨Sim.ptr,?_⟩|refine⟨Sim.fn ⟨Sim.ptr,trivial⟩ trivial,?_⟩|refine⟨Sim.fn trivial ⟨Sim.ptr,trivial⟩,?_⟩|refine⟨zr,?_⟩)) rfl (fun x=>zr)
theorem Sim.nils{g g':Option Nat}{k k':Nat}{f f':Nat->List AV}:Sim (.sl g none 0 0 k f) (.sl g' none 0 0 k' f'):=
 ⟨rfl,fun _=>rfl,fun _ _ _=>.sl _ _ _ _ _ _ (Nat.le_refl _) (Nat.zero_le _) (fun i hi=>absurd hi (Nat.not_lt_zero _)) (fun i hi=>absurd hi (Nat.not_lt_zero _)) (fun i hi=>absurd hi (Nat.not_lt_zero _)) (fun i hi=>absurd hi (Nat.not_lt_zero _)) (fun i hi=>absurd hi (Nat.not_lt_zero _))⟩
theorem xB(y:i8)(g:Got):(gQ y g).abs=g:=by
 unfold gQ r9.abs;simp only[U7]
section
variable (A:Option Addr) (n c:Nat) (f:Nat->G6) (hn:n<=maxLen) (hN:∀i,i<n->(f i).x.r.n<=1000000/\B2 (f i).lab/\U64 (f i).lab.bits/\U64 (f i).x.r.nx.bits)
include hn hN
theorem Aj(k0:Nat){L:Shf}(h:dS (I2 f n)=some L):P3 Tryz.prog 22 [jl A n c f] [] none noK (fun y=>⟨.tup [.ptr k0 y.b 0,.int .i64 0],[],[(k0,⟨y.b,113,[.raw (.map (some (y.c 0))),.int .i64 0]⟩)]⟩) (fun N y=>shF N (y.c 0) L):=by
 have:=De A n c f hn hN;rw[h]at this;exact this.re ⟨zr,trivial⟩ rfl fun x=>⟨rfl,rfl,Sim.tup ⟨Sim.ptr,zr,trivial⟩,rfl⟩
end
structure qx(L:Shf):Prop where
 ris:cU L
 len:L.length<=2000
 lab:∀p∈L,B2 p.1
theorem Fo{L:Shf}(h:qx L){w:Wnt}(hl:B2 w.lab):qx (doL L w).L:=by
 unfold doL
 split
 .split
  .exact h
  split
  .exact h
  split
  .exact h
  rename_i hf
  refine⟨eT h.ris,?_,fun p hp=>?_⟩
  .simp only
   rw[gz _ _ h.ris]
   split
   .exact h.len
   rename_i h1
   have:(C2 w.lab L).isNone=true:=by
    cases hx:C2 w.lab L with
    |none=>rfl
    |some x=>rw[hx]at h1;exact absurd rfl h1
   have:=fun h2=>hf ⟨this,h2⟩
   have h3:=h.len
   by_cases h4:2000<=L.length
   .exact absurd h4 this
   omega
  rcases eU hp with rfl|hp
  .exact hl
  exact h.lab p hp
 exact h
theorem sI:∀{l:List Rw} {L L':Shf},(∀r∈l,B2 r.lab)->cU L->(∀p∈L,B2 p.1)->L.length+l.length<=2000->ew l L=some L'->qx L'
 | [],L,L',_,h1,h2,h3,h=>by
  simp only[ew,Option.some.injEq]at h;subst h;exact⟨h1,by simp at h3;omega,h2⟩
 |r::l,L,L',hr,h1,h2,h3,h=>by
  unfold ew at h
  split at h
  .cases h
  refine sI (fun r hr'=>hr r (by simp[hr'])) (eT h1) (fun p hp=>?_) ?_ h
  .rcases eU hp with rfl|hp
   .exact hr r (by simp)
   exact h2 p hp
  rw[gz _ _ h1];simp only[List.length_cons]at h3
  split<;>omega
theorem Ak{l:List Rw}{L:Shf}(hr:∀r∈l,B2 r.lab)(h:dS l=some L):qx L:=by
 unfold dS at h
 split at h
 .cases h
 exact sI hr List.Pairwise.nil (fun p hp=>by cases hp) (by simp;omega) h
structure tM(p:Lab×Spo):Prop where
 ver:U64 p.2.ver
 r:Z0 p.2.r
structure lZ(L:Shf):Prop where
 ok:qx L
 sp:∀p∈L,tM p
theorem vE:U64 0:=⟨by decide,by decide⟩
theorem sS{r:Rec}(h:isR r=true):r.items.length<=16:=by
 have h2:D7 r.kind r.items.length (itF r.items) r.next r.mark=true:=by
  have h3:=gL r.rn;rw[U7]at h3;rw[h3]at h;exact h
 exact(E3 h2).2.2.1
theorem Dk(v:Int):U64 (inc v):=by
 unfold inc IntKind.wrap;simp only[IntKind.bits,IntKind.signed];unfold U64
 constructor
 .simp;omega
 simp;omega
theorem ng{l:Lab}{x:Spo}:∀{L:Shf},C2 l L=some x->∃p∈L,p.2=x
 | [],h=>by cases h
 |p::L,h=>by
  unfold C2 at h
  split at h
  .exact ⟨p,by simp,Option.some.inj h⟩
  obtain⟨q,hq,e⟩:=ng h;exact⟨q,by simp[hq],e⟩
theorem zf{L:Shf}(h:∀p∈L,tM p)(l:Lab):U64 (D6 L l).ver/\Z0 (D6 L l).r:=by
 unfold D6
 cases e:C2 l L with
 |none=>exact⟨vE,L7⟩
 |some x=>
  obtain⟨p,hp,rfl⟩:=ng e;exact⟨(h p hp).ver,(h p hp).r⟩
structure IN(w:Wnt):Prop where
 lab:B2 w.lab
 nx:U64 w.r.next.bits
 key:∀x∈w.r.items,U64 x.key
theorem yc{L:Shf}(h:lZ L){w:Wnt}(hw:IN w):lZ (doL L w).L/\U64 (doL L w).got.ver/\Z0 (doL L w).got.r:=by
 refine⟨⟨Fo h.ok hw.lab,?_⟩,?_⟩
 .unfold doL
  split
  .rename_i hg
   split
   .exact h.sp
   split
   .exact h.sp
   split
   .exact h.sp
   intro p hp
   rcases eU hp with rfl|hp
   .refine ⟨Dk _,?_⟩
    show Z0 (if w.kind=2 then w.r else i9)
    split
    .rename_i h2
     exact⟨hw.nx,sS (hg.2.2 h2),hw.key⟩
    exact L7
   exact h.sp p hp
  exact h.sp
 have hs:=zf h.sp w.lab;unfold doL
 split
 .split
  .exact hs
  split
  .exact ⟨hs.1,L7⟩
  split
  .exact ⟨vE,L7⟩
  exact⟨Dk _,L7⟩
 exact⟨vE,L7⟩
structure RwG(r:Rw):Prop where
 lab:B2 r.lab
 ver:U64 r.ver
 nx:U64 r.r.next.bits
 key:∀x∈r.r.items,U64 x.key
theorem mM:∀{l:List Rw} {L L':Shf},(∀r∈l,RwG r)->(∀p∈L,tM p)->ew l L=some L'->∀p∈L',tM p
 | [],L,L',_,h2,h=>by
  simp only[ew,Option.some.injEq]at h;subst h;exact h2
 |r::l,L,L',hr,h2,h=>by
  unfold ew at h
  split at h
  .cases h
  rename_i hc
  have hc2:isR r.r=true:=by
   simp only[Bool.or_eq_true,Bool.not_eq_true',not_or]at hc
   simpa using hc.2
  refine mM (fun r hr'=>hr r (by simp[hr'])) (fun p hp=>?_) h
  rcases eU hp with rfl|hp
  .have:=hr r (by simp)
   exact⟨this.ver,⟨this.nx,sS hc2,this.key⟩⟩
  exact h2 p hp
theorem iR{l:List Rw}{L:Shf}(hr:∀r∈l,RwG r)(h:dS l=some L):lZ L:=by
 refine⟨Ak (fun r hr'=>(hr r hr').lab) h,?_⟩;unfold dS at h
 split at h
 .cases h
 exact mM hr (fun p hp=>by cases hp) h
theorem EK{g:r9}{G:Got}(h:g.abs=G)(h1:U64 G.ver)(h2:Z0 G.r):InG g:=by
 subst h;refine⟨h2.nx,h1,?_,fun i hi=>?_⟩
 .have:=h2.few
  have e:g.x.r.abs.items.length=g.x.r.n:=i3 _ _
  show g.x.r.n<=maxLen
  have h3:g.x.r.abs.items.length<=16:=this;have:maxLen=9223372036854775807:=rfl;omega
 exact h2.key _ (List.mem_map.2 ⟨i,List.mem_range.2 hi,rfl⟩)
theorem LOk.wf{l:Lab}(h:LOk l):B2 l:=by
 obtain⟨h1,h2,_⟩:=r7 h.isl;have hb:=h.u;unfold U64 at hb
 constructor
 .simp [Lit.wf,IntKind.min,IntKind.max,IntKind.signed,IntKind.bits];omega
 simp[Lit.wf,IntKind.min,IntKind.max,IntKind.signed,IntKind.bits];omega
def lv(G:Got):r9:=⟨G.code,G.ver,G.has,⟨none,0,G.r.rn⟩⟩
abbrev eN(gs:List Got):Nat->r9:=fun j=>lv (gs.getD j U1)
abbrev qz:=Nat->(Nat->r9)->Wq×Int
def ErN(N:qz):Prop:=∀n f,N n f=N n (fun j=>(f j).er)
def oX(gs:List Got)(f:Nat->r9):Prop:=∀j,(f j).er=lv (gs.getD j U1)
theorem oX.nil:oX [] (fun _=>lv U1):=fun _=>rfl
theorem oX.next{N:qz}(hN:ErN N){gs:List Got}{f:Nat->r9}(h:oX gs f):N gs.length f=N gs.length (eN gs):=by
 rw[hN]
 congr 1
 funext j
 exact h j
theorem oX.add{gs:List Got}{f:Nat->r9}(h:oX gs f){g:r9}{G:Got}(hg:g.er=lv G):oX (gs ++ [G]) (fun j=>if j=gs.length then g else f j):=by
 intro j
 by_cases e:j=gs.length
 .simp only[if_pos e];rw[hg,e];congr 1;simp[List.getD]
 simp only[if_neg e];rw[h j];congr 1;simp only[List.getD_eq_getElem?_getD]
 by_cases hj:j<gs.length
 .rw [List.getElem?_append_left hj]
 rw[List.getElem?_eq_none (by omega),List.getElem?_eq_none (by simp;omega)]
structure IP where
 /-- 0: too many wants,1: refused,2: it is over,3: cut off,4: a want was not done -/
 st:Nat
 res:Rsl
 n:Nat
 err:Int
 L:Shf
 k:Int
def dV(w:Wq):Wnt:=⟨w.kind,w.lab,w.ver,w.r⟩
def W8(N:qz)(most:Int):Nat->List Got->Shf->Int->IP
 |0,gs,L,k=>⟨0,aJ,gs.length,0,L,k⟩
 |n+1,gs,L,k=>
  if(N gs.length (eN gs)).2≠0 then⟨1,aJ,gs.length,0,L,k⟩
  else if(N gs.length (eN gs)).1.kind=4 then⟨2,(N gs.length (eN gs)).1.res,gs.length,0,L,k⟩
  else if most<=gs.length then⟨3,aJ,gs.length,0,L,k⟩
  else if(doL L (dV (N gs.length (eN gs)).1)).err≠0 then⟨4,aJ,gs.length,(doL L (dV (N gs.length (eN gs)).1)).err,(doL L (dV (N gs.length (eN gs)).1)).L,if(doL L (dV (N gs.length (eN gs)).1)).wrote then IntKind.i64.wrap (k+1)else k⟩
  else W8 N most n (gs ++ [(doL L (dV (N gs.length (eN gs)).1)).got]) (doL L (dV (N gs.length (eN gs)).1)).L (if(doL L (dV (N gs.length (eN gs)).1)).wrote then IntKind.i64.wrap (k+1)else k)
section
variable {N:qz} {most:Int} {n:Nat} {gs:List Got} {L:Shf} {k:Int} {w:Wq} {e:Int}
theorem DV(h:N gs.length (eN gs)=(w,e))(he:e≠0):W8 N most (n+1) gs L k=⟨1,aJ,gs.length,0,L,k⟩:=by
 unfold W8;rw[h,if_pos he]
theorem zA(h:N gs.length (eN gs)=(w,0))(hk:w.kind=4):W8 N most (n+1) gs L k=⟨2,w.res,gs.length,0,L,k⟩:=by
 unfold W8;rw[h,if_neg (fun h=>h rfl),if_pos hk]
theorem zB(h:N gs.length (eN gs)=(w,0))(hk:¬w.kind=4)(hm:most<=gs.length):W8 N most (n+1) gs L k=⟨3,aJ,gs.length,0,L,k⟩:=by
 unfold W8;rw[h,if_neg (fun h=>h rfl),if_neg hk,if_pos hm]
theorem zy(h:N gs.length (eN gs)=(w,0))(hk:¬w.kind=4)(hm:¬most<=gs.length){D:Did}(hD:D=doL L (dV w))(he:D.err≠0):W8 N most (n+1) gs L k=⟨4,aJ,gs.length,D.err,D.L,if D.wrote then IntKind.i64.wrap (k+1)else k⟩:=by
 subst hD;unfold W8;rw[h,if_neg (fun h=>h rfl),if_neg hk,if_neg hm,if_pos he]
theorem DW(h:N gs.length (eN gs)=(w,0))(hk:¬w.kind=4)(hm:¬most<=gs.length){D:Did}(hD:D=doL L (dV w))(he:D.err=0):W8 N most (n+1) gs L k=W8 N most n (gs ++ [D.got]) D.L (if D.wrote then IntKind.i64.wrap (k+1)else k):=by
 subst hD
 conv=>lhs;unfold W8
 rw[h,if_neg (fun h=>h rfl),if_neg hk,if_neg hm,if_neg (fun h=>h he)]
end
theorem wW(b:Bool)(r:Rs Rsl):gF b (r.er id)=gF b r:=by
 unfold gF;rw[zc]
structure HS(N:qz):Prop where
 er:ErN N
 ok:∀n f,(∀j,j<n->InG (f j))->vt (N n f).1
theorem FO(k0 b:Nat)(J:i5)(hJ:j0 J)(A:Option Addr)(c:Nat)(p:Pst)(hp:f8 p)(hn:p.n<=1000000)(l:Lab)(v:Int):s8 164 k0 b J A c p [f4 l,.int .u64 v,pQ] (fun d=>.bool (.v d)) (N8 J.budget l v lm p):=
 s8.re (cS 0 b J hJ A c p hp hn l v ⟨none,0,lm.rn⟩) ⟨zr,zr,Sim.agg ⟨zr,I9,zr,zr,zr,trivial⟩,trivial⟩
theorem AO(b:Nat)(J:i5)(hJ:j0 J)(A:Option Addr)(c:Nat)(p:Pst)(hp:f8 p)(hn:p.n<=1000000)(key:Int)(hk:U64 key)(l:Lab)(hl:LOk l)(n:Nat)(hf:p.n<n):s8 194 0 b J A c p [.int .u64 key,f4 l] (L6) (C7 J.bucket J.budget key n l p):=by
 intro m w hm hargs hpre;refine enX 68 hm hpre hargs Tryz.func194 fun B O a0 Z=>?_
 refine wp_seq (rg O a6 [0,1,5,6] [0,5,6] [] Z fun X0 _ _ Z=>?_);refine wp_seq (rg O a6 [0,1,5,6,7] [0,5,6,7] [] Z fun X1 _ _ Z=>?_);refine wp_block (l4 (ι:=Nat×Pst×Option Addr×Nat×Lab) (fun q=>[]) (fun q=>[(0,⟨b,166,B9 J q.2.2.1 q.2.2.2.1 q.2.1⟩),(5,⟨(X0 0).b,24,[.int .i64 q.2.2.2.2.len,.int .u64 q.2.2.2.2.bits]⟩)]) (fun q=>[]) (fun q=>C7 J.bucket J.budget key n l p=C7 J.bucket J.budget key q.1 q.2.2.2.2 q.2.1/\f8 q.2.1/\q.2.1.n<=1000000/\q.2.1.n<q.1/\LOk q.2.2.2.2) (fun q=>q.1) (n,p,A,c,l) ⟨rfl,hp,hn,hf,hl⟩ Z ?_)
 rintro⟨nn,p0,A0,c0,l0⟩ ⟨hrun,hp0,hn0,hf0,hl0⟩ _ _ Z
 try dsimp only at hrun
 try dsimp only at hp0
 try dsimp only at hn0
 try dsimp only at hf0
 try dsimp only at hl0
 obtain⟨m0,rfl⟩:∃n2,nn=n2+1:=⟨nn-1,by omega⟩
 refine wp_block (wp_seq ?_)
 rcases(V6 0 b J hJ A0 c0 p0 hp0 hn0 l0).two (i7 _ _ _) hp0 hn0 with⟨w2,p2,hm2,O1⟩|⟨g2,p2,hm2,hs2,hp2,hn2,S2⟩
 .refine stp 2 O a6 [10,11] [0] [] Z O1 fun _ _ _ _ Z hk=>?_
  exact thm (P:=Tryz.prog) (fn:=Tryz.f194) (q:=p2) Z hk (by simp[hrun,C7,Rs.bind,hm2])
 have hl2:=u5 hm2;have hg2:=hp0.get hm2;have O1:=S2;refine rg O a6 [0,1,5,6,7,8] [0,5,6,7,8] [(2,rc J (u4 g2) p2)] Z fun X2 _ _ Z=>?_
 obtain⟨q3,hq3⟩:=eqv (gk g2 1);refine wp_seq (wp_block (wp_seq ?_));refine rg O a6 [13,0,1,5,6,7,8] [0,5,6,7,8,15] [(2,.r fun _=>.bool (.v q3))] Z (hob:=by intro X;subst O;simp only[b7,Ob.holds,BE.den]<;>and_intros<;>repeat first|trivial|rfl|exact(by rw[hq3];exact F4 g2 _ _ 1 _ rfl)|exact by rw[hq3];exact F4 g2 _ _ 1 _ rfl|exact(fun _ _=>by kernel_rfl)|refine⟨?_,?_⟩|intro h|exact Int.le_refl _|decide|omega) fun X3 _ _ Z=>?_
 apply a7 Z rfl<;>intro hb Z
 .have tq3:gk g2 1=true:=by rw[<-hq3];exact hb
  refine wp_seq (rg O a6 [6] [0,6] [] Z fun X4 _ _ Z=>?_);exact wp_ret ((rmm O a6 Z (v:=(⟨l0,g2⟩:Spt)) (q:=p2) ((X2 2).A 0) ((X2 2).c 0) (by simp[hrun,C7,Rs.bind,hm2,tq3])).1)
 have tq3:gk g2 1=false:=by rw[<-hq3];exact hb
 obtain⟨q5,hq5⟩:=eqv ((gk g2 3||gk g2 4));apply wp_seq;refine rg O a6 [20,0,1,5,6,7,8] [0,5,6,7,8,22] [(2,.r fun _=>.bool (.v q5))] Z (hob:=by intro X;subst O;simp only[b7,Ob.holds,BE.den]<;>and_intros<;>repeat first|trivial|rfl|exact(by rw[hq5];exact cu g2 _ _ 3 4 _ rfl rfl)|exact by rw[hq5];exact cu g2 _ _ 3 4 _ rfl rfl|exact(fun _ _=>by kernel_rfl)|refine⟨?_,?_⟩|intro h|exact Int.le_refl _|decide|omega) fun X5 _ _ Z=>?_
 apply a7 Z rfl<;>intro hb Z
 .have tq5:(gk g2 3||gk g2 4)=true:=by rw[<-hq5];exact hb
  apply wp_seq
  rcases(ta m0 0 b J hJ ((X2 2).A 0) ((X2 2).c 0) p2 hp2 hn2 l0 hl0 g2 hg2 (by have:=hl2;have:=hf0;omega)).two (F7 _ _ _ _ _ _) hp2 hn2 with⟨w6,p6,hm6,O1⟩|⟨v6,p6,hm6,hs6,hp6,hn6,S6⟩
  .refine stp 3 O a6 [24,25,26] [0] [] Z O1 fun _ _ _ _ Z hk=>?_
   exact thm (P:=Tryz.prog) (fn:=Tryz.f194) (q:=p6) Z hk (by simp[hrun,C7,Rs.bind,hm2,tq3,tq5,hm6])
  have O1:=S6;refine rg O a6 [0,1,5,6,7] [0,5,6,7] [(3,rc J (i4) p6)] Z fun X6 _ _ Z=>?_
  replace Z:=Z.keep [0,1,5,6,7] [0,5,6,7];exact wp_exit (⟨(m0,p6,_,_,l0),⟨by rw[hrun];simp[C7,Rs.bind,hm2,tq3,tq5,hm6],hp6,hn6,by dsimp only;have:=hf0;have:=hl2;have:=hs6.le;omega,hl0⟩,by simp only;omega,Z⟩)
 have tq5:(gk g2 3||gk g2 4)=false:=by rw[<-hq5];exact hb
 obtain⟨q7,hq7⟩:=eqv (gk g2 2);apply wp_seq;refine rg O a6 [28,0,1,5,6,7,8] [0,5,6,7,8] [(2,.r fun _=>.bool (.v q7))] Z (hob:=by intro X;subst O;simp only[b7,Ob.holds,BE.den]<;>and_intros<;>repeat first|trivial|rfl|exact(by rw[hq7];exact F4 g2 _ _ 2 _ rfl)|exact by rw[hq7];exact F4 g2 _ _ 2 _ rfl|exact(fun _ _=>by kernel_rfl)|refine⟨?_,?_⟩|intro h|exact Int.le_refl _|decide|omega) fun X7 _ _ Z=>?_
 apply a7 Z rfl<;>intro hb Z
 .have t7:(gk g2 2&&decide (l0.len<64))=true:=by subst O;rw[<-hq7];revert hb;cases q7<;>simp[std,a8]
  have h64:l0.len<64:=by simp at t7;exact t7.2
  have h0l:=(r7 hl0.isl).1;have S8:=Dh key (l0.len+1) hk;simp only[f4]at S8;have e1:IntKind.i64.wrap (l0.len+1)=l0.len+1:=o8 (by omega) (by omega);have hk8:=iP hk (l0.len+1);obtain⟨k,hk⟩:=eqv (ofV key (l0.len+1));rw[<-hk]at S8 hk8;obtain⟨ke,hke⟩:=eqv (ofE (l0.len+1));rw[<-hke]at S8;rw[<-e1]at S8;have O1:=S8;refine wp_seq (rg O a6 [0,1,5,6,7] [0,5,6,7] [(4,.r fun _=>.tup [.agg [.int .i64 k.len,.int .u64 k.bits],.int .i64 ke])] Z fun X8 _ _ Z=>?_);replace Z:=Z.keep [0,1,5,6,7] [0,5,6,7];exact wp_exit (⟨(m0,p2,_,_,k),⟨by rw[hrun];simp[C7,Rs.bind,hm2,tq3,tq5,t7,<-hk],hp2,hn2,by dsimp only;have:=hf0;have:=hl2;omega,hk8⟩,by simp only;omega,Z⟩)
 have t7:(gk g2 2&&decide (l0.len<64))=false:=by subst O;rw[<-hq7];revert hb;cases q7<;>simp[std,a8]
 obtain⟨q9,hq9⟩:=eqv (gk g2 5);apply wp_seq;refine rg O a6 [45,0,1,5,6,7,8] [0,5,6,7,8,47] [(2,.r fun _=>.bool (.v q9))] Z (hob:=by intro X;subst O;simp only[b7,Ob.holds,BE.den]<;>and_intros<;>repeat first|trivial|rfl|exact(by rw[hq9];exact F4 g2 _ _ 5 _ rfl)|exact by rw[hq9];exact F4 g2 _ _ 5 _ rfl|exact(fun _ _=>by kernel_rfl)|refine⟨?_,?_⟩|intro h|exact Int.le_refl _|decide|omega) fun X9 _ _ Z=>?_
 apply a7 Z rfl<;>intro hb Z
 .have tq9:gk g2 5=true:=by rw[<-hq9];exact hb
  rcases(CW m0 0 b J hJ ((X2 2).A 0) ((X2 2).c 0) p2 hp2 hn2 l0 hl0 (by have:=hl2;have:=hf0;omega)).two (E7 _ _ _ _ _) hp2 hn2 with⟨w10,p10,hm10,O1⟩|⟨v10,p10,hm10,hs10,hp10,hn10,S10⟩
  .refine stp 2 O a6 [49,50] [0] [] Z O1 fun _ _ _ _ Z hk=>?_
   exact thm (P:=Tryz.prog) (fn:=Tryz.f194) (q:=p10) Z hk (by simp[hrun,C7,Rs.bind,hm2,tq3,tq5,t7,tq9,hm10])
  have O1:=S10;refine rg O a6 [0,1,5,6,7] [0,5,6,7] [(2,rc J (i4) p10)] Z fun X10 _ _ Z=>?_
  refine rg O a6 [0,1,5,6,7] [0,5,6,7] [] Z fun X13 _ _ Z=>?_
  replace Z:=Z.keep [0,1,5,6,7] [0,5,6,7];exact⟨(m0,p10,_,_,D4),⟨by rw[hrun];simp[C7,Rs.bind,hm2,tq3,tq5,t7,tq9,hm10],hp10,hn10,by dsimp only;have:=hf0;have:=hl2;have:=hs10.le;omega,R5⟩,by simp only;omega,Z⟩
 have tq9:gk g2 5=false:=by rw[<-hq9];exact hb
 apply wp_seq;refine rg O a6 [52,0,1,5,6,7,8] [0,5,6,7,8] [] Z (hob:=by intro X;subst O;simp only[b7,Ob.holds,BE.den]<;>and_intros<;>repeat first|trivial|rfl|exact f7 (Kk:=noK) _ _ _ _|exact(fun _ _=>by kernel_rfl)|refine⟨?_,?_⟩|intro h|exact Int.le_refl _|decide|omega) fun X11 _ _ Z=>?_
 apply a7 Z rfl<;>intro hb Z
 .have t11:(!g2.has&&decide (l0=D4))=true:=by
   have h9:(if(!g2.has)=true then eqL [.int .i64 l0.len,.int .u64 l0.bits] [.int .i64 0,.int .u64 0]else false)=true:=by subst O;exact hb
   rw[show eqL [.int .i64 l0.len,.int .u64 l0.bits] [.int .i64 0,.int .u64 0]=decide (l0=D4)from ap l0 D4]at h9;rw[<-h9];cases g2.has<;>rfl
  rcases(FO 0 b J hJ ((X2 2).A 0) ((X2 2).c 0) p2 hp2 hn2 D4 g2.ver).two (l5 _ _ _ _ _) hp2 hn2 with⟨w12,p12,hm12,O1⟩|⟨d12,p12,hm12,hs12,hp12,hn12,S12⟩
  .have O2:=xp
   refine kC 5 O a6 [61,62,64,65] [0] [(4,.r fun _=>pQ)] Z O1 fun _ _ _ _ Z hk=>?_
   exact thm (P:=Tryz.prog) (fn:=Tryz.f194) (q:=p12) Z hk (by simp[hrun,C7,Rs.bind,hm2,tq3,tq5,t7,tq9,t11,hm12])
  have O1:=xp;have O2:=S12;refine drg O a6 [0,1,5,6,7] [0,5,6,7] [(4,.r fun _=>pQ),(5,rc J (.bool (.v d12)) p12)] Z fun X12 _ _ Z=>?_
  refine rg O a6 [0,1,5,6,7] [0,5,6,7] [] Z fun X13 _ _ Z=>?_
  replace Z:=Z.keep [0,1,5,6,7] [0,5,6,7];exact⟨(m0,p12,_,_,D4),⟨by rw[hrun];simp[C7,Rs.bind,hm2,tq3,tq5,t7,tq9,t11,hm12],hp12,hn12,by dsimp only;have:=hf0;have:=hl2;have:=hs12.le;omega,R5⟩,by simp only;omega,Z⟩
 have t11:(!g2.has&&decide (l0=D4))=false:=by
  have h9:(if(!g2.has)=true then eqL [.int .i64 l0.len,.int .u64 l0.bits] [.int .i64 0,.int .u64 0]else false)=false:=by subst O;exact hb
  rw[show eqL [.int .i64 l0.len,.int .u64 l0.bits] [.int .i64 0,.int .u64 0]=decide (l0=D4)from ap l0 D4]at h9;rw[<-h9];cases g2.has<;>rfl
 refine wp_skip (rg O a6 [0,1,5,6,7] [0,5,6,7] [] Z fun X13 _ _ Z=>?_);replace Z:=Z.keep [0,1,5,6,7] [0,5,6,7];exact⟨(m0,p2,_,_,D4),⟨by rw[hrun];simp[C7,Rs.bind,hm2,tq3,tq5,t7,tq9,t11],hp2,hn2,by dsimp only;have:=hf0;have:=hl2;omega,R5⟩,by simp only;omega,Z⟩
theorem xE(k0 b:Nat)(J:i5)(hJ:j0 J)(A:Option Addr)(c:Nat)(p:Pst)(hp:f8 p)(hn:p.n<=1000000)(key:Int)(hk:U64 key)(l:Lab)(hl:LOk l)(n:Nat)(hf:p.n<n):s8 194 k0 b J A c p [.int .u64 key,f4 l] (L6) (C7 J.bucket J.budget key n l p):=s8.re (AO b J hJ A c p hp hn key hk l hl n hf) (by repeat(first|exact trivial|refine⟨zr,?_⟩))
theorem Ew(b:Nat)(J:i5)(hJ:j0 J)(A:Option Addr)(c:Nat)(p:Pst)(hp:f8 p)(hn:p.n<=1000000)(key:Int)(hk:U64 key)(n:Nat)(hf:p.n<n):s8 207 0 b J A c p [.int .u64 key] (L6) (C7 J.bucket J.budget key n D4 p):=by
 intro m w hm hargs hpre;refine enX 9 hm hpre hargs Tryz.func207 fun B O a0 Z=>?_
 refine wp_seq (rg O a6 [0,1,4] [0,4] [] Z fun X0 a0 w1 Z=>?_);apply wp_seq
 rcases(xE 0 b J hJ A c p hp hn key hk D4 R5 n hf).two (J5 _ _ _ _ _ _) hp hn with⟨w1,p1,hm1,O1⟩|⟨s1,p1,hm1,hs1,hp1,hn1,S1⟩
 .refine stp 3 O a6 [5,6,7] [0] [] Z O1 fun _ _ _ _ Z hk=>?_
  exact thm (P:=Tryz.prog) (fn:=Tryz.f207) (q:=p1) Z hk (by simp[Rs.bind,hm1])
 have O1:=S1;refine rg O a6 [4] [0,4] [(3,rc J (L6 s1) p1)] Z fun X1 a0 w1 Z=>?_
 exact wp_ret ((rmm O a6 Z (v:=s1) (q:=p1) ((X1 3).A 0) ((X1 3).c 0) (by simp[Rs.bind,hm1])).1)
theorem Di(k0 b:Nat)(J:i5)(hJ:j0 J)(A:Option Addr)(c:Nat)(p:Pst)(hp:f8 p)(hn:p.n<=1000000)(key:Int)(hk:U64 key)(n:Nat)(hf:p.n<n):s8 207 k0 b J A c p [.int .u64 key] (L6) (C7 J.bucket J.budget key n D4 p):=s8.re (Ew b J hJ A c p hp hn key hk n hf) (by repeat(first|exact trivial|refine⟨zr,?_⟩))
section
variable {C:Cx} {P:Program} {Q:Exit->Act->World->Prop} {T:List (Nat×TI)} {s:St} {a:Act} {w:World} {B:Alg} {f:FuncId} {k:Nat} {blk:Blk} {ty:Nat} {v:i8->AV} {sets:i8->List (Nat×List AV)} {args':List AV} {id:Nat} {all L rest:List Oper} {R:Alg->(Nat->i8)->St×List Ob} {o:Oper} {c:Call} {g:Operand} {l r args:(Nat->i8)->List AV}
theorem stl(i n:Nat)(O:B=std)(hT:o3 P T)(kp km:List Nat)(cs:List (Nat×CS))(h:b6 C s a w)(hsp:V7 P f args' [(k,blk)] (fun x=>.thr ty (v x) (sets x)))
  (K:∀X x a w',b6 C ((R B X).1.eff (.sets (upd [(k,blk)] (sets x)))) a w'->Ok (((R B X).1.eff (.sets (upd [(k,blk)] (sets x)))).m C) w' (v x)->Q (.panic [{ v:=.iface ty (v x).den,recovered:=false }]) a w')
  (hex:∀A X,(K4 A T cs X all (l9 i (L.take n)) s).map (fun r=>(r.1.keep kp km,r.2.1))=some (R A X):=by intro A X;conv=>lhs;cbv) (hob:∀X,b7 P C.K (R B X).2:=by
   intro X;subst O
   first
   |exact trivial
   |(simp only[b7,Ob.holds,BE.den]<;>and_intros<;>(repeat first|trivial|rfl|exact O1|exact O2|exact O3|exact(fun _ _=>by kernel_rfl)|exact O1 _ _ _ rfl|exact O2 _ _ _ rfl|refine⟨?_,?_⟩|intro h|decide|omega)<;>done)
   |(simp[b7,Ob.holds,BE.den,std,a8,o9]<;>omega))
  (hL:L.drop n=o::rest:=by rfl) (hop:o.op = .call c:=by rfl) (hcal:c.callee = .value g:=by rfl) (hg:∀X,rz all (R B X).1 o=true:=by intro X;rfl) (hgv:∀X,val (R B X).1 [] g = .fn f (l X) (r X):=by intro X;rfl) (hl:∀X,I1 (R B X).1 [] c.args.toList=some (args X):=by intro X;rfl) (hsim:∀X,E8 (l X++args X++r X) args':=by intro X;subst O;exact zl)
  (hpre:∀X,i6 (R B X).1.mem k=some blk:=by intro X;rfl) (hd:∀X,gN (R B X).1 o.dst=true:=by intro X;rfl) (hen:j6 P f:=by exact fun _ _=>by kernel_rfl):wpList P all.toArray Q L a w:=
 eX i n O hT kp km cs h hex hob fun X a1 w1 Z=>cJ hL (hg X) hop hcal Z (hgv X) (hl X) hen hsp (hsim X) (fp (hpre X)) rfl (hd X) fun x w' Z hok=>K X x _ w' Z hok
end
theorem Sim.of_int{k:IntKind}{x y:Int}(h:x=y):Sim (.int k x) (.int k y):=h ▸ zr
theorem HM(f:Nat->Int)(v:Int):dI 3 f v=(decide (f 0=v)||decide (f 1=v)||decide (f 2=v)):=by
 show(decide (f 0=v)||(decide (f 1=v)||(decide (f 2=v)||false)))=_
 rw[Bool.or_false,Bool.or_assoc]
theorem ID(g:r9)(A:Option Addr)(k k2 k3:Int)(f:Nat->Int)(h0:f 0=k)(h1:f 1=k2)(h2:f 2=k3):k7 Tryz.prog 163 [u4 g,.sl none A 3 3 1 (fun i=>[.int .i64 (f i)])] (fun _=>.bool (.v (gk g k||gk g k2||gk g k3))):=by
 intro m w hm hargs;have S:=oI A 3 3 f g.x.r.kd;obtain⟨q,hq⟩:=eqv (dI 3 f g.x.r.kd);rw[<-hq]at S;refine en 14 hm hargs Tryz.func163 fun B O a0 Z=>?_
 refine wp_seq (rg O a6 [1,2] [2] [] Z fun X0 _ _ Z=>?_);have O1:=S;refine wp_seq (rg O a6 [4] [] [(7,.r fun _=>.bool (.v q))] Z fun X1 _ _ Z=>?_);refine wp_ret ((rsi O a6 Z f9 (he:=?_)));subst O;refine Sim.bool ?_
 show(if g.has=true then q else false)=_
 rw[hq,HM,h0,h1,h2];unfold gk;simp only[tq g.x.r.kd];cases g.has<;>rfl
theorem Dj(g:r9)(G:Option Nat)(A:Option Addr)(k k2 k3:Int)(cells:Nat->List AV)(h0:cells 0=[.int .i64 k])(h1:cells 1=[.int .i64 k2])(h2:cells 2=[.int .i64 k3]):k7 Tryz.prog 163 [u4 g,.sl G A 3 3 1 cells] (fun _=>.bool (.v (gk g k||gk g k2||gk g k3))):=
 (ID g A k k2 k3 (fun i=>if i=0 then k else if i=1 then k2 else k3) rfl rfl rfl).sim ⟨zr,Sim.recell (fun i hi=>by
  match i,hi with
  |0,_=>rw[h0];rfl
  |1,_=>rw[h1];rfl
  |2,_=>rw[h2];rfl),trivial⟩
theorem Ex(b:Nat)(J:i5)(hJ:j0 J)(A:Option Addr)(c:Nat)(p:Pst)(hp:f8 p)(hn:p.n<=1000000)(l:Lab)(hl:LOk l)(n:Nat)(hf:p.n<n):s8 281 0 b J A c p [f4 l] (fun b:Bool=>.bool (.v b)) (bF J.bucket J.budget n l p):=by
 intro m w hm hargs hpre;have SP:=wD l hl.u;simp only[f4]at SP;obtain⟨up,hup⟩:=eqv (F8 l);rw[<-hup]at SP;obtain⟨ue,hue⟩:=eqv (G2 l);rw[<-hue]at SP;refine enX 25 hm hpre hargs Tryz.func281 fun B O a0 Z=>?_
 refine wp_seq (rg O a6 [0,3] [0,3] [] Z fun X0 _ _ Z=>?_);have O1:=SP;refine wp_seq (rg O a6 [0,3,5,6] [0,3,5] [(1,.r fun _=>.tup [.agg [.int .i64 up.len,.int .u64 up.bits],.int .i64 ue])] Z fun X1 _ _ Z=>?_);refine wp_seq (wp_seq ?_)
 rcases Bool.eq_false_or_eq_true (decide (ue=0))with t8|t8
 .have t9:=of_decide_eq_true t8
  refine wp_region_lit (lpr 0 3 O a6 [14,0,3,5] [0,3,5] [] Z fun X2_0 _ _ Z=>?_);replace Z:=Z.headS (v':=.bool .ff) (Sim.bool (by subst O;have h9:=t8;simp[std,a8,BE.den]at h9 ⊢;exact h9)) rfl
  rcases(V6 0 b J hJ A c p hp hn up).two (i7 _ _ _) hp hn with⟨w2,p2,hm2,O1⟩|⟨q2,p2,hm2,hs2,hp2,hn2,S2⟩
  .refine stl 3 2 O a6 [14,15,16] [0] [] Z O1 fun _ _ _ _ Z hk=>?_
   exact thm (P:=Tryz.prog) (fn:=Tryz.f281) (q:=p2) Z hk (by simp[bF,<-hup,<-hue,Rs.bind,t8,t9,hm2])
  have hl2:=u5 hm2;have hg2:=hp.get hm2;obtain⟨r2,hr2⟩:=eqv ((gk q2 2||gk q2 3||gk q2 4));refine lnd 3 O a6 [21,0,3] [0,3] [(7,.r fun _=>.bool (.v r2)),(5,rc J (u4 q2) p2)] Z (hob:=by intro X;subst O;simp only[b7,Ob.holds,BE.den]<;>and_intros<;>repeat first|trivial|rfl|exact S2|exact(by rw[hr2];exact Dj q2 _ _ 2 3 4 _ rfl rfl rfl)|exact by rw[hr2];exact Dj q2 _ _ 2 3 4 _ rfl rfl rfl|exact(fun _ _=>by kernel_rfl)|refine⟨?_,?_⟩|intro h|exact Int.le_refl _|decide|omega) fun X2 _ _ Z=>?_
  apply a7 Z rfl<;>intro hb Z
  .have tr:(gk q2 2||gk q2 3||gk q2 4)=false:=by subst O;rw[<-hr2];revert hb;cases r2<;>simp[std]
   refine wp_seq (rg O a6 [4] [0] [] Z fun X3 _ _ Z=>?_);exact wp_ret ((rmm O a6 Z (v:=true) (q:=p2) ((X2 5).A 0) ((X2 5).c 0) (by simp[bF,<-hup,<-hue,Rs.bind,t8,t9,hm2,tr])).1)
  have tr:(gk q2 2||gk q2 3||gk q2 4)=true:=by subst O;rw[<-hr2];revert hb;cases r2<;>simp[std]
  refine wp_skip (wp_seq ?_)
  rcases(CW n 0 b J hJ ((X2 5).A 0) ((X2 5).c 0) p2 hp2 hn2 l hl (by have:=hs2.le;omega)).two (E7 _ _ _ _ _) hp2 hn2 with⟨w4,p4,hm4,O1⟩|⟨v4,p4,hm4,hs4,hp4,hn4,S4⟩
  .refine stp 2 O a6 [22,23] [0] [] Z O1 fun _ _ _ _ Z hk=>?_
   exact thm (P:=Tryz.prog) (fn:=Tryz.f281) (q:=p4) Z hk (by simp[bF,<-hup,<-hue,Rs.bind,t8,t9,hm2,tr,hm4])
  have O1:=S4;refine rg O a6 [] [0] [(2,rc J (i4) p4)] Z fun X4 _ _ Z=>?_
  refine wp_seq (rg O a6 [4] [0] [] Z fun X5 _ _ Z=>?_);exact wp_ret ((rmm O a6 Z (v:=false) (q:=p4) ((X4 2).A 0) ((X4 2).c 0) (by simp[bF,<-hup,<-hue,Rs.bind,t8,t9,hm2,tr,hm4])).1)
 have t9:=of_decide_eq_false t8;refine wp_region_lit (lpr 0 3 O a6 [14,0,3,5] [0,3,5] [] Z fun X2_0 _ _ Z=>?_);replace Z:=Z.headS (v':=.bool .tt) (Sim.bool (by subst O;have h9:=t8;simp[std,a8,BE.den]at h9 ⊢;exact h9)) rfl;refine lnd 3 O a6 [21,0,3] [0,3] [] Z fun X2 _ _ Z=>?_
 refine j1 Z rfl (fun Z=>?_);refine wp_seq (rg O a6 [4] [0] [] Z fun X3 _ _ Z=>?_);exact wp_ret ((rmm O a6 Z (v:=true) (q:=p) A c (by simp[bF,<-hup,<-hue,Rs.bind,t8,t9])).1)
theorem Hg(k0 b:Nat)(J:i5)(hJ:j0 J)(A:Option Addr)(c:Nat)(p:Pst)(hp:f8 p)(hn:p.n<=1000000)(l:Lab)(hl:LOk l)(n:Nat)(hf:p.n<n):s8 281 k0 b J A c p [f4 l] (fun b:Bool=>.bool (.v b)) (bF J.bucket J.budget n l p):=s8.re (Ex b J hJ A c p hp hn l hl n hf) (by repeat(first|exact trivial|refine⟨zr,?_⟩))
theorem FQ(b:Nat)(J:i5)(hJ:j0 J)(A:Option Addr)(c:Nat)(p:Pst)(hp:f8 p)(hn:p.n<=1000000)(key:Int)(hk:U64 key)(n:Nat)(hf:p.n<n):s8 244 0 b J A c p [.int .u64 key] (L6) (D5 J.bucket J.budget key n 0 64 p):=by
 intro m w hm hargs hpre;refine enX 63 hm hpre hargs Tryz.func244 fun B O a0 Z=>?_
 refine wp_seq (rg O a6 [0,1,4] [0,4] [] Z fun X0 _ _ Z=>?_);refine wp_scope_straight (wp_seq (rg O a6 [5,6,0,1,4] [0,4] [] Z fun X1 _ _ Z=>?_));refine wp_seq (wp_label (wp_seq (wp_block (l4 (ι:=Nat×Pst×Option Addr×Nat×Int×Int) (fun q=>[(5,.int .i64 q.2.2.2.2.1),(6,.int .i64 q.2.2.2.2.2)]) (fun q=>[(0,⟨b,166,B9 J q.2.2.1 q.2.2.2.1 q.2.1⟩)]) (fun q=>[]) (fun q=>D5 J.bucket J.budget key n 0 64 p=D5 J.bucket J.budget key q.1 q.2.2.2.2.1 q.2.2.2.2.2 q.2.1/\f8 q.2.1/\q.2.1.n<=1000000/\q.2.1.n<q.1/\0<=q.2.2.2.2.1/\q.2.2.2.2.1<=65/\-1<=q.2.2.2.2.2/\q.2.2.2.2.2<=64) (fun q=>q.1) (n,p,A,c,0,64) ⟨rfl,hp,hn,hf,(by dsimp only;omega),(by dsimp only;omega),(by dsimp only;omega),(by dsimp only;omega)⟩ Z ?_))))
 rintro⟨nn,p0,A0,c0,lo0,hi0⟩ ⟨hrun,hp0,hn0,hf0,ha0,ha1,hb0,hb1⟩ _ _ Z
 try dsimp only at hrun
 try dsimp only at hp0
 try dsimp only at hn0
 try dsimp only at hf0
 try dsimp only at ha0
 try dsimp only at ha1
 try dsimp only at hb0
 try dsimp only at hb1
 obtain⟨m0,rfl⟩:∃n2,nn=n2+1:=⟨nn-1,by omega⟩
 refine wp_seq (wp_seq (rg O a6 [13,0,1,4,5,6] [0,4] [] Z fun X2 _ _ Z=>?_));apply a7 Z rfl<;>intro hb Z
 .have tl:lo0<=hi0:=by subst O;simpa[std,a8]using hb
  obtain⟨md,hmd⟩:=eqv ((lo0+hi0) / 2);have hm0:0<=md/\md<=64:=by omega
  have e3:iG .quo .i64 (o9 .add .i64 lo0 hi0) 2=md:=by
   show IntKind.i64.wrap (Int.tdiv (IntKind.i64.wrap (lo0+hi0)) 2)=md
   rw[o8 (x:=lo0+hi0) (by omega) (by omega),Int.tdiv_eq_ediv_of_nonneg (by omega),<-hmd];exact o8 (by omega) (by omega)
  have e9:o9 .add .i64 md 1=md+1:=o8 (by omega) (by omega);have e13:o9 .sub .i64 md 1=md-1:=o8 (by omega) (by omega);have S8:=Dh key md hk;simp only[f4]at S8;have hk9:=iP hk md;obtain⟨k,hkk⟩:=eqv (ofV key md);rw[<-hkk]at S8 hk9;have hk8:=hkk;obtain⟨ke,hke⟩:=eqv (ofE md);rw[<-hke]at S8;refine wp_skip (wp_block (wp_seq (rg O a6 [7,0,1,4,5,6] [0,4] [] Z fun X3 _ _ Z=>?_)));replace Z:=Z.headS (v':=.int .i64 md) (by subst O;exact Sim.of_int e3) rfl;have O1:=S8;refine wp_seq (rg O a6 [0,1,4,5,6,7,8] [0,4,8] [(2,.r fun _=>.tup [.agg [.int .i64 k.len,.int .u64 k.bits],.int .i64 ke])] Z fun X4 _ _ Z=>?_);apply wp_seq
  rcases(V6 0 b J hJ A0 c0 p0 hp0 hn0 k).two (i7 _ _ _) hp0 hn0 with⟨w5,p5,hm5,O1⟩|⟨g5,p5,hm5,hs5,hp5,hn5,S5⟩
  .refine stp 2 O a6 [24,25] [0] [] Z O1 fun _ _ _ _ Z hk=>?_
   exact thm (P:=Tryz.prog) (fn:=Tryz.f244) (q:=p5) Z hk (by simp[hrun,D5,Rs.bind,tl,<-hmd,<-hk8,hm5])
  have hl5:=u5 hm5;have hg5:=hp0.get hm5;have O1:=S5;refine rg O a6 [0,1,4,5,6,7,8,10] [0,4,8,10] [(2,rc J (u4 g5) p5)] Z fun X5 _ _ Z=>?_
  obtain⟨q6,hq6⟩:=eqv (gk g5 1);refine wp_seq (wp_block (wp_seq ?_));refine rg O a6 [27,0,1,4,5,6,7,8,10] [0,4,8,10,29] [(2,.r fun _=>.bool (.v q6))] Z (hob:=by intro X;subst O;simp only[b7,Ob.holds,BE.den]<;>and_intros<;>repeat first|trivial|rfl|exact(by rw[hq6];exact F4 g5 _ _ 1 _ rfl)|exact by rw[hq6];exact F4 g5 _ _ 1 _ rfl|exact(fun _ _=>by kernel_rfl)|refine⟨?_,?_⟩|intro h|exact Int.le_refl _|decide|omega) fun X6 _ _ Z=>?_
  apply a7 Z rfl<;>intro hb Z
  .have tq6:gk g5 1=true:=by rw[<-hq6];exact hb
   refine wp_seq (rg O a6 [4] [0,4] [] Z fun X7 _ _ Z=>?_);exact wp_ret ((rmm O a6 Z (v:=(⟨k,g5⟩:Spt)) (q:=p5) ((X5 2).A 0) ((X5 2).c 0) (by simp[hrun,D5,Rs.bind,tl,<-hmd,<-hk8,hm5,tq6])).1)
  have tq6:gk g5 1=false:=by rw[<-hq6];exact hb
  obtain⟨q8,hq8⟩:=eqv (gk g5 2);apply wp_seq;refine rg O a6 [34,0,1,4,5,6,7,8,10] [0,4,8,10,36] [(2,.r fun _=>.bool (.v q8))] Z (hob:=by intro X;subst O;simp only[b7,Ob.holds,BE.den]<;>and_intros<;>repeat first|trivial|rfl|exact(by rw[hq8];exact F4 g5 _ _ 2 _ rfl)|exact by rw[hq8];exact F4 g5 _ _ 2 _ rfl|exact(fun _ _=>by kernel_rfl)|refine⟨?_,?_⟩|intro h|exact Int.le_refl _|decide|omega) fun X8 _ _ Z=>?_
  apply a7 Z rfl<;>intro hb Z
  .have tq8:gk g5 2=true:=by rw[<-hq8];exact hb
   refine wp_seq (rg O a6 [5,0,1,4,6] [0,4] [] Z fun X9 _ _ Z=>?_);have e9':B.arith .add .i64 md 1=md+1:=by subst O;exact e9
   replace Z:=Z.keep [5,6,0,1,4] [0,4];exact wp_exit (⟨(m0,p5,_,_,(md+1),hi0),⟨by rw[hrun];simp[D5,Rs.bind,tl,<-hmd,<-hk8,hm5,tq6,tq8],hp5,hn5,(by dsimp only;have:=hf0;have:=hl5;omega),(by dsimp only;omega),(by dsimp only;omega),(by dsimp only;omega),(by dsimp only;omega)⟩,by simp only;omega,by dsimp only;rw[<-e9'];exact Z⟩)
  have tq8:gk g5 2=false:=by rw[<-hq8];exact hb
  obtain⟨q10,hq10⟩:=eqv ((gk g5 3||gk g5 4));apply wp_seq;refine rg O a6 [40,0,1,4,5,6,7,8,10] [0,4,8,10,42] [(2,.r fun _=>.bool (.v q10))] Z (hob:=by intro X;subst O;simp only[b7,Ob.holds,BE.den]<;>and_intros<;>repeat first|trivial|rfl|exact(by rw[hq10];exact cu g5 _ _ 3 4 _ rfl rfl)|exact by rw[hq10];exact cu g5 _ _ 3 4 _ rfl rfl|exact(fun _ _=>by kernel_rfl)|refine⟨?_,?_⟩|intro h|exact Int.le_refl _|decide|omega) fun X10 _ _ Z=>?_
  apply a7 Z rfl<;>intro hb Z
  .have tq10:(gk g5 3||gk g5 4)=true:=by rw[<-hq10];exact hb
   apply wp_seq
   rcases(ta m0 0 b J hJ ((X5 2).A 0) ((X5 2).c 0) p5 hp5 hn5 k hk9 g5 hg5 (by have:=hl5;have:=hf0;omega)).two (F7 _ _ _ _ _ _) hp5 hn5 with⟨w11,p11,hm11,O1⟩|⟨v11,p11,hm11,hs11,hp11,hn11,S11⟩
   .refine stp 3 O a6 [44,45,46] [0] [] Z O1 fun _ _ _ _ Z hk=>?_
    exact thm (P:=Tryz.prog) (fn:=Tryz.f244) (q:=p11) Z hk (by simp[hrun,D5,Rs.bind,tl,<-hmd,<-hk8,hm5,tq6,tq8,tq10,hm11])
   have O1:=S11;refine rg O a6 [0,1,4,5,6] [0,4] [(3,rc J (i4) p11)] Z fun X11 _ _ Z=>?_
   replace Z:=Z.keep [5,6,0,1,4] [0,4];exact wp_exit (⟨(m0,p11,_,_,lo0,hi0),⟨by rw[hrun];simp[D5,Rs.bind,tl,<-hmd,<-hk8,hm5,tq6,tq8,tq10,hm11],hp11,hn11,(by dsimp only;have:=hf0;have:=hl5;have:=hs11.le;omega),(by dsimp only;omega),(by dsimp only;omega),(by dsimp only;omega),(by dsimp only;omega)⟩,by simp only;omega,by exact Z⟩)
  have tq10:(gk g5 3||gk g5 4)=false:=by rw[<-hq10];exact hb
  apply wp_seq
  rcases Bool.eq_false_or_eq_true (gk g5 5)with t8|t8
  .rcases (Hg 0 b J hJ ((X5 2).A 0) ((X5 2).c 0) p5 hp5 hn5 k hk9 m0 (by have:=hl5;have:=hf0;omega)).two (gT _ _ _ _ _) hp5 hn5 with⟨w12,p12,hm12,O1⟩|⟨b12,p12,hm12,hs12,hp12,hn12,S12⟩
   .refine stp 6 O a6 [52,53,54] [0] [(2,.r fun _=>.bool .tt)] Z O1 (hob:=by intro X;subst O;simp only[b7,Ob.holds,BE.den]<;>and_intros<;>repeat first|trivial|rfl|exact((F4 g5 _ _ 5 _ rfl).res fun _=>Sim.bool (by rw[t8];rfl))|exact(fun _ _=>by kernel_rfl)|refine⟨?_,?_⟩|intro h|exact Int.le_refl _|decide|omega) fun _ _ _ _ Z hk=>?_
    exact thm (P:=Tryz.prog) (fn:=Tryz.f244) (q:=p12) Z hk (by simp[hrun,D5,Rs.bind,tl,<-hmd,<-hk8,hm5,tq6,tq8,tq10,t8,hm12])
   refine rg O a6 [48,0,1,4,5,6,7] [0,4] [(2,.r fun _=>.bool .tt),(6,rc J (.bool (.v b12)) p12)] Z (hob:=by intro X;subst O;simp only[b7,Ob.holds,BE.den]<;>and_intros<;>repeat first|trivial|rfl|exact((F4 g5 _ _ 5 _ rfl).res fun _=>Sim.bool (by rw[t8];rfl))|exact S12|exact(fun _ _=>by kernel_rfl)|refine⟨?_,?_⟩|intro h|exact Int.le_refl _|decide|omega) fun X12 _ _ Z=>?_
   apply a7 Z rfl<;>intro hb Z
   .have tb:b12=false:=by subst O;revert hb;cases b12<;>simp[std]
    replace Z:=Z.keep [5,6,0,1,4] [0,4];exact wp_exit (⟨(m0,p12,_,_,lo0,hi0),⟨by rw[hrun];simp[D5,Rs.bind,tl,<-hmd,<-hk8,hm5,tq6,tq8,tq10,t8,hm12,tb],hp12,hn12,(by dsimp only;have:=hf0;have:=hl5;have:=hs12.le;omega),(by dsimp only;omega),(by dsimp only;omega),(by dsimp only;omega),(by dsimp only;omega)⟩,by simp only;omega,by exact Z⟩)
   have tb:b12=true:=by subst O;revert hb;cases b12<;>simp[std]
   refine wp_skip (rg O a6 [0,1,4,5,6] [0,4] [] Z fun X13 _ _ Z=>?_);have e13':B.arith .sub .i64 md 1=md-1:=by subst O;exact e13
   replace Z:=Z.keep [5,6,0,1,4] [0,4];exact⟨(m0,p12,_,_,lo0,(md-1)),⟨by rw[hrun];simp[D5,Rs.bind,tl,<-hmd,<-hk8,hm5,tq6,tq8,tq10,t8,hm12,tb],hp12,hn12,(by dsimp only;have:=hf0;have:=hl5;have:=hs12.le;omega),(by dsimp only;omega),(by dsimp only;omega),(by dsimp only;omega),(by dsimp only;omega)⟩,by simp only;omega,by dsimp only;rw[<-e13'];exact Z⟩
  refine rg O a6 [48,0,1,4,5,6,7] [0,4] [(2,.r fun _=>.bool .ff)] Z (hob:=by intro X;subst O;simp only[b7,Ob.holds,BE.den]<;>and_intros<;>repeat first|trivial|rfl|exact((F4 g5 _ _ 5 _ rfl).res fun _=>Sim.bool (by rw[t8];rfl))|exact(fun _ _=>by kernel_rfl)|refine⟨?_,?_⟩|intro h|exact Int.le_refl _|decide|omega) fun X12 _ _ Z=>?_
  refine j3 Z rfl (fun Z=>?_);refine wp_skip (rg O a6 [0,1,4,5,6] [0,4] [] Z fun X13 _ _ Z=>?_);have e13':B.arith .sub .i64 md 1=md-1:=by subst O;exact e13
  replace Z:=Z.keep [5,6,0,1,4] [0,4];exact⟨(m0,p5,_,_,lo0,(md-1)),⟨by rw[hrun];simp[D5,Rs.bind,tl,<-hmd,<-hk8,hm5,tq6,tq8,tq10,t8],hp5,hn5,(by dsimp only;have:=hf0;have:=hl5;omega),(by dsimp only;omega),(by dsimp only;omega),(by dsimp only;omega),(by dsimp only;omega)⟩,by simp only;omega,by dsimp only;rw[<-e13'];exact Z⟩
 have tl:¬lo0<=hi0:=by subst O;simpa[std,a8]using hb
 refine wp_exit (wp_seq ?_)
 rcases(Di 0 b J hJ A0 c0 p0 hp0 hn0 key hk (m0+1) hf0).two (J5 _ _ _ _ _ _) hp0 hn0 with⟨w14,p14,hm14,O1⟩|⟨s14,p14,hm14,hs14,hp14,hn14,S14⟩
 .refine stp 2 O a6 [60,61] [0] [] Z O1 fun _ _ _ _ Z hk=>?_
  exact thm (P:=Tryz.prog) (fn:=Tryz.f244) (q:=p14) Z hk (by simp[hrun,D5,Rs.bind,tl,hm14])
 have O1:=S14;refine rg O a6 [4] [0,4] [(2,rc J (L6 s14) p14)] Z fun X14 _ _ Z=>?_
 exact wp_ret ((rmm O a6 Z (v:=s14) (q:=p14) ((X14 2).A 0) ((X14 2).c 0) (by simp[hrun,D5,Rs.bind,tl,hm14])).1)
theorem HJ(k0 b:Nat)(J:i5)(hJ:j0 J)(A:Option Addr)(c:Nat)(p:Pst)(hp:f8 p)(hn:p.n<=1000000)(key:Int)(hk:U64 key)(n:Nat)(hf:p.n<n):s8 244 k0 b J A c p [.int .u64 key] (L6) (D5 J.bucket J.budget key n 0 64 p):=s8.re (FQ b J hJ A c p hp hn key hk n hf) (by repeat(first|exact trivial|refine⟨zr,?_⟩))
theorem zq(b:Nat)(J:i5)(hJ:j0 J)(A:Option Addr)(c:Nat)(p:Pst)(hp:f8 p)(hn:p.n<=1000000)(key:Int)(hk:U64 key)(n:Nat)(hf:p.n<n)(hh:J.how=1):s8 179 0 b J A c p [.int .u64 key] (L6) (C7 J.bucket J.budget key n D4 p):=by
 intro m w hm hargs hpre;refine enX 17 hm hpre hargs Tryz.func179 fun B O a0 Z=>?_
 refine wp_seq (rg O a6 [0,1,4] [0,4] [] Z fun X0 _ _ Z=>?_);refine wp_seq (rg O a6 [0,1,4,5] [0,4,5] [] Z fun X1 _ _ Z=>?_);refine wp_seq (wp_region_lit (lpr 0 5 O a6 [11,0,1,4,5] [0,4,5] [] Z fun X2_0 _ _ Z=>?_));replace Z:=Z.headS (v':=.int .i64 1) (Sim.of_int hh) rfl
 rcases(Di 0 b J hJ A c p hp hn key hk n hf).two (J5 _ _ _ _ _ _) hp hn with⟨w2,p2,hm2,O1⟩|⟨s2,p2,hm2,hs2,hp2,hn2,S2⟩
 .refine stl 5 4 O a6 [13,14,15] [0] [] Z O1 fun _ _ _ _ Z hk=>?_
  exact thm (P:=Tryz.prog) (fn:=Tryz.f179) (q:=p2) Z hk (by simp[Rs.bind,hm2])
 have O1:=S2;refine lnd 5 O a6 [4] [0,4] [(9,rc J (L6 s2) p2)] Z fun X2 _ _ Z=>?_
 exact wp_ret ((rmm O a6 Z (v:=s2) (q:=p2) ((X2 9).A 0) ((X2 9).c 0) (by simp[Rs.bind,hm2])).1)
theorem DR(k0 b:Nat)(J:i5)(hJ:j0 J)(A:Option Addr)(c:Nat)(p:Pst)(hp:f8 p)(hn:p.n<=1000000)(key:Int)(hk:U64 key)(n:Nat)(hf:p.n<n)(hh:J.how=1):s8 179 k0 b J A c p [.int .u64 key] (L6) (C7 J.bucket J.budget key n D4 p):=s8.re (zq b J hJ A c p hp hn key hk n hf hh) (by repeat(first|exact trivial|refine⟨zr,?_⟩))
theorem zn(b:Nat)(J:i5)(hJ:j0 J)(A:Option Addr)(c:Nat)(p:Pst)(hp:f8 p)(hn:p.n<=1000000)(key:Int)(hk:U64 key)(n:Nat)(hf:p.n<n)(hh:J.how=2):s8 179 0 b J A c p [.int .u64 key] (L6) (D5 J.bucket J.budget key n 0 64 p):=by
 intro m w hm hargs hpre;refine enX 17 hm hpre hargs Tryz.func179 fun B O a0 Z=>?_
 refine wp_seq (rg O a6 [0,1,4] [0,4] [] Z fun X0 _ _ Z=>?_);refine wp_seq (rg O a6 [0,1,4,5] [0,4,5] [] Z fun X1 _ _ Z=>?_);refine wp_seq (wp_region_lit (lpr 0 5 O a6 [11,0,1,4,5] [0,4,5] [] Z fun X2_0 _ _ Z=>?_));replace Z:=Z.headS (v':=.int .i64 2) (Sim.of_int hh) rfl
 rcases(HJ 0 b J hJ A c p hp hn key hk n hf).two (cw _ _ _ _ _ _ _) hp hn with⟨w2,p2,hm2,O1⟩|⟨s2,p2,hm2,hs2,hp2,hn2,S2⟩
 .refine stl 5 4 O a6 [13,14,15] [0] [] Z O1 fun _ _ _ _ Z hk=>?_
  exact thm (P:=Tryz.prog) (fn:=Tryz.f179) (q:=p2) Z hk (by simp[Rs.bind,hm2])
 have O1:=S2;refine lnd 5 O a6 [4] [0,4] [(9,rc J (L6 s2) p2)] Z fun X2 _ _ Z=>?_
 exact wp_ret ((rmm O a6 Z (v:=s2) (q:=p2) ((X2 9).A 0) ((X2 9).c 0) (by simp[Rs.bind,hm2])).1)
theorem DQ(k0 b:Nat)(J:i5)(hJ:j0 J)(A:Option Addr)(c:Nat)(p:Pst)(hp:f8 p)(hn:p.n<=1000000)(key:Int)(hk:U64 key)(n:Nat)(hf:p.n<n)(hh:J.how=2):s8 179 k0 b J A c p [.int .u64 key] (L6) (D5 J.bucket J.budget key n 0 64 p):=s8.re (zn b J hJ A c p hp hn key hk n hf hh) (by repeat(first|exact trivial|refine⟨zr,?_⟩))
theorem sm(k0 b:Nat)(J:i5)(hJ:j0 J)(A:Option Addr)(c:Nat)(p:Pst)(hp:f8 p)(hn:p.n<=1000000)(key:Int)(hk:U64 key)(n:Nat)(hf:p.n<n)(hh:J.how=1 \/ J.how=2):s8 179 k0 b J A c p [.int .u64 key] L6 (dR J.bucket J.budget J.how key n p):=by
 unfold dR
 rcases hh with hh|hh
 .rw [if_pos hh];exact DR k0 b J hJ A c p hp hn key hk n hf hh
 rw[if_neg (by omega)];exact DQ k0 b J hJ A c p hp hn key hk n hf hh
structure s5 where
 A:Option Addr
 n:Nat
 c:Nat
 f:Nat->r9
structure Rel(E:s5)(N:Nat)(p:Pst):Prop where
 n:p.n+N=E.n
 g:∀j,p.g j=E.f (N+j)
theorem Rel.suf{E:s5}{N:Nat}{p q:Pst}(h:Rel E N p)(hs:Suf p q):Rel E (E.n-q.n) q:=by
 obtain⟨d,h1,h2⟩:=hs;have h3:=h.n;refine⟨by omega,fun j=>?_⟩;rw[h2,h.g]
 congr 1
 omega
abbrev R8(J:i5)(E:s5)(N:Nat)(t:Nt):List AV:=[.int .i64 J.kind,.int .i64 J.lab.len,.int .u64 J.lab.bits,.int .u64 J.key,.int .u64 J.hi,.str J.val,.int .i64 J.most,.sl none J.pA J.pn J.pc 1 (fun i=>[.int .i64 (J.pf i)]),.int .u32 J.x1,.int .u32 J.x2,.int .u32 J.y1,.int .u32 J.y2,.int .i64 J.how,.int .i64 J.bucket,.int .i64 J.budget,
 .sl none E.A E.n E.c 8 (fun j=>bH (E.f j)),.int .i64 (N:Int),.bool .ff,
 .int .i64 0,.int .i64 0,.int .u64 0,.int .u64 0,.int .i64 0,.sl none none 0 0 2 (fun _=>[]),.int .i64 0,.int .u64 0,.int .u64 0,.int .i64 0,.bool .ff,.str ⟨#[]⟩,.sl none none 0 0 2 (fun _=>[]),.int .u64 0,.bool .ff,
 .int .i64 t.code,.bool (.v t.had),.str t.val,.sl none none 0 0 2 (fun _=>[]),.int .u64 0,.bool .ff]
abbrev D9(J:i5)(E:s5)(N:Nat)(w:C1)(t:Nt):List AV:=[.int .i64 J.kind,.int .i64 J.lab.len,.int .u64 J.lab.bits,.int .u64 J.key,.int .u64 J.hi,.str J.val,.int .i64 J.most,.sl none J.pA J.pn J.pc 1 (fun i=>[.int .i64 (J.pf i)]),.int .u32 J.x1,.int .u32 J.x2,.int .u32 J.y1,.int .u32 J.y2,.int .i64 J.how,.int .i64 J.bucket,.int .i64 J.budget,
 .sl none E.A E.n E.c 8 (fun j=>bH (E.f j)),.int .i64 (N:Int),.bool .tt,
 .int .i64 w.kind,.int .i64 w.lab.len,.int .u64 w.lab.bits,.int .u64 w.ver,.int .i64 w.x.r.kd,.sl none w.x.A w.x.r.n w.x.c 2 (fun i=>itC (w.x.r.f i)),.int .i64 w.x.r.nx.len,.int .u64 w.x.r.nx.bits,.int .u64 w.x.r.mrk,.int .i64 w.s.code,.bool (.v w.s.had),.str w.s.val,.sl none w.s.A w.s.n w.s.c 2 (fun i=>itC (w.s.f i)),.int .u64 w.s.key,.bool (.v w.s.more),
 .int .i64 t.code,.bool (.v t.had),.str t.val,.sl none none 0 0 2 (fun _=>[]),.int .u64 0,.bool .ff]
abbrev Dp(b:Bool)(J:i5)(E:s5)(N:Nat)(w:C1)(t:Nt):List AV:=[.int .i64 J.kind,.int .i64 J.lab.len,.int .u64 J.lab.bits,.int .u64 J.key,.int .u64 J.hi,.str J.val,.int .i64 J.most,.sl none J.pA J.pn J.pc 1 (fun i=>[.int .i64 (J.pf i)]),.int .u32 J.x1,.int .u32 J.x2,.int .u32 J.y1,.int .u32 J.y2,.int .i64 J.how,.int .i64 J.bucket,.int .i64 J.budget,
 .sl none E.A E.n E.c 8 (fun j=>bH (E.f j)),.int .i64 (N:Int),.bool (.v b),
 .int .i64 w.kind,.int .i64 w.lab.len,.int .u64 w.lab.bits,.int .u64 w.ver,.int .i64 w.x.r.kd,.sl none w.x.A w.x.r.n w.x.c 2 (fun i=>itC (w.x.r.f i)),.int .i64 w.x.r.nx.len,.int .u64 w.x.r.nx.bits,.int .u64 w.x.r.mrk,.int .i64 w.s.code,.bool (.v w.s.had),.str w.s.val,.sl none w.s.A w.s.n w.s.c 2 (fun i=>itC (w.s.f i)),.int .u64 w.s.key,.bool (.v w.s.more),
 .int .i64 t.code,.bool (.v t.had),.str t.val,.sl none none 0 0 2 (fun _=>[]),.int .u64 0,.bool .ff]
theorem cQ{b:Bool}(h:b=true)(J:i5)(E:s5)(N:Nat)(w:C1)(t:Nt):E8 (D9 J E N w t) (Dp b J E N w t):=by
 subst h;exact⟨zr,zr,zr,zr,zr,zr,zr,zr,zr,zr,zr,zr,zr,zr,zr,zr,zr,Sim.bool rfl,zr,zr,zr,zr,zr,zr,zr,zr,zr,zr,zr,zr,zr,zr,zr,zr,zr,zr,zr,zr,zr,trivial⟩
theorem cR{b:Bool}(h:b=true)(J:i5)(E:s5)(N:Nat)(w:C1)(t:Nt):E8 (Dp b J E N w t) (D9 J E N w t):=by
 subst h;exact⟨zr,zr,zr,zr,zr,zr,zr,zr,zr,zr,zr,zr,zr,zr,zr,zr,zr,Sim.bool rfl,zr,zr,zr,zr,zr,zr,zr,zr,zr,zr,zr,zr,zr,zr,zr,zr,zr,zr,zr,zr,zr,trivial⟩
def lM{α : Type}(k0:Nat)(J:i5)(E:s5)(enc:α->AV)(dfl:AV)(r:Rs α)(x:i8):CR:=match r with
 | .ok a p=>⟨enc a,[(k0,R8 J E (E.n-p.n) p.note)],[]⟩
 | .stop w p=>⟨dfl,[(k0,D9 J E (E.n-p.n) (wqA x w) p.note)],[]⟩
def u2{α : Type}(f:FuncId)(k0 b:Nat)(J:i5)(E:s5)(N:Nat)(p:Pst)(args:List AV)(enc:α->AV)(dfl:AV)(r:Rs α):Prop:=
 u9 Tryz.prog f (.ptr k0 b 0::args) [(k0,⟨b,174,R8 J E N p.note⟩)] (fun x=>lM k0 J E enc dfl r x)
theorem u2.ok{α : Type}{f:FuncId}{k0 b:Nat}{J:i5}{E:s5}{N M:Nat}{p q:Pst}{args:List AV}{enc:α->AV}{dfl:AV}{r:Rs α}{a:α}(h:u2 f k0 b J E N p args enc dfl r)(e:r = .ok a q)(hM:M=E.n-q.n) :
  u9 Tryz.prog f (.ptr k0 b 0::args) [(k0,⟨b,174,R8 J E N p.note⟩)] (fun x=>⟨enc a,[(k0,R8 J E M q.note)],[]⟩):=by
 subst e;subst hM;exact h
theorem u2.stop{α : Type}{f:FuncId}{k0 b:Nat}{J:i5}{E:s5}{N M:Nat}{p q:Pst}{args:List AV}{enc:α->AV}{dfl:AV}{r:Rs α}{w:Wq}(h:u2 f k0 b J E N p args enc dfl r)(e:r = .stop w q)(hM:M=E.n-q.n)
  {rr:RN} {nn:Nat} {ff:Nat->Itm} (h1:rr=w.r.rn) (h2:nn=w.res.items.length) (h3:ff=itF w.res.items) :
  u9 Tryz.prog f (.ptr k0 b 0::args) [(k0,⟨b,174,R8 J E N p.note⟩)] (fun x=>⟨dfl,[(k0,D9 J E M ⟨w.kind,w.lab,w.ver,⟨x.A 1,x.c 1,rr⟩,⟨w.res.code,w.res.had,w.res.val,x.A 2,nn,x.c 2,ff,w.res.key,w.res.more⟩⟩ q.note)],[]⟩):=by
 subst e;subst hM;subst h1;subst h2;subst h3;exact h
theorem u2.re{α : Type}{f:FuncId}{k0 b:Nat}{J:i5}{E:s5}{N:Nat}{p:Pst}{args args':List AV}{enc:α->AV}{dfl:AV}{r:Rs α}(h:u2 f 0 b J E N p args enc dfl r)(ha:E8 args' args):u2 f k0 b J E N p args' enc dfl r:=
 u9.re h ⟨Sim.ptr,ha⟩ rfl fun x=>by
  cases r with
  |ok a p=>exact⟨rfl,rfl,zr,rfl⟩
  |stop w p=>exact⟨rfl,rfl,zr,rfl⟩
def L0(f:FuncId)(k0 b:Nat)(J:i5)(E:s5)(N:Nat)(q:C1)(t:Nt)(args:List AV)(dfl:AV):Prop:=
 u9 Tryz.prog f (.ptr k0 b 0::args) [(k0,⟨b,174,D9 J E N q t⟩)] (fun _=>⟨dfl,[(k0,D9 J E N q t)],[]⟩)
theorem L0.re{f:FuncId}{k0 b:Nat}{J:i5}{E:s5}{N:Nat}{q:C1}{t:Nt}{args args':List AV}{dfl:AV}(h:L0 f 0 b J E N q t args dfl)(ha:E8 args' args):L0 f k0 b J E N q t args' dfl:=
 u9.re h ⟨Sim.ptr,ha⟩ rfl fun x=>⟨rfl,rfl,zr,rfl⟩
section
variable {P:Program} {T:List (Nat×TI)} {s:St} {a:Act} {w:World} {α : Type} {Kk:Kn} {m:Nat->Nat->Prop} {w0:World} {b k0 ty:Nat} {cs:List AV} {fn:Func} {enc:α->AV} {dfl:AV} {J:i5} {E:s5} {r:Rs α}
theorem Ec(hT:o3 P T)(h:b6 ⟨m,w0,ats [(k0,⟨b,ty,cs⟩)],[],Kk⟩ s a w){rs:List ResultVar}(hfn:fn.results=rs.toArray){rr:List AV×List Ob}(hrr:Y0 T s rs=some rr)(ho:b7 P Kk rr.2)
  {v:α} {q:Pst} {M:Nat} (hr:r = .ok v q) (hM:M=E.n-q.n) (he:Sim (can (Q2 rr.1)) (can (enc v))) (hs:B5 s [(k0,⟨b,ty,cs⟩)] [(k0,R8 J E M q.note)]) :
  bodyPost P fn (Y9 m w0 [(k0,⟨b,ty,cs⟩)] (fun x=>lM k0 J E enc dfl r x)) .ret a w/\bodyPost P fn (Y9 m w0 [(k0,⟨b,ty,cs⟩)] (fun x=>lM k0 J E enc dfl r x)) .normal a w:=by
 subst hr;subst hM;exact sq (res:=fun x=>lM k0 J E enc dfl (.ok v q) x) hT h hfn hrr ho ⟨0,fun _=>none,fun _=>0,fun _=>.empty⟩ [] he hs trivial
theorem Ea(hT:o3 P T)(h:b6 ⟨m,w0,ats [(k0,⟨b,ty,cs⟩)],[],Kk⟩ s a w){rs:List ResultVar}(hfn:fn.results=rs.toArray){rr:List AV×List Ob}(hrr:Y0 T s rs=some rr)(ho:b7 P Kk rr.2)
  {q:Pst} {wq:Wq} {Q:C1} {M:Nat} (x:i8) (hr:r = .stop wq q) (hM:M=E.n-q.n) (hq:Q=wqA x wq) (he:Sim (can (Q2 rr.1)) (can dfl)) (hs:B5 s [(k0,⟨b,ty,cs⟩)] [(k0,D9 J E M Q q.note)]) :
  bodyPost P fn (Y9 m w0 [(k0,⟨b,ty,cs⟩)] (fun x=>lM k0 J E enc dfl r x)) .ret a w/\bodyPost P fn (Y9 m w0 [(k0,⟨b,ty,cs⟩)] (fun x=>lM k0 J E enc dfl r x)) .normal a w:=by
 subst hr;subst hM;subst hq;exact sq (res:=fun x=>lM k0 J E enc dfl (.stop wq q) x) hT h hfn hrr ho x [] he hs trivial
theorem wo(hT:o3 P T)(h:b6 ⟨m,w0,ats [(k0,⟨b,ty,cs⟩)],[],Kk⟩ s a w){rs:List ResultVar}(hfn:fn.results=rs.toArray){rr:List AV×List Ob}(hrr:Y0 T s rs=some rr)(ho:b7 P Kk rr.2)
  {sets:List (Nat×List AV)} (he:Sim (can (Q2 rr.1)) (can dfl)) (hs:B5 s [(k0,⟨b,ty,cs⟩)] sets) :
  bodyPost P fn (Y9 m w0 [(k0,⟨b,ty,cs⟩)] (fun _=>⟨dfl,sets,[]⟩)) .ret a w/\bodyPost P fn (Y9 m w0 [(k0,⟨b,ty,cs⟩)] (fun _=>⟨dfl,sets,[]⟩)) .normal a w:=
 sq (res:=fun _=>⟨dfl,sets,[]⟩) hT h hfn hrr ho ⟨0,fun _=>none,fun _=>0,fun _=>.empty⟩ [] he hs trivial
end
abbrev bj:AV:=.agg [.int .i64 0,.int .u64 0,.bool .ff,.int .i64 0,.sl none none 0 0 2 (fun _=>[]),.int .i64 0,.int .u64 0,.int .u64 0]
theorem zN{J:i5}{E:s5}{N:Nat}{p:Pst}(h:Rel E N p):((p.n:Int)+(J.budget-E.n)<=0↔J.budget<=(N:Int))/\(0<p.n↔N<E.n):=by
 have:=h.n;omega
inductive LSt where
 |go (n:Nat) (p:Pst) (N:Nat)
 |dn (p:Pst) (N:Nat)
 |sp (N:Nat) (Q:C1) (t:Nt)
abbrev lsC(J:i5)(E:s5):LSt->List AV
 | .go _ p N=>R8 J E N p.note
 | .dn p N=>R8 J E N p.note
 | .sp N Q t=>D9 J E N Q t
abbrev lsB:LSt->BE
 | .dn .. =>.tt
 |_=>.ff
def lsM:LSt->Nat
 | .go n _ _=>n+1
 |_=>0
abbrev DY(x:qy):AV:=.agg [.int .i64 x.code,.bool (.v x.had),.str x.val,.sl none x.A x.n x.c 2 (fun i=>itC (x.f i)),.int .u64 x.key,.bool (.v x.more)]
section
variable {P:Program} {T:List (Nat×TI)} {s:St} {a:Act} {w:World} {α : Type} {Kk:Kn} {m:Nat->Nat->Prop} {w0:World} {b k0 ty:Nat} {cs:List AV} {fn:Func} {enc:α->AV} {dfl:AV} {J:i5} {E:s5} {r:Rs α} {rs:List ResultVar} {rr:List AV×List Ob} {B:Alg}
theorem u2.two{f:FuncId}{N:Nat}{p:Pst}{args:List AV}(h:u2 f k0 b J E N p args enc dfl r)(hf:Fro p r)(hp:f8 p)(hn:p.n<=1000000)(hR:Rel E N p) :
  (∃v q M,r = .ok v q/\Suf p q/\f8 q/\q.n<=1000000/\Rel E M q/\M=E.n-q.n/\u9 Tryz.prog f (.ptr k0 b 0::args) [(k0,⟨b,174,R8 J E N p.note⟩)] (fun _=>⟨enc v,[(k0,R8 J E M q.note)],[]⟩)) ∨
  ∃wq q M,∃W:i8->C1,r = .stop wq q/\Suf p q/\M=E.n-q.n/\(∀x,W x=wqA x wq)/\u9 Tryz.prog f (.ptr k0 b 0::args) [(k0,⟨b,174,R8 J E N p.note⟩)] (fun x=>⟨dfl,[(k0,D9 J E M (W x) q.note)],[]⟩):=by
 cases hr:r with
 |ok v q=>have hs:=hf.of hr;exact .inl ⟨v,q,_,rfl,hs,hp.suf hs,Nat.le_trans hs.le hn,hR.suf hs,rfl,h.ok hr rfl⟩
 |stop wq q=>exact .inr ⟨wq,q,_,fun x=>wqA x wq,rfl,hf.ofs hr,rfl,fun _=>rfl,h.stop hr rfl rfl rfl rfl⟩
abbrev lc(J:i5)(E:s5)(v:AV)(N:Nat)(p:Pst):CS:=.x fun _=>⟨v,[(0,R8 J E N p.note)],[]⟩
abbrev sc(J:i5)(E:s5)(v:AV)(N:Nat)(W:i8->C1)(t:Nt):CS:=.x fun x=>⟨v,[(0,D9 J E N (W x) t)],[]⟩
abbrev dc(J:i5)(E:s5)(v:AV)(N:Nat)(W:C1)(t:Nt):CS:=.x fun _=>⟨v,[(0,D9 J E N W t)],[]⟩
theorem rgo(O:B=std)(hT:o3 P T)(h:b6 ⟨m,w0,ats [(k0,⟨b,ty,cs⟩)],[],Kk⟩ s a w){v:α}{q:Pst}{M:Nat}(hr0:r = .ok v q)(hM:M=E.n-q.n)(hfn:fn.results=rs.toArray:=by rfl)(hr:Y0 T s rs=some rr:=by first|rfl|(conv=>lhs;cbv))(ho:b7 P Kk rr.2:=by first|exact trivial|(subst O;simp[b7,Ob.holds]))(he:Sim (can (Q2 rr.1)) (can (enc v)):=by subst O;exact zr)(hs:B5 s [(k0,⟨b,ty,cs⟩)] [(k0,R8 J E M q.note)]:=by subst O;exact⟨rfl,⟨_,rfl,zl⟩,trivial⟩) :
  bodyPost P fn (Y9 m w0 [(k0,⟨b,ty,cs⟩)] (fun x=>lM k0 J E enc dfl r x)) .ret a w/\bodyPost P fn (Y9 m w0 [(k0,⟨b,ty,cs⟩)] (fun x=>lM k0 J E enc dfl r x)) .normal a w:=Ec hT h hfn hr ho hr0 hM he hs
theorem rst(O:B=std)(hT:o3 P T)(h:b6 ⟨m,w0,ats [(k0,⟨b,ty,cs⟩)],[],Kk⟩ s a w){q:Pst}{wq:Wq}{Q:C1}{M:Nat}(x:i8)(hr0:r = .stop wq q)(hM:M=E.n-q.n)(hq:Q=wqA x wq)(hfn:fn.results=rs.toArray:=by rfl)(hr:Y0 T s rs=some rr:=by first|rfl|(conv=>lhs;cbv))(ho:b7 P Kk rr.2:=by first|exact trivial|(subst O;simp[b7,Ob.holds]))(he:Sim (can (Q2 rr.1)) (can dfl):=by subst O;exact zr)(hs:B5 s [(k0,⟨b,ty,cs⟩)] [(k0,D9 J E M Q q.note)]:=by subst O;exact⟨rfl,⟨_,rfl,zl⟩,trivial⟩) :
  bodyPost P fn (Y9 m w0 [(k0,⟨b,ty,cs⟩)] (fun x=>lM k0 J E enc dfl r x)) .ret a w/\bodyPost P fn (Y9 m w0 [(k0,⟨b,ty,cs⟩)] (fun x=>lM k0 J E enc dfl r x)) .normal a w:=Ea hT h hfn hr ho x hr0 hM hq he hs
theorem rdd(O:B=std)(hT:o3 P T)(h:b6 ⟨m,w0,ats [(k0,⟨b,ty,cs⟩)],[],Kk⟩ s a w){sets:List (Nat×List AV)}(hfn:fn.results=rs.toArray:=by rfl)(hr:Y0 T s rs=some rr:=by first|rfl|(conv=>lhs;cbv))(ho:b7 P Kk rr.2:=by first|exact trivial|(subst O;simp[b7,Ob.holds]))(he:Sim (can (Q2 rr.1)) (can dfl):=by subst O;exact zr)(hs:B5 s [(k0,⟨b,ty,cs⟩)] sets:=by subst O;exact⟨rfl,⟨_,rfl,zl⟩,trivial⟩) :
  bodyPost P fn (Y9 m w0 [(k0,⟨b,ty,cs⟩)] (fun _=>⟨dfl,sets,[]⟩)) .ret a w/\bodyPost P fn (Y9 m w0 [(k0,⟨b,ty,cs⟩)] (fun _=>⟨dfl,sets,[]⟩)) .normal a w:=wo hT h hfn hr ho he hs
end
theorem zS(b:Nat)(J:i5)(E:s5)(hE:E.n<=1000000)(N:Nat)(q:C1)(t:Nt)(x:qy):u9 Tryz.prog 59 [.ptr 0 b 0,DY x] [(0,⟨b,174,R8 J E N t⟩)] (fun _=>⟨i4,[(0,D9 J E N ⟨4,⟨0,0⟩,0,zRA,x⟩ t)],[]⟩):=by
 intro m w hm hargs hpre;refine enX 17 hm hpre hargs Tryz.func59 fun B O a0 Z=>?_
 refine wp_seq (rg O a6 [0,3] [0,3] [] Z fun X0 _ _ Z=>?_);refine wp_seq (rg O a6 [8,0,3] [0,3] [] Z fun X1 _ _ Z=>?_);refine j1 Z rfl (fun Z=>?_);refine wp_seq (rg O a6 [0,3] [0,3] [] Z fun X2 _ _ Z=>?_);refine rg O a6 [] [0] [] Z fun X3 _ _ Z=>?_
 refine(rx O a6 Z f9 [] (hs:=?_)).2;subst O;exact⟨rfl,⟨_,rfl,⟨zr,zr,zr,zr,zr,zr,zr,zr,zr,zr,zr,zr,zr,zr,zr,zr,zr,zr,zr,zr,zr,zr,zr,zq0,zr,zr,zr,zr,zr,zr,zr,zr,zr,zr,zr,zr,zr,zr,zr,trivial⟩⟩,trivial⟩
theorem wH(k0 b:Nat)(J:i5)(E:s5)(hE:E.n<=1000000)(N:Nat)(q:C1)(t:Nt)(x:qy):u9 Tryz.prog 59 [.ptr k0 b 0,DY x] [(k0,⟨b,174,R8 J E N t⟩)] (fun _=>⟨i4,[(k0,D9 J E N ⟨4,⟨0,0⟩,0,zRA,x⟩ t)],[]⟩):=
 u9.re (zS b J E hE N q t x) ⟨Sim.ptr,zr,trivial⟩ rfl fun x=>⟨rfl,rfl,zr,rfl⟩
theorem zT(b:Nat)(J:i5)(E:s5)(hE:E.n<=1000000)(N:Nat)(q:C1)(t:Nt)(x:qy):L0 59 0 b J E N q t [DY x] (i4):=by
 intro m w hm hargs hpre;refine enX 17 hm hpre hargs Tryz.func59 fun B O a0 Z=>?_
 refine wp_seq (rg O a6 [0,3] [0,3] [] Z fun X0 _ _ Z=>?_);refine wp_seq (rg O a6 [8,0,3] [0,3] [] Z fun X1 _ _ Z=>?_);refine j3 Z rfl (fun Z=>?_);exact wp_skip ((rdd O a6 Z).2)
theorem BQ(b:Nat)(J:i5)(hJ:j0 J)(E:s5)(hE:E.n<=1000000)(N:Nat)(p:Pst)(hR:Rel E N p)(hp:f8 p)(hn:p.n<=1000000)(q:C1):u2 198 0 b J E N p [D8 q] (u4) (bj) (U0 (J.budget-E.n) q.absQ p):=by
 intro m w hm hargs hpre;have hN0:N=E.n-p.n:=by have:=hR.n;omega
 obtain⟨ha,hbu,_,_,_⟩:=hJ;have hmx:maxLen=9223372036854775807:=rfl;obtain⟨hq1,hq2⟩:=zN (J:=J) hR;have hrn:=hR.n;have e1:IntKind.i64.wrap ((N:Int)+1)=((N+1:Nat):Int):=by rw[o8 (by omega) (by omega)];omega
 have e2:IntKind.i64.wrap (((N+1:Nat):Int)-1)=(N:Int):=by rw[o8 (by omega) (by omega)];omega
 refine enX 64 hm hpre hargs Tryz.func198 fun B O a0 Z=>?_
 refine wp_seq (rg O a6 [0,3,4] [0,3,4] [] Z fun X0 _ _ Z=>?_);refine wp_seq (wp_seq (rg O a6 [8,0,3,4] [0,3,4] [] Z fun X1 _ _ Z=>?_));refine j3 Z rfl (fun Z=>?_);refine wp_skip (wp_seq (wp_seq (drg O a6 [19,0,3,4] [0,3,4] [] Z fun X3 _ _ Z=>?_)));apply a7 Z rfl<;>intro hb Z
 .have ho:J.budget<=(N:Int):=by subst O;simpa[std,a8]using hb
  have SO:u9 Tryz.prog 59 [.ptr 0 b 0,.agg [.int .i64 p.note.code,.bool (.v p.note.had),.str p.note.val,.sl none none 0 0 2 (fun _=>[]),.int .u64 0,.bool .ff]] [(0,⟨b,174,R8 J E N p.note⟩)] (fun _=>⟨i4,[(0,D9 J E N ⟨4,⟨0,0⟩,0,zRA,⟨p.note.code,p.note.had,p.note.val,none,0,0,fun _=>C5,0,false⟩⟩ p.note)],[]⟩):=u9.re (wH 0 b J E hE N q p.note ⟨p.note.code,p.note.had,p.note.val,none,0,0,fun _=>C5,0,false⟩) ⟨zr,Sim.agg ⟨zr,zr,zr,zq0,zr,Sim.ff,trivial⟩,trivial⟩ rfl fun x=>⟨rfl,rfl,zr,rfl⟩
  have O1:=SO;refine wp_seq (rg O a6 [4] [0,4] [(5,.x fun _=>⟨i4,[(0,D9 J E N ⟨4,⟨0,0⟩,0,zRA,⟨p.note.code,p.note.had,p.note.val,none,0,0,fun _=>C5,0,false⟩⟩ p.note)],[]⟩)] Z fun X4 _ _ Z=>?_);refine wp_seq (rg O a6 [4] [0,4] [] Z fun X5 _ _ Z=>?_);refine wp_ret ((rst O a6 Z (q:=p) (wq:=(Da p)) ⟨0,fun _=>none,fun _=>0,fun _=>.empty⟩ (by unfold U0;rw[if_neg (by omega),if_pos (hq1.2 ho)]) hN0 rfl (hs:=?_)).1);subst O;exact⟨rfl,⟨_,rfl,⟨zr,zr,zr,zr,zr,zr,zr,zr,zr,zr,zr,zr,zr,zr,zr,zr,zr,zr,zr,zr,zr,zr,zr,zq0,zr,zr,zr,zr,zr,zr,zq0,zr,zr,zr,zr,zr,zr,zr,zr,trivial⟩⟩,trivial⟩
 have ho:¬J.budget<=(N:Int):=by subst O;simpa[std,a8]using hb
 refine wp_skip (wp_seq (wp_seq (drg O a6 [36,0,3,4] [0,3,4] [] Z fun X6 _ _ Z=>?_)));apply a7 Z rfl<;>intro hb Z
 .have hl:¬0<p.n:=by
   have:(N:Int) ≥ (E.n:Int):=by subst O;simpa[std,a8]using hb
   omega
  refine wp_seq (rg O a6 [0,3,4] [0,3,4] [] Z fun X7 _ _ Z=>?_);refine wp_seq (rg O a6 [4] [0,4] [] Z fun X8 _ _ Z=>?_);refine wp_seq (rg O a6 [4] [0,4] [] Z fun X9 _ _ Z=>?_);refine wp_ret ((rst O a6 Z (q:=p) (wq:=q.absQ) ⟨0,fun i=>if i=1 then q.x.A else q.s.A,fun i=>if i=1 then q.x.c else q.s.c,fun _=>.empty⟩ (by unfold U0;rw[if_neg (by omega),if_neg (fun h=>ho (hq1.1 h))]) hN0 rfl (hs:=?_)).1);subst O;exact⟨rfl,⟨_,rfl,⟨zr,zr,zr,zr,zr,zr,zr,zr,zr,zr,zr,zr,zr,zr,zr,zr,zr,zr,zr,zr,zr,zr,zr,jV _ _ _ _,zr,zr,zr,zr,zr,zr,jV _ _ _ _,zr,zr,zr,zr,zr,zr,zr,zr,trivial⟩⟩,trivial⟩
 have hl:0<p.n:=by
  have:¬(N:Int) ≥ (E.n:Int):=by subst O;simpa[std,a8]using hb
  omega
 refine wp_skip (wp_seq (rg O a6 [0,4] [0,4] [] Z fun X10 _ _ Z=>?_));apply wp_seq;refine drg O a6 [4] [0,4] [] Z (hob:=by intro X;subst O;simp only[b7,Ob.holds,BE.den]<;>and_intros<;>repeat first|trivial|rfl|exact⟨(show(0:Int)<=IntKind.i64.wrap (IntKind.i64.wrap ((N:Int)+1)-1)by rw[e1,e2];omega),(show IntKind.i64.wrap (IntKind.i64.wrap ((N:Int)+1)-1)<(E.n:Int)by rw[e1,e2];omega)⟩|exact(show(0:Int)<=IntKind.i64.wrap (IntKind.i64.wrap ((N:Int)+1)-1)by rw[e1,e2];omega)|exact(show IntKind.i64.wrap (IntKind.i64.wrap ((N:Int)+1)-1)<(E.n:Int)by rw[e1,e2];omega)|exact(fun _ _=>by kernel_rfl)|refine⟨?_,?_⟩|intro h|exact Int.le_refl _|decide|omega) fun X11 _ _ Z=>?_
 refine wp_ret ((rgo O a6 Z (v:=(p.g 0)) (q:=p.tl) (by unfold U0;rw[if_pos (by omega)]) (by show N+1=E.n-(p.n-1);omega) (he:=?_) (hs:=?_)).1)
 .subst O
  rw[hR.g 0]
  show Sim (.agg (bH (E.f (IntKind.i64.wrap (IntKind.i64.wrap ((N:Int)+1)-1)).toNat))) (u4 (E.f (N+0)))
  rw[e1,e2];exact zr
 subst O;refine⟨rfl,⟨_,rfl,⟨zr,zr,zr,zr,zr,zr,zr,zr,zr,zr,zr,zr,zr,zr,zr,zr,?_,zr,zr,zr,zr,zr,zr,zr,zr,zr,zr,zr,zr,zr,zr,zr,zr,zr,zr,zr,zr,zr,zr,trivial⟩⟩,trivial⟩
 show Sim (.int .i64 (IntKind.i64.wrap ((N:Int)+1))) _
 rw[e1];exact zr
theorem rO(k0 b:Nat)(J:i5)(hJ:j0 J)(E:s5)(hE:E.n<=1000000)(N:Nat)(p:Pst)(hR:Rel E N p)(hp:f8 p)(hn:p.n<=1000000)(q:C1):u2 198 k0 b J E N p [D8 q] (u4) (bj) (U0 (J.budget-E.n) q.absQ p):=u2.re (BQ b J hJ E hE N p hR hp hn q) (by repeat(first|exact trivial|refine⟨zr,?_⟩))
theorem BR(b:Nat)(J:i5)(E:s5)(hE:E.n<=1000000)(N:Nat)(q:C1)(t:Nt)(r:C1):L0 198 0 b J E N q t [D8 r] (bj):=by
 intro m w hm hargs hpre;refine enX 64 hm hpre hargs Tryz.func198 fun B O a0 Z=>?_
 refine wp_seq (rg O a6 [0,3,4] [0,3,4] [] Z fun X0 _ _ Z=>?_);refine wp_seq (wp_seq (rg O a6 [8,0,3,4] [0,3,4] [] Z fun X1 _ _ Z=>?_));refine j1 Z rfl (fun Z=>?_);refine wp_seq (rg O a6 [4] [0,4] [] Z fun X2 _ _ Z=>?_);exact wp_ret ((rdd O a6 Z).1)
theorem ym(k0 b:Nat)(J:i5)(E:s5)(hE:E.n<=1000000)(N:Nat)(q:C1)(t:Nt)(r:C1):L0 198 k0 b J E N q t [D8 r] (bj):=L0.re (BR b J E hE N q t r) (by repeat(first|exact trivial|refine⟨zr,?_⟩))
theorem BL(k0 b:Nat)(J:i5)(hJ:j0 J)(E:s5)(hE:E.n<=1000000)(N:Nat)(p:Pst)(hR:Rel E N p)(hp:f8 p)(hn:p.n<=1000000)(l:Lab):u2 198 k0 b J E N p [.agg [.int .i64 1,.int .i64 l.len,.int .u64 l.bits,.int .u64 0,.int .i64 0,.sl none none 0 0 2 (fun _=>[]),.int .i64 0,.int .u64 0,.int .u64 0,.int .i64 0,.bool .ff,.str ⟨#[]⟩,.sl none none 0 0 2 (fun _=>[]),.int .u64 0,.bool .ff]] u4 bj (J9 (J.budget-E.n) l p):=
 u2.re (rO 0 b J hJ E hE N p hR hp hn ⟨1,l,0,zRA,fC⟩) ⟨Sim.agg ⟨zr,zr,zr,zr,zr,zq0,zr,zr,zr,zr,Sim.ff,zr,zq0,zr,Sim.ff,trivial⟩,trivial⟩
theorem BM(k0 b:Nat)(J:i5)(E:s5)(hE:E.n<=1000000)(N:Nat)(q:C1)(t:Nt)(l:Lab):L0 198 k0 b J E N q t [.agg [.int .i64 1,.int .i64 l.len,.int .u64 l.bits,.int .u64 0,.int .i64 0,.sl none none 0 0 2 (fun _=>[]),.int .i64 0,.int .u64 0,.int .u64 0,.int .i64 0,.bool .ff,.str ⟨#[]⟩,.sl none none 0 0 2 (fun _=>[]),.int .u64 0,.bool .ff]] bj:=
 L0.re (ym 0 b J E hE N q t ⟨1,l,0,zRA,fC⟩) ⟨Sim.agg ⟨zr,zr,zr,zr,zr,zq0,zr,zr,zr,zr,Sim.ff,zr,zq0,zr,Sim.ff,trivial⟩,trivial⟩
theorem BO(k0 b:Nat)(J:i5)(hJ:j0 J)(E:s5)(hE:E.n<=1000000)(N:Nat)(p:Pst)(hR:Rel E N p)(hp:f8 p)(hn:p.n<=1000000)(l:Lab)(v:Int)(x:RA):u2 198 k0 b J E N p [.agg [.int .i64 2,.int .i64 l.len,.int .u64 l.bits,.int .u64 v,.int .i64 x.r.kd,.sl none x.A x.r.n x.c 2 (fun i=>itC (x.r.f i)),.int .i64 x.r.nx.len,.int .u64 x.r.nx.bits,.int .u64 x.r.mrk,.int .i64 0,.bool .ff,.str ⟨#[]⟩,.sl none none 0 0 2 (fun _=>[]),.int .u64 0,.bool .ff]] u4 bj (U0 (J.budget-E.n) ⟨2,l,v,x.r.abs,aJ⟩ p):=
 u2.re (rO 0 b J hJ E hE N p hR hp hn ⟨2,l,v,x,fC⟩) ⟨Sim.agg ⟨zr,zr,zr,zr,zr,zr,zr,zr,zr,zr,Sim.ff,zr,zq0,zr,Sim.ff,trivial⟩,trivial⟩
theorem BP(k0 b:Nat)(J:i5)(E:s5)(hE:E.n<=1000000)(N:Nat)(q:C1)(t:Nt)(l:Lab)(v:Int)(x:RA):L0 198 k0 b J E N q t [.agg [.int .i64 2,.int .i64 l.len,.int .u64 l.bits,.int .u64 v,.int .i64 x.r.kd,.sl none x.A x.r.n x.c 2 (fun i=>itC (x.r.f i)),.int .i64 x.r.nx.len,.int .u64 x.r.nx.bits,.int .u64 x.r.mrk,.int .i64 0,.bool .ff,.str ⟨#[]⟩,.sl none none 0 0 2 (fun _=>[]),.int .u64 0,.bool .ff]] bj:=
 L0.re (ym 0 b J E hE N q t ⟨2,l,v,x,fC⟩) ⟨Sim.agg ⟨zr,zr,zr,zr,zr,zr,zr,zr,zr,zr,Sim.ff,zr,zq0,zr,Sim.ff,trivial⟩,trivial⟩
theorem BN(k0 b:Nat)(J:i5)(hJ:j0 J)(E:s5)(hE:E.n<=1000000)(N:Nat)(p:Pst)(hR:Rel E N p)(hp:f8 p)(hn:p.n<=1000000)(l:Lab)(v:Int):u2 198 k0 b J E N p [.agg [.int .i64 3,.int .i64 l.len,.int .u64 l.bits,.int .u64 v,.int .i64 0,.sl none none 0 0 2 (fun _=>[]),.int .i64 0,.int .u64 0,.int .u64 0,.int .i64 0,.bool .ff,.str ⟨#[]⟩,.sl none none 0 0 2 (fun _=>[]),.int .u64 0,.bool .ff]] u4 bj (U0 (J.budget-E.n) ⟨3,l,v,i9,aJ⟩ p):=
 u2.re (rO 0 b J hJ E hE N p hR hp hn ⟨3,l,v,zRA,fC⟩) ⟨Sim.agg ⟨zr,zr,zr,zr,zr,zq0,zr,zr,zr,zr,Sim.ff,zr,zq0,zr,Sim.ff,trivial⟩,trivial⟩
theorem Bq(b:Nat)(J:i5)(hJ:j0 J)(E:s5)(hE:E.n<=1000000)(N:Nat)(p:Pst)(hR:Rel E N p)(hp:f8 p)(hn:p.n<=1000000)(l:Lab):u2 150 0 b J E N p [f4 l] (u4) (bj) (J9 (J.budget-E.n) l p):=by
 intro m w hm hargs hpre;have hN0:N=E.n-p.n:=by have:=hR.n;omega
 refine enX 9 hm hpre hargs Tryz.func150 fun B O a0 Z=>?_
 refine wp_seq (rg O a6 [0,3,4] [0,3,4] [] Z fun X0 _ _ Z=>?_);apply wp_seq
 rcases(BL 0 b J hJ E hE N p hR hp hn l).two (cy _ _ _) hp hn hR with⟨g1,p1,N1,hm1,hs1,hp1,hn1,hR1,hN1,S1⟩|⟨wq1,p1,N1,W1,hm1,hs1,hN1,hW1,S1⟩
 .have O1:=S1
  refine rg O a6 [4] [0,4] [(3,lc J E (u4 g1) N1 p1)] Z fun X1 _ _ Z=>?_
  exact wp_ret ((rgo O a6 Z (v:=g1) (q:=p1) (by simp[Rs.bind,hm1]) hN1).1)
 have O1:=S1;refine rg O a6 [4] [0,4] [(3,sc J E (.agg [.int .i64 0,.int .u64 0,.bool .ff,.int .i64 0,.sl none none 0 0 2 (fun _=>[]),.int .i64 0,.int .u64 0,.int .u64 0]) N1 W1 p1.note)] Z fun X1 _ _ Z=>?_
 exact wp_ret ((rst O a6 Z (q:=p1) (wq:=wq1) (X1 3) (by simp[Rs.bind,hm1]) hN1 (hW1 _)).1)
theorem K0(k0 b:Nat)(J:i5)(hJ:j0 J)(E:s5)(hE:E.n<=1000000)(N:Nat)(p:Pst)(hR:Rel E N p)(hp:f8 p)(hn:p.n<=1000000)(l:Lab):u2 150 k0 b J E N p [f4 l] (u4) (bj) (J9 (J.budget-E.n) l p):=u2.re (Bq b J hJ E hE N p hR hp hn l) (by repeat(first|exact trivial|refine⟨zr,?_⟩))
theorem Br(b:Nat)(J:i5)(E:s5)(hE:E.n<=1000000)(N:Nat)(q:C1)(t:Nt)(l:Lab):L0 150 0 b J E N q t [f4 l] (bj):=by
 intro m w hm hargs hpre;refine enX 9 hm hpre hargs Tryz.func150 fun B O a0 Z=>?_
 refine wp_seq (rg O a6 [0,3,4] [0,3,4] [] Z fun X0 _ _ Z=>?_);have O1:=BM 0 b J E hE N q t l;refine wp_seq (rg O a6 [4] [0,4] [(3,dc J E (.agg [.int .i64 0,.int .u64 0,.bool .ff,.int .i64 0,.sl none none 0 0 2 (fun _=>[]),.int .i64 0,.int .u64 0,.int .u64 0]) N q t)] Z fun X1 _ _ Z=>?_);exact wp_ret ((rdd O a6 Z).1)
theorem ge(k0 b:Nat)(J:i5)(E:s5)(hE:E.n<=1000000)(N:Nat)(q:C1)(t:Nt)(l:Lab):L0 150 k0 b J E N q t [f4 l] (bj):=L0.re (Br b J E hE N q t l) (by repeat(first|exact trivial|refine⟨zr,?_⟩))
theorem BH(b:Nat)(J:i5)(hJ:j0 J)(E:s5)(hE:E.n<=1000000)(N:Nat)(p:Pst)(hR:Rel E N p)(hp:f8 p)(hn:p.n<=1000000)(l:Lab)(v:Int)(x:RA):u2 140 0 b J E N p [f4 l,.int .u64 v,C6 x] (fun d=>.bool (.v d)) (.bool .ff) (N8 (J.budget-E.n) l v x.r.abs p):=by
 intro m w hm hargs hpre;have hN0:N=E.n-p.n:=by have:=hR.n;omega
 refine enX 26 hm hpre hargs Tryz.func140 fun B O a0 Z=>?_
 refine wp_seq (rg O a6 [0,2,5,7] [0,5,7] [] Z fun X0 _ _ Z=>?_);apply wp_seq
 rcases(BO 0 b J hJ E hE N p hR hp hn l v x).two (cy _ _ _) hp hn hR with⟨g1,p1,N1,hm1,hs1,hp1,hn1,hR1,hN1,S1⟩|⟨wq1,p1,N1,W1,hm1,hs1,hN1,hW1,S1⟩
 .have O1:=S1
  refine rg O a6 [0,9] [0,9] [(5,lc J E (u4 g1) N1 p1)] Z fun X1 _ _ Z=>?_
  refine wp_seq (rg O a6 [8] [0] [] Z fun X2 _ _ Z=>?_);refine wp_ret ((rgo O a6 Z (v:=decide (g1.code=0)) (q:=p1) (by simp[N8,Rs.bind,hm1]) hN1 (he:=?_)).1);subst O;exact zr
 have O1:=S1;refine rg O a6 [0,9] [0,9] [(5,sc J E (.agg [.int .i64 0,.int .u64 0,.bool .ff,.int .i64 0,.sl none none 0 0 2 (fun _=>[]),.int .i64 0,.int .u64 0,.int .u64 0]) N1 W1 p1.note)] Z fun X1 _ _ Z=>?_
 refine wp_seq (rg O a6 [8] [0] [] Z fun X2 _ _ Z=>?_);exact wp_ret ((rst O a6 Z (q:=p1) (wq:=wq1) (X1 5) (by simp[N8,Rs.bind,hm1]) hN1 (hW1 _)).1)
theorem bN(k0 b:Nat)(J:i5)(hJ:j0 J)(E:s5)(hE:E.n<=1000000)(N:Nat)(p:Pst)(hR:Rel E N p)(hp:f8 p)(hn:p.n<=1000000)(l:Lab)(v:Int)(x:RA):u2 140 k0 b J E N p [f4 l,.int .u64 v,C6 x] (fun d=>.bool (.v d)) (.bool .ff) (N8 (J.budget-E.n) l v x.r.abs p):=u2.re (BH b J hJ E hE N p hR hp hn l v x) (by repeat(first|exact trivial|refine⟨zr,?_⟩))
theorem BI(b:Nat)(J:i5)(E:s5)(hE:E.n<=1000000)(N:Nat)(q:C1)(t:Nt)(l:Lab)(v:Int)(x:RA):L0 140 0 b J E N q t [f4 l,.int .u64 v,C6 x] (.bool .ff):=by
 intro m w hm hargs hpre;refine enX 26 hm hpre hargs Tryz.func140 fun B O a0 Z=>?_
 refine wp_seq (rg O a6 [0,2,5,7] [0,5,7] [] Z fun X0 _ _ Z=>?_);have O1:=BP 0 b J E hE N q t l v x;refine wp_seq (rg O a6 [0,9] [0,9] [(5,dc J E (.agg [.int .i64 0,.int .u64 0,.bool .ff,.int .i64 0,.sl none none 0 0 2 (fun _=>[]),.int .i64 0,.int .u64 0,.int .u64 0]) N q t)] Z fun X1 _ _ Z=>?_);refine wp_seq (rg O a6 [8] [0] [] Z fun X2 _ _ Z=>?_);exact wp_ret ((rdd O a6 Z).1)
theorem FD(k0 b:Nat)(J:i5)(E:s5)(hE:E.n<=1000000)(N:Nat)(q:C1)(t:Nt)(l:Lab)(v:Int)(x:RA):L0 140 k0 b J E N q t [f4 l,.int .u64 v,C6 x] (.bool .ff):=L0.re (BI b J E hE N q t l v x) (by repeat(first|exact trivial|refine⟨zr,?_⟩))
theorem BC(b:Nat)(J:i5)(hJ:j0 J)(E:s5)(hE:E.n<=1000000)(N:Nat)(p:Pst)(hR:Rel E N p)(hp:f8 p)(hn:p.n<=1000000)(l:Lab)(v:Int):u2 239 0 b J E N p [f4 l,.int .u64 v] (fun d=>.bool (.v d)) (.bool .ff) (ie (J.budget-E.n) l v p):=by
 intro m w hm hargs hpre;have hN0:N=E.n-p.n:=by have:=hR.n;omega
 refine enX 23 hm hpre hargs Tryz.func239 fun B O a0 Z=>?_
 refine wp_seq (rg O a6 [0,2,4] [0,4] [] Z fun X0 _ _ Z=>?_);apply wp_seq
 rcases(BN 0 b J hJ E hE N p hR hp hn l v).two (cy _ _ _) hp hn hR with⟨g1,p1,N1,hm1,hs1,hp1,hn1,hR1,hN1,S1⟩|⟨wq1,p1,N1,W1,hm1,hs1,hN1,hW1,S1⟩
 .have O1:=S1
  refine rg O a6 [0,7] [0,7] [(4,lc J E (u4 g1) N1 p1)] Z fun X1 _ _ Z=>?_
  refine wp_seq (rg O a6 [6] [0] [] Z fun X2 _ _ Z=>?_);refine wp_ret ((rgo O a6 Z (v:=decide (g1.code=0)) (q:=p1) (by simp[ie,Rs.bind,hm1]) hN1 (he:=?_)).1);subst O;exact zr
 have O1:=S1;refine rg O a6 [0,7] [0,7] [(4,sc J E (.agg [.int .i64 0,.int .u64 0,.bool .ff,.int .i64 0,.sl none none 0 0 2 (fun _=>[]),.int .i64 0,.int .u64 0,.int .u64 0]) N1 W1 p1.note)] Z fun X1 _ _ Z=>?_
 refine wp_seq (rg O a6 [6] [0] [] Z fun X2 _ _ Z=>?_);exact wp_ret ((rst O a6 Z (q:=p1) (wq:=wq1) (X1 4) (by simp[ie,Rs.bind,hm1]) hN1 (hW1 _)).1)
theorem rN(k0 b:Nat)(J:i5)(hJ:j0 J)(E:s5)(hE:E.n<=1000000)(N:Nat)(p:Pst)(hR:Rel E N p)(hp:f8 p)(hn:p.n<=1000000)(l:Lab)(v:Int):u2 239 k0 b J E N p [f4 l,.int .u64 v] (fun d=>.bool (.v d)) (.bool .ff) (ie (J.budget-E.n) l v p):=u2.re (BC b J hJ E hE N p hR hp hn l v) (by repeat(first|exact trivial|refine⟨zr,?_⟩))
theorem A8(g:r9)(k:Int):k7 Tryz.prog 151 [u4 g,.int .i64 k] (fun _=>.bool (.v (gk g k))):=by
 intro m w hm hargs;refine en 14 hm hargs Tryz.func151 fun B O a0 Z=>?_
 refine wp_seq (rg O a6 [1,2] [2] [] Z fun X0 _ _ Z=>?_);refine wp_seq (rg O a6 [4] [] [] Z fun X1 _ _ Z=>?_);refine wp_ret ((rsi O a6 Z f9 (he:=?_)));subst O;refine Sim.bool ?_
 show(if g.has=true then decide (g.x.r.kd=k)else false)=_
 unfold gk;cases g.has<;>rfl
theorem jh:k7 Tryz.prog 261 [] (fun _=>xx):=by
 intro m w hm hargs;have SN:=eS;simp only[f4,B7]at SN;refine en 3 hm hargs Tryz.func261 fun B O a0 Z=>?_
 refine wp_seq (rg O a6 [0] [0] [] Z fun X0 _ _ Z=>?_);have O1:=SN;refine wp_seq (rg O a6 [0] [0] [(0,.r fun _=>.agg [.int .i64 (-1),.int .u64 0])] Z fun X1 _ _ Z=>?_);exact wp_ret ((rsp O a6 Z f9).1)
theorem gd(k:Int):k7 Tryz.prog 151 [bj,.int .i64 k] (fun _=>.bool .ff):=
 have h:k7 Tryz.prog 151 [bj,.int .i64 k] (fun _=>.bool (.v (gk oZ k))):=(A8 oZ k).sim ⟨Sim.agg ⟨zr,zr,Sim.ff,zr,zq0,zr,zr,zr,trivial⟩,zr,trivial⟩
 h.res fun _=>Sim.bool rfl
theorem tw(k0 b:Nat)(J:i5)(hJ:j0 J)(E:s5)(hE:E.n<=1000000)(N:Nat)(p:Pst)(hR:Rel E N p)(hp:f8 p)(hn:p.n<=1000000)(l:Lab)(v:Int):u2 140 k0 b J E N p [f4 l,.int .u64 v,xx] (fun d=>.bool (.v d)) (.bool .ff) (N8 (J.budget-E.n) l v eF p):=
 u2.re (bN 0 b J hJ E hE N p hR hp hn l v ⟨none,0,eF.rn⟩) ⟨zr,zr,Sim.agg ⟨zr,I9,zr,zr,zr,trivial⟩,trivial⟩
theorem tx(k0 b:Nat)(J:i5)(E:s5)(hE:E.n<=1000000)(N:Nat)(q:C1)(t:Nt)(l:Lab)(v:Int):L0 140 k0 b J E N q t [f4 l,.int .u64 v,xx] (.bool .ff):=
 L0.re (FD 0 b J E hE N q t l v ⟨none,0,eF.rn⟩) ⟨zr,zr,Sim.agg ⟨zr,I9,zr,zr,zr,trivial⟩,trivial⟩
def fzJ:Fz->Int
 | .over=> -1
 | .unfit=>0
 | .fr _=>1
def tk(z:Fz):AV:=.tup [C6 (fzR z),.int .i64 (fzJ z)]
theorem Hy{z:Fz}(h:fzJ z<0):z = .over:=by cases z<;>first|rfl|(simp[fzJ]at h)
theorem Hx{z:Fz}(h:fzJ z=0):z = .unfit:=by cases z<;>first|rfl|(simp[fzJ]at h)
theorem Fd{z:Fz}(h0:¬fzJ z<0)(h1:¬fzJ z=0):z = .fr (fzR z):=by cases z<;>first|rfl|exact absurd rfl h1|exact absurd (by decide) h0
theorem vz:K8 zRA:=⟨⟨by decide,by decide⟩,fun i hi=>absurd hi (Nat.not_lt_zero _),by decide⟩
theorem Bs(b:Nat)(J:i5)(hJ:j0 J)(E:s5)(hE:E.n<=1000000)(N:Nat)(p:Pst)(hR:Rel E N p)(hp:f8 p)(hn:p.n<=1000000)(l:Lab)(v:Int)(d:Lab)(n:Nat)(hf:p.n<n):u2 262 0 b J E N p [f4 l,.int .u64 v,f4 d] (tk) (.tup [.agg [.int .i64 0,.sl none none 0 0 2 (fun _=>[]),.int .i64 0,.int .u64 0,.int .u64 0],.int .i64 (-1)]) (M8 (J.budget-E.n) l v d n p):=by
 intro m w hm hargs hpre;have hN0:N=E.n-p.n:=by have:=hR.n;omega
 refine enX 76 hm hpre hargs Tryz.func262 fun B O a0 Z=>?_
 refine wp_seq (rg O a6 [0,2,5,7,8] [0,5,7,8] [] Z fun X0 _ _ Z=>?_);refine wp_seq (wp_block (l4 (ι:=LSt) (fun q=>[]) (fun q=>[(0,⟨b,174,lsC J E q⟩)]) (fun q=>[]) (fun q=>match q with| .go a r M=>M8 (J.budget-E.n) l v d n p=M8 (J.budget-E.n) l v d a r/\f8 r/\r.n<=1000000/\Rel E M r/\r.n<a/\r.n<=p.n| .dn r M=>False| .sp M Q u=>∃(X:i8) (wq:Wq) (pp:Pst),M8 (J.budget-E.n) l v d n p = .stop wq pp/\M=E.n-pp.n/\Q=wqA X wq/\u=pp.note) (fun q=>lsM q) (.go n p N) ⟨rfl,hp,hn,hR,(by skip;omega),(by skip;omega)⟩ Z ?_))
 rintro q hJ _ _ Z
 rcases q with⟨nn0,p0,N0⟩|⟨p9,N9⟩|⟨N0,Q0,t0⟩
 .dsimp only[lsC,lsB]at hJ Z
  obtain⟨hrun0,hp0,hn0,hR0,hf0,hle0⟩:=hJ;obtain⟨m0,rfl⟩:∃n2,nn0=n2+1:=⟨nn0-1,by omega⟩
  have hN0:N0=E.n-p0.n:=by have:=hR0.n;omega
  refine wp_seq (wp_seq (rg O a6 [17,0,2,5,7,8] [0,5,7,8] [] Z fun X1 _ _ Z=>?_));refine j1 Z rfl (fun Z=>?_);refine wp_skip (wp_block (wp_seq ?_))
  rcases(K0 0 b J hJ E hE N0 p0 hR0 hp0 hn0 d).two (i7 _ _ _) hp0 hn0 hR0 with⟨g1,p2,N2,hm2,hs2,hp2,hn2,hR2,hN2,S2⟩|⟨wq2,p2,N2,W2,hm2,hs2,hN2,hW2,S2⟩
  .have hl2:=u5 hm2
   have hg2:=hp0.get hm2;have O1:=S2;refine rg O a6 [0,2,5,7,8,10] [0,5,7,8,10] [(2,lc J E (u4 g1) N2 p2)] Z fun X2 _ _ Z=>?_
   refine wp_seq (wp_seq (rg O a6 [24,0,2,5,7,8,10] [0,5,7,8,10] [] Z fun X3 _ _ Z=>?_));refine j3 Z rfl (fun Z=>?_);obtain⟨q5,hq5⟩:=eqv (gk g1 1);obtain⟨r5,hr5⟩:=eqv (gk g1 5);refine wp_skip (wp_seq (wp_seq ?_));refine rg O a6 [33,0,2,5,7,8,10] [0,5,7,8,10] [(1,.r fun _=>.bool (.v q5)),(5,.r fun _=>.bool (.v r5))] Z (hob:=by intro X;subst O;simp only[b7,Ob.holds,BE.den]<;>and_intros<;>repeat first|trivial|rfl|exact(by rw[hq5];exact A8 g1 1)|exact by rw[hq5];exact A8 g1 1|exact(by rw[hr5];exact A8 g1 5)|exact by rw[hr5];exact A8 g1 5|exact(fun _ _=>by kernel_rfl)|refine⟨?_,?_⟩|intro h|exact Int.le_refl _|decide|omega) fun X5 _ _ Z=>?_
   apply a7 Z rfl<;>intro hb Z
   .have t5:(gk g1 1||gk g1 5)=false:=by subst O;rw[<-hq5,<-hr5];revert hb;cases q5<;>cases r5<;>simp[std]
    refine wp_seq (rg O a6 [8,9] [0,8] [] Z fun X6 _ _ Z=>?_);refine wp_ret ((rgo O a6 Z (v:=Fz.unfit) (q:=p2) (by simp[Rs.bind,hrun0,M8,hm2,t5]) hN2 (he:=?_)).1);subst O;exact Sim.tup ⟨Sim.agg ⟨zr,I9,zr,zr,zr,trivial⟩,zr,trivial⟩
   have t5:(gk g1 1||gk g1 5)=true:=by subst O;rw[<-hq5,<-hr5];revert hb;cases q5<;>cases r5<;>simp[std]
   obtain⟨q7,hq7⟩:=eqv (gk g1 5);refine wp_skip (wp_seq (wp_seq ?_));refine rg O a6 [43,0,2,5,7,8,10] [0,5,7,8,10] [(1,.r fun _=>.bool (.v q7))] Z (hob:=by intro X;subst O;simp only[b7,Ob.holds,BE.den]<;>and_intros<;>repeat first|trivial|rfl|exact(by rw[hq7];exact A8 g1 5)|exact by rw[hq7];exact A8 g1 5|exact(fun _ _=>by kernel_rfl)|refine⟨?_,?_⟩|intro h|exact Int.le_refl _|decide|omega) fun X7 _ _ Z=>?_
   apply a7 Z rfl<;>intro hb Z
   .have t7:(gk g1 5&&decide (g1.x.r.mrk=v))=true:=by subst O;rw[<-hq7];revert hb;cases q7<;>simp[std,a8]
    refine wp_seq (rg O a6 [8,9] [0,8] [] Z fun X8 _ _ Z=>?_);exact wp_ret ((rgo O a6 Z (v:=(Fz.fr g1.x)) (q:=p2) (by simp[Rs.bind,hrun0,M8,hm2,t5,t7]) hN2).1)
   have t7:(gk g1 5&&decide (g1.x.r.mrk=v))=false:=by subst O;rw[<-hq7];revert hb;cases q7<;>simp[std,a8]
   refine wp_skip (wp_seq ?_)
   rcases(K0 0 b J hJ E hE N2 p2 hR2 hp2 hn2 l).two (i7 _ _ _) hp2 hn2 hR2 with⟨g9,p9,N9,hm9,hs9,hp9,hn9,hR9,hN9,S9⟩|⟨wq9,p9,N9,W9,hm9,hs9,hN9,hW9,S9⟩
   .have hl9:=u5 hm9
    have hg9:=hp2.get hm9;have O1:=S9;refine rg O a6 [0,2,5,7,8,10,11] [0,5,7,8,10,11] [(2,lc J E (u4 g9) N9 p9)] Z fun X9 _ _ Z=>?_
    refine wp_seq (wp_seq (rg O a6 [58,0,2,5,7,8,10] [0,5,7,8,10] [] Z fun X10 _ _ Z=>?_));apply a7 Z rfl<;>intro hb Z
    .have t10:¬g9.ver=v:=by
      have h9:(g9.ver != v)=true:=by subst O;exact hb
      simpa using h9
     refine wp_seq (rg O a6 [8,9] [0,8] [] Z fun X11 _ _ Z=>?_);refine wp_ret ((rgo O a6 Z (v:=Fz.over) (q:=p9) (by simp[Rs.bind,hrun0,M8,hm2,t5,t7,hm9,t10]) hN9 (he:=?_)).1);subst O;exact Sim.tup ⟨Sim.agg ⟨zr,I9,zr,zr,zr,trivial⟩,zr,trivial⟩
    have t10:g9.ver=v:=by
     have h9:(g9.ver != v)=false:=by subst O;exact hb
     simpa using h9
    refine wp_skip (wp_seq (rg O a6 [0,2,5,7,8,10,12] [0,5,7,8,10,12] [] Z fun X12 _ _ Z=>?_));apply wp_seq
    rcases(bN 0 b J hJ E hE N9 p9 hR9 hp9 hn9 d g1.ver (asR 5 g1.x v)).two (l5 _ _ _ _ _) hp9 hn9 hR9 with⟨d9,p13,N13,hm13,hs13,hp13,hn13,hR13,hN13,S13⟩|⟨wq13,p13,N13,W13,hm13,hs13,hN13,hW13,S13⟩
    .have O1:=S13
     refine rg O a6 [73,0,2,5,7,8,12] [0,5,7,8,12] [(5,lc J E (.bool (.v d9)) N13 p13)] Z fun X13 _ _ Z=>?_
     apply a7 Z rfl<;>intro hb Z
     .have t13:d9=true:=by exact hb
      refine wp_seq (rg O a6 [8,9] [0,8] [] Z fun X14 _ _ Z=>?_);exact wp_ret ((rgo O a6 Z (v:=(Fz.fr (asR 5 g1.x v))) (q:=p13) (by simp[Rs.bind,hrun0,M8,hm2,t5,t7,hm9,t10,hm13,t13]) hN13).1)
     have t13:d9=false:=by exact hb
     replace Z:=Z.keep [0,2,5,7,8] [0,5,7,8];exact wp_skip (⟨.go m0 p13 N13,⟨by rw[hrun0];simp[M8,Rs.bind,hrun0,M8,hm2,t5,t7,hm9,t10,hm13,t13],hp13,hn13,hR13,by have:=hl2;have:=hs9.le;have:=hs13.le;have:=hf0;omega,by have:=hl2;have:=hs9.le;have:=hs13.le;have:=hle0;omega⟩,by simp[lsM],Z⟩)
    have O1:=S13;refine rg O a6 [73,0,2,5,7,8,12] [0,5,7,8,12] [(5,sc J E (.bool .ff) N13 W13 p13.note)] Z fun X13 _ _ Z=>?_
    refine j3 Z rfl (fun Z=>?_);replace Z:=Z.keep [0,2,5,7,8] [0,5,7,8];exact wp_skip (⟨.sp N13 (W13 (X13 5)) p13.note,⟨(X13 5),wq13,p13,by simp[Rs.bind,hrun0,M8,hm2,t5,t7,hm9,t10,hm13],hN13,(hW13 _),rfl⟩,by simp[lsM],Z⟩)
   have O1:=S9;refine rg O a6 [0,2,5,7,8,10,11] [0,5,7,8,10,11] [(2,sc J E (.agg [.int .i64 0,.int .u64 0,.bool .ff,.int .i64 0,.sl none none 0 0 2 (fun _=>[]),.int .i64 0,.int .u64 0,.int .u64 0]) N9 W9 p9.note)] Z fun X9 _ _ Z=>?_
   refine wp_seq (wp_seq (rg O a6 [58,0,2,5,7,8,10] [0,5,7,8,10] [] Z fun X10 _ _ Z=>?_));refine j1 Z rfl (fun Z=>?_);refine wp_seq (rg O a6 [8,9] [0,8] [] Z fun X11 _ _ Z=>?_);exact wp_ret ((rst O a6 Z (q:=p9) (wq:=wq9) (X9 2) (by simp[Rs.bind,hrun0,M8,hm2,t5,t7,hm9]) hN9 (hW9 _)).1)
  have O1:=S2;refine rg O a6 [0,2,5,7,8,10] [0,5,7,8,10] [(2,sc J E (.agg [.int .i64 0,.int .u64 0,.bool .ff,.int .i64 0,.sl none none 0 0 2 (fun _=>[]),.int .i64 0,.int .u64 0,.int .u64 0]) N2 W2 p2.note)] Z fun X2 _ _ Z=>?_
  refine wp_seq (wp_seq (rg O a6 [24,0,2,5,7,8,10] [0,5,7,8,10] [] Z fun X3 _ _ Z=>?_));refine j1 Z rfl (fun Z=>?_);refine wp_seq (rg O a6 [8,9] [0,8] [] Z fun X4 _ _ Z=>?_);exact wp_ret ((rst O a6 Z (q:=p2) (wq:=wq2) (X2 2) (by simp[Rs.bind,hrun0,M8,hm2]) hN2 (hW2 _)).1)
 .exact (hJ:False).elim
 dsimp only[lsC,lsB]at hJ Z;obtain⟨X0,wq0,pp0,hsp0,hN0,hW0,ht0⟩:=hJ;subst ht0;refine wp_seq (wp_seq (rg O a6 [17,0,2,5,7,8] [0,5,7,8] [] Z fun X1 _ _ Z=>?_));refine j3 Z rfl (fun Z=>?_);refine wp_exit (wp_seq (rg O a6 [8,9] [0,8] [] Z fun X15 _ _ Z=>?_));exact wp_ret ((rst O a6 Z (q:=pp0) (wq:=wq0) X0 (hsp0) hN0 hW0).1)
theorem yd(k0 b:Nat)(J:i5)(hJ:j0 J)(E:s5)(hE:E.n<=1000000)(N:Nat)(p:Pst)(hR:Rel E N p)(hp:f8 p)(hn:p.n<=1000000)(l:Lab)(v:Int)(d:Lab)(n:Nat)(hf:p.n<n):u2 262 k0 b J E N p [f4 l,.int .u64 v,f4 d] (tk) (.tup [.agg [.int .i64 0,.sl none none 0 0 2 (fun _=>[]),.int .i64 0,.int .u64 0,.int .u64 0],.int .i64 (-1)]) (M8 (J.budget-E.n) l v d n p):=u2.re (Bs b J hJ E hE N p hR hp hn l v d n hf) (by repeat(first|exact trivial|refine⟨zr,?_⟩))
def oY(n:Nat):Prop:=∀(k0 b:Nat) (J:i5) (hJ:j0 J) (E:s5) (hE:E.n<=1000000) (N:Nat) (p:Pst) (hR:Rel E N p) (hp:f8 p) (hn:p.n<=1000000) (l:Lab) (hl:LOk l),p.n<n->u2 167 k0 b J E N p [f4 l] (fun _=>i4) i4 (I6 J.bucket (J.budget-E.n) n l p)
def Gd(n:Nat):Prop:=∀(k0 b:Nat) (J:i5) (hJ:j0 J) (E:s5) (hE:E.n<=1000000) (N:Nat) (p:Pst) (hR:Rel E N p) (hp:f8 p) (hn:p.n<=1000000) (l:Lab) (hl:LOk l),p.n<n->u2 165 k0 b J E N p [f4 l] (fun _=>i4) i4 (E5 (J.budget-E.n) n l p)
def tO(n:Nat):Prop:=∀(k0 b:Nat) (J:i5) (hJ:j0 J) (E:s5) (hE:E.n<=1000000) (N:Nat) (p:Pst) (hR:Rel E N p) (hp:f8 p) (hn:p.n<=1000000) (l:Lab) (hl:LOk l) (g:r9) (hg:cW g) (hgh:g.has=true),p.n<n->u2 141 k0 b J E N p [f4 l,u4 g] (fun _=>i4) i4 (R3 J.bucket (J.budget-E.n) n l g p)
theorem Bb(b:Nat)(J:i5)(E:s5)(hE:E.n<=1000000)(N:Nat)(q:C1)(t:Nt)(l:Lab)(hl:LOk l):L0 167 0 b J E N q t [f4 l] (i4):=by
 intro m w hm hargs hpre;have SP:=kL l hl.u;simp only[f4]at SP;obtain⟨up,hup⟩:=eqv (F8 l);rw[<-hup]at SP;obtain⟨ue,hue⟩:=eqv (G2 l);rw[<-hue]at SP;refine enX 66 hm hpre hargs Tryz.func167 fun B O a0 Z=>?_
 refine wp_seq (rg O a6 [0,3] [0,3] [] Z fun X0 _ _ Z=>?_);have O1:=SP;refine wp_seq (rg O a6 [0,3,4,5] [0,3,4] [(1,.r fun _=>.tup [.agg [.int .i64 up.len,.int .u64 up.bits],.int .i64 ue])] Z fun X1 _ _ Z=>?_);refine wp_seq (wp_seq (rg O a6 [14,0,3,4] [0,3,4] [] Z fun X2 _ _ Z=>?_));apply a7 Z rfl<;>intro hb Z
 .have t0:¬ue=0:=by subst O;simpa[std,a8]using hb
  exact wp_ret ((rdd O a6 Z).1)
 have t0:ue=0:=by subst O;simpa[std,a8]using hb
 refine wp_skip (wp_block (wp_loop_rounds 2 (C0 (wp_seq (wp_seq (rg O a6 [19,0,3,4] [0,3,4] [] Z fun X3 _ _ Z=>?_))))));refine j3 Z rfl (fun Z=>?_);exact wp_exit ((rdd O a6 Z).2)
theorem Fg(k0 b:Nat)(J:i5)(E:s5)(hE:E.n<=1000000)(N:Nat)(q:C1)(t:Nt)(l:Lab)(hl:LOk l):L0 167 k0 b J E N q t [f4 l] (i4):=L0.re (Bb b J E hE N q t l hl) (by repeat(first|exact trivial|refine⟨zr,?_⟩))
theorem BK(b:Nat)(J:i5)(hJ:j0 J)(E:s5)(hE:E.n<=1000000)(N:Nat)(p:Pst)(hR:Rel E N p)(hp:f8 p)(hn:p.n<=1000000)(l:Lab)(hl:LOk l)(v:Int)(x0 x1:Lab)(hx0:x0=chV l 0)(hx1:x1=chV l 1)(n:Nat)(hth:oY n)(hf:p.n<n):u2 263 0 b J E N p [f4 l,.int .u64 v,f4 x0,f4 x1] (fun _=>i4) (i4) (aS (J.budget-E.n) (I6 J.bucket (J.budget-E.n) n) l v p):=by
 intro m w hm hargs hpre;have hN0:N=E.n-p.n:=by have:=hR.n;omega
 have hk0:LOk x0:=by rw[hx0];exact hl.ch 0
 have hk1:LOk x1:=by rw[hx1];exact hl.ch 1
 refine enX 21 hm hpre hargs Tryz.func263 fun B O a0 Z=>?_
 refine wp_seq (rg O a6 [0,2,6,8,9] [0,6,8,9] [] Z fun X0 _ _ Z=>?_);apply wp_seq
 rcases(tw 0 b J hJ E hE N p hR hp hn l v).two (l5 _ _ _ _ _) hp hn hR with⟨d1,p1,N1,hm1,hs1,hp1,hn1,hR1,hN1,S1⟩|⟨wq1,p1,N1,W1,hm1,hs1,hN1,hW1,S1⟩
 .have O1:=jh
  have O2:=S1;refine drg O a6 [14,0,8,9] [0,8,9] [(3,.r fun _=>.agg [.int .i64 2,.sl none none 0 0 2 (fun _=>[]),.int .i64 (-1),.int .u64 0,.int .u64 0]),(4,lc J E (.bool (.v d1)) N1 p1)] Z fun X1 _ _ Z=>?_
  apply a7 Z rfl<;>intro hb Z
  .have t1:d1=true:=by exact hb
   apply wp_seq
   rcases(hth 0 b J hJ E hE N1 p1 hR1 hp1 hn1 x0 hk0 (by have:=hs1.le;omega)).two (E7 _ _ _ _ _) hp1 hn1 hR1 with⟨v2,p2,N2,hm2,hs2,hp2,hn2,hR2,hN2,S2⟩|⟨wq2,p2,N2,W2,hm2,hs2,hN2,hW2,S2⟩
   .have O1:=S2
    refine rg O a6 [0,9] [0,9] [(2,lc J E (i4) N2 p2)] Z fun X2 _ _ Z=>?_
    rcases(hth 0 b J hJ E hE N2 p2 hR2 hp2 hn2 x1 hk1 (by have:=hs1.le;have:=hs2.le;omega)).two (E7 _ _ _ _ _) hp2 hn2 hR2 with⟨v3,p3,N3,hm3,hs3,hp3,hn3,hR3,hN3,S3⟩|⟨wq3,p3,N3,W3,hm3,hs3,hN3,hW3,S3⟩
    .have O1:=S3
     refine rg O a6 [] [0] [(2,lc J E (i4) N3 p3)] Z fun X3 _ _ Z=>?_
     exact(rgo O a6 Z (v:=()) (q:=p3) (by simp[aS,<-hx0,<-hx1,Rs.bind,hm1,t1,hm2,hm3]) hN3).2
    have O1:=S3;refine rg O a6 [] [0] [(2,sc J E (i4) N3 W3 p3.note)] Z fun X3 _ _ Z=>?_
    exact(rst O a6 Z (q:=p3) (wq:=wq3) (X3 2) (by simp[aS,<-hx0,<-hx1,Rs.bind,hm1,t1,hm2,hm3]) hN3 (hW3 _)).2
   have O1:=S2;refine rg O a6 [0,9] [0,9] [(2,sc J E (i4) N2 W2 p2.note)] Z fun X2 _ _ Z=>?_
   have O1:=Fg 0 b J E hE N2 (W2 (X2 2)) p2.note x1 hk1;refine rg O a6 [] [0] [(2,dc J E (i4) N2 (W2 (X2 2)) p2.note)] Z fun X3 _ _ Z=>?_
   exact(rst O a6 Z (q:=p2) (wq:=wq2) (X2 2) (by simp[aS,<-hx0,<-hx1,Rs.bind,hm1,t1,hm2]) hN2 (hW2 _)).2
  have t1:d1=false:=by exact hb
  exact wp_skip ((rgo O a6 Z (v:=()) (q:=p1) (by simp[aS,<-hx0,<-hx1,Rs.bind,hm1,t1]) hN1).2)
 have O1:=jh;have O2:=S1;refine drg O a6 [14,0,8,9] [0,8,9] [(3,.r fun _=>.agg [.int .i64 2,.sl none none 0 0 2 (fun _=>[]),.int .i64 (-1),.int .u64 0,.int .u64 0]),(4,sc J E (.bool .ff) N1 W1 p1.note)] Z fun X1 _ _ Z=>?_
 refine j3 Z rfl (fun Z=>?_);exact wp_skip ((rst O a6 Z (q:=p1) (wq:=wq1) (X1 4) (by simp[aS,<-hx0,<-hx1,Rs.bind,hm1]) hN1 (hW1 _)).2)
theorem yl(k0 b:Nat)(J:i5)(hJ:j0 J)(E:s5)(hE:E.n<=1000000)(N:Nat)(p:Pst)(hR:Rel E N p)(hp:f8 p)(hn:p.n<=1000000)(l:Lab)(hl:LOk l)(v:Int)(x0 x1:Lab)(hx0:x0=chV l 0)(hx1:x1=chV l 1)(n:Nat)(hth:oY n)(hf:p.n<n):u2 263 k0 b J E N p [f4 l,.int .u64 v,f4 x0,f4 x1] (fun _=>i4) (i4) (aS (J.budget-E.n) (I6 J.bucket (J.budget-E.n) n) l v p):=u2.re (BK b J hJ E hE N p hR hp hn l hl v x0 x1 hx0 hx1 n hth hf) (by repeat(first|exact trivial|refine⟨zr,?_⟩))
theorem yj(b:Nat)(J:i5)(hJ:j0 J)(E:s5)(hE:E.n<=1000000)(N:Nat)(p:Pst)(hR:Rel E N p)(hp:f8 p)(hn:p.n<=1000000)(l:Lab)(hl:LOk l)(n:Nat)(ih:Gd n)(hf:p.n<n+1):u2 165 0 b J E N p [f4 l] (fun _=>i4) (i4) (E5 (J.budget-E.n) (n+1) l p):=by
 intro m w hm hargs hpre;have hN0:N=E.n-p.n:=by have:=hR.n;omega
 have SC0:=T5 l hl.u 0 (.inl rfl);have SC1:=T5 l hl.u 1 (.inr rfl);have hk0:=hl.ch 0;have hk1:=hl.ch 1;simp only[f4]at SC0 SC1;obtain⟨x0,hx0⟩:=eqv (chV l 0);rw[<-hx0]at SC0 hk0;obtain⟨x1,hx1⟩:=eqv (chV l 1);rw[<-hx1]at SC1 hk1;obtain⟨y0,hy0⟩:=eqv (chE l 0);rw[<-hy0]at SC0;obtain⟨y1,hy1⟩:=eqv (chE l 1);rw[<-hy1]at SC1;have hlp:=r7 hl.isl;refine enX 59 hm hpre hargs Tryz.func165 fun B O a0 Z=>?_
 refine wp_seq (rg O a6 [0,3] [0,3] [] Z fun X0 _ _ Z=>?_);refine wp_seq (rg O a6 [4,0,3] [0,3] [] Z fun X1 _ _ Z=>?_);refine wp_block (wp_loop_rounds 3 (C0 (wp_seq (wp_seq (rg O a6 [15,0,3,4] [0,3] [] Z fun X2 _ _ Z=>?_)))));apply a7 Z rfl<;>intro hb Z
 .have h6:l.len<64:=by subst O;simpa[std,a8]using hb
  have t64:¬l.len=64:=by omega
  have O1:=SC0;refine wp_skip (wp_seq (wp_block (wp_seq (rg O a6 [0,3,4,5] [0,3,5] [(2,.r fun _=>.tup [.agg [.int .i64 x0.len,.int .u64 x0.bits],.int .i64 y0])] Z fun X4 _ _ Z=>?_))));apply wp_seq
  rcases(K0 0 b J hJ E hE N p hR hp hn x0).two (i7 _ _ _) hp hn hR with⟨g0,p50,N50,hm50,hs50,hp50,hn50,hR50,hN50,S50⟩|⟨wq50,p50,N50,W50,hm50,hs50,hN50,hW50,S50⟩
  .have hl50:=u5 hm50
   have hg50:=hp.get hm50;have O1:=S50;refine rg O a6 [0,3,4,5,7] [0,3,5,7] [(2,lc J E (u4 g0) N50 p50)] Z fun X5 _ _ Z=>?_
   refine wp_seq (wp_seq (rg O a6 [30,0,3,4,5,7] [0,3,5,7] [] Z fun X6 _ _ Z=>?_));refine j3 Z rfl (fun Z=>?_);obtain⟨q0,hq0⟩:=eqv (gk g0 5);refine wp_skip (wp_seq (wp_seq ?_));refine rg O a6 [33,0,3,4,5,7] [0,3,5,7] [(1,.r fun _=>.bool (.v q0))] Z (hob:=by intro X;subst O;simp only[b7,Ob.holds,BE.den]<;>and_intros<;>repeat first|trivial|rfl|exact(by rw[hq0];exact A8 g0 5)|exact by rw[hq0];exact A8 g0 5|exact(fun _ _=>by kernel_rfl)|refine⟨?_,?_⟩|intro h|exact Int.le_refl _|decide|omega) fun X7 _ _ Z=>?_
   apply a7 Z rfl<;>intro hb Z
   .have tq0:gk g0 5=false:=by subst O;rw[<-hq0];revert hb;cases q0<;>simp[std]
    refine wp_exit (rg O a6 [4,0,3] [0,3] [] Z fun X3 _ _ Z=>?_);replace Z:=Z.headS (v':=.int .i64 1) (by subst O;exact zr) rfl;refine j5 (wp_seq (wp_seq (rg O a6 [15,0,3,4] [0,3] [] Z fun X2 _ _ Z=>?_)));apply a7 Z rfl<;>intro hb Z
    .skip
     have O1:=SC1;refine wp_skip (wp_seq (wp_block (wp_seq (rg O a6 [0,3,4,5] [0,3,5] [(2,.r fun _=>.tup [.agg [.int .i64 x1.len,.int .u64 x1.bits],.int .i64 y1])] Z fun X4 _ _ Z=>?_))));apply wp_seq
     rcases(K0 0 b J hJ E hE N50 p50 hR50 hp50 hn50 x1).two (i7 _ _ _) hp50 hn50 hR50 with⟨g1,p51,N51,hm51,hs51,hp51,hn51,hR51,hN51,S51⟩|⟨wq51,p51,N51,W51,hm51,hs51,hN51,hW51,S51⟩
     .have hl51:=u5 hm51
      have hg51:=hp50.get hm51;have O1:=S51;refine rg O a6 [0,3,4,5,7] [0,3,5,7] [(2,lc J E (u4 g1) N51 p51)] Z fun X5 _ _ Z=>?_
      refine wp_seq (wp_seq (rg O a6 [30,0,3,4,5,7] [0,3,5,7] [] Z fun X6 _ _ Z=>?_));refine j3 Z rfl (fun Z=>?_);obtain⟨q1,hq1⟩:=eqv (gk g1 5);refine wp_skip (wp_seq (wp_seq ?_));refine rg O a6 [33,0,3,4,5,7] [0,3,5,7] [(1,.r fun _=>.bool (.v q1))] Z (hob:=by intro X;subst O;simp only[b7,Ob.holds,BE.den]<;>and_intros<;>repeat first|trivial|rfl|exact(by rw[hq1];exact A8 g1 5)|exact by rw[hq1];exact A8 g1 5|exact(fun _ _=>by kernel_rfl)|refine⟨?_,?_⟩|intro h|exact Int.le_refl _|decide|omega) fun X7 _ _ Z=>?_
      apply a7 Z rfl<;>intro hb Z
      .have tq1:gk g1 5=false:=by subst O;rw[<-hq1];revert hb;cases q1<;>simp[std]
       refine wp_exit (rg O a6 [4,0,3] [0,3] [] Z fun X3 _ _ Z=>?_);replace Z:=Z.headS (v':=.int .i64 2) (by subst O;exact zr) rfl;refine j5 (wp_seq (wp_seq (rg O a6 [15,0,3,4] [0,3] [] Z fun X2 _ _ Z=>?_)));replace Z:=Z.headS (v':=.bool .ff) (Sim.bool (by subst O;rfl)) rfl;refine j3 Z rfl (fun Z=>?_);exact wp_exit ((rgo O a6 Z (v:=()) (q:=p51) (by simp[E5,I0,<-hx0,<-hx1,Rs.bind,t64,hm50,tq0,hm51,tq1]) hN51).2)
      have tq1:gk g1 5=true:=by subst O;rw[<-hq1];revert hb;cases q1<;>simp[std]
      refine wp_skip (wp_seq ?_)
      rcases(ih 0 b J hJ E hE N51 p51 hR51 hp51 hn51 x1 hk1 (by skip;have:=hl50;have:=hl51;omega)).two (Y7 _ _ _ _) hp51 hn51 hR51 with⟨v81,p81,N81,hm81,hs81,hp81,hn81,hR81,hN81,S81⟩|⟨wq81,p81,N81,W81,hm81,hs81,hN81,hW81,S81⟩
      .have O1:=S81
       refine rg O a6 [0,3,4,5,7] [0,3,5,7] [(2,lc J E (i4) N81 p81)] Z fun X8 _ _ Z=>?_
       apply wp_seq
       rcases(K0 0 b J hJ E hE N81 p81 hR81 hp81 hn81 l).two (i7 _ _ _) hp81 hn81 hR81 with⟨h1,p91,N91,hm91,hs91,hp91,hn91,hR91,hN91,S91⟩|⟨wq91,p91,N91,W91,hm91,hs91,hN91,hW91,S91⟩
       .have hl91:=u5 hm91
        have hg91:=hp81.get hm91;have O1:=S91;refine rg O a6 [0,3,4,5,7,8] [0,3,5,7,8] [(2,lc J E (u4 h1) N91 p91)] Z fun X9 _ _ Z=>?_
        obtain⟨r1,hr1⟩:=eqv (gk h1 1);obtain⟨s1,hs1⟩:=eqv (gk h1 5);refine wp_seq (wp_seq ?_);refine rg O a6 [53,0,3,4,5,7] [0,3,5,7] [(6,.r fun _=>.bool (.v r1)),(10,.r fun _=>.bool (.v s1))] Z (hob:=by intro X;subst O;simp only[b7,Ob.holds,BE.den]<;>and_intros<;>repeat first|trivial|rfl|exact(by rw[hr1];exact A8 h1 1)|exact by rw[hr1];exact A8 h1 1|exact(by rw[hs1];exact A8 h1 5)|exact by rw[hs1];exact A8 h1 5|exact(fun _ _=>by kernel_rfl)|refine⟨?_,?_⟩|intro h|exact Int.le_refl _|decide|omega) fun X10 _ _ Z=>?_
        apply a7 Z rfl<;>intro hb Z
        .have tr1:(gk h1 1||gk h1 5)=false:=by subst O;rw[<-hr1,<-hs1];revert hb;cases r1<;>cases s1<;>simp[std]
         exact wp_ret ((rgo O a6 Z (v:=()) (q:=p91) (by simp[E5,I0,<-hx0,<-hx1,Rs.bind,t64,hm50,tq0,hm51,tq1,hm81,hm91,tr1]) hN91).1)
        have tr1:(gk h1 1||gk h1 5)=true:=by subst O;rw[<-hr1,<-hs1];revert hb;cases r1<;>cases s1<;>simp[std]
        refine wp_skip ?_
        rcases(rN 0 b J hJ E hE N91 p91 hR91 hp91 hn91 x1 g1.ver).two (dz _ _ _ _) hp91 hn91 hR91 with⟨d1,p111,N111,hm111,hs111,hp111,hn111,hR111,hN111,S111⟩|⟨wq111,p111,N111,W111,hm111,hs111,hN111,hW111,S111⟩
        .have O1:=S111
         refine rg O a6 [0,3,4] [0,3] [(4,lc J E (.bool (.v d1)) N111 p111)] Z fun X11 _ _ Z=>?_
         refine rg O a6 [4,0,3] [0,3] [] Z fun X3 _ _ Z=>?_
         replace Z:=Z.headS (v':=.int .i64 2) (by subst O;exact zr) rfl;refine j5 (wp_seq (wp_seq (rg O a6 [15,0,3,4] [0,3] [] Z fun X2 _ _ Z=>?_)));replace Z:=Z.headS (v':=.bool .ff) (Sim.bool (by subst O;rfl)) rfl;refine j3 Z rfl (fun Z=>?_);exact wp_exit ((rgo O a6 Z (v:=()) (q:=p111) (by simp[E5,I0,<-hx0,<-hx1,Rs.bind,t64,hm50,tq0,hm51,tq1,hm81,hm91,tr1,hm111]) hN111).2)
        have O1:=S111;refine rg O a6 [0,3,4] [0,3] [(4,sc J E (.bool .ff) N111 W111 p111.note)] Z fun X11 _ _ Z=>?_
        refine rg O a6 [4,0,3] [0,3] [] Z fun X3 _ _ Z=>?_
        replace Z:=Z.headS (v':=.int .i64 2) (by subst O;exact zr) rfl;refine j5 (wp_seq (wp_seq (rg O a6 [15,0,3,4] [0,3] [] Z fun X2 _ _ Z=>?_)));replace Z:=Z.headS (v':=.bool .ff) (Sim.bool (by subst O;rfl)) rfl;refine j3 Z rfl (fun Z=>?_);exact wp_exit ((rst O a6 Z (q:=p111) (wq:=wq111) (X11 4) (by simp[E5,I0,<-hx0,<-hx1,Rs.bind,t64,hm50,tq0,hm51,tq1,hm81,hm91,tr1,hm111]) hN111 (hW111 _)).2)
       have O1:=S91;refine rg O a6 [0,3,4,5,7,8] [0,3,5,7,8] [(2,sc J E (.agg [.int .i64 0,.int .u64 0,.bool .ff,.int .i64 0,.sl none none 0 0 2 (fun _=>[]),.int .i64 0,.int .u64 0,.int .u64 0]) N91 W91 p91.note)] Z fun X9 _ _ Z=>?_
       obtain⟨bs,hbs⟩:∃b:Bool,b=true:=⟨_,rfl⟩
       replace Z:=Z.memS (cQ hbs J E N91 (W91 (X9 2)) p91.note);refine wp_seq (wp_seq ?_);refine rg O a6 [53,0,3,4,5,7] [0,3,5,7] [(6,.r fun _=>.bool .ff),(10,.r fun _=>.bool .ff)] Z (hob:=by intro X;subst O;simp only[b7,Ob.holds,BE.den]<;>and_intros<;>repeat first|trivial|rfl|exact gd _|exact(fun _ _=>by kernel_rfl)|refine⟨?_,?_⟩|intro h|exact Int.le_refl _|decide|omega) fun X10 _ _ Z=>?_
       replace Z:=Z.headS (v':=.bool .tt) (Sim.bool (by subst O;rw[hbs];rfl)) rfl;replace Z:=Z.memS (cR hbs J E N91 (W91 (X9 2)) p91.note);refine j1 Z rfl (fun Z=>?_);exact wp_ret ((rst O a6 Z (q:=p91) (wq:=wq91) (X9 2) (by simp[E5,I0,<-hx0,<-hx1,Rs.bind,t64,hm50,tq0,hm51,tq1,hm81,hm91]) hN91 (hW91 _)).1)
      have O1:=S81;refine rg O a6 [0,3,4,5,7] [0,3,5,7] [(2,sc J E (i4) N81 W81 p81.note)] Z fun X8 _ _ Z=>?_
      have O1:=ge 0 b J E hE N81 (W81 (X8 2)) p81.note l;refine wp_seq (rg O a6 [0,3,4,5,7,8] [0,3,5,7,8] [(2,dc J E (.agg [.int .i64 0,.int .u64 0,.bool .ff,.int .i64 0,.sl none none 0 0 2 (fun _=>[]),.int .i64 0,.int .u64 0,.int .u64 0]) N81 (W81 (X8 2)) p81.note)] Z fun X9 _ _ Z=>?_);obtain⟨bs,hbs⟩:∃b:Bool,b=true:=⟨_,rfl⟩
      replace Z:=Z.memS (cQ hbs J E N81 (W81 (X8 2)) p81.note);refine wp_seq (wp_seq ?_);refine rg O a6 [53,0,3,4,5,7] [0,3,5,7] [(6,.r fun _=>.bool .ff),(10,.r fun _=>.bool .ff)] Z (hob:=by intro X;subst O;simp only[b7,Ob.holds,BE.den]<;>and_intros<;>repeat first|trivial|rfl|exact gd _|exact(fun _ _=>by kernel_rfl)|refine⟨?_,?_⟩|intro h|exact Int.le_refl _|decide|omega) fun X10 _ _ Z=>?_
      replace Z:=Z.headS (v':=.bool .tt) (Sim.bool (by subst O;rw[hbs];rfl)) rfl;replace Z:=Z.memS (cR hbs J E N81 (W81 (X8 2)) p81.note);refine j1 Z rfl (fun Z=>?_);exact wp_ret ((rst O a6 Z (q:=p81) (wq:=wq81) (X8 2) (by simp[E5,I0,<-hx0,<-hx1,Rs.bind,t64,hm50,tq0,hm51,tq1,hm81]) hN81 (hW81 _)).1)
     have O1:=S51;refine rg O a6 [0,3,4,5,7] [0,3,5,7] [(2,sc J E (.agg [.int .i64 0,.int .u64 0,.bool .ff,.int .i64 0,.sl none none 0 0 2 (fun _=>[]),.int .i64 0,.int .u64 0,.int .u64 0]) N51 W51 p51.note)] Z fun X5 _ _ Z=>?_
     refine wp_seq (wp_seq (rg O a6 [30,0,3,4,5,7] [0,3,5,7] [] Z fun X6 _ _ Z=>?_));refine j1 Z rfl (fun Z=>?_);exact wp_ret ((rst O a6 Z (q:=p51) (wq:=wq51) (X5 2) (by simp[E5,I0,<-hx0,<-hx1,Rs.bind,t64,hm50,tq0,hm51]) hN51 (hW51 _)).1)
    exfalso
    have h7:¬l.len<64:=by subst O;simpa[std,a8]using hb
    exact h7 h6
   have tq0:gk g0 5=true:=by subst O;rw[<-hq0];revert hb;cases q0<;>simp[std]
   refine wp_skip (wp_seq ?_)
   rcases(ih 0 b J hJ E hE N50 p50 hR50 hp50 hn50 x0 hk0 (by skip;have:=hl50;omega)).two (Y7 _ _ _ _) hp50 hn50 hR50 with⟨v80,p80,N80,hm80,hs80,hp80,hn80,hR80,hN80,S80⟩|⟨wq80,p80,N80,W80,hm80,hs80,hN80,hW80,S80⟩
   .have O1:=S80
    refine rg O a6 [0,3,4,5,7] [0,3,5,7] [(2,lc J E (i4) N80 p80)] Z fun X8 _ _ Z=>?_
    apply wp_seq
    rcases(K0 0 b J hJ E hE N80 p80 hR80 hp80 hn80 l).two (i7 _ _ _) hp80 hn80 hR80 with⟨h0,p90,N90,hm90,hs90,hp90,hn90,hR90,hN90,S90⟩|⟨wq90,p90,N90,W90,hm90,hs90,hN90,hW90,S90⟩
    .have hl90:=u5 hm90
     have hg90:=hp80.get hm90;have O1:=S90;refine rg O a6 [0,3,4,5,7,8] [0,3,5,7,8] [(2,lc J E (u4 h0) N90 p90)] Z fun X9 _ _ Z=>?_
     obtain⟨r0,hr0⟩:=eqv (gk h0 1);obtain⟨s0,hs0⟩:=eqv (gk h0 5);refine wp_seq (wp_seq ?_);refine rg O a6 [53,0,3,4,5,7] [0,3,5,7] [(6,.r fun _=>.bool (.v r0)),(10,.r fun _=>.bool (.v s0))] Z (hob:=by intro X;subst O;simp only[b7,Ob.holds,BE.den]<;>and_intros<;>repeat first|trivial|rfl|exact(by rw[hr0];exact A8 h0 1)|exact by rw[hr0];exact A8 h0 1|exact(by rw[hs0];exact A8 h0 5)|exact by rw[hs0];exact A8 h0 5|exact(fun _ _=>by kernel_rfl)|refine⟨?_,?_⟩|intro h|exact Int.le_refl _|decide|omega) fun X10 _ _ Z=>?_
     apply a7 Z rfl<;>intro hb Z
     .have tr0:(gk h0 1||gk h0 5)=false:=by subst O;rw[<-hr0,<-hs0];revert hb;cases r0<;>cases s0<;>simp[std]
      exact wp_ret ((rgo O a6 Z (v:=()) (q:=p90) (by simp[E5,I0,<-hx0,<-hx1,Rs.bind,t64,hm50,tq0,hm80,hm90,tr0]) hN90).1)
     have tr0:(gk h0 1||gk h0 5)=true:=by subst O;rw[<-hr0,<-hs0];revert hb;cases r0<;>cases s0<;>simp[std]
     refine wp_skip ?_
     rcases(rN 0 b J hJ E hE N90 p90 hR90 hp90 hn90 x0 g0.ver).two (dz _ _ _ _) hp90 hn90 hR90 with⟨d0,p110,N110,hm110,hs110,hp110,hn110,hR110,hN110,S110⟩|⟨wq110,p110,N110,W110,hm110,hs110,hN110,hW110,S110⟩
     .have O1:=S110
      refine rg O a6 [0,3,4] [0,3] [(4,lc J E (.bool (.v d0)) N110 p110)] Z fun X11 _ _ Z=>?_
      refine rg O a6 [4,0,3] [0,3] [] Z fun X3 _ _ Z=>?_
      replace Z:=Z.headS (v':=.int .i64 1) (by subst O;exact zr) rfl;refine j5 (wp_seq (wp_seq (rg O a6 [15,0,3,4] [0,3] [] Z fun X2 _ _ Z=>?_)));apply a7 Z rfl<;>intro hb Z
      .skip
       have O1:=SC1;refine wp_skip (wp_seq (wp_block (wp_seq (rg O a6 [0,3,4,5] [0,3,5] [(2,.r fun _=>.tup [.agg [.int .i64 x1.len,.int .u64 x1.bits],.int .i64 y1])] Z fun X4 _ _ Z=>?_))));apply wp_seq
       rcases(K0 0 b J hJ E hE N110 p110 hR110 hp110 hn110 x1).two (i7 _ _ _) hp110 hn110 hR110 with⟨g1,p51,N51,hm51,hs51,hp51,hn51,hR51,hN51,S51⟩|⟨wq51,p51,N51,W51,hm51,hs51,hN51,hW51,S51⟩
       .have hl51:=u5 hm51
        have hg51:=hp110.get hm51;have O1:=S51;refine rg O a6 [0,3,4,5,7] [0,3,5,7] [(2,lc J E (u4 g1) N51 p51)] Z fun X5 _ _ Z=>?_
        refine wp_seq (wp_seq (rg O a6 [30,0,3,4,5,7] [0,3,5,7] [] Z fun X6 _ _ Z=>?_));refine j3 Z rfl (fun Z=>?_);obtain⟨q1,hq1⟩:=eqv (gk g1 5);refine wp_skip (wp_seq (wp_seq ?_));refine rg O a6 [33,0,3,4,5,7] [0,3,5,7] [(1,.r fun _=>.bool (.v q1))] Z (hob:=by intro X;subst O;simp only[b7,Ob.holds,BE.den]<;>and_intros<;>repeat first|trivial|rfl|exact(by rw[hq1];exact A8 g1 5)|exact by rw[hq1];exact A8 g1 5|exact(fun _ _=>by kernel_rfl)|refine⟨?_,?_⟩|intro h|exact Int.le_refl _|decide|omega) fun X7 _ _ Z=>?_
        apply a7 Z rfl<;>intro hb Z
        .have tq1:gk g1 5=false:=by subst O;rw[<-hq1];revert hb;cases q1<;>simp[std]
         refine wp_exit (rg O a6 [4,0,3] [0,3] [] Z fun X3 _ _ Z=>?_);replace Z:=Z.headS (v':=.int .i64 2) (by subst O;exact zr) rfl;refine j5 (wp_seq (wp_seq (rg O a6 [15,0,3,4] [0,3] [] Z fun X2 _ _ Z=>?_)));replace Z:=Z.headS (v':=.bool .ff) (Sim.bool (by subst O;rfl)) rfl;refine j3 Z rfl (fun Z=>?_);exact wp_exit ((rgo O a6 Z (v:=()) (q:=p51) (by simp[E5,I0,<-hx0,<-hx1,Rs.bind,t64,hm50,tq0,hm80,hm90,tr0,hm110,hm51,tq1]) hN51).2)
        have tq1:gk g1 5=true:=by subst O;rw[<-hq1];revert hb;cases q1<;>simp[std]
        refine wp_skip (wp_seq ?_)
        rcases(ih 0 b J hJ E hE N51 p51 hR51 hp51 hn51 x1 hk1 (by skip;have:=hl50;have:=hs80.le;have:=hs90.le;have:=hs110.le;have:=hl51;omega)).two (Y7 _ _ _ _) hp51 hn51 hR51 with⟨v81,p81,N81,hm81,hs81,hp81,hn81,hR81,hN81,S81⟩|⟨wq81,p81,N81,W81,hm81,hs81,hN81,hW81,S81⟩
        .have O1:=S81
         refine rg O a6 [0,3,4,5,7] [0,3,5,7] [(2,lc J E (i4) N81 p81)] Z fun X8 _ _ Z=>?_
         apply wp_seq
         rcases(K0 0 b J hJ E hE N81 p81 hR81 hp81 hn81 l).two (i7 _ _ _) hp81 hn81 hR81 with⟨h1,p91,N91,hm91,hs91,hp91,hn91,hR91,hN91,S91⟩|⟨wq91,p91,N91,W91,hm91,hs91,hN91,hW91,S91⟩
         .have hl91:=u5 hm91
          have hg91:=hp81.get hm91;have O1:=S91;refine rg O a6 [0,3,4,5,7,8] [0,3,5,7,8] [(2,lc J E (u4 h1) N91 p91)] Z fun X9 _ _ Z=>?_
          obtain⟨r1,hr1⟩:=eqv (gk h1 1);obtain⟨s1,hs1⟩:=eqv (gk h1 5);refine wp_seq (wp_seq ?_);refine rg O a6 [53,0,3,4,5,7] [0,3,5,7] [(6,.r fun _=>.bool (.v r1)),(10,.r fun _=>.bool (.v s1))] Z (hob:=by intro X;subst O;simp only[b7,Ob.holds,BE.den]<;>and_intros<;>repeat first|trivial|rfl|exact(by rw[hr1];exact A8 h1 1)|exact by rw[hr1];exact A8 h1 1|exact(by rw[hs1];exact A8 h1 5)|exact by rw[hs1];exact A8 h1 5|exact(fun _ _=>by kernel_rfl)|refine⟨?_,?_⟩|intro h|exact Int.le_refl _|decide|omega) fun X10 _ _ Z=>?_
          apply a7 Z rfl<;>intro hb Z
          .have tr1:(gk h1 1||gk h1 5)=false:=by subst O;rw[<-hr1,<-hs1];revert hb;cases r1<;>cases s1<;>simp[std]
           exact wp_ret ((rgo O a6 Z (v:=()) (q:=p91) (by simp[E5,I0,<-hx0,<-hx1,Rs.bind,t64,hm50,tq0,hm80,hm90,tr0,hm110,hm51,tq1,hm81,hm91,tr1]) hN91).1)
          have tr1:(gk h1 1||gk h1 5)=true:=by subst O;rw[<-hr1,<-hs1];revert hb;cases r1<;>cases s1<;>simp[std]
          refine wp_skip ?_
          rcases(rN 0 b J hJ E hE N91 p91 hR91 hp91 hn91 x1 g1.ver).two (dz _ _ _ _) hp91 hn91 hR91 with⟨d1,p111,N111,hm111,hs111,hp111,hn111,hR111,hN111,S111⟩|⟨wq111,p111,N111,W111,hm111,hs111,hN111,hW111,S111⟩
          .have O1:=S111
           refine rg O a6 [0,3,4] [0,3] [(4,lc J E (.bool (.v d1)) N111 p111)] Z fun X11 _ _ Z=>?_
           refine rg O a6 [4,0,3] [0,3] [] Z fun X3 _ _ Z=>?_
           replace Z:=Z.headS (v':=.int .i64 2) (by subst O;exact zr) rfl;refine j5 (wp_seq (wp_seq (rg O a6 [15,0,3,4] [0,3] [] Z fun X2 _ _ Z=>?_)));replace Z:=Z.headS (v':=.bool .ff) (Sim.bool (by subst O;rfl)) rfl;refine j3 Z rfl (fun Z=>?_);exact wp_exit ((rgo O a6 Z (v:=()) (q:=p111) (by simp[E5,I0,<-hx0,<-hx1,Rs.bind,t64,hm50,tq0,hm80,hm90,tr0,hm110,hm51,tq1,hm81,hm91,tr1,hm111]) hN111).2)
          have O1:=S111;refine rg O a6 [0,3,4] [0,3] [(4,sc J E (.bool .ff) N111 W111 p111.note)] Z fun X11 _ _ Z=>?_
          refine rg O a6 [4,0,3] [0,3] [] Z fun X3 _ _ Z=>?_
          replace Z:=Z.headS (v':=.int .i64 2) (by subst O;exact zr) rfl;refine j5 (wp_seq (wp_seq (rg O a6 [15,0,3,4] [0,3] [] Z fun X2 _ _ Z=>?_)));replace Z:=Z.headS (v':=.bool .ff) (Sim.bool (by subst O;rfl)) rfl;refine j3 Z rfl (fun Z=>?_);exact wp_exit ((rst O a6 Z (q:=p111) (wq:=wq111) (X11 4) (by simp[E5,I0,<-hx0,<-hx1,Rs.bind,t64,hm50,tq0,hm80,hm90,tr0,hm110,hm51,tq1,hm81,hm91,tr1,hm111]) hN111 (hW111 _)).2)
         have O1:=S91;refine rg O a6 [0,3,4,5,7,8] [0,3,5,7,8] [(2,sc J E (.agg [.int .i64 0,.int .u64 0,.bool .ff,.int .i64 0,.sl none none 0 0 2 (fun _=>[]),.int .i64 0,.int .u64 0,.int .u64 0]) N91 W91 p91.note)] Z fun X9 _ _ Z=>?_
         obtain⟨bs,hbs⟩:∃b:Bool,b=true:=⟨_,rfl⟩
         replace Z:=Z.memS (cQ hbs J E N91 (W91 (X9 2)) p91.note);refine wp_seq (wp_seq ?_);refine rg O a6 [53,0,3,4,5,7] [0,3,5,7] [(6,.r fun _=>.bool .ff),(10,.r fun _=>.bool .ff)] Z (hob:=by intro X;subst O;simp only[b7,Ob.holds,BE.den]<;>and_intros<;>repeat first|trivial|rfl|exact gd _|exact(fun _ _=>by kernel_rfl)|refine⟨?_,?_⟩|intro h|exact Int.le_refl _|decide|omega) fun X10 _ _ Z=>?_
         replace Z:=Z.headS (v':=.bool .tt) (Sim.bool (by subst O;rw[hbs];rfl)) rfl;replace Z:=Z.memS (cR hbs J E N91 (W91 (X9 2)) p91.note);refine j1 Z rfl (fun Z=>?_);exact wp_ret ((rst O a6 Z (q:=p91) (wq:=wq91) (X9 2) (by simp[E5,I0,<-hx0,<-hx1,Rs.bind,t64,hm50,tq0,hm80,hm90,tr0,hm110,hm51,tq1,hm81,hm91]) hN91 (hW91 _)).1)
        have O1:=S81;refine rg O a6 [0,3,4,5,7] [0,3,5,7] [(2,sc J E (i4) N81 W81 p81.note)] Z fun X8 _ _ Z=>?_
        have O1:=ge 0 b J E hE N81 (W81 (X8 2)) p81.note l;refine wp_seq (rg O a6 [0,3,4,5,7,8] [0,3,5,7,8] [(2,dc J E (.agg [.int .i64 0,.int .u64 0,.bool .ff,.int .i64 0,.sl none none 0 0 2 (fun _=>[]),.int .i64 0,.int .u64 0,.int .u64 0]) N81 (W81 (X8 2)) p81.note)] Z fun X9 _ _ Z=>?_);obtain⟨bs,hbs⟩:∃b:Bool,b=true:=⟨_,rfl⟩
        replace Z:=Z.memS (cQ hbs J E N81 (W81 (X8 2)) p81.note);refine wp_seq (wp_seq ?_);refine rg O a6 [53,0,3,4,5,7] [0,3,5,7] [(6,.r fun _=>.bool .ff),(10,.r fun _=>.bool .ff)] Z (hob:=by intro X;subst O;simp only[b7,Ob.holds,BE.den]<;>and_intros<;>repeat first|trivial|rfl|exact gd _|exact(fun _ _=>by kernel_rfl)|refine⟨?_,?_⟩|intro h|exact Int.le_refl _|decide|omega) fun X10 _ _ Z=>?_
        replace Z:=Z.headS (v':=.bool .tt) (Sim.bool (by subst O;rw[hbs];rfl)) rfl;replace Z:=Z.memS (cR hbs J E N81 (W81 (X8 2)) p81.note);refine j1 Z rfl (fun Z=>?_);exact wp_ret ((rst O a6 Z (q:=p81) (wq:=wq81) (X8 2) (by simp[E5,I0,<-hx0,<-hx1,Rs.bind,t64,hm50,tq0,hm80,hm90,tr0,hm110,hm51,tq1,hm81]) hN81 (hW81 _)).1)
       have O1:=S51;refine rg O a6 [0,3,4,5,7] [0,3,5,7] [(2,sc J E (.agg [.int .i64 0,.int .u64 0,.bool .ff,.int .i64 0,.sl none none 0 0 2 (fun _=>[]),.int .i64 0,.int .u64 0,.int .u64 0]) N51 W51 p51.note)] Z fun X5 _ _ Z=>?_
       refine wp_seq (wp_seq (rg O a6 [30,0,3,4,5,7] [0,3,5,7] [] Z fun X6 _ _ Z=>?_));refine j1 Z rfl (fun Z=>?_);exact wp_ret ((rst O a6 Z (q:=p51) (wq:=wq51) (X5 2) (by simp[E5,I0,<-hx0,<-hx1,Rs.bind,t64,hm50,tq0,hm80,hm90,tr0,hm110,hm51]) hN51 (hW51 _)).1)
      exfalso
      have h7:¬l.len<64:=by subst O;simpa[std,a8]using hb
      exact h7 h6
     have O1:=S110;refine rg O a6 [0,3,4] [0,3] [(4,sc J E (.bool .ff) N110 W110 p110.note)] Z fun X11 _ _ Z=>?_
     refine rg O a6 [4,0,3] [0,3] [] Z fun X3 _ _ Z=>?_
     replace Z:=Z.headS (v':=.int .i64 1) (by subst O;exact zr) rfl;refine j5 (wp_seq (wp_seq (rg O a6 [15,0,3,4] [0,3] [] Z fun X2 _ _ Z=>?_)));apply a7 Z rfl<;>intro hb Z
     .skip
      have O1:=SC1;refine wp_skip (wp_seq (wp_block (wp_seq (rg O a6 [0,3,4,5] [0,3,5] [(2,.r fun _=>.tup [.agg [.int .i64 x1.len,.int .u64 x1.bits],.int .i64 y1])] Z fun X4 _ _ Z=>?_))));have O1:=ge 0 b J E hE N110 (W110 (X11 4)) p110.note x1;refine wp_seq (rg O a6 [0,3,4,5,7] [0,3,5,7] [(2,dc J E (.agg [.int .i64 0,.int .u64 0,.bool .ff,.int .i64 0,.sl none none 0 0 2 (fun _=>[]),.int .i64 0,.int .u64 0,.int .u64 0]) N110 (W110 (X11 4)) p110.note)] Z fun X5 _ _ Z=>?_);refine wp_seq (wp_seq (rg O a6 [30,0,3,4,5,7] [0,3,5,7] [] Z fun X6 _ _ Z=>?_));refine j1 Z rfl (fun Z=>?_);exact wp_ret ((rst O a6 Z (q:=p110) (wq:=wq110) (X11 4) (by simp[E5,I0,<-hx0,<-hx1,Rs.bind,t64,hm50,tq0,hm80,hm90,tr0,hm110]) hN110 (hW110 _)).1)
     exfalso
     have h7:¬l.len<64:=by subst O;simpa[std,a8]using hb
     exact h7 h6
    have O1:=S90;refine rg O a6 [0,3,4,5,7,8] [0,3,5,7,8] [(2,sc J E (.agg [.int .i64 0,.int .u64 0,.bool .ff,.int .i64 0,.sl none none 0 0 2 (fun _=>[]),.int .i64 0,.int .u64 0,.int .u64 0]) N90 W90 p90.note)] Z fun X9 _ _ Z=>?_
    obtain⟨bs,hbs⟩:∃b:Bool,b=true:=⟨_,rfl⟩
    replace Z:=Z.memS (cQ hbs J E N90 (W90 (X9 2)) p90.note);refine wp_seq (wp_seq ?_);refine rg O a6 [53,0,3,4,5,7] [0,3,5,7] [(6,.r fun _=>.bool .ff),(10,.r fun _=>.bool .ff)] Z (hob:=by intro X;subst O;simp only[b7,Ob.holds,BE.den]<;>and_intros<;>repeat first|trivial|rfl|exact gd _|exact(fun _ _=>by kernel_rfl)|refine⟨?_,?_⟩|intro h|exact Int.le_refl _|decide|omega) fun X10 _ _ Z=>?_
    replace Z:=Z.headS (v':=.bool .tt) (Sim.bool (by subst O;rw[hbs];rfl)) rfl;replace Z:=Z.memS (cR hbs J E N90 (W90 (X9 2)) p90.note);refine j1 Z rfl (fun Z=>?_);exact wp_ret ((rst O a6 Z (q:=p90) (wq:=wq90) (X9 2) (by simp[E5,I0,<-hx0,<-hx1,Rs.bind,t64,hm50,tq0,hm80,hm90]) hN90 (hW90 _)).1)
   have O1:=S80;refine rg O a6 [0,3,4,5,7] [0,3,5,7] [(2,sc J E (i4) N80 W80 p80.note)] Z fun X8 _ _ Z=>?_
   have O1:=ge 0 b J E hE N80 (W80 (X8 2)) p80.note l;refine wp_seq (rg O a6 [0,3,4,5,7,8] [0,3,5,7,8] [(2,dc J E (.agg [.int .i64 0,.int .u64 0,.bool .ff,.int .i64 0,.sl none none 0 0 2 (fun _=>[]),.int .i64 0,.int .u64 0,.int .u64 0]) N80 (W80 (X8 2)) p80.note)] Z fun X9 _ _ Z=>?_);obtain⟨bs,hbs⟩:∃b:Bool,b=true:=⟨_,rfl⟩
   replace Z:=Z.memS (cQ hbs J E N80 (W80 (X8 2)) p80.note);refine wp_seq (wp_seq ?_);refine rg O a6 [53,0,3,4,5,7] [0,3,5,7] [(6,.r fun _=>.bool .ff),(10,.r fun _=>.bool .ff)] Z (hob:=by intro X;subst O;simp only[b7,Ob.holds,BE.den]<;>and_intros<;>repeat first|trivial|rfl|exact gd _|exact(fun _ _=>by kernel_rfl)|refine⟨?_,?_⟩|intro h|exact Int.le_refl _|decide|omega) fun X10 _ _ Z=>?_
   replace Z:=Z.headS (v':=.bool .tt) (Sim.bool (by subst O;rw[hbs];rfl)) rfl;replace Z:=Z.memS (cR hbs J E N80 (W80 (X8 2)) p80.note);refine j1 Z rfl (fun Z=>?_);exact wp_ret ((rst O a6 Z (q:=p80) (wq:=wq80) (X8 2) (by simp[E5,I0,<-hx0,<-hx1,Rs.bind,t64,hm50,tq0,hm80]) hN80 (hW80 _)).1)
  have O1:=S50;refine rg O a6 [0,3,4,5,7] [0,3,5,7] [(2,sc J E (.agg [.int .i64 0,.int .u64 0,.bool .ff,.int .i64 0,.sl none none 0 0 2 (fun _=>[]),.int .i64 0,.int .u64 0,.int .u64 0]) N50 W50 p50.note)] Z fun X5 _ _ Z=>?_
  refine wp_seq (wp_seq (rg O a6 [30,0,3,4,5,7] [0,3,5,7] [] Z fun X6 _ _ Z=>?_));refine j1 Z rfl (fun Z=>?_);exact wp_ret ((rst O a6 Z (q:=p50) (wq:=wq50) (X5 2) (by simp[E5,I0,<-hx0,<-hx1,Rs.bind,t64,hm50]) hN50 (hW50 _)).1)
 have h6:¬l.len<64:=by subst O;simpa[std,a8]using hb
 have t64:l.len=64:=by omega
 exact wp_exit ((rgo O a6 Z (v:=()) (q:=p) (by simp[E5,I0,<-hx0,<-hx1,Rs.bind,t64]) hN0).2)
theorem BD(k0 b:Nat)(J:i5)(hJ:j0 J)(E:s5)(hE:E.n<=1000000)(N:Nat)(p:Pst)(hR:Rel E N p)(hp:f8 p)(hn:p.n<=1000000)(l:Lab)(hl:LOk l)(n:Nat)(ih:Gd n)(hf:p.n<n+1):u2 165 k0 b J E N p [f4 l] (fun _=>i4) (i4) (E5 (J.budget-E.n) (n+1) l p):=u2.re (yj b J hJ E hE N p hR hp hn l hl n ih hf) (by repeat(first|exact trivial|refine⟨zr,?_⟩))
theorem yk:∀n,Gd n
 |0=>fun _ _ _ _ _ _ _ _ _ _ _ _ _ h=>absurd h (Nat.not_lt_zero _)
 |n+1=>fun k0 b J hJ E hE N p hR hp hn l hl hf=>BD k0 b J hJ E hE N p hR hp hn l hl n (yk n) hf
theorem Bp(x:RA)(h:K8 x)(l:Lab)(hl:U64 l.bits):k7 Tryz.prog 260 [C6 x,f4 l] (fun y=>.tup [C6 ⟨y.A 0,y.c 0,(R6 x l).1.rn⟩,C6 ⟨y.A 1,y.c 1,(R6 x l).2.1.rn⟩,.int .i64 (R6 x l).2.2]):=by
 have hf:=h.few;exact ug x.A x.r.n x.c x.r.f (by omega) x.r.kd x.r.nx x.r.mrk h.nx h.key l hl
theorem Fe(x y:RA)(h:K8 x)(h':K8 y):k7 Tryz.prog 264 [C6 x,C6 y] (fun z=>.tup [C6 ⟨z.A 0,z.c 0,(cZ x y).1.rn⟩,.int .i64 (cZ x y).2]):=by
 have hf:=h.few;have hf':=h'.few;exact vV x.A x.r.n x.c x.r.f (by omega) x.r.kd x.r.nx x.r.mrk h.nx y.A y.r.n y.c y.r.f (by omega) y.r.kd y.r.nx y.r.mrk h'.nx
theorem Bc(b:Nat)(J:i5)(hJ:j0 J)(E:s5)(hE:E.n<=1000000)(N:Nat)(p:Pst)(hR:Rel E N p)(hp:f8 p)(hn:p.n<=1000000)(l:Lab)(hl:LOk l)(v:Int)(x:RA)(hx:K8 x)(n:Nat)(hf:p.n<n):u2 199 0 b J E N p [f4 l,.int .u64 v,C6 x] (fun _=>i4) (i4) (u3 (J.budget-E.n) n l v x p):=by
 intro m w hm hargs hpre;have hN0:N=E.n-p.n:=by have:=hR.n;omega
 have SC0:=T5 l hl.u 0 (.inl rfl);have SC1:=T5 l hl.u 1 (.inr rfl);have hk0:=hl.ch 0;have hk1:=hl.ch 1;simp only[f4]at SC0 SC1;obtain⟨x0,hx0⟩:=eqv (chV l 0);rw[<-hx0]at SC0 hk0;obtain⟨x1,hx1⟩:=eqv (chV l 1);rw[<-hx1]at SC1 hk1;obtain⟨y0,hy0⟩:=eqv (chE l 0);rw[<-hy0]at SC0;obtain⟨y1,hy1⟩:=eqv (chE l 1);rw[<-hy1]at SC1;have SH:=Bp x hx l hl.u;obtain⟨e,he⟩:=eqv ((R6 x l).2.2);rw[<-he]at SH;obtain⟨r0,hr0⟩:=eqv ((R6 x l).1.rn);rw[<-hr0]at SH;obtain⟨r1,hr1⟩:=eqv ((R6 x l).2.1.rn);rw[<-hr1]at SH;simp only[f4]at SH;refine enX 87 hm hpre hargs Tryz.func199 fun B O a0 Z=>?_
 refine wp_seq (rg O a6 [0,2,5,7] [0,5,7] [] Z fun X0 _ _ Z=>?_);have O1:=SH;refine wp_seq (rg O a6 [0,2,5,8,9,10] [0,5,8,9] [(2,.r fun y=>.tup [.agg [.int .i64 r0.kd,.sl none (y.A 0) r0.n (y.c 0) 2 (fun i=>itC (r0.f i)),.int .i64 r0.nx.len,.int .u64 r0.nx.bits,.int .u64 r0.mrk],.agg [.int .i64 r1.kd,.sl none (y.A 1) r1.n (y.c 1) 2 (fun i=>itC (r1.f i)),.int .i64 r1.nx.len,.int .u64 r1.nx.bits,.int .u64 r1.mrk],.int .i64 e])] Z fun X1 _ _ Z=>?_);refine wp_seq (wp_seq (rg O a6 [26,0,2,5,8,9] [0,5,8,9] [] Z fun X2 _ _ Z=>?_));apply a7 Z rfl<;>intro hb Z
 .have t0:¬e=0:=by subst O;simpa[std,a8]using hb
  exact wp_ret ((rgo O a6 Z (v:=()) (q:=p) (by simp[u3,z7,<-hx0,<-hx1,<-he,Rs.bind,t0]) hN0).1)
 have t0:e=0:=by subst O;simpa[std,a8]using hb
 refine wp_skip (wp_seq (rg O a6 [11,0,2,5] [0,5,29] [] Z fun X3 _ _ Z=>?_));obtain⟨hv,hhv⟩:∃f:Nat->RA,f=fun i=>if i=0 then⟨(X1 2).A 0,(X1 2).c 0,r0⟩else⟨(X1 2).A 1,(X1 2).c 1,r1⟩:=⟨_,rfl⟩
 have hv0:(hv 0).r.abs=(R6 x l).1:=by rw[hhv];show r0.abs=_;rw[hr0];exact U7 _
 have hv1:(hv 1).r.abs=(R6 x l).2.1:=by rw[hhv];show r1.abs=_;rw[hr1];exact U7 _
 replace Z:=Z.headS (v':=.sl (some 11) (some ⟨(X3 2).b,0,none⟩) 2 2 5 (fun i=>fo (hv i))) (Sim.recell (fun i hi=>by
   subst hhv
   match i,hi with
   |0,_=>rfl
   |1,_=>rfl)) rfl
 refine wp_seq (wp_seq (rg O a6 [12,0,2,5,11] [0,5,29] [] Z fun X4 _ _ Z=>?_));refine wp_block (wp_loop_rounds 3 (C0 (wp_seq (wp_seq (rg O a6 [31,0,2,5,11,12] [0,5,29] [] Z fun X5 _ _ Z=>?_)))));replace Z:=Z.headS (v':=.bool .tt) (Sim.bool (by subst O;rfl)) rfl;refine j1 Z rfl (fun Z=>?_);have O1:=SC0;refine wp_skip (wp_seq (wp_block (wp_seq (rg O a6 [0,2,5,11,12,13] [0,5,13,29] [(2,.r fun _=>.tup [.agg [.int .i64 x0.len,.int .u64 x0.bits],.int .i64 y0])] Z fun X7 _ _ Z=>?_))));refine wp_seq (rg O a6 [15,0,2,5,11,12,13] [0,5,13,29] [] Z fun X8 _ _ Z=>?_);refine wp_block (l4 (ι:=LSt) (fun q=>[(15,.bool (lsB q))]) (fun q=>[(0,⟨b,174,lsC J E q⟩)]) (fun q=>[]) (fun q=>match q with| .go a r M=>z7 (J.budget-E.n) l v x0 (hv 0).r.abs n p=z7 (J.budget-E.n) l v x0 (hv 0).r.abs a r/\f8 r/\r.n<=1000000/\Rel E M r/\r.n<a/\r.n<=p.n| .dn r M=>z7 (J.budget-E.n) l v x0 (hv 0).r.abs n p = .ok true r/\f8 r/\r.n<=1000000/\Rel E M r/\r.n<=p.n| .sp M Q u=>∃(X:i8) (wq:Wq) (pp:Pst),u3 (J.budget-E.n) n l v x p = .stop wq pp/\M=E.n-pp.n/\Q=wqA X wq/\u=pp.note) (fun q=>lsM q) (.go n p N) ⟨rfl,hp,hn,hR,(by skip;omega),(by skip;omega)⟩ Z ?_)
 rintro q hJ _ _ Z
 rcases q with⟨nn0,p0,N0⟩|⟨p0,N0⟩|⟨N0,Q0,t0⟩
 .dsimp only[lsC,lsB]at hJ Z
  obtain⟨hrun0,hp0,hn0,hR0,hf0,hle0⟩:=hJ;obtain⟨m0,rfl⟩:∃n2,nn0=n2+1:=⟨nn0-1,by omega⟩
  have hN0:N0=E.n-p0.n:=by have:=hR0.n;omega
  refine wp_seq (wp_seq (rg O a6 [48,0,2,5,11,12,13] [0,5,13,29] [] Z fun X9 _ _ Z=>?_));refine j1 Z rfl (fun Z=>?_);refine wp_skip (wp_block (wp_seq ?_))
  rcases(K0 0 b J hJ E hE N0 p0 hR0 hp0 hn0 x0).two (i7 _ _ _) hp0 hn0 hR0 with⟨g0,p100,N100,hm100,hs100,hp100,hn100,hR100,hN100,S100⟩|⟨wq100,p100,N100,W100,hm100,hs100,hN100,hW100,S100⟩
  .have hl100:=u5 hm100
   have hg100:=hp0.get hm100;have O1:=S100;refine rg O a6 [0,2,5,11,12,13,16] [0,5,13,16,29] [(2,lc J E (u4 g0) N100 p100)] Z fun X10 _ _ Z=>?_
   refine wp_seq (wp_seq (rg O a6 [59,0,2,5,11,12,13,16] [0,5,13,16,29] [] Z fun X11 _ _ Z=>?_));apply a7 Z rfl<;>intro hb Z
   .have tq0:(g0.has && !decide (g0.x.r.kd=5))=true:=by
     have h9:(if g0.has=true then !decide (g0.x.r.kd=5)else false)=true:=by
      have h8:(if g0.has=true then(g0.x.r.kd != 5)else false)=true:=by subst O;exact hb
      exact h8
     rw[<-h9];cases g0.has<;>rfl
    refine wp_seq (rg O a6 [0,2,5,11,12,13,15] [0,5,13,29] [] Z fun X12 _ _ Z=>?_);replace Z:=Z.keep [15,0,2,5,11,12,13] [0,5,13,29];exact wp_exit (⟨.dn p100 N100,⟨by rw[hrun0];simp[z7,Rs.bind,t0,<-hv0,<-hv1,hrun0,z7,hm100,tq0],hp100,hn100,hR100,by have:=hl100;have:=hle0;omega⟩,by simp[lsM],Z⟩)
   have tq0:(g0.has && !decide (g0.x.r.kd=5))=false:=by
    have h9:(if g0.has=true then !decide (g0.x.r.kd=5)else false)=false:=by
     have h8:(if g0.has=true then(g0.x.r.kd != 5)else false)=false:=by subst O;exact hb
     exact h8
    rw[<-h9];cases g0.has<;>rfl
   refine wp_skip (wp_seq ?_)
   rcases(K0 0 b J hJ E hE N100 p100 hR100 hp100 hn100 l).two (i7 _ _ _) hp100 hn100 hR100 with⟨h0,p130,N130,hm130,hs130,hp130,hn130,hR130,hN130,S130⟩|⟨wq130,p130,N130,W130,hm130,hs130,hN130,hW130,S130⟩
   .have hl130:=u5 hm130
    have hg130:=hp100.get hm130;have O1:=S130;refine rg O a6 [0,2,5,11,12,13,16,17] [0,5,13,16,17,29] [(2,lc J E (u4 h0) N130 p130)] Z fun X13 _ _ Z=>?_
    refine wp_seq (wp_seq (rg O a6 [72,0,2,5,11,12,13,16] [0,5,13,16,29] [] Z fun X14 _ _ Z=>?_));apply a7 Z rfl<;>intro hb Z
    .have tv0:¬h0.ver=v:=by
      have h9:(h0.ver != v)=true:=by subst O;exact hb
      simpa using h9
     exact wp_ret ((rgo O a6 Z (v:=()) (q:=p130) (by simp[u3,z7,<-hx0,<-hx1,<-he,Rs.bind,t0,<-hv0,<-hv1,hrun0,z7,hm100,tq0,hm130,tv0]) hN130).1)
    have tv0:h0.ver=v:=by
     have h9:(h0.ver != v)=false:=by subst O;exact hb
     simpa using h9
    refine wp_skip ?_
    rcases(bN 0 b J hJ E hE N130 p130 hR130 hp130 hn130 x0 g0.ver (hv 0)).two (l5 _ _ _ _ _) hp130 hn130 hR130 with⟨d0,p150,N150,hm150,hs150,hp150,hn150,hR150,hN150,S150⟩|⟨wq150,p150,N150,W150,hm150,hs150,hN150,hW150,S150⟩
    .have O1:=S150
     refine drg O a6 [0,2,5,11,12,13,15] [0,5,13,29] [(8,lc J E (.bool (.v d0)) N150 p150)] Z fun X15 _ _ Z=>?_
     replace Z:=Z.keep [15,0,2,5,11,12,13] [0,5,13,29]
     rcases Bool.eq_false_or_eq_true d0 with hd|hd
     .exact ⟨.dn p150 N150,⟨by rw[hrun0];simp[z7,Rs.bind,hd,t0,<-hv0,<-hv1,hrun0,z7,hm100,tq0,hm130,tv0,hm150],hp150,hn150,hR150,by have:=hl100;have:=hs130.le;have:=hs150.le;have:=hle0;omega⟩,by simp[lsM],Z.headS (v':=.bool .tt) (Sim.bool hd) rfl⟩
     exact⟨.go m0 p150 N150,⟨by rw[hrun0];simp[z7,Rs.bind,hd,t0,<-hv0,<-hv1,hrun0,z7,hm100,tq0,hm130,tv0,hm150],hp150,hn150,hR150,by have:=hl100;have:=hs130.le;have:=hs150.le;have:=hf0;omega,by have:=hl100;have:=hs130.le;have:=hs150.le;have:=hle0;omega⟩,by simp[lsM],Z.headS (v':=.bool .ff) (Sim.bool hd) rfl⟩
    have O1:=S150;refine drg O a6 [0,2,5,11,12,13,15] [0,5,13,29] [(8,sc J E (.bool .ff) N150 W150 p150.note)] Z fun X15 _ _ Z=>?_
    replace Z:=Z.keep [15,0,2,5,11,12,13] [0,5,13,29];exact⟨.sp N150 (W150 (X15 8)) p150.note,⟨(X15 8),wq150,p150,by simp[u3,z7,<-hx0,<-hx1,<-he,Rs.bind,t0,<-hv0,<-hv1,hrun0,z7,hm100,tq0,hm130,tv0,hm150],hN150,(hW150 _),rfl⟩,by simp[lsM],Z⟩
   have O1:=S130;refine rg O a6 [0,2,5,11,12,13,16,17] [0,5,13,16,17,29] [(2,sc J E (.agg [.int .i64 0,.int .u64 0,.bool .ff,.int .i64 0,.sl none none 0 0 2 (fun _=>[]),.int .i64 0,.int .u64 0,.int .u64 0]) N130 W130 p130.note)] Z fun X13 _ _ Z=>?_
   refine wp_seq (wp_seq (rg O a6 [72,0,2,5,11,12,13,16] [0,5,13,16,29] [] Z fun X14 _ _ Z=>?_));refine j1 Z rfl (fun Z=>?_);exact wp_ret ((rst O a6 Z (q:=p130) (wq:=wq130) (X13 2) (by simp[u3,z7,<-hx0,<-hx1,<-he,Rs.bind,t0,<-hv0,<-hv1,hrun0,z7,hm100,tq0,hm130]) hN130 (hW130 _)).1)
  have O1:=S100;refine rg O a6 [0,2,5,11,12,13,16] [0,5,13,16,29] [(2,sc J E (.agg [.int .i64 0,.int .u64 0,.bool .ff,.int .i64 0,.sl none none 0 0 2 (fun _=>[]),.int .i64 0,.int .u64 0,.int .u64 0]) N100 W100 p100.note)] Z fun X10 _ _ Z=>?_
  refine wp_seq (wp_seq (rg O a6 [59,0,2,5,11,12,13,16] [0,5,13,16,29] [] Z fun X11 _ _ Z=>?_));refine j3 Z rfl (fun Z=>?_);have O1:=ge 0 b J E hE N100 (W100 (X10 2)) p100.note l;refine wp_skip (wp_seq (rg O a6 [0,2,5,11,12,13,16,17] [0,5,13,16,17,29] [(2,dc J E (.agg [.int .i64 0,.int .u64 0,.bool .ff,.int .i64 0,.sl none none 0 0 2 (fun _=>[]),.int .i64 0,.int .u64 0,.int .u64 0]) N100 (W100 (X10 2)) p100.note)] Z fun X13 _ _ Z=>?_));refine wp_seq (wp_seq (rg O a6 [72,0,2,5,11,12,13,16] [0,5,13,16,29] [] Z fun X14 _ _ Z=>?_));refine j1 Z rfl (fun Z=>?_);exact wp_ret ((rst O a6 Z (q:=p100) (wq:=wq100) (X10 2) (by simp[u3,z7,<-hx0,<-hx1,<-he,Rs.bind,t0,<-hv0,<-hv1,hrun0,z7,hm100]) hN100 (hW100 _)).1)
 .dsimp only[lsC,lsB]at hJ Z
  obtain⟨hdn0,hp0,hn0,hR0,hle0⟩:=hJ;have hN0:N0=E.n-p0.n:=by have:=hR0.n;omega
  refine wp_seq (wp_seq (rg O a6 [48,0,2,5,11,12,13] [0,5,13,29] [] Z fun X9 _ _ Z=>?_));refine j3 Z rfl (fun Z=>?_);refine wp_exit (rg O a6 [12,0,2,5,11] [0,5,29] [] Z fun X6 _ _ Z=>?_);replace Z:=Z.headS (v':=.int .i64 1) (by subst O;exact zr) rfl;refine j5 (wp_seq (wp_seq (rg O a6 [31,0,2,5,11,12] [0,5,29] [] Z fun X5 _ _ Z=>?_)));replace Z:=Z.headS (v':=.bool .tt) (Sim.bool (by subst O;rfl)) rfl;refine j1 Z rfl (fun Z=>?_);have O1:=SC1;refine wp_skip (wp_seq (wp_block (wp_seq (rg O a6 [0,2,5,11,12,13] [0,5,13,29] [(2,.r fun _=>.tup [.agg [.int .i64 x1.len,.int .u64 x1.bits],.int .i64 y1])] Z fun X7 _ _ Z=>?_))));refine wp_seq (rg O a6 [15,0,2,5,11,12,13] [0,5,13,29] [] Z fun X8 _ _ Z=>?_);refine wp_block (l4 (ι:=LSt) (fun q=>[(15,.bool (lsB q))]) (fun q=>[(0,⟨b,174,lsC J E q⟩)]) (fun q=>[]) (fun q=>match q with| .go a r M=>z7 (J.budget-E.n) l v x1 (hv 1).r.abs n p0=z7 (J.budget-E.n) l v x1 (hv 1).r.abs a r/\f8 r/\r.n<=1000000/\Rel E M r/\r.n<a/\r.n<=p.n| .dn r M=>z7 (J.budget-E.n) l v x1 (hv 1).r.abs n p0 = .ok true r/\f8 r/\r.n<=1000000/\Rel E M r/\r.n<=p.n| .sp M Q u=>∃(X:i8) (wq:Wq) (pp:Pst),u3 (J.budget-E.n) n l v x p = .stop wq pp/\M=E.n-pp.n/\Q=wqA X wq/\u=pp.note) (fun q=>lsM q) (.go n p0 N0) ⟨rfl,hp0,hn0,hR0,(by have:=hle0;omega),(by have:=hle0;omega)⟩ Z ?_)
  rintro q hJ _ _ Z
  rcases q with⟨nn1,p1,N1⟩|⟨p1,N1⟩|⟨N1,Q1,t1⟩
  .dsimp only[lsC,lsB]at hJ Z
   obtain⟨hrun1,hp1,hn1,hR1,hf1,hle1⟩:=hJ;obtain⟨m1,rfl⟩:∃n2,nn1=n2+1:=⟨nn1-1,by omega⟩
   have hN1:N1=E.n-p1.n:=by have:=hR1.n;omega
   refine wp_seq (wp_seq (rg O a6 [48,0,2,5,11,12,13] [0,5,13,29] [] Z fun X9 _ _ Z=>?_));refine j1 Z rfl (fun Z=>?_);refine wp_skip (wp_block (wp_seq ?_))
   rcases(K0 0 b J hJ E hE N1 p1 hR1 hp1 hn1 x1).two (i7 _ _ _) hp1 hn1 hR1 with⟨g1,p101,N101,hm101,hs101,hp101,hn101,hR101,hN101,S101⟩|⟨wq101,p101,N101,W101,hm101,hs101,hN101,hW101,S101⟩
   .have hl101:=u5 hm101
    have hg101:=hp1.get hm101;have O1:=S101;refine rg O a6 [0,2,5,11,12,13,16] [0,5,13,16,29] [(2,lc J E (u4 g1) N101 p101)] Z fun X10 _ _ Z=>?_
    refine wp_seq (wp_seq (rg O a6 [59,0,2,5,11,12,13,16] [0,5,13,16,29] [] Z fun X11 _ _ Z=>?_));apply a7 Z rfl<;>intro hb Z
    .have tq1:(g1.has && !decide (g1.x.r.kd=5))=true:=by
      have h9:(if g1.has=true then !decide (g1.x.r.kd=5)else false)=true:=by
       have h8:(if g1.has=true then(g1.x.r.kd != 5)else false)=true:=by subst O;exact hb
       exact h8
      rw[<-h9];cases g1.has<;>rfl
     refine wp_seq (rg O a6 [0,2,5,11,12,13,15] [0,5,13,29] [] Z fun X12 _ _ Z=>?_);replace Z:=Z.keep [15,0,2,5,11,12,13] [0,5,13,29];exact wp_exit (⟨.dn p101 N101,⟨by rw[hrun1];simp[z7,Rs.bind,t0,<-hv0,<-hv1,hdn0,hrun1,z7,hm101,tq1],hp101,hn101,hR101,by have:=hl101;have:=hle1;omega⟩,by simp[lsM],Z⟩)
    have tq1:(g1.has && !decide (g1.x.r.kd=5))=false:=by
     have h9:(if g1.has=true then !decide (g1.x.r.kd=5)else false)=false:=by
      have h8:(if g1.has=true then(g1.x.r.kd != 5)else false)=false:=by subst O;exact hb
      exact h8
     rw[<-h9];cases g1.has<;>rfl
    refine wp_skip (wp_seq ?_)
    rcases(K0 0 b J hJ E hE N101 p101 hR101 hp101 hn101 l).two (i7 _ _ _) hp101 hn101 hR101 with⟨h1,p131,N131,hm131,hs131,hp131,hn131,hR131,hN131,S131⟩|⟨wq131,p131,N131,W131,hm131,hs131,hN131,hW131,S131⟩
    .have hl131:=u5 hm131
     have hg131:=hp101.get hm131;have O1:=S131;refine rg O a6 [0,2,5,11,12,13,16,17] [0,5,13,16,17,29] [(2,lc J E (u4 h1) N131 p131)] Z fun X13 _ _ Z=>?_
     refine wp_seq (wp_seq (rg O a6 [72,0,2,5,11,12,13,16] [0,5,13,16,29] [] Z fun X14 _ _ Z=>?_));apply a7 Z rfl<;>intro hb Z
     .have tv1:¬h1.ver=v:=by
       have h9:(h1.ver != v)=true:=by subst O;exact hb
       simpa using h9
      exact wp_ret ((rgo O a6 Z (v:=()) (q:=p131) (by simp[u3,z7,<-hx0,<-hx1,<-he,Rs.bind,t0,<-hv0,<-hv1,hdn0,hrun1,z7,hm101,tq1,hm131,tv1]) hN131).1)
     have tv1:h1.ver=v:=by
      have h9:(h1.ver != v)=false:=by subst O;exact hb
      simpa using h9
     refine wp_skip ?_
     rcases(bN 0 b J hJ E hE N131 p131 hR131 hp131 hn131 x1 g1.ver (hv 1)).two (l5 _ _ _ _ _) hp131 hn131 hR131 with⟨d1,p151,N151,hm151,hs151,hp151,hn151,hR151,hN151,S151⟩|⟨wq151,p151,N151,W151,hm151,hs151,hN151,hW151,S151⟩
     .have O1:=S151
      refine drg O a6 [0,2,5,11,12,13,15] [0,5,13,29] [(8,lc J E (.bool (.v d1)) N151 p151)] Z fun X15 _ _ Z=>?_
      replace Z:=Z.keep [15,0,2,5,11,12,13] [0,5,13,29]
      rcases Bool.eq_false_or_eq_true d1 with hd|hd
      .exact ⟨.dn p151 N151,⟨by rw[hrun1];simp[z7,Rs.bind,hd,t0,<-hv0,<-hv1,hdn0,hrun1,z7,hm101,tq1,hm131,tv1,hm151],hp151,hn151,hR151,by have:=hl101;have:=hs131.le;have:=hs151.le;have:=hle1;omega⟩,by simp[lsM],Z.headS (v':=.bool .tt) (Sim.bool hd) rfl⟩
      exact⟨.go m1 p151 N151,⟨by rw[hrun1];simp[z7,Rs.bind,hd,t0,<-hv0,<-hv1,hdn0,hrun1,z7,hm101,tq1,hm131,tv1,hm151],hp151,hn151,hR151,by have:=hl101;have:=hs131.le;have:=hs151.le;have:=hf1;omega,by have:=hl101;have:=hs131.le;have:=hs151.le;have:=hle1;omega⟩,by simp[lsM],Z.headS (v':=.bool .ff) (Sim.bool hd) rfl⟩
     have O1:=S151;refine drg O a6 [0,2,5,11,12,13,15] [0,5,13,29] [(8,sc J E (.bool .ff) N151 W151 p151.note)] Z fun X15 _ _ Z=>?_
     replace Z:=Z.keep [15,0,2,5,11,12,13] [0,5,13,29];exact⟨.sp N151 (W151 (X15 8)) p151.note,⟨(X15 8),wq151,p151,by simp[u3,z7,<-hx0,<-hx1,<-he,Rs.bind,t0,<-hv0,<-hv1,hdn0,hrun1,z7,hm101,tq1,hm131,tv1,hm151],hN151,(hW151 _),rfl⟩,by simp[lsM],Z⟩
    have O1:=S131;refine rg O a6 [0,2,5,11,12,13,16,17] [0,5,13,16,17,29] [(2,sc J E (.agg [.int .i64 0,.int .u64 0,.bool .ff,.int .i64 0,.sl none none 0 0 2 (fun _=>[]),.int .i64 0,.int .u64 0,.int .u64 0]) N131 W131 p131.note)] Z fun X13 _ _ Z=>?_
    refine wp_seq (wp_seq (rg O a6 [72,0,2,5,11,12,13,16] [0,5,13,16,29] [] Z fun X14 _ _ Z=>?_));refine j1 Z rfl (fun Z=>?_);exact wp_ret ((rst O a6 Z (q:=p131) (wq:=wq131) (X13 2) (by simp[u3,z7,<-hx0,<-hx1,<-he,Rs.bind,t0,<-hv0,<-hv1,hdn0,hrun1,z7,hm101,tq1,hm131]) hN131 (hW131 _)).1)
   have O1:=S101;refine rg O a6 [0,2,5,11,12,13,16] [0,5,13,16,29] [(2,sc J E (.agg [.int .i64 0,.int .u64 0,.bool .ff,.int .i64 0,.sl none none 0 0 2 (fun _=>[]),.int .i64 0,.int .u64 0,.int .u64 0]) N101 W101 p101.note)] Z fun X10 _ _ Z=>?_
   refine wp_seq (wp_seq (rg O a6 [59,0,2,5,11,12,13,16] [0,5,13,16,29] [] Z fun X11 _ _ Z=>?_));refine j3 Z rfl (fun Z=>?_);have O1:=ge 0 b J E hE N101 (W101 (X10 2)) p101.note l;refine wp_skip (wp_seq (rg O a6 [0,2,5,11,12,13,16,17] [0,5,13,16,17,29] [(2,dc J E (.agg [.int .i64 0,.int .u64 0,.bool .ff,.int .i64 0,.sl none none 0 0 2 (fun _=>[]),.int .i64 0,.int .u64 0,.int .u64 0]) N101 (W101 (X10 2)) p101.note)] Z fun X13 _ _ Z=>?_));refine wp_seq (wp_seq (rg O a6 [72,0,2,5,11,12,13,16] [0,5,13,16,29] [] Z fun X14 _ _ Z=>?_));refine j1 Z rfl (fun Z=>?_);exact wp_ret ((rst O a6 Z (q:=p101) (wq:=wq101) (X10 2) (by simp[u3,z7,<-hx0,<-hx1,<-he,Rs.bind,t0,<-hv0,<-hv1,hdn0,hrun1,z7,hm101]) hN101 (hW101 _)).1)
  .dsimp only[lsC,lsB]at hJ Z
   obtain⟨hdn1,hp1,hn1,hR1,hle1⟩:=hJ;have hN1:N1=E.n-p1.n:=by have:=hR1.n;omega
   refine wp_seq (wp_seq (rg O a6 [48,0,2,5,11,12,13] [0,5,13,29] [] Z fun X9 _ _ Z=>?_));refine j3 Z rfl (fun Z=>?_);refine wp_exit (rg O a6 [12,0,2,5,11] [0,5,29] [] Z fun X6 _ _ Z=>?_);replace Z:=Z.headS (v':=.int .i64 2) (by subst O;exact zr) rfl;refine j5 (wp_seq (wp_seq (rg O a6 [31,0,2,5,11,12] [0,5,29] [] Z fun X5 _ _ Z=>?_)));replace Z:=Z.headS (v':=.bool .ff) (Sim.bool (by subst O;rfl)) rfl;refine j3 Z rfl (fun Z=>?_);refine wp_exit ?_
   rcases(tw 0 b J hJ E hE N1 p1 hR1 hp1 hn1 l v).two (l5 _ _ _ _ _) hp1 hn1 hR1 with⟨d2,p16,N16,hm16,hs16,hp16,hn16,hR16,hN16,S16⟩|⟨wq16,p16,N16,W16,hm16,hs16,hN16,hW16,S16⟩
   .have O1:=jh
    have O2:=S16;refine drg O a6 [] [0] [(3,.r fun _=>.agg [.int .i64 2,.sl none none 0 0 2 (fun _=>[]),.int .i64 (-1),.int .u64 0,.int .u64 0]),(4,lc J E (.bool (.v d2)) N16 p16)] Z fun X16 _ _ Z=>?_
    exact(rgo O a6 Z (v:=()) (q:=p16) (by simp[u3,z7,<-hx0,<-hx1,<-he,Rs.bind,t0,<-hv0,<-hv1,hdn0,hdn1,hm16]) hN16).2
   have O1:=jh;have O2:=S16;refine drg O a6 [] [0] [(3,.r fun _=>.agg [.int .i64 2,.sl none none 0 0 2 (fun _=>[]),.int .i64 (-1),.int .u64 0,.int .u64 0]),(4,sc J E (.bool .ff) N16 W16 p16.note)] Z fun X16 _ _ Z=>?_
   exact(rst O a6 Z (q:=p16) (wq:=wq16) (X16 4) (by simp[u3,z7,<-hx0,<-hx1,<-he,Rs.bind,t0,<-hv0,<-hv1,hdn0,hdn1,hm16]) hN16 (hW16 _)).2
  dsimp only[lsC,lsB]at hJ Z;obtain⟨X1,wq1,pp1,hsp1,hN1,hW1,ht1⟩:=hJ;subst ht1;refine wp_seq (wp_seq (rg O a6 [48,0,2,5,11,12,13] [0,5,13,29] [] Z fun X9 _ _ Z=>?_));refine j3 Z rfl (fun Z=>?_);refine wp_exit (rg O a6 [12,0,2,5,11] [0,5,29] [] Z fun X6 _ _ Z=>?_);replace Z:=Z.headS (v':=.int .i64 2) (by subst O;exact zr) rfl;refine j5 (wp_seq (wp_seq (rg O a6 [31,0,2,5,11,12] [0,5,29] [] Z fun X5 _ _ Z=>?_)));replace Z:=Z.headS (v':=.bool .ff) (Sim.bool (by subst O;rfl)) rfl;refine j3 Z rfl (fun Z=>?_);have O1:=jh;have O2:=tx 0 b J E hE N1 Q1 pp1.note l v;refine wp_exit (drg O a6 [] [0] [(3,.r fun _=>.agg [.int .i64 2,.sl none none 0 0 2 (fun _=>[]),.int .i64 (-1),.int .u64 0,.int .u64 0]),(4,dc J E (.bool .ff) N1 Q1 pp1.note)] Z fun X16 _ _ Z=>?_);exact(rst O a6 Z (q:=pp1) (wq:=wq1) X1 (hsp1) hN1 hW1).2
 dsimp only[lsC,lsB]at hJ Z;obtain⟨X0,wq0,pp0,hsp0,hN0,hW0,ht0⟩:=hJ;subst ht0;refine wp_seq (wp_seq (rg O a6 [48,0,2,5,11,12,13] [0,5,13,29] [] Z fun X9 _ _ Z=>?_));refine j3 Z rfl (fun Z=>?_);refine wp_exit (rg O a6 [12,0,2,5,11] [0,5,29] [] Z fun X6 _ _ Z=>?_);replace Z:=Z.headS (v':=.int .i64 1) (by subst O;exact zr) rfl;refine j5 (wp_seq (wp_seq (rg O a6 [31,0,2,5,11,12] [0,5,29] [] Z fun X5 _ _ Z=>?_)));replace Z:=Z.headS (v':=.bool .tt) (Sim.bool (by subst O;rfl)) rfl;refine j1 Z rfl (fun Z=>?_);have O1:=SC1;refine wp_skip (wp_seq (wp_block (wp_seq (rg O a6 [0,2,5,11,12,13] [0,5,13,29] [(2,.r fun _=>.tup [.agg [.int .i64 x1.len,.int .u64 x1.bits],.int .i64 y1])] Z fun X7 _ _ Z=>?_))));refine wp_seq (rg O a6 [15,0,2,5,11,12,13] [0,5,13,29] [] Z fun X8 _ _ Z=>?_);refine wp_block (l4 (ι:=LSt) (fun q=>[(15,.bool (lsB q))]) (fun q=>[(0,⟨b,174,lsC J E q⟩)]) (fun q=>[]) (fun q=>match q with| .sp M Q u=>N0=M/\Q0=Q/\pp0.note=u|_=>False) (fun q=>lsM q) (.sp N0 Q0 pp0.note) ⟨rfl,rfl,rfl⟩ Z ?_)
 rintro q hJ _ _ Z
 rcases q with⟨nn,pp,NN⟩|⟨pp,NN⟩|⟨NN,QQ,tt⟩
 .exact (hJ:False).elim
 .exact (hJ:False).elim
 dsimp only[lsC,lsB]at hJ Z;obtain⟨rfl,rfl,rfl⟩:=hJ;refine wp_seq (wp_seq (rg O a6 [48,0,2,5,11,12,13] [0,5,13,29] [] Z fun X9 _ _ Z=>?_));refine j3 Z rfl (fun Z=>?_);refine wp_exit (rg O a6 [12,0,2,5,11] [0,5,29] [] Z fun X6 _ _ Z=>?_);replace Z:=Z.headS (v':=.int .i64 2) (by subst O;exact zr) rfl;refine j5 (wp_seq (wp_seq (rg O a6 [31,0,2,5,11,12] [0,5,29] [] Z fun X5 _ _ Z=>?_)));replace Z:=Z.headS (v':=.bool .ff) (Sim.bool (by subst O;rfl)) rfl;refine j3 Z rfl (fun Z=>?_);have O1:=jh;have O2:=tx 0 b J E hE N0 Q0 pp0.note l v;refine wp_exit (drg O a6 [] [0] [(3,.r fun _=>.agg [.int .i64 2,.sl none none 0 0 2 (fun _=>[]),.int .i64 (-1),.int .u64 0,.int .u64 0]),(4,dc J E (.bool .ff) N0 Q0 pp0.note)] Z fun X16 _ _ Z=>?_);exact(rst O a6 Z (q:=pp0) (wq:=wq0) X0 (hsp0) hN0 hW0).2
theorem Fh(k0 b:Nat)(J:i5)(hJ:j0 J)(E:s5)(hE:E.n<=1000000)(N:Nat)(p:Pst)(hR:Rel E N p)(hp:f8 p)(hn:p.n<=1000000)(l:Lab)(hl:LOk l)(v:Int)(x:RA)(hx:K8 x)(n:Nat)(hf:p.n<n):u2 199 k0 b J E N p [f4 l,.int .u64 v,C6 x] (fun _=>i4) (i4) (u3 (J.budget-E.n) n l v x p):=u2.re (Bc b J hJ E hE N p hR hp hn l hl v x hx n hf) (by repeat(first|exact trivial|refine⟨zr,?_⟩))
theorem Bi(b:Nat)(J:i5)(hJ:j0 J)(E:s5)(hE:E.n<=1000000)(N:Nat)(p:Pst)(hR:Rel E N p)(hp:f8 p)(hn:p.n<=1000000)(l:Lab)(hl:LOk l)(v:Int)(n:Nat)(hth:oY n)(hf:p.n<n):u2 200 0 b J E N p [f4 l,.int .u64 v] (fun _=>i4) (i4) (L9 J.bucket (J.budget-E.n) n (I6 J.bucket (J.budget-E.n) n) l v p):=by
 intro m w hm hargs hpre;have hN0:N=E.n-p.n:=by have:=hR.n;omega
 have SC0:=T5 l hl.u 0 (.inl rfl);have SC1:=T5 l hl.u 1 (.inr rfl);have hk0:=hl.ch 0;have hk1:=hl.ch 1;simp only[f4]at SC0 SC1;obtain⟨x0,hx0⟩:=eqv (chV l 0);rw[<-hx0]at SC0 hk0;obtain⟨x1,hx1⟩:=eqv (chV l 1);rw[<-hx1]at SC1 hk1;obtain⟨y0,hy0⟩:=eqv (chE l 0);rw[<-hy0]at SC0;obtain⟨y1,hy1⟩:=eqv (chE l 1);rw[<-hy1]at SC1;refine enX 91 hm hpre hargs Tryz.func200 fun B O a0 Z=>?_
 refine wp_seq (rg O a6 [0,2,4] [0,4] [] Z fun X0 _ _ Z=>?_);have O1:=SC0;refine wp_seq (rg O a6 [0,2,4,6] [0,4,6] [(1,.r fun _=>.tup [.agg [.int .i64 x0.len,.int .u64 x0.bits],.int .i64 y0])] Z fun X1 _ _ Z=>?_);have O1:=SC1;refine wp_seq (rg O a6 [0,2,4,6,8] [0,4,6,8] [(1,.r fun _=>.tup [.agg [.int .i64 x1.len,.int .u64 x1.bits],.int .i64 y1])] Z fun X2 _ _ Z=>?_);apply wp_seq
 rcases(yd 0 b J hJ E hE N p hR hp hn l v x0 n (by skip;omega)).two (aQ _ _ _ _ _ _) hp hn hR with⟨z0,p3,N3,hm3,hs3,hp3,hn3,hR3,hN3,S3⟩|⟨wq3,p3,N3,W3,hm3,hs3,hN3,hW3,S3⟩
 .have hz0:∀y,z0 = .fr y->K8 y:=fun y hy=>fY hp (by rw[hm3,hy])
  have T3:=S3;unfold tk at T3;obtain⟨y0_,hy0_⟩:=eqv (fzR z0);rw[<-hy0_]at T3;obtain⟨i0,hi0⟩:=eqv (fzJ z0);rw[<-hi0]at T3;have O1:=T3;have O2:=S3;refine rg O a6 [0,2,4,6,8,10,11] [0,4,6,8,10] [(4,lc J E (.tup [.agg [.int .i64 y0_.r.kd,.sl none y0_.A y0_.r.n y0_.c 2 (fun i=>itC (y0_.r.f i)),.int .i64 y0_.r.nx.len,.int .u64 y0_.r.nx.bits,.int .u64 y0_.r.mrk],.int .i64 i0]) N3 p3)] Z fun X3 _ _ Z=>?_
  refine wp_seq (wp_seq (rg O a6 [35,0,2,4,6,8,10,11] [0,4,6,8,10] [] Z fun X4 _ _ Z=>?_));apply a7 Z rfl<;>intro hb Z
  .have tz0:z0 = .over:=Hy (by rw[<-hi0];subst O;simpa[std,a8]using hb)
   exact wp_ret ((rgo O a6 Z (v:=()) (q:=p3) (by simp[L9,<-hx0,<-hx1,Rs.bind,hm3,tz0]) hN3).1)
  have ta0:¬fzJ z0<0:=by
   have:¬i0<0:=by subst O;simpa[std,a8]using hb
   rw[<-hi0];exact this
  refine wp_skip (wp_seq (wp_seq (rg O a6 [37,0,2,4,6,8,10] [0,4,6,8,10] [] Z fun X5 _ _ Z=>?_)));apply a7 Z rfl<;>intro hb Z
  .have tz0:z0 = .unfit:=Hx (by rw[<-hi0];subst O;simpa[std,a8]using hb)
   apply wp_seq
   rcases(yl 0 b J hJ E hE N3 p3 hR3 hp3 hn3 l hl v x0 x1 hx0 hx1 n hth (by skip;have:=hs3.le;omega)).two (cx _ _ (E7 _ _ _) _ _ _) hp3 hn3 hR3 with⟨v6,p6,N6,hm6,hs6,hp6,hn6,hR6,hN6,S6⟩|⟨wq6,p6,N6,W6,hm6,hs6,hN6,hW6,S6⟩
   .have O1:=S6
    refine rg O a6 [] [0] [(5,lc J E (i4) N6 p6)] Z fun X6 _ _ Z=>?_
    exact wp_ret ((rgo O a6 Z (v:=()) (q:=p6) (by simp[L9,<-hx0,<-hx1,Rs.bind,hm3,tz0,hm6]) hN6).1)
   have O1:=S6;refine rg O a6 [] [0] [(5,sc J E (i4) N6 W6 p6.note)] Z fun X6 _ _ Z=>?_
   exact wp_ret ((rst O a6 Z (q:=p6) (wq:=wq6) (X6 5) (by simp[L9,<-hx0,<-hx1,Rs.bind,hm3,tz0,hm6]) hN6 (hW6 _)).1)
  have tz0:z0 = .fr y0_:=by
   rw[hy0_];refine Fd ta0 ?_;have:¬i0=0:=by subst O;simpa[std,a8]using hb
   rw[<-hi0];exact this
  have ty0:=hz0 _ tz0;refine wp_skip (wp_seq ?_)
  rcases(yd 0 b J hJ E hE N3 p3 hR3 hp3 hn3 l v x1 n (by skip;have:=hs3.le;omega)).two (aQ _ _ _ _ _ _) hp3 hn3 hR3 with⟨z1,p7,N7,hm7,hs7,hp7,hn7,hR7,hN7,S7⟩|⟨wq7,p7,N7,W7,hm7,hs7,hN7,hW7,S7⟩
  .have hz1:∀y,z1 = .fr y->K8 y:=fun y hy=>fY hp3 (by rw[hm7,hy])
   have T7:=S7;unfold tk at T7;obtain⟨y1_,hy1_⟩:=eqv (fzR z1);rw[<-hy1_]at T7;obtain⟨i1,hi1⟩:=eqv (fzJ z1);rw[<-hi1]at T7;have O1:=T7;have O2:=S7;refine rg O a6 [0,2,4,6,8,10,12,13] [0,4,6,8,10,12] [(4,lc J E (.tup [.agg [.int .i64 y1_.r.kd,.sl none y1_.A y1_.r.n y1_.c 2 (fun i=>itC (y1_.r.f i)),.int .i64 y1_.r.nx.len,.int .u64 y1_.r.nx.bits,.int .u64 y1_.r.mrk],.int .i64 i1]) N7 p7)] Z fun X7 _ _ Z=>?_
   refine wp_seq (wp_seq (rg O a6 [53,0,2,4,6,8,10,12,13] [0,4,6,8,10,12] [] Z fun X8 _ _ Z=>?_));apply a7 Z rfl<;>intro hb Z
   .have tz1:z1 = .over:=Hy (by rw[<-hi1];subst O;simpa[std,a8]using hb)
    exact wp_ret ((rgo O a6 Z (v:=()) (q:=p7) (by simp[L9,<-hx0,<-hx1,Rs.bind,hm3,tz0,hm7,tz1]) hN7).1)
   have ta1:¬fzJ z1<0:=by
    have:¬i1<0:=by subst O;simpa[std,a8]using hb
    rw[<-hi1];exact this
   have ty1:K8 y1_:=by
    rw[hy1_]
    cases hz:z1 with
    |fr y=>exact hz1 y hz
    |over=>exact vz
    |unfit=>exact vz
   have SU:=Fe y0_ y1_ ty0 ty1;obtain⟨r2,hr2⟩:=eqv ((cZ y0_ y1_).1.rn);rw[<-hr2]at SU;obtain⟨e2,he2⟩:=eqv ((cZ y0_ y1_).2);rw[<-he2]at SU;have ha2:r2.abs=(cZ y0_ y1_).1:=by rw[hr2];exact U7 _
   have hl2:r2.abs.items.length=r2.n:=by rw[ha2,hr2];rfl
   have O1:=SU;refine wp_skip (wp_seq (rg O a6 [0,2,4,6,8,13,14,15] [0,4,6,8,14] [(2,.r fun z=>.tup [.agg [.int .i64 r2.kd,.sl none (z.A 0) r2.n (z.c 0) 2 (fun i=>itC (r2.f i)),.int .i64 r2.nx.len,.int .u64 r2.nx.bits,.int .u64 r2.mrk],.int .i64 e2])] Z fun X9 _ _ Z=>?_));refine wp_seq (wp_seq (drg O a6 [76,0,2,4,6,8,14] [0,4,6,8,14] [] Z fun X10 _ _ Z=>?_));apply a7 Z rfl<;>intro hb Z
   .have h9:(if(if decide (i1=0)=true then true else !decide (e2=0))=true then true else decide ((r2.n:Int)>J.bucket))=true:=by subst O;exact hb
    have htot:L9 J.bucket (J.budget-E.n) n (I6 J.bucket (J.budget-E.n) n) l v p=aS (J.budget-E.n) (I6 J.bucket (J.budget-E.n) n) l v p7:=by
     by_cases hi:i1=0
     .have hz:=Hx (by rw[<-hi1];exact hi)
      simp[L9,Rs.bind,<-hx0,<-hx1,hm3,tz0,hm7,hz]
     have hz:z1 = .fr y1_:=by rw[hy1_];exact Fd ta1 (by rw[<-hi1];exact hi)
     have tu:¬((cZ y0_ y1_).2=0/\(r2.abs.items.length:Int)<=J.bucket):=by
      rw[<-he2,hl2];intro h;simp[hi,h.1]at h9;omega
     simp[L9,Rs.bind,<-hx0,<-hx1,hm3,tz0,hm7,hz,<-ha2,if_neg tu]
    apply wp_seq
    rcases(yl 0 b J hJ E hE N7 p7 hR7 hp7 hn7 l hl v x0 x1 hx0 hx1 n hth (by skip;have:=hs3.le;have:=hs7.le;omega)).two (cx _ _ (E7 _ _ _) _ _ _) hp7 hn7 hR7 with⟨v11,p11,N11,hm11,hs11,hp11,hn11,hR11,hN11,S11⟩|⟨wq11,p11,N11,W11,hm11,hs11,hN11,hW11,S11⟩
    .have O1:=S11
     refine rg O a6 [] [0] [(5,lc J E (i4) N11 p11)] Z fun X11 _ _ Z=>?_
     exact wp_ret ((rgo O a6 Z (v:=()) (q:=p11) (by rw[htot,hm11]) hN11).1)
    have O1:=S11;refine rg O a6 [] [0] [(5,sc J E (i4) N11 W11 p11.note)] Z fun X11 _ _ Z=>?_
    exact wp_ret ((rst O a6 Z (q:=p11) (wq:=wq11) (X11 5) (by rw[htot,hm11]) hN11 (hW11 _)).1)
   have h9:(if(if decide (i1=0)=true then true else !decide (e2=0))=true then true else decide ((r2.n:Int)>J.bucket))=false:=by subst O;exact hb
   have hi:¬i1=0:=by intro h;simp[h]at h9
   have tz1:z1 = .fr y1_:=by rw[hy1_];exact Fd ta1 (by rw[<-hi1];exact hi)
   have tu:(cZ y0_ y1_).2=0/\(r2.abs.items.length:Int)<=J.bucket:=by
    rw[<-he2,hl2];simp[hi]at h9;exact⟨h9.1,by omega⟩
   refine wp_skip (wp_seq ?_)
   rcases(bN 0 b J hJ E hE N7 p7 hR7 hp7 hn7 l v ⟨(X9 2).A 0,(X9 2).c 0,r2⟩).two (l5 _ _ _ _ _) hp7 hn7 hR7 with⟨d5,p12,N12,hm12,hs12,hp12,hn12,hR12,hN12,S12⟩|⟨wq12,p12,N12,W12,hm12,hs12,hN12,hW12,S12⟩
   .have O1:=S12
    refine rg O a6 [87,0,4] [0,4] [(4,lc J E (.bool (.v d5)) N12 p12)] Z fun X12 _ _ Z=>?_
    apply a7 Z rfl<;>intro hb Z
    .have t5:d5=true:=by exact hb
     rcases(yk n 0 b J hJ E hE N12 p12 hR12 hp12 hn12 l hl (by skip;have:=hs3.le;have:=hs7.le;have:=hs12.le;omega)).two (Y7 _ _ _ _) hp12 hn12 hR12 with⟨v13,p13,N13,hm13,hs13,hp13,hn13,hR13,hN13,S13⟩|⟨wq13,p13,N13,W13,hm13,hs13,hN13,hW13,S13⟩
     .have O1:=S13
      refine rg O a6 [] [0] [(2,lc J E (i4) N13 p13)] Z fun X13 _ _ Z=>?_
      exact(rgo O a6 Z (v:=()) (q:=p13) (by simp[L9,<-hx0,<-hx1,Rs.bind,hm3,tz0,hm7,<-ha2,tz1,if_pos tu,hm12,t5,hm13]) hN13).2
     have O1:=S13;refine rg O a6 [] [0] [(2,sc J E (i4) N13 W13 p13.note)] Z fun X13 _ _ Z=>?_
     exact(rst O a6 Z (q:=p13) (wq:=wq13) (X13 2) (by simp[L9,<-hx0,<-hx1,Rs.bind,hm3,tz0,hm7,<-ha2,tz1,if_pos tu,hm12,t5,hm13]) hN13 (hW13 _)).2
    have t5:d5=false:=by exact hb
    exact wp_skip ((rgo O a6 Z (v:=()) (q:=p12) (by simp[L9,<-hx0,<-hx1,Rs.bind,hm3,tz0,hm7,<-ha2,tz1,if_pos tu,hm12,t5]) hN12).2)
   have O1:=S12;refine rg O a6 [87,0,4] [0,4] [(4,sc J E (.bool .ff) N12 W12 p12.note)] Z fun X12 _ _ Z=>?_
   refine j3 Z rfl (fun Z=>?_);exact wp_skip ((rst O a6 Z (q:=p12) (wq:=wq12) (X12 4) (by simp[L9,<-hx0,<-hx1,Rs.bind,hm3,tz0,hm7,<-ha2,tz1,if_pos tu,hm12]) hN12 (hW12 _)).2)
  have O1:=S7;refine rg O a6 [0,2,4,6,8,10,12,13] [0,4,6,8,10,12] [(4,sc J E (.tup [.agg [.int .i64 0,.sl none none 0 0 2 (fun _=>[]),.int .i64 0,.int .u64 0,.int .u64 0],.int .i64 (-1)]) N7 W7 p7.note)] Z fun X7 _ _ Z=>?_
  refine wp_seq (wp_seq (rg O a6 [53,0,2,4,6,8,10,12,13] [0,4,6,8,10,12] [] Z fun X8 _ _ Z=>?_));apply a7 Z rfl<;>intro hb Z
  .skip
   exact wp_ret ((rst O a6 Z (q:=p7) (wq:=wq7) (X7 4) (by simp[L9,<-hx0,<-hx1,Rs.bind,hm3,tz0,hm7]) hN7 (hW7 _)).1)
  exfalso
  have h9:decide ((-1:Int)<0)=false:=by subst O;exact hb
  exact absurd h9 (by decide)
 have O1:=S3;refine rg O a6 [0,2,4,6,8,10,11] [0,4,6,8,10] [(4,sc J E (.tup [.agg [.int .i64 0,.sl none none 0 0 2 (fun _=>[]),.int .i64 0,.int .u64 0,.int .u64 0],.int .i64 (-1)]) N3 W3 p3.note)] Z fun X3 _ _ Z=>?_
 refine wp_seq (wp_seq (rg O a6 [35,0,2,4,6,8,10,11] [0,4,6,8,10] [] Z fun X4 _ _ Z=>?_));apply a7 Z rfl<;>intro hb Z
 .skip
  exact wp_ret ((rst O a6 Z (q:=p3) (wq:=wq3) (X3 4) (by simp[L9,<-hx0,<-hx1,Rs.bind,hm3]) hN3 (hW3 _)).1)
 exfalso
 have h9:decide ((-1:Int)<0)=false:=by subst O;exact hb
 exact absurd h9 (by decide)
theorem Fq(k0 b:Nat)(J:i5)(hJ:j0 J)(E:s5)(hE:E.n<=1000000)(N:Nat)(p:Pst)(hR:Rel E N p)(hp:f8 p)(hn:p.n<=1000000)(l:Lab)(hl:LOk l)(v:Int)(n:Nat)(hth:oY n)(hf:p.n<n):u2 200 k0 b J E N p [f4 l,.int .u64 v] (fun _=>i4) (i4) (L9 J.bucket (J.budget-E.n) n (I6 J.bucket (J.budget-E.n) n) l v p):=u2.re (Bi b J hJ E hE N p hR hp hn l hl v n hth hf) (by repeat(first|exact trivial|refine⟨zr,?_⟩))
theorem Bv(b:Nat)(J:i5)(hJ:j0 J)(E:s5)(hE:E.n<=1000000)(N:Nat)(p:Pst)(hR:Rel E N p)(hp:f8 p)(hn:p.n<=1000000)(l:Lab)(hl:LOk l)(g:r9)(hg:cW g)(hgh:g.has=true)(n:Nat)(hth:oY n)(hf:p.n<n):u2 141 0 b J E N p [f4 l,u4 g] (fun _=>i4) (i4) (R3 J.bucket (J.budget-E.n) n l g p):=by
 intro m w hm hargs hpre;have hN0:N=E.n-p.n:=by have:=hR.n;omega
 refine enX 25 hm hpre hargs Tryz.func141 fun B O a0 Z=>?_
 refine wp_seq (rg O a6 [0,4,5] [0,4,5] [] Z fun X0 _ _ Z=>?_);refine wp_seq (rg O a6 [9,0,4,5] [0,4,5] [] Z fun X1 _ _ Z=>?_);apply a7 Z rfl<;>intro hb Z
 .have t1:gk g 3=true:=by
   have h:decide (g.x.r.kd=3)=true:=by subst O;exact hb
   unfold gk;rw[hgh,h];rfl
  rcases(Fh 0 b J hJ E hE N p hR hp hn l hl g.ver g.x hg.ra n hf).two (iX _ _ _ _ _ _) hp hn hR with⟨v2,p2,N2,hm2,hs2,hp2,hn2,hR2,hN2,S2⟩|⟨wq2,p2,N2,W2,hm2,hs2,hN2,hW2,S2⟩
  .have O1:=S2
   refine rg O a6 [] [0] [(6,lc J E (i4) N2 p2)] Z fun X2 _ _ Z=>?_
   exact(rgo O a6 Z (v:=()) (q:=p2) (by simp[R3,dT,Rs.bind,t1,hm2]) hN2).2
  have O1:=S2;refine rg O a6 [] [0] [(6,sc J E (i4) N2 W2 p2.note)] Z fun X2 _ _ Z=>?_
  exact(rst O a6 Z (q:=p2) (wq:=wq2) (X2 6) (by simp[R3,dT,Rs.bind,t1,hm2]) hN2 (hW2 _)).2
 have t1:gk g 3=false:=by
  have h:decide (g.x.r.kd=3)=false:=by subst O;exact hb
  unfold gk;rw[hgh,h];rfl
 refine wp_seq (rg O a6 [19,0,4,5] [0,4,5] [] Z fun X3 _ _ Z=>?_);apply a7 Z rfl<;>intro hb Z
 .have t2:l.len<64:=by subst O;simpa[std,a8]using hb
  rcases(Fq 0 b J hJ E hE N p hR hp hn l hl g.ver n hth hf).two (oq _ _ _ _ (E7 _ _ _) _ _ _) hp hn hR with⟨v4,p4,N4,hm4,hs4,hp4,hn4,hR4,hN4,S4⟩|⟨wq4,p4,N4,W4,hm4,hs4,hN4,hW4,S4⟩
  .have O1:=S4
   refine rg O a6 [] [0] [(4,lc J E (i4) N4 p4)] Z fun X4 _ _ Z=>?_
   exact(rgo O a6 Z (v:=()) (q:=p4) (by simp[R3,dT,Rs.bind,t1,t2,hm4]) hN4).2
  have O1:=S4;refine rg O a6 [] [0] [(4,sc J E (i4) N4 W4 p4.note)] Z fun X4 _ _ Z=>?_
  exact(rst O a6 Z (q:=p4) (wq:=wq4) (X4 4) (by simp[R3,dT,Rs.bind,t1,t2,hm4]) hN4 (hW4 _)).2
 have t2:¬l.len<64:=by subst O;simpa[std,a8]using hb
 exact wp_skip ((rgo O a6 Z (v:=()) (q:=p) (by simp[R3,dT,Rs.bind,t1,t2]) hN0).2)
theorem FA(k0 b:Nat)(J:i5)(hJ:j0 J)(E:s5)(hE:E.n<=1000000)(N:Nat)(p:Pst)(hR:Rel E N p)(hp:f8 p)(hn:p.n<=1000000)(l:Lab)(hl:LOk l)(g:r9)(hg:cW g)(hgh:g.has=true)(n:Nat)(hth:oY n)(hf:p.n<n):u2 141 k0 b J E N p [f4 l,u4 g] (fun _=>i4) (i4) (R3 J.bucket (J.budget-E.n) n l g p):=u2.re (Bv b J hJ E hE N p hR hp hn l hl g hg hgh n hth hf) (by repeat(first|exact trivial|refine⟨zr,?_⟩))
theorem Ba(b:Nat)(J:i5)(hJ:j0 J)(E:s5)(hE:E.n<=1000000)(N:Nat)(p:Pst)(hR:Rel E N p)(hp:f8 p)(hn:p.n<=1000000)(l:Lab)(hl:LOk l)(n:Nat)(hfin:∀j,j<n->tO j)(hf:p.n<n):u2 167 0 b J E N p [f4 l] (fun _=>i4) (i4) (I6 J.bucket (J.budget-E.n) n l p):=by
 intro m w hm hargs hpre;have hN0:N=E.n-p.n:=by have:=hR.n;omega
 have SP:=kL l hl.u;have hpar:=hl.par;simp only[f4]at SP;obtain⟨up,hup⟩:=eqv (F8 l);rw[<-hup]at SP hpar;obtain⟨ue,hue⟩:=eqv (G2 l);rw[<-hue]at SP;refine enX 66 hm hpre hargs Tryz.func167 fun B O a0 Z=>?_
 refine wp_seq (rg O a6 [0,3] [0,3] [] Z fun X0 _ _ Z=>?_);have O1:=SP;refine wp_seq (rg O a6 [0,3,4,5] [0,3,4] [(1,.r fun _=>.tup [.agg [.int .i64 up.len,.int .u64 up.bits],.int .i64 ue])] Z fun X1 _ _ Z=>?_);refine wp_seq (wp_seq (rg O a6 [14,0,3,4] [0,3,4] [] Z fun X2 _ _ Z=>?_));apply a7 Z rfl<;>intro hb Z
 .have t0:¬ue=0:=by subst O;simpa[std,a8]using hb
  exact wp_ret ((rgo O a6 Z (v:=()) (q:=p) (by simp[I6,<-hup,<-hue,Rs.bind,t0]) hN0).1)
 have t0:ue=0:=by subst O;simpa[std,a8]using hb
 refine wp_skip (wp_block (l4 (ι:=LSt) (fun q=>[]) (fun q=>[(0,⟨b,174,lsC J E q⟩)]) (fun q=>[]) (fun q=>match q with| .go a r M=>de J.bucket (J.budget-E.n) n l up p=de J.bucket (J.budget-E.n) a l up r/\f8 r/\r.n<=1000000/\Rel E M r/\r.n<a/\r.n<=p.n/\a<=n| .dn r M=>False| .sp M Q u=>∃(X:i8) (wq:Wq) (pp:Pst),I6 J.bucket (J.budget-E.n) n l p = .stop wq pp/\M=E.n-pp.n/\Q=wqA X wq/\u=pp.note) (fun q=>lsM q) (.go n p N) ⟨rfl,hp,hn,hR,(by skip;omega),(by skip;omega),Nat.le_refl _⟩ Z ?_))
 rintro q hJ _ _ Z
 rcases q with⟨nn0,p0,N0⟩|⟨p9,N9⟩|⟨N0,Q0,t0⟩
 .dsimp only[lsC,lsB]at hJ Z
  obtain⟨hrun0,hp0,hn0,hR0,hf0,hle0,hnn0⟩:=hJ;obtain⟨m0,rfl⟩:∃n2,nn0=n2+1:=⟨nn0-1,by omega⟩
  have hN0:N0=E.n-p0.n:=by have:=hR0.n;omega
  refine wp_seq (wp_seq (rg O a6 [19,0,3,4] [0,3,4] [] Z fun X3 _ _ Z=>?_));refine j1 Z rfl (fun Z=>?_);refine wp_skip (wp_block (wp_seq ?_))
  rcases(K0 0 b J hJ E hE N0 p0 hR0 hp0 hn0 l).two (i7 _ _ _) hp0 hn0 hR0 with⟨g3,p4,N4,hm4,hs4,hp4,hn4,hR4,hN4,S4⟩|⟨wq4,p4,N4,W4,hm4,hs4,hN4,hW4,S4⟩
  .have hl4:=u5 hm4
   have hg4:=hp0.get hm4;have O1:=S4;refine rg O a6 [0,3,4,6] [0,3,4,6] [(2,lc J E (u4 g3) N4 p4)] Z fun X4 _ _ Z=>?_
   obtain⟨q4,hq4⟩:=eqv (gk g3 5);refine wp_seq (wp_seq ?_);refine rg O a6 [31,0,3,4,6] [0,3,4,6] [(6,.r fun _=>.bool (.v q4))] Z (hob:=by intro X;subst O;simp only[b7,Ob.holds,BE.den]<;>and_intros<;>repeat first|trivial|rfl|exact(by rw[hq4];exact A8 g3 5)|exact by rw[hq4];exact A8 g3 5|exact(fun _ _=>by kernel_rfl)|refine⟨?_,?_⟩|intro h|exact Int.le_refl _|decide|omega) fun X5 _ _ Z=>?_
   apply a7 Z rfl<;>intro hb Z
   .have tq4:gk g3 5=false:=by subst O;rw[<-hq4];revert hb;cases q4<;>simp[std]
    exact wp_ret ((rgo O a6 Z (v:=()) (q:=p4) (by simp[I6,<-hup,<-hue,Rs.bind,t0,hrun0,u7,hm4,tq4]) hN4).1)
   have tq4:gk g3 5=true:=by subst O;rw[<-hq4];revert hb;cases q4<;>simp[std]
   refine wp_skip (wp_seq ?_)
   rcases(K0 0 b J hJ E hE N4 p4 hR4 hp4 hn4 up).two (i7 _ _ _) hp4 hn4 hR4 with⟨g5,p6,N6,hm6,hs6,hp6,hn6,hR6,hN6,S6⟩|⟨wq6,p6,N6,W6,hm6,hs6,hN6,hW6,S6⟩
   .have hl6:=u5 hm6
    have hg6:=hp4.get hm6;have O1:=S6;refine rg O a6 [0,3,4,6,7] [0,3,4,6,7] [(2,lc J E (u4 g5) N6 p6)] Z fun X6 _ _ Z=>?_
    refine wp_seq (wp_seq (rg O a6 [38,0,3,4,6,7] [0,3,4,6,7] [] Z fun X7 _ _ Z=>?_));refine j3 Z rfl (fun Z=>?_);obtain⟨q6,hq6⟩:=eqv (gk g5 3);obtain⟨r6,hr6⟩:=eqv (gk g5 4);refine wp_skip (wp_seq (wp_seq ?_));refine rg O a6 [44,0,3,4,6,7] [0,3,4,6,7] [(1,.r fun _=>.bool (.v q6)),(4,.r fun _=>.bool (.v r6))] Z (hob:=by intro X;subst O;simp only[b7,Ob.holds,BE.den]<;>and_intros<;>repeat first|trivial|rfl|exact(by rw[hq6];exact A8 g5 3)|exact by rw[hq6];exact A8 g5 3|exact(by rw[hr6];exact A8 g5 4)|exact by rw[hr6];exact A8 g5 4|exact(fun _ _=>by kernel_rfl)|refine⟨?_,?_⟩|intro h|exact Int.le_refl _|decide|omega) fun X8 _ _ Z=>?_
    apply a7 Z rfl<;>intro hb Z
    .have tq6:(gk g5 3||gk g5 4)=true:=by
      have h9:(if q6=true then true else r6)=true:=by subst O;exact hb
      rw[<-hq6,<-hr6,<-h9];cases q6<;>rfl
     have hgh:g5.has=true:=by
      unfold gk at tq6;revert tq6;cases g5.has<;>simp
     have tn2:gk g5 2=false:=by
      unfold gk at tq6 ⊢;revert tq6;cases g5.has<;>simp<;>omega
     apply wp_seq
     rcases(hfin m0 (by omega) 0 b J hJ E hE N6 p6 hR6 hp6 hn6 up hpar g5 hg6 hgh (by have:=hl4;have:=hl6;omega)).two (F7 _ _ _ _ _ _) hp6 hn6 hR6 with⟨v9,p9,N9,hm9,hs9,hp9,hn9,hR9,hN9,S9⟩|⟨wq9,p9,N9,W9,hm9,hs9,hN9,hW9,S9⟩
     .have O1:=S9
      refine rg O a6 [] [0] [(3,lc J E (i4) N9 p9)] Z fun X9 _ _ Z=>?_
      exact wp_ret ((rgo O a6 Z (v:=()) (q:=p9) (by simp[I6,<-hup,<-hue,Rs.bind,t0,hrun0,u7,hm4,tq4,hm6,tq6,tn2,hm9]) hN9).1)
     have O1:=S9;refine rg O a6 [] [0] [(3,sc J E (i4) N9 W9 p9.note)] Z fun X9 _ _ Z=>?_
     exact wp_ret ((rst O a6 Z (q:=p9) (wq:=wq9) (X9 3) (by simp[I6,<-hup,<-hue,Rs.bind,t0,hrun0,u7,hm4,tq4,hm6,tq6,tn2,hm9]) hN9 (hW9 _)).1)
    have tq6:(gk g5 3||gk g5 4)=false:=by
     have h9:(if q6=true then true else r6)=false:=by subst O;exact hb
     rw[<-hq6,<-hr6,<-h9];cases q6<;>rfl
    refine wp_skip (wp_seq ?_)
    rcases Bool.eq_false_or_eq_true (gk g5 2)with t8|t8
    .rcases (bN 0 b J hJ E hE N6 p6 hR6 hp6 hn6 l g3.ver (asR 1 g3.x 0)).two (l5 _ _ _ _ _) hp6 hn6 hR6 with⟨d8,p10,N10,hm10,hs10,hp10,hn10,hR10,hN10,S10⟩|⟨wq10,p10,N10,W10,hm10,hs10,hN10,hW10,S10⟩
     .refine rg O a6 [65,0,3,4] [0,3,4] [(1,.r fun _=>.bool .tt),(15,lc J E (.bool (.v d8)) N10 p10)] Z (hob:=by intro X;subst O;simp only[b7,Ob.holds,BE.den]<;>and_intros<;>repeat first|trivial|rfl|exact((A8 g5 2).res fun _=>Sim.bool (by rw[t8];rfl))|exact S10|exact(fun _ _=>by kernel_rfl)|refine⟨?_,?_⟩|intro h|exact Int.le_refl _|decide|omega) fun X10 _ _ Z=>?_
      apply a7 Z rfl<;>intro hb Z
      .have t9:d8=true:=by exact hb
       exact wp_ret ((rgo O a6 Z (v:=()) (q:=p10) (by simp[I6,<-hup,<-hue,Rs.bind,t0,hrun0,u7,hm4,tq4,hm6,tq6,t8,hm10,t9]) hN10).1)
      have t9:d8=false:=by exact hb
      replace Z:=Z.keep [0,3,4] [0,3,4];exact wp_skip (⟨.go m0 p10 N10,⟨by rw[hrun0];simp[u7,Rs.bind,t0,hrun0,u7,hm4,tq4,hm6,tq6,t8,hm10,t9],hp10,hn10,hR10,by have:=hl4;have:=hs6.le;have:=hs10.le;have:=hf0;omega,by have:=hl4;have:=hs6.le;have:=hs10.le;have:=hle0;omega,by omega⟩,by simp[lsM],Z⟩)
     refine rg O a6 [65,0,3,4] [0,3,4] [(1,.r fun _=>.bool .tt),(15,sc J E (.bool .ff) N10 W10 p10.note)] Z (hob:=by intro X;subst O;simp only[b7,Ob.holds,BE.den]<;>and_intros<;>repeat first|trivial|rfl|exact((A8 g5 2).res fun _=>Sim.bool (by rw[t8];rfl))|exact S10|exact(fun _ _=>by kernel_rfl)|refine⟨?_,?_⟩|intro h|exact Int.le_refl _|decide|omega) fun X10 _ _ Z=>?_
     refine j3 Z rfl (fun Z=>?_);replace Z:=Z.keep [0,3,4] [0,3,4];exact wp_skip (⟨.sp N10 (W10 (X10 15)) p10.note,⟨(X10 15),wq10,p10,by simp[I6,<-hup,<-hue,Rs.bind,t0,hrun0,u7,hm4,tq4,hm6,tq6,t8,hm10],hN10,(hW10 _),rfl⟩,by simp[lsM],Z⟩)
    refine rg O a6 [65,0,3,4] [0,3,4] [(1,.r fun _=>.bool .ff)] Z (hob:=by intro X;subst O;simp only[b7,Ob.holds,BE.den]<;>and_intros<;>repeat first|trivial|rfl|exact((A8 g5 2).res fun _=>Sim.bool (by rw[t8];rfl))|exact(fun _ _=>by kernel_rfl)|refine⟨?_,?_⟩|intro h|exact Int.le_refl _|decide|omega) fun X10 _ _ Z=>?_
    refine j1 Z rfl (fun Z=>?_);exact wp_ret ((rgo O a6 Z (v:=()) (q:=p6) (by simp[I6,<-hup,<-hue,Rs.bind,t0,hrun0,u7,hm4,tq4,hm6,tq6,t8]) hN6).1)
   have O1:=S6;refine rg O a6 [0,3,4,6,7] [0,3,4,6,7] [(2,sc J E (.agg [.int .i64 0,.int .u64 0,.bool .ff,.int .i64 0,.sl none none 0 0 2 (fun _=>[]),.int .i64 0,.int .u64 0,.int .u64 0]) N6 W6 p6.note)] Z fun X6 _ _ Z=>?_
   refine wp_seq (wp_seq (rg O a6 [38,0,3,4,6,7] [0,3,4,6,7] [] Z fun X7 _ _ Z=>?_));refine j1 Z rfl (fun Z=>?_);exact wp_ret ((rst O a6 Z (q:=p6) (wq:=wq6) (X6 2) (by simp[I6,<-hup,<-hue,Rs.bind,t0,hrun0,u7,hm4,tq4,hm6]) hN6 (hW6 _)).1)
  have O1:=S4;refine rg O a6 [0,3,4,6] [0,3,4,6] [(2,sc J E (.agg [.int .i64 0,.int .u64 0,.bool .ff,.int .i64 0,.sl none none 0 0 2 (fun _=>[]),.int .i64 0,.int .u64 0,.int .u64 0]) N4 W4 p4.note)] Z fun X4 _ _ Z=>?_
  refine wp_seq (wp_seq (rg O a6 [31,0,3,4,6] [0,3,4,6] [] Z fun X5 _ _ Z=>?_));refine j1 Z rfl (fun Z=>?_);exact wp_ret ((rst O a6 Z (q:=p4) (wq:=wq4) (X4 2) (by simp[I6,<-hup,<-hue,Rs.bind,t0,hrun0,u7,hm4]) hN4 (hW4 _)).1)
 .exact (hJ:False).elim
 dsimp only[lsC,lsB]at hJ Z;obtain⟨X0,wq0,pp0,hsp0,hN0,hW0,ht0⟩:=hJ;subst ht0;refine wp_seq (wp_seq (rg O a6 [19,0,3,4] [0,3,4] [] Z fun X3 _ _ Z=>?_));refine j3 Z rfl (fun Z=>?_);exact wp_exit ((rst O a6 Z (q:=pp0) (wq:=wq0) X0 (hsp0) hN0 hW0).2)
theorem Ff(k0 b:Nat)(J:i5)(hJ:j0 J)(E:s5)(hE:E.n<=1000000)(N:Nat)(p:Pst)(hR:Rel E N p)(hp:f8 p)(hn:p.n<=1000000)(l:Lab)(hl:LOk l)(n:Nat)(hfin:∀j,j<n->tO j)(hf:p.n<n):u2 167 k0 b J E N p [f4 l] (fun _=>i4) (i4) (I6 J.bucket (J.budget-E.n) n l p):=u2.re (Ba b J hJ E hE N p hR hp hn l hl n hfin hf) (by repeat(first|exact trivial|refine⟨zr,?_⟩))
theorem tp:∀n,oY n/\tO n:=by
 intro n
 induction n using Nat.strongRecOn with
 |_ n ih=>
  have h1:oY n:=fun k0 b J hJ E hE N p hR hp hn l hl hf=>Ff k0 b J hJ E hE N p hR hp hn l hl n (fun j hj=>(ih j hj).2) hf
  exact⟨h1,fun k0 b J hJ E hE N p hR hp hn l hl g hg hgh hf=>FA k0 b J hJ E hE N p hR hp hn l hl g hg hgh n h1 hf⟩
theorem xZ(n:Nat):oY n:=(tp n).1
theorem oF(n:Nat):tO n:=(tp n).2
end Go.Proofs.YtodelmejfpkicaaGreat.Sym
