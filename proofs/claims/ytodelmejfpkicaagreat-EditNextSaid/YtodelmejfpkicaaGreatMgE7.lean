/-
  SymEd4, SymEd5, SymRun27, SymLm, SymTr1, PlTrie, SymTr2, SymTr3, PlEdEx, SymEx27, SymSam, SymSd1, SymSd2, SymSd3, SymEe1, PlNote, SymEe2, SymEe3, SymDn, SymEe4, SymL27N, WalkEditNext: put together by a program of mine (a claim may have 60 files at most). Conditions: none.
-/
import Derived.WalkKit
import Derived.WalkLawsBesides
import Derived.WalkSpells
import Derived.Lib.Hide
import Derived.Deep.QuietTactic
import Derived.BigQuiet
import Derived.Deep.LoopGhost
import Derived.Deep.DeepCutAuto
import Derived.Deep.RegionLaw
import Derived.Lib.Overlaps
import Derived.Laws.CopyOwn
import Derived.IntWalk
import Derived.ProofKit
import Derived.OpenShut
import Derived.ShutString
import Derived.ChangeOld
import Derived.Deep.Slices
import Derived.Test.YtodelmejfpkicaaGreatProg
import Derived.Orders
import Derived.OrdersHeld
import Derived.Defers
import Derived.Recover
import Derived.Lib.BitFns
import Derived.ChangeKeysEq
import Derived.Test.YtodelmejfpkicaaGreatChecked
import Derived.Lib.BufferWrite
import Derived.Maps.OwnSet
import Derived.Maps.RangeWalk
import Derived.Maps.Ext
import Derived.DeepKeys4
import Derived.LoopN
import Derived.Shelf.SlSortCmp.WholeK
import Derived.Shelf.SlSortCmp.NoneTotal
import Derived.Deep.RegionHeld3
import Derived.Ground.SlsfProg
import Derived.Shelf.SlGeneric
import Derived.ScopeJumps
import Derived.RangeFuncLeaves
import Derived.RangeFuncCalls
import Derived.OrdersIn
import Derived.Test.YtodelmejfpkicaaGreatMgE1
import Derived.Test.YtodelmejfpkicaaGreatMgE2
import Derived.Test.YtodelmejfpkicaaGreatMgE3
import Derived.Test.YtodelmejfpkicaaGreatMgE4
import Derived.Test.YtodelmejfpkicaaGreatMgE5
import Derived.Test.YtodelmejfpkicaaGreatMgE6
set_option linter.unusedVariables false
set_option linter.unusedSimpArgs false
set_option maxRecDepth 100000
set_option maxHeartbeats 1600000
namespace Go.Proofs.YtodelmejfpkicaaGreat.Sym
open Go Go.RowKit
theorem rh(kf:Nat->Int)(ff:Nat->Nat)(k0:kf 0=4)(k1:kf 1=5)(f0:ff 0=134)(f1:ff 1=135):k7 Tryz.prog 72 [] (fun y=>.sl none (y.A 0) 2 (y.c 0) 2 (fun i=>[.int .i64 (kf i),.fn (ff i) [] []])):=by
 intro m w hm hargs;refine en 4 hm hargs Tryz.func72 fun B O a0 Z=>?_
 refine wp_seq (rg O a6 [] [] [] Z fun X0 _ _ Z=>?_);refine wp_seq (rg O a6 [0] [0,3] [] Z fun X1 _ _ Z=>?_);refine wp_ret ((rsi O a6 Z (⟨0,fun _=>some ⟨(X1 2).b,0,none⟩,fun _=>2,fun _=>.empty⟩) (he:=?_)));subst O;refine Sim.recell (fun i hi=>?_)
 match i,hi with
 |0,_=>show _=[AV.int .i64 (kf 0),.fn (ff 0) [] []];rw[k0,f0];rfl
 |1,_=>show _=[AV.int .i64 (kf 1),.fn (ff 1) [] []];rw[k1,f1];rfl
theorem xO:j6 Tryz.prog 73:=fun _ _=>by kernel_rfl
theorem AS(b:Nat)(J:i5)(hJ:j0 J)(A:Option Addr)(c:Nat)(p:Pst)(hp:f8 p)(hn:p.n<=1000000)(E:Option Addr)(Jc:i5)(hkc:Jc.kind=J.kind)(hkd:J.kind=4)(hh:J.how=1 \/ J.how=2)(hbk:0<=J.bucket/\J.bucket<=16):s8 73 0 b J A c p [.ep E 0 0 0 (jJ Jc)] (jH) (bJ J J.budget p):=by
 intro m w hm hargs hpre;obtain⟨kf,q0,q1⟩:∃kf:Nat->Int,kf 0=4/\kf 1=5:=⟨fun i=>if i=0 then 4 else 5,rfl,rfl⟩
 obtain⟨ff,r0,r1⟩:∃ff:Nat->Nat,ff 0=134/\ff 1=135:=⟨fun i=>if i=0 then 134 else 135,rfl,rfl⟩
 have SJ:=rh kf ff q0 q1 r0 r1;have hkj:Jc.kind=4:=hkc.trans hkd;refine enX 23 hm hpre hargs Tryz.func73 fun B O a0 Z=>?_
 refine wp_seq (rg O a6 [0,1,3] [0,3] [] Z fun X0 _ _ Z=>?_);have O1:=SJ;refine wp_seq (wp_seq (rg O a6 [8,0,1,3,6,7] [0,3] [(0,.r fun y=>.sl none (y.A 0) 2 (y.c 0) 2 (fun i=>[.int .i64 (kf i),.fn (ff i) [] []]))] Z fun X1 _ _ Z=>?_));refine wp_block (wp_loop_rounds 3 (C0 (wp_seq (rg O a6 [9,0,1,3,6,7,8] [0,3] [] Z fun X2 _ _ Z=>?_))));replace Z:=Z.headS (v':=.bool .tt) (Sim.bool (by subst O;rfl)) rfl;refine wp_seq (j1 Z rfl (fun Z=>?_));refine wp_skip (wp_seq (wp_block (wp_seq (rg O a6 [0,1,3,5,6,7,8] [5,0,3] [] Z fun X3 _ _ Z=>?_))));replace Z:=Z.memS (cells':=[.int .i64 4,.fn 134 [] []]) (by subst O;exact⟨(show Sim (.int .i64 (kf 0)) (.int .i64 4)by rw[q0];exact zr),(show Sim (.fn (ff 0) [] []) (.fn 134 [] [])by rw[r0];exact zr),trivial⟩);refine wp_seq (rg O a6 [16,0,1,3,5,6,7,8] [5,0,3] [] Z fun X4 _ _ Z=>?_);apply a7 Z rfl<;>intro hb Z
 .apply wp_seq
  rcases(Hk 0 b J hJ A c p hp hn hh).two (sX _ _ _ _ _ _ _) hp hn with⟨w5,p5,hm5,O1⟩|⟨rv5,p5,hm5,hs5,hp5,hn5,S5⟩
  .refine stp 3 O a6 [18,19] [0] [] Z O1 fun _ _ _ _ Z hk=>?_
   exact thm (P:=Tryz.prog) (fn:=Tryz.f73) (q:=p5) Z hk (by simp[bJ,hkd,Rs.bind,hm5])
  have O1:=S5;refine rg O a6 [3] [0,3] [(3,rc J (jH rv5) p5)] Z fun X5 _ _ Z=>?_
  exact wp_ret ((rmm O a6 Z (v:=rv5) (q:=p5) ((X5 3).A 0) ((X5 3).c 0) (by simp[bJ,hkd,Rs.bind,hm5])).1)
 exfalso
 have h9:¬(4:Int)=Jc.kind:=by subst O;simpa[std,a8]using hb
 exact h9 hkj.symm
theorem Fb(k0 b:Nat)(J:i5)(hJ:j0 J)(A:Option Addr)(c:Nat)(p:Pst)(hp:f8 p)(hn:p.n<=1000000)(E:Option Addr)(Jc:i5)(hkc:Jc.kind=J.kind)(hkd:J.kind=4)(hh:J.how=1 \/ J.how=2)(hbk:0<=J.bucket/\J.bucket<=16):s8 73 k0 b J A c p [.ep E 0 0 0 (jJ Jc)] (jH) (bJ J J.budget p):=s8.re (AS b J hJ A c p hp hn E Jc hkc hkd hh hbk) (by repeat(first|exact trivial|refine⟨zr,?_⟩))
theorem AR(b:Nat)(J:i5)(hJ:j0 J)(A:Option Addr)(c:Nat)(p:Pst)(hp:f8 p)(hn:p.n<=1000000)(E:Option Addr)(Jc:i5)(hkc:Jc.kind=J.kind)(hkd:J.kind=5)(hh:J.how=1 \/ J.how=2)(hbk:0<=J.bucket/\J.bucket<=16):s8 73 0 b J A c p [.ep E 0 0 0 (jJ Jc)] (jH) (bJ J J.budget p):=by
 intro m w hm hargs hpre;obtain⟨kf,q0,q1⟩:∃kf:Nat->Int,kf 0=4/\kf 1=5:=⟨fun i=>if i=0 then 4 else 5,rfl,rfl⟩
 obtain⟨ff,r0,r1⟩:∃ff:Nat->Nat,ff 0=134/\ff 1=135:=⟨fun i=>if i=0 then 134 else 135,rfl,rfl⟩
 have SJ:=rh kf ff q0 q1 r0 r1;have hkj:Jc.kind=5:=hkc.trans hkd;refine enX 23 hm hpre hargs Tryz.func73 fun B O a0 Z=>?_
 refine wp_seq (rg O a6 [0,1,3] [0,3] [] Z fun X0 _ _ Z=>?_);have O1:=SJ;refine wp_seq (wp_seq (rg O a6 [8,0,1,3,6,7] [0,3] [(0,.r fun y=>.sl none (y.A 0) 2 (y.c 0) 2 (fun i=>[.int .i64 (kf i),.fn (ff i) [] []]))] Z fun X1 _ _ Z=>?_));refine wp_block (wp_loop_rounds 3 (C0 (wp_seq (rg O a6 [9,0,1,3,6,7,8] [0,3] [] Z fun X2 _ _ Z=>?_))));replace Z:=Z.headS (v':=.bool .tt) (Sim.bool (by subst O;rfl)) rfl;refine wp_seq (j1 Z rfl (fun Z=>?_));refine wp_skip (wp_seq (wp_block (wp_seq (rg O a6 [0,1,3,5,6,7,8] [5,0,3] [] Z fun X3 _ _ Z=>?_))));replace Z:=Z.memS (cells':=[.int .i64 4,.fn 134 [] []]) (by subst O;exact⟨(show Sim (.int .i64 (kf 0)) (.int .i64 4)by rw[q0];exact zr),(show Sim (.fn (ff 0) [] []) (.fn 134 [] [])by rw[r0];exact zr),trivial⟩);refine wp_seq (rg O a6 [16,0,1,3,5,6,7,8] [5,0,3] [] Z fun X4 _ _ Z=>?_);apply a7 Z rfl<;>intro hb Z
 .exfalso
  have h9:(4:Int)=Jc.kind:=by subst O;simpa[std,a8]using hb
  rw[hkj]at h9;exact absurd h9 (by decide)
 refine wp_skip (rg O a6 [8,0,1,3,6,7] [0,3] [] Z fun X6 _ _ Z=>?_);replace Z:=Z.headS (v':=.int .i64 1) (by subst O;exact zr) rfl;refine j5 (wp_seq (rg O a6 [9,0,1,3,6,7,8] [0,3] [] Z fun X2 _ _ Z=>?_));replace Z:=Z.headS (v':=.bool .tt) (Sim.bool (by subst O;rfl)) rfl;refine wp_seq (j1 Z rfl (fun Z=>?_));refine wp_skip (wp_seq (wp_block (wp_seq (rg O a6 [0,1,3,5,6,7,8] [5,0,3] [] Z fun X3 _ _ Z=>?_))));replace Z:=Z.memS (cells':=[.int .i64 5,.fn 135 [] []]) (by subst O;exact⟨(show Sim (.int .i64 (kf 1)) (.int .i64 5)by rw[q1];exact zr),(show Sim (.fn (ff 1) [] []) (.fn 135 [] [])by rw[r1];exact zr),trivial⟩);refine wp_seq (rg O a6 [16,0,1,3,5,6,7,8] [5,0,3] [] Z fun X4 _ _ Z=>?_);apply a7 Z rfl<;>intro hb Z
 .apply wp_seq
  rcases(GU 0 b J hJ A c p hp hn (p.n+1) (Nat.lt_succ_self _) hh hbk).two (oo _ _ _ _ _ _) hp hn with⟨w5,p5,hm5,O1⟩|⟨rv5,p5,hm5,hs5,hp5,hn5,S5⟩
  .refine stp 3 O a6 [18,19] [0] [] Z O1 fun _ _ _ _ Z hk=>?_
   exact thm (P:=Tryz.prog) (fn:=Tryz.f73) (q:=p5) Z hk (by simp[bJ,hkd,Rs.bind,hm5])
  have O1:=S5;refine rg O a6 [3] [0,3] [(3,rc J (jH rv5) p5)] Z fun X5 _ _ Z=>?_
  exact wp_ret ((rmm O a6 Z (v:=rv5) (q:=p5) ((X5 3).A 0) ((X5 3).c 0) (by simp[bJ,hkd,Rs.bind,hm5])).1)
 exfalso
 have h9:¬(5:Int)=Jc.kind:=by subst O;simpa[std,a8]using hb
 exact h9 hkj.symm
theorem Fa(k0 b:Nat)(J:i5)(hJ:j0 J)(A:Option Addr)(c:Nat)(p:Pst)(hp:f8 p)(hn:p.n<=1000000)(E:Option Addr)(Jc:i5)(hkc:Jc.kind=J.kind)(hkd:J.kind=5)(hh:J.how=1 \/ J.how=2)(hbk:0<=J.bucket/\J.bucket<=16):s8 73 k0 b J A c p [.ep E 0 0 0 (jJ Jc)] (jH) (bJ J J.budget p):=s8.re (AR b J hJ A c p hp hn E Jc hkc hkd hh hbk) (by repeat(first|exact trivial|refine⟨zr,?_⟩))
theorem pR{J:i5}(h:E4 J=true):0<=J.bucket/\J.bucket<=16:=by
 unfold E4 btw at h;simp only[Bool.and_eq_true,decide_eq_true_eq]at h;omega
theorem oB(J:i5)(hJ:dQ J)(A:Option Addr)(n c:Nat)(f:Nat->r9)(hn:n<=900000)(hin:∀j,j<n->InG (f j)):k7 Tryz.prog 26 [dx J,az A n c f] (fun x=>.tup [D8 (wqA x (J6 J n f).1),.int .i64 (J6 J n f).2]):=by
 intro m w hm hargs;have hmx:maxLen=9223372036854775807:=rfl;have hk:dI 2 (fun i=>if i=0 then 4 else 5) J.kind=(decide (J.kind=4)||decide (J.kind=5)):=by rw[Du];simp only[tq J.kind]<;>rfl
 have hdo:∀E:Option Addr,(E4 J&&dI 2 (fun i=>if i=0 then 4 else 5) J.kind&&K3 n f)=true->∀k0 b,oW 73 k0 b (J.less n) A c (mg n f) [.ep E 0 0 0 (jJ J)] (bJ J (J.budget-n) (mg n f)):=by
  intro E hok k0 b;rw[hk]at hok;simp only[Bool.and_eq_true,Bool.or_eq_true,decide_eq_true_eq]at hok;obtain⟨⟨h1,h2⟩,h3⟩:=hok;have h4:=AC h1;have h5:=pR h1;have hp0:=qS hin h3;have hl:(mg n f).n<=1000000:=by show n<=1000000;omega
  rcases h2 with h2|h2
  .exact (Fb k0 b (J.less n) (oi hJ h1 hn) A c (mg n f) hp0 hl E J rfl h2 h4 h5).a fun a q h=>ns h
  exact(Fa k0 b (J.less n) (oi hJ h1 hn) A c (mg n f) hp0 hl E J rfl h2 h4 h5).a fun a q h=>ns h
 have S:∀E kG kA kc cells,cells 0=[.int .i64 4]->cells 1=[.int .i64 5]->k7 Tryz.prog 54 [dx J,az A n c f,.sl kG kA 2 kc 1 cells,.fn 73 [] [.ep E 0 0 0 (jJ J)]] (fun x=>.tup [D8 (wqA x (J6 J n f).1),.int .i64 (J6 J n f).2]):=by
  intro E kG kA kc cells h10 h11;unfold J6;rw[<-hk];refine(((Er (cap:=[.ep E 0 0 0 (jJ J)]) 73 _ J hJ A n c f hn hin kG kA 2 kc (fun i=>if i=0 then 4 else 5) (hdo E) xO).x (fun _=>rfl)).pure (fun _=>rfl)).sim ⟨zr,zr,Sim.recell (fun i hi=>?_),zr,trivial⟩
  match i,hi with
  |0,_=>rw[h10]<;>rfl
  |1,_=>rw[h11]<;>rfl
 obtain⟨W9,hW9⟩:=eqv ((J6 J n f).1);obtain⟨E9,hE9⟩:=eqv ((J6 J n f).2);obtain⟨rr9,hrr9⟩:=eqv (W9.r.rn);obtain⟨nn9,hnn9⟩:=eqv (W9.res.items.length);obtain⟨ff9,hff9⟩:=eqv (itF W9.res.items);have T:∀E kG kA kc cells,cells 0=[.int .i64 4]->cells 1=[.int .i64 5]->k7 Tryz.prog 54 [dx J,az A n c f,.sl kG kA 2 kc 1 cells,.fn 73 [] [.ep E 0 0 0 (jJ J)]] (fun x=>.tup [D8 (wqB x W9 rr9 nn9 ff9),.int .i64 E9]):=fun E kG kA kc cells h10 h11=>k7.wq (S E kG kA kc cells h10 h11) hW9 hE9 hrr9 hnn9 hff9
 obtain⟨kf,q0,q1⟩:∃kf:Nat->Int,kf 0=4/\kf 1=5:=⟨fun i=>if i=0 then 4 else 5,rfl,rfl⟩
 obtain⟨ff,r0,r1⟩:∃ff:Nat->Nat,ff 0=134/\ff 1=135:=⟨fun i=>if i=0 then 134 else 135,rfl,rfl⟩
 have SJ:=rh kf ff q0 q1 r0 r1;refine en 28 hm hargs Tryz.func26 fun B O a0 Z=>?_
 refine wp_seq (rg O a6 [2,1,4,5] [2,4] [] Z fun X0 _ _ Z=>?_);have Z:=Z.fz (tm':=[(2,.ep (some ⟨(X0 0).b,0,none⟩) 0 0 0 (jJ J)),(1,az A n c f),(4,.ptr 4 (X0 1).b 0),(5,.int .i64 0)]) ⟨rfl,eH,rfl,I7,rfl,I7,rfl,I7,trivial⟩;refine wp_seq (rg O a6 [6,1,2,4] [4,6] [] Z fun X1 _ _ Z=>?_);have O1:=SJ;refine wp_seq (wp_seq (rg O a6 [6,11,1,2,4,9,10] [4,6] [(0,.r fun y=>.sl none (y.A 0) 2 (y.c 0) 2 (fun i=>[.int .i64 (kf i),.fn (ff i) [] []]))] Z fun X2 _ _ Z=>?_));refine wp_block (wp_loop_rounds 3 (C0 (wp_seq (rg O a6 [12,1,2,4,6,9,10,11] [4,6] [] Z fun X3 _ _ Z=>?_))));replace Z:=Z.headS (v':=.bool .tt) (Sim.bool (by subst O;rfl)) rfl;refine wp_seq (j1 Z rfl (fun Z=>?_));refine wp_skip (wp_seq (wp_block (wp_seq (rg O a6 [1,2,4,6,8,9,10,11] [8,4,6] [] Z fun X4 _ _ Z=>?_))));replace Z:=Z.memS (cells':=[.int .i64 4,.fn 134 [] []]) (by subst O;exact⟨(show Sim (.int .i64 (kf 0)) (.int .i64 4)by rw[q0];exact zr),(show Sim (.fn (ff 0) [] []) (.fn 134 [] [])by rw[r0];exact zr),trivial⟩);refine rg O a6 [6,1,2,4,9,10,11] [4,6] [] Z (hob:=?hob) fun X5 _ _ Z=>?_
 case hob=>
  intro X;subst O
  repeat(first|exact trivial|refine⟨⟨rfl,rfl,rfl⟩,?_⟩|refine⟨rfl,?_⟩|refine⟨⟨show 0+1<=maxLen by omega,show(0+1)*_<=_ by omega⟩,?_⟩)
 replace Z:=Z.headS (v':=.sl (some 6) ((X5 4).A 0) 1 ((X5 4).c 0) 1 (fun t=>[.int .i64 (kf t)])) (Sim.resl (by subst O;rfl) (fun t ht=>by
  subst O
  match t,ht with
  |0,_=>show _=[AV.int .i64 (kf 0)];rw[q0];rfl
  )) rfl
 replace Z:=Z.regr (n':=1) (by subst O;rfl);refine rg O a6 [11,1,2,4,6,9,10] [4,6] [] Z fun X6 _ _ Z=>?_
 replace Z:=Z.headS (v':=.int .i64 1) (by subst O;exact zr) rfl;refine j5 (wp_seq (rg O a6 [12,1,2,4,6,9,10,11] [4,6] [] Z fun X3 _ _ Z=>?_));replace Z:=Z.headS (v':=.bool .tt) (Sim.bool (by subst O;rfl)) rfl;refine wp_seq (j1 Z rfl (fun Z=>?_));refine wp_skip (wp_seq (wp_block (wp_seq (rg O a6 [1,2,4,6,8,9,10,11] [8,4,6] [] Z fun X4 _ _ Z=>?_))));replace Z:=Z.memS (cells':=[.int .i64 5,.fn 135 [] []]) (by subst O;exact⟨(show Sim (.int .i64 (kf 1)) (.int .i64 5)by rw[q1];exact zr),(show Sim (.fn (ff 1) [] []) (.fn 135 [] [])by rw[r1];exact zr),trivial⟩);refine rg O a6 [6,1,2,4,9,10,11] [4,6] [] Z (hob:=?hob) fun X5 _ _ Z=>?_
 case hob=>
  intro X;subst O
  repeat(first|exact trivial|refine⟨⟨rfl,rfl,rfl⟩,?_⟩|refine⟨rfl,?_⟩|refine⟨⟨show 1+1<=maxLen by omega,show(1+1)*_<=_ by omega⟩,?_⟩)
 replace Z:=Z.headS (v':=.sl (some 6) ((X5 4).A 0) 2 ((X5 4).c 0) 1 (fun t=>[.int .i64 (kf t)])) (Sim.resl (by subst O;rfl) (fun t ht=>by
  subst O
  match t,ht with
  |0,_=>rfl
  |1,_=>show _=[AV.int .i64 (kf 1)];rw[q1];rfl
  )) rfl
 replace Z:=Z.regr (n':=2) (by subst O;rfl);refine rg O a6 [11,1,2,4,6,9,10] [4,6] [] Z fun X6 _ _ Z=>?_
 replace Z:=Z.headS (v':=.int .i64 2) (by subst O;exact zr) rfl;refine j5 (wp_seq (rg O a6 [12,1,2,4,6,9,10,11] [4,6] [] Z fun X3 _ _ Z=>?_));replace Z:=Z.headS (v':=.bool .ff) (Sim.bool (by subst O;rfl)) rfl;refine wp_seq (j3 Z rfl (fun Z=>?_));refine wp_exit (wp_seq ?_);refine rg O a6 [4,5] [4] [(4,.r fun x=>.tup [.agg [.int .i64 W9.kind,.int .i64 W9.lab.len,.int .u64 W9.lab.bits,.int .u64 W9.ver,.int .i64 rr9.kd,.sl none (x.A 1) rr9.n (x.c 1) 2 (fun i=>itC (rr9.f i)),.int .i64 rr9.nx.len,.int .u64 rr9.nx.bits,.int .u64 rr9.mrk,.int .i64 W9.res.code,.bool (.v W9.res.had),.str W9.res.val,.sl none (x.A 2) nn9 (x.c 2) 2 (fun i=>itC (ff9 i)),.int .u64 W9.res.key,.bool (.v W9.res.more)],.int .i64 E9])] Z (hob:=by intro X;subst O;simp only[b7,Ob.holds,BE.den]<;>and_intros<;>repeat first|trivial|rfl|exact T _ _ _ _ _ (by simp[q0]) (by simp[q1])|exact(fun _ _=>by kernel_rfl)|refine⟨?_,?_⟩|intro h|exact Int.le_refl _|decide|omega) fun X7 _ _ Z=>?_
 refine wp_ret ((rsi O a6 Z ((X7 4)) (he:=?_)));subst O;rw[<-hW9,<-hE9];unfold wqA;rw[<-hrr9,<-hnn9,<-hff9];exact zr
theorem lH:j6 Tryz.prog 76:=fun _ _=>by kernel_rfl
theorem vW(mo:Int)(b bM:Nat)(J:i5)(hJ:dQ J)(L:Shf)(hL:lZ L)(k:Int):P3 Tryz.prog 76 [.ptr 0 b 0,dx J,.int .i64 mo] [(0,⟨b,113,[.raw (.map (some bM)),.int .i64 k]⟩)] (some bM) (shK bM L) (fun y=>⟨.tup [vX y (W8 (J6 J) mo 2001 [] L k).res,.bool (.v (decide ((W8 (J6 J) mo 2001 [] L k).st=2))),.bool (.v (decide ((W8 (J6 J) mo 2001 [] L k).st=2 \/ (W8 (J6 J) mo 2001 [] L k).st=3)))],[(0,[.raw (.map (some bM)),.int .i64 (W8 (J6 J) mo 2001 [] L k).k])],[]⟩) (fun _ _=>shK bM (W8 (J6 J) mo 2001 [] L k).L):=by
 intro m w hm hargs hpre hI;have hmx:maxLen=9223372036854775807:=rfl;have hmp:=G4 hI;have hNx:HS (J6 J):=AT hJ;obtain⟨RQ,hRQ⟩:=eqv (W8 (J6 J) mo 2001 [] L k);rw[<-hRQ]at ⊢;refine enM (bo:=some bM) 51 hm hpre hI hargs Tryz.func76 fun B O a0 Z=>?_
 refine wp_seq (rg O a6 [0,2,4,6] [0,4,6] [] Z fun X0 _ _ Z=>?_);refine wp_seq (rg O a6 [0,2,4,6,9] [0,4,6,9,49] [] Z fun X1 _ _ Z=>?_);refine wp_seq (wp_seq (rg O a6 [9,10,0,2,4,6] [0,4,6,9,49] [] Z fun X2 _ _ Z=>?_));replace Z:=Z.headS (v':=.sl (some 9) none 0 0 8 (fun t=>bH (lv U1))) (zq0) rfl;refine wp_block (eW (ι:=Nat×(Nat->r9)×Option Addr×Nat×Shf×Int×List Got) (fun q=>shK bM q.2.2.2.2.1) (fun q=>[(9,.sl (some 9) q.2.2.1 q.1 q.2.2.2.1 8 (fun t=>bH (q.2.1 t))),(10,.int .i64 (q.1:Int))]) (fun q=>[(0,⟨b,113,[.raw (.map (some bM)),.int .i64 q.2.2.2.2.2.1]⟩)]) (fun q=>[(9,⟨q.2.2.1,q.1,q.2.2.2.1,8,53⟩)]) (fun q=>q.1<=2001/\lZ q.2.2.2.2.1/\(∀j,j<q.1->InG (q.2.1 j))/\q.2.2.2.2.2.2.length=q.1/\oX q.2.2.2.2.2.2 q.2.1/\RQ=W8 (J6 J) mo (2001-q.1) q.2.2.2.2.2.2 q.2.2.2.2.1 q.2.2.2.2.2.1) (fun q=>2001-q.1) (0,fun _=>lv U1,none,0,L,k,[]) ⟨Nat.zero_le _,hL,fun j hj=>absurd hj (Nat.not_lt_zero _),rfl,oX.nil,hRQ⟩ Z ?_)
 rintro⟨i,fz,A1,c1,Lc,kc,gs⟩ ⟨hi,hg,hal,hgl,hlie,hrun⟩ _ _ Z
 try dsimp only at hi
 try dsimp only at hg
 try dsimp only at hal
 try dsimp only at hgl
 try dsimp only at hlie
 try dsimp only at hrun
 replace Z:=Z.withK (K':=shK bM Lc) Z.kept;refine wp_seq (wp_seq (rg O a6 [16,0,2,4,6,9,10] [0,4,6,9,49] [] Z fun X3 _ _ Z=>?_));apply a7 Z rfl<;>intro hb Z
 .have hi0:i<2001:=by
   have:(i:Int)<=2000:=by subst O;simpa[std,a8]using hb
   omega
  obtain⟨m0,hm0⟩:∃m,2001-i=m+1:=⟨2000-i,by omega⟩
  rw[hm0]at hrun;have hwo:=hNx.ok i fz hal;obtain⟨W9,hW9⟩:=eqv ((J6 J i fz).1);obtain⟨E9,hE9⟩:=eqv ((J6 J i fz).2);obtain⟨rr9,hrr9⟩:=eqv (W9.r.rn);obtain⟨nn9,hnn9⟩:=eqv (W9.res.items.length);obtain⟨ff9,hff9⟩:=eqv (itF W9.res.items);have T9:=k7.wq (oB J hJ A1 i c1 fz (by omega) hal) hW9 hE9 hrr9 hnn9 hff9;rw[<-hW9]at hwo;have S9:k7 Tryz.prog 26 [dx J,.sl (some 9) A1 i c1 8 (fun t=>bH (fz t))] (fun x=>.tup [D8 (wqB x W9 rr9 nn9 ff9),.int .i64 E9]):=T9.sim ⟨zr,Sim.recell (fun _ _=>rfl),trivial⟩;have hq9:J6 J gs.length (eN gs)=(W9,E9):=by
   rw[<-hlie.next hNx.er,hgl,hW9,hE9]
  have O1:=S9;refine wp_skip (wp_seq (wp_block (wp_seq (rg O a6 [0,2,4,6,9,10,11,12] [0,4,6,9,11,49] [(2,.r fun x=>.tup [.agg [.int .i64 W9.kind,.int .i64 W9.lab.len,.int .u64 W9.lab.bits,.int .u64 W9.ver,.int .i64 rr9.kd,.sl none (x.A 1) rr9.n (x.c 1) 2 (fun i=>itC (rr9.f i)),.int .i64 rr9.nx.len,.int .u64 rr9.nx.bits,.int .u64 rr9.mrk,.int .i64 W9.res.code,.bool (.v W9.res.had),.str W9.res.val,.sl none (x.A 2) nn9 (x.c 2) 2 (fun i=>itC (ff9 i)),.int .u64 W9.res.key,.bool (.v W9.res.more)],.int .i64 E9])] Z fun X5 _ _ Z=>?_))));refine wp_seq (wp_seq (rg O a6 [26,0,2,4,6,9,10,11] [0,4,6,9,11,49] [] Z fun X6 _ _ Z=>?_));apply a7 Z rfl<;>intro hb Z
  .have he:E9≠0:=by subst O;simpa[std,a8]using hb
   have hq:RQ=⟨1,aJ,gs.length,0,Lc,kc⟩:=by rw[hrun];exact DV hq9 he
   refine wp_seq (rg O a6 [6,7,8] [0,6] [] Z fun X7 _ _ Z=>?_);refine wp_ret ((rm O a6 Z (⟨0,fun _=>none,fun _=>0,fun _=>.empty⟩) [] (hmap:=?_) (he:=?_) (hs:=?_) (hJ:=?_)).1)
   .intro b hb;cases hb;exact⟨hmp,fun m h=>G4 h⟩
   .rw [hq];subst O
    exact Sim.tup ⟨Sim.agg ⟨zr,zr,zr,zq0,zr,zr,trivial⟩,zr,zr,trivial⟩
   .rw [hq];subst O;exact⟨rfl,⟨_,rfl,zl⟩,trivial⟩
   rw[hq];exact fun _ _ h=>h
  have he:E9=0:=by subst O;simpa[std,a8]using hb
  rw[he]at hq9;refine wp_skip (wp_seq (wp_seq (rg O a6 [30,0,2,4,6,9,10,11] [0,4,6,9,11,49] [] Z fun X8 _ _ Z=>?_)));apply a7 Z rfl<;>intro hb Z
  .have hk4:W9.kind=4:=by subst O;simpa[std,a8]using hb
   have hq:RQ=⟨2,W9.res,gs.length,0,Lc,kc⟩:=by rw[hrun];exact zA hq9 hk4
   refine wp_seq (rg O a6 [6,7,8] [0,6] [] Z fun X9 _ _ Z=>?_);refine wp_ret ((rm O a6 Z ((X5 2)) [] (hmap:=?_) (he:=?_) (hs:=?_) (hJ:=?_)).1)
   .intro b hb;cases hb;exact⟨hmp,fun m h=>G4 h⟩
   .rw [hq];subst O
    rw[show nn9=W9.res.items.length from hnn9,show ff9=itF W9.res.items from hff9];exact Sim.tup ⟨zr,zr,zr,trivial⟩
   .rw [hq];subst O;exact⟨rfl,⟨_,rfl,zl⟩,trivial⟩
   rw[hq];exact fun _ _ h=>h
  have hk4:¬W9.kind=4:=by subst O;simpa[std,a8]using hb
  refine wp_skip (wp_seq (wp_seq (rg O a6 [35,0,2,4,6,9,10,11] [0,4,6,9,11,49] [] Z fun X10 _ _ Z=>?_)));apply a7 Z rfl<;>intro hb Z
  .have h9:mo<=(i:Int):=by subst O;simpa[std,a8]using hb
   have hq:RQ=⟨3,aJ,gs.length,0,Lc,kc⟩:=by rw[hrun];exact zB hq9 hk4 (by omega)
   refine wp_seq (rg O a6 [6,7,8] [0,6] [] Z fun X11 _ _ Z=>?_);refine wp_ret ((rm O a6 Z (⟨0,fun _=>none,fun _=>0,fun _=>.empty⟩) [] (hmap:=?_) (he:=?_) (hs:=?_) (hJ:=?_)).1)
   .intro b hb;cases hb;exact⟨hmp,fun m h=>G4 h⟩
   .rw [hq];subst O
    exact Sim.tup ⟨Sim.agg ⟨zr,zr,zr,zq0,zr,zr,trivial⟩,zr,zr,trivial⟩
   .rw [hq];subst O;exact⟨rfl,⟨_,rfl,zl⟩,trivial⟩
   rw[hq];exact fun _ _ h=>h
  have h9:¬mo<=(i:Int):=by subst O;simpa[std,a8]using hb
  have hmo1:¬mo<=(gs.length:Int):=by omega
  refine wp_skip (wp_seq (wp_region_lit (lpr 0 2 O a6 [38,39,9,0,10,2,4,6] [0,4,6,9] [] Z fun X12_0 _ _ Z=>?_)));have SD:=IL 0 b bM Lc (by have:=hg.ok.len;omega) kc (wqB (X5 2) W9 rr9 nn9 ff9) (by show rr9.n<=_;rw[hrr9];have:=hwo.r.few;show W9.r.items.length<=_;omega) hwo.lab.wf hwo.lab.u (by show U64 rr9.nx.bits;rw[hrr9];exact hwo.r.nx)
  obtain⟨D1,hD1⟩:=eqv (doL Lc (C1.abs (wqB (X5 2) W9 rr9 nn9 ff9)));rw[<-hD1]at SD;obtain⟨GG1,hGG1⟩:∃G:i8->r9,G=fun y=>gQ y D1.got:=⟨_,rfl⟩
  have hGf1:∀y,gQ y D1.got=GG1 y:=fun y=>by rw[hGG1]
  simp only[hGf1]at SD;obtain⟨k1,hk1⟩:=eqv ((if D1.wrote then IntKind.i64.wrap (kc+1)else kc));rw[<-hk1]at SD;obtain⟨er1,her1⟩:=eqv (D1.err);rw[<-her1]at SD;obtain⟨L1,hL1⟩:=eqv (D1.L);rw[<-hL1]at SD;refine Z9 rfl rfl rfl rfl Z rfl rfl xS SD (fun _ _ h=>h) (fun b hb=>by cases hb;exact fun _=>.inr rfl) ⟨zr,Sim.agg (by repeat(first|exact trivial|refine⟨zr,?_⟩|refine⟨Sim.ff,?_⟩|refine⟨zq0,?_⟩)),trivial⟩ (by intro e he;simp only[List.mem_singleton]at he;subst he;rfl) rfl rfl (fun _=>shK bM L1) (fun _ _ _ _ _ _ _ _ _ h=>h) ?_;intro y _ _ Z;obtain⟨g1,hg1⟩:=eqv (GG1 y);rw[<-hg1]at Z;replace Z:=Z.withK (K':=shK bM L1) Z.kept;have hga1:g1.abs=D1.got:=by rw[hg1,<-hGf1,xB]
  have hra:rr9.abs=W9.r:=by rw[hrr9,U7]
  have hD1w:D1=doL Lc (dV W9):=by
   rw[hD1];unfold C1.abs wqB dV;simp only[hra]
  have hgd:lZ D1.L/\U64 D1.got.ver/\Z0 D1.got.r:=by
   rw[hD1w];exact yc hg ⟨hwo.lab.wf,hwo.r.nx,hwo.r.key⟩
  have hgi:InG g1:=EK hga1 hgd.2.1 hgd.2.2;have hg1s:lZ L1:=by rw[hL1];exact hgd.1
  have hge:g1.er=lv D1.got:=by rw[hg1,<-hGf1];rfl
  refine lnd 3 O a6 [0,2,4,6,9,10,13,14] [0,4,6,9,13,49] [] Z fun X12 _ _ Z=>?_
  refine wp_seq (wp_seq (rg O a6 [44,0,2,4,6,9,10,13] [0,4,6,9,13,49] [] Z fun X13 _ _ Z=>?_));apply a7 Z rfl<;>intro hb Z
  .have he1:er1≠0:=by subst O;simpa[std,a8]using hb
   have hq:RQ=⟨4,aJ,gs.length,D1.err,L1,k1⟩:=by rw[hrun,hL1,hk1];exact zy hq9 hk4 hmo1 hD1w (by rw[<-her1];exact he1)
   refine wp_seq (rg O a6 [6,7,8] [0,6] [] Z fun X14 _ _ Z=>?_);refine wp_ret ((rm O a6 Z (⟨0,fun _=>none,fun _=>0,fun _=>.empty⟩) [] (hmap:=?_) (he:=?_) (hs:=?_) (hJ:=?_)).1)
   .intro b hb;cases hb;exact⟨hmp,fun m h=>G4 h⟩
   .rw [hq];subst O
    exact Sim.tup ⟨Sim.agg ⟨zr,zr,zr,zq0,zr,zr,trivial⟩,zr,zr,trivial⟩
   .rw [hq];subst O;exact⟨rfl,⟨_,rfl,zl⟩,trivial⟩
   rw[hq];exact fun _ _ h=>h
  have he1:er1=0:=by subst O;simpa[std,a8]using hb
  refine wp_skip ?_;refine rg O a6 [9,10,0,2,4,6] [0,4,6,9,49] [] Z (hob:=by intro X;subst O;simp only[b7,Ob.holds,BE.den]<;>and_intros<;>repeat first|trivial|rfl|exact(show i+1<=maxLen by omega)|exact(show(i+1)*80<=140737488355328 by omega)|exact(fun _ _=>by kernel_rfl)|refine⟨?_,?_⟩|intro h|exact Int.le_refl _|decide|omega) fun X15 _ _ Z=>?_
  replace Z:=Z.headS (v':=.sl (some 9) ((X15 3).A 0) (B.nadd i 1) ((X15 3).c 0) 8 (fun t=>bH (if t=i then g1 else fz t))) (Sim.resl rfl (fun t ht=>by
   subst O;have ht2:t<i+1:=ht
   show P5 i (fun t=>bH (fz t)) (Q4 8 (bH g1)) t=_
   unfold P5
   split
   .rw [if_neg (by omega)]
   have:t=i:=by omega
   subst this;rw[if_pos rfl];simp[Q4])) rfl
  refine rg O a6 [9,10,0,2,4,6] [0,4,6,9,49] [] Z fun X4 _ _ Z=>?_
  have e:B.arith .add .i64 (i:Int) 1=((i+1:Nat):Int):=by subst O;exact o4 (n:=2001) (by omega) (by omega)
  refine⟨(i+1,fun t=>if t=i then g1 else fz t,_,_,L1,k1,gs ++ [D1.got]),⟨by simp only;omega,hg1s,fun j hj=>?_,by simp[hgl],?_,?_⟩,by simp only;omega,by rw[<-e,show i+1=B.nadd i 1 by subst O;rfl];exact Z⟩
  .by_cases hji:j=i
   .simp only[if_pos hji];exact hgi
   simp only[if_neg hji];exact hal j (by have h9:j<i+1:=hj;omega)
  .have:=hlie.add hge
   rw[hgl]at this;exact this
  rw[hrun,DW hq9 hk4 hmo1 hD1w (by rw[<-her1];exact he1),hL1,hk1,show 2001-(i+1)=m0 by omega]
 have hi0:i=2001:=by
  have:¬(i:Int)<=2000:=by subst O;simpa[std,a8]using hb
  omega
 have hq:RQ=⟨0,aJ,gs.length,0,Lc,kc⟩:=by rw[hrun,hi0];rfl
 refine wp_exit (wp_seq (rg O a6 [6,7,8] [0,6] [] Z fun X16 _ _ Z=>?_));refine wp_ret ((rm O a6 Z (⟨0,fun _=>none,fun _=>0,fun _=>.empty⟩) [] (hmap:=?_) (he:=?_) (hs:=?_) (hJ:=?_)).1)
 .intro b hb;cases hb;exact⟨hmp,fun m h=>G4 h⟩
 .rw [hq];subst O
  exact Sim.tup ⟨Sim.agg ⟨zr,zr,zr,zq0,zr,zr,trivial⟩,zr,zr,trivial⟩
 .rw [hq];subst O;exact⟨rfl,⟨_,rfl,zl⟩,trivial⟩
 rw[hq];exact fun _ _ h=>h
theorem nU(k0:Nat)(mo:Int)(b bM:Nat)(J:i5)(hJ:dQ J)(L:Shf)(hL:lZ L)(k:Int):P3 Tryz.prog 76 [.ptr k0 b 0,dx J,.int .i64 mo] [(k0,⟨b,113,[.raw (.map (some bM)),.int .i64 k]⟩)] (some bM) (shK bM L) (fun y=>⟨.tup [vX y (W8 (J6 J) mo 2001 [] L k).res,.bool (.v (decide ((W8 (J6 J) mo 2001 [] L k).st=2))),.bool (.v (decide ((W8 (J6 J) mo 2001 [] L k).st=2 \/ (W8 (J6 J) mo 2001 [] L k).st=3)))],[(k0,[.raw (.map (some bM)),.int .i64 (W8 (J6 J) mo 2001 [] L k).k])],[]⟩) (fun _ _=>shK bM (W8 (J6 J) mo 2001 [] L k).L):=
 (vW mo b bM J hJ L hL k).re (by repeat(first|exact trivial|refine⟨Sim.ptr,?_⟩|refine⟨Sim.fn ⟨Sim.ptr,trivial⟩ trivial,?_⟩|refine⟨Sim.fn trivial ⟨Sim.ptr,trivial⟩,?_⟩|refine⟨zr,?_⟩)) rfl (fun x=>⟨rfl,rfl,zr,rfl⟩)
section
variable {α : Type}
def M2(l:Lab):List (Lab×α)->Option α
 | []=>none
 |p::L=>if p.1=l then some p.2 else M2 l L
def ec(l:Lab)(x:α):List (Lab×α)->List (Lab×α)
 | []=>[(l,x)]
 |p::L=>if p.1=l then(l,x)::L else p::ec l x L
theorem aB{l:Lab}{x:α}:∀{L:List (Lab×α)},M2 l L=some x->(l,x)∈L
 |p::L,h=>by
  unfold M2 at h
  split at h
  .rename_i he;injection h with h;subst h;subst he;exact List.mem_cons_self ..
  exact List.mem_cons_of_mem _ (aB h)
theorem gG{p:Lab×α}:∀{L:List (Lab×α)},(L.map (·.1)).Nodup->p∈L->M2 p.1 L=some p.2
 |q::L,h,hp=>by
  have h':=List.nodup_cons.1 h;unfold M2
  rcases List.mem_cons.1 hp with rfl|hp
  .rw [if_pos rfl]
  rw[if_neg (fun e=>h'.1 (List.mem_map.2 ⟨p,hp,e.symm⟩))];exact gG h'.2 hp
theorem eG{l k:Lab}{x:α}:∀{L:List (Lab×α)},M2 k (ec l x L)=if l=k then some x else M2 k L
 | []=>by simp[ec,M2]
 |p::L=>by
  unfold ec
  by_cases h:p.1=l
  .rw [if_pos h]
   unfold M2
   by_cases hk:l=k
   .simp [hk]
   simp[hk,h]
  rw[if_neg h];unfold M2;rw[eG]
  by_cases hk:l=k
  .subst hk;simp[h]
  simp[hk]
theorem kJ{l:Lab}{x:α}:∀{L:List (Lab×α)},(ec l x L).map (·.1)=if(M2 l L).isSome then L.map (·.1)else L.map (·.1) ++ [l]
 | []=>by simp[ec,M2]
 |p::L=>by
  unfold ec M2
  by_cases h:p.1=l
  .simp [h]
  simp only[if_neg h,List.map_cons,kJ]
  split<;>simp
theorem sk{l:Lab}{x:α}(L:List (Lab×α)):(ec l x L).length=if(M2 l L).isSome then L.length else L.length+1:=by
 have:=congrArg List.length (kJ (l:=l) (x:=x) (L:=L));rw[List.length_map]at this;rw[this]
 split<;>simp
theorem ne{l:Lab}:∀{L:List (Lab×α)},M2 l L=none->l ∉ L.map (·.1)
 | [],_=>by simp
 |p::L,h=>by
  unfold M2 at h
  split at h
  .cases h
  rename_i hn
  simp only[List.map_cons,List.mem_cons,not_or];exact⟨fun e=>hn e.symm,ne h⟩
theorem mB{l:Lab}{x:α}{L:List (Lab×α)}(h:(L.map (·.1)).Nodup):((ec l x L).map (·.1)).Nodup:=by
 rw[kJ]
 split
 .exact h
 rename_i hn
 have:=ne (by simpa using hn:M2 l L=none);exact List.nodup_append.2 ⟨h,by simp,fun a ha b hb=>by simp at hb;subst hb;exact fun e=>this (e ▸ ha)⟩
theorem zm{l:Lab}{x:α}{L:List (Lab×α)}(h:(L.map (·.1)).Nodup)(p:Lab×α):p∈ec l x L↔p=(l,x) \/ (p∈L/\p.1≠l):=by
 constructor
 .intro hp
  have h1:=gG (mB (l:=l) (x:=x) h) hp;rw[eG]at h1
  by_cases he:l=p.1
  .rw [if_pos he]at h1
   injection h1 with h1
   obtain⟨p1,p2⟩:=p;simp only at he h1;subst he;subst h1;exact .inl rfl
  rw[if_neg he]at h1;exact .inr ⟨aB h1,fun e=>he e.symm⟩
 rintro(rfl|⟨hp,hne⟩)
 .exact aB (by rw[eG,if_pos rfl])
 exact aB (x:=p.2) (l:=p.1) (by rw[eG,if_neg (fun e=>hne e.symm)];exact gG h hp)
structure LmD(el:α->AV)(D:DataW Value)(b:Nat)(L:List (Lab×α))(m:Nat->Nat->Prop)(w:World):Prop where
 map:Z2 Tryz.prog 24 w b L.length D
 nd:(L.map (·.1)).Nodup
 labs:∀p∈L,B2 p.1
 has:∀kl,Maps.has D kl=true ↔ ∃p∈L,G9 p.1=kl
 size:Maps.size D=L.length
 at_:∀p∈L,∀zd,D.atKey (G9 p.1) zd = .held (el p.2).den
 ok:∀p∈L,Ok m w (el p.2)
variable {el:α->AV} {D:DataW Value} {b:Nat} {L:List (Lab×α)} {m m':Nat->Nat->Prop} {w w':World} {l:Lab}
theorem LmD.keepB{bo:Option Nat}(h:LmD el D b L m w)(k:Z3 bo w m w' m')(hb:bo≠some b):LmD el D b L m' w':=
 ⟨fS k hb h.map,h.nd,h.labs,h.has,h.size,h.at_,fun p hp=>k.ok (h.ok p hp)⟩
theorem LmD.keep(h:LmD el D b L m w)(k:bQ w m w' m'):LmD el D b L m' w':=
 ⟨mR k h.map,h.nd,h.labs,h.has,h.size,h.at_,fun p hp=>k.ok (h.ok p hp)⟩
def lmK(el:α->AV)(b:Nat)(L:List (Lab×α)):Kn:=⟨fun m w=>∃D,LmD el D b L m w,fun k ⟨D,h⟩=>⟨D,h.keep k⟩⟩
def lmF(el:α->AV)(n b:Nat)(L:List (Lab×α)):Kn:=⟨fun m w=>n<=b/\(lmK el b L).p m w,fun k h=>⟨h.1,(lmK el b L).st k h.2⟩⟩
theorem At{n:Nat}(h:b≠n):(lmK el b L).off n:=fun k ⟨D,x⟩=>⟨D,x.keepB k (fun e=>h (by injection e with e;exact e.symm))⟩
theorem uI{n:Nat}(h:b<n):(lmK el b L).under n:=fun l hl=>At (by omega)
theorem Au(h:(lmK el b L).p m w):∃es cl,w.heap[b]? = some (.map es cl):=by
 obtain⟨D,h⟩:=h;obtain⟨es,cl,hb,_⟩:=h.map;exact⟨es,cl,hb⟩
theorem Ev(h:(lmK el b L).p m w):b<w.heap.size:=by
 obtain⟨es,cl,hb⟩:=Au h;exact cp hb
theorem xj:(lmK el b L).self:=fun _ _ h=>uI (Ev h)
theorem LmD.empty(h:Z2 Tryz.prog 24 w b 0 (.map [])):LmD el (.map []) b [] m w:=
 ⟨h,.nil,fun p hp=>(by cases hp),fun kl=>⟨fun h=>(by cases h),fun⟨p,hp,_⟩=>(by cases hp)⟩,rfl,fun p hp=>(by cases hp),fun p hp=>(by cases hp)⟩
theorem LmD.hasL(h:LmD el D b L m w)(hl:B2 l):Maps.has D (G9 l)=(M2 l L).isSome:=by
 cases hf:M2 l L with
 |some x=>exact(h.has _).2 ⟨(l,x),aB hf,rfl⟩
 |none=>
  rw[Option.isSome_none,Bool.eq_false_iff];intro hh;obtain⟨p,hp,he⟩:=(h.has _).1 hh;have:p.1=l:=eB (h.labs p hp) hl he;rw[<-this,gG h.nd hp]at hf
  cases hf
theorem LmD.look(h:LmD el D b L m w)(hl:B2 l){mt e:TypeId}(ht:Tryz.prog.underlying mt=some (.map 24 e)){z:α}(hz:(zeroValue e).run Tryz.prog w = .ok (el z).den w)(hzo:Ok m w (el z))(c:Bool) :
  (Instr.lookup mt (.map (some b)) (f4 l).den c).run Tryz.prog w = .ok (if c then .tuple #[(el ((M2 l L).getD z)).den,.bool (M2 l L).isSome]else(el ((M2 l L).getD z)).den) w/\Ok m w (el ((M2 l L).getD z)):=by
 have hh:=h.hasL hl;obtain⟨es,clock,hb,F,_,hD⟩:=h.map
 rcases Maps.fit_look c fq ht hz hb F (Y4 hl)with⟨hrun,_,hat⟩|⟨e0,y,_,_,hrun,hRv,hat,_⟩
 .rw [<-hD]at hat
  have hf:=Maps.has_false_of_atKey hat;rw[hh]at hf;have hn:M2 l L=none:=by cases hg:M2 l L with
   |none=>rfl
   |some x=>rw[hg]at hf;cases hf
  rw[hn];exact⟨hrun,hzo⟩
 rw[<-hD]at hat;have hf:=Maps.has_true_of_atKey hat;rw[hh]at hf;obtain⟨x,hx⟩:=Option.isSome_iff_exists.1 hf;have hm:=aB hx;have e1:=h.at_ _ hm (.held Go.undef);rw[hat]at e1;have e2:y.1 = .held e0.val:=by unfold hR at hRv;injection hRv with hRv;rw[<-hRv]
 rw[e2]at e1;injection e1 with e1
 rw[hx];simp only at e1;simp only[Option.getD_some,Option.isSome_some];exact⟨by rw[<-e1];exact hrun,h.ok _ hm⟩
theorem sN{K:Kn}(hK:∀m w,K.p m w->(lmK el b L).p m w)(hl:B2 l){mt e:TypeId}(ht:Tryz.prog.underlying mt=some (.map 24 e)){z:α}(hz:∀w,(zeroValue e).run Tryz.prog w = .ok (el z).den w)(hzo:∀m w,Ok m w (el z)){v:AV}(hv:el ((M2 l L).getD z)=v){h:Bool}(hh:(M2 l L).isSome=h):Ob.holds Tryz.prog K (.look mt true (.raw (.map (some b))) (f4 l) (.tup [v,.bool (.v h)])):=by
 intro m w hk;obtain⟨D,hD⟩:=hK m w hk;obtain⟨h1,h2⟩:=hD.look hl ht (hz w) (hzo m w) true;rw[hv]at h1 h2;rw[hh]at h1;refine⟨by rw[show AV.den (.raw (.map (some b)))=Value.map (some b)from rfl,h1];simp[AV.den,AV.denL,BE.den],.tup _ fun u hu=>?_⟩
 simp only[List.mem_cons,List.not_mem_nil,or_false]at hu
 rcases hu with rfl|rfl
 .exact h2
 exact .bool _
theorem LmD.put(h:LmD el D b L m w)(hl:B2 l)(k:Z3 (some b) w m w' m){x:α}(hv:Ok m w (el x))(hM:Z2 Tryz.prog 24 w' b (L.length+1) (D.put (G9 l) (.held (el x).den))):∃D',LmD el D' b (ec l x L) m w':=by
 have hkey:WideAt.IsKeyLit (G9 l):=fq.key (Y4 hl);have hmp:Maps.IsMap D:=(h.map.tidy fq).isMap;have hsz:=mQ hM;have hlen:Maps.size (D.put (G9 l) (.held (el x).den))=(ec l x L).length:=by
  rw[Maps.size_put (h.map.tidy fq),h.hasL hl,sk];rw[h.size]
 have hin:=zm (l:=l) (x:=x) h.nd;refine⟨_,?_,mB h.nd,fun p hp=>?_,fun kl=>?_,hlen,fun p hp zd=>?_,fun p hp=>?_⟩
 .rw [hlen]at hsz;exact hsz
 .rcases (hin p).1 hp with rfl|⟨hp,_⟩
  .exact hl
  exact h.labs p hp
 .by_cases he:kl=G9 l
  .subst he
   rw[Maps.has_put_same hmp hkey];exact⟨fun _=>⟨_,(hin _).2 (.inl rfl),rfl⟩,fun _=>rfl⟩
  rw[Maps.has_put_other he,h.has]
  constructor
  .rintro ⟨p,hp,hk⟩
   exact⟨p,(hin p).2 (.inr ⟨hp,fun e=>he (by rw[<-hk,e])⟩),hk⟩
  rintro⟨p,hp,hk⟩
  rcases(hin p).1 hp with rfl|⟨hp,_⟩
  .exact absurd hk.symm he
  exact⟨p,hp,hk⟩
 .rcases (hin p).1 hp with rfl|⟨hp,hne⟩
  .rw [Maps.atKey_put_same hmp hkey]
  rw[Maps.atKey_put_other (fun e=>hne (eB (h.labs p hp) hl e))];exact h.at_ p hp zd
 rcases(hin p).1 hp with rfl|⟨hp,hne⟩
 .exact k.ok hv
 exact k.ok (h.ok p hp)
theorem As{n:Nat}(h0:Z2 Tryz.prog 24 w b n D)(hl:B2 l)(h:(lmK el b L).p m w)(k:Z3 (some b) w m w' m){v:AV}{x:α}(hs:Sim v (el x))(hv:Ok m w v)(hM:Z2 Tryz.prog 24 w' b (L.length+1) (D.put (G9 l) (.held v.den))):(lmK el b (ec l x L)).p m w':=by
 obtain⟨D1,h1⟩:=h;have:=pO h0 h1.map;subst this;rw[hs.1]at hM;exact h1.put hl k (hs.2.2 _ _ hv) hM
end
theorem lf:Tryz.prog.underlying 138=some (.map 24 35):=by kernel_rfl
theorem tB(l:Lab)(f:Nat->Itm)(i:Nat):K2 l (b4 f (i+1))=K2 l (b4 f i)++(if r8 l (f i).key=true then [f i]else []):=by
 unfold b4 K2;rw[List.range_succ,List.map_append,List.filter_append]
 congr 1
 by_cases h:r8 l (f i).key=true<;>simp[h]
def aq(f:Nat->G6):Nat->List (Lab×RA)
 |0=>[]
 |n+1=>ec (f n).lab (f n).x (aq f n)
theorem iD(f:Nat->G6):∀n,(aq f n).length<=n
 |0=>Nat.le_refl _
 |n+1=>by
  have:=iD f n;unfold aq;rw[sk]
  split<;>omega
theorem DI(A:Option Addr)(n c:Nat)(f:Nat->Itm)(hn:n<=1000000)(l:Lab)(hb0:U64 l.bits)(hki:∀i,i<n->U64 (f i).key):k7 Tryz.prog 109 [l6 A n c f,f4 l] (fun x=>l6 (x.A 0) (K2 l (b4 f n)).length (x.c 0) (itF (K2 l (b4 f n)))):=by
 intro m w hm hargs;have hmx:maxLen=9223372036854775807:=rfl;unfold l6 at hargs ⊢;simp only[f4]at hargs ⊢;refine en 24 hm hargs Tryz.func109 fun B O a0 Z=>?_
 refine wp_seq (rg O a6 [0,3] [3] [] Z fun X0 _ _ Z=>?_);refine wp_seq (rg O a6 [5,3,0] [3,5] [] Z fun X1 _ _ Z=>?_);refine wp_seq (wp_seq (rg O a6 [5,10,3,8,9] [3,5] [] Z fun X2 _ _ Z=>?_));replace Z:=Z.headS (v':=.sl (some 5) none 0 0 2 (fun t=>itC C5)) (zq0) rfl;refine wp_block (l4 (ι:=Nat×Nat×(Nat->Itm)×Option Addr×Nat) (fun p=>[(5,.sl (some 5) p.2.2.2.1 p.2.1 p.2.2.2.2 2 (fun t=>itC (p.2.2.1 t))),(10,.int .i64 (p.1:Int))]) (fun p=>[]) (fun p=>[(5,⟨p.2.2.2.1,p.2.1,p.2.2.2.2,2,62⟩)]) (fun p=>p.1<=n/\p.2.1<=p.1/\b4 p.2.2.1 p.2.1=K2 l (b4 f p.1)) (fun p=>n-p.1) (0,0,fun _=>C5,none,0) ⟨Nat.zero_le _,Nat.le_refl _,rfl⟩ Z ?_)
 rintro⟨i,q,g,A1,c1⟩ ⟨hi,hq,hg⟩ _ _ Z
 try dsimp only at hi
 try dsimp only at hq
 try dsimp only at hg
 refine wp_seq (rg O a6 [11,5,10,3,8,9] [3,5] [] Z fun X3 _ _ Z=>?_);refine wp_seq (a7 Z rfl (fun hb Z=>?_) (fun hb Z=>?_))
 .have hin:i<n:=by
   have:(i:Int)<(n:Int):=by subst O;simpa[std,a8]using hb
   omega
  have S:=Dq l hb0 (f i).key (hki i hin);simp only[f4]at S;obtain⟨cq,hcq⟩:=eqv (r8 l (f i).key);rw[<-hcq]at S;refine wp_skip (wp_seq (wp_block (wp_seq ?_)));refine rg O a6 [7,5,10,3,8,9] [7,3,5] [] Z (hob:=by intro X;subst O;simp only[b7,Ob.holds,BE.den]<;>and_intros<;>repeat first|trivial|rfl|exact(show(0:Int)<=(i:Int)by omega)|exact(show(i:Int)<(n:Int)by omega)|exact(fun _ _=>by kernel_rfl)|refine⟨?_,?_⟩|intro h|exact Int.le_refl _|decide|omega) fun X4 _ _ Z=>?_
  replace Z:=Z.memS (cells':=itC (f i)) (by subst O;exact zl);have O1:=S;refine wp_seq (rg O a6 [17,7,5,10,3,8,9] [7,3,5] [(3,.r fun _=>.bool (.v cq))] Z fun X5 _ _ Z=>?_);apply a7 Z rfl<;>intro hb Z
  .have hct:cq=true:=hb
   rw[hct]at hcq;refine rg O a6 [5,10,3,8,9] [3,5] [] Z (hob:=?hob) fun X6 _ _ Z=>?_
   case hob=>
    intro X;subst O
    repeat(first|exact trivial|refine⟨⟨rfl,rfl,rfl⟩,?_⟩|refine⟨rfl,?_⟩|refine⟨⟨show q+1<=maxLen by omega,show(q+1)*_<=_ by omega⟩,?_⟩)
   replace Z:=Z.headS (v':=.sl (some 5) ((X6 3).A 0) (B.nadd q 1) ((X6 3).c 0) 2 (fun t=>itC (ft g q (f i) t))) (Sim.resl rfl (fun t ht=>by
    subst O;have ht2:t<q+1:=ht
    show P5 q (fun t=>itC (g t)) (Q4 2 [.int .u64 (f i).key,.str (f i).val]) t=_
    unfold P5 ft
    split
    .rw [if_neg (by omega)]
    have:t=q:=by omega
    subst this;simp[Q4,itC])) rfl
   refine rg O a6 [5,10,3,8,9] [3,5] [] Z fun X7 _ _ Z=>?_
   have e:B.arith .add .i64 (i:Int) 1=((i+1:Nat):Int):=by subst O;exact o4 (n:=n) hin (by omega)
   refine⟨(i+1,q+1,ft g q (f i),_,_),⟨by simp only;omega,by simp only;omega,?_⟩,by simp only;omega,by rw[<-e,show q+1=B.nadd q 1 by subst O;rfl];exact Z⟩
   simp only;rw[fZ,hg,tB,if_pos hcq.symm]
  have hcf:cq=false:=hb;rw[hcf]at hcq;refine wp_skip (rg O a6 [5,10,3,8,9] [3,5] [] Z fun X7 _ _ Z=>?_);have e:B.arith .add .i64 (i:Int) 1=((i+1:Nat):Int):=by subst O;exact o4 (n:=n) hin (by omega)
  refine⟨(i+1,q,g,_,_),⟨by simp only;omega,by simp only;omega,?_⟩,by simp only;omega,by rw[<-e];exact Z⟩;simp only;rw[hg,tB,if_neg (by rw[<-hcq];decide),List.append_nil]
 have hout:i=n:=by
  have:¬(i:Int)<(n:Int):=by subst O;simpa[std,a8]using hb
  omega
 rw[hout]at hg;refine wp_exit (wp_seq (rg O a6 [4] [5] [] Z fun X8 _ _ Z=>?_));refine wp_ret ((rsi O a6 Z (⟨0,fun _=>A1,fun _=>c1,fun _=>⟨#[]⟩⟩) (he:=?_)));subst O;exact Sim.resl (by rw[<-hg,i3]) (fun t ht=>by rw[<-hg,i3]at ht;rw[<-hg,u0 _ _ t ht])
theorem vh:j6 Tryz.prog 106:=fun _ _=>by kernel_rfl
theorem Gl(A:Option Addr)(n c:Nat)(f:Nat->G6)(hn:n<=100000)(hN:∀i,i<n->B2 (f i).lab):P3 Tryz.prog 106 [jl A n c f] [] none noK (fun y=>⟨.raw (.map (some (y.c 0))),[],[]⟩) (fun N y=>lmF C6 N (y.c 0) (aq f n)):=by
 intro m w hm hargs hpre hI;have hmx:maxLen=9223372036854775807:=rfl;refine enM (bo:=none) 20 hm hpre hI hargs Tryz.func106 fun B O a0 Z=>?_
 refine wp_seq (rg O a6 [0] [] [] Z fun X0 a0 w1 Z=>?_);refine wp_seq (wp_region_lit (jr (k:=24) (e:=0) rfl rfl rfl rfl Z (Nat.le_of_ble_eq_true rfl) (lmK C6 w1.heap.size []) (fun m w' _ _ hM=>⟨_,LmD.empty hM⟩) ?_));obtain⟨bM,hbM⟩:=eqv (w1.heap.size);rw[<-hbM];intro a0 w1 hfresh Z;have hbfr:w.heap.size<=bM:=hfresh;refine lnd 1 O a6 [3,0] [] [] Z fun X1 a0 w1 Z=>?_
 refine wp_seq (wp_seq (rg O a6 [9,3,7,8] [] [] Z fun X2 a0 w1 Z=>?_));refine wp_block (eW (ι:=Nat) (fun p=>lmK C6 bM (aq f p)) (fun p=>[(9,.int .i64 (p:Int))]) (fun p=>[]) (fun p=>[]) (fun p=>p<=n) (fun p=>n-p) 0 (Nat.zero_le _) Z ?_)
 rintro i hi a0 w1 Z
 try dsimp only at hi
 replace Z:=Z.withK (K':=lmK C6 bM (aq f i)) Z.kept;have hLn:=iD f i;refine wp_seq (rg O a6 [10,9,3,7,8] [] [] Z fun X3 a0 w1 Z=>?_);refine wp_seq (a7 Z rfl (fun hb Z=>?_) (fun hb Z=>?_))
 .have hin:i<n:=by
   have:(i:Int)<(n:Int):=by subst O;simpa[std,a8]using hb
   omega
  have hlab:=hN i hin;refine wp_skip (wp_seq (wp_block (wp_seq ?_)));refine rg O a6 [5,9,3,7,8] [5] [] Z (hob:=by intro X;subst O;simp only[b7,Ob.holds,BE.den]<;>and_intros<;>repeat first|trivial|rfl|exact(show(0:Int)<=(i:Int)by omega)|exact(show(i:Int)<(n:Int)by omega)|exact(fun _ _=>by kernel_rfl)|refine⟨?_,?_⟩|intro h|exact Int.le_refl _|decide|omega) fun X4 a0 w1 Z=>?_
  replace Z:=Z.memS (cells':=Z1 (f i)) (by subst O;exact zl);refine wp_region_lit (lpr 0 5 O a6 [13,15,17,9,3,7,8] [5] [] Z fun X5_0 a0 w1 Z=>?_);obtain⟨D2,hD2⟩:=Z.kept;refine ao (k:=24) (e:=35) rfl rfl rfl rfl Z rfl rfl rfl rfl rfl fq lf hD2.map (by omega) (Y4 hlab) (fun h=>absurd h (by omega)) (lmK C6 bM (aq f (i+1))) (fun m w' hk hkb hv hM=>?_) ?_
  .exact As (x:=(f i).x) hD2.map hlab hk hkb (zr) hv hM
  intro w1 Z;refine wpList_nil (rg O a6 [9,3,7,8] [] [] Z fun X6 a0 w1 Z=>?_);have e:B.arith .add .i64 (i:Int) 1=((i+1:Nat):Int):=by subst O;exact o4 (n:=n) hin (by omega)
  refine⟨i+1,by omega,by omega,by rw[<-e];exact Z⟩
 have hout:i=n:=by
  have:¬(i:Int)<(n:Int):=by subst O;simpa[std,a8]using hb
  omega
 subst hout;refine wp_exit (wp_seq (rg O a6 [2] [] [] Z fun X7 a0 w1 Z=>?_));refine wp_ret ((rm O a6 Z (⟨0,fun _=>none,fun _=>bM,fun _=>⟨#[]⟩⟩) [] (hJ:=?_)).1);exact fun _ _ h=>⟨hbfr,h⟩
abbrev Tre:=Lab->Option Rec
def xD(T:Tre)(c:Lab):Bool:=match T c with
 |none=>true
 |some x=>decide (x.kind=5)
def jI(T:Tre)(f:Lab->List Itm)(r:Rec)(c:Lab):List Itm:=if r.kind=3/\xD T c=true then K2 c r.items else f c
def J8(T:Tre):Nat->Lab->List Itm
 |0,_=>[]
 |n+1,l=>match T l with
  |none=>[]
  |some r=>if r.kind=1 \/ r.kind=5 then r.items else if chE l 0=0 then jI T (J8 T n) r (chV l 0)++jI T (J8 T n) r (chV l 1)else []
def gh(ks:List Lab)(l:Lab):Nat:=ks.countP fun k=>r8 l k.bits&&decide (l.len<=k.len)
theorem qk{l:Lab}(hl:isL l=true)(hb:U64 l.bits):r8 l l.bits=true:=by
 unfold r8;simp only[Bool.and_eq_true,decide_eq_true_eq];exact⟨hl,(r7 hl).2.2⟩
theorem ru{v n:Nat}(hn:n<64):z8 (z8 v (n+1)) n=z8 v n:=by
 apply Nat.eq_of_testBit_eq;intro i;rw[df,df,df]
 by_cases h:64-n<=i
 .have:64-(n+1)<=i:=by omega
  rw[decide_eq_true h,decide_eq_true this];simp
 rw[decide_eq_false h];simp
theorem yo{l:Lab}(hl:isL l=true)(hb:U64 l.bits)(h64:l.len≠64)(b:Int){key:Int}(hc:r8 (k8 l b) key=true):r8 l key=true:=by
 obtain⟨q,h1,h2⟩:=gI hl hb h64;obtain⟨h3,h4,h5⟩:=r7 hl;unfold r8 at hc ⊢;simp only[Bool.and_eq_true,decide_eq_true_eq]at hc ⊢;refine⟨hl,?_⟩;have hlen:(k8 l b).len.toNat=l.len.toNat+1:=by unfold k8;simp only;omega
 have e:=hc.2;rw[hlen]at e;have hn:l.len.toNat<64:=by omega
 have e2:z8 (z8 key.toNat (l.len.toNat+1)) l.len.toNat=z8 key.toNat l.len.toNat:=ru hn;have e3:z8 key.toNat (l.len.toNat+1)=(k8 l b).bits.toNat:=by omega
 rw[e3]at e2;rw[<-e2,h1];have hp:0<2^(63-l.len.toNat):=Nat.pow_pos (by decide);have hpow:=bG hn;have hpp:0<2*2^(63-l.len.toNat):=by omega
 unfold z8 k8;simp only;rw[hpow]
 congr 1
 split
 .have:(l.bits+((2^(63-l.len.toNat):Nat):Int)).toNat=2^(63-l.len.toNat)+q*(2*2^(63-l.len.toNat)):=by rw[h1];omega
  rw[this,Nat.add_mul_div_right _ _ hpp,Nat.div_eq_of_lt (by omega),Nat.zero_add]
 have:l.bits.toNat=q*(2*2^(63-l.len.toNat)):=by rw[h1];omega
 rw[this,Nat.mul_div_cancel _ hpp]
theorem yw{l:Lab}(h:chE l 0=0):isL l=true/\l.len≠64/\∀b,chV l b=k8 l b:=by
 have hc:∀b,chE l b=0:=fun b=>h
 refine⟨?_,?_,fun b=>by unfold chV;rw[if_pos (hc b)]⟩
 .cases hl:isL l with
  |true=>rfl
  |false=>unfold chE at h;rw[hl,if_pos rfl]at h;cases h
 intro h64;unfold chE at h;simp only[h64,if_true]at h
 split at h<;>simp at h
theorem tG{l:Lab}(hb:U64 l.bits)(h:chE l 0=0)(b:Int):isL (chV l b)=true/\U64 (chV l b).bits/\(chV l b).len=l.len+1:=by
 obtain⟨h1,h2,h3⟩:=yw h;rw[h3];exact⟨fk h1 hb h2 b,dD h1 hb h2 b,rfl⟩
theorem qm{l:Lab}(hl:isL l=true)(hb:U64 l.bits)(h64:l.len≠64):∀{ks:List Lab},(∀k∈ks,U64 k.bits)->gh ks (k8 l 0)+gh ks (k8 l 1)+ks.countP (fun k=>decide (k=l))<=gh ks l
 | [],_=>Nat.le_refl _
 |k::ks,hk=>by
  have ih:=qm hl hb h64 (ks:=ks) fun k' h=>hk k' (by simp[h])
  unfold gh at ih ⊢;simp only[List.countP_cons];have hku:=hk k (by simp);have hlen:∀b,(k8 l b).len=l.len+1:=fun b=>rfl
  have key:(if(r8 (k8 l 0) k.bits&&decide ((k8 l 0).len<=k.len))=true then 1 else 0)+(if(r8 (k8 l 1) k.bits&&decide ((k8 l 1).len<=k.len))=true then 1 else 0)+(if decide (k=l)=true then 1 else 0)<=(if(r8 l k.bits&&decide (l.len<=k.len))=true then 1 else 0):=by
   by_cases e:k=l
   .subst e
    have n0:¬((r8 (k8 k 0) k.bits&&decide ((k8 k 0).len<=k.len))=true):=by
     simp only[hlen,Bool.and_eq_true,decide_eq_true_eq]
     rintro⟨_,h⟩
     omega
    have n1:¬((r8 (k8 k 1) k.bits&&decide ((k8 k 1).len<=k.len))=true):=by
     simp only[hlen,Bool.and_eq_true,decide_eq_true_eq]
     rintro⟨_,h⟩
     omega
    rw[if_neg n0,if_neg n1,if_pos (by simp),if_pos (by simp[qk hl hb])];omega
   rw[if_neg (show ¬decide (k=l)=true by simpa using e)]
   by_cases c:r8 l k.bits=true
   .obtain ⟨a0,a1⟩:=nw hl hb h64 hku c
    rw[a0,a1,c]
    generalize (k8 l 1).bits=z
    rw[hlen,hlen]
    by_cases hlt:k.bits<z
    .rw [decide_eq_true hlt,decide_eq_false (show ¬z<=k.bits by omega)]
     simp only[Bool.true_and,Bool.false_and,decide_eq_true_eq]
     by_cases g1:l.len<=k.len
     .rw [if_pos g1];by_cases g2:l.len+1<=k.len<;>simp[g2]
     rw[if_neg g1,if_neg (by omega)];simp
    rw[decide_eq_false hlt,decide_eq_true (show z<=k.bits by omega)];simp only[Bool.true_and,Bool.false_and,decide_eq_true_eq]
    by_cases g1:l.len<=k.len
    .rw [if_pos g1];by_cases g2:l.len+1<=k.len<;>simp[g2]
    rw[if_neg g1,if_neg (show ¬l.len+1<=k.len by omega)];simp
   have c0:r8 (k8 l 0) k.bits=false:=by
    cases h:r8 (k8 l 0) k.bits with
    |false=>rfl
    |true=>exact absurd (yo hl hb h64 0 h) c
   have c1:r8 (k8 l 1) k.bits=false:=by
    cases h:r8 (k8 l 1) k.bits with
    |false=>rfl
    |true=>exact absurd (yo hl hb h64 1 h) c
   rw[c0,c1];simp
  omega
theorem tC(l:Lab)(its:List Itm):(K2 l its).length<=its.length:=List.length_filter_le _ _
structure qv(T:Tre)(ks:List Lab):Prop where
 us:∀k∈ks,U64 k.bits
 at_:∀l r,T l=some r->l∈ks/\r.items.length<=16
theorem tE{T:Tre}{ks:List Lab}(h:qv T ks){l:Lab}{r:Rec}(hb:U64 l.bits)(hr:T l=some r)(hc:chE l 0=0):gh ks (chV l 0)+gh ks (chV l 1)+1<=gh ks l:=by
 obtain⟨h1,h2,h3⟩:=yw hc;have:=qm h1 hb h2 h.us;rw[h3,h3];have hp:0<ks.countP (fun k=>decide (k=l)):=List.countP_pos_iff.2 ⟨l,(h.at_ _ _ hr).1,by simp⟩;omega
theorem FH{ks:List Lab}{l:Lab}(hl:isL l=true)(hb:U64 l.bits)(h:l∈ks):1<=gh ks l:=
 List.countP_pos_iff.2 ⟨l,h,by simp[qk hl hb]⟩
theorem oh{T:Tre}{ks:List Lab}(h:qv T ks){n:Nat}{l:Lab}{r:Rec}(hr:T l=some r){c:Lab}(hf:(J8 T n c).length<=32*gh ks c):(jI T (J8 T n) r c).length<=16+32*gh ks c:=by
 unfold jI
 split
 .have:=tC c r.items
  have:=(h.at_ _ _ hr).2;omega
 omega
theorem iT{T:Tre}{ks:List Lab}(h:qv T ks):∀(n:Nat) (l:Lab),isL l=true->U64 l.bits->(J8 T n l).length<=32*gh ks l
 |0,l,_,_=>by simp[J8]
 |n+1,l,hl,hb=>by
  unfold J8
  cases hr:T l with
  |none=>simp
  |some r=>
   simp only;have h1:=FH hl hb (h.at_ _ _ hr).1;have h2:=(h.at_ _ _ hr).2
   split
   .omega
   split
   .rename_i hc
    have h3:=tE h hb hr hc;obtain⟨a1,a2,_⟩:=tG hb hc 0;obtain⟨b1,b2,_⟩:=tG hb hc 1;have k0:=oh h hr (iT h n (chV l 0) a1 a2);have k1:=oh h hr (iT h n (chV l 1) b1 b2);rw[List.length_append];omega
   simp
theorem FG(ks:List Lab)(l:Lab):gh ks l<=ks.length:=List.countP_le_length
theorem nr:j6 Tryz.prog 107:=fun _ _=>by kernel_rfl
theorem rY(w:World):(zeroValue 35).run Tryz.prog w = .ok (C6 zRA).den w:=by kernel_rfl
theorem vA(m:Nat->Nat->Prop)(w:World):Ok m w (C6 zRA):=by
 refine .agg _ (fun v hv=>?_) fun v hv=>?_
 .simp only[fo,List.mem_cons,List.not_mem_nil,or_false]at hv
  rcases hv with rfl|rfl|rfl|rfl|rfl<;>rfl
 simp only[fo,List.mem_cons,List.not_mem_nil,or_false]at hv
 rcases hv with rfl|rfl|rfl|rfl|rfl
 .exact .int _ _
 .exact .sl _ _ _ _ _ _ (Nat.le_refl _) (Nat.zero_le _) (fun i hi=>absurd hi (Nat.not_lt_zero _)) (fun i hi=>absurd hi (Nat.not_lt_zero _)) (fun i hi=>absurd hi (Nat.not_lt_zero _)) (fun i hi=>absurd hi (Nat.not_lt_zero _)) (fun i hi=>absurd hi (Nat.not_lt_zero _))
 .exact .int _ _
 .exact .int _ _
 exact .int _ _
theorem ln{q:Lab}(hl:isL q=true)(hb:U64 q.bits):B2 q:=by
 obtain⟨h1,h2,_⟩:=r7 hl;obtain⟨h3,h4⟩:=hb
 constructor
 .simp [Lit.wf,IntKind.min,IntKind.max,IntKind.signed,IntKind.bits];omega
 simp[Lit.wf,IntKind.min,IntKind.max,IntKind.signed,IntKind.bits];omega
def dY(T:List (Lab×RA)):Tre:=fun l=>(M2 l T).map fun x=>x.r.abs
structure vu(T:List (Lab×RA)):Prop where
 labs:∀p∈T,B2 p.1/\U64 p.1.bits
 recs:∀p∈T,p.2.r.n<=16/\∀i,i<p.2.r.n->U64 (p.2.r.f i).key
theorem vu.ok{T:List (Lab×RA)}(h:vu T):qv (dY T) (T.map (·.1)):=by
 refine⟨fun k hk=>?_,fun l r hr=>?_⟩
 .obtain ⟨p,hp,rfl⟩:=List.mem_map.1 hk
  exact(h.labs p hp).2
 obtain⟨x,hx,rfl⟩:=Option.map_eq_some_iff.1 hr;have hm:=aB hx;refine⟨List.mem_map.2 ⟨_,hm,rfl⟩,?_⟩;have:=(h.recs _ hm).1;unfold RN.abs;rw[i3];exact this
theorem vu.el{T:List (Lab×RA)}(h:vu T)(q:Lab):((M2 q T).getD zRA).r.n<=16/\∀i,i<((M2 q T).getD zRA).r.n->U64 (((M2 q T).getD zRA).r.f i).key:=by
 cases hx:M2 q T with
 |none=>exact⟨Nat.zero_le _,fun i hi=>absurd hi (Nat.not_lt_zero _)⟩
 |some x=>exact h.recs _ (aB hx)
def oT(n:Nat)(g f:Nat->Itm):Nat->Itm:=fun i=>if i<n then g i else f (i-n)
theorem ly(g f:Nat->Itm)(n k:Nat):b4 (oT n g f) (n+k)=b4 g n++b4 f k:=by
 apply List.ext_getElem?;intro i;unfold b4 oT
 by_cases h:i<n
 .rw [List.getElem?_append_left (by simpa using h)]
  simp[h,show i<n+k by omega]
 rw[List.getElem?_append_right (by simpa using h)]
 by_cases h2:i<n+k
 .simp [h,h2,show i-n<k by omega]
 simp[show ¬i<n+k from h2,show ¬i-n<k by omega]
abbrev tEp(bt bT:Nat):AV:=.ep (some ⟨bt,0,none⟩) 0 0 0 [.raw (.map (some bT))]
abbrev Db(bt bT bO bM n c:Nat)(A:Option Addr)(g:Nat->Itm):List (Nat×Blk):=[(901,⟨bO,33,[.sl (some 77) A n c 2 (fun i=>itC (g i))]⟩),(900,⟨bM,152,[.fn 107 [] [tEp bt bT,.ptr 901 bO 0,.ptr 900 bM 0]]⟩)]
abbrev GY(n c:Nat)(A:Option Addr):List (Nat×Gr):=[(77,⟨A,n,c,2,62⟩)]
def Ga(bt bT bO bM:Nat)(xs:List Itm)(mem:List (Nat×Blk))(gr:List (Nat×Gr)):Prop:=∃A n c g,b4 g n=xs/\mem=Db bt bT bO bM n c A g/\gr=GY n c A
def Gc(m0:Nat->Nat->Prop)(w0:World)(K:Kn)(bt bT bO bM:Nat)(xs:List Itm)(e:Ending)(w':World):Prop:=∃v,e = .returned v/\v = .tuple #[]/\∃mem' gr',Ga bt bT bO bM xs mem' gr'/\Mem m0 w0 (fun _=>False) K mem' gr' w'
theorem tI{A:Option Addr}{n k c:Nat}{g f:Nat->Itm}{d:Option Nat}:Sim (.sl d A (std.nadd n k) c 2 (std.app n (fun i=>itC (g i)) (fun i=>itC (f i)))) (.sl d A (n+k) c 2 (fun i=>itC (oT n g f i))):=
 Sim.resl rfl fun t ht=>by
  show P5 n (fun i=>itC (g i)) (fun i=>itC (f i)) t=itC (oT n g f t)
  unfold P5 oT
  split<;>rfl
def gA(T:Tre)(n:Nat)(r:Rec)(q:Lab):Nat->List Itm
 |0=>[]
 |1=>jI T (J8 T n) r (chV q 0)
 |_=>jI T (J8 T n) r (chV q 0)++jI T (J8 T n) r (chV q 1)
theorem qV{T:Tre}{n:Nat}{r:Rec}{q:Lab}(h:T q=some r)(hk:r.kind=1 \/ r.kind=5):J8 T (n+1) q=r.items:=by
 unfold J8;rw[h];exact if_pos hk
theorem xd{T:Tre}{n:Nat}{r:Rec}{q:Lab}(h:T q=some r)(hk:¬(r.kind=1 \/ r.kind=5)):J8 T (n+1) q=gA T n r q (if chE q 0=0 then 2 else 0):=by
 unfold J8;rw[h];refine(if_neg hk).trans ?_
 by_cases hc:chE q 0=0
 .rw [if_pos hc,if_pos hc];rfl
 rw[if_neg hc,if_neg hc];rfl
theorem mJ{T:Tre}{n:Nat}{r:Rec}{q:Lab}{i:Nat}(hi:i<2):gA T n r q (i+1)=gA T n r q i++jI T (J8 T n) r (chV q (i:Nat)):=by
 rcases i with _|_|i
 .rfl
 .rfl
 omega
theorem wC{T:Tre}{ks:List Lab}(h:qv T ks){n:Nat}{q:Lab}{r:Rec}(hb:U64 q.bits)(hr:T q=some r)(hc:chE q 0=0){i:Nat}(hi:i<2):(gA T n r q i).length+16+32*gh ks (chV q (i:Nat))<=32*gh ks q:=by
 have h3:=tE h hb hr hc
 rcases i with _|_|i
 .simp only[gA,List.length_nil,Int.ofNat_zero]
  have:((0:Nat):Int)=0:=rfl;omega
 .obtain ⟨a1,a2,_⟩:=tG hb hc 0
  have k0:=oh h hr (iT h n (chV q 0) a1 a2);simp only[gA];have:(((0+1:Nat)):Int)=1:=rfl;rw[this];omega
 omega
theorem Ap{m0:Nat->Nat->Prop}{w0:World}{bt bT bO bM:Nat}(T:List (Lab×RA))(hT:vu T)(hT2:T.length<=2000):∀(n:Nat) (q:Lab),U64 q.bits->isL q=true->65<=q.len+n->∀(K:Kn),(∀m w,K.p m w->(lmK C6 bT T).p m w)->K.self->∀w xs mem gr,Ga bt bT bO bM xs mem gr->xs.length+32*gh (T.map (·.1)) q<=1000000->Mem m0 w0 (fun _=>False) K mem gr w->Ok (mT m0 mem gr) w (tEp bt bT) →
  Calls Tryz.prog 107 ([f4 q,tEp bt bT,.ptr 901 bO 0,.ptr 900 bM 0].map AV.den).toArray w (Gc m0 w0 K bt bT bO bM (xs++J8 (dY T) n q)):=by
 intro n
 induction n with
 |zero=>
  intro q hb0 hl hn;have:=(r7 hl).2.1;exact absurd hn (by omega)
 |succ n ih=>
  intro q hb0 hl hn K hKT hKs w xs mem gr hO hlen hm htE;have hmx:maxLen=9223372036854775807:=rfl;obtain⟨Ao,no,co,g,hg,rfl,rfl⟩:=hO;have hargs:∀v ∈ [f4 q,tEp bt bT,.ptr 901 bO 0,.ptr 900 bM 0],Ok (mT m0 (Db bt bT bO bM no co Ao g) (GY no co Ao)) w v:=by
   intro v hv;simp only[List.mem_cons,List.not_mem_nil,or_false]at hv
   rcases hv with rfl|rfl|rfl|rfl
   .exact .agg _ (by intro v hv;simp only[List.mem_cons,List.not_mem_nil,or_false]at hv;rcases hv with rfl|rfl<;>rfl) (by intro v hv;simp only[List.mem_cons,List.not_mem_nil,or_false]at hv;rcases hv with rfl|rfl<;>exact .int _ _)
   .exact htE
   .exact .ptr _ _ _
   exact .ptr _ _ _
  have hlq:B2 q:=ln hl hb0;obtain⟨el,hel⟩:=eqv ((M2 q T).getD zRA);obtain⟨hh,hhh⟩:=eqv ((M2 q T).isSome);obtain⟨he1,he2⟩:=hT.el q;rw[<-hel]at he1 he2;have O1:=sN (el:=C6) hKT hlq lf rY vA (v:=C6 el) (by rw[<-hel]) hhh.symm;simp only[f4]at O1;refine IK 60 hm hargs Tryz.func107 fun B O a0 Z=>?_
  refine cX (fD (rg O a6 [4,1,2,3] [4,901,900,77] [] Z fun X0 a0 w1 Z=>?_));refine cX (fD (rg O a6 [6,5,4,1,2,3] [5,4,901,900,77] [(2,.r fun _=>.tup [C6 el,.bool (.v hh)])] Z fun X1 a0 w1 Z=>?_));obtain⟨qE,hqE⟩:=eqv (AV.ep (some ⟨(X0 0).b,0,none⟩) 0 0 0 [.int .i64 q.len,.int .u64 q.bits]);have Z:=Z.fz (tm':=[(6,.bool (.v hh)),(5,.ep (some ⟨(X1 6).b,0,none⟩) 0 0 0 (fo el)),(4,.ptr 4 (X0 0).b 0),(1,tEp bt bT),(2,.ptr 901 bO 0),(3,.ptr 900 bM 0)]) ⟨rfl,I7,rfl,eH,rfl,I7,rfl,I7,rfl,I7,rfl,I7,trivial⟩;have Z:=Z.fz (tm':=[(6,.bool (.v hh)),(5,.ep (some ⟨(X1 6).b,0,none⟩) 0 0 0 (fo el)),(4,.ep (some ⟨(X0 0).b,0,none⟩) 0 0 0 [.int .i64 q.len,.int .u64 q.bits]),(1,tEp bt bT),(2,.ptr 901 bO 0),(3,.ptr 900 bM 0)]) ⟨rfl,I7,rfl,I7,rfl,eH,rfl,I7,rfl,I7,rfl,I7,trivial⟩;refine cX (fD (wp_seq (rg O a6 [17,6,5,4,1,2,3] [901,900,77] [] Z fun X2 a0 w1 Z=>?_)));apply a7 Z rfl<;>intro hb Z
  .have hno:dY T q=none:=by
    have:hh=false:=by subst O;cases hh<;>first|rfl|cases hb
    rw[this]at hhh;unfold dY
    cases hg2:M2 q T with
    |none=>rfl
    |some x=>rw[hg2]at hhh;cases hhh
   refine wp_ret (CY O a6 Z (fun w' hm' _=>⟨_,rfl,rfl,_,_,⟨Ao,no,co,g,?_,rfl,rfl⟩,hm'⟩)).1;unfold J8;rw[hno,hg,List.append_nil]
  have hso:dY T q=some el.r.abs:=by
   have:hh=true:=by subst O;cases hh<;>first|rfl|cases hb
   rw[this]at hhh;obtain⟨x,hx⟩:=Option.isSome_iff_exists.1 hhh.symm;unfold dY;rw[hx]at hel ⊢;rw[hel];rfl
  refine wp_skip ?_;refine cX (fD (wp_seq (rg O a6 [25,5,4,1,2,3] [901,900,77] [] Z fun X3 a0 w1 Z=>?_)));apply a7 Z rfl<;>intro hb Z
  .have hk:el.r.kd=1 \/ el.r.kd=5:=by
    have h9:(if decide (el.r.kd=1)=true then true else decide (el.r.kd=5))=true:=by subst O;exact hb
    by_cases h1:el.r.kd=1
    .exact .inl h1
    rw[decide_eq_false h1]at h9;exact .inr (by simpa using h9)
   have hli:no<=1000000:=by rw[<-hg,i3]at hlen;omega
   refine wp_seq (rg O a6 [] [901,900,77] [] Z (fun X4 a0 w1 Z=>?_) (hob:=?hob))
   case hob=>
    intro X;subst O
    repeat(first|exact trivial|refine⟨⟨rfl,rfl,rfl⟩,?_⟩|refine⟨rfl,?_⟩|refine⟨⟨show no+el.r.n<=maxLen by omega,show(no+el.r.n)*_<=_ by omega⟩,?_⟩)
   have Z:=Z.memS (cells':=[.sl (some 77) ((X4 3).A 0) (no+el.r.n) ((X4 3).c 0) 2 (fun i=>itC (oT no g el.r.f i))]) (by subst O;exact⟨tI,trivial⟩);have Z:=Z.regr (n':=no+el.r.n) (by subst O;rfl);refine wp_ret (CY O a6 Z (fun w' hm' _=>⟨_,rfl,rfl,_,_,⟨_,no+el.r.n,_,oT no g el.r.f,?_,rfl,rfl⟩,hm'⟩)).1;rw[qV hso hk,ly,hg];rfl
  have hnk:¬(el.r.kd=1 \/ el.r.kd=5):=by
   have h9:(if decide (el.r.kd=1)=true then true else decide (el.r.kd=5))=false:=by subst O;exact hb
   rintro(h1|h1)<;>simp[h1]at h9
  refine wp_skip ?_;have SK:=Ey q;simp only[f4]at SK;have O1:=SK;refine cX (fD (rg O a6 [31,5,1,2,3] [901,900,77] [(1,.r fun y=>.fn 169 [] [.ep (some ⟨y.b,0,none⟩) 0 0 0 [.int .i64 q.len,.int .u64 q.bits]])] Z fun X5 a0 w1 Z=>?_));refine mw ?_;have hKu:=hKs _ _ Z.kept;have hTk:=hT.ok;refine Ej Z rfl ve hKu (fun l D rc w1 hl hD hrc hD0 hsz ha hm1 hlb=>?_);subst hrc;refine(Ez (l:=l) (D:=D) (ntc:=60) (p:=32) Tryz.func107 (by omega) (by omega) rfl rfl rfl (by decide) ⟨_,ha⟩ q hb0 (fun i K' mem gr=>K'=K/\Ga bt bT bO bM (xs++gA (dY T) n el.r.abs q i) mem gr) (fun _ _ _ _=>False) ?_ ⟨rfl,Ao,no,co,g,by rw[hg];simp[gA],rfl,rfl⟩ (hKu.off (by omega)) hm1 (hlb _ (by simp))).mono ?_
  .intro i hi hce E hE hE2 K' mem gr a w ⟨hK',hO⟩ hoff Z
   subst hK';obtain⟨A1,n1,c1,g1,hg1,rfl,rfl⟩:=hO;obtain⟨hc1,hc2,hc3⟩:=tG hb0 hce (i:Nat);have hpl:=wC (n:=n) hTk hb0 hso hce hi;obtain⟨c,hc⟩:=eqv (chV q (i:Nat));rw[<-hc]at hc1 hc2 hc3 Z hpl;simp only[f4]at Z;have hn1:n1<=1000000:=by
    have:=congrArg List.length hg1;rw[i3,List.length_append]at this;omega
   refine rrg O a6 [7,5,1,2,3] [7,901,900,77] [] Z fun X6 a0 w1 Z=>?_
   have Z:=Z.fz (tm':=[(7,.ep (some ⟨(X6 0).b,0,none⟩) 0 0 0 [.int .i64 c.len,.int .u64 c.bits]),(5,.ep (some ⟨(X1 6).b,0,none⟩) 0 0 0 (fo el)),(1,tEp bt bT),(2,.ptr 901 bO 0),(3,.ptr 900 bM 0)]) ⟨rfl,eH,rfl,I7,rfl,I7,rfl,I7,rfl,I7,trivial⟩;refine⟨60,_,_,_,Z,fun w2 Z=>?_⟩;obtain⟨ei,hei⟩:=eqv ((M2 c T).getD zRA);obtain⟨hi2,hhi2⟩:=eqv ((M2 c T).isSome);have OL:=fun(Kx:Kn) (hx:∀m w,Kx.p m w->K'.p m w)=>sN (K:=Kx) (el:=C6) (b:=bT) (L:=T) (l:=c) (fun m w h=>hKT m w (hx m w h)) (ln hc1 hc2) lf rY vA (v:=C6 ei) (by rw[<-hei]) hhi2.symm
   simp only[f4]at OL;refine wpIn_block (wpIn_seq (wpIn_seq (rrg O a6 [9,8,7,5,1,2,3] [8,901,900,77] [(2,.r fun _=>.tup [C6 ei,.bool (.v hi2)])] Z (fun X7 a0 w1 Z=>?_) (hob:=?hob7))))
   case hob7=>
    intro X;subst O
    repeat(first|exact trivial|refine⟨rfl,?_⟩|refine⟨OL _ (fun m w h=>h.1.1.1),?_⟩)
   have Z:=Z.fz (tm':=[(9,.bool (.v hi2)),(8,.ep (some ⟨(X7 6).b,0,none⟩) 0 0 0 (fo ei)),(7,.ep (some ⟨(X6 0).b,0,none⟩) 0 0 0 [.int .i64 c.len,.int .u64 c.bits]),(5,.ep (some ⟨(X1 6).b,0,none⟩) 0 0 0 (fo el)),(1,tEp bt bT),(2,.ptr 901 bO 0),(3,.ptr 900 bM 0)]) ⟨rfl,I7,rfl,eH,rfl,I7,rfl,I7,rfl,I7,rfl,I7,rfl,I7,trivial⟩;have hfz:xD (dY T) c=(if(!hi2)=true then true else decide (ei.r.kd=5)):=by
    unfold xD dY
    cases hg2:M2 c T with
    |none=>rw[hg2]at hhi2;rw[hhi2];rfl
    |some x=>rw[hg2]at hhi2 hei;rw[hhi2,hei];rfl
   refine wpIn_seq (rrg O a6 [50,7,5,1,2,3] [901,900,77] [] Z fun X8 a0 w1 Z=>?_);refine bx Z rfl (fun hb Z=>?_) (fun hb Z=>?_)
   .have h9:(if decide (el.r.kd=3)=true then(if(!hi2)=true then true else decide (ei.r.kd=5))else false)=true:=by subst O;exact hb
    rw[<-hfz]at h9;have hkid:jI (dY T) (J8 (dY T) n) el.r.abs c=K2 c (b4 el.r.f el.r.n):=by
     unfold jI;refine if_pos ⟨?_,?_⟩
     .show el.r.kd=3
      by_cases h3:el.r.kd=3
      .exact h3
      rw[decide_eq_false h3]at h9;cases h9
     split at h9
     .exact h9
     cases h9
    have SCV:=DI el.A el.r.n el.c el.r.f (by omega) c hc2 he2;have hcl:=tC c (b4 el.r.f el.r.n);rw[i3]at hcl;obtain⟨CV,hCV⟩:=eqv (K2 c (b4 el.r.f el.r.n));rw[<-hCV]at SCV hkid hcl;obtain⟨cf,hcf⟩:=eqv (itF CV);obtain⟨cn,hcn⟩:=eqv (CV.length);rw[<-hcf,<-hcn]at SCV;rw[<-hcn]at hcl;simp only[l6,f4]at SCV;refine wpIn_seq (GV O a6 [] [901,900,77] [(4,.r fun x=>.sl none (x.A 0) cn (x.c 0) 2 (fun i=>itC (cf i)))] Z (fun X9 a0 w1 Z=>?_) (hob:=?hob))
    case hob=>
     intro X;subst O
     repeat(first|exact trivial|refine⟨⟨fun _ _=>by kernel_rfl,SCV⟩,?_⟩|refine⟨⟨rfl,rfl,rfl⟩,?_⟩|refine⟨rfl,?_⟩|refine⟨⟨show n1+cn<=maxLen by omega,show(n1+cn)*_<=_ by omega⟩,?_⟩)
    have Z:=Z.memS (cells':=[.sl (some 77) ((X9 5).A 0) (n1+cn) ((X9 5).c 0) 2 (fun i=>itC (oT n1 g1 cf i))]) (by subst O;exact⟨tI,trivial⟩);have Z:=Z.regr (n':=n1+cn) (by subst O;rfl);refine wpIn_exit ?_;refine⟨K',_,_,⟨rfl,_,n1+cn,_,oT n1 g1 cf,?_,rfl,rfl⟩,hoff,Z.bare⟩;rw[ly,hg1,mJ hi,<-hc,hkid,List.append_assoc,hcn,hcf,jv]
   have h9:(if decide (el.r.kd=3)=true then(if(!hi2)=true then true else decide (ei.r.kd=5))else false)=false:=by subst O;exact hb
   rw[<-hfz]at h9;have hkid:jI (dY T) (J8 (dY T) n) el.r.abs c=J8 (dY T) n c:=by
    unfold jI;refine if_neg ?_
    rintro⟨h1,h2⟩
    rw[decide_eq_true (show el.r.kd=3 from h1),h2]at h9
    cases h9
   have hst:=Z.slot 1 rfl;refine wpIn_skip (IA ?_);refine lpr 0 2 O a6 [57,58,7,5,1,2,3] [901,900,77] [] Z (fun X10 a0 w1 Z=>?_);have hst:=Z.slot 1 rfl;refine sM rfl rfl rfl rfl Z rfl rfl nr (fun t ht=>by injection ht with ht;subst ht;decide) (fun hmm haa hargs=>?_);have hself:∀tmX rcX tmY,(((KL K' tmX l rcX D .busy none).and E).and (okT tmY)).self:=fun tmX rcX tmY=>cT (cT (Ch hKs tmX l rcX D .busy none) hE) (gD tmY)
   refine Calls.mono (ih c hc2 hc1 (by omega) _ ?hx ?hs w1 (xs++gA (dY T) n el.r.abs q i) _ _ ⟨A1,n1,c1,g1,hg1,rfl,rfl⟩ (by rw[List.length_append];omega) hmm hst.2) ?_
   case hx=>exact fun m w h=>hKT m w h.1.1.1.1
   case hs=>exact hself _ _ _
   rintro e w' ⟨v,rfl,rfl,mem',gr',hO',hm'⟩
   refine⟨.tup [],rfl,mem',gr',_,.tup _ (fun u hu=>by cases hu),hm',fun a' hF'=>wpList_nil ?_⟩;obtain⟨A2,n2,c2,g2,hg2,rfl,rfl⟩:=hO';exact⟨K',_,_,⟨rfl,A2,n2,c2,g2,by rw[hg2,mJ hi,<-hc,hkid,List.append_assoc],rfl,rfl⟩,hoff,hF'.bare⟩
  rintro e w3 ⟨v,rfl,K',mem',gr',ho,hh⟩
  rcases hh with⟨hm',rfl,hO'⟩|⟨c,hx,_⟩
  .refine ⟨v,rfl,K',mem',gr',ho,.inl ⟨hm',fun a' w' hF'=>?_⟩⟩
   obtain⟨A',n',c',g',hg',rfl,rfl⟩:=hO';refine(ss O a6 [D] hF' (fun D' hD'=>?_) (fun w'' hm'' _=>⟨_,rfl,rfl,_,_,⟨A',n',c',g',?_,rfl,rfl⟩,hm''⟩)).2
   .simp only[List.mem_singleton]at hD'
    subst hD';exact⟨hKu.off (by omega),hD0⟩
   rw[hg',xd hso hnk]
  exact hx.elim
theorem P3.x{P:Program}{f:FuncId}{args:List AV}{pre:List (Nat×Blk)}{res:i8->CR}{J:Nat->i8->Kn}(h:P3 P f args pre none noK res J):u9 P f args pre res:=by
 intro m w h1 h2 h3;refine(h m w h1 h2 h3 trivial).mono ?_
 rintro e w' ⟨x,rfl,g1,g2,_,_⟩
 exact⟨x,rfl,g1,g2.plain⟩
theorem pl{g g':Option Nat}{k k':Nat}{f f':Nat->List AV}:Sim (.sl g none 0 0 k f) (.sl g' none 0 0 k' f'):=
 ⟨rfl,fun _=>rfl,fun _ _ _=>.sl _ _ _ _ _ _ (Nat.le_refl _) (Nat.zero_le _) (fun i hi=>absurd hi (Nat.not_lt_zero _)) (fun i hi=>absurd hi (Nat.not_lt_zero _)) (fun i hi=>absurd hi (Nat.not_lt_zero _)) (fun i hi=>absurd hi (Nat.not_lt_zero _)) (fun i hi=>absurd hi (Nat.not_lt_zero _))⟩
def RwN(n:Nat)(f:Nat->G6):Prop:=∀i,i<n->(f i).x.r.n<=1000000/\B2 (f i).lab/\U64 (f i).lab.bits/\U64 (f i).x.r.nx.bits
def RwK(n:Nat)(f:Nat->G6):Prop:=∀i,i<n->∀t,t<(f i).x.r.n->U64 ((f i).x.r.f t).key
def ls(l:List Rw):Bool:=(dS l).isSome
theorem Gm(A:Option Addr)(n c:Nat)(f:Nat->G6)(hn:n<=maxLen)(hN:RwN n f):k7 Tryz.prog 105 [jl A n c f] (fun _=>.bool (.v (ls (I2 f n)))):=by
 intro m w hm hargs;have hmx:maxLen=9223372036854775807:=rfl;have SN:=(De A n c f hn hN).x;obtain⟨ir,hir⟩:=eqv (ls (I2 f n));rw[<-hir];refine en 12 hm hargs Tryz.func105 fun B O a0 Z=>?_
 refine wp_seq (rg O a6 [0] [] [] Z fun X0 _ _ Z=>?_);unfold ls at hir
 cases hs:dS (I2 f n)with
 |none=>
  rw[hs]at SN hir;have O1:=SN;refine wp_seq (rg O a6 [4] [] [(1,.x fun y=>⟨.tup [.nilp,.int .i64 1],[],[]⟩)] Z fun X1 _ _ Z=>?_);refine wp_seq (rg O a6 [2] [] [] Z fun X2 _ _ Z=>?_);exact wp_ret (rsp O a6 Z ⟨0,fun _=>none,fun _=>0,fun _=>.empty⟩ (he:=by subst O;rw[hir];rfl)).1
 |some L=>
  rw[hs]at SN hir;have O1:=SN;refine wp_seq (rg O a6 [4] [] [(1,.x fun y=>⟨.tup [.ptr 14 y.b 0,.int .i64 0],[],[(14,⟨y.b,113,[.raw (.map (some (y.c 0))),.int .i64 0]⟩)]⟩)] Z fun X1 _ _ Z=>?_);refine wp_seq (rg O a6 [2] [] [] Z fun X2 _ _ Z=>?_);exact wp_ret (rsp O a6 Z ⟨0,fun _=>none,fun _=>0,fun _=>.empty⟩ (he:=by subst O;rw[hir];rfl)).1
def DG(l:List Rw):Tre:=fun q=>(l.reverse.find? fun w=>decide (w.lab=q)).map (·.r)
def iV(l:List Rw):List Itm:=if ls l=true then J8 (DG l) 65 ⟨0,0⟩else []
def lq(l:List Rw):Int:=if ls l=true then 0 else 1
theorem sj{α : Type}{l:Lab}{x:α}{p:Lab×α}:∀{L:List (Lab×α)},p∈ec l x L->p=(l,x) \/ p∈L
 | [],h=>by simp[ec]at h;exact .inl h
 |y::L,h=>by
  unfold ec at h
  split at h
  .rcases List.mem_cons.1 h with h|h
   .exact .inl h
   exact .inr (List.mem_cons_of_mem _ h)
  rcases List.mem_cons.1 h with h|h
  .exact .inr (by rw[h];exact List.mem_cons_self ..)
  exact(sj h).imp id (List.mem_cons_of_mem _)
theorem vG(f:Nat->G6):∀n,dY (aq f n)=DG (I2 f n)
 |0=>rfl
 |n+1=>by
  funext q
  have ih:=congrFun (vG f n) q;unfold dY DG at ih ⊢;unfold aq;rw[eG,show I2 f (n+1)=I2 f n ++ [G6.abs (f n)]from lk _ _ _,List.reverse_append,List.reverse_singleton,List.singleton_append,List.find?_cons]
  by_cases h:(f n).lab=q
  .rw [if_pos h]
   simp[G6.abs,h]
  rw[if_neg h];rw[show decide ((G6.abs (f n)).lab=q)=false from decide_eq_false h];exact ih
theorem sJ:∀{l:List Rw} {L L':Shf},ew l L=some L'->∀w∈l,isL w.lab=true/\isR w.r=true
 | [],_,_,_,w,hw=>by cases hw
 |v::l,L,L',h,w,hw=>by
  unfold ew at h
  split at h
  .cases h
  rename_i hn
  simp only[Bool.or_eq_true,Bool.not_eq_true',not_or,Bool.not_eq_false]at hn
  rcases List.mem_cons.1 hw with rfl|hw
  .exact ⟨hn.1.2,hn.2⟩
  exact sJ h w hw
theorem sH{l:List Rw}(h:ls l=true):l.length<=2000/\∀w∈l,isL w.lab=true/\isR w.r=true:=by
 unfold ls dS at h
 split at h
 .cases h
 obtain⟨L,hL⟩:=Option.isSome_iff_exists.1 h;exact⟨by omega,sJ hL⟩
theorem iC(f:Nat->G6):∀(n:Nat) (p:Lab×RA),p∈aq f n->∃i,i<n/\p=((f i).lab,(f i).x)
 |0,p,h=>by cases h
 |n+1,p,h=>by
  unfold aq at h;have h':=sj h
  rcases h' with h'|h'
  .exact ⟨n,by omega,h'⟩
  obtain⟨i,hi,e⟩:=iC f n p h';exact⟨i,by omega,e⟩
theorem vF{f:Nat->G6}{n:Nat}(hN:RwN n f)(hK:RwK n f)(h:ls (I2 f n)=true):vu (aq f n):=by
 obtain⟨_,h2⟩:=sH h;refine⟨fun p hp=>?_,fun p hp=>?_⟩
 .obtain ⟨i,hi,rfl⟩:=iC f n p hp
  exact⟨(hN i hi).2.1,(hN i hi).2.2.1⟩
 obtain⟨i,hi,rfl⟩:=iC f n p hp;have hm:G6.abs (f i)∈I2 f n:=by
  simp only[I2,bE,List.mem_map,List.mem_range];exact⟨i,hi,rfl⟩
 have h3:=(h2 _ hm).2;have h4:isR (f i).x.r.abs=true:=h3;rw[gL]at h4;exact⟨(E3 h4).2.2.1,hK i hi⟩
theorem AE(A:Option Addr)(n c:Nat)(f:Nat->G6)(hn:n<=100000)(hN:RwN n f)(hK:RwK n f):k7 Tryz.prog 45 [jl A n c f] (fun y=>.tup [l6 (y.A 0) (iV (I2 f n)).length (y.c 0) (itF (iV (I2 f n))),.int .i64 (lq (I2 f n))]):=by
 intro m w hm hargs;have hmx:maxLen=9223372036854775807:=rfl;have SI:=Gm A n c f (by omega) hN;obtain⟨ir,hir⟩:=eqv (ls (I2 f n));rw[<-hir]at SI;have O1:=SI;refine en 17 hm hargs Tryz.func45 fun B O a0 Z=>?_
 refine wp_seq (rg O a6 [0] [] [] Z fun X0 a0 w1 Z=>?_);refine wp_seq (wp_seq (rg O a6 [9,0] [] [(1,.r fun _=>.bool (.v ir))] Z fun X1 a0 w1 Z=>?_));apply a7 Z rfl<;>intro hb Z
 .have hif:ls (I2 f n)=false:=by rw[<-hir];subst O;cases ir<;>first|rfl|cases hb
  refine wp_seq (rg O a6 [2,3] [2] [] Z fun X2 a0 w1 Z=>?_);refine wp_ret (rsi O a6 Z ⟨0,fun _=>none,fun _=>0,fun _=>.empty⟩ (he:=?_));subst O;unfold iV lq l6;rw[hif];exact Sim.tup ⟨pl,zr,trivial⟩
 have hit:ls (I2 f n)=true:=by rw[<-hir];subst O;cases ir<;>first|rfl|cases hb
 have hTA:=vF hN hK hit;have hTl:(aq f n).length<=2000:=by
  have h1:=(sH hit).1;rw[R0]at h1;exact Nat.le_trans (iD f n) h1
 refine wp_skip (wp_seq (wp_region_lit ?_));refine lpr 0 1 O a6 [10] [] [] Z (fun X2 a0 w1 Z=>?_);refine Z9 rfl rfl rfl rfl Z rfl rfl vh (Gl A n c f hn fun i hi=>(hN i hi).2.1) (fun _ _ h=>h) (fun b hb=>by cases hb) (zl) (fun e he=>by cases he) rfl rfl (fun y=>lmK C6 (y.c 0) (aq f n)) (fun _ _ _ _ _ _ _ _ _ h=>h.2) ?_;intro y a0 w1 Z;obtain⟨bT,hbT⟩:=eqv (y.c 0);rw[<-hbT]at Z;refine lnd 2 O a6 [4] [4] [] Z (fun X3 a0 w1 Z=>?_);have Z:=Z.fz (tm':=[(4,tEp (X3 2).b bT)]) ⟨rfl,eH,trivial⟩;refine wp_seq (rg O a6 [5,4] [5] [] Z fun X4 a0 w1 Z=>?_);refine wp_seq (rg O a6 [6,5,4] [6,5] [] Z fun X5 a0 w1 Z=>?_);refine wp_seq (rg O a6 [6,5] [6,5] [] Z fun X6 a0 w1 Z=>?_);obtain⟨bt,hbt⟩:=eqv ((X3 2).b);obtain⟨bO,hbO⟩:=eqv ((X4 0).b);obtain⟨bM,hbM⟩:=eqv ((X5 0).b);have Z:=Z.rekey (key':=900) (tm':=[(6,.ptr 900 (X5 0).b 0),(5,.ptr 5 (X4 0).b 0)]) ⟨rfl,xC,rfl,I7,trivial⟩;have Z:=Z.memS (cells':=[.fn 107 [] [tEp (X3 2).b bT,.ptr 901 (X4 0).b 0,.ptr 900 (X5 0).b 0]]) ⟨Sim.fn trivial ⟨zr,Sim.ptr,Sim.ptr,trivial⟩,trivial⟩;have Z:=Z.keep [6,5] [5,900];have Z:=Z.rekey (key':=901) (tm':=[(6,.ptr 900 (X5 0).b 0),(5,.ptr 901 (X4 0).b 0)]) ⟨rfl,I7,rfl,xC,trivial⟩;have Z:=Z.fresh (Below.refl _ _) 77 (t:=⟨none,0,0,2,62⟩) (by decide) (Own.nil _ _ _ _ none);have Z:=b6.memS (cells':=[.sl (some 77) none 0 0 2 (fun i=>itC ((fun _=>C5) i))]) Z ⟨pl,trivial⟩;refine wp_seq (wp_region_lit ?_);refine lpr 0 2 O a6 [13,14,5,6] [901,900,77] [] Z (fun X7 a0 w1 Z=>?_);refine sM rfl rfl rfl rfl Z rfl rfl nr (fun t ht=>by injection ht with ht;subst ht;decide) (fun hmm haa hargs=>?_);have htE:=hargs (tEp (X3 2).b bT) (by simp);have hself:∀tm,((lmK C6 bT (aq f n)).and (okT tm)).self:=fun tm=>cT xj (gD tm)
 refine Calls.mono (Ap (aq f n) hTA hTl 65 ⟨0,0⟩ ⟨by decide,by decide⟩ (by decide) (by decide) _ ?hx ?hs w1 [] _ _ ⟨none,0,0,fun _=>C5,rfl,rfl,rfl⟩ ?hl hmm htE) ?_
 case hx=>exact fun m w h=>h.1
 case hs=>exact hself _
 case hl=>
  have:=FG ((aq f n).map (·.1)) ⟨0,0⟩;rw[List.length_map]at this;simp only[List.length_nil];omega
 rintro e w' ⟨v,rfl,rfl,mem',gr',hO',hm'⟩
 refine⟨.tup [],rfl,mem',gr',_,.tup _ (fun u hu=>by cases hu),hm',fun a' Z=>wpList_nil ?_⟩;obtain⟨A2,n2,c2,g2,hg2,rfl,rfl⟩:=hO';refine wp_seq (rg O a6 [2,3] [901,77] [] Z fun X8 a0 w1 Z=>?_);refine wp_ret (rsi O a6 Z ⟨0,fun _=>A2,fun _=>c2,fun _=>.empty⟩ (he:=?_));subst O;have hI:iV (I2 f n)=b4 g2 n2:=by
  unfold iV;rw[if_pos hit,hg2,List.nil_append,vG]
 have hE:lq (I2 f n)=0:=by unfold lq;rw[if_pos hit]
 rw[hI,hE];unfold l6;exact Sim.tup ⟨Sim.resl (by rw[i3]) (fun t ht=>by rw[i3]at ht;rw[u0 _ _ t ht]),zr,trivial⟩
def edJ(k key:Int):i5:=⟨k,⟨0,0⟩,key,0,⟨#[97]⟩,0,none,0,0,fun _=>0,0,0,0,0,1,1,900⟩
theorem rJ(k:Int){key:Int}(h:U64 key):dQ (edJ k key):=have h0:U64 (0:Int):=⟨by decide,by decide⟩;⟨h0,h,h0⟩
def oC:Shf:=[(⟨0,0⟩,⟨2,true,⟨1,[⟨1,⟨#[97]⟩⟩],⟨-1,0⟩,0⟩⟩)]
def lK:Shf:=[(⟨0,0⟩,⟨4,true,⟨2,[],⟨-1,0⟩,0⟩⟩),(⟨1,0⟩,⟨1,true,⟨1,[⟨1,⟨#[97]⟩⟩],⟨1,9223372036854775808⟩,0⟩⟩),(⟨1,9223372036854775808⟩,⟨2,true,⟨1,[⟨9223372036854775808,⟨#[97]⟩⟩],⟨-1,0⟩,0⟩⟩)]
def vm:Shf:=[(⟨0,0⟩,⟨4,true,⟨2,[],⟨-1,0⟩,0⟩⟩),(⟨1,0⟩,⟨1,true,⟨1,[⟨1,⟨#[97]⟩⟩],⟨1,9223372036854775808⟩,0⟩⟩),(⟨1,9223372036854775808⟩,⟨3,true,⟨1,[],⟨-1,0⟩,0⟩⟩)]
def vj:List Rw:=[⟨⟨0,0⟩,4,⟨2,[],⟨-1,0⟩,0⟩⟩,⟨⟨1,0⟩,1,⟨1,[⟨1,⟨#[97]⟩⟩],⟨1,9223372036854775808⟩,0⟩⟩,⟨⟨1,9223372036854775808⟩,2,⟨1,[⟨9223372036854775808,⟨#[97]⟩⟩],⟨-1,0⟩,0⟩⟩]
def ic:List Rw:=[⟨⟨0,0⟩,4,⟨2,[],⟨-1,0⟩,0⟩⟩,⟨⟨1,0⟩,1,⟨1,[⟨1,⟨#[97]⟩⟩],⟨1,9223372036854775808⟩,0⟩⟩,⟨⟨1,9223372036854775808⟩,3,⟨1,[],⟨-1,0⟩,0⟩⟩]
theorem AX:W8 (J6 (edJ 4 1)) 2000 2001 [] [] 0=⟨2,aJ,4,0,oC,2⟩:=by kernel_rfl
theorem AW:W8 (J6 (edJ 4 9223372036854775808)) 2000 2001 [] oC 2=⟨2,aJ,12,0,lK,7⟩:=by kernel_rfl
theorem AU:W8 (J6 (edJ 5 9223372036854775808)) 2000 2001 [] lK 7=⟨2,⟨0,true,⟨#[97]⟩,[],0,false⟩,6,0,vm,8⟩:=by kernel_rfl
theorem xX:J0 lK=vj:=by kernel_rfl
theorem xW:J0 vm=ic:=by kernel_rfl
theorem xY:iV ic=[⟨1,⟨#[97]⟩⟩]:=by kernel_rfl
theorem Fc:lq ic=0:=by kernel_rfl
def Hr:List Rw:=[⟨⟨0,0⟩,2,⟨1,[⟨1,⟨#[97]⟩⟩],⟨-1,0⟩,0⟩⟩]
theorem AZ:dS Hr=some oC:=by kernel_rfl
theorem AY:dS vj=some lK:=by kernel_rfl
theorem Hw:lZ []:=iR (l:=[]) (fun r h=>by cases h) rfl
theorem Hv:lZ oC:=iR (by
 intro r hr;simp only[Hr,List.mem_cons,List.not_mem_nil,or_false]at hr;subst hr;refine⟨⟨by decide,by decide⟩,⟨by decide,by decide⟩,⟨by decide,by decide⟩,fun x hx=>?_⟩;simp only[List.mem_cons,List.not_mem_nil,or_false]at hx;subst hx;exact⟨by decide,by decide⟩) AZ
theorem Hu:lZ lK:=iR (by
 intro r hr;simp only[vj,List.mem_cons,List.not_mem_nil,or_false]at hr
 rcases hr with rfl|rfl|rfl
 .exact ⟨⟨by decide,by decide⟩,⟨by decide,by decide⟩,⟨by decide,by decide⟩,fun x hx=>by cases hx⟩
 .refine ⟨⟨by decide,by decide⟩,⟨by decide,by decide⟩,⟨by decide,by decide⟩,fun x hx=>?_⟩
  simp only[List.mem_cons,List.not_mem_nil,or_false]at hx;subst hx;exact⟨by decide,by decide⟩
 refine⟨⟨by decide,by decide⟩,⟨by decide,by decide⟩,⟨by decide,by decide⟩,fun x hx=>?_⟩;simp only[List.mem_cons,List.not_mem_nil,or_false]at hx;subst hx;exact⟨by decide,by decide⟩) AY
def zJ:i5:=⟨0,⟨0,0⟩,0,0,⟨#[]⟩,0,none,0,0,fun _=>0,0,0,0,0,0,0,0⟩
theorem Ge:dQ zJ:=⟨⟨by decide,by decide⟩,⟨by decide,by decide⟩,⟨by decide,by decide⟩⟩
theorem DA(g:Option Nat)(k:Nat)(f:Nat->List AV):E8 [.agg [.int .i64 0,.int .i64 0,.int .u64 0,.int .u64 0,.int .u64 0,.str ⟨#[]⟩,.int .i64 0,.sl none none 0 0 1 (fun _=>[]),.int .u32 0,.int .u32 0,.int .u32 0,.int .u32 0,.int .i64 0,.int .i64 0,.int .i64 0],.sl g none 0 0 k f] [dx zJ,az none 0 0 (fun _=>oZ)]:=⟨Sim.agg ⟨zr,zr,zr,zr,zr,zr,zr,Sim.nils,zr,zr,zr,zr,zr,zr,zr,trivial⟩,Sim.nils,trivial⟩
theorem GP{l:List Rw}(h:∀w∈l,w.r.items.length<=1000000/\B2 w.lab/\U64 w.lab.bits/\U64 w.r.next.bits)(y:i8):RwN l.length (fl y l):=by
 intro i hi;unfold fl;rw[List.getD_eq_getElem?_getD,List.getElem?_eq_getElem hi];exact h _ (List.getElem_mem hi)
theorem DU{l:List Rw}(h:∀w∈l,∀x∈w.r.items,U64 x.key)(y:i8):RwK l.length (fl y l):=by
 intro i hi t ht;unfold fl at ht ⊢;rw[List.getD_eq_getElem?_getD,List.getElem?_eq_getElem hi]at ht ⊢;have ht:t<(l[i].r.items).length:=ht
 show U64 ((l[i].r.items).getD t C5).key
 rw[List.getD_eq_getElem?_getD,List.getElem?_eq_getElem ht];exact h _ (List.getElem_mem hi) _ (List.getElem_mem ht)
theorem yL:J6 zJ 0 (fun _=>oZ)=(zWq,1):=by kernel_rfl
theorem Hs(y:i8):RwN 3 (fl y ic):=GP (l:=ic) (by
 intro w hw;simp only[ic,List.mem_cons,List.not_mem_nil,or_false]at hw
 rcases hw with rfl|rfl|rfl<;>exact⟨by decide,ln (by decide) ⟨by decide,by decide⟩,⟨by decide,by decide⟩,⟨by decide,by decide⟩⟩) y
theorem Ht(y:i8):RwK 3 (fl y ic):=DU (l:=ic) (by
 intro w hw;simp only[ic,List.mem_cons,List.not_mem_nil,or_false]at hw
 rcases hw with rfl|rfl|rfl
 .intro x hx;cases hx
 .intro x hx
  simp only[List.mem_cons,List.not_mem_nil,or_false]at hx;subst hx;exact⟨by decide,by decide⟩
 intro x hx;cases hx) y
theorem xV:k7 Tryz.prog 28 [] (fun _=>.bool .tt):=by
 intro m w hm hargs;have hmx:maxLen=9223372036854775807:=rfl;obtain⟨RF,hRF⟩:∃RF:i8->Nat->G6,RF=fun y=>fl y vj:=⟨_,rfl⟩
 have hRy:∀y,fl y vj=RF y:=fun y=>by rw[hRF]
 obtain⟨RG,hRG⟩:∃RG:i8->Nat->G6,RG=fun y=>fl y ic:=⟨_,rfl⟩
 have hRz:∀y,fl y ic=RG y:=fun y=>by rw[hRG]
 have SI:=fun(y:i8) (A:Option Addr) (c:Nat)=>AE A 3 c (RG y) (by decide) (by rw[<-hRz];exact Hs y) (by rw[<-hRz];exact Ht y)
 have hRR:∀y,I2 (RG y) 3=ic:=fun y=>by rw[hRG];exact ub y ic
 simp only[hRR,xY,Fc,List.length_singleton,l6]at SI;obtain⟨W1,hW1⟩:=eqv (((zWq,(1:Int))).1);obtain⟨E1,hE1⟩:=eqv (((zWq,(1:Int))).2);obtain⟨rr1,hrr1⟩:=eqv (W1.r.rn);obtain⟨nn1,hnn1⟩:=eqv (W1.res.items.length);obtain⟨ff1,hff1⟩:=eqv (itF W1.res.items);have T1:=k7.wq (by have h:=(oB zJ Ge none 0 0 (fun _=>oZ) (by omega) (fun j hj=>absurd hj (Nat.not_lt_zero _)));rw[yL]at h;exact h) hW1 hE1 hrr1 hnn1 hff1;have S1:∀g k fz,k7 Tryz.prog 26 [.agg [.int .i64 0,.int .i64 0,.int .u64 0,.int .u64 0,.int .u64 0,.str ⟨#[]⟩,.int .i64 0,.sl none none 0 0 1 (fun _=>[]),.int .u32 0,.int .u32 0,.int .u32 0,.int .u32 0,.int .i64 0,.int .i64 0,.int .i64 0],.sl g none 0 0 k fz] (fun x=>.tup [D8 (wqB x W1 rr1 nn1 ff1),.int .i64 E1]):=fun g k fz=>T1.sim (DA g k fz)
 refine en 118 hm hargs Tryz.func28 fun B O a0 Z=>?_
 refine wp_seq (rg O a6 [] [] [] Z fun X0 _ _ Z=>?_);have SN:=Aj none 0 0 (fun _=>qD) (by omega) (fun i hi=>absurd hi (Nat.not_lt_zero _)) 900 (L:=[]) rfl;refine wp_seq (wp_region_lit (Z9 rfl rfl rfl rfl Z rfl rfl xT (SN) (fun _ _ _=>trivial) (fun b hb=>by cases hb) ⟨Sim.nils,trivial⟩ (by intro e he;cases he) rfl rfl (fun y=>shF w.heap.size (y.c 0) ([]:Shf)) (fun n x m w m' w' hn _ _ h=>⟨Nat.le_trans hn h.1,h.2⟩) ?_));intro y _ _ Z;obtain⟨sb,hsb⟩:=eqv (y.b);obtain⟨bM,hbM⟩:=eqv (y.c 0);rw[<-hsb,<-hbM]at Z;have hbfr:w.heap.size<=bM:=Z.kept.1;replace Z:=Z.withK (K':=shK bM ([]:Shf)) Z.kept.2;refine lnd 1 O a6 [1,2] [900] [] Z fun X1 _ _ Z=>?_
 refine wp_seq (wp_seq (rg O a6 [27,1] [900] [] Z fun X2 _ _ Z=>?_));apply a7 Z rfl<;>intro hb Z
 .exfalso
  subst O;simp[std,a8,BE.den]at hb
 skip
 refine wp_skip (wp_seq (rg O a6 [1,3] [900,3] [] Z fun X4 _ _ Z=>?_));refine wp_seq (wp_region_lit (lpr 0 2 O a6 [30,31,1,3] [900,3] [] Z fun X5_0 _ _ Z=>?_));have SD:=nU 900 2000 sb bM (edJ 4 1) (rJ _ ⟨by decide,by decide⟩) ([]:Shf) Hw 0;rw[AX]at SD;have SE:P3 Tryz.prog 76 [.ptr 900 sb 0,dx (edJ 4 1),.int .i64 2000] [(900,⟨sb,113,[.raw (.map (some bM)),.int .i64 0]⟩)] (some bM) (shK bM ([]:Shf)) (fun y=>⟨.tup [.agg [.int .i64 0,.bool (.v false),.str ⟨#[]⟩,.sl none (y.A 2) 0 (y.c 2) 2 (fun i=>itC (itF [] i)),.int .u64 0,.bool (.v false)],.bool (.v true),.bool (.v true)],[(900,[.raw (.map (some bM)),.int .i64 2])],[]⟩) (fun _ _=>shK bM oC):=SD;refine Z9 rfl rfl rfl rfl Z rfl rfl lH SE (fun _ _ h=>h) (fun b hb=>by cases hb;exact fun h=>absurd h (Nat.not_lt.2 hbfr)) ⟨zr,Sim.agg ⟨zr,zr,zr,zr,zr,zr,zr,Sim.nils,zr,zr,zr,zr,zr,zr,zr,trivial⟩,zr,trivial⟩ (by intro e he;simp only[List.mem_singleton]at he;subst he;rfl) rfl rfl (fun _=>shK bM oC) (fun _ _ _ _ _ _ _ _ _ h=>h) ?_;intro y _ _ Z;replace Z:=Z.withK (K':=shK bM oC) Z.kept;refine lnd 3 O a6 [1,3,4,5,6] [900,3,4] [] Z fun X5 _ _ Z=>?_
 refine wp_seq (rg O a6 [1,3,4,5,6] [900,3,4] [] Z fun X6 _ _ Z=>?_);refine wp_seq (wp_region_lit (lpr 0 2 O a6 [38,39,1,3,4,5,6] [900,3,4] [] Z fun X7_0 _ _ Z=>?_));have SD:=nU 900 2000 sb bM (edJ 4 9223372036854775808) (rJ _ ⟨by decide,by decide⟩) oC Hv 2;rw[AW]at SD;have SE:P3 Tryz.prog 76 [.ptr 900 sb 0,dx (edJ 4 9223372036854775808),.int .i64 2000] [(900,⟨sb,113,[.raw (.map (some bM)),.int .i64 2]⟩)] (some bM) (shK bM oC) (fun y=>⟨.tup [.agg [.int .i64 0,.bool (.v false),.str ⟨#[]⟩,.sl none (y.A 2) 0 (y.c 2) 2 (fun i=>itC (itF [] i)),.int .u64 0,.bool (.v false)],.bool (.v true),.bool (.v true)],[(900,[.raw (.map (some bM)),.int .i64 7])],[]⟩) (fun _ _=>shK bM lK):=SD;refine Z9 rfl rfl rfl rfl Z rfl rfl lH SE (fun _ _ h=>h) (fun b hb=>by cases hb;exact fun h=>absurd h (Nat.not_lt.2 hbfr)) ⟨zr,Sim.agg ⟨zr,zr,zr,zr,zr,zr,zr,Sim.nils,zr,zr,zr,zr,zr,zr,zr,trivial⟩,zr,trivial⟩ (by intro e he;simp only[List.mem_singleton]at he;subst he;rfl) rfl rfl (fun _=>shK bM lK) (fun _ _ _ _ _ _ _ _ _ h=>h) ?_;intro y _ _ Z;replace Z:=Z.withK (K':=shK bM lK) Z.kept;have SR1:=vY 900 sb bM lK (by decide) 7;rw[xX,show vj.length=3 from rfl]at SR1;simp only[hRy]at SR1;refine lnd 3 O a6 [1,3,4,5,6,7,8,9] [900,3,4,7] [] Z fun X7 _ _ Z=>?_
 refine wp_seq (rg O a6 [1,3,4,5,6,7,8,9,10] [900,3,4,7] [(1,.g [900] fun y=>.sl none (y.A 0) 3 (y.c 0) 8 (fun i=>Z1 (RF y i)))] Z (hob:=?hob) fun X8 _ _ Z=>?_)
 case hob=>
  intro X;subst O
  repeat(first|exact trivial|refine⟨rfl,?_⟩|refine⟨fun _=>rfl,?_⟩|refine⟨⟨fun _ _=>by kernel_rfl,SR1⟩,?_⟩|refine⟨fun _=>⟨fun _ _=>by kernel_rfl,SR1⟩,?_⟩|refine⟨fun _=>⟨by decide,by decide⟩,?_⟩)
 refine wp_seq (rg O a6 [1,3,4,5,6,7,8,9,10] [900,3,4,7] [] Z fun X9 _ _ Z=>?_);refine wp_seq (wp_region_lit (lpr 0 2 O a6 [49,50,1,3,4,5,6,7,8,9,10] [900,3,4,7] [] Z fun X10_0 _ _ Z=>?_));have SD:=nU 900 2000 sb bM (edJ 5 9223372036854775808) (rJ _ ⟨by decide,by decide⟩) lK Hu 7;rw[AU]at SD;have SE:P3 Tryz.prog 76 [.ptr 900 sb 0,dx (edJ 5 9223372036854775808),.int .i64 2000] [(900,⟨sb,113,[.raw (.map (some bM)),.int .i64 7]⟩)] (some bM) (shK bM lK) (fun y=>⟨.tup [.agg [.int .i64 0,.bool (.v true),.str ⟨#[97]⟩,.sl none (y.A 2) 0 (y.c 2) 2 (fun i=>itC (itF [] i)),.int .u64 0,.bool (.v false)],.bool (.v true),.bool (.v true)],[(900,[.raw (.map (some bM)),.int .i64 8])],[]⟩) (fun _ _=>shK bM vm):=SD;refine Z9 rfl rfl rfl rfl Z rfl rfl lH SE (fun _ _ h=>h) (fun b hb=>by cases hb;exact fun h=>absurd h (Nat.not_lt.2 hbfr)) ⟨zr,Sim.agg ⟨zr,zr,zr,zr,zr,zr,zr,Sim.nils,zr,zr,zr,zr,zr,zr,zr,trivial⟩,zr,trivial⟩ (by intro e he;simp only[List.mem_singleton]at he;subst he;rfl) rfl rfl (fun _=>shK bM vm) (fun _ _ _ _ _ _ _ _ _ h=>h) ?_;intro y _ _ Z;replace Z:=Z.withK (K':=shK bM vm) Z.kept;have SR1:=vY 900 sb bM vm (by decide) 8;rw[xW,show ic.length=3 from rfl]at SR1;simp only[hRz]at SR1;refine lnd 3 O a6 [1,4,5,6,7,8,9,10,11,12,13] [900,4,7,11] [] Z fun X10 _ _ Z=>?_
 refine wp_seq (rg O a6 [4,5,6,7,8,9,10,11,12,13,14,15] [4,7,11] [(1,.g [900] fun y=>.sl none (y.A 0) 3 (y.c 0) 8 (fun i=>Z1 (RG y i))),(2,.r fun y=>.tup [.sl none (y.A 0) 1 (y.c 0) 2 (fun i=>itC (itF [⟨1,⟨#[97]⟩⟩] i)),.int .i64 0])] Z (hob:=?hob) fun X11 _ _ Z=>?_)
 case hob=>
  intro X;subst O
  repeat(first|exact trivial|refine⟨rfl,?_⟩|refine⟨fun _=>rfl,?_⟩|refine⟨⟨fun _ _=>by kernel_rfl,SR1⟩,?_⟩|refine⟨fun _=>⟨fun _ _=>by kernel_rfl,SR1⟩,?_⟩|refine⟨⟨fun _ _=>by kernel_rfl,SI _ _ _⟩,?_⟩|refine⟨fun _=>⟨fun _ _=>by kernel_rfl,SI _ _ _⟩,?_⟩|refine⟨fun _=>⟨by decide,by decide⟩,?_⟩)
 apply wp_seq;refine rg O a6 [4,5,6,7,8,9,10,11,12,13,14,15,17] [4,7,11,16] [(1,.r fun x=>.tup [.agg [.int .i64 W1.kind,.int .i64 W1.lab.len,.int .u64 W1.lab.bits,.int .u64 W1.ver,.int .i64 rr1.kd,.sl none (x.A 1) rr1.n (x.c 1) 2 (fun i=>itC (rr1.f i)),.int .i64 rr1.nx.len,.int .u64 rr1.nx.bits,.int .u64 rr1.mrk,.int .i64 W1.res.code,.bool (.v W1.res.had),.str W1.res.val,.sl none (x.A 2) nn1 (x.c 2) 2 (fun i=>itC (ff1 i)),.int .u64 W1.res.key,.bool (.v W1.res.more)],.int .i64 E1])] Z (hob:=by intro X;subst O;simp only[b7,Ob.holds,BE.den]<;>and_intros<;>repeat first|trivial|rfl|exact S1 _ _ _|exact(fun _ _=>by kernel_rfl)|refine⟨?_,?_⟩|intro h|exact Int.le_refl _|decide|omega) fun X12 _ _ Z=>?_
 refine wp_seq (rg O a6 [0] [] [] Z fun X13 _ _ Z=>?_);refine wp_ret ((rsi O a6 Z f9 (he:=?_)));subst O;refine Sim.bool ?_;simp[std,a8,jS,BE.den,vq,hE1]
 try exact String.beq_self _
theorem vT(cd:Int)(hd:Bool)(vl:ByteArray)(A:Option Addr)(n c:Nat)(A2:Option Addr)(c2:Nat)(f:Nat->Itm)(k:Int)(mr:Bool):k7 Tryz.prog 65 [.agg [.int .i64 cd,.bool (.v hd),.str vl,.sl none A n c 2 (fun i=>itC (f i)),.int .u64 k,.bool (.v mr)],.agg [.int .i64 cd,.bool (.v hd),.str vl,.sl none A2 n c2 2 (fun i=>itC (f i)),.int .u64 k,.bool (.v mr)]] (fun _=>.bool .tt):=by
 intro m w hm hargs;have hn:n<=maxLen:=by
  have h9:=hargs _ (List.mem_cons_self ..);have:=iO (qT h9 (.sl none A n c 2 (fun i=>itC (f i))) (by simp));omega
 have S:=sn A n c f hn A2 n c2 f;rw[show dO n f n f=true from iH rfl fun _ _=>rfl]at S;simp only[l6]at S;refine en 45 hm hargs Tryz.func65 fun B O a0 Z=>?_
 refine wp_seq (rg O a6 [2,3] [2,3] [] Z fun X0 _ _ Z=>?_);have O1:=S;refine wp_seq (rg O a6 [4] [] [(24,.r fun _=>.bool (.v true))] Z fun X1 _ _ Z=>?_);refine wp_ret ((rsi O a6 Z f9 (he:=?_)));subst O;refine Sim.bool ?_;simp[std,a8,jS,BE.den,vq]
 try exact String.beq_self _
theorem zt(x y:i8)(W:Wq)(rr:RN)(nn:Nat)(ff:Nat->Itm):k7 Tryz.prog 20 [D8 (wqB x W rr nn ff),D8 (wqB y W rr nn ff)] (fun _=>.bool .tt):=by
 intro m w hm hargs;have hn:rr.n<=maxLen:=by
  have h9:=hargs _ (List.mem_cons_self ..);have:=iO (qT h9 (.sl none (x.A 1) rr.n (x.c 1) 2 (fun i=>itC (rr.f i))) (by simp));omega
 have S:=vU (x.A 1) rr.n (x.c 1) rr.f hn rr.kd rr.nx rr.mrk (y.A 1) rr.n (y.c 1) rr.f rr.kd rr.nx rr.mrk;rw[tZ,decide_eq_true rfl]at S;simp only[F1,l6]at S;have S2:=vT W.res.code W.res.had W.res.val (x.A 2) nn (x.c 2) (y.A 2) (y.c 2) ff W.res.key W.res.more;refine en 38 hm hargs Tryz.func20 fun B O a0 Z=>?_
 refine wp_seq (rg O a6 [2,3] [2,3] [] Z fun X0 _ _ Z=>?_);apply wp_seq;refine rg O a6 [4] [] [(24,.r fun _=>.bool (.v true)),(31,.r fun _=>.bool .tt)] Z (hob:=by intro X;subst O;simp only[b7,Ob.holds,BE.den]<;>and_intros<;>repeat first|trivial|rfl|exact f7 (Kk:=noK) _ _ _ _|exact S|exact S2|exact(fun _ _=>by kernel_rfl)|refine⟨?_,?_⟩|intro h|exact Int.le_refl _|decide|omega) fun X1 _ _ Z=>?_
 refine wp_ret ((rsi O a6 Z f9 (he:=?_)));subst O;refine Sim.bool ?_;simp[std,a8,BE.den,vq,ap]
def mq(n:Nat)(f:Nat->r9):Bool:=decide (200<n)||(List.range n).any fun i=>lW (f i).x.r.n (f i).x.r.f
theorem Cb{n i:Nat}{f:Nat->r9}(hi:i<n)(h:lW (f i).x.r.n (f i).x.r.f=true):mq n f=true:=by
 unfold mq;rw[Bool.or_eq_true];exact .inr (List.any_eq_true.2 ⟨i,List.mem_range.2 hi,h⟩)
theorem yB{n i:Nat}{f:Nat->r9}(hc:¬((i:Int)<(n:Int)/\(n:Int)<=200))(hi:i<=n)(h:∀t,t<i->lW (f t).x.r.n (f t).x.r.f=false):mq n f=decide ((200:Int)<(n:Int)):=by
 unfold mq
 by_cases h6:200<n
 .rw [decide_eq_true h6,Bool.true_or,decide_eq_true (by omega)]
 have:i=n:=by omega
 subst this;rw[decide_eq_false h6,Bool.false_or,decide_eq_false (by omega),List.any_eq_false];intro t ht;rw[h t (List.mem_range.1 ht)];simp
theorem Cc{n:Nat}{f:Nat->r9}(h:mq n f=false):n<=200/\∀i,i<n->(f i).x.r.n<=40:=by
 unfold mq at h;rw[Bool.or_eq_false_iff]at h;refine⟨by have:=of_decide_eq_false h.1;omega,fun i hi=>?_⟩;have h2:=List.any_eq_false.1 h.2 i (List.mem_range.2 hi);exact yC (f:=(f i).x.r.f) (by simpa using h2)
theorem xA{m:Nat->Nat->Prop}{w:World}{g:Option Nat}{A:Option Addr}{n c:Nat}{f:Nat->r9}(h:Ok m w (.sl g A n c 8 (fun i=>bH (f i)))):∀i,i<n->(f i).x.r.n<=maxLen:=by
 intro i hi;have:=iO (zY h hi (.sl none (f i).x.A (f i).x.r.n (f i).x.c 2 (fun t=>itC ((f i).x.r.f t))) (by simp));omega
theorem FR(g:Option Nat)(A:Option Addr)(n c:Nat)(f:Nat->r9)(hn:n<=maxLen):k7 Tryz.prog 16 [.sl g A n c 8 (fun i=>bH (f i))] (fun _=>.bool (.v (mq n f))):=by
 intro m w hm hargs;have hmx:maxLen=9223372036854775807:=rfl;have hln:=xA (hargs (.sl g A n c 8 (fun i=>bH (f i))) (by simp));refine en 24 hm hargs Tryz.func16 fun B O a0 Z=>?_
 refine wp_seq (rg O a6 [0] [] [] Z fun X0 _ _ Z=>?_);refine wp_seq (wp_seq (rg O a6 [3,0] [] [] Z fun X1 _ _ Z=>?_));refine wp_block (l4 (ι:=Nat) (fun p=>[(3,.int .i64 (p:Int))]) (fun p=>[]) (fun p=>[]) (fun p=>p<=n/\∀t,t<p->lW (f t).x.r.n (f t).x.r.f=false) (fun p=>n-p) 0 ⟨Nat.zero_le _,fun t ht=>absurd ht (Nat.not_lt_zero _)⟩ Z ?_)
 rintro i ⟨hi,hall⟩ _ _ Z
 try dsimp only at hi
 try dsimp only at hall
 refine wp_seq (wp_seq (rg O a6 [12,3,0] [] [] Z fun X2 _ _ Z=>?_));apply a7 Z rfl<;>intro hb Z
 .have hc:(i:Int)<(n:Int)/\(n:Int)<=200:=by subst O;simpa[std,a8,BE.den]using hb
  have hin:i<n:=by omega
  have S:=HL (f i).x.A (f i).x.r.n (f i).x.c (f i).x.r.f (hln i hin) (f i).x.r.kd (f i).x.r.nx (f i).x.r.mrk;simp only[F1,l6]at S;obtain⟨q,hq⟩:=eqv (lW (f i).x.r.n (f i).x.r.f);rw[<-hq]at S;refine wp_skip (wp_seq (wp_block (wp_seq ?_)));refine rg O a6 [20,3,0] [] [(5,.r fun _=>.bool (.v q))] Z (hob:=by intro X;subst O;simp only[b7,Ob.holds,BE.den]<;>and_intros<;>repeat first|trivial|rfl|exact(show(0:Int)<=(i:Int)by omega)|exact(show(i:Int)<(n:Int)by omega)|exact S|exact(fun _ _=>by kernel_rfl)|refine⟨?_,?_⟩|intro h|exact Int.le_refl _|decide|omega) fun X4 _ _ Z=>?_
  apply a7 Z rfl<;>intro hb Z
  .have hone:lW (f i).x.r.n (f i).x.r.f=true:=by
    have:q=true:=hb;rw[<-this,hq]
   refine wp_seq (rg O a6 [2] [] [] Z fun X5 _ _ Z=>?_);refine wp_ret ((rsi O a6 Z f9 (he:=?_)));subst O;refine Sim.bool ?_
   show true=mq n f
   exact(Cb hin hone).symm
  have hone:lW (f i).x.r.n (f i).x.r.f=false:=by
   have:q=false:=hb;rw[<-this,hq]
  refine wp_skip (rg O a6 [3,0] [] [] Z fun X3 _ _ Z=>?_);have e:B.arith .add .i64 (i:Int) 1=((i+1:Nat):Int):=by subst O;exact o4 (n:=n) hin (by omega)
  refine⟨i+1,⟨by omega,fun t ht=>?_⟩,by omega,by rw[<-e];exact Z⟩
  by_cases hti:t=i
  .subst hti;exact hone
  exact hall t (by omega)
 have hc:¬((i:Int)<(n:Int)/\(n:Int)<=200):=by subst O;simpa[std,a8,BE.den]using hb
 refine wp_exit (wp_seq (rg O a6 [2] [] [] Z fun X6 _ _ Z=>?_));refine wp_ret ((rsi O a6 Z f9 (he:=?_)));subst O;refine Sim.bool ?_
 show decide ((200:Int)<(n:Int))=mq n f
 rw[yB hc hi hall]
abbrev T4:AV:=.agg [.int .i64 0,.int .u64 0,.int .i64 0,.int .u64 0,.bool .ff,.int .i64 0,.sl none none 0 0 2 (fun _=>[]),.int .i64 0,.int .u64 0,.int .u64 0]
theorem LOk.zero{l:Lab}(h:LOk l):l.len=0↔l=D4:=by
 obtain⟨_,_,h3⟩:=r7 h.isl
 constructor
 .intro h0
  obtain⟨a,b⟩:=l;dsimp only at h0 h3;subst h0;have hu:=h.u;unfold U64 at hu;dsimp only at hu;have:z8 b.toNat (0:Int).toNat=0:=by
   show b.toNat / 2^64*2^64=0
   rw[Nat.div_eq_of_lt (by omega),Nat.zero_mul]
  rw[this]at h3;simp at h3;rw[<-h3]
 intro h0;rw[h0]
theorem BG(k0 b:Nat)(J:i5)(hJ:j0 J)(E:s5)(hE:E.n<=1000000)(N:Nat)(p:Pst)(hR:Rel E N p)(hp:f8 p)(hn:p.n<=1000000)(l:Lab)(v:Int):u2 140 k0 b J E N p [f4 l,.int .u64 v,pQ] (fun d=>.bool (.v d)) (.bool .ff) (N8 (J.budget-E.n) l v lm p):=
 u2.re (bN 0 b J hJ E hE N p hR hp hn l v ⟨none,0,lm.rn⟩) ⟨zr,zr,Sim.agg ⟨zr,I9,zr,zr,zr,trivial⟩,trivial⟩
theorem Ha{n:Int}(h:ofE n=0)(h0:0<=n):n<=64:=by
 unfold ofE at h
 split at h
 .cases h
 omega
theorem GZ{n:Int}(h:¬ofE n=0)(h0:0<=n):64<n:=by
 unfold ofE at h
 split at h
 .omega
 exact absurd rfl h
theorem Bk(b:Nat)(J:i5)(hJ:j0 J)(E:s5)(hE:E.n<=1000000)(N:Nat)(p:Pst)(hR:Rel E N p)(hp:f8 p)(hn:p.n<=1000000)(key:Int)(hk:U64 key)(l:Lab)(hl:LOk l)(n:Nat)(hf:p.n<n):u2 186 0 b J E N p [.int .u64 key,f4 l] (L6) (T4) (C7 J.bucket (J.budget-E.n) key n l p):=by
 intro m w hm hargs hpre;have hN0:N=E.n-p.n:=by have:=hR.n;omega
 have SN:=eS;simp only[f4,B7]at SN;refine enX 70 hm hpre hargs Tryz.func186 fun B O a0 Z=>?_
 refine wp_seq (rg O a6 [0,1,5,6] [0,5,6] [] Z fun X0 _ _ Z=>?_);refine wp_seq (wp_block (l4 (ι:=LSt×Lab) (fun q=>[]) (fun q=>[(0,⟨b,174,lsC J E q.1⟩),(5,⟨(X0 0).b,24,[.int .i64 q.2.len,.int .u64 q.2.bits]⟩)]) (fun q=>[]) (fun q=>match q.1 with| .go a r M=>C7 J.bucket (J.budget-E.n) key n l p=C7 J.bucket (J.budget-E.n) key a q.2 r/\f8 r/\r.n<=1000000/\Rel E M r/\r.n<a/\r.n<=p.n/\LOk q.2| .dn r M=>False| .sp M Q u=>∃(X:i8) (wq:Wq) (pp:Pst),C7 J.bucket (J.budget-E.n) key n l p = .stop wq pp/\M=E.n-pp.n/\Q=wqA X wq/\u=pp.note) (fun q=>lsM q.1) (.go n p N,l) ⟨rfl,hp,hn,hR,(by skip;omega),(by skip;omega),hl⟩ Z ?_))
 rintro q hJ _ _ Z
 rcases q with⟨⟨nn0,p0,N0⟩|⟨p9,N9⟩|⟨N0,Q0,t0⟩,l0⟩
 .dsimp only[lsC,lsB]at hJ Z
  obtain⟨hrun0,hp0,hn0,hR0,hf0,hle0,hl0⟩:=hJ;obtain⟨m0,rfl⟩:∃n2,nn0=n2+1:=⟨nn0-1,by omega⟩
  have hN0:N0=E.n-p0.n:=by have:=hR0.n;omega
  refine wp_seq (wp_seq (rg O a6 [14,0,1,5,6] [0,5,6] [] Z fun X1 _ _ Z=>?_));refine j1 Z rfl (fun Z=>?_);refine wp_skip (wp_block (wp_seq ?_))
  rcases(K0 0 b J hJ E hE N0 p0 hR0 hp0 hn0 l0).two (i7 _ _ _) hp0 hn0 hR0 with⟨g2,p2,N2,hm2,hs2,hp2,hn2,hR2,hN2,S2⟩|⟨wq2,p2,N2,W2,hm2,hs2,hN2,hW2,S2⟩
  .have hl2:=u5 hm2
   have hg2:=hp0.get hm2;have hr2:=hp0.getR hm2;have O1:=S2;refine rg O a6 [0,1,5,6,7] [0,5,6,7] [(2,lc J E (u4 g2) N2 p2)] Z fun X2 _ _ Z=>?_
   refine wp_seq (wp_seq (rg O a6 [21,0,1,5,6,7] [0,5,6,7] [] Z fun X3 _ _ Z=>?_));refine j3 Z rfl (fun Z=>?_);refine wp_skip (wp_seq (wp_seq (rg O a6 [25,0,1,5,6,7] [0,5,6,7] [] Z fun X5 _ _ Z=>?_)));apply a7 Z rfl<;>intro hb Z
   .have hh:g2.has=false:=by
     have h9:(!g2.has)=true:=by subst O;exact hb
     simpa using h9
    refine wp_seq (wp_seq (rg O a6 [28,0,1,5,6,7] [0,5,6,7] [] Z fun X6 _ _ Z=>?_));apply a7 Z rfl<;>intro hb Z
    .have h0:l0.len=0:=by subst O;simpa[std,a8]using hb
     have tz:=hl0.zero.1 h0;subst tz
     rcases(BG 0 b J hJ E hE N2 p2 hR2 hp2 hn2 D4 g2.ver).two (l5 _ _ _ _ _) hp2 hn2 hR2 with⟨d7,p7,N7,hm7,hs7,hp7,hn7,hR7,hN7,S7⟩|⟨wq7,p7,N7,W7,hm7,hs7,hN7,hW7,S7⟩
     .have O1:=SN
      have O2:=S7;refine drg O a6 [0,1,5,6] [0,5,6] [(4,.r fun _=>.agg [.int .i64 (-1),.int .u64 0]),(6,lc J E (.bool (.v d7)) N7 p7)] Z fun X7 _ _ Z=>?_
      refine wp_seq (rg O a6 [0,1,5,6] [0,5,6] [] Z fun X8 _ _ Z=>?_);replace Z:=Z.keep [0,1,5,6] [0,5,6];exact wp_exit (⟨(.go m0 p7 N7,D4),⟨by rw[hrun0];simp[C7,Rs.bind,hrun0,C7,hm2,gk,hh,hm7],hp7,hn7,hR7,(by have:=hf0;have:=hle0;have:=hl2;have:=hs7.le;omega),(by have:=hf0;have:=hle0;have:=hl2;have:=hs7.le;omega),R5⟩,by simp[lsM],Z⟩)
     have O1:=SN;have O2:=S7;refine drg O a6 [0,1,5,6] [0,5,6] [(4,.r fun _=>.agg [.int .i64 (-1),.int .u64 0]),(6,sc J E (.bool .ff) N7 W7 p7.note)] Z fun X7 _ _ Z=>?_
     refine wp_seq (rg O a6 [0,1,5,6] [0,5,6] [] Z fun X8 _ _ Z=>?_);replace Z:=Z.keep [0,1,5,6] [0,5,6];exact wp_exit (⟨(.sp N7 (W7 (X7 6)) p7.note,D4),⟨(X7 6),wq7,p7,by simp[Rs.bind,hrun0,C7,hm2,gk,hh,hm7],hN7,(hW7 _),rfl⟩,by simp[lsM],Z⟩)
    have h0:¬l0.len=0:=by subst O;simpa[std,a8]using hb
    have tz:¬l0=D4:=fun h=>h0 (hl0.zero.2 h)
    refine wp_skip (wp_seq (rg O a6 [0,1,5,6] [0,5,6] [] Z fun X8 _ _ Z=>?_));replace Z:=Z.keep [0,1,5,6] [0,5,6];exact wp_exit (⟨(.go m0 p2 N2,D4),⟨by rw[hrun0];simp[C7,Rs.bind,hrun0,C7,hm2,gk,hh,tz],hp2,hn2,hR2,(by have:=hf0;have:=hle0;have:=hl2;omega),(by have:=hf0;have:=hle0;have:=hl2;omega),R5⟩,by simp[lsM],Z⟩)
   have hh:g2.has=true:=by
    have h9:(!g2.has)=false:=by subst O;exact hb
    simpa using h9
   refine wp_skip (wp_seq (rg O a6 [0,1,5,6,7,39] [0,5,6,7] [] Z fun X9 _ _ Z=>?_));refine wp_block (wp_seq (rg O a6 [44,0,1,5,6,7,39] [0,5,6,7] [] Z fun X11 _ _ Z=>?_));apply a7 Z rfl<;>intro hb Z
   .have k1:g2.x.r.kd=1:=by subst O;simpa[std,a8]using hb
    refine wp_seq (rg O a6 [6] [0,6] [] Z fun X12 _ _ Z=>?_);exact wp_ret ((rgo O a6 Z (v:=(⟨l0,g2⟩:Spt)) (q:=p2) (by simp[Rs.bind,hrun0,C7,hm2,gk,hh,k1]) hN2).1)
   have k1:¬g2.x.r.kd=1:=by subst O;simpa[std,a8]using hb
   refine wp_seq (rg O a6 [49,0,1,5,6,7,39] [0,5,6,7] [] Z fun X13 _ _ Z=>?_);apply a7 Z rfl<;>intro hb Z
   .have k2:g2.x.r.kd=2:=by subst O;simpa[std,a8]using hb
    have h0l:=r7 hl0.isl;have S14:=CX key (l0.len+1) hk;simp only[f4]at S14;have e1:IntKind.i64.wrap (l0.len+1)=l0.len+1:=o8 (by omega) (by omega);have hk9:=iP hk (l0.len+1);obtain⟨k,hk_⟩:=eqv (ofV key (l0.len+1));rw[<-hk_]at S14 hk9;obtain⟨ke,hke⟩:=eqv (ofE (l0.len+1));rw[<-hke]at S14;rw[<-e1]at S14;have O1:=S14;refine wp_seq (rg O a6 [0,1,5,6,8,9] [0,5,6,8] [(4,.r fun _=>.tup [.agg [.int .i64 k.len,.int .u64 k.bits],.int .i64 ke])] Z fun X14 _ _ Z=>?_);refine wp_seq (rg O a6 [0,1,5,6,9] [0,5,6] [] Z fun X15 _ _ Z=>?_);refine wp_seq (rg O a6 [61,0,1,5,6] [0,5,6] [] Z fun X16 _ _ Z=>?_);apply a7 Z rfl<;>intro hb Z
    .have he:¬ke=0:=by subst O;simpa[std,a8]using hb
     have h64:¬l0.len<64:=by
      have:=GZ (by rw[<-hke];exact he) (by omega);omega
     refine rg O a6 [0,1,5,6] [0,5,6] [] Z fun X17 _ _ Z=>?_
     replace Z:=Z.keep [0,1,5,6] [0,5,6];exact⟨(.go m0 p2 N2,D4),⟨by rw[hrun0];simp[C7,Rs.bind,hrun0,C7,hm2,gk,hh,k1,k2,<-hk_,h64],hp2,hn2,hR2,(by have:=hf0;have:=hle0;have:=hl2;omega),(by have:=hf0;have:=hle0;have:=hl2;omega),R5⟩,by simp[lsM],Z⟩
    have he:ke=0:=by subst O;simpa[std,a8]using hb
    have h64:l0.len<64:=by
     have:=Ha (by rw[<-hke];exact he) (by omega);omega
    replace Z:=Z.keep [0,1,5,6] [0,5,6];exact wp_skip (⟨(.go m0 p2 N2,k),⟨by rw[hrun0];simp[C7,Rs.bind,hrun0,C7,hm2,gk,hh,k1,k2,<-hk_,h64],hp2,hn2,hR2,(by have:=hf0;have:=hle0;have:=hl2;omega),(by have:=hf0;have:=hle0;have:=hl2;omega),hk9⟩,by simp[lsM],Z⟩)
   have k2:¬g2.x.r.kd=2:=by subst O;simpa[std,a8]using hb
   refine wp_seq (rg O a6 [63,0,1,5,6,7] [0,5,6,7] [] Z fun X18 _ _ Z=>?_);apply a7 Z rfl<;>intro hb Z
   .have k5:g2.x.r.kd=5:=by subst O;simpa[std,a8]using hb
    apply wp_seq
    rcases(xZ m0 0 b J hJ E hE N2 p2 hR2 hp2 hn2 l0 hl0 (by have:=hf0;have:=hle0;have:=hl2;omega)).two (E7 _ _ _ _ _) hp2 hn2 hR2 with⟨v19,p19,N19,hm19,hs19,hp19,hn19,hR19,hN19,S19⟩|⟨wq19,p19,N19,W19,hm19,hs19,hN19,hW19,S19⟩
    .have O1:=S19
     refine rg O a6 [0,1,5,6] [0,5,6] [(2,lc J E (i4) N19 p19)] Z fun X19 _ _ Z=>?_
     refine rg O a6 [0,1,5,6] [0,5,6] [] Z fun X20 _ _ Z=>?_
     replace Z:=Z.keep [0,1,5,6] [0,5,6];exact⟨(.go m0 p19 N19,D4),⟨by rw[hrun0];simp[C7,Rs.bind,hrun0,C7,hm2,gk,hh,k1,k2,k5,hm19],hp19,hn19,hR19,(by have:=hf0;have:=hle0;have:=hl2;have:=hs19.le;omega),(by have:=hf0;have:=hle0;have:=hl2;have:=hs19.le;omega),R5⟩,by simp[lsM],Z⟩
    have O1:=S19;refine rg O a6 [0,1,5,6] [0,5,6] [(2,sc J E (i4) N19 W19 p19.note)] Z fun X19 _ _ Z=>?_
    refine rg O a6 [0,1,5,6] [0,5,6] [] Z fun X20 _ _ Z=>?_
    replace Z:=Z.keep [0,1,5,6] [0,5,6];exact⟨(.sp N19 (W19 (X19 2)) p19.note,D4),⟨(X19 2),wq19,p19,by simp[Rs.bind,hrun0,C7,hm2,gk,hh,k1,k2,k5,hm19],hN19,(hW19 _),rfl⟩,by simp[lsM],Z⟩
   have k5:¬g2.x.r.kd=5:=by subst O;simpa[std,a8]using hb
   have t34:g2.x.r.kd=3 \/ g2.x.r.kd=4:=by have:=hr2.kd hh;omega
   rcases(oF m0 0 b J hJ E hE N2 p2 hR2 hp2 hn2 l0 hl0 g2 hg2 hh (by have:=hf0;have:=hle0;have:=hl2;omega)).two (F7 _ _ _ _ _ _) hp2 hn2 hR2 with⟨v10,p10,N10,hm10,hs10,hp10,hn10,hR10,hN10,S10⟩|⟨wq10,p10,N10,W10,hm10,hs10,hN10,hW10,S10⟩
   .have O1:=S10
    refine rg O a6 [0,1,5,6] [0,5,6] [(3,lc J E (i4) N10 p10)] Z fun X10 _ _ Z=>?_
    replace Z:=Z.keep [0,1,5,6] [0,5,6];exact⟨(.go m0 p10 N10,l0),⟨by rw[hrun0];simp[C7,Rs.bind,hrun0,C7,hm2,gk,hh,k1,k2,k5,t34,hm10],hp10,hn10,hR10,(by have:=hf0;have:=hle0;have:=hl2;have:=hs10.le;omega),(by have:=hf0;have:=hle0;have:=hl2;have:=hs10.le;omega),hl0⟩,by simp[lsM],Z⟩
   have O1:=S10;refine rg O a6 [0,1,5,6] [0,5,6] [(3,sc J E (i4) N10 W10 p10.note)] Z fun X10 _ _ Z=>?_
   replace Z:=Z.keep [0,1,5,6] [0,5,6];exact⟨(.sp N10 (W10 (X10 3)) p10.note,l0),⟨(X10 3),wq10,p10,by simp[Rs.bind,hrun0,C7,hm2,gk,hh,k1,k2,k5,t34,hm10],hN10,(hW10 _),rfl⟩,by simp[lsM],Z⟩
  have O1:=S2;refine rg O a6 [0,1,5,6,7] [0,5,6,7] [(2,sc J E (.agg [.int .i64 0,.int .u64 0,.bool .ff,.int .i64 0,.sl none none 0 0 2 (fun _=>[]),.int .i64 0,.int .u64 0,.int .u64 0]) N2 W2 p2.note)] Z fun X2 _ _ Z=>?_
  refine wp_seq (wp_seq (rg O a6 [21,0,1,5,6,7] [0,5,6,7] [] Z fun X3 _ _ Z=>?_));refine j1 Z rfl (fun Z=>?_);refine wp_seq (rg O a6 [6] [0,6] [] Z fun X4 _ _ Z=>?_);exact wp_ret ((rst O a6 Z (q:=p2) (wq:=wq2) (X2 2) (by simp[Rs.bind,hrun0,C7,hm2]) hN2 (hW2 _)).1)
 .exact (hJ:False).elim
 dsimp only[lsC,lsB]at hJ Z;obtain⟨X0,wq0,pp0,hsp0,hN0,hW0,ht0⟩:=hJ;subst ht0;refine wp_seq (wp_seq (rg O a6 [14,0,1,5,6] [0,5,6] [] Z fun X1 _ _ Z=>?_));refine j3 Z rfl (fun Z=>?_);refine wp_exit (wp_seq (rg O a6 [6] [0,6] [] Z fun X21 _ _ Z=>?_));exact wp_ret ((rst O a6 Z (q:=pp0) (wq:=wq0) X0 (hsp0) hN0 hW0).1)
theorem rL(k0 b:Nat)(J:i5)(hJ:j0 J)(E:s5)(hE:E.n<=1000000)(N:Nat)(p:Pst)(hR:Rel E N p)(hp:f8 p)(hn:p.n<=1000000)(key:Int)(hk:U64 key)(l:Lab)(hl:LOk l)(n:Nat)(hf:p.n<n):u2 186 k0 b J E N p [.int .u64 key,f4 l] (L6) (T4) (C7 J.bucket (J.budget-E.n) key n l p):=u2.re (Bk b J hJ E hE N p hR hp hn key hk l hl n hf) (by repeat(first|exact trivial|refine⟨zr,?_⟩))
theorem Bl(b:Nat)(J:i5)(E:s5)(hE:E.n<=1000000)(N:Nat)(q:C1)(t:Nt)(key:Int)(l:Lab):L0 186 0 b J E N q t [.int .u64 key,f4 l] (T4):=by
 intro m w hm hargs hpre;refine enX 70 hm hpre hargs Tryz.func186 fun B O a0 Z=>?_
 refine wp_seq (rg O a6 [0,1,5,6] [0,5,6] [] Z fun X0 _ _ Z=>?_);refine wp_seq (wp_block (wp_loop_rounds 2 (C0 (wp_seq (wp_seq (rg O a6 [14,0,1,5,6] [0,5,6] [] Z fun X1 _ _ Z=>?_))))));refine j3 Z rfl (fun Z=>?_);refine wp_exit (wp_seq (rg O a6 [6] [0,6] [] Z fun X21 _ _ Z=>?_));exact wp_ret ((rdd O a6 Z).1)
theorem Fs(k0 b:Nat)(J:i5)(E:s5)(hE:E.n<=1000000)(N:Nat)(q:C1)(t:Nt)(key:Int)(l:Lab):L0 186 k0 b J E N q t [.int .u64 key,f4 l] (T4):=L0.re (Bl b J E hE N q t key l) (by repeat(first|exact trivial|refine⟨zr,?_⟩))
theorem Fy(b:Nat)(J:i5)(hJ:j0 J)(E:s5)(hE:E.n<=1000000)(N:Nat)(p:Pst)(hR:Rel E N p)(hp:f8 p)(hn:p.n<=1000000)(key:Int)(hk:U64 key)(l:Lab)(hl:LOk l)(n:Nat)(hf:p.n<n):u2 137 0 b J E N p [.int .u64 key,f4 l] (L6) (T4) (C7 J.bucket (J.budget-E.n) key n l p):=by
 intro m w hm hargs hpre;have hN0:N=E.n-p.n:=by have:=hR.n;omega
 refine enX 13 hm hpre hargs Tryz.func137 fun B O a0 Z=>?_
 refine wp_seq (rg O a6 [0,1,5,6] [0,5,6] [] Z fun X0 _ _ Z=>?_);apply wp_seq
 rcases(rL 0 b J hJ E hE N p hR hp hn key hk l hl n hf).two (J5 _ _ _ _ _ _) hp hn hR with⟨s1,p1,N1,hm1,hs1,hp1,hn1,hR1,hN1,S1⟩|⟨wq1,p1,N1,W1,hm1,hs1,hN1,hW1,S1⟩
 .have O1:=S1
  refine rg O a6 [6,7] [0,6,7] [(3,lc J E (L6 s1) N1 p1)] Z fun X1 _ _ Z=>?_
  refine wp_seq (rg O a6 [6] [0,6] [] Z fun X2 _ _ Z=>?_);exact wp_ret ((rgo O a6 Z (v:=s1) (q:=p1) (by simp[Rs.bind,hm1]) hN1).1)
 have O1:=S1;refine rg O a6 [6,7] [0,6,7] [(3,sc J E (T4) N1 W1 p1.note)] Z fun X1 _ _ Z=>?_
 refine wp_seq (rg O a6 [6] [0,6] [] Z fun X2 _ _ Z=>?_);exact wp_ret ((rst O a6 Z (q:=p1) (wq:=wq1) (X1 3) (by simp[Rs.bind,hm1]) hN1 (hW1 _)).1)
theorem HD(k0 b:Nat)(J:i5)(hJ:j0 J)(E:s5)(hE:E.n<=1000000)(N:Nat)(p:Pst)(hR:Rel E N p)(hp:f8 p)(hn:p.n<=1000000)(key:Int)(hk:U64 key)(l:Lab)(hl:LOk l)(n:Nat)(hf:p.n<n):u2 137 k0 b J E N p [.int .u64 key,f4 l] (L6) (T4) (C7 J.bucket (J.budget-E.n) key n l p):=u2.re (Fy b J hJ E hE N p hR hp hn key hk l hl n hf) (by repeat(first|exact trivial|refine⟨zr,?_⟩))
def qZ(k:Int)(l:Lab)(p:Pst):Bool:=match J9 k (F8 l) p with
 | .stop .. =>true
 | .ok .. =>false
theorem xm{bk k:Int}{n:Nat}{l:Lab}{p q:Pst}{b:Bool}(h:bF bk k n l p = .ok b q)(hl:l.len=0):b=true:=by
 unfold bF at h;have:¬G2 l=0:=by
  unfold G2;rw[if_pos hl]
  split<;>decide
 rw[if_neg this]at h;injection h with h _
 exact h.symm
theorem Bj(b:Nat)(J:i5)(hJ:j0 J)(E:s5)(hE:E.n<=1000000)(N:Nat)(p:Pst)(hR:Rel E N p)(hp:f8 p)(hn:p.n<=1000000)(l:Lab)(hl:LOk l)(n:Nat)(hf:p.n<n):u2 250 0 b J E N p [f4 l] (fun b:Bool=>.bool (.v b)) (.bool (.v (qZ (J.budget-E.n) l p))) (bF J.bucket (J.budget-E.n) n l p):=by
 intro m w hm hargs hpre;have hN0:N=E.n-p.n:=by have:=hR.n;omega
 have SP:=kL l hl.u;simp only[f4]at SP;obtain⟨up,hup⟩:=eqv (F8 l);rw[<-hup]at SP;obtain⟨ue,hue⟩:=eqv (G2 l);rw[<-hue]at SP;refine enX 31 hm hpre hargs Tryz.func250 fun B O a0 Z=>?_
 refine wp_seq (rg O a6 [0,3] [0,3] [] Z fun X0 _ _ Z=>?_);have O1:=SP;refine wp_seq (rg O a6 [0,3,5,6] [0,3,5] [(1,.r fun _=>.tup [.agg [.int .i64 up.len,.int .u64 up.bits],.int .i64 ue])] Z fun X1 _ _ Z=>?_);refine wp_seq (wp_seq (rg O a6 [14,0,3,5] [0,3,5] [] Z fun X2 _ _ Z=>?_));apply a7 Z rfl<;>intro hb Z
 .have t0:¬ue=0:=by subst O;simpa[std,a8]using hb
  refine wp_seq (rg O a6 [4] [0] [] Z fun X3 _ _ Z=>?_);exact wp_ret ((rgo O a6 Z (v:=true) (q:=p) (by simp[bF,<-hup,<-hue,Rs.bind,t0]) hN0).1)
 have t0:ue=0:=by subst O;simpa[std,a8]using hb
 refine wp_skip (wp_seq ?_)
 rcases(K0 0 b J hJ E hE N p hR hp hn up).two (i7 _ _ _) hp hn hR with⟨q4,p4,N4,hm4,hs4,hp4,hn4,hR4,hN4,S4⟩|⟨wq4,p4,N4,W4,hm4,hs4,hN4,hW4,S4⟩
 .have hl4:=u5 hm4
  have hg4:=hp.get hm4;have O1:=S4;refine rg O a6 [0,3,7] [0,3,7] [(2,lc J E (u4 q4) N4 p4)] Z fun X4 _ _ Z=>?_
  obtain⟨r2,hr2⟩:=eqv (gk q4 2);obtain⟨r3,hr3⟩:=eqv (gk q4 3);obtain⟨r4,hr4⟩:=eqv (gk q4 4);refine wp_seq (wp_seq ?_);refine rg O a6 [27,0,3] [0,3] [(1,.r fun _=>.bool (.v r2)),(4,.r fun _=>.bool (.v r3)),(8,.r fun _=>.bool (.v r4))] Z (hob:=by intro X;subst O;simp only[b7,Ob.holds,BE.den]<;>and_intros<;>repeat first|trivial|rfl|exact(by rw[hr2];exact A8 q4 2)|exact by rw[hr2];exact A8 q4 2|exact(by rw[hr3];exact A8 q4 3)|exact by rw[hr3];exact A8 q4 3|exact(by rw[hr4];exact A8 q4 4)|exact by rw[hr4];exact A8 q4 4|exact(fun _ _=>by kernel_rfl)|refine⟨?_,?_⟩|intro h|exact Int.le_refl _|decide|omega) fun X5 _ _ Z=>?_
  apply a7 Z rfl<;>intro hb Z
  .have tr:(gk q4 2||gk q4 3||gk q4 4)=true:=by
    have h9:(if(if r2=true then true else r3)=true then true else r4)=true:=by subst O;exact hb
    rw[<-hr2,<-hr3,<-hr4,<-h9];cases r2<;>cases r3<;>rfl
   apply wp_seq
   rcases(xZ n 0 b J hJ E hE N4 p4 hR4 hp4 hn4 l hl (by have:=hl4;omega)).two (E7 _ _ _ _ _) hp4 hn4 hR4 with⟨v6,p6,N6,hm6,hs6,hp6,hn6,hR6,hN6,S6⟩|⟨wq6,p6,N6,W6,hm6,hs6,hN6,hW6,S6⟩
   .have O1:=S6
    refine rg O a6 [] [0] [(2,lc J E (i4) N6 p6)] Z fun X6 _ _ Z=>?_
    refine wp_seq (rg O a6 [4] [0] [] Z fun X7 _ _ Z=>?_);exact wp_ret ((rgo O a6 Z (v:=false) (q:=p6) (by simp[bF,<-hup,<-hue,Rs.bind,t0,hm4,tr,hm6]) hN6).1)
   have O1:=S6;refine rg O a6 [] [0] [(2,sc J E (i4) N6 W6 p6.note)] Z fun X6 _ _ Z=>?_
   refine wp_seq (rg O a6 [4] [0] [] Z fun X7 _ _ Z=>?_);refine wp_ret ((rst O a6 Z (q:=p6) (wq:=wq6) (X6 2) (by simp[bF,<-hup,<-hue,Rs.bind,t0,hm4,tr,hm6]) hN6 (hW6 _) (he:=?_)).1);rw[show qZ (J.budget-E.n) l p=false by unfold qZ;rw[<-hup,hm4]];subst O;exact zr
  have tr:(gk q4 2||gk q4 3||gk q4 4)=false:=by
   have h9:(if(if r2=true then true else r3)=true then true else r4)=false:=by subst O;exact hb
   rw[<-hr2,<-hr3,<-hr4,<-h9];cases r2<;>cases r3<;>rfl
  refine wp_skip (wp_seq (rg O a6 [4] [0] [] Z fun X8 _ _ Z=>?_));exact wp_ret ((rgo O a6 Z (v:=true) (q:=p4) (by simp[bF,<-hup,<-hue,Rs.bind,t0,hm4,tr]) hN4).1)
 have O1:=S4;refine rg O a6 [0,3,7] [0,3,7] [(2,sc J E (.agg [.int .i64 0,.int .u64 0,.bool .ff,.int .i64 0,.sl none none 0 0 2 (fun _=>[]),.int .i64 0,.int .u64 0,.int .u64 0]) N4 W4 p4.note)] Z fun X4 _ _ Z=>?_
 refine wp_seq (wp_seq ?_);refine rg O a6 [27,0,3] [0,3] [(1,.r fun _=>.bool .ff),(4,.r fun _=>.bool .ff),(8,.r fun _=>.bool .ff)] Z (hob:=by intro X;subst O;simp only[b7,Ob.holds,BE.den]<;>and_intros<;>repeat first|trivial|rfl|exact gd _|exact(fun _ _=>by kernel_rfl)|refine⟨?_,?_⟩|intro h|exact Int.le_refl _|decide|omega) fun X5 _ _ Z=>?_
 refine j3 Z rfl (fun Z=>?_);refine wp_skip (wp_seq (rg O a6 [4] [0] [] Z fun X8 _ _ Z=>?_));refine wp_ret ((rst O a6 Z (q:=p4) (wq:=wq4) (X4 2) (by simp[bF,<-hup,<-hue,Rs.bind,t0,hm4]) hN4 (hW4 _) (he:=?_)).1);rw[show qZ (J.budget-E.n) l p=true by unfold qZ;rw[<-hup,hm4]];subst O;exact zr
theorem Fr(k0 b:Nat)(J:i5)(hJ:j0 J)(E:s5)(hE:E.n<=1000000)(N:Nat)(p:Pst)(hR:Rel E N p)(hp:f8 p)(hn:p.n<=1000000)(l:Lab)(hl:LOk l)(n:Nat)(hf:p.n<n):u2 250 k0 b J E N p [f4 l] (fun b:Bool=>.bool (.v b)) (.bool (.v (qZ (J.budget-E.n) l p))) (bF J.bucket (J.budget-E.n) n l p):=u2.re (Bj b J hJ E hE N p hR hp hn l hl n hf) (by repeat(first|exact trivial|refine⟨zr,?_⟩))
theorem BJ(b:Nat)(J:i5)(hJ:j0 J)(E:s5)(hE:E.n<=1000000)(N:Nat)(p:Pst)(hR:Rel E N p)(hp:f8 p)(hn:p.n<=1000000)(key:Int)(hk:U64 key)(n:Nat)(hf:p.n<n):u2 187 0 b J E N p [.int .u64 key] (L6) (T4) (D5 J.bucket (J.budget-E.n) key n 0 64 p):=by
 intro m w hm hargs hpre;have hN0:N=E.n-p.n:=by have:=hR.n;omega
 refine enX 75 hm hpre hargs Tryz.func187 fun B O a0 Z=>?_
 refine wp_seq (rg O a6 [0,1,4] [0,4] [] Z fun X0 _ _ Z=>?_);refine wp_seq (rg O a6 [5,0,1,4] [0,4] [] Z fun X1 _ _ Z=>?_);refine wp_seq (rg O a6 [5,6,0,1,4] [0,4] [] Z fun X2 _ _ Z=>?_);refine wp_seq (wp_block (l4 (ι:=LSt×Int×Int) (fun q=>[(5,.int .i64 q.2.1),(6,.int .i64 q.2.2)]) (fun q=>[(0,⟨b,174,lsC J E q.1⟩)]) (fun q=>[]) (fun q=>match q.1 with| .go a r M=>D5 J.bucket (J.budget-E.n) key n 0 64 p=D5 J.bucket (J.budget-E.n) key a q.2.1 q.2.2 r/\f8 r/\r.n<=1000000/\Rel E M r/\r.n<a/\r.n<=p.n/\0<=q.2.1/\q.2.1<=65/\-1<=q.2.2/\q.2.2<=64| .dn r M=>False| .sp M Q u=>∃(X:i8) (wq:Wq) (pp:Pst),D5 J.bucket (J.budget-E.n) key n 0 64 p = .stop wq pp/\M=E.n-pp.n/\Q=wqA X wq/\u=pp.note) (fun q=>lsM q.1) (.go n p N,0,64) ⟨rfl,hp,hn,hR,(by skip;omega),(by skip;omega),(by dsimp only;omega),(by dsimp only;omega),(by dsimp only;omega),(by dsimp only;omega)⟩ Z ?_))
 rintro q hJ _ _ Z
 rcases q with⟨⟨nn0,p0,N0⟩|⟨p9,N9⟩|⟨N0,Q0,t0⟩,lo0,hi0⟩
 .dsimp only[lsC,lsB]at hJ Z
  obtain⟨hrun0,hp0,hn0,hR0,hf0,hle0,ha0,ha1,hb0,hb1⟩:=hJ;obtain⟨m0,rfl⟩:∃n2,nn0=n2+1:=⟨nn0-1,by omega⟩
  have hN0:N0=E.n-p0.n:=by have:=hR0.n;omega
  refine wp_seq (wp_seq (rg O a6 [21,0,1,4,5,6] [0,4] [] Z fun X3 _ _ Z=>?_));apply a7 Z rfl<;>intro hb Z
  .have tl:lo0<=hi0:=by subst O;simpa[std,a8,BE.den]using hb
   obtain⟨md,hmd⟩:=eqv ((lo0+hi0) / 2);have hm0:0<=md/\md<=64:=by omega
   have e3:iG .quo .i64 (o9 .add .i64 lo0 hi0) 2=md:=by
    show IntKind.i64.wrap (Int.tdiv (IntKind.i64.wrap (lo0+hi0)) 2)=md
    rw[o8 (x:=lo0+hi0) (by omega) (by omega),Int.tdiv_eq_ediv_of_nonneg (by omega),<-hmd];exact o8 (by omega) (by omega)
   have e9:o9 .add .i64 md 1=md+1:=o8 (by omega) (by omega);have e13:o9 .sub .i64 md 1=md-1:=o8 (by omega) (by omega);have S8:=CX key md hk;simp only[f4]at S8;have hk9:=iP hk md;obtain⟨k,hk8⟩:=eqv (ofV key md);rw[<-hk8]at S8 hk9;obtain⟨ke,hke⟩:=eqv (ofE md);rw[<-hke]at S8;refine wp_skip (wp_block (wp_seq (rg O a6 [7,0,1,4,5,6] [0,4] [] Z fun X4 _ _ Z=>?_)));replace Z:=Z.headS (v':=.int .i64 md) (by subst O;exact Sim.of_int e3) rfl;have O1:=S8;refine wp_seq (rg O a6 [0,1,4,5,6,7,8] [0,4,8] [(2,.r fun _=>.tup [.agg [.int .i64 k.len,.int .u64 k.bits],.int .i64 ke])] Z fun X5 _ _ Z=>?_);apply wp_seq
   rcases(K0 0 b J hJ E hE N0 p0 hR0 hp0 hn0 k).two (i7 _ _ _) hp0 hn0 hR0 with⟨g6,p6,N6,hm6,hs6,hp6,hn6,hR6,hN6,S6⟩|⟨wq6,p6,N6,W6,hm6,hs6,hN6,hW6,S6⟩
   .have hl6:=u5 hm6
    have hg6:=hp0.get hm6;have hr6:=hp0.getR hm6;have O1:=S6;refine rg O a6 [0,1,4,5,6,7,8,10] [0,4,8,10] [(2,lc J E (u4 g6) N6 p6)] Z fun X6 _ _ Z=>?_
    refine wp_seq (wp_seq (rg O a6 [38,0,1,4,5,6,7,8,10] [0,4,8,10] [] Z fun X7 _ _ Z=>?_));refine j3 Z rfl (fun Z=>?_);refine wp_skip (wp_seq (wp_seq (rg O a6 [42,0,1,4,5,6,7,8,10] [0,4,8,10] [] Z fun X9 _ _ Z=>?_)));apply a7 Z rfl<;>intro hb Z
    .have hh:g6.has=false:=by
      have h9:(!g6.has)=true:=by subst O;exact hb
      simpa using h9
     refine wp_seq (rg O a6 [0,1,4,5,6] [0,4] [] Z fun X10 _ _ Z=>?_);have e13':B.arith .sub .i64 md 1=md-1:=by subst O;exact e13
     replace Z:=Z.keep [5,6,0,1,4] [0,4];exact wp_exit (⟨(.go m0 p6 N6,lo0,(md-1)),⟨by rw[hrun0];simp[D5,Rs.bind,hrun0,D5,tl,<-hmd,<-hk8,hm6,gk,hh],hp6,hn6,hR6,(by have:=hf0;have:=hle0;have:=hl6;omega),(by have:=hf0;have:=hle0;have:=hl6;omega),(by dsimp only;omega),(by dsimp only;omega),(by dsimp only;omega),(by dsimp only;omega)⟩,by simp[lsM],by dsimp only;rw[<-e13'];exact Z⟩)
    have hh:g6.has=true:=by
     have h9:(!g6.has)=false:=by subst O;exact hb
     simpa using h9
    refine wp_skip (wp_seq (rg O a6 [0,1,4,5,6,7,8,10,47] [0,4,8,10] [] Z fun X11 _ _ Z=>?_));refine wp_block (wp_seq (rg O a6 [52,0,1,4,5,6,7,8,10,47] [0,4,8,10] [] Z fun X13 _ _ Z=>?_));apply a7 Z rfl<;>intro hb Z
    .have k1:g6.x.r.kd=1:=by subst O;simpa[std,a8]using hb
     refine wp_seq (rg O a6 [4] [0,4] [] Z fun X14 _ _ Z=>?_);exact wp_ret ((rgo O a6 Z (v:=(⟨k,g6⟩:Spt)) (q:=p6) (by simp[Rs.bind,hrun0,D5,tl,<-hmd,<-hk8,hm6,gk,hh,k1]) hN6).1)
    have k1:¬g6.x.r.kd=1:=by subst O;simpa[std,a8]using hb
    refine wp_seq (rg O a6 [57,0,1,4,5,6,7,8,10,47] [0,4,8,10] [] Z fun X15 _ _ Z=>?_);apply a7 Z rfl<;>intro hb Z
    .have k2:g6.x.r.kd=2:=by subst O;simpa[std,a8]using hb
     refine rg O a6 [5,0,1,4,6] [0,4] [] Z fun X16 _ _ Z=>?_
     have e9':B.arith .add .i64 md 1=md+1:=by subst O;exact e9
     replace Z:=Z.keep [5,6,0,1,4] [0,4];exact⟨(.go m0 p6 N6,(md+1),hi0),⟨by rw[hrun0];simp[D5,Rs.bind,hrun0,D5,tl,<-hmd,<-hk8,hm6,gk,hh,k1,k2],hp6,hn6,hR6,(by have:=hf0;have:=hle0;have:=hl6;omega),(by have:=hf0;have:=hle0;have:=hl6;omega),(by dsimp only;omega),(by dsimp only;omega),(by dsimp only;omega),(by dsimp only;omega)⟩,by simp[lsM],by dsimp only;rw[<-e9'];exact Z⟩
    have k2:¬g6.x.r.kd=2:=by subst O;simpa[std,a8]using hb
    refine wp_seq (rg O a6 [61,0,1,4,5,6,7,8,10] [0,4,8,10] [] Z fun X17 _ _ Z=>?_);apply a7 Z rfl<;>intro hb Z
    .have k5:g6.x.r.kd=5:=by subst O;simpa[std,a8]using hb
     refine wp_seq (wp_seq ?_)
     rcases(Fr 0 b J hJ E hE N6 p6 hR6 hp6 hn6 k hk9 m0 (by have:=hf0;have:=hle0;have:=hl6;omega)).two (gT _ _ _ _ _) hp6 hn6 hR6 with⟨b18,p18,N18,hm18,hs18,hp18,hn18,hR18,hN18,S18⟩|⟨wq18,p18,N18,W18,hm18,hs18,hN18,hW18,S18⟩
     .have O1:=S18
      refine rg O a6 [65,0,1,4,5,6,7] [0,4] [(2,lc J E (.bool (.v b18)) N18 p18)] Z fun X18 _ _ Z=>?_
      apply a7 Z rfl<;>intro hb Z
      .have tb:b18=true:=by exact hb
       refine rg O a6 [6,0,1,4,5,7] [0,4] [] Z fun X19 _ _ Z=>?_
       have e13':B.arith .sub .i64 md 1=md-1:=by subst O;exact e13
       refine wp_seq (rg O a6 [69,0,1,4,5,6] [0,4] [] Z fun X20 _ _ Z=>?_);apply a7 Z rfl<;>intro hb Z
       .have hz:md=0:=by subst O;simpa[std,a8]using hb
        refine rg O a6 [6,0,1,4,5] [0,4] [] Z fun X21 _ _ Z=>?_
        have hz1:md-1 = -1:=by omega
        replace Z:=Z.keep [5,6,0,1,4] [0,4];exact⟨(.go m0 p18 N18,lo0,(-1)),⟨by rw[hrun0];simp[D5,Rs.bind,hrun0,D5,tl,<-hmd,<-hk8,hm6,gk,hh,k1,k2,k5,hm18,tb,hz1],hp18,hn18,hR18,(by have:=hf0;have:=hle0;have:=hl6;have:=hs18.le;omega),(by have:=hf0;have:=hle0;have:=hl6;have:=hs18.le;omega),(by dsimp only;omega),(by dsimp only;omega),(by dsimp only;omega),(by dsimp only;omega)⟩,by simp[lsM],by exact Z⟩
       have hz:¬md=0:=by subst O;simpa[std,a8]using hb
       replace Z:=Z.keep [5,6,0,1,4] [0,4];exact wp_skip (⟨(.go m0 p18 N18,lo0,(md-1)),⟨by rw[hrun0];simp[D5,Rs.bind,hrun0,D5,tl,<-hmd,<-hk8,hm6,gk,hh,k1,k2,k5,hm18,tb],hp18,hn18,hR18,(by have:=hf0;have:=hle0;have:=hl6;have:=hs18.le;omega),(by have:=hf0;have:=hle0;have:=hl6;have:=hs18.le;omega),(by dsimp only;omega),(by dsimp only;omega),(by dsimp only;omega),(by dsimp only;omega)⟩,by simp[lsM],by dsimp only;rw[<-e13'];exact Z⟩)
      have tb:b18=false:=by exact hb
      refine wp_skip (wp_seq (rg O a6 [69,0,1,4,5,6] [0,4] [] Z fun X20 _ _ Z=>?_));apply a7 Z rfl<;>intro hb Z
      .exfalso
       have hz:md=0:=by subst O;simpa[std,a8]using hb
       have hb9:b18=true:=xm hm18 (by rw[hk8,hz];rfl);rw[tb]at hb9;cases hb9
      have hz:¬md=0:=by subst O;simpa[std,a8]using hb
      replace Z:=Z.keep [5,6,0,1,4] [0,4];exact wp_skip (⟨(.go m0 p18 N18,lo0,hi0),⟨by rw[hrun0];simp[D5,Rs.bind,hrun0,D5,tl,<-hmd,<-hk8,hm6,gk,hh,k1,k2,k5,hm18,tb],hp18,hn18,hR18,(by have:=hf0;have:=hle0;have:=hl6;have:=hs18.le;omega),(by have:=hf0;have:=hle0;have:=hl6;have:=hs18.le;omega),(by dsimp only;omega),(by dsimp only;omega),(by dsimp only;omega),(by dsimp only;omega)⟩,by simp[lsM],by exact Z⟩)
     obtain⟨bd,hbd⟩:=eqv (qZ (J.budget-E.n) k p6);rw[<-hbd]at S18;have O1:=S18;refine rg O a6 [65,0,1,4,5,6,7] [0,4] [(2,sc J E (.bool (.v bd)) N18 W18 p18.note)] Z fun X18 _ _ Z=>?_
     apply a7 Z rfl<;>intro hb Z
     .skip
      refine rg O a6 [6,0,1,4,5,7] [0,4] [] Z fun X19 _ _ Z=>?_
      have e13':B.arith .sub .i64 md 1=md-1:=by subst O;exact e13
      refine wp_seq (rg O a6 [69,0,1,4,5,6] [0,4] [] Z fun X20 _ _ Z=>?_);apply a7 Z rfl<;>intro hb Z
      .have hz:md=0:=by subst O;simpa[std,a8]using hb
       refine rg O a6 [6,0,1,4,5] [0,4] [] Z fun X21 _ _ Z=>?_
       have hz1:md-1 = -1:=by omega
       replace Z:=Z.keep [5,6,0,1,4] [0,4];exact⟨(.sp N18 (W18 (X18 2)) p18.note,lo0,(-1)),⟨(X18 2),wq18,p18,by simp[Rs.bind,hrun0,D5,tl,<-hmd,<-hk8,hm6,gk,hh,k1,k2,k5,hm18,hz1],hN18,(hW18 _),rfl⟩,by simp[lsM],by exact Z⟩
      have hz:¬md=0:=by subst O;simpa[std,a8]using hb
      replace Z:=Z.keep [5,6,0,1,4] [0,4];exact wp_skip (⟨(.sp N18 (W18 (X18 2)) p18.note,lo0,(md-1)),⟨(X18 2),wq18,p18,by simp[Rs.bind,hrun0,D5,tl,<-hmd,<-hk8,hm6,gk,hh,k1,k2,k5,hm18],hN18,(hW18 _),rfl⟩,by simp[lsM],by dsimp only;rw[<-e13'];exact Z⟩)
     skip
     refine wp_skip (wp_seq (rg O a6 [69,0,1,4,5,6] [0,4] [] Z fun X20 _ _ Z=>?_));apply a7 Z rfl<;>intro hb Z
     .have hz:md=0:=by subst O;simpa[std,a8]using hb
      refine rg O a6 [6,0,1,4,5] [0,4] [] Z fun X21 _ _ Z=>?_
      have hz1:md-1 = -1:=by omega
      replace Z:=Z.keep [5,6,0,1,4] [0,4];exact⟨(.sp N18 (W18 (X18 2)) p18.note,lo0,(-1)),⟨(X18 2),wq18,p18,by simp[Rs.bind,hrun0,D5,tl,<-hmd,<-hk8,hm6,gk,hh,k1,k2,k5,hm18,hz1],hN18,(hW18 _),rfl⟩,by simp[lsM],by exact Z⟩
     have hz:¬md=0:=by subst O;simpa[std,a8]using hb
     replace Z:=Z.keep [5,6,0,1,4] [0,4];exact wp_skip (⟨(.sp N18 (W18 (X18 2)) p18.note,lo0,hi0),⟨(X18 2),wq18,p18,by simp[Rs.bind,hrun0,D5,tl,<-hmd,<-hk8,hm6,gk,hh,k1,k2,k5,hm18],hN18,(hW18 _),rfl⟩,by simp[lsM],by exact Z⟩)
    have k5:¬g6.x.r.kd=5:=by subst O;simpa[std,a8]using hb
    have t34:g6.x.r.kd=3 \/ g6.x.r.kd=4:=by have:=hr6.kd hh;omega
    rcases(oF m0 0 b J hJ E hE N6 p6 hR6 hp6 hn6 k hk9 g6 hg6 hh (by have:=hf0;have:=hle0;have:=hl6;omega)).two (F7 _ _ _ _ _ _) hp6 hn6 hR6 with⟨v12,p12,N12,hm12,hs12,hp12,hn12,hR12,hN12,S12⟩|⟨wq12,p12,N12,W12,hm12,hs12,hN12,hW12,S12⟩
    .have O1:=S12
     refine rg O a6 [0,1,4,5,6] [0,4] [(3,lc J E (i4) N12 p12)] Z fun X12 _ _ Z=>?_
     replace Z:=Z.keep [5,6,0,1,4] [0,4];exact⟨(.go m0 p12 N12,lo0,hi0),⟨by rw[hrun0];simp[D5,Rs.bind,hrun0,D5,tl,<-hmd,<-hk8,hm6,gk,hh,k1,k2,k5,t34,hm12],hp12,hn12,hR12,(by have:=hf0;have:=hle0;have:=hl6;have:=hs12.le;omega),(by have:=hf0;have:=hle0;have:=hl6;have:=hs12.le;omega),(by dsimp only;omega),(by dsimp only;omega),(by dsimp only;omega),(by dsimp only;omega)⟩,by simp[lsM],by exact Z⟩
    have O1:=S12;refine rg O a6 [0,1,4,5,6] [0,4] [(3,sc J E (i4) N12 W12 p12.note)] Z fun X12 _ _ Z=>?_
    replace Z:=Z.keep [5,6,0,1,4] [0,4];exact⟨(.sp N12 (W12 (X12 3)) p12.note,lo0,hi0),⟨(X12 3),wq12,p12,by simp[Rs.bind,hrun0,D5,tl,<-hmd,<-hk8,hm6,gk,hh,k1,k2,k5,t34,hm12],hN12,(hW12 _),rfl⟩,by simp[lsM],by exact Z⟩
   have O1:=S6;refine rg O a6 [0,1,4,5,6,7,8,10] [0,4,8,10] [(2,sc J E (.agg [.int .i64 0,.int .u64 0,.bool .ff,.int .i64 0,.sl none none 0 0 2 (fun _=>[]),.int .i64 0,.int .u64 0,.int .u64 0]) N6 W6 p6.note)] Z fun X6 _ _ Z=>?_
   refine wp_seq (wp_seq (rg O a6 [38,0,1,4,5,6,7,8,10] [0,4,8,10] [] Z fun X7 _ _ Z=>?_));refine j1 Z rfl (fun Z=>?_);refine wp_seq (rg O a6 [4] [0,4] [] Z fun X8 _ _ Z=>?_);exact wp_ret ((rst O a6 Z (q:=p6) (wq:=wq6) (X6 2) (by simp[Rs.bind,hrun0,D5,tl,<-hmd,<-hk8,hm6]) hN6 (hW6 _)).1)
  have tl:¬lo0<=hi0:=by subst O;simpa[std,a8,BE.den]using hb
  refine wp_exit (wp_seq ?_)
  rcases(rL 0 b J hJ E hE N0 p0 hR0 hp0 hn0 key hk D4 R5 (m0+1) hf0).two (J5 _ _ _ _ _ _) hp0 hn0 hR0 with⟨s22,p22,N22,hm22,hs22,hp22,hn22,hR22,hN22,S22⟩|⟨wq22,p22,N22,W22,hm22,hs22,hN22,hW22,S22⟩
  .have O1:=S22
   refine rg O a6 [4,11] [0,4,11] [(3,lc J E (L6 s22) N22 p22)] Z fun X22 _ _ Z=>?_
   refine wp_seq (rg O a6 [4] [0,4] [] Z fun X23 _ _ Z=>?_);exact wp_ret ((rgo O a6 Z (v:=s22) (q:=p22) (by simp[Rs.bind,hrun0,D5,tl,hm22]) hN22).1)
  have O1:=S22;refine rg O a6 [4,11] [0,4,11] [(3,sc J E (T4) N22 W22 p22.note)] Z fun X22 _ _ Z=>?_
  refine wp_seq (rg O a6 [4] [0,4] [] Z fun X23 _ _ Z=>?_);exact wp_ret ((rst O a6 Z (q:=p22) (wq:=wq22) (X22 3) (by simp[Rs.bind,hrun0,D5,tl,hm22]) hN22 (hW22 _)).1)
 .exact (hJ:False).elim
 dsimp only[lsC,lsB]at hJ Z;obtain⟨X0,wq0,pp0,hsp0,hN0,hW0,ht0⟩:=hJ;subst ht0;refine wp_seq (wp_seq (rg O a6 [21,0,1,4,5,6] [0,4] [] Z fun X3 _ _ Z=>?_));apply a7 Z rfl<;>intro hb Z
 .exfalso
  subst O;revert hb;simp[std,BE.den]
 skip
 have O1:=Fs 0 b J E hE N0 Q0 pp0.note key D4;refine wp_exit (wp_seq (rg O a6 [4,11] [0,4,11] [(3,dc J E (T4) N0 Q0 pp0.note)] Z fun X22 _ _ Z=>?_));refine wp_seq (rg O a6 [4] [0,4] [] Z fun X23 _ _ Z=>?_);exact wp_ret ((rst O a6 Z (q:=pp0) (wq:=wq0) X0 (hsp0) hN0 hW0).1)
theorem FE(k0 b:Nat)(J:i5)(hJ:j0 J)(E:s5)(hE:E.n<=1000000)(N:Nat)(p:Pst)(hR:Rel E N p)(hp:f8 p)(hn:p.n<=1000000)(key:Int)(hk:U64 key)(n:Nat)(hf:p.n<n):u2 187 k0 b J E N p [.int .u64 key] (L6) (T4) (D5 J.bucket (J.budget-E.n) key n 0 64 p):=u2.re (BJ b J hJ E hE N p hR hp hn key hk n hf) (by repeat(first|exact trivial|refine⟨zr,?_⟩))
theorem Be(b:Nat)(J:i5)(hJ:j0 J)(E:s5)(hE:E.n<=1000000)(N:Nat)(p:Pst)(hR:Rel E N p)(hp:f8 p)(hn:p.n<=1000000)(key:Int)(hk:U64 key)(n:Nat)(hf:p.n<n)(hh:J.how=1):u2 125 0 b J E N p [.int .u64 key] (L6) (T4) (C7 J.bucket (J.budget-E.n) key n D4 p):=by
 intro m w hm hargs hpre;have hN0:N=E.n-p.n:=by have:=hR.n;omega
 refine enX 22 hm hpre hargs Tryz.func125 fun B O a0 Z=>?_
 refine wp_seq (rg O a6 [0,1,4] [0,4] [] Z fun X0 _ _ Z=>?_);refine wp_seq (wp_seq (rg O a6 [12,0,1,4] [0,4] [] Z fun X1 _ _ Z=>?_));apply a7 Z rfl<;>intro hb Z
 .skip
  apply wp_seq
  rcases(rL 0 b J hJ E hE N p hR hp hn key hk D4 R5 n hf).two (J5 _ _ _ _ _ _) hp hn hR with⟨s2,p2,N2,hm2,hs2,hp2,hn2,hR2,hN2,S2⟩|⟨wq2,p2,N2,W2,hm2,hs2,hN2,hW2,S2⟩
  .have O1:=S2
   refine rg O a6 [4,5] [0,4,5] [(3,lc J E (L6 s2) N2 p2)] Z fun X2 _ _ Z=>?_
   refine wp_seq (rg O a6 [4] [0,4] [] Z fun X3 _ _ Z=>?_);exact wp_ret ((rgo O a6 Z (v:=s2) (q:=p2) (by simp[Rs.bind,hm2]) hN2).1)
  have O1:=S2;refine rg O a6 [4,5] [0,4,5] [(3,sc J E (T4) N2 W2 p2.note)] Z fun X2 _ _ Z=>?_
  refine wp_seq (rg O a6 [4] [0,4] [] Z fun X3 _ _ Z=>?_);exact wp_ret ((rst O a6 Z (q:=p2) (wq:=wq2) (X2 3) (by simp[Rs.bind,hm2]) hN2 (hW2 _)).1)
 exfalso
 have hc:¬J.how=1:=by subst O;simpa[std,a8]using hb
 exact hc hh
theorem Fj(k0 b:Nat)(J:i5)(hJ:j0 J)(E:s5)(hE:E.n<=1000000)(N:Nat)(p:Pst)(hR:Rel E N p)(hp:f8 p)(hn:p.n<=1000000)(key:Int)(hk:U64 key)(n:Nat)(hf:p.n<n)(hh:J.how=1):u2 125 k0 b J E N p [.int .u64 key] (L6) (T4) (C7 J.bucket (J.budget-E.n) key n D4 p):=u2.re (Be b J hJ E hE N p hR hp hn key hk n hf hh) (by repeat(first|exact trivial|refine⟨zr,?_⟩))
theorem Bd(b:Nat)(J:i5)(hJ:j0 J)(E:s5)(hE:E.n<=1000000)(N:Nat)(p:Pst)(hR:Rel E N p)(hp:f8 p)(hn:p.n<=1000000)(key:Int)(hk:U64 key)(n:Nat)(hf:p.n<n)(hh:¬J.how=1):u2 125 0 b J E N p [.int .u64 key] (L6) (T4) (D5 J.bucket (J.budget-E.n) key n 0 64 p):=by
 intro m w hm hargs hpre;have hN0:N=E.n-p.n:=by have:=hR.n;omega
 refine enX 22 hm hpre hargs Tryz.func125 fun B O a0 Z=>?_
 refine wp_seq (rg O a6 [0,1,4] [0,4] [] Z fun X0 _ _ Z=>?_);refine wp_seq (wp_seq (rg O a6 [12,0,1,4] [0,4] [] Z fun X1 _ _ Z=>?_));apply a7 Z rfl<;>intro hb Z
 .exfalso
  have hc:J.how=1:=by subst O;simpa[std,a8]using hb
  exact hh hc
 skip
 refine wp_skip (wp_seq ?_)
 rcases(FE 0 b J hJ E hE N p hR hp hn key hk n hf).two (cw _ _ _ _ _ _ _) hp hn hR with⟨s2,p2,N2,hm2,hs2,hp2,hn2,hR2,hN2,S2⟩|⟨wq2,p2,N2,W2,hm2,hs2,hN2,hW2,S2⟩
 .have O1:=S2
  refine rg O a6 [4,6] [0,4,6] [(2,lc J E (L6 s2) N2 p2)] Z fun X4 _ _ Z=>?_
  refine wp_seq (rg O a6 [4] [0,4] [] Z fun X5 _ _ Z=>?_);exact wp_ret ((rgo O a6 Z (v:=s2) (q:=p2) (by simp[Rs.bind,hm2]) hN2).1)
 have O1:=S2;refine rg O a6 [4,6] [0,4,6] [(2,sc J E (T4) N2 W2 p2.note)] Z fun X4 _ _ Z=>?_
 refine wp_seq (rg O a6 [4] [0,4] [] Z fun X5 _ _ Z=>?_);exact wp_ret ((rst O a6 Z (q:=p2) (wq:=wq2) (X4 2) (by simp[Rs.bind,hm2]) hN2 (hW2 _)).1)
theorem Fi(k0 b:Nat)(J:i5)(hJ:j0 J)(E:s5)(hE:E.n<=1000000)(N:Nat)(p:Pst)(hR:Rel E N p)(hp:f8 p)(hn:p.n<=1000000)(key:Int)(hk:U64 key)(n:Nat)(hf:p.n<n)(hh:¬J.how=1):u2 125 k0 b J E N p [.int .u64 key] (L6) (T4) (D5 J.bucket (J.budget-E.n) key n 0 64 p):=u2.re (Bd b J hJ E hE N p hR hp hn key hk n hf hh) (by repeat(first|exact trivial|refine⟨zr,?_⟩))
theorem ya(k0 b:Nat)(J:i5)(hJ:j0 J)(E:s5)(hE:E.n<=1000000)(N:Nat)(p:Pst)(hR:Rel E N p)(hp:f8 p)(hn:p.n<=1000000)(key:Int)(hk:U64 key)(n:Nat)(hf:p.n<n):u2 125 k0 b J E N p [.int .u64 key] L6 T4 (dR J.bucket (J.budget-E.n) J.how key n p):=by
 unfold dR
 by_cases hh:J.how=1
 .rw [if_pos hh];exact Fj k0 b J hJ E hE N p hR hp hn key hk n hf hh
 rw[if_neg hh];exact Fi k0 b J hJ E hE N p hR hp hn key hk n hf hh
theorem mP{g:r9}{a t:Int}{r:Bool}(h:(if(!gk g 1)=true then true else decide (a+(g.x.r.n:Int)>t))=r):(gk g 1=true/\a+(g.x.r.n:Int)<=t)=(r=false):=by
 rw[<-h]
 cases gk g 1
 .simp
 by_cases h9:a+(g.x.r.n:Int)<=t
 .simp [h9,Int.not_lt.2 h9]
 simp[h9,Int.not_le.1 h9]
theorem BF(k0 b:Nat)(J:i5)(hJ:j0 J)(E:s5)(hE:E.n<=1000000)(N:Nat)(p:Pst)(hR:Rel E N p)(hp:f8 p)(hn:p.n<=1000000)(l:Lab)(v:Int):u2 140 k0 b J E N p [f4 l,.int .u64 v,.agg [.int .i64 4,.sl none none 0 0 2 (fun _=>[]),.int .i64 (-1),.int .u64 0,.int .u64 0]] (fun d=>.bool (.v d)) (.bool .ff) (N8 (J.budget-E.n) l v fR p):=
 u2.re (bN 0 b J hJ E hE N p hR hp hn l v cA) ⟨zr,zr,Sim.agg ⟨zr,I9,zr,zr,zr,trivial⟩,trivial⟩
theorem Bt(k0 b:Nat)(J:i5)(hJ:j0 J)(E:s5)(hE:E.n<=1000000)(N:Nat)(p:Pst)(hR:Rel E N p)(hp:f8 p)(hn:p.n<=1000000)(l:Lab)(hl:LOk l)(g:r9)(n:Nat)(hf:p.n<n):u2 141 k0 b J E N p [f4 l,.agg [.int .i64 0,.int .u64 (IntKind.u64.wrap (g.ver+1)),.bool .tt,.int .i64 4,.sl none none 0 0 2 (fun _=>[]),.int .i64 (-1),.int .u64 0,.int .u64 0]] (fun _=>i4) i4 (R3 J.bucket (J.budget-E.n) n l (upG g cA) p):=
 u2.re (oF n 0 b J hJ E hE N p hR hp hn l hl (upG g cA) (kP.up g) rfl hf) ⟨zr,Sim.agg ⟨zr,zr,Sim.tt,zr,I9,zr,zr,zr,trivial⟩,trivial⟩
theorem Bu(k0 b:Nat)(J:i5)(hJ:j0 J)(E:s5)(hE:E.n<=1000000)(N:Nat)(p:Pst)(hR:Rel E N p)(hp:f8 p)(hn:p.n<=1000000)(l:Lab)(hl:LOk l)(g:r9)(x:RA)(hx:K8 x)(n:Nat)(hf:p.n<n):u2 141 k0 b J E N p [f4 l,.agg (.int .i64 0 :: .int .u64 (IntKind.u64.wrap (g.ver+1)) :: .bool .tt::fo x)] (fun _=>i4) i4 (R3 J.bucket (J.budget-E.n) n l (upG g x) p):=
 u2.re (oF n 0 b J hJ E hE N p hR hp hn l hl (upG g x) (hx.up g) rfl hf) ⟨zr,Sim.agg ⟨zr,zr,Sim.tt,zr,zr,zr,zr,zr,trivial⟩,trivial⟩
theorem Bf(b:Nat)(J:i5)(hJ:j0 J)(E:s5)(hE:E.n<=1000000)(N:Nat)(p:Pst)(hR:Rel E N p)(hp:f8 p)(hn:p.n<=1000000)(hbk:0<=J.bucket/\J.bucket<=16)(l:Lab)(hl:LOk l)(n:Nat)(hf:p.n<n):u2 143 0 b J E N p [f4 l] (fun _=>i4) (i4) (P4 J.bucket (J.budget-E.n) n l p):=by
 intro m w hm hargs hpre;have hN0:N=E.n-p.n:=by have:=hR.n;omega
 have SN:=eS;simp only[f4,B7]at SN;refine enX 114 hm hpre hargs Tryz.func143 fun B O a0 Z=>?_
 refine wp_seq (rg O a6 [0,3] [0,3] [] Z fun X0 _ _ Z=>?_);refine wp_block (l4 (ι:=LSt×Lab) (fun q=>[]) (fun q=>[(0,⟨b,174,lsC J E q.1⟩),(3,⟨(X0 0).b,24,[.int .i64 q.2.len,.int .u64 q.2.bits]⟩)]) (fun q=>[]) (fun q=>match q.1 with| .go a r M=>P4 J.bucket (J.budget-E.n) n l p=P4 J.bucket (J.budget-E.n) a q.2 r/\f8 r/\r.n<=1000000/\Rel E M r/\r.n<a/\r.n<=p.n/\LOk q.2| .dn r M=>False| .sp M Q u=>∃(X:i8) (wq:Wq) (pp:Pst),P4 J.bucket (J.budget-E.n) n l p = .stop wq pp/\M=E.n-pp.n/\Q=wqA X wq/\u=pp.note) (fun q=>lsM q.1) (.go n p N,l) ⟨rfl,hp,hn,hR,(by skip;omega),(by skip;omega),hl⟩ Z ?_)
 rintro q hJ _ _ Z
 rcases q with⟨⟨nn0,p0,N0⟩|⟨p9,N9⟩|⟨N0,Q0,t0⟩,l0⟩
 .dsimp only[lsC,lsB]at hJ Z
  obtain⟨hrun0,hp0,hn0,hR0,hf0,hle0,hl0⟩:=hJ;obtain⟨m0,rfl⟩:∃n2,nn0=n2+1:=⟨nn0-1,by omega⟩
  have hN0:N0=E.n-p0.n:=by have:=hR0.n;omega
  have SP:=kL l0 hl0.u;have hpar:=hl0.par;have SS:=DX l0 hl0;simp only[f4]at SP SS;obtain⟨up,hup⟩:=eqv (F8 l0);rw[<-hup]at SP hpar;obtain⟨ue,hue⟩:=eqv (G2 l0);rw[<-hue]at SP SS;obtain⟨sb,hsb⟩:=eqv (cE l0);rw[<-hsb]at SS;refine wp_seq (wp_seq (rg O a6 [17,0,3] [0,3] [] Z fun X1 _ _ Z=>?_));refine j1 Z rfl (fun Z=>?_);have O1:=SP;refine wp_skip (wp_block (wp_seq (rg O a6 [0,3,4,5] [0,3,4] [(1,.r fun _=>.tup [.agg [.int .i64 up.len,.int .u64 up.bits],.int .i64 ue])] Z fun X2 _ _ Z=>?_)));refine wp_seq (wp_seq (rg O a6 [24,0,3,4] [0,3,4] [] Z fun X3 _ _ Z=>?_));apply a7 Z rfl<;>intro hb Z
  .have t0:¬ue=0:=by subst O;simpa[std,a8]using hb
   exact wp_ret ((rgo O a6 Z (v:=()) (q:=p0) (by simp[Rs.bind,hrun0,P4,<-hup,<-hue,<-hsb,t0]) hN0).1)
  have t0:ue=0:=by subst O;simpa[std,a8]using hb
  refine wp_skip (wp_seq ?_)
  rcases(K0 0 b J hJ E hE N0 p0 hR0 hp0 hn0 up).two (i7 _ _ _) hp0 hn0 hR0 with⟨g4,p4,N4,hm4,hs4,hp4,hn4,hR4,hN4,S4⟩|⟨wq4,p4,N4,W4,hm4,hs4,hN4,hW4,S4⟩
  .have hl4:=u5 hm4
   have hg4:=hp0.get hm4;have O1:=S4;refine rg O a6 [0,3,4,6] [0,3,4,6] [(2,lc J E (u4 g4) N4 p4)] Z fun X4 _ _ Z=>?_
   obtain⟨q5,hq5⟩:=eqv (gk g4 2);refine wp_seq (wp_seq ?_);refine rg O a6 [36,0,3,4,6] [0,3,4,6] [(6,.r fun _=>.bool (.v q5))] Z (hob:=by intro X;subst O;simp only[b7,Ob.holds,BE.den]<;>and_intros<;>repeat first|trivial|rfl|exact(by rw[hq5];exact A8 g4 2)|exact by rw[hq5];exact A8 g4 2|exact(fun _ _=>by kernel_rfl)|refine⟨?_,?_⟩|intro h|exact Int.le_refl _|decide|omega) fun X5 _ _ Z=>?_
   apply a7 Z rfl<;>intro hb Z
   .have tq5:gk g4 2=false:=by subst O;rw[<-hq5];revert hb;cases q5<;>simp[std]
    exact wp_ret ((rgo O a6 Z (v:=()) (q:=p4) (by simp[Rs.bind,hrun0,P4,<-hup,<-hue,<-hsb,t0,hm4,tq5]) hN4).1)
   have tq5:gk g4 2=true:=by subst O;rw[<-hq5];revert hb;cases q5<;>simp[std]
   have O1:=SS;refine wp_skip (wp_seq (rg O a6 [0,3,4,6,7] [0,3,4,6,7] [(1,.r fun _=>.tup [.agg [.int .i64 sb.len,.int .u64 sb.bits],.int .i64 ue])] Z fun X6 _ _ Z=>?_));apply wp_seq
   rcases(K0 0 b J hJ E hE N4 p4 hR4 hp4 hn4 sb).two (i7 _ _ _) hp4 hn4 hR4 with⟨g7,p7,N7,hm7,hs7,hp7,hn7,hR7,hN7,S7⟩|⟨wq7,p7,N7,W7,hm7,hs7,hN7,hW7,S7⟩
   .have hl7:=u5 hm7
    have hg7:=hp4.get hm7;have O1:=S7;refine rg O a6 [0,3,4,6,9] [0,3,4,6,9] [(2,lc J E (u4 g7) N7 p7)] Z fun X7 _ _ Z=>?_
    obtain⟨q8,hq8⟩:=eqv (gk g7 1);refine wp_seq (wp_seq ?_);refine rg O a6 [53,0,3,4,6,9] [0,3,4,6,9] [(6,.r fun _=>.bool (.v q8))] Z (hob:=by intro X;subst O;simp only[b7,Ob.holds,BE.den]<;>and_intros<;>repeat first|trivial|rfl|exact(by rw[hq8];exact A8 g7 1)|exact by rw[hq8];exact A8 g7 1|exact(fun _ _=>by kernel_rfl)|refine⟨?_,?_⟩|intro h|exact Int.le_refl _|decide|omega) fun X8 _ _ Z=>?_
    apply a7 Z rfl<;>intro hb Z
    .have tq8:gk g7 1=false:=by subst O;rw[<-hq8];revert hb;cases q8<;>simp[std]
     exact wp_ret ((rgo O a6 Z (v:=()) (q:=p7) (by simp[Rs.bind,hrun0,P4,<-hup,<-hue,<-hsb,t0,hm4,tq5,hm7,tq8]) hN7).1)
    have tq8:gk g7 1=true:=by subst O;rw[<-hq8];revert hb;cases q8<;>simp[std]
    refine wp_skip (wp_seq ?_)
    rcases(K0 0 b J hJ E hE N7 p7 hR7 hp7 hn7 l0).two (i7 _ _ _) hp7 hn7 hR7 with⟨g9,p9,N9,hm9,hs9,hp9,hn9,hR9,hN9,S9⟩|⟨wq9,p9,N9,W9,hm9,hs9,hN9,hW9,S9⟩
    .have hl9:=u5 hm9
     have hg9:=hp7.get hm9;have O1:=S9;refine rg O a6 [0,3,4,6,9,10] [0,3,4,6,9,10] [(2,lc J E (u4 g9) N9 p9)] Z fun X9 _ _ Z=>?_
     obtain⟨q10,hq10⟩:=eqv (gk g9 1);refine wp_seq (wp_seq ?_);refine drg O a6 [83,0,3,4,6] [0,3,4,6] [(6,.r fun _=>.bool (.v q10))] Z (hob:=by intro X;subst O;simp only[b7,Ob.holds,BE.den]<;>and_intros<;>repeat first|trivial|rfl|exact(by rw[hq10];exact A8 g9 1)|exact by rw[hq10];exact A8 g9 1|exact(fun _ _=>by kernel_rfl)|refine⟨?_,?_⟩|intro h|exact Int.le_refl _|decide|omega) fun X10 _ _ Z=>?_
     apply a7 Z rfl<;>intro hb Z
     .have f2:=hg7.ra.few
      have f3:=hg9.ra.few;have e1:IntKind.i64.wrap ((g7.x.r.n:Int)+(g9.x.r.n:Int))=(g7.x.r.n:Int)+g9.x.r.n:=o8 (by omega) (by omega);have e2:IntKind.i64.wrap (Int.tdiv J.bucket 2)=Int.tdiv J.bucket 2:=by
       rw[Int.tdiv_eq_ediv_of_nonneg hbk.1];exact o8 (by omega) (by omega)
      have t3:=mP (g:=g9) (a:=(g7.x.r.n:Int)) (t:=Int.tdiv J.bucket 2) (r:=true) (by
       have h9:(if(!q10)=true then true else decide (IntKind.i64.wrap ((g7.x.r.n:Int)+(g9.x.r.n:Int))>IntKind.i64.wrap (Int.tdiv J.bucket 2)))=true:=by subst O;exact hb
       rw[e1,e2,hq10]at h9;exact h9)
      exact wp_ret ((rgo O a6 Z (v:=()) (q:=p9) (by simp[Rs.bind,hrun0,P4,<-hup,<-hue,<-hsb,t0,hm4,tq5,hm7,tq8,hm9,t3]) hN9).1)
     have f2:=hg7.ra.few;have f3:=hg9.ra.few;have e1:IntKind.i64.wrap ((g7.x.r.n:Int)+(g9.x.r.n:Int))=(g7.x.r.n:Int)+g9.x.r.n:=o8 (by omega) (by omega);have e2:IntKind.i64.wrap (Int.tdiv J.bucket 2)=Int.tdiv J.bucket 2:=by
      rw[Int.tdiv_eq_ediv_of_nonneg hbk.1];exact o8 (by omega) (by omega)
     have t3:=mP (g:=g9) (a:=(g7.x.r.n:Int)) (t:=Int.tdiv J.bucket 2) (r:=false) (by
      have h9:(if(!q10)=true then true else decide (IntKind.i64.wrap ((g7.x.r.n:Int)+(g9.x.r.n:Int))>IntKind.i64.wrap (Int.tdiv J.bucket 2)))=false:=by subst O;exact hb
      rw[e1,e2,hq10]at h9;exact h9)
     have O1:=SN;refine wp_skip (wp_seq (rg O a6 [0,3,4,6,11] [0,3,4,6,11] [(0,.r fun _=>.agg [.int .i64 (-1),.int .u64 0])] Z fun X11 _ _ Z=>?_));refine wp_seq (wp_seq ?_)
     rcases(BF 0 b J hJ E hE N9 p9 hR9 hp9 hn9 up g4.ver).two (l5 _ _ _ _ _) hp9 hn9 hR9 with⟨d12,p12,N12,hm12,hs12,hp12,hn12,hR12,hN12,S12⟩|⟨wq12,p12,N12,W12,hm12,hs12,hN12,hW12,S12⟩
     .have hl12:=cz hm12
      have O1:=S12;refine rg O a6 [92,0,3,4,6,11] [0,3,4,6,11] [(5,lc J E (.bool (.v d12)) N12 p12)] Z fun X12 _ _ Z=>?_
      apply a7 Z rfl<;>intro hb Z
      .have td:d12=false:=by subst O;revert hb;cases d12<;>simp[std]
       exact wp_ret ((rgo O a6 Z (v:=()) (q:=p12) (by simp[Rs.bind,hrun0,P4,<-hup,<-hue,<-hsb,t0,hm4,tq5,hm7,tq8,hm9,t3,hm12,td]) hN12).1)
      have td:d12=true:=by subst O;revert hb;cases d12<;>simp[std]
      refine wp_skip (wp_seq ?_)
      rcases(Bt 0 b J hJ E hE N12 p12 hR12 hp12 hn12 up hpar g4 m0 (by have:=hf0;have:=hle0;have:=hl4;have:=hl7;have:=hl9;have:=hl12;omega)).two (F7 _ _ _ _ _ _) hp12 hn12 hR12 with⟨v13,p13,N13,hm13,hs13,hp13,hn13,hR13,hN13,S13⟩|⟨wq13,p13,N13,W13,hm13,hs13,hN13,hW13,S13⟩
      .have O1:=S13
       refine rg O a6 [0,3,4] [0,3,4] [(7,lc J E (i4) N13 p13)] Z fun X13 _ _ Z=>?_
       apply wp_seq
       rcases(K0 0 b J hJ E hE N13 p13 hR13 hp13 hn13 up).two (i7 _ _ _) hp13 hn13 hR13 with⟨g14,p14,N14,hm14,hs14,hp14,hn14,hR14,hN14,S14⟩|⟨wq14,p14,N14,W14,hm14,hs14,hN14,hW14,S14⟩
       .have hl14:=u5 hm14
        have hg14:=hp13.get hm14;have O1:=S14;refine rg O a6 [0,3,4,12] [0,3,4,12] [(2,lc J E (u4 g14) N14 p14)] Z fun X14 _ _ Z=>?_
        obtain⟨q15,hq15⟩:=eqv (gk g14 1);refine wp_seq (wp_seq ?_);refine rg O a6 [112,0,3,4] [0,3,4] [(6,.r fun _=>.bool (.v q15))] Z (hob:=by intro X;subst O;simp only[b7,Ob.holds,BE.den]<;>and_intros<;>repeat first|trivial|rfl|exact(by rw[hq15];exact A8 g14 1)|exact by rw[hq15];exact A8 g14 1|exact(fun _ _=>by kernel_rfl)|refine⟨?_,?_⟩|intro h|exact Int.le_refl _|decide|omega) fun X15 _ _ Z=>?_
        apply a7 Z rfl<;>intro hb Z
        .have tq15:gk g14 1=false:=by subst O;rw[<-hq15];revert hb;cases q15<;>simp[std]
         exact wp_ret ((rgo O a6 Z (v:=()) (q:=p14) (by simp[Rs.bind,hrun0,P4,<-hup,<-hue,<-hsb,t0,hm4,tq5,hm7,tq8,hm9,t3,hm12,td,hm13,hm14,tq15]) hN14).1)
        have tq15:gk g14 1=true:=by subst O;rw[<-hq15];revert hb;cases q15<;>simp[std]
        refine wp_skip (rg O a6 [0,3] [0,3] [] Z fun X16 _ _ Z=>?_);replace Z:=Z.keep [0,3] [0,3];exact⟨(.go m0 p14 N14,up),⟨by rw[hrun0];simp[P4,Rs.bind,hrun0,P4,<-hup,<-hue,<-hsb,t0,hm4,tq5,hm7,tq8,hm9,t3,hm12,td,hm13,hm14,tq15],hp14,hn14,hR14,(by have:=hf0;have:=hle0;have:=hl4;have:=hl7;have:=hl9;have:=hl12;have:=hs13.le;have:=hl14;omega),(by have:=hf0;have:=hle0;have:=hl4;have:=hl7;have:=hl9;have:=hl12;have:=hs13.le;have:=hl14;omega),hpar⟩,by simp[lsM],Z⟩
       have O1:=S14;refine rg O a6 [0,3,4,12] [0,3,4,12] [(2,sc J E (.agg [.int .i64 0,.int .u64 0,.bool .ff,.int .i64 0,.sl none none 0 0 2 (fun _=>[]),.int .i64 0,.int .u64 0,.int .u64 0]) N14 W14 p14.note)] Z fun X14 _ _ Z=>?_
       refine wp_seq (wp_seq (rg O a6 [112,0,3,4] [0,3,4] [] Z fun X15 _ _ Z=>?_));refine j1 Z rfl (fun Z=>?_);exact wp_ret ((rst O a6 Z (q:=p14) (wq:=wq14) (X14 2) (by simp[Rs.bind,hrun0,P4,<-hup,<-hue,<-hsb,t0,hm4,tq5,hm7,tq8,hm9,t3,hm12,td,hm13,hm14]) hN14 (hW14 _)).1)
      have O1:=S13;refine rg O a6 [0,3,4] [0,3,4] [(7,sc J E (i4) N13 W13 p13.note)] Z fun X13 _ _ Z=>?_
      have O1:=ge 0 b J E hE N13 (W13 (X13 7)) p13.note up;refine wp_seq (rg O a6 [0,3,4,12] [0,3,4,12] [(2,dc J E (.agg [.int .i64 0,.int .u64 0,.bool .ff,.int .i64 0,.sl none none 0 0 2 (fun _=>[]),.int .i64 0,.int .u64 0,.int .u64 0]) N13 (W13 (X13 7)) p13.note)] Z fun X14 _ _ Z=>?_);refine wp_seq (wp_seq (rg O a6 [112,0,3,4] [0,3,4] [] Z fun X15 _ _ Z=>?_));refine j1 Z rfl (fun Z=>?_);exact wp_ret ((rst O a6 Z (q:=p13) (wq:=wq13) (X13 7) (by simp[Rs.bind,hrun0,P4,<-hup,<-hue,<-hsb,t0,hm4,tq5,hm7,tq8,hm9,t3,hm12,td,hm13]) hN13 (hW13 _)).1)
     have O1:=S12;refine rg O a6 [92,0,3,4,6,11] [0,3,4,6,11] [(5,sc J E (.bool .ff) N12 W12 p12.note)] Z fun X12 _ _ Z=>?_
     refine j1 Z rfl (fun Z=>?_);exact wp_ret ((rst O a6 Z (q:=p12) (wq:=wq12) (X12 5) (by simp[Rs.bind,hrun0,P4,<-hup,<-hue,<-hsb,t0,hm4,tq5,hm7,tq8,hm9,t3,hm12]) hN12 (hW12 _)).1)
    have O1:=S9;refine rg O a6 [0,3,4,6,9,10] [0,3,4,6,9,10] [(2,sc J E (.agg [.int .i64 0,.int .u64 0,.bool .ff,.int .i64 0,.sl none none 0 0 2 (fun _=>[]),.int .i64 0,.int .u64 0,.int .u64 0]) N9 W9 p9.note)] Z fun X9 _ _ Z=>?_
    refine wp_seq (wp_seq (drg O a6 [83,0,3,4,6] [0,3,4,6] [] Z fun X10 _ _ Z=>?_));refine j1 Z rfl (fun Z=>?_);exact wp_ret ((rst O a6 Z (q:=p9) (wq:=wq9) (X9 2) (by simp[Rs.bind,hrun0,P4,<-hup,<-hue,<-hsb,t0,hm4,tq5,hm7,tq8,hm9]) hN9 (hW9 _)).1)
   have O1:=S7;refine rg O a6 [0,3,4,6,9] [0,3,4,6,9] [(2,sc J E (.agg [.int .i64 0,.int .u64 0,.bool .ff,.int .i64 0,.sl none none 0 0 2 (fun _=>[]),.int .i64 0,.int .u64 0,.int .u64 0]) N7 W7 p7.note)] Z fun X7 _ _ Z=>?_
   refine wp_seq (wp_seq (rg O a6 [53,0,3,4,6,9] [0,3,4,6,9] [] Z fun X8 _ _ Z=>?_));refine j1 Z rfl (fun Z=>?_);exact wp_ret ((rst O a6 Z (q:=p7) (wq:=wq7) (X7 2) (by simp[Rs.bind,hrun0,P4,<-hup,<-hue,<-hsb,t0,hm4,tq5,hm7]) hN7 (hW7 _)).1)
  have O1:=S4;refine rg O a6 [0,3,4,6] [0,3,4,6] [(2,sc J E (.agg [.int .i64 0,.int .u64 0,.bool .ff,.int .i64 0,.sl none none 0 0 2 (fun _=>[]),.int .i64 0,.int .u64 0,.int .u64 0]) N4 W4 p4.note)] Z fun X4 _ _ Z=>?_
  refine wp_seq (wp_seq (rg O a6 [36,0,3,4,6] [0,3,4,6] [] Z fun X5 _ _ Z=>?_));refine j1 Z rfl (fun Z=>?_);exact wp_ret ((rst O a6 Z (q:=p4) (wq:=wq4) (X4 2) (by simp[Rs.bind,hrun0,P4,<-hup,<-hue,<-hsb,t0,hm4]) hN4 (hW4 _)).1)
 .exact (hJ:False).elim
 dsimp only[lsC,lsB]at hJ Z;obtain⟨X0,wq0,pp0,hsp0,hN0,hW0,ht0⟩:=hJ;subst ht0;refine wp_seq (wp_seq (rg O a6 [17,0,3] [0,3] [] Z fun X1 _ _ Z=>?_));refine j3 Z rfl (fun Z=>?_);exact wp_exit ((rst O a6 Z (q:=pp0) (wq:=wq0) X0 (hsp0) hN0 hW0).2)
theorem Fk(k0 b:Nat)(J:i5)(hJ:j0 J)(E:s5)(hE:E.n<=1000000)(N:Nat)(p:Pst)(hR:Rel E N p)(hp:f8 p)(hn:p.n<=1000000)(hbk:0<=J.bucket/\J.bucket<=16)(l:Lab)(hl:LOk l)(n:Nat)(hf:p.n<n):u2 143 k0 b J E N p [f4 l] (fun _=>i4) (i4) (P4 J.bucket (J.budget-E.n) n l p):=u2.re (Bf b J hJ E hE N p hR hp hn hbk l hl n hf) (by repeat(first|exact trivial|refine⟨zr,?_⟩))
def Nte{α : Type}(p:Pst)(r:Rs α):Prop:=match r with
 | .ok _ q=>q.note=p.note
 | .stop _ q=>q.note=p.note
theorem Nte.bind{α β : Type}{p:Pst}{m:Rs α}{f:α->Pst->Rs β}(h:Nte p m)(hf:∀a q,Nte p (Rs.ok a q:Rs α)->Nte q (f a q)):Nte p (m.bind f):=by
 cases m with
 |ok a q=>
  have h1:=hf a q h;have h2:q.note=p.note:=h
  show Nte p (f a q)
  cases hr:f a q with
  |ok b r=>rw[hr]at h1;exact Eq.trans h1 h2
  |stop w r=>rw[hr]at h1;exact Eq.trans h1 h2
 |stop w q=>exact h
theorem oc(k:Int)(w:Wq)(p:Pst):Nte p (U0 k w p):=by
 unfold U0
 split
 .rename_i h;exact rfl
 exact rfl
theorem A6{α : Type}(a:α)(p:Pst):Nte p (Rs.ok a p):=rfl
theorem et{α : Type}(w:Wq)(p:Pst):Nte p (Rs.stop w p:Rs α):=rfl
theorem v8{α : Type}{p:Pst}{c:Prop} [Decidable c]{x y:Rs α}(hx:Nte p x)(hy:Nte p y):Nte p (if c then x else y):=by split<;>assumption
theorem U3(k:Int)(l:Lab)(p:Pst):Nte p (J9 k l p):=oc _ _ _
theorem dp(k:Int)(l:Lab)(v:Int)(r:Rec)(p:Pst):Nte p (N8 k l v r p):=(oc _ _ _).bind fun _ _ _=>A6 _ _
theorem Ag(k:Int)(l:Lab)(v:Int)(p:Pst):Nte p (ie k l v p):=(oc _ _ _).bind fun _ _ _=>A6 _ _
theorem kZ(k:Int)(l:Lab)(v:Int)(c:Lab)(x:Rec):∀n p,Nte p (z7 k l v c x n p)
 |0,p=>et _ _
 |n+1,p=>(U3 _ _ _).bind fun _ _ _=>v8 (A6 _ _) ((U3 _ _ _).bind fun _ _ _=>v8 ((dp _ _ _ _ _).bind fun _ _ _=>v8 (A6 _ _) (kZ k l v c x n _)) (A6 _ _))
theorem uB(k:Int)(n:Nat)(l:Lab)(v:Int)(x:RA)(p:Pst):Nte p (u3 k n l v x p):=
 v8 ((kZ _ _ _ _ _ _ _).bind fun _ _ _=>v8 ((kZ _ _ _ _ _ _ _).bind fun _ _ _=>v8 ((dp _ _ _ _ _).bind fun _ _ _=>A6 _ _) (A6 _ _)) (A6 _ _)) (A6 _ _)
theorem nY(k:Int)(l:Lab)(v:Int)(c:Lab):∀n p,Nte p (M8 k l v c n p)
 |0,p=>et _ _
 |n+1,p=>(U3 _ _ _).bind fun _ _ _=>v8 (v8 (A6 _ _) ((U3 _ _ _).bind fun _ _ _=>v8 ((dp _ _ _ _ _).bind fun _ _ _=>v8 (A6 _ _) (nY k l v c n _)) (A6 _ _))) (A6 _ _)
theorem pK(k:Int)(l:Lab)(cl:Lab->Pst->Rs Unit)(h:∀c p,Nte p (cl c p))(c:Lab)(p:Pst):Nte p (I0 k l cl c p):=
 (U3 _ _ _).bind fun _ _ _=>v8 ((h _ _).bind fun _ _ _=>(U3 _ _ _).bind fun _ _ _=>v8 ((Ag _ _ _ _).bind fun _ _ _=>A6 _ _) (A6 _ _)) (A6 _ _)
theorem nZ(k:Int):∀n l p,Nte p (E5 k n l p)
 |0,l,p=>et _ _
 |n+1,l,p=>v8 (A6 _ _) ((pK _ _ _ (nZ k n) _ _).bind fun _ _ _=>v8 ((pK _ _ _ (nZ k n) _ _).bind fun _ _ _=>A6 _ _) (A6 _ _))
theorem oa(k:Int)(th:Lab->Pst->Rs Unit)(h:∀c p,Nte p (th c p))(l:Lab)(v:Int)(p:Pst):Nte p (aS k th l v p):=
 (dp _ _ _ _ _).bind fun _ _ _=>v8 ((h _ _).bind fun _ _ _=>h _ _) (A6 _ _)
theorem Ae(bk k:Int)(n:Nat)(th:Lab->Pst->Rs Unit)(h:∀c p,Nte p (th c p))(l:Lab)(v:Int)(p:Pst):Nte p (L9 bk k n th l v p):=
 (nY _ _ _ _ _ _).bind fun a _ _=>match a with
  | .over=>A6 _ _
  | .unfit=>oa _ _ h _ _ _
  | .fr a=>(nY _ _ _ _ _ _).bind fun b _ _=>match b with
   | .over=>A6 _ _
   | .unfit=>oa _ _ h _ _ _
   | .fr b=>v8 ((dp _ _ _ _ _).bind fun _ _ _=>v8 (nZ _ _ _ _) (A6 _ _)) (oa _ _ h _ _ _)
theorem sG(bk k:Int)(n:Nat)(th:Lab->Pst->Rs Unit)(h:∀c p,Nte p (th c p))(l:Lab)(g:r9)(p:Pst):Nte p (dT bk k n th l g p):=
 v8 (uB _ _ _ _ _ _) (v8 (Ae _ _ _ _ h _ _ _) (A6 _ _))
theorem kY(bk k:Int):∀n l up p,Nte p (de bk k n l up p)
 |0,l,up,p=>et _ _
 |n+1,l,up,p=>(U3 _ _ _).bind fun _ _ _=>v8 ((U3 _ _ _).bind fun _ _ _=>(v8 (sG _ _ _ _ (fun c p=>v8 (kY bk k n _ _ _) (A6 _ _)) _ _ _) (A6 _ _)).bind fun _ _ _=>v8 ((dp _ _ _ _ _).bind fun _ _ _=>v8 (A6 _ _) (kY bk k n _ _ _)) (A6 _ _)) (A6 _ _)
theorem Ad(bk k:Int)(n:Nat)(l:Lab)(p:Pst):Nte p (I6 bk k n l p):=v8 (kY _ _ _ _ _ _) (A6 _ _)
theorem Af(bk k:Int)(n:Nat)(l:Lab)(g:r9)(p:Pst):Nte p (R3 bk k n l g p):=sG _ _ _ _ (Ad _ _ _) _ _ _
theorem sF(bk k:Int):∀n l p,Nte p (P4 bk k n l p)
 |0,l,p=>et _ _
 |n+1,l,p=>v8 ((U3 _ _ _).bind fun _ _ _=>v8 ((U3 _ _ _).bind fun _ _ _=>v8 ((U3 _ _ _).bind fun _ _ _=>v8 ((dp _ _ _ _ _).bind fun _ _ _=>v8 ((Af _ _ _ _ _ _).bind fun _ _ _=>(U3 _ _ _).bind fun _ _ _=>v8 (sF bk k n _ _) (A6 _ _)) (A6 _ _)) (A6 _ _)) (A6 _ _)) (A6 _ _)) (A6 _ _)
theorem Nte.of{α : Type}{p q:Pst}{m:Rs α}{a:α}(h:Nte p m)(e:m = .ok a q):q.note=p.note:=by rw[e]at h;exact h
def aO(a:Rsl):Wq:=⟨4,⟨0,0⟩,0,i9,a⟩
def G3{α : Type}(a:Rsl)(p:Pst):Rs α:=.stop (aO a) p
abbrev X00:i8:=⟨0,fun _=>none,fun _=>0,fun _=>.empty⟩
theorem yM(c:Int)(h:Bool)(v:ByteArray)(k:Int)(m:Bool):wqA X00 (aO ⟨c,h,v,[],k,m⟩)=⟨4,⟨0,0⟩,0,zRA,⟨c,h,v,none,0,0,fun _=>C5,k,m⟩⟩:=rfl
theorem zX(k0 b:Nat)(J:i5)(E:s5)(hE:E.n<=1000000)(N:Nat)(q:C1)(t:Nt)(c:Int)(h:Bool)(v:ByteArray):u9 Tryz.prog 59 [.ptr k0 b 0,.agg [.int .i64 c,.bool (.v h),.str v,.sl none none 0 0 2 (fun _=>[]),.int .u64 0,.bool .ff]] [(k0,⟨b,174,R8 J E N t⟩)] (fun _=>⟨i4,[(k0,D9 J E N (wqA X00 (aO ⟨c,h,v,[],0,false⟩)) t)],[]⟩):=
 u9.re (wH k0 b J E hE N ⟨0,⟨0,0⟩,0,zRA,fC⟩ t ⟨c,h,v,none,0,0,fun _=>C5,0,false⟩) ⟨zr,Sim.agg ⟨zr,zr,zr,zq0,zr,Sim.ff,trivial⟩,trivial⟩ rfl fun _=>⟨by rw[yM],rfl,zr,rfl⟩
theorem DS(x:RA)(h:K8 x)(key:Int)(val:ByteArray):k7 Tryz.prog 139 [C6 x,.int .u64 key,.str val] (fun y=>.tup [C6 ⟨y.A 0,y.c 0,(wA x key val).1.rn⟩,.int .i64 (wA x key val).2]):=by
 have hf:=h.few;exact zx x.A x.r.n x.c x.r.f (by omega) x.r.kd x.r.nx x.r.mrk h.nx key val
theorem DT(x:RA)(h:K8 x)(key:Int):k7 Tryz.prog 142 [C6 x,.int .u64 key] (fun y=>.tup [C6 ⟨y.A 0,y.c 0,(oA x key).1.rn⟩,.bool (.v (oA x key).2)]):=by
 have hf:=h.few;exact zw x.A x.r.n x.c x.r.f (by omega) x.r.kd x.r.nx x.r.mrk h.nx key
def uQ(bk k how key:Int)(bl:Lab)(n:Nat)(p:Pst):Rs Spt:=if bl.len<0 then dR bk k how key n p else C7 bk k key n bl p
def fW(bk k how key:Int)(val:ByteArray)(n:Nat)(bl:Lab)(p:Pst):Rs Unit:=(uQ bk k how key bl n p).bind fun x p=>(M7 bk k how key val n x p).bind G3
theorem Rs.as{α β γ : Type}(m:Rs α)(f:α->Pst->Rs β)(g:β->Pst->Rs γ):(m.bind f).bind g=m.bind fun a p=>(f a p).bind g:=by cases m<;>rfl
theorem iW(bk k how key:Int)(val:ByteArray)(n:Nat)(p:Pst):fW bk k how key val n B7 p=((dR bk k how key n p).bind fun x p=>M7 bk k how key val n x p).bind G3:=by
 rw[Rs.as];rfl
theorem xw(bk k how key:Int)(val:ByteArray)(n:Nat){l:Lab}(hl:LOk l)(p:Pst):fW bk k how key val n l p=((C7 bk k key n l p).bind fun x p=>M7 bk k how key val n x p).bind G3:=by
 have:=(r7 hl.isl).1;rw[Rs.as];unfold fW uQ;rw[if_neg (by omega)]
abbrev HT:List AV:=[.int .i64 0,.int .u64 0,.int .i64 0,.int .u64 0,.bool .ff,.int .i64 0,.sl none none 0 0 2 (fun _=>[]),.int .i64 0,.int .u64 0,.int .u64 0]
abbrev spL(q:LSt)(x:Spt):List AV:=match q with
 | .go .. =>[.int .i64 x.lab.len,.int .u64 x.lab.bits,.int .i64 x.g.code,.int .u64 x.g.ver,.bool (.v x.g.has),.int .i64 x.g.x.r.kd,.sl none x.g.x.A x.g.x.r.n x.g.x.c 2 (fun i=>itC (x.g.x.r.f i)),.int .i64 x.g.x.r.nx.len,.int .u64 x.g.x.r.nx.bits,.int .u64 x.g.x.r.mrk]
 |_=>HT
theorem Bn(b:Nat)(J:i5)(hJ:j0 J)(E:s5)(hE:E.n<=1000000)(N:Nat)(p:Pst)(hR:Rel E N p)(hp:f8 p)(hn:p.n<=1000000)(hv:64<J.val.size):u2 74 0 b J E N p [] (fun _=>i4) (i4) ((Rs.stop (aO ⟨2,false,⟨#[]⟩,[],0,false⟩) p:Rs Unit)):=by
 intro m w hm hargs hpre;have hN0:N=E.n-p.n:=by have:=hR.n;omega
 have SN:=eS;simp only[f4,B7]at SN;refine enX 127 hm hpre hargs Tryz.func74 fun B O a0 Z=>?_
 refine wp_seq (wp_seq (rg O a6 [16,0] [0] [] Z fun X0 _ _ Z=>?_));apply a7 Z rfl<;>intro hb Z
 .skip
  refine rg O a6 [0] [0] [(2,.x fun _=>⟨i4,[(0,D9 J E N (wqA X00 (aO ⟨2,false,⟨#[]⟩,[],0,false⟩)) p.note)],[]⟩)] Z (hob:=by intro X;subst O;simp only[b7,Ob.holds,BE.den]<;>and_intros<;>repeat first|trivial|rfl|exact u9.re (zX 0 b J E hE N ⟨0,⟨0,0⟩,0,zRA,fC⟩ p.note 2 false ⟨#[]⟩) ⟨zr,Sim.agg ⟨zr,Sim.ff,zr,zr,zr,zr,trivial⟩,trivial⟩ rfl fun _=>⟨rfl,rfl,zr,rfl⟩|exact(fun _ _=>by kernel_rfl)|refine⟨?_,?_⟩|intro h|exact Int.le_refl _|decide|omega) fun X1 _ _ Z=>?_
  have O1:=SN;refine wp_seq (rg O a6 [0,2] [0,2] [(0,.r fun _=>.agg [.int .i64 (-1),.int .u64 0])] Z fun X2 _ _ Z=>?_);refine wp_block (wp_loop_rounds 2 (C0 (wp_seq (wp_seq (rg O a6 [25,0,2] [0,2] [] Z fun X3 _ _ Z=>?_)))));refine j3 Z rfl (fun Z=>?_);exact wp_exit ((rst O a6 Z (q:=p) (wq:=(aO ⟨2,false,⟨#[]⟩,[],0,false⟩)) X00 (by simp[Rs.bind]) hN0 rfl).2)
 exfalso
 have hv9:¬64<J.val.size:=by
  have:¬(64:Int)<(J.val.size:Int):=by subst O;simpa[std,a8]using hb
  omega
 exact hv9 hv
theorem Fw(k0 b:Nat)(J:i5)(hJ:j0 J)(E:s5)(hE:E.n<=1000000)(N:Nat)(p:Pst)(hR:Rel E N p)(hp:f8 p)(hn:p.n<=1000000)(hv:64<J.val.size):u2 74 k0 b J E N p [] (fun _=>i4) (i4) ((Rs.stop (aO ⟨2,false,⟨#[]⟩,[],0,false⟩) p:Rs Unit)):=u2.re (Bn b J hJ E hE N p hR hp hn hv) (by repeat(first|exact trivial|refine⟨zr,?_⟩))
theorem Bm(b:Nat)(J:i5)(hJ:j0 J)(E:s5)(hE:E.n<=1000000)(N:Nat)(p:Pst)(hR:Rel E N p)(hp:f8 p)(hn:p.n<=1000000)(hv:¬64<J.val.size)(n:Nat)(hf:p.n<n):u2 74 0 b J E N p [] (fun _=>i4) (i4) (fW J.bucket (J.budget-E.n) J.how J.key J.val n B7 p):=by
 intro m w hm hargs hpre;have hN0:N=E.n-p.n:=by have:=hR.n;omega
 have SN:=eS;simp only[f4,B7]at SN;refine enX 127 hm hpre hargs Tryz.func74 fun B O a0 Z=>?_
 refine wp_seq (wp_seq (rg O a6 [16,0] [0] [] Z fun X0 _ _ Z=>?_));apply a7 Z rfl<;>intro hb Z
 .exfalso
  have hv9:64<J.val.size:=by
   have:(64:Int)<(J.val.size:Int):=by subst O;simpa[std,a8]using hb
   omega
  exact hv hv9
 skip
 have O1:=SN;refine wp_skip (wp_seq (rg O a6 [0,2] [0,2] [(0,.r fun _=>.agg [.int .i64 (-1),.int .u64 0])] Z fun X2 _ _ Z=>?_));refine wp_block (l4 (ι:=LSt×Lab) (fun q=>[]) (fun q=>[(0,⟨b,174,lsC J E q.1⟩),(2,⟨(X2 1).b,24,[.int .i64 q.2.len,.int .u64 q.2.bits]⟩)]) (fun q=>[]) (fun q=>match q.1 with| .go a r M=>fW J.bucket (J.budget-E.n) J.how J.key J.val n B7 p=fW J.bucket (J.budget-E.n) J.how J.key J.val a q.2 r/\f8 r/\r.n<=1000000/\Rel E M r/\r.n<a/\r.n<=p.n/\(¬q.2.len<0->LOk q.2)| .dn r M=>False| .sp M Q u=>∃(X:i8) (wq:Wq) (pp:Pst),fW J.bucket (J.budget-E.n) J.how J.key J.val n B7 p = .stop wq pp/\M=E.n-pp.n/\Q=wqA X wq/\u=pp.note) (fun q=>lsM q.1) (.go n p N,B7) ⟨rfl,hp,hn,hR,(by skip;omega),(by skip;omega),fun h=>absurd (show(-1:Int)<0 by decide) h⟩ Z ?_)
 rintro q hJ _ _ Z
 rcases q with⟨⟨nn0,p0,N0⟩|⟨p9,N9⟩|⟨N0,Q0,t0⟩,l0⟩
 .dsimp only[lsC,lsB]at hJ Z
  obtain⟨hrun0,hp0,hn0,hR0,hf0,hle0,hl0⟩:=hJ;obtain⟨m0,rfl⟩:∃n2,nn0=n2+1:=⟨nn0-1,by omega⟩
  have hN0:N0=E.n-p0.n:=by have:=hR0.n;omega
  refine wp_seq (wp_seq (rg O a6 [25,0,2] [0,2] [] Z fun X3 _ _ Z=>?_));refine j1 Z rfl (fun Z=>?_);refine wp_skip (wp_block (wp_seq (rg O a6 [0,2,3] [0,2,3] [] Z fun X4 _ _ Z=>?_)));refine wp_seq (wp_seq (rg O a6 [28,0,2,3] [0,3,2] [] Z fun X5 _ _ Z=>?_));refine oH (ι:=LSt×Spt) (S0:=[(28,_)]) (M0:=[(0,_),(3,_)]) (G0:=[]) (fun q=>[]) (fun q=>[(0,⟨b,174,lsC J E q.1⟩),(3,⟨(X4 0).b,177,spL q.1 q.2⟩)]) (fun q=>[]) (fun q=>match q.1 with| .go a r M=>a=m0+1/\fW J.bucket (J.budget-E.n) J.how J.key J.val n B7 p=(M7 J.bucket (J.budget-E.n) J.how J.key J.val a q.2 r).bind G3/\f8 r/\r.n<=1000000/\Rel E M r/\r.n<a/\r.n<=p.n/\jC q.2| .dn r M=>False| .sp M Q u=>∃(X:i8) (wq:Wq) (pp:Pst),fW J.bucket (J.budget-E.n) J.how J.key J.val n B7 p = .stop wq pp/\M=E.n-pp.n/\Q=wqA X wq/\u=pp.note) Z ?_ ?_
  .apply a7 Z rfl<;>intro hb Z
   .have tb:l0.len<0:=by subst O;simpa[std,a8]using hb
    rcases(ya 0 b J hJ E hE N0 p0 hR0 hp0 hn0 J.key hJ.key (m0+1) (by have:=hf0;have:=hle0;omega)).two (R2 _ _ _ _ _ _) hp0 hn0 hR0 with⟨s6,p6,N6,hm6,hs6,hp6,hn6,hR6,hN6,S6⟩|⟨wq6,p6,N6,W6,hm6,hs6,hN6,hW6,S6⟩
    .have hx6:=dg hJ.key hp0 hm6
     have O1:=S6;refine rg O a6 [0,2,3] [0,2,3] [(6,lc J E (L6 s6) N6 p6)] Z fun X6 _ _ Z=>?_
     replace Z:=Z.keep [0,2,3] [0,3,2];exact⟨(.go (m0+1) p6 N6,s6),⟨rfl,by rw[hrun0];simp[fW,uQ,tb,Rs.bind,hm6],hp6,hn6,hR6,(by have:=hf0;have:=hle0;have:=hs6.le;omega),(by have:=hf0;have:=hle0;have:=hs6.le;omega),hx6⟩,Z⟩
    have O1:=S6;refine rg O a6 [0,2,3] [0,2,3] [(6,sc J E (T4) N6 W6 p6.note)] Z fun X6 _ _ Z=>?_
    replace Z:=Z.keep [0,2,3] [0,3,2];exact⟨(.sp N6 (W6 (X6 6)) p6.note,⟨l0,oZ⟩),⟨(X6 6),wq6,p6,(by rw[hrun0];simp[fW,uQ,tb,Rs.bind,hm6]),hN6,(hW6 _),rfl⟩,Z⟩
   have tb:¬l0.len<0:=by subst O;simpa[std,a8]using hb
   have hl0:=hl0 tb
   rcases(HD 0 b J hJ E hE N0 p0 hR0 hp0 hn0 J.key hJ.key l0 hl0 (m0+1) (by have:=hf0;have:=hle0;omega)).two (J5 _ _ _ _ _ _) hp0 hn0 hR0 with⟨s7,p7,N7,hm7,hs7,hp7,hn7,hR7,hN7,S7⟩|⟨wq7,p7,N7,W7,hm7,hs7,hN7,hW7,S7⟩
   .have hx7:=cB hJ.key hp0 ⟨hl0.isl,hl0.u⟩ hm7
    have O1:=S7;refine drg O a6 [0,2,3] [0,2,3] [(7,lc J E (L6 s7) N7 p7)] Z fun X7 _ _ Z=>?_
    replace Z:=Z.keep [0,2,3] [0,3,2];exact⟨(.go (m0+1) p7 N7,s7),⟨rfl,by rw[hrun0];simp[fW,uQ,tb,Rs.bind,hm7],hp7,hn7,hR7,(by have:=hf0;have:=hle0;have:=hs7.le;omega),(by have:=hf0;have:=hle0;have:=hs7.le;omega),hx7⟩,Z⟩
   have O1:=S7;refine drg O a6 [0,2,3] [0,2,3] [(7,sc J E (T4) N7 W7 p7.note)] Z fun X7 _ _ Z=>?_
   replace Z:=Z.keep [0,2,3] [0,3,2];exact⟨(.sp N7 (W7 (X7 7)) p7.note,⟨l0,oZ⟩),⟨(X7 7),wq7,p7,(by rw[hrun0];simp[fW,uQ,tb,Rs.bind,hm7]),hN7,(hW7 _),rfl⟩,Z⟩
  rintro q hJ _ _ Z
  rcases q with⟨⟨nn1,p1,N1⟩|⟨p9,N9⟩|⟨N1,Q1,t1⟩,x1⟩
  .dsimp only[lsC,lsB,spL]at hJ Z
   obtain⟨hnn1,hrun1,hp1,hn1,hR1,hf1,hle1,hx1⟩:=hJ;subst hnn1;have hN1:N1=E.n-p1.n:=by have:=hR1.n;omega
   have O1:=SN;refine wp_seq (rg O a6 [0,2,3] [0,2,3] [(0,.r fun _=>.agg [.int .i64 (-1),.int .u64 0])] Z fun X8 _ _ Z=>?_);refine wp_seq (wp_seq (rg O a6 [48,0,2,3] [0,2,3] [] Z fun X9 _ _ Z=>?_));refine j3 Z rfl (fun Z=>?_);refine wp_skip (wp_seq (rg O a6 [0,2,3,4] [0,2,3,4] [] Z fun X10 _ _ Z=>?_));have SF:=so x1.g.x hx1.ok.ra J.key;obtain⟨fv,hfv⟩:=eqv (lA x1.g.x J.key);rw[<-hfv]at SF;obtain⟨fb,hfb⟩:=eqv (lB x1.g.x J.key);rw[<-hfb]at SF;have O1:=SF;refine wp_seq (drg O a6 [0,2,3,4,5,6] [0,2,3,4] [(6,.r fun _=>.tup [.str fv,.bool (.v fb)])] Z fun X11 _ _ Z=>?_);refine wp_seq (wp_seq (drg O a6 [73,0,2,3,4,5,6] [0,2,3,4] [] Z fun X12 _ _ Z=>?_));apply a7 Z rfl<;>intro hb Z
   .have tc:fb=true \/ (x1.g.x.r.n:Int)<J.bucket:=by
     have h9:(if fb=true then true else decide ((x1.g.x.r.n:Int)<J.bucket))=true:=by subst O;exact hb
     revert h9;cases fb<;>simp
    have SW:=DS x1.g.x hx1.ok.ra J.key J.val;obtain⟨r1,hr1⟩:=eqv ((wA x1.g.x J.key J.val).1.rn);rw[<-hr1]at SW;obtain⟨e1,he1⟩:=eqv ((wA x1.g.x J.key J.val).2);rw[<-he1]at SW;have ha1:r1.abs=(wA x1.g.x J.key J.val).1:=by rw[hr1];exact U7 _
    have O1:=SW;refine wp_seq (drg O a6 [0,2,3,5,6,7] [0,2,3,7] [(11,.r fun y=>.tup [.agg [.int .i64 r1.kd,.sl none (y.A 0) r1.n (y.c 0) 2 (fun i=>itC (r1.f i)),.int .i64 r1.nx.len,.int .u64 r1.nx.bits,.int .u64 r1.mrk],.int .i64 e1])] Z fun X13 _ _ Z=>?_);refine wp_seq (wp_seq ?_)
    rcases(bN 0 b J hJ E hE N1 p1 hR1 hp1 hn1 x1.lab x1.g.ver ⟨(X13 11).A 0,(X13 11).c 0,r1⟩).two (l5 _ _ _ _ _) hp1 hn1 hR1 with⟨d14,p14,N14,hm14,hs14,hp14,hn14,hR14,hN14,S14⟩|⟨wq14,p14,N14,W14,hm14,hs14,hN14,hW14,S14⟩
    .have hl14:=cz hm14
     have O1:=S14;refine rg O a6 [96,0,2,5,6] [0,2] [(7,lc J E (.bool (.v d14)) N14 p14)] Z fun X14 _ _ Z=>?_
     apply a7 Z rfl<;>intro hb Z
     .have td:d14=true:=by exact hb
      have O1:=zX 0 b J E hE N14 ⟨0,⟨0,0⟩,0,zRA,fC⟩ p14.note 0 fb fv;refine rg O a6 [0,2] [0,2] [(4,.x fun _=>⟨i4,[(0,D9 J E N14 (wqA X00 (aO ⟨0,fb,fv,[],0,false⟩)) p14.note)],[]⟩)] Z fun X15 _ _ Z=>?_
      replace Z:=Z.keep [0,2] [0,2];exact wp_exit (⟨(.sp N14 (wqA X00 (aO ⟨0,fb,fv,[],0,false⟩)) p14.note,B7),⟨X00,(aO ⟨0,fb,fv,[],0,false⟩),p14,by simp[Rs.bind,hrun1,M7,G3,<-hfv,<-hfb,tc,<-ha1,hm14,td],hN14,rfl,rfl⟩,by simp[lsM],Z⟩)
     have td:d14=false:=by exact hb
     replace Z:=Z.keep [0,2] [0,2];exact wp_skip (wp_exit (⟨(.go m0 p14 N14,B7),⟨by rw[hrun1,iW _ _ _ _ _ m0];simp[M7,Rs.bind,hrun1,M7,G3,<-hfv,<-hfb,tc,<-ha1,hm14,td],hp14,hn14,hR14,(by have:=hf1;have:=hle1;have:=hl14;omega),(by have:=hf1;have:=hle1;have:=hl14;omega),fun h=>absurd (show(-1:Int)<0 by decide) h⟩,by simp[lsM],Z⟩))
    have O1:=S14;refine rg O a6 [96,0,2,5,6] [0,2] [(7,sc J E (.bool .ff) N14 W14 p14.note)] Z fun X14 _ _ Z=>?_
    refine j3 Z rfl (fun Z=>?_);replace Z:=Z.keep [0,2] [0,2];exact wp_skip (wp_exit (⟨(.sp N14 (W14 (X14 7)) p14.note,B7),⟨(X14 7),wq14,p14,by simp[Rs.bind,hrun1,M7,G3,<-hfv,<-hfb,tc,<-ha1,hm14],hN14,(hW14 _),rfl⟩,by simp[lsM],Z⟩))
   have tc:¬(fb=true \/ (x1.g.x.r.n:Int)<J.bucket):=by
    have h9:(if fb=true then true else decide ((x1.g.x.r.n:Int)<J.bucket))=false:=by subst O;exact hb
    revert h9;cases fb<;>simp
   refine wp_skip (wp_seq (rg O a6 [0,2,3,9] [0,2,3,9] [] Z fun X16 _ _ Z=>?_));apply wp_seq
   rcases(bN 0 b J hJ E hE N1 p1 hR1 hp1 hn1 x1.lab x1.g.ver (asR 3 x1.g.x 0)).two (l5 _ _ _ _ _) hp1 hn1 hR1 with⟨d17,p17,N17,hm17,hs17,hp17,hn17,hR17,hN17,S17⟩|⟨wq17,p17,N17,W17,hm17,hs17,hN17,hW17,S17⟩
   .have hl17:=cz hm17
    have O1:=S17;refine rg O a6 [114,0,2,3,9] [0,2,3,9] [(7,lc J E (.bool (.v d17)) N17 p17)] Z fun X17 _ _ Z=>?_
    apply a7 Z rfl<;>intro hb Z
    .have te:d17=true:=by exact hb
     apply wp_seq
     rcases(Bu 0 b J hJ E hE N17 p17 hR17 hp17 hn17 x1.lab hx1.lab2 x1.g (asR 3 x1.g.x 0) (hx1.ok.ra.as 3 0) m0 (by have:=hf1;have:=hle1;have:=hl17;omega)).two (F7 _ _ _ _ _ _) hp17 hn17 hR17 with⟨v18,p18,N18,hm18,hs18,hp18,hn18,hR18,hN18,S18⟩|⟨wq18,p18,N18,W18,hm18,hs18,hN18,hW18,S18⟩
     .have O1:=S18
      refine rg O a6 [0,2,3] [0,2,3] [(9,lc J E (i4) N18 p18)] Z fun X18 _ _ Z=>?_
      refine rg O a6 [0,2] [0,2] [] Z fun X19 _ _ Z=>?_
      replace Z:=Z.keep [0,2] [0,2];exact⟨(.go m0 p18 N18,x1.lab),⟨by rw[hrun1,xw _ _ _ _ _ m0 hx1.lab2];simp[M7,Rs.bind,hrun1,M7,G3,<-hfv,<-hfb,tc,hm17,te,hm18],hp18,hn18,hR18,(by have:=hf1;have:=hle1;have:=hl17;have:=hs18.le;omega),(by have:=hf1;have:=hle1;have:=hl17;have:=hs18.le;omega),fun _=>hx1.lab2⟩,by simp[lsM],Z⟩
     have O1:=S18;refine rg O a6 [0,2,3] [0,2,3] [(9,sc J E (i4) N18 W18 p18.note)] Z fun X18 _ _ Z=>?_
     refine rg O a6 [0,2] [0,2] [] Z fun X19 _ _ Z=>?_
     replace Z:=Z.keep [0,2] [0,2];exact⟨(.sp N18 (W18 (X18 9)) p18.note,x1.lab),⟨(X18 9),wq18,p18,by simp[Rs.bind,hrun1,M7,G3,<-hfv,<-hfb,tc,hm17,te,hm18],hN18,(hW18 _),rfl⟩,by simp[lsM],Z⟩
    have te:d17=false:=by exact hb
    replace Z:=Z.keep [0,2] [0,2];exact wp_skip (⟨(.go m0 p17 N17,B7),⟨by rw[hrun1,iW _ _ _ _ _ m0];simp[M7,Rs.bind,hrun1,M7,G3,<-hfv,<-hfb,tc,hm17,te],hp17,hn17,hR17,(by have:=hf1;have:=hle1;have:=hl17;omega),(by have:=hf1;have:=hle1;have:=hl17;omega),fun h=>absurd (show(-1:Int)<0 by decide) h⟩,by simp[lsM],Z⟩)
   have O1:=S17;refine rg O a6 [114,0,2,3,9] [0,2,3,9] [(7,sc J E (.bool .ff) N17 W17 p17.note)] Z fun X17 _ _ Z=>?_
   refine j3 Z rfl (fun Z=>?_);replace Z:=Z.keep [0,2] [0,2];exact wp_skip (⟨(.sp N17 (W17 (X17 7)) p17.note,B7),⟨(X17 7),wq17,p17,by simp[Rs.bind,hrun1,M7,G3,<-hfv,<-hfb,tc,hm17],hN17,(hW17 _),rfl⟩,by simp[lsM],Z⟩)
  .exact (hJ:False).elim
  dsimp only[lsC,lsB,spL]at hJ Z;obtain⟨X1,wq1,pp1,hsp1,hN1,hW1,ht1⟩:=hJ;subst ht1;have O1:=SN;refine wp_seq (rg O a6 [0,2,3] [0,2,3] [(0,.r fun _=>.agg [.int .i64 (-1),.int .u64 0])] Z fun X8 _ _ Z=>?_);refine wp_seq (wp_seq (rg O a6 [48,0,2,3] [0,2,3] [] Z fun X9 _ _ Z=>?_));refine j1 Z rfl (fun Z=>?_);exact wp_ret ((rst O a6 Z (q:=pp1) (wq:=wq1) X1 (hsp1) hN1 hW1).1)
 .exact (hJ:False).elim
 dsimp only[lsC,lsB]at hJ Z;obtain⟨X0,wq0,pp0,hsp0,hN0,hW0,ht0⟩:=hJ;subst ht0;refine wp_seq (wp_seq (rg O a6 [25,0,2] [0,2] [] Z fun X3 _ _ Z=>?_));refine j3 Z rfl (fun Z=>?_);exact wp_exit ((rst O a6 Z (q:=pp0) (wq:=wq0) X0 (hsp0) hN0 hW0).2)
theorem Fv(k0 b:Nat)(J:i5)(hJ:j0 J)(E:s5)(hE:E.n<=1000000)(N:Nat)(p:Pst)(hR:Rel E N p)(hp:f8 p)(hn:p.n<=1000000)(hv:¬64<J.val.size)(n:Nat)(hf:p.n<n):u2 74 k0 b J E N p [] (fun _=>i4) (i4) (fW J.bucket (J.budget-E.n) J.how J.key J.val n B7 p):=u2.re (Bm b J hJ E hE N p hR hp hn hv n hf) (by repeat(first|exact trivial|refine⟨zr,?_⟩))
def qP(bk k how key:Int)(n:Nat)(p:Pst):Rs Unit:=(Y1 bk k how key n p).bind G3
theorem fI(bk k how key:Int)(n:Nat)(p:Pst):qP bk k how key (n+1) p=(Y1 bk k how key (n+1) p).bind G3:=rfl
theorem Bg(b:Nat)(J:i5)(hJ:j0 J)(E:s5)(hE:E.n<=1000000)(N:Nat)(p:Pst)(hR:Rel E N p)(hp:f8 p)(hn:p.n<=1000000)(hbk:0<=J.bucket/\J.bucket<=16)(n:Nat)(hf:p.n<n):u2 75 0 b J E N p [] (fun _=>i4) (i4) (qP J.bucket (J.budget-E.n) J.how J.key n p):=by
 intro m w hm hargs hpre;have hN0:N=E.n-p.n:=by have:=hR.n;omega
 refine enX 75 hm hpre hargs Tryz.func75 fun B O a0 Z=>?_
 refine wp_block (l4 (ι:=LSt) (fun q=>[]) (fun q=>[(0,⟨b,174,lsC J E q⟩)]) (fun q=>[]) (fun q=>match q with| .go a r M=>qP J.bucket (J.budget-E.n) J.how J.key n p=qP J.bucket (J.budget-E.n) J.how J.key a r/\f8 r/\r.n<=1000000/\Rel E M r/\r.n<a/\r.n<=p.n| .dn r M=>False| .sp M Q u=>∃(X:i8) (wq:Wq) (pp:Pst),qP J.bucket (J.budget-E.n) J.how J.key n p = .stop wq pp/\M=E.n-pp.n/\Q=wqA X wq/\u=pp.note) (fun q=>lsM q) (.go n p N) ⟨rfl,hp,hn,hR,(by skip;omega),(by skip;omega)⟩ Z ?_)
 rintro q hJ _ _ Z
 rcases q with⟨nn0,p0,N0⟩|⟨p9,N9⟩|⟨N0,Q0,t0⟩
 .dsimp only[lsC,lsB]at hJ Z
  obtain⟨hrun0,hp0,hn0,hR0,hf0,hle0⟩:=hJ;obtain⟨m0,rfl⟩:∃n2,nn0=n2+1:=⟨nn0-1,by omega⟩
  have hN0:N0=E.n-p0.n:=by have:=hR0.n;omega
  refine wp_seq (wp_seq (rg O a6 [11,0] [0] [] Z fun X0 _ _ Z=>?_));refine j1 Z rfl (fun Z=>?_);refine wp_skip (wp_block (wp_seq ?_))
  rcases(ya 0 b J hJ E hE N0 p0 hR0 hp0 hn0 J.key hJ.key (m0+1) (by have:=hf0;have:=hle0;omega)).two (R2 _ _ _ _ _ _) hp0 hn0 hR0 with⟨s1,p1,N1,hm1,hs1,hp1,hn1,hR1,hN1,S1⟩|⟨wq1,p1,N1,W1,hm1,hs1,hN1,hW1,S1⟩
  .have hx1:=dg hJ.key hp0 hm1
   have O1:=S1;refine rg O a6 [0,2] [0,2] [(6,lc J E (L6 s1) N1 p1)] Z fun X1 _ _ Z=>?_
   refine wp_seq (wp_seq (rg O a6 [22,0,2] [0,2] [] Z fun X2 _ _ Z=>?_));refine j3 Z rfl (fun Z=>?_);have SF:=so s1.g.x hx1.ok.ra J.key;obtain⟨fv,hfv⟩:=eqv (lA s1.g.x J.key);rw[<-hfv]at SF;obtain⟨fb,hfb⟩:=eqv (lB s1.g.x J.key);rw[<-hfb]at SF;have O1:=SF;refine wp_skip (wp_seq (drg O a6 [0,2,3,4] [0,2] [(8,.r fun _=>.tup [.str fv,.bool (.v fb)])] Z fun X3 _ _ Z=>?_));refine wp_seq (wp_seq (rg O a6 [36,0,2,3] [0,2] [] Z fun X4 _ _ Z=>?_));apply a7 Z rfl<;>intro hb Z
   .have tb:fb=false:=by subst O;revert hb;cases fb<;>simp[std]
    apply wp_seq;refine rg O a6 [] [0] [(2,.x fun _=>⟨i4,[(0,D9 J E N1 (wqA X00 (aO ⟨0,false,⟨#[]⟩,[],0,false⟩)) p1.note)],[]⟩)] Z (hob:=by intro X;subst O;simp only[b7,Ob.holds,BE.den]<;>and_intros<;>repeat first|trivial|rfl|exact u9.re (zX 0 b J E hE N1 ⟨0,⟨0,0⟩,0,zRA,fC⟩ p1.note 0 false ⟨#[]⟩) ⟨zr,Sim.agg ⟨zr,Sim.ff,zr,zr,zr,zr,trivial⟩,trivial⟩ rfl fun _=>⟨rfl,rfl,zr,rfl⟩|exact(fun _ _=>by kernel_rfl)|refine⟨?_,?_⟩|intro h|exact Int.le_refl _|decide|omega) fun X5 _ _ Z=>?_
    exact wp_ret ((rst O a6 Z (q:=p1) (wq:=(aO ⟨0,false,⟨#[]⟩,[],0,false⟩)) X00 (by simp[Rs.bind,hrun0,fI,Y1,G3,hm1,<-hfv,<-hfb,tb,aJ]) hN1 rfl).1)
   have tb:fb=true:=by subst O;revert hb;cases fb<;>simp[std]
   have SW:=DT s1.g.x hx1.ok.ra J.key;obtain⟨r1,hr1⟩:=eqv ((oA s1.g.x J.key).1.rn);rw[<-hr1]at SW;obtain⟨e1,he1⟩:=eqv ((oA s1.g.x J.key).2);rw[<-he1]at SW;have ha1:r1.abs=(oA s1.g.x J.key).1:=by rw[hr1];exact U7 _
   have O1:=SW;refine wp_skip (wp_seq (drg O a6 [0,2,3,5] [0,2,5] [(8,.r fun y=>.tup [.agg [.int .i64 r1.kd,.sl none (y.A 0) r1.n (y.c 0) 2 (fun i=>itC (r1.f i)),.int .i64 r1.nx.len,.int .u64 r1.nx.bits,.int .u64 r1.mrk],.bool (.v e1)])] Z fun X6 _ _ Z=>?_));apply wp_seq
   rcases(bN 0 b J hJ E hE N1 p1 hR1 hp1 hn1 s1.lab s1.g.ver ⟨(X6 8).A 0,(X6 8).c 0,r1⟩).two (l5 _ _ _ _ _) hp1 hn1 hR1 with⟨d7,p7,N7,hm7,hs7,hp7,hn7,hR7,hN7,S7⟩|⟨wq7,p7,N7,W7,hm7,hs7,hN7,hW7,S7⟩
   .have hl7:=cz hm7
    have O1:=S7;refine rg O a6 [59,0,2,3] [0,2] [(7,lc J E (.bool (.v d7)) N7 p7)] Z fun X7 _ _ Z=>?_
    apply a7 Z rfl<;>intro hb Z
    .have td:d7=true:=by exact hb
     refine wp_seq (rg O a6 [0,2] [0,2] [] Z fun X8 _ _ Z=>?_);replace Z:=Z.memS (cells':=R8 J E N7 ⟨0,true,fv⟩) (by subst O;exact⟨zr,zr,zr,zr,zr,zr,zr,zr,zr,zr,zr,zr,zr,zr,zr,zr,zr,zr,zr,zr,zr,zr,zr,zr,zr,zr,zr,zr,zr,zr,zr,zr,zr,zr,Sim.tt,zr,zr,zr,zr,trivial⟩);apply wp_seq
     rcases(Fk 0 b J hJ E hE N7 (p7.nt ⟨0,true,fv⟩) ⟨hR7.n,hR7.g⟩ hp7 hn7 hbk s1.lab hx1.lab2 m0 (show p7.n<m0 by have:=hf0;have:=hle0;have:=hs1.le;have:=hl7;omega)).two (kg _ _ _ _ _) hp7 hn7 ⟨hR7.n,hR7.g⟩with⟨v9,p9,N9,hm9,hs9,hp9,hn9,hR9,hN9,S9⟩|⟨wq9,p9,N9,W9,hm9,hs9,hN9,hW9,S9⟩
     .have hnt:p9.note=⟨0,true,fv⟩:=(sF _ _ _ _ _).of hm9
      have O1:=S9;refine rg O a6 [0] [0] [(3,lc J E (i4) N9 p9)] Z fun X9 _ _ Z=>?_
      have O1:=zX 0 b J E hE N9 ⟨0,⟨0,0⟩,0,zRA,fC⟩ p9.note p9.note.code p9.note.had p9.note.val;refine rg O a6 [0] [0] [(5,.x fun _=>⟨i4,[(0,D9 J E N9 (wqA X00 (aO ⟨p9.note.code,p9.note.had,p9.note.val,[],0,false⟩)) p9.note)],[]⟩)] Z fun X10 _ _ Z=>?_
      replace Z:=Z.keep [0] [0];exact⟨.sp N9 (wqA X00 (aO ⟨p9.note.code,p9.note.had,p9.note.val,[],0,false⟩)) p9.note,⟨X00,(aO ⟨p9.note.code,p9.note.had,p9.note.val,[],0,false⟩),p9,by simp[Rs.bind,hrun0,fI,Y1,G3,hm1,<-hfv,<-hfb,tb,<-ha1,hm7,td,hm9,hnt],hN9,rfl,rfl⟩,by simp[lsM],Z⟩
     have O1:=S9;refine rg O a6 [0] [0] [(3,sc J E (i4) N9 W9 p9.note)] Z fun X9 _ _ Z=>?_
     refine rg O a6 [0] [0] [(5,.x fun _=>⟨i4,[(0,D9 J E N9 (W9 (X9 3)) p9.note)],[]⟩)] Z (hob:=by intro X;subst O;simp only[b7,Ob.holds,BE.den]<;>and_intros<;>repeat first|trivial|rfl|exact L0.re (zT b J E hE N9 (W9 (X9 3)) p9.note ⟨p9.note.code,p9.note.had,p9.note.val,none,0,0,fun _=>C5,0,false⟩) ⟨Sim.agg ⟨zr,zr,zr,zq0,zr,Sim.ff,trivial⟩,trivial⟩|exact(fun _ _=>by kernel_rfl)|refine⟨?_,?_⟩|intro h|exact Int.le_refl _|decide|omega) fun X10 _ _ Z=>?_
     replace Z:=Z.keep [0] [0];exact⟨.sp N9 (W9 (X9 3)) p9.note,⟨(X9 3),wq9,p9,by simp[Rs.bind,hrun0,fI,Y1,G3,hm1,<-hfv,<-hfb,tb,<-ha1,hm7,td,hm9],hN9,(hW9 _),rfl⟩,by simp[lsM],Z⟩
    have td:d7=false:=by exact hb
    replace Z:=Z.keep [0] [0];exact wp_skip (⟨.go m0 p7 N7,⟨by rw[hrun0,fI];simp[Y1,qP,Rs.bind,hrun0,fI,Y1,G3,hm1,<-hfv,<-hfb,tb,<-ha1,hm7,td],hp7,hn7,hR7,(by have:=hf0;have:=hle0;have:=hs1.le;have:=hl7;omega),(by have:=hf0;have:=hle0;have:=hs1.le;have:=hl7;omega)⟩,by simp[lsM],Z⟩)
   have O1:=S7;refine rg O a6 [59,0,2,3] [0,2] [(7,sc J E (.bool .ff) N7 W7 p7.note)] Z fun X7 _ _ Z=>?_
   refine j3 Z rfl (fun Z=>?_);replace Z:=Z.keep [0] [0];exact wp_skip (⟨.sp N7 (W7 (X7 7)) p7.note,⟨(X7 7),wq7,p7,by simp[Rs.bind,hrun0,fI,Y1,G3,hm1,<-hfv,<-hfb,tb,<-ha1,hm7],hN7,(hW7 _),rfl⟩,by simp[lsM],Z⟩)
  have O1:=S1;refine rg O a6 [0,2] [0,2] [(6,sc J E (T4) N1 W1 p1.note)] Z fun X1 _ _ Z=>?_
  refine wp_seq (wp_seq (rg O a6 [22,0,2] [0,2] [] Z fun X2 _ _ Z=>?_));refine j1 Z rfl (fun Z=>?_);exact wp_ret ((rst O a6 Z (q:=p1) (wq:=wq1) (X1 6) (by simp[Rs.bind,hrun0,fI,Y1,G3,hm1]) hN1 (hW1 _)).1)
 .exact (hJ:False).elim
 dsimp only[lsC,lsB]at hJ Z;obtain⟨Xq0,wq0,pp0,hsp0,hN0,hW0,ht0⟩:=hJ;subst ht0;refine wp_seq (wp_seq (rg O a6 [11,0] [0] [] Z fun X0 _ _ Z=>?_));refine j3 Z rfl (fun Z=>?_);exact wp_exit ((rst O a6 Z (q:=pp0) (wq:=wq0) Xq0 (hsp0) hN0 hW0).2)
theorem Fl(k0 b:Nat)(J:i5)(hJ:j0 J)(E:s5)(hE:E.n<=1000000)(N:Nat)(p:Pst)(hR:Rel E N p)(hp:f8 p)(hn:p.n<=1000000)(hbk:0<=J.bucket/\J.bucket<=16)(n:Nat)(hf:p.n<n):u2 75 k0 b J E N p [] (fun _=>i4) (i4) (qP J.bucket (J.budget-E.n) J.how J.key n p):=u2.re (Bg b J hJ E hE N p hR hp hn hbk n hf) (by repeat(first|exact trivial|refine⟨zr,?_⟩))
theorem Fp(J:i5)(E:s5):u9 Tryz.prog 57 [dx J,az E.A E.n E.c E.f] [] (fun x=>⟨.ptr 9 x.b 0,[],[(9,⟨x.b,174,R8 J E 0 nt0⟩)]⟩):=by
 intro m w hm hargs hpre;refine enX 10 hm hpre hargs Tryz.func57 fun B O a0 Z=>?_
 refine wp_seq (rg O a6 [1,2] [2] [] Z fun X0 _ _ Z=>?_);refine wp_seq (rg O a6 [4] [9,9] [] Z fun X1 _ _ Z=>?_);refine wp_ret ((rx O a6 Z (⟨(X1 4).b,fun _=>none,fun _=>0,fun _=>.empty⟩) [9] (he:=?_) (hn:=?_)).1)
 .subst O;exact Sim.ptr
 exact⟨⟨_,rfl,by subst O;exact⟨zr,zr,zr,zr,zr,zr,zr,zr,zr,zr,zr,zr,zr,zr,zr,zr,zr,zr,zr,zr,zr,zr,zr,zr,zr,zr,zr,zr,zr,zr,zr,zr,zr,zr,Sim.ff,zr,zr,zr,zr,trivial⟩⟩,(by intro e he;cases he),(by simp),trivial⟩
theorem za(b:Nat)(J:i5)(E:s5)(N:Nat)(Q:C1)(t:Nt)(h:N<E.n):u9 Tryz.prog 61 [.ptr 0 b 0] [(0,⟨b,174,D9 J E N Q t⟩)] (fun _=>⟨.tup [.agg [.int .i64 0,.int .i64 0,.int .u64 0,.int .u64 0,.int .i64 0,.sl none none 0 0 2 (fun _=>[]),.int .i64 0,.int .u64 0,.int .u64 0,.int .i64 0,.bool .ff,.str ⟨#[]⟩,.sl none none 0 0 2 (fun _=>[]),.int .u64 0,.bool .ff],.int .i64 5],[(0,D9 J E N Q t)],[]⟩):=by
 intro m w hm hargs hpre;refine enX 19 hm hpre hargs Tryz.func61 fun B O a0 Z=>?_
 refine wp_seq (rg O a6 [0,2] [0,2] [] Z fun X0 _ _ Z=>?_);refine wp_seq (wp_seq (drg O a6 [13,0,2] [0,2] [] Z fun X1 _ _ Z=>?_));apply a7 Z rfl<;>intro hb Z
 .skip
  refine wp_seq (rg O a6 [2,3] [0,2] [] Z fun X2 _ _ Z=>?_);exact wp_ret ((rx O a6 Z f9 []).1)
 exfalso
 have h9:¬N<E.n:=by
  have:¬(N:Int)<(E.n:Int):=by subst O;simpa[std,a8]using hb
  omega
 exact h9 h
theorem vH(k0:Nat)(b:Nat)(J:i5)(E:s5)(N:Nat)(Q:C1)(t:Nt)(h:N<E.n):u9 Tryz.prog 61 [.ptr k0 b 0] [(k0,⟨b,174,D9 J E N Q t⟩)] (fun _=>⟨.tup [.agg [.int .i64 0,.int .i64 0,.int .u64 0,.int .u64 0,.int .i64 0,.sl none none 0 0 2 (fun _=>[]),.int .i64 0,.int .u64 0,.int .u64 0,.int .i64 0,.bool .ff,.str ⟨#[]⟩,.sl none none 0 0 2 (fun _=>[]),.int .u64 0,.bool .ff],.int .i64 5],[(k0,D9 J E N Q t)],[]⟩):=
 (za b J E N Q t h).re (by repeat(first|exact trivial|refine⟨Sim.ptr,?_⟩|refine⟨Sim.fn ⟨Sim.ptr,trivial⟩ trivial,?_⟩|refine⟨Sim.fn trivial ⟨Sim.ptr,trivial⟩,?_⟩|refine⟨zr,?_⟩)) rfl (fun x=>⟨rfl,rfl,zr,rfl⟩)
theorem zb(b:Nat)(J:i5)(E:s5)(N:Nat)(Q:C1)(t:Nt)(h:¬N<E.n):u9 Tryz.prog 61 [.ptr 0 b 0] [(0,⟨b,174,D9 J E N Q t⟩)] (fun _=>⟨.tup [D8 Q,.int .i64 0],[(0,D9 J E N Q t)],[]⟩):=by
 intro m w hm hargs hpre;refine enX 19 hm hpre hargs Tryz.func61 fun B O a0 Z=>?_
 refine wp_seq (rg O a6 [0,2] [0,2] [] Z fun X0 _ _ Z=>?_);refine wp_seq (wp_seq (drg O a6 [13,0,2] [0,2] [] Z fun X1 _ _ Z=>?_));apply a7 Z rfl<;>intro hb Z
 .exfalso
  have h9:N<E.n:=by
   have:(N:Int)<(E.n:Int):=by subst O;simpa[std,a8]using hb
   omega
  exact h h9
 skip
 refine wp_skip (wp_seq (rg O a6 [2,3] [0,2] [] Z fun X3 _ _ Z=>?_));exact wp_ret ((rx O a6 Z f9 []).1)
theorem vI(k0:Nat)(b:Nat)(J:i5)(E:s5)(N:Nat)(Q:C1)(t:Nt)(h:¬N<E.n):u9 Tryz.prog 61 [.ptr k0 b 0] [(k0,⟨b,174,D9 J E N Q t⟩)] (fun _=>⟨.tup [D8 Q,.int .i64 0],[(k0,D9 J E N Q t)],[]⟩):=
 (zb b J E N Q t h).re (by repeat(first|exact trivial|refine⟨Sim.ptr,?_⟩|refine⟨Sim.fn ⟨Sim.ptr,trivial⟩ trivial,?_⟩|refine⟨Sim.fn trivial ⟨Sim.ptr,trivial⟩,?_⟩|refine⟨zr,?_⟩)) rfl (fun x=>⟨rfl,rfl,zr,rfl⟩)
theorem Fx(k0 b:Nat)(J:i5)(hJ:j0 J)(E:s5)(hE:E.n<=1000000)(N:Nat)(p:Pst)(hR:Rel E N p)(hp:f8 p)(hn:p.n<=1000000)(n:Nat)(hf:p.n<n):u2 74 k0 b J E N p [] (fun _=>i4) i4 ((eE J.bucket (J.budget-E.n) J.how J.key J.val n p).bind G3:Rs Unit):=by
 by_cases hv:64<J.val.size
 .have e:((eE J.bucket (J.budget-E.n) J.how J.key J.val n p).bind G3:Rs Unit) = .stop (aO ⟨2,false,⟨#[]⟩,[],0,false⟩) p:=by unfold eE;rw[if_pos hv];rfl
  rw[e];exact Fw k0 b J hJ E hE N p hR hp hn hv
 have e:((eE J.bucket (J.budget-E.n) J.how J.key J.val n p).bind G3:Rs Unit)=fW J.bucket (J.budget-E.n) J.how J.key J.val n B7 p:=by rw[iW];unfold eE;rw[if_neg hv]
 rw[e];exact Fv k0 b J hJ E hE N p hR hp hn hv n hf
theorem Fm(k0 b:Nat)(J:i5)(hJ:j0 J)(E:s5)(hE:E.n<=1000000)(N:Nat)(p:Pst)(hR:Rel E N p)(hp:f8 p)(hn:p.n<=1000000)(hbk:0<=J.bucket/\J.bucket<=16)(n:Nat)(hf:p.n<n):u2 75 k0 b J E N p [] (fun _=>i4) i4 ((Y1 J.bucket (J.budget-E.n) J.how J.key n p).bind G3:Rs Unit):=Fl k0 b J hJ E hE N p hR hp hn hbk n hf
theorem tU(r:Rs Rsl):L5 (r.bind G3)=L5 r:=by cases r<;>rfl
theorem oD{r:Rs Rsl}{w:Wq}{q:Pst}(h:(r.bind G3:Rs Unit) = .stop w q):(r.bind G3:Rs Rsl) = .stop w q:=by
 cases r with
 |ok a p=>injection h with h1 h2;subst h1;subst h2;rfl
 |stop w' p=>injection h with h1 h2;subst h1;subst h2;rfl
theorem qg{k0 b:Nat}{J:i5}{E:s5}{f:FuncId}{N:Nat}{p:Pst}{args:List AV}{enc:Unit->AV}{dfl:AV}{r:Rs Rsl}(h:u2 f k0 b J E N p args enc dfl (r.bind G3:Rs Unit))(hf:Fro p r)(hp:f8 p)(hn:p.n<=1000000)(hR:Rel E N p) :
  ∃wq q M,∃W:i8->C1,(r.bind G3:Rs Unit) = .stop wq q/\Suf p q/\M=E.n-q.n/\(∀x,W x=wqA x wq)/\u9 Tryz.prog f (.ptr k0 b 0::args) [(k0,⟨b,174,R8 J E N p.note⟩)] (fun x=>⟨dfl,[(k0,D9 J E M (W x) q.note)],[]⟩):=by
 rcases h.two (hf.bind fun _ _ _=>T8 _ _) hp hn hR with⟨v,q,M,h1,_⟩|h
 .cases r<;>cases h1
 exact h
theorem FC(J:i5)(hJ:dQ J)(E:s5)(hEn:E.n<=900000)(hin:∀j,j<E.n->InG (E.f j)):k7 Tryz.prog 27 [dx J,az E.A E.n E.c E.f] (fun x=>.tup [D8 (wqA x (J6 J E.n E.f).1),.int .i64 (J6 J E.n E.f).2]):=by
 intro m w hm hargs;have S1:=Hz J hJ.lab E.A E.n E.c E.f hin;obtain⟨rt,hrt⟩:=eqv ((K3 E.n E.f&&E4 J));rw[<-hrt]at S1;have SN:=Fp J E;refine en 41 hm hargs Tryz.func27 fun B O a0 Z=>?_
 refine wp_seq (rg O a6 [1,2,4] [6,2,4] [] Z fun X0 _ _ Z=>?_);have O1:=S1;refine wp_seq (wp_seq (rg O a6 [22,1,2,4] [6,2,4] [(2,.r fun _=>.bool (.v rt))] Z fun X1 _ _ Z=>?_));apply a7 Z rfl<;>intro hb Z
 .have hf:(E4 J&&(decide (J.kind=4)||decide (J.kind=5))&&K3 E.n E.f)=false:=by
   have h9:(if(!rt)=true then true else(if(J.kind != 4)=true then(J.kind != 5)else false))=true:=by subst O;exact hb
   cases hr:rt
   .rw [hr]at hrt;cases h1:K3 E.n E.f<;>cases h2:E4 J<;>simp[h1,h2]at hrt ⊢
   rw[hr]at h9;rw[A5]at h9;by_cases k4:J.kind=4<;>by_cases k5:J.kind=5<;>simp[k4,k5]at h9 ⊢
  refine wp_seq (rg O a6 [4,5] [6,4] [] Z fun X2 _ _ Z=>?_);refine wp_ret ((rsi O a6 Z (⟨0,fun _=>none,fun _=>0,fun _=>.empty⟩) (he:=?_)));subst O;have ht9:J6 J E.n E.f=(zWq,1):=by unfold J6;rw[hf];rfl
  rw[ht9];exact Sim.tup ⟨Sim.agg ⟨zr,zr,zr,zr,zr,zq0,zr,zr,zr,zr,zr,zr,zq0,zr,zr,trivial⟩,zr,trivial⟩
 have hf:(E4 J&&(decide (J.kind=4)||decide (J.kind=5))&&K3 E.n E.f)=true:=by
  have h9:(if(!rt)=true then true else(if(J.kind != 4)=true then(J.kind != 5)else false))=false:=by subst O;exact hb
  cases hr:rt
  .rw [hr]at h9;cases h9
  rw[hr]at h9 hrt;rw[A5]at h9;cases h1:K3 E.n E.f<;>cases h2:E4 J<;>simp[h1,h2]at hrt ⊢
  by_cases k4:J.kind=4<;>by_cases k5:J.kind=5<;>simp[k4,k5]at h9 ⊢
 have hjb:E4 J=true:=by
  simp only[Bool.and_eq_true]at hf;exact hf.1.1
 have hag:K3 E.n E.f=true:=by
  simp only[Bool.and_eq_true]at hf;exact hf.2
 have hkd:J.kind=4 \/ J.kind=5:=by
  simp only[Bool.and_eq_true,Bool.or_eq_true,decide_eq_true_eq]at hf;exact hf.1.2
 have hJ1:j0 J:=by
  have:=oi (n:=0) hJ hjb (by omega);have e:J.less 0=J:=by unfold i5.less;simp
  rwa[e]at this
 have hE:E.n<=1000000:=by omega
 obtain⟨p0,hp0e⟩:=eqv (mg E.n E.f);have hp0:f8 p0:=by rw[hp0e];exact qS hin hag
 have hn0:p0.n<=1000000:=by rw[hp0e];show E.n<=_;omega
 have hR0:Rel E 0 p0:=by rw[hp0e];exact⟨rfl,fun j=>by show E.f j=E.f (0+j);rw[Nat.zero_add]⟩
 have hnt0:p0.note=nt0:=by rw[hp0e];rfl
 have hN0:0=E.n-p0.n:=by rw[hp0e];show 0=E.n-E.n;omega
 have hpE:p0.n=E.n:=by rw[hp0e];rfl
 have htot:J6 J E.n E.f=L5 ((bJ J (J.budget-E.n) p0).bind G3):=by unfold J6;rw[hf,<-hp0e,tU];rfl
 refine wp_skip (wp_seq ?_);refine rg O a6 [6,2,4] [6,2,4] [(2,.x fun x=>⟨.ptr 6 x.b 0,[],[(6,⟨x.b,174,R8 J E 0 nt0⟩)]⟩)] Z (hob:=by intro X;subst O;simp only[b7,Ob.holds,BE.den]<;>and_intros<;>repeat first|trivial|rfl|exact u9.re SN (zl) rfl fun _=>⟨rfl,rfl,Sim.ptr,rfl⟩|exact(fun _ _=>by kernel_rfl)|refine⟨?_,?_⟩|intro h|exact Int.le_refl _|decide|omega) fun X3 _ _ Z=>?_
 replace Z:=Z.memS (cells':=R8 J E 0 p0.note) (by rw[hnt0];exact zl);refine wp_seq (wp_seq (rg O a6 [29,4,6] [6,4] [] Z fun X4 _ _ Z=>?_));apply a7 Z rfl<;>intro hb Z
 .have k4:J.kind=4:=by subst O;simpa[std,a8]using hb
  obtain⟨wq5,p5,N5,W5,hm5,hs5,hN5,hW5,S5⟩:=qg (Fx 6 (X3 2).b J hJ1 E hE 0 p0 hR0 hp0 hn0 (p0.n+1) (Nat.lt_succ_self _)) (sX _ _ _ _ _ _ _) hp0 hn0 hR0;have O1:=S5;refine rg O a6 [4,6] [6,4] [(1,.x fun x=>⟨i4,[(6,D9 J E N5 (W5 x) p5.note)],[]⟩)] Z fun X5 _ _ Z=>?_
  apply wp_seq
  rcases Bool.eq_false_or_eq_true (decide (N5<E.n))with hlt|hlt
  .have O1:=vH 6 (X3 2).b J E N5 (W5 (X5 1)) p5.note (of_decide_eq_true hlt)
   refine rg O a6 [4,7,8] [6,4,7] [(1,.x fun _=>⟨.tup [.agg [.int .i64 0,.int .i64 0,.int .u64 0,.int .u64 0,.int .i64 0,.sl none none 0 0 2 (fun _=>[]),.int .i64 0,.int .u64 0,.int .u64 0,.int .i64 0,.bool .ff,.str ⟨#[]⟩,.sl none none 0 0 2 (fun _=>[]),.int .u64 0,.bool .ff],.int .i64 5],[(6,D9 J E N5 (W5 (X5 1)) p5.note)],[]⟩)] Z fun X7 _ _ Z=>?_
   have hr9:(bJ J (J.budget-E.n) p0).bind G3 = .stop wq5 p5:=(by unfold bJ;rw[if_pos k4];exact oD hm5);have ht9:J6 J E.n E.f=(zWq,5):=by
    have h9:=of_decide_eq_true hlt;rw[htot,hr9];unfold L5;simp only;rw[if_pos (by have:=hN5;have:=hs5.le;omega)]
   refine wp_seq (rg O a6 [4,5] [6,4] [] Z fun X8 _ _ Z=>?_);refine wp_ret ((rsi O a6 Z (⟨0,fun _=>none,fun _=>0,fun _=>.empty⟩) (he:=?_)));subst O;rw[ht9];exact Sim.tup ⟨Sim.agg ⟨zr,zr,zr,zr,zr,zq0,zr,zr,zr,zr,zr,zr,zq0,zr,zr,trivial⟩,zr,trivial⟩
  have O1:=vI 6 (X3 2).b J E N5 (W5 (X5 1)) p5.note (of_decide_eq_false hlt);refine rg O a6 [4,7,8] [6,4,7] [(1,.x fun _=>⟨.tup [D8 (W5 (X5 1)),.int .i64 0],[(6,D9 J E N5 (W5 (X5 1)) p5.note)],[]⟩)] Z fun X7 _ _ Z=>?_
  have hr9:(bJ J (J.budget-E.n) p0).bind G3 = .stop wq5 p5:=(by unfold bJ;rw[if_pos k4];exact oD hm5);have ht9:J6 J E.n E.f=(wq5,0):=by
   have h9:=of_decide_eq_false hlt;rw[htot,hr9];unfold L5;simp only;rw[if_neg (by have:=hN5;have:=hs5.le;omega)]
  refine wp_seq (rg O a6 [4,5] [6,4] [] Z fun X8 _ _ Z=>?_);refine wp_ret ((rsi O a6 Z ((X5 1)) (he:=?_)));subst O;rw[ht9,<-(hW5 _)];exact zr
 have k4:¬J.kind=4:=by subst O;simpa[std,a8]using hb
 obtain⟨wq6,p6,N6,W6,hm6,hs6,hN6,hW6,S6⟩:=qg (Fm 6 (X3 2).b J hJ1 E hE 0 p0 hR0 hp0 hn0 (pR hjb) (p0.n+1) (Nat.lt_succ_self _)) (oo _ _ _ _ _ _) hp0 hn0 hR0;have O1:=S6;refine rg O a6 [4,6] [6,4] [(1,.x fun x=>⟨i4,[(6,D9 J E N6 (W6 x) p6.note)],[]⟩)] Z fun X6 _ _ Z=>?_
 apply wp_seq
 rcases Bool.eq_false_or_eq_true (decide (N6<E.n))with hlt|hlt
 .have O1:=vH 6 (X3 2).b J E N6 (W6 (X6 1)) p6.note (of_decide_eq_true hlt)
  refine rg O a6 [4,7,8] [6,4,7] [(1,.x fun _=>⟨.tup [.agg [.int .i64 0,.int .i64 0,.int .u64 0,.int .u64 0,.int .i64 0,.sl none none 0 0 2 (fun _=>[]),.int .i64 0,.int .u64 0,.int .u64 0,.int .i64 0,.bool .ff,.str ⟨#[]⟩,.sl none none 0 0 2 (fun _=>[]),.int .u64 0,.bool .ff],.int .i64 5],[(6,D9 J E N6 (W6 (X6 1)) p6.note)],[]⟩)] Z fun X7 _ _ Z=>?_
  have hr9:(bJ J (J.budget-E.n) p0).bind G3 = .stop wq6 p6:=(by unfold bJ;rw[if_neg k4];exact oD hm6);have ht9:J6 J E.n E.f=(zWq,5):=by
   have h9:=of_decide_eq_true hlt;rw[htot,hr9];unfold L5;simp only;rw[if_pos (by have:=hN6;have:=hs6.le;omega)]
  refine wp_seq (rg O a6 [4,5] [6,4] [] Z fun X8 _ _ Z=>?_);refine wp_ret ((rsi O a6 Z (⟨0,fun _=>none,fun _=>0,fun _=>.empty⟩) (he:=?_)));subst O;rw[ht9];exact Sim.tup ⟨Sim.agg ⟨zr,zr,zr,zr,zr,zq0,zr,zr,zr,zr,zr,zr,zq0,zr,zr,trivial⟩,zr,trivial⟩
 have O1:=vI 6 (X3 2).b J E N6 (W6 (X6 1)) p6.note (of_decide_eq_false hlt);refine rg O a6 [4,7,8] [6,4,7] [(1,.x fun _=>⟨.tup [D8 (W6 (X6 1)),.int .i64 0],[(6,D9 J E N6 (W6 (X6 1)) p6.note)],[]⟩)] Z fun X7 _ _ Z=>?_
 have hr9:(bJ J (J.budget-E.n) p0).bind G3 = .stop wq6 p6:=(by unfold bJ;rw[if_neg k4];exact oD hm6);have ht9:J6 J E.n E.f=(wq6,0):=by
  have h9:=of_decide_eq_false hlt;rw[htot,hr9];unfold L5;simp only;rw[if_neg (by have:=hN6;have:=hs6.le;omega)]
 refine wp_seq (rg O a6 [4,5] [6,4] [] Z fun X8 _ _ Z=>?_);refine wp_ret ((rsi O a6 Z ((X6 1)) (he:=?_)));subst O;rw[ht9,<-(hW6 _)];exact zr
theorem mj(J:i5)(hJ:dQ J)(A:Option Addr)(n c:Nat)(f:Nat->r9)(hn:n<=maxLen)(hin:∀j,j<n->InG (f j)):k7 Tryz.prog 6 [dx J,az A n c f] (fun _=>.bool .tt):=by
 intro m w hm hargs;have hmx:maxLen=9223372036854775807:=rfl;obtain⟨bp,hbp⟩:=eqv (mq n f);have SP:k7 Tryz.prog 16 [az A n c f] (fun _=>.bool (.v bp)):=by rw[hbp];exact FR none A n c f hn
 refine en 46 hm hargs Tryz.func6 fun B O a0 Z=>?_
 refine wp_seq (rg O a6 [1,2] [2] [] Z fun X0 _ _ Z=>?_);have O1:=SP;refine wp_seq (wp_seq (rg O a6 [22,1,2] [2] [(1,.r fun _=>.bool (.v bp))] Z fun X1 _ _ Z=>?_));apply a7 Z rfl<;>intro hb Z
 .refine wp_seq (rg O a6 [4] [] [] Z fun X2 _ _ Z=>?_)
  refine wp_ret ((rsi O a6 Z f9 (he:=?_)));subst O;exact Sim.bool rfl
 have hb0:bp=false:=by
  have h9:(if(if bp=true then true else decide ((J.pn:Int)>600))=true then true else decide ((J.val.size:Int)>5000))=false:=by subst O;exact hb
  revert h9;cases bp<;>simp
 have hn2:n<=200:=(Cc (hbp ▸ hb0)).1;obtain⟨W9,hW9⟩:=eqv ((J6 J n f).1);obtain⟨E9,hE9⟩:=eqv ((J6 J n f).2);obtain⟨rr9,hrr9⟩:=eqv (W9.r.rn);obtain⟨nn9,hnn9⟩:=eqv (W9.res.items.length);obtain⟨ff9,hff9⟩:=eqv (itF W9.res.items);have T9:=k7.wq (oB J hJ A n c f (by omega) hin) hW9 hE9 hrr9 hnn9 hff9;have T10:=k7.wq (FC J hJ ⟨A,n,c,f⟩ (by show n<=_;omega) hin) hW9 hE9 hrr9 hnn9 hff9
 have O1:=T9;refine wp_skip (wp_seq (rg O a6 [1,2,5,6] [2,5] [(2,.r fun x=>.tup [.agg [.int .i64 W9.kind,.int .i64 W9.lab.len,.int .u64 W9.lab.bits,.int .u64 W9.ver,.int .i64 rr9.kd,.sl none (x.A 1) rr9.n (x.c 1) 2 (fun i=>itC (rr9.f i)),.int .i64 rr9.nx.len,.int .u64 rr9.nx.bits,.int .u64 rr9.mrk,.int .i64 W9.res.code,.bool (.v W9.res.had),.str W9.res.val,.sl none (x.A 2) nn9 (x.c 2) 2 (fun i=>itC (ff9 i)),.int .u64 W9.res.key,.bool (.v W9.res.more)],.int .i64 E9])] Z fun X3 _ _ Z=>?_));have O1:=T10;refine wp_seq (rg O a6 [5,6,7,8] [5,7] [(2,.r fun x=>.tup [.agg [.int .i64 W9.kind,.int .i64 W9.lab.len,.int .u64 W9.lab.bits,.int .u64 W9.ver,.int .i64 rr9.kd,.sl none (x.A 1) rr9.n (x.c 1) 2 (fun i=>itC (rr9.f i)),.int .i64 rr9.nx.len,.int .u64 rr9.nx.bits,.int .u64 rr9.mrk,.int .i64 W9.res.code,.bool (.v W9.res.had),.str W9.res.val,.sl none (x.A 2) nn9 (x.c 2) 2 (fun i=>itC (ff9 i)),.int .u64 W9.res.key,.bool (.v W9.res.more)],.int .i64 E9])] Z fun X4 _ _ Z=>?_);apply wp_seq;refine rg O a6 [4] [] [(0,.r fun _=>.bool .tt),(4,.r fun _=>.bool .tt)] Z (hob:=by intro X;subst O;simp only[b7,Ob.holds,BE.den]<;>and_intros<;>repeat first|trivial|rfl|exact xV|exact f7 (Kk:=noK) _ _ _ _|exact zt (X3 2) (X4 2) W9 rr9 nn9 ff9|exact(fun _ _=>by kernel_rfl)|refine⟨?_,?_⟩|intro h|exact Int.le_refl _|decide|omega) fun X5 _ _ Z=>?_
 refine wp_ret ((rsi O a6 Z f9 (he:=?_)));subst O;refine Sim.bool ?_;simp[std,a8,BE.den,vq]
end Go.Proofs.YtodelmejfpkicaaGreat.Sym
namespace Go.Proofs.YtodelmejfpkicaaGreat
open Go Go.RowKit
theorem nL(W:World)(v0 v1:Value)(i0:Sym.Dw W v0)(i1:Sym.yK W v1):Calls Tryz.prog 6 #[v0,v1] W fun e w'=>e = .returned (.bool true)/\Below W.heap.size W w':=by
 obtain⟨J,rfl,h0,hJ⟩:=i0;obtain⟨A,n,c,f,rfl,h1,hn,hf⟩:=i1;have S:=Sym.mj J hJ A n c f hn hf;refine(S (fun _ _=>False) W (fun _ _ h=>h.elim) (fun v hv=>?_)).mono ?_
 .simp only[List.mem_cons,List.not_mem_nil,or_false]at hv
  rcases hv with rfl|rfl
  .exact h0
  exact h1
 rintro e w' ⟨x,rfl,_,hb⟩
 exact⟨rfl,hb⟩
end Go.Proofs.YtodelmejfpkicaaGreat
