/-
  SymWel, SymHd4, SymEx28, SymSam, SymDv, SymDlk, SymDvx, SymDn, SymMd1, SymL28S, WalkRepairSteps: put together by a program of mine (a claim may have 60 files at most). Conditions: none.
-/
import Derived.WalkKit
import Derived.WalkLawsBesides
import Derived.WalkSpells
import Derived.Lib.Hide
import Derived.Deep.QuietTactic
import Derived.BigQuiet
import Derived.Deep.LoopGhost
import Derived.Deep.DeepCutAuto
import Derived.Deep.RegionLaw
import Derived.Lib.Overlaps
import Derived.Laws.CopyOwn
import Derived.IntWalk
import Derived.ProofKit
import Derived.OpenShut
import Derived.ShutString
import Derived.ChangeOld
import Derived.Deep.Slices
import Derived.Test.YtodelmejfpkicaaGreatProg
import Derived.Orders
import Derived.OrdersHeld
import Derived.Defers
import Derived.Recover
import Derived.Lib.BitFns
import Derived.ChangeKeysEq
import Derived.Test.YtodelmejfpkicaaGreatChecked
import Derived.Lib.BufferWrite
import Derived.Maps.OwnSet
import Derived.Maps.RangeWalk
import Derived.Maps.Ext
import Derived.DeepKeys4
import Derived.LoopN
import Derived.Shelf.SlSortCmp.WholeK
import Derived.Shelf.SlSortCmp.NoneTotal
import Derived.Deep.RegionHeld3
import Derived.Ground.SlsfProg
import Derived.Shelf.SlGeneric
import Derived.RangeFuncLeaves
import Derived.RangeFuncCalls
import Derived.OrdersIn
import Derived.Test.YtodelmejfpkicaaGreatMgS1
import Derived.Test.YtodelmejfpkicaaGreatMgS2
import Derived.Test.YtodelmejfpkicaaGreatMgS3
import Derived.Test.YtodelmejfpkicaaGreatMgS4
import Derived.Test.YtodelmejfpkicaaGreatMgS5
import Derived.Test.YtodelmejfpkicaaGreatMgS6
set_option linter.unusedVariables false
set_option linter.unusedSimpArgs false
set_option maxRecDepth 100000
set_option maxHeartbeats 1600000
namespace Go.Proofs.YtodelmejfpkicaaGreat.Sym
open Go Go.RowKit
theorem BY (A:Option Addr) (n c:Nat) (f:Nat -> l5) (hn:n<=100000) (hN:RwN n f) (hK:RwK n f) (b:Int):j5 Tryz.prog 49 [T6 A n c f,.int .i64 b] (fun _ => .bool (.v (oA (r9 f n) b))):=by
 intro m w hm hargs;have hmx:maxLen=9223372036854775807:=rfl;have SI:=Eu A n c f (by omega) hN;have SL:=pm A n c f hn;obtain ⟨ir,hir⟩:=eqv (pu (r9 f n));rw [<-hir] at SI;have hlvl:(F4 (r9 f n)).length<=n:=by
  have:=kB (r9 f n);rw [G3] at this;exact this
 have hlvo:=kz (l:=r9 f n) (p:=k4) (fun x hx => by
  simp only [r9,J5,List.mem_map,List.mem_range] at hx;obtain ⟨i,hi,rfl⟩:=hx;exact (hN i hi).2.1)
 obtain ⟨lv,hlv⟩:=eqv (F4 (r9 f n));rw [<-hlv] at SL hlvl hlvo;obtain ⟨lf,hlf⟩:=eqv (lF lv);obtain ⟨ln,hln⟩:=eqv (lv.length);rw [<-hlf,<-hln] at SL hlvo;rw [<-hln] at hlvl;obtain ⟨T,hT⟩:=eqv (Z4 f n);obtain ⟨NX,hNX⟩:=eqv (eO lf ln ln);obtain ⟨W,hW⟩:=eqv (oA (r9 f n) b);rw [<-hW];have hTre:P4 T=qg (r9 f n):=by rw [hT,vp]
 refine enN (pre:=[]) 108 hm ⟨fun e he => (by cases he),fun e he => (by cases he),fun e he => (by cases he),.nil⟩ hargs Tryz.func49 fun B hB a0 hF => ?_
 refine C1 (E3 (rg hB a6 [0,1] [] [] hF fun X0 a0 w1 hF => ?_));refine C1 (E3 (wp_region_lit ?_));refine lpr 0 1 hB a6 [17,0,1] [] [] hF (fun X1 a0 w1 hF => ?_);refine D7 rfl rfl rfl rfl hF rfl rfl (fun _ _ => by kernel_rfl) (Et A n c f hn fun i hi => (hN i hi).2.1) (fun _ _ h => h) (fun b hb => by cases hb) (zl) (fun e he => by cases he) rfl rfl (fun y => lmK u9 (y.c 0) (Z4 f n)) (fun _ _ _ _ _ _ _ _ _ h => h.2) ?_;intro y a0 w1 hF;obtain ⟨bT,hbT⟩:=eqv (y.c 0);rw [<-hbT,<-hT] at hF;have O1:=SL;refine lpr 2 2 hB a6 [20,18,0,1] [] [(3,.r fun y => sC (y.A 0) ln (y.c 0) lf)] hF (fun X2 a0 w1 hF => ?_);refine D7 rfl rfl rfl rfl hF rfl rfl (fun _ _ => by kernel_rfl) (sf ((X2 3).A 0) ln ((X2 3).c 0) lf (by omega) hlvo) (fun _ _ _ => trivial) (fun b hb => by cases hb) (zl) (fun e he => by cases he) rfl rfl (fun y => (lmK u9 bT T).and (lmK b6 (y.c 0) NX)) (fun _ _ _ _ _ _ _ hk hkb h => ⟨(lmK u9 bT T).st hkb.keep hk,by rw [hNX]; exact h.2⟩) ?_;intro y2 a0 w1 hF;obtain ⟨bN,hbN⟩:=eqv (y2.c 0);rw [<-hbN] at hF;refine lnd 5 hB a6 [5,6,0,1] [5] [] hF (fun X3 a0 w1 hF => ?_);obtain ⟨bt,hbt⟩:=eqv ((X3 5).b);have hF:=hF.fz (tm':=[(5,tEp (X3 5).b bT),(6,.raw (.map (some bN))),(0,T6 A n c f),(1,.int .i64 b)]) ⟨rfl,Z2,rfl,v8,rfl,v8,rfl,v8,trivial⟩;obtain ⟨e0,he0⟩:=eqv ((I3 ⟨0,0⟩ T).getD zRA);obtain ⟨hr,hhr⟩:=eqv ((I3 ⟨0,0⟩ T).isSome);have OL:=sq (K:=(lmK u9 bT T).and (lmK b6 bN NX)) (el:=u9) (fun m w h => h.1) (bX (q:=⟨0,0⟩) (by decide) ⟨by decide,by decide⟩) U1 mQ qe (v:=u9 e0) (by rw [<-he0]) hhr.symm;simp only [b6] at OL;have O1:=OL;refine C1 (C1 (E3 (rg hB a6 [8,5,6,0,1] [] [(2,.r fun _ => .tup [u9 e0,.bool (.v hr)])] hF fun X4 a0 w1 hF => ?_)));have hroot:(qg (r9 f n) ⟨0,0⟩).isSome=hr:=by rw [<-hTre,hhr]; unfold P4; cases I3 (⟨0,0⟩:Lab) T<;>rfl
 have O1:=SI;refine E3 (wp_seq (rg hB a6 [42,5,6,1] [] [(12,.r fun _ => .bool (.v ir))] hF (fun X5 a0 w1 hF => ?_)));refine a7 hF rfl (fun hbA hF => ?_) (fun hbA hF => ?_)
 .have h9:(if (if (if (!hr)=true then true else decide (b < 1))=true then true else decide (b > 16))=true then true else !ir)=true:=by subst hB; exact hbA
  have hWf:W=false:=by
   rw [hW];unfold oA;rw [hroot,<-hir]
   cases hr<;>cases ir<;>by_cases g1:b < 1<;>by_cases g2:b > 16<;>simp [g1,g2] at h9 ⊢<;>omega
  refine wp_seq (rg hB a6 [4] [] [] hF fun X6 a0 w1 hF => ?_);refine wp_ret (rsN (res:=fun _ => .bool (.v W)) hB a6 [] (hF.withK (K':=noK.and (C4 [])) ⟨trivial,⟨fun D hD => (by cases hD),List.nodup_nil⟩⟩) (fun D hD => by cases hD) ⟨0,fun _ => none,fun _ => 0,fun _ => .empty⟩ (he:=?he)).1
  case he => rw [hWf]; subst hB; exact Sim.bool rfl
 have h9:(if (if (if (!hr)=true then true else decide (b < 1))=true then true else decide (b > 16))=true then true else !ir)=false:=by subst hB; exact hbA
 have hrt:hr=true:=by cases hr<;>first | rfl | (simp at h9)
 have hit:ir=true:=by cases ir<;>first | rfl | (simp at h9)
 have hb1:¬ b < 1:=fun h => by simp [h] at h9
 have hb2:¬ b > 16:=fun h => by simp [h] at h9
 have hWe:W=(pE (r9 f n)).all fun p => K9 (qg (r9 f n)) (nxP (F4 (r9 f n))) b p.1 p.2:=by
  rw [hW];unfold oA;rw [hroot,<-hir,hrt,hit,decide_eq_true (show 1<=b by omega),decide_eq_true (show b<=16 by omega)];rfl
 have hTA:va T:=by rw [hT]; exact vo hN hK (by rw [<-hir]; exact hit)
 have hTl:T.length<=2000:=by
  have h1:=(sj (l:=r9 f n) (by rw [<-hir]; exact hit)).1;rw [G3] at h1;rw [hT];exact Nat.le_trans (gM f n) h1
 have hWt:W=T.all fun p => K9 (P4 T) (nxP lv) b p.1 p.2.r.abs:=by
  rw [hWe,<-sR,<-hT,<-hTre,<-hlv];unfold eS;rw [List.all_map];rfl
 refine wp_skip ?_;refine C1 (C1 (E3 (wp_region_lit ?_)));refine lpr 0 1 hB a6 [43,5,6,1] [] [] hF (fun X6 a0 w1 hF => ?_);obtain ⟨⟨D,hD⟩,hDN⟩:=hF.kept;have hmapsT:=gd (m:=St.m _ _) ⟨D,hD⟩;have hF:=hF.withK (K':=(ldK u9 D bT T).and (lmK b6 bN NX)) ⟨hD,hDN⟩;obtain ⟨rr,hrr⟩:=eqv (w1.heap.size);refine ic rfl rfl rfl rfl hF (Nat.le_of_ble_eq_true rfl) rfl Z1 U1 hD.map (wK T NX D bT rr bN (Maps.has D) (Maps.size D)) (fun m w' h1 h2 h3 => ⟨⟨h1.1.keep h2,by rw [hrr]; exact h3⟩,(lmK b6 bN NX).st h2 h1.2⟩) ?_;rw [<-hrr];intro a0 w1 hfr hF;refine wpList_nil ?_;replace hF:=hF.keep [44,5,6,1] [];have hbTr:bT ≠ rr:=by have:=L3 hmapsT.choose_spec.choose_spec; omega
 have hbNr:bN ≠ rr:=by have:=kw hDN; omega
 refine bL (vf (ι:=(Lit -> Bool) × Nat × List Nat) (fun p a w1 => b4 ⟨m,w,ats [],p.2.2.map bi,(wK T NX D bT rr bN p.1 p.2.1).and (C4 p.2.2)⟩ ⟨108,[(44,.raw (.pointer (some ⟨rr,0,none⟩))),(5,tEp (X3 5).b bT),(6,.raw (.map (some bN))),(1,.int .i64 b)],[],[],[]⟩ a w1) (fun p => (∀ kl,p.1 kl=true -> Maps.has D kl=true)/\(∀ q ∈ T,p.1 (u4 q.1)=true \/ K9 (P4 T) (nxP lv) b q.1 q.2.r.abs=true)/\(∀ E ∈ p.2.2,w.heap.size<=E)) (fun p => p.2.1) (Maps.has D,Maps.size D,[]) ⟨fun _ h => h,fun q hq => .inl ((hD.has _).2 ⟨q,hq,rfl⟩),fun E hE => by cases hE⟩ (hF.withK ⟨hF.kept,⟨fun D hD => (by cases hD),List.nodup_nil⟩⟩) ?_)
 rintro ⟨left,cnt,Ds⟩ ⟨hlft,hsnd,hDs⟩ a0 w1 hF
 dsimp only at hlft hsnd hDs hF;have hEne:∀ E ∈ Ds,bT ≠ E/\rr ≠ E/\bN ≠ E:=by
  intro E hE;have h1:=hF.kept.2.1 E hE;obtain ⟨es,cl,h2,_⟩:=hF.kept.1.1.1.map;obtain ⟨_,_,_,_,_,_,_,_,_,h3,_⟩:=hF.kept.1.1.2;obtain ⟨es2,cl2,h4⟩:=gd hF.kept.1.2;refine ⟨?_,?_,?_⟩<;>rintro rfl
  .rw [h1] at h2; cases h2
  .rw [h1] at h3; cases h3
  rw [h1] at h4; cases h4
 have hofK:∀ left cnt,∀ E ∈ Ds,(wK T NX D bT rr bN left cnt).off E/\w.heap.size<=E:=fun left cnt E hE => ⟨vm (hEne E hE).1 (hEne E hE).2.1 (hEne E hE).2.2,hDs E hE⟩
 refine C1 (E3 (wp_region_lit ?_));refine ie rfl rfl rfl rfl hF (Nat.le_of_ble_eq_true rfl) rfl Z1 hF.kept.1.1.2 (fun h => absurd h (Nat.not_lt.2 hfr)) (fun bb key v kl cnt' => ((spK u9 D bT rr T left bb key v kl cnt').and (lmK b6 bN NX)).and (C4 Ds)) (fun m h _ => ⟨⟨⟨h.1.1.1,fun h => by cases h⟩,h.1.2⟩,h.2⟩) (fun key v kl cnt' m w' h1 h2 h3 h4 => ⟨⟨⟨h1.1.1.1.keepB h2 (fun e => hbTr (by injection e with e; exact e.symm)),fun _ => ⟨h3,h4⟩⟩,gc hbNr h2 h1.1.2⟩,ko (fun hm => (hEne _ hm).2.1 rfl) h2 h1.2⟩) ?_;intro a0 w1 bb rest' key v kl cnt' hn0 hn1 hF;refine lnd 1 hB a6 [46,44,5,6,1] [] [] hF (fun X7 a0 w1 hF => ?_);refine C1 (kg hF rfl (fun hbB hF => ?_) (fun hbB hF => ?_))
 .have hbb:bb=true:=by subst hB; exact hbB
  obtain ⟨hnx1,hnx2,hnx3,hnx4⟩:=hn1 hbb;replace hF:=hF.withK (K':=((etK u9 D bT rr T (fun x => left x && !x.sameKey kl) key v cnt').and (lmK b6 bN NX)).and (C4 Ds)) ⟨⟨⟨hF.kept.1.1.1,hF.kept.1.1.2 hbb⟩,hF.kept.1.2⟩,hF.kept.2⟩;refine E3 (wp_skip ?_);refine bL (C1 (E3 (wp_region_lit ?_)));obtain ⟨⟨q,el⟩,hp,hpk,hpkey,hpv⟩:=hF.kept.1.1.1.entry hnx1 (hlft _ hnx2) hnx3;dsimp only at hpk hpkey hpv;have hent:=hF.kept.1.1.2.2;rw [hpkey,hpv] at hent;have hok:=hF.kept.1.1.1.ok _ hp;obtain ⟨hlq,hb0⟩:=hTA.labs _ hp;obtain ⟨he1,he2⟩:=hTA.recs _ hp;dsimp only at hlq hb0 he1 he2 hok;have hTq:P4 T q=some el.r.abs:=by
   unfold P4;rw [aF hD.nd hp]; rfl
  refine ig rfl rfl rfl rfl hF (Nat.le_of_ble_eq_true rfl) rfl hent (fH _ _ q) hok ?_;intro a0 hF;simp only [b6] at hF;replace hF:=hF.withK (K':=(wK T NX D bT rr bN (fun x => left x && !x.sameKey kl) cnt').and (C4 Ds)) ⟨⟨⟨hF.kept.1.1.1,hF.kept.1.1.2.1⟩,hF.kept.1.2⟩,hF.kept.2⟩;obtain ⟨left2,hleft2⟩:=eqv (fun x => left x && !x.sameKey kl);rw [<-hleft2] at hF;refine lnd 1 hB a6 [9,10,44,5,6,1] [9,10] [] hF (fun X8 a0 w1 hF => ?_);have hF:=hF.fz (tm':=[(9,.ep (some ⟨(X8 3).b,0,none⟩) 0 0 0 [.int .i64 q.len,.int .u64 q.bits]),(10,.ptr 10 (X8 4).b 0),(44,.raw (.pointer (some ⟨rr,0,none⟩))),(5,tEp (X3 5).b bT),(6,.raw (.map (some bN))),(1,.int .i64 b)]) ⟨rfl,Z2,rfl,v8,rfl,v8,rfl,v8,rfl,v8,rfl,v8,trivial⟩;have hF:=hF.fz (tm':=[(9,.ep (some ⟨(X8 3).b,0,none⟩) 0 0 0 [.int .i64 q.len,.int .u64 q.bits]),(10,.ep (some ⟨(X8 4).b,0,none⟩) 0 0 0 (fR el)),(44,.raw (.pointer (some ⟨rr,0,none⟩))),(5,tEp (X3 5).b bT),(6,.raw (.map (some bN))),(1,.int .i64 b)]) ⟨rfl,v8,rfl,Z2,rfl,v8,rfl,v8,rfl,v8,rfl,v8,trivial⟩
  -- the round's end
  have hnext:K9 (P4 T) (nxP lv) b q el.r.abs=true -> (∀ kl,left2 kl=true -> Maps.has D kl=true)/\(∀ q ∈ T,left2 (u4 q.1)=true \/ K9 (P4 T) (nxP lv) b q.1 q.2.r.abs=true):=by
   intro hs;refine ⟨fun x hx => ?_,fun q' hq' => ?_⟩
   .rw [hleft2] at hx
    simp only [Bool.and_eq_true] at hx;exact hlft _ hx.1
   rcases hsnd q' hq' with h1 | h1
   .by_cases he:q'.1=q
    .right
     have e1:=aF hD.nd hq';rw [he,aF hD.nd hp] at e1;injection e1 with e1
     rw [he,<-e1]; exact hs
    left
    rw [hleft2];simp only [h1,Bool.true_and,Bool.not_eq_true'];rw [<-hpk,ik (hTA.labs _ hq').1 hlq,decide_eq_false he]
   exact .inr h1
  have hbad:K9 (P4 T) (nxP lv) b q el.r.abs=false -> W=false:=by
   intro hs;rw [hWt,List.all_eq_false];exact ⟨_,hp,by rw [hs]; decide⟩
  obtain ⟨up,hup⟩:=eqv (P5 q);obtain ⟨pe,hpe⟩:=eqv (Q8 q);have SP:=BB q hb0;rw [<-hup,<-hpe] at SP;simp only [b6] at SP;have O1:=SP;refine C1 (C1 (E3 (rg hB a6 [12,11,9,10,44,5,6,1] [11] [(1,.r fun _ => .tup [.agg [.int .i64 up.len,.int .u64 up.bits],.int .i64 pe])] hF fun X9 a0 w1 hF => ?_)));have hF:=hF.fz (tm':=[(12,.int .i64 pe),(11,.ep (some ⟨(X9 5).b,0,none⟩) 0 0 0 [.int .i64 up.len,.int .u64 up.bits]),(9,.ep (some ⟨(X8 3).b,0,none⟩) 0 0 0 [.int .i64 q.len,.int .u64 q.bits]),(10,.ep (some ⟨(X8 4).b,0,none⟩) 0 0 0 (fR el)),(44,.raw (.pointer (some ⟨rr,0,none⟩))),(5,tEp (X3 5).b bT),(6,.raw (.map (some bN))),(1,.int .i64 b)]) ⟨rfl,v8,rfl,Z2,rfl,v8,rfl,v8,rfl,v8,rfl,v8,rfl,v8,rfl,v8,trivial⟩;obtain ⟨eu,heu⟩:=eqv ((I3 up T).getD zRA);have OU:=nC (K:=(wK T NX D bT rr bN left2 cnt').and (C4 Ds)) (el:=u9) (l:=up) (fun m w h => ⟨D,h.1.1.1⟩) (by rw [hup]; exact uu hb0) U1 mQ qe (v:=u9 eu) (by rw [<-heu]);simp only [b6] at OU;refine E3 (wp_seq (rg hB a6 [63,9,10,44,5,6,1] [] [(5,.r fun _ => u9 eu)] hF (fun X10 a0 w1 hF => ?_) (hob:=?hob)))
  case hob =>
   intro X; subst hB
   repeat (first | exact trivial | refine ⟨rfl,?_⟩ | refine ⟨fun _ => rfl,?_⟩ | refine ⟨fun _ => OU,?_⟩)
  have hku:sG (P4 T) up=eu.r.kd:=by
   unfold sG P4
   cases hg:I3 up T with
   | none => rw [hg] at heu; rw [heu]; rfl
   | some x => rw [hg] at heu; rw [heu]; rfl
  have hhof:=hofK left2 cnt';have hRET:∀ {fn:Func} {nt0 tm0 a0 w1},fn.results = #[.tmp 4] -> W=false -> b4 ⟨m,w,ats [],Ds.map bi,(wK T NX D bT rr bN left2 cnt').and (C4 Ds)⟩ ⟨nt0,(4,.bool .ff) :: tm0,[],[],[]⟩ a0 w1 -> bodyPostM Fence.wide 0 Tryz.prog fn (fun e w' => ∃ x:f9,e = .returned (AV.bool (.v W)).den/\Ok m w' (.bool (.v W))/\Below w.heap.size w w') .ret a0 w1:=by
   intro fn nt0 tm0 a0 w1 hfn hWf hF;refine (rsN (res:=fun _ => .bool (.v W)) (rs:=[.tmp 4]) hB a6 Ds hF hhof ⟨0,fun _ => none,fun _ => 0,fun _ => .empty⟩ (hfn:=hfn) (he:=?he)).1
   case he => rw [hWf]; subst hB; exact Sim.bool rfl
  refine a7 hF rfl (fun hbC hF => ?_) (fun hbC hF => ?_)
  .have h9:pe=0/\¬ eu.r.kd=2:=by subst hB; simpa [std,a8] using hbC
   have hbd:K9 (P4 T) (nxP lv) b q el.r.abs=false:=by
    unfold K9;rw [<-hpe,<-hup,hku,decide_eq_true h9.1,decide_eq_true h9.2];rfl
   refine wp_seq (rg hB a6 [4] [] [] hF fun X11 a0 w1 hF => ?_);exact wp_ret (hRET rfl (hbad hbd) hF)
  have hp1:(!(decide (Q8 q=0) && decide (sG (P4 T) (P5 q) ≠ 2)))=true:=by
   have h9:pe=0 -> eu.r.kd=2:=by subst hB; simpa [std,a8] using hbC
   rw [<-hpe,<-hup,hku]
   by_cases g:pe=0
   .rw [h9 g]; simp
   simp [g]
  refine wp_skip ?_;refine C1 (E3 (rg hB a6 [65,9,10,44,5,6,1] [] [] hF fun X11 a0 w1 hF => ?_));refine bL (C1 (E3 (rg hB a6 [66,65,9,10,44,5,6,1] [] [] hF fun X12 a0 w1 hF => ?_)));refine kg hF rfl (fun hbD hF => ?_) (fun hbD hF => ?_)
  .have hk1:el.r.kd=1:=by subst hB; simpa [std,a8] using hbD
   have SCV:=vr el.A el.r.n el.c el.r.f (by omega) q hb0 he2;obtain ⟨CV,hCV⟩:=eqv (D8 q (b7 el.r.f el.r.n));rw [<-hCV] at SCV;obtain ⟨cf,hcf⟩:=eqv (itF CV);obtain ⟨cn,hcn⟩:=eqv (CV.length);rw [<-hcf,<-hcn] at SCV;simp only [l4,b6] at SCV;obtain ⟨nq,hnq⟩:=eqv ((I3 q NX).getD ⟨0,0⟩);have ON:=nC (K:=(wK T NX D bT rr bN left2 cnt').and (C4 Ds)) (el:=b6) (l:=q) (fun m w h => h.1.2) hlq fX ow (fun m w => fH m w _) (v:=b6 nq) (by rw [<-hnq]);simp only [b6] at ON;refine E3 (wp_seq (drg hB a6 [91,44,5,6,1] [] [(9,.r fun x => .sl none (x.A 0) cn (x.c 0) 2 (fun i => itC (cf i))),(21,.r fun _ => .agg [.int .i64 nq.len,.int .u64 nq.bits])] hF (fun X13 a0 w1 hF => ?_) (hob:=?hob2)))
   case hob2 =>
    intro X; subst hB
    repeat (first | exact trivial | refine ⟨rfl,?_⟩ | refine ⟨fun _ => rfl,?_⟩ | refine ⟨fun _ => ⟨fun _ _ => by kernel_rfl,SCV⟩,?_⟩ | refine ⟨fun _ => ON,?_⟩ | refine ⟨fun _ => f8 (Kk:=noK) _ _ _ _,?_⟩)
   have hcl:(D8 q (b7 el.r.f el.r.n)).length=cn:=by rw [hcn,hCV]
   have hnq2:nxP lv q=nq:=by unfold nxP; rw [<-hlf,<-hln,<-hNX,hnq]
   have hs2:K9 (P4 T) (nxP lv) b q el.r.abs=(decide ((el.r.n:Int)<=b) && decide (el.r.n<=cn) && decide (el.r.nx=nq)):=by
    unfold K9;rw [hp1,Bool.true_and];refine (if_pos hk1).trans ?_
    show (decide (((b7 el.r.f el.r.n).length:Int)<=b) && decide ((b7 el.r.f el.r.n).length<=(D8 q (b7 el.r.f el.r.n)).length) && decide (el.r.nx=nxP lv q))=_
    rw [i3,hcl,hnq2]
   refine a7 hF rfl (fun hbE hF => ?_) (fun hbE hF => ?_)
   .have h10:(if (if decide ((el.r.n:Int) > b)=true then true else decide ((cn:Int) < (el.r.n:Int)))=true then true else !(eqL [.int .i64 el.r.nx.len,.int .u64 el.r.nx.bits] [.int .i64 nq.len,.int .u64 nq.bits]))=true:=by subst hB; exact hbE
    rw [sE] at h10;have h9:¬ ((el.r.n:Int)<=b/\el.r.n<=cn/\el.r.nx=nq):=by
     rintro ⟨g1,g2,g3⟩
     rw [decide_eq_false (by omega),decide_eq_false (by omega),decide_eq_true g3] at h10
     cases h10
    refine wp_seq (rg hB a6 [4] [] [] hF fun X14 a0 w1 hF => ?_);refine wp_ret (hRET rfl (hbad ?_) hF);rw [hs2];rw [<-Bool.not_eq_true,Bool.and_eq_true,Bool.and_eq_true,decide_eq_true_eq,decide_eq_true_eq,decide_eq_true_eq];exact fun h => h9 ⟨h.1.1,h.1.2,h.2⟩
   have h10:(if (if decide ((el.r.n:Int) > b)=true then true else decide ((cn:Int) < (el.r.n:Int)))=true then true else !(eqL [.int .i64 el.r.nx.len,.int .u64 el.r.nx.bits] [.int .i64 nq.len,.int .u64 nq.bits]))=false:=by subst hB; exact hbE
   rw [sE] at h10;have h9:(el.r.n:Int)<=b/\el.r.n<=cn/\el.r.nx=nq:=by
    by_cases g1:(el.r.n:Int) > b
    .rw [decide_eq_true g1] at h10; cases h10
    by_cases g2:(cn:Int) < (el.r.n:Int)
    .rw [decide_eq_false g1,decide_eq_true g2] at h10; cases h10
    by_cases g3:el.r.nx=nq
    .exact ⟨by omega,by omega,g3⟩
    rw [decide_eq_false g1,decide_eq_false g2,decide_eq_false g3] at h10; cases h10
   refine wp_skip ?_;have hsd:K9 (P4 T) (nxP lv) b q el.r.abs=true:=by rw [hs2,decide_eq_true h9.1,decide_eq_true h9.2.1,decide_eq_true h9.2.2]; rfl
   exact ⟨(left2,cnt',Ds),⟨(hnext hsd).1,(hnext hsd).2,hDs⟩,hnx4,hF⟩
  have hk1:¬ el.r.kd=1:=by subst hB; simpa [std,a8] using hbD
  refine C1 (E3 (rg hB a6 [92,9,10,44,5,6,1] [] [] hF fun X13 a0 w1 hF => ?_));refine kg hF rfl (fun hbE hF => ?_) (fun hbE hF => ?_)
  .have hk2:el.r.kd=2:=by subst hB; simpa [std,a8] using hbE
   have hs2:K9 (P4 T) (nxP lv) b q el.r.abs=decide (2<=bu (P4 T) q (if chE q 0=0 then 2 else 0)):=by
    unfold K9;rw [hp1,Bool.true_and];exact (if_neg hk1).trans (if_pos hk2)
   refine C1 (E3 (rg hB a6 [13,9,44,5,6,1] [13] [] hF fun X14 a0 w1 hF => ?_));have SK:=xa q;simp only [b6] at SK;have O1:=SK;refine C1 (C1 (E3 (rg hB a6 [95,13,44,5,6,1] [13] [(1,.r fun y => .fn 169 [] [.ep (some ⟨y.b,0,none⟩) 0 0 0 [.int .i64 q.len,.int .u64 q.bits]])] hF fun X15 a0 w1 hF => ?_)));refine bL ?_;have hself:∀ Es,(((wK T NX D bT rr bN left2 cnt').and (C4 Es))).self:=fun Es => mM (mM vS wT) pg
   have hKu:=hself Ds _ _ hF.kept;have hfresh:bT < w1.heap.size/\rr < w1.heap.size/\bN < w1.heap.size/\∀ E ∈ Ds,E < w1.heap.size:=⟨(gS hF.kept.1.1.2).1,(gS hF.kept.1.1.2).2,kw hF.kept.1.2,pd hF.kept.2⟩
   refine wd hF rfl mF hKu (fun l D2 rc w1 hl hD2 hrc hD0 hsz ha hm1 hlb => ?_);subst hrc;refine (xb (l:=l) (D:=D2) (ntc:=108) (p:=96) Tryz.func49 (by omega) (by omega) rfl rfl rfl (by decide) ⟨_,ha⟩ q hb0 (fun i K' mem gr => K'=(wK T NX D bT rr bN left2 cnt').and (C4 Ds)/\mem=[(13,(⟨(X14 0).b,3,[.int .i64 (bu (P4 T) q i:Nat)]⟩:Blk))]/\gr=[]) (fun _ _ _ _ => False) ?_ ⟨rfl,rfl,rfl⟩ (hKu.off (by omega)) hm1 (hlb _ (by simp))).mono ?_
   .intro i hi hce E hE hE2 K' mem gr a w2 ⟨hK',hmem,hgr⟩ hoff hF
    subst hK' hmem hgr;obtain ⟨hc1,hc2,hc3⟩:=BQ hb0 hce (i:Nat);obtain ⟨cl,hcl⟩:=eqv (chV q (i:Nat));obtain ⟨kc,hkc⟩:=eqv (bu (P4 T) q i);have hkcl:kc<=2:=by
     rw [hkc];have hle:∀ j,bu (P4 T) q j<=j:=fun j => by
      induction j with
      | zero => exact Nat.le_refl _
      | succ j ih => unfold bu De; split<;>omega
     have:=hle i; omega
    rw [<-hcl] at hc1 hc2 hc3 hF;rw [<-hkc] at hF;simp only [b6] at hF;refine rrg hB a6 [14,13,5] [14,13] [] hF fun X16 a0 w1 hF => ?_
    have hF:=hF.fz (tm':=[(14,.ep (some ⟨(X16 0).b,0,none⟩) 0 0 0 [.int .i64 cl.len,.int .u64 cl.bits]),(13,.ptr 13 (X14 0).b 0),(5,tEp (X3 5).b bT)]) ⟨rfl,Z2,rfl,v8,rfl,v8,trivial⟩;refine ⟨108,_,_,_,hF,fun w2 hF => ?_⟩;obtain ⟨ei,hei⟩:=eqv ((I3 cl T).getD zRA);obtain ⟨hi2,hhi2⟩:=eqv ((I3 cl T).isSome);have OL:=fun (Kx:Kn) (hx:∀ m w,Kx.p m w -> (lmK u9 bT T).p m w) => sq (K:=Kx) (el:=u9) (b:=bT) (L:=T) (l:=cl) hx (bX hc1 hc2) U1 mQ qe (v:=u9 ei) (by rw [<-hei]) hhi2.symm
    simp only [b6] at OL;refine wpIn_block (wpIn_seq (rrg hB a6 [16,13] [13] [(2,.r fun _ => .tup [u9 ei,.bool (.v hi2)])] hF (fun X17 a0 w1 hF => ?_) (hob:=?hob7)))
    case hob7 =>
     intro X; subst hB
     repeat (first | exact trivial | refine ⟨rfl,?_⟩ | refine ⟨OL _ (fun m w h => ⟨D,h.1.1.1.1.1.1⟩),?_⟩)
    refine wpIn_seq (rrg hB a6 [103,13] [13] [] hF fun X18 a0 w1 hF => ?_);have hst:bu (P4 T) q (i + 1)=kc + (if hi2=true then 1 else 0):=by
     unfold bu;rw [<-hkc,<-hcl];unfold De P4;rw [hhi2]
     cases I3 cl T<;>rfl
    refine jP hF rfl (fun hbF hF => ?_) (fun hbF hF => ?_)
    .have ht2:hi2=true:=by subst hB; exact hbF
     refine rrg hB a6 [] [13] [] hF fun X19 a0 w1 hF => ?_
     have e2:B.arith .add .i64 (kc:Int) 1=((bu (P4 T) q (i + 1):Nat):Int):=by
      rw [hst,if_pos ht2]; subst hB; exact j2 (n:=10) (by omega) (by simp only [maxLen]; omega)
     have hF:=hF.memS (cells':=[.int .i64 (bu (P4 T) q (i + 1):Nat)]) (by rw [<-e2]; exact ⟨zr,trivial⟩);exact ⟨_,_,[],⟨rfl,rfl,rfl⟩,hoff,hF.bare⟩
    have ht2:hi2=false:=by subst hB; exact hbF
    refine wpIn_skip ?_;have e2:kc=bu (P4 T) q (i + 1):=by rw [hst,ht2]; simp
    have hF:=hF.memS (cells':=[.int .i64 (bu (P4 T) q (i + 1):Nat)]) (by rw [<-e2]; exact ⟨zr,trivial⟩);exact ⟨_,_,[],⟨rfl,rfl,rfl⟩,hoff,hF.bare⟩
   rintro e w3 ⟨v,rfl,K',mem',gr',ho,hh⟩
   rcases hh with ⟨hm',rfl,rfl,rfl⟩ | ⟨c,hx,_⟩
   .refine ⟨v,rfl,_,_,_,ho,.inl ⟨hm',fun a' w' hF => ?_⟩⟩
    have hDf:D2 ∉ Ds:=fun hm => by have:=hfresh.2.2.2 _ hm; omega
    have hF:b4 ⟨m,w,ats [],(D2 :: Ds).map bi,(wK T NX D bT rr bN left2 cnt').and (C4 (D2 :: Ds))⟩ _ a' w':=hF.withK (K':=(wK T NX D bT rr bN left2 cnt').and (C4 (D2 :: Ds))) (qA hF.kept hDf);obtain ⟨kn,hkn⟩:=eqv (bu (P4 T) q (if chE q 0=0 then 2 else 0));rw [<-hkn] at hF hs2;have hDs2:∀ E ∈ D2 :: Ds,w.heap.size<=E:=fun E hE => by
     rcases List.mem_cons.1 hE with rfl | hE
     .exact hD0
     exact hDs E hE
    refine E3 (wp_seq (rg hB a6 [107,44,5,6,1] [] [] hF fun X16 a0 w1 hF => ?_));refine a7 hF rfl (fun hbF hF => ?_) (fun hbF hF => ?_)
    .have hlt:kn < 2:=by
      have:(kn:Int) < 2:=by subst hB; simpa [std,a8] using hbF
      omega
     have hsd:K9 (P4 T) (nxP lv) b q el.r.abs=false:=by rw [hs2,decide_eq_false (by omega)]
     refine wp_seq (rg hB a6 [4] [] [] hF fun X17 a0 w1 hF => ?_);refine wp_ret (rsN (res:=fun _ => .bool (.v W)) hB a6 (D2 :: Ds) hF (fun E hE => ?_) ⟨0,fun _ => none,fun _ => 0,fun _ => .empty⟩ (he:=?he)).1
     .rcases List.mem_cons.1 hE with rfl | hE
      .exact ⟨vm (by omega) (by omega) (by omega),hD0⟩
      exact hhof E hE
     case he => rw [hbad hsd]; subst hB; exact Sim.bool rfl
    have hlt:¬ kn < 2:=by
     have:¬ (kn:Int) < 2:=by subst hB; simpa [std,a8] using hbF
     omega
    have hsd:K9 (P4 T) (nxP lv) b q el.r.abs=true:=by rw [hs2,decide_eq_true (by omega)]
    refine wp_skip ?_;exact ⟨(left2,cnt',D2 :: Ds),⟨(hnext hsd).1,(hnext hsd).2,hDs2⟩,hnx4,hF⟩
   exact hx.elim
  have hk2:¬ el.r.kd=2:=by subst hB; simpa [std,a8] using hbE
  have hsd:K9 (P4 T) (nxP lv) b q el.r.abs=false:=by
   unfold K9;rw [hp1,Bool.true_and];exact (if_neg hk1).trans (if_neg hk2)
  refine E3 (wp_seq (rg hB a6 [4] [] [] hF fun X14 a0 w1 hF => ?_));exact wp_ret (hRET rfl (hbad hsd) hF)
 have hbb:bb=false:=by subst hB; exact hbB
 have hall:=hn0 hbb;refine E3 (wp_exit ?_);replace hF:=hF.withK (K':=noK.and (C4 Ds)) ⟨trivial,hF.kept.2⟩;refine E3 (wp_seq (rg hB a6 [4] [] [] hF fun X8 a0 w1 hF => ?_));have hWt2:W=true:=by
  rw [hWt,List.all_eq_true];intro p hp
  rcases hsnd p hp with h1 | h1
  .rw [hall] at h1; cases h1
  exact h1
 refine wp_ret (rsN (res:=fun _ => .bool (.v W)) hB a6 Ds hF (fun E hE => ⟨fun _ _ => trivial,hDs E hE⟩) ⟨0,fun _ => none,fun _ => 0,fun _ => .empty⟩ (he:=?he)).1
 case he => rw [hWt2]; subst hB; exact Sim.bool rfl
end Go.Proofs.YtodelmejfpkicaaGreat.Sym
namespace Go.Proofs.YtodelmejfpkicaaGreat.Sym
open Go.RowKit
section
variable {P:Program} {Q Q':Exit -> Act -> World -> Prop}
theorem FQ {o:Oper} {a:Act} {w:World} {K K':Act -> World -> Prop} (hk:∀ a w,K a w -> K' a w) (hq:∀ e a w,e ≠ .normal -> Q e a w -> Q' e a w) (hh:o.wp P a w K Q):o.wp P a w K' Q':=by
 unfold Oper.wp at *
 generalize (execOp a.eval o).run P w=r at *
 cases r with
 | ok n w' =>
  cases n<;>simp only [Oper.upon] at hh ⊢ <;>
   first
    | exact hk _ _ hh
    | exact Calls.mono hh (fun e w'' he => by cases e<;>first | exact hk _ _ he | exact hq _ _ _ (by simp) he | exact he.elim fun a h => h.elim fun w h => ⟨a,w,hq _ _ _ (by simp) h⟩)
    | exact Rows.mono hh (fun _ _ he => hk _ _ he)
 | halt x w' => cases x<;>simp only [Oper.upon] at hh ⊢<;>first | exact hq _ _ _ (by simp) hh | exact hh | exact hh.elim fun a h => h.elim fun w h => ⟨a,w,hq _ _ _ (by simp) h⟩
end
section
variable {C:Cx} {P:Program} {Q:Exit -> Act -> World -> Prop} {T:List (Nat × TI)} {cs:List (Nat × CS)} {ops:Array Oper} {all:List Oper} {H:jh}
theorem oh {tb tz:List Nat} {Kf:Act -> World -> Prop} (hT:j9 P T) (hops:ops=all.toArray) (htb:∀ i j,co tb i j=true -> q8 all i j) (htz:∀ i j,co tz i j=true -> q8 all i j) (hH:aQ C P all H) {n0:Nat} (hz:∀ k,n0<=k -> k < ops.size -> ∀ j,j < n0 -> co tz k j=true) (hbase:∀ (listed:Array Bool) a w,listed.size=ops.size -> (∀ k,k < n0 -> listed.getD k false=true) -> (∀ k,n0<=k -> k < ops.size -> listed.getD k true=false) -> Kf a w -> wpAny P .any ops Q (ops.size - n0) listed a w) (hz4:n0<=ops.size):∀ (n:Nat) (L:List (Nat × Oper)) (fs:List B9) (listed:Array Bool) (s:St) (a:Act) (w:World),L.length=n -> b4 C s a w -> NM s (ds fs) -> Ord fs -> om tb L fs -> (∀ k o,all[k]? = some o -> listed.getD k false=true -> ∀ e ∈ o.after.toList,Region.binds .any e=true -> listed.getD e.on false=true) →
  L.Pairwise (fun x y => x.1 < y.1) -> (∀ x ∈ L,ops[x.1]? = some x.2/\listed.getD x.1 true=false) -> (∀ k o,k < n0 -> ops[k]? = some o -> listed.getD k true=false -> (k,o) ∈ L) -> (∀ k,n0<=k -> k < ops.size -> listed.getD k true=false) -> (∀ x ∈ L,x.1 < n0) -> listed.size=ops.size →
  (∀ x ∈ L,∀ e ∈ x.2.after.toList,Region.binds .any e=true -> e.on < x.1) →
  (∀ X,∃ τ obs,F2 std T cs H X all L s=some (τ,obs,fs)/\b5 P C.K obs/\∀ a' w',b4 C τ a' w' -> Kf a' w') -> wpAny P .any ops Q (n + (ops.size - n0)) listed a w
 | 0,L,fs,listed,s,a,w,hn,h,hNM,hF,hP,hDC,hsr,hL,hA,hZ,hLn,hsz,hE,hs => by
  have:L=[]:=List.eq_nil_of_length_eq_zero hn;subst this;obtain ⟨τ,obs,e1,_,e2⟩:=hs (fun _ => ⟨0,fun _ => none,fun _ => 0,fun _ => .empty⟩);simp only [F2,Option.some.injEq,Prod.mk.injEq] at e1;obtain ⟨rfl,_⟩:=e1;rw [Nat.zero_add];refine hbase listed a w hsz (fun k hk => ?_) hZ (e2 a w h)
  by_cases hl:listed.getD k false=true
  .exact hl
  have:=hA k _ hk (Array.getElem?_eq_getElem (by omega)) (cL (by rw [hsz]; omega) hl)
  cases this
 | n + 1,L,fs,listed,s,a,w,hn,h,hNM,hF,hP,hDC,hsr,hL,hA,hZ,hLn,hsz,hE,hs => by
  rw [show n + 1 + (ops.size - n0)=(n + (ops.size - n0)) + 1 by omega];refine ⟨fun hr => ?_,fun i hi => ?_⟩
  .-- the first one that is left may come up
   exfalso
   cases L with
   | nil => cases hn
   | cons x L =>
    obtain ⟨i0,o0⟩:=x;obtain ⟨h1,h2⟩:=hL (i0,o0) (by simp);have:i0 ∈ Region.ready .any ops listed:=mem_ready.2 ⟨h2,o0,h1,fun e he hb => by
     have hlt:=hE (i0,o0) (by simp) e (by simpa using he) hb;simp only at hlt;have hi0:i0 < ops.size:=(Array.getElem?_eq_some_iff.1 h1).1;have hon:e.on < listed.size:=by rw [hsz]; omega
     by_cases hl:listed.getD e.on false=true
     .exact hl
     exfalso
     have hm:=hA e.on _ (by have:=hLn (i0,o0) (by simp); simp only at this; omega) (Array.getElem?_eq_getElem (by omega)) (cL hon hl)
     rcases List.mem_cons.1 hm with he' | hm
     .injection he' with he'; omega
     have:=(List.pairwise_cons.1 hsr).1 _ hm;simp only at this; omega⟩
    rw [hr] at this
    cases this
  obtain ⟨h1,o,h2,h3⟩:=mem_ready.1 hi;have hi0:i < n0:=by
   refine Decidable.byContradiction fun hni => ?_
   cases L with
   | nil => cases hn
   | cons x L =>
    have hx0:=hLn x (by simp);have hw:=htz _ _ (hz i (by omega) (Array.getElem?_eq_some_iff.1 h2).1 x.1 (by omega));have h4:=nX hDC hw (fun o' e g1 g2 g3 => by
     have:o'=o:=by
      have e1:ops[i]? = some o':=by rw [hops]; simpa using g1
      rw [h2] at e1; injection e1 with e1; exact e1.symm
     subst this;exact h3 e (by simpa using g2) g3)
    have q5:=(hL x (by simp)).2;rw [F0 q5] at h4
    cases h4
  have hio:all[i]? = some o:=by rw [hops] at h2; simpa using h2
  have hin:=hA i o hi0 h2 h1;obtain ⟨L1,L2,rfl⟩:=List.append_of_mem hin;obtain ⟨fs1,f,fs2,hlen,rfl⟩:∃ fs1 f fs2,fs1.length=L1.length/\fs=fs1 ++ f :: fs2:=by
   have hl:=hP.1;simp only [List.length_append,List.length_cons] at hl;have hlt:L1.length < fs.length:=by omega
   refine ⟨fs.take L1.length,fs[L1.length],fs.drop (L1.length + 1),by simp; omega,?_⟩;rw [<-List.drop_eq_getElem_cons hlt,List.take_append_drop]
  obtain ⟨hP1,hcm⟩:=aD hlen hP.2;have hcomm:∀ g ∈ fs1,eQ g f=true:=by
   intro g hg;obtain ⟨k,hk⟩:=List.getElem?_of_mem hg;have hkl:k < L1.length:=by rw [<-hlen]; exact (List.getElem?_eq_some_iff.1 hk).1
   rcases hcm k _ g (List.getElem?_eq_getElem hkl) hk with he | he
   .exfalso
    have h5:=(hL L1[k] (List.mem_append_left _ (List.getElem_mem hkl))).2;have hr:=htb _ _ he;have dc:∀ {i j:Nat},q8 all i j -> (∀ o e,all[i]? = some o -> e ∈ o.after.toList -> Region.binds .any e=true -> listed.getD e.on false=true) -> listed.getD j false=true:=by
     intro i j hr
     induction hr with
     | one h1 h2 h3 h4 => intro hi; rw [<-h4]; exact hi _ _ h1 h2 h3
     | more h1 h2 h3 h4 ih => intro hi; exact ih fun o e g1 g2 g3 => hDC _ o g1 (hi _ _ h1 h2 h3) e g2 g3
    have h4:=dc hr fun o' e g1 g2 g3 => by
     have:o'=o:=by
      have e1:ops[i]? = some o':=by rw [hops]; simpa using g1
      rw [h2] at e1; injection e1 with e1; exact e1.symm
     subst this;exact h3 e (by simpa using g2) g3
    rw [F0 h5] at h4
    cases h4
   exact he
  have mf:∀ X,∃ δ ob,J8 std T cs H (X i) all i o s=some (δ,ob,f)/\b5 P C.K ob/\∃ τ' obs',F2 std T cs H X all (L1 ++ L2) (s.app δ)=some (τ',obs',fs1 ++ fs2)/\b5 P C.K obs'/\∀ a' w',b4 C τ' a' w' -> Kf a' w':=by
   intro X;obtain ⟨τ,obs,e1,e2,e3⟩:=hs X;obtain ⟨δ,ob,g1,τ',obs',g2,g3,g4⟩:=cF (P:=P) e1 hlen hNM hF hcomm;exact ⟨δ,ob,g1,(g4 e2).1,τ',obs',g2,(g4 e2).2,fun a' w' hf => e3 a' w' (hf.alike g3)⟩
  have hsrt:(L1 ++ L2).Pairwise (fun x y => x.1 < y.1):=hsr.sublist (List.Sublist.append_left (List.sublist_cons_self _ _) _);have hnot:∀ x ∈ L1 ++ L2,x.1 ≠ i:=by
   intro x hx;rw [List.pairwise_append] at hsr;obtain ⟨p1,p2,p3⟩:=hsr
   rcases List.mem_append.1 hx with hx | hx
   .have:=p3 x hx (i,o) (by simp); simp only at this; omega
   have:=(List.pairwise_cons.1 p2).1 x hx; simp only at this; omega
  have key:=iG (C:=C) (K:=fun a' w' => wpAny P .any ops Q (n + (ops.size - n0)) (listed.setIfInBounds i true) a' w') (Q:=Q) (cs:=cs) (i:=i) (o:=o) hT hH hio hops h (fun x => by
   obtain ⟨δ,ob,g1,g2,_⟩:=mf (fun _ => x);exact ⟨_,g1,g2⟩) (fun x r a' w' hr hf => by
   have hfo:=R6 hr;obtain ⟨δ,ob,f'⟩:=r;obtain ⟨δ0,ob0,g0,_⟩:=mf (fun _ => x);rw [hr] at g0;injection g0 with g0; injection g0 with q1 q2; injection q2 with q2 q3
   subst q1; subst q2; subst q3;have hinF:∀ g ∈ fs1 ++ fs2,g ∈ fs1 ++ f' :: fs2:=fun g hg => by
    rcases List.mem_append.1 hg with hg | hg
    .exact List.mem_append_left _ hg
    exact List.mem_append_right _ (List.mem_cons_of_mem _ hg)
   obtain ⟨n1,n2⟩:=cV hfo (gs:=fs1 ++ fs2) hNM (by simp) hinF (fun g hg => by
    rcases List.mem_append.1 hg with hg | hg
    .have:=hcomm g hg
     simp only [eQ,Bool.and_eq_true] at this;exact this.1.1.1.1.1.1.1.1.1
    exact (List.pairwise_cons.1 (List.pairwise_append.1 hF).2.1).1 g hg)
   refine oh hT hops htb htz hH hz hbase hz4 n (L1 ++ L2) (fs1 ++ fs2) (listed.setIfInBounds i true) (s.app δ) a' w' ?_ hf n2 ?_ ?_ ?_ hsrt ?_ ?_ (fun k hk hk' => by rw [getD_set_ne true (by omega)]; exact hZ k hk hk') ?_ (by simpa using hsz) ?_ ?_
   .simp at hn ⊢; omega
   .exact hF.sublist (List.Sublist.append_left (List.sublist_cons_self _ _) _)
   .refine ⟨?_,hP1⟩
    have:=hP.1;simp at this ⊢; omega
   .intro k ok hk hu e he hb
    by_cases hki:k=i
    .subst hki
     have:ok=o:=by
      have e1:ops[k]? = some ok:=by rw [hops]; simpa using hk
      rw [h2] at e1; injection e1 with e1; exact e1.symm
     subst this;have hl:=h3 e (by simpa using he) hb
     by_cases hei:e.on=k
     .have:=hE (k,ok) hin e he hb
      simp only at this; omega
     rw [getD_set_ne false (fun e' => hei e'.symm)]; exact hl
    rw [getD_set_ne false (fun e' => hki e'.symm)] at hu;have hl:=hDC k ok hk hu e he hb
    by_cases hei:e.on=i
    .rw [hei] at hl
     have h5:=(hL (i,o) hin).2;simp only at h5;rw [F0 h5] at hl; cases hl
    rw [getD_set_ne false (fun e' => hei e'.symm)]; exact hl
   .intro x' hx
    have hx':x' ∈ L1 ++ (i,o) :: L2:=by
     rcases List.mem_append.1 hx with hx | hx
     .exact List.mem_append_left _ hx
     exact List.mem_append_right _ (List.mem_cons_of_mem _ hx)
    obtain ⟨e1,e2⟩:=hL x' hx';refine ⟨e1,?_⟩;rw [getD_set_ne true (fun e => hnot x' hx e.symm)];exact e2
   .intro k ok hkn hk hu
    by_cases hki:k=i
    .subst hki
     have hlt:k < listed.size:=by rw [hsz]; exact (Array.getElem?_eq_some_iff.1 h2).1
     simp [Array.getD_eq_getD_getElem?,hlt] at hu
    rw [getD_set_ne true (fun e => hki e.symm)] at hu;have:=hA k ok hkn hk hu
    rcases List.mem_append.1 this with hx | hx
    .exact List.mem_append_left _ hx
    rcases List.mem_cons.1 hx with hx | hx
    .injection hx with hx; exact absurd hx hki
    exact List.mem_append_right _ hx
   .intro x' hx
    refine hLn x' ?_
    rcases List.mem_append.1 hx with hx | hx
    .exact List.mem_append_left _ hx
    exact List.mem_append_right _ (List.mem_cons_of_mem _ hx)
   .intro x' hx
    refine hE x' ?_
    rcases List.mem_append.1 hx with hx | hx
    .exact List.mem_append_left _ hx
    exact List.mem_append_right _ (List.mem_cons_of_mem _ hx)
   intro X;obtain ⟨Y,hY,hYX⟩:∃ Y:Nat -> f9,Y i=x/\∀ j,j ≠ i -> Y j=X j:=⟨fun j => if j=i then x else X j,by simp,fun j hj => by simp [hj]⟩
   obtain ⟨δ1,ob1,g1,_,τ',obs',g2,g3,g4⟩:=mf Y;rw [hY,hr] at g1;injection g1 with g1; injection g1 with q1 _
   subst q1;rw [bB _ _ (fun x' hx => hYX x'.1 (hnot x' hx))] at g2;exact ⟨τ',obs',g2,g3,g4⟩)
  unfold wpOp;simp only [h2]
  by_cases hw:Region.wanted o (yielded ops a.tmps)=true
  .rw [if_pos hw] at key ⊢
   exact .inl key
  rw [if_neg hw] at key ⊢;exact key
def QK (P:Program) (all:List Oper) (Q:Exit -> Act -> World -> Prop) (n1:Nat):Exit -> Act -> World -> Prop
 | .normal,a,w => ∀ listed:Array Bool,listed.size=all.toArray.size -> (∀ k,k < n1 -> listed.getD k false=true) -> (∀ k,n1<=k -> k < all.toArray.size -> listed.getD k true=false) -> wpAny P .any all.toArray Q (all.toArray.size - n1) listed a w
 | .ret,a,w => Q .ret a w
 | .exit i,a,w => Q (.exit i) a w
 | .goto i,a,w => Q (.goto i) a w
 | .panic c,a,w => Q (.panic c) a w
 | .outgrown,a,w => Q .outgrown a w
theorem GG {n1:Nat}:∀ e a w,e ≠ .normal -> QK P all Q n1 e a w -> Q e a w:=fun e a w h hq => by
 cases e with
 | normal => exact absurd rfl h
 | _ => exact hq
def vw (all:List Oper) (n0:Nat):Bool:=Nat.blt n0 all.length && V7 (j4 0 all) && (List.range all.length).all (fun k => Nat.blt k n0 || (List.range n0).all (fun j => co (R5 all []) k j)) && (List.range all.length).all (fun k => !(Nat.blt n0 k) || co (R5 all []) k n0)
theorem kY:∀ (L:List (Nat × Oper)),V7 L=true -> ∀ x ∈ L,∀ e ∈ x.2.after.toList,Region.binds .any e=true -> e.on < x.1:=by
 intro L
 induction L with
 | nil => intro _ x hx; cases hx
 | cons y L ih =>
  obtain ⟨i,o⟩:=y;intro hL x hx e he hb;simp only [V7,Bool.and_eq_true] at hL
  rcases List.mem_cons.1 hx with rfl | hx
  .have:=List.all_eq_true.1 hL.1 e he
   simpa [hb] using this
  exact ih hL.2 x hx e he hb
theorem cD:∀ (l:List Oper) (i:Nat),(j4 i l).length=l.length:=by
 intro l
 induction l with
 | nil => intro i; rfl
 | cons o l ih => intro i; simp [j4,ih]
theorem eo:∀ i j,co (R5 all []) i j=true -> q8 all i j:=aG (all:=all) (l:=all) (tb:=[]) rfl (fun i j h => by simp at h)
theorem vu {s:St} {a:Act} {w:World} {B:Alg} (hB:B=std) (n1:Nat) (hT:j9 P T) (kp km:List Nat) (cs:List (Nat × CS)) (h:b4 C s a w) (hgs:s.gs=[]) (fs:List B9) (hD:(dC (R5 all []) (j4 n1 (all.drop n1)) fs && V7 (j4 0 all) && wo fs && Nat.ble n1 all.length)=true) (hlen:(all.drop n1).length=fs.length)
  {R:Alg -> (Nat -> f9) -> St × List Ob}
  (hex:∀ A X,(F2 A T cs none X all (j4 n1 (all.drop n1)) s).map (fun r => ((r.1.keep kp km,r.2.1),r.2.2))=some (R A X,fs)) (hob:∀ X,b5 P C.K (R B X).2) (hQ:∀ X a' w',b4 C (R B X).1 a' w' -> Q .normal a' w'):wpList P all.toArray (QK P all Q n1) [] a w:=by
 subst hB;intro listed hsz hlo hhi;simp only [Bool.and_eq_true,Nat.ble_eq] at hD;obtain ⟨⟨⟨d1,d2⟩,d3⟩,d4⟩:=hD;have hsz0:all.toArray.size=all.length:=by simp
 have ed:=kY _ d2;have hed:∀ k o,all[k]? = some o -> ∀ e ∈ o.after.toList,Region.binds .any e=true -> e.on < k:=fun k o hk e he hb => by
  have:=J6 (i:=0) (l:=all) (k:=k) (o:=o) hk;rw [Nat.zero_add] at this;exact ed (k,o) this e he hb
 have hns:(j4 n1 (all.drop n1)).length=all.toArray.size - n1:=by rw [cD]; simp
 rw [show all.toArray.size - n1=(j4 n1 (all.drop n1)).length + (all.toArray.size - all.toArray.size) by rw [hns]; omega];refine oh (cs:=cs) (all:=all) (tb:=R5 all []) (tz:=R5 all []) (Kf:=fun a w => Q .normal a w) hT rfl eo eo G2 (n0:=all.toArray.size) (fun k hk hk' => by omega) (fun listed a w hsz hl _ hq => ?_) (Nat.le_refl _) _ (j4 n1 (all.drop n1)) fs _ s a w rfl h (fun t p v hl => by rw [hgs] at hl; cases hl) (ej d3) ⟨by rw [cD]; exact hlen,d1⟩ ?_ (K8 _ _) ?_ ?_ (fun k hk hk' => by omega) ?_ hsz ?_ ?_
 .rw [Nat.sub_self]
  refine ⟨?_,hq⟩
  cases hr:Region.ready .any all.toArray listed with
  | nil => rfl
  | cons i r =>
   obtain ⟨h1,o,h2,_⟩:=mem_ready.1 (hr ▸ List.mem_cons_self:i ∈ Region.ready .any all.toArray listed);have:=hl i (Array.getElem?_eq_some_iff.1 h2).1;rw [F0 h1] at this; cases this
 .intro k o hk hu e he hb
  have hlt:=hed k o hk e he hb
  by_cases hkn:k < n1
  .exact hlo _ (by omega)
  have hkl:=(List.getElem?_eq_some_iff.1 hk).1;have:=hhi k (by omega) (by omega);rw [F0 this] at hu; cases hu
 .intro x hx
  obtain ⟨h1,h2⟩:=G5 hx;rw [List.getElem?_drop,show n1 + (x.1 - n1)=x.1 by omega] at h2;exact ⟨by simpa using h2,hhi _ h1 (by rw [hsz0]; exact (List.getElem?_eq_some_iff.1 h2).1)⟩
 .intro k o _ hk hu
  have hk':all[k]? = some o:=by simpa using hk
  have hkl:=(List.getElem?_eq_some_iff.1 hk').1
  by_cases hkn:k < n1
  .have:=hlo k hkn
   rw [F0 hu] at this; cases this
  have:=J6 (i:=n1) (l:=all.drop n1) (k:=k - n1) (o:=o) (by rw [List.getElem?_drop,show n1 + (k - n1)=k by omega]; exact hk')
  rwa [show n1 + (k - n1)=k by omega] at this
 .intro x hx
  obtain ⟨h1,h2⟩:=G5 hx;rw [List.getElem?_drop,show n1 + (x.1 - n1)=x.1 by omega] at h2;rw [hsz0]; exact (List.getElem?_eq_some_iff.1 h2).1
 .intro x hx e he hb
  obtain ⟨h1,h2⟩:=G5 hx;rw [List.getElem?_drop,show n1 + (x.1 - n1)=x.1 by omega] at h2;exact hed _ _ h2 e he hb
 intro X;obtain ⟨r,hr,e⟩:=Option.map_eq_some_iff.1 (hex std X);obtain ⟨τ,obs,fs'⟩:=r;simp only [Prod.mk.injEq] at e;obtain ⟨e1,rfl⟩:=e;refine ⟨τ,obs,hr,?_,fun a' w' hf' => hQ X a' w' ?_⟩
 .have:=hob X; rw [<-e1] at this; exact this
 rw [<-e1]; exact hf'.keep kp km
theorem rh {s:St} {a:Act} {w:World} {id:Nat} {B:Alg} (hB:B=std) (n0:Nat) (hm:P.follows .mixedOrders=true) (hT:j9 P T) (kp km:List Nat) (cs:List (Nat × CS)) (h:b4 C s a w) (hgs:s.gs=[]) (fs:List B9) (hD:Z6 (all.take n0) fs=true) (hZ:vw all n0=true) (hlen:(all.take n0).length=fs.length)
  {R:Alg -> (Nat -> f9) -> St × List Ob} {o:Oper} (ho:all[n0]? = some o)
  (hex:∀ A X,(F2 A T cs none X all (j4 0 (all.take n0)) s).map (fun r => ((r.1.keep kp km,r.2.1),r.2.2))=some (R A X,fs)) (hob:∀ X,b5 P C.K (R B X).2) (hQ:∀ X a' w',b4 C (R B X).1 a' w' -> wpList P all.toArray (QK P all Q (n0 + 1)) [o] a' w'):(Code.region id all.toArray true).wp P Q a w:=by
 subst hB;refine wp_region_any hm ?_;simp only [Z6,Bool.and_eq_true] at hD;obtain ⟨⟨d1,d2⟩,d3⟩:=hD;simp only [vw,Bool.and_eq_true,Nat.blt_eq] at hZ;obtain ⟨⟨⟨hn0,hZe⟩,hZ⟩,hZn⟩:=hZ;have hsz0:all.toArray.size=all.length:=by simp
 have hf:b4 C s a { w with drawn:=w.drawn + 1 }:=h.world (fun _ _ _ => rfl) (fun _ _ _ _ _ => rfl) ⟨h.chg.os,h.chg.tape,h.chg.output,h.chg.size,h.chg.block⟩ (fun _ _ _ hc _ => hc) (fun _ _ h _ => h);have htk:(all.take n0).length=n0:=by simp; omega
 have hsz:all.toArray.size=(j4 0 (all.take n0)).length + (all.toArray.size - n0):=by rw [cD,htk]; omega
 have hgt:∀ {k o},(all.take n0)[k]? = some o -> all[k]? = some o/\k < n0:=by
  intro k o hk;have hlt:=(List.getElem?_eq_some_iff.1 hk).1;rw [htk] at hlt;rw [List.getElem?_take,if_pos hlt] at hk;exact ⟨hk,hlt⟩
 have hlst:∀ k (b:Bool),k < all.length -> (Array.replicate all.toArray.size false).getD k b=false:=by
  intro k b hk;have:k < all.toArray.size:=by simpa using hk
  simp [Array.getD_eq_getD_getElem?,hk]
 have hmk:∀ i j,co (R5 (all.take n0) []) i j=true -> q8 all i j:=by
  intro i j hij;have:=aG (all:=all.take n0) (l:=all.take n0) (tb:=[]) rfl (fun i j h => by simp at h) i j hij;have conv:∀ {i j},q8 (all.take n0) i j -> q8 all i j:=by
   intro i j hw
   induction hw with
   | one h1 h2 h3 h4 => exact .one (hgt h1).1 h2 h3 h4
   | more h1 h2 h3 h4 ih => exact .more (hgt h1).1 h2 h3 ih
  exact conv this
 have hed:∀ k o,all[k]? = some o -> ∀ e ∈ o.after.toList,Region.binds .any e=true -> e.on < k:=fun k o hk e he hb => by
  have:=J6 (i:=0) (l:=all) (k:=k) (o:=o) hk;rw [Nat.zero_add] at this;exact kY _ hZe (k,o) this e he hb
 have hoa:all.toArray[n0]? = some o:=by simpa using ho
 rw [show wpAny P .any all.toArray Q all.toArray.size=wpAny P .any all.toArray Q ((j4 0 (all.take n0)).length + (all.toArray.size - n0)) by rw [<-hsz]];refine oh (cs:=cs) (all:=all) (tb:=R5 (all.take n0) []) (tz:=R5 all []) (Kf:=fun a w => wpList P all.toArray (QK P all Q (n0 + 1)) [o] a w) hT rfl hmk eo G2 (n0:=n0) (fun k hk hk' j hj => ?_) (fun listed a w hls hlo hhi hq => ?_) (by omega) _ (j4 0 (all.take n0)) fs _ s a _ rfl hf (fun t p v hl => by rw [hgs] at hl; cases hl) (ej d3) ⟨by rw [cD]; exact hlen,d1⟩ ?_ (K8 _ 0) ?_ ?_ ?_ ?_ ?_ (kY _ d2) ?_
 .have:=List.all_eq_true.1 hZ k (List.mem_range.2 (by omega))
  simp only [Bool.or_eq_true,Nat.blt_eq] at this
  rcases this with h | h
  .omega
  exact List.all_eq_true.1 h j (List.mem_range.2 hj)
 .-- the one by hand
  rw [show all.toArray.size - n0=(all.toArray.size - (n0 + 1)) + 1 by omega];have hdc:∀ k o,all[k]? = some o -> listed.getD k false=true -> ∀ e ∈ o.after.toList,Region.binds .any e=true -> listed.getD e.on false=true:=fun k o hk hu e he hb => by
   have hlt:=hed k o hk e he hb;have hkl:=(List.getElem?_eq_some_iff.1 hk).1
   by_cases hkn:k < n0
   .exact hlo _ (by omega)
   have:=hhi k (by omega) (by omega);rw [F0 this] at hu; cases hu
  refine ⟨fun hr => ?_,fun i hi => ?_⟩
  .exfalso
   have:n0 ∈ Region.ready .any all.toArray listed:=mem_ready.2 ⟨hhi n0 (Nat.le_refl _) (by omega),o,hoa,fun e he hb => hlo _ (hed n0 o ho e (by simpa using he) hb)⟩;rw [hr] at this; cases this
  obtain ⟨h1,o',h2,h3⟩:=mem_ready.1 hi;have hil:=(Array.getElem?_eq_some_iff.1 h2).1;have hik:i=n0:=by
   refine Decidable.byContradiction fun hne => ?_
   by_cases hlt:i < n0
   .have:=hlo i hlt
    rw [F0 h1] at this; cases this
   have hz:=List.all_eq_true.1 hZn i (List.mem_range.2 (by omega));simp only [Bool.or_eq_true,Bool.not_eq_true',Nat.blt_eq] at hz;have hz':co (R5 all []) i n0=true:=by
    rcases hz with h | h
    .exfalso
     have:Nat.blt n0 i=true:=by rw [Nat.blt_eq]; omega
     rw [this] at h; cases h
    exact h
   have h4:=nX hdc (eo _ _ hz') (fun o'' e g1 g2 g3 => by
    have:o''=o':=by
     have e1:all.toArray[i]? = some o'':=by simpa using g1
     rw [h2] at e1; injection e1 with e1; exact e1.symm
    subst this;exact h3 e (by simpa using g2) g3)
   have:=hhi n0 (Nat.le_refl _) (by omega);rw [F0 this] at h4; cases h4
  subst hik;have:o'=o:=by rw [hoa] at h2; injection h2 with h2; exact h2.symm
  subst this;have fin:∀ a w,wpList P all.toArray (QK P all Q (i + 1)) [] a w -> wpAny P .any all.toArray Q (all.toArray.size - (i + 1)) (listed.setIfInBounds i true) a w:=by
   intro a w hq';refine hq' _ (by simpa using hls) (fun j hj => ?_) (fun j hj hj' => ?_)
   .by_cases hji:j=i
    .subst hji; simp [Array.getD_eq_getD_getElem?,hls,hil]; exact hsz0 ▸ hil
    rw [getD_set_ne false (fun e' => hji e'.symm)]; exact hlo j (by omega)
   rw [getD_set_ne true (by omega)]; exact hhi j (by omega) hj'
  unfold wpOp;simp only [h2];unfold wpList at hq
  by_cases hw:Region.wanted o' (yielded all.toArray a.tmps)=true
  .rw [if_pos hw] at hq ⊢
   rcases hq with hq | ⟨hq1,hq2⟩
   .exact .inl (FQ fin GG hq)
   exact .inr ⟨hq1,hq2.elim fun a h => h.elim fun w h => ⟨a,w,h⟩⟩
  rw [if_neg hw] at hq ⊢;exact fin _ _ hq
 .intro k o hk hu
  exfalso
  rw [hlst k false (List.getElem?_eq_some_iff.1 hk).1] at hu
  cases hu
 .intro x hx
  obtain ⟨h1,h2⟩:=G5 hx;rw [Nat.sub_zero] at h2;obtain ⟨h3,_⟩:=hgt h2;exact ⟨by simpa using h3,hlst _ _ (List.getElem?_eq_some_iff.1 h3).1⟩
 .intro k o hkn hk _
  have hk':(all.take n0)[k]? = some o:=by rw [List.getElem?_take,if_pos hkn]; simpa using hk
  have:=J6 (i:=0) (l:=all.take n0) (k:=k) (o:=o) hk'
  rwa [Nat.zero_add] at this
 .intro k _ hk
  exact hlst _ _ (by simpa using hk)
 .intro x hx
  obtain ⟨h1,h2⟩:=G5 hx;rw [Nat.sub_zero] at h2;exact (hgt h2).2
 .simp
 intro X;obtain ⟨r,hr,e⟩:=Option.map_eq_some_iff.1 (hex std X);obtain ⟨τ,obs,fs'⟩:=r;simp only [Prod.mk.injEq] at e;obtain ⟨e1,rfl⟩:=e;refine ⟨τ,obs,hr,?_,fun a' w' hf' => hQ X a' w' ?_⟩
 .have:=hob X; rw [<-e1] at this; exact this
 rw [<-e1]; exact hf'.keep kp km
end
end Go.Proofs.YtodelmejfpkicaaGreat.Sym
namespace Go.Proofs.YtodelmejfpkicaaGreat.Sym
open Go Go.RowKit
def zJ:i6:=⟨0,⟨0,0⟩,0,0,⟨#[]⟩,0,none,0,0,fun _ => 0,0,0,0,0,0,0,0⟩
theorem Em:bF zJ:=⟨⟨by decide,by decide⟩,⟨by decide,by decide⟩,⟨by decide,by decide⟩⟩
theorem BX (g:Option Nat) (k:Nat) (f:Nat -> List AV):D9 [.agg [.int .i64 0,.int .i64 0,.int .u64 0,.int .u64 0,.int .u64 0,.str ⟨#[]⟩,.int .i64 0,.sl none none 0 0 1 (fun _ => []),.int .u32 0,.int .u32 0,.int .u32 0,.int .u32 0,.int .i64 0,.int .i64 0,.int .i64 0],.sl g none 0 0 k f] [U2 zJ,cg none 0 0 (fun _ => ox)]:=⟨Sim.agg ⟨zr,zr,zr,zr,zr,zr,zr,Sim.nils,zr,zr,zr,zr,zr,zr,zr,trivial⟩,Sim.nils,trivial⟩
theorem EU {l:List Rw} (h:∀ w ∈ l,w.r.items.length<=1000000/\k4 w.lab/\U64 w.lab.bits/\U64 w.r.next.bits) (y:f9):RwN l.length (W8 y l):=by
 intro i hi;unfold W8;rw [List.getD_eq_getElem?_getD,List.getElem?_eq_getElem hi];exact h _ (List.getElem_mem hi)
theorem Ck {l:List Rw} (h:∀ w ∈ l,∀ x ∈ w.r.items,U64 x.key) (y:f9):RwK l.length (W8 y l):=by
 intro i hi t ht;unfold W8 at ht ⊢;rw [List.getD_eq_getElem?_getD,List.getElem?_eq_getElem hi] at ht ⊢;have ht:t < (l[i].r.items).length:=ht
 show U64 ((l[i].r.items).getD t r7).key
 rw [List.getD_eq_getElem?_getD,List.getElem?_eq_getElem ht];exact h _ (List.getElem_mem hi) _ (List.getElem_mem ht)
theorem yn:E4 zJ 0 (fun _ => ox)=(zWq,1):=by kernel_rfl
theorem Fm:∀ r ∈ mdX,RwG r:=by
 intro r hr;simp only [mdX,List.mem_cons,List.not_mem_nil,or_false] at hr
 rcases hr with rfl | rfl | rfl
 .exact ⟨⟨by decide,by decide⟩,⟨by decide,by decide⟩,⟨by decide,by decide⟩,fun x hx => by cases hx⟩
 .refine ⟨⟨by decide,by decide⟩,⟨by decide,by decide⟩,⟨by decide,by decide⟩,fun x hx => ?_⟩
  simp only [List.mem_cons,List.not_mem_nil,or_false] at hx;subst hx; exact ⟨by decide,by decide⟩
 refine ⟨⟨by decide,by decide⟩,⟨by decide,by decide⟩,⟨by decide,by decide⟩,fun x hx => ?_⟩;simp only [List.mem_cons,List.not_mem_nil,or_false] at hx;subst hx; exact ⟨by decide,by decide⟩
theorem Fl:∀ r ∈ mdY,RwG r:=by
 intro r hr;simp only [mdY,List.mem_cons,List.not_mem_nil,or_false] at hr
 rcases hr with rfl | rfl | rfl
 .exact ⟨⟨by decide,by decide⟩,⟨by decide,by decide⟩,⟨by decide,by decide⟩,fun x hx => by cases hx⟩
 .refine ⟨⟨by decide,by decide⟩,⟨by decide,by decide⟩,⟨by decide,by decide⟩,fun x hx => ?_⟩
  simp only [List.mem_cons,List.not_mem_nil,or_false] at hx;subst hx; exact ⟨by decide,by decide⟩
 refine ⟨⟨by decide,by decide⟩,⟨by decide,by decide⟩,⟨by decide,by decide⟩,fun x hx => ?_⟩;simp only [List.mem_cons,List.not_mem_nil,or_false] at hx;subst hx; exact ⟨by decide,by decide⟩
theorem Fp:dW mdL:=ia Fm wM
theorem Fo:dW mdM:=ia Fl zB
def zC (y:f9) (i:Nat):l5:=if i=2 then ⟨(W8 y mdR 2).lab,(W8 y mdR 2).ver,⟨(W8 y mdR 2).x.A,(W8 y mdR 2).x.c,⟨(W8 y mdR 2).x.r.n,(W8 y mdR 2).x.r.f,(W8 y mdR 2).x.r.kd,⟨0,0⟩,(W8 y mdR 2).x.r.mrk⟩⟩⟩ else W8 y mdR i
theorem uk (y:f9):r9 (zC y) 3=mdX:=rfl
theorem CW (y:f9):RwN 3 (zC y):=fun i hi => by
 match i,hi with
 | 0,_ => exact ⟨by show (0:Nat)<=_; decide,(⟨by decide,by decide⟩:k4 ⟨0,0⟩),(⟨by decide,by decide⟩:U64 0),(⟨by decide,by decide⟩:U64 0)⟩
 | 1,_ => exact ⟨by show (1:Nat)<=_; decide,(⟨by decide,by decide⟩:k4 ⟨1,0⟩),(⟨by decide,by decide⟩:U64 0),(⟨by decide,by decide⟩:U64 9223372036854775808)⟩
 | 2,_ => exact ⟨by show (1:Nat)<=_; decide,(⟨by decide,by decide⟩:k4 ⟨1,9223372036854775808⟩),(⟨by decide,by decide⟩:U64 9223372036854775808),(⟨by decide,by decide⟩:U64 0)⟩
theorem Fj (y:f9):RwN 3 (W8 y mdY):=EU (l:=mdY) (by
 intro w hw;simp only [mdY,List.mem_cons,List.not_mem_nil,or_false] at hw
 rcases hw with rfl | rfl | rfl<;>exact ⟨by decide,bX (by decide) ⟨by decide,by decide⟩,⟨by decide,by decide⟩,⟨by decide,by decide⟩⟩) y
theorem Fk (y:f9):RwK 3 (W8 y mdY):=Ck (l:=mdY) (by
 intro w hw;simp only [mdY,List.mem_cons,List.not_mem_nil,or_false] at hw
 rcases hw with rfl | rfl | rfl
 .intro x hx; cases hx
 .intro x hx
  simp only [List.mem_cons,List.not_mem_nil,or_false] at hx;subst hx; exact ⟨by decide,by decide⟩
 intro x hx;simp only [List.mem_cons,List.not_mem_nil,or_false] at hx;subst hx; exact ⟨by decide,by decide⟩) y
theorem Fi (b:Int):j5 Tryz.prog 47 [.int .i64 b] (fun _ => U2 (mdJ b)):=by
 intro m w hm hargs;refine en 5 hm hargs Tryz.func47 fun B hB a0 hF => ?_
 refine wp_seq (rg hB a6 [0,2] [2] [] hF fun X0 a0 w1 hF => ?_);refine wp_seq (rg hB a6 [2] [2] [] hF fun X1 a0 w1 hF => ?_);refine wp_ret ((rsi hB a6 hF f4 (he:=?_)));subst hB;exact Sim.agg ⟨zr,zr,zr,zr,zr,zr,zr,Sim.nils,zr,zr,zr,zr,zr,zr,zr,trivial⟩
theorem dE:j5 Tryz.prog 39 [] (fun _ => .bool .tt):=by
 intro m w hm hargs;have hmx:maxLen=9223372036854775807:=rfl;have SJ:=Fi 1;obtain ⟨n1,hq1⟩:=CT;obtain ⟨n2,hq2⟩:=zy;have SB:=fun (A:Option Addr) (c:Nat) => AO A 2 c mdF (by decide) (fun i hi => by match i,hi with | 0,_ => exact ⟨by decide,by decide⟩ | 1,_ => exact ⟨by decide,by decide⟩) 1
 simp only [zA,CU,show mdR.length=3 from rfl] at SB;obtain ⟨RF,hRF⟩:∃ RF:f9 -> Nat -> l5,RF=fun y => W8 y mdR:=⟨_,rfl⟩
 have hRy:∀ y,W8 y mdR=RF y:=fun y => by rw [hRF]
 simp only [hRy,l4] at SB;obtain ⟨RG,hRG⟩:∃ RG:f9 -> Nat -> l5,RG=fun y => W8 y mdY:=⟨_,rfl⟩
 have hRz:∀ y,W8 y mdY=RG y:=fun y => by rw [hRG]
 have SWl:=fun (y:f9) (A:Option Addr) (c:Nat) => BY A 3 c (RG y) (by decide) (by rw [<-hRz]; exact Fj y) (by rw [<-hRz]; exact Fk y) 1
 have hRR:∀ y,r9 (RG y) 3=mdY:=fun y => by rw [hRG]; exact tR y mdY
 simp only [hRR,zx] at SWl;obtain ⟨W1,hW1⟩:=eqv (((zWq,(1:Int))).1);obtain ⟨E1,hE1⟩:=eqv (((zWq,(1:Int))).2);obtain ⟨rr1,hrr1⟩:=eqv (W1.r.rn);obtain ⟨nn1,hnn1⟩:=eqv (W1.res.items.length);obtain ⟨ff1,hff1⟩:=eqv (itF W1.res.items);have T1:=j5.wq (by have h:=(nz zJ Em none 0 0 (fun _ => ox) (by omega) (fun j hj => absurd hj (Nat.not_lt_zero _))); rw [yn] at h; exact h) hW1 hE1 hrr1 hnn1 hff1;have S1:∀ g k fz,j5 Tryz.prog 40 [.agg [.int .i64 0,.int .i64 0,.int .u64 0,.int .u64 0,.int .u64 0,.str ⟨#[]⟩,.int .i64 0,.sl none none 0 0 1 (fun _ => []),.int .u32 0,.int .u32 0,.int .u32 0,.int .u32 0,.int .i64 0,.int .i64 0,.int .i64 0],.sl g none 0 0 k fz] (fun x => .tup [B5 (wqB x W1 rr1 nn1 ff1),.int .i64 E1]):=fun g k fz => T1.sim (BX g k fz)
 refine en 112 hm hargs Tryz.func39 fun B hB a0 hF => ?_
 refine wp_seq (rg hB a6 [] [] [] hF fun X0 a0 w1 hF => ?_);refine wp_seq (rg hB a6 [1,2] [18] [(3,.r fun y => .tup [.sl none (y.A 0) 3 (y.c 0) 8 (fun i => u7 (RF y i)),.int .i64 0])] hF (hob:=?hob) fun X1 a0 w1 hF => ?_)
 case hob =>
  intro X;subst hB
  repeat (first | exact trivial | refine ⟨rfl,?_⟩ | refine ⟨fun _ => rfl,?_⟩ | refine ⟨⟨fun _ _ => by kernel_rfl,((SB _ _).args' ⟨Sim.recell (fun i hi => by match i,hi with | 0,_ => rfl | 1,_ => rfl),zr,trivial⟩)⟩,?_⟩ | refine ⟨fun _ => ⟨fun _ _ => by kernel_rfl,((SB _ _).args' ⟨Sim.recell (fun i hi => by match i,hi with | 0,_ => rfl | 1,_ => rfl),zr,trivial⟩)⟩,?_⟩ | refine ⟨fun _ => f8 (Kk:=noK) _ _ _ _,?_⟩ | refine ⟨fun _ => ⟨by decide,by decide⟩,?_⟩)
 refine wp_seq (wp_seq (rg hB a6 [28,1] [18] [] hF fun X2 a0 w1 hF => ?_));apply a7 hF rfl<;>intro hb hF
 .exfalso
  subst hB; simp [std,a8,BE.den] at hb
 skip
 refine wp_skip (wp_seq (rg hB a6 [1,3] [3] [] hF (hob:=?hob) fun X4 a0 w1 hF => ?_))
 case hob =>
  intro X;subst hB
  repeat (first | exact trivial | refine ⟨rfl,?_⟩ | refine ⟨⟨by decide,by decide⟩,?_⟩)
 refine wp_seq (rg hB a6 [1,3] [3] [] hF fun X5 a0 w1 hF => ?_);apply wp_seq;apply rh hB 8 (by kernel_rfl) a6 [43] [] [] hF rfl
 case hex => intro A X; conv => lhs; cbv
 case hD => kernel_rfl
 case hZ => kernel_rfl
 case hlen => rfl
 case ho => rfl
 case hob =>
  intro X;subst hB
  repeat (first | exact trivial | refine ⟨rfl,?_⟩ | refine ⟨⟨by decide,by decide⟩,?_⟩)
 case hQ =>
 intro X6 a0 w1 hF;have SN:=sg (some { block:=(X6 7).b,off:=0 }) 3 3 (zC (X1 3)) (by omega) (CW (X1 3)) 900 (L:=mdL) (by rw [uk]; exact wM);refine D7 rfl rfl rfl rfl hF rfl rfl kW (SN) (fun _ _ _ => trivial) (fun b hb => by cases hb) ⟨Sim.recell (fun i hi => by subst hB; unfold zC; simp only [hRy]; match i,hi with | 0,_ => rfl | 1,_ => rfl | 2,_ => rfl),trivial⟩ (by intro e he; cases he) rfl rfl (fun y => shF w.heap.size (y.c 0) mdL) (fun n x m w m' w' hn _ _ h => ⟨Nat.le_trans hn h.1,h.2⟩) ?_;intro y a0 w1 hF;obtain ⟨sb,hsb⟩:=eqv (y.b);obtain ⟨bM,hbM⟩:=eqv (y.c 0);rw [<-hsb,<-hbM] at hF;have hbfr:w.heap.size<=bM:=hF.kept.1;replace hF:=hF.withK (K':=shK bM mdL) hF.kept.2;apply vu hB 9 a6 [4,5] [900] [] hF rfl
 case hex => intro A X; conv => lhs; cbv
 case hD => kernel_rfl
 case hlen => rfl
 case hob =>
  intro X;subst hB
  repeat (first | exact trivial | refine ⟨rfl,?_⟩ | refine ⟨⟨by decide,by decide⟩,?_⟩)
 case hQ =>
 intro X6_1 a0 w1 hF;refine wp_seq (wp_seq (rg hB a6 [52,4] [900] [] hF fun X7 a0 w1 hF => ?_));apply a7 hF rfl<;>intro hb hF
 .exfalso
  subst hB; simp [std,a8,BE.den] at hb
 skip
 have O1:=SJ;refine wp_skip (wp_seq (wp_region_lit (lpr 0 2 hB a6 [54,55,4] [900] [(1,.r fun _ => U2 (mdJ 1))] hF fun X9_0 a0 w1 hF => ?_)));have SD:=rS 900 sb bM (mdJ 1) (wN 1) rfl mdL Fp 0;rw [hq1] at SD;have SE:J4 Tryz.prog 46 [.ptr 900 sb 0,U2 (mdJ 1),.int .i64 3000] [(900,⟨sb,113,[.raw (.map (some bM)),.int .i64 0]⟩)] (some bM) (shK bM mdL) (fun y => ⟨.tup [.agg [.int .i64 0,.bool (.v false),.str ⟨#[]⟩,.sl none (y.A 2) 0 (y.c 2) 2 (fun i => itC (itF [] i)),.int .u64 2,.bool (.v false)],.bool (.v true),.bool (.v true)],[(900,[.raw (.map (some bM)),.int .i64 1])],[]⟩) (fun _ _ => shK bM mdM):=SD;refine D7 rfl rfl rfl rfl hF rfl rfl pI SE (fun _ _ h => h) (fun b hb => by cases hb; exact fun h => absurd h (Nat.not_lt.2 hbfr)) ⟨zr,zr,zr,trivial⟩ (by intro e he; simp only [List.mem_singleton] at he; subst he; rfl) rfl rfl (fun _ => shK bM mdM) (fun _ _ _ _ _ _ _ _ _ h => h) ?_;intro y a0 w1 hF;replace hF:=hF.withK (K':=shK bM mdM) hF.kept;refine lnd 3 hB a6 [4,6,7,8] [900,6] [(1,.r fun _ => U2 (mdJ 1))] hF fun X9 a0 w1 hF => ?_
 have SW:=oy (shK bM mdM) 900 sb bM 1;refine wp_seq (rg hB a6 [4,6,7,8,9] [900,6] [(1,.g [900] fun _ => .int .i64 1)] hF (hob:=?hob) fun X10 a0 w1 hF => ?_)
 case hob =>
  intro X;subst hB
  repeat (first | exact trivial | refine ⟨rfl,?_⟩ | refine ⟨fun _ => rfl,?_⟩ | refine ⟨⟨fun _ _ => by kernel_rfl,SW⟩,?_⟩ | refine ⟨fun _ => ⟨fun _ _ => by kernel_rfl,SW⟩,?_⟩ | refine ⟨fun _ => f8 (Kk:=noK) _ _ _ _,?_⟩ | refine ⟨fun _ => ⟨by decide,by decide⟩,?_⟩)
 have O1:=SJ;refine wp_seq (wp_region_lit (lpr 0 2 hB a6 [63,64,4,6,7,8,9] [900,6] [(1,.r fun _ => U2 (mdJ 1))] hF fun X11_0 a0 w1 hF => ?_));have SD:=rS 900 sb bM (mdJ 1) (wN 1) rfl mdM Fo 1;rw [hq2] at SD;have SE:J4 Tryz.prog 46 [.ptr 900 sb 0,U2 (mdJ 1),.int .i64 3000] [(900,⟨sb,113,[.raw (.map (some bM)),.int .i64 1]⟩)] (some bM) (shK bM mdM) (fun y => ⟨.tup [.agg [.int .i64 0,.bool (.v false),.str ⟨#[]⟩,.sl none (y.A 2) 0 (y.c 2) 2 (fun i => itC (itF [] i)),.int .u64 2,.bool (.v false)],.bool (.v true),.bool (.v true)],[(900,[.raw (.map (some bM)),.int .i64 1])],[]⟩) (fun _ _ => shK bM mdM):=SD;refine D7 rfl rfl rfl rfl hF rfl rfl pI SE (fun _ _ h => h) (fun b hb => by cases hb; exact fun h => absurd h (Nat.not_lt.2 hbfr)) ⟨zr,zr,zr,trivial⟩ (by intro e he; simp only [List.mem_singleton] at he; subst he; rfl) rfl rfl (fun _ => shK bM mdM) (fun _ _ _ _ _ _ _ _ _ h => h) ?_;intro y a0 w1 hF;replace hF:=hF.withK (K':=shK bM mdM) hF.kept;have SW:=oy (shK bM mdM) 900 sb bM 1;have SR1:=Cp 900 sb bM mdM (by decide) 1;rw [wL,show mdY.length=3 from rfl] at SR1;simp only [hRz] at SR1;refine lnd 3 hB a6 [4,6,7,8,9,11,12] [900,6] [(1,.r fun _ => U2 (mdJ 1))] hF fun X11 a0 w1 hF => ?_
 apply wp_seq;refine rg hB a6 [4,6,7,8,9,11,12,14] [900,6] [(1,.r fun x => .tup [.agg [.int .i64 W1.kind,.int .i64 W1.lab.len,.int .u64 W1.lab.bits,.int .u64 W1.ver,.int .i64 rr1.kd,.sl none (x.A 1) rr1.n (x.c 1) 2 (fun i => itC (rr1.f i)),.int .i64 rr1.nx.len,.int .u64 rr1.nx.bits,.int .u64 rr1.mrk,.int .i64 W1.res.code,.bool (.v W1.res.had),.str W1.res.val,.sl none (x.A 2) nn1 (x.c 2) 2 (fun i => itC (ff1 i)),.int .u64 W1.res.key,.bool (.v W1.res.more)],.int .i64 E1])] hF (hob:=by intro X; subst hB; simp only [b5,Ob.holds,BE.den]<;>and_intros<;>repeat first | trivial | rfl | exact S1 _ _ _ | exact (fun _ _ => by kernel_rfl) | refine ⟨?_,?_⟩ | intro h | exact Int.le_refl _ | decide | omega) fun X12 a0 w1 hF => ?_
 refine wp_seq (rg hB a6 [0] [900] [(26,.g [900] fun _ => .int .i64 1),(31,.g [900] fun y => .sl none (y.A 0) 3 (y.c 0) 8 (fun i => u7 (RG y i))),(32,.r fun _ => .bool (.v true))] hF (hob:=?hob) fun X13 a0 w1 hF => ?_)
 case hob =>
  intro X;subst hB
  repeat (first | exact trivial | refine ⟨rfl,?_⟩ | refine ⟨fun _ => rfl,?_⟩ | refine ⟨⟨fun _ _ => by kernel_rfl,SW⟩,?_⟩ | refine ⟨fun _ => ⟨fun _ _ => by kernel_rfl,SW⟩,?_⟩ | refine ⟨⟨fun _ _ => by kernel_rfl,SR1⟩,?_⟩ | refine ⟨fun _ => ⟨fun _ _ => by kernel_rfl,SR1⟩,?_⟩ | refine ⟨⟨fun _ _ => by kernel_rfl,SWl _ _ _⟩,?_⟩ | refine ⟨fun _ => ⟨fun _ _ => by kernel_rfl,SWl _ _ _⟩,?_⟩ | refine ⟨fun _ => f8 (Kk:=noK) _ _ _ _,?_⟩ | refine ⟨fun _ => ⟨by decide,by decide⟩,?_⟩)
 refine wp_ret ((rsi hB a6 hF f4 (he:=?_)));subst hB;refine Sim.bool ?_;simp [std,a8,BE.den,lu,hE1]
theorem vE (cd:Int) (hd:Bool) (vl:ByteArray) (A:Option Addr) (n c:Nat) (A2:Option Addr) (c2:Nat) (f:Nat -> Itm) (k:Int) (mr:Bool):j5 Tryz.prog 65 [.agg [.int .i64 cd,.bool (.v hd),.str vl,.sl none A n c 2 (fun i => itC (f i)),.int .u64 k,.bool (.v mr)],.agg [.int .i64 cd,.bool (.v hd),.str vl,.sl none A2 n c2 2 (fun i => itC (f i)),.int .u64 k,.bool (.v mr)]] (fun _ => .bool .tt):=by
 intro m w hm hargs;have hn:n<=maxLen:=by
  have h9:=hargs _ (List.mem_cons_self ..);have:=gX (ww h9 (.sl none A n c 2 (fun i => itC (f i))) (by simp));omega
 have S:=rQ A n c f hn A2 n c2 f;rw [show cT n f n f=true from gO rfl fun _ _ => rfl] at S;simp only [l4] at S;refine en 45 hm hargs Tryz.func65 fun B hB a0 hF => ?_
 refine wp_seq (rg hB a6 [2,3] [2,3] [] hF fun X0 a0 w1 hF => ?_);have O1:=S;refine wp_seq (rg hB a6 [4] [] [(24,.r fun _ => .bool (.v true))] hF fun X1 a0 w1 hF => ?_);refine wp_ret ((rsi hB a6 hF f4 (he:=?_)));subst hB;refine Sim.bool ?_;simp [std,a8,nc,BE.den,lu]
 try exact String.beq_self _
theorem yM (x y:f9) (W:Wq) (rr:RN) (nn:Nat) (ff:Nat -> Itm):j5 Tryz.prog 20 [B5 (wqB x W rr nn ff),B5 (wqB y W rr nn ff)] (fun _ => .bool .tt):=by
 intro m w hm hargs;have hn:rr.n<=maxLen:=by
  have h9:=hargs _ (List.mem_cons_self ..);have:=gX (ww h9 (.sl none (x.A 1) rr.n (x.c 1) 2 (fun i => itC (rr.f i))) (by simp));omega
 have S:=vF (x.A 1) rr.n (x.c 1) rr.f hn rr.kd rr.nx rr.mrk (y.A 1) rr.n (y.c 1) rr.f rr.kd rr.nx rr.mrk;rw [tP,decide_eq_true rfl] at S;simp only [Q2,l4] at S;have S2:=vE W.res.code W.res.had W.res.val (x.A 2) nn (x.c 2) (y.A 2) (y.c 2) ff W.res.key W.res.more;refine en 38 hm hargs Tryz.func20 fun B hB a0 hF => ?_
 refine wp_seq (rg hB a6 [2,3] [2,3] [] hF fun X0 a0 w1 hF => ?_);apply wp_seq;refine rg hB a6 [4] [] [(24,.r fun _ => .bool (.v true)),(31,.r fun _ => .bool .tt)] hF (hob:=by intro X; subst hB; simp only [b5,Ob.holds,BE.den]<;>and_intros<;>repeat first | trivial | rfl | exact f8 (Kk:=noK) _ _ _ _ | exact S | exact S2 | exact (fun _ _ => by kernel_rfl) | refine ⟨?_,?_⟩ | intro h | exact Int.le_refl _ | decide | omega) fun X1 a0 w1 hF => ?_
 refine wp_ret ((rsi hB a6 hF f4 (he:=?_)));subst hB;refine Sim.bool ?_;simp [std,a8,BE.den,lu,bC]
abbrev rwG (A1:Option Addr) (n1 c1:Nat) (g:Nat -> Lab):AV:=.sl (some 77) A1 n1 c1 2 (fun i => lbC (g i))
abbrev dvM (b:Nat) (c:List AV):List (Nat × Blk):=[(0,⟨b,174,c⟩)]
def DvE (m0:Nat -> Nat -> Prop) (w0:World) (S:Nat -> Prop) (K:Kn) (b:Nat) (J:i6) (E:s6) (r:Rs (List Lab)) (e:Ending) (w':World):Prop:=∃ A1 n1 c1 g,e = .returned (rwG A1 n1 c1 g).den/\match r with
 | .ok o q => (List.range n1).map g=o/\Mem m0 w0 S K (dvM b (C9 J E (E.n - q.n) q.note)) (bG A1 n1 c1) w'/\Ok (mT m0 (dvM b (C9 J E (E.n - q.n) q.note)) (bG A1 n1 c1)) w' (rwG A1 n1 c1 g)
 | .stop wq q => ∃ x:f9,Mem m0 w0 S K (dvM b (z7 J E (E.n - q.n) (wqA x wq) q.note)) (bG A1 n1 c1) w'/\Ok (mT m0 (dvM b (z7 J E (E.n - q.n) (wqA x wq) q.note)) (bG A1 n1 c1)) w' (rwG A1 n1 c1 g)
section
variable {m0:Nat -> Nat -> Prop} {w0 w':World} {S:Nat -> Prop} {K:Kn} {b:Nat} {J:i6} {E:s6} {r:Rs (List Lab)} {q:Pst} {M:Nat} {A1:Option Addr} {n1 c1:Nat} {g:Nat -> Lab}
theorem DvE.ok {o:List Lab} (hr:r = .ok o q) (hM:M=E.n - q.n) (hg:(List.range n1).map g=o) (hm:Mem m0 w0 S K (dvM b (C9 J E M q.note)) (bG A1 n1 c1) w') (hk:Ok (mT m0 (dvM b (C9 J E M q.note)) (bG A1 n1 c1)) w' (rwG A1 n1 c1 g)):DvE m0 w0 S K b J E r (.returned (rwG A1 n1 c1 g).den) w':=by
 subst hr; subst hM;exact ⟨A1,n1,c1,g,rfl,hg,hm,hk⟩
theorem DvE.st {wq:Wq} {Q:u0} {t:Nt} (x:f9) (hr:r = .stop wq q) (hM:M=E.n - q.n) (hQ:Q=wqA x wq) (ht:t=q.note) (hm:Mem m0 w0 S K (dvM b (z7 J E M Q t)) (bG A1 n1 c1) w') (hk:Ok (mT m0 (dvM b (z7 J E M Q t)) (bG A1 n1 c1)) w' (rwG A1 n1 c1 g)):DvE m0 w0 S K b J E r (.returned (rwG A1 n1 c1 g).den) w':=by
 subst hr; subst hM; subst hQ; subst ht;exact ⟨A1,n1,c1,g,rfl,x,hm,hk⟩
end
theorem kU:j3 Tryz.prog 100:=fun _ _ => by kernel_rfl
theorem As (k0 b:Nat) (J:i6) (hJ:k8 J) (E:s6) (hE:E.n<=1000000) (N:Nat) (p:Pst) (hR:Rel E N p) (hp:i5 p) (hn:p.n<=1000000) (l:Lab) (v:Int):D5 140 k0 b J E N p [b6 l,.int .u64 v,po] (fun d => .bool (.v d)) (.bool .ff) (T0 (J.budget - E.n) l v eU p):=
 D5.re (dR 0 b J hJ E hE N p hR hp hn l v ⟨none,0,eU.rn⟩) ⟨zr,zr,Sim.agg ⟨zr,P7,zr,zr,zr,trivial⟩,trivial⟩
section
variable {m0:Nat -> Nat -> Prop} {w0:World} {S:Nat -> Prop} {b:Nat} (hS:∀ x,S x -> x=b) (J:i6) (E:s6)
theorem sK {A1:Option Addr} {n1 c1:Nat} {g:Nat -> Lab} {l:Lab} {m:Nat -> Nat -> Prop} {w:World} (hk:Ok m w (rwG A1 n1 c1 g)):∀ v ∈ [.ptr 0 b 0,b6 l,rwG A1 n1 c1 g],Ok m w v:=by
 intro v hv;simp only [List.mem_cons,List.not_mem_nil,or_false] at hv
 rcases hv with rfl | rfl | rfl
 .exact .ptr _ _ _
 .exact sF _ _ _
 exact hk
include hS
theorem Dx (N:Nat) (Q:u0) (t:Nt) (l:Lab) (K:Kn) (w:World) (A1:Option Addr) (n1 c1:Nat) (g:Nat -> Lab) (hm:Mem m0 w0 S K (dvM b (z7 J E N Q t)) (bG A1 n1 c1) w) (hk:Ok (mT m0 (dvM b (z7 J E N Q t)) (bG A1 n1 c1)) w (rwG A1 n1 c1 g)) :
  Calls Tryz.prog 100 ([.ptr 0 b 0,b6 l,rwG A1 n1 c1 g].map AV.den).toArray w fun e w' => e = .returned (rwG A1 n1 c1 g).den/\Mem m0 w0 S K (dvM b (z7 J E N Q t)) (bG A1 n1 c1) w'/\Ok (mT m0 (dvM b (z7 J E N Q t)) (bG A1 n1 c1)) w' (rwG A1 n1 c1 g):=by
 refine enI 87 hm (sK hk) Tryz.func100 fun B hB a0 hF => ?_
 refine wp_seq (rg hB a6 [2,4,0] [4,0,77] [] hF fun X0 a0 w1 hF => ?_);have hF:=hF.fzB (tm':=[(2,rwG A1 n1 c1 g),(4,.ep (some ⟨(X0 0).b,0,none⟩) 0 0 0 (lbC l)),(0,.ptr 0 b 0)]) hS ⟨rfl,v8,rfl,Z2,rfl,v8,trivial⟩;refine wp_seq (wp_block (wp_loop_rounds 1 (C3 (wp_seq (wp_seq (rg hB a6 [15,2,4,0] [0,77] [] hF fun X1 a0 w1 hF => ?_))))));refine i9 hF rfl (fun hF => ?_);refine wp_exit ?_;refine wp_seq (rg hB a6 [6] [0,77] [] hF fun X25 a0 w1 hF => ?_);exact wp_ret (de (r:=([rwG A1 n1 c1 g],[])) hB a6 hF (fun hm' hk' => by exact ⟨by rfl,hm',hk'⟩)).1
theorem Dy (hJ:k8 J) (hE:E.n<=1000000):∀ (n:Nat) (l:Lab),LOk l -> ∀ (N:Nat) (p:Pst),Rel E N p -> i5 p -> p.n<=1000000 -> p.n < n -> ∀ (K:Kn) (w:World) (A1:Option Addr) (n1 c1:Nat) (g:Nat -> Lab) (o:List Lab),(List.range n1).map g=o -> o.length + p.n<=2000000 -> Mem m0 w0 S K (dvM b (C9 J E N p.note)) (bG A1 n1 c1) w -> Ok (mT m0 (dvM b (C9 J E N p.note)) (bG A1 n1 c1)) w (rwG A1 n1 c1 g) →
  Calls Tryz.prog 100 ([.ptr 0 b 0,b6 l,rwG A1 n1 c1 g].map AV.den).toArray w (DvE m0 w0 S K b J E (D6 J.bucket (J.budget - E.n) n l o p)):=by
 intro n
 induction n using Nat.strongRecOn with
 | ind n ih =>
 intro l hl N p hR hp hn hf K w A1 n1 c1 g o hg hlen hm hk;have hmx:maxLen=9223372036854775807:=rfl;have hn1:n1=o.length:=by rw [<-hg]; simp
 have SN:=fQ;simp only [b6,B2] at SN;refine enI 87 hm (sK hk) Tryz.func100 fun B hB a0 hF => ?_
 refine wp_seq (rg hB a6 [2,4,0] [4,0,77] [] hF fun X0 a0 w1 hF => ?_);have hF:=hF.fzB (tm':=[(2,rwG A1 n1 c1 g),(4,.ep (some ⟨(X0 0).b,0,none⟩) 0 0 0 (lbC l)),(0,.ptr 0 b 0)]) hS ⟨rfl,v8,rfl,Z2,rfl,v8,trivial⟩;refine wp_seq (wp_block (l0 (ι:=LSt × Option Addr × Nat × Nat × (Nat -> Lab)) (fun z => [(2,rwG z.2.1 z.2.2.1 z.2.2.2.1 z.2.2.2.2)]) (fun z => [(0,⟨b,174,lsC J E z.1⟩)]) (fun z => bG z.2.1 z.2.2.1 z.2.2.2.1) (fun z => match z.1 with | .go a r M => D6 J.bucket (J.budget - E.n) n l o p=D6 J.bucket (J.budget - E.n) a l o r/\i5 r/\r.n<=1000000/\Rel E M r/\r.n < a/\r.n<=p.n/\a<=n/\(List.range z.2.2.1).map z.2.2.2.2=o | .dn r M => False | .sp M Q u => ∃ (X:f9) (wq:Wq) (pp:Pst),D6 J.bucket (J.budget - E.n) n l o p = .stop wq pp/\M=E.n - pp.n/\Q=wqA X wq/\u=pp.note) (fun z => lsM z.1) (.go n p N,A1,n1,c1,g) ⟨rfl,hp,hn,hR,hf,Nat.le_refl _,Nat.le_refl _,hg⟩ hF ?_))
 rintro ⟨q,A2,n2,c2,g2⟩ hJJ a0 w1 hF
 rcases q with ⟨nn0,p0,N0⟩ | ⟨p9,N9⟩ | ⟨N0,Q0,t0⟩
 .dsimp only [lsC,lsB] at hJJ hF
  obtain ⟨hrun0,hp0,hn0,hR0,hf0,hle0,hlea,hg2⟩:=hJJ;have hln2:n2=o.length:=by rw [<-hg2]; simp
  obtain ⟨f,rfl⟩:∃ f,nn0=f + 1:=⟨nn0 - 1,by omega⟩
  refine wp_seq (wp_seq (rg hB a6 [15,2,4,0] [0,77] [] hF fun X1 a0 w1 hF => ?_));refine j0 hF rfl (fun hF => ?_);refine wp_skip (wp_block (wp_seq ?_))
  rcases (P6 0 b J hJ E hE N0 p0 hR0 hp0 hn0 l).two (j1 _ _ _) hp0 hn0 hR0 with ⟨g0,p2,N2,hm2,hs2,hp2,hn2,hR2,hN2,O1⟩ | ⟨wq2,p2,N2,W2,hm2,hs2,hN2,hW2,O1⟩
  .have hl2:=B0 hm2
   have hgo:=hp0.get hm2;have hgr:=hp0.getR hm2;refine rg hB a6 [7,2,4,0] [7,0,77] [(2,lc J E (s5 g0) N2 p2)] hF fun X2 a0 w1 hF => ?_
   have hF:=hF.fzB (tm':=[(7,.ep (some ⟨(X2 3).b,0,none⟩) 0 0 0 (R8 g0)),(2,rwG A2 n2 c2 g2),(4,.ep (some ⟨(X0 0).b,0,none⟩) 0 0 0 (lbC l)),(0,.ptr 0 b 0)]) hS ⟨rfl,Z2,rfl,v8,rfl,v8,rfl,v8,trivial⟩;have hv1:∀ {r},((fun g p => if gk g 1=true then (C7 (J.budget - E.n) f l p).bind fun _ p => .ok (o ++ [l]) p
    else if gk g 2=true then (if chE l 0=0 then (D6 J.bucket (J.budget - E.n) f (chV l 0) o p).bind fun o p => D6 J.bucket (J.budget - E.n) f (chV l 1) o p else .ok o p)
    else if (gk g 3 || gk g 4)=true then (Y5 J.bucket (J.budget - E.n) f l g p).bind fun _ p => D6 J.bucket (J.budget - E.n) f l o p
    else if gk g 5=true then (G4 J.bucket (J.budget - E.n) f l p).bind fun _ p => D6 J.bucket (J.budget - E.n) f l o p
    else if 0 < l.len then .ok o p
    else (T0 (J.budget - E.n) l g.ver eU p).bind fun _ p => D6 J.bucket (J.budget - E.n) f l o p):l9 -> Pst -> Rs (List Lab)) g0 p2=r -> D6 J.bucket (J.budget - E.n) n l o p=r:=fun h => by
    rw [hrun0]; unfold D6; rw [hm2]; exact h
   refine wp_seq (wp_seq (rg hB a6 [22,7,2,4,0] [0,77] [] hF fun X3 a0 w1 hF => ?_));refine i9 hF rfl (fun hF => ?_);refine wp_skip (wp_seq (wp_seq (rg hB a6 [26,7,2,4,0] [0,77] [] hF fun X5 a0 w1 hF => ?_)));apply a7 hF rfl<;>intro hb hF
   .have hh:g0.has=false:=by
     have h9:(!g0.has)=true:=by subst hB; exact hb
     simpa using h9
    have hg5:∀ k,gk g0 k=false:=fun k => by unfold gk; rw [hh]; rfl
    refine wp_seq (wp_seq (rg hB a6 [29,7,2,4,0] [0,77] [] hF fun X6 a0 w1 hF => ?_));apply a7 hF rfl<;>intro hb hF
    .have h0:0 < l.len:=by subst hB; simpa [std,a8] using hb
     refine wp_seq (rg hB a6 [6] [0,77] [] hF fun X7 a0 w1 hF => ?_);exact wp_ret (de (r:=([rwG A2 n2 c2 g2],[])) hB a6 hF (fun hm' hk' => by exact DvE.ok (hv1 (by simp [hg5,h0])) hN2 hg2 hm' hk')).1
    have h0:¬ 0 < l.len:=by subst hB; simpa [std,a8] using hb
    refine wp_skip (wp_seq ?_)
    rcases (As 0 b J hJ E hE N2 p2 hR2 hp2 hn2 l g0.ver).two (l3 _ _ _ _ _) hp2 hn2 hR2 with ⟨d7,p7,N7,hm7,hs7,hp7,hn7,hR7,hN7,S7⟩ | ⟨wq7,p7,N7,W7,hm7,hs7,hN7,hW7,S7⟩
    .have O1:=SN
     have O2:=S7;have hl7:=hs7.le;refine drg hB a6 [2,4,0] [0,77] [(4,.r fun _ => .agg [.int .i64 (-1),.int .u64 0]),(6,lc J E (.bool (.v d7)) N7 p7)] hF fun X7 a0 w1 hF => ?_
     exact wp_exit (⟨(.go f p7 N7,A2,n2,c2,g2),⟨hv1 (by simp [hg5,h0,hm7,Rs.bind]),hp7,hn7,hR7,by omega,by omega,by omega,hg2⟩,by simp [lsM],hF⟩)
    have O1:=SN;have O2:=S7;refine drg hB a6 [2,4,0] [0,77] [(4,.r fun _ => .agg [.int .i64 (-1),.int .u64 0]),(6,sc J E (.bool .ff) N7 W7 p7.note)] hF fun X7 a0 w1 hF => ?_
    exact wp_exit (⟨(.sp N7 (W7 (X7 6)) p7.note,A2,n2,c2,g2),⟨(X7 6),wq7,p7,hv1 (by simp [hg5,h0,hm7,Rs.bind]),hN7,(hW7 _),rfl⟩,by simp [lsM],hF⟩)
   have hh:g0.has=true:=by
    have h9:(!g0.has)=false:=by subst hB; exact hb
    simpa using h9
   have hgk:∀ k,gk g0 k=decide (g0.x.r.kd=k):=fun k => by unfold gk; rw [hh]; rfl
   refine wp_skip (wp_seq (rg hB a6 [40,7,2,4,0] [0,77] [] hF fun X9 a0 w1 hF => ?_));refine wp_block (wp_seq (rg hB a6 [45,40,7,2,4,0] [0,77] [] hF fun X11 a0 w1 hF => ?_));apply a7 hF rfl<;>intro hb hF
   .have k1:g0.x.r.kd=1:=by subst hB; simpa [std,a8] using hb
    apply wp_seq
    rcases (rp f 0 b J hJ E hE N2 p2 hR2 hp2 hn2 l hl (by omega)).two (J2 _ _ _ _) hp2 hn2 hR2 with ⟨_,p7,N7,hm7,hs7,hp7,hn7,hR7,hN7,O1⟩ | ⟨wq7,p7,N7,W7,hm7,hs7,hN7,hW7,O1⟩
    .refine rg hB a6 [2,4,0] [0,77] [(2,lc J E i7 N7 p7)] hF fun X12 a0 w1 hF => ?_
     refine wp_seq (wp_seq (rg hB a6 [53,2,4,0] [0,77] [] hF fun X13 a0 w1 hF => ?_));refine i9 hF rfl (fun hF => ?_);refine wp_skip (wp_seq (rg hB a6 [6] [0,77] [] hF (fun X15 a0 w1 hF => ?_) (hob:=?hob)))
     case hob =>
      intro X; subst hB
      repeat (first | exact trivial | refine ⟨⟨rfl,rfl,rfl⟩,?_⟩ | refine ⟨rfl,?_⟩ | refine ⟨⟨show n2 + 1<=maxLen by omega,show (n2 + 1) * _<=_ by omega⟩,?_⟩)
     have hF:=hF.headS (v':=rwG ((X15 3).A 0) (n2 + 1) ((X15 3).c 0) (fun t => if t=n2 then l else g2 t)) (by
      subst hB;refine Sim.resl rfl (fun t ht => ?_);have ht2:t < n2 + 1:=ht
      show F8 n2 (fun t => lbC (g2 t)) (I4 2 (lbC l)) t=_
      unfold F8
      show _=lbC (if t=n2 then l else g2 t)
      split
      .rw [if_neg (by omega)]
      have:t=n2:=by omega
      subst this;rw [if_pos rfl];simp [I4]) rfl
     have hF:=hF.regr (n':=n2 + 1) (by subst hB; rfl);exact wp_ret (de (r:=([rwG ((X15 3).A 0) (n2 + 1) ((X15 3).c 0) (fun t => if t=n2 then l else g2 t)],[])) hB a6 hF (fun hm' hk' => by exact DvE.ok (o:=o ++ [l]) (hv1 (by simp [hgk,k1,hm7,Rs.bind])) hN7 (by rw [ph,hg2]) hm' hk')).1
    refine rg hB a6 [2,4,0] [0,77] [(2,sc J E i7 N7 W7 p7.note)] hF fun X12 a0 w1 hF => ?_
    refine wp_seq (wp_seq (rg hB a6 [53,2,4,0] [0,77] [] hF fun X13 a0 w1 hF => ?_));refine j0 hF rfl (fun hF => ?_);refine wp_seq (rg hB a6 [6] [0,77] [] hF fun X14 a0 w1 hF => ?_);exact wp_ret (de (r:=([rwG A2 n2 c2 g2],[])) hB a6 hF (fun hm' hk' => by exact DvE.st (X12 2) (hv1 (by simp [hgk,k1,hm7,Rs.bind])) hN7 (hW7 _) rfl hm' hk')).1
   have k1:¬ g0.x.r.kd=1:=by subst hB; simpa [std,a8] using hb
   refine wp_seq (rg hB a6 [59,40,7,2,4,0] [0,77] [] hF fun X16 a0 w1 hF => ?_);apply a7 hF rfl<;>intro hb hF
   .have k2:g0.x.r.kd=2:=by subst hB; simpa [std,a8] using hb
    have hlp:=s7 hl.isl;refine wp_seq (wp_seq (rg hB a6 [8,2,4,0] [0,77] [] hF fun X17 a0 w1 hF => ?_));refine wp_block (wp_loop_rounds 3 (C3 (wp_seq (wp_seq (rg hB a6 [67,8,2,4,0] [0,77] [] hF fun X18 a0 w1 hF => ?_)))));apply a7 hF rfl<;>intro hb hF
    .have h64:l.len < 64:=by subst hB; simpa [std,a8] using hb
     have hce:chE l 0=0:=by unfold chE; rw [hl.isl]; simp [show l.len ≠ 64 by omega]
     have hx0k:=hl.ch 0;have hx1k:=hl.ch 1;have SC0:=Q5 l hl.u 0 (.inl rfl);have SC1:=Q5 l hl.u 1 (.inr rfl);obtain ⟨x0,hx0⟩:=eqv (chV l 0);rw [<-hx0] at SC0 hx0k;obtain ⟨x1,hx1⟩:=eqv (chV l 1);rw [<-hx1] at SC1 hx1k;obtain ⟨ee,hee⟩:=eqv (chE l 0);have hee1:chE l 1=ee:=by rw [hee]; unfold chE; rfl
     rw [<-hee] at SC0;rw [hee1] at SC1;simp only [b6] at SC0 SC1;have O1:=SC0;refine wp_skip (wp_seq (wp_block (wp_seq (rg hB a6 [9,8,2,4,0] [9,0,77] [(2,.r fun _ => .tup [.agg (lbC x0),.int .i64 ee])] hF fun X20 a0 w1 hF => ?_))));refine wp_region_lit ?_;refine lpr 0 3 hB a6 [76,77,78,8,4,0] [0,77] [] hF (fun X21 a0 w1 hF => ?_);refine nA rfl rfl rfl rfl hF rfl rfl kU (fun t ht => by injection ht with ht; subst ht; decide) (fun hmm haa hargs => ?_);refine Calls.mono (ih f (by omega) x0 hx0k N2 p2 hR2 hp2 hn2 (by omega) _ _ _ _ _ _ o hg2 (by omega) hmm (hargs _ (.tail _ (.tail _ (.head _))))) ?_
     rintro e w' hv
     cases hr:D6 J.bucket (J.budget - E.n) f x0 o p2 with
     | stop wq3 p3 =>
      rw [hr] at hv;obtain ⟨A3,n3,c3,g3,rfl,x3,hm3,hk3⟩:=hv;obtain ⟨N3,hN3⟩:=eqv (E.n - p3.n);obtain ⟨Q3,hQ3⟩:=eqv (wqA x3 wq3);rw [<-hN3,<-hQ3] at hm3 hk3;refine ⟨rwG A3 n3 c3 g3,rfl,_,_,_,hk3,hm3,fun a' hF => ?_⟩;refine lnd 4 hB a6 [2,8,4,0] [0,77] [] hF fun X22 a0 w1 hF => ?_
      refine rg hB a6 [8,2,4,0] [0,77] [] hF fun X19 a0 w1 hF => ?_
      replace hF:=hF.headS (v':=.int .i64 1) (by subst hB; exact zr) rfl;refine i4 (wp_seq (wp_seq (rg hB a6 [67,8,2,4,0] [0,77] [] hF fun X18 a0 w1 hF => ?_)));apply a7 hF rfl<;>intro hb hF
      .have O1:=SC1
       refine wp_skip (wp_seq (wp_block (wp_seq (rg hB a6 [9,8,2,4,0] [9,0,77] [(2,.r fun _ => .tup [.agg (lbC x1),.int .i64 ee])] hF fun X20 a0 w1 hF => ?_))));refine wp_region_lit ?_;refine lpr 0 3 hB a6 [76,77,78,8,4,0] [0,77] [] hF (fun X21 a0 w1 hF => ?_);refine nA rfl rfl rfl rfl hF rfl rfl kU (fun t ht => by injection ht with ht; subst ht; decide) (fun hmm haa hargs => ?_);refine Calls.mono (Dx hS J E _ _ _ x1 _ _ _ _ _ _ hmm (hargs _ (.tail _ (.tail _ (.head _))))) ?_
       rintro e w' ⟨rfl,hm4,hk4⟩
       refine ⟨rwG A3 n3 c3 g3,rfl,_,_,_,hk4,hm4,fun a' hF => ?_⟩;refine lnd 4 hB a6 [2,8,4,0] [0,77] [] hF fun X22 a0 w1 hF => ?_
       refine rg hB a6 [8,2,4,0] [0,77] [] hF fun X19 a0 w1 hF => ?_
       replace hF:=hF.headS (v':=.int .i64 2) (by subst hB; exact zr) rfl;refine i4 (wp_seq (wp_seq (rg hB a6 [67,8,2,4,0] [0,77] [] hF fun X18 a0 w1 hF => ?_)));replace hF:=hF.headS (v':=.bool .ff) (Sim.bool (by subst hB; rfl)) rfl;refine i9 hF rfl (fun hF => ?_);refine wp_exit ?_;refine wp_seq (rg hB a6 [6] [0,77] [] hF fun X23 a0 w1 hF => ?_);exact wp_ret (de (r:=([rwG A3 n3 c3 g3],[])) hB a6 hF (fun hm' hk' => by exact DvE.st x3 (hv1 (by simp [hgk,k2,hce,<-hx0,hr,Rs.bind])) hN3 hQ3 rfl hm' hk')).1
      exfalso
      exact absurd h64 (by subst hB; simpa [std,a8] using hb)
     | ok o3 p3 =>
      rw [hr] at hv;obtain ⟨A3,n3,c3,g3,rfl,hg3,hm3,hk3⟩:=hv;have hs3:=(U3 _ _ _ _ _ _).of hr;have hp3:=hp2.suf hs3;have hR3:=hR2.suf hs3;obtain ⟨N3,hN3⟩:=eqv (E.n - p3.n);rw [<-hN3] at hm3 hk3 hR3;have hle3:=hs3.le;have hln3:=Z7 hr;refine ⟨rwG A3 n3 c3 g3,rfl,_,_,_,hk3,hm3,fun a' hF => ?_⟩;refine lnd 4 hB a6 [2,8,4,0] [0,77] [] hF fun X22 a0 w1 hF => ?_
      refine rg hB a6 [8,2,4,0] [0,77] [] hF fun X19 a0 w1 hF => ?_
      replace hF:=hF.headS (v':=.int .i64 1) (by subst hB; exact zr) rfl;refine i4 (wp_seq (wp_seq (rg hB a6 [67,8,2,4,0] [0,77] [] hF fun X18 a0 w1 hF => ?_)));apply a7 hF rfl<;>intro hb hF
      .have O1:=SC1
       refine wp_skip (wp_seq (wp_block (wp_seq (rg hB a6 [9,8,2,4,0] [9,0,77] [(2,.r fun _ => .tup [.agg (lbC x1),.int .i64 ee])] hF fun X20 a0 w1 hF => ?_))));refine wp_region_lit ?_;refine lpr 0 3 hB a6 [76,77,78,8,4,0] [0,77] [] hF (fun X21 a0 w1 hF => ?_);refine nA rfl rfl rfl rfl hF rfl rfl kU (fun t ht => by injection ht with ht; subst ht; decide) (fun hmm haa hargs => ?_);refine Calls.mono (ih f (by omega) x1 hx1k _ p3 hR3 hp3 (by omega) (by omega) _ _ _ _ _ _ o3 hg3 (by omega) hmm (hargs _ (.tail _ (.tail _ (.head _))))) ?_
       rintro e w' hv
       cases hr4:D6 J.bucket (J.budget - E.n) f x1 o3 p3 with
       | stop wq4 p4 =>
        rw [hr4] at hv;obtain ⟨A4,n4,c4,g4,rfl,x4,hm4,hk4⟩:=hv;obtain ⟨N4,hN4⟩:=eqv (E.n - p4.n);obtain ⟨Q4,hQ4⟩:=eqv (wqA x4 wq4);rw [<-hN4,<-hQ4] at hm4 hk4;refine ⟨rwG A4 n4 c4 g4,rfl,_,_,_,hk4,hm4,fun a' hF => ?_⟩;refine lnd 4 hB a6 [2,8,4,0] [0,77] [] hF fun X22 a0 w1 hF => ?_
        refine rg hB a6 [8,2,4,0] [0,77] [] hF fun X19 a0 w1 hF => ?_
        replace hF:=hF.headS (v':=.int .i64 2) (by subst hB; exact zr) rfl;refine i4 (wp_seq (wp_seq (rg hB a6 [67,8,2,4,0] [0,77] [] hF fun X18 a0 w1 hF => ?_)));replace hF:=hF.headS (v':=.bool .ff) (Sim.bool (by subst hB; rfl)) rfl;refine i9 hF rfl (fun hF => ?_);refine wp_exit ?_;refine wp_seq (rg hB a6 [6] [0,77] [] hF fun X23 a0 w1 hF => ?_);exact wp_ret (de (r:=([rwG A4 n4 c4 g4],[])) hB a6 hF (fun hm' hk' => by exact DvE.st x4 (hv1 (by simp [hgk,k2,hce,<-hx0,<-hx1,hr,hr4,Rs.bind])) hN4 hQ4 rfl hm' hk')).1
       | ok o4 p4 =>
        rw [hr4] at hv;obtain ⟨A4,n4,c4,g4,rfl,hg4,hm4,hk4⟩:=hv;obtain ⟨N4,hN4⟩:=eqv (E.n - p4.n);rw [<-hN4] at hm4 hk4;refine ⟨rwG A4 n4 c4 g4,rfl,_,_,_,hk4,hm4,fun a' hF => ?_⟩;refine lnd 4 hB a6 [2,8,4,0] [0,77] [] hF fun X22 a0 w1 hF => ?_
        refine rg hB a6 [8,2,4,0] [0,77] [] hF fun X19 a0 w1 hF => ?_
        replace hF:=hF.headS (v':=.int .i64 2) (by subst hB; exact zr) rfl;refine i4 (wp_seq (wp_seq (rg hB a6 [67,8,2,4,0] [0,77] [] hF fun X18 a0 w1 hF => ?_)));replace hF:=hF.headS (v':=.bool .ff) (Sim.bool (by subst hB; rfl)) rfl;refine i9 hF rfl (fun hF => ?_);refine wp_exit ?_;refine wp_seq (rg hB a6 [6] [0,77] [] hF fun X23 a0 w1 hF => ?_);exact wp_ret (de (r:=([rwG A4 n4 c4 g4],[])) hB a6 hF (fun hm' hk' => by exact DvE.ok (hv1 (by simp [hgk,k2,hce,<-hx0,<-hx1,hr,hr4,Rs.bind])) hN4 hg4 hm' hk')).1
      exfalso
      exact absurd h64 (by subst hB; simpa [std,a8] using hb)
    have h64:¬ l.len < 64:=by subst hB; simpa [std,a8] using hb
    have hce:¬ chE l 0=0:=by unfold chE; rw [hl.isl]; simp [show l.len=64 by omega]
    refine wp_exit ?_;refine wp_seq (rg hB a6 [6] [0,77] [] hF fun X23 a0 w1 hF => ?_);exact wp_ret (de (r:=([rwG A2 n2 c2 g2],[])) hB a6 hF (fun hm' hk' => by exact DvE.ok (hv1 (by simp [hgk,k2,hce])) hN2 hg2 hm' hk')).1
   have k2:¬ g0.x.r.kd=2:=by subst hB; simpa [std,a8] using hb
   refine wp_seq (rg hB a6 [81,7,2,4,0] [0,77] [] hF fun X23 a0 w1 hF => ?_);apply a7 hF rfl<;>intro hb hF
   .have k5:g0.x.r.kd=5:=by subst hB; simpa [std,a8] using hb
    rcases (DC f 0 b J hJ E hE N2 p2 hR2 hp2 hn2 l hl (by omega)).two (F5 _ _ _ _ _) hp2 hn2 hR2 with ⟨_,p7,N7,hm7,hs7,hp7,hn7,hR7,hN7,O1⟩ | ⟨wq7,p7,N7,W7,hm7,hs7,hN7,hW7,O1⟩
    .have hl7:=hs7.le
     refine rg hB a6 [2,4,0] [0,77] [(2,lc J E i7 N7 p7)] hF fun X24 a0 w1 hF => ?_
     exact ⟨(.go f p7 N7,A2,n2,c2,g2),⟨hv1 (by simp [hgk,k5,hm7,Rs.bind]),hp7,hn7,hR7,by omega,by omega,by omega,hg2⟩,by simp [lsM],hF⟩
    refine rg hB a6 [2,4,0] [0,77] [(2,sc J E i7 N7 W7 p7.note)] hF fun X24 a0 w1 hF => ?_
    exact ⟨(.sp N7 (W7 (X24 2)) p7.note,A2,n2,c2,g2),⟨(X24 2),wq7,p7,hv1 (by simp [hgk,k5,hm7,Rs.bind]),hN7,(hW7 _),rfl⟩,by simp [lsM],hF⟩
   have k5:¬ g0.x.r.kd=5:=by subst hB; simpa [std,a8] using hb
   have k34:g0.x.r.kd=3 \/ g0.x.r.kd=4:=by have:=hgr.kd hh; omega
   rcases (DO f 0 b J hJ E hE N2 p2 hR2 hp2 hn2 l hl g0 hgo hh (by omega)).two (bw _ _ _ _ _ _) hp2 hn2 hR2 with ⟨_,p7,N7,hm7,hs7,hp7,hn7,hR7,hN7,O1⟩ | ⟨wq7,p7,N7,W7,hm7,hs7,hN7,hW7,O1⟩
   .have hl7:=hs7.le
    refine rg hB a6 [2,4,0] [0,77] [(3,lc J E i7 N7 p7)] hF fun X24 a0 w1 hF => ?_
    exact ⟨(.go f p7 N7,A2,n2,c2,g2),⟨hv1 (by simp [hgk,k1,k2,k34,hm7,Rs.bind]),hp7,hn7,hR7,by omega,by omega,by omega,hg2⟩,by simp [lsM],hF⟩
   refine rg hB a6 [2,4,0] [0,77] [(3,sc J E i7 N7 W7 p7.note)] hF fun X24 a0 w1 hF => ?_
   exact ⟨(.sp N7 (W7 (X24 3)) p7.note,A2,n2,c2,g2),⟨(X24 3),wq7,p7,hv1 (by simp [hgk,k1,k2,k34,hm7,Rs.bind]),hN7,(hW7 _),rfl⟩,by simp [lsM],hF⟩
  refine rg hB a6 [2,4,0] [0,77] [(2,sc J E T4 N2 W2 p2.note)] hF fun X2 a0 w1 hF => ?_
  refine wp_seq (wp_seq (rg hB a6 [22,2,4,0] [0,77] [] hF fun X3 a0 w1 hF => ?_));refine j0 hF rfl (fun hF => ?_);refine wp_seq (rg hB a6 [6] [0,77] [] hF fun X4 a0 w1 hF => ?_);exact wp_ret (de (r:=([rwG A2 n2 c2 g2],[])) hB a6 hF (fun hm' hk' => by exact DvE.st (X2 2) (hrun0.trans (by unfold D6; rw [hm2]; rfl)) hN2 (hW2 _) rfl hm' hk')).1
 .exact hJJ.elim
 dsimp only [lsC,lsB] at hJJ hF;obtain ⟨X9,wq9,p9,hr9,hM9,hQ9,ht9⟩:=hJJ;refine wp_seq (wp_seq (rg hB a6 [15,2,4,0] [0,77] [] hF fun X1 a0 w1 hF => ?_));refine i9 hF rfl (fun hF => ?_);refine wp_exit ?_;refine wp_seq (rg hB a6 [6] [0,77] [] hF fun X25 a0 w1 hF => ?_);exact wp_ret (de (r:=([rwG A2 n2 c2 g2],[])) hB a6 hF (fun hm' hk' => by exact DvE.st X9 hr9 hM9 hQ9 ht9 hm' hk')).1
end
theorem DI (b:Nat) (J:i6) (hJ:k8 J) (E:s6) (hE:E.n<=1000000) (N:Nat) (p:Pst) (hR:Rel E N p) (hp:i5 p) (hn:p.n<=1000000) (A:Option Addr) (on c:Nat) (of:Nat -> Lab) (o:List Lab) (ho:(List.range on).map of=o) (hlo:on<=2000000) :
  D5 101 0 b J E N p [.sl none A on c 2 (fun i => lbC (of i))] (fun _:Unit => i7) i7 (aU (J.budget - E.n) o p):=by
 intro m w hm hargs hpre;have hmx:maxLen=9223372036854775807:=rfl;have hon:on=o.length:=by rw [<-ho]; simp
 have hof:=nF ho;have hdr:∀ {i},i < on -> o.drop i=of i :: o.drop (i + 1):=fun {i} hi => by rw [hof i hi]; exact sV (by omega)
 have SN:=fQ;obtain ⟨nl,hnl⟩:=eqv B2;rw [<-hnl] at SN;simp only [b6] at SN;refine enX 56 hm hpre hargs Tryz.func101 fun B hB a0 hF => ?_
 refine wp_seq (rg hB a6 [4,0,1] [0] [] hF fun X0 a0 w1 hF => ?_);refine wp_block (l0 (ι:=LSt × Nat) (fun z => [(4,.int .i64 (z.2:Int))]) (fun z => [(0,⟨b,174,lsC J E z.1⟩)]) (fun z => []) (fun z => z.2<=on/\match z.1 with | .go a r M => a=on - z.2/\aU (J.budget - E.n) o p=aU (J.budget - E.n) (o.drop z.2) r/\i5 r/\r.n<=1000000/\Rel E M r | .dn r M => False | .sp M Q u => ∃ (X:f9) (wq:Wq) (pp:Pst),aU (J.budget - E.n) o p = .stop wq pp/\M=E.n - pp.n/\Q=wqA X wq/\u=pp.note) (fun z => on - z.2) (.go on p N,0) ⟨Nat.zero_le _,rfl,rfl,hp,hn,hR⟩ hF ?_)
 rintro ⟨q,i⟩ ⟨hi,hJJ⟩ a0 w1 hF
 rcases q with ⟨nn0,p0,N0⟩ | ⟨p9,N9⟩ | ⟨N0,Q0,t0⟩
 .dsimp only [lsC,lsB] at hi hJJ hF
  obtain ⟨_,hrun,hp1,hn1,hR1⟩:=hJJ;have hN1:N0=E.n - p0.n:=by have:=hR1.n; omega
  refine wp_seq (wp_seq (rg hB a6 [10,4,0,1] [0] [] hF fun X1 a0 w1 hF => ?_));apply a7 hF rfl<;>intro hb hF
  .have hin:i < on:=by
    have:(i:Int) < (on:Int):=by subst hB; simpa [std,a8] using hb
    omega
   have e:B.arith .add .i64 (i:Int) 1=((i + 1:Nat):Int):=by subst hB; exact j2 (n:=on) hin (by omega)
   have hd:=hdr hin;have O1:=SN;refine wp_skip (wp_seq (wp_block (wp_seq (rg hB a6 [5,4,0,1] [5,0] [(0,.r fun _ => .agg (lbC nl))] hF fun X3 a0 w1 hF => ?_))));obtain ⟨nx,hnx⟩:=eqv ((o.drop (i + 1)).headD B2);refine wp_seq (wp_seq (rg hB a6 [18,5,4,0,1] [5,0] [] hF fun X4 a0 w1 hF => ?_));refine eH (ι:=Unit) (S0:=[(18,_)]) (M0:=[(5,_)]) (G0:=[]) (fun _ => []) (fun _ => [(5,⟨(X3 1).b,24,lbC nx⟩)]) (fun _ => []) (fun _ => True) hF ?_ ?_
   .apply a7 hF rfl<;>intro hb hF
    .have hin2:i + 1 < on:=by
      have hb2:B.cmp .lss (B.arith .add .i64 (i:Int) 1) (B.ofNat on)=true:=hb;rw [e] at hb2;have:((i + 1:Nat):Int) < (on:Int):=by subst hB; simpa [std,a8] using hb2
      omega
     have e0:(0:Int)<=B.arith .add .i64 (i:Int) 1/\B.arith .add .i64 (i:Int) 1 < (on:Int):=by rw [e]; omega
     have e1:=e0.1;have e2:=e0.2;refine rg hB a6 [4,0,1,5] [5,0] [] hF (fun X7 a0 w1 hF => ?_) (hob:=by intro X; subst hB; simp only [b5,Ob.holds,BE.den]<;>and_intros<;>repeat first | trivial | rfl | exact e1 | exact e2 | refine ⟨?_,?_⟩ | intro h);have e3:of (B.toNat (B.arith .add .i64 (i:Int) 1))=nx:=by
      have hd2:=hdr hin2;rw [hnx,hd2,e];subst hB;rfl
     have hF:=hF.memS (cells':=lbC nx) (by rw [<-e3]; subst hB; exact zl);have hF:=hF.keep [5,4,0,1] [5,0];exact ⟨(),trivial,hF⟩
    have hout2:i + 1=on:=by
     have hb2:B.cmp .lss (B.arith .add .i64 (i:Int) 1) (B.ofNat on)=false:=hb;rw [e] at hb2;have:¬ ((i + 1:Nat):Int) < (on:Int):=by subst hB; simpa [std,a8] using hb2
     omega
    have e3:nx=nl:=by rw [hnx,List.drop_eq_nil_of_le (by omega),hnl]; rfl
    refine wp_skip ⟨(),trivial,?_⟩;rw [e3];exact hF
   rintro ⟨⟩ _ a0 w1 hF
   apply wp_seq
   rcases (P6 0 b J hJ E hE N0 p0 hR1 hp1 hn1 (of i)).two (j1 _ _ _) hp1 hn1 hR1 with ⟨g,q2,N2,h2,hs2,hq2,hnq2,hR2,hN2,O1⟩ | ⟨wq,q2,N2,W2,h2,hs2,hN2,hW2,O1⟩
   .have hgr:=hp1.getR h2
    refine rg hB a6 [6,5,4,0,1] [6,5,0] [(5,lc J E (s5 g) N2 q2)] hF (fun X6 a0 w1 hF => ?_) (hob:=by intro X; subst hB; simp only [b5,Ob.holds,BE.den]<;>and_intros<;>repeat first | trivial | rfl | exact O1 | exact O2 | exact (show (0:Int)<=(i:Int) by omega) | exact (show (i:Int) < (on:Int) by omega) | exact (fun _ _ => by kernel_rfl) | refine ⟨?_,?_⟩ | intro h)
    refine wp_seq (wp_seq (rg hB a6 [33,6,5,4,0,1] [6,5,0] [] hF fun X7 a0 w1 hF => ?_));refine i9 hF rfl (fun hF => ?_);refine wp_skip ?_;obtain ⟨q9,hq9⟩:=eqv (gk g 1);have O1:=E7 g 1;simp only [<-hq9] at O1;refine wp_seq (rg hB a6 [42,6,5,4,0,1] [6,5,0] [(1,.r fun _ => .bool (.v q9))] hF (fun X8 a0 w1 hF => ?_) (hob:=by intro X; subst hB; simp only [b5,Ob.holds,BE.den]<;>and_intros<;>repeat first | trivial | rfl | exact f8 (Kk:=noK) _ _ _ _ | exact O1 | exact (fun _ _ => by kernel_rfl) | refine ⟨?_,?_⟩ | intro h));have hE':eqL [.int .i64 g.x.r.nx.len,.int .u64 g.x.r.nx.bits] [.int .i64 nx.len,.int .u64 nx.bits]=decide (g.x.r.nx=nx):=bC _ _;apply a7 hF rfl<;>intro hb hF
    .have t9:gk g 1=true/\g.x.r.nx ≠ nx:=by
      have h9:(if q9=true then !(eqL [.int .i64 g.x.r.nx.len,.int .u64 g.x.r.nx.bits] [.int .i64 nx.len,.int .u64 nx.bits]) else false)=true:=by subst hB; exact hb
      rw [hE'] at h9;rw [<-hq9]
      revert h9
      cases q9<;>simp
     have hab:(⟨g.x.A,g.x.c,⟨g.x.r.n,g.x.r.f,1,nx,0⟩⟩:RA).r.abs=wR g.x nx:=rfl;have hcm:=dR 0 b J hJ E hE N2 q2 hR2 hq2 hnq2 (of i) g.ver ⟨g.x.A,g.x.c,⟨g.x.r.n,g.x.r.f,1,nx,0⟩⟩;rw [hab] at hcm
     rcases hcm.two (l3 _ _ _ _ _) hq2 hnq2 hR2 with ⟨d3,q3,N3,h3,hs3,hq3,hnq3,hR3,hN3,O1⟩ | ⟨wq,q3,N3,W3,h3,hs3,hN3,hW3,O1⟩
     .refine drg hB a6 [4,0,1] [0] [(12,lc J E (.bool (.v d3)) N3 q3)] hF (fun X9 a0 w1 hF => ?_) (hob:=by intro X; subst hB; simp only [b5,Ob.holds,BE.den]<;>and_intros<;>repeat first | trivial | rfl | exact O1 | exact O2 | exact (show (0:Int)<=(i:Int) by omega) | exact (show (i:Int) < (on:Int) by omega) | exact (fun _ _ => by kernel_rfl) | refine ⟨?_,?_⟩ | intro h)
      refine rg hB a6 [4,0,1] [0] [] hF fun X12 a0 w1 hF => ?_
      exact ⟨(.go (on - (i + 1)) q3 N3,i + 1),⟨by dsimp only; omega,rfl,by rw [hrun,hd]; simp only [aU,Rs.bind,h2,<-hnx]; rw [if_pos t9]; simp only [h3],hq3,hnq3,hR3⟩,by dsimp only; omega,by rw [<-e]; exact hF⟩
     refine drg hB a6 [4,0,1] [0] [(12,sc J E (.bool .ff) N3 W3 q3.note)] hF (fun X9 a0 w1 hF => ?_) (hob:=by intro X; subst hB; simp only [b5,Ob.holds,BE.den]<;>and_intros<;>repeat first | trivial | rfl | exact O1 | exact O2 | exact (show (0:Int)<=(i:Int) by omega) | exact (show (i:Int) < (on:Int) by omega) | exact (fun _ _ => by kernel_rfl) | refine ⟨?_,?_⟩ | intro h)
     refine rg hB a6 [4,0,1] [0] [] hF fun X12 a0 w1 hF => ?_
     exact ⟨(.sp N3 (W3 (X9 12)) q3.note,i + 1),⟨by dsimp only; omega,X9 12,wq,q3,by rw [hrun,hd]; simp only [aU,Rs.bind,h2,<-hnx]; rw [if_pos t9]; simp only [h3],hN3,hW3 _,rfl⟩,by dsimp only; omega,by rw [<-e]; exact hF⟩
    have t9:¬ (gk g 1=true/\g.x.r.nx ≠ nx):=by
     have h9:(if q9=true then !(eqL [.int .i64 g.x.r.nx.len,.int .u64 g.x.r.nx.bits] [.int .i64 nx.len,.int .u64 nx.bits]) else false)=false:=by subst hB; exact hb
     rw [hE'] at h9;rw [<-hq9]
     revert h9
     cases q9<;>simp
    refine wp_skip (rg hB a6 [4,0,1] [0] [] hF fun X12 a0 w1 hF => ?_);exact ⟨(.go (on - (i + 1)) q2 N2,i + 1),⟨by dsimp only; omega,rfl,by rw [hrun,hd]; simp only [aU,Rs.bind,h2,<-hnx,if_neg t9],hq2,hnq2,hR2⟩,by dsimp only; omega,by rw [<-e]; exact hF⟩
   refine rg hB a6 [4,0,1] [0] [(5,sc J E T4 N2 W2 q2.note)] hF (fun X6 a0 w1 hF => ?_) (hob:=by intro X; subst hB; simp only [b5,Ob.holds,BE.den]<;>and_intros<;>repeat first | trivial | rfl | exact O1 | exact O2 | exact (show (0:Int)<=(i:Int) by omega) | exact (show (i:Int) < (on:Int) by omega) | exact (fun _ _ => by kernel_rfl) | refine ⟨?_,?_⟩ | intro h)
   refine wp_seq (wp_seq (rg hB a6 [33] [0] [] hF fun X7 a0 w1 hF => ?_));refine j0 hF rfl (fun hF => ?_);exact wp_ret (rst hB a6 hF (q:=q2) (wq:=wq) (X6 5) (by rw [hrun,hd]; simp only [aU,Rs.bind,h2]) hN2 (hW2 _)).1
  have hout:i=on:=by
   have:¬ (i:Int) < (on:Int):=by subst hB; simpa [std,a8] using hb
   omega
  refine wp_exit ?_;exact (rgo hB a6 hF (v:=()) (q:=p0) (by rw [hrun,hout,List.drop_eq_nil_of_le (by omega)]; rfl) hN1).2
 .exact hJJ.elim
 dsimp only [lsC,lsB] at hi hJJ hF;obtain ⟨X9,wq9,p9,hr9,hM9,hQ9,ht9⟩:=hJJ;subst ht9;refine wp_seq (wp_seq (rg hB a6 [10,4,0,1] [0] [] hF fun X1 a0 w1 hF => ?_));apply a7 hF rfl<;>intro hb hF
 .have hin:i < on:=by
   have:(i:Int) < (on:Int):=by subst hB; simpa [std,a8] using hb
   omega
  have e:B.arith .add .i64 (i:Int) 1=((i + 1:Nat):Int):=by subst hB; exact j2 (n:=on) hin (by omega)
  have O1:=SN;refine wp_skip (wp_seq (wp_block (wp_seq (rg hB a6 [5,4,0,1] [5,0] [(0,.r fun _ => .agg (lbC nl))] hF fun X3 a0 w1 hF => ?_))));refine wp_seq (wp_seq (rg hB a6 [18,5,4,0,1] [5,0] [] hF fun X4 a0 w1 hF => ?_));refine eH (ι:=Lab) (S0:=[(18,_)]) (M0:=[(5,_)]) (G0:=[]) (fun _ => []) (fun x => [(5,⟨(X3 1).b,24,lbC x⟩)]) (fun _ => []) (fun _ => True) hF ?_ ?_
  .apply a7 hF rfl<;>intro hb hF
   .have hin2:i + 1 < on:=by
     have hb2:B.cmp .lss (B.arith .add .i64 (i:Int) 1) (B.ofNat on)=true:=hb;rw [e] at hb2;have:((i + 1:Nat):Int) < (on:Int):=by subst hB; simpa [std,a8] using hb2
     omega
    have e0:(0:Int)<=B.arith .add .i64 (i:Int) 1/\B.arith .add .i64 (i:Int) 1 < (on:Int):=by rw [e]; omega
    have e1:=e0.1;have e2:=e0.2;refine rg hB a6 [4,0,1,5] [5,0] [] hF (fun X7 a0 w1 hF => ?_) (hob:=by intro X; subst hB; simp only [b5,Ob.holds,BE.den]<;>and_intros<;>repeat first | trivial | rfl | exact e1 | exact e2 | refine ⟨?_,?_⟩ | intro h);have hF:=hF.keep [5,4,0,1] [5,0];exact ⟨_,trivial,hF⟩
   exact wp_skip ⟨nl,trivial,hF⟩
  rintro nx _ a0 w1 hF
  have O1:=dQ 0 b J E hE N0 Q0 p9.note (of i);refine wp_seq (rg hB a6 [4,0,1] [0] [(5,dc J E T4 N0 Q0 p9.note)] hF (fun X6 a0 w1 hF => ?_) (hob:=by intro X; subst hB; simp only [b5,Ob.holds,BE.den]<;>and_intros<;>repeat first | trivial | rfl | exact O1 | exact O2 | exact (show (0:Int)<=(i:Int) by omega) | exact (show (i:Int) < (on:Int) by omega) | exact (fun _ _ => by kernel_rfl) | refine ⟨?_,?_⟩ | intro h))
  refine wp_seq (wp_seq (rg hB a6 [33] [0] [] hF fun X7 a0 w1 hF => ?_));refine j0 hF rfl (fun hF => ?_);exact wp_ret (rst hB a6 hF (q:=p9) (wq:=wq9) X9 hr9 hM9 hQ9).1
 refine wp_exit ?_;exact (rst hB a6 hF (q:=p9) (wq:=wq9) X9 hr9 hM9 hQ9).2
theorem DJ (b:Nat) (J:i6) (E:s6) (hE:E.n<=1000000) (N:Nat) (Q:u0) (t:Nt) (A:Option Addr) (on c:Nat) (of:Nat -> Lab):K6 101 0 b J E N Q t [.sl none A on c 2 (fun i => lbC (of i))] i7:=by
 intro m w hm hargs hpre;have SN:=fQ;obtain ⟨nl,hnl⟩:=eqv B2;rw [<-hnl] at SN;simp only [b6] at SN;refine enX 56 hm hpre hargs Tryz.func101 fun B hB a0 hF => ?_
 refine wp_seq (rg hB a6 [4,0,1] [0] [] hF fun X0 a0 w1 hF => ?_);refine wp_block (wp_loop_rounds 1 (C3 (wp_seq (wp_seq (rg hB a6 [10,4,0,1] [0] [] hF fun X1 a0 w1 hF => ?_)))));apply a7 hF rfl<;>intro hb hF
 .have hin:0 < on:=by
   have:(0:Int) < (on:Int):=by subst hB; simpa [std,a8] using hb
   omega
  have O1:=SN;refine wp_skip (wp_seq (wp_block (wp_seq (rg hB a6 [5,4,0,1] [5,0] [(0,.r fun _ => .agg (lbC nl))] hF fun X3 a0 w1 hF => ?_))));refine wp_seq (wp_seq (rg hB a6 [18,5,4,0,1] [5,0] [] hF fun X4 a0 w1 hF => ?_));refine eH (ι:=Lab) (S0:=[(18,_)]) (M0:=[(5,_)]) (G0:=[]) (fun _ => []) (fun x => [(5,⟨(X3 1).b,24,lbC x⟩)]) (fun _ => []) (fun _ => True) hF ?_ ?_
  .apply a7 hF rfl<;>intro hb hF
   .have e2:o9 .add .i64 0 1 < (on:Int):=by subst hB; simpa [std,a8] using hb
    refine rg hB a6 [4,0,1,5] [5,0] [] hF (fun X7 a0 w1 hF => ?_) (hob:=by intro X; subst hB; simp only [b5,Ob.holds,BE.den]<;>and_intros<;>repeat first | trivial | rfl | exact (show (0:Int)<=o9 .add .i64 0 1 by decide) | exact e2 | refine ⟨?_,?_⟩ | intro h)
    have hF:=hF.keep [5,4,0,1] [5,0];exact ⟨_,trivial,hF⟩
   exact wp_skip ⟨nl,trivial,hF⟩
  rintro nx _ a0 w1 hF
  have O1:=dQ 0 b J E hE N Q t (of 0);refine wp_seq (rg hB a6 [4,0,1] [0] [(5,dc J E T4 N Q t)] hF (fun X6 a0 w1 hF => ?_) (hob:=by intro X; subst hB; simp only [b5,Ob.holds,BE.den]<;>and_intros<;>repeat first | trivial | rfl | exact O1 | exact (show (0:Int)<=0 by omega) | exact (show (0:Int) < (on:Int) by omega) | exact (fun _ _ => by kernel_rfl) | refine ⟨?_,?_⟩ | intro h))
  refine wp_seq (wp_seq (rg hB a6 [33] [0] [] hF fun X7 a0 w1 hF => ?_));refine j0 hF rfl (fun hF => ?_);exact wp_ret (rdd hB a6 hF).1
 refine wp_exit ?_;exact (rdd hB a6 hF).2
def vc:Int -> Nat
 | .ofNat k => 2 * k
 | .negSucc k => 2 * k + 1
def vd (n:Nat):Int:=if n % 2=0 then .ofNat (n / 2) else .negSucc (n / 2)
theorem ot (z:Int):vd (vc z)=z:=by
 cases z with
 | ofNat k =>
  show (if (2 * k) % 2=0 then Int.ofNat (2 * k / 2) else .negSucc (2 * k / 2))=_
  rw [if_pos (by omega),show 2 * k / 2=k by omega]
 | negSucc k =>
  show (if (2 * k + 1) % 2=0 then Int.ofNat ((2 * k + 1) / 2) else .negSucc ((2 * k + 1) / 2))=_
  rw [if_neg (by omega),show (2 * k + 1) / 2=k by omega]
abbrev lbX (x:f9) (i:Nat):Lab:=⟨vd (x.c (10 + 2 * i)),vd (x.c (11 + 2 * i))⟩
abbrev yU (x:f9):AV:=.sl none (x.A 3) (x.c 3) (x.c 4) 2 (fun i => lbC (lbX x i))
def jc (x:f9) (A:Option Addr) (n c:Nat) (g:Nat -> Lab):f9:=⟨x.b,fun i => if i=3 then A else x.A i,fun i => if i=3 then n else if i=4 then c else if i < 10 then x.c i else if i % 2=0 then vc (g ((i - 10) / 2)).len else vc (g ((i - 10) / 2)).bits,x.s⟩
theorem zG (x:f9) (A:Option Addr) (n c:Nat) (g:Nat -> Lab) (i:Nat):lbX (jc x A n c g) i=g i:=by
 show (⟨vd ((jc x A n c g).c (10 + 2 * i)),vd ((jc x A n c g).c (11 + 2 * i))⟩:Lab)=g i
 have h1:(jc x A n c g).c (10 + 2 * i)=vc (g i).len:=by
  unfold jc;simp only;rw [if_neg (by omega),if_neg (by omega),if_neg (by omega),if_pos (by omega),show (10 + 2 * i - 10) / 2=i by omega]
 have h2:(jc x A n c g).c (11 + 2 * i)=vc (g i).bits:=by
  unfold jc;simp only;rw [if_neg (by omega),if_neg (by omega),if_neg (by omega),if_neg (by omega),show (11 + 2 * i - 10) / 2=i by omega]
 rw [h1,h2,ot,ot]
theorem CK {m:Nat -> Nat -> Prop} {w:World} {g:Option Nat} {k:Nat} {f:Nat -> List AV}:Ok m w (.sl g none 0 0 k f):=
 .sl _ _ _ _ _ _ (Nat.le_refl _) (Nat.zero_le _) (fun i hi => absurd hi (Nat.not_lt_zero _)) (fun i hi => absurd hi (Nat.not_lt_zero _)) (fun i hi => absurd hi (Nat.not_lt_zero _)) (fun i hi => absurd hi (Nat.not_lt_zero _)) (fun i hi => absurd hi (Nat.not_lt_zero _))
section
variable (b:Nat) (J:i6) (hJ:k8 J) (E:s6) (hE:E.n<=1000000) (N:Nat) (p:Pst) (hR:Rel E N p) (hp:i5 p) (hn:p.n<=1000000) (l:Lab) (hl:LOk l) (n:Nat) (hf:p.n < n) (gk0:Option Nat) (k0:Nat) (f0:Nat -> List AV)
include hJ hE hR hp hn hl hf
theorem kZ (m:Nat -> Nat -> Prop) (w:World) (hm:∀ b o,m b o -> b < w.heap.size) (hpre:J0 m w [(0,⟨b,174,C9 J E N p.note⟩)]) :
  Calls Tryz.prog 100 ([.ptr 0 b 0,b6 l,.sl gk0 none 0 0 k0 f0].map AV.den).toArray w (DvE m w (ats [(0,(⟨b,174,C9 J E N p.note⟩:Blk))]) noK b J E (D6 J.bucket (J.budget - E.n) n l [] p)):=by
 have hF:=(ax hm hpre (args:=[]) (by simp) (n:=0) (Nat.le_refl _)).fresh (Below.refl _ _) 77 (t:=⟨none,0,0,2,24⟩) (by decide) (Own.nil _ _ _ _ none);have hM0:Mem m w (ats [(0,(⟨b,174,C9 J E N p.note⟩:Blk))]) noK (dvM b (C9 J E N p.note)) (bG none 0 0) w:=hF.bare;have hS:∀ x,ats [(0,(⟨b,174,C9 J E N p.note⟩:Blk))] x -> x=b:=by
  rintro x ⟨e,he,h1⟩
  simp only [List.mem_singleton] at he;subst he;exact h1.symm
 exact Dy hS J E hJ hE n l hl N p hR hp hn hf noK w none 0 0 (fun _ => cU) [] rfl (by simp; omega) hM0 CK
theorem zX {o:List Lab} {q:Pst} (hr:D6 J.bucket (J.budget - E.n) n l [] p = .ok o q) {M on:Nat} {of:Nat -> Lab} (hM:M=E.n - q.n) (hon:on=o.length) (hof:of=lE o):u2 Tryz.prog 100 [.ptr 0 b 0,b6 l,.sl gk0 none 0 0 k0 f0] [(0,⟨b,174,C9 J E N p.note⟩)] (fun x => ⟨.sl none (x.A 3) on (x.c 4) 2 (fun i => lbC (of i)),[(0,C9 J E M q.note)],[]⟩):=by
 intro m w hm hargs hpre;refine Calls.mono (kZ b J hJ E hE N p hR hp hn l hl n hf gk0 k0 f0 m w hm hpre) ?_
 rintro e w' hv
 rw [hr] at hv;obtain ⟨A1,n1,c1,g,rfl,hg,hm1,hk1⟩:=hv;have hl1:n1=on:=by rw [hon,<-hg]; simp
 subst hM;have hs:Sim (rwG A1 n1 c1 g) (.sl none A1 on c1 2 (fun i => lbC (of i))):=Sim.resl hl1 (fun t ht => by show lbC (g t)=lbC (of t); rw [hof,nF hg t (by omega)])
 obtain ⟨h1,h2⟩:=cJ (sets:=[(0,C9 J E (E.n - q.n) q.note)]) (ks:=[]) (news:=[]) hm1 ⟨rfl,⟨_,rfl,zl⟩,trivial⟩ trivial;exact ⟨⟨0,fun i => A1,fun i => c1,fun _ => .empty⟩,by rw [hs.1],h2 _ (hs.2.2 _ _ hk1),h1⟩
theorem zW {wq:Wq} {q:Pst} (hr:D6 J.bucket (J.budget - E.n) n l [] p = .stop wq q) {M:Nat} {W:f9 -> u0} (hM:M=E.n - q.n) (hW:∀ x,W x=wqA x wq):u2 Tryz.prog 100 [.ptr 0 b 0,b6 l,.sl gk0 none 0 0 k0 f0] [(0,⟨b,174,C9 J E N p.note⟩)] (fun x => ⟨yU x,[(0,z7 J E M (W x) q.note)],[]⟩):=by
 intro m w hm hargs hpre;refine Calls.mono (kZ b J hJ E hE N p hR hp hn l hl n hf gk0 k0 f0 m w hm hpre) ?_
 rintro e w' hv
 rw [hr] at hv;obtain ⟨A1,n1,c1,g,rfl,x,hm1,hk1⟩:=hv;subst hM;have hs:Sim (rwG A1 n1 c1 g) (yU (jc x A1 n1 c1 g)):=Sim.resl rfl (fun t ht => by show lbC (g t)=lbC (lbX (jc x A1 n1 c1 g) t); rw [zG])
 obtain ⟨h1,h2⟩:=cJ (sets:=[(0,z7 J E (E.n - q.n) (wqA x wq) q.note)]) (ks:=[]) (news:=[]) hm1 ⟨rfl,⟨_,rfl,zl⟩,trivial⟩ trivial;refine ⟨jc x A1 n1 c1 g,by rw [hs.1],h2 _ (hs.2.2 _ _ hk1),?_⟩;have:W (jc x A1 n1 c1 g)=wqA x wq:=by rw [hW]; rfl
 show fF m w w' _ [(0,z7 J E (E.n - q.n) (W (jc x A1 n1 c1 g)) q.note)] []
 rw [this];exact h1
theorem xB:(∃ o q M on of,D6 J.bucket (J.budget - E.n) n l [] p = .ok o q/\Suf p q/\i5 q/\q.n<=1000000/\Rel E M q/\M=E.n - q.n/\on=o.length/\(List.range on).map of=o/\on<=2000000/\u2 Tryz.prog 100 [.ptr 0 b 0,b6 l,.sl gk0 none 0 0 k0 f0] [(0,⟨b,174,C9 J E N p.note⟩)] (fun x => ⟨.sl none (x.A 3) on (x.c 4) 2 (fun i => lbC (of i)),[(0,C9 J E M q.note)],[]⟩)) ∨
  ∃ wq q M,∃ W:f9 -> u0,D6 J.bucket (J.budget - E.n) n l [] p = .stop wq q/\Suf p q/\M=E.n - q.n/\(∀ x,W x=wqA x wq)/\u2 Tryz.prog 100 [.ptr 0 b 0,b6 l,.sl gk0 none 0 0 k0 f0] [(0,⟨b,174,C9 J E N p.note⟩)] (fun x => ⟨yU x,[(0,z7 J E M (W x) q.note)],[]⟩):=by
 have hfr:=U3 J.bucket (J.budget - E.n) n l [] p
 cases hr:D6 J.bucket (J.budget - E.n) n l [] p with
 | ok o q =>
  have hs:=hfr.of hr;have hlo:=Z7 hr;simp only [List.length_nil,Nat.zero_add] at hlo;refine .inl ⟨o,q,_,o.length,lE o,rfl,hs,hp.suf hs,Nat.le_trans hs.le hn,hR.suf hs,rfl,rfl,?_,by omega,zX b J hJ E hE N p hR hp hn l hl n hf gk0 k0 f0 hr rfl rfl rfl⟩;apply List.ext_getElem
  .simp
  intro i h1 h2;simp [lE,List.getD,h2]
 | stop wq q => exact .inr ⟨wq,q,_,fun x => wqA x wq,rfl,hfr.ofs hr,rfl,fun _ => rfl,zW b J hJ E hE N p hR hp hn l hl n hf gk0 k0 f0 hr rfl fun _ => rfl⟩
end
theorem DF (J:i6) (E:s6):u2 Tryz.prog 57 [U2 J,cg E.A E.n E.c E.f] [] (fun x => ⟨.ptr 9 x.b 0,[],[(9,⟨x.b,174,C9 J E 0 nt0⟩)]⟩):=by
 intro m w hm hargs hpre;refine enX 10 hm hpre hargs Tryz.func57 fun B hB a0 hF => ?_
 refine wp_seq (rg hB a6 [1,2] [2] [] hF fun X0 a0 w1 hF => ?_);refine wp_seq (rg hB a6 [4] [9,9] [] hF fun X1 a0 w1 hF => ?_);refine wp_ret ((rx hB a6 hF (⟨(X1 4).b,fun _ => none,fun _ => 0,fun _ => .empty⟩) [9] (he:=?_) (hn:=?_)).1)
 .subst hB; exact Sim.ptr
 exact ⟨⟨_,rfl,by subst hB; exact ⟨zr,zr,zr,zr,zr,zr,zr,zr,zr,zr,zr,zr,zr,zr,zr,zr,zr,zr,zr,zr,zr,zr,zr,zr,zr,zr,zr,zr,zr,zr,zr,zr,zr,zr,Sim.ff,zr,zr,zr,zr,trivial⟩⟩,(by intro e he; cases he),(by simp),trivial⟩
theorem yB (b:Nat) (J:i6) (E:s6) (N:Nat) (Q:u0) (t:Nt) (h:N < E.n):u2 Tryz.prog 61 [.ptr 0 b 0] [(0,⟨b,174,z7 J E N Q t⟩)] (fun _ => ⟨.tup [.agg [.int .i64 0,.int .i64 0,.int .u64 0,.int .u64 0,.int .i64 0,.sl none none 0 0 2 (fun _ => []),.int .i64 0,.int .u64 0,.int .u64 0,.int .i64 0,.bool .ff,.str ⟨#[]⟩,.sl none none 0 0 2 (fun _ => []),.int .u64 0,.bool .ff],.int .i64 5],[(0,z7 J E N Q t)],[]⟩):=by
 intro m w hm hargs hpre;refine enX 19 hm hpre hargs Tryz.func61 fun B hB a0 hF => ?_
 refine wp_seq (rg hB a6 [0,2] [0,2] [] hF fun X0 a0 w1 hF => ?_);refine wp_seq (wp_seq (drg hB a6 [13,0,2] [0,2] [] hF fun X1 a0 w1 hF => ?_));apply a7 hF rfl<;>intro hb hF
 .skip
  refine wp_seq (rg hB a6 [2,3] [0,2] [] hF fun X2 a0 w1 hF => ?_);exact wp_ret ((rx hB a6 hF f4 []).1)
 exfalso
 have h9:¬ N < E.n:=by
  have:¬ (N:Int) < (E.n:Int):=by subst hB; simpa [std,a8] using hb
  omega
 exact h9 h
theorem qh (k0:Nat) (b:Nat) (J:i6) (E:s6) (N:Nat) (Q:u0) (t:Nt) (h:N < E.n):u2 Tryz.prog 61 [.ptr k0 b 0] [(k0,⟨b,174,z7 J E N Q t⟩)] (fun _ => ⟨.tup [.agg [.int .i64 0,.int .i64 0,.int .u64 0,.int .u64 0,.int .i64 0,.sl none none 0 0 2 (fun _ => []),.int .i64 0,.int .u64 0,.int .u64 0,.int .i64 0,.bool .ff,.str ⟨#[]⟩,.sl none none 0 0 2 (fun _ => []),.int .u64 0,.bool .ff],.int .i64 5],[(k0,z7 J E N Q t)],[]⟩):=
 (yB b J E N Q t h).re (by repeat (first | exact trivial | refine ⟨Sim.ptr,?_⟩ | refine ⟨Sim.fn ⟨Sim.ptr,trivial⟩ trivial,?_⟩ | refine ⟨Sim.fn trivial ⟨Sim.ptr,trivial⟩,?_⟩ | refine ⟨zr,?_⟩)) rfl (fun x => ⟨rfl,rfl,zr,rfl⟩)
theorem yC (b:Nat) (J:i6) (E:s6) (N:Nat) (Q:u0) (t:Nt) (h:¬ N < E.n):u2 Tryz.prog 61 [.ptr 0 b 0] [(0,⟨b,174,z7 J E N Q t⟩)] (fun _ => ⟨.tup [B5 Q,.int .i64 0],[(0,z7 J E N Q t)],[]⟩):=by
 intro m w hm hargs hpre;refine enX 19 hm hpre hargs Tryz.func61 fun B hB a0 hF => ?_
 refine wp_seq (rg hB a6 [0,2] [0,2] [] hF fun X0 a0 w1 hF => ?_);refine wp_seq (wp_seq (drg hB a6 [13,0,2] [0,2] [] hF fun X1 a0 w1 hF => ?_));apply a7 hF rfl<;>intro hb hF
 .exfalso
  have h9:N < E.n:=by
   have:(N:Int) < (E.n:Int):=by subst hB; simpa [std,a8] using hb
   omega
  exact h h9
 skip
 refine wp_skip (wp_seq (rg hB a6 [2,3] [0,2] [] hF fun X3 a0 w1 hF => ?_));exact wp_ret ((rx hB a6 hF f4 []).1)
theorem qi (k0:Nat) (b:Nat) (J:i6) (E:s6) (N:Nat) (Q:u0) (t:Nt) (h:¬ N < E.n):u2 Tryz.prog 61 [.ptr k0 b 0] [(k0,⟨b,174,z7 J E N Q t⟩)] (fun _ => ⟨.tup [B5 Q,.int .i64 0],[(k0,z7 J E N Q t)],[]⟩):=
 (yC b J E N Q t h).re (by repeat (first | exact trivial | refine ⟨Sim.ptr,?_⟩ | refine ⟨Sim.fn ⟨Sim.ptr,trivial⟩ trivial,?_⟩ | refine ⟨Sim.fn trivial ⟨Sim.ptr,trivial⟩,?_⟩ | refine ⟨zr,?_⟩)) rfl (fun x => ⟨rfl,rfl,zr,rfl⟩)
theorem DH (J:i6) (hJ:bF J) (E:s6) (hEn:E.n<=900000) (hin:∀ j,j < E.n -> InG (E.f j)):j5 Tryz.prog 41 [U2 J,cg E.A E.n E.c E.f] (fun x => .tup [B5 (wqA x (E4 J E.n E.f).1),.int .i64 (E4 J E.n E.f).2]):=by
 intro m w hm hargs;have S1:=FG J hJ.lab E.A E.n E.c E.f hin;obtain ⟨rt,hrt⟩:=eqv ((I7 E.n E.f && G6 J));rw [<-hrt] at S1;have SN:=DF J E;refine en 42 hm hargs Tryz.func41 fun B hB a0 hF => ?_
 refine wp_seq (rg hB a6 [1,2,4] [0,2,4] [] hF fun X0 a0 w1 hF => ?_);have O1:=S1;refine wp_seq (wp_seq (rg hB a6 [18,1,2,4] [0,2,4] [(2,.r fun _ => .bool (.v rt))] hF fun X1 a0 w1 hF => ?_));apply a7 hF rfl<;>intro hb hF
 .have hf:(G6 J && (decide (J.kind=6)) && I7 E.n E.f)=false:=by
   have h9:(if (!rt)=true then true else (J.kind != 6))=true:=by subst hB; exact hb
   cases hr:rt
   .rw [hr] at hrt; cases h1:I7 E.n E.f<;>cases h2:G6 J<;>simp [h1,h2] at hrt ⊢
   rw [hr] at h9; by_cases k6:J.kind=6<;>simp [k6] at h9 ⊢
  refine wp_seq (rg hB a6 [4,5] [0,4] [] hF fun X2 a0 w1 hF => ?_);refine wp_ret ((rsi hB a6 hF (⟨0,fun _ => none,fun _ => 0,fun _ => .empty⟩) (he:=?_)));subst hB;have ht9:E4 J E.n E.f=(zWq,1):=by unfold E4; rw [hf]; rfl
  rw [ht9]; exact Sim.tup ⟨Sim.agg ⟨zr,zr,zr,zr,zr,zq0,zr,zr,zr,zr,zr,zr,zq0,zr,zr,trivial⟩,zr,trivial⟩
 have hf:(G6 J && (decide (J.kind=6)) && I7 E.n E.f)=true:=by
  have h9:(if (!rt)=true then true else (J.kind != 6))=false:=by subst hB; exact hb
  cases hr:rt
  .rw [hr] at h9; cases h9
  rw [hr] at h9 hrt; cases h1:I7 E.n E.f<;>cases h2:G6 J<;>simp [h1,h2] at hrt ⊢
  by_cases k6:J.kind=6<;>simp [k6] at h9 ⊢
 have hjb:G6 J=true:=by
  simp only [Bool.and_eq_true] at hf; exact hf.1.1
 have hag:I7 E.n E.f=true:=by
  simp only [Bool.and_eq_true] at hf; exact hf.2
 have hkd:J.kind=6:=by
  simp only [Bool.and_eq_true,Bool.or_eq_true,decide_eq_true_eq] at hf; exact hf.1.2
 have hJ1:k8 J:=by
  have:=qJ (n:=0) hJ hjb (by omega);have e:J.less 0=J:=by unfold i6.less; simp
  rwa [e] at this
 have hE:E.n<=1000000:=by omega
 obtain ⟨p0,hp0e⟩:=eqv (oV E.n E.f);have hp0:i5 p0:=by rw [hp0e]; exact qx hin hag
 have hn0:p0.n<=1000000:=by rw [hp0e]; show E.n<=_; omega
 have hR0:Rel E 0 p0:=by rw [hp0e]; exact ⟨rfl,fun j => by show E.f j=E.f (0 + j); rw [Nat.zero_add]⟩
 have hnt0:p0.note=nt0:=by rw [hp0e]; rfl
 have hN0:0=E.n - p0.n:=by rw [hp0e]; show 0=E.n - E.n; omega
 have hpE:p0.n=E.n:=by rw [hp0e]; rfl
 have htot:E4 J E.n E.f=K0 (Y1 J.bucket (J.budget - E.n) p0):=by unfold E4; rw [hf,<-hp0e]; rfl
 refine wp_skip (wp_seq ?_);refine rg hB a6 [6,2,4] [0,2,4] [(2,.x fun x => ⟨.ptr 0 x.b 0,[],[(0,⟨x.b,174,C9 J E 0 nt0⟩)]⟩)] hF (hob:=by intro X; subst hB; simp only [b5,Ob.holds,BE.den]<;>and_intros<;>repeat first | trivial | rfl | exact u2.re SN (zl) rfl fun _ => ⟨rfl,rfl,Sim.ptr,rfl⟩ | exact (fun _ _ => by kernel_rfl) | refine ⟨?_,?_⟩ | intro h | exact Int.le_refl _ | decide | omega) fun X3 a0 w1 hF => ?_
 replace hF:=hF.memS (cells':=C9 J E 0 p0.note) (by rw [hnt0]; exact zl);apply wp_seq
 rcases xB (X3 2).b J hJ1 E hE 0 p0 hR0 hp0 hn0 cU kv (p0.n + 1) (Nat.lt_succ_self _) none 0 (fun _ => []) with ⟨o4,p4,N4,on,of,hm4,hs4,hp4,hn4,hR4,hN4,hon,hof,hlo,S4⟩ | ⟨wq4,p4,N4,W4,hm4,hs4,hN4,hW4,S4⟩
 .have ew:IntKind.u64.wrap (on:Int)=(on:Int):=by rw [IntKind.wrap_u64]; omega
  have O1:=S4;refine rg hB a6 [4,6,7] [0,4] [(2,.x fun x => ⟨.sl none (x.A 3) on (x.c 4) 2 (fun i => lbC (of i)),[(0,C9 J E N4 p4.note)],[]⟩)] hF fun X4 a0 w1 hF => ?_
  apply wp_seq
  rcases (DI (X3 2).b J hJ1 E hE N4 p4 hR4 hp4 hn4 ((X4 2).A 3) on ((X4 2).c 4) of o4 hof hlo).two (nO _ _ _) hp4 hn4 hR4 with ⟨u5,p5,N5,hm5,hs5,hp5,hn5,hR5,hN5,S5⟩ | ⟨wq5,p5,N5,W5,hm5,hs5,hN5,hW5,S5⟩
  .have O1:=S5
   refine rg hB a6 [4,6,7] [0,4] [(2,lc J E (i7) N5 p5)] hF fun X5 a0 w1 hF => ?_
   apply wp_seq;refine rg hB a6 [4,6] [0,4] [(5,.x fun _ => ⟨i7,[(0,z7 J E N5 ⟨4,⟨0,0⟩,0,zRA,⟨0,false,⟨#[]⟩,none,0,0,fun _ => r7,(on:Int),false⟩⟩ p5.note)],[]⟩)] hF (hob:=by intro X; subst hB; simp only [b5,Ob.holds,BE.den]<;>and_intros<;>repeat first | trivial | rfl | exact u2.re (wl 0 (X3 2).b J E hE N5 ⟨0,⟨0,0⟩,0,zRA,jz⟩ p5.note ⟨0,false,⟨#[]⟩,none,0,0,fun _ => r7,(on:Int),false⟩) ⟨zr,Sim.agg ⟨zr,Sim.ff,zr,zq0,(show Sim (.int .u64 (IntKind.u64.wrap (on:Int))) (.int .u64 (on:Int)) from by rw [ew]; exact zr),Sim.ff,trivial⟩,trivial⟩ rfl fun _ => ⟨rfl,rfl,zr,rfl⟩ | exact (fun _ _ => by kernel_rfl) | refine ⟨?_,?_⟩ | intro h | exact Int.le_refl _ | decide | omega) fun X6 a0 w1 hF => ?_
   apply wp_seq
   rcases Bool.eq_false_or_eq_true (decide (N5 < E.n)) with hlt | hlt
   .refine rg hB a6 [4,8,9] [0,4,8] [(1,.x fun _ => ⟨.tup [.agg [.int .i64 0,.int .i64 0,.int .u64 0,.int .u64 0,.int .i64 0,.sl none none 0 0 2 (fun _ => []),.int .i64 0,.int .u64 0,.int .u64 0,.int .i64 0,.bool .ff,.str ⟨#[]⟩,.sl none none 0 0 2 (fun _ => []),.int .u64 0,.bool .ff],.int .i64 5],[(0,z7 J E N5 ⟨4,⟨0,0⟩,0,zRA,⟨0,false,⟨#[]⟩,none,0,0,fun _ => r7,(on:Int),false⟩⟩ p5.note)],[]⟩)] hF (hob:=by intro X; subst hB; simp only [b5,Ob.holds,BE.den]<;>and_intros<;>repeat first | trivial | rfl | exact qh 0 (X3 2).b J E N5 ⟨4,⟨0,0⟩,0,zRA,⟨0,false,⟨#[]⟩,none,0,0,fun _ => r7,(on:Int),false⟩⟩ p5.note (of_decide_eq_true hlt) | exact (fun _ _ => by kernel_rfl) | refine ⟨?_,?_⟩ | intro h | exact Int.le_refl _ | decide | omega) fun X7 a0 w1 hF => ?_
    have hr9:Y1 J.bucket (J.budget - E.n) p0 = .ok ⟨0,false,⟨#[]⟩,[],(on:Int),false⟩ p5:=by simp [Y1,Rs.bind,hm4,hm5,hlt,hon]
    have ht9:E4 J E.n E.f=(zWq,5):=by
     have h9:=of_decide_eq_true hlt;rw [htot,hr9]; unfold K0; simp only; rw [if_pos (by have:=hN5; skip; have:=hs4.le; have:=hs5.le; omega)]
    refine wp_seq (rg hB a6 [4,5] [0,4] [] hF fun X8 a0 w1 hF => ?_);refine wp_ret ((rsi hB a6 hF (⟨0,fun _ => none,fun _ => 0,fun _ => .empty⟩) (he:=?_)));subst hB;rw [ht9]; exact Sim.tup ⟨Sim.agg ⟨zr,zr,zr,zr,zr,zq0,zr,zr,zr,zr,zr,zr,zq0,zr,zr,trivial⟩,zr,trivial⟩
   refine rg hB a6 [4,8,9] [0,4,8] [(1,.x fun _ => ⟨.tup [B5 ⟨4,⟨0,0⟩,0,zRA,⟨0,false,⟨#[]⟩,none,0,0,fun _ => r7,(on:Int),false⟩⟩,.int .i64 0],[(0,z7 J E N5 ⟨4,⟨0,0⟩,0,zRA,⟨0,false,⟨#[]⟩,none,0,0,fun _ => r7,(on:Int),false⟩⟩ p5.note)],[]⟩)] hF (hob:=by intro X; subst hB; simp only [b5,Ob.holds,BE.den]<;>and_intros<;>repeat first | trivial | rfl | exact qi 0 (X3 2).b J E N5 ⟨4,⟨0,0⟩,0,zRA,⟨0,false,⟨#[]⟩,none,0,0,fun _ => r7,(on:Int),false⟩⟩ p5.note (of_decide_eq_false hlt) | exact (fun _ _ => by kernel_rfl) | refine ⟨?_,?_⟩ | intro h | exact Int.le_refl _ | decide | omega) fun X7 a0 w1 hF => ?_
   have hr9:Y1 J.bucket (J.budget - E.n) p0 = .ok ⟨0,false,⟨#[]⟩,[],(on:Int),false⟩ p5:=by simp [Y1,Rs.bind,hm4,hm5,hlt,hon]
   have ht9:E4 J E.n E.f=(⟨4,⟨0,0⟩,0,i8,⟨0,false,⟨#[]⟩,[],(on:Int),false⟩⟩,0):=by
    have h9:=of_decide_eq_false hlt;rw [htot,hr9]; unfold K0; simp only; rw [if_neg (by have:=hN5; skip; have:=hs4.le; have:=hs5.le; omega)]
   refine wp_seq (rg hB a6 [4,5] [0,4] [] hF fun X8 a0 w1 hF => ?_);refine wp_ret ((rsi hB a6 hF (⟨0,fun _ => none,fun _ => 0,fun _ => .empty⟩) (he:=?_)));subst hB;rw [ht9]; exact Sim.tup ⟨Sim.agg ⟨zr,zr,zr,zr,zr,zq0,zr,zr,zr,zr,zr,zr,zq0,zr,zr,trivial⟩,zr,trivial⟩
  have O1:=S5;refine rg hB a6 [4,6,7] [0,4] [(2,sc J E (i7) N5 W5 p5.note)] hF fun X5 a0 w1 hF => ?_
  apply wp_seq;refine rg hB a6 [4,6] [0,4] [(5,.x fun _ => ⟨i7,[(0,z7 J E N5 (W5 (X5 2)) p5.note)],[]⟩)] hF (hob:=by intro X; subst hB; simp only [b5,Ob.holds,BE.den]<;>and_intros<;>repeat first | trivial | rfl | exact K6.re (rZ (X3 2).b J E hE N5 (W5 (X5 2)) p5.note (⟨0,false,⟨#[]⟩,none,0,0,fun _ => r7,_,false⟩)) ⟨Sim.agg ⟨zr,Sim.ff,zr,zq0,zr,Sim.ff,trivial⟩,trivial⟩ | exact (fun _ _ => by kernel_rfl) | refine ⟨?_,?_⟩ | intro h | exact Int.le_refl _ | decide | omega) fun X6 a0 w1 hF => ?_
  apply wp_seq
  rcases Bool.eq_false_or_eq_true (decide (N5 < E.n)) with hlt | hlt
  .have O1:=qh 0 (X3 2).b J E N5 (W5 (X5 2)) p5.note (of_decide_eq_true hlt)
   refine rg hB a6 [4,8,9] [0,4,8] [(1,.x fun _ => ⟨.tup [.agg [.int .i64 0,.int .i64 0,.int .u64 0,.int .u64 0,.int .i64 0,.sl none none 0 0 2 (fun _ => []),.int .i64 0,.int .u64 0,.int .u64 0,.int .i64 0,.bool .ff,.str ⟨#[]⟩,.sl none none 0 0 2 (fun _ => []),.int .u64 0,.bool .ff],.int .i64 5],[(0,z7 J E N5 (W5 (X5 2)) p5.note)],[]⟩)] hF fun X7 a0 w1 hF => ?_
   have hr9:Y1 J.bucket (J.budget - E.n) p0 = .stop wq5 p5:=by simp [Y1,Rs.bind,hm4,hm5,hlt,hon]
   have ht9:E4 J E.n E.f=(zWq,5):=by
    have h9:=of_decide_eq_true hlt;rw [htot,hr9]; unfold K0; simp only; rw [if_pos (by have:=hN5; skip; have:=hs4.le; have:=hs5.le; omega)]
   refine wp_seq (rg hB a6 [4,5] [0,4] [] hF fun X8 a0 w1 hF => ?_);refine wp_ret ((rsi hB a6 hF (⟨0,fun _ => none,fun _ => 0,fun _ => .empty⟩) (he:=?_)));subst hB;rw [ht9]; exact Sim.tup ⟨Sim.agg ⟨zr,zr,zr,zr,zr,zq0,zr,zr,zr,zr,zr,zr,zq0,zr,zr,trivial⟩,zr,trivial⟩
  have O1:=qi 0 (X3 2).b J E N5 (W5 (X5 2)) p5.note (of_decide_eq_false hlt);refine rg hB a6 [4,8,9] [0,4,8] [(1,.x fun _ => ⟨.tup [B5 (W5 (X5 2)),.int .i64 0],[(0,z7 J E N5 (W5 (X5 2)) p5.note)],[]⟩)] hF fun X7 a0 w1 hF => ?_
  have hr9:Y1 J.bucket (J.budget - E.n) p0 = .stop wq5 p5:=by simp [Y1,Rs.bind,hm4,hm5,hlt,hon]
  have ht9:E4 J E.n E.f=(wq5,0):=by
   have h9:=of_decide_eq_false hlt;rw [htot,hr9]; unfold K0; simp only; rw [if_neg (by have:=hN5; skip; have:=hs4.le; have:=hs5.le; omega)]
  refine wp_seq (rg hB a6 [4,5] [0,4] [] hF fun X8 a0 w1 hF => ?_);refine wp_ret ((rsi hB a6 hF ((X5 2)) (he:=?_)));subst hB;rw [ht9,<-(hW5 _)]; exact zr
 have O1:=S4;refine rg hB a6 [4,6,7] [0,4] [(2,.x fun x => ⟨yU x,[(0,z7 J E N4 (W4 x) p4.note)],[]⟩)] hF fun X4 a0 w1 hF => ?_
 have O1:=DJ (X3 2).b J E hE N4 (W4 (X4 2)) p4.note ((X4 2).A 3) ((X4 2).c 3) ((X4 2).c 4) (lbX (X4 2));refine wp_seq (rg hB a6 [4,6,7] [0,4] [(2,dc J E (i7) N4 (W4 (X4 2)) p4.note)] hF fun X5 a0 w1 hF => ?_);apply wp_seq;refine rg hB a6 [4,6] [0,4] [(5,.x fun _ => ⟨i7,[(0,z7 J E N4 (W4 (X4 2)) p4.note)],[]⟩)] hF (hob:=by intro X; subst hB; simp only [b5,Ob.holds,BE.den]<;>and_intros<;>repeat first | trivial | rfl | exact K6.re (rZ (X3 2).b J E hE N4 (W4 (X4 2)) p4.note (⟨0,false,⟨#[]⟩,none,0,0,fun _ => r7,_,false⟩)) ⟨Sim.agg ⟨zr,Sim.ff,zr,zq0,zr,Sim.ff,trivial⟩,trivial⟩ | exact (fun _ _ => by kernel_rfl) | refine ⟨?_,?_⟩ | intro h | exact Int.le_refl _ | decide | omega) fun X6 a0 w1 hF => ?_
 apply wp_seq
 rcases Bool.eq_false_or_eq_true (decide (N4 < E.n)) with hlt | hlt
 .have O1:=qh 0 (X3 2).b J E N4 (W4 (X4 2)) p4.note (of_decide_eq_true hlt)
  refine rg hB a6 [4,8,9] [0,4,8] [(1,.x fun _ => ⟨.tup [.agg [.int .i64 0,.int .i64 0,.int .u64 0,.int .u64 0,.int .i64 0,.sl none none 0 0 2 (fun _ => []),.int .i64 0,.int .u64 0,.int .u64 0,.int .i64 0,.bool .ff,.str ⟨#[]⟩,.sl none none 0 0 2 (fun _ => []),.int .u64 0,.bool .ff],.int .i64 5],[(0,z7 J E N4 (W4 (X4 2)) p4.note)],[]⟩)] hF fun X7 a0 w1 hF => ?_
  have hr9:Y1 J.bucket (J.budget - E.n) p0 = .stop wq4 p4:=by simp [Y1,Rs.bind,hm4,hlt]
  have ht9:E4 J E.n E.f=(zWq,5):=by
   have h9:=of_decide_eq_true hlt;rw [htot,hr9]; unfold K0; simp only; rw [if_pos (by have:=hN4; skip; have:=hs4.le; omega)]
  refine wp_seq (rg hB a6 [4,5] [0,4] [] hF fun X8 a0 w1 hF => ?_);refine wp_ret ((rsi hB a6 hF (⟨0,fun _ => none,fun _ => 0,fun _ => .empty⟩) (he:=?_)));subst hB;rw [ht9]; exact Sim.tup ⟨Sim.agg ⟨zr,zr,zr,zr,zr,zq0,zr,zr,zr,zr,zr,zr,zq0,zr,zr,trivial⟩,zr,trivial⟩
 have O1:=qi 0 (X3 2).b J E N4 (W4 (X4 2)) p4.note (of_decide_eq_false hlt);refine rg hB a6 [4,8,9] [0,4,8] [(1,.x fun _ => ⟨.tup [B5 (W4 (X4 2)),.int .i64 0],[(0,z7 J E N4 (W4 (X4 2)) p4.note)],[]⟩)] hF fun X7 a0 w1 hF => ?_
 have hr9:Y1 J.bucket (J.budget - E.n) p0 = .stop wq4 p4:=by simp [Y1,Rs.bind,hm4,hlt]
 have ht9:E4 J E.n E.f=(wq4,0):=by
  have h9:=of_decide_eq_false hlt;rw [htot,hr9]; unfold K0; simp only; rw [if_neg (by have:=hN4; skip; have:=hs4.le; omega)]
 refine wp_seq (rg hB a6 [4,5] [0,4] [] hF fun X8 a0 w1 hF => ?_);refine wp_ret ((rsi hB a6 hF ((X4 2)) (he:=?_)));subst hB;rw [ht9,<-(hW4 _)]; exact zr
theorem tk {n:Nat} {f:Nat -> l5} (h:(if n<=300 then pU n f else true)=false):n<=300/\∀ i,i < n -> (f i).x.r.n<=40:=by
 by_cases hn:n<=300
 .rw [if_pos hn] at h
  refine ⟨hn,fun i hi => ?_⟩;unfold pU at h;simp only [Bool.or_eq_false_iff] at h;exact yc (rE h.1.2 i hi)
 rw [if_neg hn] at h; cases h
theorem wF {n:Nat} {f:Nat -> l5} (hb:n<=300/\∀ i,i < n -> (f i).x.r.n<=40) (hwf:∀ i,i < n -> k4 (f i).lab/\U64 (f i).x.r.nx.bits) (hu:∀ l,k4 l -> U64 l.bits):∀ i,i < n -> (f i).x.r.n<=1000000/\k4 (f i).lab/\U64 (f i).lab.bits/\U64 (f i).x.r.nx.bits:=fun i hi => ⟨by have:=hb.2 i hi; omega,(hwf i hi).1,hu _ (hwf i hi).1,(hwf i hi).2⟩
theorem nD (l:Lab) (h:k4 l):U64 l.bits:=by
 have:=h.2;simp [Lit.wf,IntKind.min,IntKind.max,IntKind.signed,IntKind.bits] at this;exact ⟨by omega,by omega⟩
theorem vG {n:Nat} {f:Nat -> l5} (hr:∀ i,i < n -> k4 (f i).lab/\U64 (f i).ver/\U64 (f i).x.r.nx.bits/\∀ t,t < (f i).x.r.n -> U64 ((f i).x.r.f t).key):∀ r ∈ r9 f n,RwG r:=by
 intro r hr';obtain ⟨i,hi,rfl⟩:=List.mem_map.1 hr';obtain ⟨h1,h2,h3,h4⟩:=hr i (List.mem_range.1 hi);refine ⟨h1,h2,h3,fun x hx => ?_⟩;obtain ⟨t,ht,rfl⟩:=List.mem_map.1 hx;exact h4 t (List.mem_range.1 ht)
theorem ge (A:Option Addr) (n c:Nat) (f:Nat -> l5) (hn:n<=maxLen) (hrw:∀ i,i < n -> k4 (f i).lab/\U64 (f i).ver/\U64 (f i).x.r.nx.bits/\∀ t,t < (f i).x.r.n -> U64 ((f i).x.r.f t).key) (J:i6) (hJ:bF J) (A2:Option Addr) (n2 c2:Nat) (f2:Nat -> u0) (hn2:n2<=maxLen) (hw2:∀ i,i < n2 -> (f2 i).x.r.n<=maxLen/\k4 (f2 i).lab/\U64 (f2 i).x.r.nx.bits/\∀ t,t < (f2 i).x.r.n -> U64 ((f2 i).x.r.f t).key) (hnew:aT (r9 f n)=none):j5 Tryz.prog 12 [T6 A n c f,U2 J,.sl none A2 n2 c2 15 (fun i => da (f2 i))] (fun _ => .bool .tt):=by
 intro m w hm hargs;have hmx:maxLen=9223372036854775807:=rfl;have hwf:∀ i,i < n -> k4 (f i).lab/\U64 (f i).x.r.nx.bits:=fun i hi => ⟨(hrw i hi).1,(hrw i hi).2.2.1⟩
 have S1:=yb A n c f hn;obtain ⟨bl,hbl⟩:=eqv (if n<=300 then pU n f else true);rw [<-hbl] at S1;refine en 97 hm hargs Tryz.func12 fun B hB a0 hF => ?_
 refine wp_seq (rg hB a6 [0,2,4] [4] [] hF fun X0 a0 w1 hF => ?_);have O1:=S1;refine wp_seq (wp_seq (rg hB a6 [29,0,2,4] [4] [(1,.r fun _ => .bool (.v bl))] hF fun X1 a0 w1 hF => ?_));apply a7 hF rfl<;>intro hb hF
 .refine wp_seq (rg hB a6 [6] [] [] hF fun X2 a0 w1 hF => ?_)
  refine wp_ret ((rsi hB a6 hF f4 (he:=?_)));subst hB;exact Sim.bool rfl
 have hb0:bl=false:=by
  have h9:(if (if bl=true then true else decide ((20:Int) < (n2:Int)))=true then true else decide ((600:Int) < (J.pn:Int)))=false:=by subst hB; exact hb
  revert h9; cases bl<;>simp
 have hb1:=tk (hbl ▸ hb0);have hN:=wF hb1 hwf nD;refine wp_skip (wp_seq (wp_region_lit (lpr 0 1 hB a6 [31,4] [4] [] hF fun X3_0 a0 w1 hF => ?_)));have SN:=CM A n c f hn hN hnew;refine D7 rfl rfl rfl rfl hF rfl rfl kW SN (fun _ _ _ => trivial) (fun b hb => by cases hb) (zl) (by intro e he; cases he) rfl rfl (fun y => noK) (fun _ _ _ _ _ _ _ _ _ _ => trivial) ?_;intro y a0 w1 hF;refine lnd 2 hB a6 [2,4,7,8] [4] [] hF fun X3 a0 w1 hF => ?_
 refine wp_seq (wp_seq (rg hB a6 [36,2,4,7,8] [4] [] hF fun X4 a0 w1 hF => ?_));refine j0 hF rfl (fun hF => ?_);have O1:=dE;refine wp_seq (rg hB a6 [6] [] [(0,.r fun _ => .bool .tt)] hF fun X5 a0 w1 hF => ?_);refine wp_ret ((rsi hB a6 hF f4 (he:=?_)));subst hB;refine Sim.bool ?_;simp [std,a8,BE.den,lu]
theorem fq (A:Option Addr) (n c:Nat) (f:Nat -> l5) (hn:n<=maxLen) (hrw:∀ i,i < n -> k4 (f i).lab/\U64 (f i).ver/\U64 (f i).x.r.nx.bits/\∀ t,t < (f i).x.r.n -> U64 ((f i).x.r.f t).key) (J:i6) (hJ:bF J) (A2:Option Addr) (n2 c2:Nat) (f2:Nat -> u0) (hn2:n2<=maxLen) (hw2:∀ i,i < n2 -> (f2 i).x.r.n<=maxLen/\k4 (f2 i).lab/\U64 (f2 i).x.r.nx.bits/\∀ t,t < (f2 i).x.r.n -> U64 ((f2 i).x.r.f t).key) {L:Shf} (hnew:aT (r9 f n)=some L):j5 Tryz.prog 12 [T6 A n c f,U2 J,.sl none A2 n2 c2 15 (fun i => da (f2 i))] (fun _ => .bool .tt):=by
 intro m w hm hargs;have hmx:maxLen=9223372036854775807:=rfl;have hwf:∀ i,i < n -> k4 (f i).lab/\U64 (f i).x.r.nx.bits:=fun i hi => ⟨(hrw i hi).1,(hrw i hi).2.2.1⟩
 have S1:=yb A n c f hn;obtain ⟨bl,hbl⟩:=eqv (if n<=300 then pU n f else true);rw [<-hbl] at S1;refine en 97 hm hargs Tryz.func12 fun B hB a0 hF => ?_
 refine wp_seq (rg hB a6 [0,2,4] [4] [] hF fun X0 a0 w1 hF => ?_);have O1:=S1;refine wp_seq (wp_seq (rg hB a6 [29,0,2,4] [4] [(1,.r fun _ => .bool (.v bl))] hF fun X1 a0 w1 hF => ?_));apply a7 hF rfl<;>intro hb hF
 .refine wp_seq (rg hB a6 [6] [] [] hF fun X2 a0 w1 hF => ?_)
  refine wp_ret ((rsi hB a6 hF f4 (he:=?_)));subst hB;exact Sim.bool rfl
 have hb0:bl=false:=by
  have h9:(if (if bl=true then true else decide ((20:Int) < (n2:Int)))=true then true else decide ((600:Int) < (J.pn:Int)))=false:=by subst hB; exact hb
  revert h9; cases bl<;>simp
 have hb1:=tk (hbl ▸ hb0);have hN:=wF hb1 hwf nD;refine wp_skip (wp_seq (wp_region_lit (lpr 0 1 hB a6 [31,4,2] [4] [] hF fun X3_0 a0 w1 hF => ?_)));have SN:=sg A n c f hn hN 14 hnew;have hg0:dW L:=ia (vG hrw) hnew;refine D7 rfl rfl rfl rfl hF rfl rfl kW (SN) (fun _ _ _ => trivial) (fun b hb => by cases hb) (zl) (by intro e he; cases he) rfl rfl (fun y => shF w.heap.size (y.c 0) L) (fun n x m w m' w' hn _ _ h => ⟨Nat.le_trans hn h.1,h.2⟩) ?_;intro y a0 w1 hF;obtain ⟨sb,hsb⟩:=eqv (y.b);obtain ⟨bM,hbM⟩:=eqv (y.c 0);rw [<-hsb,<-hbM] at hF;have hbfr:w.heap.size<=bM:=hF.kept.1;replace hF:=hF.withK (K':=shK bM L) hF.kept.2;refine lnd 2 hB a6 [2,4,7,8] [14,4] [] hF fun X3 a0 w1 hF => ?_
 refine wp_seq (wp_seq (rg hB a6 [36,2,4,7,8] [14,4] [] hF fun X4 a0 w1 hF => ?_));refine i9 hF rfl (fun hF => ?_);refine wp_skip (wp_seq (rg hB a6 [2,4,7,9] [14,4,9] [] hF fun X6 a0 w1 hF => ?_));refine wp_seq (wp_seq (rg hB a6 [9,10,2,4,7] [14,4,9] [] hF fun X7 a0 w1 hF => ?_));replace hF:=hF.headS (v':=.sl (some 9) none 0 0 8 (fun t => R8 ox)) (zq0) rfl;refine wp_block (ao (ι:=Nat × (Nat -> l9) × Option Addr × Nat × Shf × Int) (fun p => shK bM p.2.2.2.2.1) (fun p => [(9,.sl (some 9) p.2.2.1 p.1 p.2.2.2.1 8 (fun t => R8 (p.2.1 t))),(10,.int .i64 (p.1:Int))]) (fun p => [(14,⟨sb,113,[.raw (.map (some bM)),.int .i64 p.2.2.2.2.2]⟩)]) (fun p => [(9,⟨p.2.2.1,p.1,p.2.2.2.1,8,53⟩)]) (fun p => p.1<=60/\dW p.2.2.2.2.1/\∀ j,j < p.1 -> InG (p.2.1 j)) (fun p => 60 - p.1) (0,fun _ => ox,none,0,L,0) ⟨Nat.zero_le _,hg0,fun j hj => absurd hj (Nat.not_lt_zero _)⟩ hF ?_)
 rintro ⟨i,fz,A1,c1,Lc,kc⟩ ⟨hi,hg,hal⟩ a0 w1 hF
 try dsimp only at hi
 try dsimp only at hg
 try dsimp only at hal
 replace hF:=hF.withK (K':=shK bM Lc) hF.kept;have hwo:=(sn hJ).ok i fz hal;obtain ⟨W9,hW9⟩:=eqv ((E4 J i fz).1);obtain ⟨E9,hE9⟩:=eqv ((E4 J i fz).2);obtain ⟨rr9,hrr9⟩:=eqv (W9.r.rn);obtain ⟨nn9,hnn9⟩:=eqv (W9.res.items.length);obtain ⟨ff9,hff9⟩:=eqv (itF W9.res.items);have T9:=j5.wq (nz J hJ A1 i c1 fz (by omega) hal) hW9 hE9 hrr9 hnn9 hff9;rw [<-hW9] at hwo;have U10:j5 Tryz.prog 41 [U2 J,.sl none A1 i c1 8 (fun t => R8 (fz t))] (fun x => .tup [B5 (wqB x W9 rr9 nn9 ff9),.int .i64 E9]):=j5.wq (DH J hJ ⟨A1,i,c1,fz⟩ (by show i<=_; omega) hal) hW9 hE9 hrr9 hnn9 hff9
 have SS9:j5 Tryz.prog 40 [U2 J,.sl (some 9) A1 i c1 8 (fun t => R8 (fz t))] (fun x => .tup [B5 (wqB x W9 rr9 nn9 ff9),.int .i64 E9]):=T9.sim ⟨zr,Sim.recell (fun _ _ => rfl),trivial⟩;have SS10:j5 Tryz.prog 41 [U2 J,.sl (some 9) A1 i c1 8 (fun t => R8 (fz t))] (fun x => .tup [B5 (wqB x W9 rr9 nn9 ff9),.int .i64 E9]):=U10.sim ⟨zr,Sim.recell (fun _ _ => rfl),trivial⟩;refine wp_seq (wp_seq (rg hB a6 [43,2,4,7,9,10] [14,4,9] [] hF fun X8 a0 w1 hF => ?_));apply a7 hF rfl<;>intro hb hF
 .have h60:i < 60:=by
   have:(i:Int) < 60:=by subst hB; simpa [std,a8] using hb
   omega
  have O1:=SS9;refine wp_skip (wp_seq (wp_block (wp_seq (rg hB a6 [2,4,7,9,10,11,12] [14,4,9,11] [(2,.r fun x => .tup [.agg [.int .i64 W9.kind,.int .i64 W9.lab.len,.int .u64 W9.lab.bits,.int .u64 W9.ver,.int .i64 rr9.kd,.sl none (x.A 1) rr9.n (x.c 1) 2 (fun i => itC (rr9.f i)),.int .i64 rr9.nx.len,.int .u64 rr9.nx.bits,.int .u64 rr9.mrk,.int .i64 W9.res.code,.bool (.v W9.res.had),.str W9.res.val,.sl none (x.A 2) nn9 (x.c 2) 2 (fun i => itC (ff9 i)),.int .u64 W9.res.key,.bool (.v W9.res.more)],.int .i64 E9])] hF fun X10 a0 w1 hF => ?_))));have O1:=SS10;refine wp_seq (rg hB a6 [2,4,7,9,10,11,12,13,14] [14,4,9,11,13] [(2,.r fun x => .tup [.agg [.int .i64 W9.kind,.int .i64 W9.lab.len,.int .u64 W9.lab.bits,.int .u64 W9.ver,.int .i64 rr9.kd,.sl none (x.A 1) rr9.n (x.c 1) 2 (fun i => itC (rr9.f i)),.int .i64 rr9.nx.len,.int .u64 rr9.nx.bits,.int .u64 rr9.mrk,.int .i64 W9.res.code,.bool (.v W9.res.had),.str W9.res.val,.sl none (x.A 2) nn9 (x.c 2) 2 (fun i => itC (ff9 i)),.int .u64 W9.res.key,.bool (.v W9.res.more)],.int .i64 E9])] hF fun X11 a0 w1 hF => ?_);have O1:=yM (X10 2) (X11 2) W9 rr9 nn9 ff9;refine wp_seq (wp_seq (rg hB a6 [66,2,4,7,9,10,11,12] [14,4,9,11] [(2,.r fun _ => .bool .tt)] hF fun X12 a0 w1 hF => ?_));apply a7 hF rfl<;>intro hb hF
  .exfalso
   subst hB; simp [std,a8,BE.den] at hb
  skip
  refine wp_skip (wp_seq (wp_seq (rg hB a6 [73,2,4,7,9,10,11] [14,4,9,11] [] hF fun X14 a0 w1 hF => ?_)));apply a7 hF rfl<;>intro hb hF
  .skip
   have O1:=dE;refine wp_exit (wp_seq (rg hB a6 [6] [] [(0,.r fun _ => .bool .tt)] hF fun X20 a0 w1 hF => ?_));refine wp_ret ((rsi hB a6 hF f4 (he:=?_)));subst hB;refine Sim.bool ?_;simp [std,a8,BE.den,lu]
  skip
  refine wp_skip (wp_seq (wp_seq (rg hB a6 [77,2,4,7,9,10,11] [14,4,9,11] [] hF fun X15 a0 w1 hF => ?_)));apply a7 hF rfl<;>intro hb hF
  .have hin:i < n2:=by
    have:(i:Int) < (n2:Int):=by subst hB; simpa [std,a8] using hb
    omega
   refine wp_region_lit ?_;refine lpr 0 5 hB a6 [78,82,9,10,2,4,7,11] [14,4,9,11] [] hF (hob:=by intro X; subst hB; simp only [b5,Ob.holds,BE.den]<;>and_intros<;>repeat first | trivial | rfl | exact (show (0:Int)<=(i:Int) by omega) | exact (show (i:Int) < (n2:Int) by omega) | exact (fun _ _ => by kernel_rfl) | refine ⟨?_,?_⟩ | intro h | exact Int.le_refl _ | decide | omega) fun X16_0 a0 w1 hF => ?_
   have hqe:(f2 (B.toNat (i:Int)))=f2 i:=by subst hB; rw [show std.toNat (i:Int)=i from Int.toNat_natCast i]
   obtain ⟨hq1,hq2,hq3,hq4⟩:=hw2 i hin;have hq5:=nD _ hq2;rw [<-hqe] at hq1 hq2 hq3 hq4 hq5;have SD:=Ab 14 sb bM Lc (by have:=hg.ok.len; omega) kc (f2 (B.toNat (i:Int))) hq1 hq2 hq5 hq3;obtain ⟨D1,hD1⟩:=eqv (doL Lc (u0.abs (f2 (B.toNat (i:Int)))));rw [<-hD1] at SD;obtain ⟨GG1,hGG1⟩:∃ G:f9 -> l9,G=fun y => ci y D1.got:=⟨_,rfl⟩
   have hGf1:∀ y,ci y D1.got=GG1 y:=fun y => by rw [hGG1]
   simp only [hGf1] at SD;obtain ⟨k1,hk1⟩:=eqv ((if D1.wrote then IntKind.i64.wrap (kc + 1) else kc));rw [<-hk1] at SD;obtain ⟨er1,her1⟩:=eqv (D1.err);rw [<-her1] at SD;obtain ⟨L1,hL1⟩:=eqv (D1.L);rw [<-hL1] at SD;refine D7 rfl rfl rfl rfl hF rfl rfl gy SD (fun _ _ h => h) (fun b hb => by cases hb; exact fun h => absurd h (Nat.not_lt.2 hbfr)) ⟨zr,Sim.agg (by repeat (first | exact trivial | refine ⟨zr,?_⟩ | refine ⟨Sim.ff,?_⟩ | refine ⟨zq0,?_⟩)),trivial⟩ (by intro e he; simp only [List.mem_singleton] at he; subst he; rfl) rfl rfl (fun _ => shK bM L1) (fun _ _ _ _ _ _ _ _ _ h => h) ?_;intro y a0 w1 hF;obtain ⟨g1,hg1⟩:=eqv (GG1 y);rw [<-hg1] at hF;replace hF:=hF.withK (K':=shK bM L1) hF.kept;have hga1:g1.abs=D1.got:=by rw [hg1,<-hGf1,gn]
   have hg1:dW L1:=by
    rw [hL1,hD1];refine (gD hg ⟨hq2,hq3,fun x hx => ?_⟩).1;obtain ⟨t,ht,rfl⟩:=List.mem_map.1 hx;exact hq4 t (List.mem_range.1 ht)
   refine wpList_nil (wp_seq (wp_region_lit (lpr 0 2 hB a6 [85,86,9,10,2,4,7] [14,4,9] [] hF fun X17_0 a0 w1 hF => ?_)));have SD:=Ab 14 sb bM L1 (by have:=hg1.ok.len; omega) k1 (wqB (X10 2) W9 rr9 nn9 ff9) (by show rr9.n<=_; rw [hrr9]; have:=hwo.r.few; show W9.r.items.length<=_; omega) hwo.lab.wf hwo.lab.u (by show U64 rr9.nx.bits; rw [hrr9]; exact hwo.r.nx)
   obtain ⟨D2,hD2⟩:=eqv (doL L1 (u0.abs (wqB (X10 2) W9 rr9 nn9 ff9)));rw [<-hD2] at SD;obtain ⟨GG2,hGG2⟩:∃ G:f9 -> l9,G=fun y => ci y D2.got:=⟨_,rfl⟩
   have hGf2:∀ y,ci y D2.got=GG2 y:=fun y => by rw [hGG2]
   simp only [hGf2] at SD;obtain ⟨k2,hk2⟩:=eqv ((if D2.wrote then IntKind.i64.wrap (k1 + 1) else k1));rw [<-hk2] at SD;obtain ⟨er2,her2⟩:=eqv (D2.err);rw [<-her2] at SD;obtain ⟨L2,hL2⟩:=eqv (D2.L);rw [<-hL2] at SD;refine D7 rfl rfl rfl rfl hF rfl rfl gy SD (fun _ _ h => h) (fun b hb => by cases hb; exact fun h => absurd h (Nat.not_lt.2 hbfr)) ⟨zr,Sim.agg (by repeat (first | exact trivial | refine ⟨zr,?_⟩ | refine ⟨Sim.ff,?_⟩ | refine ⟨zq0,?_⟩)),trivial⟩ (by intro e he; simp only [List.mem_singleton] at he; subst he; rfl) rfl rfl (fun _ => shK bM L2) (fun _ _ _ _ _ _ _ _ _ h => h) ?_;intro y a0 w1 hF;obtain ⟨g2,hg2⟩:=eqv (GG2 y);rw [<-hg2] at hF;replace hF:=hF.withK (K':=shK bM L2) hF.kept;have hga2:g2.abs=D2.got:=by rw [hg2,<-hGf2,gn]
   have hgd:dW D2.L/\U64 D2.got.ver/\U7 D2.got.r:=by
    rw [hD2];have hra:rr9.abs=W9.r:=by rw [hrr9,V1]
    refine gD hg1 ⟨hwo.lab.wf,?_,?_⟩
    .show U64 rr9.abs.next.bits
     rw [hra]; exact hwo.r.nx
    show ∀ x ∈ rr9.abs.items,U64 x.key
    rw [hra]; exact hwo.r.key
   have hgi:InG g2:=qR hga2 hgd.2.1 hgd.2.2;have hg2:dW L2:=by rw [hL2]; exact hgd.1
   refine lnd 3 hB a6 [2,4,7,9,10,15,16] [14,4,9,15] [] hF fun X17 a0 w1 hF => ?_
   refine wp_seq (wp_seq (rg hB a6 [91,2,4,7,9,10,15] [14,4,9,15] [] hF fun X18 a0 w1 hF => ?_));apply a7 hF rfl<;>intro hb hF
   .skip
    have O1:=dE;refine wp_exit (wp_seq (rg hB a6 [6] [] [(0,.r fun _ => .bool .tt)] hF fun X20 a0 w1 hF => ?_));refine wp_ret ((rsi hB a6 hF f4 (he:=?_)));subst hB;refine Sim.bool ?_;simp [std,a8,BE.den,lu]
   skip
   refine wp_skip ?_;refine rg hB a6 [9,10,2,4,7] [14,4,9] [] hF (hob:=by intro X; subst hB; simp only [b5,Ob.holds,BE.den]<;>and_intros<;>repeat first | trivial | rfl | exact (show i + 1<=maxLen by omega) | exact (show (i + 1) * 80<=140737488355328 by omega) | exact (fun _ _ => by kernel_rfl) | refine ⟨?_,?_⟩ | intro h | exact Int.le_refl _ | decide | omega) fun X19 a0 w1 hF => ?_
   replace hF:=hF.headS (v':=.sl (some 9) ((X19 3).A 0) (B.nadd i 1) ((X19 3).c 0) 8 (fun t => R8 (if t=i then g2 else fz t))) (Sim.resl rfl (fun t ht => by
    subst hB;have ht2:t < i + 1:=ht
    show F8 i (fun t => R8 (fz t)) (I4 8 (R8 g2)) t=_
    unfold F8
    split
    .rw [if_neg (by omega)]
    have:t=i:=by omega
    subst this;rw [if_pos rfl];simp [I4])) rfl
   refine rg hB a6 [9,10,2,4,7] [14,4,9] [] hF fun X9 a0 w1 hF => ?_
   have e:B.arith .add .i64 (i:Int) 1=((i + 1:Nat):Int):=by subst hB; exact j2 (n:=2000) (by omega) (by omega)
   refine ⟨(i + 1,fun t => if t=i then g2 else fz t,_,_,L2,k2),⟨by simp only; omega,hg2,fun j hj => ?_⟩,by simp only; omega,by rw [<-e,show i + 1=B.nadd i 1 by subst hB; rfl]; exact hF⟩
   by_cases hji:j=i
   .simp only [if_pos hji]; exact hgi
   simp only [if_neg hji]; exact hal j (by have h9:j < i + 1:=hj; omega)
  skip
  refine wp_skip (wp_seq (wp_region_lit (lpr 0 2 hB a6 [85,86,9,10,2,4,7] [14,4,9] [] hF fun X17_0 a0 w1 hF => ?_)));have SD:=Ab 14 sb bM Lc (by have:=hg.ok.len; omega) kc (wqB (X10 2) W9 rr9 nn9 ff9) (by show rr9.n<=_; rw [hrr9]; have:=hwo.r.few; show W9.r.items.length<=_; omega) hwo.lab.wf hwo.lab.u (by show U64 rr9.nx.bits; rw [hrr9]; exact hwo.r.nx)
  obtain ⟨D2,hD2⟩:=eqv (doL Lc (u0.abs (wqB (X10 2) W9 rr9 nn9 ff9)));rw [<-hD2] at SD;obtain ⟨GG2,hGG2⟩:∃ G:f9 -> l9,G=fun y => ci y D2.got:=⟨_,rfl⟩
  have hGf2:∀ y,ci y D2.got=GG2 y:=fun y => by rw [hGG2]
  simp only [hGf2] at SD;obtain ⟨k2,hk2⟩:=eqv ((if D2.wrote then IntKind.i64.wrap (kc + 1) else kc));rw [<-hk2] at SD;obtain ⟨er2,her2⟩:=eqv (D2.err);rw [<-her2] at SD;obtain ⟨L2,hL2⟩:=eqv (D2.L);rw [<-hL2] at SD;refine D7 rfl rfl rfl rfl hF rfl rfl gy SD (fun _ _ h => h) (fun b hb => by cases hb; exact fun h => absurd h (Nat.not_lt.2 hbfr)) ⟨zr,Sim.agg (by repeat (first | exact trivial | refine ⟨zr,?_⟩ | refine ⟨Sim.ff,?_⟩ | refine ⟨zq0,?_⟩)),trivial⟩ (by intro e he; simp only [List.mem_singleton] at he; subst he; rfl) rfl rfl (fun _ => shK bM L2) (fun _ _ _ _ _ _ _ _ _ h => h) ?_;intro y a0 w1 hF;obtain ⟨g2,hg2⟩:=eqv (GG2 y);rw [<-hg2] at hF;replace hF:=hF.withK (K':=shK bM L2) hF.kept;have hga2:g2.abs=D2.got:=by rw [hg2,<-hGf2,gn]
  have hgd:dW D2.L/\U64 D2.got.ver/\U7 D2.got.r:=by
   rw [hD2];have hra:rr9.abs=W9.r:=by rw [hrr9,V1]
   refine gD hg ⟨hwo.lab.wf,?_,?_⟩
   .show U64 rr9.abs.next.bits
    rw [hra]; exact hwo.r.nx
   show ∀ x ∈ rr9.abs.items,U64 x.key
   rw [hra]; exact hwo.r.key
  have hgi:InG g2:=qR hga2 hgd.2.1 hgd.2.2;have hg2:dW L2:=by rw [hL2]; exact hgd.1
  refine lnd 3 hB a6 [2,4,7,9,10,15,16] [14,4,9,15] [] hF fun X17 a0 w1 hF => ?_
  refine wp_seq (wp_seq (rg hB a6 [91,2,4,7,9,10,15] [14,4,9,15] [] hF fun X18 a0 w1 hF => ?_));apply a7 hF rfl<;>intro hb hF
  .skip
   have O1:=dE;refine wp_exit (wp_seq (rg hB a6 [6] [] [(0,.r fun _ => .bool .tt)] hF fun X20 a0 w1 hF => ?_));refine wp_ret ((rsi hB a6 hF f4 (he:=?_)));subst hB;refine Sim.bool ?_;simp [std,a8,BE.den,lu]
  skip
  refine wp_skip ?_;refine rg hB a6 [9,10,2,4,7] [14,4,9] [] hF (hob:=by intro X; subst hB; simp only [b5,Ob.holds,BE.den]<;>and_intros<;>repeat first | trivial | rfl | exact (show i + 1<=maxLen by omega) | exact (show (i + 1) * 80<=140737488355328 by omega) | exact (fun _ _ => by kernel_rfl) | refine ⟨?_,?_⟩ | intro h | exact Int.le_refl _ | decide | omega) fun X19 a0 w1 hF => ?_
  replace hF:=hF.headS (v':=.sl (some 9) ((X19 3).A 0) (B.nadd i 1) ((X19 3).c 0) 8 (fun t => R8 (if t=i then g2 else fz t))) (Sim.resl rfl (fun t ht => by
   subst hB;have ht2:t < i + 1:=ht
   show F8 i (fun t => R8 (fz t)) (I4 8 (R8 g2)) t=_
   unfold F8
   split
   .rw [if_neg (by omega)]
   have:t=i:=by omega
   subst this;rw [if_pos rfl];simp [I4])) rfl
  refine rg hB a6 [9,10,2,4,7] [14,4,9] [] hF fun X9 a0 w1 hF => ?_
  have e:B.arith .add .i64 (i:Int) 1=((i + 1:Nat):Int):=by subst hB; exact j2 (n:=2000) (by omega) (by omega)
  refine ⟨(i + 1,fun t => if t=i then g2 else fz t,_,_,L2,k2),⟨by simp only; omega,hg2,fun j hj => ?_⟩,by simp only; omega,by rw [<-e,show i + 1=B.nadd i 1 by subst hB; rfl]; exact hF⟩
  by_cases hji:j=i
  .simp only [if_pos hji]; exact hgi
  simp only [if_neg hji]; exact hal j (by have h9:j < i + 1:=hj; omega)
 skip
 have O1:=dE;refine wp_exit (wp_seq (rg hB a6 [6] [] [(0,.r fun _ => .bool .tt)] hF fun X20 a0 w1 hF => ?_));refine wp_ret ((rsi hB a6 hF f4 (he:=?_)));subst hB;refine Sim.bool ?_;simp [std,a8,BE.den,lu]
end Go.Proofs.YtodelmejfpkicaaGreat.Sym
namespace Go.Proofs.YtodelmejfpkicaaGreat
open Go Go.RowKit
theorem iY (W:World) (v0 v1 v2:Value) (i0:Sym.BU W v0) (i1:Sym.BV W v1) (i2:Sym.yl W v2):Calls Tryz.prog 12 #[v0,v1,v2] W fun e w' => e = .returned (.bool true)/\Below W.heap.size W w':=by
 obtain ⟨A,n,c,f,rfl,h0,hn,hf⟩:=i0;obtain ⟨J,rfl,h1,hJ⟩:=i1;obtain ⟨A2,n2,c2,f2,rfl,h2,hn2,hf2⟩:=i2;have hrw:∀ i,i < n -> Sym.k4 (f i).lab/\U64 (f i).ver/\U64 (f i).x.r.nx.bits/\∀ t,t < (f i).x.r.n -> U64 ((f i).x.r.f t).key:=fun i hi => by
  obtain ⟨_,_,a,b,c,d⟩:=hf i hi;exact ⟨a,c,b.u64,d⟩
 have hw2:∀ i,i < n2 -> (f2 i).x.r.n<=maxLen/\Sym.k4 (f2 i).lab/\U64 (f2 i).x.r.nx.bits/\∀ t,t < (f2 i).x.r.n -> U64 ((f2 i).x.r.f t).key:=fun i hi => by
  obtain ⟨_,a,b,c,d⟩:=hf2 i hi;exact ⟨a,b,c.u64,d⟩
 have S:Sym.j5 Tryz.prog 12 [Sym.T6 A n c f,Sym.U2 J,Sym.vj A2 n2 c2 f2] (fun _ => .bool .tt):=by
  cases hnew:aT (Sym.r9 f n) with
  | none => exact Sym.ge A n c f hn hrw J hJ A2 n2 c2 f2 hn2 hw2 hnew
  | some L => exact Sym.fq A n c f hn hrw J hJ A2 n2 c2 f2 hn2 hw2 hnew
 refine (S (fun _ _ => False) W (fun _ _ h => h.elim) (fun v hv => ?_)).mono ?_
 .simp only [List.mem_cons,List.not_mem_nil,or_false] at hv
  rcases hv with rfl | rfl | rfl
  .exact h0
  .exact h1
  exact h2
 rintro e w' ⟨x,rfl,_,hb⟩
 exact ⟨rfl,hb⟩
end Go.Proofs.YtodelmejfpkicaaGreat
