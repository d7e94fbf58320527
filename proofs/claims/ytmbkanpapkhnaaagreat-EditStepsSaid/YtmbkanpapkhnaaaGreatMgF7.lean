/-
  SymEd2, SymEd3, SymEd4, SymEd5, SymRun27, SymLm, SymTr1, PlTrie, SymTr2, SymTr3, PlEdEx, SymEx27, SymSam, SymSd1, SymSd2, SymSd3, SymEe1, PlNote, SymEe2, SymEe3, SymDn, SymEe4, SymL27S, WalkEditSteps: put together by a program of mine (a claim may have 60 files at most). Conditions: none.
-/
import Derived.Test.YtmbkanpapkhnaaaGreatMgF6
set_option linter.unusedVariables false
set_option linter.unusedSimpArgs false
set_option maxRecDepth 100000
set_option maxHeartbeats 1600000
namespace Go.Proofs.YtmbkanpapkhnaaaGreat.Sym
open Go Go.RowKit
theorem Gw(l:Lab):v8 Tryz.prog 231 [f4 l] [] (fun x=>⟨.fn 268 [] [.ptr 900 x.b 0],[],[(900,⟨x.b,24,[.int .i64 l.len,.int .u64 l.bits]⟩)]⟩):=by
 intro m w hm hargs hpre;simp only[f4]at hargs ⊢;refine enX 4 hm hpre hargs Tryz.func231 fun B O a0 Z=>?_
 refine wp_seq (rg O a6 [1] [1] [] Z fun X0 _ _ Z=>?_);refine wp_seq (rg O a6 [2] [1] [] Z fun X1 _ _ Z=>?_);refine wp_ret ((rx O a6 Z ⟨(X0 0).b,fun _=>none,fun _=>0,fun _=>.empty⟩ [1] (he:=?_) (hn:=?_)).1)
 .exact Sim.fn trivial ⟨Sim.ptr,trivial⟩
 exact⟨⟨_,rfl,zl⟩,fun e he=>(by cases he),(by simp),trivial⟩
def Cv(b:Nat)(J:i5)(tot:Rs Unit)(K:Kn)(mem:List (Nat×Blk))(gr:List (Nat×Gr)):Prop:=K=noK/\gr=[]/\∃A c q rest,mem=(0,⟨b,139,C0 J A c q⟩)::rest/\tot = .ok () q
def Ih(b:Nat)(J:i5)(tot:Rs Unit)(ch:List PanicEntry)(K:Kn)(mem:List (Nat×Blk))(gr:List (Nat×Gr)):Prop:=∃(x:i8) (wq:Wq),ch=[{ v:=.iface 40 (D5 (wqA x wq)).den,recovered:=false }]/\K=noK.and (okK [D5 (wqA x wq)])/\gr=[]/\∃q rest,mem=(0,⟨b,139,C0 J (x.A 0) (x.c 0) q⟩)::rest/\tot = .stop wq q
theorem V0{b:Nat}{J:i5}{tot:Rs Unit}{A:Option Addr}{c:Nat}{q:Pst}{rest:List (Nat×Blk)}(h:tot = .ok () q):Cv b J tot noK ((0,⟨b,139,C0 J A c q⟩)::rest) []:=⟨rfl,rfl,A,c,q,rest,rfl,h⟩
theorem rP:j6 Tryz.prog 268:=fun _ _=>by kernel_rfl
theorem Ea(b:Nat)(J:i5)(hJ:j0 J)(A:Option Addr)(c:Nat)(p:Pst)(hp:f9 p)(hn:p.n<=1000000)(hbk:0<=J.bucket/\J.bucket<=16)(l:Lab)(hl:LOk l)(n:Nat)(hf:p.n<n):s5 169 0 b J A c p [f4 l] (fun _=>i4) (P7 J.bucket J.budget n l p):=by
  intro m w hm hargs hpre;obtain⟨tot,htot⟩:=eqv (P7 J.bucket J.budget n l p);rw[<-htot];have O1:=Gw l;simp only[f4]at hargs O1;refine IV 83 hm hpre hargs Tryz.func169 fun B O a0 Z=>?_
  refine de (fI (rg O a6 [2,3] [0,2,3] [] Z fun X0 a0 w1 Z=>?_));refine de (fI (rg O a6 [13,2] [0,2,900] [(1,.x fun x=>⟨.fn 268 [] [.ptr 900 x.b 0],[],[(900,⟨x.b,24,[.int .i64 l.len,.int .u64 l.bits]⟩)]⟩)] Z fun X1 a0 w1 Z=>?_));refine mH ?_;refine Eu (Cv b J tot) (fun c K mem gr=>c = .ret/\Cv b J tot K mem gr) (Ih b J tot) Z rfl rP ?_ ?_ ?_ ?_
  . rintro D K' mem' gr' ⟨rfl,rfl,A',c',q,rest,rfl,hq⟩ a' w' Z hD
    exact(sH O a6 [D] Z (fun E hE=>by rw[List.mem_singleton.1 hE];exact⟨fun _ _=>trivial,hD⟩) (fun w2 hm2 hv=>sW (cr:=⟨i4,[(0,C0 J A' c' q)],[]⟩) hm2 hv ⟨0,fun _=>A',fun _=>c',fun _=>.empty⟩ (by rw[hq];rfl) (zr) ⟨rfl,⟨_,rfl,zl⟩,trivial⟩ rfl)).2
  . rintro D cc K' mem' gr' ⟨rfl,rfl,rfl,A',c',q,rest,rfl,hq⟩ a' w' Z hD
    exact wp_ret (sH O a6 [D] Z (fun E hE=>by rw[List.mem_singleton.1 hE];exact⟨fun _ _=>trivial,hD⟩) (fun w2 hm2 hv=>sW (cr:=⟨i4,[(0,C0 J A' c' q)],[]⟩) hm2 hv ⟨0,fun _=>A',fun _=>c',fun _=>.empty⟩ (by rw[hq];rfl) (zr) ⟨rfl,⟨_,rfl,zl⟩,trivial⟩ rfl)).1
  . rintro D ch K' mem' gr' ⟨x,wq,rfl,rfl,rfl,q,rest,rfl,hq⟩ a' w' Z hD
    exact Hb Z (pj (fun _ _=>trivial) (sN _ D)) hD fun w2 hm2=>AE (sets:=[(0,C0 J (x.A 0) (x.c 0) q)]) hm2 x (by rw[hq];rfl) ⟨rfl,⟨_,rfl,zl⟩,trivial⟩
  intro lr D rc w1 hlr hD hrc h0 hsz hact hm1 hlb;have hne:D≠lr:=by omega
  have hoff:∀K:Kn,K=noK->K.off lr:=fun K h=>by rw[h];exact fun _ _=>trivial
  have hargs2:∀v ∈ [yV lr,.ptr 900 (X1 1).b 0],Ok (mT m [(0,⟨b,139,C0 J A c p⟩),(2,⟨(X0 0).b,113,[.ptr 0 b 0]⟩),(900,⟨(X1 1).b,24,[.int .i64 l.len,.int .u64 l.bits]⟩)] []) w1 v:=by
    intro v hv;simp only[List.mem_cons,List.not_mem_nil,or_false]at hv
    rcases hv with rfl|rfl
    . exact .raw _
    . exact .ptr _ _ _
  refine IW 20 hm1 hargs2 Tryz.func268 fun B1 hB1 a0 Z=>?_
  obtain rfl:B1=B:=hB1.trans O.symm;clear hB1;refine wpIn_block (mR (ι:=Nat×Pst×Option Addr×Nat×Lab) (fun q a w'=>b6 ⟨m,w,ats [(0,⟨b,139,C0 J A c p⟩)],[],KL noK [(13,.fn 268 [] [.ptr 900 (X1 1).b 0]),(2,.ptr 2 (X0 0).b 0)] lr rc D .ready none⟩ ⟨20,[(0,yV lr),(1,.ptr 900 (X1 1).b 0)],[],[(0,⟨b,139,C0 J q.2.2.1 q.2.2.2.1 q.2.1⟩),(2,⟨(X0 0).b,113,[.ptr 0 b 0]⟩),(900,⟨(X1 1).b,24,[.int .i64 q.2.2.2.2.len,.int .u64 q.2.2.2.2.bits]⟩)],[]⟩ a w')
    (fun q=>tot=P7 J.bucket J.budget q.1 q.2.2.2.2 q.2.1/\f9 q.2.1/\q.2.1.n<=1000000/\q.2.1.n<q.1/\LOk q.2.2.2.2) (fun q=>q.1) (n,p,A,c,l) ⟨htot,hp,hn,hf,hl⟩ Z ?_)
  rintro⟨nn,p0,A0,c0,l0⟩ ⟨hrun,hp0,hn0,hf0,hl0⟩ a w' Z
  dsimp only at hrun hp0 hn0 hf0 hl0 Z;obtain⟨m0,rfl⟩:∃n2,nn=n2+1:=⟨nn-1,by omega⟩
  have SP:=wY l0 hl0.u;have hpar:=hl0.par;simp only[f4]at SP;obtain⟨up,hup⟩:=eqv (G1 l0);rw[<-hup]at SP hpar;obtain⟨ue,hue⟩:=eqv (G4 l0);rw[<-hue]at SP;have O1:=SP;refine wpIn_block (wpIn_seq (rrg O a6 [4,3,0,1] [0,2,900,3] [(1,.r fun _=>.tup [.agg [.int .i64 up.len,.int .u64 up.bits],.int .i64 ue])] Z (hO:=fun _ _ h=>ah h) fun X2 a0 w1 Z=>?_));refine wpIn_seq (wpIn_seq (wpIn_region_lit ?_));refine zX 0 3 O a6 [12,3,0,1] [0,2,900,3] [] Z (hO:=fun _ _ h=>ah h) (fun X3 a0 w1 Z=>?_)
  rcases Decidable.em (¬ue=0)with he|he
  . have Z:=Z.headS (v':=.bool .tt) (by subst O;exact Sim.bool (by simp[std,a8,he,BE.den])) rfl
    refine uw 3 O a6 [18,3,0,1] [0,2,900,3] [] Z (hO:=fun _ _ h=>ah h) (fun X5 a0 w1 Z=>?_);refine gB Z rfl (fun Z=>?_);have Z:=Z.keep [] [0,2,900,3];exact wpIn_ret (gD (P:=Tryz.prog) Z rfl (⟨noK,_,_,hoff _ rfl,.inl ⟨_,rfl,.inl ⟨Z.bare,V0 (by rw[hrun];unfold P7;rw[if_neg (by rw[<-hue];exact he)])⟩⟩⟩)).1
  have he:=Decidable.not_not.1 he;have Z:=Z.headS (v':=.bool .ff) (by subst O; subst he; exact Sim.bool rfl) rfl;refine zX 3 3 O a6 [15,14,13,12,3,0,1] [0,2,900,3] [] Z (hO:=fun _ _ h => ah h) (fun X4 a0 w1 Z => ?_);have hrec:=Z.kept.2.1;subst hrc;refine ls rfl (mI rfl rfl Z rfl) rfl rfl Z rfl rfl (rc:=fw (P5 _ _ _ _ _ D .ready none) .ready none) hrec (by simp [fw,P5]) (fun hav => ?_);refine mc (T':=([(14,f4 l0),(15,f4 up)]:List (Nat × AV)).foldl (fun t e => t.setIfInBounds e.1 e.2.den) _) (by simp [fw,P5,f4]; rfl) ?_;have htot:∀ {r:Rs Unit},((K0 J.budget up p0).bind fun q p => if gk q 2=true then (K0 J.budget (cF l0) p).bind fun a p => if gk a 1=true then (K0 J.budget l0 p).bind fun b p =>
        if gk b 1=true/\(a.x.r.n:Int)+b.x.r.n<=Int.tdiv J.bucket 2 then(P3 J.budget up q.ver fW p).bind fun d p=>
          if d=true then(R5 J.bucket J.budget m0 up (upG q cB) p).bind fun _ p=>(K0 J.budget up p).bind fun w p=>if gk w 1=true then P7 J.bucket J.budget m0 up p else .ok () p else .ok () p
        else .ok () p else .ok () p else .ok () p)=r->tot=r:=fun h=>by
    rw[hrun];unfold P7;rw[if_pos (by rw[<-hue];exact he),<-hup];exact h
  refine wJ (P:=Tryz.prog) (fd:=Tryz.f169) Tryz.func169 (l:=lr) (D:=D) (by omega) hne (hoff _ rfl) rfl rfl Z ⟨_,hact⟩ ?_
    (fun K' mem' gr'=>K'=noK/\gr'=[]/\∃n' A' c' p',mem'=[(0,⟨b,139,C0 J A' c' p'⟩),(2,⟨(X0 0).b,113,[.ptr 0 b 0]⟩),(900,⟨(X1 1).b,24,[.int .i64 l0.len,.int .u64 l0.bits]⟩),(3,⟨(X2 5).b,24,[.int .i64 up.len,.int .u64 up.bits]⟩)]/\tot=P7 J.bucket J.budget n' up p'/\f9 p'/\p'.n<=1000000/\p'.n<n'/\n'<=m0)
    (fun c K mem gr=>c = .ret/\Cv b J tot K mem gr) (Ih b J tot) ?_ ?_ ?_ ?_
  . intro e he
    simp only[List.mem_cons,List.not_mem_nil,or_false]at he
    rcases he with rfl|rfl
    . exact⟨Nat.le_of_ble_eq_true rfl,hav _ (List.Mem.head _)⟩
    . exact⟨Nat.le_of_ble_eq_true rfl,hav _ (List.Mem.tail _ (List.Mem.head _))⟩
  . rintro K' mem' gr' w2 ⟨rfl,rfl,n',A',c',p',rfl,hrun',hp',hn',hf',hle'⟩ ho' hf2
    have Z:=hf2.put (some 16) (fun t ht=>by injection ht with ht;subst ht;exact Nat.le_of_ble_eq_true rfl) (.bool .tt) (fun _=>.bool _) (.bool true) fun _=>rfl
    refine uw 7 O a6 [18,3,0,1] [0,2,900,3] [] Z (hO:=fun _ _ h=>ah h) (fun X6 a0 w1 Z=>?_);refine pI Z rfl (fun Z=>?_);refine wpIn_skip (rrg O a6 [0,1] [0,2,900] [] Z (hO:=fun _ _ h=>ah h) fun X7 a0 w1 Z=>?_);exact⟨(n',p',A',c',up),⟨hrun',hp',hn',hf',hpar⟩,by dsimp only;omega,Z⟩
  . rintro cc K' mem' gr' w2 ⟨rfl,rfl,rfl,A',c',q,rest,rfl,hq⟩ ho' hf2
    have Z:=qR (hf2.put (some 16) (fun t ht=>by injection ht with ht;subst ht;exact Nat.le_of_ble_eq_true rfl) (.bool .ff) (fun _=>.bool _) (.bool false) fun _=>rfl);refine uw 7 O a6 [18,3,0,1] [] [] Z (hO:=fun _ _ h=>ah h) (fun X6 a0 w1 Z=>?_);refine gB Z rfl (fun Z=>?_);exact wpIn_ret (gD (P:=Tryz.prog) Z rfl (⟨noK,_,_,hoff _ rfl,.inl ⟨_,rfl,.inr ⟨.ret,⟨rfl,V0 hq⟩,(gy hf2.bare Z).bare⟩⟩⟩)).1
  . rintro ch K' mem' gr' w2 hx ho' hm2
    exact⟨Z.defers,K',mem',gr',ho',.inr ⟨ch,_,_,rfl,hx,hm2⟩⟩
  . intro aF Z
    refine wpIn_seq (rrg O a6 [15,4,2] [0,2,900,3,4] [] Z fun X7 a0 w1 Z=>?_);refine rrg O a6 [4,5,2] [0,2,900,3,4,5] [] Z fun X8 a0 w1 Z=>⟨_,_,_,_,Z,fun w2 Z=>?_⟩
    refine wpIn_block (wpIn_seq ?_)
    rcases(W0 0 b J hJ A0 c0 p0 hp0 hn0 up).two (i7 _ _ _) hp0 hn0 with⟨wq,q1,hm1,O1⟩|⟨g1,p1,hm1,hs1,hp1,hn1,S1⟩
    . refine uv 2 O a6 [16,17] [0,2,900,3,4,5] [] Z O1 fun X x _ _ Z hk=>?_
      exact aW Z hk (hoff _ rfl) ⟨x,wq,rfl,rfl,rfl,q1,_,rfl,htot (by rw[hm1];rfl)⟩
    have hl1:=u7 hm1;have O1:=S1;refine rrg O a6 [6,4,5,2] [0,2,900,3,4,5,6] [(2,rc J (u5 g1) p1)] Z fun X9 a0 w1 Z=>?_
    obtain⟨k1,hk1⟩:=eqv (gk g1 2);have O1:=fun(G:Option Nat) (A:Option Addr) (cells:Nat->List AV) (h0:cells 0=[.int .i64 2])=>F5 g1 G A 2 cells h0
    simp only[<-hk1]at O1;refine wpIn_seq (wpIn_seq (rrg O a6 [22,6,4,5,2] [0,2,900,3,4,5,6] [(2,.r fun _=>.bool (.v k1))] Z fun X10 a0 w1 Z=>?_));refine bz Z rfl (fun hb Z=>?_) (fun hb Z=>?_)
    . have t1:gk g1 2=false:=by rw[<-hk1];subst O;revert hb;cases k1<;>simp[std]
      exact wpIn_ret ⟨noK,_,_,⟨rfl,V0 (htot (by simp[hm1,Rs.bind,t1]))⟩,hoff _ rfl,Z.bare⟩
    have t1:gk g1 2=true:=by rw[<-hk1];subst O;revert hb;cases k1<;>simp[std]
    have SS:=Hd l0 hl0.u;simp only[f4]at SS;obtain⟨sb,hsb⟩:=eqv (cF l0);rw[<-hsb,<-hue]at SS;have O1:=SS;refine wpIn_skip (wpIn_seq (rrg O a6 [7,6,4,5,2] [0,2,900,3,4,5,6,7] [(1,.r fun _=>.tup [.agg [.int .i64 sb.len,.int .u64 sb.bits],.int .i64 ue])] Z fun X11 a0 w1 Z=>?_));refine wpIn_seq ?_
    rcases(W0 0 b J hJ ((X9 2).A 0) ((X9 2).c 0) p1 hp1 hn1 sb).two (i7 _ _ _) hp1 hn1 with⟨wq,q2,hm2,O1⟩|⟨g2,p2,hm2,hs2,hp2,hn2,S2⟩
    . refine uv 2 O a6 [28,29] [0,2,900,3,4,5,6,7] [] Z O1 fun X x _ _ Z hk=>?_
      exact aW Z hk (hoff _ rfl) ⟨x,wq,rfl,rfl,rfl,q2,_,rfl,htot (by simp[hm1,Rs.bind,t1,<-hsb,hm2])⟩
    have hl2:=u7 hm2;have hg2:=hp1.get hm2;have O1:=S2;refine rrg O a6 [9,6,4,5,2] [0,2,900,3,4,5,6,9] [(2,rc J (u5 g2) p2)] Z fun X12 a0 w1 Z=>?_
    obtain⟨k2,hk2⟩:=eqv (gk g2 1);have O1:=fun(G:Option Nat) (A:Option Addr) (cells:Nat->List AV) (h0:cells 0=[.int .i64 1])=>F5 g2 G A 1 cells h0
    simp only[<-hk2]at O1;refine wpIn_seq (wpIn_seq (rrg O a6 [34,9,6,4,5,2] [0,2,900,3,4,5,6,9] [(2,.r fun _=>.bool (.v k2))] Z fun X13 a0 w1 Z=>?_));refine bz Z rfl (fun hb Z=>?_) (fun hb Z=>?_)
    . have t2:gk g2 1=false:=by rw[<-hk2];subst O;revert hb;cases k2<;>simp[std]
      exact wpIn_ret ⟨noK,_,_,⟨rfl,V0 (htot (by simp[hm1,Rs.bind,t1,<-hsb,hm2,t2]))⟩,hoff _ rfl,Z.bare⟩
    have t2:gk g2 1=true:=by rw[<-hk2];subst O;revert hb;cases k2<;>simp[std]
    refine wpIn_skip (wpIn_seq ?_)
    rcases(W0 0 b J hJ ((X12 2).A 0) ((X12 2).c 0) p2 hp2 hn2 l0).two (i7 _ _ _) hp2 hn2 with⟨wq,q3,hm3,O1⟩|⟨g3,p3,hm3,hs3,hp3,hn3,S3⟩
    . refine uv 2 O a6 [35,36] [0,2,900,3,4,5,6,9] [] Z O1 fun X x _ _ Z hk=>?_
      exact aW Z hk (hoff _ rfl) ⟨x,wq,rfl,rfl,rfl,q3,_,rfl,htot (by simp[hm1,Rs.bind,t1,<-hsb,hm2,t2,hm3])⟩
    have hl3:=u7 hm3;have hg3:=hp2.get hm3;have O1:=S3;refine rrg O a6 [10,9,6,5,2] [0,2,900,3,5,6,9,10] [(2,rc J (u5 g3) p3)] Z fun X14 a0 w1 Z=>?_
    obtain⟨k3,hk3⟩:=eqv (gk g3 1);have O1:=fun(G:Option Nat) (A:Option Addr) (cells:Nat->List AV) (h0:cells 0=[.int .i64 1])=>F5 g3 G A 1 cells h0
    simp only[<-hk3]at O1;refine wpIn_seq (wpIn_seq (Hl O a6 [59,6,5,2] [0,2,900,3,5,6] [(2,.r fun _=>.bool (.v k3))] Z fun X15 a0 w1 Z=>?_));have f2:=hg2.ra.few;have f3:=hg3.ra.few;have e1:IntKind.i64.wrap ((g2.x.r.n:Int)+g3.x.r.n)=(g2.x.r.n:Int)+g3.x.r.n:=o8 (by omega) (by omega);have e2:IntKind.i64.wrap (Int.tdiv J.bucket 2)=Int.tdiv J.bucket 2:=by
      rw[Int.tdiv_eq_ediv_of_nonneg hbk.1];exact o8 (by omega) (by omega)
    have key:∀{r},(if(!k3)=true then true else decide (IntKind.i64.wrap ((g2.x.r.n:Int)+g3.x.r.n)>IntKind.i64.wrap (Int.tdiv J.bucket 2)))=r->decide (gk g3 1=true/\(g2.x.r.n:Int)+g3.x.r.n<=Int.tdiv J.bucket 2) = !r:=fun {r} h=>by
      rw[<-h,e1,e2,<-hk3]
      cases k3
      . rfl
      . by_cases h9:(g2.x.r.n:Int)+g3.x.r.n<=Int.tdiv J.bucket 2
        . simp[h9,Int.not_lt.2 h9]
        . simp[h9,Int.not_le.1 h9]
    refine bz Z rfl (fun hb Z=>?_) (fun hb Z=>?_)
    . have t3:=of_decide_eq_false (key (r:=true) (by subst O;exact hb))
      exact wpIn_ret ⟨noK,_,_,⟨rfl,V0 (htot (by simp only[hm1,Rs.bind,t1,<-hsb,hm2,t2,hm3,if_true];exact if_neg t3))⟩,hoff _ rfl,Z.bare⟩
    have t3:=of_decide_eq_true (key (r:=false) (by subst O;exact hb));have htot2:∀{r:Rs Unit},((P3 J.budget up g1.ver fW p3).bind fun d p=>if d=true then(R5 J.bucket J.budget m0 up (upG g1 cB) p).bind fun _ p=>(K0 J.budget up p).bind fun w p=>if gk w 1=true then P7 J.bucket J.budget m0 up p else .ok () p else .ok () p)=r->tot=r:=fun h=>htot (by
      simp only[hm1,Rs.bind,t1,<-hsb,hm2,t2,hm3,if_true];rw[if_pos t3];exact h)
    have SN:=ou;simp only[f4,B9]at SN;have O1:=SN;refine wpIn_skip (wpIn_seq (rrg O a6 [11,6,5,2] [0,2,900,3,5,6,11] [(0,.r fun _=>.agg [.int .i64 (-1),.int .u64 0])] Z fun X16 a0 w1 Z=>?_));refine wpIn_seq (wpIn_seq ?_)
    rcases(FZ 0 b J hJ ((X14 2).A 0) ((X14 2).c 0) p3 hp3 hn3 up g1.ver).two (l6 _ _ _ _ _) hp3 hn3 with⟨wq,q4,hm4,O1⟩|⟨d4,p4,hm4,hs4,hp4,hn4,S4⟩
    . refine uv 5 O a6 [62,63,65,66] [0,2,900,3,5,6,11] [] Z O1 fun X x _ _ Z hk=>?_
      exact aW Z hk (hoff _ rfl) ⟨x,wq,rfl,rfl,rfl,q4,_,rfl,htot2 (by rw[hm4];rfl)⟩
    have hl4:=cA hm4;have O1:=S4;refine rrg O a6 [68,11,6,5,2] [0,2,900,3,5,6,11] [(5,rc J (.bool (.v d4)) p4)] Z fun X17 a0 w1 Z=>?_
    refine bz Z rfl (fun hb Z=>?_) (fun hb Z=>?_)
    . have t4:d4=false:=by subst O;revert hb;cases d4<;>simp[std]
      exact wpIn_ret ⟨noK,_,_,⟨rfl,V0 (htot2 (by rw[hm4,t4];rfl))⟩,hoff _ rfl,Z.bare⟩
    have t4:d4=true:=by subst O;revert hb;cases d4<;>simp[std]
    refine wpIn_skip (wpIn_seq ?_)
    rcases(EZ 0 b J hJ ((X17 5).A 0) ((X17 5).c 0) p4 hp4 hn4 up hpar g1 m0 (by omega)).two (F9 _ _ _ _ _ _) hp4 hn4 with⟨wq,q5,hm5,O1⟩|⟨v5,p5,hm5,hs5,hp5,hn5,S5⟩
    . refine uv 7 O a6 [69,70,75] [0,2,900,3,5,6,11] [] Z O1 fun X x _ _ Z hk=>?_
      exact aW Z hk (hoff _ rfl) ⟨x,wq,rfl,rfl,rfl,q5,_,rfl,htot2 (by simp[hm4,t4,Rs.bind,hm5])⟩
    have hl5:=hs5.le;have O1:=S5;refine rrg O a6 [5,2] [0,2,900,3,5] [(7,rc J i4 p5)] Z fun X18 a0 w1 Z=>?_
    refine wpIn_seq ?_
    rcases(W0 0 b J hJ ((X18 7).A 0) ((X18 7).c 0) p5 hp5 hn5 up).two (i7 _ _ _) hp5 hn5 with⟨wq,q6,hm6,O1⟩|⟨g6,p6,hm6,hs6,hp6,hn6,S6⟩
    . refine uv 2 O a6 [77,78] [0,2,900,3,5] [] Z O1 fun X x _ _ Z hk=>?_
      exact aW Z hk (hoff _ rfl) ⟨x,wq,rfl,rfl,rfl,q6,_,rfl,htot2 (by simp[hm4,t4,Rs.bind,hm5,hm6])⟩
    have hl6:=u7 hm6;obtain⟨k6,hk6⟩:=eqv (gk g6 1);have O1:=S6;have O2:=fun(G:Option Nat) (A:Option Addr) (cells:Nat->List AV) (h0:cells 0=[.int .i64 1])=>F5 g6 G A 1 cells h0
    simp only[<-hk6]at O2;refine rrg O a6 [82] [0,2,900,3] [(2,rc J (u5 g6) p6),(4,.r fun _=>.bool (.v k6))] Z fun X19 a0 w1 Z=>?_
    refine bz Z rfl (fun hb Z=>?_) (fun hb Z=>?_)
    . have t6:gk g6 1=false:=by rw[<-hk6];subst O;revert hb;cases k6<;>simp[std]
      exact wpIn_ret ⟨noK,_,_,⟨rfl,V0 (htot2 (by simp[hm4,t4,Rs.bind,hm5,hm6,t6]))⟩,hoff _ rfl,Z.bare⟩
    have t6:gk g6 1=true:=by rw[<-hk6];subst O;revert hb;cases k6<;>simp[std]
    exact wpIn_skip ⟨noK,_,_,⟨rfl,rfl,m0,_,_,p6,rfl,htot2 (by simp[hm4,t4,Rs.bind,hm5,hm6,t6]),hp6,hn6,by omega,Nat.le_refl _⟩,hoff _ rfl,Z.bare⟩
theorem He(k0 b:Nat)(J:i5)(hJ:j0 J)(A:Option Addr)(c:Nat)(p:Pst)(hp:f9 p)(hn:p.n<=1000000)(hbk:0<=J.bucket/\J.bucket<=16)(l:Lab)(hl:LOk l)(n:Nat)(hf:p.n<n):s5 169 k0 b J A c p [f4 l] (fun _=>i4) (P7 J.bucket J.budget n l p):=
 s5.re (Ea b J hJ A c p hp hn hbk l hl n hf) ⟨zr,trivial⟩
theorem Ay(b:Nat)(J:i5)(A:Option Addr)(c:Nat)(p:Pst)(x:Nt):v8 Tryz.prog 168 [.ptr 0 b 0,.agg [.int .i64 x.code,.bool (.v x.had),.str x.val,.sl none none 0 0 2 (fun _=>[]),.int .u64 0,.bool .ff]] [(0,⟨b,139,C0 J A c p⟩)] (fun _=>⟨i4,[(0,C0 J A c (p.nt x))],[]⟩):=by
 intro m w hm hargs hpre;refine enX 8 hm hpre hargs Tryz.func168 fun B O a0 Z=>?_
 refine wp_seq (rg O a6 [0,3] [0,3] [] Z fun X0 _ _ Z=>?_);refine rg O a6 [] [0] [] Z fun X1 _ _ Z=>?_
 refine(rx O a6 Z f8 [] (hs:=?_)).2;subst O;exact⟨rfl,⟨_,rfl,zl⟩,trivial⟩
theorem EC(b:Nat)(J:i5)(A:Option Addr)(c:Nat)(p:Pst)(v:ByteArray):v8 Tryz.prog 168 [.ptr 0 b 0,.agg [.int .i64 0,.bool .tt,.str v,.sl none none 0 0 2 (fun _=>[]),.int .u64 0,.bool .ff]] [(0,⟨b,139,C0 J A c p⟩)] (fun _=>⟨i4,[(0,C0 J A c (p.nt ⟨0,true,v⟩))],[]⟩):=
 v8.re (Ay b J A c p ⟨0,true,v⟩) ⟨Sim.ptr,Sim.agg ⟨zr,Sim.tt,zr,zr,zr,zr,trivial⟩,trivial⟩ rfl fun x=>⟨rfl,rfl,zr,rfl⟩
theorem Ep(b:Nat)(J:i5)(hJ:j0 J)(A:Option Addr)(c:Nat)(p:Pst)(hp:f9 p)(hn:p.n<=1000000)(n:Nat)(hf:p.n<n)(hh:J.how=1 \/ J.how=2)(hbk:0<=J.bucket/\J.bucket<=16):s5 114 0 b J A c p [] (jO) (Y5 J.bucket J.budget J.how J.key n p):=by
 intro m w hm hargs hpre;refine enX 62 hm hpre hargs Tryz.func114 fun B O a0 Z=>?_
 refine wp_seq (rg O a6 [0,2] [0,2] [] Z fun X0 a0 w1 Z=>?_);refine wp_block (l5 (ι:=Nat×Pst×Option Addr×Nat) (fun q=>[]) (fun q=>[(0,⟨b,139,C0 J q.2.2.1 q.2.2.2 q.2.1⟩)]) (fun q=>[]) (fun q=>Y5 J.bucket J.budget J.how J.key n p=Y5 J.bucket J.budget J.how J.key q.1 q.2.1/\f9 q.2.1/\q.2.1.n<=1000000/\q.2.1.n<q.1) (fun q=>q.1) (n,p,A,c) ⟨rfl,hp,hn,hf⟩ Z ?_)
 rintro⟨nn,p0,A0,c0⟩ ⟨hrun,hp0,hn0,hf0⟩ a0 w1 Z
 try dsimp only at hrun
 try dsimp only at hp0
 try dsimp only at hn0
 try dsimp only at hf0
 obtain⟨m0,rfl⟩:∃n2,nn=n2+1:=⟨nn-1,by omega⟩
 refine wp_block (wp_seq ?_)
 rcases(sD 0 b J hJ A0 c0 p0 hp0 hn0 J.key hJ.key (m0+1) hf0 hh).two (R4 _ _ _ _ _ _) hp0 hn0 with⟨w1,p1,hm1,O1⟩|⟨s1,p1,hm1,hs1,hp1,hn1,S1⟩
 .refine stp 6 O a6 [9,14] [0] [] Z O1 fun _ _ _ _ Z hk=>?_
  exact thm (P:=Tryz.prog) (fn:=Tryz.f114) (q:=p1) Z hk (by simp[hrun,Y5,Rs.bind,hm1])
 have hx1:=dq hJ.key hp0 hm1;have O1:=S1;refine rg O a6 [0,2,3] [0,2,3] [(6,rc J (L9 s1) p1)] Z fun X1 a0 w1 Z=>?_
 have SF:=yb s1.g.x hx1.ok.ra J.key;obtain⟨fv,hfv⟩:=eqv (lK s1.g.x J.key);rw[<-hfv]at SF;obtain⟨fb,hfb⟩:=eqv (lL s1.g.x J.key);rw[<-hfb]at SF;have O1:=SF;refine wp_seq (drg O a6 [0,2,3,4,5] [0,2,3] [(8,.r fun _=>.tup [.str fv,.bool (.v fb)])] Z fun X2 a0 w1 Z=>?_);refine wp_seq (wp_seq (rg O a6 [29,0,2,3,4] [0,2,3] [] Z fun X3 a0 w1 Z=>?_));apply a7 Z rfl<;>intro hb Z
 .have tb:fb=false:=by subst O;revert hb;cases fb<;>simp[std]
  refine wp_seq (rg O a6 [2] [0,2] [] Z fun X4 a0 w1 Z=>?_);exact wp_ret ((rmm O a6 Z (v:=aJ) (q:=p1) ((X1 6).A 0) ((X1 6).c 0) (by simp[hrun,Y5,Rs.bind,hm1,<-hfv,<-hfb,tb])).1)
 have tb:fb=true:=by subst O;revert hb;cases fb<;>simp[std]
 have SW:=Gt s1.g.x hx1.ok.ra J.key;obtain⟨r1,hr1⟩:=eqv ((oA s1.g.x J.key).1.rn);rw[<-hr1]at SW;obtain⟨e1,he1⟩:=eqv ((oA s1.g.x J.key).2);rw[<-he1]at SW;have ha1:r1.abs=(oA s1.g.x J.key).1:=by rw[hr1];exact Q4 _
 have O1:=SW;refine wp_skip (wp_seq (drg O a6 [0,2,3,4,6] [0,2,3,6] [(8,.r fun y=>.tup [.agg [.int .i64 r1.kd,.sl none (y.A 0) r1.n (y.c 0) 2 (fun i=>itC (r1.f i)),.int .i64 r1.nx.len,.int .u64 r1.nx.bits,.int .u64 r1.mrk],.bool (.v e1)])] Z fun X5 a0 w1 Z=>?_));refine wp_seq (wp_seq ?_)
 rcases(cW 0 b J hJ ((X1 6).A 0) ((X1 6).c 0) p1 hp1 hn1 s1.lab s1.g.ver ⟨(X5 8).A 0,(X5 8).c 0,r1⟩).two (l6 _ _ _ _ _) hp1 hn1 with⟨w6,p6,hm6,O1⟩|⟨d6,p6,hm6,hs6,hp6,hn6,S6⟩
 .refine stp 7 O a6 [43,45,48,49] [0] [] Z O1 fun _ _ _ _ Z hk=>?_
  exact thm (P:=Tryz.prog) (fn:=Tryz.f114) (q:=p6) Z hk (by simp[hrun,Y5,Rs.bind,hm1,<-hfv,<-hfb,tb,<-ha1,hm6])
 have hl6:=cA hm6;have O1:=S6;refine rg O a6 [51,0,2,3,4] [0,2,3] [(7,rc J (.bool (.v d6)) p6)] Z fun X6 a0 w1 Z=>?_
 apply a7 Z rfl<;>intro hb Z
 .have td:d6=false:=by subst O;revert hb;cases d6<;>simp[std]
  replace Z:=Z.keep [0,2] [0,2];exact wp_exit (⟨(m0,p6,_,_),⟨by rw[hrun];simp[Y5,Rs.bind,hm1,<-hfv,<-hfb,tb,<-ha1,hm6,td],hp6,hn6,(by have:=hf0;have:=hs1.le;have:=hl6;dsimp only;omega)⟩,by simp only;omega,Z⟩)
 have td:d6=true:=by subst O;revert hb;cases d6<;>simp[std]
 refine wp_skip (wp_seq (rg O a6 [0,2,3,8] [0,2,3,8] [] Z fun X7 a0 w1 Z=>?_));have O1:=EC b J ((X6 7).A 0) ((X6 7).c 0) p6 fv;refine wp_seq (rg O a6 [0,2,3,8] [0,2,3,8] [(2,.x fun _=>⟨i4,[(0,C0 J ((X6 7).A 0) ((X6 7).c 0) (p6.nt ⟨0,true,fv⟩))],[]⟩)] Z fun X8 a0 w1 Z=>?_);apply wp_seq
 rcases(He 0 b J hJ ((X6 7).A 0) ((X6 7).c 0) (p6.nt ⟨0,true,fv⟩) hp6 hn6 hbk s1.lab hx1.lab2 m0 (show p6.n<m0 by have:=hf0;have:=hs1.le;have:=hl6;omega)).two (kx _ _ _ _ _) hp6 hn6 with⟨w9,p9,hm9,O1⟩|⟨v9,p9,hm9,hs9,hp9,hn9,S9⟩
 .refine stp 3 O a6 [57,59] [0] [] Z O1 fun _ _ _ _ Z hk=>?_
  exact thm (P:=Tryz.prog) (fn:=Tryz.f114) (q:=p9) Z hk (by simp[hrun,Y5,Rs.bind,hm1,<-hfv,<-hfb,tb,<-ha1,hm6,td,hm9])
 have O1:=S9;refine rg O a6 [2,8] [0,2,8] [(3,rc J (i4) p9)] Z fun X9 a0 w1 Z=>?_
 refine wp_seq (rg O a6 [2] [0,2] [] Z fun X10 a0 w1 Z=>?_);exact wp_ret ((rmm O a6 Z (v:=(⟨0,true,fv,[],0,false⟩:Rsl)) (q:=p9) ((X9 3).A 0) ((X9 3).c 0) (by simp[hrun,Y5,Rs.bind,hm1,<-hfv,<-hfb,tb,<-ha1,hm6,td,hm9])).1)
theorem Hk(k0 b:Nat)(J:i5)(hJ:j0 J)(A:Option Addr)(c:Nat)(p:Pst)(hp:f9 p)(hn:p.n<=1000000)(n:Nat)(hf:p.n<n)(hh:J.how=1 \/ J.how=2)(hbk:0<=J.bucket/\J.bucket<=16):s5 114 k0 b J A c p [] (jO) (Y5 J.bucket J.budget J.how J.key n p):=s5.re (Ep b J hJ A c p hp hn n hf hh hbk) (by repeat(first|exact trivial|refine⟨zr,?_⟩))
theorem rz(kf:Nat->Int)(ff:Nat->Nat)(k0:kf 0=4)(k1:kf 1=5)(f0:ff 0=113)(f1:ff 1=114):j7 Tryz.prog 57 [] (fun y=>.sl none (y.A 0) 2 (y.c 0) 2 (fun i=>[.int .i64 (kf i),.fn (ff i) [] []])):=by
 intro m w hm hargs;refine en 4 hm hargs Tryz.func57 fun B O a0 Z=>?_
 refine wp_seq (rg O a6 [] [] [] Z fun X0 _ _ Z=>?_);refine wp_seq (rg O a6 [0] [0,3] [] Z fun X1 _ _ Z=>?_);refine wp_ret ((rsi O a6 Z (⟨0,fun _=>some ⟨(X1 2).b,0,none⟩,fun _=>2,fun _=>.empty⟩) (he:=?_)));subst O;refine Sim.recell (fun i hi=>?_)
 match i,hi with
 |0,_=>show _=[AV.int .i64 (kf 0),.fn (ff 0) [] []];rw[k0,f0];rfl
 |1,_=>show _=[AV.int .i64 (kf 1),.fn (ff 1) [] []];rw[k1,f1];rfl
theorem yi:j6 Tryz.prog 58:=fun _ _=>by kernel_rfl
theorem Bj(b:Nat)(J:i5)(hJ:j0 J)(A:Option Addr)(c:Nat)(p:Pst)(hp:f9 p)(hn:p.n<=1000000)(E:Option Addr)(Jc:i5)(hkc:Jc.kind=J.kind)(hkd:J.kind=4)(hh:J.how=1 \/ J.how=2)(hbk:0<=J.bucket/\J.bucket<=16):s5 58 0 b J A c p [.ep E 0 0 0 (jR Jc)] (jO) (bJ J J.budget p):=by
 intro m w hm hargs hpre;obtain⟨kf,q0,q1⟩:∃kf:Nat->Int,kf 0=4/\kf 1=5:=⟨fun i=>if i=0 then 4 else 5,rfl,rfl⟩
 obtain⟨ff,r0,r1⟩:∃ff:Nat->Nat,ff 0=113/\ff 1=114:=⟨fun i=>if i=0 then 113 else 114,rfl,rfl⟩
 have SJ:=rz kf ff q0 q1 r0 r1;have hkj:Jc.kind=4:=hkc.trans hkd;refine enX 23 hm hpre hargs Tryz.func58 fun B O a0 Z=>?_
 refine wp_seq (rg O a6 [0,1,3] [0,3] [] Z fun X0 _ _ Z=>?_);have O1:=SJ;refine wp_seq (wp_seq (rg O a6 [8,0,1,3,6,7] [0,3] [(0,.r fun y=>.sl none (y.A 0) 2 (y.c 0) 2 (fun i=>[.int .i64 (kf i),.fn (ff i) [] []]))] Z fun X1 _ _ Z=>?_));refine wp_block (wp_loop_rounds 3 (C3 (wp_seq (rg O a6 [9,0,1,3,6,7,8] [0,3] [] Z fun X2 _ _ Z=>?_))));replace Z:=Z.headS (v':=.bool .tt) (Sim.bool (by subst O;rfl)) rfl;refine wp_seq (j1 Z rfl (fun Z=>?_));refine wp_skip (wp_seq (wp_block (wp_seq (rg O a6 [0,1,3,5,6,7,8] [5,0,3] [] Z fun X3 _ _ Z=>?_))));replace Z:=Z.memS (cells':=[.int .i64 4,.fn 113 [] []]) (by subst O;exact⟨(show Sim (.int .i64 (kf 0)) (.int .i64 4)by rw[q0];exact zr),(show Sim (.fn (ff 0) [] []) (.fn 113 [] [])by rw[r0];exact zr),trivial⟩);refine wp_seq (rg O a6 [16,0,1,3,5,6,7,8] [5,0,3] [] Z fun X4 _ _ Z=>?_);apply a7 Z rfl<;>intro hb Z
 .apply wp_seq
  rcases(HB 0 b J hJ A c p hp hn hh).two (tx _ _ _ _ _ _ _) hp hn with⟨w5,p5,hm5,O1⟩|⟨rv5,p5,hm5,hs5,hp5,hn5,S5⟩
  .refine stp 3 O a6 [18,19] [0] [] Z O1 fun _ _ _ _ Z hk=>?_
   exact thm (P:=Tryz.prog) (fn:=Tryz.f58) (q:=p5) Z hk (by simp[bJ,hkd,Rs.bind,hm5])
  have O1:=S5;refine rg O a6 [3] [0,3] [(3,rc J (jO rv5) p5)] Z fun X5 _ _ Z=>?_
  exact wp_ret ((rmm O a6 Z (v:=rv5) (q:=p5) ((X5 3).A 0) ((X5 3).c 0) (by simp[bJ,hkd,Rs.bind,hm5])).1)
 exfalso
 have h9:¬(4:Int)=Jc.kind:=by subst O;simpa[std,a8]using hb
 exact h9 hkj.symm
theorem Fo(k0 b:Nat)(J:i5)(hJ:j0 J)(A:Option Addr)(c:Nat)(p:Pst)(hp:f9 p)(hn:p.n<=1000000)(E:Option Addr)(Jc:i5)(hkc:Jc.kind=J.kind)(hkd:J.kind=4)(hh:J.how=1 \/ J.how=2)(hbk:0<=J.bucket/\J.bucket<=16):s5 58 k0 b J A c p [.ep E 0 0 0 (jR Jc)] (jO) (bJ J J.budget p):=s5.re (Bj b J hJ A c p hp hn E Jc hkc hkd hh hbk) (by repeat(first|exact trivial|refine⟨zr,?_⟩))
theorem Bi(b:Nat)(J:i5)(hJ:j0 J)(A:Option Addr)(c:Nat)(p:Pst)(hp:f9 p)(hn:p.n<=1000000)(E:Option Addr)(Jc:i5)(hkc:Jc.kind=J.kind)(hkd:J.kind=5)(hh:J.how=1 \/ J.how=2)(hbk:0<=J.bucket/\J.bucket<=16):s5 58 0 b J A c p [.ep E 0 0 0 (jR Jc)] (jO) (bJ J J.budget p):=by
 intro m w hm hargs hpre;obtain⟨kf,q0,q1⟩:∃kf:Nat->Int,kf 0=4/\kf 1=5:=⟨fun i=>if i=0 then 4 else 5,rfl,rfl⟩
 obtain⟨ff,r0,r1⟩:∃ff:Nat->Nat,ff 0=113/\ff 1=114:=⟨fun i=>if i=0 then 113 else 114,rfl,rfl⟩
 have SJ:=rz kf ff q0 q1 r0 r1;have hkj:Jc.kind=5:=hkc.trans hkd;refine enX 23 hm hpre hargs Tryz.func58 fun B O a0 Z=>?_
 refine wp_seq (rg O a6 [0,1,3] [0,3] [] Z fun X0 _ _ Z=>?_);have O1:=SJ;refine wp_seq (wp_seq (rg O a6 [8,0,1,3,6,7] [0,3] [(0,.r fun y=>.sl none (y.A 0) 2 (y.c 0) 2 (fun i=>[.int .i64 (kf i),.fn (ff i) [] []]))] Z fun X1 _ _ Z=>?_));refine wp_block (wp_loop_rounds 3 (C3 (wp_seq (rg O a6 [9,0,1,3,6,7,8] [0,3] [] Z fun X2 _ _ Z=>?_))));replace Z:=Z.headS (v':=.bool .tt) (Sim.bool (by subst O;rfl)) rfl;refine wp_seq (j1 Z rfl (fun Z=>?_));refine wp_skip (wp_seq (wp_block (wp_seq (rg O a6 [0,1,3,5,6,7,8] [5,0,3] [] Z fun X3 _ _ Z=>?_))));replace Z:=Z.memS (cells':=[.int .i64 4,.fn 113 [] []]) (by subst O;exact⟨(show Sim (.int .i64 (kf 0)) (.int .i64 4)by rw[q0];exact zr),(show Sim (.fn (ff 0) [] []) (.fn 113 [] [])by rw[r0];exact zr),trivial⟩);refine wp_seq (rg O a6 [16,0,1,3,5,6,7,8] [5,0,3] [] Z fun X4 _ _ Z=>?_);apply a7 Z rfl<;>intro hb Z
 .exfalso
  have h9:(4:Int)=Jc.kind:=by subst O;simpa[std,a8]using hb
  rw[hkj]at h9;exact absurd h9 (by decide)
 refine wp_skip (rg O a6 [8,0,1,3,6,7] [0,3] [] Z fun X6 _ _ Z=>?_);replace Z:=Z.headS (v':=.int .i64 1) (by subst O;exact zr) rfl;refine j5 (wp_seq (rg O a6 [9,0,1,3,6,7,8] [0,3] [] Z fun X2 _ _ Z=>?_));replace Z:=Z.headS (v':=.bool .tt) (Sim.bool (by subst O;rfl)) rfl;refine wp_seq (j1 Z rfl (fun Z=>?_));refine wp_skip (wp_seq (wp_block (wp_seq (rg O a6 [0,1,3,5,6,7,8] [5,0,3] [] Z fun X3 _ _ Z=>?_))));replace Z:=Z.memS (cells':=[.int .i64 5,.fn 114 [] []]) (by subst O;exact⟨(show Sim (.int .i64 (kf 1)) (.int .i64 5)by rw[q1];exact zr),(show Sim (.fn (ff 1) [] []) (.fn 114 [] [])by rw[r1];exact zr),trivial⟩);refine wp_seq (rg O a6 [16,0,1,3,5,6,7,8] [5,0,3] [] Z fun X4 _ _ Z=>?_);apply a7 Z rfl<;>intro hb Z
 .apply wp_seq
  rcases(Hk 0 b J hJ A c p hp hn (p.n+1) (Nat.lt_succ_self _) hh hbk).two (oE _ _ _ _ _ _) hp hn with⟨w5,p5,hm5,O1⟩|⟨rv5,p5,hm5,hs5,hp5,hn5,S5⟩
  .refine stp 3 O a6 [18,19] [0] [] Z O1 fun _ _ _ _ Z hk=>?_
   exact thm (P:=Tryz.prog) (fn:=Tryz.f58) (q:=p5) Z hk (by simp[bJ,hkd,Rs.bind,hm5])
  have O1:=S5;refine rg O a6 [3] [0,3] [(3,rc J (jO rv5) p5)] Z fun X5 _ _ Z=>?_
  exact wp_ret ((rmm O a6 Z (v:=rv5) (q:=p5) ((X5 3).A 0) ((X5 3).c 0) (by simp[bJ,hkd,Rs.bind,hm5])).1)
 exfalso
 have h9:¬(5:Int)=Jc.kind:=by subst O;simpa[std,a8]using hb
 exact h9 hkj.symm
theorem Fm(k0 b:Nat)(J:i5)(hJ:j0 J)(A:Option Addr)(c:Nat)(p:Pst)(hp:f9 p)(hn:p.n<=1000000)(E:Option Addr)(Jc:i5)(hkc:Jc.kind=J.kind)(hkd:J.kind=5)(hh:J.how=1 \/ J.how=2)(hbk:0<=J.bucket/\J.bucket<=16):s5 58 k0 b J A c p [.ep E 0 0 0 (jR Jc)] (jO) (bJ J J.budget p):=s5.re (Bi b J hJ A c p hp hn E Jc hkc hkd hh hbk) (by repeat(first|exact trivial|refine⟨zr,?_⟩))
theorem qb{J:i5}(h:E5 J=true):0<=J.bucket/\J.bucket<=16:=by
 unfold E5 btw at h;simp only[Bool.and_eq_true,decide_eq_true_eq]at h;omega
theorem oM(J:i5)(hJ:da J)(A:Option Addr)(n c:Nat)(f:Nat->u2)(hn:n<=900000)(hin:∀j,j<n->InG (f j)):j7 Tryz.prog 22 [aR J,cR A n c f] (fun x=>.tup [D5 (wqA x (J7 J n f).1),.int .i64 (J7 J n f).2]):=by
 intro m w hm hargs;have hmx:maxLen=9223372036854775807:=rfl;have hk:dM 2 (fun i=>if i=0 then 4 else 5) J.kind=(decide (J.kind=4)||decide (J.kind=5)):=by rw[DE];simp only[tK J.kind]<;>rfl
 have hdo:∀E:Option Addr,(E5 J&&dM 2 (fun i=>if i=0 then 4 else 5) J.kind&&K4 n f)=true->∀k0 b,pl 58 k0 b (J.less n) A c (my n f) [.ep E 0 0 0 (jR J)] (bJ J (J.budget-n) (my n f)):=by
  intro E hok k0 b;rw[hk]at hok;simp only[Bool.and_eq_true,Bool.or_eq_true,decide_eq_true_eq]at hok;obtain⟨⟨h1,h2⟩,h3⟩:=hok;have h4:=AR h1;have h5:=qb h1;have hp0:=rb hin h3;have hl:(my n f).n<=1000000:=by show n<=1000000;omega
  rcases h2 with h2|h2
  .exact (Fo k0 b (J.less n) (oB hJ h1 hn) A c (my n f) hp0 hl E J rfl h2 h4 h5).a fun a q h=>nF h
  exact(Fm k0 b (J.less n) (oB hJ h1 hn) A c (my n f) hp0 hl E J rfl h2 h4 h5).a fun a q h=>nF h
 have S:∀E kG kA kc cells,cells 0=[.int .i64 4]->cells 1=[.int .i64 5]->j7 Tryz.prog 35 [aR J,cR A n c f,.sl kG kA 2 kc 1 cells,.fn 58 [] [.ep E 0 0 0 (jR J)]] (fun x=>.tup [D5 (wqA x (J7 J n f).1),.int .i64 (J7 J n f).2]):=by
  intro E kG kA kc cells h10 h11;unfold J7;rw[<-hk];refine(((ED (cap:=[.ep E 0 0 0 (jR J)]) 58 _ J hJ A n c f hn hin kG kA 2 kc (fun i=>if i=0 then 4 else 5) (hdo E) yi).x (fun _=>rfl)).pure (fun _=>rfl)).sim ⟨zr,zr,Sim.recell (fun i hi=>?_),zr,trivial⟩
  match i,hi with
  |0,_=>rw[h10]<;>rfl
  |1,_=>rw[h11]<;>rfl
 obtain⟨W9,hW9⟩:=eqv ((J7 J n f).1);obtain⟨E9,hE9⟩:=eqv ((J7 J n f).2);obtain⟨rr9,hrr9⟩:=eqv (W9.r.rn);obtain⟨nn9,hnn9⟩:=eqv (W9.res.items.length);obtain⟨ff9,hff9⟩:=eqv (itF W9.res.items);have T:∀E kG kA kc cells,cells 0=[.int .i64 4]->cells 1=[.int .i64 5]->j7 Tryz.prog 35 [aR J,cR A n c f,.sl kG kA 2 kc 1 cells,.fn 58 [] [.ep E 0 0 0 (jR J)]] (fun x=>.tup [D5 (wqB x W9 rr9 nn9 ff9),.int .i64 E9]):=fun E kG kA kc cells h10 h11=>j7.wq (S E kG kA kc cells h10 h11) hW9 hE9 hrr9 hnn9 hff9
 obtain⟨kf,q0,q1⟩:∃kf:Nat->Int,kf 0=4/\kf 1=5:=⟨fun i=>if i=0 then 4 else 5,rfl,rfl⟩
 obtain⟨ff,r0,r1⟩:∃ff:Nat->Nat,ff 0=113/\ff 1=114:=⟨fun i=>if i=0 then 113 else 114,rfl,rfl⟩
 have SJ:=rz kf ff q0 q1 r0 r1;refine en 28 hm hargs Tryz.func22 fun B O a0 Z=>?_
 refine wp_seq (rg O a6 [2,1,4,5] [2,4] [] Z fun X0 _ _ Z=>?_);have Z:=Z.fz (tm':=[(2,.ep (some ⟨(X0 0).b,0,none⟩) 0 0 0 (jR J)),(1,cR A n c f),(4,.ptr 4 (X0 1).b 0),(5,.int .i64 0)]) ⟨rfl,eM,rfl,I7,rfl,I7,rfl,I7,trivial⟩;refine wp_seq (rg O a6 [6,1,2,4] [4,6] [] Z fun X1 _ _ Z=>?_);have O1:=SJ;refine wp_seq (wp_seq (rg O a6 [6,11,1,2,4,9,10] [4,6] [(0,.r fun y=>.sl none (y.A 0) 2 (y.c 0) 2 (fun i=>[.int .i64 (kf i),.fn (ff i) [] []]))] Z fun X2 _ _ Z=>?_));refine wp_block (wp_loop_rounds 3 (C3 (wp_seq (rg O a6 [12,1,2,4,6,9,10,11] [4,6] [] Z fun X3 _ _ Z=>?_))));replace Z:=Z.headS (v':=.bool .tt) (Sim.bool (by subst O;rfl)) rfl;refine wp_seq (j1 Z rfl (fun Z=>?_));refine wp_skip (wp_seq (wp_block (wp_seq (rg O a6 [1,2,4,6,8,9,10,11] [8,4,6] [] Z fun X4 _ _ Z=>?_))));replace Z:=Z.memS (cells':=[.int .i64 4,.fn 113 [] []]) (by subst O;exact⟨(show Sim (.int .i64 (kf 0)) (.int .i64 4)by rw[q0];exact zr),(show Sim (.fn (ff 0) [] []) (.fn 113 [] [])by rw[r0];exact zr),trivial⟩);refine rg O a6 [6,1,2,4,9,10,11] [4,6] [] Z (hob:=?hob) fun X5 _ _ Z=>?_
 case hob=>
  intro X;subst O
  repeat(first|exact trivial|refine⟨⟨rfl,rfl,rfl⟩,?_⟩|refine⟨rfl,?_⟩|refine⟨⟨show 0+1<=maxLen by omega,show(0+1)*_<=_ by omega⟩,?_⟩)
 replace Z:=Z.headS (v':=.sl (some 6) ((X5 4).A 0) 1 ((X5 4).c 0) 1 (fun t=>[.int .i64 (kf t)])) (Sim.resl (by subst O;rfl) (fun t ht=>by
  subst O
  match t,ht with
  |0,_=>show _=[AV.int .i64 (kf 0)];rw[q0];rfl
  )) rfl
 replace Z:=Z.regr (n':=1) (by subst O;rfl);refine rg O a6 [11,1,2,4,6,9,10] [4,6] [] Z fun X6 _ _ Z=>?_
 replace Z:=Z.headS (v':=.int .i64 1) (by subst O;exact zr) rfl;refine j5 (wp_seq (rg O a6 [12,1,2,4,6,9,10,11] [4,6] [] Z fun X3 _ _ Z=>?_));replace Z:=Z.headS (v':=.bool .tt) (Sim.bool (by subst O;rfl)) rfl;refine wp_seq (j1 Z rfl (fun Z=>?_));refine wp_skip (wp_seq (wp_block (wp_seq (rg O a6 [1,2,4,6,8,9,10,11] [8,4,6] [] Z fun X4 _ _ Z=>?_))));replace Z:=Z.memS (cells':=[.int .i64 5,.fn 114 [] []]) (by subst O;exact⟨(show Sim (.int .i64 (kf 1)) (.int .i64 5)by rw[q1];exact zr),(show Sim (.fn (ff 1) [] []) (.fn 114 [] [])by rw[r1];exact zr),trivial⟩);refine rg O a6 [6,1,2,4,9,10,11] [4,6] [] Z (hob:=?hob) fun X5 _ _ Z=>?_
 case hob=>
  intro X;subst O
  repeat(first|exact trivial|refine⟨⟨rfl,rfl,rfl⟩,?_⟩|refine⟨rfl,?_⟩|refine⟨⟨show 1+1<=maxLen by omega,show(1+1)*_<=_ by omega⟩,?_⟩)
 replace Z:=Z.headS (v':=.sl (some 6) ((X5 4).A 0) 2 ((X5 4).c 0) 1 (fun t=>[.int .i64 (kf t)])) (Sim.resl (by subst O;rfl) (fun t ht=>by
  subst O
  match t,ht with
  |0,_=>rfl
  |1,_=>show _=[AV.int .i64 (kf 1)];rw[q1];rfl
  )) rfl
 replace Z:=Z.regr (n':=2) (by subst O;rfl);refine rg O a6 [11,1,2,4,6,9,10] [4,6] [] Z fun X6 _ _ Z=>?_
 replace Z:=Z.headS (v':=.int .i64 2) (by subst O;exact zr) rfl;refine j5 (wp_seq (rg O a6 [12,1,2,4,6,9,10,11] [4,6] [] Z fun X3 _ _ Z=>?_));replace Z:=Z.headS (v':=.bool .ff) (Sim.bool (by subst O;rfl)) rfl;refine wp_seq (j3 Z rfl (fun Z=>?_));refine wp_exit (wp_seq ?_);refine rg O a6 [4,5] [4] [(4,.r fun x=>.tup [.agg [.int .i64 W9.kind,.int .i64 W9.lab.len,.int .u64 W9.lab.bits,.int .u64 W9.ver,.int .i64 rr9.kd,.sl none (x.A 1) rr9.n (x.c 1) 2 (fun i=>itC (rr9.f i)),.int .i64 rr9.nx.len,.int .u64 rr9.nx.bits,.int .u64 rr9.mrk,.int .i64 W9.res.code,.bool (.v W9.res.had),.str W9.res.val,.sl none (x.A 2) nn9 (x.c 2) 2 (fun i=>itC (ff9 i)),.int .u64 W9.res.key,.bool (.v W9.res.more)],.int .i64 E9])] Z (hob:=by intro X;subst O;simp only[b7,Ob.holds,BE.den]<;>and_intros<;>repeat first|trivial|rfl|exact T _ _ _ _ _ (by simp[q0]) (by simp[q1])|exact(fun _ _=>by kernel_rfl)|refine⟨?_,?_⟩|intro h|exact Int.le_refl _|decide|omega) fun X7 _ _ Z=>?_
 refine wp_ret ((rsi O a6 Z ((X7 4)) (he:=?_)));subst O;rw[<-hW9,<-hE9];unfold wqA;rw[<-hrr9,<-hnn9,<-hff9];exact zr
theorem lR:j6 Tryz.prog 54:=fun _ _=>by kernel_rfl
theorem wC(mo:Int)(b bM:Nat)(J:i5)(hJ:da J)(L:Shf)(hL:dY L)(k:Int):M6 Tryz.prog 54 [.ptr 0 b 0,aR J,.int .i64 mo] [(0,⟨b,95,[.raw (.map (some bM)),.int .i64 k]⟩)] (some bM) (shK bM L) (fun y=>⟨.tup [wD y (Y3 (J7 J) mo 2001 [] L k).res,.bool (.v (decide ((Y3 (J7 J) mo 2001 [] L k).st=2))),.bool (.v (decide ((Y3 (J7 J) mo 2001 [] L k).st=2 \/ (Y3 (J7 J) mo 2001 [] L k).st=3)))],[(0,[.raw (.map (some bM)),.int .i64 (Y3 (J7 J) mo 2001 [] L k).k])],[]⟩) (fun _ _=>shK bM (Y3 (J7 J) mo 2001 [] L k).L):=by
 intro m w hm hargs hpre hI;have hmx:maxLen=9223372036854775807:=rfl;have hmp:=G6 hI;have hNx:Ii (J7 J):=tH hJ;obtain⟨RQ,hRQ⟩:=eqv (Y3 (J7 J) mo 2001 [] L k);rw[<-hRQ]at ⊢;refine enM (bo:=some bM) 51 hm hpre hI hargs Tryz.func54 fun B O a0 Z=>?_
 refine wp_seq (rg O a6 [0,2,4,6] [0,4,6] [] Z fun X0 _ _ Z=>?_);refine wp_seq (rg O a6 [0,2,4,6,9] [0,4,6,9,49] [] Z fun X1 _ _ Z=>?_);refine wp_seq (wp_seq (rg O a6 [9,10,0,2,4,6] [0,4,6,9,49] [] Z fun X2 _ _ Z=>?_));replace Z:=Z.headS (v':=.sl (some 9) none 0 0 8 (fun t=>Z3 (lF U7))) (zq0) rfl;refine wp_block (cL (ι:=Nat×(Nat->u2)×Option Addr×Nat×Shf×Int×List Got) (fun q=>shK bM q.2.2.2.2.1) (fun q=>[(9,.sl (some 9) q.2.2.1 q.1 q.2.2.2.1 8 (fun t=>Z3 (q.2.1 t))),(10,.int .i64 (q.1:Int))]) (fun q=>[(0,⟨b,95,[.raw (.map (some bM)),.int .i64 q.2.2.2.2.2.1]⟩)]) (fun q=>[(9,⟨q.2.2.1,q.1,q.2.2.2.1,8,53⟩)]) (fun q=>q.1<=2001/\dY q.2.2.2.2.1/\(∀j,j<q.1->InG (q.2.1 j))/\q.2.2.2.2.2.2.length=q.1/\pm q.2.2.2.2.2.2 q.2.1/\RQ=Y3 (J7 J) mo (2001-q.1) q.2.2.2.2.2.2 q.2.2.2.2.1 q.2.2.2.2.2.1) (fun q=>2001-q.1) (0,fun _=>lF U7,none,0,L,k,[]) ⟨Nat.zero_le _,hL,fun j hj=>absurd hj (Nat.not_lt_zero _),rfl,pm.nil,hRQ⟩ Z ?_)
 rintro⟨i,fz,A1,c1,Lc,kc,gs⟩ ⟨hi,hg,hal,hgl,hlie,hrun⟩ _ _ Z
 try dsimp only at hi
 try dsimp only at hg
 try dsimp only at hal
 try dsimp only at hgl
 try dsimp only at hlie
 try dsimp only at hrun
 replace Z:=Z.withK (K':=shK bM Lc) Z.kept;refine wp_seq (wp_seq (rg O a6 [16,0,2,4,6,9,10] [0,4,6,9,49] [] Z fun X3 _ _ Z=>?_));apply a7 Z rfl<;>intro hb Z
 .have hi0:i<2001:=by
   have:(i:Int)<=2000:=by subst O;simpa[std,a8]using hb
   omega
  obtain⟨m0,hm0⟩:∃m,2001-i=m+1:=⟨2000-i,by omega⟩
  rw[hm0]at hrun;have hwo:=hNx.ok i fz hal;obtain⟨W9,hW9⟩:=eqv ((J7 J i fz).1);obtain⟨E9,hE9⟩:=eqv ((J7 J i fz).2);obtain⟨rr9,hrr9⟩:=eqv (W9.r.rn);obtain⟨nn9,hnn9⟩:=eqv (W9.res.items.length);obtain⟨ff9,hff9⟩:=eqv (itF W9.res.items);have T9:=j7.wq (oM J hJ A1 i c1 fz (by omega) hal) hW9 hE9 hrr9 hnn9 hff9;rw[<-hW9]at hwo;have S9:j7 Tryz.prog 22 [aR J,.sl (some 9) A1 i c1 8 (fun t=>Z3 (fz t))] (fun x=>.tup [D5 (wqB x W9 rr9 nn9 ff9),.int .i64 E9]):=T9.sim ⟨zr,Sim.recell (fun _ _=>rfl),trivial⟩;have hq9:J7 J gs.length (eT gs)=(W9,E9):=by
   rw[<-hlie.next hNx.er,hgl,hW9,hE9]
  have O1:=S9;refine wp_skip (wp_seq (wp_block (wp_seq (rg O a6 [0,2,4,6,9,10,11,12] [0,4,6,9,11,49] [(2,.r fun x=>.tup [.agg [.int .i64 W9.kind,.int .i64 W9.lab.len,.int .u64 W9.lab.bits,.int .u64 W9.ver,.int .i64 rr9.kd,.sl none (x.A 1) rr9.n (x.c 1) 2 (fun i=>itC (rr9.f i)),.int .i64 rr9.nx.len,.int .u64 rr9.nx.bits,.int .u64 rr9.mrk,.int .i64 W9.res.code,.bool (.v W9.res.had),.str W9.res.val,.sl none (x.A 2) nn9 (x.c 2) 2 (fun i=>itC (ff9 i)),.int .u64 W9.res.key,.bool (.v W9.res.more)],.int .i64 E9])] Z fun X5 _ _ Z=>?_))));refine wp_seq (wp_seq (rg O a6 [26,0,2,4,6,9,10,11] [0,4,6,9,11,49] [] Z fun X6 _ _ Z=>?_));apply a7 Z rfl<;>intro hb Z
  .have he:E9≠0:=by subst O;simpa[std,a8]using hb
   have hq:RQ=⟨1,aJ,gs.length,0,Lc,kc⟩:=by rw[hrun];exact Eg hq9 he
   refine wp_seq (rg O a6 [6,7,8] [0,6] [] Z fun X7 _ _ Z=>?_);refine wp_ret ((rm O a6 Z (⟨0,fun _=>none,fun _=>0,fun _=>.empty⟩) [] (hmap:=?_) (he:=?_) (hs:=?_) (hJ:=?_)).1)
   .intro b hb;cases hb;exact⟨hmp,fun m h=>G6 h⟩
   .rw [hq];subst O
    exact Sim.tup ⟨Sim.agg ⟨zr,zr,zr,zq0,zr,zr,trivial⟩,zr,zr,trivial⟩
   .rw [hq];subst O;exact⟨rfl,⟨_,rfl,zl⟩,trivial⟩
   rw[hq];exact fun _ _ h=>h
  have he:E9=0:=by subst O;simpa[std,a8]using hb
  rw[he]at hq9;refine wp_skip (wp_seq (wp_seq (rg O a6 [30,0,2,4,6,9,10,11] [0,4,6,9,11,49] [] Z fun X8 _ _ Z=>?_)));apply a7 Z rfl<;>intro hb Z
  .have hk4:W9.kind=4:=by subst O;simpa[std,a8]using hb
   have hq:RQ=⟨2,W9.res,gs.length,0,Lc,kc⟩:=by rw[hrun];exact zR hq9 hk4
   refine wp_seq (rg O a6 [6,7,8] [0,6] [] Z fun X9 _ _ Z=>?_);refine wp_ret ((rm O a6 Z ((X5 2)) [] (hmap:=?_) (he:=?_) (hs:=?_) (hJ:=?_)).1)
   .intro b hb;cases hb;exact⟨hmp,fun m h=>G6 h⟩
   .rw [hq];subst O
    rw[show nn9=W9.res.items.length from hnn9,show ff9=itF W9.res.items from hff9];exact Sim.tup ⟨zr,zr,zr,trivial⟩
   .rw [hq];subst O;exact⟨rfl,⟨_,rfl,zl⟩,trivial⟩
   rw[hq];exact fun _ _ h=>h
  have hk4:¬W9.kind=4:=by subst O;simpa[std,a8]using hb
  refine wp_skip (wp_seq (wp_seq (rg O a6 [35,0,2,4,6,9,10,11] [0,4,6,9,11,49] [] Z fun X10 _ _ Z=>?_)));apply a7 Z rfl<;>intro hb Z
  .have h9:mo<=(i:Int):=by subst O;simpa[std,a8]using hb
   have hq:RQ=⟨3,aJ,gs.length,0,Lc,kc⟩:=by rw[hrun];exact zS hq9 hk4 (by omega)
   refine wp_seq (rg O a6 [6,7,8] [0,6] [] Z fun X11 _ _ Z=>?_);refine wp_ret ((rm O a6 Z (⟨0,fun _=>none,fun _=>0,fun _=>.empty⟩) [] (hmap:=?_) (he:=?_) (hs:=?_) (hJ:=?_)).1)
   .intro b hb;cases hb;exact⟨hmp,fun m h=>G6 h⟩
   .rw [hq];subst O
    exact Sim.tup ⟨Sim.agg ⟨zr,zr,zr,zq0,zr,zr,trivial⟩,zr,zr,trivial⟩
   .rw [hq];subst O;exact⟨rfl,⟨_,rfl,zl⟩,trivial⟩
   rw[hq];exact fun _ _ h=>h
  have h9:¬mo<=(i:Int):=by subst O;simpa[std,a8]using hb
  have hmo1:¬mo<=(gs.length:Int):=by omega
  refine wp_skip (wp_seq (wp_region_lit (lpr 0 2 O a6 [38,39,9,0,10,2,4,6] [0,4,6,9] [] Z fun X12_0 _ _ Z=>?_)));have SD:=Bw 0 b bM Lc (by have:=hg.ok.len;omega) kc (wqB (X5 2) W9 rr9 nn9 ff9) (by show rr9.n<=_;rw[hrr9];have:=hwo.r.few;show W9.r.items.length<=_;omega) hwo.lab.wf hwo.lab.u (by show U64 rr9.nx.bits;rw[hrr9];exact hwo.r.nx)
  obtain⟨D1,hD1⟩:=eqv (doL Lc (A8.abs (wqB (X5 2) W9 rr9 nn9 ff9)));rw[<-hD1]at SD;obtain⟨GG1,hGG1⟩:∃G:i8->u2,G=fun y=>cS y D1.got:=⟨_,rfl⟩
  have hGf1:∀y,cS y D1.got=GG1 y:=fun y=>by rw[hGG1]
  simp only[hGf1]at SD;obtain⟨k1,hk1⟩:=eqv ((if D1.wrote then IntKind.i64.wrap (kc+1)else kc));rw[<-hk1]at SD;obtain⟨er1,her1⟩:=eqv (D1.err);rw[<-her1]at SD;obtain⟨L1,hL1⟩:=eqv (D1.L);rw[<-hL1]at SD;refine I8 rfl rfl rfl rfl Z rfl rfl ik SD (fun _ _ h=>h) (fun b hb=>by cases hb;exact fun _=>.inr rfl) ⟨zr,Sim.agg (by repeat(first|exact trivial|refine⟨zr,?_⟩|refine⟨Sim.ff,?_⟩|refine⟨zq0,?_⟩)),trivial⟩ (by intro e he;simp only[List.mem_singleton]at he;subst he;rfl) rfl rfl (fun _=>shK bM L1) (fun _ _ _ _ _ _ _ _ _ h=>h) ?_;intro y _ _ Z;obtain⟨g1,hg1⟩:=eqv (GG1 y);rw[<-hg1]at Z;replace Z:=Z.withK (K':=shK bM L1) Z.kept;have hga1:g1.abs=D1.got:=by rw[hg1,<-hGf1,gV]
  have hra:rr9.abs=W9.r:=by rw[hrr9,Q4]
  have hD1w:D1=doL Lc (dZ W9):=by
   rw[hD1];unfold A8.abs wqB dZ;simp only[hra]
  have hgd:dY D1.L/\U64 D1.got.ver/\U4 D1.got.r:=by
   rw[hD1w];exact iw hg ⟨hwo.lab.wf,hwo.r.nx,hwo.r.key⟩
  have hgi:InG g1:=rI hga1 hgd.2.1 hgd.2.2;have hg1s:dY L1:=by rw[hL1];exact hgd.1
  have hge:g1.er=lF D1.got:=by rw[hg1,<-hGf1];rfl
  refine lnd 3 O a6 [0,2,4,6,9,10,13,14] [0,4,6,9,13,49] [] Z fun X12 _ _ Z=>?_
  refine wp_seq (wp_seq (rg O a6 [44,0,2,4,6,9,10,13] [0,4,6,9,13,49] [] Z fun X13 _ _ Z=>?_));apply a7 Z rfl<;>intro hb Z
  .have he1:er1≠0:=by subst O;simpa[std,a8]using hb
   have hq:RQ=⟨4,aJ,gs.length,D1.err,L1,k1⟩:=by rw[hrun,hL1,hk1];exact zQ hq9 hk4 hmo1 hD1w (by rw[<-her1];exact he1)
   refine wp_seq (rg O a6 [6,7,8] [0,6] [] Z fun X14 _ _ Z=>?_);refine wp_ret ((rm O a6 Z (⟨0,fun _=>none,fun _=>0,fun _=>.empty⟩) [] (hmap:=?_) (he:=?_) (hs:=?_) (hJ:=?_)).1)
   .intro b hb;cases hb;exact⟨hmp,fun m h=>G6 h⟩
   .rw [hq];subst O
    exact Sim.tup ⟨Sim.agg ⟨zr,zr,zr,zq0,zr,zr,trivial⟩,zr,zr,trivial⟩
   .rw [hq];subst O;exact⟨rfl,⟨_,rfl,zl⟩,trivial⟩
   rw[hq];exact fun _ _ h=>h
  have he1:er1=0:=by subst O;simpa[std,a8]using hb
  refine wp_skip ?_;refine rg O a6 [9,10,0,2,4,6] [0,4,6,9,49] [] Z (hob:=by intro X;subst O;simp only[b7,Ob.holds,BE.den]<;>and_intros<;>repeat first|trivial|rfl|exact(show i+1<=maxLen by omega)|exact(show(i+1)*80<=140737488355328 by omega)|exact(fun _ _=>by kernel_rfl)|refine⟨?_,?_⟩|intro h|exact Int.le_refl _|decide|omega) fun X15 _ _ Z=>?_
  replace Z:=Z.headS (v':=.sl (some 9) ((X15 3).A 0) (B.nadd i 1) ((X15 3).c 0) 8 (fun t=>Z3 (if t=i then g1 else fz t))) (Sim.resl rfl (fun t ht=>by
   subst O;have ht2:t<i+1:=ht
   show L0 i (fun t=>Z3 (fz t)) (K9 8 (Z3 g1)) t=_
   unfold L0
   split
   .rw [if_neg (by omega)]
   have:t=i:=by omega
   subst this;rw[if_pos rfl];simp[K9])) rfl
  refine rg O a6 [9,10,0,2,4,6] [0,4,6,9,49] [] Z fun X4 _ _ Z=>?_
  have e:B.arith .add .i64 (i:Int) 1=((i+1:Nat):Int):=by subst O;exact o3 (n:=2001) (by omega) (by omega)
  refine⟨(i+1,fun t=>if t=i then g1 else fz t,_,_,L1,k1,gs ++ [D1.got]),⟨by simp only;omega,hg1s,fun j hj=>?_,by simp[hgl],?_,?_⟩,by simp only;omega,by rw[<-e,show i+1=B.nadd i 1 by subst O;rfl];exact Z⟩
  .by_cases hji:j=i
   .simp only[if_pos hji];exact hgi
   simp only[if_neg hji];exact hal j (by have h9:j<i+1:=hj;omega)
  .have:=hlie.add hge
   rw[hgl]at this;exact this
  rw[hrun,Eh hq9 hk4 hmo1 hD1w (by rw[<-her1];exact he1),hL1,hk1,show 2001-(i+1)=m0 by omega]
 have hi0:i=2001:=by
  have:¬(i:Int)<=2000:=by subst O;simpa[std,a8]using hb
  omega
 have hq:RQ=⟨0,aJ,gs.length,0,Lc,kc⟩:=by rw[hrun,hi0];rfl
 refine wp_exit (wp_seq (rg O a6 [6,7,8] [0,6] [] Z fun X16 _ _ Z=>?_));refine wp_ret ((rm O a6 Z (⟨0,fun _=>none,fun _=>0,fun _=>.empty⟩) [] (hmap:=?_) (he:=?_) (hs:=?_) (hJ:=?_)).1)
 .intro b hb;cases hb;exact⟨hmp,fun m h=>G6 h⟩
 .rw [hq];subst O
  exact Sim.tup ⟨Sim.agg ⟨zr,zr,zr,zq0,zr,zr,trivial⟩,zr,zr,trivial⟩
 .rw [hq];subst O;exact⟨rfl,⟨_,rfl,zl⟩,trivial⟩
 rw[hq];exact fun _ _ h=>h
theorem og(k0:Nat)(mo:Int)(b bM:Nat)(J:i5)(hJ:da J)(L:Shf)(hL:dY L)(k:Int):M6 Tryz.prog 54 [.ptr k0 b 0,aR J,.int .i64 mo] [(k0,⟨b,95,[.raw (.map (some bM)),.int .i64 k]⟩)] (some bM) (shK bM L) (fun y=>⟨.tup [wD y (Y3 (J7 J) mo 2001 [] L k).res,.bool (.v (decide ((Y3 (J7 J) mo 2001 [] L k).st=2))),.bool (.v (decide ((Y3 (J7 J) mo 2001 [] L k).st=2 \/ (Y3 (J7 J) mo 2001 [] L k).st=3)))],[(k0,[.raw (.map (some bM)),.int .i64 (Y3 (J7 J) mo 2001 [] L k).k])],[]⟩) (fun _ _=>shK bM (Y3 (J7 J) mo 2001 [] L k).L):=
 (wC mo b bM J hJ L hL k).re (by repeat(first|exact trivial|refine⟨Sim.ptr,?_⟩|refine⟨Sim.fn ⟨Sim.ptr,trivial⟩ trivial,?_⟩|refine⟨Sim.fn trivial ⟨Sim.ptr,trivial⟩,?_⟩|refine⟨zr,?_⟩)) rfl (fun x=>⟨rfl,rfl,zr,rfl⟩)
section
variable {α : Type}
def M5(l:Lab):List (Lab×α)->Option α
 | []=>none
 |p::L=>if p.1=l then some p.2 else M5 l L
def ej(l:Lab)(x:α):List (Lab×α)->List (Lab×α)
 | []=>[(l,x)]
 |p::L=>if p.1=l then(l,x)::L else p::ej l x L
theorem aB{l:Lab}{x:α}:∀{L:List (Lab×α)},M5 l L=some x->(l,x)∈L
 |p::L,h=>by
  unfold M5 at h
  split at h
  .rename_i he;injection h with h;subst h;subst he;exact List.mem_cons_self ..
  exact List.mem_cons_of_mem _ (aB h)
theorem gL{p:Lab×α}:∀{L:List (Lab×α)},(L.map (·.1)).Nodup->p∈L->M5 p.1 L=some p.2
 |q::L,h,hp=>by
  have h':=List.nodup_cons.1 h;unfold M5
  rcases List.mem_cons.1 hp with rfl|hp
  .rw [if_pos rfl]
  rw[if_neg (fun e=>h'.1 (List.mem_map.2 ⟨p,hp,e.symm⟩))];exact gL h'.2 hp
theorem eL{l k:Lab}{x:α}:∀{L:List (Lab×α)},M5 k (ej l x L)=if l=k then some x else M5 k L
 | []=>by simp[ej,M5]
 |p::L=>by
  unfold ej
  by_cases h:p.1=l
  .rw [if_pos h]
   unfold M5
   by_cases hk:l=k
   .simp [hk]
   simp[hk,h]
  rw[if_neg h];unfold M5;rw[eL]
  by_cases hk:l=k
  .subst hk;simp[h]
  simp[hk]
theorem kS{l:Lab}{x:α}:∀{L:List (Lab×α)},(ej l x L).map (·.1)=if(M5 l L).isSome then L.map (·.1)else L.map (·.1) ++ [l]
 | []=>by simp[ej,M5]
 |p::L=>by
  unfold ej M5
  by_cases h:p.1=l
  .simp [h]
  simp only[if_neg h,List.map_cons,kS]
  split<;>simp
theorem sC{l:Lab}{x:α}(L:List (Lab×α)):(ej l x L).length=if(M5 l L).isSome then L.length else L.length+1:=by
 have:=congrArg List.length (kS (l:=l) (x:=x) (L:=L));rw[List.length_map]at this;rw[this]
 split<;>simp
theorem nq{l:Lab}:∀{L:List (Lab×α)},M5 l L=none->l ∉ L.map (·.1)
 | [],_=>by simp
 |p::L,h=>by
  unfold M5 at h
  split at h
  .cases h
  rename_i hn
  simp only[List.map_cons,List.mem_cons,not_or];exact⟨fun e=>hn e.symm,nq h⟩
theorem mL{l:Lab}{x:α}{L:List (Lab×α)}(h:(L.map (·.1)).Nodup):((ej l x L).map (·.1)).Nodup:=by
 rw[kS]
 split
 .exact h
 rename_i hn
 have:=nq (by simpa using hn:M5 l L=none);exact List.nodup_append.2 ⟨h,by simp,fun a ha b hb=>by simp at hb;subst hb;exact fun e=>this (e ▸ ha)⟩
theorem zH{l:Lab}{x:α}{L:List (Lab×α)}(h:(L.map (·.1)).Nodup)(p:Lab×α):p∈ej l x L↔p=(l,x) \/ (p∈L/\p.1≠l):=by
 constructor
 .intro hp
  have h1:=gL (mL (l:=l) (x:=x) h) hp;rw[eL]at h1
  by_cases he:l=p.1
  .rw [if_pos he]at h1
   injection h1 with h1
   obtain⟨p1,p2⟩:=p;simp only at he h1;subst he;subst h1;exact .inl rfl
  rw[if_neg he]at h1;exact .inr ⟨aB h1,fun e=>he e.symm⟩
 rintro(rfl|⟨hp,hne⟩)
 .exact aB (by rw[eL,if_pos rfl])
 exact aB (x:=p.2) (l:=p.1) (by rw[eL,if_neg (fun e=>hne e.symm)];exact gL h hp)
structure LmD(el:α->AV)(D:DataW Value)(b:Nat)(L:List (Lab×α))(m:Nat->Nat->Prop)(w:World):Prop where
 map:Z4 Tryz.prog 24 w b L.length D
 nd:(L.map (·.1)).Nodup
 labs:∀p∈L,s8 p.1
 has:∀kl,Maps.has D kl=true ↔ ∃p∈L,I0 p.1=kl
 size:Maps.size D=L.length
 at_:∀p∈L,∀zd,D.atKey (I0 p.1) zd = .held (el p.2).den
 ok:∀p∈L,Ok m w (el p.2)
variable {el:α->AV} {D:DataW Value} {b:Nat} {L:List (Lab×α)} {m m':Nat->Nat->Prop} {w w':World} {l:Lab}
theorem LmD.keepB{bo:Option Nat}(h:LmD el D b L m w)(k:Z5 bo w m w' m')(hb:bo≠some b):LmD el D b L m' w':=
 ⟨fX k hb h.map,h.nd,h.labs,h.has,h.size,h.at_,fun p hp=>k.ok (h.ok p hp)⟩
theorem LmD.keep(h:LmD el D b L m w)(k:bQ w m w' m'):LmD el D b L m' w':=
 ⟨nc k h.map,h.nd,h.labs,h.has,h.size,h.at_,fun p hp=>k.ok (h.ok p hp)⟩
def lmK(el:α->AV)(b:Nat)(L:List (Lab×α)):Kn:=⟨fun m w=>∃D,LmD el D b L m w,fun k ⟨D,h⟩=>⟨D,h.keep k⟩⟩
def lmF(el:α->AV)(n b:Nat)(L:List (Lab×α)):Kn:=⟨fun m w=>n<=b/\(lmK el b L).p m w,fun k h=>⟨h.1,(lmK el b L).st k h.2⟩⟩
theorem AJ{n:Nat}(h:b≠n):(lmK el b L).off n:=fun k ⟨D,x⟩=>⟨D,x.keepB k (fun e=>h (by injection e with e;exact e.symm))⟩
theorem uW{n:Nat}(h:b<n):(lmK el b L).under n:=fun l hl=>AJ (by omega)
theorem AK(h:(lmK el b L).p m w):∃es cl,w.heap[b]? = some (.map es cl):=by
 obtain⟨D,h⟩:=h;obtain⟨es,cl,hb,_⟩:=h.map;exact⟨es,cl,hb⟩
theorem EI(h:(lmK el b L).p m w):b<w.heap.size:=by
 obtain⟨es,cl,hb⟩:=AK h;exact ct hb
theorem xI:(lmK el b L).self:=fun _ _ h=>uW (EI h)
theorem LmD.empty(h:Z4 Tryz.prog 24 w b 0 (.map [])):LmD el (.map []) b [] m w:=
 ⟨h,.nil,fun p hp=>(by cases hp),fun kl=>⟨fun h=>(by cases h),fun⟨p,hp,_⟩=>(by cases hp)⟩,rfl,fun p hp=>(by cases hp),fun p hp=>(by cases hp)⟩
theorem LmD.hasL(h:LmD el D b L m w)(hl:s8 l):Maps.has D (I0 l)=(M5 l L).isSome:=by
 cases hf:M5 l L with
 |some x=>exact(h.has _).2 ⟨(l,x),aB hf,rfl⟩
 |none=>
  rw[Option.isSome_none,Bool.eq_false_iff];intro hh;obtain⟨p,hp,he⟩:=(h.has _).1 hh;have:p.1=l:=eG (h.labs p hp) hl he;rw[<-this,gL h.nd hp]at hf
  cases hf
theorem LmD.look(h:LmD el D b L m w)(hl:s8 l){mt e:TypeId}(ht:Tryz.prog.underlying mt=some (.map 24 e)){z:α}(hz:(zeroValue e).run Tryz.prog w = .ok (el z).den w)(hzo:Ok m w (el z))(c:Bool) :
  (Instr.lookup mt (.map (some b)) (f4 l).den c).run Tryz.prog w = .ok (if c then .tuple #[(el ((M5 l L).getD z)).den,.bool (M5 l L).isSome]else(el ((M5 l L).getD z)).den) w/\Ok m w (el ((M5 l L).getD z)):=by
 have hh:=h.hasL hl;obtain⟨es,clock,hb,F,_,hD⟩:=h.map
 rcases Maps.fit_look c fy ht hz hb F (Y8 hl)with⟨hrun,_,hat⟩|⟨e0,y,_,_,hrun,hRv,hat,_⟩
 .rw [<-hD]at hat
  have hf:=Maps.has_false_of_atKey hat;rw[hh]at hf;have hn:M5 l L=none:=by cases hg:M5 l L with
   |none=>rfl
   |some x=>rw[hg]at hf;cases hf
  rw[hn];exact⟨hrun,hzo⟩
 rw[<-hD]at hat;have hf:=Maps.has_true_of_atKey hat;rw[hh]at hf;obtain⟨x,hx⟩:=Option.isSome_iff_exists.1 hf;have hm:=aB hx;have e1:=h.at_ _ hm (.held Go.undef);rw[hat]at e1;have e2:y.1 = .held e0.val:=by unfold hR at hRv;injection hRv with hRv;rw[<-hRv]
 rw[e2]at e1;injection e1 with e1
 rw[hx];simp only at e1;simp only[Option.getD_some,Option.isSome_some];exact⟨by rw[<-e1];exact hrun,h.ok _ hm⟩
theorem sY{K:Kn}(hK:∀m w,K.p m w->(lmK el b L).p m w)(hl:s8 l){mt e:TypeId}(ht:Tryz.prog.underlying mt=some (.map 24 e)){z:α}(hz:∀w,(zeroValue e).run Tryz.prog w = .ok (el z).den w)(hzo:∀m w,Ok m w (el z)){v:AV}(hv:el ((M5 l L).getD z)=v){h:Bool}(hh:(M5 l L).isSome=h):Ob.holds Tryz.prog K (.look mt true (.raw (.map (some b))) (f4 l) (.tup [v,.bool (.v h)])):=by
 intro m w hk;obtain⟨D,hD⟩:=hK m w hk;obtain⟨h1,h2⟩:=hD.look hl ht (hz w) (hzo m w) true;rw[hv]at h1 h2;rw[hh]at h1;refine⟨by rw[show AV.den (.raw (.map (some b)))=Value.map (some b)from rfl,h1];simp[AV.den,AV.denL,BE.den],.tup _ fun u hu=>?_⟩
 simp only[List.mem_cons,List.not_mem_nil,or_false]at hu
 rcases hu with rfl|rfl
 .exact h2
 exact .bool _
theorem LmD.put(h:LmD el D b L m w)(hl:s8 l)(k:Z5 (some b) w m w' m){x:α}(hv:Ok m w (el x))(hM:Z4 Tryz.prog 24 w' b (L.length+1) (D.put (I0 l) (.held (el x).den))):∃D',LmD el D' b (ej l x L) m w':=by
 have hkey:WideAt.IsKeyLit (I0 l):=fy.key (Y8 hl);have hmp:Maps.IsMap D:=(h.map.tidy fy).isMap;have hsz:=nb hM;have hlen:Maps.size (D.put (I0 l) (.held (el x).den))=(ej l x L).length:=by
  rw[Maps.size_put (h.map.tidy fy),h.hasL hl,sC];rw[h.size]
 have hin:=zH (l:=l) (x:=x) h.nd;refine⟨_,?_,mL h.nd,fun p hp=>?_,fun kl=>?_,hlen,fun p hp zd=>?_,fun p hp=>?_⟩
 .rw [hlen]at hsz;exact hsz
 .rcases (hin p).1 hp with rfl|⟨hp,_⟩
  .exact hl
  exact h.labs p hp
 .by_cases he:kl=I0 l
  .subst he
   rw[Maps.has_put_same hmp hkey];exact⟨fun _=>⟨_,(hin _).2 (.inl rfl),rfl⟩,fun _=>rfl⟩
  rw[Maps.has_put_other he,h.has]
  constructor
  .rintro ⟨p,hp,hk⟩
   exact⟨p,(hin p).2 (.inr ⟨hp,fun e=>he (by rw[<-hk,e])⟩),hk⟩
  rintro⟨p,hp,hk⟩
  rcases(hin p).1 hp with rfl|⟨hp,_⟩
  .exact absurd hk.symm he
  exact⟨p,hp,hk⟩
 .rcases (hin p).1 hp with rfl|⟨hp,hne⟩
  .rw [Maps.atKey_put_same hmp hkey]
  rw[Maps.atKey_put_other (fun e=>hne (eG (h.labs p hp) hl e))];exact h.at_ p hp zd
 rcases(hin p).1 hp with rfl|⟨hp,hne⟩
 .exact k.ok hv
 exact k.ok (h.ok p hp)
theorem AI{n:Nat}(h0:Z4 Tryz.prog 24 w b n D)(hl:s8 l)(h:(lmK el b L).p m w)(k:Z5 (some b) w m w' m){v:AV}{x:α}(hs:Sim v (el x))(hv:Ok m w v)(hM:Z4 Tryz.prog 24 w' b (L.length+1) (D.put (I0 l) (.held v.den))):(lmK el b (ej l x L)).p m w':=by
 obtain⟨D1,h1⟩:=h;have:=pY h0 h1.map;subst this;rw[hs.1]at hM;exact h1.put hl k (hs.2.2 _ _ hv) hM
end
theorem lq:Tryz.prog.underlying 125=some (.map 24 35):=by kernel_rfl
theorem tO(l:Lab)(f:Nat->Itm)(i:Nat):K3 l (b4 f (i+1))=K3 l (b4 f i)++(if r8 l (f i).key=true then [f i]else []):=by
 unfold b4 K3;rw[List.range_succ,List.map_append,List.filter_append]
 congr 1
 by_cases h:r8 l (f i).key=true<;>simp[h]
def ar(f:Nat->C1):Nat->List (Lab×RA)
 |0=>[]
 |n+1=>ej (f n).lab (f n).x (ar f n)
theorem iL(f:Nat->C1):∀n,(ar f n).length<=n
 |0=>Nat.le_refl _
 |n+1=>by
  have:=iL f n;unfold ar;rw[sC]
  split<;>omega
theorem DT(A:Option Addr)(n c:Nat)(f:Nat->Itm)(hn:n<=1000000)(l:Lab)(hb0:U64 l.bits)(hki:∀i,i<n->U64 (f i).key):j7 Tryz.prog 112 [l7 A n c f,f4 l] (fun x=>l7 (x.A 0) (K3 l (b4 f n)).length (x.c 0) (itF (K3 l (b4 f n)))):=by
 intro m w hm hargs;have hmx:maxLen=9223372036854775807:=rfl;unfold l7 at hargs ⊢;simp only[f4]at hargs ⊢;refine en 24 hm hargs Tryz.func112 fun B O a0 Z=>?_
 refine wp_seq (rg O a6 [0,3] [3] [] Z fun X0 _ _ Z=>?_);refine wp_seq (rg O a6 [5,3,0] [3,5] [] Z fun X1 _ _ Z=>?_);refine wp_seq (wp_seq (rg O a6 [5,10,3,8,9] [3,5] [] Z fun X2 _ _ Z=>?_));replace Z:=Z.headS (v':=.sl (some 5) none 0 0 2 (fun t=>itC C2)) (zq0) rfl;refine wp_block (l5 (ι:=Nat×Nat×(Nat->Itm)×Option Addr×Nat) (fun p=>[(5,.sl (some 5) p.2.2.2.1 p.2.1 p.2.2.2.2 2 (fun t=>itC (p.2.2.1 t))),(10,.int .i64 (p.1:Int))]) (fun p=>[]) (fun p=>[(5,⟨p.2.2.2.1,p.2.1,p.2.2.2.2,2,62⟩)]) (fun p=>p.1<=n/\p.2.1<=p.1/\b4 p.2.2.1 p.2.1=K3 l (b4 f p.1)) (fun p=>n-p.1) (0,0,fun _=>C2,none,0) ⟨Nat.zero_le _,Nat.le_refl _,rfl⟩ Z ?_)
 rintro⟨i,q,g,A1,c1⟩ ⟨hi,hq,hg⟩ _ _ Z
 try dsimp only at hi
 try dsimp only at hq
 try dsimp only at hg
 refine wp_seq (rg O a6 [11,5,10,3,8,9] [3,5] [] Z fun X3 _ _ Z=>?_);refine wp_seq (a7 Z rfl (fun hb Z=>?_) (fun hb Z=>?_))
 .have hin:i<n:=by
   have:(i:Int)<(n:Int):=by subst O;simpa[std,a8]using hb
   omega
  have S:=DB l hb0 (f i).key (hki i hin);simp only[f4]at S;obtain⟨cq,hcq⟩:=eqv (r8 l (f i).key);rw[<-hcq]at S;refine wp_skip (wp_seq (wp_block (wp_seq ?_)));refine rg O a6 [7,5,10,3,8,9] [7,3,5] [] Z (hob:=by intro X;subst O;simp only[b7,Ob.holds,BE.den]<;>and_intros<;>repeat first|trivial|rfl|exact(show(0:Int)<=(i:Int)by omega)|exact(show(i:Int)<(n:Int)by omega)|exact(fun _ _=>by kernel_rfl)|refine⟨?_,?_⟩|intro h|exact Int.le_refl _|decide|omega) fun X4 _ _ Z=>?_
  replace Z:=Z.memS (cells':=itC (f i)) (by subst O;exact zl);have O1:=S;refine wp_seq (rg O a6 [17,7,5,10,3,8,9] [7,3,5] [(3,.r fun _=>.bool (.v cq))] Z fun X5 _ _ Z=>?_);apply a7 Z rfl<;>intro hb Z
  .have hct:cq=true:=hb
   rw[hct]at hcq;refine rg O a6 [5,10,3,8,9] [3,5] [] Z (hob:=?hob) fun X6 _ _ Z=>?_
   case hob=>
    intro X;subst O
    repeat(first|exact trivial|refine⟨⟨rfl,rfl,rfl⟩,?_⟩|refine⟨rfl,?_⟩|refine⟨⟨show q+1<=maxLen by omega,show(q+1)*_<=_ by omega⟩,?_⟩)
   replace Z:=Z.headS (v':=.sl (some 5) ((X6 3).A 0) (B.nadd q 1) ((X6 3).c 0) 2 (fun t=>itC (fA g q (f i) t))) (Sim.resl rfl (fun t ht=>by
    subst O;have ht2:t<q+1:=ht
    show L0 q (fun t=>itC (g t)) (K9 2 [.int .u64 (f i).key,.str (f i).val]) t=_
    unfold L0 fA
    split
    .rw [if_neg (by omega)]
    have:t=q:=by omega
    subst this;simp[K9,itC])) rfl
   refine rg O a6 [5,10,3,8,9] [3,5] [] Z fun X7 _ _ Z=>?_
   have e:B.arith .add .i64 (i:Int) 1=((i+1:Nat):Int):=by subst O;exact o3 (n:=n) hin (by omega)
   refine⟨(i+1,q+1,fA g q (f i),_,_),⟨by simp only;omega,by simp only;omega,?_⟩,by simp only;omega,by rw[<-e,show q+1=B.nadd q 1 by subst O;rfl];exact Z⟩
   simp only;rw[ge,hg,tO,if_pos hcq.symm]
  have hcf:cq=false:=hb;rw[hcf]at hcq;refine wp_skip (rg O a6 [5,10,3,8,9] [3,5] [] Z fun X7 _ _ Z=>?_);have e:B.arith .add .i64 (i:Int) 1=((i+1:Nat):Int):=by subst O;exact o3 (n:=n) hin (by omega)
  refine⟨(i+1,q,g,_,_),⟨by simp only;omega,by simp only;omega,?_⟩,by simp only;omega,by rw[<-e];exact Z⟩;simp only;rw[hg,tO,if_neg (by rw[<-hcq];decide),List.append_nil]
 have hout:i=n:=by
  have:¬(i:Int)<(n:Int):=by subst O;simpa[std,a8]using hb
  omega
 rw[hout]at hg;refine wp_exit (wp_seq (rg O a6 [4] [5] [] Z fun X8 _ _ Z=>?_));refine wp_ret ((rsi O a6 Z (⟨0,fun _=>A1,fun _=>c1,fun _=>⟨#[]⟩⟩) (he:=?_)));subst O;exact Sim.resl (by rw[<-hg,i3]) (fun t ht=>by rw[<-hg,i3]at ht;rw[<-hg,u0 _ _ t ht])
theorem vC:j6 Tryz.prog 109:=fun _ _=>by kernel_rfl
theorem Gy(A:Option Addr)(n c:Nat)(f:Nat->C1)(hn:n<=100000)(hN:∀i,i<n->s8 (f i).lab):M6 Tryz.prog 109 [aM A n c f] [] none noK (fun y=>⟨.raw (.map (some (y.c 0))),[],[]⟩) (fun N y=>lmF C7 N (y.c 0) (ar f n)):=by
 intro m w hm hargs hpre hI;have hmx:maxLen=9223372036854775807:=rfl;refine enM (bo:=none) 20 hm hpre hI hargs Tryz.func109 fun B O a0 Z=>?_
 refine wp_seq (rg O a6 [0] [] [] Z fun X0 a0 w1 Z=>?_);refine wp_seq (wp_region_lit (jA (k:=24) (e:=0) rfl rfl rfl rfl Z (Nat.le_of_ble_eq_true rfl) (lmK C7 w1.heap.size []) (fun m w' _ _ hM=>⟨_,LmD.empty hM⟩) ?_));obtain⟨bM,hbM⟩:=eqv (w1.heap.size);rw[<-hbM];intro a0 w1 hfresh Z;have hbfr:w.heap.size<=bM:=hfresh;refine lnd 1 O a6 [3,0] [] [] Z fun X1 a0 w1 Z=>?_
 refine wp_seq (wp_seq (rg O a6 [9,3,7,8] [] [] Z fun X2 a0 w1 Z=>?_));refine wp_block (cL (ι:=Nat) (fun p=>lmK C7 bM (ar f p)) (fun p=>[(9,.int .i64 (p:Int))]) (fun p=>[]) (fun p=>[]) (fun p=>p<=n) (fun p=>n-p) 0 (Nat.zero_le _) Z ?_)
 rintro i hi a0 w1 Z
 try dsimp only at hi
 replace Z:=Z.withK (K':=lmK C7 bM (ar f i)) Z.kept;have hLn:=iL f i;refine wp_seq (rg O a6 [10,9,3,7,8] [] [] Z fun X3 a0 w1 Z=>?_);refine wp_seq (a7 Z rfl (fun hb Z=>?_) (fun hb Z=>?_))
 .have hin:i<n:=by
   have:(i:Int)<(n:Int):=by subst O;simpa[std,a8]using hb
   omega
  have hlab:=hN i hin;refine wp_skip (wp_seq (wp_block (wp_seq ?_)));refine rg O a6 [5,9,3,7,8] [5] [] Z (hob:=by intro X;subst O;simp only[b7,Ob.holds,BE.den]<;>and_intros<;>repeat first|trivial|rfl|exact(show(0:Int)<=(i:Int)by omega)|exact(show(i:Int)<(n:Int)by omega)|exact(fun _ _=>by kernel_rfl)|refine⟨?_,?_⟩|intro h|exact Int.le_refl _|decide|omega) fun X4 a0 w1 Z=>?_
  replace Z:=Z.memS (cells':=T8 (f i)) (by subst O;exact zl);refine wp_region_lit (lpr 0 5 O a6 [13,15,17,9,3,7,8] [5] [] Z fun X5_0 a0 w1 Z=>?_);obtain⟨D2,hD2⟩:=Z.kept;refine ap (k:=24) (e:=35) rfl rfl rfl rfl Z rfl rfl rfl rfl rfl fy lq hD2.map (by omega) (Y8 hlab) (fun h=>absurd h (by omega)) (lmK C7 bM (ar f (i+1))) (fun m w' hk hkb hv hM=>?_) ?_
  .exact AI (x:=(f i).x) hD2.map hlab hk hkb (zr) hv hM
  intro w1 Z;refine wpList_nil (rg O a6 [9,3,7,8] [] [] Z fun X6 a0 w1 Z=>?_);have e:B.arith .add .i64 (i:Int) 1=((i+1:Nat):Int):=by subst O;exact o3 (n:=n) hin (by omega)
  refine⟨i+1,by omega,by omega,by rw[<-e];exact Z⟩
 have hout:i=n:=by
  have:¬(i:Int)<(n:Int):=by subst O;simpa[std,a8]using hb
  omega
 subst hout;refine wp_exit (wp_seq (rg O a6 [2] [] [] Z fun X7 a0 w1 Z=>?_));refine wp_ret ((rm O a6 Z (⟨0,fun _=>none,fun _=>bM,fun _=>⟨#[]⟩⟩) [] (hJ:=?_)).1);exact fun _ _ h=>⟨hbfr,h⟩
abbrev Tre:=Lab->Option Rec
def xX(T:Tre)(c:Lab):Bool:=match T c with
 |none=>true
 |some x=>decide (x.kind=5)
def jQ(T:Tre)(f:Lab->List Itm)(r:Rec)(c:Lab):List Itm:=if r.kind=3/\xX T c=true then K3 c r.items else f c
def J9(T:Tre):Nat->Lab->List Itm
 |0,_=>[]
 |n+1,l=>match T l with
  |none=>[]
  |some r=>if r.kind=1 \/ r.kind=5 then r.items else if chE l 0=0 then jQ T (J9 T n) r (chV l 0)++jQ T (J9 T n) r (chV l 1)else []
def gn(ks:List Lab)(l:Lab):Nat:=ks.countP fun k=>r8 l k.bits&&decide (l.len<=k.len)
theorem qu{l:Lab}(hl:isL l=true)(hb:U64 l.bits):r8 l l.bits=true:=by
 unfold r8;simp only[Bool.and_eq_true,decide_eq_true_eq];exact⟨hl,(r7 hl).2.2⟩
theorem rE{v n:Nat}(hn:n<64):A6 (A6 v (n+1)) n=A6 v n:=by
 apply Nat.eq_of_testBit_eq;intro i;rw[dp,dp,dp]
 by_cases h:64-n<=i
 .have:64-(n+1)<=i:=by omega
  rw[decide_eq_true h,decide_eq_true this];simp
 rw[decide_eq_false h];simp
theorem yD{l:Lab}(hl:isL l=true)(hb:U64 l.bits)(h64:l.len≠64)(b:Int){key:Int}(hc:r8 (k8 l b) key=true):r8 l key=true:=by
 obtain⟨q,h1,h2⟩:=gN hl hb h64;obtain⟨h3,h4,h5⟩:=r7 hl;unfold r8 at hc ⊢;simp only[Bool.and_eq_true,decide_eq_true_eq]at hc ⊢;refine⟨hl,?_⟩;have hlen:(k8 l b).len.toNat=l.len.toNat+1:=by unfold k8;simp only;omega
 have e:=hc.2;rw[hlen]at e;have hn:l.len.toNat<64:=by omega
 have e2:A6 (A6 key.toNat (l.len.toNat+1)) l.len.toNat=A6 key.toNat l.len.toNat:=rE hn;have e3:A6 key.toNat (l.len.toNat+1)=(k8 l b).bits.toNat:=by omega
 rw[e3]at e2;rw[<-e2,h1];have hp:0<2^(63-l.len.toNat):=Nat.pow_pos (by decide);have hpow:=bH hn;have hpp:0<2*2^(63-l.len.toNat):=by omega
 unfold A6 k8;simp only;rw[hpow]
 congr 1
 split
 .have:(l.bits+((2^(63-l.len.toNat):Nat):Int)).toNat=2^(63-l.len.toNat)+q*(2*2^(63-l.len.toNat)):=by rw[h1];omega
  rw[this,Nat.add_mul_div_right _ _ hpp,Nat.div_eq_of_lt (by omega),Nat.zero_add]
 have:l.bits.toNat=q*(2*2^(63-l.len.toNat)):=by rw[h1];omega
 rw[this,Nat.mul_div_cancel _ hpp]
theorem yK{l:Lab}(h:chE l 0=0):isL l=true/\l.len≠64/\∀b,chV l b=k8 l b:=by
 have hc:∀b,chE l b=0:=fun b=>h
 refine⟨?_,?_,fun b=>by unfold chV;rw[if_pos (hc b)]⟩
 .cases hl:isL l with
  |true=>rfl
  |false=>unfold chE at h;rw[hl,if_pos rfl]at h;cases h
 intro h64;unfold chE at h;simp only[h64,if_true]at h
 split at h<;>simp at h
theorem tT{l:Lab}(hb:U64 l.bits)(h:chE l 0=0)(b:Int):isL (chV l b)=true/\U64 (chV l b).bits/\(chV l b).len=l.len+1:=by
 obtain⟨h1,h2,h3⟩:=yK h;rw[h3];exact⟨ft h1 hb h2 b,dH h1 hb h2 b,rfl⟩
theorem qv{l:Lab}(hl:isL l=true)(hb:U64 l.bits)(h64:l.len≠64):∀{ks:List Lab},(∀k∈ks,U64 k.bits)->gn ks (k8 l 0)+gn ks (k8 l 1)+ks.countP (fun k=>decide (k=l))<=gn ks l
 | [],_=>Nat.le_refl _
 |k::ks,hk=>by
  have ih:=qv hl hb h64 (ks:=ks) fun k' h=>hk k' (by simp[h])
  unfold gn at ih ⊢;simp only[List.countP_cons];have hku:=hk k (by simp);have hlen:∀b,(k8 l b).len=l.len+1:=fun b=>rfl
  have key:(if(r8 (k8 l 0) k.bits&&decide ((k8 l 0).len<=k.len))=true then 1 else 0)+(if(r8 (k8 l 1) k.bits&&decide ((k8 l 1).len<=k.len))=true then 1 else 0)+(if decide (k=l)=true then 1 else 0)<=(if(r8 l k.bits&&decide (l.len<=k.len))=true then 1 else 0):=by
   by_cases e:k=l
   .subst e
    have n0:¬((r8 (k8 k 0) k.bits&&decide ((k8 k 0).len<=k.len))=true):=by
     simp only[hlen,Bool.and_eq_true,decide_eq_true_eq]
     rintro⟨_,h⟩
     omega
    have n1:¬((r8 (k8 k 1) k.bits&&decide ((k8 k 1).len<=k.len))=true):=by
     simp only[hlen,Bool.and_eq_true,decide_eq_true_eq]
     rintro⟨_,h⟩
     omega
    rw[if_neg n0,if_neg n1,if_pos (by simp),if_pos (by simp[qu hl hb])];omega
   rw[if_neg (show ¬decide (k=l)=true by simpa using e)]
   by_cases c:r8 l k.bits=true
   .obtain ⟨a0,a1⟩:=nI hl hb h64 hku c
    rw[a0,a1,c]
    generalize (k8 l 1).bits=z
    rw[hlen,hlen]
    by_cases hlt:k.bits<z
    .rw [decide_eq_true hlt,decide_eq_false (show ¬z<=k.bits by omega)]
     simp only[Bool.true_and,Bool.false_and,decide_eq_true_eq]
     by_cases g1:l.len<=k.len
     .rw [if_pos g1];by_cases g2:l.len+1<=k.len<;>simp[g2]
     rw[if_neg g1,if_neg (by omega)];simp
    rw[decide_eq_false hlt,decide_eq_true (show z<=k.bits by omega)];simp only[Bool.true_and,Bool.false_and,decide_eq_true_eq]
    by_cases g1:l.len<=k.len
    .rw [if_pos g1];by_cases g2:l.len+1<=k.len<;>simp[g2]
    rw[if_neg g1,if_neg (show ¬l.len+1<=k.len by omega)];simp
   have c0:r8 (k8 l 0) k.bits=false:=by
    cases h:r8 (k8 l 0) k.bits with
    |false=>rfl
    |true=>exact absurd (yD hl hb h64 0 h) c
   have c1:r8 (k8 l 1) k.bits=false:=by
    cases h:r8 (k8 l 1) k.bits with
    |false=>rfl
    |true=>exact absurd (yD hl hb h64 1 h) c
   rw[c0,c1];simp
  omega
theorem tP(l:Lab)(its:List Itm):(K3 l its).length<=its.length:=List.length_filter_le _ _
structure qF(T:Tre)(ks:List Lab):Prop where
 us:∀k∈ks,U64 k.bits
 at_:∀l r,T l=some r->l∈ks/\r.items.length<=16
theorem tR{T:Tre}{ks:List Lab}(h:qF T ks){l:Lab}{r:Rec}(hb:U64 l.bits)(hr:T l=some r)(hc:chE l 0=0):gn ks (chV l 0)+gn ks (chV l 1)+1<=gn ks l:=by
 obtain⟨h1,h2,h3⟩:=yK hc;have:=qv h1 hb h2 h.us;rw[h3,h3];have hp:0<ks.countP (fun k=>decide (k=l)):=List.countP_pos_iff.2 ⟨l,(h.at_ _ _ hr).1,by simp⟩;omega
theorem FT{ks:List Lab}{l:Lab}(hl:isL l=true)(hb:U64 l.bits)(h:l∈ks):1<=gn ks l:=
 List.countP_pos_iff.2 ⟨l,h,by simp[qu hl hb]⟩
theorem oz{T:Tre}{ks:List Lab}(h:qF T ks){n:Nat}{l:Lab}{r:Rec}(hr:T l=some r){c:Lab}(hf:(J9 T n c).length<=32*gn ks c):(jQ T (J9 T n) r c).length<=16+32*gn ks c:=by
 unfold jQ
 split
 .have:=tP c r.items
  have:=(h.at_ _ _ hr).2;omega
 omega
theorem ja{T:Tre}{ks:List Lab}(h:qF T ks):∀(n:Nat) (l:Lab),isL l=true->U64 l.bits->(J9 T n l).length<=32*gn ks l
 |0,l,_,_=>by simp[J9]
 |n+1,l,hl,hb=>by
  unfold J9
  cases hr:T l with
  |none=>simp
  |some r=>
   simp only;have h1:=FT hl hb (h.at_ _ _ hr).1;have h2:=(h.at_ _ _ hr).2
   split
   .omega
   split
   .rename_i hc
    have h3:=tR h hb hr hc;obtain⟨a1,a2,_⟩:=tT hb hc 0;obtain⟨b1,b2,_⟩:=tT hb hc 1;have k0:=oz h hr (ja h n (chV l 0) a1 a2);have k1:=oz h hr (ja h n (chV l 1) b1 b2);rw[List.length_append];omega
   simp
theorem FS(ks:List Lab)(l:Lab):gn ks l<=ks.length:=List.countP_le_length
theorem nE:j6 Tryz.prog 110:=fun _ _=>by kernel_rfl
theorem sn(w:World):(zeroValue 35).run Tryz.prog w = .ok (C7 zRA).den w:=by kernel_rfl
theorem vR(m:Nat->Nat->Prop)(w:World):Ok m w (C7 zRA):=by
 refine .agg _ (fun v hv=>?_) fun v hv=>?_
 .simp only[ew,List.mem_cons,List.not_mem_nil,or_false]at hv
  rcases hv with rfl|rfl|rfl|rfl|rfl<;>rfl
 simp only[ew,List.mem_cons,List.not_mem_nil,or_false]at hv
 rcases hv with rfl|rfl|rfl|rfl|rfl
 .exact .int _ _
 .exact .sl _ _ _ _ _ _ (Nat.le_refl _) (Nat.zero_le _) (fun i hi=>absurd hi (Nat.not_lt_zero _)) (fun i hi=>absurd hi (Nat.not_lt_zero _)) (fun i hi=>absurd hi (Nat.not_lt_zero _)) (fun i hi=>absurd hi (Nat.not_lt_zero _)) (fun i hi=>absurd hi (Nat.not_lt_zero _))
 .exact .int _ _
 .exact .int _ _
 exact .int _ _
theorem lA{q:Lab}(hl:isL q=true)(hb:U64 q.bits):s8 q:=by
 obtain⟨h1,h2,_⟩:=r7 hl;obtain⟨h3,h4⟩:=hb
 constructor
 .simp [Lit.wf,IntKind.min,IntKind.max,IntKind.signed,IntKind.bits];omega
 simp[Lit.wf,IntKind.min,IntKind.max,IntKind.signed,IntKind.bits];omega
def ec(T:List (Lab×RA)):Tre:=fun l=>(M5 l T).map fun x=>x.r.abs
structure vO(T:List (Lab×RA)):Prop where
 labs:∀p∈T,s8 p.1/\U64 p.1.bits
 recs:∀p∈T,p.2.r.n<=16/\∀i,i<p.2.r.n->U64 (p.2.r.f i).key
theorem vO.ok{T:List (Lab×RA)}(h:vO T):qF (ec T) (T.map (·.1)):=by
 refine⟨fun k hk=>?_,fun l r hr=>?_⟩
 .obtain ⟨p,hp,rfl⟩:=List.mem_map.1 hk
  exact(h.labs p hp).2
 obtain⟨x,hx,rfl⟩:=Option.map_eq_some_iff.1 hr;have hm:=aB hx;refine⟨List.mem_map.2 ⟨_,hm,rfl⟩,?_⟩;have:=(h.recs _ hm).1;unfold RN.abs;rw[i3];exact this
theorem vO.el{T:List (Lab×RA)}(h:vO T)(q:Lab):((M5 q T).getD zRA).r.n<=16/\∀i,i<((M5 q T).getD zRA).r.n->U64 (((M5 q T).getD zRA).r.f i).key:=by
 cases hx:M5 q T with
 |none=>exact⟨Nat.zero_le _,fun i hi=>absurd hi (Nat.not_lt_zero _)⟩
 |some x=>exact h.recs _ (aB hx)
def pi(n:Nat)(g f:Nat->Itm):Nat->Itm:=fun i=>if i<n then g i else f (i-n)
theorem lI(g f:Nat->Itm)(n k:Nat):b4 (pi n g f) (n+k)=b4 g n++b4 f k:=by
 apply List.ext_getElem?;intro i;unfold b4 pi
 by_cases h:i<n
 .rw [List.getElem?_append_left (by simpa using h)]
  simp[h,show i<n+k by omega]
 rw[List.getElem?_append_right (by simpa using h)]
 by_cases h2:i<n+k
 .simp [h,h2,show i-n<k by omega]
 simp[show ¬i<n+k from h2,show ¬i-n<k by omega]
abbrev tEp(bt bT:Nat):AV:=.ep (some ⟨bt,0,none⟩) 0 0 0 [.raw (.map (some bT))]
abbrev Dm(bt bT bO bM n c:Nat)(A:Option Addr)(g:Nat->Itm):List (Nat×Blk):=[(901,⟨bO,33,[.sl (some 77) A n c 2 (fun i=>itC (g i))]⟩),(900,⟨bM,165,[.fn 110 [] [tEp bt bT,.ptr 901 bO 0,.ptr 900 bM 0]]⟩)]
abbrev Ho(n c:Nat)(A:Option Addr):List (Nat×Gr):=[(77,⟨A,n,c,2,62⟩)]
def Gl(bt bT bO bM:Nat)(xs:List Itm)(mem:List (Nat×Blk))(gr:List (Nat×Gr)):Prop:=∃A n c g,b4 g n=xs/\mem=Dm bt bT bO bM n c A g/\gr=Ho n c A
def Gn(m0:Nat->Nat->Prop)(w0:World)(K:Kn)(bt bT bO bM:Nat)(xs:List Itm)(e:Ending)(w':World):Prop:=∃v,e = .returned v/\v = .tuple #[]/\∃mem' gr',Gl bt bT bO bM xs mem' gr'/\Mem m0 w0 (fun _=>False) K mem' gr' w'
theorem tW{A:Option Addr}{n k c:Nat}{g f:Nat->Itm}{d:Option Nat}:Sim (.sl d A (std.nadd n k) c 2 (std.app n (fun i=>itC (g i)) (fun i=>itC (f i)))) (.sl d A (n+k) c 2 (fun i=>itC (pi n g f i))):=
 Sim.resl rfl fun t ht=>by
  show L0 n (fun i=>itC (g i)) (fun i=>itC (f i)) t=itC (pi n g f t)
  unfold L0 pi
  split<;>rfl
def gF(T:Tre)(n:Nat)(r:Rec)(q:Lab):Nat->List Itm
 |0=>[]
 |1=>jQ T (J9 T n) r (chV q 0)
 |_=>jQ T (J9 T n) r (chV q 0)++jQ T (J9 T n) r (chV q 1)
theorem rj{T:Tre}{n:Nat}{r:Rec}{q:Lab}(h:T q=some r)(hk:r.kind=1 \/ r.kind=5):J9 T (n+1) q=r.items:=by
 unfold J9;rw[h];exact if_pos hk
theorem xC{T:Tre}{n:Nat}{r:Rec}{q:Lab}(h:T q=some r)(hk:¬(r.kind=1 \/ r.kind=5)):J9 T (n+1) q=gF T n r q (if chE q 0=0 then 2 else 0):=by
 unfold J9;rw[h];refine(if_neg hk).trans ?_
 by_cases hc:chE q 0=0
 .rw [if_pos hc,if_pos hc];rfl
 rw[if_neg hc,if_neg hc];rfl
theorem mV{T:Tre}{n:Nat}{r:Rec}{q:Lab}{i:Nat}(hi:i<2):gF T n r q (i+1)=gF T n r q i++jQ T (J9 T n) r (chV q (i:Nat)):=by
 rcases i with _|_|i
 .rfl
 .rfl
 omega
theorem wX{T:Tre}{ks:List Lab}(h:qF T ks){n:Nat}{q:Lab}{r:Rec}(hb:U64 q.bits)(hr:T q=some r)(hc:chE q 0=0){i:Nat}(hi:i<2):(gF T n r q i).length+16+32*gn ks (chV q (i:Nat))<=32*gn ks q:=by
 have h3:=tR h hb hr hc
 rcases i with _|_|i
 .simp only[gF,List.length_nil,Int.ofNat_zero]
  have:((0:Nat):Int)=0:=rfl;omega
 .obtain ⟨a1,a2,_⟩:=tT hb hc 0
  have k0:=oz h hr (ja h n (chV q 0) a1 a2);simp only[gF];have:(((0+1:Nat)):Int)=1:=rfl;rw[this];omega
 omega
theorem AF{m0:Nat->Nat->Prop}{w0:World}{bt bT bO bM:Nat}(T:List (Lab×RA))(hT:vO T)(hT2:T.length<=2000):∀(n:Nat) (q:Lab),U64 q.bits->isL q=true->65<=q.len+n->∀(K:Kn),(∀m w,K.p m w->(lmK C7 bT T).p m w)->K.self->∀w xs mem gr,Gl bt bT bO bM xs mem gr->xs.length+32*gn (T.map (·.1)) q<=1000000->Mem m0 w0 (fun _=>False) K mem gr w->Ok (mT m0 mem gr) w (tEp bt bT) →
  Calls Tryz.prog 110 ([f4 q,tEp bt bT,.ptr 901 bO 0,.ptr 900 bM 0].map AV.den).toArray w (Gn m0 w0 K bt bT bO bM (xs++J9 (ec T) n q)):=by
 intro n
 induction n with
 |zero=>
  intro q hb0 hl hn;have:=(r7 hl).2.1;exact absurd hn (by omega)
 |succ n ih=>
  intro q hb0 hl hn K hKT hKs w xs mem gr hO hlen hm htE;have hmx:maxLen=9223372036854775807:=rfl;obtain⟨Ao,no,co,g,hg,rfl,rfl⟩:=hO;have hargs:∀v ∈ [f4 q,tEp bt bT,.ptr 901 bO 0,.ptr 900 bM 0],Ok (mT m0 (Dm bt bT bO bM no co Ao g) (Ho no co Ao)) w v:=by
   intro v hv;simp only[List.mem_cons,List.not_mem_nil,or_false]at hv
   rcases hv with rfl|rfl|rfl|rfl
   .exact .agg _ (by intro v hv;simp only[List.mem_cons,List.not_mem_nil,or_false]at hv;rcases hv with rfl|rfl<;>rfl) (by intro v hv;simp only[List.mem_cons,List.not_mem_nil,or_false]at hv;rcases hv with rfl|rfl<;>exact .int _ _)
   .exact htE
   .exact .ptr _ _ _
   exact .ptr _ _ _
  have hlq:s8 q:=lA hl hb0;obtain⟨el,hel⟩:=eqv ((M5 q T).getD zRA);obtain⟨hh,hhh⟩:=eqv ((M5 q T).isSome);obtain⟨he1,he2⟩:=hT.el q;rw[<-hel]at he1 he2;have O1:=sY (el:=C7) hKT hlq lq sn vR (v:=C7 el) (by rw[<-hel]) hhh.symm;simp only[f4]at O1;refine IX 60 hm hargs Tryz.func110 fun B O a0 Z=>?_
  refine de (fI (rg O a6 [4,1,2,3] [4,901,900,77] [] Z fun X0 a0 w1 Z=>?_));refine de (fI (rg O a6 [6,5,4,1,2,3] [5,4,901,900,77] [(2,.r fun _=>.tup [C7 el,.bool (.v hh)])] Z fun X1 a0 w1 Z=>?_));obtain⟨qE,hqE⟩:=eqv (AV.ep (some ⟨(X0 0).b,0,none⟩) 0 0 0 [.int .i64 q.len,.int .u64 q.bits]);have Z:=Z.fz (tm':=[(6,.bool (.v hh)),(5,.ep (some ⟨(X1 6).b,0,none⟩) 0 0 0 (ew el)),(4,.ptr 4 (X0 0).b 0),(1,tEp bt bT),(2,.ptr 901 bO 0),(3,.ptr 900 bM 0)]) ⟨rfl,I7,rfl,eM,rfl,I7,rfl,I7,rfl,I7,rfl,I7,trivial⟩;have Z:=Z.fz (tm':=[(6,.bool (.v hh)),(5,.ep (some ⟨(X1 6).b,0,none⟩) 0 0 0 (ew el)),(4,.ep (some ⟨(X0 0).b,0,none⟩) 0 0 0 [.int .i64 q.len,.int .u64 q.bits]),(1,tEp bt bT),(2,.ptr 901 bO 0),(3,.ptr 900 bM 0)]) ⟨rfl,I7,rfl,I7,rfl,eM,rfl,I7,rfl,I7,rfl,I7,trivial⟩;refine de (fI (wp_seq (rg O a6 [17,6,5,4,1,2,3] [901,900,77] [] Z fun X2 a0 w1 Z=>?_)));apply a7 Z rfl<;>intro hb Z
  .have hno:ec T q=none:=by
    have:hh=false:=by subst O;cases hh<;>first|rfl|cases hb
    rw[this]at hhh;unfold ec
    cases hg2:M5 q T with
    |none=>rfl
    |some x=>rw[hg2]at hhh;cases hhh
   refine wp_ret (Dj O a6 Z (fun w' hm' _=>⟨_,rfl,rfl,_,_,⟨Ao,no,co,g,?_,rfl,rfl⟩,hm'⟩)).1;unfold J9;rw[hno,hg,List.append_nil]
  have hso:ec T q=some el.r.abs:=by
   have:hh=true:=by subst O;cases hh<;>first|rfl|cases hb
   rw[this]at hhh;obtain⟨x,hx⟩:=Option.isSome_iff_exists.1 hhh.symm;unfold ec;rw[hx]at hel ⊢;rw[hel];rfl
  refine wp_skip ?_;refine de (fI (wp_seq (rg O a6 [25,5,4,1,2,3] [901,900,77] [] Z fun X3 a0 w1 Z=>?_)));apply a7 Z rfl<;>intro hb Z
  .have hk:el.r.kd=1 \/ el.r.kd=5:=by
    have h9:(if decide (el.r.kd=1)=true then true else decide (el.r.kd=5))=true:=by subst O;exact hb
    by_cases h1:el.r.kd=1
    .exact .inl h1
    rw[decide_eq_false h1]at h9;exact .inr (by simpa using h9)
   have hli:no<=1000000:=by rw[<-hg,i3]at hlen;omega
   refine wp_seq (rg O a6 [] [901,900,77] [] Z (fun X4 a0 w1 Z=>?_) (hob:=?hob))
   case hob=>
    intro X;subst O
    repeat(first|exact trivial|refine⟨⟨rfl,rfl,rfl⟩,?_⟩|refine⟨rfl,?_⟩|refine⟨⟨show no+el.r.n<=maxLen by omega,show(no+el.r.n)*_<=_ by omega⟩,?_⟩)
   have Z:=Z.memS (cells':=[.sl (some 77) ((X4 3).A 0) (no+el.r.n) ((X4 3).c 0) 2 (fun i=>itC (pi no g el.r.f i))]) (by subst O;exact⟨tW,trivial⟩);have Z:=Z.regr (n':=no+el.r.n) (by subst O;rfl);refine wp_ret (Dj O a6 Z (fun w' hm' _=>⟨_,rfl,rfl,_,_,⟨_,no+el.r.n,_,pi no g el.r.f,?_,rfl,rfl⟩,hm'⟩)).1;rw[rj hso hk,lI,hg];rfl
  have hnk:¬(el.r.kd=1 \/ el.r.kd=5):=by
   have h9:(if decide (el.r.kd=1)=true then true else decide (el.r.kd=5))=false:=by subst O;exact hb
   rintro(h1|h1)<;>simp[h1]at h9
  refine wp_skip ?_;have SK:=EL q;simp only[f4]at SK;have O1:=SK;refine de (fI (rg O a6 [31,5,1,2,3] [901,900,77] [(1,.r fun y=>.fn 159 [] [.ep (some ⟨y.b,0,none⟩) 0 0 0 [.int .i64 q.len,.int .u64 q.bits]])] Z fun X5 a0 w1 Z=>?_));refine mH ?_;have hKu:=hKs _ _ Z.kept;have hTk:=hT.ok;refine Ew Z rfl vw hKu (fun l D rc w1 hl hD hrc hD0 hsz ha hm1 hlb=>?_);subst hrc;refine(EM (l:=l) (D:=D) (ntc:=60) (p:=32) Tryz.func110 (by omega) (by omega) rfl rfl rfl (by decide) ⟨_,ha⟩ q hb0 (fun i K' mem gr=>K'=K/\Gl bt bT bO bM (xs++gF (ec T) n el.r.abs q i) mem gr) (fun _ _ _ _=>False) ?_ ⟨rfl,Ao,no,co,g,by rw[hg];simp[gF],rfl,rfl⟩ (hKu.off (by omega)) hm1 (hlb _ (by simp))).mono ?_
  .intro i hi hce E hE hE2 K' mem gr a w ⟨hK',hO⟩ hoff Z
   subst hK';obtain⟨A1,n1,c1,g1,hg1,rfl,rfl⟩:=hO;obtain⟨hc1,hc2,hc3⟩:=tT hb0 hce (i:Nat);have hpl:=wX (n:=n) hTk hb0 hso hce hi;obtain⟨c,hc⟩:=eqv (chV q (i:Nat));rw[<-hc]at hc1 hc2 hc3 Z hpl;simp only[f4]at Z;have hn1:n1<=1000000:=by
    have:=congrArg List.length hg1;rw[i3,List.length_append]at this;omega
   refine rrg O a6 [7,5,1,2,3] [7,901,900,77] [] Z fun X6 a0 w1 Z=>?_
   have Z:=Z.fz (tm':=[(7,.ep (some ⟨(X6 0).b,0,none⟩) 0 0 0 [.int .i64 c.len,.int .u64 c.bits]),(5,.ep (some ⟨(X1 6).b,0,none⟩) 0 0 0 (ew el)),(1,tEp bt bT),(2,.ptr 901 bO 0),(3,.ptr 900 bM 0)]) ⟨rfl,eM,rfl,I7,rfl,I7,rfl,I7,rfl,I7,trivial⟩;refine⟨60,_,_,_,Z,fun w2 Z=>?_⟩;obtain⟨ei,hei⟩:=eqv ((M5 c T).getD zRA);obtain⟨hi2,hhi2⟩:=eqv ((M5 c T).isSome);have OL:=fun(Kx:Kn) (hx:∀m w,Kx.p m w->K'.p m w)=>sY (K:=Kx) (el:=C7) (b:=bT) (L:=T) (l:=c) (fun m w h=>hKT m w (hx m w h)) (lA hc1 hc2) lq sn vR (v:=C7 ei) (by rw[<-hei]) hhi2.symm
   simp only[f4]at OL;refine wpIn_block (wpIn_seq (wpIn_seq (rrg O a6 [9,8,7,5,1,2,3] [8,901,900,77] [(2,.r fun _=>.tup [C7 ei,.bool (.v hi2)])] Z (fun X7 a0 w1 Z=>?_) (hob:=?hob7))))
   case hob7=>
    intro X;subst O
    repeat(first|exact trivial|refine⟨rfl,?_⟩|refine⟨OL _ (fun m w h=>h.1.1.1),?_⟩)
   have Z:=Z.fz (tm':=[(9,.bool (.v hi2)),(8,.ep (some ⟨(X7 6).b,0,none⟩) 0 0 0 (ew ei)),(7,.ep (some ⟨(X6 0).b,0,none⟩) 0 0 0 [.int .i64 c.len,.int .u64 c.bits]),(5,.ep (some ⟨(X1 6).b,0,none⟩) 0 0 0 (ew el)),(1,tEp bt bT),(2,.ptr 901 bO 0),(3,.ptr 900 bM 0)]) ⟨rfl,I7,rfl,eM,rfl,I7,rfl,I7,rfl,I7,rfl,I7,rfl,I7,trivial⟩;have hfz:xX (ec T) c=(if(!hi2)=true then true else decide (ei.r.kd=5)):=by
    unfold xX ec
    cases hg2:M5 c T with
    |none=>rw[hg2]at hhi2;rw[hhi2];rfl
    |some x=>rw[hg2]at hhi2 hei;rw[hhi2,hei];rfl
   refine wpIn_seq (rrg O a6 [50,7,5,1,2,3] [901,900,77] [] Z fun X8 a0 w1 Z=>?_);refine bz Z rfl (fun hb Z=>?_) (fun hb Z=>?_)
   .have h9:(if decide (el.r.kd=3)=true then(if(!hi2)=true then true else decide (ei.r.kd=5))else false)=true:=by subst O;exact hb
    rw[<-hfz]at h9;have hkid:jQ (ec T) (J9 (ec T) n) el.r.abs c=K3 c (b4 el.r.f el.r.n):=by
     unfold jQ;refine if_pos ⟨?_,?_⟩
     .show el.r.kd=3
      by_cases h3:el.r.kd=3
      .exact h3
      rw[decide_eq_false h3]at h9;cases h9
     split at h9
     .exact h9
     cases h9
    have SCV:=DT el.A el.r.n el.c el.r.f (by omega) c hc2 he2;have hcl:=tP c (b4 el.r.f el.r.n);rw[i3]at hcl;obtain⟨CV,hCV⟩:=eqv (K3 c (b4 el.r.f el.r.n));rw[<-hCV]at SCV hkid hcl;obtain⟨cf,hcf⟩:=eqv (itF CV);obtain⟨cn,hcn⟩:=eqv (CV.length);rw[<-hcf,<-hcn]at SCV;rw[<-hcn]at hcl;simp only[l7,f4]at SCV;refine wpIn_seq (Hl O a6 [] [901,900,77] [(4,.r fun x=>.sl none (x.A 0) cn (x.c 0) 2 (fun i=>itC (cf i)))] Z (fun X9 a0 w1 Z=>?_) (hob:=?hob))
    case hob=>
     intro X;subst O
     repeat(first|exact trivial|refine⟨⟨fun _ _=>by kernel_rfl,SCV⟩,?_⟩|refine⟨⟨rfl,rfl,rfl⟩,?_⟩|refine⟨rfl,?_⟩|refine⟨⟨show n1+cn<=maxLen by omega,show(n1+cn)*_<=_ by omega⟩,?_⟩)
    have Z:=Z.memS (cells':=[.sl (some 77) ((X9 5).A 0) (n1+cn) ((X9 5).c 0) 2 (fun i=>itC (pi n1 g1 cf i))]) (by subst O;exact⟨tW,trivial⟩);have Z:=Z.regr (n':=n1+cn) (by subst O;rfl);refine wpIn_exit ?_;refine⟨K',_,_,⟨rfl,_,n1+cn,_,pi n1 g1 cf,?_,rfl,rfl⟩,hoff,Z.bare⟩;rw[lI,hg1,mV hi,<-hc,hkid,List.append_assoc,hcn,hcf,jE]
   have h9:(if decide (el.r.kd=3)=true then(if(!hi2)=true then true else decide (ei.r.kd=5))else false)=false:=by subst O;exact hb
   rw[<-hfz]at h9;have hkid:jQ (ec T) (J9 (ec T) n) el.r.abs c=J9 (ec T) n c:=by
    unfold jQ;refine if_neg ?_
    rintro⟨h1,h2⟩
    rw[decide_eq_true (show el.r.kd=3 from h1),h2]at h9
    cases h9
   have hst:=Z.slot 1 rfl;refine wpIn_skip (IN ?_);refine lpr 0 2 O a6 [57,58,7,5,1,2,3] [901,900,77] [] Z (fun X10 a0 w1 Z=>?_);have hst:=Z.slot 1 rfl;refine sX rfl rfl rfl rfl Z rfl rfl nE (fun t ht=>by injection ht with ht;subst ht;decide) (fun hmm haa hargs=>?_);have hself:∀tmX rcX tmY,(((KL K' tmX l rcX D .busy none).and E).and (okT tmY)).self:=fun tmX rcX tmY=>cX (cX (Cy hKs tmX l rcX D .busy none) hE) (gI tmY)
   refine Calls.mono (ih c hc2 hc1 (by omega) _ ?hx ?hs w1 (xs++gF (ec T) n el.r.abs q i) _ _ ⟨A1,n1,c1,g1,hg1,rfl,rfl⟩ (by rw[List.length_append];omega) hmm hst.2) ?_
   case hx=>exact fun m w h=>hKT m w h.1.1.1.1
   case hs=>exact hself _ _ _
   rintro e w' ⟨v,rfl,rfl,mem',gr',hO',hm'⟩
   refine⟨.tup [],rfl,mem',gr',_,.tup _ (fun u hu=>by cases hu),hm',fun a' hF'=>wpList_nil ?_⟩;obtain⟨A2,n2,c2,g2,hg2,rfl,rfl⟩:=hO';exact⟨K',_,_,⟨rfl,A2,n2,c2,g2,by rw[hg2,mV hi,<-hc,hkid,List.append_assoc],rfl,rfl⟩,hoff,hF'.bare⟩
  rintro e w3 ⟨v,rfl,K',mem',gr',ho,hh⟩
  rcases hh with⟨hm',rfl,hO'⟩|⟨c,hx,_⟩
  .refine ⟨v,rfl,K',mem',gr',ho,.inl ⟨hm',fun a' w' hF'=>?_⟩⟩
   obtain⟨A',n',c',g',hg',rfl,rfl⟩:=hO';refine(sH O a6 [D] hF' (fun D' hD'=>?_) (fun w'' hm'' _=>⟨_,rfl,rfl,_,_,⟨A',n',c',g',?_,rfl,rfl⟩,hm''⟩)).2
   .simp only[List.mem_singleton]at hD'
    subst hD';exact⟨hKu.off (by omega),hD0⟩
   rw[hg',xC hso hnk]
  exact hx.elim
theorem M6.x{P:Program}{f:FuncId}{args:List AV}{pre:List (Nat×Blk)}{res:i8->CR}{J:Nat->i8->Kn}(h:M6 P f args pre none noK res J):v8 P f args pre res:=by
 intro m w h1 h2 h3;refine(h m w h1 h2 h3 trivial).mono ?_
 rintro e w' ⟨x,rfl,g1,g2,_,_⟩
 exact⟨x,rfl,g1,g2.plain⟩
theorem pF{g g':Option Nat}{k k':Nat}{f f':Nat->List AV}:Sim (.sl g none 0 0 k f) (.sl g' none 0 0 k' f'):=
 ⟨rfl,fun _=>rfl,fun _ _ _=>.sl _ _ _ _ _ _ (Nat.le_refl _) (Nat.zero_le _) (fun i hi=>absurd hi (Nat.not_lt_zero _)) (fun i hi=>absurd hi (Nat.not_lt_zero _)) (fun i hi=>absurd hi (Nat.not_lt_zero _)) (fun i hi=>absurd hi (Nat.not_lt_zero _)) (fun i hi=>absurd hi (Nat.not_lt_zero _))⟩
def RwN(n:Nat)(f:Nat->C1):Prop:=∀i,i<n->(f i).x.r.n<=1000000/\s8 (f i).lab/\U64 (f i).lab.bits/\U64 (f i).x.r.nx.bits
def RwK(n:Nat)(f:Nat->C1):Prop:=∀i,i<n->∀t,t<(f i).x.r.n->U64 ((f i).x.r.f t).key
def lD(l:List Rw):Bool:=(bW l).isSome
theorem Gz(A:Option Addr)(n c:Nat)(f:Nat->C1)(hn:n<=maxLen)(hN:RwN n f):j7 Tryz.prog 108 [aM A n c f] (fun _=>.bool (.v (lD (F6 f n)))):=by
 intro m w hm hargs;have hmx:maxLen=9223372036854775807:=rfl;have SN:=(xu A n c f hn hN).x;obtain⟨ir,hir⟩:=eqv (lD (F6 f n));rw[<-hir];refine en 12 hm hargs Tryz.func108 fun B O a0 Z=>?_
 refine wp_seq (rg O a6 [0] [] [] Z fun X0 _ _ Z=>?_);unfold lD at hir
 cases hs:bW (F6 f n)with
 |none=>
  rw[hs]at SN hir;have O1:=SN;refine wp_seq (rg O a6 [4] [] [(1,.x fun y=>⟨.tup [.nilp,.int .i64 1],[],[]⟩)] Z fun X1 _ _ Z=>?_);refine wp_seq (rg O a6 [2] [] [] Z fun X2 _ _ Z=>?_);exact wp_ret (rsp O a6 Z ⟨0,fun _=>none,fun _=>0,fun _=>.empty⟩ (he:=by subst O;rw[hir];rfl)).1
 |some L=>
  rw[hs]at SN hir;have O1:=SN;refine wp_seq (rg O a6 [4] [] [(1,.x fun y=>⟨.tup [.ptr 14 y.b 0,.int .i64 0],[],[(14,⟨y.b,95,[.raw (.map (some (y.c 0))),.int .i64 0]⟩)]⟩)] Z fun X1 _ _ Z=>?_);refine wp_seq (rg O a6 [2] [] [] Z fun X2 _ _ Z=>?_);exact wp_ret (rsp O a6 Z ⟨0,fun _=>none,fun _=>0,fun _=>.empty⟩ (he:=by subst O;rw[hir];rfl)).1
def DR(l:List Rw):Tre:=fun q=>(l.reverse.find? fun w=>decide (w.lab=q)).map (·.r)
def jd(l:List Rw):List Itm:=if lD l=true then J9 (DR l) 65 ⟨0,0⟩else []
def lC(l:List Rw):Int:=if lD l=true then 0 else 1
theorem sB{α : Type}{l:Lab}{x:α}{p:Lab×α}:∀{L:List (Lab×α)},p∈ej l x L->p=(l,x) \/ p∈L
 | [],h=>by simp[ej]at h;exact .inl h
 |y::L,h=>by
  unfold ej at h
  split at h
  .rcases List.mem_cons.1 h with h|h
   .exact .inl h
   exact .inr (List.mem_cons_of_mem _ h)
  rcases List.mem_cons.1 h with h|h
  .exact .inr (by rw[h];exact List.mem_cons_self ..)
  exact(sB h).imp id (List.mem_cons_of_mem _)
theorem vY(f:Nat->C1):∀n,ec (ar f n)=DR (F6 f n)
 |0=>rfl
 |n+1=>by
  funext q
  have ih:=congrFun (vY f n) q;unfold ec DR at ih ⊢;unfold ar;rw[eL,show F6 f (n+1)=F6 f n ++ [C1.abs (f n)]from lx _ _ _,List.reverse_append,List.reverse_singleton,List.singleton_append,List.find?_cons]
  by_cases h:(f n).lab=q
  .rw [if_pos h]
   simp[C1.abs,h]
  rw[if_neg h];rw[show decide ((C1.abs (f n)).lab=q)=false from decide_eq_false h];exact ih
theorem sU:∀{l:List Rw} {L L':Shf},eD l L=some L'->∀w∈l,isL w.lab=true/\isR w.r=true
 | [],_,_,_,w,hw=>by cases hw
 |v::l,L,L',h,w,hw=>by
  unfold eD at h
  split at h
  .cases h
  rename_i hn
  simp only[Bool.or_eq_true,Bool.not_eq_true',not_or,Bool.not_eq_false]at hn
  rcases List.mem_cons.1 hw with rfl|hw
  .exact ⟨hn.1.2,hn.2⟩
  exact sU h w hw
theorem sS{l:List Rw}(h:lD l=true):l.length<=2000/\∀w∈l,isL w.lab=true/\isR w.r=true:=by
 unfold lD bW at h
 split at h
 .cases h
 obtain⟨L,hL⟩:=Option.isSome_iff_exists.1 h;exact⟨by omega,sU hL⟩
theorem iK(f:Nat->C1):∀(n:Nat) (p:Lab×RA),p∈ar f n->∃i,i<n/\p=((f i).lab,(f i).x)
 |0,p,h=>by cases h
 |n+1,p,h=>by
  unfold ar at h;have h':=sB h
  rcases h' with h'|h'
  .exact ⟨n,by omega,h'⟩
  obtain⟨i,hi,e⟩:=iK f n p h';exact⟨i,by omega,e⟩
theorem vX{f:Nat->C1}{n:Nat}(hN:RwN n f)(hK:RwK n f)(h:lD (F6 f n)=true):vO (ar f n):=by
 obtain⟨_,h2⟩:=sS h;refine⟨fun p hp=>?_,fun p hp=>?_⟩
 .obtain ⟨i,hi,rfl⟩:=iK f n p hp
  exact⟨(hN i hi).2.1,(hN i hi).2.2.1⟩
 obtain⟨i,hi,rfl⟩:=iK f n p hp;have hm:C1.abs (f i)∈F6 f n:=by
  simp only[F6,bF,List.mem_map,List.mem_range];exact⟨i,hi,rfl⟩
 have h3:=(h2 _ hm).2;have h4:isR (f i).x.r.abs=true:=h3;rw[gQ]at h4;exact⟨(E4 h4).2.2.1,hK i hi⟩
theorem AT(A:Option Addr)(n c:Nat)(f:Nat->C1)(hn:n<=100000)(hN:RwN n f)(hK:RwK n f):j7 Tryz.prog 56 [aM A n c f] (fun y=>.tup [l7 (y.A 0) (jd (F6 f n)).length (y.c 0) (itF (jd (F6 f n))),.int .i64 (lC (F6 f n))]):=by
 intro m w hm hargs;have hmx:maxLen=9223372036854775807:=rfl;have SI:=Gz A n c f (by omega) hN;obtain⟨ir,hir⟩:=eqv (lD (F6 f n));rw[<-hir]at SI;have O1:=SI;refine en 17 hm hargs Tryz.func56 fun B O a0 Z=>?_
 refine wp_seq (rg O a6 [0] [] [] Z fun X0 a0 w1 Z=>?_);refine wp_seq (wp_seq (rg O a6 [9,0] [] [(1,.r fun _=>.bool (.v ir))] Z fun X1 a0 w1 Z=>?_));apply a7 Z rfl<;>intro hb Z
 .have hif:lD (F6 f n)=false:=by rw[<-hir];subst O;cases ir<;>first|rfl|cases hb
  refine wp_seq (rg O a6 [2,3] [2] [] Z fun X2 a0 w1 Z=>?_);refine wp_ret (rsi O a6 Z ⟨0,fun _=>none,fun _=>0,fun _=>.empty⟩ (he:=?_));subst O;unfold jd lC l7;rw[hif];exact Sim.tup ⟨pF,zr,trivial⟩
 have hit:lD (F6 f n)=true:=by rw[<-hir];subst O;cases ir<;>first|rfl|cases hb
 have hTA:=vX hN hK hit;have hTl:(ar f n).length<=2000:=by
  have h1:=(sS hit).1;rw[R2]at h1;exact Nat.le_trans (iL f n) h1
 refine wp_skip (wp_seq (wp_region_lit ?_));refine lpr 0 1 O a6 [10] [] [] Z (fun X2 a0 w1 Z=>?_);refine I8 rfl rfl rfl rfl Z rfl rfl vC (Gy A n c f hn fun i hi=>(hN i hi).2.1) (fun _ _ h=>h) (fun b hb=>by cases hb) (zl) (fun e he=>by cases he) rfl rfl (fun y=>lmK C7 (y.c 0) (ar f n)) (fun _ _ _ _ _ _ _ _ _ h=>h.2) ?_;intro y a0 w1 Z;obtain⟨bT,hbT⟩:=eqv (y.c 0);rw[<-hbT]at Z;refine lnd 2 O a6 [4] [4] [] Z (fun X3 a0 w1 Z=>?_);have Z:=Z.fz (tm':=[(4,tEp (X3 2).b bT)]) ⟨rfl,eM,trivial⟩;refine wp_seq (rg O a6 [5,4] [5] [] Z fun X4 a0 w1 Z=>?_);refine wp_seq (rg O a6 [6,5,4] [6,5] [] Z fun X5 a0 w1 Z=>?_);refine wp_seq (rg O a6 [6,5] [6,5] [] Z fun X6 a0 w1 Z=>?_);obtain⟨bt,hbt⟩:=eqv ((X3 2).b);obtain⟨bO,hbO⟩:=eqv ((X4 0).b);obtain⟨bM,hbM⟩:=eqv ((X5 0).b);have Z:=Z.rekey (key':=900) (tm':=[(6,.ptr 900 (X5 0).b 0),(5,.ptr 5 (X4 0).b 0)]) ⟨rfl,xW,rfl,I7,trivial⟩;have Z:=Z.memS (cells':=[.fn 110 [] [tEp (X3 2).b bT,.ptr 901 (X4 0).b 0,.ptr 900 (X5 0).b 0]]) ⟨Sim.fn trivial ⟨zr,Sim.ptr,Sim.ptr,trivial⟩,trivial⟩;have Z:=Z.keep [6,5] [5,900];have Z:=Z.rekey (key':=901) (tm':=[(6,.ptr 900 (X5 0).b 0),(5,.ptr 901 (X4 0).b 0)]) ⟨rfl,I7,rfl,xW,trivial⟩;have Z:=Z.fresh (Below.refl _ _) 77 (t:=⟨none,0,0,2,62⟩) (by decide) (Own.nil _ _ _ _ none);have Z:=b6.memS (cells':=[.sl (some 77) none 0 0 2 (fun i=>itC ((fun _=>C2) i))]) Z ⟨pF,trivial⟩;refine wp_seq (wp_region_lit ?_);refine lpr 0 2 O a6 [13,14,5,6] [901,900,77] [] Z (fun X7 a0 w1 Z=>?_);refine sX rfl rfl rfl rfl Z rfl rfl nE (fun t ht=>by injection ht with ht;subst ht;decide) (fun hmm haa hargs=>?_);have htE:=hargs (tEp (X3 2).b bT) (by simp);have hself:∀tm,((lmK C7 bT (ar f n)).and (okT tm)).self:=fun tm=>cX xI (gI tm)
 refine Calls.mono (AF (ar f n) hTA hTl 65 ⟨0,0⟩ ⟨by decide,by decide⟩ (by decide) (by decide) _ ?hx ?hs w1 [] _ _ ⟨none,0,0,fun _=>C2,rfl,rfl,rfl⟩ ?hl hmm htE) ?_
 case hx=>exact fun m w h=>h.1
 case hs=>exact hself _
 case hl=>
  have:=FS ((ar f n).map (·.1)) ⟨0,0⟩;rw[List.length_map]at this;simp only[List.length_nil];omega
 rintro e w' ⟨v,rfl,rfl,mem',gr',hO',hm'⟩
 refine⟨.tup [],rfl,mem',gr',_,.tup _ (fun u hu=>by cases hu),hm',fun a' Z=>wpList_nil ?_⟩;obtain⟨A2,n2,c2,g2,hg2,rfl,rfl⟩:=hO';refine wp_seq (rg O a6 [2,3] [901,77] [] Z fun X8 a0 w1 Z=>?_);refine wp_ret (rsi O a6 Z ⟨0,fun _=>A2,fun _=>c2,fun _=>.empty⟩ (he:=?_));subst O;have hI:jd (F6 f n)=b4 g2 n2:=by
  unfold jd;rw[if_pos hit,hg2,List.nil_append,vY]
 have hE:lC (F6 f n)=0:=by unfold lC;rw[if_pos hit]
 rw[hI,hE];unfold l7;exact Sim.tup ⟨Sim.resl (by rw[i3]) (fun t ht=>by rw[i3]at ht;rw[u0 _ _ t ht]),zr,trivial⟩
def edJ(k key:Int):i5:=⟨k,⟨0,0⟩,key,0,⟨#[97]⟩,0,none,0,0,fun _=>0,0,0,0,0,1,1,900⟩
theorem rS(k:Int){key:Int}(h:U64 key):da (edJ k key):=have h0:U64 (0:Int):=⟨by decide,by decide⟩;⟨h0,h,h0⟩
def oN:Shf:=[(⟨0,0⟩,⟨2,true,⟨1,[⟨1,⟨#[97]⟩⟩],⟨-1,0⟩,0⟩⟩)]
def lU:Shf:=[(⟨0,0⟩,⟨4,true,⟨2,[],⟨-1,0⟩,0⟩⟩),(⟨1,0⟩,⟨1,true,⟨1,[⟨1,⟨#[97]⟩⟩],⟨1,9223372036854775808⟩,0⟩⟩),(⟨1,9223372036854775808⟩,⟨2,true,⟨1,[⟨9223372036854775808,⟨#[97]⟩⟩],⟨-1,0⟩,0⟩⟩)]
def vF:Shf:=[(⟨0,0⟩,⟨4,true,⟨2,[],⟨-1,0⟩,0⟩⟩),(⟨1,0⟩,⟨1,true,⟨1,[⟨1,⟨#[97]⟩⟩],⟨1,9223372036854775808⟩,0⟩⟩),(⟨1,9223372036854775808⟩,⟨3,true,⟨1,[],⟨-1,0⟩,0⟩⟩)]
def vE:List Rw:=[⟨⟨0,0⟩,4,⟨2,[],⟨-1,0⟩,0⟩⟩,⟨⟨1,0⟩,1,⟨1,[⟨1,⟨#[97]⟩⟩],⟨1,9223372036854775808⟩,0⟩⟩,⟨⟨1,9223372036854775808⟩,2,⟨1,[⟨9223372036854775808,⟨#[97]⟩⟩],⟨-1,0⟩,0⟩⟩]
def ip:List Rw:=[⟨⟨0,0⟩,4,⟨2,[],⟨-1,0⟩,0⟩⟩,⟨⟨1,0⟩,1,⟨1,[⟨1,⟨#[97]⟩⟩],⟨1,9223372036854775808⟩,0⟩⟩,⟨⟨1,9223372036854775808⟩,3,⟨1,[],⟨-1,0⟩,0⟩⟩]
theorem Bm:Y3 (J7 (edJ 4 1)) 2000 2001 [] [] 0=⟨2,aJ,4,0,oN,2⟩:=by kernel_rfl
theorem Bl:Y3 (J7 (edJ 4 9223372036854775808)) 2000 2001 [] oN 2=⟨2,aJ,12,0,lU,7⟩:=by kernel_rfl
theorem Bk:Y3 (J7 (edJ 5 9223372036854775808)) 2000 2001 [] lU 7=⟨2,⟨0,true,⟨#[97]⟩,[],0,false⟩,6,0,vF,8⟩:=by kernel_rfl
theorem yn:J3 lU=vE:=by kernel_rfl
theorem ym:J3 vF=ip:=by kernel_rfl
theorem yo:jd ip=[⟨1,⟨#[97]⟩⟩]:=by kernel_rfl
theorem Fp:lC ip=0:=by kernel_rfl
def HM:List Rw:=[⟨⟨0,0⟩,2,⟨1,[⟨1,⟨#[97]⟩⟩],⟨-1,0⟩,0⟩⟩]
theorem Bo:bW HM=some oN:=by kernel_rfl
theorem Bn:bW vE=some lU:=by kernel_rfl
theorem HT:dY []:=fg (l:=[]) (fun r h=>by cases h) rfl
theorem HS:dY oN:=fg (by
 intro r hr;simp only[HM,List.mem_cons,List.not_mem_nil,or_false]at hr;subst hr;refine⟨⟨by decide,by decide⟩,⟨by decide,by decide⟩,⟨by decide,by decide⟩,fun x hx=>?_⟩;simp only[List.mem_cons,List.not_mem_nil,or_false]at hx;subst hx;exact⟨by decide,by decide⟩) Bo
theorem HR:dY lU:=fg (by
 intro r hr;simp only[vE,List.mem_cons,List.not_mem_nil,or_false]at hr
 rcases hr with rfl|rfl|rfl
 .exact ⟨⟨by decide,by decide⟩,⟨by decide,by decide⟩,⟨by decide,by decide⟩,fun x hx=>by cases hx⟩
 .refine ⟨⟨by decide,by decide⟩,⟨by decide,by decide⟩,⟨by decide,by decide⟩,fun x hx=>?_⟩
  simp only[List.mem_cons,List.not_mem_nil,or_false]at hx;subst hx;exact⟨by decide,by decide⟩
 refine⟨⟨by decide,by decide⟩,⟨by decide,by decide⟩,⟨by decide,by decide⟩,fun x hx=>?_⟩;simp only[List.mem_cons,List.not_mem_nil,or_false]at hx;subst hx;exact⟨by decide,by decide⟩) Bn
def zJ:i5:=⟨0,⟨0,0⟩,0,0,⟨#[]⟩,0,none,0,0,fun _=>0,0,0,0,0,0,0,0⟩
theorem Gq:da zJ:=⟨⟨by decide,by decide⟩,⟨by decide,by decide⟩,⟨by decide,by decide⟩⟩
theorem DK(g:Option Nat)(k:Nat)(f:Nat->List AV):F0 [.agg [.int .i64 0,.int .i64 0,.int .u64 0,.int .u64 0,.int .u64 0,.str ⟨#[]⟩,.int .i64 0,.sl none none 0 0 1 (fun _=>[]),.int .u32 0,.int .u32 0,.int .u32 0,.int .u32 0,.int .i64 0,.int .i64 0,.int .i64 0],.sl g none 0 0 k f] [aR zJ,cR none 0 0 (fun _=>mp)]:=⟨Sim.agg ⟨zr,zr,zr,zr,zr,zr,zr,Sim.nils,zr,zr,zr,zr,zr,zr,zr,trivial⟩,Sim.nils,trivial⟩
theorem Hf{l:List Rw}(h:∀w∈l,w.r.items.length<=1000000/\s8 w.lab/\U64 w.lab.bits/\U64 w.r.next.bits)(y:i8):RwN l.length (fu y l):=by
 intro i hi;unfold fu;rw[List.getD_eq_getElem?_getD,List.getElem?_eq_getElem hi];exact h _ (List.getElem_mem hi)
theorem Ef{l:List Rw}(h:∀w∈l,∀x∈w.r.items,U64 x.key)(y:i8):RwK l.length (fu y l):=by
 intro i hi t ht;unfold fu at ht ⊢;rw[List.getD_eq_getElem?_getD,List.getElem?_eq_getElem hi]at ht ⊢;have ht:t<(l[i].r.items).length:=ht
 show U64 ((l[i].r.items).getD t C2).key
 rw[List.getD_eq_getElem?_getD,List.getElem?_eq_getElem ht];exact h _ (List.getElem_mem hi) _ (List.getElem_mem ht)
theorem zc:J7 zJ 0 (fun _=>mp)=(zWq,1):=by kernel_rfl
theorem HP(y:i8):RwN 3 (fu y ip):=Hf (l:=ip) (by
 intro w hw;simp only[ip,List.mem_cons,List.not_mem_nil,or_false]at hw
 rcases hw with rfl|rfl|rfl<;>exact⟨by decide,lA (by decide) ⟨by decide,by decide⟩,⟨by decide,by decide⟩,⟨by decide,by decide⟩⟩) y
theorem HQ(y:i8):RwK 3 (fu y ip):=Ef (l:=ip) (by
 intro w hw;simp only[ip,List.mem_cons,List.not_mem_nil,or_false]at hw
 rcases hw with rfl|rfl|rfl
 .intro x hx;cases hx
 .intro x hx
  simp only[List.mem_cons,List.not_mem_nil,or_false]at hx;subst hx;exact⟨by decide,by decide⟩
 intro x hx;cases hx) y
theorem eQ:j7 Tryz.prog 21 [] (fun _=>.bool .tt):=by
 intro m w hm hargs;have hmx:maxLen=9223372036854775807:=rfl;obtain⟨RF,hRF⟩:∃RF:i8->Nat->C1,RF=fun y=>fu y vE:=⟨_,rfl⟩
 have hRy:∀y,fu y vE=RF y:=fun y=>by rw[hRF]
 obtain⟨RG,hRG⟩:∃RG:i8->Nat->C1,RG=fun y=>fu y ip:=⟨_,rfl⟩
 have hRz:∀y,fu y ip=RG y:=fun y=>by rw[hRG]
 have SI:=fun(y:i8) (A:Option Addr) (c:Nat)=>AT A 3 c (RG y) (by decide) (by rw[<-hRz];exact HP y) (by rw[<-hRz];exact HQ y)
 have hRR:∀y,F6 (RG y) 3=ip:=fun y=>by rw[hRG];exact ut y ip
 simp only[hRR,yo,Fp,List.length_singleton,l7]at SI;obtain⟨W1,hW1⟩:=eqv (((zWq,(1:Int))).1);obtain⟨E1,hE1⟩:=eqv (((zWq,(1:Int))).2);obtain⟨rr1,hrr1⟩:=eqv (W1.r.rn);obtain⟨nn1,hnn1⟩:=eqv (W1.res.items.length);obtain⟨ff1,hff1⟩:=eqv (itF W1.res.items);have T1:=j7.wq (by have h:=(oM zJ Gq none 0 0 (fun _=>mp) (by omega) (fun j hj=>absurd hj (Nat.not_lt_zero _)));rw[zc]at h;exact h) hW1 hE1 hrr1 hnn1 hff1;have S1:∀g k fz,j7 Tryz.prog 22 [.agg [.int .i64 0,.int .i64 0,.int .u64 0,.int .u64 0,.int .u64 0,.str ⟨#[]⟩,.int .i64 0,.sl none none 0 0 1 (fun _=>[]),.int .u32 0,.int .u32 0,.int .u32 0,.int .u32 0,.int .i64 0,.int .i64 0,.int .i64 0],.sl g none 0 0 k fz] (fun x=>.tup [D5 (wqB x W1 rr1 nn1 ff1),.int .i64 E1]):=fun g k fz=>T1.sim (DK g k fz)
 refine en 118 hm hargs Tryz.func21 fun B O a0 Z=>?_
 refine wp_seq (rg O a6 [] [] [] Z fun X0 _ _ Z=>?_);have SN:=sR none 0 0 (fun _=>qM) (by omega) (fun i hi=>absurd hi (Nat.not_lt_zero _)) 900 (L:=[]) rfl;refine wp_seq (wp_region_lit (I8 rfl rfl rfl rfl Z rfl rfl lS (SN) (fun _ _ _=>trivial) (fun b hb=>by cases hb) ⟨Sim.nils,trivial⟩ (by intro e he;cases he) rfl rfl (fun y=>shF w.heap.size (y.c 0) ([]:Shf)) (fun n x m w m' w' hn _ _ h=>⟨Nat.le_trans hn h.1,h.2⟩) ?_));intro y _ _ Z;obtain⟨sb,hsb⟩:=eqv (y.b);obtain⟨bM,hbM⟩:=eqv (y.c 0);rw[<-hsb,<-hbM]at Z;have hbfr:w.heap.size<=bM:=Z.kept.1;replace Z:=Z.withK (K':=shK bM ([]:Shf)) Z.kept.2;refine lnd 1 O a6 [1,2] [900] [] Z fun X1 _ _ Z=>?_
 refine wp_seq (wp_seq (rg O a6 [27,1] [900] [] Z fun X2 _ _ Z=>?_));apply a7 Z rfl<;>intro hb Z
 .exfalso
  subst O;simp[std,a8,BE.den]at hb
 skip
 refine wp_skip (wp_seq (rg O a6 [1,3] [900,3] [] Z fun X4 _ _ Z=>?_));refine wp_seq (wp_region_lit (lpr 0 2 O a6 [30,31,1,3] [900,3] [] Z fun X5_0 _ _ Z=>?_));have SD:=og 900 2000 sb bM (edJ 4 1) (rS _ ⟨by decide,by decide⟩) ([]:Shf) HT 0;rw[Bm]at SD;have SE:M6 Tryz.prog 54 [.ptr 900 sb 0,aR (edJ 4 1),.int .i64 2000] [(900,⟨sb,95,[.raw (.map (some bM)),.int .i64 0]⟩)] (some bM) (shK bM ([]:Shf)) (fun y=>⟨.tup [.agg [.int .i64 0,.bool (.v false),.str ⟨#[]⟩,.sl none (y.A 2) 0 (y.c 2) 2 (fun i=>itC (itF [] i)),.int .u64 0,.bool (.v false)],.bool (.v true),.bool (.v true)],[(900,[.raw (.map (some bM)),.int .i64 2])],[]⟩) (fun _ _=>shK bM oN):=SD;refine I8 rfl rfl rfl rfl Z rfl rfl lR SE (fun _ _ h=>h) (fun b hb=>by cases hb;exact fun h=>absurd h (Nat.not_lt.2 hbfr)) ⟨zr,Sim.agg ⟨zr,zr,zr,zr,zr,zr,zr,Sim.nils,zr,zr,zr,zr,zr,zr,zr,trivial⟩,zr,trivial⟩ (by intro e he;simp only[List.mem_singleton]at he;subst he;rfl) rfl rfl (fun _=>shK bM oN) (fun _ _ _ _ _ _ _ _ _ h=>h) ?_;intro y _ _ Z;replace Z:=Z.withK (K':=shK bM oN) Z.kept;refine lnd 3 O a6 [1,3,4,5,6] [900,3,4] [] Z fun X5 _ _ Z=>?_
 refine wp_seq (rg O a6 [1,3,4,5,6] [900,3,4] [] Z fun X6 _ _ Z=>?_);refine wp_seq (wp_region_lit (lpr 0 2 O a6 [38,39,1,3,4,5,6] [900,3,4] [] Z fun X7_0 _ _ Z=>?_));have SD:=og 900 2000 sb bM (edJ 4 9223372036854775808) (rS _ ⟨by decide,by decide⟩) oN HS 2;rw[Bl]at SD;have SE:M6 Tryz.prog 54 [.ptr 900 sb 0,aR (edJ 4 9223372036854775808),.int .i64 2000] [(900,⟨sb,95,[.raw (.map (some bM)),.int .i64 2]⟩)] (some bM) (shK bM oN) (fun y=>⟨.tup [.agg [.int .i64 0,.bool (.v false),.str ⟨#[]⟩,.sl none (y.A 2) 0 (y.c 2) 2 (fun i=>itC (itF [] i)),.int .u64 0,.bool (.v false)],.bool (.v true),.bool (.v true)],[(900,[.raw (.map (some bM)),.int .i64 7])],[]⟩) (fun _ _=>shK bM lU):=SD;refine I8 rfl rfl rfl rfl Z rfl rfl lR SE (fun _ _ h=>h) (fun b hb=>by cases hb;exact fun h=>absurd h (Nat.not_lt.2 hbfr)) ⟨zr,Sim.agg ⟨zr,zr,zr,zr,zr,zr,zr,Sim.nils,zr,zr,zr,zr,zr,zr,zr,trivial⟩,zr,trivial⟩ (by intro e he;simp only[List.mem_singleton]at he;subst he;rfl) rfl rfl (fun _=>shK bM lU) (fun _ _ _ _ _ _ _ _ _ h=>h) ?_;intro y _ _ Z;replace Z:=Z.withK (K':=shK bM lU) Z.kept;have SR1:=wE 900 sb bM lU (by decide) 7;rw[yn,show vE.length=3 from rfl]at SR1;simp only[hRy]at SR1;refine lnd 3 O a6 [1,3,4,5,6,7,8,9] [900,3,4,7] [] Z fun X7 _ _ Z=>?_
 refine wp_seq (rg O a6 [1,3,4,5,6,7,8,9,10] [900,3,4,7] [(1,.g [900] fun y=>.sl none (y.A 0) 3 (y.c 0) 8 (fun i=>T8 (RF y i)))] Z (hob:=?hob) fun X8 _ _ Z=>?_)
 case hob=>
  intro X;subst O
  repeat(first|exact trivial|refine⟨rfl,?_⟩|refine⟨fun _=>rfl,?_⟩|refine⟨⟨fun _ _=>by kernel_rfl,SR1⟩,?_⟩|refine⟨fun _=>⟨fun _ _=>by kernel_rfl,SR1⟩,?_⟩|refine⟨fun _=>⟨by decide,by decide⟩,?_⟩)
 refine wp_seq (rg O a6 [1,3,4,5,6,7,8,9,10] [900,3,4,7] [] Z fun X9 _ _ Z=>?_);refine wp_seq (wp_region_lit (lpr 0 2 O a6 [49,50,1,3,4,5,6,7,8,9,10] [900,3,4,7] [] Z fun X10_0 _ _ Z=>?_));have SD:=og 900 2000 sb bM (edJ 5 9223372036854775808) (rS _ ⟨by decide,by decide⟩) lU HR 7;rw[Bk]at SD;have SE:M6 Tryz.prog 54 [.ptr 900 sb 0,aR (edJ 5 9223372036854775808),.int .i64 2000] [(900,⟨sb,95,[.raw (.map (some bM)),.int .i64 7]⟩)] (some bM) (shK bM lU) (fun y=>⟨.tup [.agg [.int .i64 0,.bool (.v true),.str ⟨#[97]⟩,.sl none (y.A 2) 0 (y.c 2) 2 (fun i=>itC (itF [] i)),.int .u64 0,.bool (.v false)],.bool (.v true),.bool (.v true)],[(900,[.raw (.map (some bM)),.int .i64 8])],[]⟩) (fun _ _=>shK bM vF):=SD;refine I8 rfl rfl rfl rfl Z rfl rfl lR SE (fun _ _ h=>h) (fun b hb=>by cases hb;exact fun h=>absurd h (Nat.not_lt.2 hbfr)) ⟨zr,Sim.agg ⟨zr,zr,zr,zr,zr,zr,zr,Sim.nils,zr,zr,zr,zr,zr,zr,zr,trivial⟩,zr,trivial⟩ (by intro e he;simp only[List.mem_singleton]at he;subst he;rfl) rfl rfl (fun _=>shK bM vF) (fun _ _ _ _ _ _ _ _ _ h=>h) ?_;intro y _ _ Z;replace Z:=Z.withK (K':=shK bM vF) Z.kept;have SR1:=wE 900 sb bM vF (by decide) 8;rw[ym,show ip.length=3 from rfl]at SR1;simp only[hRz]at SR1;refine lnd 3 O a6 [1,4,5,6,7,8,9,10,11,12,13] [900,4,7,11] [] Z fun X10 _ _ Z=>?_
 refine wp_seq (rg O a6 [4,5,6,7,8,9,10,11,12,13,14,15] [4,7,11] [(1,.g [900] fun y=>.sl none (y.A 0) 3 (y.c 0) 8 (fun i=>T8 (RG y i))),(2,.r fun y=>.tup [.sl none (y.A 0) 1 (y.c 0) 2 (fun i=>itC (itF [⟨1,⟨#[97]⟩⟩] i)),.int .i64 0])] Z (hob:=?hob) fun X11 _ _ Z=>?_)
 case hob=>
  intro X;subst O
  repeat(first|exact trivial|refine⟨rfl,?_⟩|refine⟨fun _=>rfl,?_⟩|refine⟨⟨fun _ _=>by kernel_rfl,SR1⟩,?_⟩|refine⟨fun _=>⟨fun _ _=>by kernel_rfl,SR1⟩,?_⟩|refine⟨⟨fun _ _=>by kernel_rfl,SI _ _ _⟩,?_⟩|refine⟨fun _=>⟨fun _ _=>by kernel_rfl,SI _ _ _⟩,?_⟩|refine⟨fun _=>⟨by decide,by decide⟩,?_⟩)
 apply wp_seq;refine rg O a6 [4,5,6,7,8,9,10,11,12,13,14,15,17] [4,7,11,16] [(1,.r fun x=>.tup [.agg [.int .i64 W1.kind,.int .i64 W1.lab.len,.int .u64 W1.lab.bits,.int .u64 W1.ver,.int .i64 rr1.kd,.sl none (x.A 1) rr1.n (x.c 1) 2 (fun i=>itC (rr1.f i)),.int .i64 rr1.nx.len,.int .u64 rr1.nx.bits,.int .u64 rr1.mrk,.int .i64 W1.res.code,.bool (.v W1.res.had),.str W1.res.val,.sl none (x.A 2) nn1 (x.c 2) 2 (fun i=>itC (ff1 i)),.int .u64 W1.res.key,.bool (.v W1.res.more)],.int .i64 E1])] Z (hob:=by intro X;subst O;simp only[b7,Ob.holds,BE.den]<;>and_intros<;>repeat first|trivial|rfl|exact S1 _ _ _|exact(fun _ _=>by kernel_rfl)|refine⟨?_,?_⟩|intro h|exact Int.le_refl _|decide|omega) fun X12 _ _ Z=>?_
 refine wp_seq (rg O a6 [0] [] [] Z fun X13 _ _ Z=>?_);refine wp_ret ((rsi O a6 Z f8 (he:=?_)));subst O;refine Sim.bool ?_;simp[std,a8,kg,BE.den,mE,hE1]
 try exact String.beq_self _
theorem wx(cd:Int)(hd:Bool)(vl:ByteArray)(A:Option Addr)(n c:Nat)(A2:Option Addr)(c2:Nat)(f:Nat->Itm)(k:Int)(mr:Bool):j7 Tryz.prog 47 [.agg [.int .i64 cd,.bool (.v hd),.str vl,.sl none A n c 2 (fun i=>itC (f i)),.int .u64 k,.bool (.v mr)],.agg [.int .i64 cd,.bool (.v hd),.str vl,.sl none A2 n c2 2 (fun i=>itC (f i)),.int .u64 k,.bool (.v mr)]] (fun _=>.bool .tt):=by
 intro m w hm hargs;have hn:n<=maxLen:=by
  have h9:=hargs _ (List.mem_cons_self ..);have:=iW (rh h9 (.sl none A n c 2 (fun i=>itC (f i))) (by simp));omega
 have S:=sE A n c f hn A2 n c2 f;rw[show dS n f n f=true from iP rfl fun _ _=>rfl]at S;simp only[l7]at S;refine en 45 hm hargs Tryz.func47 fun B O a0 Z=>?_
 refine wp_seq (rg O a6 [2,3] [2,3] [] Z fun X0 _ _ Z=>?_);have O1:=S;refine wp_seq (rg O a6 [4] [] [(24,.r fun _=>.bool (.v true))] Z fun X1 _ _ Z=>?_);refine wp_ret ((rsi O a6 Z f8 (he:=?_)));subst O;refine Sim.bool ?_;simp[std,a8,kg,BE.den,mE]
 try exact String.beq_self _
theorem zL(x y:i8)(W:Wq)(rr:RN)(nn:Nat)(ff:Nat->Itm):j7 Tryz.prog 15 [D5 (wqB x W rr nn ff),D5 (wqB y W rr nn ff)] (fun _=>.bool .tt):=by
 intro m w hm hargs;have hn:rr.n<=maxLen:=by
  have h9:=hargs _ (List.mem_cons_self ..);have:=iW (rh h9 (.sl none (x.A 1) rr.n (x.c 1) 2 (fun i=>itC (rr.f i))) (by simp));omega
 have S:=wy (x.A 1) rr.n (x.c 1) rr.f hn rr.kd rr.nx rr.mrk (y.A 1) rr.n (y.c 1) rr.f rr.kd rr.nx rr.mrk;rw[uq,decide_eq_true rfl]at S;simp only[F2,l7]at S;have S2:=wx W.res.code W.res.had W.res.val (x.A 2) nn (x.c 2) (y.A 2) (y.c 2) ff W.res.key W.res.more;refine en 38 hm hargs Tryz.func15 fun B O a0 Z=>?_
 refine wp_seq (rg O a6 [2,3] [2,3] [] Z fun X0 _ _ Z=>?_);apply wp_seq;refine rg O a6 [4] [] [(24,.r fun _=>.bool (.v true)),(31,.r fun _=>.bool .tt)] Z (hob:=by intro X;subst O;simp only[b7,Ob.holds,BE.den]<;>and_intros<;>repeat first|trivial|rfl|exact f7 (Kk:=noK) _ _ _ _|exact S|exact S2|exact(fun _ _=>by kernel_rfl)|refine⟨?_,?_⟩|intro h|exact Int.le_refl _|decide|omega) fun X1 _ _ Z=>?_
 refine wp_ret ((rsi O a6 Z f8 (he:=?_)));subst O;refine Sim.bool ?_;simp[std,a8,BE.den,mE,aq]
abbrev T6:AV:=.agg [.int .i64 0,.int .u64 0,.int .i64 0,.int .u64 0,.bool .ff,.int .i64 0,.sl none none 0 0 2 (fun _=>[]),.int .i64 0,.int .u64 0,.int .u64 0]
theorem LOk.zero{l:Lab}(h:LOk l):l.len=0↔l=D6:=by
 obtain⟨_,_,h3⟩:=r7 h.isl
 constructor
 .intro h0
  obtain⟨a,b⟩:=l;dsimp only at h0 h3;subst h0;have hu:=h.u;unfold U64 at hu;dsimp only at hu;have:A6 b.toNat (0:Int).toNat=0:=by
   show b.toNat / 2^64*2^64=0
   rw[Nat.div_eq_of_lt (by omega),Nat.zero_mul]
  rw[this]at h3;simp at h3;rw[<-h3]
 intro h0;rw[h0]
theorem BX(k0 b:Nat)(J:i5)(hJ:j0 J)(E:r9)(hE:E.n<=1000000)(N:Nat)(p:Pst)(hR:Rel E N p)(hp:f9 p)(hn:p.n<=1000000)(l:Lab)(v:Int):u3 119 k0 b J E N p [f4 l,.int .u64 v,qa] (fun d=>.bool (.v d)) (.bool .ff) (P3 (J.budget-E.n) l v lz p):=
 u3.re (bN 0 b J hJ E hE N p hR hp hn l v ⟨none,0,lz.rn⟩) ⟨zr,zr,Sim.agg ⟨zr,J0,zr,zr,zr,trivial⟩,trivial⟩
theorem Hq{n:Int}(h:ofE n=0)(h0:0<=n):n<=64:=by
 unfold ofE at h
 split at h
 .cases h
 omega
theorem Hp{n:Int}(h:¬ofE n=0)(h0:0<=n):64<n:=by
 unfold ofE at h
 split at h
 .omega
 exact absurd rfl h
theorem BA(b:Nat)(J:i5)(hJ:j0 J)(E:r9)(hE:E.n<=1000000)(N:Nat)(p:Pst)(hR:Rel E N p)(hp:f9 p)(hn:p.n<=1000000)(key:Int)(hk:U64 key)(l:Lab)(hl:LOk l)(n:Nat)(hf:p.n<n):u3 152 0 b J E N p [.int .u64 key,f4 l] (L9) (T6) (C8 J.bucket (J.budget-E.n) key n l p):=by
 intro m w hm hargs hpre;have hN0:N=E.n-p.n:=by have:=hR.n;omega
 have SN:=eZ;simp only[f4,B9]at SN;refine enX 70 hm hpre hargs Tryz.func152 fun B O a0 Z=>?_
 refine wp_seq (rg O a6 [0,1,5,6] [0,5,6] [] Z fun X0 _ _ Z=>?_);refine wp_seq (wp_block (l5 (ι:=LSt×Lab) (fun q=>[]) (fun q=>[(0,⟨b,147,lsC J E q.1⟩),(5,⟨(X0 0).b,24,[.int .i64 q.2.len,.int .u64 q.2.bits]⟩)]) (fun q=>[]) (fun q=>match q.1 with| .go a r M=>C8 J.bucket (J.budget-E.n) key n l p=C8 J.bucket (J.budget-E.n) key a q.2 r/\f9 r/\r.n<=1000000/\Rel E M r/\r.n<a/\r.n<=p.n/\LOk q.2| .dn r M=>False| .sp M Q u=>∃(X:i8) (wq:Wq) (pp:Pst),C8 J.bucket (J.budget-E.n) key n l p = .stop wq pp/\M=E.n-pp.n/\Q=wqA X wq/\u=pp.note) (fun q=>lsM q.1) (.go n p N,l) ⟨rfl,hp,hn,hR,(by skip;omega),(by skip;omega),hl⟩ Z ?_))
 rintro q hJ _ _ Z
 rcases q with⟨⟨nn0,p0,N0⟩|⟨p9,N9⟩|⟨N0,Q0,t0⟩,l0⟩
 .dsimp only[lsC,lsB]at hJ Z
  obtain⟨hrun0,hp0,hn0,hR0,hf0,hle0,hl0⟩:=hJ;obtain⟨m0,rfl⟩:∃n2,nn0=n2+1:=⟨nn0-1,by omega⟩
  have hN0:N0=E.n-p0.n:=by have:=hR0.n;omega
  refine wp_seq (wp_seq (rg O a6 [14,0,1,5,6] [0,5,6] [] Z fun X1 _ _ Z=>?_));refine j1 Z rfl (fun Z=>?_);refine wp_skip (wp_block (wp_seq ?_))
  rcases(K2 0 b J hJ E hE N0 p0 hR0 hp0 hn0 l0).two (i7 _ _ _) hp0 hn0 hR0 with⟨g2,p2,N2,hm2,hs2,hp2,hn2,hR2,hN2,S2⟩|⟨wq2,p2,N2,W2,hm2,hs2,hN2,hW2,S2⟩
  .have hl2:=u7 hm2
   have hg2:=hp0.get hm2;have hr2:=hp0.getR hm2;have O1:=S2;refine rg O a6 [0,1,5,6,7] [0,5,6,7] [(2,lc J E (u5 g2) N2 p2)] Z fun X2 _ _ Z=>?_
   refine wp_seq (wp_seq (rg O a6 [21,0,1,5,6,7] [0,5,6,7] [] Z fun X3 _ _ Z=>?_));refine j3 Z rfl (fun Z=>?_);refine wp_skip (wp_seq (wp_seq (rg O a6 [25,0,1,5,6,7] [0,5,6,7] [] Z fun X5 _ _ Z=>?_)));apply a7 Z rfl<;>intro hb Z
   .have hh:g2.has=false:=by
     have h9:(!g2.has)=true:=by subst O;exact hb
     simpa using h9
    refine wp_seq (wp_seq (rg O a6 [28,0,1,5,6,7] [0,5,6,7] [] Z fun X6 _ _ Z=>?_));apply a7 Z rfl<;>intro hb Z
    .have h0:l0.len=0:=by subst O;simpa[std,a8]using hb
     have tz:=hl0.zero.1 h0;subst tz
     rcases(BX 0 b J hJ E hE N2 p2 hR2 hp2 hn2 D6 g2.ver).two (l6 _ _ _ _ _) hp2 hn2 hR2 with⟨d7,p7,N7,hm7,hs7,hp7,hn7,hR7,hN7,S7⟩|⟨wq7,p7,N7,W7,hm7,hs7,hN7,hW7,S7⟩
     .have O1:=SN
      have O2:=S7;refine drg O a6 [0,1,5,6] [0,5,6] [(4,.r fun _=>.agg [.int .i64 (-1),.int .u64 0]),(6,lc J E (.bool (.v d7)) N7 p7)] Z fun X7 _ _ Z=>?_
      refine wp_seq (rg O a6 [0,1,5,6] [0,5,6] [] Z fun X8 _ _ Z=>?_);replace Z:=Z.keep [0,1,5,6] [0,5,6];exact wp_exit (⟨(.go m0 p7 N7,D6),⟨by rw[hrun0];simp[C8,Rs.bind,hrun0,C8,hm2,gk,hh,hm7],hp7,hn7,hR7,(by have:=hf0;have:=hle0;have:=hl2;have:=hs7.le;omega),(by have:=hf0;have:=hle0;have:=hl2;have:=hs7.le;omega),R7⟩,by simp[lsM],Z⟩)
     have O1:=SN;have O2:=S7;refine drg O a6 [0,1,5,6] [0,5,6] [(4,.r fun _=>.agg [.int .i64 (-1),.int .u64 0]),(6,sc J E (.bool .ff) N7 W7 p7.note)] Z fun X7 _ _ Z=>?_
     refine wp_seq (rg O a6 [0,1,5,6] [0,5,6] [] Z fun X8 _ _ Z=>?_);replace Z:=Z.keep [0,1,5,6] [0,5,6];exact wp_exit (⟨(.sp N7 (W7 (X7 6)) p7.note,D6),⟨(X7 6),wq7,p7,by simp[Rs.bind,hrun0,C8,hm2,gk,hh,hm7],hN7,(hW7 _),rfl⟩,by simp[lsM],Z⟩)
    have h0:¬l0.len=0:=by subst O;simpa[std,a8]using hb
    have tz:¬l0=D6:=fun h=>h0 (hl0.zero.2 h)
    refine wp_skip (wp_seq (rg O a6 [0,1,5,6] [0,5,6] [] Z fun X8 _ _ Z=>?_));replace Z:=Z.keep [0,1,5,6] [0,5,6];exact wp_exit (⟨(.go m0 p2 N2,D6),⟨by rw[hrun0];simp[C8,Rs.bind,hrun0,C8,hm2,gk,hh,tz],hp2,hn2,hR2,(by have:=hf0;have:=hle0;have:=hl2;omega),(by have:=hf0;have:=hle0;have:=hl2;omega),R7⟩,by simp[lsM],Z⟩)
   have hh:g2.has=true:=by
    have h9:(!g2.has)=false:=by subst O;exact hb
    simpa using h9
   refine wp_skip (wp_seq (rg O a6 [0,1,5,6,7,39] [0,5,6,7] [] Z fun X9 _ _ Z=>?_));refine wp_block (wp_seq (rg O a6 [44,0,1,5,6,7,39] [0,5,6,7] [] Z fun X11 _ _ Z=>?_));apply a7 Z rfl<;>intro hb Z
   .have k1:g2.x.r.kd=1:=by subst O;simpa[std,a8]using hb
    refine wp_seq (rg O a6 [6] [0,6] [] Z fun X12 _ _ Z=>?_);exact wp_ret ((rgo O a6 Z (v:=(⟨l0,g2⟩:Spt)) (q:=p2) (by simp[Rs.bind,hrun0,C8,hm2,gk,hh,k1]) hN2).1)
   have k1:¬g2.x.r.kd=1:=by subst O;simpa[std,a8]using hb
   refine wp_seq (rg O a6 [49,0,1,5,6,7,39] [0,5,6,7] [] Z fun X13 _ _ Z=>?_);apply a7 Z rfl<;>intro hb Z
   .have k2:g2.x.r.kd=2:=by subst O;simpa[std,a8]using hb
    have h0l:=r7 hl0.isl;have S14:=Di key (l0.len+1) hk;simp only[f4]at S14;have e1:IntKind.i64.wrap (l0.len+1)=l0.len+1:=o8 (by omega) (by omega);have hk9:=iX hk (l0.len+1);obtain⟨k,hk_⟩:=eqv (ofV key (l0.len+1));rw[<-hk_]at S14 hk9;obtain⟨ke,hke⟩:=eqv (ofE (l0.len+1));rw[<-hke]at S14;rw[<-e1]at S14;have O1:=S14;refine wp_seq (rg O a6 [0,1,5,6,8,9] [0,5,6,8] [(4,.r fun _=>.tup [.agg [.int .i64 k.len,.int .u64 k.bits],.int .i64 ke])] Z fun X14 _ _ Z=>?_);refine wp_seq (rg O a6 [0,1,5,6,9] [0,5,6] [] Z fun X15 _ _ Z=>?_);refine wp_seq (rg O a6 [61,0,1,5,6] [0,5,6] [] Z fun X16 _ _ Z=>?_);apply a7 Z rfl<;>intro hb Z
    .have he:¬ke=0:=by subst O;simpa[std,a8]using hb
     have h64:¬l0.len<64:=by
      have:=Hp (by rw[<-hke];exact he) (by omega);omega
     refine rg O a6 [0,1,5,6] [0,5,6] [] Z fun X17 _ _ Z=>?_
     replace Z:=Z.keep [0,1,5,6] [0,5,6];exact⟨(.go m0 p2 N2,D6),⟨by rw[hrun0];simp[C8,Rs.bind,hrun0,C8,hm2,gk,hh,k1,k2,<-hk_,h64],hp2,hn2,hR2,(by have:=hf0;have:=hle0;have:=hl2;omega),(by have:=hf0;have:=hle0;have:=hl2;omega),R7⟩,by simp[lsM],Z⟩
    have he:ke=0:=by subst O;simpa[std,a8]using hb
    have h64:l0.len<64:=by
     have:=Hq (by rw[<-hke];exact he) (by omega);omega
    replace Z:=Z.keep [0,1,5,6] [0,5,6];exact wp_skip (⟨(.go m0 p2 N2,k),⟨by rw[hrun0];simp[C8,Rs.bind,hrun0,C8,hm2,gk,hh,k1,k2,<-hk_,h64],hp2,hn2,hR2,(by have:=hf0;have:=hle0;have:=hl2;omega),(by have:=hf0;have:=hle0;have:=hl2;omega),hk9⟩,by simp[lsM],Z⟩)
   have k2:¬g2.x.r.kd=2:=by subst O;simpa[std,a8]using hb
   refine wp_seq (rg O a6 [63,0,1,5,6,7] [0,5,6,7] [] Z fun X18 _ _ Z=>?_);apply a7 Z rfl<;>intro hb Z
   .have k5:g2.x.r.kd=5:=by subst O;simpa[std,a8]using hb
    apply wp_seq
    rcases(yp m0 0 b J hJ E hE N2 p2 hR2 hp2 hn2 l0 hl0 (by have:=hf0;have:=hle0;have:=hl2;omega)).two (E8 _ _ _ _ _) hp2 hn2 hR2 with⟨v19,p19,N19,hm19,hs19,hp19,hn19,hR19,hN19,S19⟩|⟨wq19,p19,N19,W19,hm19,hs19,hN19,hW19,S19⟩
    .have O1:=S19
     refine rg O a6 [0,1,5,6] [0,5,6] [(2,lc J E (i4) N19 p19)] Z fun X19 _ _ Z=>?_
     refine rg O a6 [0,1,5,6] [0,5,6] [] Z fun X20 _ _ Z=>?_
     replace Z:=Z.keep [0,1,5,6] [0,5,6];exact⟨(.go m0 p19 N19,D6),⟨by rw[hrun0];simp[C8,Rs.bind,hrun0,C8,hm2,gk,hh,k1,k2,k5,hm19],hp19,hn19,hR19,(by have:=hf0;have:=hle0;have:=hl2;have:=hs19.le;omega),(by have:=hf0;have:=hle0;have:=hl2;have:=hs19.le;omega),R7⟩,by simp[lsM],Z⟩
    have O1:=S19;refine rg O a6 [0,1,5,6] [0,5,6] [(2,sc J E (i4) N19 W19 p19.note)] Z fun X19 _ _ Z=>?_
    refine rg O a6 [0,1,5,6] [0,5,6] [] Z fun X20 _ _ Z=>?_
    replace Z:=Z.keep [0,1,5,6] [0,5,6];exact⟨(.sp N19 (W19 (X19 2)) p19.note,D6),⟨(X19 2),wq19,p19,by simp[Rs.bind,hrun0,C8,hm2,gk,hh,k1,k2,k5,hm19],hN19,(hW19 _),rfl⟩,by simp[lsM],Z⟩
   have k5:¬g2.x.r.kd=5:=by subst O;simpa[std,a8]using hb
   have t34:g2.x.r.kd=3 \/ g2.x.r.kd=4:=by have:=hr2.kd hh;omega
   rcases(oQ m0 0 b J hJ E hE N2 p2 hR2 hp2 hn2 l0 hl0 g2 hg2 hh (by have:=hf0;have:=hle0;have:=hl2;omega)).two (F9 _ _ _ _ _ _) hp2 hn2 hR2 with⟨v10,p10,N10,hm10,hs10,hp10,hn10,hR10,hN10,S10⟩|⟨wq10,p10,N10,W10,hm10,hs10,hN10,hW10,S10⟩
   .have O1:=S10
    refine rg O a6 [0,1,5,6] [0,5,6] [(3,lc J E (i4) N10 p10)] Z fun X10 _ _ Z=>?_
    replace Z:=Z.keep [0,1,5,6] [0,5,6];exact⟨(.go m0 p10 N10,l0),⟨by rw[hrun0];simp[C8,Rs.bind,hrun0,C8,hm2,gk,hh,k1,k2,k5,t34,hm10],hp10,hn10,hR10,(by have:=hf0;have:=hle0;have:=hl2;have:=hs10.le;omega),(by have:=hf0;have:=hle0;have:=hl2;have:=hs10.le;omega),hl0⟩,by simp[lsM],Z⟩
   have O1:=S10;refine rg O a6 [0,1,5,6] [0,5,6] [(3,sc J E (i4) N10 W10 p10.note)] Z fun X10 _ _ Z=>?_
   replace Z:=Z.keep [0,1,5,6] [0,5,6];exact⟨(.sp N10 (W10 (X10 3)) p10.note,l0),⟨(X10 3),wq10,p10,by simp[Rs.bind,hrun0,C8,hm2,gk,hh,k1,k2,k5,t34,hm10],hN10,(hW10 _),rfl⟩,by simp[lsM],Z⟩
  have O1:=S2;refine rg O a6 [0,1,5,6,7] [0,5,6,7] [(2,sc J E (.agg [.int .i64 0,.int .u64 0,.bool .ff,.int .i64 0,.sl none none 0 0 2 (fun _=>[]),.int .i64 0,.int .u64 0,.int .u64 0]) N2 W2 p2.note)] Z fun X2 _ _ Z=>?_
  refine wp_seq (wp_seq (rg O a6 [21,0,1,5,6,7] [0,5,6,7] [] Z fun X3 _ _ Z=>?_));refine j1 Z rfl (fun Z=>?_);refine wp_seq (rg O a6 [6] [0,6] [] Z fun X4 _ _ Z=>?_);exact wp_ret ((rst O a6 Z (q:=p2) (wq:=wq2) (X2 2) (by simp[Rs.bind,hrun0,C8,hm2]) hN2 (hW2 _)).1)
 .exact (hJ:False).elim
 dsimp only[lsC,lsB]at hJ Z;obtain⟨X0,wq0,pp0,hsp0,hN0,hW0,ht0⟩:=hJ;subst ht0;refine wp_seq (wp_seq (rg O a6 [14,0,1,5,6] [0,5,6] [] Z fun X1 _ _ Z=>?_));refine j3 Z rfl (fun Z=>?_);refine wp_exit (wp_seq (rg O a6 [6] [0,6] [] Z fun X21 _ _ Z=>?_));exact wp_ret ((rst O a6 Z (q:=pp0) (wq:=wq0) X0 (hsp0) hN0 hW0).1)
theorem rU(k0 b:Nat)(J:i5)(hJ:j0 J)(E:r9)(hE:E.n<=1000000)(N:Nat)(p:Pst)(hR:Rel E N p)(hp:f9 p)(hn:p.n<=1000000)(key:Int)(hk:U64 key)(l:Lab)(hl:LOk l)(n:Nat)(hf:p.n<n):u3 152 k0 b J E N p [.int .u64 key,f4 l] (L9) (T6) (C8 J.bucket (J.budget-E.n) key n l p):=u3.re (BA b J hJ E hE N p hR hp hn key hk l hl n hf) (by repeat(first|exact trivial|refine⟨zr,?_⟩))
theorem BB(b:Nat)(J:i5)(E:r9)(hE:E.n<=1000000)(N:Nat)(q:A8)(t:Nt)(key:Int)(l:Lab):L5 152 0 b J E N q t [.int .u64 key,f4 l] (T6):=by
 intro m w hm hargs hpre;refine enX 70 hm hpre hargs Tryz.func152 fun B O a0 Z=>?_
 refine wp_seq (rg O a6 [0,1,5,6] [0,5,6] [] Z fun X0 _ _ Z=>?_);refine wp_seq (wp_block (wp_loop_rounds 2 (C3 (wp_seq (wp_seq (rg O a6 [14,0,1,5,6] [0,5,6] [] Z fun X1 _ _ Z=>?_))))));refine j3 Z rfl (fun Z=>?_);refine wp_exit (wp_seq (rg O a6 [6] [0,6] [] Z fun X21 _ _ Z=>?_));exact wp_ret ((rdd O a6 Z).1)
theorem FG(k0 b:Nat)(J:i5)(E:r9)(hE:E.n<=1000000)(N:Nat)(q:A8)(t:Nt)(key:Int)(l:Lab):L5 152 k0 b J E N q t [.int .u64 key,f4 l] (T6):=L5.re (BB b J E hE N q t key l) (by repeat(first|exact trivial|refine⟨zr,?_⟩))
theorem FM(b:Nat)(J:i5)(hJ:j0 J)(E:r9)(hE:E.n<=1000000)(N:Nat)(p:Pst)(hR:Rel E N p)(hp:f9 p)(hn:p.n<=1000000)(key:Int)(hk:U64 key)(l:Lab)(hl:LOk l)(n:Nat)(hf:p.n<n):u3 116 0 b J E N p [.int .u64 key,f4 l] (L9) (T6) (C8 J.bucket (J.budget-E.n) key n l p):=by
 intro m w hm hargs hpre;have hN0:N=E.n-p.n:=by have:=hR.n;omega
 refine enX 13 hm hpre hargs Tryz.func116 fun B O a0 Z=>?_
 refine wp_seq (rg O a6 [0,1,5,6] [0,5,6] [] Z fun X0 _ _ Z=>?_);apply wp_seq
 rcases(rU 0 b J hJ E hE N p hR hp hn key hk l hl n hf).two (J6 _ _ _ _ _ _) hp hn hR with⟨s1,p1,N1,hm1,hs1,hp1,hn1,hR1,hN1,S1⟩|⟨wq1,p1,N1,W1,hm1,hs1,hN1,hW1,S1⟩
 .have O1:=S1
  refine rg O a6 [6,7] [0,6,7] [(3,lc J E (L9 s1) N1 p1)] Z fun X1 _ _ Z=>?_
  refine wp_seq (rg O a6 [6] [0,6] [] Z fun X2 _ _ Z=>?_);exact wp_ret ((rgo O a6 Z (v:=s1) (q:=p1) (by simp[Rs.bind,hm1]) hN1).1)
 have O1:=S1;refine rg O a6 [6,7] [0,6,7] [(3,sc J E (T6) N1 W1 p1.note)] Z fun X1 _ _ Z=>?_
 refine wp_seq (rg O a6 [6] [0,6] [] Z fun X2 _ _ Z=>?_);exact wp_ret ((rst O a6 Z (q:=p1) (wq:=wq1) (X1 3) (by simp[Rs.bind,hm1]) hN1 (hW1 _)).1)
theorem HY(k0 b:Nat)(J:i5)(hJ:j0 J)(E:r9)(hE:E.n<=1000000)(N:Nat)(p:Pst)(hR:Rel E N p)(hp:f9 p)(hn:p.n<=1000000)(key:Int)(hk:U64 key)(l:Lab)(hl:LOk l)(n:Nat)(hf:p.n<n):u3 116 k0 b J E N p [.int .u64 key,f4 l] (L9) (T6) (C8 J.bucket (J.budget-E.n) key n l p):=u3.re (FM b J hJ E hE N p hR hp hn key hk l hl n hf) (by repeat(first|exact trivial|refine⟨zr,?_⟩))
def rv(k:Int)(l:Lab)(p:Pst):Bool:=match K0 k (G1 l) p with
 | .stop .. =>true
 | .ok .. =>false
theorem xL{bk k:Int}{n:Nat}{l:Lab}{p q:Pst}{b:Bool}(h:bG bk k n l p = .ok b q)(hl:l.len=0):b=true:=by
 unfold bG at h;have:¬G4 l=0:=by
  unfold G4;rw[if_pos hl]
  split<;>decide
 rw[if_neg this]at h;injection h with h _
 exact h.symm
theorem Bz(b:Nat)(J:i5)(hJ:j0 J)(E:r9)(hE:E.n<=1000000)(N:Nat)(p:Pst)(hR:Rel E N p)(hp:f9 p)(hn:p.n<=1000000)(l:Lab)(hl:LOk l)(n:Nat)(hf:p.n<n):u3 219 0 b J E N p [f4 l] (fun b:Bool=>.bool (.v b)) (.bool (.v (rv (J.budget-E.n) l p))) (bG J.bucket (J.budget-E.n) n l p):=by
 intro m w hm hargs hpre;have hN0:N=E.n-p.n:=by have:=hR.n;omega
 have SP:=kU l hl.u;simp only[f4]at SP;obtain⟨up,hup⟩:=eqv (G1 l);rw[<-hup]at SP;obtain⟨ue,hue⟩:=eqv (G4 l);rw[<-hue]at SP;refine enX 31 hm hpre hargs Tryz.func219 fun B O a0 Z=>?_
 refine wp_seq (rg O a6 [0,3] [0,3] [] Z fun X0 _ _ Z=>?_);have O1:=SP;refine wp_seq (rg O a6 [0,3,5,6] [0,3,5] [(1,.r fun _=>.tup [.agg [.int .i64 up.len,.int .u64 up.bits],.int .i64 ue])] Z fun X1 _ _ Z=>?_);refine wp_seq (wp_seq (rg O a6 [14,0,3,5] [0,3,5] [] Z fun X2 _ _ Z=>?_));apply a7 Z rfl<;>intro hb Z
 .have t0:¬ue=0:=by subst O;simpa[std,a8]using hb
  refine wp_seq (rg O a6 [4] [0] [] Z fun X3 _ _ Z=>?_);exact wp_ret ((rgo O a6 Z (v:=true) (q:=p) (by simp[bG,<-hup,<-hue,Rs.bind,t0]) hN0).1)
 have t0:ue=0:=by subst O;simpa[std,a8]using hb
 refine wp_skip (wp_seq ?_)
 rcases(K2 0 b J hJ E hE N p hR hp hn up).two (i7 _ _ _) hp hn hR with⟨q4,p4,N4,hm4,hs4,hp4,hn4,hR4,hN4,S4⟩|⟨wq4,p4,N4,W4,hm4,hs4,hN4,hW4,S4⟩
 .have hl4:=u7 hm4
  have hg4:=hp.get hm4;have O1:=S4;refine rg O a6 [0,3,7] [0,3,7] [(2,lc J E (u5 q4) N4 p4)] Z fun X4 _ _ Z=>?_
  obtain⟨r2,hr2⟩:=eqv (gk q4 2);obtain⟨r3,hr3⟩:=eqv (gk q4 3);obtain⟨r4,hr4⟩:=eqv (gk q4 4);refine wp_seq (wp_seq ?_);refine rg O a6 [27,0,3] [0,3] [(1,.r fun _=>.bool (.v r2)),(4,.r fun _=>.bool (.v r3)),(8,.r fun _=>.bool (.v r4))] Z (hob:=by intro X;subst O;simp only[b7,Ob.holds,BE.den]<;>and_intros<;>repeat first|trivial|rfl|exact(by rw[hr2];exact B2 q4 2)|exact by rw[hr2];exact B2 q4 2|exact(by rw[hr3];exact B2 q4 3)|exact by rw[hr3];exact B2 q4 3|exact(by rw[hr4];exact B2 q4 4)|exact by rw[hr4];exact B2 q4 4|exact(fun _ _=>by kernel_rfl)|refine⟨?_,?_⟩|intro h|exact Int.le_refl _|decide|omega) fun X5 _ _ Z=>?_
  apply a7 Z rfl<;>intro hb Z
  .have tr:(gk q4 2||gk q4 3||gk q4 4)=true:=by
    have h9:(if(if r2=true then true else r3)=true then true else r4)=true:=by subst O;exact hb
    rw[<-hr2,<-hr3,<-hr4,<-h9];cases r2<;>cases r3<;>rfl
   apply wp_seq
   rcases(yp n 0 b J hJ E hE N4 p4 hR4 hp4 hn4 l hl (by have:=hl4;omega)).two (E8 _ _ _ _ _) hp4 hn4 hR4 with⟨v6,p6,N6,hm6,hs6,hp6,hn6,hR6,hN6,S6⟩|⟨wq6,p6,N6,W6,hm6,hs6,hN6,hW6,S6⟩
   .have O1:=S6
    refine rg O a6 [] [0] [(2,lc J E (i4) N6 p6)] Z fun X6 _ _ Z=>?_
    refine wp_seq (rg O a6 [4] [0] [] Z fun X7 _ _ Z=>?_);exact wp_ret ((rgo O a6 Z (v:=false) (q:=p6) (by simp[bG,<-hup,<-hue,Rs.bind,t0,hm4,tr,hm6]) hN6).1)
   have O1:=S6;refine rg O a6 [] [0] [(2,sc J E (i4) N6 W6 p6.note)] Z fun X6 _ _ Z=>?_
   refine wp_seq (rg O a6 [4] [0] [] Z fun X7 _ _ Z=>?_);refine wp_ret ((rst O a6 Z (q:=p6) (wq:=wq6) (X6 2) (by simp[bG,<-hup,<-hue,Rs.bind,t0,hm4,tr,hm6]) hN6 (hW6 _) (he:=?_)).1);rw[show rv (J.budget-E.n) l p=false by unfold rv;rw[<-hup,hm4]];subst O;exact zr
  have tr:(gk q4 2||gk q4 3||gk q4 4)=false:=by
   have h9:(if(if r2=true then true else r3)=true then true else r4)=false:=by subst O;exact hb
   rw[<-hr2,<-hr3,<-hr4,<-h9];cases r2<;>cases r3<;>rfl
  refine wp_skip (wp_seq (rg O a6 [4] [0] [] Z fun X8 _ _ Z=>?_));exact wp_ret ((rgo O a6 Z (v:=true) (q:=p4) (by simp[bG,<-hup,<-hue,Rs.bind,t0,hm4,tr]) hN4).1)
 have O1:=S4;refine rg O a6 [0,3,7] [0,3,7] [(2,sc J E (.agg [.int .i64 0,.int .u64 0,.bool .ff,.int .i64 0,.sl none none 0 0 2 (fun _=>[]),.int .i64 0,.int .u64 0,.int .u64 0]) N4 W4 p4.note)] Z fun X4 _ _ Z=>?_
 refine wp_seq (wp_seq ?_);refine rg O a6 [27,0,3] [0,3] [(1,.r fun _=>.bool .ff),(4,.r fun _=>.bool .ff),(8,.r fun _=>.bool .ff)] Z (hob:=by intro X;subst O;simp only[b7,Ob.holds,BE.den]<;>and_intros<;>repeat first|trivial|rfl|exact gl _|exact(fun _ _=>by kernel_rfl)|refine⟨?_,?_⟩|intro h|exact Int.le_refl _|decide|omega) fun X5 _ _ Z=>?_
 refine j3 Z rfl (fun Z=>?_);refine wp_skip (wp_seq (rg O a6 [4] [0] [] Z fun X8 _ _ Z=>?_));refine wp_ret ((rst O a6 Z (q:=p4) (wq:=wq4) (X4 2) (by simp[bG,<-hup,<-hue,Rs.bind,t0,hm4]) hN4 (hW4 _) (he:=?_)).1);rw[show rv (J.budget-E.n) l p=true by unfold rv;rw[<-hup,hm4]];subst O;exact zr
theorem FE(k0 b:Nat)(J:i5)(hJ:j0 J)(E:r9)(hE:E.n<=1000000)(N:Nat)(p:Pst)(hR:Rel E N p)(hp:f9 p)(hn:p.n<=1000000)(l:Lab)(hl:LOk l)(n:Nat)(hf:p.n<n):u3 219 k0 b J E N p [f4 l] (fun b:Bool=>.bool (.v b)) (.bool (.v (rv (J.budget-E.n) l p))) (bG J.bucket (J.budget-E.n) n l p):=u3.re (Bz b J hJ E hE N p hR hp hn l hl n hf) (by repeat(first|exact trivial|refine⟨zr,?_⟩))
theorem Ca(b:Nat)(J:i5)(hJ:j0 J)(E:r9)(hE:E.n<=1000000)(N:Nat)(p:Pst)(hR:Rel E N p)(hp:f9 p)(hn:p.n<=1000000)(key:Int)(hk:U64 key)(n:Nat)(hf:p.n<n):u3 153 0 b J E N p [.int .u64 key] (L9) (T6) (D7 J.bucket (J.budget-E.n) key n 0 64 p):=by
 intro m w hm hargs hpre;have hN0:N=E.n-p.n:=by have:=hR.n;omega
 refine enX 75 hm hpre hargs Tryz.func153 fun B O a0 Z=>?_
 refine wp_seq (rg O a6 [0,1,4] [0,4] [] Z fun X0 _ _ Z=>?_);refine wp_seq (rg O a6 [5,0,1,4] [0,4] [] Z fun X1 _ _ Z=>?_);refine wp_seq (rg O a6 [5,6,0,1,4] [0,4] [] Z fun X2 _ _ Z=>?_);refine wp_seq (wp_block (l5 (ι:=LSt×Int×Int) (fun q=>[(5,.int .i64 q.2.1),(6,.int .i64 q.2.2)]) (fun q=>[(0,⟨b,147,lsC J E q.1⟩)]) (fun q=>[]) (fun q=>match q.1 with| .go a r M=>D7 J.bucket (J.budget-E.n) key n 0 64 p=D7 J.bucket (J.budget-E.n) key a q.2.1 q.2.2 r/\f9 r/\r.n<=1000000/\Rel E M r/\r.n<a/\r.n<=p.n/\0<=q.2.1/\q.2.1<=65/\-1<=q.2.2/\q.2.2<=64| .dn r M=>False| .sp M Q u=>∃(X:i8) (wq:Wq) (pp:Pst),D7 J.bucket (J.budget-E.n) key n 0 64 p = .stop wq pp/\M=E.n-pp.n/\Q=wqA X wq/\u=pp.note) (fun q=>lsM q.1) (.go n p N,0,64) ⟨rfl,hp,hn,hR,(by skip;omega),(by skip;omega),(by dsimp only;omega),(by dsimp only;omega),(by dsimp only;omega),(by dsimp only;omega)⟩ Z ?_))
 rintro q hJ _ _ Z
 rcases q with⟨⟨nn0,p0,N0⟩|⟨p9,N9⟩|⟨N0,Q0,t0⟩,lo0,hi0⟩
 .dsimp only[lsC,lsB]at hJ Z
  obtain⟨hrun0,hp0,hn0,hR0,hf0,hle0,ha0,ha1,hb0,hb1⟩:=hJ;obtain⟨m0,rfl⟩:∃n2,nn0=n2+1:=⟨nn0-1,by omega⟩
  have hN0:N0=E.n-p0.n:=by have:=hR0.n;omega
  refine wp_seq (wp_seq (rg O a6 [21,0,1,4,5,6] [0,4] [] Z fun X3 _ _ Z=>?_));apply a7 Z rfl<;>intro hb Z
  .have tl:lo0<=hi0:=by subst O;simpa[std,a8,BE.den]using hb
   obtain⟨md,hmd⟩:=eqv ((lo0+hi0) / 2);have hm0:0<=md/\md<=64:=by omega
   have e3:iO .quo .i64 (o9 .add .i64 lo0 hi0) 2=md:=by
    show IntKind.i64.wrap (Int.tdiv (IntKind.i64.wrap (lo0+hi0)) 2)=md
    rw[o8 (x:=lo0+hi0) (by omega) (by omega),Int.tdiv_eq_ediv_of_nonneg (by omega),<-hmd];exact o8 (by omega) (by omega)
   have e9:o9 .add .i64 md 1=md+1:=o8 (by omega) (by omega);have e13:o9 .sub .i64 md 1=md-1:=o8 (by omega) (by omega);have S8:=Di key md hk;simp only[f4]at S8;have hk9:=iX hk md;obtain⟨k,hk8⟩:=eqv (ofV key md);rw[<-hk8]at S8 hk9;obtain⟨ke,hke⟩:=eqv (ofE md);rw[<-hke]at S8;refine wp_skip (wp_block (wp_seq (rg O a6 [7,0,1,4,5,6] [0,4] [] Z fun X4 _ _ Z=>?_)));replace Z:=Z.headS (v':=.int .i64 md) (by subst O;exact Sim.of_int e3) rfl;have O1:=S8;refine wp_seq (rg O a6 [0,1,4,5,6,7,8] [0,4,8] [(2,.r fun _=>.tup [.agg [.int .i64 k.len,.int .u64 k.bits],.int .i64 ke])] Z fun X5 _ _ Z=>?_);apply wp_seq
   rcases(K2 0 b J hJ E hE N0 p0 hR0 hp0 hn0 k).two (i7 _ _ _) hp0 hn0 hR0 with⟨g6,p6,N6,hm6,hs6,hp6,hn6,hR6,hN6,S6⟩|⟨wq6,p6,N6,W6,hm6,hs6,hN6,hW6,S6⟩
   .have hl6:=u7 hm6
    have hg6:=hp0.get hm6;have hr6:=hp0.getR hm6;have O1:=S6;refine rg O a6 [0,1,4,5,6,7,8,10] [0,4,8,10] [(2,lc J E (u5 g6) N6 p6)] Z fun X6 _ _ Z=>?_
    refine wp_seq (wp_seq (rg O a6 [38,0,1,4,5,6,7,8,10] [0,4,8,10] [] Z fun X7 _ _ Z=>?_));refine j3 Z rfl (fun Z=>?_);refine wp_skip (wp_seq (wp_seq (rg O a6 [42,0,1,4,5,6,7,8,10] [0,4,8,10] [] Z fun X9 _ _ Z=>?_)));apply a7 Z rfl<;>intro hb Z
    .have hh:g6.has=false:=by
      have h9:(!g6.has)=true:=by subst O;exact hb
      simpa using h9
     refine wp_seq (rg O a6 [0,1,4,5,6] [0,4] [] Z fun X10 _ _ Z=>?_);have e13':B.arith .sub .i64 md 1=md-1:=by subst O;exact e13
     replace Z:=Z.keep [5,6,0,1,4] [0,4];exact wp_exit (⟨(.go m0 p6 N6,lo0,(md-1)),⟨by rw[hrun0];simp[D7,Rs.bind,hrun0,D7,tl,<-hmd,<-hk8,hm6,gk,hh],hp6,hn6,hR6,(by have:=hf0;have:=hle0;have:=hl6;omega),(by have:=hf0;have:=hle0;have:=hl6;omega),(by dsimp only;omega),(by dsimp only;omega),(by dsimp only;omega),(by dsimp only;omega)⟩,by simp[lsM],by dsimp only;rw[<-e13'];exact Z⟩)
    have hh:g6.has=true:=by
     have h9:(!g6.has)=false:=by subst O;exact hb
     simpa using h9
    refine wp_skip (wp_seq (rg O a6 [0,1,4,5,6,7,8,10,47] [0,4,8,10] [] Z fun X11 _ _ Z=>?_));refine wp_block (wp_seq (rg O a6 [52,0,1,4,5,6,7,8,10,47] [0,4,8,10] [] Z fun X13 _ _ Z=>?_));apply a7 Z rfl<;>intro hb Z
    .have k1:g6.x.r.kd=1:=by subst O;simpa[std,a8]using hb
     refine wp_seq (rg O a6 [4] [0,4] [] Z fun X14 _ _ Z=>?_);exact wp_ret ((rgo O a6 Z (v:=(⟨k,g6⟩:Spt)) (q:=p6) (by simp[Rs.bind,hrun0,D7,tl,<-hmd,<-hk8,hm6,gk,hh,k1]) hN6).1)
    have k1:¬g6.x.r.kd=1:=by subst O;simpa[std,a8]using hb
    refine wp_seq (rg O a6 [57,0,1,4,5,6,7,8,10,47] [0,4,8,10] [] Z fun X15 _ _ Z=>?_);apply a7 Z rfl<;>intro hb Z
    .have k2:g6.x.r.kd=2:=by subst O;simpa[std,a8]using hb
     refine rg O a6 [5,0,1,4,6] [0,4] [] Z fun X16 _ _ Z=>?_
     have e9':B.arith .add .i64 md 1=md+1:=by subst O;exact e9
     replace Z:=Z.keep [5,6,0,1,4] [0,4];exact⟨(.go m0 p6 N6,(md+1),hi0),⟨by rw[hrun0];simp[D7,Rs.bind,hrun0,D7,tl,<-hmd,<-hk8,hm6,gk,hh,k1,k2],hp6,hn6,hR6,(by have:=hf0;have:=hle0;have:=hl6;omega),(by have:=hf0;have:=hle0;have:=hl6;omega),(by dsimp only;omega),(by dsimp only;omega),(by dsimp only;omega),(by dsimp only;omega)⟩,by simp[lsM],by dsimp only;rw[<-e9'];exact Z⟩
    have k2:¬g6.x.r.kd=2:=by subst O;simpa[std,a8]using hb
    refine wp_seq (rg O a6 [61,0,1,4,5,6,7,8,10] [0,4,8,10] [] Z fun X17 _ _ Z=>?_);apply a7 Z rfl<;>intro hb Z
    .have k5:g6.x.r.kd=5:=by subst O;simpa[std,a8]using hb
     refine wp_seq (wp_seq ?_)
     rcases(FE 0 b J hJ E hE N6 p6 hR6 hp6 hn6 k hk9 m0 (by have:=hf0;have:=hle0;have:=hl6;omega)).two (gY _ _ _ _ _) hp6 hn6 hR6 with⟨b18,p18,N18,hm18,hs18,hp18,hn18,hR18,hN18,S18⟩|⟨wq18,p18,N18,W18,hm18,hs18,hN18,hW18,S18⟩
     .have O1:=S18
      refine rg O a6 [65,0,1,4,5,6,7] [0,4] [(2,lc J E (.bool (.v b18)) N18 p18)] Z fun X18 _ _ Z=>?_
      apply a7 Z rfl<;>intro hb Z
      .have tb:b18=true:=by exact hb
       refine rg O a6 [6,0,1,4,5,7] [0,4] [] Z fun X19 _ _ Z=>?_
       have e13':B.arith .sub .i64 md 1=md-1:=by subst O;exact e13
       refine wp_seq (rg O a6 [69,0,1,4,5,6] [0,4] [] Z fun X20 _ _ Z=>?_);apply a7 Z rfl<;>intro hb Z
       .have hz:md=0:=by subst O;simpa[std,a8]using hb
        refine rg O a6 [6,0,1,4,5] [0,4] [] Z fun X21 _ _ Z=>?_
        have hz1:md-1 = -1:=by omega
        replace Z:=Z.keep [5,6,0,1,4] [0,4];exact⟨(.go m0 p18 N18,lo0,(-1)),⟨by rw[hrun0];simp[D7,Rs.bind,hrun0,D7,tl,<-hmd,<-hk8,hm6,gk,hh,k1,k2,k5,hm18,tb,hz1],hp18,hn18,hR18,(by have:=hf0;have:=hle0;have:=hl6;have:=hs18.le;omega),(by have:=hf0;have:=hle0;have:=hl6;have:=hs18.le;omega),(by dsimp only;omega),(by dsimp only;omega),(by dsimp only;omega),(by dsimp only;omega)⟩,by simp[lsM],by exact Z⟩
       have hz:¬md=0:=by subst O;simpa[std,a8]using hb
       replace Z:=Z.keep [5,6,0,1,4] [0,4];exact wp_skip (⟨(.go m0 p18 N18,lo0,(md-1)),⟨by rw[hrun0];simp[D7,Rs.bind,hrun0,D7,tl,<-hmd,<-hk8,hm6,gk,hh,k1,k2,k5,hm18,tb],hp18,hn18,hR18,(by have:=hf0;have:=hle0;have:=hl6;have:=hs18.le;omega),(by have:=hf0;have:=hle0;have:=hl6;have:=hs18.le;omega),(by dsimp only;omega),(by dsimp only;omega),(by dsimp only;omega),(by dsimp only;omega)⟩,by simp[lsM],by dsimp only;rw[<-e13'];exact Z⟩)
      have tb:b18=false:=by exact hb
      refine wp_skip (wp_seq (rg O a6 [69,0,1,4,5,6] [0,4] [] Z fun X20 _ _ Z=>?_));apply a7 Z rfl<;>intro hb Z
      .exfalso
       have hz:md=0:=by subst O;simpa[std,a8]using hb
       have hb9:b18=true:=xL hm18 (by rw[hk8,hz];rfl);rw[tb]at hb9;cases hb9
      have hz:¬md=0:=by subst O;simpa[std,a8]using hb
      replace Z:=Z.keep [5,6,0,1,4] [0,4];exact wp_skip (⟨(.go m0 p18 N18,lo0,hi0),⟨by rw[hrun0];simp[D7,Rs.bind,hrun0,D7,tl,<-hmd,<-hk8,hm6,gk,hh,k1,k2,k5,hm18,tb],hp18,hn18,hR18,(by have:=hf0;have:=hle0;have:=hl6;have:=hs18.le;omega),(by have:=hf0;have:=hle0;have:=hl6;have:=hs18.le;omega),(by dsimp only;omega),(by dsimp only;omega),(by dsimp only;omega),(by dsimp only;omega)⟩,by simp[lsM],by exact Z⟩)
     obtain⟨bd,hbd⟩:=eqv (rv (J.budget-E.n) k p6);rw[<-hbd]at S18;have O1:=S18;refine rg O a6 [65,0,1,4,5,6,7] [0,4] [(2,sc J E (.bool (.v bd)) N18 W18 p18.note)] Z fun X18 _ _ Z=>?_
     apply a7 Z rfl<;>intro hb Z
     .skip
      refine rg O a6 [6,0,1,4,5,7] [0,4] [] Z fun X19 _ _ Z=>?_
      have e13':B.arith .sub .i64 md 1=md-1:=by subst O;exact e13
      refine wp_seq (rg O a6 [69,0,1,4,5,6] [0,4] [] Z fun X20 _ _ Z=>?_);apply a7 Z rfl<;>intro hb Z
      .have hz:md=0:=by subst O;simpa[std,a8]using hb
       refine rg O a6 [6,0,1,4,5] [0,4] [] Z fun X21 _ _ Z=>?_
       have hz1:md-1 = -1:=by omega
       replace Z:=Z.keep [5,6,0,1,4] [0,4];exact⟨(.sp N18 (W18 (X18 2)) p18.note,lo0,(-1)),⟨(X18 2),wq18,p18,by simp[Rs.bind,hrun0,D7,tl,<-hmd,<-hk8,hm6,gk,hh,k1,k2,k5,hm18,hz1],hN18,(hW18 _),rfl⟩,by simp[lsM],by exact Z⟩
      have hz:¬md=0:=by subst O;simpa[std,a8]using hb
      replace Z:=Z.keep [5,6,0,1,4] [0,4];exact wp_skip (⟨(.sp N18 (W18 (X18 2)) p18.note,lo0,(md-1)),⟨(X18 2),wq18,p18,by simp[Rs.bind,hrun0,D7,tl,<-hmd,<-hk8,hm6,gk,hh,k1,k2,k5,hm18],hN18,(hW18 _),rfl⟩,by simp[lsM],by dsimp only;rw[<-e13'];exact Z⟩)
     skip
     refine wp_skip (wp_seq (rg O a6 [69,0,1,4,5,6] [0,4] [] Z fun X20 _ _ Z=>?_));apply a7 Z rfl<;>intro hb Z
     .have hz:md=0:=by subst O;simpa[std,a8]using hb
      refine rg O a6 [6,0,1,4,5] [0,4] [] Z fun X21 _ _ Z=>?_
      have hz1:md-1 = -1:=by omega
      replace Z:=Z.keep [5,6,0,1,4] [0,4];exact⟨(.sp N18 (W18 (X18 2)) p18.note,lo0,(-1)),⟨(X18 2),wq18,p18,by simp[Rs.bind,hrun0,D7,tl,<-hmd,<-hk8,hm6,gk,hh,k1,k2,k5,hm18,hz1],hN18,(hW18 _),rfl⟩,by simp[lsM],by exact Z⟩
     have hz:¬md=0:=by subst O;simpa[std,a8]using hb
     replace Z:=Z.keep [5,6,0,1,4] [0,4];exact wp_skip (⟨(.sp N18 (W18 (X18 2)) p18.note,lo0,hi0),⟨(X18 2),wq18,p18,by simp[Rs.bind,hrun0,D7,tl,<-hmd,<-hk8,hm6,gk,hh,k1,k2,k5,hm18],hN18,(hW18 _),rfl⟩,by simp[lsM],by exact Z⟩)
    have k5:¬g6.x.r.kd=5:=by subst O;simpa[std,a8]using hb
    have t34:g6.x.r.kd=3 \/ g6.x.r.kd=4:=by have:=hr6.kd hh;omega
    rcases(oQ m0 0 b J hJ E hE N6 p6 hR6 hp6 hn6 k hk9 g6 hg6 hh (by have:=hf0;have:=hle0;have:=hl6;omega)).two (F9 _ _ _ _ _ _) hp6 hn6 hR6 with⟨v12,p12,N12,hm12,hs12,hp12,hn12,hR12,hN12,S12⟩|⟨wq12,p12,N12,W12,hm12,hs12,hN12,hW12,S12⟩
    .have O1:=S12
     refine rg O a6 [0,1,4,5,6] [0,4] [(3,lc J E (i4) N12 p12)] Z fun X12 _ _ Z=>?_
     replace Z:=Z.keep [5,6,0,1,4] [0,4];exact⟨(.go m0 p12 N12,lo0,hi0),⟨by rw[hrun0];simp[D7,Rs.bind,hrun0,D7,tl,<-hmd,<-hk8,hm6,gk,hh,k1,k2,k5,t34,hm12],hp12,hn12,hR12,(by have:=hf0;have:=hle0;have:=hl6;have:=hs12.le;omega),(by have:=hf0;have:=hle0;have:=hl6;have:=hs12.le;omega),(by dsimp only;omega),(by dsimp only;omega),(by dsimp only;omega),(by dsimp only;omega)⟩,by simp[lsM],by exact Z⟩
    have O1:=S12;refine rg O a6 [0,1,4,5,6] [0,4] [(3,sc J E (i4) N12 W12 p12.note)] Z fun X12 _ _ Z=>?_
    replace Z:=Z.keep [5,6,0,1,4] [0,4];exact⟨(.sp N12 (W12 (X12 3)) p12.note,lo0,hi0),⟨(X12 3),wq12,p12,by simp[Rs.bind,hrun0,D7,tl,<-hmd,<-hk8,hm6,gk,hh,k1,k2,k5,t34,hm12],hN12,(hW12 _),rfl⟩,by simp[lsM],by exact Z⟩
   have O1:=S6;refine rg O a6 [0,1,4,5,6,7,8,10] [0,4,8,10] [(2,sc J E (.agg [.int .i64 0,.int .u64 0,.bool .ff,.int .i64 0,.sl none none 0 0 2 (fun _=>[]),.int .i64 0,.int .u64 0,.int .u64 0]) N6 W6 p6.note)] Z fun X6 _ _ Z=>?_
   refine wp_seq (wp_seq (rg O a6 [38,0,1,4,5,6,7,8,10] [0,4,8,10] [] Z fun X7 _ _ Z=>?_));refine j1 Z rfl (fun Z=>?_);refine wp_seq (rg O a6 [4] [0,4] [] Z fun X8 _ _ Z=>?_);exact wp_ret ((rst O a6 Z (q:=p6) (wq:=wq6) (X6 2) (by simp[Rs.bind,hrun0,D7,tl,<-hmd,<-hk8,hm6]) hN6 (hW6 _)).1)
  have tl:¬lo0<=hi0:=by subst O;simpa[std,a8,BE.den]using hb
  refine wp_exit (wp_seq ?_)
  rcases(rU 0 b J hJ E hE N0 p0 hR0 hp0 hn0 key hk D6 R7 (m0+1) hf0).two (J6 _ _ _ _ _ _) hp0 hn0 hR0 with⟨s22,p22,N22,hm22,hs22,hp22,hn22,hR22,hN22,S22⟩|⟨wq22,p22,N22,W22,hm22,hs22,hN22,hW22,S22⟩
  .have O1:=S22
   refine rg O a6 [4,11] [0,4,11] [(3,lc J E (L9 s22) N22 p22)] Z fun X22 _ _ Z=>?_
   refine wp_seq (rg O a6 [4] [0,4] [] Z fun X23 _ _ Z=>?_);exact wp_ret ((rgo O a6 Z (v:=s22) (q:=p22) (by simp[Rs.bind,hrun0,D7,tl,hm22]) hN22).1)
  have O1:=S22;refine rg O a6 [4,11] [0,4,11] [(3,sc J E (T6) N22 W22 p22.note)] Z fun X22 _ _ Z=>?_
  refine wp_seq (rg O a6 [4] [0,4] [] Z fun X23 _ _ Z=>?_);exact wp_ret ((rst O a6 Z (q:=p22) (wq:=wq22) (X22 3) (by simp[Rs.bind,hrun0,D7,tl,hm22]) hN22 (hW22 _)).1)
 .exact (hJ:False).elim
 dsimp only[lsC,lsB]at hJ Z;obtain⟨X0,wq0,pp0,hsp0,hN0,hW0,ht0⟩:=hJ;subst ht0;refine wp_seq (wp_seq (rg O a6 [21,0,1,4,5,6] [0,4] [] Z fun X3 _ _ Z=>?_));apply a7 Z rfl<;>intro hb Z
 .exfalso
  subst O;revert hb;simp[std,BE.den]
 skip
 have O1:=FG 0 b J E hE N0 Q0 pp0.note key D6;refine wp_exit (wp_seq (rg O a6 [4,11] [0,4,11] [(3,dc J E (T6) N0 Q0 pp0.note)] Z fun X22 _ _ Z=>?_));refine wp_seq (rg O a6 [4] [0,4] [] Z fun X23 _ _ Z=>?_);exact wp_ret ((rst O a6 Z (q:=pp0) (wq:=wq0) X0 (hsp0) hN0 hW0).1)
theorem FR(k0 b:Nat)(J:i5)(hJ:j0 J)(E:r9)(hE:E.n<=1000000)(N:Nat)(p:Pst)(hR:Rel E N p)(hp:f9 p)(hn:p.n<=1000000)(key:Int)(hk:U64 key)(n:Nat)(hf:p.n<n):u3 153 k0 b J E N p [.int .u64 key] (L9) (T6) (D7 J.bucket (J.budget-E.n) key n 0 64 p):=u3.re (Ca b J hJ E hE N p hR hp hn key hk n hf) (by repeat(first|exact trivial|refine⟨zr,?_⟩))
theorem Bt(b:Nat)(J:i5)(hJ:j0 J)(E:r9)(hE:E.n<=1000000)(N:Nat)(p:Pst)(hR:Rel E N p)(hp:f9 p)(hn:p.n<=1000000)(key:Int)(hk:U64 key)(n:Nat)(hf:p.n<n)(hh:J.how=1):u3 94 0 b J E N p [.int .u64 key] (L9) (T6) (C8 J.bucket (J.budget-E.n) key n D6 p):=by
 intro m w hm hargs hpre;have hN0:N=E.n-p.n:=by have:=hR.n;omega
 refine enX 22 hm hpre hargs Tryz.func94 fun B O a0 Z=>?_
 refine wp_seq (rg O a6 [0,1,4] [0,4] [] Z fun X0 _ _ Z=>?_);refine wp_seq (wp_seq (rg O a6 [12,0,1,4] [0,4] [] Z fun X1 _ _ Z=>?_));apply a7 Z rfl<;>intro hb Z
 .skip
  apply wp_seq
  rcases(rU 0 b J hJ E hE N p hR hp hn key hk D6 R7 n hf).two (J6 _ _ _ _ _ _) hp hn hR with⟨s2,p2,N2,hm2,hs2,hp2,hn2,hR2,hN2,S2⟩|⟨wq2,p2,N2,W2,hm2,hs2,hN2,hW2,S2⟩
  .have O1:=S2
   refine rg O a6 [4,5] [0,4,5] [(3,lc J E (L9 s2) N2 p2)] Z fun X2 _ _ Z=>?_
   refine wp_seq (rg O a6 [4] [0,4] [] Z fun X3 _ _ Z=>?_);exact wp_ret ((rgo O a6 Z (v:=s2) (q:=p2) (by simp[Rs.bind,hm2]) hN2).1)
  have O1:=S2;refine rg O a6 [4,5] [0,4,5] [(3,sc J E (T6) N2 W2 p2.note)] Z fun X2 _ _ Z=>?_
  refine wp_seq (rg O a6 [4] [0,4] [] Z fun X3 _ _ Z=>?_);exact wp_ret ((rst O a6 Z (q:=p2) (wq:=wq2) (X2 3) (by simp[Rs.bind,hm2]) hN2 (hW2 _)).1)
 exfalso
 have hc:¬J.how=1:=by subst O;simpa[std,a8]using hb
 exact hc hh
theorem Fw(k0 b:Nat)(J:i5)(hJ:j0 J)(E:r9)(hE:E.n<=1000000)(N:Nat)(p:Pst)(hR:Rel E N p)(hp:f9 p)(hn:p.n<=1000000)(key:Int)(hk:U64 key)(n:Nat)(hf:p.n<n)(hh:J.how=1):u3 94 k0 b J E N p [.int .u64 key] (L9) (T6) (C8 J.bucket (J.budget-E.n) key n D6 p):=u3.re (Bt b J hJ E hE N p hR hp hn key hk n hf hh) (by repeat(first|exact trivial|refine⟨zr,?_⟩))
theorem Bs(b:Nat)(J:i5)(hJ:j0 J)(E:r9)(hE:E.n<=1000000)(N:Nat)(p:Pst)(hR:Rel E N p)(hp:f9 p)(hn:p.n<=1000000)(key:Int)(hk:U64 key)(n:Nat)(hf:p.n<n)(hh:¬J.how=1):u3 94 0 b J E N p [.int .u64 key] (L9) (T6) (D7 J.bucket (J.budget-E.n) key n 0 64 p):=by
 intro m w hm hargs hpre;have hN0:N=E.n-p.n:=by have:=hR.n;omega
 refine enX 22 hm hpre hargs Tryz.func94 fun B O a0 Z=>?_
 refine wp_seq (rg O a6 [0,1,4] [0,4] [] Z fun X0 _ _ Z=>?_);refine wp_seq (wp_seq (rg O a6 [12,0,1,4] [0,4] [] Z fun X1 _ _ Z=>?_));apply a7 Z rfl<;>intro hb Z
 .exfalso
  have hc:J.how=1:=by subst O;simpa[std,a8]using hb
  exact hh hc
 skip
 refine wp_skip (wp_seq ?_)
 rcases(FR 0 b J hJ E hE N p hR hp hn key hk n hf).two (cx _ _ _ _ _ _ _) hp hn hR with⟨s2,p2,N2,hm2,hs2,hp2,hn2,hR2,hN2,S2⟩|⟨wq2,p2,N2,W2,hm2,hs2,hN2,hW2,S2⟩
 .have O1:=S2
  refine rg O a6 [4,6] [0,4,6] [(2,lc J E (L9 s2) N2 p2)] Z fun X4 _ _ Z=>?_
  refine wp_seq (rg O a6 [4] [0,4] [] Z fun X5 _ _ Z=>?_);exact wp_ret ((rgo O a6 Z (v:=s2) (q:=p2) (by simp[Rs.bind,hm2]) hN2).1)
 have O1:=S2;refine rg O a6 [4,6] [0,4,6] [(2,sc J E (T6) N2 W2 p2.note)] Z fun X4 _ _ Z=>?_
 refine wp_seq (rg O a6 [4] [0,4] [] Z fun X5 _ _ Z=>?_);exact wp_ret ((rst O a6 Z (q:=p2) (wq:=wq2) (X4 2) (by simp[Rs.bind,hm2]) hN2 (hW2 _)).1)
theorem Fv(k0 b:Nat)(J:i5)(hJ:j0 J)(E:r9)(hE:E.n<=1000000)(N:Nat)(p:Pst)(hR:Rel E N p)(hp:f9 p)(hn:p.n<=1000000)(key:Int)(hk:U64 key)(n:Nat)(hf:p.n<n)(hh:¬J.how=1):u3 94 k0 b J E N p [.int .u64 key] (L9) (T6) (D7 J.bucket (J.budget-E.n) key n 0 64 p):=u3.re (Bs b J hJ E hE N p hR hp hn key hk n hf hh) (by repeat(first|exact trivial|refine⟨zr,?_⟩))
theorem yq(k0 b:Nat)(J:i5)(hJ:j0 J)(E:r9)(hE:E.n<=1000000)(N:Nat)(p:Pst)(hR:Rel E N p)(hp:f9 p)(hn:p.n<=1000000)(key:Int)(hk:U64 key)(n:Nat)(hf:p.n<n):u3 94 k0 b J E N p [.int .u64 key] L9 T6 (dV J.bucket (J.budget-E.n) J.how key n p):=by
 unfold dV
 by_cases hh:J.how=1
 .rw [if_pos hh];exact Fw k0 b J hJ E hE N p hR hp hn key hk n hf hh
 rw[if_neg hh];exact Fv k0 b J hJ E hE N p hR hp hn key hk n hf hh
theorem na{g:u2}{a t:Int}{r:Bool}(h:(if(!gk g 1)=true then true else decide (a+(g.x.r.n:Int)>t))=r):(gk g 1=true/\a+(g.x.r.n:Int)<=t)=(r=false):=by
 rw[<-h]
 cases gk g 1
 .simp
 by_cases h9:a+(g.x.r.n:Int)<=t
 .simp [h9,Int.not_lt.2 h9]
 simp[h9,Int.not_le.1 h9]
theorem BW(k0 b:Nat)(J:i5)(hJ:j0 J)(E:r9)(hE:E.n<=1000000)(N:Nat)(p:Pst)(hR:Rel E N p)(hp:f9 p)(hn:p.n<=1000000)(l:Lab)(v:Int):u3 119 k0 b J E N p [f4 l,.int .u64 v,.agg [.int .i64 4,.sl none none 0 0 2 (fun _=>[]),.int .i64 (-1),.int .u64 0,.int .u64 0]] (fun d=>.bool (.v d)) (.bool .ff) (P3 (J.budget-E.n) l v fW p):=
 u3.re (bN 0 b J hJ E hE N p hR hp hn l v cB) ⟨zr,zr,Sim.agg ⟨zr,J0,zr,zr,zr,trivial⟩,trivial⟩
theorem BK(k0 b:Nat)(J:i5)(hJ:j0 J)(E:r9)(hE:E.n<=1000000)(N:Nat)(p:Pst)(hR:Rel E N p)(hp:f9 p)(hn:p.n<=1000000)(l:Lab)(hl:LOk l)(g:u2)(n:Nat)(hf:p.n<n):u3 120 k0 b J E N p [f4 l,.agg [.int .i64 0,.int .u64 (IntKind.u64.wrap (g.ver+1)),.bool .tt,.int .i64 4,.sl none none 0 0 2 (fun _=>[]),.int .i64 (-1),.int .u64 0,.int .u64 0]] (fun _=>i4) i4 (R5 J.bucket (J.budget-E.n) n l (upG g cB) p):=
 u3.re (oQ n 0 b J hJ E hE N p hR hp hn l hl (upG g cB) (kZ.up g) rfl hf) ⟨zr,Sim.agg ⟨zr,zr,Sim.tt,zr,J0,zr,zr,zr,trivial⟩,trivial⟩
theorem BL(k0 b:Nat)(J:i5)(hJ:j0 J)(E:r9)(hE:E.n<=1000000)(N:Nat)(p:Pst)(hR:Rel E N p)(hp:f9 p)(hn:p.n<=1000000)(l:Lab)(hl:LOk l)(g:u2)(x:RA)(hx:L3 x)(n:Nat)(hf:p.n<n):u3 120 k0 b J E N p [f4 l,.agg (.int .i64 0 :: .int .u64 (IntKind.u64.wrap (g.ver+1)) :: .bool .tt::ew x)] (fun _=>i4) i4 (R5 J.bucket (J.budget-E.n) n l (upG g x) p):=
 u3.re (oQ n 0 b J hJ E hE N p hR hp hn l hl (upG g x) (hx.up g) rfl hf) ⟨zr,Sim.agg ⟨zr,zr,Sim.tt,zr,zr,zr,zr,zr,trivial⟩,trivial⟩
theorem Bu(b:Nat)(J:i5)(hJ:j0 J)(E:r9)(hE:E.n<=1000000)(N:Nat)(p:Pst)(hR:Rel E N p)(hp:f9 p)(hn:p.n<=1000000)(hbk:0<=J.bucket/\J.bucket<=16)(l:Lab)(hl:LOk l)(n:Nat)(hf:p.n<n):u3 122 0 b J E N p [f4 l] (fun _=>i4) (i4) (P7 J.bucket (J.budget-E.n) n l p):=by
 intro m w hm hargs hpre;have hN0:N=E.n-p.n:=by have:=hR.n;omega
 have SN:=eZ;simp only[f4,B9]at SN;refine enX 114 hm hpre hargs Tryz.func122 fun B O a0 Z=>?_
 refine wp_seq (rg O a6 [0,3] [0,3] [] Z fun X0 _ _ Z=>?_);refine wp_block (l5 (ι:=LSt×Lab) (fun q=>[]) (fun q=>[(0,⟨b,147,lsC J E q.1⟩),(3,⟨(X0 0).b,24,[.int .i64 q.2.len,.int .u64 q.2.bits]⟩)]) (fun q=>[]) (fun q=>match q.1 with| .go a r M=>P7 J.bucket (J.budget-E.n) n l p=P7 J.bucket (J.budget-E.n) a q.2 r/\f9 r/\r.n<=1000000/\Rel E M r/\r.n<a/\r.n<=p.n/\LOk q.2| .dn r M=>False| .sp M Q u=>∃(X:i8) (wq:Wq) (pp:Pst),P7 J.bucket (J.budget-E.n) n l p = .stop wq pp/\M=E.n-pp.n/\Q=wqA X wq/\u=pp.note) (fun q=>lsM q.1) (.go n p N,l) ⟨rfl,hp,hn,hR,(by skip;omega),(by skip;omega),hl⟩ Z ?_)
 rintro q hJ _ _ Z
 rcases q with⟨⟨nn0,p0,N0⟩|⟨p9,N9⟩|⟨N0,Q0,t0⟩,l0⟩
 .dsimp only[lsC,lsB]at hJ Z
  obtain⟨hrun0,hp0,hn0,hR0,hf0,hle0,hl0⟩:=hJ;obtain⟨m0,rfl⟩:∃n2,nn0=n2+1:=⟨nn0-1,by omega⟩
  have hN0:N0=E.n-p0.n:=by have:=hR0.n;omega
  have SP:=kU l0 hl0.u;have hpar:=hl0.par;have SS:=Ei l0 hl0;simp only[f4]at SP SS;obtain⟨up,hup⟩:=eqv (G1 l0);rw[<-hup]at SP hpar;obtain⟨ue,hue⟩:=eqv (G4 l0);rw[<-hue]at SP SS;obtain⟨sb,hsb⟩:=eqv (cF l0);rw[<-hsb]at SS;refine wp_seq (wp_seq (rg O a6 [17,0,3] [0,3] [] Z fun X1 _ _ Z=>?_));refine j1 Z rfl (fun Z=>?_);have O1:=SP;refine wp_skip (wp_block (wp_seq (rg O a6 [0,3,4,5] [0,3,4] [(1,.r fun _=>.tup [.agg [.int .i64 up.len,.int .u64 up.bits],.int .i64 ue])] Z fun X2 _ _ Z=>?_)));refine wp_seq (wp_seq (rg O a6 [24,0,3,4] [0,3,4] [] Z fun X3 _ _ Z=>?_));apply a7 Z rfl<;>intro hb Z
  .have t0:¬ue=0:=by subst O;simpa[std,a8]using hb
   exact wp_ret ((rgo O a6 Z (v:=()) (q:=p0) (by simp[Rs.bind,hrun0,P7,<-hup,<-hue,<-hsb,t0]) hN0).1)
  have t0:ue=0:=by subst O;simpa[std,a8]using hb
  refine wp_skip (wp_seq ?_)
  rcases(K2 0 b J hJ E hE N0 p0 hR0 hp0 hn0 up).two (i7 _ _ _) hp0 hn0 hR0 with⟨g4,p4,N4,hm4,hs4,hp4,hn4,hR4,hN4,S4⟩|⟨wq4,p4,N4,W4,hm4,hs4,hN4,hW4,S4⟩
  .have hl4:=u7 hm4
   have hg4:=hp0.get hm4;have O1:=S4;refine rg O a6 [0,3,4,6] [0,3,4,6] [(2,lc J E (u5 g4) N4 p4)] Z fun X4 _ _ Z=>?_
   obtain⟨q5,hq5⟩:=eqv (gk g4 2);refine wp_seq (wp_seq ?_);refine rg O a6 [36,0,3,4,6] [0,3,4,6] [(6,.r fun _=>.bool (.v q5))] Z (hob:=by intro X;subst O;simp only[b7,Ob.holds,BE.den]<;>and_intros<;>repeat first|trivial|rfl|exact(by rw[hq5];exact B2 g4 2)|exact by rw[hq5];exact B2 g4 2|exact(fun _ _=>by kernel_rfl)|refine⟨?_,?_⟩|intro h|exact Int.le_refl _|decide|omega) fun X5 _ _ Z=>?_
   apply a7 Z rfl<;>intro hb Z
   .have tq5:gk g4 2=false:=by subst O;rw[<-hq5];revert hb;cases q5<;>simp[std]
    exact wp_ret ((rgo O a6 Z (v:=()) (q:=p4) (by simp[Rs.bind,hrun0,P7,<-hup,<-hue,<-hsb,t0,hm4,tq5]) hN4).1)
   have tq5:gk g4 2=true:=by subst O;rw[<-hq5];revert hb;cases q5<;>simp[std]
   have O1:=SS;refine wp_skip (wp_seq (rg O a6 [0,3,4,6,7] [0,3,4,6,7] [(1,.r fun _=>.tup [.agg [.int .i64 sb.len,.int .u64 sb.bits],.int .i64 ue])] Z fun X6 _ _ Z=>?_));apply wp_seq
   rcases(K2 0 b J hJ E hE N4 p4 hR4 hp4 hn4 sb).two (i7 _ _ _) hp4 hn4 hR4 with⟨g7,p7,N7,hm7,hs7,hp7,hn7,hR7,hN7,S7⟩|⟨wq7,p7,N7,W7,hm7,hs7,hN7,hW7,S7⟩
   .have hl7:=u7 hm7
    have hg7:=hp4.get hm7;have O1:=S7;refine rg O a6 [0,3,4,6,9] [0,3,4,6,9] [(2,lc J E (u5 g7) N7 p7)] Z fun X7 _ _ Z=>?_
    obtain⟨q8,hq8⟩:=eqv (gk g7 1);refine wp_seq (wp_seq ?_);refine rg O a6 [53,0,3,4,6,9] [0,3,4,6,9] [(6,.r fun _=>.bool (.v q8))] Z (hob:=by intro X;subst O;simp only[b7,Ob.holds,BE.den]<;>and_intros<;>repeat first|trivial|rfl|exact(by rw[hq8];exact B2 g7 1)|exact by rw[hq8];exact B2 g7 1|exact(fun _ _=>by kernel_rfl)|refine⟨?_,?_⟩|intro h|exact Int.le_refl _|decide|omega) fun X8 _ _ Z=>?_
    apply a7 Z rfl<;>intro hb Z
    .have tq8:gk g7 1=false:=by subst O;rw[<-hq8];revert hb;cases q8<;>simp[std]
     exact wp_ret ((rgo O a6 Z (v:=()) (q:=p7) (by simp[Rs.bind,hrun0,P7,<-hup,<-hue,<-hsb,t0,hm4,tq5,hm7,tq8]) hN7).1)
    have tq8:gk g7 1=true:=by subst O;rw[<-hq8];revert hb;cases q8<;>simp[std]
    refine wp_skip (wp_seq ?_)
    rcases(K2 0 b J hJ E hE N7 p7 hR7 hp7 hn7 l0).two (i7 _ _ _) hp7 hn7 hR7 with⟨g9,p9,N9,hm9,hs9,hp9,hn9,hR9,hN9,S9⟩|⟨wq9,p9,N9,W9,hm9,hs9,hN9,hW9,S9⟩
    .have hl9:=u7 hm9
     have hg9:=hp7.get hm9;have O1:=S9;refine rg O a6 [0,3,4,6,9,10] [0,3,4,6,9,10] [(2,lc J E (u5 g9) N9 p9)] Z fun X9 _ _ Z=>?_
     obtain⟨q10,hq10⟩:=eqv (gk g9 1);refine wp_seq (wp_seq ?_);refine drg O a6 [83,0,3,4,6] [0,3,4,6] [(6,.r fun _=>.bool (.v q10))] Z (hob:=by intro X;subst O;simp only[b7,Ob.holds,BE.den]<;>and_intros<;>repeat first|trivial|rfl|exact(by rw[hq10];exact B2 g9 1)|exact by rw[hq10];exact B2 g9 1|exact(fun _ _=>by kernel_rfl)|refine⟨?_,?_⟩|intro h|exact Int.le_refl _|decide|omega) fun X10 _ _ Z=>?_
     apply a7 Z rfl<;>intro hb Z
     .have f2:=hg7.ra.few
      have f3:=hg9.ra.few;have e1:IntKind.i64.wrap ((g7.x.r.n:Int)+(g9.x.r.n:Int))=(g7.x.r.n:Int)+g9.x.r.n:=o8 (by omega) (by omega);have e2:IntKind.i64.wrap (Int.tdiv J.bucket 2)=Int.tdiv J.bucket 2:=by
       rw[Int.tdiv_eq_ediv_of_nonneg hbk.1];exact o8 (by omega) (by omega)
      have t3:=na (g:=g9) (a:=(g7.x.r.n:Int)) (t:=Int.tdiv J.bucket 2) (r:=true) (by
       have h9:(if(!q10)=true then true else decide (IntKind.i64.wrap ((g7.x.r.n:Int)+(g9.x.r.n:Int))>IntKind.i64.wrap (Int.tdiv J.bucket 2)))=true:=by subst O;exact hb
       rw[e1,e2,hq10]at h9;exact h9)
      exact wp_ret ((rgo O a6 Z (v:=()) (q:=p9) (by simp[Rs.bind,hrun0,P7,<-hup,<-hue,<-hsb,t0,hm4,tq5,hm7,tq8,hm9,t3]) hN9).1)
     have f2:=hg7.ra.few;have f3:=hg9.ra.few;have e1:IntKind.i64.wrap ((g7.x.r.n:Int)+(g9.x.r.n:Int))=(g7.x.r.n:Int)+g9.x.r.n:=o8 (by omega) (by omega);have e2:IntKind.i64.wrap (Int.tdiv J.bucket 2)=Int.tdiv J.bucket 2:=by
      rw[Int.tdiv_eq_ediv_of_nonneg hbk.1];exact o8 (by omega) (by omega)
     have t3:=na (g:=g9) (a:=(g7.x.r.n:Int)) (t:=Int.tdiv J.bucket 2) (r:=false) (by
      have h9:(if(!q10)=true then true else decide (IntKind.i64.wrap ((g7.x.r.n:Int)+(g9.x.r.n:Int))>IntKind.i64.wrap (Int.tdiv J.bucket 2)))=false:=by subst O;exact hb
      rw[e1,e2,hq10]at h9;exact h9)
     have O1:=SN;refine wp_skip (wp_seq (rg O a6 [0,3,4,6,11] [0,3,4,6,11] [(0,.r fun _=>.agg [.int .i64 (-1),.int .u64 0])] Z fun X11 _ _ Z=>?_));refine wp_seq (wp_seq ?_)
     rcases(BW 0 b J hJ E hE N9 p9 hR9 hp9 hn9 up g4.ver).two (l6 _ _ _ _ _) hp9 hn9 hR9 with⟨d12,p12,N12,hm12,hs12,hp12,hn12,hR12,hN12,S12⟩|⟨wq12,p12,N12,W12,hm12,hs12,hN12,hW12,S12⟩
     .have hl12:=cA hm12
      have O1:=S12;refine rg O a6 [92,0,3,4,6,11] [0,3,4,6,11] [(5,lc J E (.bool (.v d12)) N12 p12)] Z fun X12 _ _ Z=>?_
      apply a7 Z rfl<;>intro hb Z
      .have td:d12=false:=by subst O;revert hb;cases d12<;>simp[std]
       exact wp_ret ((rgo O a6 Z (v:=()) (q:=p12) (by simp[Rs.bind,hrun0,P7,<-hup,<-hue,<-hsb,t0,hm4,tq5,hm7,tq8,hm9,t3,hm12,td]) hN12).1)
      have td:d12=true:=by subst O;revert hb;cases d12<;>simp[std]
      refine wp_skip (wp_seq ?_)
      rcases(BK 0 b J hJ E hE N12 p12 hR12 hp12 hn12 up hpar g4 m0 (by have:=hf0;have:=hle0;have:=hl4;have:=hl7;have:=hl9;have:=hl12;omega)).two (F9 _ _ _ _ _ _) hp12 hn12 hR12 with⟨v13,p13,N13,hm13,hs13,hp13,hn13,hR13,hN13,S13⟩|⟨wq13,p13,N13,W13,hm13,hs13,hN13,hW13,S13⟩
      .have O1:=S13
       refine rg O a6 [0,3,4] [0,3,4] [(7,lc J E (i4) N13 p13)] Z fun X13 _ _ Z=>?_
       apply wp_seq
       rcases(K2 0 b J hJ E hE N13 p13 hR13 hp13 hn13 up).two (i7 _ _ _) hp13 hn13 hR13 with⟨g14,p14,N14,hm14,hs14,hp14,hn14,hR14,hN14,S14⟩|⟨wq14,p14,N14,W14,hm14,hs14,hN14,hW14,S14⟩
       .have hl14:=u7 hm14
        have hg14:=hp13.get hm14;have O1:=S14;refine rg O a6 [0,3,4,12] [0,3,4,12] [(2,lc J E (u5 g14) N14 p14)] Z fun X14 _ _ Z=>?_
        obtain⟨q15,hq15⟩:=eqv (gk g14 1);refine wp_seq (wp_seq ?_);refine rg O a6 [112,0,3,4] [0,3,4] [(6,.r fun _=>.bool (.v q15))] Z (hob:=by intro X;subst O;simp only[b7,Ob.holds,BE.den]<;>and_intros<;>repeat first|trivial|rfl|exact(by rw[hq15];exact B2 g14 1)|exact by rw[hq15];exact B2 g14 1|exact(fun _ _=>by kernel_rfl)|refine⟨?_,?_⟩|intro h|exact Int.le_refl _|decide|omega) fun X15 _ _ Z=>?_
        apply a7 Z rfl<;>intro hb Z
        .have tq15:gk g14 1=false:=by subst O;rw[<-hq15];revert hb;cases q15<;>simp[std]
         exact wp_ret ((rgo O a6 Z (v:=()) (q:=p14) (by simp[Rs.bind,hrun0,P7,<-hup,<-hue,<-hsb,t0,hm4,tq5,hm7,tq8,hm9,t3,hm12,td,hm13,hm14,tq15]) hN14).1)
        have tq15:gk g14 1=true:=by subst O;rw[<-hq15];revert hb;cases q15<;>simp[std]
        refine wp_skip (rg O a6 [0,3] [0,3] [] Z fun X16 _ _ Z=>?_);replace Z:=Z.keep [0,3] [0,3];exact⟨(.go m0 p14 N14,up),⟨by rw[hrun0];simp[P7,Rs.bind,hrun0,P7,<-hup,<-hue,<-hsb,t0,hm4,tq5,hm7,tq8,hm9,t3,hm12,td,hm13,hm14,tq15],hp14,hn14,hR14,(by have:=hf0;have:=hle0;have:=hl4;have:=hl7;have:=hl9;have:=hl12;have:=hs13.le;have:=hl14;omega),(by have:=hf0;have:=hle0;have:=hl4;have:=hl7;have:=hl9;have:=hl12;have:=hs13.le;have:=hl14;omega),hpar⟩,by simp[lsM],Z⟩
       have O1:=S14;refine rg O a6 [0,3,4,12] [0,3,4,12] [(2,sc J E (.agg [.int .i64 0,.int .u64 0,.bool .ff,.int .i64 0,.sl none none 0 0 2 (fun _=>[]),.int .i64 0,.int .u64 0,.int .u64 0]) N14 W14 p14.note)] Z fun X14 _ _ Z=>?_
       refine wp_seq (wp_seq (rg O a6 [112,0,3,4] [0,3,4] [] Z fun X15 _ _ Z=>?_));refine j1 Z rfl (fun Z=>?_);exact wp_ret ((rst O a6 Z (q:=p14) (wq:=wq14) (X14 2) (by simp[Rs.bind,hrun0,P7,<-hup,<-hue,<-hsb,t0,hm4,tq5,hm7,tq8,hm9,t3,hm12,td,hm13,hm14]) hN14 (hW14 _)).1)
      have O1:=S13;refine rg O a6 [0,3,4] [0,3,4] [(7,sc J E (i4) N13 W13 p13.note)] Z fun X13 _ _ Z=>?_
      have O1:=gm 0 b J E hE N13 (W13 (X13 7)) p13.note up;refine wp_seq (rg O a6 [0,3,4,12] [0,3,4,12] [(2,dc J E (.agg [.int .i64 0,.int .u64 0,.bool .ff,.int .i64 0,.sl none none 0 0 2 (fun _=>[]),.int .i64 0,.int .u64 0,.int .u64 0]) N13 (W13 (X13 7)) p13.note)] Z fun X14 _ _ Z=>?_);refine wp_seq (wp_seq (rg O a6 [112,0,3,4] [0,3,4] [] Z fun X15 _ _ Z=>?_));refine j1 Z rfl (fun Z=>?_);exact wp_ret ((rst O a6 Z (q:=p13) (wq:=wq13) (X13 7) (by simp[Rs.bind,hrun0,P7,<-hup,<-hue,<-hsb,t0,hm4,tq5,hm7,tq8,hm9,t3,hm12,td,hm13]) hN13 (hW13 _)).1)
     have O1:=S12;refine rg O a6 [92,0,3,4,6,11] [0,3,4,6,11] [(5,sc J E (.bool .ff) N12 W12 p12.note)] Z fun X12 _ _ Z=>?_
     refine j1 Z rfl (fun Z=>?_);exact wp_ret ((rst O a6 Z (q:=p12) (wq:=wq12) (X12 5) (by simp[Rs.bind,hrun0,P7,<-hup,<-hue,<-hsb,t0,hm4,tq5,hm7,tq8,hm9,t3,hm12]) hN12 (hW12 _)).1)
    have O1:=S9;refine rg O a6 [0,3,4,6,9,10] [0,3,4,6,9,10] [(2,sc J E (.agg [.int .i64 0,.int .u64 0,.bool .ff,.int .i64 0,.sl none none 0 0 2 (fun _=>[]),.int .i64 0,.int .u64 0,.int .u64 0]) N9 W9 p9.note)] Z fun X9 _ _ Z=>?_
    refine wp_seq (wp_seq (drg O a6 [83,0,3,4,6] [0,3,4,6] [] Z fun X10 _ _ Z=>?_));refine j1 Z rfl (fun Z=>?_);exact wp_ret ((rst O a6 Z (q:=p9) (wq:=wq9) (X9 2) (by simp[Rs.bind,hrun0,P7,<-hup,<-hue,<-hsb,t0,hm4,tq5,hm7,tq8,hm9]) hN9 (hW9 _)).1)
   have O1:=S7;refine rg O a6 [0,3,4,6,9] [0,3,4,6,9] [(2,sc J E (.agg [.int .i64 0,.int .u64 0,.bool .ff,.int .i64 0,.sl none none 0 0 2 (fun _=>[]),.int .i64 0,.int .u64 0,.int .u64 0]) N7 W7 p7.note)] Z fun X7 _ _ Z=>?_
   refine wp_seq (wp_seq (rg O a6 [53,0,3,4,6,9] [0,3,4,6,9] [] Z fun X8 _ _ Z=>?_));refine j1 Z rfl (fun Z=>?_);exact wp_ret ((rst O a6 Z (q:=p7) (wq:=wq7) (X7 2) (by simp[Rs.bind,hrun0,P7,<-hup,<-hue,<-hsb,t0,hm4,tq5,hm7]) hN7 (hW7 _)).1)
  have O1:=S4;refine rg O a6 [0,3,4,6] [0,3,4,6] [(2,sc J E (.agg [.int .i64 0,.int .u64 0,.bool .ff,.int .i64 0,.sl none none 0 0 2 (fun _=>[]),.int .i64 0,.int .u64 0,.int .u64 0]) N4 W4 p4.note)] Z fun X4 _ _ Z=>?_
  refine wp_seq (wp_seq (rg O a6 [36,0,3,4,6] [0,3,4,6] [] Z fun X5 _ _ Z=>?_));refine j1 Z rfl (fun Z=>?_);exact wp_ret ((rst O a6 Z (q:=p4) (wq:=wq4) (X4 2) (by simp[Rs.bind,hrun0,P7,<-hup,<-hue,<-hsb,t0,hm4]) hN4 (hW4 _)).1)
 .exact (hJ:False).elim
 dsimp only[lsC,lsB]at hJ Z;obtain⟨X0,wq0,pp0,hsp0,hN0,hW0,ht0⟩:=hJ;subst ht0;refine wp_seq (wp_seq (rg O a6 [17,0,3] [0,3] [] Z fun X1 _ _ Z=>?_));refine j3 Z rfl (fun Z=>?_);exact wp_exit ((rst O a6 Z (q:=pp0) (wq:=wq0) X0 (hsp0) hN0 hW0).2)
theorem Fx(k0 b:Nat)(J:i5)(hJ:j0 J)(E:r9)(hE:E.n<=1000000)(N:Nat)(p:Pst)(hR:Rel E N p)(hp:f9 p)(hn:p.n<=1000000)(hbk:0<=J.bucket/\J.bucket<=16)(l:Lab)(hl:LOk l)(n:Nat)(hf:p.n<n):u3 122 k0 b J E N p [f4 l] (fun _=>i4) (i4) (P7 J.bucket (J.budget-E.n) n l p):=u3.re (Bu b J hJ E hE N p hR hp hn hbk l hl n hf) (by repeat(first|exact trivial|refine⟨zr,?_⟩))
def Nte{α : Type}(p:Pst)(r:Rs α):Prop:=match r with
 | .ok _ q=>q.note=p.note
 | .stop _ q=>q.note=p.note
theorem Nte.bind{α β : Type}{p:Pst}{m:Rs α}{f:α->Pst->Rs β}(h:Nte p m)(hf:∀a q,Nte p (Rs.ok a q:Rs α)->Nte q (f a q)):Nte p (m.bind f):=by
 cases m with
 |ok a q=>
  have h1:=hf a q h;have h2:q.note=p.note:=h
  show Nte p (f a q)
  cases hr:f a q with
  |ok b r=>rw[hr]at h1;exact Eq.trans h1 h2
  |stop w r=>rw[hr]at h1;exact Eq.trans h1 h2
 |stop w q=>exact h
theorem ot(k:Int)(w:Wq)(p:Pst):Nte p (U3 k w p):=by
 unfold U3
 split
 .rename_i h;exact rfl
 exact rfl
theorem B0{α : Type}(a:α)(p:Pst):Nte p (Rs.ok a p):=rfl
theorem eB{α : Type}(w:Wq)(p:Pst):Nte p (Rs.stop w p:Rs α):=rfl
theorem z6{α : Type}{p:Pst}{c:Prop} [Decidable c]{x y:Rs α}(hx:Nte p x)(hy:Nte p y):Nte p (if c then x else y):=by split<;>assumption
theorem U9(k:Int)(l:Lab)(p:Pst):Nte p (K0 k l p):=ot _ _ _
theorem dv(k:Int)(l:Lab)(v:Int)(r:Rec)(p:Pst):Nte p (P3 k l v r p):=(ot _ _ _).bind fun _ _ _=>B0 _ _
theorem Ax(k:Int)(l:Lab)(v:Int)(p:Pst):Nte p (iq k l v p):=(ot _ _ _).bind fun _ _ _=>B0 _ _
theorem ln(k:Int)(l:Lab)(v:Int)(c:Lab)(x:Rec):∀n p,Nte p (A5 k l v c x n p)
 |0,p=>eB _ _
 |n+1,p=>(U9 _ _ _).bind fun _ _ _=>z6 (B0 _ _) ((U9 _ _ _).bind fun _ _ _=>z6 ((dv _ _ _ _ _).bind fun _ _ _=>z6 (B0 _ _) (ln k l v c x n _)) (B0 _ _))
theorem uP(k:Int)(n:Nat)(l:Lab)(v:Int)(x:RA)(p:Pst):Nte p (u4 k n l v x p):=
 z6 ((ln _ _ _ _ _ _ _).bind fun _ _ _=>z6 ((ln _ _ _ _ _ _ _).bind fun _ _ _=>z6 ((dv _ _ _ _ _).bind fun _ _ _=>B0 _ _) (B0 _ _)) (B0 _ _)) (B0 _ _)
theorem om(k:Int)(l:Lab)(v:Int)(c:Lab):∀n p,Nte p (P1 k l v c n p)
 |0,p=>eB _ _
 |n+1,p=>(U9 _ _ _).bind fun _ _ _=>z6 (z6 (B0 _ _) ((U9 _ _ _).bind fun _ _ _=>z6 ((dv _ _ _ _ _).bind fun _ _ _=>z6 (B0 _ _) (om k l v c n _)) (B0 _ _))) (B0 _ _)
theorem pU(k:Int)(l:Lab)(cl:Lab->Pst->Rs Unit)(h:∀c p,Nte p (cl c p))(c:Lab)(p:Pst):Nte p (I1 k l cl c p):=
 (U9 _ _ _).bind fun _ _ _=>z6 ((h _ _).bind fun _ _ _=>(U9 _ _ _).bind fun _ _ _=>z6 ((Ax _ _ _ _).bind fun _ _ _=>B0 _ _) (B0 _ _)) (B0 _ _)
theorem oo(k:Int):∀n l p,Nte p (E6 k n l p)
 |0,l,p=>eB _ _
 |n+1,l,p=>z6 (B0 _ _) ((pU _ _ _ (oo k n) _ _).bind fun _ _ _=>z6 ((pU _ _ _ (oo k n) _ _).bind fun _ _ _=>B0 _ _) (B0 _ _))
theorem oq(k:Int)(th:Lab->Pst->Rs Unit)(h:∀c p,Nte p (th c p))(l:Lab)(v:Int)(p:Pst):Nte p (aU k th l v p):=
 (dv _ _ _ _ _).bind fun _ _ _=>z6 ((h _ _).bind fun _ _ _=>h _ _) (B0 _ _)
theorem Av(bk k:Int)(n:Nat)(th:Lab->Pst->Rs Unit)(h:∀c p,Nte p (th c p))(l:Lab)(v:Int)(p:Pst):Nte p (M3 bk k n th l v p):=
 (om _ _ _ _ _ _).bind fun a _ _=>match a with
  | .over=>B0 _ _
  | .unfit=>oq _ _ h _ _ _
  | .fr a=>(om _ _ _ _ _ _).bind fun b _ _=>match b with
   | .over=>B0 _ _
   | .unfit=>oq _ _ h _ _ _
   | .fr b=>z6 ((dv _ _ _ _ _).bind fun _ _ _=>z6 (oo _ _ _ _) (B0 _ _)) (oq _ _ h _ _ _)
theorem sQ(bk k:Int)(n:Nat)(th:Lab->Pst->Rs Unit)(h:∀c p,Nte p (th c p))(l:Lab)(g:u2)(p:Pst):Nte p (dW bk k n th l g p):=
 z6 (uP _ _ _ _ _ _) (z6 (Av _ _ _ _ h _ _ _) (B0 _ _))
theorem lm(bk k:Int):∀n l up p,Nte p (dm bk k n l up p)
 |0,l,up,p=>eB _ _
 |n+1,l,up,p=>(U9 _ _ _).bind fun _ _ _=>z6 ((U9 _ _ _).bind fun _ _ _=>(z6 (sQ _ _ _ _ (fun c p=>z6 (lm bk k n _ _ _) (B0 _ _)) _ _ _) (B0 _ _)).bind fun _ _ _=>z6 ((dv _ _ _ _ _).bind fun _ _ _=>z6 (B0 _ _) (lm bk k n _ _ _)) (B0 _ _)) (B0 _ _)
theorem Au(bk k:Int)(n:Nat)(l:Lab)(p:Pst):Nte p (I6 bk k n l p):=z6 (lm _ _ _ _ _ _) (B0 _ _)
theorem Aw(bk k:Int)(n:Nat)(l:Lab)(g:u2)(p:Pst):Nte p (R5 bk k n l g p):=sQ _ _ _ _ (Au _ _ _) _ _ _
theorem sP(bk k:Int):∀n l p,Nte p (P7 bk k n l p)
 |0,l,p=>eB _ _
 |n+1,l,p=>z6 ((U9 _ _ _).bind fun _ _ _=>z6 ((U9 _ _ _).bind fun _ _ _=>z6 ((U9 _ _ _).bind fun _ _ _=>z6 ((dv _ _ _ _ _).bind fun _ _ _=>z6 ((Aw _ _ _ _ _ _).bind fun _ _ _=>(U9 _ _ _).bind fun _ _ _=>z6 (sP bk k n _ _) (B0 _ _)) (B0 _ _)) (B0 _ _)) (B0 _ _)) (B0 _ _)) (B0 _ _)
theorem Nte.of{α : Type}{p q:Pst}{m:Rs α}{a:α}(h:Nte p m)(e:m = .ok a q):q.note=p.note:=by rw[e]at h;exact h
def aP(a:Rsl):Wq:=⟨4,⟨0,0⟩,0,i9,a⟩
def G5{α : Type}(a:Rsl)(p:Pst):Rs α:=.stop (aP a) p
abbrev X00:i8:=⟨0,fun _=>none,fun _=>0,fun _=>.empty⟩
theorem ze(c:Int)(h:Bool)(v:ByteArray)(k:Int)(m:Bool):wqA X00 (aP ⟨c,h,v,[],k,m⟩)=⟨4,⟨0,0⟩,0,zRA,⟨c,h,v,none,0,0,fun _=>C2,k,m⟩⟩:=rfl
theorem An(k0 b:Nat)(J:i5)(E:r9)(hE:E.n<=1000000)(N:Nat)(q:A8)(t:Nt)(c:Int)(h:Bool)(v:ByteArray):v8 Tryz.prog 40 [.ptr k0 b 0,.agg [.int .i64 c,.bool (.v h),.str v,.sl none none 0 0 2 (fun _=>[]),.int .u64 0,.bool .ff]] [(k0,⟨b,147,T0 J E N t⟩)] (fun _=>⟨i4,[(k0,E0 J E N (wqA X00 (aP ⟨c,h,v,[],0,false⟩)) t)],[]⟩):=
 v8.re (xc k0 b J E hE N ⟨0,⟨0,0⟩,0,zRA,fH⟩ t ⟨c,h,v,none,0,0,fun _=>C2,0,false⟩) ⟨zr,Sim.agg ⟨zr,zr,zr,zq0,zr,Sim.ff,trivial⟩,trivial⟩ rfl fun _=>⟨by rw[ze],rfl,zr,rfl⟩
theorem Ed(x:RA)(h:L3 x)(key:Int)(val:ByteArray):j7 Tryz.prog 118 [C7 x,.int .u64 key,.str val] (fun y=>.tup [C7 ⟨y.A 0,y.c 0,(wA x key val).1.rn⟩,.int .i64 (wA x key val).2]):=by
 have hf:=h.few;exact zP x.A x.r.n x.c x.r.f (by omega) x.r.kd x.r.nx x.r.mrk h.nx key val
theorem Ee(x:RA)(h:L3 x)(key:Int):j7 Tryz.prog 121 [C7 x,.int .u64 key] (fun y=>.tup [C7 ⟨y.A 0,y.c 0,(oA x key).1.rn⟩,.bool (.v (oA x key).2)]):=by
 have hf:=h.few;exact zO x.A x.r.n x.c x.r.f (by omega) x.r.kd x.r.nx x.r.mrk h.nx key
def vg(bk k how key:Int)(bl:Lab)(n:Nat)(p:Pst):Rs Spt:=if bl.len<0 then dV bk k how key n p else C8 bk k key n bl p
def gb(bk k how key:Int)(val:ByteArray)(n:Nat)(bl:Lab)(p:Pst):Rs Unit:=(vg bk k how key bl n p).bind fun x p=>(P0 bk k how key val n x p).bind G5
theorem Rs.as{α β γ : Type}(m:Rs α)(f:α->Pst->Rs β)(g:β->Pst->Rs γ):(m.bind f).bind g=m.bind fun a p=>(f a p).bind g:=by cases m<;>rfl
theorem je(bk k how key:Int)(val:ByteArray)(n:Nat)(p:Pst):gb bk k how key val n B9 p=((dV bk k how key n p).bind fun x p=>P0 bk k how key val n x p).bind G5:=by
 rw[Rs.as];rfl
theorem xS(bk k how key:Int)(val:ByteArray)(n:Nat){l:Lab}(hl:LOk l)(p:Pst):gb bk k how key val n l p=((C8 bk k key n l p).bind fun x p=>P0 bk k how key val n x p).bind G5:=by
 have:=(r7 hl.isl).1;rw[Rs.as];unfold gb vg;rw[if_neg (by omega)]
abbrev Ij:List AV:=[.int .i64 0,.int .u64 0,.int .i64 0,.int .u64 0,.bool .ff,.int .i64 0,.sl none none 0 0 2 (fun _=>[]),.int .i64 0,.int .u64 0,.int .u64 0]
abbrev spL(q:LSt)(x:Spt):List AV:=match q with
 | .go .. =>[.int .i64 x.lab.len,.int .u64 x.lab.bits,.int .i64 x.g.code,.int .u64 x.g.ver,.bool (.v x.g.has),.int .i64 x.g.x.r.kd,.sl none x.g.x.A x.g.x.r.n x.g.x.c 2 (fun i=>itC (x.g.x.r.f i)),.int .i64 x.g.x.r.nx.len,.int .u64 x.g.x.r.nx.bits,.int .u64 x.g.x.r.mrk]
 |_=>Ij
theorem BD(b:Nat)(J:i5)(hJ:j0 J)(E:r9)(hE:E.n<=1000000)(N:Nat)(p:Pst)(hR:Rel E N p)(hp:f9 p)(hn:p.n<=1000000)(hv:64<J.val.size):u3 59 0 b J E N p [] (fun _=>i4) (i4) ((Rs.stop (aP ⟨2,false,⟨#[]⟩,[],0,false⟩) p:Rs Unit)):=by
 intro m w hm hargs hpre;have hN0:N=E.n-p.n:=by have:=hR.n;omega
 have SN:=eZ;simp only[f4,B9]at SN;refine enX 127 hm hpre hargs Tryz.func59 fun B O a0 Z=>?_
 refine wp_seq (wp_seq (rg O a6 [16,0] [0] [] Z fun X0 _ _ Z=>?_));apply a7 Z rfl<;>intro hb Z
 .skip
  refine rg O a6 [0] [0] [(2,.x fun _=>⟨i4,[(0,E0 J E N (wqA X00 (aP ⟨2,false,⟨#[]⟩,[],0,false⟩)) p.note)],[]⟩)] Z (hob:=by intro X;subst O;simp only[b7,Ob.holds,BE.den]<;>and_intros<;>repeat first|trivial|rfl|exact v8.re (An 0 b J E hE N ⟨0,⟨0,0⟩,0,zRA,fH⟩ p.note 2 false ⟨#[]⟩) ⟨zr,Sim.agg ⟨zr,Sim.ff,zr,zr,zr,zr,trivial⟩,trivial⟩ rfl fun _=>⟨rfl,rfl,zr,rfl⟩|exact(fun _ _=>by kernel_rfl)|refine⟨?_,?_⟩|intro h|exact Int.le_refl _|decide|omega) fun X1 _ _ Z=>?_
  have O1:=SN;refine wp_seq (rg O a6 [0,2] [0,2] [(0,.r fun _=>.agg [.int .i64 (-1),.int .u64 0])] Z fun X2 _ _ Z=>?_);refine wp_block (wp_loop_rounds 2 (C3 (wp_seq (wp_seq (rg O a6 [25,0,2] [0,2] [] Z fun X3 _ _ Z=>?_)))));refine j3 Z rfl (fun Z=>?_);exact wp_exit ((rst O a6 Z (q:=p) (wq:=(aP ⟨2,false,⟨#[]⟩,[],0,false⟩)) X00 (by simp[Rs.bind]) hN0 rfl).2)
 exfalso
 have hv9:¬64<J.val.size:=by
  have:¬(64:Int)<(J.val.size:Int):=by subst O;simpa[std,a8]using hb
  omega
 exact hv9 hv
theorem FK(k0 b:Nat)(J:i5)(hJ:j0 J)(E:r9)(hE:E.n<=1000000)(N:Nat)(p:Pst)(hR:Rel E N p)(hp:f9 p)(hn:p.n<=1000000)(hv:64<J.val.size):u3 59 k0 b J E N p [] (fun _=>i4) (i4) ((Rs.stop (aP ⟨2,false,⟨#[]⟩,[],0,false⟩) p:Rs Unit)):=u3.re (BD b J hJ E hE N p hR hp hn hv) (by repeat(first|exact trivial|refine⟨zr,?_⟩))
theorem BC(b:Nat)(J:i5)(hJ:j0 J)(E:r9)(hE:E.n<=1000000)(N:Nat)(p:Pst)(hR:Rel E N p)(hp:f9 p)(hn:p.n<=1000000)(hv:¬64<J.val.size)(n:Nat)(hf:p.n<n):u3 59 0 b J E N p [] (fun _=>i4) (i4) (gb J.bucket (J.budget-E.n) J.how J.key J.val n B9 p):=by
 intro m w hm hargs hpre;have hN0:N=E.n-p.n:=by have:=hR.n;omega
 have SN:=eZ;simp only[f4,B9]at SN;refine enX 127 hm hpre hargs Tryz.func59 fun B O a0 Z=>?_
 refine wp_seq (wp_seq (rg O a6 [16,0] [0] [] Z fun X0 _ _ Z=>?_));apply a7 Z rfl<;>intro hb Z
 .exfalso
  have hv9:64<J.val.size:=by
   have:(64:Int)<(J.val.size:Int):=by subst O;simpa[std,a8]using hb
   omega
  exact hv hv9
 skip
 have O1:=SN;refine wp_skip (wp_seq (rg O a6 [0,2] [0,2] [(0,.r fun _=>.agg [.int .i64 (-1),.int .u64 0])] Z fun X2 _ _ Z=>?_));refine wp_block (l5 (ι:=LSt×Lab) (fun q=>[]) (fun q=>[(0,⟨b,147,lsC J E q.1⟩),(2,⟨(X2 1).b,24,[.int .i64 q.2.len,.int .u64 q.2.bits]⟩)]) (fun q=>[]) (fun q=>match q.1 with| .go a r M=>gb J.bucket (J.budget-E.n) J.how J.key J.val n B9 p=gb J.bucket (J.budget-E.n) J.how J.key J.val a q.2 r/\f9 r/\r.n<=1000000/\Rel E M r/\r.n<a/\r.n<=p.n/\(¬q.2.len<0->LOk q.2)| .dn r M=>False| .sp M Q u=>∃(X:i8) (wq:Wq) (pp:Pst),gb J.bucket (J.budget-E.n) J.how J.key J.val n B9 p = .stop wq pp/\M=E.n-pp.n/\Q=wqA X wq/\u=pp.note) (fun q=>lsM q.1) (.go n p N,B9) ⟨rfl,hp,hn,hR,(by skip;omega),(by skip;omega),fun h=>absurd (show(-1:Int)<0 by decide) h⟩ Z ?_)
 rintro q hJ _ _ Z
 rcases q with⟨⟨nn0,p0,N0⟩|⟨p9,N9⟩|⟨N0,Q0,t0⟩,l0⟩
 .dsimp only[lsC,lsB]at hJ Z
  obtain⟨hrun0,hp0,hn0,hR0,hf0,hle0,hl0⟩:=hJ;obtain⟨m0,rfl⟩:∃n2,nn0=n2+1:=⟨nn0-1,by omega⟩
  have hN0:N0=E.n-p0.n:=by have:=hR0.n;omega
  refine wp_seq (wp_seq (rg O a6 [25,0,2] [0,2] [] Z fun X3 _ _ Z=>?_));refine j1 Z rfl (fun Z=>?_);refine wp_skip (wp_block (wp_seq (rg O a6 [0,2,3] [0,2,3] [] Z fun X4 _ _ Z=>?_)));refine wp_seq (wp_seq (rg O a6 [28,0,2,3] [0,3,2] [] Z fun X5 _ _ Z=>?_));refine oT (ι:=LSt×Spt) (S0:=[(28,_)]) (M0:=[(0,_),(3,_)]) (G0:=[]) (fun q=>[]) (fun q=>[(0,⟨b,147,lsC J E q.1⟩),(3,⟨(X4 0).b,150,spL q.1 q.2⟩)]) (fun q=>[]) (fun q=>match q.1 with| .go a r M=>a=m0+1/\gb J.bucket (J.budget-E.n) J.how J.key J.val n B9 p=(P0 J.bucket (J.budget-E.n) J.how J.key J.val a q.2 r).bind G5/\f9 r/\r.n<=1000000/\Rel E M r/\r.n<a/\r.n<=p.n/\jK q.2| .dn r M=>False| .sp M Q u=>∃(X:i8) (wq:Wq) (pp:Pst),gb J.bucket (J.budget-E.n) J.how J.key J.val n B9 p = .stop wq pp/\M=E.n-pp.n/\Q=wqA X wq/\u=pp.note) Z ?_ ?_
  .apply a7 Z rfl<;>intro hb Z
   .have tb:l0.len<0:=by subst O;simpa[std,a8]using hb
    rcases(yq 0 b J hJ E hE N0 p0 hR0 hp0 hn0 J.key hJ.key (m0+1) (by have:=hf0;have:=hle0;omega)).two (R4 _ _ _ _ _ _) hp0 hn0 hR0 with⟨s6,p6,N6,hm6,hs6,hp6,hn6,hR6,hN6,S6⟩|⟨wq6,p6,N6,W6,hm6,hs6,hN6,hW6,S6⟩
    .have hx6:=dq hJ.key hp0 hm6
     have O1:=S6;refine rg O a6 [0,2,3] [0,2,3] [(6,lc J E (L9 s6) N6 p6)] Z fun X6 _ _ Z=>?_
     replace Z:=Z.keep [0,2,3] [0,3,2];exact⟨(.go (m0+1) p6 N6,s6),⟨rfl,by rw[hrun0];simp[gb,vg,tb,Rs.bind,hm6],hp6,hn6,hR6,(by have:=hf0;have:=hle0;have:=hs6.le;omega),(by have:=hf0;have:=hle0;have:=hs6.le;omega),hx6⟩,Z⟩
    have O1:=S6;refine rg O a6 [0,2,3] [0,2,3] [(6,sc J E (T6) N6 W6 p6.note)] Z fun X6 _ _ Z=>?_
    replace Z:=Z.keep [0,2,3] [0,3,2];exact⟨(.sp N6 (W6 (X6 6)) p6.note,⟨l0,mp⟩),⟨(X6 6),wq6,p6,(by rw[hrun0];simp[gb,vg,tb,Rs.bind,hm6]),hN6,(hW6 _),rfl⟩,Z⟩
   have tb:¬l0.len<0:=by subst O;simpa[std,a8]using hb
   have hl0:=hl0 tb
   rcases(HY 0 b J hJ E hE N0 p0 hR0 hp0 hn0 J.key hJ.key l0 hl0 (m0+1) (by have:=hf0;have:=hle0;omega)).two (J6 _ _ _ _ _ _) hp0 hn0 hR0 with⟨s7,p7,N7,hm7,hs7,hp7,hn7,hR7,hN7,S7⟩|⟨wq7,p7,N7,W7,hm7,hs7,hN7,hW7,S7⟩
   .have hx7:=cC hJ.key hp0 ⟨hl0.isl,hl0.u⟩ hm7
    have O1:=S7;refine drg O a6 [0,2,3] [0,2,3] [(7,lc J E (L9 s7) N7 p7)] Z fun X7 _ _ Z=>?_
    replace Z:=Z.keep [0,2,3] [0,3,2];exact⟨(.go (m0+1) p7 N7,s7),⟨rfl,by rw[hrun0];simp[gb,vg,tb,Rs.bind,hm7],hp7,hn7,hR7,(by have:=hf0;have:=hle0;have:=hs7.le;omega),(by have:=hf0;have:=hle0;have:=hs7.le;omega),hx7⟩,Z⟩
   have O1:=S7;refine drg O a6 [0,2,3] [0,2,3] [(7,sc J E (T6) N7 W7 p7.note)] Z fun X7 _ _ Z=>?_
   replace Z:=Z.keep [0,2,3] [0,3,2];exact⟨(.sp N7 (W7 (X7 7)) p7.note,⟨l0,mp⟩),⟨(X7 7),wq7,p7,(by rw[hrun0];simp[gb,vg,tb,Rs.bind,hm7]),hN7,(hW7 _),rfl⟩,Z⟩
  rintro q hJ _ _ Z
  rcases q with⟨⟨nn1,p1,N1⟩|⟨p9,N9⟩|⟨N1,Q1,t1⟩,x1⟩
  .dsimp only[lsC,lsB,spL]at hJ Z
   obtain⟨hnn1,hrun1,hp1,hn1,hR1,hf1,hle1,hx1⟩:=hJ;subst hnn1;have hN1:N1=E.n-p1.n:=by have:=hR1.n;omega
   have O1:=SN;refine wp_seq (rg O a6 [0,2,3] [0,2,3] [(0,.r fun _=>.agg [.int .i64 (-1),.int .u64 0])] Z fun X8 _ _ Z=>?_);refine wp_seq (wp_seq (rg O a6 [48,0,2,3] [0,2,3] [] Z fun X9 _ _ Z=>?_));refine j3 Z rfl (fun Z=>?_);refine wp_skip (wp_seq (rg O a6 [0,2,3,4] [0,2,3,4] [] Z fun X10 _ _ Z=>?_));have SF:=sF x1.g.x hx1.ok.ra J.key;obtain⟨fv,hfv⟩:=eqv (lK x1.g.x J.key);rw[<-hfv]at SF;obtain⟨fb,hfb⟩:=eqv (lL x1.g.x J.key);rw[<-hfb]at SF;have O1:=SF;refine wp_seq (drg O a6 [0,2,3,4,5,6] [0,2,3,4] [(6,.r fun _=>.tup [.str fv,.bool (.v fb)])] Z fun X11 _ _ Z=>?_);refine wp_seq (wp_seq (drg O a6 [73,0,2,3,4,5,6] [0,2,3,4] [] Z fun X12 _ _ Z=>?_));apply a7 Z rfl<;>intro hb Z
   .have tc:fb=true \/ (x1.g.x.r.n:Int)<J.bucket:=by
     have h9:(if fb=true then true else decide ((x1.g.x.r.n:Int)<J.bucket))=true:=by subst O;exact hb
     revert h9;cases fb<;>simp
    have SW:=Ed x1.g.x hx1.ok.ra J.key J.val;obtain⟨r1,hr1⟩:=eqv ((wA x1.g.x J.key J.val).1.rn);rw[<-hr1]at SW;obtain⟨e1,he1⟩:=eqv ((wA x1.g.x J.key J.val).2);rw[<-he1]at SW;have ha1:r1.abs=(wA x1.g.x J.key J.val).1:=by rw[hr1];exact Q4 _
    have O1:=SW;refine wp_seq (drg O a6 [0,2,3,5,6,7] [0,2,3,7] [(11,.r fun y=>.tup [.agg [.int .i64 r1.kd,.sl none (y.A 0) r1.n (y.c 0) 2 (fun i=>itC (r1.f i)),.int .i64 r1.nx.len,.int .u64 r1.nx.bits,.int .u64 r1.mrk],.int .i64 e1])] Z fun X13 _ _ Z=>?_);refine wp_seq (wp_seq ?_)
    rcases(bN 0 b J hJ E hE N1 p1 hR1 hp1 hn1 x1.lab x1.g.ver ⟨(X13 11).A 0,(X13 11).c 0,r1⟩).two (l6 _ _ _ _ _) hp1 hn1 hR1 with⟨d14,p14,N14,hm14,hs14,hp14,hn14,hR14,hN14,S14⟩|⟨wq14,p14,N14,W14,hm14,hs14,hN14,hW14,S14⟩
    .have hl14:=cA hm14
     have O1:=S14;refine rg O a6 [96,0,2,5,6] [0,2] [(7,lc J E (.bool (.v d14)) N14 p14)] Z fun X14 _ _ Z=>?_
     apply a7 Z rfl<;>intro hb Z
     .have td:d14=true:=by exact hb
      have O1:=An 0 b J E hE N14 ⟨0,⟨0,0⟩,0,zRA,fH⟩ p14.note 0 fb fv;refine rg O a6 [0,2] [0,2] [(4,.x fun _=>⟨i4,[(0,E0 J E N14 (wqA X00 (aP ⟨0,fb,fv,[],0,false⟩)) p14.note)],[]⟩)] Z fun X15 _ _ Z=>?_
      replace Z:=Z.keep [0,2] [0,2];exact wp_exit (⟨(.sp N14 (wqA X00 (aP ⟨0,fb,fv,[],0,false⟩)) p14.note,B9),⟨X00,(aP ⟨0,fb,fv,[],0,false⟩),p14,by simp[Rs.bind,hrun1,P0,G5,<-hfv,<-hfb,tc,<-ha1,hm14,td],hN14,rfl,rfl⟩,by simp[lsM],Z⟩)
     have td:d14=false:=by exact hb
     replace Z:=Z.keep [0,2] [0,2];exact wp_skip (wp_exit (⟨(.go m0 p14 N14,B9),⟨by rw[hrun1,je _ _ _ _ _ m0];simp[P0,Rs.bind,hrun1,P0,G5,<-hfv,<-hfb,tc,<-ha1,hm14,td],hp14,hn14,hR14,(by have:=hf1;have:=hle1;have:=hl14;omega),(by have:=hf1;have:=hle1;have:=hl14;omega),fun h=>absurd (show(-1:Int)<0 by decide) h⟩,by simp[lsM],Z⟩))
    have O1:=S14;refine rg O a6 [96,0,2,5,6] [0,2] [(7,sc J E (.bool .ff) N14 W14 p14.note)] Z fun X14 _ _ Z=>?_
    refine j3 Z rfl (fun Z=>?_);replace Z:=Z.keep [0,2] [0,2];exact wp_skip (wp_exit (⟨(.sp N14 (W14 (X14 7)) p14.note,B9),⟨(X14 7),wq14,p14,by simp[Rs.bind,hrun1,P0,G5,<-hfv,<-hfb,tc,<-ha1,hm14],hN14,(hW14 _),rfl⟩,by simp[lsM],Z⟩))
   have tc:¬(fb=true \/ (x1.g.x.r.n:Int)<J.bucket):=by
    have h9:(if fb=true then true else decide ((x1.g.x.r.n:Int)<J.bucket))=false:=by subst O;exact hb
    revert h9;cases fb<;>simp
   refine wp_skip (wp_seq (rg O a6 [0,2,3,9] [0,2,3,9] [] Z fun X16 _ _ Z=>?_));apply wp_seq
   rcases(bN 0 b J hJ E hE N1 p1 hR1 hp1 hn1 x1.lab x1.g.ver (asR 3 x1.g.x 0)).two (l6 _ _ _ _ _) hp1 hn1 hR1 with⟨d17,p17,N17,hm17,hs17,hp17,hn17,hR17,hN17,S17⟩|⟨wq17,p17,N17,W17,hm17,hs17,hN17,hW17,S17⟩
   .have hl17:=cA hm17
    have O1:=S17;refine rg O a6 [114,0,2,3,9] [0,2,3,9] [(7,lc J E (.bool (.v d17)) N17 p17)] Z fun X17 _ _ Z=>?_
    apply a7 Z rfl<;>intro hb Z
    .have te:d17=true:=by exact hb
     apply wp_seq
     rcases(BL 0 b J hJ E hE N17 p17 hR17 hp17 hn17 x1.lab hx1.lab2 x1.g (asR 3 x1.g.x 0) (hx1.ok.ra.as 3 0) m0 (by have:=hf1;have:=hle1;have:=hl17;omega)).two (F9 _ _ _ _ _ _) hp17 hn17 hR17 with⟨v18,p18,N18,hm18,hs18,hp18,hn18,hR18,hN18,S18⟩|⟨wq18,p18,N18,W18,hm18,hs18,hN18,hW18,S18⟩
     .have O1:=S18
      refine rg O a6 [0,2,3] [0,2,3] [(9,lc J E (i4) N18 p18)] Z fun X18 _ _ Z=>?_
      refine rg O a6 [0,2] [0,2] [] Z fun X19 _ _ Z=>?_
      replace Z:=Z.keep [0,2] [0,2];exact⟨(.go m0 p18 N18,x1.lab),⟨by rw[hrun1,xS _ _ _ _ _ m0 hx1.lab2];simp[P0,Rs.bind,hrun1,P0,G5,<-hfv,<-hfb,tc,hm17,te,hm18],hp18,hn18,hR18,(by have:=hf1;have:=hle1;have:=hl17;have:=hs18.le;omega),(by have:=hf1;have:=hle1;have:=hl17;have:=hs18.le;omega),fun _=>hx1.lab2⟩,by simp[lsM],Z⟩
     have O1:=S18;refine rg O a6 [0,2,3] [0,2,3] [(9,sc J E (i4) N18 W18 p18.note)] Z fun X18 _ _ Z=>?_
     refine rg O a6 [0,2] [0,2] [] Z fun X19 _ _ Z=>?_
     replace Z:=Z.keep [0,2] [0,2];exact⟨(.sp N18 (W18 (X18 9)) p18.note,x1.lab),⟨(X18 9),wq18,p18,by simp[Rs.bind,hrun1,P0,G5,<-hfv,<-hfb,tc,hm17,te,hm18],hN18,(hW18 _),rfl⟩,by simp[lsM],Z⟩
    have te:d17=false:=by exact hb
    replace Z:=Z.keep [0,2] [0,2];exact wp_skip (⟨(.go m0 p17 N17,B9),⟨by rw[hrun1,je _ _ _ _ _ m0];simp[P0,Rs.bind,hrun1,P0,G5,<-hfv,<-hfb,tc,hm17,te],hp17,hn17,hR17,(by have:=hf1;have:=hle1;have:=hl17;omega),(by have:=hf1;have:=hle1;have:=hl17;omega),fun h=>absurd (show(-1:Int)<0 by decide) h⟩,by simp[lsM],Z⟩)
   have O1:=S17;refine rg O a6 [114,0,2,3,9] [0,2,3,9] [(7,sc J E (.bool .ff) N17 W17 p17.note)] Z fun X17 _ _ Z=>?_
   refine j3 Z rfl (fun Z=>?_);replace Z:=Z.keep [0,2] [0,2];exact wp_skip (⟨(.sp N17 (W17 (X17 7)) p17.note,B9),⟨(X17 7),wq17,p17,by simp[Rs.bind,hrun1,P0,G5,<-hfv,<-hfb,tc,hm17],hN17,(hW17 _),rfl⟩,by simp[lsM],Z⟩)
  .exact (hJ:False).elim
  dsimp only[lsC,lsB,spL]at hJ Z;obtain⟨X1,wq1,pp1,hsp1,hN1,hW1,ht1⟩:=hJ;subst ht1;have O1:=SN;refine wp_seq (rg O a6 [0,2,3] [0,2,3] [(0,.r fun _=>.agg [.int .i64 (-1),.int .u64 0])] Z fun X8 _ _ Z=>?_);refine wp_seq (wp_seq (rg O a6 [48,0,2,3] [0,2,3] [] Z fun X9 _ _ Z=>?_));refine j1 Z rfl (fun Z=>?_);exact wp_ret ((rst O a6 Z (q:=pp1) (wq:=wq1) X1 (hsp1) hN1 hW1).1)
 .exact (hJ:False).elim
 dsimp only[lsC,lsB]at hJ Z;obtain⟨X0,wq0,pp0,hsp0,hN0,hW0,ht0⟩:=hJ;subst ht0;refine wp_seq (wp_seq (rg O a6 [25,0,2] [0,2] [] Z fun X3 _ _ Z=>?_));refine j3 Z rfl (fun Z=>?_);exact wp_exit ((rst O a6 Z (q:=pp0) (wq:=wq0) X0 (hsp0) hN0 hW0).2)
theorem FJ(k0 b:Nat)(J:i5)(hJ:j0 J)(E:r9)(hE:E.n<=1000000)(N:Nat)(p:Pst)(hR:Rel E N p)(hp:f9 p)(hn:p.n<=1000000)(hv:¬64<J.val.size)(n:Nat)(hf:p.n<n):u3 59 k0 b J E N p [] (fun _=>i4) (i4) (gb J.bucket (J.budget-E.n) J.how J.key J.val n B9 p):=u3.re (BC b J hJ E hE N p hR hp hn hv n hf) (by repeat(first|exact trivial|refine⟨zr,?_⟩))
def qX(bk k how key:Int)(n:Nat)(p:Pst):Rs Unit:=(Y5 bk k how key n p).bind G5
theorem fN(bk k how key:Int)(n:Nat)(p:Pst):qX bk k how key (n+1) p=(Y5 bk k how key (n+1) p).bind G5:=rfl
theorem Bv(b:Nat)(J:i5)(hJ:j0 J)(E:r9)(hE:E.n<=1000000)(N:Nat)(p:Pst)(hR:Rel E N p)(hp:f9 p)(hn:p.n<=1000000)(hbk:0<=J.bucket/\J.bucket<=16)(n:Nat)(hf:p.n<n):u3 60 0 b J E N p [] (fun _=>i4) (i4) (qX J.bucket (J.budget-E.n) J.how J.key n p):=by
 intro m w hm hargs hpre;have hN0:N=E.n-p.n:=by have:=hR.n;omega
 refine enX 75 hm hpre hargs Tryz.func60 fun B O a0 Z=>?_
 refine wp_block (l5 (ι:=LSt) (fun q=>[]) (fun q=>[(0,⟨b,147,lsC J E q⟩)]) (fun q=>[]) (fun q=>match q with| .go a r M=>qX J.bucket (J.budget-E.n) J.how J.key n p=qX J.bucket (J.budget-E.n) J.how J.key a r/\f9 r/\r.n<=1000000/\Rel E M r/\r.n<a/\r.n<=p.n| .dn r M=>False| .sp M Q u=>∃(X:i8) (wq:Wq) (pp:Pst),qX J.bucket (J.budget-E.n) J.how J.key n p = .stop wq pp/\M=E.n-pp.n/\Q=wqA X wq/\u=pp.note) (fun q=>lsM q) (.go n p N) ⟨rfl,hp,hn,hR,(by skip;omega),(by skip;omega)⟩ Z ?_)
 rintro q hJ _ _ Z
 rcases q with⟨nn0,p0,N0⟩|⟨p9,N9⟩|⟨N0,Q0,t0⟩
 .dsimp only[lsC,lsB]at hJ Z
  obtain⟨hrun0,hp0,hn0,hR0,hf0,hle0⟩:=hJ;obtain⟨m0,rfl⟩:∃n2,nn0=n2+1:=⟨nn0-1,by omega⟩
  have hN0:N0=E.n-p0.n:=by have:=hR0.n;omega
  refine wp_seq (wp_seq (rg O a6 [11,0] [0] [] Z fun X0 _ _ Z=>?_));refine j1 Z rfl (fun Z=>?_);refine wp_skip (wp_block (wp_seq ?_))
  rcases(yq 0 b J hJ E hE N0 p0 hR0 hp0 hn0 J.key hJ.key (m0+1) (by have:=hf0;have:=hle0;omega)).two (R4 _ _ _ _ _ _) hp0 hn0 hR0 with⟨s1,p1,N1,hm1,hs1,hp1,hn1,hR1,hN1,S1⟩|⟨wq1,p1,N1,W1,hm1,hs1,hN1,hW1,S1⟩
  .have hx1:=dq hJ.key hp0 hm1
   have O1:=S1;refine rg O a6 [0,2] [0,2] [(6,lc J E (L9 s1) N1 p1)] Z fun X1 _ _ Z=>?_
   refine wp_seq (wp_seq (rg O a6 [22,0,2] [0,2] [] Z fun X2 _ _ Z=>?_));refine j3 Z rfl (fun Z=>?_);have SF:=sF s1.g.x hx1.ok.ra J.key;obtain⟨fv,hfv⟩:=eqv (lK s1.g.x J.key);rw[<-hfv]at SF;obtain⟨fb,hfb⟩:=eqv (lL s1.g.x J.key);rw[<-hfb]at SF;have O1:=SF;refine wp_skip (wp_seq (drg O a6 [0,2,3,4] [0,2] [(8,.r fun _=>.tup [.str fv,.bool (.v fb)])] Z fun X3 _ _ Z=>?_));refine wp_seq (wp_seq (rg O a6 [36,0,2,3] [0,2] [] Z fun X4 _ _ Z=>?_));apply a7 Z rfl<;>intro hb Z
   .have tb:fb=false:=by subst O;revert hb;cases fb<;>simp[std]
    apply wp_seq;refine rg O a6 [] [0] [(2,.x fun _=>⟨i4,[(0,E0 J E N1 (wqA X00 (aP ⟨0,false,⟨#[]⟩,[],0,false⟩)) p1.note)],[]⟩)] Z (hob:=by intro X;subst O;simp only[b7,Ob.holds,BE.den]<;>and_intros<;>repeat first|trivial|rfl|exact v8.re (An 0 b J E hE N1 ⟨0,⟨0,0⟩,0,zRA,fH⟩ p1.note 0 false ⟨#[]⟩) ⟨zr,Sim.agg ⟨zr,Sim.ff,zr,zr,zr,zr,trivial⟩,trivial⟩ rfl fun _=>⟨rfl,rfl,zr,rfl⟩|exact(fun _ _=>by kernel_rfl)|refine⟨?_,?_⟩|intro h|exact Int.le_refl _|decide|omega) fun X5 _ _ Z=>?_
    exact wp_ret ((rst O a6 Z (q:=p1) (wq:=(aP ⟨0,false,⟨#[]⟩,[],0,false⟩)) X00 (by simp[Rs.bind,hrun0,fN,Y5,G5,hm1,<-hfv,<-hfb,tb,aJ]) hN1 rfl).1)
   have tb:fb=true:=by subst O;revert hb;cases fb<;>simp[std]
   have SW:=Ee s1.g.x hx1.ok.ra J.key;obtain⟨r1,hr1⟩:=eqv ((oA s1.g.x J.key).1.rn);rw[<-hr1]at SW;obtain⟨e1,he1⟩:=eqv ((oA s1.g.x J.key).2);rw[<-he1]at SW;have ha1:r1.abs=(oA s1.g.x J.key).1:=by rw[hr1];exact Q4 _
   have O1:=SW;refine wp_skip (wp_seq (drg O a6 [0,2,3,5] [0,2,5] [(8,.r fun y=>.tup [.agg [.int .i64 r1.kd,.sl none (y.A 0) r1.n (y.c 0) 2 (fun i=>itC (r1.f i)),.int .i64 r1.nx.len,.int .u64 r1.nx.bits,.int .u64 r1.mrk],.bool (.v e1)])] Z fun X6 _ _ Z=>?_));apply wp_seq
   rcases(bN 0 b J hJ E hE N1 p1 hR1 hp1 hn1 s1.lab s1.g.ver ⟨(X6 8).A 0,(X6 8).c 0,r1⟩).two (l6 _ _ _ _ _) hp1 hn1 hR1 with⟨d7,p7,N7,hm7,hs7,hp7,hn7,hR7,hN7,S7⟩|⟨wq7,p7,N7,W7,hm7,hs7,hN7,hW7,S7⟩
   .have hl7:=cA hm7
    have O1:=S7;refine rg O a6 [59,0,2,3] [0,2] [(7,lc J E (.bool (.v d7)) N7 p7)] Z fun X7 _ _ Z=>?_
    apply a7 Z rfl<;>intro hb Z
    .have td:d7=true:=by exact hb
     refine wp_seq (rg O a6 [0,2] [0,2] [] Z fun X8 _ _ Z=>?_);replace Z:=Z.memS (cells':=T0 J E N7 ⟨0,true,fv⟩) (by subst O;exact⟨zr,zr,zr,zr,zr,zr,zr,zr,zr,zr,zr,zr,zr,zr,zr,zr,zr,zr,zr,zr,zr,zr,zr,zr,zr,zr,zr,zr,zr,zr,zr,zr,zr,zr,Sim.tt,zr,zr,zr,zr,trivial⟩);apply wp_seq
     rcases(Fx 0 b J hJ E hE N7 (p7.nt ⟨0,true,fv⟩) ⟨hR7.n,hR7.g⟩ hp7 hn7 hbk s1.lab hx1.lab2 m0 (show p7.n<m0 by have:=hf0;have:=hle0;have:=hs1.le;have:=hl7;omega)).two (kx _ _ _ _ _) hp7 hn7 ⟨hR7.n,hR7.g⟩with⟨v9,p9,N9,hm9,hs9,hp9,hn9,hR9,hN9,S9⟩|⟨wq9,p9,N9,W9,hm9,hs9,hN9,hW9,S9⟩
     .have hnt:p9.note=⟨0,true,fv⟩:=(sP _ _ _ _ _).of hm9
      have O1:=S9;refine rg O a6 [0] [0] [(3,lc J E (i4) N9 p9)] Z fun X9 _ _ Z=>?_
      have O1:=An 0 b J E hE N9 ⟨0,⟨0,0⟩,0,zRA,fH⟩ p9.note p9.note.code p9.note.had p9.note.val;refine rg O a6 [0] [0] [(5,.x fun _=>⟨i4,[(0,E0 J E N9 (wqA X00 (aP ⟨p9.note.code,p9.note.had,p9.note.val,[],0,false⟩)) p9.note)],[]⟩)] Z fun X10 _ _ Z=>?_
      replace Z:=Z.keep [0] [0];exact⟨.sp N9 (wqA X00 (aP ⟨p9.note.code,p9.note.had,p9.note.val,[],0,false⟩)) p9.note,⟨X00,(aP ⟨p9.note.code,p9.note.had,p9.note.val,[],0,false⟩),p9,by simp[Rs.bind,hrun0,fN,Y5,G5,hm1,<-hfv,<-hfb,tb,<-ha1,hm7,td,hm9,hnt],hN9,rfl,rfl⟩,by simp[lsM],Z⟩
     have O1:=S9;refine rg O a6 [0] [0] [(3,sc J E (i4) N9 W9 p9.note)] Z fun X9 _ _ Z=>?_
     refine rg O a6 [0] [0] [(5,.x fun _=>⟨i4,[(0,E0 J E N9 (W9 (X9 3)) p9.note)],[]⟩)] Z (hob:=by intro X;subst O;simp only[b7,Ob.holds,BE.den]<;>and_intros<;>repeat first|trivial|rfl|exact L5.re (Aj b J E hE N9 (W9 (X9 3)) p9.note ⟨p9.note.code,p9.note.had,p9.note.val,none,0,0,fun _=>C2,0,false⟩) ⟨Sim.agg ⟨zr,zr,zr,zq0,zr,Sim.ff,trivial⟩,trivial⟩|exact(fun _ _=>by kernel_rfl)|refine⟨?_,?_⟩|intro h|exact Int.le_refl _|decide|omega) fun X10 _ _ Z=>?_
     replace Z:=Z.keep [0] [0];exact⟨.sp N9 (W9 (X9 3)) p9.note,⟨(X9 3),wq9,p9,by simp[Rs.bind,hrun0,fN,Y5,G5,hm1,<-hfv,<-hfb,tb,<-ha1,hm7,td,hm9],hN9,(hW9 _),rfl⟩,by simp[lsM],Z⟩
    have td:d7=false:=by exact hb
    replace Z:=Z.keep [0] [0];exact wp_skip (⟨.go m0 p7 N7,⟨by rw[hrun0,fN];simp[Y5,qX,Rs.bind,hrun0,fN,Y5,G5,hm1,<-hfv,<-hfb,tb,<-ha1,hm7,td],hp7,hn7,hR7,(by have:=hf0;have:=hle0;have:=hs1.le;have:=hl7;omega),(by have:=hf0;have:=hle0;have:=hs1.le;have:=hl7;omega)⟩,by simp[lsM],Z⟩)
   have O1:=S7;refine rg O a6 [59,0,2,3] [0,2] [(7,sc J E (.bool .ff) N7 W7 p7.note)] Z fun X7 _ _ Z=>?_
   refine j3 Z rfl (fun Z=>?_);replace Z:=Z.keep [0] [0];exact wp_skip (⟨.sp N7 (W7 (X7 7)) p7.note,⟨(X7 7),wq7,p7,by simp[Rs.bind,hrun0,fN,Y5,G5,hm1,<-hfv,<-hfb,tb,<-ha1,hm7],hN7,(hW7 _),rfl⟩,by simp[lsM],Z⟩)
  have O1:=S1;refine rg O a6 [0,2] [0,2] [(6,sc J E (T6) N1 W1 p1.note)] Z fun X1 _ _ Z=>?_
  refine wp_seq (wp_seq (rg O a6 [22,0,2] [0,2] [] Z fun X2 _ _ Z=>?_));refine j1 Z rfl (fun Z=>?_);exact wp_ret ((rst O a6 Z (q:=p1) (wq:=wq1) (X1 6) (by simp[Rs.bind,hrun0,fN,Y5,G5,hm1]) hN1 (hW1 _)).1)
 .exact (hJ:False).elim
 dsimp only[lsC,lsB]at hJ Z;obtain⟨Xq0,wq0,pp0,hsp0,hN0,hW0,ht0⟩:=hJ;subst ht0;refine wp_seq (wp_seq (rg O a6 [11,0] [0] [] Z fun X0 _ _ Z=>?_));refine j3 Z rfl (fun Z=>?_);exact wp_exit ((rst O a6 Z (q:=pp0) (wq:=wq0) Xq0 (hsp0) hN0 hW0).2)
theorem Fy(k0 b:Nat)(J:i5)(hJ:j0 J)(E:r9)(hE:E.n<=1000000)(N:Nat)(p:Pst)(hR:Rel E N p)(hp:f9 p)(hn:p.n<=1000000)(hbk:0<=J.bucket/\J.bucket<=16)(n:Nat)(hf:p.n<n):u3 60 k0 b J E N p [] (fun _=>i4) (i4) (qX J.bucket (J.budget-E.n) J.how J.key n p):=u3.re (Bv b J hJ E hE N p hR hp hn hbk n hf) (by repeat(first|exact trivial|refine⟨zr,?_⟩))
theorem FC(J:i5)(E:r9):v8 Tryz.prog 38 [aR J,cR E.A E.n E.c E.f] [] (fun x=>⟨.ptr 9 x.b 0,[],[(9,⟨x.b,147,T0 J E 0 nt0⟩)]⟩):=by
 intro m w hm hargs hpre;refine enX 10 hm hpre hargs Tryz.func38 fun B O a0 Z=>?_
 refine wp_seq (rg O a6 [1,2] [2] [] Z fun X0 _ _ Z=>?_);refine wp_seq (rg O a6 [4] [9,9] [] Z fun X1 _ _ Z=>?_);refine wp_ret ((rx O a6 Z (⟨(X1 4).b,fun _=>none,fun _=>0,fun _=>.empty⟩) [9] (he:=?_) (hn:=?_)).1)
 .subst O;exact Sim.ptr
 exact⟨⟨_,rfl,by subst O;exact⟨zr,zr,zr,zr,zr,zr,zr,zr,zr,zr,zr,zr,zr,zr,zr,zr,zr,zr,zr,zr,zr,zr,zr,zr,zr,zr,zr,zr,zr,zr,zr,zr,zr,zr,Sim.ff,zr,zr,zr,zr,trivial⟩⟩,(by intro e he;cases he),(by simp),trivial⟩
theorem zw(b:Nat)(J:i5)(E:r9)(N:Nat)(Q:A8)(t:Nt)(h:N<E.n):v8 Tryz.prog 42 [.ptr 0 b 0] [(0,⟨b,147,E0 J E N Q t⟩)] (fun _=>⟨.tup [.agg [.int .i64 0,.int .i64 0,.int .u64 0,.int .u64 0,.int .i64 0,.sl none none 0 0 2 (fun _=>[]),.int .i64 0,.int .u64 0,.int .u64 0,.int .i64 0,.bool .ff,.str ⟨#[]⟩,.sl none none 0 0 2 (fun _=>[]),.int .u64 0,.bool .ff],.int .i64 5],[(0,E0 J E N Q t)],[]⟩):=by
 intro m w hm hargs hpre;refine enX 19 hm hpre hargs Tryz.func42 fun B O a0 Z=>?_
 refine wp_seq (rg O a6 [0,2] [0,2] [] Z fun X0 _ _ Z=>?_);refine wp_seq (wp_seq (drg O a6 [13,0,2] [0,2] [] Z fun X1 _ _ Z=>?_));apply a7 Z rfl<;>intro hb Z
 .skip
  refine wp_seq (rg O a6 [2,3] [0,2] [] Z fun X2 _ _ Z=>?_);exact wp_ret ((rx O a6 Z f8 []).1)
 exfalso
 have h9:¬N<E.n:=by
  have:¬(N:Int)<(E.n:Int):=by subst O;simpa[std,a8]using hb
  omega
 exact h9 h
theorem vZ(k0:Nat)(b:Nat)(J:i5)(E:r9)(N:Nat)(Q:A8)(t:Nt)(h:N<E.n):v8 Tryz.prog 42 [.ptr k0 b 0] [(k0,⟨b,147,E0 J E N Q t⟩)] (fun _=>⟨.tup [.agg [.int .i64 0,.int .i64 0,.int .u64 0,.int .u64 0,.int .i64 0,.sl none none 0 0 2 (fun _=>[]),.int .i64 0,.int .u64 0,.int .u64 0,.int .i64 0,.bool .ff,.str ⟨#[]⟩,.sl none none 0 0 2 (fun _=>[]),.int .u64 0,.bool .ff],.int .i64 5],[(k0,E0 J E N Q t)],[]⟩):=
 (zw b J E N Q t h).re (by repeat(first|exact trivial|refine⟨Sim.ptr,?_⟩|refine⟨Sim.fn ⟨Sim.ptr,trivial⟩ trivial,?_⟩|refine⟨Sim.fn trivial ⟨Sim.ptr,trivial⟩,?_⟩|refine⟨zr,?_⟩)) rfl (fun x=>⟨rfl,rfl,zr,rfl⟩)
theorem zx(b:Nat)(J:i5)(E:r9)(N:Nat)(Q:A8)(t:Nt)(h:¬N<E.n):v8 Tryz.prog 42 [.ptr 0 b 0] [(0,⟨b,147,E0 J E N Q t⟩)] (fun _=>⟨.tup [D5 Q,.int .i64 0],[(0,E0 J E N Q t)],[]⟩):=by
 intro m w hm hargs hpre;refine enX 19 hm hpre hargs Tryz.func42 fun B O a0 Z=>?_
 refine wp_seq (rg O a6 [0,2] [0,2] [] Z fun X0 _ _ Z=>?_);refine wp_seq (wp_seq (drg O a6 [13,0,2] [0,2] [] Z fun X1 _ _ Z=>?_));apply a7 Z rfl<;>intro hb Z
 .exfalso
  have h9:N<E.n:=by
   have:(N:Int)<(E.n:Int):=by subst O;simpa[std,a8]using hb
   omega
  exact h h9
 skip
 refine wp_skip (wp_seq (rg O a6 [2,3] [0,2] [] Z fun X3 _ _ Z=>?_));exact wp_ret ((rx O a6 Z f8 []).1)
theorem wc(k0:Nat)(b:Nat)(J:i5)(E:r9)(N:Nat)(Q:A8)(t:Nt)(h:¬N<E.n):v8 Tryz.prog 42 [.ptr k0 b 0] [(k0,⟨b,147,E0 J E N Q t⟩)] (fun _=>⟨.tup [D5 Q,.int .i64 0],[(k0,E0 J E N Q t)],[]⟩):=
 (zx b J E N Q t h).re (by repeat(first|exact trivial|refine⟨Sim.ptr,?_⟩|refine⟨Sim.fn ⟨Sim.ptr,trivial⟩ trivial,?_⟩|refine⟨Sim.fn trivial ⟨Sim.ptr,trivial⟩,?_⟩|refine⟨zr,?_⟩)) rfl (fun x=>⟨rfl,rfl,zr,rfl⟩)
theorem FL(k0 b:Nat)(J:i5)(hJ:j0 J)(E:r9)(hE:E.n<=1000000)(N:Nat)(p:Pst)(hR:Rel E N p)(hp:f9 p)(hn:p.n<=1000000)(n:Nat)(hf:p.n<n):u3 59 k0 b J E N p [] (fun _=>i4) i4 ((eJ J.bucket (J.budget-E.n) J.how J.key J.val n p).bind G5:Rs Unit):=by
 by_cases hv:64<J.val.size
 .have e:((eJ J.bucket (J.budget-E.n) J.how J.key J.val n p).bind G5:Rs Unit) = .stop (aP ⟨2,false,⟨#[]⟩,[],0,false⟩) p:=by unfold eJ;rw[if_pos hv];rfl
  rw[e];exact FK k0 b J hJ E hE N p hR hp hn hv
 have e:((eJ J.bucket (J.budget-E.n) J.how J.key J.val n p).bind G5:Rs Unit)=gb J.bucket (J.budget-E.n) J.how J.key J.val n B9 p:=by rw[je];unfold eJ;rw[if_neg hv]
 rw[e];exact FJ k0 b J hJ E hE N p hR hp hn hv n hf
theorem FA(k0 b:Nat)(J:i5)(hJ:j0 J)(E:r9)(hE:E.n<=1000000)(N:Nat)(p:Pst)(hR:Rel E N p)(hp:f9 p)(hn:p.n<=1000000)(hbk:0<=J.bucket/\J.bucket<=16)(n:Nat)(hf:p.n<n):u3 60 k0 b J E N p [] (fun _=>i4) i4 ((Y5 J.bucket (J.budget-E.n) J.how J.key n p).bind G5:Rs Unit):=Fy k0 b J hJ E hE N p hR hp hn hbk n hf
theorem uj(r:Rs Rsl):L8 (r.bind G5)=L8 r:=by cases r<;>rfl
theorem oO{r:Rs Rsl}{w:Wq}{q:Pst}(h:(r.bind G5:Rs Unit) = .stop w q):(r.bind G5:Rs Rsl) = .stop w q:=by
 cases r with
 |ok a p=>injection h with h1 h2;subst h1;subst h2;rfl
 |stop w' p=>injection h with h1 h2;subst h1;subst h2;rfl
theorem qp{k0 b:Nat}{J:i5}{E:r9}{f:FuncId}{N:Nat}{p:Pst}{args:List AV}{enc:Unit->AV}{dfl:AV}{r:Rs Rsl}(h:u3 f k0 b J E N p args enc dfl (r.bind G5:Rs Unit))(hf:Fro p r)(hp:f9 p)(hn:p.n<=1000000)(hR:Rel E N p) :
  ∃wq q M,∃W:i8->A8,(r.bind G5:Rs Unit) = .stop wq q/\Suf p q/\M=E.n-q.n/\(∀x,W x=wqA x wq)/\v8 Tryz.prog f (.ptr k0 b 0::args) [(k0,⟨b,147,T0 J E N p.note⟩)] (fun x=>⟨dfl,[(k0,E0 J E M (W x) q.note)],[]⟩):=by
 rcases h.two (hf.bind fun _ _ _=>U2 _ _) hp hn hR with⟨v,q,M,h1,_⟩|h
 .cases r<;>cases h1
 exact h
theorem FP(J:i5)(hJ:da J)(E:r9)(hEn:E.n<=900000)(hin:∀j,j<E.n->InG (E.f j)):j7 Tryz.prog 23 [aR J,cR E.A E.n E.c E.f] (fun x=>.tup [D5 (wqA x (J7 J E.n E.f).1),.int .i64 (J7 J E.n E.f).2]):=by
 intro m w hm hargs;have S1:=HW J hJ.lab E.A E.n E.c E.f hin;obtain⟨rt,hrt⟩:=eqv ((K4 E.n E.f&&E5 J));rw[<-hrt]at S1;have SN:=FC J E;refine en 41 hm hargs Tryz.func23 fun B O a0 Z=>?_
 refine wp_seq (rg O a6 [1,2,4] [6,2,4] [] Z fun X0 _ _ Z=>?_);have O1:=S1;refine wp_seq (wp_seq (rg O a6 [22,1,2,4] [6,2,4] [(2,.r fun _=>.bool (.v rt))] Z fun X1 _ _ Z=>?_));apply a7 Z rfl<;>intro hb Z
 .have hf:(E5 J&&(decide (J.kind=4)||decide (J.kind=5))&&K4 E.n E.f)=false:=by
   have h9:(if(!rt)=true then true else(if(J.kind != 4)=true then(J.kind != 5)else false))=true:=by subst O;exact hb
   cases hr:rt
   .rw [hr]at hrt;cases h1:K4 E.n E.f<;>cases h2:E5 J<;>simp[h1,h2]at hrt ⊢
   rw[hr]at h9;rw[z8]at h9;by_cases k4:J.kind=4<;>by_cases k5:J.kind=5<;>simp[k4,k5]at h9 ⊢
  refine wp_seq (rg O a6 [4,5] [6,4] [] Z fun X2 _ _ Z=>?_);refine wp_ret ((rsi O a6 Z (⟨0,fun _=>none,fun _=>0,fun _=>.empty⟩) (he:=?_)));subst O;have ht9:J7 J E.n E.f=(zWq,1):=by unfold J7;rw[hf];rfl
  rw[ht9];exact Sim.tup ⟨Sim.agg ⟨zr,zr,zr,zr,zr,zq0,zr,zr,zr,zr,zr,zr,zq0,zr,zr,trivial⟩,zr,trivial⟩
 have hf:(E5 J&&(decide (J.kind=4)||decide (J.kind=5))&&K4 E.n E.f)=true:=by
  have h9:(if(!rt)=true then true else(if(J.kind != 4)=true then(J.kind != 5)else false))=false:=by subst O;exact hb
  cases hr:rt
  .rw [hr]at h9;cases h9
  rw[hr]at h9 hrt;rw[z8]at h9;cases h1:K4 E.n E.f<;>cases h2:E5 J<;>simp[h1,h2]at hrt ⊢
  by_cases k4:J.kind=4<;>by_cases k5:J.kind=5<;>simp[k4,k5]at h9 ⊢
 have hjb:E5 J=true:=by
  simp only[Bool.and_eq_true]at hf;exact hf.1.1
 have hag:K4 E.n E.f=true:=by
  simp only[Bool.and_eq_true]at hf;exact hf.2
 have hkd:J.kind=4 \/ J.kind=5:=by
  simp only[Bool.and_eq_true,Bool.or_eq_true,decide_eq_true_eq]at hf;exact hf.1.2
 have hJ1:j0 J:=by
  have:=oB (n:=0) hJ hjb (by omega);have e:J.less 0=J:=by unfold i5.less;simp
  rwa[e]at this
 have hE:E.n<=1000000:=by omega
 obtain⟨p0,hp0e⟩:=eqv (my E.n E.f);have hp0:f9 p0:=by rw[hp0e];exact rb hin hag
 have hn0:p0.n<=1000000:=by rw[hp0e];show E.n<=_;omega
 have hR0:Rel E 0 p0:=by rw[hp0e];exact⟨rfl,fun j=>by show E.f j=E.f (0+j);rw[Nat.zero_add]⟩
 have hnt0:p0.note=nt0:=by rw[hp0e];rfl
 have hN0:0=E.n-p0.n:=by rw[hp0e];show 0=E.n-E.n;omega
 have hpE:p0.n=E.n:=by rw[hp0e];rfl
 have htot:J7 J E.n E.f=L8 ((bJ J (J.budget-E.n) p0).bind G5):=by unfold J7;rw[hf,<-hp0e,uj];rfl
 refine wp_skip (wp_seq ?_);refine rg O a6 [6,2,4] [6,2,4] [(2,.x fun x=>⟨.ptr 6 x.b 0,[],[(6,⟨x.b,147,T0 J E 0 nt0⟩)]⟩)] Z (hob:=by intro X;subst O;simp only[b7,Ob.holds,BE.den]<;>and_intros<;>repeat first|trivial|rfl|exact v8.re SN (zl) rfl fun _=>⟨rfl,rfl,Sim.ptr,rfl⟩|exact(fun _ _=>by kernel_rfl)|refine⟨?_,?_⟩|intro h|exact Int.le_refl _|decide|omega) fun X3 _ _ Z=>?_
 replace Z:=Z.memS (cells':=T0 J E 0 p0.note) (by rw[hnt0];exact zl);refine wp_seq (wp_seq (rg O a6 [29,4,6] [6,4] [] Z fun X4 _ _ Z=>?_));apply a7 Z rfl<;>intro hb Z
 .have k4:J.kind=4:=by subst O;simpa[std,a8]using hb
  obtain⟨wq5,p5,N5,W5,hm5,hs5,hN5,hW5,S5⟩:=qp (FL 6 (X3 2).b J hJ1 E hE 0 p0 hR0 hp0 hn0 (p0.n+1) (Nat.lt_succ_self _)) (tx _ _ _ _ _ _ _) hp0 hn0 hR0;have O1:=S5;refine rg O a6 [4,6] [6,4] [(1,.x fun x=>⟨i4,[(6,E0 J E N5 (W5 x) p5.note)],[]⟩)] Z fun X5 _ _ Z=>?_
  apply wp_seq
  rcases Bool.eq_false_or_eq_true (decide (N5<E.n))with hlt|hlt
  .have O1:=vZ 6 (X3 2).b J E N5 (W5 (X5 1)) p5.note (of_decide_eq_true hlt)
   refine rg O a6 [4,7,8] [6,4,7] [(1,.x fun _=>⟨.tup [.agg [.int .i64 0,.int .i64 0,.int .u64 0,.int .u64 0,.int .i64 0,.sl none none 0 0 2 (fun _=>[]),.int .i64 0,.int .u64 0,.int .u64 0,.int .i64 0,.bool .ff,.str ⟨#[]⟩,.sl none none 0 0 2 (fun _=>[]),.int .u64 0,.bool .ff],.int .i64 5],[(6,E0 J E N5 (W5 (X5 1)) p5.note)],[]⟩)] Z fun X7 _ _ Z=>?_
   have hr9:(bJ J (J.budget-E.n) p0).bind G5 = .stop wq5 p5:=(by unfold bJ;rw[if_pos k4];exact oO hm5);have ht9:J7 J E.n E.f=(zWq,5):=by
    have h9:=of_decide_eq_true hlt;rw[htot,hr9];unfold L8;simp only;rw[if_pos (by have:=hN5;have:=hs5.le;omega)]
   refine wp_seq (rg O a6 [4,5] [6,4] [] Z fun X8 _ _ Z=>?_);refine wp_ret ((rsi O a6 Z (⟨0,fun _=>none,fun _=>0,fun _=>.empty⟩) (he:=?_)));subst O;rw[ht9];exact Sim.tup ⟨Sim.agg ⟨zr,zr,zr,zr,zr,zq0,zr,zr,zr,zr,zr,zr,zq0,zr,zr,trivial⟩,zr,trivial⟩
  have O1:=wc 6 (X3 2).b J E N5 (W5 (X5 1)) p5.note (of_decide_eq_false hlt);refine rg O a6 [4,7,8] [6,4,7] [(1,.x fun _=>⟨.tup [D5 (W5 (X5 1)),.int .i64 0],[(6,E0 J E N5 (W5 (X5 1)) p5.note)],[]⟩)] Z fun X7 _ _ Z=>?_
  have hr9:(bJ J (J.budget-E.n) p0).bind G5 = .stop wq5 p5:=(by unfold bJ;rw[if_pos k4];exact oO hm5);have ht9:J7 J E.n E.f=(wq5,0):=by
   have h9:=of_decide_eq_false hlt;rw[htot,hr9];unfold L8;simp only;rw[if_neg (by have:=hN5;have:=hs5.le;omega)]
  refine wp_seq (rg O a6 [4,5] [6,4] [] Z fun X8 _ _ Z=>?_);refine wp_ret ((rsi O a6 Z ((X5 1)) (he:=?_)));subst O;rw[ht9,<-(hW5 _)];exact zr
 have k4:¬J.kind=4:=by subst O;simpa[std,a8]using hb
 obtain⟨wq6,p6,N6,W6,hm6,hs6,hN6,hW6,S6⟩:=qp (FA 6 (X3 2).b J hJ1 E hE 0 p0 hR0 hp0 hn0 (qb hjb) (p0.n+1) (Nat.lt_succ_self _)) (oE _ _ _ _ _ _) hp0 hn0 hR0;have O1:=S6;refine rg O a6 [4,6] [6,4] [(1,.x fun x=>⟨i4,[(6,E0 J E N6 (W6 x) p6.note)],[]⟩)] Z fun X6 _ _ Z=>?_
 apply wp_seq
 rcases Bool.eq_false_or_eq_true (decide (N6<E.n))with hlt|hlt
 .have O1:=vZ 6 (X3 2).b J E N6 (W6 (X6 1)) p6.note (of_decide_eq_true hlt)
  refine rg O a6 [4,7,8] [6,4,7] [(1,.x fun _=>⟨.tup [.agg [.int .i64 0,.int .i64 0,.int .u64 0,.int .u64 0,.int .i64 0,.sl none none 0 0 2 (fun _=>[]),.int .i64 0,.int .u64 0,.int .u64 0,.int .i64 0,.bool .ff,.str ⟨#[]⟩,.sl none none 0 0 2 (fun _=>[]),.int .u64 0,.bool .ff],.int .i64 5],[(6,E0 J E N6 (W6 (X6 1)) p6.note)],[]⟩)] Z fun X7 _ _ Z=>?_
  have hr9:(bJ J (J.budget-E.n) p0).bind G5 = .stop wq6 p6:=(by unfold bJ;rw[if_neg k4];exact oO hm6);have ht9:J7 J E.n E.f=(zWq,5):=by
   have h9:=of_decide_eq_true hlt;rw[htot,hr9];unfold L8;simp only;rw[if_pos (by have:=hN6;have:=hs6.le;omega)]
  refine wp_seq (rg O a6 [4,5] [6,4] [] Z fun X8 _ _ Z=>?_);refine wp_ret ((rsi O a6 Z (⟨0,fun _=>none,fun _=>0,fun _=>.empty⟩) (he:=?_)));subst O;rw[ht9];exact Sim.tup ⟨Sim.agg ⟨zr,zr,zr,zr,zr,zq0,zr,zr,zr,zr,zr,zr,zq0,zr,zr,trivial⟩,zr,trivial⟩
 have O1:=wc 6 (X3 2).b J E N6 (W6 (X6 1)) p6.note (of_decide_eq_false hlt);refine rg O a6 [4,7,8] [6,4,7] [(1,.x fun _=>⟨.tup [D5 (W6 (X6 1)),.int .i64 0],[(6,E0 J E N6 (W6 (X6 1)) p6.note)],[]⟩)] Z fun X7 _ _ Z=>?_
 have hr9:(bJ J (J.budget-E.n) p0).bind G5 = .stop wq6 p6:=(by unfold bJ;rw[if_neg k4];exact oO hm6);have ht9:J7 J E.n E.f=(wq6,0):=by
  have h9:=of_decide_eq_false hlt;rw[htot,hr9];unfold L8;simp only;rw[if_neg (by have:=hN6;have:=hs6.le;omega)]
 refine wp_seq (rg O a6 [4,5] [6,4] [] Z fun X8 _ _ Z=>?_);refine wp_ret ((rsi O a6 Z ((X6 1)) (he:=?_)));subst O;rw[ht9,<-(hW6 _)];exact zr
theorem tV{n:Nat}{f:Nat->C1}(h:(if n<=300 then qB n f else true)=false):n<=300/\∀i,i<n->(f i).x.r.n<=40:=by
 by_cases hn:n<=300
 .rw [if_pos hn]at h
  refine⟨hn,fun i hi=>?_⟩;unfold qB at h;simp only[Bool.or_eq_false_iff]at h;exact yQ (sf h.1.2 i hi)
 rw[if_neg hn]at h;cases h
theorem xt{n:Nat}{f:Nat->C1}(hb:n<=300/\∀i,i<n->(f i).x.r.n<=40)(hwf:∀i,i<n->s8 (f i).lab/\U64 (f i).x.r.nx.bits)(hu:∀l,s8 l->U64 l.bits):∀i,i<n->(f i).x.r.n<=1000000/\s8 (f i).lab/\U64 (f i).lab.bits/\U64 (f i).x.r.nx.bits:=fun i hi=>⟨by have:=hb.2 i hi;omega,(hwf i hi).1,hu _ (hwf i hi).1,(hwf i hi).2⟩
theorem ox(l:Lab)(h:s8 l):U64 l.bits:=by
 have:=h.2;simp[Lit.wf,IntKind.min,IntKind.max,IntKind.signed,IntKind.bits]at this;exact⟨by omega,by omega⟩
theorem wz{n:Nat}{f:Nat->C1}(hr:∀i,i<n->s8 (f i).lab/\U64 (f i).ver/\U64 (f i).x.r.nx.bits/\∀t,t<(f i).x.r.n->U64 ((f i).x.r.f t).key):∀r∈F6 f n,RwG r:=by
 intro r hr';obtain⟨i,hi,rfl⟩:=List.mem_map.1 hr';obtain⟨h1,h2,h3,h4⟩:=hr i (List.mem_range.1 hi);refine⟨h1,h2,h3,fun x hx=>?_⟩;obtain⟨t,ht,rfl⟩:=List.mem_map.1 hx;exact h4 t (List.mem_range.1 ht)
theorem jP(A:Option Addr)(n c:Nat)(f:Nat->C1)(hn:n<=maxLen)(hrw:∀i,i<n->s8 (f i).lab/\U64 (f i).ver/\U64 (f i).x.r.nx.bits/\∀t,t<(f i).x.r.n->U64 ((f i).x.r.f t).key)(J:i5)(hJ:da J)(A2:Option Addr)(n2 c2:Nat)(f2:Nat->A8)(hn2:n2<=maxLen)(hw2:∀i,i<n2->(f2 i).x.r.n<=maxLen/\s8 (f2 i).lab/\U64 (f2 i).x.r.nx.bits/\∀t,t<(f2 i).x.r.n->U64 ((f2 i).x.r.f t).key)(hnew:bW (F6 f n)=none):j7 Tryz.prog 6 [aM A n c f,aR J,.sl none A2 n2 c2 15 (fun i=>dU (f2 i))] (fun _=>.bool .tt):=by
 intro m w hm hargs;have hmx:maxLen=9223372036854775807:=rfl;have hwf:∀i,i<n->s8 (f i).lab/\U64 (f i).x.r.nx.bits:=fun i hi=>⟨(hrw i hi).1,(hrw i hi).2.2.1⟩
 have S1:=yP A n c f hn;obtain⟨bl,hbl⟩:=eqv (if n<=300 then qB n f else true);rw[<-hbl]at S1;refine en 103 hm hargs Tryz.func6 fun B O a0 Z=>?_
 refine wp_seq (rg O a6 [0,2,4] [4] [] Z fun X0 _ _ Z=>?_);have O1:=S1;refine wp_seq (wp_seq (rg O a6 [35,0,2,4] [4] [(1,.r fun _=>.bool (.v bl))] Z fun X1 _ _ Z=>?_));apply a7 Z rfl<;>intro hb Z
 .refine wp_seq (rg O a6 [6] [] [] Z fun X2 _ _ Z=>?_)
  refine wp_ret ((rsi O a6 Z f8 (he:=?_)));subst O;exact Sim.bool rfl
 have hb0:bl=false:=by
  have h9:(if(if(if bl=true then true else decide ((20:Int)<(n2:Int)))=true then true else decide ((600:Int)<(J.pn:Int)))=true then true else decide ((5000:Int)<(J.val.size:Int)))=false:=by subst O;exact hb
  revert h9;cases bl<;>simp
 have hb1:=tV (hbl ▸ hb0);have hN:=xt hb1 hwf ox;refine wp_skip (wp_seq (wp_region_lit (lpr 0 1 O a6 [37,4] [4] [] Z fun X3_0 _ _ Z=>?_)));have SN:=EE A n c f hn hN hnew;refine I8 rfl rfl rfl rfl Z rfl rfl lS SN (fun _ _ _=>trivial) (fun b hb=>by cases hb) (zl) (by intro e he;cases he) rfl rfl (fun y=>noK) (fun _ _ _ _ _ _ _ _ _ _=>trivial) ?_;intro y _ _ Z;refine lnd 2 O a6 [2,4,7,8] [4] [] Z fun X3 _ _ Z=>?_
 refine wp_seq (wp_seq (rg O a6 [42,2,4,7,8] [4] [] Z fun X4 _ _ Z=>?_));refine j1 Z rfl (fun Z=>?_);have O1:=eQ;refine wp_seq (rg O a6 [6] [] [(0,.r fun _=>.bool .tt)] Z fun X5 _ _ Z=>?_);refine wp_ret ((rsi O a6 Z f8 (he:=?_)));subst O;refine Sim.bool ?_;simp[std,a8,BE.den,mE]
theorem jb(A:Option Addr)(n c:Nat)(f:Nat->C1)(hn:n<=maxLen)(hrw:∀i,i<n->s8 (f i).lab/\U64 (f i).ver/\U64 (f i).x.r.nx.bits/\∀t,t<(f i).x.r.n->U64 ((f i).x.r.f t).key)(J:i5)(hJ:da J)(A2:Option Addr)(n2 c2:Nat)(f2:Nat->A8)(hn2:n2<=maxLen)(hw2:∀i,i<n2->(f2 i).x.r.n<=maxLen/\s8 (f2 i).lab/\U64 (f2 i).x.r.nx.bits/\∀t,t<(f2 i).x.r.n->U64 ((f2 i).x.r.f t).key){L:Shf}(hnew:bW (F6 f n)=some L):j7 Tryz.prog 6 [aM A n c f,aR J,.sl none A2 n2 c2 15 (fun i=>dU (f2 i))] (fun _=>.bool .tt):=by
 intro m w hm hargs;have hmx:maxLen=9223372036854775807:=rfl;have hwf:∀i,i<n->s8 (f i).lab/\U64 (f i).x.r.nx.bits:=fun i hi=>⟨(hrw i hi).1,(hrw i hi).2.2.1⟩
 have S1:=yP A n c f hn;obtain⟨bl,hbl⟩:=eqv (if n<=300 then qB n f else true);rw[<-hbl]at S1;refine en 103 hm hargs Tryz.func6 fun B O a0 Z=>?_
 refine wp_seq (rg O a6 [0,2,4] [4] [] Z fun X0 _ _ Z=>?_);have O1:=S1;refine wp_seq (wp_seq (rg O a6 [35,0,2,4] [4] [(1,.r fun _=>.bool (.v bl))] Z fun X1 _ _ Z=>?_));apply a7 Z rfl<;>intro hb Z
 .refine wp_seq (rg O a6 [6] [] [] Z fun X2 _ _ Z=>?_)
  refine wp_ret ((rsi O a6 Z f8 (he:=?_)));subst O;exact Sim.bool rfl
 have hb0:bl=false:=by
  have h9:(if(if(if bl=true then true else decide ((20:Int)<(n2:Int)))=true then true else decide ((600:Int)<(J.pn:Int)))=true then true else decide ((5000:Int)<(J.val.size:Int)))=false:=by subst O;exact hb
  revert h9;cases bl<;>simp
 have hb1:=tV (hbl ▸ hb0);have hN:=xt hb1 hwf ox;refine wp_skip (wp_seq (wp_region_lit (lpr 0 1 O a6 [37,4,2] [4] [] Z fun X3_0 _ _ Z=>?_)));have SN:=sR A n c f hn hN 14 hnew;have hg0:dY L:=fg (wz hrw) hnew;refine I8 rfl rfl rfl rfl Z rfl rfl lS (SN) (fun _ _ _=>trivial) (fun b hb=>by cases hb) (zl) (by intro e he;cases he) rfl rfl (fun y=>shF w.heap.size (y.c 0) L) (fun n x m w m' w' hn _ _ h=>⟨Nat.le_trans hn h.1,h.2⟩) ?_;intro y _ _ Z;obtain⟨sb,hsb⟩:=eqv (y.b);obtain⟨bM,hbM⟩:=eqv (y.c 0);rw[<-hsb,<-hbM]at Z;have hbfr:w.heap.size<=bM:=Z.kept.1;replace Z:=Z.withK (K':=shK bM L) Z.kept.2;refine lnd 2 O a6 [2,4,7,8] [14,4] [] Z fun X3 _ _ Z=>?_
 refine wp_seq (wp_seq (rg O a6 [42,2,4,7,8] [14,4] [] Z fun X4 _ _ Z=>?_));refine j3 Z rfl (fun Z=>?_);refine wp_skip (wp_seq (rg O a6 [2,4,7,9] [14,4,9] [] Z fun X6 _ _ Z=>?_));refine wp_seq (wp_seq (rg O a6 [9,10,2,4,7] [14,4,9] [] Z fun X7 _ _ Z=>?_));replace Z:=Z.headS (v':=.sl (some 9) none 0 0 8 (fun t=>Z3 mp)) (zq0) rfl;refine wp_block (cL (ι:=Nat×(Nat->u2)×Option Addr×Nat×Shf×Int) (fun p=>shK bM p.2.2.2.2.1) (fun p=>[(9,.sl (some 9) p.2.2.1 p.1 p.2.2.2.1 8 (fun t=>Z3 (p.2.1 t))),(10,.int .i64 (p.1:Int))]) (fun p=>[(14,⟨sb,95,[.raw (.map (some bM)),.int .i64 p.2.2.2.2.2]⟩)]) (fun p=>[(9,⟨p.2.2.1,p.1,p.2.2.2.1,8,53⟩)]) (fun p=>p.1<=50/\dY p.2.2.2.2.1/\∀j,j<p.1->InG (p.2.1 j)) (fun p=>50-p.1) (0,fun _=>mp,none,0,L,0) ⟨Nat.zero_le _,hg0,fun j hj=>absurd hj (Nat.not_lt_zero _)⟩ Z ?_)
 rintro⟨i,fz,A1,c1,Lc,kc⟩ ⟨hi,hg,hal⟩ _ _ Z
 try dsimp only at hi
 try dsimp only at hg
 try dsimp only at hal
 replace Z:=Z.withK (K':=shK bM Lc) Z.kept;have hwo:=(tH hJ).ok i fz hal;obtain⟨W9,hW9⟩:=eqv ((J7 J i fz).1);obtain⟨E9,hE9⟩:=eqv ((J7 J i fz).2);obtain⟨rr9,hrr9⟩:=eqv (W9.r.rn);obtain⟨nn9,hnn9⟩:=eqv (W9.res.items.length);obtain⟨ff9,hff9⟩:=eqv (itF W9.res.items);have T9:=j7.wq (oM J hJ A1 i c1 fz (by omega) hal) hW9 hE9 hrr9 hnn9 hff9;rw[<-hW9]at hwo;have U10:j7 Tryz.prog 23 [aR J,.sl none A1 i c1 8 (fun t=>Z3 (fz t))] (fun x=>.tup [D5 (wqB x W9 rr9 nn9 ff9),.int .i64 E9]):=j7.wq (FP J hJ ⟨A1,i,c1,fz⟩ (by show i<=_;omega) hal) hW9 hE9 hrr9 hnn9 hff9
 have SS9:j7 Tryz.prog 22 [aR J,.sl (some 9) A1 i c1 8 (fun t=>Z3 (fz t))] (fun x=>.tup [D5 (wqB x W9 rr9 nn9 ff9),.int .i64 E9]):=T9.sim ⟨zr,Sim.recell (fun _ _=>rfl),trivial⟩;have SS10:j7 Tryz.prog 23 [aR J,.sl (some 9) A1 i c1 8 (fun t=>Z3 (fz t))] (fun x=>.tup [D5 (wqB x W9 rr9 nn9 ff9),.int .i64 E9]):=U10.sim ⟨zr,Sim.recell (fun _ _=>rfl),trivial⟩;refine wp_seq (wp_seq (rg O a6 [49,2,4,7,9,10] [14,4,9] [] Z fun X8 _ _ Z=>?_));apply a7 Z rfl<;>intro hb Z
 .have h60:i<50:=by
   have:(i:Int)<50:=by subst O;simpa[std,a8]using hb
   omega
  have O1:=SS9;refine wp_skip (wp_seq (wp_block (wp_seq (rg O a6 [2,4,7,9,10,11,12] [14,4,9,11] [(2,.r fun x=>.tup [.agg [.int .i64 W9.kind,.int .i64 W9.lab.len,.int .u64 W9.lab.bits,.int .u64 W9.ver,.int .i64 rr9.kd,.sl none (x.A 1) rr9.n (x.c 1) 2 (fun i=>itC (rr9.f i)),.int .i64 rr9.nx.len,.int .u64 rr9.nx.bits,.int .u64 rr9.mrk,.int .i64 W9.res.code,.bool (.v W9.res.had),.str W9.res.val,.sl none (x.A 2) nn9 (x.c 2) 2 (fun i=>itC (ff9 i)),.int .u64 W9.res.key,.bool (.v W9.res.more)],.int .i64 E9])] Z fun X10 _ _ Z=>?_))));have O1:=SS10;refine wp_seq (rg O a6 [2,4,7,9,10,11,12,13,14] [14,4,9,11,13] [(2,.r fun x=>.tup [.agg [.int .i64 W9.kind,.int .i64 W9.lab.len,.int .u64 W9.lab.bits,.int .u64 W9.ver,.int .i64 rr9.kd,.sl none (x.A 1) rr9.n (x.c 1) 2 (fun i=>itC (rr9.f i)),.int .i64 rr9.nx.len,.int .u64 rr9.nx.bits,.int .u64 rr9.mrk,.int .i64 W9.res.code,.bool (.v W9.res.had),.str W9.res.val,.sl none (x.A 2) nn9 (x.c 2) 2 (fun i=>itC (ff9 i)),.int .u64 W9.res.key,.bool (.v W9.res.more)],.int .i64 E9])] Z fun X11 _ _ Z=>?_);have O1:=zL (X10 2) (X11 2) W9 rr9 nn9 ff9;refine wp_seq (wp_seq (rg O a6 [72,2,4,7,9,10,11,12] [14,4,9,11] [(2,.r fun _=>.bool .tt)] Z fun X12 _ _ Z=>?_));apply a7 Z rfl<;>intro hb Z
  .exfalso
   subst O;simp[std,a8,BE.den]at hb
  skip
  refine wp_skip (wp_seq (wp_seq (rg O a6 [79,2,4,7,9,10,11] [14,4,9,11] [] Z fun X14 _ _ Z=>?_)));apply a7 Z rfl<;>intro hb Z
  .skip
   have O1:=eQ;refine wp_exit (wp_seq (rg O a6 [6] [] [(0,.r fun _=>.bool .tt)] Z fun X20 _ _ Z=>?_));refine wp_ret ((rsi O a6 Z f8 (he:=?_)));subst O;refine Sim.bool ?_;simp[std,a8,BE.den,mE]
  skip
  refine wp_skip (wp_seq (wp_seq (rg O a6 [83,2,4,7,9,10,11] [14,4,9,11] [] Z fun X15 _ _ Z=>?_)));apply a7 Z rfl<;>intro hb Z
  .have hin:i<n2:=by
    have:(i:Int)<(n2:Int):=by subst O;simpa[std,a8]using hb
    omega
   refine wp_region_lit ?_;refine lpr 0 5 O a6 [84,88,9,10,2,4,7,11] [14,4,9,11] [] Z (hob:=by intro X;subst O;simp only[b7,Ob.holds,BE.den]<;>and_intros<;>repeat first|trivial|rfl|exact(show(0:Int)<=(i:Int)by omega)|exact(show(i:Int)<(n2:Int)by omega)|exact(fun _ _=>by kernel_rfl)|refine⟨?_,?_⟩|intro h|exact Int.le_refl _|decide|omega) fun X16_0 _ _ Z=>?_
   have hqe:(f2 (B.toNat (i:Int)))=f2 i:=by subst O;rw[show std.toNat (i:Int)=i from Int.toNat_natCast i]
   obtain⟨hq1,hq2,hq3,hq4⟩:=hw2 i hin;have hq5:=ox _ hq2;rw[<-hqe]at hq1 hq2 hq3 hq4 hq5;have SD:=Bw 14 sb bM Lc (by have:=hg.ok.len;omega) kc (f2 (B.toNat (i:Int))) hq1 hq2 hq5 hq3;obtain⟨D1,hD1⟩:=eqv (doL Lc (A8.abs (f2 (B.toNat (i:Int)))));rw[<-hD1]at SD;obtain⟨GG1,hGG1⟩:∃G:i8->u2,G=fun y=>cS y D1.got:=⟨_,rfl⟩
   have hGf1:∀y,cS y D1.got=GG1 y:=fun y=>by rw[hGG1]
   simp only[hGf1]at SD;obtain⟨k1,hk1⟩:=eqv ((if D1.wrote then IntKind.i64.wrap (kc+1)else kc));rw[<-hk1]at SD;obtain⟨er1,her1⟩:=eqv (D1.err);rw[<-her1]at SD;obtain⟨L1,hL1⟩:=eqv (D1.L);rw[<-hL1]at SD;refine I8 rfl rfl rfl rfl Z rfl rfl ik SD (fun _ _ h=>h) (fun b hb=>by cases hb;exact fun h=>absurd h (Nat.not_lt.2 hbfr)) ⟨zr,Sim.agg (by repeat(first|exact trivial|refine⟨zr,?_⟩|refine⟨Sim.ff,?_⟩|refine⟨zq0,?_⟩)),trivial⟩ (by intro e he;simp only[List.mem_singleton]at he;subst he;rfl) rfl rfl (fun _=>shK bM L1) (fun _ _ _ _ _ _ _ _ _ h=>h) ?_;intro y _ _ Z;obtain⟨g1,hg1⟩:=eqv (GG1 y);rw[<-hg1]at Z;replace Z:=Z.withK (K':=shK bM L1) Z.kept;have hga1:g1.abs=D1.got:=by rw[hg1,<-hGf1,gV]
   have hg1:dY L1:=by
    rw[hL1,hD1];refine(iw hg ⟨hq2,hq3,fun x hx=>?_⟩).1;obtain⟨t,ht,rfl⟩:=List.mem_map.1 hx;exact hq4 t (List.mem_range.1 ht)
   refine wpList_nil (wp_seq (wp_region_lit (lpr 0 2 O a6 [91,92,9,10,2,4,7] [14,4,9] [] Z fun X17_0 _ _ Z=>?_)));have SD:=Bw 14 sb bM L1 (by have:=hg1.ok.len;omega) k1 (wqB (X10 2) W9 rr9 nn9 ff9) (by show rr9.n<=_;rw[hrr9];have:=hwo.r.few;show W9.r.items.length<=_;omega) hwo.lab.wf hwo.lab.u (by show U64 rr9.nx.bits;rw[hrr9];exact hwo.r.nx)
   obtain⟨D2,hD2⟩:=eqv (doL L1 (A8.abs (wqB (X10 2) W9 rr9 nn9 ff9)));rw[<-hD2]at SD;obtain⟨GG2,hGG2⟩:∃G:i8->u2,G=fun y=>cS y D2.got:=⟨_,rfl⟩
   have hGf2:∀y,cS y D2.got=GG2 y:=fun y=>by rw[hGG2]
   simp only[hGf2]at SD;obtain⟨k2,hk2⟩:=eqv ((if D2.wrote then IntKind.i64.wrap (k1+1)else k1));rw[<-hk2]at SD;obtain⟨er2,her2⟩:=eqv (D2.err);rw[<-her2]at SD;obtain⟨L2,hL2⟩:=eqv (D2.L);rw[<-hL2]at SD;refine I8 rfl rfl rfl rfl Z rfl rfl ik SD (fun _ _ h=>h) (fun b hb=>by cases hb;exact fun h=>absurd h (Nat.not_lt.2 hbfr)) ⟨zr,Sim.agg (by repeat(first|exact trivial|refine⟨zr,?_⟩|refine⟨Sim.ff,?_⟩|refine⟨zq0,?_⟩)),trivial⟩ (by intro e he;simp only[List.mem_singleton]at he;subst he;rfl) rfl rfl (fun _=>shK bM L2) (fun _ _ _ _ _ _ _ _ _ h=>h) ?_;intro y _ _ Z;obtain⟨g2,hg2⟩:=eqv (GG2 y);rw[<-hg2]at Z;replace Z:=Z.withK (K':=shK bM L2) Z.kept;have hga2:g2.abs=D2.got:=by rw[hg2,<-hGf2,gV]
   have hgd:dY D2.L/\U64 D2.got.ver/\U4 D2.got.r:=by
    rw[hD2];have hra:rr9.abs=W9.r:=by rw[hrr9,Q4]
    refine iw hg1 ⟨hwo.lab.wf,?_,?_⟩
    .show U64 rr9.abs.next.bits
     rw[hra];exact hwo.r.nx
    show ∀x∈rr9.abs.items,U64 x.key
    rw[hra];exact hwo.r.key
   have hgi:InG g2:=rI hga2 hgd.2.1 hgd.2.2;have hg2:dY L2:=by rw[hL2];exact hgd.1
   refine lnd 3 O a6 [2,4,7,9,10,15,16] [14,4,9,15] [] Z fun X17 _ _ Z=>?_
   refine wp_seq (wp_seq (rg O a6 [97,2,4,7,9,10,15] [14,4,9,15] [] Z fun X18 _ _ Z=>?_));apply a7 Z rfl<;>intro hb Z
   .skip
    have O1:=eQ;refine wp_exit (wp_seq (rg O a6 [6] [] [(0,.r fun _=>.bool .tt)] Z fun X20 _ _ Z=>?_));refine wp_ret ((rsi O a6 Z f8 (he:=?_)));subst O;refine Sim.bool ?_;simp[std,a8,BE.den,mE]
   skip
   refine wp_skip ?_;refine rg O a6 [9,10,2,4,7] [14,4,9] [] Z (hob:=by intro X;subst O;simp only[b7,Ob.holds,BE.den]<;>and_intros<;>repeat first|trivial|rfl|exact(show i+1<=maxLen by omega)|exact(show(i+1)*80<=140737488355328 by omega)|exact(fun _ _=>by kernel_rfl)|refine⟨?_,?_⟩|intro h|exact Int.le_refl _|decide|omega) fun X19 _ _ Z=>?_
   replace Z:=Z.headS (v':=.sl (some 9) ((X19 3).A 0) (B.nadd i 1) ((X19 3).c 0) 8 (fun t=>Z3 (if t=i then g2 else fz t))) (Sim.resl rfl (fun t ht=>by
    subst O;have ht2:t<i+1:=ht
    show L0 i (fun t=>Z3 (fz t)) (K9 8 (Z3 g2)) t=_
    unfold L0
    split
    .rw [if_neg (by omega)]
    have:t=i:=by omega
    subst this;rw[if_pos rfl];simp[K9])) rfl
   refine rg O a6 [9,10,2,4,7] [14,4,9] [] Z fun X9 _ _ Z=>?_
   have e:B.arith .add .i64 (i:Int) 1=((i+1:Nat):Int):=by subst O;exact o3 (n:=2000) (by omega) (by omega)
   refine⟨(i+1,fun t=>if t=i then g2 else fz t,_,_,L2,k2),⟨by simp only;omega,hg2,fun j hj=>?_⟩,by simp only;omega,by rw[<-e,show i+1=B.nadd i 1 by subst O;rfl];exact Z⟩
   by_cases hji:j=i
   .simp only[if_pos hji];exact hgi
   simp only[if_neg hji];exact hal j (by have h9:j<i+1:=hj;omega)
  skip
  refine wp_skip (wp_seq (wp_region_lit (lpr 0 2 O a6 [91,92,9,10,2,4,7] [14,4,9] [] Z fun X17_0 _ _ Z=>?_)));have SD:=Bw 14 sb bM Lc (by have:=hg.ok.len;omega) kc (wqB (X10 2) W9 rr9 nn9 ff9) (by show rr9.n<=_;rw[hrr9];have:=hwo.r.few;show W9.r.items.length<=_;omega) hwo.lab.wf hwo.lab.u (by show U64 rr9.nx.bits;rw[hrr9];exact hwo.r.nx)
  obtain⟨D2,hD2⟩:=eqv (doL Lc (A8.abs (wqB (X10 2) W9 rr9 nn9 ff9)));rw[<-hD2]at SD;obtain⟨GG2,hGG2⟩:∃G:i8->u2,G=fun y=>cS y D2.got:=⟨_,rfl⟩
  have hGf2:∀y,cS y D2.got=GG2 y:=fun y=>by rw[hGG2]
  simp only[hGf2]at SD;obtain⟨k2,hk2⟩:=eqv ((if D2.wrote then IntKind.i64.wrap (kc+1)else kc));rw[<-hk2]at SD;obtain⟨er2,her2⟩:=eqv (D2.err);rw[<-her2]at SD;obtain⟨L2,hL2⟩:=eqv (D2.L);rw[<-hL2]at SD;refine I8 rfl rfl rfl rfl Z rfl rfl ik SD (fun _ _ h=>h) (fun b hb=>by cases hb;exact fun h=>absurd h (Nat.not_lt.2 hbfr)) ⟨zr,Sim.agg (by repeat(first|exact trivial|refine⟨zr,?_⟩|refine⟨Sim.ff,?_⟩|refine⟨zq0,?_⟩)),trivial⟩ (by intro e he;simp only[List.mem_singleton]at he;subst he;rfl) rfl rfl (fun _=>shK bM L2) (fun _ _ _ _ _ _ _ _ _ h=>h) ?_;intro y _ _ Z;obtain⟨g2,hg2⟩:=eqv (GG2 y);rw[<-hg2]at Z;replace Z:=Z.withK (K':=shK bM L2) Z.kept;have hga2:g2.abs=D2.got:=by rw[hg2,<-hGf2,gV]
  have hgd:dY D2.L/\U64 D2.got.ver/\U4 D2.got.r:=by
   rw[hD2];have hra:rr9.abs=W9.r:=by rw[hrr9,Q4]
   refine iw hg ⟨hwo.lab.wf,?_,?_⟩
   .show U64 rr9.abs.next.bits
    rw[hra];exact hwo.r.nx
   show ∀x∈rr9.abs.items,U64 x.key
   rw[hra];exact hwo.r.key
  have hgi:InG g2:=rI hga2 hgd.2.1 hgd.2.2;have hg2:dY L2:=by rw[hL2];exact hgd.1
  refine lnd 3 O a6 [2,4,7,9,10,15,16] [14,4,9,15] [] Z fun X17 _ _ Z=>?_
  refine wp_seq (wp_seq (rg O a6 [97,2,4,7,9,10,15] [14,4,9,15] [] Z fun X18 _ _ Z=>?_));apply a7 Z rfl<;>intro hb Z
  .skip
   have O1:=eQ;refine wp_exit (wp_seq (rg O a6 [6] [] [(0,.r fun _=>.bool .tt)] Z fun X20 _ _ Z=>?_));refine wp_ret ((rsi O a6 Z f8 (he:=?_)));subst O;refine Sim.bool ?_;simp[std,a8,BE.den,mE]
  skip
  refine wp_skip ?_;refine rg O a6 [9,10,2,4,7] [14,4,9] [] Z (hob:=by intro X;subst O;simp only[b7,Ob.holds,BE.den]<;>and_intros<;>repeat first|trivial|rfl|exact(show i+1<=maxLen by omega)|exact(show(i+1)*80<=140737488355328 by omega)|exact(fun _ _=>by kernel_rfl)|refine⟨?_,?_⟩|intro h|exact Int.le_refl _|decide|omega) fun X19 _ _ Z=>?_
  replace Z:=Z.headS (v':=.sl (some 9) ((X19 3).A 0) (B.nadd i 1) ((X19 3).c 0) 8 (fun t=>Z3 (if t=i then g2 else fz t))) (Sim.resl rfl (fun t ht=>by
   subst O;have ht2:t<i+1:=ht
   show L0 i (fun t=>Z3 (fz t)) (K9 8 (Z3 g2)) t=_
   unfold L0
   split
   .rw [if_neg (by omega)]
   have:t=i:=by omega
   subst this;rw[if_pos rfl];simp[K9])) rfl
  refine rg O a6 [9,10,2,4,7] [14,4,9] [] Z fun X9 _ _ Z=>?_
  have e:B.arith .add .i64 (i:Int) 1=((i+1:Nat):Int):=by subst O;exact o3 (n:=2000) (by omega) (by omega)
  refine⟨(i+1,fun t=>if t=i then g2 else fz t,_,_,L2,k2),⟨by simp only;omega,hg2,fun j hj=>?_⟩,by simp only;omega,by rw[<-e,show i+1=B.nadd i 1 by subst O;rfl];exact Z⟩
  by_cases hji:j=i
  .simp only[if_pos hji];exact hgi
  simp only[if_neg hji];exact hal j (by have h9:j<i+1:=hj;omega)
 skip
 have O1:=eQ;refine wp_exit (wp_seq (rg O a6 [6] [] [(0,.r fun _=>.bool .tt)] Z fun X20 _ _ Z=>?_));refine wp_ret ((rsi O a6 Z f8 (he:=?_)));subst O;refine Sim.bool ?_;simp[std,a8,BE.den,mE]
end Go.Proofs.YtmbkanpapkhnaaaGreat.Sym
namespace Go.Proofs.YtmbkanpapkhnaaaGreat
open Go Go.RowKit
theorem mu(W:World)(v0 v1 v2:Value)(i0:Sym.DG W v0)(i1:Sym.DH W v1)(i2:Sym.zb W v2):Calls Tryz.prog 6 #[v0,v1,v2] W fun e w'=>e = .returned (.bool true)/\Below W.heap.size W w':=by
 obtain⟨A,n,c,f,rfl,h0,hn,hf⟩:=i0;obtain⟨J,rfl,h1,hJ⟩:=i1;obtain⟨A2,n2,c2,f2,rfl,h2,hn2,hf2⟩:=i2;have hrw:∀i,i<n->Sym.s8 (f i).lab/\U64 (f i).ver/\U64 (f i).x.r.nx.bits/\∀t,t<(f i).x.r.n->U64 ((f i).x.r.f t).key:=fun i hi=>by
  obtain⟨_,_,a,b,c,d⟩:=hf i hi;exact⟨a,c,b.u64,d⟩
 have hw2:∀i,i<n2->(f2 i).x.r.n<=maxLen/\Sym.s8 (f2 i).lab/\U64 (f2 i).x.r.nx.bits/\∀t,t<(f2 i).x.r.n->U64 ((f2 i).x.r.f t).key:=fun i hi=>by
  obtain⟨_,a,b,c,d⟩:=hf2 i hi;exact⟨a,b,c.u64,d⟩
 have S:Sym.j7 Tryz.prog 6 [Sym.aM A n c f,Sym.aR J,Sym.vU A2 n2 c2 f2] (fun _=>.bool .tt):=by
  cases hnew:bW (Sym.F6 f n)with
  |none=>exact Sym.jP A n c f hn hrw J hJ A2 n2 c2 f2 hn2 hw2 hnew
  |some L=>exact Sym.jb A n c f hn hrw J hJ A2 n2 c2 f2 hn2 hw2 hnew
 refine(S (fun _ _=>False) W (fun _ _ h=>h.elim) (fun v hv=>?_)).mono ?_
 .simp only[List.mem_cons,List.not_mem_nil,or_false]at hv
  rcases hv with rfl|rfl|rfl
  .exact h0
  .exact h1
  exact h2
 rintro e w' ⟨x,rfl,_,hb⟩
 exact⟨rfl,hb⟩
end Go.Proofs.YtmbkanpapkhnaaaGreat
