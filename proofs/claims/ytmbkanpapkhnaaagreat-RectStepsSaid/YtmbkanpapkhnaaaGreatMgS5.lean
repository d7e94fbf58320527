/-
  SymRSh3, SymLw0, PlGood, PlRun, PlTree, PlDir, PlHasT, SymSk1, SymSk2, SymStl, SymSk3, SymSk4, SymDr0, SymDr1, SymDr2, SymDr3, SymDr4, SymDr5, SymDr6, SymDr7, SymNx1, SymNx2, SymNx3, SymSk5, PlSeekOk, PlRectOk, PlRunB: put together by a program of mine (a claim may have 60 files at most). Conditions: none.
-/
import Derived.Test.YtmbkanpapkhnaaaGreatMgS4
set_option linter.unusedVariables false
set_option linter.unusedSimpArgs false
set_option maxRecDepth 100000
set_option maxHeartbeats 1600000
namespace Go.Proofs.YtmbkanpapkhnaaaGreat.Sym
open Go Go.RowKit
theorem i5.swap{C:Cx}{nt i j:Nat}{u v:AV}{l:List (Nat×AV)}{mem:List (Nat×Blk)}{gr:List (Nat×Gr)}{a:Act}{w:World}(h:i5 C ⟨nt,(i,u)::(j,v)::l,[],mem,gr⟩ a w)(hne:i≠j:=by decide):i5 C ⟨nt,(j,v)::(i,u)::l,[],mem,gr⟩ a w:=
 h.alike ⟨rfl,fun k=>by
  simp only[B6]
  by_cases h1:i=k
  .by_cases h2:j=k
   .exact absurd (h1.trans h2.symm) hne
   simp[h1,h2]
  simp[h1],fun _=>rfl,fun _=>rfl,fun _=>rfl⟩
theorem Cz(A:Option Addr)(n c:Nat)(f:Nat->D4)(hn:n<=maxLen):k9 Tryz.prog 16 [cP A n c f] (fun _=>.bool (.v (if n<=300 then tq n f else true))):=by
 intro m w hm hargs;have hmx:maxLen=9223372036854775807:=rfl;have hln:=zS (hargs (cP A n c f) (by simp));refine en 38 hm hargs Tryz.func16 fun B O a0 Z=>?_
 refine a6 [0] [] Z fun X0 Z=>?_
 refine a6 [3,0] [] Z fun X1 Z=>?_
 refine a7 (a6 [3,4,0] [] Z fun X2 Z=>?_);refine j1 (l3 (ι:=Nat×Int) (fun p=>[(3,.int .i64 p.2),(4,.int .i64 (p.1:Int))]) (fun p=>[]) (fun p=>[]) (fun p=>p.1<=n/\p.2=HV f p.1/\∀i,i<p.1->kQ (f i).x.r.n (f i).x.r.f=false) (fun p=>n-p.1) (0,0) ⟨Nat.zero_le _,rfl,fun i hi=>absurd hi (Nat.not_lt_zero _)⟩ Z ?_)
 rintro⟨i,s⟩ ⟨hi,hs,hal⟩ _ _ Z
 try dsimp only at hi
 try dsimp only at hs
 try dsimp only at hal
 refine a7 (a6 [13,3,4,0] [] Z fun X3 Z=>?_);apply b7 Z rfl<;>intro hb Z
 .have h9:(if decide ((i:Int)<(n:Int))=true then decide ((n:Int)<=300)else false)=true:=by subst O;exact hb
  rw[C0,Bool.and_eq_true,decide_eq_true_eq,decide_eq_true_eq]at h9;have hin:i<n:=by omega
  have hsm:n<=300:=by omega
  have S:=MB (f i).x.A (f i).x.r.n (f i).x.c (f i).x.r.f (hln i hin) (f i).x.r.kd (f i).x.r.nx (f i).x.r.mrk;simp only[R3,s4]at S;obtain⟨q,hq⟩:=eqv (kQ (f i).x.r.n (f i).x.r.f);rw[<-hq]at S;refine f8 (a7 (j1 (a7 (a7 ?_))));have O4:(0:Int)<=(i:Int):=by omega
  have O5:(i:Int)<(n:Int):=by omega
  have O6:=S;refine f7 [21,3,4,0] [] [(5,.r fun _=>.bool (.v q))] Z fun X5 Z=>?_
  apply b7 Z rfl<;>intro hb Z
  .have hbt:kQ (f i).x.r.n (f i).x.r.f=true:=by rw[<-hq];exact hb
   refine a6 [2] [] Z fun X6 Z=>?_
   refine z7 Z ?_;subst O;refine Sim.bool ?_
   show true=(if n<=300 then tq n f else true)
   rw[if_pos hsm];unfold tq;rw[zg hin hbt];simp
  have hbf:kQ (f i).x.r.n (f i).x.r.f=false:=by rw[<-hq];exact hb
  refine f8 ?_;have O4:(0:Int)<=(i:Int):=by omega
  have O5:(i:Int)<(n:Int):=by omega
  refine j5 [3,4,0] [] Z fun X7 Z=>?_
  refine j5 [4,3,0] [] Z fun X4 Z=>?_
  have e:B.arith .add .i64 (i:Int) 1=((i+1:Nat):Int):=by subst O;exact k4 (n:=n) hin (by omega)
  refine⟨(i+1,B.arith .add .i64 s (B.ofNat (f (B.toNat (i:Int))).x.r.n)),⟨by simp only;omega,by subst O;rw[hs];rfl,fun j hj=>?_⟩,by simp only;omega,by rw[<-e];exact Z.swap⟩
  by_cases hij:j=i
  .rw [hij];exact hbf
  exact hal j (by simp only at hj;omega)
 have h9:(if decide ((i:Int)<(n:Int))=true then decide ((n:Int)<=300)else false)=false:=by subst O;exact hb
 rw[C0]at h9;have hend:n<=300->i=n:=fun h3=>by
  rw[decide_eq_true (show(n:Int)<=300 by omega),Bool.and_true]at h9;have:=of_decide_eq_false h9;omega
 refine j9 (a6 [2] [] Z fun X8 Z=>?_);refine z7 Z ?_;subst O;refine Sim.bool ?_
 show(if decide ((300:Int)<(n:Int))=true then true else decide (3000<s))=_
 rw[V1]
 by_cases h3:n<=300
 .rw [if_pos h3]
  unfold tq;rw[hend h3]at hs hal;rw[zh hal,hs,decide_eq_false (show ¬(300:Int)<(n:Int)by omega),decide_eq_false (show ¬300<n by omega)];rfl
 rw[if_neg h3,decide_eq_true (show(300:Int)<(n:Int)by omega)];rfl
theorem Sim.nils{g g':Option Nat}{k k':Nat}{f f':Nat->List AV}:Sim (.sl g none 0 0 k f) (.sl g' none 0 0 k' f'):=
 ⟨rfl,fun _=>rfl,fun _ _ _=>.sl _ _ _ _ _ _ (Nat.le_refl _) (Nat.zero_le _) (fun i hi=>absurd hi (Nat.not_lt_zero _)) (fun i hi=>absurd hi (Nat.not_lt_zero _)) (fun i hi=>absurd hi (Nat.not_lt_zero _)) (fun i hi=>absurd hi (Nat.not_lt_zero _)) (fun i hi=>absurd hi (Nat.not_lt_zero _))⟩
theorem iQ(y:j8)(g:Got):(cY y g).abs=g:=by
 unfold cY s9.abs;simp only[aQ]
section
variable (A:Option Addr) (n c:Nat) (f:Nat->D4) (hn:n<=maxLen) (hN:∀i,i<n->(f i).x.r.n<=1000000/\u0 (f i).lab/\U64 (f i).lab.bits/\U64 (f i).x.r.nx.bits)
include hn hN
theorem IJ(h:dF (J8 f n)=none):P9 Tryz.prog 17 [cP A n c f] [] none noK (fun y=>⟨.tup [.nilp,.int .i64 1],[],[]⟩) (fun _ _=>noK):=by
 have:=Hh A n c f hn hN;rw[h]at this;exact this
theorem vK(k0:Nat){L:Shf}(h:dF (J8 f n)=some L):P9 Tryz.prog 17 [cP A n c f] [] none noK (fun y=>⟨.tup [.ptr k0 y.b 0,.int .i64 0],[],[(k0,⟨y.b,95,[.raw (.map (some (y.c 0))),.int .i64 0]⟩)]⟩) (fun N y=>shF N (y.c 0) L):=by
 have:=Hh A n c f hn hN;rw[h]at this;exact this.re ⟨zr,trivial⟩ rfl fun x=>⟨rfl,rfl,Sim.tup ⟨Sim.ptr,zr,trivial⟩,rfl⟩
end
structure tB(L:Shf):Prop where
 ris:kC L
 len:L.length<=2000
 lab:∀p∈L,u0 p.1
theorem JO{L:Shf}(h:tB L){w:Wnt}(hl:u0 w.lab):tB (doL L w).L:=by
 unfold doL
 split
 .split
  .exact h
  split
  .exact h
  split
  .exact h
  rename_i hf
  refine⟨fC h.ris,?_,fun p hp=>?_⟩
  .simp only
   rw[iA _ _ h.ris]
   split
   .exact h.len
   rename_i h1
   have:(E0 w.lab L).isNone=true:=by
    cases hx:E0 w.lab L with
    |none=>rfl
    |some x=>rw[hx]at h1;exact absurd rfl h1
   have:=fun h2=>hf ⟨this,h2⟩
   have h3:=h.len
   by_cases h4:2000<=L.length
   .exact absurd h4 this
   omega
  rcases fD hp with rfl|hp
  .exact hl
  exact h.lab p hp
 exact h
theorem vL:∀{l:List Rw} {L L':Shf},(∀r∈l,u0 r.lab)->kC L->(∀p∈L,u0 p.1)->L.length+l.length<=2000->gE l L=some L'->tB L'
 | [],L,L',_,h1,h2,h3,h=>by
  simp only[gE,Option.some.injEq]at h;subst h;exact⟨h1,by simp at h3;omega,h2⟩
 |r::l,L,L',hr,h1,h2,h3,h=>by
  unfold gE at h
  split at h
  .cases h
  refine vL (fun r hr'=>hr r (by simp[hr'])) (fC h1) (fun p hp=>?_) ?_ h
  .rcases fD hp with rfl|hp
   .exact hr r (by simp)
   exact h2 p hp
  rw[iA _ _ h1];simp only[List.length_cons]at h3
  split<;>omega
theorem Ep{l:List Rw}{L:Shf}(hr:∀r∈l,u0 r.lab)(h:dF l=some L):tB L:=by
 unfold dF at h
 split at h
 .cases h
 exact vL hr List.Pairwise.nil (fun p hp=>by cases hp) (by simp;omega) h
structure xb(p:Lab×Spo):Prop where
 ver:U64 p.2.ver
 r:aa p.2.r
structure fU(L:Shf):Prop where
 ok:tB L
 sp:∀p∈L,xb p
theorem nY:U64 0:=⟨by decide,by decide⟩
theorem we{r:Rec}(h:isR r=true):r.items.length<=16:=by
 have h2:R6 r.kind r.items.length (itF r.items) r.next r.mark=true:=by
  have h3:=lm r.rn;rw[aQ]at h3;rw[h3]at h;exact h
 exact(bB h2).2.2.1
theorem Ho(v:Int):U64 (inc v):=by
 unfold inc IntKind.wrap;simp only[IntKind.bits,IntKind.signed];unfold U64
 constructor
 .simp;omega
 simp;omega
theorem oO{l:Lab}{x:Spo}:∀{L:Shf},E0 l L=some x->∃p∈L,p.2=x
 | [],h=>by cases h
 |p::L,h=>by
  unfold E0 at h
  split at h
  .exact ⟨p,by simp,Option.some.inj h⟩
  obtain⟨q,hq,e⟩:=oO h;exact⟨q,by simp[hq],e⟩
theorem Dr{L:Shf}(h:∀p∈L,xb p)(l:Lab):U64 (D7 L l).ver/\aa (D7 L l).r:=by
 unfold D7
 cases e:E0 l L with
 |none=>exact⟨nY,U2⟩
 |some x=>
  obtain⟨p,hp,rfl⟩:=oO e;exact⟨(h p hp).ver,(h p hp).r⟩
structure NH(w:Wnt):Prop where
 lab:u0 w.lab
 nx:U64 w.r.next.bits
 key:∀x∈w.r.items,U64 x.key
theorem jg{L:Shf}(h:fU L){w:Wnt}(hw:NH w):fU (doL L w).L/\U64 (doL L w).got.ver/\aa (doL L w).got.r:=by
 refine⟨⟨JO h.ok hw.lab,?_⟩,?_⟩
 .unfold doL
  split
  .rename_i hg
   split
   .exact h.sp
   split
   .exact h.sp
   split
   .exact h.sp
   intro p hp
   rcases fD hp with rfl|hp
   .refine ⟨Ho _,?_⟩
    show aa (if w.kind=2 then w.r else k6)
    split
    .rename_i h2
     exact⟨hw.nx,we (hg.2.2 h2),hw.key⟩
    exact U2
   exact h.sp p hp
  exact h.sp
 have hs:=Dr h.sp w.lab;unfold doL
 split
 .split
  .exact hs
  split
  .exact ⟨hs.1,U2⟩
  split
  .exact ⟨nY,U2⟩
  exact⟨Ho _,U2⟩
 exact⟨nY,U2⟩
structure RwG(r:Rw):Prop where
 lab:u0 r.lab
 ver:U64 r.ver
 nx:U64 r.r.next.bits
 key:∀x∈r.r.items,U64 x.key
theorem oo:∀{l:List Rw} {L L':Shf},(∀r∈l,RwG r)->(∀p∈L,xb p)->gE l L=some L'->∀p∈L',xb p
 | [],L,L',_,h2,h=>by
  simp only[gE,Option.some.injEq]at h;subst h;exact h2
 |r::l,L,L',hr,h2,h=>by
  unfold gE at h
  split at h
  .cases h
  rename_i hc
  have hc2:isR r.r=true:=by
   simp only[Bool.or_eq_true,Bool.not_eq_true',not_or]at hc
   simpa using hc.2
  refine oo (fun r hr'=>hr r (by simp[hr'])) (fun p hp=>?_) h
  rcases fD hp with rfl|hp
  .have:=hr r (by simp)
   exact⟨this.ver,⟨this.nx,we hc2,this.key⟩⟩
  exact h2 p hp
theorem om{l:List Rw}{L:Shf}(hr:∀r∈l,RwG r)(h:dF l=some L):fU L:=by
 refine⟨Ep (fun r hr'=>(hr r hr').lab) h,?_⟩;unfold dF at h
 split at h
 .cases h
 exact oo hr (fun p hp=>by cases hp) h
theorem uD{g:s9}{G:Got}(h:g.abs=G)(h1:U64 G.ver)(h2:aa G.r):InG g:=by
 subst h;refine⟨h2.nx,h1,?_,fun i hi=>?_⟩
 .have:=h2.few
  have e:g.x.r.abs.items.length=g.x.r.n:=j2 _ _
  show g.x.r.n<=maxLen
  have h3:g.x.r.abs.items.length<=16:=this;have:maxLen=9223372036854775807:=rfl;omega
 exact h2.key _ (List.mem_map.2 ⟨i,List.mem_range.2 hi,rfl⟩)
theorem LOk.wf{l:Lab}(h:LOk l):u0 l:=by
 obtain⟨h1,h2,_⟩:=r8 h.isl;have hb:=h.u;unfold U64 at hb
 constructor
 .simp [Lit.wf,IntKind.min,IntKind.max,IntKind.signed,IntKind.bits];omega
 simp[Lit.wf,IntKind.min,IntKind.max,IntKind.signed,IntKind.bits];omega
def V9(G:Got):s9:=⟨G.code,G.ver,G.has,⟨none,0,G.r.rn⟩⟩
abbrev cK(gs:List Got):Nat->s9:=fun j=>V9 (gs.getD j L6)
abbrev gd:=Nat->(Nat->s9)->Wq×Int
def ErN(N:gd):Prop:=∀n f,N n f=N n (fun j=>(f j).er)
def ru(gs:List Got)(f:Nat->s9):Prop:=∀j,(f j).er=V9 (gs.getD j L6)
theorem ru.nil:ru [] (fun _=>V9 L6):=fun _=>rfl
theorem ru.next{N:gd}(hN:ErN N){gs:List Got}{f:Nat->s9}(h:ru gs f):N gs.length f=N gs.length (cK gs):=by
 rw[hN]
 congr 1
 funext j
 exact h j
theorem ru.add{gs:List Got}{f:Nat->s9}(h:ru gs f){g:s9}{G:Got}(hg:g.er=V9 G):ru (gs ++ [G]) (fun j=>if j=gs.length then g else f j):=by
 intro j
 by_cases e:j=gs.length
 .simp only[if_pos e];rw[hg,e];congr 1;simp[List.getD]
 simp only[if_neg e];rw[h j];congr 1;simp only[List.getD_eq_getElem?_getD]
 by_cases hj:j<gs.length
 .rw [List.getElem?_append_left hj]
 rw[List.getElem?_eq_none (by omega),List.getElem?_eq_none (by simp;omega)]
def U0(w:Wq):Wnt:=⟨w.kind,w.lab,w.ver,w.r⟩
section
variable {N:gd} {most:Int} {n:Nat} {gs:List Got} {L:Shf} {k:Int} {w:Wq} {e:Int}
end
theorem AE(b:Bool)(r:Rs Rsl):fX b (r.er id)=fX b r:=by
 unfold fX;rw[Do]
structure MH(N:gd):Prop where
 er:ErN N
 ok:∀n f,(∀j,j<n->InG (f j))->zj (N n f).1
inductive Tr(α : Type)where
 |ret (a:α)
 |dead
 |note (x:Nt) (t:Tr α)
 |ask (w:Wq) (f:s9->Tr α)
def Tr.bind{α β : Type}:Tr α->(α->Tr β)->Tr β
 | .ret a,f=>f a
 | .dead,_=>.dead
 | .note x t,f=>.note x (t.bind f)
 | .ask w g,f=>.ask w fun a=>(g a).bind f
def Tr.run{α : Type}(k:Int):Tr α->Pst->Rs α
 | .ret a,p=>.ok a p
 | .dead,p=>.stop zWq p
 | .note x t,p=>t.run k ⟨p.n,p.g,x⟩
 | .ask w f,p=>(K8 k w p).bind fun g p=>(f g).run k p
theorem Rs.assoc{α β γ : Type}(m:Rs α)(f:α->Pst->Rs β)(g:β->Pst->Rs γ):(m.bind f).bind g=m.bind fun a p=>(f a p).bind g:=by cases m<;>rfl
theorem run_bind{α β : Type}{k:Int}:∀(t:Tr α) (f:α->Tr β) (p:Pst),(t.bind f).run k p=(t.run k p).bind fun a q=>(f a).run k q
 | .ret a,f,p=>rfl
 | .dead,f,p=>rfl
 | .note x t,f,p=>run_bind t f _
 | .ask w g,f,p=>by
  show(K8 k w p).bind (fun a q=>((g a).bind f).run k q)=((K8 k w p).bind fun a q=>(g a).run k q).bind _
  rw[Rs.assoc]
  congr 1
  funext a q
  exact run_bind (g a) f q
section
variable {α β : Type} {k:Int} {p:Pst}
theorem rb{t:Tr α}{m:Rs α}{f:α->Tr β}{f':α->Pst->Rs β}(h:t.run k p=m)(hf:∀a q,(f a).run k q=f' a q):(t.bind f).run k p=m.bind f':=by
 subst h;rw[run_bind]
 congr 1
 funext a q
 exact hf a q
theorem ri{c:Prop} [Decidable c]{x y:Tr α}{x' y':Rs α}(hx:x.run k p=x')(hy:y.run k p=y'):(if c then x else y).run k p=if c then x' else y':=by
 by_cases h:c
 .rw [if_pos h,if_pos h];exact hx
 rw[if_neg h,if_neg h];exact hy
end
def za(w:Wq):Tr s9:=.ask w .ret
def fg(l:Lab):Tr s9:=za ⟨1,l,0,k6,dq⟩
def nR(l:Lab)(v:Int)(r:Rec):Tr Bool:=(za ⟨2,l,v,r,dq⟩).bind fun g=>.ret (decide (g.code=0))
def Fd(l:Lab)(v:Int):Tr Bool:=(za ⟨3,l,v,k6,dq⟩).bind fun g=>.ret (decide (g.code=0))
def oc(l:Lab)(v:Int)(c:Lab)(x:Rec):Nat->Tr Bool
 |0=>.dead
 |n+1=>(fg c).bind fun g=>if(g.has && !decide (g.x.r.kd=5))=true then .ret true else(fg l).bind fun q=>if q.ver=v then(nR c g.ver x).bind fun d=>if d=true then .ret true else oc l v c x n else .ret false
def pL(n:Nat)(l:Lab)(v:Int)(x:RA):Tr Unit:=
 if(M7 x l).2.2=0 then
  (oc l v (chV l 0) (M7 x l).1 n).bind fun go=>if go=true then(oc l v (chV l 1) (M7 x l).2.1 n).bind fun go=>if go=true then(nR l v cI).bind fun _=>.ret ()else .ret ()else .ret ()
 else .ret ()
def yq(l:Lab)(v:Int)(c:Lab):Nat->Tr Fz
 |0=>.dead
 |n+1=>(fg c).bind fun g=>if(gk g 1||gk g 5)=true then(if(gk g 5&&decide (g.x.r.mrk=v))=true then .ret (.fr g.x)else(fg l).bind fun q=>if q.ver=v then(nR c g.ver (asR 5 g.x v).r.abs).bind fun d=>if d=true then .ret (.fr (asR 5 g.x v))else yq l v c n else .ret .over)else .ret .unfit
def sX(l:Lab)(cl:Lab->Tr Unit)(c:Lab):Tr Bool:=
 (fg c).bind fun g=>if gk g 5=true then(cl c).bind fun _=>(fg l).bind fun q=>if(gk q 1||gk q 5)=true then(Fd c g.ver).bind fun _=>.ret true else .ret false else .ret true
def yS:Nat->Lab->Tr Unit
 |0,_=>.dead
 |n+1,l=>if l.len=64 then .ret ()else(sX l (yS n) (chV l 0)).bind fun go=>if go=true then(sX l (yS n) (chV l 1)).bind fun _=>.ret ()else .ret ()
def yZ(th:Lab->Tr Unit)(l:Lab)(v:Int):Tr Unit:=(nR l v cI).bind fun d=>if d=true then(th (chV l 0)).bind fun _=>th (chV l 1)else .ret ()
def Es(bk:Int)(n:Nat)(th:Lab->Tr Unit)(l:Lab)(v:Int):Tr Unit:=
 (yq l v (chV l 0) n).bind fun a=>match a with
  | .over=>.ret ()
  | .unfit=>yZ th l v
  | .fr a=>(yq l v (chV l 1) n).bind fun b=>match b with
   | .over=>.ret ()
   | .unfit=>yZ th l v
   | .fr b=>if(ci a b).2=0/\((ci a b).1.items.length:Int)<=bk then(nR l v (ci a b).1).bind fun d=>if d=true then yS n l else .ret ()else yZ th l v
def By(bk:Int)(n:Nat)(th:Lab->Tr Unit)(l:Lab)(g:s9):Tr Unit:=
 if gk g 3=true then pL n l g.ver g.x else if l.len<64 then Es bk n th l g.ver else .ret ()
def nZ(bk:Int):Nat->Lab->Lab->Tr Unit
 |0,_,_=>.dead
 |n+1,l,up=>(fg l).bind fun g=>if gk g 5=true then(fg up).bind fun q=>
   (if(gk q 3||gk q 4)=true then By bk n (fun c=>if R4 c=0 then nZ bk n c (Q5 c)else .ret ()) up q else .ret ()).bind fun _=>
    if gk q 2=true then(nR l g.ver (asR 1 g.x 0).r.abs).bind fun d=>if d=true then .ret ()else nZ bk n l up else .ret ()else .ret ()
def xq(bk:Int)(n:Nat)(l:Lab):Tr Unit:=if R4 l=0 then nZ bk n l (Q5 l)else .ret ()
def Bw(bk:Int)(n:Nat)(l:Lab)(g:s9):Tr Unit:=By bk n (xq bk n) l g
def fR(bk key:Int):Nat->Lab->Tr Spt
 |0,_=>.dead
 |n+1,l=>(fg l).bind fun g=>
   if gk g 1=true then .ret ⟨l,g⟩
   else if(gk g 3||gk g 4)=true then(Bw bk n l g).bind fun _=>fR bk key n l
   else if(gk g 2&&decide (l.len<64))=true then fR bk key n (ofV key (l.len+1))
   else if gk g 5=true then(xq bk n l).bind fun _=>fR bk key n u9
   else if(!g.has&&decide (l=u9))=true then(nR u9 g.ver kj).bind fun _=>fR bk key n u9
   else fR bk key n u9
def EA(bk:Int)(n:Nat)(l:Lab):Tr Bool:=
 if R4 l=0 then(fg (Q5 l)).bind fun q=>if(gk q 2||gk q 3||gk q 4)=true then(xq bk n l).bind fun _=>.ret false else .ret true else .ret true
def nC(bk key:Int):Nat->Int->Int->Tr Spt
 |0,_,_=>.dead
 |n+1,lo,hi=>
   if lo<=hi then(fg (ofV key ((lo+hi) / 2))).bind fun g=>
    if gk g 1=true then .ret ⟨ofV key ((lo+hi) / 2),g⟩
    else if gk g 2=true then nC bk key n ((lo+hi) / 2+1) hi
    else if(gk g 3||gk g 4)=true then(Bw bk n (ofV key ((lo+hi) / 2)) g).bind fun _=>nC bk key n lo hi
    else if gk g 5=true then(EA bk n (ofV key ((lo+hi) / 2))).bind fun b=>if b=true then nC bk key n lo ((lo+hi) / 2-1)else nC bk key n lo hi
    else nC bk key n lo ((lo+hi) / 2-1)
   else fR bk key (n+1) u9
def Dy(bk how key:Int)(n:Nat):Tr Spt:=if how=1 then fR bk key n u9 else nC bk key n 0 64
section
variable {k bk key:Int}
theorem pW(w:Wq)(p:Pst):(za w).run k p=K8 k w p:=by
 show(K8 k w p).bind (fun g p=>.ok g p)=_
 cases K8 k w p<;>rfl
theorem U8(l:Lab)(p:Pst):(fg l).run k p=M8 k l p:=pW _ _
theorem dA(l:Lab)(v:Int)(r:Rec)(p:Pst):(nR l v r).run k p=aw k l v r p:=rb (pW _ _) fun _ _=>rfl
theorem DI(l:Lab)(v:Int)(p:Pst):(Fd l v).run k p=jd k l v p:=rb (pW _ _) fun _ _=>rfl
theorem lU(l:Lab)(v:Int)(c:Lab)(x:Rec):∀n p,(oc l v c x n).run k p=B9 k l v c x n p
 |0,p=>rfl
 |n+1,p=>rb (U8 _ _) fun _ _=>ri rfl (rb (U8 _ _) fun _ _=>ri (rb (dA _ _ _ _) fun _ _=>ri rfl (lU l v c x n _)) rfl)
theorem xB(n:Nat)(l:Lab)(v:Int)(x:RA)(p:Pst):(pL n l v x).run k p=A4 k n l v x p:=
 ri (rb (lU _ _ _ _ _ _) fun _ _=>ri (rb (lU _ _ _ _ _ _) fun _ _=>ri (rb (dA _ _ _ _) fun _ _=>rfl) rfl) rfl) rfl
theorem pR(l:Lab)(v:Int)(c:Lab):∀n p,(yq l v c n).run k p=P0 k l v c n p
 |0,p=>rfl
 |n+1,p=>rb (U8 _ _) fun _ _=>ri (ri rfl (rb (U8 _ _) fun _ _=>ri (rb (dA _ _ _ _) fun _ _=>ri rfl (pR l v c n _)) rfl)) rfl
theorem rN(l:Lab){cl:Lab->Tr Unit}{cl':Lab->Pst->Rs Unit}(h:∀c p,(cl c).run k p=cl' c p)(c:Lab)(p:Pst):(sX l cl c).run k p=J0 k l cl' c p:=
 rb (U8 _ _) fun _ _=>ri (rb (h _ _) fun _ _=>rb (U8 _ _) fun _ _=>ri (rb (DI _ _ _) fun _ _=>rfl) rfl) rfl
theorem pT:∀n l p,(yS n l).run k p=G4 k n l p
 |0,l,p=>rfl
 |n+1,l,p=>ri rfl (rb (rN _ (pT n) _ _) fun _ _=>ri (rb (rN _ (pT n) _ _) fun _ _=>rfl) rfl)
theorem pV{th:Lab->Tr Unit}{th':Lab->Pst->Rs Unit}(h:∀c p,(th c).run k p=th' c p)(l:Lab)(v:Int)(p:Pst):(yZ th l v).run k p=bq k th' l v p:=
 rb (dA _ _ _ _) fun _ _=>ri (rb (h _ _) fun _ _=>h _ _) rfl
theorem DG(n:Nat){th:Lab->Tr Unit}{th':Lab->Pst->Rs Unit}(h:∀c p,(th c).run k p=th' c p)(l:Lab)(v:Int)(p:Pst):(Es bk n th l v).run k p=M3 bk k n th' l v p:=
 rb (pR _ _ _ _ _) fun a _=>match a with
  | .over=>rfl
  | .unfit=>pV h _ _ _
  | .fr a=>rb (pR _ _ _ _ _) fun b _=>match b with
   | .over=>rfl
   | .unfit=>pV h _ _ _
   | .fr b=>ri (rb (dA _ _ _ _) fun _ _=>ri (pT _ _ _) rfl) (pV h _ _ _)
theorem vr(n:Nat){th:Lab->Tr Unit}{th':Lab->Pst->Rs Unit}(h:∀c p,(th c).run k p=th' c p)(l:Lab)(g:s9)(p:Pst):(By bk n th l g).run k p=eA bk k n th' l g p:=
 ri (xB _ _ _ _ _) (ri (DG _ h _ _ _) rfl)
theorem lT:∀n l up p,(nZ bk n l up).run k p=dy bk k n l up p
 |0,l,up,p=>rfl
 |n+1,l,up,p=>rb (U8 _ _) fun _ _=>ri (rb (U8 _ _) fun _ _=>rb (ri (vr _ (fun c p=>ri (lT n _ _ _) rfl) _ _ _) rfl) fun _ _=>ri (rb (dA _ _ _ _) fun _ _=>ri rfl (lT n _ _ _)) rfl) rfl
theorem pQ(n:Nat)(l:Lab)(p:Pst):(xq bk n l).run k p=J6 bk k n l p:=ri (lT _ _ _ _) rfl
theorem vq(n:Nat)(l:Lab)(g:s9)(p:Pst):(Bw bk n l g).run k p=aJ bk k n l g p:=vr _ (pQ n) _ _ _
theorem aZ:∀n l p,(fR bk key n l).run k p=D9 bk k key n l p
 |0,l,p=>rfl
 |n+1,l,p=>rb (U8 _ _) fun _ _=>ri rfl (ri (rb (vq _ _ _ _) fun _ _=>aZ n _ _) (ri (aZ n _ _) (ri (rb (pQ _ _ _) fun _ _=>aZ n _ _) (ri (rb (dA _ _ _ _) fun _ _=>aZ n _ _) (aZ n _ _)))))
theorem DH(n:Nat)(l:Lab)(p:Pst):(EA bk n l).run k p=bh bk k n l p:=
 ri (rb (U8 _ _) fun _ _=>ri (rb (pQ _ _ _) fun _ _=>rfl) rfl) rfl
theorem fB:∀n lo hi p,(nC bk key n lo hi).run k p=F6 bk k key n lo hi p
 |0,lo,hi,p=>rfl
 |n+1,lo,hi,p=>ri (rb (U8 _ _) fun _ _=>ri rfl (ri (fB n _ _ _) (ri (rb (vq _ _ _ _) fun _ _=>fB n _ _ _) (ri (rb (DH _ _ _) fun _ _=>ri (fB n _ _ _) (fB n _ _ _)) (fB n _ _ _))))) (aZ _ _ _)
theorem DE(how:Int)(n:Nat)(p:Pst):(Dy bk how key n).run k p=ii bk k how key n p:=ri (aZ _ _ _) (fB _ _ _ _)
end
inductive App{α : Type}:Nat->Tr α->Tr α->Prop
 |zero {t t':Tr α}:App 0 t t'
 |ret {d:Nat} (a:α):App d (.ret a) (.ret a)
 |note {d:Nat} {x:Nt} {t t':Tr α} (h:App d t t'):App d (.note x t) (.note x t')
 |ask {d:Nat} {w:Wq} {f f':s9->Tr α} (h:∀g,App d (f g) (f' g)):App (d+1) (.ask w f) (.ask w f')
section
variable {α β : Type} {d e:Nat}
theorem App.mono{t t':Tr α}(h:App d t t'):∀{e:Nat},e<=d->App e t t':=by
  induction h with
  | zero => intro e he; have:e=0:=by omega
            subst this;exact .zero
  |ret a=>intro e he;exact .ret a
  |note h ih=>intro e he;exact .note (ih he)
  |ask h ih=>
    intro e he
    cases e with
    |zero=>exact .zero
    |succ e=>exact .ask fun g=>ih g (by omega)
theorem App.bind{t t':Tr α}(h:App d t t'):∀{f f':α->Tr β},(∀a,App d (f a) (f' a))->App d (t.bind f) (t'.bind f'):=by
 induction h with
 |zero=>intro f f' hf;exact .zero
 |ret a=>intro f f' hf;exact hf a
 |note h ih=>intro f f' hf;exact .note (ih hf)
 |ask h ih=>intro f f' hf;exact .ask fun g=>ih g fun a=>(hf a).mono (by omega)
theorem s5{c:Prop} [Decidable c]{x y x' y':Tr α}(hx:App d x x')(hy:App d y y'):App d (if c then x else y) (if c then x' else y'):=by split<;>assumption
theorem DK{k:Int}{t t':Tr α}(h:App d t t'):∀{p:Pst},p.n<d->t.run k p=t'.run k p:=by
 induction h with
 |zero=>intro p hp;omega
 |ret a=>intro p _;rfl
 |note h ih=>intro p hp;exact ih hp
 | @ask d w f f' h ih=>
  intro p hp
  show(K8 k w p).bind _=(K8 k w p).bind _
  unfold K8
  split
  .rename_i h0
   refine ih _ ?_
   show p.n-1<d
   omega
  rfl
end
theorem rj{d:Nat}(w:Wq):App d (za w) (za w):=by
 cases d with
 |zero=>exact .zero
 |succ d=>exact .ask fun g=>.ret g
theorem jp{d:Nat}(l:Lab):App d (fg l) (fg l):=rj _
theorem dY{d:Nat}(l:Lab)(v:Int)(r:Rec):App d (nR l v r) (nR l v r):=(rj _).bind fun _=>.ret _
theorem Gl{d:Nat}(l:Lab)(v:Int):App d (Fd l v) (Fd l v):=(rj _).bind fun _=>.ret _
theorem dp{α : Type}{d:Nat}{l:Lab}{f f':s9->Tr α}(h:∀g,App d (f g) (f' g)):App (d+1) ((fg l).bind f) ((fg l).bind f'):=.ask h
section
variable {bk key:Int}
theorem nF(l:Lab)(v:Int)(c:Lab)(x:Rec):∀{d n n':Nat},d<=n->d<=n'->App d (oc l v c x n) (oc l v c x n')
 |0,_,_,_,_=>.zero
 |d+1,n+1,n'+1,h,h'=>dp fun _=>s5 (.ret _) ((jp _).bind fun _=>s5 ((dY _ _ _).bind fun _=>s5 (.ret _) (nF l v c x (by omega) (by omega))) (.ret _))
theorem ze{d n n':Nat}(l:Lab)(v:Int)(x:RA)(h:d<=n)(h':d<=n'):App d (pL n l v x) (pL n' l v x):=
 s5 ((nF _ _ _ _ h h').bind fun _=>s5 ((nF _ _ _ _ h h').bind fun _=>s5 ((dY _ _ _).bind fun _=>.ret _) (.ret _)) (.ret _)) (.ret _)
theorem qY(l:Lab)(v:Int)(c:Lab):∀{d n n':Nat},d<=n->d<=n'->App d (yq l v c n) (yq l v c n')
 |0,_,_,_,_=>.zero
 |d+1,n+1,n'+1,h,h'=>dp fun _=>s5 (s5 (.ret _) ((jp _).bind fun _=>s5 ((dY _ _ _).bind fun _=>s5 (.ret _) (qY l v c (by omega) (by omega))) (.ret _))) (.ret _)
theorem tw(l:Lab){d:Nat}{cl cl':Lab->Tr Unit}(h:∀c,App d (cl c) (cl' c))(c:Lab):App (d+1) (sX l cl c) (sX l cl' c):=
 dp fun _=>s5 ((h _).bind fun _=>(jp _).bind fun _=>s5 ((Gl _ _).bind fun _=>.ret _) (.ret _)) (.ret _)
theorem qZ:∀{d n n':Nat} (l:Lab),d<=n->d<=n'->App d (yS n l) (yS n' l)
 |0,_,_,_,_,_=>.zero
 |d+1,n+1,n'+1,l,h,h'=>s5 (.ret _) ((tw _ (fun c=>qZ c (by omega) (by omega)) _).bind fun _=>s5 ((tw _ (fun c=>qZ c (by omega) (by omega)) _).bind fun _=>.ret _) (.ret _))
theorem rh{d:Nat}{th th':Lab->Tr Unit}(h:∀c,App d (th c) (th' c))(l:Lab)(v:Int):App d (yZ th l v) (yZ th' l v):=
 (dY _ _ _).bind fun _=>s5 ((h _).bind fun _=>h _) (.ret _)
theorem Gj{d n n':Nat}{th th':Lab->Tr Unit}(hn:d<=n)(hn':d<=n')(h:∀c,App d (th c) (th' c))(l:Lab)(v:Int):App d (Es bk n th l v) (Es bk n' th' l v):=
 (qY _ _ _ hn hn').bind fun a=>match a with
  | .over=>.ret _
  | .unfit=>rh h _ _
  | .fr a=>(qY _ _ _ hn hn').bind fun b=>match b with
   | .over=>.ret _
   | .unfit=>rh h _ _
   | .fr b=>s5 ((dY _ _ _).bind fun _=>s5 (qZ _ hn hn') (.ret _)) (rh h _ _)
theorem wW{d n n':Nat}{th th':Lab->Tr Unit}(hn:d<=n)(hn':d<=n')(h:∀c,App d (th c) (th' c))(l:Lab)(g:s9):App d (By bk n th l g) (By bk n' th' l g):=
 s5 (ze _ _ _ hn hn') (s5 (Gj hn hn' h _ _) (.ret _))
theorem nE:∀{d n n':Nat} (l up:Lab),d<=n->d<=n'->App d (nZ bk n l up) (nZ bk n' l up)
 |0,_,_,_,_,_,_=>.zero
 |d+1,n+1,n'+1,l,up,h,h'=>dp fun _=>s5 ((jp _).bind fun _=>(s5 (wW (by omega) (by omega) (fun c=>s5 (nE _ _ (by omega) (by omega)) (.ret _)) _ _) (.ret _)).bind fun _=>s5 ((dY _ _ _).bind fun _=>s5 (.ret _) (nE _ _ (by omega) (by omega))) (.ret _)) (.ret _)
theorem qX{d n n':Nat}(l:Lab)(h:d<=n)(h':d<=n'):App d (xq bk n l) (xq bk n' l):=s5 (nE _ _ h h') (.ret _)
theorem wV{d n n':Nat}(l:Lab)(g:s9)(h:d<=n)(h':d<=n'):App d (Bw bk n l g) (Bw bk n' l g):=wW h h' (fun c=>qX c h h') _ _
theorem jo:∀{d n n':Nat} (l:Lab),d<=n->d<=n'->App d (fR bk key n l) (fR bk key n' l)
 |0,_,_,_,_,_=>.zero
 |d+1,n+1,n'+1,l,h,h'=>by
  have H:∀l,App d (fR bk key n l) (fR bk key n' l):=fun l=>jo l (by omega) (by omega)
  exact dp fun _=>s5 (.ret _) (s5 ((wV _ _ (by omega) (by omega)).bind fun _=>H _) (s5 (H _) (s5 ((qX _ (by omega) (by omega)).bind fun _=>H _) (s5 ((dY _ _ _).bind fun _=>H _) (H _)))))
theorem Gk{d n n':Nat}(l:Lab)(h:d<=n)(h':d<=n'):App d (EA bk n l) (EA bk n' l):=
 s5 ((jp _).bind fun _=>s5 ((qX _ h h').bind fun _=>.ret _) (.ret _)) (.ret _)
theorem wX:∀{d n n':Nat} (lo hi:Int),d<=n->d<=n'->App d (nC bk key n lo hi) (nC bk key n' lo hi)
 |0,_,_,_,_,_,_=>.zero
 |d+1,n+1,n'+1,lo,hi,h,h'=>by
  have H:∀lo hi,App d (nC bk key n lo hi) (nC bk key n' lo hi):=fun lo hi=>wX lo hi (by omega) (by omega)
  exact s5 (dp fun _=>s5 (.ret _) (s5 (H _ _) (s5 ((wV _ _ (by omega) (by omega)).bind fun _=>H _ _) (s5 ((Gk _ (by omega) (by omega)).bind fun _=>s5 (H _ _) (H _ _)) (H _ _))))) (jo _ h h')
theorem Gh{d n n':Nat}(how:Int)(h:d<=n)(h':d<=n'):App d (Dy bk how key n) (Dy bk how key n'):=s5 (jo _ h h') (wX _ _ h h')
end
section
variable {α β : Type} {A:s9->Prop} {W:Wq->Prop} {X:Nt->Prop}
end
def Tr.feed{α : Type}:Tr α->Nt->List Got->Option (Tr α×Nt)
 | .note y t,_,gs=>t.feed y gs
 | .ret a,x,[]=>some (.ret a,x)
 | .ret _,_,_::_=>none
 | .dead,x,[]=>some (.dead,x)
 | .dead,_,_::_=>none
 | .ask w f,x,[]=>some (.ask w f,x)
 | .ask w f,x,g::gs=>(f (V9 g)).feed x gs
def Tr.noNote{α : Type}:Tr α->Prop
 | .note _ _=>False
 |_=>True
theorem mW{α : Type}{w:Wq}{f:s9->Tr α}{y:Nt}{g:Got}:∀(t:Tr α) (x:Nt) (gs:List Got),t.feed x gs=some (.ask w f,y)->t.feed x (gs ++ [g])=(f (V9 g)).feed y []
 | .note z t,x,gs,h=>by
  show t.feed z (gs ++ [g])=_
  exact mW t z gs (by simpa[Tr.feed]using h)
 | .ret a,x,[],h=>by simp[Tr.feed]at h
 | .ret a,x,_::_,h=>by simp[Tr.feed]at h
 | .dead,x,[],h=>by simp[Tr.feed]at h
 | .dead,x,_::_,h=>by simp[Tr.feed]at h
 | .ask w' f',x,[],h=>by
  simp only[Tr.feed,Option.some.injEq,Prod.mk.injEq,Tr.ask.injEq]at h;obtain⟨⟨h1,h2⟩,h3⟩:=h;subst h1;subst h2;subst h3;rfl
 | .ask w' f',x,g'::gs,h=>by
  show(f' (V9 g')).feed x (gs ++ [g])=_
  exact mW _ x gs (by simpa[Tr.feed]using h)
theorem lW{α : Type}{k:Int}(hk:0<=k){t':Tr α}{x':Nt}:∀(t:Tr α) (x:Nt) (gs:List Got),t.feed x gs=some (t',x')->∀p:Pst,p.n=gs.length->(∀j,j<gs.length->p.g j=V9 (gs.getD j L6))->p.note=x->∃q:Pst,q.n=0/\q.note=x'/\t.run k p=t'.run k q
 | .note z t,x,gs,h,p,hn,hg,hx=>lW hk t z gs (by simpa[Tr.feed]using h) ⟨p.n,p.g,z⟩ hn hg rfl
 | .ret a,x,[],h,p,hn,hg,hx=>by simp[Tr.feed]at h;obtain⟨rfl,rfl⟩:=h;exact⟨p,hn,hx,rfl⟩
 | .ret a,x,_::_,h,p,hn,hg,hx=>by simp[Tr.feed]at h
 | .dead,x,[],h,p,hn,hg,hx=>by simp[Tr.feed]at h;obtain⟨rfl,rfl⟩:=h;exact⟨p,hn,hx,rfl⟩
 | .dead,x,_::_,h,p,hn,hg,hx=>by simp[Tr.feed]at h
 | .ask w f,x,[],h,p,hn,hg,hx=>by simp[Tr.feed]at h;obtain⟨rfl,rfl⟩:=h;exact⟨p,hn,hx,rfl⟩
 | .ask w f,x,g::gs,h,p,hn,hg,hx=>by
  have hn2:p.n=gs.length+1:=hn;have h0:p.g 0=V9 g:=hg 0 (by simp);obtain⟨q,h1,h2,h3⟩:=lW hk (f (V9 g)) x gs (by simpa[Tr.feed]using h) p.tl (by show p.n-1=_;omega) (fun j hj=>by show p.g (j+1)=_;rw[hg (j+1) (by simp;omega)];rfl) hx
  refine⟨q,h1,h2,?_⟩;rw[<-h3]
  show(K8 k w p).bind _=_
  unfold K8;rw[if_pos ⟨by omega,by omega⟩]
  show(f (p.g 0)).run k p.tl=_
  rw[h0]
structure TrN(N:gd)(b:Int)(T:Nat->Tr Rsl):Prop where
 nxt:∀n f,J9 n f=true->N n f=J1 ((T (n+1)).run (b-n) (nM n f))
 app:∀{d n n':Nat},d<=n->d<=n'->App d (T n) (T n')
section
variable {N:gd} {b:Int} {T:Nat->Tr Rsl} {most:Int} {A:s9->Prop} {W:Wq->Prop} {X:Nt->Prop} {Q:Rsl->Prop} {R:Shf->Prop}
theorem vJ(hN:TrN N b T){m:Nat}{gs:List Got}{t:Tr Rsl}{x:Nt}(hf:(T m).feed nt0 gs=some (t,x))(hg:∀j,j<gs.length->F4 (V9 (gs.getD j L6))=true)(hb:(gs.length:Int)<=b)(hm:gs.length<m):∃q:Pst,q.n=0/\q.note=x/\N gs.length (cK gs)=J1 (t.run (b-gs.length) q):=by
 have h1:=hN.nxt gs.length (cK gs) (gW hg);obtain⟨q,h2,h3,h4⟩:=lW (k:=b-gs.length) (by omega) (T m) nt0 gs hf (nM gs.length (cK gs)) rfl (fun j hj=>rfl) rfl;refine⟨q,h2,h3,?_⟩;rw[h1,<-h4]
 congr 1
 exact DK (hN.app (d:=gs.length+1) (Nat.le_refl _) (by omega)) (by show gs.length<_;omega)
theorem zx{a:Rsl}{q:Pst}(h:q.n=0):J1 (.ok a q)=(⟨4,⟨0,0⟩,0,k6,a⟩,0):=by
 unfold J1;dsimp only;rw[if_neg (by omega)]
theorem xn{w:Wq}{q:Pst}(h:q.n=0):J1 (.stop w q)=(w,0):=by
 unfold J1;dsimp only;rw[if_neg (by omega)]
theorem CF{k:Int}{w:Wq}{q:Pst}{f:s9->Tr Rsl}(h:q.n=0):(Tr.ask w f).run k q = .stop (if k<=0 then Aq q else w) q:=by
 show(K8 k w q).bind _=_
 unfold K8;rw[if_neg (by omega),h];simp only[Int.natCast_zero,Int.zero_add];rfl
end
section
variable {X:Nt->Prop} {bk key:Int}
def yY(bk key:Int)(n:Nat)(s:Spt):Tr Spt:=
 if z6 s.g.x.r.nx key=true then(fg s.g.x.r.nx).bind fun g=>if gk g 1=true then .ret ⟨s.g.x.r.nx,g⟩else fR bk key n u9 else fR bk key n u9
theorem DJ{k:Int}(n:Nat)(s:Spt)(p:Pst):(yY bk key n s).run k p=W8 bk k key n s p:=ri (rb (U8 _ _) fun _ _=>ri rfl (aZ _ _ _)) (aZ _ _ _)
theorem CI{d n n':Nat}{s:Spt}{α : Type}{f f':Spt->Tr α}(h:d+1<=n)(h':d+1<=n')(hf:∀s,App d (f s) (f' s)):App (d+1) ((yY bk key n s).bind f) ((yY bk key n' s).bind f'):=by
 have L:App (d+1) ((fR bk key n u9).bind f) ((fR bk key n' u9).bind f'):=by
  have h2:=jo (bk:=bk) (key:=key) u9 h h';obtain⟨n,rfl⟩:∃m,n=m+1:=⟨n-1,by omega⟩
  obtain⟨n',rfl⟩:∃m,n'=m+1:=⟨n'-1,by omega⟩
  cases h2 with
  |ask h2=>exact .ask fun g=>(h2 g).bind hf
 unfold yY
 split
 .exact .ask fun g=>(s5 (c:=gk g 1=true) (.ret _) (jo u9 (by omega) (by omega))).bind hf
 exact L
end
theorem Hk(key n:Int)(hk:U64 key):k9 Tryz.prog 227 [.int .u64 key,.int .i64 n] (fun _=>.tup [i6 (ofV key n),.int .i64 (ofE n)]):=by
 intro m w hm hargs;refine en 18 hm hargs Tryz.func227 fun B O a0 Z=>?_
 refine a6 [0,1,4] [4] Z fun X0 Z=>?_
 refine a7 (a6 [11,0,1,4] [4] Z fun X1 Z=>?_);apply b7 Z rfl<;>intro hb Z
 .have h9:(if decide (n<0)=true then true else decide (n>64))=true:=by subst O;exact hb
  have hr:n<0 \/ 64<n:=by
   by_cases h:n<0
   .exact .inl h
   simp[h]at h9;exact .inr h9
  have hV:ofV key n=⟨0,0⟩:=if_pos hr;have hE:ofE n=1:=if_pos hr;refine a6 [4,5] [4] Z fun X2 Z=>?_
  refine z7 Z ?_;rw[hV,hE];subst O;exact zr
 have h9:(if decide (n<0)=true then true else decide (n>64))=false:=by subst O;exact hb
 have hr:0<=n/\n<=64:=by
  by_cases h:n<0
  .simp [h]at h9
  simp[h]at h9;omega
 have hV:ofV key n=⟨n,(F5 key.toNat n.toNat:Nat)⟩:=if_neg (by omega);have hE:ofE n=0:=if_neg (by omega);have S:=uz key n hk hr.1 hr.2;obtain⟨hd,hhd⟩:=eqv (((F5 key.toNat n.toNat:Nat):Int));rw[<-hhd]at S hV;have O1:=S;refine f8 (i9 [4,5] [4] [(3,.r fun _=>.int .u64 hd)] Z fun X3 Z=>?_);refine z7 Z ?_;rw[hV,hE];subst O;exact zr
theorem Ha(key n:Int)(hk:U64 key):k9 Tryz.prog 217 [.int .u64 key,.int .i64 n] (fun _=>.tup [i6 (ofV key n),.int .i64 (ofE n)]):=by
 intro m w hm hargs;refine en 18 hm hargs Tryz.func217 fun B O a0 Z=>?_
 refine a6 [0,1,4] [4] Z fun X0 Z=>?_
 refine a7 (a6 [11,0,1,4] [4] Z fun X1 Z=>?_);apply b7 Z rfl<;>intro hb Z
 .have h9:(if decide (n<0)=true then true else decide (n>64))=true:=by subst O;exact hb
  have hr:n<0 \/ 64<n:=by
   by_cases h:n<0
   .exact .inl h
   simp[h]at h9;exact .inr h9
  have hV:ofV key n=⟨0,0⟩:=if_pos hr;have hE:ofE n=1:=if_pos hr;refine a6 [4,5] [4] Z fun X2 Z=>?_
  refine z7 Z ?_;rw[hV,hE];subst O;exact zr
 have h9:(if decide (n<0)=true then true else decide (n>64))=false:=by subst O;exact hb
 have hr:0<=n/\n<=64:=by
  by_cases h:n<0
  .simp [h]at h9
  simp[h]at h9;omega
 have hV:ofV key n=⟨n,(F5 key.toNat n.toNat:Nat)⟩:=if_neg (by omega);have hE:ofE n=0:=if_neg (by omega);have SD:=qV key hk;obtain⟨d,hd⟩:=eqv (mkB (K9 64 key.toNat));rw[<-hd]at SD;have hds:d.size=64:=by rw[hd,J5,Y9]
 have hdx:unB (d.extract 0 n.toNat)=(K9 64 key.toNat).take n.toNat:=by
  rw[hd,bP,Y4,List.drop_zero]
 have hxs:(d.extract 0 n.toNat).size=n.toNat:=by rw[ByteArray.size_extract];omega
 have SO:=Ay (d.extract 0 n.toNat) (fun x hx=>by rw[hdx]at hx;exact iK x (List.mem_of_mem_take hx)) (by omega);have hk0:ofT (d.extract 0 n.toNat)=⟨n,(F5 key.toNat n.toNat:Nat)⟩:=by
  unfold ofT;rw[hdx,hxs,ld (Y5 hk) (by omega)];congr 1;omega
 refine f8 (a7 ?_);rw[hk0,<-hV]at SO;simp only[i6]at SO;obtain⟨k,hk⟩:=eqv (ofV key n);rw[<-hk]at SO;refine f7 [4,5] [4] [(1,.r fun _=>.str d),(4,.r fun _=>.agg [.int .i64 k.len,.int .u64 k.bits])] Z (hob:=by intro X;subst O;simp only[i7,Ob.holds,BE.den]<;>and_intros<;>repeat first|trivial|rfl|exact SD|exact SO|exact⟨by decide,hr.1,by rw[show((d.size:Nat):Int)=64 by omega];exact hr.2⟩|exact hr.1|exact(show n<=(d.size:Int)by omega)|exact(fun _ _=>by kernel_rfl)|refine⟨?_,?_⟩|intro h|exact Int.le_refl _|decide|omega) fun X3 Z=>?_
 refine z7 Z ?_;rw[hE,<-hk];subst O;exact zr
abbrev sv:AV:=.agg [.int .i64 1,.sl none none 0 0 2 (fun _=>[]),.int .i64 (-1),.int .u64 0,.int .u64 0]
abbrev G9(s:Spt):AV:=.agg [.int .i64 s.lab.len,.int .u64 s.lab.bits,.int .i64 s.g.code,.int .u64 s.g.ver,.bool (.v s.g.has),.int .i64 s.g.x.r.kd,.sl none s.g.x.A s.g.x.r.n s.g.x.c 2 (fun i=>itC (s.g.x.r.f i)),.int .i64 s.g.x.r.nx.len,.int .u64 s.g.x.r.nx.bits,.int .u64 s.g.x.r.mrk]
theorem jF{key:Int}(hk:U64 key)(n:Int):LOk (ofV key n):=⟨qg n,Az hk n⟩
theorem Bb:k9 Tryz.prog 229 [] (fun _=>sv):=by
 intro m w hm hargs;have SN:=ml;simp only[i6,F1]at SN;refine en 3 hm hargs Tryz.func229 fun B O a0 Z=>?_
 refine a6 [0] [0] Z fun X0 Z=>?_
 have O1:=SN;refine i9 [0] [0] [(0,.r fun _=>.agg [.int .i64 (-1),.int .u64 0])] Z fun X1 Z=>?_
 exact i8 ((rsp O a8 Z C5).1)
theorem Kt(k0 b:Nat)(J:j4)(hJ:l6 J)(A:Option Addr)(c:Nat)(p:Pst)(hp:j3 p)(hn:p.n<=1000000)(l:Lab)(v:Int):B3 163 k0 b J A c p [i6 l,.int .u64 v,sv] (fun d=>.bool (.v d)) (aw J.budget l v kj p):=
 B3.re (jm 0 b J hJ A c p hp hn l v ⟨none,0,kj.rn⟩) ⟨zr,zr,Sim.agg ⟨zr,U1,zr,zr,zr,trivial⟩,trivial⟩
theorem ET(b:Nat)(J:j4)(hJ:l6 J)(A:Option Addr)(c:Nat)(p:Pst)(hp:j3 p)(hn:p.n<=1000000)(key:Int)(hk:U64 key)(l:Lab)(hl:LOk l)(n:Nat)(hf:p.n<n):B3 166 0 b J A c p [.int .u64 key,i6 l] (G9) (D9 J.bucket J.budget key n l p):=by
 intro m w hm hargs hpre;refine enX 68 hm hpre hargs Tryz.func166 fun B O a0 Z=>?_
 refine a6 [0,1,5,6] [0,5,6] Z fun X0 Z=>?_
 refine a6 [0,1,5,6,7] [0,5,6,7] Z fun X1 Z=>?_
 refine j1 (l3 (ι:=Nat×Pst×Option Addr×Nat×Lab) (fun q=>[]) (fun q=>[(0,⟨b,139,G1 J q.2.2.1 q.2.2.2.1 q.2.1⟩),(5,⟨(X0 0).b,24,[.int .i64 q.2.2.2.2.len,.int .u64 q.2.2.2.2.bits]⟩)]) (fun q=>[]) (fun q=>D9 J.bucket J.budget key n l p=D9 J.bucket J.budget key q.1 q.2.2.2.2 q.2.1/\j3 q.2.1/\q.2.1.n<=1000000/\q.2.1.n<q.1/\LOk q.2.2.2.2) (fun q=>q.1) (n,p,A,c,l) ⟨rfl,hp,hn,hf,hl⟩ Z ?_)
 rintro⟨nn,p0,A0,c0,l0⟩ ⟨hrun,hp0,hn0,hf0,hl0⟩ _ _ Z
 try dsimp only at hrun
 try dsimp only at hp0
 try dsimp only at hn0
 try dsimp only at hf0
 try dsimp only at hl0
 obtain⟨m0,rfl⟩:∃n2,nn=n2+1:=⟨nn-1,by omega⟩
 refine j1 (a7 ?_)
 rcases(aH 0 b J hJ A0 c0 p0 hp0 hn0 l0).two (k8 _ _ _) hp0 hn0 with⟨w2,p2,hm2,O1⟩|⟨g2,p2,hm2,hs2,hp2,hn2,S2⟩
 .refine stp 2 O a8 [10,11] [0] [] Z O1 fun _ _ _ _ Z hk=>?_
  exact thm (P:=Tryz.prog) (fn:=Tryz.f166) (q:=p2) Z hk (by simp[hrun,D9,Rs.bind,hm2])
 have hl2:=B7 hm2;have hg2:=hp0.get hm2;have O1:=S2;refine f7 [0,1,5,6,7,8] [0,5,6,7,8] [(2,rc J (B2 g2) p2)] Z fun X2 Z=>?_
 obtain⟨q3,hq3⟩:=eqv (gk g2 1);refine a7 (j1 (a7 ?_));refine f7 [13,0,1,5,6,7,8] [0,5,6,7,8,15] [(2,.r fun _=>.bool (.v q3))] Z (hob:=by intro X;subst O;simp only[i7,Ob.holds,BE.den]<;>and_intros<;>repeat first|trivial|rfl|exact(by rw[hq3];exact I2 g2 _ _ 1 _ rfl)|exact by rw[hq3];exact I2 g2 _ _ 1 _ rfl|exact(fun _ _=>by kernel_rfl)|refine⟨?_,?_⟩|intro h|exact Int.le_refl _|decide|omega) fun X3 Z=>?_
 apply b7 Z rfl<;>intro hb Z
 .have tq3:gk g2 1=true:=by rw[<-hq3];exact hb
  refine a6 [6] [0,6] Z fun X4 Z=>?_
  exact i8 ((rmm O a8 Z (v:=(⟨l0,g2⟩:Spt)) (q:=p2) ((X2 2).A 0) ((X2 2).c 0) (by simp[hrun,D9,Rs.bind,hm2,tq3])).1)
 have tq3:gk g2 1=false:=by rw[<-hq3];exact hb
 obtain⟨q5,hq5⟩:=eqv ((gk g2 3||gk g2 4));refine a7 ?_;refine f7 [20,0,1,5,6,7,8] [0,5,6,7,8,22] [(2,.r fun _=>.bool (.v q5))] Z (hob:=by intro X;subst O;simp only[i7,Ob.holds,BE.den]<;>and_intros<;>repeat first|trivial|rfl|exact(by rw[hq5];exact cB g2 _ _ 3 4 _ rfl rfl)|exact by rw[hq5];exact cB g2 _ _ 3 4 _ rfl rfl|exact(fun _ _=>by kernel_rfl)|refine⟨?_,?_⟩|intro h|exact Int.le_refl _|decide|omega) fun X5 Z=>?_
 apply b7 Z rfl<;>intro hb Z
 .have tq5:(gk g2 3||gk g2 4)=true:=by rw[<-hq5];exact hb
  refine a7 ?_
  rcases(Hr m0 0 b J hJ ((X2 2).A 0) ((X2 2).c 0) p2 hp2 hn2 l0 hl0 g2 hg2 (by have:=hl2;have:=hf0;omega)).two (R8 _ _ _ _ _ _) hp2 hn2 with⟨w6,p6,hm6,O1⟩|⟨v6,p6,hm6,hs6,hp6,hn6,S6⟩
  .refine stp 3 O a8 [24,25,26] [0] [] Z O1 fun _ _ _ _ Z hk=>?_
   exact thm (P:=Tryz.prog) (fn:=Tryz.f166) (q:=p6) Z hk (by simp[hrun,D9,Rs.bind,hm2,tq3,tq5,hm6])
  have O1:=S6;refine f7 [0,1,5,6,7] [0,5,6,7] [(3,rc J (k7) p6)] Z fun X6 Z=>?_
  replace Z:=Z.keep [0,1,5,6,7] [0,5,6,7];exact j9 (⟨(m0,p6,_,_,l0),⟨by rw[hrun];simp[D9,Rs.bind,hm2,tq3,tq5,hm6],hp6,hn6,by dsimp only;have:=hf0;have:=hl2;have:=hs6.le;omega,hl0⟩,by simp only;omega,Z⟩)
 have tq5:(gk g2 3||gk g2 4)=false:=by rw[<-hq5];exact hb
 obtain⟨q7,hq7⟩:=eqv (gk g2 2);refine a7 ?_;refine f7 [28,0,1,5,6,7,8] [0,5,6,7,8] [(2,.r fun _=>.bool (.v q7))] Z (hob:=by intro X;subst O;simp only[i7,Ob.holds,BE.den]<;>and_intros<;>repeat first|trivial|rfl|exact(by rw[hq7];exact I2 g2 _ _ 2 _ rfl)|exact by rw[hq7];exact I2 g2 _ _ 2 _ rfl|exact(fun _ _=>by kernel_rfl)|refine⟨?_,?_⟩|intro h|exact Int.le_refl _|decide|omega) fun X7 Z=>?_
 apply b7 Z rfl<;>intro hb Z
 .have t7:(gk g2 2&&decide (l0.len<64))=true:=by subst O;rw[<-hq7];revert hb;cases q7<;>simp[std,d4]
  have h64:l0.len<64:=by simp at t7;exact t7.2
  have h0l:=(r8 hl0.isl).1;have S8:=Hk key (l0.len+1) hk;simp only[i6]at S8;have e1:IntKind.i64.wrap (l0.len+1)=l0.len+1:=o8 (by omega) (by omega);have hk8:=jF hk (l0.len+1);obtain⟨k,hk⟩:=eqv (ofV key (l0.len+1));rw[<-hk]at S8 hk8;obtain⟨ke,hke⟩:=eqv (ofE (l0.len+1));rw[<-hke]at S8;rw[<-e1]at S8;have O1:=S8;refine i9 [0,1,5,6,7] [0,5,6,7] [(4,.r fun _=>.tup [.agg [.int .i64 k.len,.int .u64 k.bits],.int .i64 ke])] Z fun X8 Z=>?_
  replace Z:=Z.keep [0,1,5,6,7] [0,5,6,7];exact j9 (⟨(m0,p2,_,_,k),⟨by rw[hrun];simp[D9,Rs.bind,hm2,tq3,tq5,t7,<-hk],hp2,hn2,by dsimp only;have:=hf0;have:=hl2;omega,hk8⟩,by simp only;omega,Z⟩)
 have t7:(gk g2 2&&decide (l0.len<64))=false:=by subst O;rw[<-hq7];revert hb;cases q7<;>simp[std,d4]
 obtain⟨q9,hq9⟩:=eqv (gk g2 5);refine a7 ?_;refine f7 [45,0,1,5,6,7,8] [0,5,6,7,8,47] [(2,.r fun _=>.bool (.v q9))] Z (hob:=by intro X;subst O;simp only[i7,Ob.holds,BE.den]<;>and_intros<;>repeat first|trivial|rfl|exact(by rw[hq9];exact I2 g2 _ _ 5 _ rfl)|exact by rw[hq9];exact I2 g2 _ _ 5 _ rfl|exact(fun _ _=>by kernel_rfl)|refine⟨?_,?_⟩|intro h|exact Int.le_refl _|decide|omega) fun X9 Z=>?_
 apply b7 Z rfl<;>intro hb Z
 .have tq9:gk g2 5=true:=by rw[<-hq9];exact hb
  rcases(GY m0 0 b J hJ ((X2 2).A 0) ((X2 2).c 0) p2 hp2 hn2 l0 hl0 (by have:=hl2;have:=hf0;omega)).two (F9 _ _ _ _ _) hp2 hn2 with⟨w10,p10,hm10,O1⟩|⟨v10,p10,hm10,hs10,hp10,hn10,S10⟩
  .refine stp 2 O a8 [49,50] [0] [] Z O1 fun _ _ _ _ Z hk=>?_
   exact thm (P:=Tryz.prog) (fn:=Tryz.f166) (q:=p10) Z hk (by simp[hrun,D9,Rs.bind,hm2,tq3,tq5,t7,tq9,hm10])
  have O1:=S10;refine f7 [0,1,5,6,7] [0,5,6,7] [(2,rc J (k7) p10)] Z fun X10 Z=>?_
  refine j5 [0,1,5,6,7] [0,5,6,7] Z fun X13 Z=>?_
  replace Z:=Z.keep [0,1,5,6,7] [0,5,6,7];exact⟨(m0,p10,_,_,u9),⟨by rw[hrun];simp[D9,Rs.bind,hm2,tq3,tq5,t7,tq9,hm10],hp10,hn10,by dsimp only;have:=hf0;have:=hl2;have:=hs10.le;omega,P5⟩,by simp only;omega,Z⟩
 have tq9:gk g2 5=false:=by rw[<-hq9];exact hb
 refine a7 ?_;refine j5 [52,0,1,5,6,7,8] [0,5,6,7,8] Z fun X11 Z=>?_
 apply b7 Z rfl<;>intro hb Z
 .have t11:(!g2.has&&decide (l0=u9))=true:=by
   have h9:(if(!g2.has)=true then eqL [.int .i64 l0.len,.int .u64 l0.bits] [.int .i64 0,.int .u64 0]else false)=true:=by subst O;exact hb
   rw[show eqL [.int .i64 l0.len,.int .u64 l0.bits] [.int .i64 0,.int .u64 0]=decide (l0=u9)from cF l0 u9]at h9;rw[<-h9];cases g2.has<;>rfl
  rcases(Kt 0 b J hJ ((X2 2).A 0) ((X2 2).c 0) p2 hp2 hn2 u9 g2.ver).two (A5 _ _ _ _ _) hp2 hn2 with⟨w12,p12,hm12,O1⟩|⟨d12,p12,hm12,hs12,hp12,hn12,S12⟩
  .have O2:=Bb
   refine lK 5 O a8 [61,62,64,65] [0] [(4,.r fun _=>sv)] Z O1 fun _ _ _ _ Z hk=>?_
   exact thm (P:=Tryz.prog) (fn:=Tryz.f166) (q:=p12) Z hk (by simp[hrun,D9,Rs.bind,hm2,tq3,tq5,t7,tq9,t11,hm12])
  have O1:=Bb;have O2:=S12;refine drg O a8 [0,1,5,6,7] [0,5,6,7] [(4,.r fun _=>sv),(5,rc J (.bool (.v d12)) p12)] Z fun X12 _ _ Z=>?_
  refine j5 [0,1,5,6,7] [0,5,6,7] Z fun X13 Z=>?_
  replace Z:=Z.keep [0,1,5,6,7] [0,5,6,7];exact⟨(m0,p12,_,_,u9),⟨by rw[hrun];simp[D9,Rs.bind,hm2,tq3,tq5,t7,tq9,t11,hm12],hp12,hn12,by dsimp only;have:=hf0;have:=hl2;have:=hs12.le;omega,P5⟩,by simp only;omega,Z⟩
 have t11:(!g2.has&&decide (l0=u9))=false:=by
  have h9:(if(!g2.has)=true then eqL [.int .i64 l0.len,.int .u64 l0.bits] [.int .i64 0,.int .u64 0]else false)=false:=by subst O;exact hb
  rw[show eqL [.int .i64 l0.len,.int .u64 l0.bits] [.int .i64 0,.int .u64 0]=decide (l0=u9)from cF l0 u9]at h9;rw[<-h9];cases g2.has<;>rfl
 refine f8 (j5 [0,1,5,6,7] [0,5,6,7] Z fun X13 Z=>?_);replace Z:=Z.keep [0,1,5,6,7] [0,5,6,7];exact⟨(m0,p2,_,_,u9),⟨by rw[hrun];simp[D9,Rs.bind,hm2,tq3,tq5,t7,tq9,t11],hp2,hn2,by dsimp only;have:=hf0;have:=hl2;omega,P5⟩,by simp only;omega,Z⟩
theorem Jn(k0 b:Nat)(J:j4)(hJ:l6 J)(A:Option Addr)(c:Nat)(p:Pst)(hp:j3 p)(hn:p.n<=1000000)(key:Int)(hk:U64 key)(l:Lab)(hl:LOk l)(n:Nat)(hf:p.n<n):B3 166 k0 b J A c p [.int .u64 key,i6 l] (G9) (D9 J.bucket J.budget key n l p):=B3.re (ET b J hJ A c p hp hn key hk l hl n hf) (by repeat(first|exact trivial|refine⟨zr,?_⟩))
theorem IR(b:Nat)(J:j4)(hJ:l6 J)(A:Option Addr)(c:Nat)(p:Pst)(hp:j3 p)(hn:p.n<=1000000)(key:Int)(hk:U64 key)(n:Nat)(hf:p.n<n):B3 182 0 b J A c p [.int .u64 key] (G9) (D9 J.bucket J.budget key n u9 p):=by
 intro m w hm hargs hpre;refine enX 9 hm hpre hargs Tryz.func182 fun B O a0 Z=>?_
 refine a6 [0,1,4] [0,4] Z fun X0 Z=>?_
 refine a7 ?_
 rcases(Jn 0 b J hJ A c p hp hn key hk u9 P5 n hf).two (D5 _ _ _ _ _ _) hp hn with⟨w1,p1,hm1,O1⟩|⟨s1,p1,hm1,hs1,hp1,hn1,S1⟩
 .refine stp 3 O a8 [5,6,7] [0] [] Z O1 fun _ _ _ _ Z hk=>?_
  exact thm (P:=Tryz.prog) (fn:=Tryz.f182) (q:=p1) Z hk (by simp[Rs.bind,hm1])
 have O1:=S1;refine f7 [4] [0,4] [(3,rc J (G9 s1) p1)] Z fun X1 Z=>?_
 exact i8 ((rmm O a8 Z (v:=s1) (q:=p1) ((X1 3).A 0) ((X1 3).c 0) (by simp[Rs.bind,hm1])).1)
theorem vU(k0 b:Nat)(J:j4)(hJ:l6 J)(A:Option Addr)(c:Nat)(p:Pst)(hp:j3 p)(hn:p.n<=1000000)(key:Int)(hk:U64 key)(n:Nat)(hf:p.n<n):B3 182 k0 b J A c p [.int .u64 key] (G9) (D9 J.bucket J.budget key n u9 p):=B3.re (IR b J hJ A c p hp hn key hk n hf) (by repeat(first|exact trivial|refine⟨zr,?_⟩))
section
variable {C:Cx} {P:Program} {Q:Exit->Act->World->Prop} {T:List (Nat×TI)} {s:St} {a:Act} {w:World} {B:Alg} {f:FuncId} {k:Nat} {blk:Blk} {ty:Nat} {v:j8->AV} {sets:j8->List (Nat×List AV)} {args':List AV} {id:Nat} {all L rest:List Oper} {R:Alg->(Nat->j8)->St×List Ob} {o:Oper} {c:Call} {g:Operand} {l r args:(Nat->j8)->List AV}
theorem stl(i n:Nat)(O:B=std)(hT:o7 P T)(kp km:List Nat)(cs:List (Nat×CS))(h:i5 C s a w)(hsp:U5 P f args' [(k,blk)] (fun x=>.thr ty (v x) (sets x)))
  (K:∀X x a w',i5 C ((R B X).1.eff (.sets (upd [(k,blk)] (sets x)))) a w'->Ok (((R B X).1.eff (.sets (upd [(k,blk)] (sets x)))).m C) w' (v x)->Q (.panic [{ v:=.iface ty (v x).den,recovered:=false }]) a w')
  (hex:∀A X,(K3 A T cs X all (o9 i (L.take n)) s).map (fun r=>(r.1.keep kp km,r.2.1))=some (R A X):=by intro A X;conv=>lhs;cbv) (hob:∀X,i7 P C.K (R B X).2:=by
   intro X;subst O
   first
   |exact trivial
   |(simp only[i7,Ob.holds,BE.den]<;>and_intros<;>(repeat first|trivial|rfl|exact O1|exact O2|exact O3|exact(fun _ _=>by kernel_rfl)|exact O1 _ _ _ rfl|exact O2 _ _ _ rfl|refine⟨?_,?_⟩|intro h|decide|omega)<;>done)
   |(simp[i7,Ob.holds,BE.den,std,d4,j0]<;>omega))
  (hL:L.drop n=o::rest:=by rfl) (hop:o.op = .call c:=by rfl) (hcal:c.callee = .value g:=by rfl) (hg:∀X,uE all (R B X).1 o=true:=by intro X;rfl) (hgv:∀X,val (R B X).1 [] g = .fn f (l X) (r X):=by intro X;rfl) (hl:∀X,Y3 (R B X).1 [] c.args.toList=some (args X):=by intro X;rfl) (hsim:∀X,G3 (l X++args X++r X) args':=by intro X;subst O;exact zl)
  (hpre:∀X,j7 (R B X).1.mem k=some blk:=by intro X;rfl) (hd:∀X,gK (R B X).1 o.dst=true:=by intro X;rfl) (hen:l8 P f:=by exact fun _ _=>by kernel_rfl):wpList P all.toArray Q L a w:=
 fG i n O hT kp km cs h hex hob fun X a1 w1 Z=>cU hL (hg X) hop hcal Z (hgv X) (hl X) hen hsp (hsim X) (fQ (hpre X)) rfl (hd X) fun x w' Z hok=>K X x _ w' Z hok
end
theorem Sim.of_int{k:IntKind}{x y:Int}(h:x=y):Sim (.int k x) (.int k y):=h ▸ zr
theorem ME(f:Nat->Int)(v:Int):dZ 3 f v=(decide (f 0=v)||decide (f 1=v)||decide (f 2=v)):=by
 show(decide (f 0=v)||(decide (f 1=v)||(decide (f 2=v)||false)))=_
 rw[Bool.or_false,Bool.or_assoc]
theorem Nw(g:s9)(A:Option Addr)(k k2 k3:Int)(f:Nat->Int)(h0:f 0=k)(h1:f 1=k2)(h2:f 2=k3):k9 Tryz.prog 179 [B2 g,.sl none A 3 3 1 (fun i=>[.int .i64 (f i)])] (fun _=>.bool (.v (gk g k||gk g k2||gk g k3))):=by
 intro m w hm hargs;have S:=qO A 3 3 f g.x.r.kd;obtain⟨q,hq⟩:=eqv (dZ 3 f g.x.r.kd);rw[<-hq]at S;refine en 14 hm hargs Tryz.func179 fun B O a0 Z=>?_
 refine a6 [1,2] [2] Z fun X0 Z=>?_
 have O1:=S;refine i9 [4] [] [(7,.r fun _=>.bool (.v q))] Z fun X1 Z=>?_
 refine z7 Z ?_;subst O;refine Sim.bool ?_
 show(if g.has=true then q else false)=_
 rw[hq,ME,h0,h1,h2];unfold gk;simp only[wH g.x.r.kd];cases g.has<;>rfl
theorem Hn(g:s9)(G:Option Nat)(A:Option Addr)(k k2 k3:Int)(cells:Nat->List AV)(h0:cells 0=[.int .i64 k])(h1:cells 1=[.int .i64 k2])(h2:cells 2=[.int .i64 k3]):k9 Tryz.prog 179 [B2 g,.sl G A 3 3 1 cells] (fun _=>.bool (.v (gk g k||gk g k2||gk g k3))):=
 (Nw g A k k2 k3 (fun i=>if i=0 then k else if i=1 then k2 else k3) rfl rfl rfl).sim ⟨zr,Sim.recell (fun i hi=>by
  match i,hi with
  |0,_=>rw[h0];rfl
  |1,_=>rw[h1];rfl
  |2,_=>rw[h2];rfl),trivial⟩
theorem IT(b:Nat)(J:j4)(hJ:l6 J)(A:Option Addr)(c:Nat)(p:Pst)(hp:j3 p)(hn:p.n<=1000000)(l:Lab)(hl:LOk l)(n:Nat)(hf:p.n<n):B3 253 0 b J A c p [i6 l] (fun b:Bool=>.bool (.v b)) (bh J.bucket J.budget n l p):=by
 intro m w hm hargs hpre;have SP:=Hc l hl.u;simp only[i6]at SP;obtain⟨up,hup⟩:=eqv (Q5 l);rw[<-hup]at SP;obtain⟨ue,hue⟩:=eqv (R4 l);rw[<-hue]at SP;refine enX 25 hm hpre hargs Tryz.func253 fun B O a0 Z=>?_
 refine a6 [0,3] [0,3] Z fun X0 Z=>?_
 have O1:=SP;refine i9 [0,3,5,6] [0,3,5] [(1,.r fun _=>.tup [.agg [.int .i64 up.len,.int .u64 up.bits],.int .i64 ue])] Z fun X1 Z=>?_
 refine a7 (a7 ?_)
 rcases Bool.eq_false_or_eq_true (decide (ue=0))with t8|t8
 .have t9:=of_decide_eq_true t8
  refine wp_region_lit (lpr 0 3 O a8 [14,0,3,5] [0,3,5] [] Z fun X2_0 _ _ Z=>?_);replace Z:=Z.headS (v':=.bool .ff) (Sim.bool (by subst O;have h9:=t8;simp[std,d4,BE.den]at h9 ⊢;exact h9)) rfl
  rcases(aH 0 b J hJ A c p hp hn up).two (k8 _ _ _) hp hn with⟨w2,p2,hm2,O1⟩|⟨q2,p2,hm2,hs2,hp2,hn2,S2⟩
  .refine stl 3 2 O a8 [14,15,16] [0] [] Z O1 fun _ _ _ _ Z hk=>?_
   exact thm (P:=Tryz.prog) (fn:=Tryz.f253) (q:=p2) Z hk (by simp[bh,<-hup,<-hue,Rs.bind,t8,t9,hm2])
  have hl2:=B7 hm2;have hg2:=hp.get hm2;obtain⟨r2,hr2⟩:=eqv ((gk q2 2||gk q2 3||gk q2 4));refine lnd 3 O a8 [21,0,3] [0,3] [(7,.r fun _=>.bool (.v r2)),(5,rc J (B2 q2) p2)] Z (hob:=by intro X;subst O;simp only[i7,Ob.holds,BE.den]<;>and_intros<;>repeat first|trivial|rfl|exact S2|exact(by rw[hr2];exact Hn q2 _ _ 2 3 4 _ rfl rfl rfl)|exact by rw[hr2];exact Hn q2 _ _ 2 3 4 _ rfl rfl rfl|exact(fun _ _=>by kernel_rfl)|refine⟨?_,?_⟩|intro h|exact Int.le_refl _|decide|omega) fun X2 _ _ Z=>?_
  apply b7 Z rfl<;>intro hb Z
  .have tr:(gk q2 2||gk q2 3||gk q2 4)=false:=by subst O;rw[<-hr2];revert hb;cases r2<;>simp[std]
   refine a6 [4] [0] Z fun X3 Z=>?_
   exact i8 ((rmm O a8 Z (v:=true) (q:=p2) ((X2 5).A 0) ((X2 5).c 0) (by simp[bh,<-hup,<-hue,Rs.bind,t8,t9,hm2,tr])).1)
  have tr:(gk q2 2||gk q2 3||gk q2 4)=true:=by subst O;rw[<-hr2];revert hb;cases r2<;>simp[std]
  refine f8 (a7 ?_)
  rcases(GY n 0 b J hJ ((X2 5).A 0) ((X2 5).c 0) p2 hp2 hn2 l hl (by have:=hs2.le;omega)).two (F9 _ _ _ _ _) hp2 hn2 with⟨w4,p4,hm4,O1⟩|⟨v4,p4,hm4,hs4,hp4,hn4,S4⟩
  .refine stp 2 O a8 [22,23] [0] [] Z O1 fun _ _ _ _ Z hk=>?_
   exact thm (P:=Tryz.prog) (fn:=Tryz.f253) (q:=p4) Z hk (by simp[bh,<-hup,<-hue,Rs.bind,t8,t9,hm2,tr,hm4])
  have O1:=S4;refine f7 [] [0] [(2,rc J (k7) p4)] Z fun X4 Z=>?_
  refine a6 [4] [0] Z fun X5 Z=>?_
  exact i8 ((rmm O a8 Z (v:=false) (q:=p4) ((X4 2).A 0) ((X4 2).c 0) (by simp[bh,<-hup,<-hue,Rs.bind,t8,t9,hm2,tr,hm4])).1)
 have t9:=of_decide_eq_false t8;refine wp_region_lit (lpr 0 3 O a8 [14,0,3,5] [0,3,5] [] Z fun X2_0 _ _ Z=>?_);replace Z:=Z.headS (v':=.bool .tt) (Sim.bool (by subst O;have h9:=t8;simp[std,d4,BE.den]at h9 ⊢;exact h9)) rfl;refine lnd 3 O a8 [21,0,3] [0,3] [] Z fun X2 _ _ Z=>?_
 refine l7 Z rfl (fun Z=>?_);refine a6 [4] [0] Z fun X3 Z=>?_
 exact i8 ((rmm O a8 Z (v:=true) (q:=p) A c (by simp[bh,<-hup,<-hue,Rs.bind,t8,t9])).1)
theorem Ma(k0 b:Nat)(J:j4)(hJ:l6 J)(A:Option Addr)(c:Nat)(p:Pst)(hp:j3 p)(hn:p.n<=1000000)(l:Lab)(hl:LOk l)(n:Nat)(hf:p.n<n):B3 253 k0 b J A c p [i6 l] (fun b:Bool=>.bool (.v b)) (bh J.bucket J.budget n l p):=B3.re (IT b J hJ A c p hp hn l hl n hf) (by repeat(first|exact trivial|refine⟨zr,?_⟩))
theorem KA(b:Nat)(J:j4)(hJ:l6 J)(A:Option Addr)(c:Nat)(p:Pst)(hp:j3 p)(hn:p.n<=1000000)(key:Int)(hk:U64 key)(n:Nat)(hf:p.n<n):B3 211 0 b J A c p [.int .u64 key] (G9) (F6 J.bucket J.budget key n 0 64 p):=by
 intro m w hm hargs hpre;refine enX 63 hm hpre hargs Tryz.func211 fun B O a0 Z=>?_
 refine a6 [0,1,4] [0,4] Z fun X0 Z=>?_
 refine wp_scope_straight (a6 [5,6,0,1,4] [0,4] Z fun X1 Z=>?_);refine a7 (wp_label (a7 (j1 (l3 (ι:=Nat×Pst×Option Addr×Nat×Int×Int) (fun q=>[(5,.int .i64 q.2.2.2.2.1),(6,.int .i64 q.2.2.2.2.2)]) (fun q=>[(0,⟨b,139,G1 J q.2.2.1 q.2.2.2.1 q.2.1⟩)]) (fun q=>[]) (fun q=>F6 J.bucket J.budget key n 0 64 p=F6 J.bucket J.budget key q.1 q.2.2.2.2.1 q.2.2.2.2.2 q.2.1/\j3 q.2.1/\q.2.1.n<=1000000/\q.2.1.n<q.1/\0<=q.2.2.2.2.1/\q.2.2.2.2.1<=65/\-1<=q.2.2.2.2.2/\q.2.2.2.2.2<=64) (fun q=>q.1) (n,p,A,c,0,64) ⟨rfl,hp,hn,hf,(by dsimp only;omega),(by dsimp only;omega),(by dsimp only;omega),(by dsimp only;omega)⟩ Z ?_))))
 rintro⟨nn,p0,A0,c0,lo0,hi0⟩ ⟨hrun,hp0,hn0,hf0,ha0,ha1,hb0,hb1⟩ _ _ Z
 try dsimp only at hrun
 try dsimp only at hp0
 try dsimp only at hn0
 try dsimp only at hf0
 try dsimp only at ha0
 try dsimp only at ha1
 try dsimp only at hb0
 try dsimp only at hb1
 obtain⟨m0,rfl⟩:∃n2,nn=n2+1:=⟨nn-1,by omega⟩
 refine a7 (a6 [13,0,1,4,5,6] [0,4] Z fun X2 Z=>?_);apply b7 Z rfl<;>intro hb Z
 .have tl:lo0<=hi0:=by subst O;simpa[std,d4]using hb
  obtain⟨md,hmd⟩:=eqv ((lo0+hi0) / 2);have hm0:0<=md/\md<=64:=by omega
  have e3:jv .quo .i64 (j0 .add .i64 lo0 hi0) 2=md:=by
   show IntKind.i64.wrap (Int.tdiv (IntKind.i64.wrap (lo0+hi0)) 2)=md
   rw[o8 (x:=lo0+hi0) (by omega) (by omega),Int.tdiv_eq_ediv_of_nonneg (by omega),<-hmd];exact o8 (by omega) (by omega)
  have e9:j0 .add .i64 md 1=md+1:=o8 (by omega) (by omega);have e13:j0 .sub .i64 md 1=md-1:=o8 (by omega) (by omega);have S8:=Hk key md hk;simp only[i6]at S8;have hk9:=jF hk md;obtain⟨k,hkk⟩:=eqv (ofV key md);rw[<-hkk]at S8 hk9;have hk8:=hkk;obtain⟨ke,hke⟩:=eqv (ofE md);rw[<-hke]at S8;refine f8 (j1 (a6 [7,0,1,4,5,6] [0,4] Z fun X3 Z=>?_));replace Z:=Z.headS (v':=.int .i64 md) (by subst O;exact Sim.of_int e3) rfl;have O1:=S8;refine i9 [0,1,4,5,6,7,8] [0,4,8] [(2,.r fun _=>.tup [.agg [.int .i64 k.len,.int .u64 k.bits],.int .i64 ke])] Z fun X4 Z=>?_
  refine a7 ?_
  rcases(aH 0 b J hJ A0 c0 p0 hp0 hn0 k).two (k8 _ _ _) hp0 hn0 with⟨w5,p5,hm5,O1⟩|⟨g5,p5,hm5,hs5,hp5,hn5,S5⟩
  .refine stp 2 O a8 [24,25] [0] [] Z O1 fun _ _ _ _ Z hk=>?_
   exact thm (P:=Tryz.prog) (fn:=Tryz.f211) (q:=p5) Z hk (by simp[hrun,F6,Rs.bind,tl,<-hmd,<-hk8,hm5])
  have hl5:=B7 hm5;have hg5:=hp0.get hm5;have O1:=S5;refine f7 [0,1,4,5,6,7,8,10] [0,4,8,10] [(2,rc J (B2 g5) p5)] Z fun X5 Z=>?_
  obtain⟨q6,hq6⟩:=eqv (gk g5 1);refine a7 (j1 (a7 ?_));refine f7 [27,0,1,4,5,6,7,8,10] [0,4,8,10,29] [(2,.r fun _=>.bool (.v q6))] Z (hob:=by intro X;subst O;simp only[i7,Ob.holds,BE.den]<;>and_intros<;>repeat first|trivial|rfl|exact(by rw[hq6];exact I2 g5 _ _ 1 _ rfl)|exact by rw[hq6];exact I2 g5 _ _ 1 _ rfl|exact(fun _ _=>by kernel_rfl)|refine⟨?_,?_⟩|intro h|exact Int.le_refl _|decide|omega) fun X6 Z=>?_
  apply b7 Z rfl<;>intro hb Z
  .have tq6:gk g5 1=true:=by rw[<-hq6];exact hb
   refine a6 [4] [0,4] Z fun X7 Z=>?_
   exact i8 ((rmm O a8 Z (v:=(⟨k,g5⟩:Spt)) (q:=p5) ((X5 2).A 0) ((X5 2).c 0) (by simp[hrun,F6,Rs.bind,tl,<-hmd,<-hk8,hm5,tq6])).1)
  have tq6:gk g5 1=false:=by rw[<-hq6];exact hb
  obtain⟨q8,hq8⟩:=eqv (gk g5 2);refine a7 ?_;refine f7 [34,0,1,4,5,6,7,8,10] [0,4,8,10,36] [(2,.r fun _=>.bool (.v q8))] Z (hob:=by intro X;subst O;simp only[i7,Ob.holds,BE.den]<;>and_intros<;>repeat first|trivial|rfl|exact(by rw[hq8];exact I2 g5 _ _ 2 _ rfl)|exact by rw[hq8];exact I2 g5 _ _ 2 _ rfl|exact(fun _ _=>by kernel_rfl)|refine⟨?_,?_⟩|intro h|exact Int.le_refl _|decide|omega) fun X8 Z=>?_
  apply b7 Z rfl<;>intro hb Z
  .have tq8:gk g5 2=true:=by rw[<-hq8];exact hb
   refine a6 [5,0,1,4,6] [0,4] Z fun X9 Z=>?_
   have e9':B.arith .add .i64 md 1=md+1:=by subst O;exact e9
   replace Z:=Z.keep [5,6,0,1,4] [0,4];exact j9 (⟨(m0,p5,_,_,(md+1),hi0),⟨by rw[hrun];simp[F6,Rs.bind,tl,<-hmd,<-hk8,hm5,tq6,tq8],hp5,hn5,(by dsimp only;have:=hf0;have:=hl5;omega),(by dsimp only;omega),(by dsimp only;omega),(by dsimp only;omega),(by dsimp only;omega)⟩,by simp only;omega,by dsimp only;rw[<-e9'];exact Z⟩)
  have tq8:gk g5 2=false:=by rw[<-hq8];exact hb
  obtain⟨q10,hq10⟩:=eqv ((gk g5 3||gk g5 4));refine a7 ?_;refine f7 [40,0,1,4,5,6,7,8,10] [0,4,8,10,42] [(2,.r fun _=>.bool (.v q10))] Z (hob:=by intro X;subst O;simp only[i7,Ob.holds,BE.den]<;>and_intros<;>repeat first|trivial|rfl|exact(by rw[hq10];exact cB g5 _ _ 3 4 _ rfl rfl)|exact by rw[hq10];exact cB g5 _ _ 3 4 _ rfl rfl|exact(fun _ _=>by kernel_rfl)|refine⟨?_,?_⟩|intro h|exact Int.le_refl _|decide|omega) fun X10 Z=>?_
  apply b7 Z rfl<;>intro hb Z
  .have tq10:(gk g5 3||gk g5 4)=true:=by rw[<-hq10];exact hb
   refine a7 ?_
   rcases(Hr m0 0 b J hJ ((X5 2).A 0) ((X5 2).c 0) p5 hp5 hn5 k hk9 g5 hg5 (by have:=hl5;have:=hf0;omega)).two (R8 _ _ _ _ _ _) hp5 hn5 with⟨w11,p11,hm11,O1⟩|⟨v11,p11,hm11,hs11,hp11,hn11,S11⟩
   .refine stp 3 O a8 [44,45,46] [0] [] Z O1 fun _ _ _ _ Z hk=>?_
    exact thm (P:=Tryz.prog) (fn:=Tryz.f211) (q:=p11) Z hk (by simp[hrun,F6,Rs.bind,tl,<-hmd,<-hk8,hm5,tq6,tq8,tq10,hm11])
   have O1:=S11;refine f7 [0,1,4,5,6] [0,4] [(3,rc J (k7) p11)] Z fun X11 Z=>?_
   replace Z:=Z.keep [5,6,0,1,4] [0,4];exact j9 (⟨(m0,p11,_,_,lo0,hi0),⟨by rw[hrun];simp[F6,Rs.bind,tl,<-hmd,<-hk8,hm5,tq6,tq8,tq10,hm11],hp11,hn11,(by dsimp only;have:=hf0;have:=hl5;have:=hs11.le;omega),(by dsimp only;omega),(by dsimp only;omega),(by dsimp only;omega),(by dsimp only;omega)⟩,by simp only;omega,by exact Z⟩)
  have tq10:(gk g5 3||gk g5 4)=false:=by rw[<-hq10];exact hb
  refine a7 ?_
  rcases Bool.eq_false_or_eq_true (gk g5 5)with t8|t8
  .rcases (Ma 0 b J hJ ((X5 2).A 0) ((X5 2).c 0) p5 hp5 hn5 k hk9 m0 (by have:=hl5;have:=hf0;omega)).two (iV _ _ _ _ _) hp5 hn5 with⟨w12,p12,hm12,O1⟩|⟨b12,p12,hm12,hs12,hp12,hn12,S12⟩
   .refine stp 6 O a8 [52,53,54] [0] [(2,.r fun _=>.bool .tt)] Z O1 (hob:=by intro X;subst O;simp only[i7,Ob.holds,BE.den]<;>and_intros<;>repeat first|trivial|rfl|exact((I2 g5 _ _ 5 _ rfl).res fun _=>Sim.bool (by rw[t8];rfl))|exact(fun _ _=>by kernel_rfl)|refine⟨?_,?_⟩|intro h|exact Int.le_refl _|decide|omega) fun _ _ _ _ Z hk=>?_
    exact thm (P:=Tryz.prog) (fn:=Tryz.f211) (q:=p12) Z hk (by simp[hrun,F6,Rs.bind,tl,<-hmd,<-hk8,hm5,tq6,tq8,tq10,t8,hm12])
   refine f7 [48,0,1,4,5,6,7] [0,4] [(2,.r fun _=>.bool .tt),(6,rc J (.bool (.v b12)) p12)] Z (hob:=by intro X;subst O;simp only[i7,Ob.holds,BE.den]<;>and_intros<;>repeat first|trivial|rfl|exact((I2 g5 _ _ 5 _ rfl).res fun _=>Sim.bool (by rw[t8];rfl))|exact S12|exact(fun _ _=>by kernel_rfl)|refine⟨?_,?_⟩|intro h|exact Int.le_refl _|decide|omega) fun X12 Z=>?_
   apply b7 Z rfl<;>intro hb Z
   .have tb:b12=false:=by subst O;revert hb;cases b12<;>simp[std]
    replace Z:=Z.keep [5,6,0,1,4] [0,4];exact j9 (⟨(m0,p12,_,_,lo0,hi0),⟨by rw[hrun];simp[F6,Rs.bind,tl,<-hmd,<-hk8,hm5,tq6,tq8,tq10,t8,hm12,tb],hp12,hn12,(by dsimp only;have:=hf0;have:=hl5;have:=hs12.le;omega),(by dsimp only;omega),(by dsimp only;omega),(by dsimp only;omega),(by dsimp only;omega)⟩,by simp only;omega,by exact Z⟩)
   have tb:b12=true:=by subst O;revert hb;cases b12<;>simp[std]
   refine f8 (j5 [0,1,4,5,6] [0,4] Z fun X13 Z=>?_);have e13':B.arith .sub .i64 md 1=md-1:=by subst O;exact e13
   replace Z:=Z.keep [5,6,0,1,4] [0,4];exact⟨(m0,p12,_,_,lo0,(md-1)),⟨by rw[hrun];simp[F6,Rs.bind,tl,<-hmd,<-hk8,hm5,tq6,tq8,tq10,t8,hm12,tb],hp12,hn12,(by dsimp only;have:=hf0;have:=hl5;have:=hs12.le;omega),(by dsimp only;omega),(by dsimp only;omega),(by dsimp only;omega),(by dsimp only;omega)⟩,by simp only;omega,by dsimp only;rw[<-e13'];exact Z⟩
  refine f7 [48,0,1,4,5,6,7] [0,4] [(2,.r fun _=>.bool .ff)] Z (hob:=by intro X;subst O;simp only[i7,Ob.holds,BE.den]<;>and_intros<;>repeat first|trivial|rfl|exact((I2 g5 _ _ 5 _ rfl).res fun _=>Sim.bool (by rw[t8];rfl))|exact(fun _ _=>by kernel_rfl)|refine⟨?_,?_⟩|intro h|exact Int.le_refl _|decide|omega) fun X12 Z=>?_
  refine l4 Z rfl (fun Z=>?_);refine f8 (j5 [0,1,4,5,6] [0,4] Z fun X13 Z=>?_);have e13':B.arith .sub .i64 md 1=md-1:=by subst O;exact e13
  replace Z:=Z.keep [5,6,0,1,4] [0,4];exact⟨(m0,p5,_,_,lo0,(md-1)),⟨by rw[hrun];simp[F6,Rs.bind,tl,<-hmd,<-hk8,hm5,tq6,tq8,tq10,t8],hp5,hn5,(by dsimp only;have:=hf0;have:=hl5;omega),(by dsimp only;omega),(by dsimp only;omega),(by dsimp only;omega),(by dsimp only;omega)⟩,by simp only;omega,by dsimp only;rw[<-e13'];exact Z⟩
 have tl:¬lo0<=hi0:=by subst O;simpa[std,d4]using hb
 refine j9 (a7 ?_)
 rcases(vU 0 b J hJ A0 c0 p0 hp0 hn0 key hk (m0+1) hf0).two (D5 _ _ _ _ _ _) hp0 hn0 with⟨w14,p14,hm14,O1⟩|⟨s14,p14,hm14,hs14,hp14,hn14,S14⟩
 .refine stp 2 O a8 [60,61] [0] [] Z O1 fun _ _ _ _ Z hk=>?_
  exact thm (P:=Tryz.prog) (fn:=Tryz.f211) (q:=p14) Z hk (by simp[hrun,F6,Rs.bind,tl,hm14])
 have O1:=S14;refine f7 [4] [0,4] [(2,rc J (G9 s14) p14)] Z fun X14 Z=>?_
 exact i8 ((rmm O a8 Z (v:=s14) (q:=p14) ((X14 2).A 0) ((X14 2).c 0) (by simp[hrun,F6,Rs.bind,tl,hm14])).1)
theorem MA(k0 b:Nat)(J:j4)(hJ:l6 J)(A:Option Addr)(c:Nat)(p:Pst)(hp:j3 p)(hn:p.n<=1000000)(key:Int)(hk:U64 key)(n:Nat)(hf:p.n<n):B3 211 k0 b J A c p [.int .u64 key] (G9) (F6 J.bucket J.budget key n 0 64 p):=B3.re (KA b J hJ A c p hp hn key hk n hf) (by repeat(first|exact trivial|refine⟨zr,?_⟩))
theorem DA(b:Nat)(J:j4)(hJ:l6 J)(A:Option Addr)(c:Nat)(p:Pst)(hp:j3 p)(hn:p.n<=1000000)(key:Int)(hk:U64 key)(n:Nat)(hf:p.n<n)(hh:J.how=1):B3 145 0 b J A c p [.int .u64 key] (G9) (D9 J.bucket J.budget key n u9 p):=by
 intro m w hm hargs hpre;refine enX 17 hm hpre hargs Tryz.func145 fun B O a0 Z=>?_
 refine a6 [0,1,4] [0,4] Z fun X0 Z=>?_
 refine a6 [0,1,4,5] [0,4,5] Z fun X1 Z=>?_
 refine a7 (wp_region_lit (lpr 0 5 O a8 [11,0,1,4,5] [0,4,5] [] Z fun X2_0 _ _ Z=>?_));replace Z:=Z.headS (v':=.int .i64 1) (Sim.of_int hh) rfl
 rcases(vU 0 b J hJ A c p hp hn key hk n hf).two (D5 _ _ _ _ _ _) hp hn with⟨w2,p2,hm2,O1⟩|⟨s2,p2,hm2,hs2,hp2,hn2,S2⟩
 .refine stl 5 4 O a8 [13,14,15] [0] [] Z O1 fun _ _ _ _ Z hk=>?_
  exact thm (P:=Tryz.prog) (fn:=Tryz.f145) (q:=p2) Z hk (by simp[Rs.bind,hm2])
 have O1:=S2;refine lnd 5 O a8 [4] [0,4] [(9,rc J (G9 s2) p2)] Z fun X2 _ _ Z=>?_
 exact i8 ((rmm O a8 Z (v:=s2) (q:=p2) ((X2 9).A 0) ((X2 9).c 0) (by simp[Rs.bind,hm2])).1)
theorem Ih(k0 b:Nat)(J:j4)(hJ:l6 J)(A:Option Addr)(c:Nat)(p:Pst)(hp:j3 p)(hn:p.n<=1000000)(key:Int)(hk:U64 key)(n:Nat)(hf:p.n<n)(hh:J.how=1):B3 145 k0 b J A c p [.int .u64 key] (G9) (D9 J.bucket J.budget key n u9 p):=B3.re (DA b J hJ A c p hp hn key hk n hf hh) (by repeat(first|exact trivial|refine⟨zr,?_⟩))
theorem Dz(b:Nat)(J:j4)(hJ:l6 J)(A:Option Addr)(c:Nat)(p:Pst)(hp:j3 p)(hn:p.n<=1000000)(key:Int)(hk:U64 key)(n:Nat)(hf:p.n<n)(hh:J.how=2):B3 145 0 b J A c p [.int .u64 key] (G9) (F6 J.bucket J.budget key n 0 64 p):=by
 intro m w hm hargs hpre;refine enX 17 hm hpre hargs Tryz.func145 fun B O a0 Z=>?_
 refine a6 [0,1,4] [0,4] Z fun X0 Z=>?_
 refine a6 [0,1,4,5] [0,4,5] Z fun X1 Z=>?_
 refine a7 (wp_region_lit (lpr 0 5 O a8 [11,0,1,4,5] [0,4,5] [] Z fun X2_0 _ _ Z=>?_));replace Z:=Z.headS (v':=.int .i64 2) (Sim.of_int hh) rfl
 rcases(MA 0 b J hJ A c p hp hn key hk n hf).two (cC _ _ _ _ _ _ _) hp hn with⟨w2,p2,hm2,O1⟩|⟨s2,p2,hm2,hs2,hp2,hn2,S2⟩
 .refine stl 5 4 O a8 [13,14,15] [0] [] Z O1 fun _ _ _ _ Z hk=>?_
  exact thm (P:=Tryz.prog) (fn:=Tryz.f145) (q:=p2) Z hk (by simp[Rs.bind,hm2])
 have O1:=S2;refine lnd 5 O a8 [4] [0,4] [(9,rc J (G9 s2) p2)] Z fun X2 _ _ Z=>?_
 exact i8 ((rmm O a8 Z (v:=s2) (q:=p2) ((X2 9).A 0) ((X2 9).c 0) (by simp[Rs.bind,hm2])).1)
theorem Ig(k0 b:Nat)(J:j4)(hJ:l6 J)(A:Option Addr)(c:Nat)(p:Pst)(hp:j3 p)(hn:p.n<=1000000)(key:Int)(hk:U64 key)(n:Nat)(hf:p.n<n)(hh:J.how=2):B3 145 k0 b J A c p [.int .u64 key] (G9) (F6 J.bucket J.budget key n 0 64 p):=B3.re (Dz b J hJ A c p hp hn key hk n hf hh) (by repeat(first|exact trivial|refine⟨zr,?_⟩))
theorem Lz(k0 b:Nat)(J:j4)(hJ:l6 J)(A:Option Addr)(c:Nat)(p:Pst)(hp:j3 p)(hn:p.n<=1000000)(key:Int)(hk:U64 key)(n:Nat)(hf:p.n<n)(hh:J.how=1 \/ J.how=2):B3 145 k0 b J A c p [.int .u64 key] G9 (ii J.bucket J.budget J.how key n p):=by
 unfold ii
 rcases hh with hh|hh
 .rw [if_pos hh];exact Ih k0 b J hJ A c p hp hn key hk n hf hh
 rw[if_neg (by omega)];exact Ig k0 b J hJ A c p hp hn key hk n hf hh
structure s8 where
 A:Option Addr
 n:Nat
 c:Nat
 f:Nat->s9
structure Rel(E:s8)(N:Nat)(p:Pst):Prop where
 n:p.n+N=E.n
 g:∀j,p.g j=E.f (N+j)
theorem Rel.suf{E:s8}{N:Nat}{p q:Pst}(h:Rel E N p)(hs:Suf p q):Rel E (E.n-q.n) q:=by
 obtain⟨d,h1,h2⟩:=hs;have h3:=h.n;refine⟨by omega,fun j=>?_⟩;rw[h2,h.g]
 congr 1
 omega
abbrev U4(J:j4)(E:s8)(N:Nat)(t:Nt):List AV:=[.int .i64 J.kind,.int .i64 J.lab.len,.int .u64 J.lab.bits,.int .u64 J.key,.int .u64 J.hi,.str J.val,.int .i64 J.most,.sl none J.pA J.pn J.pc 1 (fun i=>[.int .i64 (J.pf i)]),.int .u32 J.x1,.int .u32 J.x2,.int .u32 J.y1,.int .u32 J.y2,.int .i64 J.how,.int .i64 J.bucket,.int .i64 J.budget,
 .sl none E.A E.n E.c 8 (fun j=>V2 (E.f j)),.int .i64 (N:Int),.bool .ff,
 .int .i64 0,.int .i64 0,.int .u64 0,.int .u64 0,.int .i64 0,.sl none none 0 0 2 (fun _=>[]),.int .i64 0,.int .u64 0,.int .u64 0,.int .i64 0,.bool .ff,.str ⟨#[]⟩,.sl none none 0 0 2 (fun _=>[]),.int .u64 0,.bool .ff,
 .int .i64 t.code,.bool (.v t.had),.str t.val,.sl none none 0 0 2 (fun _=>[]),.int .u64 0,.bool .ff]
abbrev G2(J:j4)(E:s8)(N:Nat)(w:B0)(t:Nt):List AV:=[.int .i64 J.kind,.int .i64 J.lab.len,.int .u64 J.lab.bits,.int .u64 J.key,.int .u64 J.hi,.str J.val,.int .i64 J.most,.sl none J.pA J.pn J.pc 1 (fun i=>[.int .i64 (J.pf i)]),.int .u32 J.x1,.int .u32 J.x2,.int .u32 J.y1,.int .u32 J.y2,.int .i64 J.how,.int .i64 J.bucket,.int .i64 J.budget,
 .sl none E.A E.n E.c 8 (fun j=>V2 (E.f j)),.int .i64 (N:Int),.bool .tt,
 .int .i64 w.kind,.int .i64 w.lab.len,.int .u64 w.lab.bits,.int .u64 w.ver,.int .i64 w.x.r.kd,.sl none w.x.A w.x.r.n w.x.c 2 (fun i=>itC (w.x.r.f i)),.int .i64 w.x.r.nx.len,.int .u64 w.x.r.nx.bits,.int .u64 w.x.r.mrk,.int .i64 w.s.code,.bool (.v w.s.had),.str w.s.val,.sl none w.s.A w.s.n w.s.c 2 (fun i=>itC (w.s.f i)),.int .u64 w.s.key,.bool (.v w.s.more),
 .int .i64 t.code,.bool (.v t.had),.str t.val,.sl none none 0 0 2 (fun _=>[]),.int .u64 0,.bool .ff]
abbrev Hv(b:Bool)(J:j4)(E:s8)(N:Nat)(w:B0)(t:Nt):List AV:=[.int .i64 J.kind,.int .i64 J.lab.len,.int .u64 J.lab.bits,.int .u64 J.key,.int .u64 J.hi,.str J.val,.int .i64 J.most,.sl none J.pA J.pn J.pc 1 (fun i=>[.int .i64 (J.pf i)]),.int .u32 J.x1,.int .u32 J.x2,.int .u32 J.y1,.int .u32 J.y2,.int .i64 J.how,.int .i64 J.bucket,.int .i64 J.budget,
 .sl none E.A E.n E.c 8 (fun j=>V2 (E.f j)),.int .i64 (N:Int),.bool (.v b),
 .int .i64 w.kind,.int .i64 w.lab.len,.int .u64 w.lab.bits,.int .u64 w.ver,.int .i64 w.x.r.kd,.sl none w.x.A w.x.r.n w.x.c 2 (fun i=>itC (w.x.r.f i)),.int .i64 w.x.r.nx.len,.int .u64 w.x.r.nx.bits,.int .u64 w.x.r.mrk,.int .i64 w.s.code,.bool (.v w.s.had),.str w.s.val,.sl none w.s.A w.s.n w.s.c 2 (fun i=>itC (w.s.f i)),.int .u64 w.s.key,.bool (.v w.s.more),
 .int .i64 t.code,.bool (.v t.had),.str t.val,.sl none none 0 0 2 (fun _=>[]),.int .u64 0,.bool .ff]
theorem df{b:Bool}(h:b=true)(J:j4)(E:s8)(N:Nat)(w:B0)(t:Nt):G3 (G2 J E N w t) (Hv b J E N w t):=by
 subst h;exact⟨zr,zr,zr,zr,zr,zr,zr,zr,zr,zr,zr,zr,zr,zr,zr,zr,zr,Sim.bool rfl,zr,zr,zr,zr,zr,zr,zr,zr,zr,zr,zr,zr,zr,zr,zr,zr,zr,zr,zr,zr,zr,trivial⟩
theorem dg{b:Bool}(h:b=true)(J:j4)(E:s8)(N:Nat)(w:B0)(t:Nt):G3 (Hv b J E N w t) (G2 J E N w t):=by
 subst h;exact⟨zr,zr,zr,zr,zr,zr,zr,zr,zr,zr,zr,zr,zr,zr,zr,zr,zr,Sim.bool rfl,zr,zr,zr,zr,zr,zr,zr,zr,zr,zr,zr,zr,zr,zr,zr,zr,zr,zr,zr,zr,zr,trivial⟩
def ni{α : Type}(k0:Nat)(J:j4)(E:s8)(enc:α->AV)(dfl:AV)(r:Rs α)(x:j8):CR:=match r with
 | .ok a p=>⟨enc a,[(k0,U4 J E (E.n-p.n) p.note)],[]⟩
 | .stop w p=>⟨dfl,[(k0,G2 J E (E.n-p.n) (wqA x w) p.note)],[]⟩
def B5{α : Type}(f:FuncId)(k0 b:Nat)(J:j4)(E:s8)(N:Nat)(p:Pst)(args:List AV)(enc:α->AV)(dfl:AV)(r:Rs α):Prop:=
 C1 Tryz.prog f (.ptr k0 b 0::args) [(k0,⟨b,147,U4 J E N p.note⟩)] (fun x=>ni k0 J E enc dfl r x)
theorem B5.ok{α : Type}{f:FuncId}{k0 b:Nat}{J:j4}{E:s8}{N M:Nat}{p q:Pst}{args:List AV}{enc:α->AV}{dfl:AV}{r:Rs α}{a:α}(h:B5 f k0 b J E N p args enc dfl r)(e:r = .ok a q)(hM:M=E.n-q.n) :
  C1 Tryz.prog f (.ptr k0 b 0::args) [(k0,⟨b,147,U4 J E N p.note⟩)] (fun x=>⟨enc a,[(k0,U4 J E M q.note)],[]⟩):=by
 subst e;subst hM;exact h
theorem B5.stop{α : Type}{f:FuncId}{k0 b:Nat}{J:j4}{E:s8}{N M:Nat}{p q:Pst}{args:List AV}{enc:α->AV}{dfl:AV}{r:Rs α}{w:Wq}(h:B5 f k0 b J E N p args enc dfl r)(e:r = .stop w q)(hM:M=E.n-q.n)
  {rr:RN} {nn:Nat} {ff:Nat->Itm} (h1:rr=w.r.rn) (h2:nn=w.res.items.length) (h3:ff=itF w.res.items) :
  C1 Tryz.prog f (.ptr k0 b 0::args) [(k0,⟨b,147,U4 J E N p.note⟩)] (fun x=>⟨dfl,[(k0,G2 J E M ⟨w.kind,w.lab,w.ver,⟨x.A 1,x.c 1,rr⟩,⟨w.res.code,w.res.had,w.res.val,x.A 2,nn,x.c 2,ff,w.res.key,w.res.more⟩⟩ q.note)],[]⟩):=by
 subst e;subst hM;subst h1;subst h2;subst h3;exact h
theorem B5.re{α : Type}{f:FuncId}{k0 b:Nat}{J:j4}{E:s8}{N:Nat}{p:Pst}{args args':List AV}{enc:α->AV}{dfl:AV}{r:Rs α}(h:B5 f 0 b J E N p args enc dfl r)(ha:G3 args' args):B5 f k0 b J E N p args' enc dfl r:=
 C1.re h ⟨Sim.ptr,ha⟩ rfl fun x=>by
  cases r with
  |ok a p=>exact⟨rfl,rfl,zr,rfl⟩
  |stop w p=>exact⟨rfl,rfl,zr,rfl⟩
def E8(f:FuncId)(k0 b:Nat)(J:j4)(E:s8)(N:Nat)(q:B0)(t:Nt)(args:List AV)(dfl:AV):Prop:=
 C1 Tryz.prog f (.ptr k0 b 0::args) [(k0,⟨b,147,G2 J E N q t⟩)] (fun _=>⟨dfl,[(k0,G2 J E N q t)],[]⟩)
theorem E8.re{f:FuncId}{k0 b:Nat}{J:j4}{E:s8}{N:Nat}{q:B0}{t:Nt}{args args':List AV}{dfl:AV}(h:E8 f 0 b J E N q t args dfl)(ha:G3 args' args):E8 f k0 b J E N q t args' dfl:=
 C1.re h ⟨Sim.ptr,ha⟩ rfl fun x=>⟨rfl,rfl,zr,rfl⟩
section
variable {P:Program} {T:List (Nat×TI)} {s:St} {a:Act} {w:World} {α : Type} {Kk:Kn} {m:Nat->Nat->Prop} {w0:World} {b k0 ty:Nat} {cs:List AV} {fn:Func} {enc:α->AV} {dfl:AV} {J:j4} {E:s8} {r:Rs α}
theorem Io(hT:o7 P T)(h:i5 ⟨m,w0,ats [(k0,⟨b,ty,cs⟩)],[],Kk⟩ s a w){rs:List ResultVar}(hfn:fn.results=rs.toArray){rr:List AV×List Ob}(hrr:T5 T s rs=some rr)(ho:i7 P Kk rr.2)
  {v:α} {q:Pst} {M:Nat} (hr:r = .ok v q) (hM:M=E.n-q.n) (he:Sim (can (K0 rr.1)) (can (enc v))) (hs:C2 s [(k0,⟨b,ty,cs⟩)] [(k0,U4 J E M q.note)]) :
  bodyPost P fn (Z9 m w0 [(k0,⟨b,ty,cs⟩)] (fun x=>ni k0 J E enc dfl r x)) .ret a w/\bodyPost P fn (Z9 m w0 [(k0,⟨b,ty,cs⟩)] (fun x=>ni k0 J E enc dfl r x)) .normal a w:=by
 subst hr;subst hM;exact vz (res:=fun x=>ni k0 J E enc dfl (.ok v q) x) hT h hfn hrr ho ⟨0,fun _=>none,fun _=>0,fun _=>.empty⟩ [] he hs trivial
theorem Im(hT:o7 P T)(h:i5 ⟨m,w0,ats [(k0,⟨b,ty,cs⟩)],[],Kk⟩ s a w){rs:List ResultVar}(hfn:fn.results=rs.toArray){rr:List AV×List Ob}(hrr:T5 T s rs=some rr)(ho:i7 P Kk rr.2)
  {q:Pst} {wq:Wq} {Q:B0} {M:Nat} (x:j8) (hr:r = .stop wq q) (hM:M=E.n-q.n) (hq:Q=wqA x wq) (he:Sim (can (K0 rr.1)) (can dfl)) (hs:C2 s [(k0,⟨b,ty,cs⟩)] [(k0,G2 J E M Q q.note)]) :
  bodyPost P fn (Z9 m w0 [(k0,⟨b,ty,cs⟩)] (fun x=>ni k0 J E enc dfl r x)) .ret a w/\bodyPost P fn (Z9 m w0 [(k0,⟨b,ty,cs⟩)] (fun x=>ni k0 J E enc dfl r x)) .normal a w:=by
 subst hr;subst hM;subst hq;exact vz (res:=fun x=>ni k0 J E enc dfl (.stop wq q) x) hT h hfn hrr ho x [] he hs trivial
theorem zX(hT:o7 P T)(h:i5 ⟨m,w0,ats [(k0,⟨b,ty,cs⟩)],[],Kk⟩ s a w){rs:List ResultVar}(hfn:fn.results=rs.toArray){rr:List AV×List Ob}(hrr:T5 T s rs=some rr)(ho:i7 P Kk rr.2)
  {sets:List (Nat×List AV)} (he:Sim (can (K0 rr.1)) (can dfl)) (hs:C2 s [(k0,⟨b,ty,cs⟩)] sets) :
  bodyPost P fn (Z9 m w0 [(k0,⟨b,ty,cs⟩)] (fun _=>⟨dfl,sets,[]⟩)) .ret a w/\bodyPost P fn (Z9 m w0 [(k0,⟨b,ty,cs⟩)] (fun _=>⟨dfl,sets,[]⟩)) .normal a w:=
 vz (res:=fun _=>⟨dfl,sets,[]⟩) hT h hfn hrr ho ⟨0,fun _=>none,fun _=>0,fun _=>.empty⟩ [] he hs trivial
end
abbrev bI:AV:=.agg [.int .i64 0,.int .u64 0,.bool .ff,.int .i64 0,.sl none none 0 0 2 (fun _=>[]),.int .i64 0,.int .u64 0,.int .u64 0]
theorem DV{J:j4}{E:s8}{N:Nat}{p:Pst}(h:Rel E N p):((p.n:Int)+(J.budget-E.n)<=0↔J.budget<=(N:Int))/\(0<p.n↔N<E.n):=by
 have:=h.n;omega
inductive LSt where
 |go (n:Nat) (p:Pst) (N:Nat)
 |dn (p:Pst) (N:Nat)
 |sp (N:Nat) (Q:B0) (t:Nt)
abbrev lsC(J:j4)(E:s8):LSt->List AV
 | .go _ p N=>U4 J E N p.note
 | .dn p N=>U4 J E N p.note
 | .sp N Q t=>G2 J E N Q t
abbrev lsB:LSt->BE
 | .dn .. =>.tt
 |_=>.ff
def lsM:LSt->Nat
 | .go n _ _=>n+1
 |_=>0
abbrev LE(x:rq):AV:=.agg [.int .i64 x.code,.bool (.v x.had),.str x.val,.sl none x.A x.n x.c 2 (fun i=>itC (x.f i)),.int .u64 x.key,.bool (.v x.more)]
section
variable {P:Program} {T:List (Nat×TI)} {s:St} {a:Act} {w:World} {α : Type} {Kk:Kn} {m:Nat->Nat->Prop} {w0:World} {b k0 ty:Nat} {cs:List AV} {fn:Func} {enc:α->AV} {dfl:AV} {J:j4} {E:s8} {r:Rs α} {rs:List ResultVar} {rr:List AV×List Ob} {B:Alg}
theorem B5.two{f:FuncId}{N:Nat}{p:Pst}{args:List AV}(h:B5 f k0 b J E N p args enc dfl r)(hf:Fro p r)(hp:j3 p)(hn:p.n<=1000000)(hR:Rel E N p) :
  (∃v q M,r = .ok v q/\Suf p q/\j3 q/\q.n<=1000000/\Rel E M q/\M=E.n-q.n/\C1 Tryz.prog f (.ptr k0 b 0::args) [(k0,⟨b,147,U4 J E N p.note⟩)] (fun _=>⟨enc v,[(k0,U4 J E M q.note)],[]⟩)) ∨
  ∃wq q M,∃W:j8->B0,r = .stop wq q/\Suf p q/\M=E.n-q.n/\(∀x,W x=wqA x wq)/\C1 Tryz.prog f (.ptr k0 b 0::args) [(k0,⟨b,147,U4 J E N p.note⟩)] (fun x=>⟨dfl,[(k0,G2 J E M (W x) q.note)],[]⟩):=by
 cases hr:r with
 |ok v q=>have hs:=hf.of hr;exact .inl ⟨v,q,_,rfl,hs,hp.suf hs,Nat.le_trans hs.le hn,hR.suf hs,rfl,h.ok hr rfl⟩
 |stop wq q=>exact .inr ⟨wq,q,_,fun x=>wqA x wq,rfl,hf.ofs hr,rfl,fun _=>rfl,h.stop hr rfl rfl rfl rfl⟩
abbrev lc(J:j4)(E:s8)(v:AV)(N:Nat)(p:Pst):CS:=.x fun _=>⟨v,[(0,U4 J E N p.note)],[]⟩
abbrev sc(J:j4)(E:s8)(v:AV)(N:Nat)(W:j8->B0)(t:Nt):CS:=.x fun x=>⟨v,[(0,G2 J E N (W x) t)],[]⟩
abbrev dc(J:j4)(E:s8)(v:AV)(N:Nat)(W:B0)(t:Nt):CS:=.x fun _=>⟨v,[(0,G2 J E N W t)],[]⟩
theorem rgo(O:B=std)(hT:o7 P T)(h:i5 ⟨m,w0,ats [(k0,⟨b,ty,cs⟩)],[],Kk⟩ s a w){v:α}{q:Pst}{M:Nat}(hr0:r = .ok v q)(hM:M=E.n-q.n)(hfn:fn.results=rs.toArray:=by rfl)(hr:T5 T s rs=some rr:=by first|rfl|(conv=>lhs;cbv))(ho:i7 P Kk rr.2:=by first|exact trivial|(subst O;simp[i7,Ob.holds]))(he:Sim (can (K0 rr.1)) (can (enc v)):=by subst O;exact zr)(hs:C2 s [(k0,⟨b,ty,cs⟩)] [(k0,U4 J E M q.note)]:=by subst O;exact⟨rfl,⟨_,rfl,zl⟩,trivial⟩) :
  bodyPost P fn (Z9 m w0 [(k0,⟨b,ty,cs⟩)] (fun x=>ni k0 J E enc dfl r x)) .ret a w/\bodyPost P fn (Z9 m w0 [(k0,⟨b,ty,cs⟩)] (fun x=>ni k0 J E enc dfl r x)) .normal a w:=Io hT h hfn hr ho hr0 hM he hs
theorem rst(O:B=std)(hT:o7 P T)(h:i5 ⟨m,w0,ats [(k0,⟨b,ty,cs⟩)],[],Kk⟩ s a w){q:Pst}{wq:Wq}{Q:B0}{M:Nat}(x:j8)(hr0:r = .stop wq q)(hM:M=E.n-q.n)(hq:Q=wqA x wq)(hfn:fn.results=rs.toArray:=by rfl)(hr:T5 T s rs=some rr:=by first|rfl|(conv=>lhs;cbv))(ho:i7 P Kk rr.2:=by first|exact trivial|(subst O;simp[i7,Ob.holds]))(he:Sim (can (K0 rr.1)) (can dfl):=by subst O;exact zr)(hs:C2 s [(k0,⟨b,ty,cs⟩)] [(k0,G2 J E M Q q.note)]:=by subst O;exact⟨rfl,⟨_,rfl,zl⟩,trivial⟩) :
  bodyPost P fn (Z9 m w0 [(k0,⟨b,ty,cs⟩)] (fun x=>ni k0 J E enc dfl r x)) .ret a w/\bodyPost P fn (Z9 m w0 [(k0,⟨b,ty,cs⟩)] (fun x=>ni k0 J E enc dfl r x)) .normal a w:=Im hT h hfn hr ho x hr0 hM hq he hs
theorem rdd(O:B=std)(hT:o7 P T)(h:i5 ⟨m,w0,ats [(k0,⟨b,ty,cs⟩)],[],Kk⟩ s a w){sets:List (Nat×List AV)}(hfn:fn.results=rs.toArray:=by rfl)(hr:T5 T s rs=some rr:=by first|rfl|(conv=>lhs;cbv))(ho:i7 P Kk rr.2:=by first|exact trivial|(subst O;simp[i7,Ob.holds]))(he:Sim (can (K0 rr.1)) (can dfl):=by subst O;exact zr)(hs:C2 s [(k0,⟨b,ty,cs⟩)] sets:=by subst O;exact⟨rfl,⟨_,rfl,zl⟩,trivial⟩) :
  bodyPost P fn (Z9 m w0 [(k0,⟨b,ty,cs⟩)] (fun _=>⟨dfl,sets,[]⟩)) .ret a w/\bodyPost P fn (Z9 m w0 [(k0,⟨b,ty,cs⟩)] (fun _=>⟨dfl,sets,[]⟩)) .normal a w:=zX hT h hfn hr ho he hs
end
theorem Ef(b:Nat)(J:j4)(E:s8)(hE:E.n<=1000000)(N:Nat)(q:B0)(t:Nt)(x:rq):C1 Tryz.prog 40 [.ptr 0 b 0,LE x] [(0,⟨b,147,U4 J E N t⟩)] (fun _=>⟨k7,[(0,G2 J E N ⟨4,⟨0,0⟩,0,zRA,x⟩ t)],[]⟩):=by
 intro m w hm hargs hpre;refine enX 17 hm hpre hargs Tryz.func40 fun B O a0 Z=>?_
 refine a6 [0,3] [0,3] Z fun X0 Z=>?_
 refine a6 [8,0,3] [0,3] Z fun X1 Z=>?_
 refine l7 Z rfl (fun Z=>?_);refine a6 [0,3] [0,3] Z fun X2 Z=>?_
 refine j5 [] [0] Z fun X3 Z=>?_
 refine(rx O a8 Z C5 [] (hs:=?_)).2;subst O;exact⟨rfl,⟨_,rfl,⟨zr,zr,zr,zr,zr,zr,zr,zr,zr,zr,zr,zr,zr,zr,zr,zr,zr,zr,zr,zr,zr,zr,zr,zq0,zr,zr,zr,zr,zr,zr,zr,zr,zr,zr,zr,zr,zr,zr,zr,trivial⟩⟩,trivial⟩
theorem qd(k0 b:Nat)(J:j4)(E:s8)(hE:E.n<=1000000)(N:Nat)(q:B0)(t:Nt)(x:rq):C1 Tryz.prog 40 [.ptr k0 b 0,LE x] [(k0,⟨b,147,U4 J E N t⟩)] (fun _=>⟨k7,[(k0,G2 J E N ⟨4,⟨0,0⟩,0,zRA,x⟩ t)],[]⟩):=
 C1.re (Ef b J E hE N q t x) ⟨Sim.ptr,zr,trivial⟩ rfl fun x=>⟨rfl,rfl,zr,rfl⟩
theorem FR(b:Nat)(J:j4)(hJ:l6 J)(E:s8)(hE:E.n<=1000000)(N:Nat)(p:Pst)(hR:Rel E N p)(hp:j3 p)(hn:p.n<=1000000)(q:B0):B5 170 0 b J E N p [E5 q] (B2) (bI) (K8 (J.budget-E.n) q.absQ p):=by
 intro m w hm hargs hpre;have hN0:N=E.n-p.n:=by have:=hR.n;omega
 obtain⟨ha,hbu,_,_,_⟩:=hJ;have hmx:maxLen=9223372036854775807:=rfl;obtain⟨hq1,hq2⟩:=DV (J:=J) hR;have hrn:=hR.n;have e1:IntKind.i64.wrap ((N:Int)+1)=((N+1:Nat):Int):=by rw[o8 (by omega) (by omega)];omega
 have e2:IntKind.i64.wrap (((N+1:Nat):Int)-1)=(N:Int):=by rw[o8 (by omega) (by omega)];omega
 refine enX 64 hm hpre hargs Tryz.func170 fun B O a0 Z=>?_
 refine a6 [0,3,4] [0,3,4] Z fun X0 Z=>?_
 refine a7 (a6 [8,0,3,4] [0,3,4] Z fun X1 Z=>?_);refine l4 Z rfl (fun Z=>?_);refine f8 (a7 (a7 (drg O a8 [19,0,3,4] [0,3,4] [] Z fun X3 _ _ Z=>?_)));apply b7 Z rfl<;>intro hb Z
 .have ho:J.budget<=(N:Int):=by subst O;simpa[std,d4]using hb
  have SO:C1 Tryz.prog 40 [.ptr 0 b 0,.agg [.int .i64 p.note.code,.bool (.v p.note.had),.str p.note.val,.sl none none 0 0 2 (fun _=>[]),.int .u64 0,.bool .ff]] [(0,⟨b,147,U4 J E N p.note⟩)] (fun _=>⟨k7,[(0,G2 J E N ⟨4,⟨0,0⟩,0,zRA,⟨p.note.code,p.note.had,p.note.val,none,0,0,fun _=>s7,0,false⟩⟩ p.note)],[]⟩):=C1.re (qd 0 b J E hE N q p.note ⟨p.note.code,p.note.had,p.note.val,none,0,0,fun _=>s7,0,false⟩) ⟨zr,Sim.agg ⟨zr,zr,zr,zq0,zr,Sim.ff,trivial⟩,trivial⟩ rfl fun x=>⟨rfl,rfl,zr,rfl⟩
  have O1:=SO;refine i9 [4] [0,4] [(5,.x fun _=>⟨k7,[(0,G2 J E N ⟨4,⟨0,0⟩,0,zRA,⟨p.note.code,p.note.had,p.note.val,none,0,0,fun _=>s7,0,false⟩⟩ p.note)],[]⟩)] Z fun X4 Z=>?_
  refine a6 [4] [0,4] Z fun X5 Z=>?_
  refine i8 ((rst O a8 Z (q:=p) (wq:=(Aq p)) ⟨0,fun _=>none,fun _=>0,fun _=>.empty⟩ (by unfold K8;rw[if_neg (by omega),if_pos (hq1.2 ho)]) hN0 rfl (hs:=?_)).1);subst O;exact⟨rfl,⟨_,rfl,⟨zr,zr,zr,zr,zr,zr,zr,zr,zr,zr,zr,zr,zr,zr,zr,zr,zr,zr,zr,zr,zr,zr,zr,zq0,zr,zr,zr,zr,zr,zr,zq0,zr,zr,zr,zr,zr,zr,zr,zr,trivial⟩⟩,trivial⟩
 have ho:¬J.budget<=(N:Int):=by subst O;simpa[std,d4]using hb
 refine f8 (a7 (a7 (drg O a8 [36,0,3,4] [0,3,4] [] Z fun X6 _ _ Z=>?_)));apply b7 Z rfl<;>intro hb Z
 .have hl:¬0<p.n:=by
   have:(N:Int) ≥ (E.n:Int):=by subst O;simpa[std,d4]using hb
   omega
  refine a6 [0,3,4] [0,3,4] Z fun X7 Z=>?_
  refine a6 [4] [0,4] Z fun X8 Z=>?_
  refine a6 [4] [0,4] Z fun X9 Z=>?_
  refine i8 ((rst O a8 Z (q:=p) (wq:=q.absQ) ⟨0,fun i=>if i=1 then q.x.A else q.s.A,fun i=>if i=1 then q.x.c else q.s.c,fun _=>.empty⟩ (by unfold K8;rw[if_neg (by omega),if_neg (fun h=>ho (hq1.1 h))]) hN0 rfl (hs:=?_)).1);subst O;exact⟨rfl,⟨_,rfl,⟨zr,zr,zr,zr,zr,zr,zr,zr,zr,zr,zr,zr,zr,zr,zr,zr,zr,zr,zr,zr,zr,zr,zr,ip _ _ _ _,zr,zr,zr,zr,zr,zr,ip _ _ _ _,zr,zr,zr,zr,zr,zr,zr,zr,trivial⟩⟩,trivial⟩
 have hl:0<p.n:=by
  have:¬(N:Int) ≥ (E.n:Int):=by subst O;simpa[std,d4]using hb
  omega
 refine f8 (a6 [0,4] [0,4] Z fun X10 Z=>?_);refine a7 ?_;refine drg O a8 [4] [0,4] [] Z (hob:=by intro X;subst O;simp only[i7,Ob.holds,BE.den]<;>and_intros<;>repeat first|trivial|rfl|exact⟨(show(0:Int)<=IntKind.i64.wrap (IntKind.i64.wrap ((N:Int)+1)-1)by rw[e1,e2];omega),(show IntKind.i64.wrap (IntKind.i64.wrap ((N:Int)+1)-1)<(E.n:Int)by rw[e1,e2];omega)⟩|exact(show(0:Int)<=IntKind.i64.wrap (IntKind.i64.wrap ((N:Int)+1)-1)by rw[e1,e2];omega)|exact(show IntKind.i64.wrap (IntKind.i64.wrap ((N:Int)+1)-1)<(E.n:Int)by rw[e1,e2];omega)|exact(fun _ _=>by kernel_rfl)|refine⟨?_,?_⟩|intro h|exact Int.le_refl _|decide|omega) fun X11 _ _ Z=>?_
 refine i8 ((rgo O a8 Z (v:=(p.g 0)) (q:=p.tl) (by unfold K8;rw[if_pos (by omega)]) (by show N+1=E.n-(p.n-1);omega) (he:=?_) (hs:=?_)).1)
 .subst O
  rw[hR.g 0]
  show Sim (.agg (V2 (E.f (IntKind.i64.wrap (IntKind.i64.wrap ((N:Int)+1)-1)).toNat))) (B2 (E.f (N+0)))
  rw[e1,e2];exact zr
 subst O;refine⟨rfl,⟨_,rfl,⟨zr,zr,zr,zr,zr,zr,zr,zr,zr,zr,zr,zr,zr,zr,zr,zr,?_,zr,zr,zr,zr,zr,zr,zr,zr,zr,zr,zr,zr,zr,zr,zr,zr,zr,zr,zr,zr,zr,zr,trivial⟩⟩,trivial⟩
 show Sim (.int .i64 (IntKind.i64.wrap ((N:Int)+1))) _
 rw[e1];exact zr
theorem uP(k0 b:Nat)(J:j4)(hJ:l6 J)(E:s8)(hE:E.n<=1000000)(N:Nat)(p:Pst)(hR:Rel E N p)(hp:j3 p)(hn:p.n<=1000000)(q:B0):B5 170 k0 b J E N p [E5 q] (B2) (bI) (K8 (J.budget-E.n) q.absQ p):=B5.re (FR b J hJ E hE N p hR hp hn q) (by repeat(first|exact trivial|refine⟨zr,?_⟩))
theorem FS(b:Nat)(J:j4)(E:s8)(hE:E.n<=1000000)(N:Nat)(q:B0)(t:Nt)(r:B0):E8 170 0 b J E N q t [E5 r] (bI):=by
 intro m w hm hargs hpre;refine enX 64 hm hpre hargs Tryz.func170 fun B O a0 Z=>?_
 refine a6 [0,3,4] [0,3,4] Z fun X0 Z=>?_
 refine a7 (a6 [8,0,3,4] [0,3,4] Z fun X1 Z=>?_);refine l7 Z rfl (fun Z=>?_);refine a6 [4] [0,4] Z fun X2 Z=>?_
 exact i8 ((rdd O a8 Z).1)
theorem Ce(k0 b:Nat)(J:j4)(E:s8)(hE:E.n<=1000000)(N:Nat)(q:B0)(t:Nt)(r:B0):E8 170 k0 b J E N q t [E5 r] (bI):=E8.re (FS b J E hE N q t r) (by repeat(first|exact trivial|refine⟨zr,?_⟩))
theorem FM(k0 b:Nat)(J:j4)(hJ:l6 J)(E:s8)(hE:E.n<=1000000)(N:Nat)(p:Pst)(hR:Rel E N p)(hp:j3 p)(hn:p.n<=1000000)(l:Lab):B5 170 k0 b J E N p [.agg [.int .i64 1,.int .i64 l.len,.int .u64 l.bits,.int .u64 0,.int .i64 0,.sl none none 0 0 2 (fun _=>[]),.int .i64 0,.int .u64 0,.int .u64 0,.int .i64 0,.bool .ff,.str ⟨#[]⟩,.sl none none 0 0 2 (fun _=>[]),.int .u64 0,.bool .ff]] B2 bI (M8 (J.budget-E.n) l p):=
 B5.re (uP 0 b J hJ E hE N p hR hp hn ⟨1,l,0,zRA,gZ⟩) ⟨Sim.agg ⟨zr,zr,zr,zr,zr,zq0,zr,zr,zr,zr,Sim.ff,zr,zq0,zr,Sim.ff,trivial⟩,trivial⟩
theorem FN(k0 b:Nat)(J:j4)(E:s8)(hE:E.n<=1000000)(N:Nat)(q:B0)(t:Nt)(l:Lab):E8 170 k0 b J E N q t [.agg [.int .i64 1,.int .i64 l.len,.int .u64 l.bits,.int .u64 0,.int .i64 0,.sl none none 0 0 2 (fun _=>[]),.int .i64 0,.int .u64 0,.int .u64 0,.int .i64 0,.bool .ff,.str ⟨#[]⟩,.sl none none 0 0 2 (fun _=>[]),.int .u64 0,.bool .ff]] bI:=
 E8.re (Ce 0 b J E hE N q t ⟨1,l,0,zRA,gZ⟩) ⟨Sim.agg ⟨zr,zr,zr,zr,zr,zq0,zr,zr,zr,zr,Sim.ff,zr,zq0,zr,Sim.ff,trivial⟩,trivial⟩
theorem FP(k0 b:Nat)(J:j4)(hJ:l6 J)(E:s8)(hE:E.n<=1000000)(N:Nat)(p:Pst)(hR:Rel E N p)(hp:j3 p)(hn:p.n<=1000000)(l:Lab)(v:Int)(x:RA):B5 170 k0 b J E N p [.agg [.int .i64 2,.int .i64 l.len,.int .u64 l.bits,.int .u64 v,.int .i64 x.r.kd,.sl none x.A x.r.n x.c 2 (fun i=>itC (x.r.f i)),.int .i64 x.r.nx.len,.int .u64 x.r.nx.bits,.int .u64 x.r.mrk,.int .i64 0,.bool .ff,.str ⟨#[]⟩,.sl none none 0 0 2 (fun _=>[]),.int .u64 0,.bool .ff]] B2 bI (K8 (J.budget-E.n) ⟨2,l,v,x.r.abs,dq⟩ p):=
 B5.re (uP 0 b J hJ E hE N p hR hp hn ⟨2,l,v,x,gZ⟩) ⟨Sim.agg ⟨zr,zr,zr,zr,zr,zr,zr,zr,zr,zr,Sim.ff,zr,zq0,zr,Sim.ff,trivial⟩,trivial⟩
theorem FQ(k0 b:Nat)(J:j4)(E:s8)(hE:E.n<=1000000)(N:Nat)(q:B0)(t:Nt)(l:Lab)(v:Int)(x:RA):E8 170 k0 b J E N q t [.agg [.int .i64 2,.int .i64 l.len,.int .u64 l.bits,.int .u64 v,.int .i64 x.r.kd,.sl none x.A x.r.n x.c 2 (fun i=>itC (x.r.f i)),.int .i64 x.r.nx.len,.int .u64 x.r.nx.bits,.int .u64 x.r.mrk,.int .i64 0,.bool .ff,.str ⟨#[]⟩,.sl none none 0 0 2 (fun _=>[]),.int .u64 0,.bool .ff]] bI:=
 E8.re (Ce 0 b J E hE N q t ⟨2,l,v,x,gZ⟩) ⟨Sim.agg ⟨zr,zr,zr,zr,zr,zr,zr,zr,zr,zr,Sim.ff,zr,zq0,zr,Sim.ff,trivial⟩,trivial⟩
theorem FO(k0 b:Nat)(J:j4)(hJ:l6 J)(E:s8)(hE:E.n<=1000000)(N:Nat)(p:Pst)(hR:Rel E N p)(hp:j3 p)(hn:p.n<=1000000)(l:Lab)(v:Int):B5 170 k0 b J E N p [.agg [.int .i64 3,.int .i64 l.len,.int .u64 l.bits,.int .u64 v,.int .i64 0,.sl none none 0 0 2 (fun _=>[]),.int .i64 0,.int .u64 0,.int .u64 0,.int .i64 0,.bool .ff,.str ⟨#[]⟩,.sl none none 0 0 2 (fun _=>[]),.int .u64 0,.bool .ff]] B2 bI (K8 (J.budget-E.n) ⟨3,l,v,k6,dq⟩ p):=
 B5.re (uP 0 b J hJ E hE N p hR hp hn ⟨3,l,v,zRA,gZ⟩) ⟨Sim.agg ⟨zr,zr,zr,zr,zr,zq0,zr,zr,zr,zr,Sim.ff,zr,zq0,zr,Sim.ff,trivial⟩,trivial⟩
theorem Fp(b:Nat)(J:j4)(hJ:l6 J)(E:s8)(hE:E.n<=1000000)(N:Nat)(p:Pst)(hR:Rel E N p)(hp:j3 p)(hn:p.n<=1000000)(l:Lab):B5 129 0 b J E N p [i6 l] (B2) (bI) (M8 (J.budget-E.n) l p):=by
 intro m w hm hargs hpre;have hN0:N=E.n-p.n:=by have:=hR.n;omega
 refine enX 9 hm hpre hargs Tryz.func129 fun B O a0 Z=>?_
 refine a6 [0,3,4] [0,3,4] Z fun X0 Z=>?_
 refine a7 ?_
 rcases(FM 0 b J hJ E hE N p hR hp hn l).two (cE _ _ _) hp hn hR with⟨g1,p1,N1,hm1,hs1,hp1,hn1,hR1,hN1,S1⟩|⟨wq1,p1,N1,W1,hm1,hs1,hN1,hW1,S1⟩
 .have O1:=S1
  refine f7 [4] [0,4] [(3,lc J E (B2 g1) N1 p1)] Z fun X1 Z=>?_
  exact i8 ((rgo O a8 Z (v:=g1) (q:=p1) (by simp[Rs.bind,hm1]) hN1).1)
 have O1:=S1;refine f7 [4] [0,4] [(3,sc J E (.agg [.int .i64 0,.int .u64 0,.bool .ff,.int .i64 0,.sl none none 0 0 2 (fun _=>[]),.int .i64 0,.int .u64 0,.int .u64 0]) N1 W1 p1.note)] Z fun X1 Z=>?_
 exact i8 ((rst O a8 Z (q:=p1) (wq:=wq1) (X1 3) (by simp[Rs.bind,hm1]) hN1 (hW1 _)).1)
theorem P1(k0 b:Nat)(J:j4)(hJ:l6 J)(E:s8)(hE:E.n<=1000000)(N:Nat)(p:Pst)(hR:Rel E N p)(hp:j3 p)(hn:p.n<=1000000)(l:Lab):B5 129 k0 b J E N p [i6 l] (B2) (bI) (M8 (J.budget-E.n) l p):=B5.re (Fp b J hJ E hE N p hR hp hn l) (by repeat(first|exact trivial|refine⟨zr,?_⟩))
theorem Fq(b:Nat)(J:j4)(E:s8)(hE:E.n<=1000000)(N:Nat)(q:B0)(t:Nt)(l:Lab):E8 129 0 b J E N q t [i6 l] (bI):=by
 intro m w hm hargs hpre;refine enX 9 hm hpre hargs Tryz.func129 fun B O a0 Z=>?_
 refine a6 [0,3,4] [0,3,4] Z fun X0 Z=>?_
 have O1:=FN 0 b J E hE N q t l;refine i9 [4] [0,4] [(3,dc J E (.agg [.int .i64 0,.int .u64 0,.bool .ff,.int .i64 0,.sl none none 0 0 2 (fun _=>[]),.int .i64 0,.int .u64 0,.int .u64 0]) N q t)] Z fun X1 Z=>?_
 exact i8 ((rdd O a8 Z).1)
theorem jT(k0 b:Nat)(J:j4)(E:s8)(hE:E.n<=1000000)(N:Nat)(q:B0)(t:Nt)(l:Lab):E8 129 k0 b J E N q t [i6 l] (bI):=E8.re (Fq b J E hE N q t l) (by repeat(first|exact trivial|refine⟨zr,?_⟩))
theorem FG(b:Nat)(J:j4)(hJ:l6 J)(E:s8)(hE:E.n<=1000000)(N:Nat)(p:Pst)(hR:Rel E N p)(hp:j3 p)(hn:p.n<=1000000)(l:Lab)(v:Int)(x:RA):B5 119 0 b J E N p [i6 l,.int .u64 v,J7 x] (fun d=>.bool (.v d)) (.bool .ff) (aw (J.budget-E.n) l v x.r.abs p):=by
 intro m w hm hargs hpre;have hN0:N=E.n-p.n:=by have:=hR.n;omega
 refine enX 26 hm hpre hargs Tryz.func119 fun B O a0 Z=>?_
 refine a6 [0,2,5,7] [0,5,7] Z fun X0 Z=>?_
 refine a7 ?_
 rcases(FP 0 b J hJ E hE N p hR hp hn l v x).two (cE _ _ _) hp hn hR with⟨g1,p1,N1,hm1,hs1,hp1,hn1,hR1,hN1,S1⟩|⟨wq1,p1,N1,W1,hm1,hs1,hN1,hW1,S1⟩
 .have O1:=S1
  refine f7 [0,9] [0,9] [(5,lc J E (B2 g1) N1 p1)] Z fun X1 Z=>?_
  refine a6 [8] [0] Z fun X2 Z=>?_
  refine i8 ((rgo O a8 Z (v:=decide (g1.code=0)) (q:=p1) (by simp[aw,Rs.bind,hm1]) hN1 (he:=?_)).1);subst O;exact zr
 have O1:=S1;refine f7 [0,9] [0,9] [(5,sc J E (.agg [.int .i64 0,.int .u64 0,.bool .ff,.int .i64 0,.sl none none 0 0 2 (fun _=>[]),.int .i64 0,.int .u64 0,.int .u64 0]) N1 W1 p1.note)] Z fun X1 Z=>?_
 refine a6 [8] [0] Z fun X2 Z=>?_
 exact i8 ((rst O a8 Z (q:=p1) (wq:=wq1) (X1 5) (by simp[aw,Rs.bind,hm1]) hN1 (hW1 _)).1)
theorem gR(k0 b:Nat)(J:j4)(hJ:l6 J)(E:s8)(hE:E.n<=1000000)(N:Nat)(p:Pst)(hR:Rel E N p)(hp:j3 p)(hn:p.n<=1000000)(l:Lab)(v:Int)(x:RA):B5 119 k0 b J E N p [i6 l,.int .u64 v,J7 x] (fun d=>.bool (.v d)) (.bool .ff) (aw (J.budget-E.n) l v x.r.abs p):=B5.re (FG b J hJ E hE N p hR hp hn l v x) (by repeat(first|exact trivial|refine⟨zr,?_⟩))
theorem FH(b:Nat)(J:j4)(E:s8)(hE:E.n<=1000000)(N:Nat)(q:B0)(t:Nt)(l:Lab)(v:Int)(x:RA):E8 119 0 b J E N q t [i6 l,.int .u64 v,J7 x] (.bool .ff):=by
 intro m w hm hargs hpre;refine enX 26 hm hpre hargs Tryz.func119 fun B O a0 Z=>?_
 refine a6 [0,2,5,7] [0,5,7] Z fun X0 Z=>?_
 have O1:=FQ 0 b J E hE N q t l v x;refine i9 [0,9] [0,9] [(5,dc J E (.agg [.int .i64 0,.int .u64 0,.bool .ff,.int .i64 0,.sl none none 0 0 2 (fun _=>[]),.int .i64 0,.int .u64 0,.int .u64 0]) N q t)] Z fun X1 Z=>?_
 refine a6 [8] [0] Z fun X2 Z=>?_
 exact i8 ((rdd O a8 Z).1)
theorem Kg(k0 b:Nat)(J:j4)(E:s8)(hE:E.n<=1000000)(N:Nat)(q:B0)(t:Nt)(l:Lab)(v:Int)(x:RA):E8 119 k0 b J E N q t [i6 l,.int .u64 v,J7 x] (.bool .ff):=E8.re (FH b J E hE N q t l v x) (by repeat(first|exact trivial|refine⟨zr,?_⟩))
theorem FC(b:Nat)(J:j4)(hJ:l6 J)(E:s8)(hE:E.n<=1000000)(N:Nat)(p:Pst)(hR:Rel E N p)(hp:j3 p)(hn:p.n<=1000000)(l:Lab)(v:Int):B5 272 0 b J E N p [i6 l,.int .u64 v] (fun d=>.bool (.v d)) (.bool .ff) (jd (J.budget-E.n) l v p):=by
 intro m w hm hargs hpre;have hN0:N=E.n-p.n:=by have:=hR.n;omega
 refine enX 23 hm hpre hargs Tryz.func272 fun B O a0 Z=>?_
 refine a6 [0,2,4] [0,4] Z fun X0 Z=>?_
 refine a7 ?_
 rcases(FO 0 b J hJ E hE N p hR hp hn l v).two (cE _ _ _) hp hn hR with⟨g1,p1,N1,hm1,hs1,hp1,hn1,hR1,hN1,S1⟩|⟨wq1,p1,N1,W1,hm1,hs1,hN1,hW1,S1⟩
 .have O1:=S1
  refine f7 [0,7] [0,7] [(4,lc J E (B2 g1) N1 p1)] Z fun X1 Z=>?_
  refine a6 [6] [0] Z fun X2 Z=>?_
  refine i8 ((rgo O a8 Z (v:=decide (g1.code=0)) (q:=p1) (by simp[jd,Rs.bind,hm1]) hN1 (he:=?_)).1);subst O;exact zr
 have O1:=S1;refine f7 [0,7] [0,7] [(4,sc J E (.agg [.int .i64 0,.int .u64 0,.bool .ff,.int .i64 0,.sl none none 0 0 2 (fun _=>[]),.int .i64 0,.int .u64 0,.int .u64 0]) N1 W1 p1.note)] Z fun X1 Z=>?_
 refine a6 [6] [0] Z fun X2 Z=>?_
 exact i8 ((rst O a8 Z (q:=p1) (wq:=wq1) (X1 4) (by simp[jd,Rs.bind,hm1]) hN1 (hW1 _)).1)
theorem uO(k0 b:Nat)(J:j4)(hJ:l6 J)(E:s8)(hE:E.n<=1000000)(N:Nat)(p:Pst)(hR:Rel E N p)(hp:j3 p)(hn:p.n<=1000000)(l:Lab)(v:Int):B5 272 k0 b J E N p [i6 l,.int .u64 v] (fun d=>.bool (.v d)) (.bool .ff) (jd (J.budget-E.n) l v p):=B5.re (FC b J hJ E hE N p hR hp hn l v) (by repeat(first|exact trivial|refine⟨zr,?_⟩))
theorem D6(g:s9)(k:Int):k9 Tryz.prog 130 [B2 g,.int .i64 k] (fun _=>.bool (.v (gk g k))):=by
 intro m w hm hargs;refine en 14 hm hargs Tryz.func130 fun B O a0 Z=>?_
 refine a6 [1,2] [2] Z fun X0 Z=>?_
 refine a6 [4] [] Z fun X1 Z=>?_
 refine z7 Z ?_;subst O;refine Sim.bool ?_
 show(if g.has=true then decide (g.x.r.kd=k)else false)=_
 unfold gk;cases g.has<;>rfl
theorem jS:k9 Tryz.prog 234 [] (fun _=>Bq):=by
 intro m w hm hargs;have SN:=qa;simp only[i6,F1]at SN;refine en 3 hm hargs Tryz.func234 fun B O a0 Z=>?_
 refine a6 [0] [0] Z fun X0 Z=>?_
 have O1:=SN;refine i9 [0] [0] [(0,.r fun _=>.agg [.int .i64 (-1),.int .u64 0])] Z fun X1 Z=>?_
 exact i8 ((rsp O a8 Z C5).1)
theorem qL(k:Int):k9 Tryz.prog 130 [bI,.int .i64 k] (fun _=>.bool .ff):=
 have h:k9 Tryz.prog 130 [bI,.int .i64 k] (fun _=>.bool (.v (gk lD k))):=(D6 lD k).sim ⟨Sim.agg ⟨zr,zr,Sim.ff,zr,zq0,zr,zr,zr,trivial⟩,zr,trivial⟩
 h.res fun _=>Sim.bool rfl
theorem wI(k0 b:Nat)(J:j4)(hJ:l6 J)(E:s8)(hE:E.n<=1000000)(N:Nat)(p:Pst)(hR:Rel E N p)(hp:j3 p)(hn:p.n<=1000000)(l:Lab)(v:Int):B5 119 k0 b J E N p [i6 l,.int .u64 v,Bq] (fun d=>.bool (.v d)) (.bool .ff) (aw (J.budget-E.n) l v cI p):=
 B5.re (gR 0 b J hJ E hE N p hR hp hn l v ⟨none,0,cI.rn⟩) ⟨zr,zr,Sim.agg ⟨zr,U1,zr,zr,zr,trivial⟩,trivial⟩
theorem wJ(k0 b:Nat)(J:j4)(E:s8)(hE:E.n<=1000000)(N:Nat)(q:B0)(t:Nt)(l:Lab)(v:Int):E8 119 k0 b J E N q t [i6 l,.int .u64 v,Bq] (.bool .ff):=
 E8.re (Kg 0 b J E hE N q t l v ⟨none,0,cI.rn⟩) ⟨zr,zr,Sim.agg ⟨zr,U1,zr,zr,zr,trivial⟩,trivial⟩
def fzJ:Fz->Int
 | .over=> -1
 | .unfit=>0
 | .fr _=>1
def wE(z:Fz):AV:=.tup [J7 (fzR z),.int .i64 (fzJ z)]
theorem Mn{z:Fz}(h:fzJ z<0):z = .over:=by cases z<;>first|rfl|(simp[fzJ]at h)
theorem Mm{z:Fz}(h:fzJ z=0):z = .unfit:=by cases z<;>first|rfl|(simp[fzJ]at h)
theorem Jz{z:Fz}(h0:¬fzJ z<0)(h1:¬fzJ z=0):z = .fr (fzR z):=by cases z<;>first|rfl|exact absurd rfl h1|exact absurd (by decide) h0
theorem zm:ay zRA:=⟨⟨by decide,by decide⟩,fun i hi=>absurd hi (Nat.not_lt_zero _),by decide⟩
theorem Fr(b:Nat)(J:j4)(hJ:l6 J)(E:s8)(hE:E.n<=1000000)(N:Nat)(p:Pst)(hR:Rel E N p)(hp:j3 p)(hn:p.n<=1000000)(l:Lab)(v:Int)(d:Lab)(n:Nat)(hf:p.n<n):B5 235 0 b J E N p [i6 l,.int .u64 v,i6 d] (wE) (.tup [.agg [.int .i64 0,.sl none none 0 0 2 (fun _=>[]),.int .i64 0,.int .u64 0,.int .u64 0],.int .i64 (-1)]) (P0 (J.budget-E.n) l v d n p):=by
 intro m w hm hargs hpre;have hN0:N=E.n-p.n:=by have:=hR.n;omega
 refine enX 76 hm hpre hargs Tryz.func235 fun B O a0 Z=>?_
 refine a6 [0,2,5,7,8] [0,5,7,8] Z fun X0 Z=>?_
 refine a7 (j1 (l3 (ι:=LSt) (fun q=>[]) (fun q=>[(0,⟨b,147,lsC J E q⟩)]) (fun q=>[]) (fun q=>match q with| .go a r M=>P0 (J.budget-E.n) l v d n p=P0 (J.budget-E.n) l v d a r/\j3 r/\r.n<=1000000/\Rel E M r/\r.n<a/\r.n<=p.n| .dn r M=>False| .sp M Q u=>∃(X:j8) (wq:Wq) (pp:Pst),P0 (J.budget-E.n) l v d n p = .stop wq pp/\M=E.n-pp.n/\Q=wqA X wq/\u=pp.note) (fun q=>lsM q) (.go n p N) ⟨rfl,hp,hn,hR,(by skip;omega),(by skip;omega)⟩ Z ?_))
 rintro q hJ _ _ Z
 rcases q with⟨nn0,p0,N0⟩|⟨p9,N9⟩|⟨N0,Q0,t0⟩
 .dsimp only[lsC,lsB]at hJ Z
  obtain⟨hrun0,hp0,hn0,hR0,hf0,hle0⟩:=hJ;obtain⟨m0,rfl⟩:∃n2,nn0=n2+1:=⟨nn0-1,by omega⟩
  have hN0:N0=E.n-p0.n:=by have:=hR0.n;omega
  refine a7 (a6 [17,0,2,5,7,8] [0,5,7,8] Z fun X1 Z=>?_);refine l7 Z rfl (fun Z=>?_);refine f8 (j1 (a7 ?_))
  rcases(P1 0 b J hJ E hE N0 p0 hR0 hp0 hn0 d).two (k8 _ _ _) hp0 hn0 hR0 with⟨g1,p2,N2,hm2,hs2,hp2,hn2,hR2,hN2,S2⟩|⟨wq2,p2,N2,W2,hm2,hs2,hN2,hW2,S2⟩
  .have hl2:=B7 hm2
   have hg2:=hp0.get hm2;have O1:=S2;refine f7 [0,2,5,7,8,10] [0,5,7,8,10] [(2,lc J E (B2 g1) N2 p2)] Z fun X2 Z=>?_
   refine a7 (a6 [24,0,2,5,7,8,10] [0,5,7,8,10] Z fun X3 Z=>?_);refine l4 Z rfl (fun Z=>?_);obtain⟨q5,hq5⟩:=eqv (gk g1 1);obtain⟨r5,hr5⟩:=eqv (gk g1 5);refine f8 (a7 (a7 ?_));refine f7 [33,0,2,5,7,8,10] [0,5,7,8,10] [(1,.r fun _=>.bool (.v q5)),(5,.r fun _=>.bool (.v r5))] Z (hob:=by intro X;subst O;simp only[i7,Ob.holds,BE.den]<;>and_intros<;>repeat first|trivial|rfl|exact(by rw[hq5];exact D6 g1 1)|exact by rw[hq5];exact D6 g1 1|exact(by rw[hr5];exact D6 g1 5)|exact by rw[hr5];exact D6 g1 5|exact(fun _ _=>by kernel_rfl)|refine⟨?_,?_⟩|intro h|exact Int.le_refl _|decide|omega) fun X5 Z=>?_
   apply b7 Z rfl<;>intro hb Z
   .have t5:(gk g1 1||gk g1 5)=false:=by subst O;rw[<-hq5,<-hr5];revert hb;cases q5<;>cases r5<;>simp[std]
    refine a6 [8,9] [0,8] Z fun X6 Z=>?_
    refine i8 ((rgo O a8 Z (v:=Fz.unfit) (q:=p2) (by simp[Rs.bind,hrun0,P0,hm2,t5]) hN2 (he:=?_)).1);subst O;exact Sim.tup ⟨Sim.agg ⟨zr,U1,zr,zr,zr,trivial⟩,zr,trivial⟩
   have t5:(gk g1 1||gk g1 5)=true:=by subst O;rw[<-hq5,<-hr5];revert hb;cases q5<;>cases r5<;>simp[std]
   obtain⟨q7,hq7⟩:=eqv (gk g1 5);refine f8 (a7 (a7 ?_));refine f7 [43,0,2,5,7,8,10] [0,5,7,8,10] [(1,.r fun _=>.bool (.v q7))] Z (hob:=by intro X;subst O;simp only[i7,Ob.holds,BE.den]<;>and_intros<;>repeat first|trivial|rfl|exact(by rw[hq7];exact D6 g1 5)|exact by rw[hq7];exact D6 g1 5|exact(fun _ _=>by kernel_rfl)|refine⟨?_,?_⟩|intro h|exact Int.le_refl _|decide|omega) fun X7 Z=>?_
   apply b7 Z rfl<;>intro hb Z
   .have t7:(gk g1 5&&decide (g1.x.r.mrk=v))=true:=by subst O;rw[<-hq7];revert hb;cases q7<;>simp[std,d4]
    refine a6 [8,9] [0,8] Z fun X8 Z=>?_
    exact i8 ((rgo O a8 Z (v:=(Fz.fr g1.x)) (q:=p2) (by simp[Rs.bind,hrun0,P0,hm2,t5,t7]) hN2).1)
   have t7:(gk g1 5&&decide (g1.x.r.mrk=v))=false:=by subst O;rw[<-hq7];revert hb;cases q7<;>simp[std,d4]
   refine f8 (a7 ?_)
   rcases(P1 0 b J hJ E hE N2 p2 hR2 hp2 hn2 l).two (k8 _ _ _) hp2 hn2 hR2 with⟨g9,p9,N9,hm9,hs9,hp9,hn9,hR9,hN9,S9⟩|⟨wq9,p9,N9,W9,hm9,hs9,hN9,hW9,S9⟩
   .have hl9:=B7 hm9
    have hg9:=hp2.get hm9;have O1:=S9;refine f7 [0,2,5,7,8,10,11] [0,5,7,8,10,11] [(2,lc J E (B2 g9) N9 p9)] Z fun X9 Z=>?_
    refine a7 (a6 [58,0,2,5,7,8,10] [0,5,7,8,10] Z fun X10 Z=>?_);apply b7 Z rfl<;>intro hb Z
    .have t10:¬g9.ver=v:=by
      have h9:(g9.ver != v)=true:=by subst O;exact hb
      simpa using h9
     refine a6 [8,9] [0,8] Z fun X11 Z=>?_
     refine i8 ((rgo O a8 Z (v:=Fz.over) (q:=p9) (by simp[Rs.bind,hrun0,P0,hm2,t5,t7,hm9,t10]) hN9 (he:=?_)).1);subst O;exact Sim.tup ⟨Sim.agg ⟨zr,U1,zr,zr,zr,trivial⟩,zr,trivial⟩
    have t10:g9.ver=v:=by
     have h9:(g9.ver != v)=false:=by subst O;exact hb
     simpa using h9
    refine f8 (a6 [0,2,5,7,8,10,12] [0,5,7,8,10,12] Z fun X12 Z=>?_);refine a7 ?_
    rcases(gR 0 b J hJ E hE N9 p9 hR9 hp9 hn9 d g1.ver (asR 5 g1.x v)).two (A5 _ _ _ _ _) hp9 hn9 hR9 with⟨d9,p13,N13,hm13,hs13,hp13,hn13,hR13,hN13,S13⟩|⟨wq13,p13,N13,W13,hm13,hs13,hN13,hW13,S13⟩
    .have O1:=S13
     refine f7 [73,0,2,5,7,8,12] [0,5,7,8,12] [(5,lc J E (.bool (.v d9)) N13 p13)] Z fun X13 Z=>?_
     apply b7 Z rfl<;>intro hb Z
     .have t13:d9=true:=by exact hb
      refine a6 [8,9] [0,8] Z fun X14 Z=>?_
      exact i8 ((rgo O a8 Z (v:=(Fz.fr (asR 5 g1.x v))) (q:=p13) (by simp[Rs.bind,hrun0,P0,hm2,t5,t7,hm9,t10,hm13,t13]) hN13).1)
     have t13:d9=false:=by exact hb
     replace Z:=Z.keep [0,2,5,7,8] [0,5,7,8];exact f8 (⟨.go m0 p13 N13,⟨by rw[hrun0];simp[P0,Rs.bind,hrun0,P0,hm2,t5,t7,hm9,t10,hm13,t13],hp13,hn13,hR13,by have:=hl2;have:=hs9.le;have:=hs13.le;have:=hf0;omega,by have:=hl2;have:=hs9.le;have:=hs13.le;have:=hle0;omega⟩,by simp[lsM],Z⟩)
    have O1:=S13;refine f7 [73,0,2,5,7,8,12] [0,5,7,8,12] [(5,sc J E (.bool .ff) N13 W13 p13.note)] Z fun X13 Z=>?_
    refine l4 Z rfl (fun Z=>?_);replace Z:=Z.keep [0,2,5,7,8] [0,5,7,8];exact f8 (⟨.sp N13 (W13 (X13 5)) p13.note,⟨(X13 5),wq13,p13,by simp[Rs.bind,hrun0,P0,hm2,t5,t7,hm9,t10,hm13],hN13,(hW13 _),rfl⟩,by simp[lsM],Z⟩)
   have O1:=S9;refine f7 [0,2,5,7,8,10,11] [0,5,7,8,10,11] [(2,sc J E (.agg [.int .i64 0,.int .u64 0,.bool .ff,.int .i64 0,.sl none none 0 0 2 (fun _=>[]),.int .i64 0,.int .u64 0,.int .u64 0]) N9 W9 p9.note)] Z fun X9 Z=>?_
   refine a7 (a6 [58,0,2,5,7,8,10] [0,5,7,8,10] Z fun X10 Z=>?_);refine l7 Z rfl (fun Z=>?_);refine a6 [8,9] [0,8] Z fun X11 Z=>?_
   exact i8 ((rst O a8 Z (q:=p9) (wq:=wq9) (X9 2) (by simp[Rs.bind,hrun0,P0,hm2,t5,t7,hm9]) hN9 (hW9 _)).1)
  have O1:=S2;refine f7 [0,2,5,7,8,10] [0,5,7,8,10] [(2,sc J E (.agg [.int .i64 0,.int .u64 0,.bool .ff,.int .i64 0,.sl none none 0 0 2 (fun _=>[]),.int .i64 0,.int .u64 0,.int .u64 0]) N2 W2 p2.note)] Z fun X2 Z=>?_
  refine a7 (a6 [24,0,2,5,7,8,10] [0,5,7,8,10] Z fun X3 Z=>?_);refine l7 Z rfl (fun Z=>?_);refine a6 [8,9] [0,8] Z fun X4 Z=>?_
  exact i8 ((rst O a8 Z (q:=p2) (wq:=wq2) (X2 2) (by simp[Rs.bind,hrun0,P0,hm2]) hN2 (hW2 _)).1)
 .exact (hJ:False).elim
 dsimp only[lsC,lsB]at hJ Z;obtain⟨X0,wq0,pp0,hsp0,hN0,hW0,ht0⟩:=hJ;subst ht0;refine a7 (a6 [17,0,2,5,7,8] [0,5,7,8] Z fun X1 Z=>?_);refine l4 Z rfl (fun Z=>?_);refine j9 (a6 [8,9] [0,8] Z fun X15 Z=>?_);exact i8 ((rst O a8 Z (q:=pp0) (wq:=wq0) X0 (hsp0) hN0 hW0).1)
theorem BS(k0 b:Nat)(J:j4)(hJ:l6 J)(E:s8)(hE:E.n<=1000000)(N:Nat)(p:Pst)(hR:Rel E N p)(hp:j3 p)(hn:p.n<=1000000)(l:Lab)(v:Int)(d:Lab)(n:Nat)(hf:p.n<n):B5 235 k0 b J E N p [i6 l,.int .u64 v,i6 d] (wE) (.tup [.agg [.int .i64 0,.sl none none 0 0 2 (fun _=>[]),.int .i64 0,.int .u64 0,.int .u64 0],.int .i64 (-1)]) (P0 (J.budget-E.n) l v d n p):=B5.re (Fr b J hJ E hE N p hR hp hn l v d n hf) (by repeat(first|exact trivial|refine⟨zr,?_⟩))
def rv(n:Nat):Prop:=∀(k0 b:Nat) (J:j4) (hJ:l6 J) (E:s8) (hE:E.n<=1000000) (N:Nat) (p:Pst) (hR:Rel E N p) (hp:j3 p) (hn:p.n<=1000000) (l:Lab) (hl:LOk l),p.n<n->B5 218 k0 b J E N p [i6 l] (fun _=>k7) k7 (J6 J.bucket (J.budget-E.n) n l p)
def KO(n:Nat):Prop:=∀(k0 b:Nat) (J:j4) (hJ:l6 J) (E:s8) (hE:E.n<=1000000) (N:Nat) (p:Pst) (hR:Rel E N p) (hp:j3 p) (hn:p.n<=1000000) (l:Lab) (hl:LOk l),p.n<n->B5 238 k0 b J E N p [i6 l] (fun _=>k7) k7 (G4 (J.budget-E.n) n l p)
def xh(n:Nat):Prop:=∀(k0 b:Nat) (J:j4) (hJ:l6 J) (E:s8) (hE:E.n<=1000000) (N:Nat) (p:Pst) (hR:Rel E N p) (hp:j3 p) (hn:p.n<=1000000) (l:Lab) (hl:LOk l) (g:s9) (hg:ew g) (hgh:g.has=true),p.n<n->B5 120 k0 b J E N p [i6 l,B2 g] (fun _=>k7) k7 (aJ J.bucket (J.budget-E.n) n l g p)
theorem EX(b:Nat)(J:j4)(E:s8)(hE:E.n<=1000000)(N:Nat)(q:B0)(t:Nt)(l:Lab)(hl:LOk l):E8 218 0 b J E N q t [i6 l] (k7):=by
 intro m w hm hargs hpre;have SP:=tQ l hl.u;simp only[i6]at SP;obtain⟨up,hup⟩:=eqv (Q5 l);rw[<-hup]at SP;obtain⟨ue,hue⟩:=eqv (R4 l);rw[<-hue]at SP;refine enX 66 hm hpre hargs Tryz.func218 fun B O a0 Z=>?_
 refine a6 [0,3] [0,3] Z fun X0 Z=>?_
 have O1:=SP;refine i9 [0,3,4,5] [0,3,4] [(1,.r fun _=>.tup [.agg [.int .i64 up.len,.int .u64 up.bits],.int .i64 ue])] Z fun X1 Z=>?_
 refine a7 (a6 [14,0,3,4] [0,3,4] Z fun X2 Z=>?_);apply b7 Z rfl<;>intro hb Z
 .have t0:¬ue=0:=by subst O;simpa[std,d4]using hb
  exact i8 ((rdd O a8 Z).1)
 have t0:ue=0:=by subst O;simpa[std,d4]using hb
 refine f8 (j1 (wp_loop_rounds 2 (F0 (a7 (a6 [19,0,3,4] [0,3,4] Z fun X3 Z=>?_)))));refine l4 Z rfl (fun Z=>?_);exact j9 ((rdd O a8 Z).2)
theorem JC(k0 b:Nat)(J:j4)(E:s8)(hE:E.n<=1000000)(N:Nat)(q:B0)(t:Nt)(l:Lab)(hl:LOk l):E8 218 k0 b J E N q t [i6 l] (k7):=E8.re (EX b J E hE N q t l hl) (by repeat(first|exact trivial|refine⟨zr,?_⟩))
theorem FL(b:Nat)(J:j4)(hJ:l6 J)(E:s8)(hE:E.n<=1000000)(N:Nat)(p:Pst)(hR:Rel E N p)(hp:j3 p)(hn:p.n<=1000000)(l:Lab)(hl:LOk l)(v:Int)(x0 x1:Lab)(hx0:x0=chV l 0)(hx1:x1=chV l 1)(n:Nat)(hth:rv n)(hf:p.n<n):B5 236 0 b J E N p [i6 l,.int .u64 v,i6 x0,i6 x1] (fun _=>k7) (k7) (bq (J.budget-E.n) (J6 J.bucket (J.budget-E.n) n) l v p):=by
 intro m w hm hargs hpre;have hN0:N=E.n-p.n:=by have:=hR.n;omega
 have hk0:LOk x0:=by rw[hx0];exact hl.ch 0
 have hk1:LOk x1:=by rw[hx1];exact hl.ch 1
 refine enX 21 hm hpre hargs Tryz.func236 fun B O a0 Z=>?_
 refine a6 [0,2,6,8,9] [0,6,8,9] Z fun X0 Z=>?_
 refine a7 ?_
 rcases(wI 0 b J hJ E hE N p hR hp hn l v).two (A5 _ _ _ _ _) hp hn hR with⟨d1,p1,N1,hm1,hs1,hp1,hn1,hR1,hN1,S1⟩|⟨wq1,p1,N1,W1,hm1,hs1,hN1,hW1,S1⟩
 .have O1:=jS
  have O2:=S1;refine drg O a8 [14,0,8,9] [0,8,9] [(3,.r fun _=>.agg [.int .i64 2,.sl none none 0 0 2 (fun _=>[]),.int .i64 (-1),.int .u64 0,.int .u64 0]),(4,lc J E (.bool (.v d1)) N1 p1)] Z fun X1 _ _ Z=>?_
  apply b7 Z rfl<;>intro hb Z
  .have t1:d1=true:=by exact hb
   refine a7 ?_
   rcases(hth 0 b J hJ E hE N1 p1 hR1 hp1 hn1 x0 hk0 (by have:=hs1.le;omega)).two (F9 _ _ _ _ _) hp1 hn1 hR1 with⟨v2,p2,N2,hm2,hs2,hp2,hn2,hR2,hN2,S2⟩|⟨wq2,p2,N2,W2,hm2,hs2,hN2,hW2,S2⟩
   .have O1:=S2
    refine f7 [0,9] [0,9] [(2,lc J E (k7) N2 p2)] Z fun X2 Z=>?_
    rcases(hth 0 b J hJ E hE N2 p2 hR2 hp2 hn2 x1 hk1 (by have:=hs1.le;have:=hs2.le;omega)).two (F9 _ _ _ _ _) hp2 hn2 hR2 with⟨v3,p3,N3,hm3,hs3,hp3,hn3,hR3,hN3,S3⟩|⟨wq3,p3,N3,W3,hm3,hs3,hN3,hW3,S3⟩
    .have O1:=S3
     refine f7 [] [0] [(2,lc J E (k7) N3 p3)] Z fun X3 Z=>?_
     exact(rgo O a8 Z (v:=()) (q:=p3) (by simp[bq,<-hx0,<-hx1,Rs.bind,hm1,t1,hm2,hm3]) hN3).2
    have O1:=S3;refine f7 [] [0] [(2,sc J E (k7) N3 W3 p3.note)] Z fun X3 Z=>?_
    exact(rst O a8 Z (q:=p3) (wq:=wq3) (X3 2) (by simp[bq,<-hx0,<-hx1,Rs.bind,hm1,t1,hm2,hm3]) hN3 (hW3 _)).2
   have O1:=S2;refine f7 [0,9] [0,9] [(2,sc J E (k7) N2 W2 p2.note)] Z fun X2 Z=>?_
   have O1:=JC 0 b J E hE N2 (W2 (X2 2)) p2.note x1 hk1;refine f7 [] [0] [(2,dc J E (k7) N2 (W2 (X2 2)) p2.note)] Z fun X3 Z=>?_
   exact(rst O a8 Z (q:=p2) (wq:=wq2) (X2 2) (by simp[bq,<-hx0,<-hx1,Rs.bind,hm1,t1,hm2]) hN2 (hW2 _)).2
  have t1:d1=false:=by exact hb
  exact f8 ((rgo O a8 Z (v:=()) (q:=p1) (by simp[bq,<-hx0,<-hx1,Rs.bind,hm1,t1]) hN1).2)
 have O1:=jS;have O2:=S1;refine drg O a8 [14,0,8,9] [0,8,9] [(3,.r fun _=>.agg [.int .i64 2,.sl none none 0 0 2 (fun _=>[]),.int .i64 (-1),.int .u64 0,.int .u64 0]),(4,sc J E (.bool .ff) N1 W1 p1.note)] Z fun X1 _ _ Z=>?_
 refine l4 Z rfl (fun Z=>?_);exact f8 ((rst O a8 Z (q:=p1) (wq:=wq1) (X1 4) (by simp[bq,<-hx0,<-hx1,Rs.bind,hm1]) hN1 (hW1 _)).2)
theorem Cd(k0 b:Nat)(J:j4)(hJ:l6 J)(E:s8)(hE:E.n<=1000000)(N:Nat)(p:Pst)(hR:Rel E N p)(hp:j3 p)(hn:p.n<=1000000)(l:Lab)(hl:LOk l)(v:Int)(x0 x1:Lab)(hx0:x0=chV l 0)(hx1:x1=chV l 1)(n:Nat)(hth:rv n)(hf:p.n<n):B5 236 k0 b J E N p [i6 l,.int .u64 v,i6 x0,i6 x1] (fun _=>k7) (k7) (bq (J.budget-E.n) (J6 J.bucket (J.budget-E.n) n) l v p):=B5.re (FL b J hJ E hE N p hR hp hn l hl v x0 x1 hx0 hx1 n hth hf) (by repeat(first|exact trivial|refine⟨zr,?_⟩))
theorem BZ(b:Nat)(J:j4)(hJ:l6 J)(E:s8)(hE:E.n<=1000000)(N:Nat)(p:Pst)(hR:Rel E N p)(hp:j3 p)(hn:p.n<=1000000)(l:Lab)(hl:LOk l)(n:Nat)(ih:KO n)(hf:p.n<n+1):B5 238 0 b J E N p [i6 l] (fun _=>k7) (k7) (G4 (J.budget-E.n) (n+1) l p):=by
 intro m w hm hargs hpre;have hN0:N=E.n-p.n:=by have:=hR.n;omega
 have SC0:=U3 l hl.u 0 (.inl rfl);have SC1:=U3 l hl.u 1 (.inr rfl);have hk0:=hl.ch 0;have hk1:=hl.ch 1;simp only[i6]at SC0 SC1;obtain⟨x0,hx0⟩:=eqv (chV l 0);rw[<-hx0]at SC0 hk0;obtain⟨x1,hx1⟩:=eqv (chV l 1);rw[<-hx1]at SC1 hk1;obtain⟨y0,hy0⟩:=eqv (chE l 0);rw[<-hy0]at SC0;obtain⟨y1,hy1⟩:=eqv (chE l 1);rw[<-hy1]at SC1;have hlp:=r8 hl.isl;refine enX 59 hm hpre hargs Tryz.func238 fun B O a0 Z=>?_
 refine a6 [0,3] [0,3] Z fun X0 Z=>?_
 refine a6 [4,0,3] [0,3] Z fun X1 Z=>?_
 refine j1 (wp_loop_rounds 3 (F0 (a7 (a6 [15,0,3,4] [0,3] Z fun X2 Z=>?_))));apply b7 Z rfl<;>intro hb Z
 .have h6:l.len<64:=by subst O;simpa[std,d4]using hb
  have t64:¬l.len=64:=by omega
  have O1:=SC0;refine f8 (a7 (j1 (i9 [0,3,4,5] [0,3,5] [(2,.r fun _=>.tup [.agg [.int .i64 x0.len,.int .u64 x0.bits],.int .i64 y0])] Z fun X4 Z=>?_)));refine a7 ?_
  rcases(P1 0 b J hJ E hE N p hR hp hn x0).two (k8 _ _ _) hp hn hR with⟨g0,p50,N50,hm50,hs50,hp50,hn50,hR50,hN50,S50⟩|⟨wq50,p50,N50,W50,hm50,hs50,hN50,hW50,S50⟩
  .have hl50:=B7 hm50
   have hg50:=hp.get hm50;have O1:=S50;refine f7 [0,3,4,5,7] [0,3,5,7] [(2,lc J E (B2 g0) N50 p50)] Z fun X5 Z=>?_
   refine a7 (a6 [30,0,3,4,5,7] [0,3,5,7] Z fun X6 Z=>?_);refine l4 Z rfl (fun Z=>?_);obtain⟨q0,hq0⟩:=eqv (gk g0 5);refine f8 (a7 (a7 ?_));refine f7 [33,0,3,4,5,7] [0,3,5,7] [(1,.r fun _=>.bool (.v q0))] Z (hob:=by intro X;subst O;simp only[i7,Ob.holds,BE.den]<;>and_intros<;>repeat first|trivial|rfl|exact(by rw[hq0];exact D6 g0 5)|exact by rw[hq0];exact D6 g0 5|exact(fun _ _=>by kernel_rfl)|refine⟨?_,?_⟩|intro h|exact Int.le_refl _|decide|omega) fun X7 Z=>?_
   apply b7 Z rfl<;>intro hb Z
   .have tq0:gk g0 5=false:=by subst O;rw[<-hq0];revert hb;cases q0<;>simp[std]
    refine j9 (j5 [4,0,3] [0,3] Z fun X3 Z=>?_);replace Z:=Z.headS (v':=.int .i64 1) (by subst O;exact zr) rfl;refine l5 (a7 (a6 [15,0,3,4] [0,3] Z fun X2 Z=>?_));apply b7 Z rfl<;>intro hb Z
    .skip
     have O1:=SC1;refine f8 (a7 (j1 (i9 [0,3,4,5] [0,3,5] [(2,.r fun _=>.tup [.agg [.int .i64 x1.len,.int .u64 x1.bits],.int .i64 y1])] Z fun X4 Z=>?_)));refine a7 ?_
     rcases(P1 0 b J hJ E hE N50 p50 hR50 hp50 hn50 x1).two (k8 _ _ _) hp50 hn50 hR50 with⟨g1,p51,N51,hm51,hs51,hp51,hn51,hR51,hN51,S51⟩|⟨wq51,p51,N51,W51,hm51,hs51,hN51,hW51,S51⟩
     .have hl51:=B7 hm51
      have hg51:=hp50.get hm51;have O1:=S51;refine f7 [0,3,4,5,7] [0,3,5,7] [(2,lc J E (B2 g1) N51 p51)] Z fun X5 Z=>?_
      refine a7 (a6 [30,0,3,4,5,7] [0,3,5,7] Z fun X6 Z=>?_);refine l4 Z rfl (fun Z=>?_);obtain⟨q1,hq1⟩:=eqv (gk g1 5);refine f8 (a7 (a7 ?_));refine f7 [33,0,3,4,5,7] [0,3,5,7] [(1,.r fun _=>.bool (.v q1))] Z (hob:=by intro X;subst O;simp only[i7,Ob.holds,BE.den]<;>and_intros<;>repeat first|trivial|rfl|exact(by rw[hq1];exact D6 g1 5)|exact by rw[hq1];exact D6 g1 5|exact(fun _ _=>by kernel_rfl)|refine⟨?_,?_⟩|intro h|exact Int.le_refl _|decide|omega) fun X7 Z=>?_
      apply b7 Z rfl<;>intro hb Z
      .have tq1:gk g1 5=false:=by subst O;rw[<-hq1];revert hb;cases q1<;>simp[std]
       refine j9 (j5 [4,0,3] [0,3] Z fun X3 Z=>?_);replace Z:=Z.headS (v':=.int .i64 2) (by subst O;exact zr) rfl;refine l5 (a7 (a6 [15,0,3,4] [0,3] Z fun X2 Z=>?_));replace Z:=Z.headS (v':=.bool .ff) (Sim.bool (by subst O;rfl)) rfl;refine l4 Z rfl (fun Z=>?_);exact j9 ((rgo O a8 Z (v:=()) (q:=p51) (by simp[G4,J0,<-hx0,<-hx1,Rs.bind,t64,hm50,tq0,hm51,tq1]) hN51).2)
      have tq1:gk g1 5=true:=by subst O;rw[<-hq1];revert hb;cases q1<;>simp[std]
      refine f8 (a7 ?_)
      rcases(ih 0 b J hJ E hE N51 p51 hR51 hp51 hn51 x1 hk1 (by skip;have:=hl50;have:=hl51;omega)).two (Z1 _ _ _ _) hp51 hn51 hR51 with⟨v81,p81,N81,hm81,hs81,hp81,hn81,hR81,hN81,S81⟩|⟨wq81,p81,N81,W81,hm81,hs81,hN81,hW81,S81⟩
      .have O1:=S81
       refine f7 [0,3,4,5,7] [0,3,5,7] [(2,lc J E (k7) N81 p81)] Z fun X8 Z=>?_
       refine a7 ?_
       rcases(P1 0 b J hJ E hE N81 p81 hR81 hp81 hn81 l).two (k8 _ _ _) hp81 hn81 hR81 with⟨h1,p91,N91,hm91,hs91,hp91,hn91,hR91,hN91,S91⟩|⟨wq91,p91,N91,W91,hm91,hs91,hN91,hW91,S91⟩
       .have hl91:=B7 hm91
        have hg91:=hp81.get hm91;have O1:=S91;refine f7 [0,3,4,5,7,8] [0,3,5,7,8] [(2,lc J E (B2 h1) N91 p91)] Z fun X9 Z=>?_
        obtain⟨r1,hr1⟩:=eqv (gk h1 1);obtain⟨s1,hs1⟩:=eqv (gk h1 5);refine a7 (a7 ?_);refine f7 [53,0,3,4,5,7] [0,3,5,7] [(6,.r fun _=>.bool (.v r1)),(10,.r fun _=>.bool (.v s1))] Z (hob:=by intro X;subst O;simp only[i7,Ob.holds,BE.den]<;>and_intros<;>repeat first|trivial|rfl|exact(by rw[hr1];exact D6 h1 1)|exact by rw[hr1];exact D6 h1 1|exact(by rw[hs1];exact D6 h1 5)|exact by rw[hs1];exact D6 h1 5|exact(fun _ _=>by kernel_rfl)|refine⟨?_,?_⟩|intro h|exact Int.le_refl _|decide|omega) fun X10 Z=>?_
        apply b7 Z rfl<;>intro hb Z
        .have tr1:(gk h1 1||gk h1 5)=false:=by subst O;rw[<-hr1,<-hs1];revert hb;cases r1<;>cases s1<;>simp[std]
         exact i8 ((rgo O a8 Z (v:=()) (q:=p91) (by simp[G4,J0,<-hx0,<-hx1,Rs.bind,t64,hm50,tq0,hm51,tq1,hm81,hm91,tr1]) hN91).1)
        have tr1:(gk h1 1||gk h1 5)=true:=by subst O;rw[<-hr1,<-hs1];revert hb;cases r1<;>cases s1<;>simp[std]
        refine f8 ?_
        rcases(uO 0 b J hJ E hE N91 p91 hR91 hp91 hn91 x1 g1.ver).two (dO _ _ _ _) hp91 hn91 hR91 with⟨d1,p111,N111,hm111,hs111,hp111,hn111,hR111,hN111,S111⟩|⟨wq111,p111,N111,W111,hm111,hs111,hN111,hW111,S111⟩
        .have O1:=S111
         refine f7 [0,3,4] [0,3] [(4,lc J E (.bool (.v d1)) N111 p111)] Z fun X11 Z=>?_
         refine j5 [4,0,3] [0,3] Z fun X3 Z=>?_
         replace Z:=Z.headS (v':=.int .i64 2) (by subst O;exact zr) rfl;refine l5 (a7 (a6 [15,0,3,4] [0,3] Z fun X2 Z=>?_));replace Z:=Z.headS (v':=.bool .ff) (Sim.bool (by subst O;rfl)) rfl;refine l4 Z rfl (fun Z=>?_);exact j9 ((rgo O a8 Z (v:=()) (q:=p111) (by simp[G4,J0,<-hx0,<-hx1,Rs.bind,t64,hm50,tq0,hm51,tq1,hm81,hm91,tr1,hm111]) hN111).2)
        have O1:=S111;refine f7 [0,3,4] [0,3] [(4,sc J E (.bool .ff) N111 W111 p111.note)] Z fun X11 Z=>?_
        refine j5 [4,0,3] [0,3] Z fun X3 Z=>?_
        replace Z:=Z.headS (v':=.int .i64 2) (by subst O;exact zr) rfl;refine l5 (a7 (a6 [15,0,3,4] [0,3] Z fun X2 Z=>?_));replace Z:=Z.headS (v':=.bool .ff) (Sim.bool (by subst O;rfl)) rfl;refine l4 Z rfl (fun Z=>?_);exact j9 ((rst O a8 Z (q:=p111) (wq:=wq111) (X11 4) (by simp[G4,J0,<-hx0,<-hx1,Rs.bind,t64,hm50,tq0,hm51,tq1,hm81,hm91,tr1,hm111]) hN111 (hW111 _)).2)
       have O1:=S91;refine f7 [0,3,4,5,7,8] [0,3,5,7,8] [(2,sc J E (.agg [.int .i64 0,.int .u64 0,.bool .ff,.int .i64 0,.sl none none 0 0 2 (fun _=>[]),.int .i64 0,.int .u64 0,.int .u64 0]) N91 W91 p91.note)] Z fun X9 Z=>?_
       obtain⟨bs,hbs⟩:∃b:Bool,b=true:=⟨_,rfl⟩
       replace Z:=Z.memS (df hbs J E N91 (W91 (X9 2)) p91.note);refine a7 (a7 ?_);refine f7 [53,0,3,4,5,7] [0,3,5,7] [(6,.r fun _=>.bool .ff),(10,.r fun _=>.bool .ff)] Z fun X10 Z=>?_
       replace Z:=Z.headS (v':=.bool .tt) (Sim.bool (by subst O;rw[hbs];rfl)) rfl;replace Z:=Z.memS (dg hbs J E N91 (W91 (X9 2)) p91.note);refine l7 Z rfl (fun Z=>?_);exact i8 ((rst O a8 Z (q:=p91) (wq:=wq91) (X9 2) (by simp[G4,J0,<-hx0,<-hx1,Rs.bind,t64,hm50,tq0,hm51,tq1,hm81,hm91]) hN91 (hW91 _)).1)
      have O1:=S81;refine f7 [0,3,4,5,7] [0,3,5,7] [(2,sc J E (k7) N81 W81 p81.note)] Z fun X8 Z=>?_
      have O1:=jT 0 b J E hE N81 (W81 (X8 2)) p81.note l;refine i9 [0,3,4,5,7,8] [0,3,5,7,8] [(2,dc J E (.agg [.int .i64 0,.int .u64 0,.bool .ff,.int .i64 0,.sl none none 0 0 2 (fun _=>[]),.int .i64 0,.int .u64 0,.int .u64 0]) N81 (W81 (X8 2)) p81.note)] Z fun X9 Z=>?_
      obtain⟨bs,hbs⟩:∃b:Bool,b=true:=⟨_,rfl⟩
      replace Z:=Z.memS (df hbs J E N81 (W81 (X8 2)) p81.note);refine a7 (a7 ?_);refine f7 [53,0,3,4,5,7] [0,3,5,7] [(6,.r fun _=>.bool .ff),(10,.r fun _=>.bool .ff)] Z fun X10 Z=>?_
      replace Z:=Z.headS (v':=.bool .tt) (Sim.bool (by subst O;rw[hbs];rfl)) rfl;replace Z:=Z.memS (dg hbs J E N81 (W81 (X8 2)) p81.note);refine l7 Z rfl (fun Z=>?_);exact i8 ((rst O a8 Z (q:=p81) (wq:=wq81) (X8 2) (by simp[G4,J0,<-hx0,<-hx1,Rs.bind,t64,hm50,tq0,hm51,tq1,hm81]) hN81 (hW81 _)).1)
     have O1:=S51;refine f7 [0,3,4,5,7] [0,3,5,7] [(2,sc J E (.agg [.int .i64 0,.int .u64 0,.bool .ff,.int .i64 0,.sl none none 0 0 2 (fun _=>[]),.int .i64 0,.int .u64 0,.int .u64 0]) N51 W51 p51.note)] Z fun X5 Z=>?_
     refine a7 (a6 [30,0,3,4,5,7] [0,3,5,7] Z fun X6 Z=>?_);refine l7 Z rfl (fun Z=>?_);exact i8 ((rst O a8 Z (q:=p51) (wq:=wq51) (X5 2) (by simp[G4,J0,<-hx0,<-hx1,Rs.bind,t64,hm50,tq0,hm51]) hN51 (hW51 _)).1)
    exfalso
    have h7:¬l.len<64:=by subst O;simpa[std,d4]using hb
    exact h7 h6
   have tq0:gk g0 5=true:=by subst O;rw[<-hq0];revert hb;cases q0<;>simp[std]
   refine f8 (a7 ?_)
   rcases(ih 0 b J hJ E hE N50 p50 hR50 hp50 hn50 x0 hk0 (by skip;have:=hl50;omega)).two (Z1 _ _ _ _) hp50 hn50 hR50 with⟨v80,p80,N80,hm80,hs80,hp80,hn80,hR80,hN80,S80⟩|⟨wq80,p80,N80,W80,hm80,hs80,hN80,hW80,S80⟩
   .have O1:=S80
    refine f7 [0,3,4,5,7] [0,3,5,7] [(2,lc J E (k7) N80 p80)] Z fun X8 Z=>?_
    refine a7 ?_
    rcases(P1 0 b J hJ E hE N80 p80 hR80 hp80 hn80 l).two (k8 _ _ _) hp80 hn80 hR80 with⟨h0,p90,N90,hm90,hs90,hp90,hn90,hR90,hN90,S90⟩|⟨wq90,p90,N90,W90,hm90,hs90,hN90,hW90,S90⟩
    .have hl90:=B7 hm90
     have hg90:=hp80.get hm90;have O1:=S90;refine f7 [0,3,4,5,7,8] [0,3,5,7,8] [(2,lc J E (B2 h0) N90 p90)] Z fun X9 Z=>?_
     obtain⟨r0,hr0⟩:=eqv (gk h0 1);obtain⟨s0,hs0⟩:=eqv (gk h0 5);refine a7 (a7 ?_);refine f7 [53,0,3,4,5,7] [0,3,5,7] [(6,.r fun _=>.bool (.v r0)),(10,.r fun _=>.bool (.v s0))] Z (hob:=by intro X;subst O;simp only[i7,Ob.holds,BE.den]<;>and_intros<;>repeat first|trivial|rfl|exact(by rw[hr0];exact D6 h0 1)|exact by rw[hr0];exact D6 h0 1|exact(by rw[hs0];exact D6 h0 5)|exact by rw[hs0];exact D6 h0 5|exact(fun _ _=>by kernel_rfl)|refine⟨?_,?_⟩|intro h|exact Int.le_refl _|decide|omega) fun X10 Z=>?_
     apply b7 Z rfl<;>intro hb Z
     .have tr0:(gk h0 1||gk h0 5)=false:=by subst O;rw[<-hr0,<-hs0];revert hb;cases r0<;>cases s0<;>simp[std]
      exact i8 ((rgo O a8 Z (v:=()) (q:=p90) (by simp[G4,J0,<-hx0,<-hx1,Rs.bind,t64,hm50,tq0,hm80,hm90,tr0]) hN90).1)
     have tr0:(gk h0 1||gk h0 5)=true:=by subst O;rw[<-hr0,<-hs0];revert hb;cases r0<;>cases s0<;>simp[std]
     refine f8 ?_
     rcases(uO 0 b J hJ E hE N90 p90 hR90 hp90 hn90 x0 g0.ver).two (dO _ _ _ _) hp90 hn90 hR90 with⟨d0,p110,N110,hm110,hs110,hp110,hn110,hR110,hN110,S110⟩|⟨wq110,p110,N110,W110,hm110,hs110,hN110,hW110,S110⟩
     .have O1:=S110
      refine f7 [0,3,4] [0,3] [(4,lc J E (.bool (.v d0)) N110 p110)] Z fun X11 Z=>?_
      refine j5 [4,0,3] [0,3] Z fun X3 Z=>?_
      replace Z:=Z.headS (v':=.int .i64 1) (by subst O;exact zr) rfl;refine l5 (a7 (a6 [15,0,3,4] [0,3] Z fun X2 Z=>?_));apply b7 Z rfl<;>intro hb Z
      .skip
       have O1:=SC1;refine f8 (a7 (j1 (i9 [0,3,4,5] [0,3,5] [(2,.r fun _=>.tup [.agg [.int .i64 x1.len,.int .u64 x1.bits],.int .i64 y1])] Z fun X4 Z=>?_)));refine a7 ?_
       rcases(P1 0 b J hJ E hE N110 p110 hR110 hp110 hn110 x1).two (k8 _ _ _) hp110 hn110 hR110 with⟨g1,p51,N51,hm51,hs51,hp51,hn51,hR51,hN51,S51⟩|⟨wq51,p51,N51,W51,hm51,hs51,hN51,hW51,S51⟩
       .have hl51:=B7 hm51
        have hg51:=hp110.get hm51;have O1:=S51;refine f7 [0,3,4,5,7] [0,3,5,7] [(2,lc J E (B2 g1) N51 p51)] Z fun X5 Z=>?_
        refine a7 (a6 [30,0,3,4,5,7] [0,3,5,7] Z fun X6 Z=>?_);refine l4 Z rfl (fun Z=>?_);obtain⟨q1,hq1⟩:=eqv (gk g1 5);refine f8 (a7 (a7 ?_));refine f7 [33,0,3,4,5,7] [0,3,5,7] [(1,.r fun _=>.bool (.v q1))] Z (hob:=by intro X;subst O;simp only[i7,Ob.holds,BE.den]<;>and_intros<;>repeat first|trivial|rfl|exact(by rw[hq1];exact D6 g1 5)|exact by rw[hq1];exact D6 g1 5|exact(fun _ _=>by kernel_rfl)|refine⟨?_,?_⟩|intro h|exact Int.le_refl _|decide|omega) fun X7 Z=>?_
        apply b7 Z rfl<;>intro hb Z
        .have tq1:gk g1 5=false:=by subst O;rw[<-hq1];revert hb;cases q1<;>simp[std]
         refine j9 (j5 [4,0,3] [0,3] Z fun X3 Z=>?_);replace Z:=Z.headS (v':=.int .i64 2) (by subst O;exact zr) rfl;refine l5 (a7 (a6 [15,0,3,4] [0,3] Z fun X2 Z=>?_));replace Z:=Z.headS (v':=.bool .ff) (Sim.bool (by subst O;rfl)) rfl;refine l4 Z rfl (fun Z=>?_);exact j9 ((rgo O a8 Z (v:=()) (q:=p51) (by simp[G4,J0,<-hx0,<-hx1,Rs.bind,t64,hm50,tq0,hm80,hm90,tr0,hm110,hm51,tq1]) hN51).2)
        have tq1:gk g1 5=true:=by subst O;rw[<-hq1];revert hb;cases q1<;>simp[std]
        refine f8 (a7 ?_)
        rcases(ih 0 b J hJ E hE N51 p51 hR51 hp51 hn51 x1 hk1 (by skip;have:=hl50;have:=hs80.le;have:=hs90.le;have:=hs110.le;have:=hl51;omega)).two (Z1 _ _ _ _) hp51 hn51 hR51 with⟨v81,p81,N81,hm81,hs81,hp81,hn81,hR81,hN81,S81⟩|⟨wq81,p81,N81,W81,hm81,hs81,hN81,hW81,S81⟩
        .have O1:=S81
         refine f7 [0,3,4,5,7] [0,3,5,7] [(2,lc J E (k7) N81 p81)] Z fun X8 Z=>?_
         refine a7 ?_
         rcases(P1 0 b J hJ E hE N81 p81 hR81 hp81 hn81 l).two (k8 _ _ _) hp81 hn81 hR81 with⟨h1,p91,N91,hm91,hs91,hp91,hn91,hR91,hN91,S91⟩|⟨wq91,p91,N91,W91,hm91,hs91,hN91,hW91,S91⟩
         .have hl91:=B7 hm91
          have hg91:=hp81.get hm91;have O1:=S91;refine f7 [0,3,4,5,7,8] [0,3,5,7,8] [(2,lc J E (B2 h1) N91 p91)] Z fun X9 Z=>?_
          obtain⟨r1,hr1⟩:=eqv (gk h1 1);obtain⟨s1,hs1⟩:=eqv (gk h1 5);refine a7 (a7 ?_);refine f7 [53,0,3,4,5,7] [0,3,5,7] [(6,.r fun _=>.bool (.v r1)),(10,.r fun _=>.bool (.v s1))] Z (hob:=by intro X;subst O;simp only[i7,Ob.holds,BE.den]<;>and_intros<;>repeat first|trivial|rfl|exact(by rw[hr1];exact D6 h1 1)|exact by rw[hr1];exact D6 h1 1|exact(by rw[hs1];exact D6 h1 5)|exact by rw[hs1];exact D6 h1 5|exact(fun _ _=>by kernel_rfl)|refine⟨?_,?_⟩|intro h|exact Int.le_refl _|decide|omega) fun X10 Z=>?_
          apply b7 Z rfl<;>intro hb Z
          .have tr1:(gk h1 1||gk h1 5)=false:=by subst O;rw[<-hr1,<-hs1];revert hb;cases r1<;>cases s1<;>simp[std]
           exact i8 ((rgo O a8 Z (v:=()) (q:=p91) (by simp[G4,J0,<-hx0,<-hx1,Rs.bind,t64,hm50,tq0,hm80,hm90,tr0,hm110,hm51,tq1,hm81,hm91,tr1]) hN91).1)
          have tr1:(gk h1 1||gk h1 5)=true:=by subst O;rw[<-hr1,<-hs1];revert hb;cases r1<;>cases s1<;>simp[std]
          refine f8 ?_
          rcases(uO 0 b J hJ E hE N91 p91 hR91 hp91 hn91 x1 g1.ver).two (dO _ _ _ _) hp91 hn91 hR91 with⟨d1,p111,N111,hm111,hs111,hp111,hn111,hR111,hN111,S111⟩|⟨wq111,p111,N111,W111,hm111,hs111,hN111,hW111,S111⟩
          .have O1:=S111
           refine f7 [0,3,4] [0,3] [(4,lc J E (.bool (.v d1)) N111 p111)] Z fun X11 Z=>?_
           refine j5 [4,0,3] [0,3] Z fun X3 Z=>?_
           replace Z:=Z.headS (v':=.int .i64 2) (by subst O;exact zr) rfl;refine l5 (a7 (a6 [15,0,3,4] [0,3] Z fun X2 Z=>?_));replace Z:=Z.headS (v':=.bool .ff) (Sim.bool (by subst O;rfl)) rfl;refine l4 Z rfl (fun Z=>?_);exact j9 ((rgo O a8 Z (v:=()) (q:=p111) (by simp[G4,J0,<-hx0,<-hx1,Rs.bind,t64,hm50,tq0,hm80,hm90,tr0,hm110,hm51,tq1,hm81,hm91,tr1,hm111]) hN111).2)
          have O1:=S111;refine f7 [0,3,4] [0,3] [(4,sc J E (.bool .ff) N111 W111 p111.note)] Z fun X11 Z=>?_
          refine j5 [4,0,3] [0,3] Z fun X3 Z=>?_
          replace Z:=Z.headS (v':=.int .i64 2) (by subst O;exact zr) rfl;refine l5 (a7 (a6 [15,0,3,4] [0,3] Z fun X2 Z=>?_));replace Z:=Z.headS (v':=.bool .ff) (Sim.bool (by subst O;rfl)) rfl;refine l4 Z rfl (fun Z=>?_);exact j9 ((rst O a8 Z (q:=p111) (wq:=wq111) (X11 4) (by simp[G4,J0,<-hx0,<-hx1,Rs.bind,t64,hm50,tq0,hm80,hm90,tr0,hm110,hm51,tq1,hm81,hm91,tr1,hm111]) hN111 (hW111 _)).2)
         have O1:=S91;refine f7 [0,3,4,5,7,8] [0,3,5,7,8] [(2,sc J E (.agg [.int .i64 0,.int .u64 0,.bool .ff,.int .i64 0,.sl none none 0 0 2 (fun _=>[]),.int .i64 0,.int .u64 0,.int .u64 0]) N91 W91 p91.note)] Z fun X9 Z=>?_
         obtain⟨bs,hbs⟩:∃b:Bool,b=true:=⟨_,rfl⟩
         replace Z:=Z.memS (df hbs J E N91 (W91 (X9 2)) p91.note);refine a7 (a7 ?_);refine f7 [53,0,3,4,5,7] [0,3,5,7] [(6,.r fun _=>.bool .ff),(10,.r fun _=>.bool .ff)] Z fun X10 Z=>?_
         replace Z:=Z.headS (v':=.bool .tt) (Sim.bool (by subst O;rw[hbs];rfl)) rfl;replace Z:=Z.memS (dg hbs J E N91 (W91 (X9 2)) p91.note);refine l7 Z rfl (fun Z=>?_);exact i8 ((rst O a8 Z (q:=p91) (wq:=wq91) (X9 2) (by simp[G4,J0,<-hx0,<-hx1,Rs.bind,t64,hm50,tq0,hm80,hm90,tr0,hm110,hm51,tq1,hm81,hm91]) hN91 (hW91 _)).1)
        have O1:=S81;refine f7 [0,3,4,5,7] [0,3,5,7] [(2,sc J E (k7) N81 W81 p81.note)] Z fun X8 Z=>?_
        have O1:=jT 0 b J E hE N81 (W81 (X8 2)) p81.note l;refine i9 [0,3,4,5,7,8] [0,3,5,7,8] [(2,dc J E (.agg [.int .i64 0,.int .u64 0,.bool .ff,.int .i64 0,.sl none none 0 0 2 (fun _=>[]),.int .i64 0,.int .u64 0,.int .u64 0]) N81 (W81 (X8 2)) p81.note)] Z fun X9 Z=>?_
        obtain⟨bs,hbs⟩:∃b:Bool,b=true:=⟨_,rfl⟩
        replace Z:=Z.memS (df hbs J E N81 (W81 (X8 2)) p81.note);refine a7 (a7 ?_);refine f7 [53,0,3,4,5,7] [0,3,5,7] [(6,.r fun _=>.bool .ff),(10,.r fun _=>.bool .ff)] Z fun X10 Z=>?_
        replace Z:=Z.headS (v':=.bool .tt) (Sim.bool (by subst O;rw[hbs];rfl)) rfl;replace Z:=Z.memS (dg hbs J E N81 (W81 (X8 2)) p81.note);refine l7 Z rfl (fun Z=>?_);exact i8 ((rst O a8 Z (q:=p81) (wq:=wq81) (X8 2) (by simp[G4,J0,<-hx0,<-hx1,Rs.bind,t64,hm50,tq0,hm80,hm90,tr0,hm110,hm51,tq1,hm81]) hN81 (hW81 _)).1)
       have O1:=S51;refine f7 [0,3,4,5,7] [0,3,5,7] [(2,sc J E (.agg [.int .i64 0,.int .u64 0,.bool .ff,.int .i64 0,.sl none none 0 0 2 (fun _=>[]),.int .i64 0,.int .u64 0,.int .u64 0]) N51 W51 p51.note)] Z fun X5 Z=>?_
       refine a7 (a6 [30,0,3,4,5,7] [0,3,5,7] Z fun X6 Z=>?_);refine l7 Z rfl (fun Z=>?_);exact i8 ((rst O a8 Z (q:=p51) (wq:=wq51) (X5 2) (by simp[G4,J0,<-hx0,<-hx1,Rs.bind,t64,hm50,tq0,hm80,hm90,tr0,hm110,hm51]) hN51 (hW51 _)).1)
      exfalso
      have h7:¬l.len<64:=by subst O;simpa[std,d4]using hb
      exact h7 h6
     have O1:=S110;refine f7 [0,3,4] [0,3] [(4,sc J E (.bool .ff) N110 W110 p110.note)] Z fun X11 Z=>?_
     refine j5 [4,0,3] [0,3] Z fun X3 Z=>?_
     replace Z:=Z.headS (v':=.int .i64 1) (by subst O;exact zr) rfl;refine l5 (a7 (a6 [15,0,3,4] [0,3] Z fun X2 Z=>?_));apply b7 Z rfl<;>intro hb Z
     .skip
      have O1:=SC1;refine f8 (a7 (j1 (i9 [0,3,4,5] [0,3,5] [(2,.r fun _=>.tup [.agg [.int .i64 x1.len,.int .u64 x1.bits],.int .i64 y1])] Z fun X4 Z=>?_)));have O1:=jT 0 b J E hE N110 (W110 (X11 4)) p110.note x1;refine i9 [0,3,4,5,7] [0,3,5,7] [(2,dc J E (.agg [.int .i64 0,.int .u64 0,.bool .ff,.int .i64 0,.sl none none 0 0 2 (fun _=>[]),.int .i64 0,.int .u64 0,.int .u64 0]) N110 (W110 (X11 4)) p110.note)] Z fun X5 Z=>?_
      refine a7 (a6 [30,0,3,4,5,7] [0,3,5,7] Z fun X6 Z=>?_);refine l7 Z rfl (fun Z=>?_);exact i8 ((rst O a8 Z (q:=p110) (wq:=wq110) (X11 4) (by simp[G4,J0,<-hx0,<-hx1,Rs.bind,t64,hm50,tq0,hm80,hm90,tr0,hm110]) hN110 (hW110 _)).1)
     exfalso
     have h7:¬l.len<64:=by subst O;simpa[std,d4]using hb
     exact h7 h6
    have O1:=S90;refine f7 [0,3,4,5,7,8] [0,3,5,7,8] [(2,sc J E (.agg [.int .i64 0,.int .u64 0,.bool .ff,.int .i64 0,.sl none none 0 0 2 (fun _=>[]),.int .i64 0,.int .u64 0,.int .u64 0]) N90 W90 p90.note)] Z fun X9 Z=>?_
    obtain⟨bs,hbs⟩:∃b:Bool,b=true:=⟨_,rfl⟩
    replace Z:=Z.memS (df hbs J E N90 (W90 (X9 2)) p90.note);refine a7 (a7 ?_);refine f7 [53,0,3,4,5,7] [0,3,5,7] [(6,.r fun _=>.bool .ff),(10,.r fun _=>.bool .ff)] Z fun X10 Z=>?_
    replace Z:=Z.headS (v':=.bool .tt) (Sim.bool (by subst O;rw[hbs];rfl)) rfl;replace Z:=Z.memS (dg hbs J E N90 (W90 (X9 2)) p90.note);refine l7 Z rfl (fun Z=>?_);exact i8 ((rst O a8 Z (q:=p90) (wq:=wq90) (X9 2) (by simp[G4,J0,<-hx0,<-hx1,Rs.bind,t64,hm50,tq0,hm80,hm90]) hN90 (hW90 _)).1)
   have O1:=S80;refine f7 [0,3,4,5,7] [0,3,5,7] [(2,sc J E (k7) N80 W80 p80.note)] Z fun X8 Z=>?_
   have O1:=jT 0 b J E hE N80 (W80 (X8 2)) p80.note l;refine i9 [0,3,4,5,7,8] [0,3,5,7,8] [(2,dc J E (.agg [.int .i64 0,.int .u64 0,.bool .ff,.int .i64 0,.sl none none 0 0 2 (fun _=>[]),.int .i64 0,.int .u64 0,.int .u64 0]) N80 (W80 (X8 2)) p80.note)] Z fun X9 Z=>?_
   obtain⟨bs,hbs⟩:∃b:Bool,b=true:=⟨_,rfl⟩
   replace Z:=Z.memS (df hbs J E N80 (W80 (X8 2)) p80.note);refine a7 (a7 ?_);refine f7 [53,0,3,4,5,7] [0,3,5,7] [(6,.r fun _=>.bool .ff),(10,.r fun _=>.bool .ff)] Z fun X10 Z=>?_
   replace Z:=Z.headS (v':=.bool .tt) (Sim.bool (by subst O;rw[hbs];rfl)) rfl;replace Z:=Z.memS (dg hbs J E N80 (W80 (X8 2)) p80.note);refine l7 Z rfl (fun Z=>?_);exact i8 ((rst O a8 Z (q:=p80) (wq:=wq80) (X8 2) (by simp[G4,J0,<-hx0,<-hx1,Rs.bind,t64,hm50,tq0,hm80]) hN80 (hW80 _)).1)
  have O1:=S50;refine f7 [0,3,4,5,7] [0,3,5,7] [(2,sc J E (.agg [.int .i64 0,.int .u64 0,.bool .ff,.int .i64 0,.sl none none 0 0 2 (fun _=>[]),.int .i64 0,.int .u64 0,.int .u64 0]) N50 W50 p50.note)] Z fun X5 Z=>?_
  refine a7 (a6 [30,0,3,4,5,7] [0,3,5,7] Z fun X6 Z=>?_);refine l7 Z rfl (fun Z=>?_);exact i8 ((rst O a8 Z (q:=p50) (wq:=wq50) (X5 2) (by simp[G4,J0,<-hx0,<-hx1,Rs.bind,t64,hm50]) hN50 (hW50 _)).1)
 have h6:¬l.len<64:=by subst O;simpa[std,d4]using hb
 have t64:l.len=64:=by omega
 exact j9 ((rgo O a8 Z (v:=()) (q:=p) (by simp[G4,J0,<-hx0,<-hx1,Rs.bind,t64]) hN0).2)
theorem FD(k0 b:Nat)(J:j4)(hJ:l6 J)(E:s8)(hE:E.n<=1000000)(N:Nat)(p:Pst)(hR:Rel E N p)(hp:j3 p)(hn:p.n<=1000000)(l:Lab)(hl:LOk l)(n:Nat)(ih:KO n)(hf:p.n<n+1):B5 238 k0 b J E N p [i6 l] (fun _=>k7) (k7) (G4 (J.budget-E.n) (n+1) l p):=B5.re (BZ b J hJ E hE N p hR hp hn l hl n ih hf) (by repeat(first|exact trivial|refine⟨zr,?_⟩))
theorem Ca:∀n,KO n
 |0=>fun _ _ _ _ _ _ _ _ _ _ _ _ _ h=>absurd h (Nat.not_lt_zero _)
 |n+1=>fun k0 b J hJ E hE N p hR hp hn l hl hf=>FD k0 b J hJ E hE N p hR hp hn l hl n (Ca n) hf
theorem Fo(x:RA)(h:ay x)(l:Lab)(hl:U64 l.bits):k9 Tryz.prog 233 [J7 x,i6 l] (fun y=>.tup [J7 ⟨y.A 0,y.c 0,(M7 x l).1.rn⟩,J7 ⟨y.A 1,y.c 1,(M7 x l).2.1.rn⟩,.int .i64 (M7 x l).2.2]):=by
 have hf:=h.few;exact xD x.A x.r.n x.c x.r.f (by omega) x.r.kd x.r.nx x.r.mrk h.nx h.key l hl
theorem JA(x y:RA)(h:ay x)(h':ay y):k9 Tryz.prog 237 [J7 x,J7 y] (fun z=>.tup [J7 ⟨z.A 0,z.c 0,(ci x y).1.rn⟩,.int .i64 (ci x y).2]):=by
 have hf:=h.few;have hf':=h'.few;exact zO x.A x.r.n x.c x.r.f (by omega) x.r.kd x.r.nx x.r.mrk h.nx y.A y.r.n y.c y.r.f (by omega) y.r.kd y.r.nx y.r.mrk h'.nx
theorem EY(b:Nat)(J:j4)(hJ:l6 J)(E:s8)(hE:E.n<=1000000)(N:Nat)(p:Pst)(hR:Rel E N p)(hp:j3 p)(hn:p.n<=1000000)(l:Lab)(hl:LOk l)(v:Int)(x:RA)(hx:ay x)(n:Nat)(hf:p.n<n):B5 171 0 b J E N p [i6 l,.int .u64 v,J7 x] (fun _=>k7) (k7) (A4 (J.budget-E.n) n l v x p):=by
 intro m w hm hargs hpre;have hN0:N=E.n-p.n:=by have:=hR.n;omega
 have SC0:=U3 l hl.u 0 (.inl rfl);have SC1:=U3 l hl.u 1 (.inr rfl);have hk0:=hl.ch 0;have hk1:=hl.ch 1;simp only[i6]at SC0 SC1;obtain⟨x0,hx0⟩:=eqv (chV l 0);rw[<-hx0]at SC0 hk0;obtain⟨x1,hx1⟩:=eqv (chV l 1);rw[<-hx1]at SC1 hk1;obtain⟨y0,hy0⟩:=eqv (chE l 0);rw[<-hy0]at SC0;obtain⟨y1,hy1⟩:=eqv (chE l 1);rw[<-hy1]at SC1;have SH:=Fo x hx l hl.u;obtain⟨e,he⟩:=eqv ((M7 x l).2.2);rw[<-he]at SH;obtain⟨r0,hr0⟩:=eqv ((M7 x l).1.rn);rw[<-hr0]at SH;obtain⟨r1,hr1⟩:=eqv ((M7 x l).2.1.rn);rw[<-hr1]at SH;simp only[i6]at SH;refine enX 87 hm hpre hargs Tryz.func171 fun B O a0 Z=>?_
 refine a6 [0,2,5,7] [0,5,7] Z fun X0 Z=>?_
 have O1:=SH;refine i9 [0,2,5,8,9,10] [0,5,8,9] [(2,.r fun y=>.tup [.agg [.int .i64 r0.kd,.sl none (y.A 0) r0.n (y.c 0) 2 (fun i=>itC (r0.f i)),.int .i64 r0.nx.len,.int .u64 r0.nx.bits,.int .u64 r0.mrk],.agg [.int .i64 r1.kd,.sl none (y.A 1) r1.n (y.c 1) 2 (fun i=>itC (r1.f i)),.int .i64 r1.nx.len,.int .u64 r1.nx.bits,.int .u64 r1.mrk],.int .i64 e])] Z fun X1 Z=>?_
 refine a7 (a6 [26,0,2,5,8,9] [0,5,8,9] Z fun X2 Z=>?_);apply b7 Z rfl<;>intro hb Z
 .have t0:¬e=0:=by subst O;simpa[std,d4]using hb
  exact i8 ((rgo O a8 Z (v:=()) (q:=p) (by simp[A4,B9,<-hx0,<-hx1,<-he,Rs.bind,t0]) hN0).1)
 have t0:e=0:=by subst O;simpa[std,d4]using hb
 refine f8 (a6 [11,0,2,5] [0,5,29] Z fun X3 Z=>?_);obtain⟨hv,hhv⟩:∃f:Nat->RA,f=fun i=>if i=0 then⟨(X1 2).A 0,(X1 2).c 0,r0⟩else⟨(X1 2).A 1,(X1 2).c 1,r1⟩:=⟨_,rfl⟩
 have hv0:(hv 0).r.abs=(M7 x l).1:=by rw[hhv];show r0.abs=_;rw[hr0];exact aQ _
 have hv1:(hv 1).r.abs=(M7 x l).2.1:=by rw[hhv];show r1.abs=_;rw[hr1];exact aQ _
 replace Z:=Z.headS (v':=.sl (some 11) (some ⟨(X3 2).b,0,none⟩) 2 2 5 (fun i=>nL (hv i))) (Sim.recell (fun i hi=>by
   subst hhv
   match i,hi with
   |0,_=>rfl
   |1,_=>rfl)) rfl
 refine a7 (a6 [12,0,2,5,11] [0,5,29] Z fun X4 Z=>?_);refine j1 (wp_loop_rounds 3 (F0 (a7 (a6 [31,0,2,5,11,12] [0,5,29] Z fun X5 Z=>?_))));replace Z:=Z.headS (v':=.bool .tt) (Sim.bool (by subst O;rfl)) rfl;refine l7 Z rfl (fun Z=>?_);have O1:=SC0;refine f8 (a7 (j1 (i9 [0,2,5,11,12,13] [0,5,13,29] [(2,.r fun _=>.tup [.agg [.int .i64 x0.len,.int .u64 x0.bits],.int .i64 y0])] Z fun X7 Z=>?_)));refine a6 [15,0,2,5,11,12,13] [0,5,13,29] Z fun X8 Z=>?_
 refine j1 (l3 (ι:=LSt) (fun q=>[(15,.bool (lsB q))]) (fun q=>[(0,⟨b,147,lsC J E q⟩)]) (fun q=>[]) (fun q=>match q with| .go a r M=>B9 (J.budget-E.n) l v x0 (hv 0).r.abs n p=B9 (J.budget-E.n) l v x0 (hv 0).r.abs a r/\j3 r/\r.n<=1000000/\Rel E M r/\r.n<a/\r.n<=p.n| .dn r M=>B9 (J.budget-E.n) l v x0 (hv 0).r.abs n p = .ok true r/\j3 r/\r.n<=1000000/\Rel E M r/\r.n<=p.n| .sp M Q u=>∃(X:j8) (wq:Wq) (pp:Pst),A4 (J.budget-E.n) n l v x p = .stop wq pp/\M=E.n-pp.n/\Q=wqA X wq/\u=pp.note) (fun q=>lsM q) (.go n p N) ⟨rfl,hp,hn,hR,(by skip;omega),(by skip;omega)⟩ Z ?_)
 rintro q hJ _ _ Z
 rcases q with⟨nn0,p0,N0⟩|⟨p0,N0⟩|⟨N0,Q0,t0⟩
 .dsimp only[lsC,lsB]at hJ Z
  obtain⟨hrun0,hp0,hn0,hR0,hf0,hle0⟩:=hJ;obtain⟨m0,rfl⟩:∃n2,nn0=n2+1:=⟨nn0-1,by omega⟩
  have hN0:N0=E.n-p0.n:=by have:=hR0.n;omega
  refine a7 (a6 [48,0,2,5,11,12,13] [0,5,13,29] Z fun X9 Z=>?_);refine l7 Z rfl (fun Z=>?_);refine f8 (j1 (a7 ?_))
  rcases(P1 0 b J hJ E hE N0 p0 hR0 hp0 hn0 x0).two (k8 _ _ _) hp0 hn0 hR0 with⟨g0,p100,N100,hm100,hs100,hp100,hn100,hR100,hN100,S100⟩|⟨wq100,p100,N100,W100,hm100,hs100,hN100,hW100,S100⟩
  .have hl100:=B7 hm100
   have hg100:=hp0.get hm100;have O1:=S100;refine f7 [0,2,5,11,12,13,16] [0,5,13,16,29] [(2,lc J E (B2 g0) N100 p100)] Z fun X10 Z=>?_
   refine a7 (a6 [59,0,2,5,11,12,13,16] [0,5,13,16,29] Z fun X11 Z=>?_);apply b7 Z rfl<;>intro hb Z
   .have tq0:(g0.has && !decide (g0.x.r.kd=5))=true:=by
     have h9:(if g0.has=true then !decide (g0.x.r.kd=5)else false)=true:=by
      have h8:(if g0.has=true then(g0.x.r.kd != 5)else false)=true:=by subst O;exact hb
      exact h8
     rw[<-h9];cases g0.has<;>rfl
    refine a6 [0,2,5,11,12,13,15] [0,5,13,29] Z fun X12 Z=>?_
    replace Z:=Z.keep [15,0,2,5,11,12,13] [0,5,13,29];exact j9 (⟨.dn p100 N100,⟨by rw[hrun0];simp[B9,Rs.bind,t0,<-hv0,<-hv1,hrun0,B9,hm100,tq0],hp100,hn100,hR100,by have:=hl100;have:=hle0;omega⟩,by simp[lsM],Z⟩)
   have tq0:(g0.has && !decide (g0.x.r.kd=5))=false:=by
    have h9:(if g0.has=true then !decide (g0.x.r.kd=5)else false)=false:=by
     have h8:(if g0.has=true then(g0.x.r.kd != 5)else false)=false:=by subst O;exact hb
     exact h8
    rw[<-h9];cases g0.has<;>rfl
   refine f8 (a7 ?_)
   rcases(P1 0 b J hJ E hE N100 p100 hR100 hp100 hn100 l).two (k8 _ _ _) hp100 hn100 hR100 with⟨h0,p130,N130,hm130,hs130,hp130,hn130,hR130,hN130,S130⟩|⟨wq130,p130,N130,W130,hm130,hs130,hN130,hW130,S130⟩
   .have hl130:=B7 hm130
    have hg130:=hp100.get hm130;have O1:=S130;refine f7 [0,2,5,11,12,13,16,17] [0,5,13,16,17,29] [(2,lc J E (B2 h0) N130 p130)] Z fun X13 Z=>?_
    refine a7 (a6 [72,0,2,5,11,12,13,16] [0,5,13,16,29] Z fun X14 Z=>?_);apply b7 Z rfl<;>intro hb Z
    .have tv0:¬h0.ver=v:=by
      have h9:(h0.ver != v)=true:=by subst O;exact hb
      simpa using h9
     exact i8 ((rgo O a8 Z (v:=()) (q:=p130) (by simp[A4,B9,<-hx0,<-hx1,<-he,Rs.bind,t0,<-hv0,<-hv1,hrun0,B9,hm100,tq0,hm130,tv0]) hN130).1)
    have tv0:h0.ver=v:=by
     have h9:(h0.ver != v)=false:=by subst O;exact hb
     simpa using h9
    refine f8 ?_
    rcases(gR 0 b J hJ E hE N130 p130 hR130 hp130 hn130 x0 g0.ver (hv 0)).two (A5 _ _ _ _ _) hp130 hn130 hR130 with⟨d0,p150,N150,hm150,hs150,hp150,hn150,hR150,hN150,S150⟩|⟨wq150,p150,N150,W150,hm150,hs150,hN150,hW150,S150⟩
    .have O1:=S150
     refine drg O a8 [0,2,5,11,12,13,15] [0,5,13,29] [(8,lc J E (.bool (.v d0)) N150 p150)] Z fun X15 _ _ Z=>?_
     replace Z:=Z.keep [15,0,2,5,11,12,13] [0,5,13,29]
     rcases Bool.eq_false_or_eq_true d0 with hd|hd
     .exact ⟨.dn p150 N150,⟨by rw[hrun0];simp[B9,Rs.bind,hd,t0,<-hv0,<-hv1,hrun0,B9,hm100,tq0,hm130,tv0,hm150],hp150,hn150,hR150,by have:=hl100;have:=hs130.le;have:=hs150.le;have:=hle0;omega⟩,by simp[lsM],Z.headS (v':=.bool .tt) (Sim.bool hd) rfl⟩
     exact⟨.go m0 p150 N150,⟨by rw[hrun0];simp[B9,Rs.bind,hd,t0,<-hv0,<-hv1,hrun0,B9,hm100,tq0,hm130,tv0,hm150],hp150,hn150,hR150,by have:=hl100;have:=hs130.le;have:=hs150.le;have:=hf0;omega,by have:=hl100;have:=hs130.le;have:=hs150.le;have:=hle0;omega⟩,by simp[lsM],Z.headS (v':=.bool .ff) (Sim.bool hd) rfl⟩
    have O1:=S150;refine drg O a8 [0,2,5,11,12,13,15] [0,5,13,29] [(8,sc J E (.bool .ff) N150 W150 p150.note)] Z fun X15 _ _ Z=>?_
    replace Z:=Z.keep [15,0,2,5,11,12,13] [0,5,13,29];exact⟨.sp N150 (W150 (X15 8)) p150.note,⟨(X15 8),wq150,p150,by simp[A4,B9,<-hx0,<-hx1,<-he,Rs.bind,t0,<-hv0,<-hv1,hrun0,B9,hm100,tq0,hm130,tv0,hm150],hN150,(hW150 _),rfl⟩,by simp[lsM],Z⟩
   have O1:=S130;refine f7 [0,2,5,11,12,13,16,17] [0,5,13,16,17,29] [(2,sc J E (.agg [.int .i64 0,.int .u64 0,.bool .ff,.int .i64 0,.sl none none 0 0 2 (fun _=>[]),.int .i64 0,.int .u64 0,.int .u64 0]) N130 W130 p130.note)] Z fun X13 Z=>?_
   refine a7 (a6 [72,0,2,5,11,12,13,16] [0,5,13,16,29] Z fun X14 Z=>?_);refine l7 Z rfl (fun Z=>?_);exact i8 ((rst O a8 Z (q:=p130) (wq:=wq130) (X13 2) (by simp[A4,B9,<-hx0,<-hx1,<-he,Rs.bind,t0,<-hv0,<-hv1,hrun0,B9,hm100,tq0,hm130]) hN130 (hW130 _)).1)
  have O1:=S100;refine f7 [0,2,5,11,12,13,16] [0,5,13,16,29] [(2,sc J E (.agg [.int .i64 0,.int .u64 0,.bool .ff,.int .i64 0,.sl none none 0 0 2 (fun _=>[]),.int .i64 0,.int .u64 0,.int .u64 0]) N100 W100 p100.note)] Z fun X10 Z=>?_
  refine a7 (a6 [59,0,2,5,11,12,13,16] [0,5,13,16,29] Z fun X11 Z=>?_);refine l4 Z rfl (fun Z=>?_);have O1:=jT 0 b J E hE N100 (W100 (X10 2)) p100.note l;refine f8 (i9 [0,2,5,11,12,13,16,17] [0,5,13,16,17,29] [(2,dc J E (.agg [.int .i64 0,.int .u64 0,.bool .ff,.int .i64 0,.sl none none 0 0 2 (fun _=>[]),.int .i64 0,.int .u64 0,.int .u64 0]) N100 (W100 (X10 2)) p100.note)] Z fun X13 Z=>?_);refine a7 (a6 [72,0,2,5,11,12,13,16] [0,5,13,16,29] Z fun X14 Z=>?_);refine l7 Z rfl (fun Z=>?_);exact i8 ((rst O a8 Z (q:=p100) (wq:=wq100) (X10 2) (by simp[A4,B9,<-hx0,<-hx1,<-he,Rs.bind,t0,<-hv0,<-hv1,hrun0,B9,hm100]) hN100 (hW100 _)).1)
 .dsimp only[lsC,lsB]at hJ Z
  obtain⟨hdn0,hp0,hn0,hR0,hle0⟩:=hJ;have hN0:N0=E.n-p0.n:=by have:=hR0.n;omega
  refine a7 (a6 [48,0,2,5,11,12,13] [0,5,13,29] Z fun X9 Z=>?_);refine l4 Z rfl (fun Z=>?_);refine j9 (j5 [12,0,2,5,11] [0,5,29] Z fun X6 Z=>?_);replace Z:=Z.headS (v':=.int .i64 1) (by subst O;exact zr) rfl;refine l5 (a7 (a6 [31,0,2,5,11,12] [0,5,29] Z fun X5 Z=>?_));replace Z:=Z.headS (v':=.bool .tt) (Sim.bool (by subst O;rfl)) rfl;refine l7 Z rfl (fun Z=>?_);have O1:=SC1;refine f8 (a7 (j1 (i9 [0,2,5,11,12,13] [0,5,13,29] [(2,.r fun _=>.tup [.agg [.int .i64 x1.len,.int .u64 x1.bits],.int .i64 y1])] Z fun X7 Z=>?_)));refine a6 [15,0,2,5,11,12,13] [0,5,13,29] Z fun X8 Z=>?_
  refine j1 (l3 (ι:=LSt) (fun q=>[(15,.bool (lsB q))]) (fun q=>[(0,⟨b,147,lsC J E q⟩)]) (fun q=>[]) (fun q=>match q with| .go a r M=>B9 (J.budget-E.n) l v x1 (hv 1).r.abs n p0=B9 (J.budget-E.n) l v x1 (hv 1).r.abs a r/\j3 r/\r.n<=1000000/\Rel E M r/\r.n<a/\r.n<=p.n| .dn r M=>B9 (J.budget-E.n) l v x1 (hv 1).r.abs n p0 = .ok true r/\j3 r/\r.n<=1000000/\Rel E M r/\r.n<=p.n| .sp M Q u=>∃(X:j8) (wq:Wq) (pp:Pst),A4 (J.budget-E.n) n l v x p = .stop wq pp/\M=E.n-pp.n/\Q=wqA X wq/\u=pp.note) (fun q=>lsM q) (.go n p0 N0) ⟨rfl,hp0,hn0,hR0,(by have:=hle0;omega),(by have:=hle0;omega)⟩ Z ?_)
  rintro q hJ _ _ Z
  rcases q with⟨nn1,p1,N1⟩|⟨p1,N1⟩|⟨N1,Q1,t1⟩
  .dsimp only[lsC,lsB]at hJ Z
   obtain⟨hrun1,hp1,hn1,hR1,hf1,hle1⟩:=hJ;obtain⟨m1,rfl⟩:∃n2,nn1=n2+1:=⟨nn1-1,by omega⟩
   have hN1:N1=E.n-p1.n:=by have:=hR1.n;omega
   refine a7 (a6 [48,0,2,5,11,12,13] [0,5,13,29] Z fun X9 Z=>?_);refine l7 Z rfl (fun Z=>?_);refine f8 (j1 (a7 ?_))
   rcases(P1 0 b J hJ E hE N1 p1 hR1 hp1 hn1 x1).two (k8 _ _ _) hp1 hn1 hR1 with⟨g1,p101,N101,hm101,hs101,hp101,hn101,hR101,hN101,S101⟩|⟨wq101,p101,N101,W101,hm101,hs101,hN101,hW101,S101⟩
   .have hl101:=B7 hm101
    have hg101:=hp1.get hm101;have O1:=S101;refine f7 [0,2,5,11,12,13,16] [0,5,13,16,29] [(2,lc J E (B2 g1) N101 p101)] Z fun X10 Z=>?_
    refine a7 (a6 [59,0,2,5,11,12,13,16] [0,5,13,16,29] Z fun X11 Z=>?_);apply b7 Z rfl<;>intro hb Z
    .have tq1:(g1.has && !decide (g1.x.r.kd=5))=true:=by
      have h9:(if g1.has=true then !decide (g1.x.r.kd=5)else false)=true:=by
       have h8:(if g1.has=true then(g1.x.r.kd != 5)else false)=true:=by subst O;exact hb
       exact h8
      rw[<-h9];cases g1.has<;>rfl
     refine a6 [0,2,5,11,12,13,15] [0,5,13,29] Z fun X12 Z=>?_
     replace Z:=Z.keep [15,0,2,5,11,12,13] [0,5,13,29];exact j9 (⟨.dn p101 N101,⟨by rw[hrun1];simp[B9,Rs.bind,t0,<-hv0,<-hv1,hdn0,hrun1,B9,hm101,tq1],hp101,hn101,hR101,by have:=hl101;have:=hle1;omega⟩,by simp[lsM],Z⟩)
    have tq1:(g1.has && !decide (g1.x.r.kd=5))=false:=by
     have h9:(if g1.has=true then !decide (g1.x.r.kd=5)else false)=false:=by
      have h8:(if g1.has=true then(g1.x.r.kd != 5)else false)=false:=by subst O;exact hb
      exact h8
     rw[<-h9];cases g1.has<;>rfl
    refine f8 (a7 ?_)
    rcases(P1 0 b J hJ E hE N101 p101 hR101 hp101 hn101 l).two (k8 _ _ _) hp101 hn101 hR101 with⟨h1,p131,N131,hm131,hs131,hp131,hn131,hR131,hN131,S131⟩|⟨wq131,p131,N131,W131,hm131,hs131,hN131,hW131,S131⟩
    .have hl131:=B7 hm131
     have hg131:=hp101.get hm131;have O1:=S131;refine f7 [0,2,5,11,12,13,16,17] [0,5,13,16,17,29] [(2,lc J E (B2 h1) N131 p131)] Z fun X13 Z=>?_
     refine a7 (a6 [72,0,2,5,11,12,13,16] [0,5,13,16,29] Z fun X14 Z=>?_);apply b7 Z rfl<;>intro hb Z
     .have tv1:¬h1.ver=v:=by
       have h9:(h1.ver != v)=true:=by subst O;exact hb
       simpa using h9
      exact i8 ((rgo O a8 Z (v:=()) (q:=p131) (by simp[A4,B9,<-hx0,<-hx1,<-he,Rs.bind,t0,<-hv0,<-hv1,hdn0,hrun1,B9,hm101,tq1,hm131,tv1]) hN131).1)
     have tv1:h1.ver=v:=by
      have h9:(h1.ver != v)=false:=by subst O;exact hb
      simpa using h9
     refine f8 ?_
     rcases(gR 0 b J hJ E hE N131 p131 hR131 hp131 hn131 x1 g1.ver (hv 1)).two (A5 _ _ _ _ _) hp131 hn131 hR131 with⟨d1,p151,N151,hm151,hs151,hp151,hn151,hR151,hN151,S151⟩|⟨wq151,p151,N151,W151,hm151,hs151,hN151,hW151,S151⟩
     .have O1:=S151
      refine drg O a8 [0,2,5,11,12,13,15] [0,5,13,29] [(8,lc J E (.bool (.v d1)) N151 p151)] Z fun X15 _ _ Z=>?_
      replace Z:=Z.keep [15,0,2,5,11,12,13] [0,5,13,29]
      rcases Bool.eq_false_or_eq_true d1 with hd|hd
      .exact ⟨.dn p151 N151,⟨by rw[hrun1];simp[B9,Rs.bind,hd,t0,<-hv0,<-hv1,hdn0,hrun1,B9,hm101,tq1,hm131,tv1,hm151],hp151,hn151,hR151,by have:=hl101;have:=hs131.le;have:=hs151.le;have:=hle1;omega⟩,by simp[lsM],Z.headS (v':=.bool .tt) (Sim.bool hd) rfl⟩
      exact⟨.go m1 p151 N151,⟨by rw[hrun1];simp[B9,Rs.bind,hd,t0,<-hv0,<-hv1,hdn0,hrun1,B9,hm101,tq1,hm131,tv1,hm151],hp151,hn151,hR151,by have:=hl101;have:=hs131.le;have:=hs151.le;have:=hf1;omega,by have:=hl101;have:=hs131.le;have:=hs151.le;have:=hle1;omega⟩,by simp[lsM],Z.headS (v':=.bool .ff) (Sim.bool hd) rfl⟩
     have O1:=S151;refine drg O a8 [0,2,5,11,12,13,15] [0,5,13,29] [(8,sc J E (.bool .ff) N151 W151 p151.note)] Z fun X15 _ _ Z=>?_
     replace Z:=Z.keep [15,0,2,5,11,12,13] [0,5,13,29];exact⟨.sp N151 (W151 (X15 8)) p151.note,⟨(X15 8),wq151,p151,by simp[A4,B9,<-hx0,<-hx1,<-he,Rs.bind,t0,<-hv0,<-hv1,hdn0,hrun1,B9,hm101,tq1,hm131,tv1,hm151],hN151,(hW151 _),rfl⟩,by simp[lsM],Z⟩
    have O1:=S131;refine f7 [0,2,5,11,12,13,16,17] [0,5,13,16,17,29] [(2,sc J E (.agg [.int .i64 0,.int .u64 0,.bool .ff,.int .i64 0,.sl none none 0 0 2 (fun _=>[]),.int .i64 0,.int .u64 0,.int .u64 0]) N131 W131 p131.note)] Z fun X13 Z=>?_
    refine a7 (a6 [72,0,2,5,11,12,13,16] [0,5,13,16,29] Z fun X14 Z=>?_);refine l7 Z rfl (fun Z=>?_);exact i8 ((rst O a8 Z (q:=p131) (wq:=wq131) (X13 2) (by simp[A4,B9,<-hx0,<-hx1,<-he,Rs.bind,t0,<-hv0,<-hv1,hdn0,hrun1,B9,hm101,tq1,hm131]) hN131 (hW131 _)).1)
   have O1:=S101;refine f7 [0,2,5,11,12,13,16] [0,5,13,16,29] [(2,sc J E (.agg [.int .i64 0,.int .u64 0,.bool .ff,.int .i64 0,.sl none none 0 0 2 (fun _=>[]),.int .i64 0,.int .u64 0,.int .u64 0]) N101 W101 p101.note)] Z fun X10 Z=>?_
   refine a7 (a6 [59,0,2,5,11,12,13,16] [0,5,13,16,29] Z fun X11 Z=>?_);refine l4 Z rfl (fun Z=>?_);have O1:=jT 0 b J E hE N101 (W101 (X10 2)) p101.note l;refine f8 (i9 [0,2,5,11,12,13,16,17] [0,5,13,16,17,29] [(2,dc J E (.agg [.int .i64 0,.int .u64 0,.bool .ff,.int .i64 0,.sl none none 0 0 2 (fun _=>[]),.int .i64 0,.int .u64 0,.int .u64 0]) N101 (W101 (X10 2)) p101.note)] Z fun X13 Z=>?_);refine a7 (a6 [72,0,2,5,11,12,13,16] [0,5,13,16,29] Z fun X14 Z=>?_);refine l7 Z rfl (fun Z=>?_);exact i8 ((rst O a8 Z (q:=p101) (wq:=wq101) (X10 2) (by simp[A4,B9,<-hx0,<-hx1,<-he,Rs.bind,t0,<-hv0,<-hv1,hdn0,hrun1,B9,hm101]) hN101 (hW101 _)).1)
  .dsimp only[lsC,lsB]at hJ Z
   obtain⟨hdn1,hp1,hn1,hR1,hle1⟩:=hJ;have hN1:N1=E.n-p1.n:=by have:=hR1.n;omega
   refine a7 (a6 [48,0,2,5,11,12,13] [0,5,13,29] Z fun X9 Z=>?_);refine l4 Z rfl (fun Z=>?_);refine j9 (j5 [12,0,2,5,11] [0,5,29] Z fun X6 Z=>?_);replace Z:=Z.headS (v':=.int .i64 2) (by subst O;exact zr) rfl;refine l5 (a7 (a6 [31,0,2,5,11,12] [0,5,29] Z fun X5 Z=>?_));replace Z:=Z.headS (v':=.bool .ff) (Sim.bool (by subst O;rfl)) rfl;refine l4 Z rfl (fun Z=>?_);refine j9 ?_
   rcases(wI 0 b J hJ E hE N1 p1 hR1 hp1 hn1 l v).two (A5 _ _ _ _ _) hp1 hn1 hR1 with⟨d2,p16,N16,hm16,hs16,hp16,hn16,hR16,hN16,S16⟩|⟨wq16,p16,N16,W16,hm16,hs16,hN16,hW16,S16⟩
   .have O1:=jS
    have O2:=S16;refine drg O a8 [] [0] [(3,.r fun _=>.agg [.int .i64 2,.sl none none 0 0 2 (fun _=>[]),.int .i64 (-1),.int .u64 0,.int .u64 0]),(4,lc J E (.bool (.v d2)) N16 p16)] Z fun X16 _ _ Z=>?_
    exact(rgo O a8 Z (v:=()) (q:=p16) (by simp[A4,B9,<-hx0,<-hx1,<-he,Rs.bind,t0,<-hv0,<-hv1,hdn0,hdn1,hm16]) hN16).2
   have O1:=jS;have O2:=S16;refine drg O a8 [] [0] [(3,.r fun _=>.agg [.int .i64 2,.sl none none 0 0 2 (fun _=>[]),.int .i64 (-1),.int .u64 0,.int .u64 0]),(4,sc J E (.bool .ff) N16 W16 p16.note)] Z fun X16 _ _ Z=>?_
   exact(rst O a8 Z (q:=p16) (wq:=wq16) (X16 4) (by simp[A4,B9,<-hx0,<-hx1,<-he,Rs.bind,t0,<-hv0,<-hv1,hdn0,hdn1,hm16]) hN16 (hW16 _)).2
  dsimp only[lsC,lsB]at hJ Z;obtain⟨X1,wq1,pp1,hsp1,hN1,hW1,ht1⟩:=hJ;subst ht1;refine a7 (a6 [48,0,2,5,11,12,13] [0,5,13,29] Z fun X9 Z=>?_);refine l4 Z rfl (fun Z=>?_);refine j9 (j5 [12,0,2,5,11] [0,5,29] Z fun X6 Z=>?_);replace Z:=Z.headS (v':=.int .i64 2) (by subst O;exact zr) rfl;refine l5 (a7 (a6 [31,0,2,5,11,12] [0,5,29] Z fun X5 Z=>?_));replace Z:=Z.headS (v':=.bool .ff) (Sim.bool (by subst O;rfl)) rfl;refine l4 Z rfl (fun Z=>?_);have O1:=jS;have O2:=wJ 0 b J E hE N1 Q1 pp1.note l v;refine j9 (drg O a8 [] [0] [(3,.r fun _=>.agg [.int .i64 2,.sl none none 0 0 2 (fun _=>[]),.int .i64 (-1),.int .u64 0,.int .u64 0]),(4,dc J E (.bool .ff) N1 Q1 pp1.note)] Z fun X16 _ _ Z=>?_);exact(rst O a8 Z (q:=pp1) (wq:=wq1) X1 (hsp1) hN1 hW1).2
 dsimp only[lsC,lsB]at hJ Z;obtain⟨X0,wq0,pp0,hsp0,hN0,hW0,ht0⟩:=hJ;subst ht0;refine a7 (a6 [48,0,2,5,11,12,13] [0,5,13,29] Z fun X9 Z=>?_);refine l4 Z rfl (fun Z=>?_);refine j9 (j5 [12,0,2,5,11] [0,5,29] Z fun X6 Z=>?_);replace Z:=Z.headS (v':=.int .i64 1) (by subst O;exact zr) rfl;refine l5 (a7 (a6 [31,0,2,5,11,12] [0,5,29] Z fun X5 Z=>?_));replace Z:=Z.headS (v':=.bool .tt) (Sim.bool (by subst O;rfl)) rfl;refine l7 Z rfl (fun Z=>?_);have O1:=SC1;refine f8 (a7 (j1 (i9 [0,2,5,11,12,13] [0,5,13,29] [(2,.r fun _=>.tup [.agg [.int .i64 x1.len,.int .u64 x1.bits],.int .i64 y1])] Z fun X7 Z=>?_)));refine a6 [15,0,2,5,11,12,13] [0,5,13,29] Z fun X8 Z=>?_
 refine j1 (l3 (ι:=LSt) (fun q=>[(15,.bool (lsB q))]) (fun q=>[(0,⟨b,147,lsC J E q⟩)]) (fun q=>[]) (fun q=>match q with| .sp M Q u=>N0=M/\Q0=Q/\pp0.note=u|_=>False) (fun q=>lsM q) (.sp N0 Q0 pp0.note) ⟨rfl,rfl,rfl⟩ Z ?_)
 rintro q hJ _ _ Z
 rcases q with⟨nn,pp,NN⟩|⟨pp,NN⟩|⟨NN,QQ,tt⟩
 .exact (hJ:False).elim
 .exact (hJ:False).elim
 dsimp only[lsC,lsB]at hJ Z;obtain⟨rfl,rfl,rfl⟩:=hJ;refine a7 (a6 [48,0,2,5,11,12,13] [0,5,13,29] Z fun X9 Z=>?_);refine l4 Z rfl (fun Z=>?_);refine j9 (j5 [12,0,2,5,11] [0,5,29] Z fun X6 Z=>?_);replace Z:=Z.headS (v':=.int .i64 2) (by subst O;exact zr) rfl;refine l5 (a7 (a6 [31,0,2,5,11,12] [0,5,29] Z fun X5 Z=>?_));replace Z:=Z.headS (v':=.bool .ff) (Sim.bool (by subst O;rfl)) rfl;refine l4 Z rfl (fun Z=>?_);have O1:=jS;have O2:=wJ 0 b J E hE N0 Q0 pp0.note l v;refine j9 (drg O a8 [] [0] [(3,.r fun _=>.agg [.int .i64 2,.sl none none 0 0 2 (fun _=>[]),.int .i64 (-1),.int .u64 0,.int .u64 0]),(4,dc J E (.bool .ff) N0 Q0 pp0.note)] Z fun X16 _ _ Z=>?_);exact(rst O a8 Z (q:=pp0) (wq:=wq0) X0 (hsp0) hN0 hW0).2
theorem JD(k0 b:Nat)(J:j4)(hJ:l6 J)(E:s8)(hE:E.n<=1000000)(N:Nat)(p:Pst)(hR:Rel E N p)(hp:j3 p)(hn:p.n<=1000000)(l:Lab)(hl:LOk l)(v:Int)(x:RA)(hx:ay x)(n:Nat)(hf:p.n<n):B5 171 k0 b J E N p [i6 l,.int .u64 v,J7 x] (fun _=>k7) (k7) (A4 (J.budget-E.n) n l v x p):=B5.re (EY b J hJ E hE N p hR hp hn l hl v x hx n hf) (by repeat(first|exact trivial|refine⟨zr,?_⟩))
theorem Fi(b:Nat)(J:j4)(hJ:l6 J)(E:s8)(hE:E.n<=1000000)(N:Nat)(p:Pst)(hR:Rel E N p)(hp:j3 p)(hn:p.n<=1000000)(l:Lab)(hl:LOk l)(v:Int)(n:Nat)(hth:rv n)(hf:p.n<n):B5 172 0 b J E N p [i6 l,.int .u64 v] (fun _=>k7) (k7) (M3 J.bucket (J.budget-E.n) n (J6 J.bucket (J.budget-E.n) n) l v p):=by
 intro m w hm hargs hpre;have hN0:N=E.n-p.n:=by have:=hR.n;omega
 have SC0:=U3 l hl.u 0 (.inl rfl);have SC1:=U3 l hl.u 1 (.inr rfl);have hk0:=hl.ch 0;have hk1:=hl.ch 1;simp only[i6]at SC0 SC1;obtain⟨x0,hx0⟩:=eqv (chV l 0);rw[<-hx0]at SC0 hk0;obtain⟨x1,hx1⟩:=eqv (chV l 1);rw[<-hx1]at SC1 hk1;obtain⟨y0,hy0⟩:=eqv (chE l 0);rw[<-hy0]at SC0;obtain⟨y1,hy1⟩:=eqv (chE l 1);rw[<-hy1]at SC1;refine enX 91 hm hpre hargs Tryz.func172 fun B O a0 Z=>?_
 refine a6 [0,2,4] [0,4] Z fun X0 Z=>?_
 have O1:=SC0;refine i9 [0,2,4,6] [0,4,6] [(1,.r fun _=>.tup [.agg [.int .i64 x0.len,.int .u64 x0.bits],.int .i64 y0])] Z fun X1 Z=>?_
 have O1:=SC1;refine i9 [0,2,4,6,8] [0,4,6,8] [(1,.r fun _=>.tup [.agg [.int .i64 x1.len,.int .u64 x1.bits],.int .i64 y1])] Z fun X2 Z=>?_
 refine a7 ?_
 rcases(BS 0 b J hJ E hE N p hR hp hn l v x0 n (by skip;omega)).two (bj _ _ _ _ _ _) hp hn hR with⟨z0,p3,N3,hm3,hs3,hp3,hn3,hR3,hN3,S3⟩|⟨wq3,p3,N3,W3,hm3,hs3,hN3,hW3,S3⟩
 .have hz0:∀y,z0 = .fr y->ay y:=fun y hy=>gM hp (by rw[hm3,hy])
  have T3:=S3;unfold wE at T3;obtain⟨y0_,hy0_⟩:=eqv (fzR z0);rw[<-hy0_]at T3;obtain⟨i0,hi0⟩:=eqv (fzJ z0);rw[<-hi0]at T3;have O1:=T3;have O2:=S3;refine f7 [0,2,4,6,8,10,11] [0,4,6,8,10] [(4,lc J E (.tup [.agg [.int .i64 y0_.r.kd,.sl none y0_.A y0_.r.n y0_.c 2 (fun i=>itC (y0_.r.f i)),.int .i64 y0_.r.nx.len,.int .u64 y0_.r.nx.bits,.int .u64 y0_.r.mrk],.int .i64 i0]) N3 p3)] Z fun X3 Z=>?_
  refine a7 (a6 [35,0,2,4,6,8,10,11] [0,4,6,8,10] Z fun X4 Z=>?_);apply b7 Z rfl<;>intro hb Z
  .have tz0:z0 = .over:=Mn (by rw[<-hi0];subst O;simpa[std,d4]using hb)
   exact i8 ((rgo O a8 Z (v:=()) (q:=p3) (by simp[M3,<-hx0,<-hx1,Rs.bind,hm3,tz0]) hN3).1)
  have ta0:¬fzJ z0<0:=by
   have:¬i0<0:=by subst O;simpa[std,d4]using hb
   rw[<-hi0];exact this
  refine f8 (a7 (a6 [37,0,2,4,6,8,10] [0,4,6,8,10] Z fun X5 Z=>?_));apply b7 Z rfl<;>intro hb Z
  .have tz0:z0 = .unfit:=Mm (by rw[<-hi0];subst O;simpa[std,d4]using hb)
   refine a7 ?_
   rcases(Cd 0 b J hJ E hE N3 p3 hR3 hp3 hn3 l hl v x0 x1 hx0 hx1 n hth (by skip;have:=hs3.le;omega)).two (cD _ _ (F9 _ _ _) _ _ _) hp3 hn3 hR3 with⟨v6,p6,N6,hm6,hs6,hp6,hn6,hR6,hN6,S6⟩|⟨wq6,p6,N6,W6,hm6,hs6,hN6,hW6,S6⟩
   .have O1:=S6
    refine f7 [] [0] [(5,lc J E (k7) N6 p6)] Z fun X6 Z=>?_
    exact i8 ((rgo O a8 Z (v:=()) (q:=p6) (by simp[M3,<-hx0,<-hx1,Rs.bind,hm3,tz0,hm6]) hN6).1)
   have O1:=S6;refine f7 [] [0] [(5,sc J E (k7) N6 W6 p6.note)] Z fun X6 Z=>?_
   exact i8 ((rst O a8 Z (q:=p6) (wq:=wq6) (X6 5) (by simp[M3,<-hx0,<-hx1,Rs.bind,hm3,tz0,hm6]) hN6 (hW6 _)).1)
  have tz0:z0 = .fr y0_:=by
   rw[hy0_];refine Jz ta0 ?_;have:¬i0=0:=by subst O;simpa[std,d4]using hb
   rw[<-hi0];exact this
  have ty0:=hz0 _ tz0;refine f8 (a7 ?_)
  rcases(BS 0 b J hJ E hE N3 p3 hR3 hp3 hn3 l v x1 n (by skip;have:=hs3.le;omega)).two (bj _ _ _ _ _ _) hp3 hn3 hR3 with⟨z1,p7,N7,hm7,hs7,hp7,hn7,hR7,hN7,S7⟩|⟨wq7,p7,N7,W7,hm7,hs7,hN7,hW7,S7⟩
  .have hz1:∀y,z1 = .fr y->ay y:=fun y hy=>gM hp3 (by rw[hm7,hy])
   have T7:=S7;unfold wE at T7;obtain⟨y1_,hy1_⟩:=eqv (fzR z1);rw[<-hy1_]at T7;obtain⟨i1,hi1⟩:=eqv (fzJ z1);rw[<-hi1]at T7;have O1:=T7;have O2:=S7;refine f7 [0,2,4,6,8,10,12,13] [0,4,6,8,10,12] [(4,lc J E (.tup [.agg [.int .i64 y1_.r.kd,.sl none y1_.A y1_.r.n y1_.c 2 (fun i=>itC (y1_.r.f i)),.int .i64 y1_.r.nx.len,.int .u64 y1_.r.nx.bits,.int .u64 y1_.r.mrk],.int .i64 i1]) N7 p7)] Z fun X7 Z=>?_
   refine a7 (a6 [53,0,2,4,6,8,10,12,13] [0,4,6,8,10,12] Z fun X8 Z=>?_);apply b7 Z rfl<;>intro hb Z
   .have tz1:z1 = .over:=Mn (by rw[<-hi1];subst O;simpa[std,d4]using hb)
    exact i8 ((rgo O a8 Z (v:=()) (q:=p7) (by simp[M3,<-hx0,<-hx1,Rs.bind,hm3,tz0,hm7,tz1]) hN7).1)
   have ta1:¬fzJ z1<0:=by
    have:¬i1<0:=by subst O;simpa[std,d4]using hb
    rw[<-hi1];exact this
   have ty1:ay y1_:=by
    rw[hy1_]
    cases hz:z1 with
    |fr y=>exact hz1 y hz
    |over=>exact zm
    |unfit=>exact zm
   have SU:=JA y0_ y1_ ty0 ty1;obtain⟨r2,hr2⟩:=eqv ((ci y0_ y1_).1.rn);rw[<-hr2]at SU;obtain⟨e2,he2⟩:=eqv ((ci y0_ y1_).2);rw[<-he2]at SU;have ha2:r2.abs=(ci y0_ y1_).1:=by rw[hr2];exact aQ _
   have hl2:r2.abs.items.length=r2.n:=by rw[ha2,hr2];rfl
   have O1:=SU;refine f8 (i9 [0,2,4,6,8,13,14,15] [0,4,6,8,14] [(2,.r fun z=>.tup [.agg [.int .i64 r2.kd,.sl none (z.A 0) r2.n (z.c 0) 2 (fun i=>itC (r2.f i)),.int .i64 r2.nx.len,.int .u64 r2.nx.bits,.int .u64 r2.mrk],.int .i64 e2])] Z fun X9 Z=>?_);refine a7 (a7 (drg O a8 [76,0,2,4,6,8,14] [0,4,6,8,14] [] Z fun X10 _ _ Z=>?_));apply b7 Z rfl<;>intro hb Z
   .have h9:(if(if decide (i1=0)=true then true else !decide (e2=0))=true then true else decide ((r2.n:Int)>J.bucket))=true:=by subst O;exact hb
    have htot:M3 J.bucket (J.budget-E.n) n (J6 J.bucket (J.budget-E.n) n) l v p=bq (J.budget-E.n) (J6 J.bucket (J.budget-E.n) n) l v p7:=by
     by_cases hi:i1=0
     .have hz:=Mm (by rw[<-hi1];exact hi)
      simp[M3,Rs.bind,<-hx0,<-hx1,hm3,tz0,hm7,hz]
     have hz:z1 = .fr y1_:=by rw[hy1_];exact Jz ta1 (by rw[<-hi1];exact hi)
     have tu:¬((ci y0_ y1_).2=0/\(r2.abs.items.length:Int)<=J.bucket):=by
      rw[<-he2,hl2];intro h;simp[hi,h.1]at h9;omega
     simp[M3,Rs.bind,<-hx0,<-hx1,hm3,tz0,hm7,hz,<-ha2,if_neg tu]
    refine a7 ?_
    rcases(Cd 0 b J hJ E hE N7 p7 hR7 hp7 hn7 l hl v x0 x1 hx0 hx1 n hth (by skip;have:=hs3.le;have:=hs7.le;omega)).two (cD _ _ (F9 _ _ _) _ _ _) hp7 hn7 hR7 with⟨v11,p11,N11,hm11,hs11,hp11,hn11,hR11,hN11,S11⟩|⟨wq11,p11,N11,W11,hm11,hs11,hN11,hW11,S11⟩
    .have O1:=S11
     refine f7 [] [0] [(5,lc J E (k7) N11 p11)] Z fun X11 Z=>?_
     exact i8 ((rgo O a8 Z (v:=()) (q:=p11) (by rw[htot,hm11]) hN11).1)
    have O1:=S11;refine f7 [] [0] [(5,sc J E (k7) N11 W11 p11.note)] Z fun X11 Z=>?_
    exact i8 ((rst O a8 Z (q:=p11) (wq:=wq11) (X11 5) (by rw[htot,hm11]) hN11 (hW11 _)).1)
   have h9:(if(if decide (i1=0)=true then true else !decide (e2=0))=true then true else decide ((r2.n:Int)>J.bucket))=false:=by subst O;exact hb
   have hi:¬i1=0:=by intro h;simp[h]at h9
   have tz1:z1 = .fr y1_:=by rw[hy1_];exact Jz ta1 (by rw[<-hi1];exact hi)
   have tu:(ci y0_ y1_).2=0/\(r2.abs.items.length:Int)<=J.bucket:=by
    rw[<-he2,hl2];simp[hi]at h9;exact⟨h9.1,by omega⟩
   refine f8 (a7 ?_)
   rcases(gR 0 b J hJ E hE N7 p7 hR7 hp7 hn7 l v ⟨(X9 2).A 0,(X9 2).c 0,r2⟩).two (A5 _ _ _ _ _) hp7 hn7 hR7 with⟨d5,p12,N12,hm12,hs12,hp12,hn12,hR12,hN12,S12⟩|⟨wq12,p12,N12,W12,hm12,hs12,hN12,hW12,S12⟩
   .have O1:=S12
    refine f7 [87,0,4] [0,4] [(4,lc J E (.bool (.v d5)) N12 p12)] Z fun X12 Z=>?_
    apply b7 Z rfl<;>intro hb Z
    .have t5:d5=true:=by exact hb
     rcases(Ca n 0 b J hJ E hE N12 p12 hR12 hp12 hn12 l hl (by skip;have:=hs3.le;have:=hs7.le;have:=hs12.le;omega)).two (Z1 _ _ _ _) hp12 hn12 hR12 with⟨v13,p13,N13,hm13,hs13,hp13,hn13,hR13,hN13,S13⟩|⟨wq13,p13,N13,W13,hm13,hs13,hN13,hW13,S13⟩
     .have O1:=S13
      refine f7 [] [0] [(2,lc J E (k7) N13 p13)] Z fun X13 Z=>?_
      exact(rgo O a8 Z (v:=()) (q:=p13) (by simp[M3,<-hx0,<-hx1,Rs.bind,hm3,tz0,hm7,<-ha2,tz1,if_pos tu,hm12,t5,hm13]) hN13).2
     have O1:=S13;refine f7 [] [0] [(2,sc J E (k7) N13 W13 p13.note)] Z fun X13 Z=>?_
     exact(rst O a8 Z (q:=p13) (wq:=wq13) (X13 2) (by simp[M3,<-hx0,<-hx1,Rs.bind,hm3,tz0,hm7,<-ha2,tz1,if_pos tu,hm12,t5,hm13]) hN13 (hW13 _)).2
    have t5:d5=false:=by exact hb
    exact f8 ((rgo O a8 Z (v:=()) (q:=p12) (by simp[M3,<-hx0,<-hx1,Rs.bind,hm3,tz0,hm7,<-ha2,tz1,if_pos tu,hm12,t5]) hN12).2)
   have O1:=S12;refine f7 [87,0,4] [0,4] [(4,sc J E (.bool .ff) N12 W12 p12.note)] Z fun X12 Z=>?_
   refine l4 Z rfl (fun Z=>?_);exact f8 ((rst O a8 Z (q:=p12) (wq:=wq12) (X12 4) (by simp[M3,<-hx0,<-hx1,Rs.bind,hm3,tz0,hm7,<-ha2,tz1,if_pos tu,hm12]) hN12 (hW12 _)).2)
  have O1:=S7;refine f7 [0,2,4,6,8,10,12,13] [0,4,6,8,10,12] [(4,sc J E (.tup [.agg [.int .i64 0,.sl none none 0 0 2 (fun _=>[]),.int .i64 0,.int .u64 0,.int .u64 0],.int .i64 (-1)]) N7 W7 p7.note)] Z fun X7 Z=>?_
  refine a7 (a6 [53,0,2,4,6,8,10,12,13] [0,4,6,8,10,12] Z fun X8 Z=>?_);apply b7 Z rfl<;>intro hb Z
  .skip
   exact i8 ((rst O a8 Z (q:=p7) (wq:=wq7) (X7 4) (by simp[M3,<-hx0,<-hx1,Rs.bind,hm3,tz0,hm7]) hN7 (hW7 _)).1)
  exfalso
  have h9:decide ((-1:Int)<0)=false:=by subst O;exact hb
  exact absurd h9 (by decide)
 have O1:=S3;refine f7 [0,2,4,6,8,10,11] [0,4,6,8,10] [(4,sc J E (.tup [.agg [.int .i64 0,.sl none none 0 0 2 (fun _=>[]),.int .i64 0,.int .u64 0,.int .u64 0],.int .i64 (-1)]) N3 W3 p3.note)] Z fun X3 Z=>?_
 refine a7 (a6 [35,0,2,4,6,8,10,11] [0,4,6,8,10] Z fun X4 Z=>?_);apply b7 Z rfl<;>intro hb Z
 .skip
  exact i8 ((rst O a8 Z (q:=p3) (wq:=wq3) (X3 4) (by simp[M3,<-hx0,<-hx1,Rs.bind,hm3]) hN3 (hW3 _)).1)
 exfalso
 have h9:decide ((-1:Int)<0)=false:=by subst O;exact hb
 exact absurd h9 (by decide)
theorem JQ(k0 b:Nat)(J:j4)(hJ:l6 J)(E:s8)(hE:E.n<=1000000)(N:Nat)(p:Pst)(hR:Rel E N p)(hp:j3 p)(hn:p.n<=1000000)(l:Lab)(hl:LOk l)(v:Int)(n:Nat)(hth:rv n)(hf:p.n<n):B5 172 k0 b J E N p [i6 l,.int .u64 v] (fun _=>k7) (k7) (M3 J.bucket (J.budget-E.n) n (J6 J.bucket (J.budget-E.n) n) l v p):=B5.re (Fi b J hJ E hE N p hR hp hn l hl v n hth hf) (by repeat(first|exact trivial|refine⟨zr,?_⟩))
theorem Fs(b:Nat)(J:j4)(hJ:l6 J)(E:s8)(hE:E.n<=1000000)(N:Nat)(p:Pst)(hR:Rel E N p)(hp:j3 p)(hn:p.n<=1000000)(l:Lab)(hl:LOk l)(g:s9)(hg:ew g)(hgh:g.has=true)(n:Nat)(hth:rv n)(hf:p.n<n):B5 120 0 b J E N p [i6 l,B2 g] (fun _=>k7) (k7) (aJ J.bucket (J.budget-E.n) n l g p):=by
 intro m w hm hargs hpre;have hN0:N=E.n-p.n:=by have:=hR.n;omega
 refine enX 25 hm hpre hargs Tryz.func120 fun B O a0 Z=>?_
 refine a6 [0,4,5] [0,4,5] Z fun X0 Z=>?_
 refine a6 [9,0,4,5] [0,4,5] Z fun X1 Z=>?_
 apply b7 Z rfl<;>intro hb Z
 .have t1:gk g 3=true:=by
   have h:decide (g.x.r.kd=3)=true:=by subst O;exact hb
   unfold gk;rw[hgh,h];rfl
  rcases(JD 0 b J hJ E hE N p hR hp hn l hl g.ver g.x hg.ra n hf).two (jL _ _ _ _ _ _) hp hn hR with⟨v2,p2,N2,hm2,hs2,hp2,hn2,hR2,hN2,S2⟩|⟨wq2,p2,N2,W2,hm2,hs2,hN2,hW2,S2⟩
  .have O1:=S2
   refine f7 [] [0] [(6,lc J E (k7) N2 p2)] Z fun X2 Z=>?_
   exact(rgo O a8 Z (v:=()) (q:=p2) (by simp[aJ,eA,Rs.bind,t1,hm2]) hN2).2
  have O1:=S2;refine f7 [] [0] [(6,sc J E (k7) N2 W2 p2.note)] Z fun X2 Z=>?_
  exact(rst O a8 Z (q:=p2) (wq:=wq2) (X2 6) (by simp[aJ,eA,Rs.bind,t1,hm2]) hN2 (hW2 _)).2
 have t1:gk g 3=false:=by
  have h:decide (g.x.r.kd=3)=false:=by subst O;exact hb
  unfold gk;rw[hgh,h];rfl
 refine a6 [19,0,4,5] [0,4,5] Z fun X3 Z=>?_
 apply b7 Z rfl<;>intro hb Z
 .have t2:l.len<64:=by subst O;simpa[std,d4]using hb
  rcases(JQ 0 b J hJ E hE N p hR hp hn l hl g.ver n hth hf).two (qD _ _ _ _ (F9 _ _ _) _ _ _) hp hn hR with⟨v4,p4,N4,hm4,hs4,hp4,hn4,hR4,hN4,S4⟩|⟨wq4,p4,N4,W4,hm4,hs4,hN4,hW4,S4⟩
  .have O1:=S4
   refine f7 [] [0] [(4,lc J E (k7) N4 p4)] Z fun X4 Z=>?_
   exact(rgo O a8 Z (v:=()) (q:=p4) (by simp[aJ,eA,Rs.bind,t1,t2,hm4]) hN4).2
  have O1:=S4;refine f7 [] [0] [(4,sc J E (k7) N4 W4 p4.note)] Z fun X4 Z=>?_
  exact(rst O a8 Z (q:=p4) (wq:=wq4) (X4 4) (by simp[aJ,eA,Rs.bind,t1,t2,hm4]) hN4 (hW4 _)).2
 have t2:¬l.len<64:=by subst O;simpa[std,d4]using hb
 exact f8 ((rgo O a8 Z (v:=()) (q:=p) (by simp[aJ,eA,Rs.bind,t1,t2]) hN0).2)
theorem Ka(k0 b:Nat)(J:j4)(hJ:l6 J)(E:s8)(hE:E.n<=1000000)(N:Nat)(p:Pst)(hR:Rel E N p)(hp:j3 p)(hn:p.n<=1000000)(l:Lab)(hl:LOk l)(g:s9)(hg:ew g)(hgh:g.has=true)(n:Nat)(hth:rv n)(hf:p.n<n):B5 120 k0 b J E N p [i6 l,B2 g] (fun _=>k7) (k7) (aJ J.bucket (J.budget-E.n) n l g p):=B5.re (Fs b J hJ E hE N p hR hp hn l hl g hg hgh n hth hf) (by repeat(first|exact trivial|refine⟨zr,?_⟩))
theorem EW(b:Nat)(J:j4)(hJ:l6 J)(E:s8)(hE:E.n<=1000000)(N:Nat)(p:Pst)(hR:Rel E N p)(hp:j3 p)(hn:p.n<=1000000)(l:Lab)(hl:LOk l)(n:Nat)(hfin:∀j,j<n->xh j)(hf:p.n<n):B5 218 0 b J E N p [i6 l] (fun _=>k7) (k7) (J6 J.bucket (J.budget-E.n) n l p):=by
 intro m w hm hargs hpre;have hN0:N=E.n-p.n:=by have:=hR.n;omega
 have SP:=tQ l hl.u;have hpar:=hl.par;simp only[i6]at SP;obtain⟨up,hup⟩:=eqv (Q5 l);rw[<-hup]at SP hpar;obtain⟨ue,hue⟩:=eqv (R4 l);rw[<-hue]at SP;refine enX 66 hm hpre hargs Tryz.func218 fun B O a0 Z=>?_
 refine a6 [0,3] [0,3] Z fun X0 Z=>?_
 have O1:=SP;refine i9 [0,3,4,5] [0,3,4] [(1,.r fun _=>.tup [.agg [.int .i64 up.len,.int .u64 up.bits],.int .i64 ue])] Z fun X1 Z=>?_
 refine a7 (a6 [14,0,3,4] [0,3,4] Z fun X2 Z=>?_);apply b7 Z rfl<;>intro hb Z
 .have t0:¬ue=0:=by subst O;simpa[std,d4]using hb
  exact i8 ((rgo O a8 Z (v:=()) (q:=p) (by simp[J6,<-hup,<-hue,Rs.bind,t0]) hN0).1)
 have t0:ue=0:=by subst O;simpa[std,d4]using hb
 refine f8 (j1 (l3 (ι:=LSt) (fun q=>[]) (fun q=>[(0,⟨b,147,lsC J E q⟩)]) (fun q=>[]) (fun q=>match q with| .go a r M=>dy J.bucket (J.budget-E.n) n l up p=dy J.bucket (J.budget-E.n) a l up r/\j3 r/\r.n<=1000000/\Rel E M r/\r.n<a/\r.n<=p.n/\a<=n| .dn r M=>False| .sp M Q u=>∃(X:j8) (wq:Wq) (pp:Pst),J6 J.bucket (J.budget-E.n) n l p = .stop wq pp/\M=E.n-pp.n/\Q=wqA X wq/\u=pp.note) (fun q=>lsM q) (.go n p N) ⟨rfl,hp,hn,hR,(by skip;omega),(by skip;omega),Nat.le_refl _⟩ Z ?_))
 rintro q hJ _ _ Z
 rcases q with⟨nn0,p0,N0⟩|⟨p9,N9⟩|⟨N0,Q0,t0⟩
 .dsimp only[lsC,lsB]at hJ Z
  obtain⟨hrun0,hp0,hn0,hR0,hf0,hle0,hnn0⟩:=hJ;obtain⟨m0,rfl⟩:∃n2,nn0=n2+1:=⟨nn0-1,by omega⟩
  have hN0:N0=E.n-p0.n:=by have:=hR0.n;omega
  refine a7 (a6 [19,0,3,4] [0,3,4] Z fun X3 Z=>?_);refine l7 Z rfl (fun Z=>?_);refine f8 (j1 (a7 ?_))
  rcases(P1 0 b J hJ E hE N0 p0 hR0 hp0 hn0 l).two (k8 _ _ _) hp0 hn0 hR0 with⟨g3,p4,N4,hm4,hs4,hp4,hn4,hR4,hN4,S4⟩|⟨wq4,p4,N4,W4,hm4,hs4,hN4,hW4,S4⟩
  .have hl4:=B7 hm4
   have hg4:=hp0.get hm4;have O1:=S4;refine f7 [0,3,4,6] [0,3,4,6] [(2,lc J E (B2 g3) N4 p4)] Z fun X4 Z=>?_
   obtain⟨q4,hq4⟩:=eqv (gk g3 5);refine a7 (a7 ?_);refine f7 [31,0,3,4,6] [0,3,4,6] [(6,.r fun _=>.bool (.v q4))] Z (hob:=by intro X;subst O;simp only[i7,Ob.holds,BE.den]<;>and_intros<;>repeat first|trivial|rfl|exact(by rw[hq4];exact D6 g3 5)|exact by rw[hq4];exact D6 g3 5|exact(fun _ _=>by kernel_rfl)|refine⟨?_,?_⟩|intro h|exact Int.le_refl _|decide|omega) fun X5 Z=>?_
   apply b7 Z rfl<;>intro hb Z
   .have tq4:gk g3 5=false:=by subst O;rw[<-hq4];revert hb;cases q4<;>simp[std]
    exact i8 ((rgo O a8 Z (v:=()) (q:=p4) (by simp[J6,<-hup,<-hue,Rs.bind,t0,hrun0,A8,hm4,tq4]) hN4).1)
   have tq4:gk g3 5=true:=by subst O;rw[<-hq4];revert hb;cases q4<;>simp[std]
   refine f8 (a7 ?_)
   rcases(P1 0 b J hJ E hE N4 p4 hR4 hp4 hn4 up).two (k8 _ _ _) hp4 hn4 hR4 with⟨g5,p6,N6,hm6,hs6,hp6,hn6,hR6,hN6,S6⟩|⟨wq6,p6,N6,W6,hm6,hs6,hN6,hW6,S6⟩
   .have hl6:=B7 hm6
    have hg6:=hp4.get hm6;have O1:=S6;refine f7 [0,3,4,6,7] [0,3,4,6,7] [(2,lc J E (B2 g5) N6 p6)] Z fun X6 Z=>?_
    refine a7 (a6 [38,0,3,4,6,7] [0,3,4,6,7] Z fun X7 Z=>?_);refine l4 Z rfl (fun Z=>?_);obtain⟨q6,hq6⟩:=eqv (gk g5 3);obtain⟨r6,hr6⟩:=eqv (gk g5 4);refine f8 (a7 (a7 ?_));refine f7 [44,0,3,4,6,7] [0,3,4,6,7] [(1,.r fun _=>.bool (.v q6)),(4,.r fun _=>.bool (.v r6))] Z (hob:=by intro X;subst O;simp only[i7,Ob.holds,BE.den]<;>and_intros<;>repeat first|trivial|rfl|exact(by rw[hq6];exact D6 g5 3)|exact by rw[hq6];exact D6 g5 3|exact(by rw[hr6];exact D6 g5 4)|exact by rw[hr6];exact D6 g5 4|exact(fun _ _=>by kernel_rfl)|refine⟨?_,?_⟩|intro h|exact Int.le_refl _|decide|omega) fun X8 Z=>?_
    apply b7 Z rfl<;>intro hb Z
    .have tq6:(gk g5 3||gk g5 4)=true:=by
      have h9:(if q6=true then true else r6)=true:=by subst O;exact hb
      rw[<-hq6,<-hr6,<-h9];cases q6<;>rfl
     have hgh:g5.has=true:=by
      unfold gk at tq6;revert tq6;cases g5.has<;>simp
     have tn2:gk g5 2=false:=by
      unfold gk at tq6 ⊢;revert tq6;cases g5.has<;>simp<;>omega
     refine a7 ?_
     rcases(hfin m0 (by omega) 0 b J hJ E hE N6 p6 hR6 hp6 hn6 up hpar g5 hg6 hgh (by have:=hl4;have:=hl6;omega)).two (R8 _ _ _ _ _ _) hp6 hn6 hR6 with⟨v9,p9,N9,hm9,hs9,hp9,hn9,hR9,hN9,S9⟩|⟨wq9,p9,N9,W9,hm9,hs9,hN9,hW9,S9⟩
     .have O1:=S9
      refine f7 [] [0] [(3,lc J E (k7) N9 p9)] Z fun X9 Z=>?_
      exact i8 ((rgo O a8 Z (v:=()) (q:=p9) (by simp[J6,<-hup,<-hue,Rs.bind,t0,hrun0,A8,hm4,tq4,hm6,tq6,tn2,hm9]) hN9).1)
     have O1:=S9;refine f7 [] [0] [(3,sc J E (k7) N9 W9 p9.note)] Z fun X9 Z=>?_
     exact i8 ((rst O a8 Z (q:=p9) (wq:=wq9) (X9 3) (by simp[J6,<-hup,<-hue,Rs.bind,t0,hrun0,A8,hm4,tq4,hm6,tq6,tn2,hm9]) hN9 (hW9 _)).1)
    have tq6:(gk g5 3||gk g5 4)=false:=by
     have h9:(if q6=true then true else r6)=false:=by subst O;exact hb
     rw[<-hq6,<-hr6,<-h9];cases q6<;>rfl
    refine f8 (a7 ?_)
    rcases Bool.eq_false_or_eq_true (gk g5 2)with t8|t8
    .rcases (gR 0 b J hJ E hE N6 p6 hR6 hp6 hn6 l g3.ver (asR 1 g3.x 0)).two (A5 _ _ _ _ _) hp6 hn6 hR6 with⟨d8,p10,N10,hm10,hs10,hp10,hn10,hR10,hN10,S10⟩|⟨wq10,p10,N10,W10,hm10,hs10,hN10,hW10,S10⟩
     .refine f7 [65,0,3,4] [0,3,4] [(1,.r fun _=>.bool .tt),(15,lc J E (.bool (.v d8)) N10 p10)] Z (hob:=by intro X;subst O;simp only[i7,Ob.holds,BE.den]<;>and_intros<;>repeat first|trivial|rfl|exact((D6 g5 2).res fun _=>Sim.bool (by rw[t8];rfl))|exact S10|exact(fun _ _=>by kernel_rfl)|refine⟨?_,?_⟩|intro h|exact Int.le_refl _|decide|omega) fun X10 Z=>?_
      apply b7 Z rfl<;>intro hb Z
      .have t9:d8=true:=by exact hb
       exact i8 ((rgo O a8 Z (v:=()) (q:=p10) (by simp[J6,<-hup,<-hue,Rs.bind,t0,hrun0,A8,hm4,tq4,hm6,tq6,t8,hm10,t9]) hN10).1)
      have t9:d8=false:=by exact hb
      replace Z:=Z.keep [0,3,4] [0,3,4];exact f8 (⟨.go m0 p10 N10,⟨by rw[hrun0];simp[A8,Rs.bind,t0,hrun0,A8,hm4,tq4,hm6,tq6,t8,hm10,t9],hp10,hn10,hR10,by have:=hl4;have:=hs6.le;have:=hs10.le;have:=hf0;omega,by have:=hl4;have:=hs6.le;have:=hs10.le;have:=hle0;omega,by omega⟩,by simp[lsM],Z⟩)
     refine f7 [65,0,3,4] [0,3,4] [(1,.r fun _=>.bool .tt),(15,sc J E (.bool .ff) N10 W10 p10.note)] Z (hob:=by intro X;subst O;simp only[i7,Ob.holds,BE.den]<;>and_intros<;>repeat first|trivial|rfl|exact((D6 g5 2).res fun _=>Sim.bool (by rw[t8];rfl))|exact S10|exact(fun _ _=>by kernel_rfl)|refine⟨?_,?_⟩|intro h|exact Int.le_refl _|decide|omega) fun X10 Z=>?_
     refine l4 Z rfl (fun Z=>?_);replace Z:=Z.keep [0,3,4] [0,3,4];exact f8 (⟨.sp N10 (W10 (X10 15)) p10.note,⟨(X10 15),wq10,p10,by simp[J6,<-hup,<-hue,Rs.bind,t0,hrun0,A8,hm4,tq4,hm6,tq6,t8,hm10],hN10,(hW10 _),rfl⟩,by simp[lsM],Z⟩)
    refine f7 [65,0,3,4] [0,3,4] [(1,.r fun _=>.bool .ff)] Z (hob:=by intro X;subst O;simp only[i7,Ob.holds,BE.den]<;>and_intros<;>repeat first|trivial|rfl|exact((D6 g5 2).res fun _=>Sim.bool (by rw[t8];rfl))|exact(fun _ _=>by kernel_rfl)|refine⟨?_,?_⟩|intro h|exact Int.le_refl _|decide|omega) fun X10 Z=>?_
    refine l7 Z rfl (fun Z=>?_);exact i8 ((rgo O a8 Z (v:=()) (q:=p6) (by simp[J6,<-hup,<-hue,Rs.bind,t0,hrun0,A8,hm4,tq4,hm6,tq6,t8]) hN6).1)
   have O1:=S6;refine f7 [0,3,4,6,7] [0,3,4,6,7] [(2,sc J E (.agg [.int .i64 0,.int .u64 0,.bool .ff,.int .i64 0,.sl none none 0 0 2 (fun _=>[]),.int .i64 0,.int .u64 0,.int .u64 0]) N6 W6 p6.note)] Z fun X6 Z=>?_
   refine a7 (a6 [38,0,3,4,6,7] [0,3,4,6,7] Z fun X7 Z=>?_);refine l7 Z rfl (fun Z=>?_);exact i8 ((rst O a8 Z (q:=p6) (wq:=wq6) (X6 2) (by simp[J6,<-hup,<-hue,Rs.bind,t0,hrun0,A8,hm4,tq4,hm6]) hN6 (hW6 _)).1)
  have O1:=S4;refine f7 [0,3,4,6] [0,3,4,6] [(2,sc J E (.agg [.int .i64 0,.int .u64 0,.bool .ff,.int .i64 0,.sl none none 0 0 2 (fun _=>[]),.int .i64 0,.int .u64 0,.int .u64 0]) N4 W4 p4.note)] Z fun X4 Z=>?_
  refine a7 (a6 [31,0,3,4,6] [0,3,4,6] Z fun X5 Z=>?_);refine l7 Z rfl (fun Z=>?_);exact i8 ((rst O a8 Z (q:=p4) (wq:=wq4) (X4 2) (by simp[J6,<-hup,<-hue,Rs.bind,t0,hrun0,A8,hm4]) hN4 (hW4 _)).1)
 .exact (hJ:False).elim
 dsimp only[lsC,lsB]at hJ Z;obtain⟨X0,wq0,pp0,hsp0,hN0,hW0,ht0⟩:=hJ;subst ht0;refine a7 (a6 [19,0,3,4] [0,3,4] Z fun X3 Z=>?_);refine l4 Z rfl (fun Z=>?_);exact j9 ((rst O a8 Z (q:=pp0) (wq:=wq0) X0 (hsp0) hN0 hW0).2)
theorem JB(k0 b:Nat)(J:j4)(hJ:l6 J)(E:s8)(hE:E.n<=1000000)(N:Nat)(p:Pst)(hR:Rel E N p)(hp:j3 p)(hn:p.n<=1000000)(l:Lab)(hl:LOk l)(n:Nat)(hfin:∀j,j<n->xh j)(hf:p.n<n):B5 218 k0 b J E N p [i6 l] (fun _=>k7) (k7) (J6 J.bucket (J.budget-E.n) n l p):=B5.re (EW b J hJ E hE N p hR hp hn l hl n hfin hf) (by repeat(first|exact trivial|refine⟨zr,?_⟩))
theorem wF:∀n,rv n/\xh n:=by
 intro n
 induction n using Nat.strongRecOn with
 |_ n ih=>
  have h1:rv n:=fun k0 b J hJ E hE N p hR hp hn l hl hf=>JB k0 b J hJ E hE N p hR hp hn l hl n (fun j hj=>(ih j hj).2) hf
  exact⟨h1,fun k0 b J hJ E hE N p hR hp hn l hl g hg hgh hf=>Ka k0 b J hJ E hE N p hR hp hn l hl g hg hgh n h1 hf⟩
theorem BL(n:Nat):rv n:=(wF n).1
theorem BT(n:Nat):xh n:=(wF n).2
theorem wR(v lo hi:Int):k9 Tryz.prog 140 [.int .i64 v,.int .i64 lo,.int .i64 hi] (fun _=>.bool (.v (btw v lo hi))):=by
 intro m w hm hargs;refine en 15 hm hargs Tryz.func140 fun B O a0 Z=>?_
 refine a6 [0,1,2] [] Z fun X0 Z=>?_
 refine a6 [6] [] Z fun X1 Z=>?_
 refine z7 Z ?_;subst O;refine Sim.bool ?_
 show(if decide (lo<=v)=true then decide (v<=hi)else false)=_
 rw[C0];rfl
theorem Mc(J:j4)(hl:U64 J.lab.bits):k9 Tryz.prog 85 [Z6 J] (fun _=>.bool (.v (F8 J))):=by
 intro m w hm hargs;have S1:=wR J.bucket 1 16;have S2:=wR J.budget 0 2000;have S3:=wR J.how 1 2;have S4:=wR J.most 0 500;have SL:=fZ J.lab hl;simp only[i6]at SL;obtain⟨q1,hq1⟩:=eqv (btw J.bucket 1 16);rw[<-hq1]at S1;obtain⟨q2,hq2⟩:=eqv (btw J.budget 0 2000);rw[<-hq2]at S2;obtain⟨q3,hq3⟩:=eqv (btw J.how 1 2);rw[<-hq3]at S3;obtain⟨q4,hq4⟩:=eqv (btw J.most 0 500);rw[<-hq4]at S4;obtain⟨ql,hql⟩:=eqv (isL J.lab);rw[<-hql]at SL;refine en 37 hm hargs Tryz.func85 fun B O a0 Z=>?_
 refine a6 [1] [1] Z fun X0 Z=>?_
 refine a6 [1,3] [1] Z fun X1 Z=>?_
 refine a7 ?_;refine f7 [2] [] [(3,.r fun _=>.bool (.v q1)),(8,.r fun _=>.bool (.v q2)),(14,.r fun _=>.bool (.v q3)),(20,.r fun _=>.bool (.v q4)),(31,.r fun _=>.bool (.v ql))] Z (hob:=by intro X;subst O;simp only[i7,Ob.holds,BE.den]<;>and_intros<;>repeat first|trivial|rfl|exact S1|exact S2|exact S3|exact S4|exact SL|exact(fun _ _=>by kernel_rfl)|refine⟨?_,?_⟩|intro h|exact Int.le_refl _|decide|omega) fun X2 Z=>?_
 refine z7 Z ?_;subst O;refine Sim.bool ?_
 show(if(if(if(if(if q1=true then q2 else false)=true then q3 else false)=true then q4 else false)=true then decide ((J.pn:Int)<=500)else false)=true then ql else false)=_
 simp only[C0];unfold F8;rw[<-hq1,<-hq2,<-hq3,<-hq4,<-hql];rfl
theorem JW(J:j4)(hl:U64 J.lab.bits):k9 Tryz.prog 92 [Z6 J] (fun _=>.bool (.v (F8 J))):=by
 intro m w hm hargs;have SL:=gn J.lab hl;simp only[i6]at SL;obtain⟨ql,hql⟩:=eqv (isL J.lab);rw[<-hql]at SL;refine en 52 hm hargs Tryz.func92 fun B O a0 Z=>?_
 refine a6 [1] [1] Z fun X0 Z=>?_
 have O1:=SL;refine i9 [2] [] [(47,.r fun _=>.bool (.v ql))] Z fun X1 Z=>?_
 refine z7 Z ?_;subst O;refine Sim.bool ?_
 show(if(if(if(if(if(if(if(if decide (J.bucket ≥ 1)=true then decide (J.bucket<=16)else false)=true then decide (J.budget ≥ 0)else false)=true then decide (J.budget<=2000)else false)=true then(if(J.how==1)=true then true else(J.how==2))else false)=true then decide (J.most ≥ 0)else false)=true then decide (J.most<=500)else false)=true then decide ((J.pn:Int)<=500)else false)=true then ql else false)=F8 J
 simp only[C0,V1];unfold F8 btw;rw[<-hql,Bool.eq_iff_iff]
 cases ql
 .simp
 simp only[Bool.and_eq_true,Bool.or_eq_true,decide_eq_true_eq,beq_iff_eq,and_true];omega
theorem Md(g:s9)(hg:InG g):k9 Tryz.prog 84 [B2 g] (fun _=>.bool (.v (F4 g))):=by
 intro m w hm hargs;have SR:=mH g.x.A g.x.r.n g.x.c g.x.r.f hg.len g.x.r.kd g.x.r.nx g.x.r.mrk hg.nx;unfold R3 s4 at SR;obtain⟨ir,hir⟩:=eqv (R6 g.x.r.kd g.x.r.n g.x.r.f g.x.r.nx g.x.r.mrk);rw[<-hir]at SR;refine en 41 hm hargs Tryz.func84 fun B O a0 Z=>?_
 refine a6 [1] [1] Z fun X0 Z=>?_
 refine a7 (j1 (a6 [4,1] [1] Z fun X1 Z=>?_));apply b7 Z rfl<;>intro hb Z
 .have hc:(decide (g.code=0)||decide (g.code=8))=false:=by
   have h9:(if(g.code != 0)=true then(g.code != 8)else false)=true:=by subst O;exact hb
   rw[C0]at h9
   by_cases h1:g.code=0<;>by_cases h2:g.code=8<;>simp[h1,h2]at h9 ⊢
  refine a6 [2] [] Z fun X2 Z=>?_
  refine z7 Z ?_;subst O;refine Sim.bool ?_
  show false=_
  unfold F4;rw[hc];rfl
 have hc:(decide (g.code=0)||decide (g.code=8))=true:=by
  have h9:(if(g.code != 0)=true then(g.code != 8)else false)=false:=by subst O;exact hb
  rw[C0]at h9
  by_cases h1:g.code=0<;>by_cases h2:g.code=8<;>simp[h1,h2]at h9 ⊢
 refine a6 [13,1] [1] Z fun X3 Z=>?_
 apply b7 Z rfl<;>intro hb Z
 .have hh:g.has=true:=hb
  have O1:=SR;refine i9 [2] [] [(2,.r fun _=>.bool (.v ir))] Z fun X4 Z=>?_
  refine z7 Z ?_;subst O;refine Sim.bool ?_
  show ir=_
  unfold F4;rw[hc,if_pos hh,<-hir];rfl
 have hh:¬g.has=true:=by rw[Bool.not_eq_true];exact hb
 refine f8 (a6 [3] [3] Z fun X5 Z=>?_);refine a7 ?_;refine j5 [2] [] Z fun X6 Z=>?_
 refine z7 Z ?_;subst O;refine Sim.bool ?_
 show(if(if(if(g.x.r.kd==0)=true then(((g.x.r.n:Nat):Int)==0)else false)=true then eqL [.int .i64 g.x.r.nx.len,.int .u64 g.x.r.nx.bits] [.int .i64 0,.int .u64 0]else false)=true then(g.x.r.mrk==0)else false)=_
 rw[cF g.x.r.nx ⟨0,0⟩];simp only[C0];have hn0:(((g.x.r.n:Nat):Int)==0)=decide (g.x.r.n=0):=by
  rw[Bool.eq_iff_iff,beq_iff_eq,decide_eq_true_eq];omega
 unfold F4;rw[hc,if_neg hh,hn0];rfl
theorem JX(g:s9)(hg:InG g):k9 Tryz.prog 91 [B2 g] (fun _=>.bool (.v (F4 g))):=by
 intro m w hm hargs;have SR:=qb g.x.A g.x.r.n g.x.c g.x.r.f hg.len g.x.r.kd g.x.r.nx g.x.r.mrk hg.nx;unfold R3 s4 at SR;obtain⟨ir,hir⟩:=eqv (R6 g.x.r.kd g.x.r.n g.x.r.f g.x.r.nx g.x.r.mrk);rw[<-hir]at SR;have SS0:=zL g.x.A g.x.r.n g.x.c g.x.r.f hg.len g.x.r.kd g.x.r.nx g.x.r.mrk none 0 0 (fun _=>s7) 0 ⟨0,0⟩ 0;unfold R3 s4 at SS0;have SS:k9 Tryz.prog 46 [J7 g.x,.agg [.int .i64 0,.sl none none 0 0 2 (fun _=>[]),.int .i64 0,.int .u64 0,.int .u64 0]] (fun _=>.bool (.v (eM g.x.r.kd g.x.r.n g.x.r.f g.x.r.nx g.x.r.mrk 0 0 (fun _=>s7) ⟨0,0⟩ 0))):=SS0.sim ⟨zr,Sim.agg ⟨zr,U1,zr,zr,zr,trivial⟩,trivial⟩;obtain⟨sr,hsr⟩:=eqv (eM g.x.r.kd g.x.r.n g.x.r.f g.x.r.nx g.x.r.mrk 0 0 (fun _=>s7) ⟨0,0⟩ 0);rw[<-hsr]at SS;refine en 20 hm hargs Tryz.func91 fun B O a0 Z=>?_
 refine a6 [1] [1] Z fun X0 Z=>?_
 refine a7 (a6 [10,1] [1] Z fun X1 Z=>?_);apply b7 Z rfl<;>intro hb Z
 .have hc:(decide (g.code=0)||decide (g.code=8))=false:=by
   have h9:(if(g.code != 0)=true then(g.code != 8)else false)=true:=by subst O;exact hb
   rw[C0]at h9
   by_cases h1:g.code=0<;>by_cases h2:g.code=8<;>simp[h1,h2]at h9 ⊢
  refine a6 [2] [] Z fun X2 Z=>?_
  refine z7 Z ?_;subst O;refine Sim.bool ?_
  show false=_
  unfold F4;rw[hc];rfl
 have hc:(decide (g.code=0)||decide (g.code=8))=true:=by
  have h9:(if(g.code != 0)=true then(g.code != 8)else false)=false:=by subst O;exact hb
  rw[C0]at h9
  by_cases h1:g.code=0<;>by_cases h2:g.code=8<;>simp[h1,h2]at h9 ⊢
 refine f8 (a7 (a6 [12,1] [1] Z fun X3 Z=>?_));apply b7 Z rfl<;>intro hb Z
 .have hh:g.has=true:=hb
  have O1:=SR;refine i9 [2] [] [(2,.r fun _=>.bool (.v ir))] Z fun X4 Z=>?_
  refine z7 Z ?_;subst O;refine Sim.bool ?_
  show ir=_
  unfold F4;rw[hc,if_pos hh,<-hir];rfl
 have hh:¬g.has=true:=by rw[Bool.not_eq_true];exact hb
 have O1:=SS;refine f8 (i9 [2] [] [(3,.r fun _=>.bool (.v sr))] Z fun X5 Z=>?_);refine z7 Z ?_;subst O;refine Sim.bool ?_
 show sr=_
 have hs:eM g.x.r.kd g.x.r.n g.x.r.f g.x.r.nx g.x.r.mrk 0 0 (fun _=>s7) ⟨0,0⟩ 0=(decide (g.x.r.kd=0)&&decide (g.x.r.n=0)&&decide (g.x.r.nx=⟨0,0⟩)&&decide (g.x.r.mrk=0)):=by
  unfold eM ef
  by_cases hn0:g.x.r.n=0
  .simp [hn0]
  simp[hn0]
 rw[hsr,hs];unfold F4;rw[hc,if_neg hh];rfl
theorem LT(g:s9)(hg:InG g):k9 Tryz.prog 83 [B2 g] (fun _=>.bool (.v (!F4 g))):=by
 intro m w hm hargs;have S:=Md g hg;obtain⟨q,hq⟩:=eqv (F4 g);rw[<-hq]at S ⊢;refine en 6 hm hargs Tryz.func83 fun B O a0 Z=>?_
 refine a6 [1] [1] Z fun X0 Z=>?_
 have O1:=S;refine i9 [2] [] [(1,.r fun _=>.bool (.v q))] Z fun X1 Z=>?_
 refine z7 Z ?_;subst O;exact zr
theorem Mb(A:Option Addr)(n c:Nat)(f:Nat->s9)(hin:∀j,j<n->InG (f j)):k9 Tryz.prog 142 [ej A n c f,.fn 83 [] []] (fun x=>.int .i64 (if J9 n f=true then -1 else(x.b:Int))):=by
 intro m w hm hargs;have hlen:=jE (hargs (ej A n c f) (by simp));have hmx:maxLen=9223372036854775807:=rfl;refine en 19 hm hargs Tryz.func142 fun B O a0 Z=>?_
 refine a6 [0,1] [] Z fun X0 Z=>?_
 refine a7 (a6 [8,0,1,7] [] Z fun X1 Z=>?_);refine j1 (l3 (ι:=Nat) (fun p=>[(8,.int .i64 (p:Int))]) (fun p=>[]) (fun p=>[]) (fun p=>p<=n/\∀j,j<p->F4 (f j)=true) (fun p=>n-p) 0 ⟨Nat.zero_le _,fun i hi=>absurd hi (Nat.not_lt_zero _)⟩ Z ?_)
 rintro i ⟨hi,hall⟩ _ _ Z
 try dsimp only at hi
 try dsimp only at hall
 refine a6 [9,0,1,7,8] [] Z fun X2 Z=>?_
 refine a7 (b7 Z rfl (fun hb Z=>?_) (fun hb Z=>?_))
 .have hin_:i<n:=by
   have:(i:Int)<(n:Int):=by subst O;simpa[std,d4]using hb
   omega
  have S:=LT (f i) (hin i hin_);obtain⟨q,hq⟩:=eqv (F4 (f i));rw[<-hq]at S;refine f8 (a7 (j1 (a6 [0,1,5,7,8] [] Z fun X3 Z=>?_)));refine a7 ?_;have O4:(0:Int)<=(i:Int):=by omega
  have O5:(i:Int)<(n:Int):=by omega
  have O6:=S;refine f7 [16,0,1,5,7,8] [] [(5,.r fun _=>.bool (.v (!q)))] Z fun X4 Z=>?_
  apply b7 Z rfl<;>intro hb Z
  .have hne:F4 (f i)=false:=by
    rw[<-hq];have:(!q)=true:=hb
    simpa using this
   refine a6 [4] [] Z fun X5 Z=>?_
   refine i8 ((rsp O a8 Z (⟨i,fun _=>none,fun _=>0,fun _=>.empty⟩) (he:=?_)).1);subst O;rw[pi hin_ hne];rfl
  have hne:F4 (f i)=true:=by
   rw[<-hq];have:(!q)=false:=hb
   simpa using this
  refine f8 (j5 [8,0,1,7] [] Z fun X6 Z=>?_);have e:B.arith .add .i64 (i:Int) 1=((i+1:Nat):Int):=by subst O;exact k4 (n:=n) hin_ (by omega)
  refine⟨i+1,⟨by omega,fun j hj=>?_⟩,by omega,by rw[<-e];exact Z⟩
  by_cases hij:j=i
  .rw [hij];exact hne
  exact hall j (by omega)
 have hout:i=n:=by
  have:¬(i:Int)<(n:Int):=by subst O;simpa[std,d4]using hb
  omega
 refine j9 (a6 [4] [] Z fun X7 Z=>?_);refine N8 Z ?_;subst O;rw[hout]at hall;rw[gW hall];rfl
theorem Mr(A:Option Addr)(n c:Nat)(f:Nat->s9)(hin:∀j,j<n->InG (f j)):k9 Tryz.prog 87 [ej A n c f,.fn 83 [] []] (fun _=>.bool (.v (!J9 n f))):=by
 intro m w hm hargs;have S0:=Mb A n c f hin;obtain⟨q,hq⟩:=eqv (J9 n f);rw[<-hq]at S0 ⊢;refine en 9 hm hargs Tryz.func87 fun B O a0 Z=>?_
 refine a6 [0,1] [] Z fun X0 Z=>?_
 have O1:=S0;refine i9 [4] [] [(2,.r fun x=>.int .i64 (if q=true then -1 else(x.b:Int)))] Z fun X1 Z=>?_
 refine z7 Z ?_;subst O;refine Sim.bool ?_
 show decide ((if q=true then -1 else(((X1 2).b:Nat):Int)) ≥ 0) = !q
 cases q
 .simp
 rfl
theorem Mo(J:j4)(hl:U64 J.lab.bits)(A:Option Addr)(n c:Nat)(f:Nat->s9)(hin:∀j,j<n->InG (f j)):k9 Tryz.prog 37 [Z6 J,ej A n c f] (fun _=>.bool (.v (J9 n f&&F8 J))):=by
 intro m w hm hargs;have hlen:=jE (hargs (ej A n c f) (by simp));have hmx:maxLen=9223372036854775807:=rfl;have SJ:=JW J hl;obtain⟨ij,hij⟩:=eqv (F8 J);rw[<-hij]at SJ;refine en 20 hm hargs Tryz.func37 fun B O a0 Z=>?_
 refine a6 [1,2] [2] Z fun X0 Z=>?_
 refine a7 (a6 [5,1,2] [2] Z fun X1 Z=>?_);refine j1 (l3 (ι:=Nat) (fun p=>[(5,.int .i64 (p:Int))]) (fun p=>[]) (fun p=>[]) (fun p=>p<=n/\∀j,j<p->F4 (f j)=true) (fun p=>n-p) 0 ⟨Nat.zero_le _,fun i hi=>absurd hi (Nat.not_lt_zero _)⟩ Z ?_)
 rintro i ⟨hi,hall⟩ _ _ Z
 try dsimp only at hi
 try dsimp only at hall
 refine a7 (a6 [9,1,2,5] [2] Z fun X2 Z=>?_);apply b7 Z rfl<;>intro hb Z
 .have hin_:i<n:=by
   have:(i:Int)<(n:Int):=by subst O;simpa[std,d4]using hb
   omega
  have S:=JX (f i) (hin i hin_);obtain⟨q,hq⟩:=eqv (F4 (f i));rw[<-hq]at S;refine f8 (a7 (j1 (a7 ?_)));have O4:(0:Int)<=(i:Int):=by omega
  have O5:(i:Int)<(n:Int):=by omega
  have O6:=S;refine f7 [17,1,2,5] [2] [(4,.r fun _=>.bool (.v q))] Z fun X4 Z=>?_
  apply b7 Z rfl<;>intro hb Z
  .have hne:F4 (f i)=false:=by
    rw[<-hq];have:(!q)=true:=by subst O;exact hb
    simpa using this
   refine a6 [4] [] Z fun X5 Z=>?_
   refine N8 Z ?_;subst O;rw[pi hin_ hne];rfl
  have hne:F4 (f i)=true:=by
   rw[<-hq];have:(!q)=false:=by subst O;exact hb
   simpa using this
  refine f8 (j5 [5,1,2] [2] Z fun X3 Z=>?_);have e:B.arith .add .i64 (i:Int) 1=((i+1:Nat):Int):=by subst O;exact k4 (n:=n) hin_ (by omega)
  refine⟨i+1,⟨by omega,fun j hj=>?_⟩,by omega,by rw[<-e];exact Z⟩
  by_cases hij:j=i
  .rw [hij];exact hne
  exact hall j (by omega)
 have hout:i=n:=by
  have:¬(i:Int)<(n:Int):=by subst O;simpa[std,d4]using hb
  omega
 have O1:=SJ;refine j9 (i9 [4] [] [(1,.r fun _=>.bool (.v ij))] Z fun X6 Z=>?_);refine N8 Z ?_;subst O;rw[hout]at hall;rw[gW hall,<-hij];rfl
theorem ja:l8 Tryz.prog 88:=fun _ _=>by kernel_rfl
theorem El(Q q0:B0)(e:Int)(b8 b9 b11 br:Nat)(J:j4)(A:Option Addr)(c:Nat)(p:Pst)(hz:p.n=0):tA Tryz.prog 88 .returning .returning .nili [.ptr 8 b8 0,.ptr 11 b11 0,.ptr 9 b9 0] [(8,⟨b8,40,ce q0⟩),(11,⟨b11,113,[.ptr 32 br 0]⟩),(9,⟨b9,36,[.int .i64 e]⟩),(32,⟨br,139,G1 J A c p⟩)] (fun _=>⟨.tup [],[(8,ce q0),(11,[.ptr 32 br 0]),(9,[.int .i64 e]),(32,G1 J A c p)],[]⟩):=by
 intro m w hm hargs hpre hx;refine jc .no hm hpre hargs hx Tryz.func88 (by exact rfl) (by exact rfl) (by exact rfl) (by exact rfl) (by exact rfl) (by simp[Tryz.ntmps88]) (by simp[Tryz.ntmps88]) fun a0 Z=>?_
 simp only[Tryz.ntmps88,C8,St.put]at Z;obtain⟨B,O⟩:=eqv std;refine j1 (a6 [8,6,0,1,2] [8,11,9,32] Z fun X3 Z=>?_);refine l7 Z rfl (fun Z=>?_);refine j5 [0,1,2] [8,11,9,32] Z fun X4 Z=>?_
 refine a6 [18,0,2] [8,11,9,32] Z fun X8 Z=>?_
 apply b7 Z rfl<;>intro hb Z
 .exfalso
  have ht:0<p.n:=by
   have:(0:Int)<(p.n:Int):=by subst O;simpa[std,d4]using hb
   omega
  omega
 skip
 refine f8 ((rx O a8 Z C5 [] (hs:=?_)).2);subst O;exact⟨rfl,⟨_,rfl,zl⟩,rfl,⟨_,rfl,zl⟩,rfl,⟨_,rfl,zl⟩,rfl,⟨_,rfl,zl⟩,trivial⟩
theorem Ek(Q q0:B0)(e:Int)(b8 b9 b11 br:Nat)(J:j4)(A:Option Addr)(c:Nat)(p:Pst)(hz:0<p.n):tA Tryz.prog 88 .returning .returning .nili [.ptr 8 b8 0,.ptr 11 b11 0,.ptr 9 b9 0] [(8,⟨b8,40,ce q0⟩),(11,⟨b11,113,[.ptr 32 br 0]⟩),(9,⟨b9,36,[.int .i64 e]⟩),(32,⟨br,139,G1 J A c p⟩)] (fun _=>⟨.tup [],[(8,[.int .i64 0,.int .i64 0,.int .u64 0,.int .u64 0,.int .i64 0,.sl none none 0 0 2 (fun _=>[]),.int .i64 0,.int .u64 0,.int .u64 0,.int .i64 0,.bool .ff,.str ⟨#[]⟩,.sl none none 0 0 2 (fun _=>[]),.int .u64 0,.bool .ff]),(11,[.ptr 32 br 0]),(9,[.int .i64 5]),(32,G1 J A c p)],[]⟩):=by
 intro m w hm hargs hpre hx;refine jc .no hm hpre hargs hx Tryz.func88 (by exact rfl) (by exact rfl) (by exact rfl) (by exact rfl) (by exact rfl) (by simp[Tryz.ntmps88]) (by simp[Tryz.ntmps88]) fun a0 Z=>?_
 simp only[Tryz.ntmps88,C8,St.put]at Z;obtain⟨B,O⟩:=eqv std;refine j1 (a6 [8,6,0,1,2] [8,11,9,32] Z fun X3 Z=>?_);refine l7 Z rfl (fun Z=>?_);refine j5 [0,1,2] [8,11,9,32] Z fun X4 Z=>?_
 refine a6 [18,0,2] [8,11,9,32] Z fun X8 Z=>?_
 apply b7 Z rfl<;>intro hb Z
 .skip
  refine j5 [] [8,11,9,32] Z fun X9 Z=>?_
  refine(rx O a8 Z C5 [] (hs:=?_)).2;subst O;exact⟨rfl,⟨_,rfl,zl⟩,rfl,⟨_,rfl,zl⟩,rfl,⟨_,rfl,zl⟩,rfl,⟨_,rfl,zl⟩,trivial⟩
 exfalso
 have ht:¬0<p.n:=by
  have:¬(0:Int)<(p.n:Int):=by subst O;simpa[std,d4]using hb
  omega
 exact ht hz
theorem AD(Q q0:B0)(e:Int)(b8 b9 b11 br:Nat)(J:j4)(A:Option Addr)(c:Nat)(p:Pst)(hz:p.n=0):tA Tryz.prog 88 (.panicking [{ v:=.iface 40 (E5 Q).den,recovered:=false }]) (.panicking [{ v:=.iface 40 (E5 Q).den,recovered:=true }]) (.ifc 40 (E5 Q)) [.ptr 8 b8 0,.ptr 11 b11 0,.ptr 9 b9 0] [(8,⟨b8,40,ce q0⟩),(11,⟨b11,113,[.ptr 32 br 0]⟩),(9,⟨b9,36,[.int .i64 e]⟩),(32,⟨br,139,G1 J A c p⟩)] (fun _=>⟨.tup [],[(8,ce Q),(11,[.ptr 32 br 0]),(9,[.int .i64 e]),(32,G1 J A c p)],[]⟩):=by
 intro m w hm hargs hpre hx;refine jc (.yes 40 (E5 Q)) hm hpre hargs hx Tryz.func88 (by exact rfl) (by exact rfl) (by exact rfl) (by exact rfl) (by exact rfl) (by simp[Tryz.ntmps88]) (by simp[Tryz.ntmps88]) fun a0 Z=>?_
 simp only[Tryz.ntmps88,C8,St.put]at Z;obtain⟨B,O⟩:=eqv std;refine j1 (a6 [8,6,0,1,2] [8,11,9,32] Z fun X3 Z=>?_);refine l4 Z rfl (fun Z=>?_);obtain⟨dd,hu,hni⟩:=(o5 a8 (t:=40) rfl).conc rfl;refine a7 (wp_region_lit (kg rfl rfl rfl rfl Z (Nat.le_of_ble_eq_true rfl) rfl hu hni ?_));intro a0 Z;refine lnd 1 O a8 [10,11,0,1,2] [8,11,9,32] [] Z fun X5 a0 w1 Z=>?_
 refine l7 Z rfl (fun Z=>?_);refine a6 [0,1,2,4] [8,11,9,32,4] Z fun X6 Z=>?_
 refine j5 [0,1,2] [8,11,9,32] Z fun X7 Z=>?_
 refine a6 [18,0,2] [8,11,9,32] Z fun X8 Z=>?_
 apply b7 Z rfl<;>intro hb Z
 .exfalso
  have ht:0<p.n:=by
   have:(0:Int)<(p.n:Int):=by subst O;simpa[std,d4]using hb
   omega
  omega
 skip
 refine f8 ((rx O a8 Z C5 [] (hs:=?_)).2);subst O;exact⟨rfl,⟨_,rfl,zl⟩,rfl,⟨_,rfl,zl⟩,rfl,⟨_,rfl,zl⟩,rfl,⟨_,rfl,zl⟩,trivial⟩
theorem AC(Q q0:B0)(e:Int)(b8 b9 b11 br:Nat)(J:j4)(A:Option Addr)(c:Nat)(p:Pst)(hz:0<p.n):tA Tryz.prog 88 (.panicking [{ v:=.iface 40 (E5 Q).den,recovered:=false }]) (.panicking [{ v:=.iface 40 (E5 Q).den,recovered:=true }]) (.ifc 40 (E5 Q)) [.ptr 8 b8 0,.ptr 11 b11 0,.ptr 9 b9 0] [(8,⟨b8,40,ce q0⟩),(11,⟨b11,113,[.ptr 32 br 0]⟩),(9,⟨b9,36,[.int .i64 e]⟩),(32,⟨br,139,G1 J A c p⟩)] (fun _=>⟨.tup [],[(8,[.int .i64 0,.int .i64 0,.int .u64 0,.int .u64 0,.int .i64 0,.sl none none 0 0 2 (fun _=>[]),.int .i64 0,.int .u64 0,.int .u64 0,.int .i64 0,.bool .ff,.str ⟨#[]⟩,.sl none none 0 0 2 (fun _=>[]),.int .u64 0,.bool .ff]),(11,[.ptr 32 br 0]),(9,[.int .i64 5]),(32,G1 J A c p)],[]⟩):=by
 intro m w hm hargs hpre hx;refine jc (.yes 40 (E5 Q)) hm hpre hargs hx Tryz.func88 (by exact rfl) (by exact rfl) (by exact rfl) (by exact rfl) (by exact rfl) (by simp[Tryz.ntmps88]) (by simp[Tryz.ntmps88]) fun a0 Z=>?_
 simp only[Tryz.ntmps88,C8,St.put]at Z;obtain⟨B,O⟩:=eqv std;refine j1 (a6 [8,6,0,1,2] [8,11,9,32] Z fun X3 Z=>?_);refine l4 Z rfl (fun Z=>?_);obtain⟨dd,hu,hni⟩:=(o5 a8 (t:=40) rfl).conc rfl;refine a7 (wp_region_lit (kg rfl rfl rfl rfl Z (Nat.le_of_ble_eq_true rfl) rfl hu hni ?_));intro a0 Z;refine lnd 1 O a8 [10,11,0,1,2] [8,11,9,32] [] Z fun X5 a0 w1 Z=>?_
 refine l7 Z rfl (fun Z=>?_);refine a6 [0,1,2,4] [8,11,9,32,4] Z fun X6 Z=>?_
 refine j5 [0,1,2] [8,11,9,32] Z fun X7 Z=>?_
 refine a6 [18,0,2] [8,11,9,32] Z fun X8 Z=>?_
 apply b7 Z rfl<;>intro hb Z
 .skip
  refine j5 [] [8,11,9,32] Z fun X9 Z=>?_
  refine(rx O a8 Z C5 [] (hs:=?_)).2;subst O;exact⟨rfl,⟨_,rfl,zl⟩,rfl,⟨_,rfl,zl⟩,rfl,⟨_,rfl,zl⟩,rfl,⟨_,rfl,zl⟩,trivial⟩
 exfalso
 have ht:¬0<p.n:=by
  have:¬(0:Int)<(p.n:Int):=by subst O;simpa[std,d4]using hb
  omega
 exact ht hz
theorem Du{v v':AV}(h:Sim v v'):Sim (can v) (can v'):=
 ⟨by rw[I6,I6];exact h.1,by rw[lA,lA];exact h.2.1,fun m w hv=>(L9 _).1 (h.2.2 _ _ ((L9 _).2 hv))⟩
def dN(b8 b11 b9:Nat):Deferred:={ target:=.fn (.func 88) (AV.denL [.ptr 8 b8 0,.ptr 11 b11 0,.ptr 9 b9 0]).toArray,args:=(AV.denL []).toArray }
def Hf(r:Rs Rsl):j8->Out:=fun x=>.ret ⟨.tup [E5 (wqA x (J1 r).1),.int .i64 (J1 r).2],[],[]⟩
theorem jf{m:Nat->Nat->Prop}{w:World}{b8 b11 b9:Nat}:∀v∈([]:List AV) ++ [.ptr 8 b8 0,.ptr 11 b11 0,.ptr 9 b9 0],Ok m w v:=by
 intro v hv;simp only[List.nil_append,List.mem_cons,List.not_mem_nil,or_false]at hv
 rcases hv with rfl|rfl|rfl<;>exact .ptr _ _ _
section
variable {m:Nat->Nat->Prop} {w0 w:World} {a:Act} {b8 b9 b11 br:Nat} {q0 Q:B0} {J:j4} {A:Option Addr} {c:Nat} {p:Pst} {r:Rs Rsl}
theorem IE{x:j8}{wq:Wq}(h:i5 ⟨m,w0,ats [],[dN b8 b11 b9],noK⟩ ⟨49,[(8,.ptr 8 b8 0),(9,.ptr 9 b9 0)],[],[(8,⟨b8,40,ce q0⟩),(9,⟨b9,36,[.int .i64 0]⟩),(11,⟨b11,113,[.ptr 32 br 0]⟩),(32,⟨br,139,G1 J A c p⟩)],[]⟩ a w)(hok:Ok (St.m ⟨49,[(8,.ptr 8 b8 0),(9,.ptr 9 b9 0)],[],[(8,⟨b8,40,ce q0⟩),(9,⟨b9,36,[.int .i64 0]⟩),(11,⟨b11,113,[.ptr 32 br 0]⟩),(32,⟨br,139,G1 J A c p⟩)],[]⟩ ⟨m,w0,ats [],[],noK⟩) w (E5 Q))(hQ:Q=wqA x wq)(hr:r = .stop wq p) :
  bodyPostD Tryz.prog Tryz.f35 (kD m w0 [] (Hf r)) (.panic [{ v:=.iface 40 (E5 Q).den,recovered:=false }]) a w:=by
 subst hr
 show Leaves _ _ a.tmps _ a.defers (.panicking _) w
 by_cases hz:p.n=0
 .have ht:J1 (.stop wq p)=(wq,0):=by simp[J1,hz]
  refine li (C:=⟨m,w0,ats [],[],noK⟩) (l:=[]) (r:=[.ptr 8 b8 0,.ptr 11 b11 0,.ptr 9 b9 0]) (ds:=[]) (x:=(.ifc 40 (E5 Q))) h (by simp) ja (AD Q q0 0 b8 b9 b11 br J A c p hz) jf (.ifc _ _ hok) (by intro e he;simp only[List.mem_cons,List.not_mem_nil,or_false]at he;rcases he with rfl|rfl|rfl|rfl<;>rfl) rfl fun w2 h2=>?_
  show Leaves _ _ a.tmps _ [] .returning w2
  refine cW (a:={ tmps:=a.tmps,defers:=[] }) a8 h2 (rs:=[.cell 8 40,.cell 9 36]) rfl (by conv=>lhs;cbv) ?_ x rfl [] ?_ trivial trivial
  .simp [i7,Ob.holds]
  rw[ht,hQ];exact zr
 have hz:0<p.n:=by omega
 have ht:J1 (.stop wq p)=(zWq,5):=by simp[J1,hz]
 refine li (C:=⟨m,w0,ats [],[],noK⟩) (l:=[]) (r:=[.ptr 8 b8 0,.ptr 11 b11 0,.ptr 9 b9 0]) (ds:=[]) (x:=(.ifc 40 (E5 Q))) h (by simp) ja (AC Q q0 0 b8 b9 b11 br J A c p hz) jf (.ifc _ _ hok) (by intro e he;simp only[List.mem_cons,List.not_mem_nil,or_false]at he;rcases he with rfl|rfl|rfl|rfl<;>rfl) rfl fun w2 h2=>?_
 show Leaves _ _ a.tmps _ [] .returning w2
 refine cW (a:={ tmps:=a.tmps,defers:=[] }) a8 h2 (rs:=[.cell 8 40,.cell 9 36]) rfl (by conv=>lhs;cbv) ?_ ⟨0,fun _=>none,fun _=>0,fun _=>.empty⟩ rfl [] ?_ trivial trivial
 .simp [i7,Ob.holds]
 rw[ht];exact Sim.tup ⟨Sim.agg ⟨zr,zr,zr,zr,zr,zq0,zr,zr,zr,zr,zr,zr,zq0,zr,zr,trivial⟩,zr,trivial⟩
theorem IF{x:j8}{r1:Rsl}(h:i5 ⟨m,w0,ats [],[dN b8 b11 b9],noK⟩ ⟨49,[(8,.ptr 8 b8 0),(9,.ptr 9 b9 0)],[],[(8,⟨b8,40,ce q0⟩),(9,⟨b9,36,[.int .i64 0]⟩),(11,⟨b11,113,[.ptr 32 br 0]⟩),(32,⟨br,139,G1 J A c p⟩)],[]⟩ a w)(hq:Sim (E5 q0) (E5 (wqA x ⟨4,⟨0,0⟩,0,k6,r1⟩)))(hr:r = .ok r1 p) :
  bodyPostD Tryz.prog Tryz.f35 (kD m w0 [] (Hf r)) .ret a w:=by
 subst hr
 show Leaves _ _ a.tmps _ a.defers .returning w
 by_cases hz:p.n=0
 .have ht:J1 (.ok r1 p)=(⟨4,⟨0,0⟩,0,k6,r1⟩,0):=by simp[J1,hz]
  refine li (C:=⟨m,w0,ats [],[],noK⟩) (l:=[]) (r:=[.ptr 8 b8 0,.ptr 11 b11 0,.ptr 9 b9 0]) (ds:=[]) (x:=.nili) h (by simp) ja (El q0 q0 0 b8 b9 b11 br J A c p hz) jf .nili (by intro e he;simp only[List.mem_cons,List.not_mem_nil,or_false]at he;rcases he with rfl|rfl|rfl|rfl<;>rfl) rfl fun w2 h2=>?_
  show Leaves _ _ a.tmps _ [] .returning w2
  refine cW (a:={ tmps:=a.tmps,defers:=[] }) a8 h2 (rs:=[.cell 8 40,.cell 9 36]) rfl (by conv=>lhs;cbv) ?_ x rfl [] ?_ trivial trivial
  .simp [i7,Ob.holds]
  rw[ht];exact Sim.tup ⟨Du hq,zr,trivial⟩
 have hz:0<p.n:=by omega
 have ht:J1 (.ok r1 p)=(zWq,5):=by simp[J1,hz]
 refine li (C:=⟨m,w0,ats [],[],noK⟩) (l:=[]) (r:=[.ptr 8 b8 0,.ptr 11 b11 0,.ptr 9 b9 0]) (ds:=[]) (x:=.nili) h (by simp) ja (Ek q0 q0 0 b8 b9 b11 br J A c p hz) jf .nili (by intro e he;simp only[List.mem_cons,List.not_mem_nil,or_false]at he;rcases he with rfl|rfl|rfl|rfl<;>rfl) rfl fun w2 h2=>?_
 show Leaves _ _ a.tmps _ [] .returning w2
 refine cW (a:={ tmps:=a.tmps,defers:=[] }) a8 h2 (rs:=[.cell 8 40,.cell 9 36]) rfl (by conv=>lhs;cbv) ?_ ⟨0,fun _=>none,fun _=>0,fun _=>.empty⟩ rfl [] ?_ trivial trivial
 .simp [i7,Ob.holds]
 rw[ht];exact Sim.tup ⟨Sim.agg ⟨zr,zr,zr,zr,zr,zq0,zr,zr,zr,zr,zr,zr,zq0,zr,zr,trivial⟩,zr,trivial⟩
end
theorem II{cap:List AV}(F:FuncId)(r:Rs Rsl)(J:j4)(hJ:eu J)(A:Option Addr)(n c:Nat)(f:Nat->s9)(hn:n<=900000)(hin:∀j,j<n->InG (f j))(kG:Option Nat)(kA:Option Addr)(kn kc:Nat)(kf:Nat->Int)(hdo:(F8 J&&dZ kn kf J.kind&&J9 n f)=true->∀k0 b,nH F k0 b (J.less n) A c (nM n f) cap r)(hen:l8 Tryz.prog F):CL Tryz.prog 35 [Z6 J,ej A n c f,.sl kG kA kn kc 1 (fun i=>[.int .i64 (kf i)]),.fn F [] cap] [] (fun x=>.ret ⟨.tup [E5 (wqA x (fX (F8 J&&dZ kn kf J.kind&&J9 n f) r).1),.int .i64 (fX (F8 J&&dZ kn kf J.kind&&J9 n f) r).2],[],[]⟩):=by
 intro m w hm hargs hpre;have S1:=Mc J hJ.lab;have S2:k9 Tryz.prog 86 [.sl kG kA kn kc 1 (fun i=>[.int .i64 (kf i)]),.int .i64 J.kind] (fun _=>.bool (.v (dZ kn kf J.kind))):=(qO kA kn kc kf J.kind).sim ⟨Sim.recell (fun _ _=>rfl),zr,trivial⟩;have S3:=Mr A n c f hin;obtain⟨okb,hokb⟩:=eqv ((F8 J&&dZ kn kf J.kind&&J9 n f));rw[<-hokb]at hdo ⊢;obtain⟨ij,hij⟩:=eqv (F8 J);rw[<-hij]at S1 hokb;obtain⟨ck,hck⟩:=eqv (dZ kn kf J.kind);rw[<-hck]at S2 hokb;obtain⟨ag,hag⟩:=eqv (J9 n f);rw[<-hag]at S3 hokb;refine Jy hm hpre hargs Tryz.func35 rfl (by simp[Tryz.ntmps35]) fun a0 Z=>?_
 simp only[Tryz.ntmps35,C8]at Z;obtain⟨B,O⟩:=eqv std;refine a6 [1,2,3,4,8,9] [4,8,9] Z fun X0 Z=>?_
 refine a6 [1,2,3,4,8,9,10] [4,8,9] Z fun X1 Z=>?_
 have O1:=S1;have O2:=S2;have O3:=S3;refine a7 (i9 [26,1,3,4,8,9] [4,8,9] [(1,.r fun _=>.bool (.v ij)),(7,.r fun _=>.bool (.v ck)),(13,.r fun _=>.bool (.v (!ag)))] Z fun X2 Z=>?_);apply b7 Z rfl<;>intro hb Z
 .have hf:okb=false:=by
   have h9:(if(if(!ij)=true then true else !ck)=true then true else !ag)=true:=by subst O;exact hb
   rw[hokb];cases ij<;>cases ck<;>cases ag<;>first|rfl|cases h9
  refine a6 [8,9] [8,9] Z fun X3 Z=>?_
  refine i8 (LJ (fn:=Tryz.f35) a8 Z (rs:=[.cell 8 40,.cell 9 36]) rfl (by conv=>lhs;cbv) ?_ ⟨0,fun _=>none,fun _=>0,fun _=>.empty⟩ rfl [] ?_ trivial trivial)
  .subst O;simp[i7,Ob.holds]
  rw[hf];subst O;exact Sim.tup ⟨Sim.agg ⟨zr,zr,zr,zr,zr,zq0,zr,zr,zr,zr,zr,zr,zq0,zr,zr,trivial⟩,zr,trivial⟩
 have hf:okb=true:=by
  have h9:(if(if(!ij)=true then true else !ck)=true then true else !ag)=false:=by subst O;exact hb
  rw[hokb];cases ij<;>cases ck<;>cases ag<;>first|rfl|cases h9
 have hjb:F8 J=true:=by
  rw[<-hij];rw[hokb]at hf;revert hf;cases ij<;>simp
 have hjo:=uu hJ hjb hn;have e1:IntKind.i64.wrap (J.budget-(n:Int))=(J.less n).budget:=o8 (by have:=hjo.lo;show -9223372036854775808<=(J.less n).budget;omega) (by have:=hjo.hi;show(J.less n).budget<=9223372036854775807;omega)
 refine f8 (a6 [1,3,8,9,11] [32,8,9,11] Z fun X4 Z=>?_);refine a6 [3,8,9,11] [32,8,9,11] Z fun X5 Z=>?_
 replace Z:=Z.memS (cells':=G1 (J.less n) A c (nM n f)) (by subst O;exact⟨zr,zr,zr,zr,zr,zr,zr,zr,zr,zr,zr,zr,zr,zr,Sim.of_eq (congrArg (AV.int .i64) e1),zr,zr,Sim.ff,zr,zr,zr,zr,trivial⟩);refine a7 (wp_region_lit (lpr 0 1 O a8 [44,3,8,9,11] [32,8,9,11] [] Z fun X6_0 a0 w1 Z=>?_));refine xY rfl rfl rfl rfl rfl Z rfl rfl ?_;intro a0 Z;replace Z:i5 ⟨m,w,ats [],[dN (X0 1).b (X4 5).b (X0 2).b],noK⟩ _ _ _:=Z;refine wpList_nil (a7 (wp_region_lit (lpr 0 2 O a8 [45,46,8,9] [32,8,9,11] [] Z fun X7_0 a0 w1 Z=>?_)));have SD:=hdo hf 32 (X4 4).b
 rcases hmd:r with⟨r1,p1⟩|⟨w1_,p1⟩
 .obtain ⟨rl,hrl⟩:∃y_,y_=r1.items.length:=⟨_,rfl⟩
  obtain⟨rf,hrf⟩:=eqv (itF r1.items);refine cU rfl rfl rfl rfl Z rfl rfl hen (SD.ok' hmd hrl hrf) (by subst O;exact zl) (fQ rfl) rfl rfl ?_;intro x w' a0 Z;apply cV 3 O a8 [8,9] [8,9,11,32] [] Z
  .intro A X;conv=>lhs;cbv
  .intro X;subst O;first|exact trivial|(repeat(first|exact trivial|refine⟨rfl,?_⟩))
  intro X7 a0 w1 Z;obtain⟨q0,hq0⟩:=eqv ((⟨4,⟨0,0⟩,0,zRA,⟨r1.code,r1.had,r1.val,x.A 2,rl,x.c 2,rf,r1.key,r1.more⟩⟩:B0));replace Z:=Z.memS (cells':=ce q0) (by rw[hq0];subst O;exact⟨zr,zr,zr,zr,zr,zq0,zr,zr,zr,zr,zr,zr,zr,zr,zr,trivial⟩);refine i8 ?_;rw[show fX okb (.ok r1 p1)=J1 (.ok r1 p1)by rw[hf];rfl];exact IF (x:=⟨0,fun i=>if i=1 then none else x.A i,fun i=>if i=1 then 0 else x.c i,fun _=>.empty⟩) (q0:=q0) (J:=J.less n) (A:=x.A 0) (c:=x.c 0) (p:=p1) Z (by rw[hq0,hrl,hrf];exact Sim.agg ⟨zr,zr,zr,zr,zr,zq0,zr,zr,zr,zr,zr,zr,zr,zr,zr,trivial⟩) rfl
 refine cU rfl rfl rfl rfl Z rfl rfl hen (SD.stop hmd) (by subst O;exact zl) (fQ rfl) rfl rfl ?_;intro x w' Z hok;replace Z:=Z.keep [8,9] [8,9,11,32];replace Z:=Z.memS (cells':=ce ⟨0,⟨0,0⟩,0,zRA,gZ⟩) (by exact⟨zr,zr,zr,zr,zr,zq0,zr,zr,zr,zr,Sim.ff,zr,zq0,zr,Sim.ff,trivial⟩);rw[show fX okb (.stop w1_ p1)=J1 (.stop w1_ p1)by rw[hf];rfl];refine IE (x:=x) (wq:=w1_) (q0:=⟨0,⟨0,0⟩,0,zRA,gZ⟩) (J:=J.less n) (A:=x.A 0) (c:=x.c 0) (p:=p1) Z (hok.mono fun b o u h1 h2=>⟨h1,fun hh=>h2 ?_⟩) rfl rfl;refine LY (fun _ _ h=>h) ?_ rfl hh;intro y hy;simp only[List.mem_cons,List.not_mem_nil,or_false]at hy
 rcases hy with rfl|rfl|rfl|rfl<;>first|exact⟨8,_,rfl,rfl⟩|exact⟨9,_,rfl,rfl⟩|exact⟨11,_,rfl,rfl⟩|exact⟨32,_,rfl,rfl⟩
theorem wd{J:j4}(h:F8 J=true):J.how=1 \/ J.how=2:=by
 unfold F8 btw at h;simp only[Bool.and_eq_true,decide_eq_true_eq]at h;omega
theorem zZ:aa kj:=⟨⟨by decide,by decide⟩,by decide,fun x hx=>by cases hx⟩
theorem aY{bk k key:Int}(hk:U64 key):∀(n:Nat) (l:Lab) (p:Pst),LOk l->j3 p->T0 (D9 bk k key n l p)
 |0,l,p,_,_=>fV
 |n+1,l,p,hl,hp=>by
  unfold D9;refine r7 (U7 hl) fun g p1 e1=>?_
  have hp1:=hp.suf ((k8 _ _ _).of e1);refine r9 (fun _=>trivial) fun _=>r9 (fun _=>r7 (vh hl (hp.get e1) hp1) fun _ p2 e2=>aY hk n l p2 hl (hp1.suf ((R8 _ _ _ _ _ _).of e2))) fun _=>r9 (fun _=>aY hk n _ p1 (jF hk _) hp1) fun _=>r9 (fun _=>r7 (po hl hp1) fun _ p2 e2=>aY hk n _ p2 P5 (hp1.suf ((F9 _ _ _ _ _).of e2))) fun _=>r9 (fun _=>r7 (dr P5 zZ) fun _ p2 e2=>aY hk n _ p2 P5 (hp1.suf ((A5 _ _ _ _ _).of e2))) fun _=>aY hk n _ p1 P5 hp1
theorem Dc{bk k:Int}{n:Nat}{l:Lab}{p:Pst}(hl:LOk l)(hp:j3 p):T0 (bh bk k n l p):=by
 unfold bh;refine r9 (fun _=>r7 (U7 hl.par) fun q p1 e1=>r9 (fun _=>?_) fun _=>trivial) fun _=>trivial
 exact r7 (po hl (hp.suf ((k8 _ _ _).of e1))) fun _ _ _=>trivial
theorem fu{bk k key:Int}(hk:U64 key):∀(n:Nat) (lo hi:Int) (p:Pst),j3 p->T0 (F6 bk k key n lo hi p)
 |0,lo,hi,p,_=>fV
 |n+1,lo,hi,p,hp=>by
  unfold F6;refine r9 (fun _=>?_) fun _=>aY hk _ _ p P5 hp
  have hl:=jF hk ((lo+hi) / 2);refine r7 (U7 hl) fun g p1 e1=>?_
  have hp1:=hp.suf ((k8 _ _ _).of e1);refine r9 (fun _=>trivial) fun _=>r9 (fun _=>fu hk n _ _ p1 hp1) fun _=>r9 (fun _=>r7 (vh hl (hp.get e1) hp1) fun _ p2 e2=>fu hk n _ _ p2 (hp1.suf ((R8 _ _ _ _ _ _).of e2))) fun _=>r9 (fun _=>r7 (Dc hl hp1) fun b p2 e2=>?_) fun _=>fu hk n _ _ p1 hp1
  have hp2:=hp1.suf ((iV _ _ _ _ _).of e2);exact r9 (fun _=>fu hk n _ _ p2 hp2) fun _=>fu hk n _ _ p2 hp2
theorem CZ{bk k how key:Int}(hk:U64 key){n:Nat}{p:Pst}(hp:j3 p):T0 (ii bk k how key n p):=r9 (fun _=>aY hk _ _ _ P5 hp) fun _=>fu hk _ _ _ _ hp
theorem Jv(bk k key:Int)(n:Nat)(s:Spt)(p:Pst):(W8 bk k key n s p).er Spt.er=W8 bk k key n s.er p.er:=
 A7 (v8 (aU _ _ _) fun _ _=>A7 rfl (dR _ _ _ _ _ _)) (dR _ _ _ _ _ _)
theorem wz(bk k:Int)(R:B8):∀n z s o p,(cj bk k R n z s o p).er id=cj bk k R n z s.er o p.er
 |0,z,s,o,p=>rfl
 |n+1,z,s,o,p=>A7 (v8 (Jv _ _ _ _ _ _) fun _ _=>wz bk k R n _ _ _ _) rfl
theorem Jr(bk k how:Int)(R:B8)(p:Pst):(aS bk k how R p).er id=aS bk k how R p.er:=A7 (v8 (Jq _ _ _ _ _ _) fun _ _=>wz _ _ _ _ _ _ _ _) rfl
theorem De{bk k key:Int}(hk:U64 key){n:Nat}{s:Spt}{p:Pst}(hs:aP s)(hp:j3 p):T0 (W8 bk k key n s p):=by
 unfold W8;refine r9 (fun hc=>r7 (U7 ⟨wO hc,hs.ok.ra.nx⟩) fun g q e=>r9 (fun _=>trivial) fun _=>aY hk _ _ _ P5 (hp.suf ((k8 _ _ _).of e))) fun _=>aY hk _ _ _ P5 hp
theorem ry{bk k:Int}{R:B8}:∀(n:Nat) (z:Int) (s:Spt) (o:List Itm) (p:Pst),aP s->j3 p->T0 (cj bk k R n z s o p)
 |0,z,s,o,p,_,_=>fV
 |n+1,z,s,o,p,hs,hp=>by
  unfold cj;have hk:=qj (R:=R) hs.lab.1 hs.lab.2;exact r9 (fun _=>r7 (De hk hs hp) fun y q e=>ry n _ y _ q (qW hk hs hp e) (hp.suf ((iW _ _ _ _ _ _).of e))) fun _=>trivial
theorem Da{bk k how:Int}{R:B8}{p:Pst}(hp:j3 p):T0 (aS bk k how R p):=by
 have hk:U64 (((T8 R 0).1:Nat):Int):=qp (by decide);exact r9 (fun _=>r7 (CZ hk hp) fun y q e=>ry _ _ y _ q (tN hk hp e) (hp.suf ((ly _ _ _ _ _ _).of e))) fun _=>trivial
theorem vB{J:j4}:MH (I4 J)where
 er:=fun n f=>by
  unfold I4;rw[<-AE,Jr];rfl
 ok:=fun n f hin=>by
  unfold I4 fX
  split
  .rename_i h
   simp only[Bool.and_eq_true]at h;exact zu (Da (tX hin h.2))
  exact fV
structure MG where
 /-- 0: too many wants,1: refused,2: it is over,4: a want was not done -/
 st:Nat
 res:Rsl
 n:Nat
 err:Int
 L:Shf
 k:Int
 ls:List Lab
def kP(bs:List Wnt)(n:Nat)(L:Shf):Shf:=if n<bs.length then(doL L (bs.getD n ⟨0,⟨0,0⟩,0,k6⟩)).L else L
def yW(bs:List Wnt)(n:Nat)(L:Shf)(k:Int):Int:=if n<bs.length then(if(doL L (bs.getD n ⟨0,⟨0,0⟩,0,k6⟩)).wrote then IntKind.i64.wrap (k+1)else k)else k
def zt(D:Did)(k:Int):Int:=if D.wrote then IntKind.i64.wrap (k+1)else k
def mP(ls:List Lab)(l:Lab)(G:Got):List Lab:=if(G.has&&decide (G.r.kind=1))=true then ls ++ [l]else ls
def V0(N:gd)(bs:List Wnt):Nat->List Got->Shf->Int->List Lab->MG
 |0,gs,L,k,ls=>⟨0,dq,gs.length,0,L,k,ls⟩
 |n+1,gs,L,k,ls=>
  if(N gs.length (cK gs)).2≠0 then⟨1,dq,gs.length,0,L,k,ls⟩
  else if(N gs.length (cK gs)).1.kind=4 then⟨2,(N gs.length (cK gs)).1.res,gs.length,0,L,k,ls⟩
  else if(doL (kP bs gs.length L) (U0 (N gs.length (cK gs)).1)).err≠0 then⟨4,dq,gs.length,(doL (kP bs gs.length L) (U0 (N gs.length (cK gs)).1)).err,(doL (kP bs gs.length L) (U0 (N gs.length (cK gs)).1)).L,zt (doL (kP bs gs.length L) (U0 (N gs.length (cK gs)).1)) (yW bs gs.length L k),ls⟩
  else V0 N bs n (gs ++ [(doL (kP bs gs.length L) (U0 (N gs.length (cK gs)).1)).got]) (doL (kP bs gs.length L) (U0 (N gs.length (cK gs)).1)).L (zt (doL (kP bs gs.length L) (U0 (N gs.length (cK gs)).1)) (yW bs gs.length L k)) (mP ls (N gs.length (cK gs)).1.lab (doL (kP bs gs.length L) (U0 (N gs.length (cK gs)).1)).got)
section
variable {N:gd} {bs:List Wnt} {n:Nat} {gs:List Got} {L L1:Shf} {k k1:Int} {ls:List Lab} {w:Wq} {e:Int}
theorem DL(h:N gs.length (cK gs)=(w,e))(he:e≠0):V0 N bs (n+1) gs L k ls=⟨1,dq,gs.length,0,L,k,ls⟩:=by
 unfold V0;rw[h,if_pos he]
theorem rO(h:N gs.length (cK gs)=(w,0))(hk:w.kind=4):V0 N bs (n+1) gs L k ls=⟨2,w.res,gs.length,0,L,k,ls⟩:=by
 unfold V0;rw[h,if_neg (fun h=>h rfl),if_pos hk]
theorem zP(h:N gs.length (cK gs)=(w,0))(hk:¬w.kind=4)(h1:L1=kP bs gs.length L)(h2:k1=yW bs gs.length L k){D:Did}(hD:D=doL L1 (U0 w))(he:D.err≠0):V0 N bs (n+1) gs L k ls=⟨4,dq,gs.length,D.err,D.L,zt D k1,ls⟩:=by
 subst hD;subst h1;subst h2;unfold V0;rw[h,if_neg (fun h=>h rfl),if_neg hk,if_pos he]
theorem vt(h:N gs.length (cK gs)=(w,0))(hk:¬w.kind=4)(h1:L1=kP bs gs.length L)(h2:k1=yW bs gs.length L k){D:Did}(hD:D=doL L1 (U0 w))(he:D.err=0):V0 N bs (n+1) gs L k ls=V0 N bs n (gs ++ [D.got]) D.L (zt D k1) (mP ls w.lab D.got):=by
 subst hD;subst h1;subst h2
 conv=>lhs;unfold V0
 rw[h,if_neg (fun h=>h rfl),if_neg hk,if_neg (fun h=>h he)]
end
section
variable {N:gd} {b:Int} {T:Nat->Tr Rsl} {Q:Rsl->Prop}
end
end Go.Proofs.YtmbkanpapkhnaaaGreat.Sym
