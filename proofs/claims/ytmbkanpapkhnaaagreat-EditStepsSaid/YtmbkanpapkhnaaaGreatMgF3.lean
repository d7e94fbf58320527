/-
  PlShelf, SymSh, SymShM, PlBack, PlCov, PlUp, SymAt, SymCov, PlProc, SymHd3, SymThr, SymPr0, SymUp, SymPr1, EtyI, InsertI, ItOwn, ItGrow, PlMap, ItCut, SymHalf: put together by a program of mine (a claim may have 60 files at most). Conditions: none.
-/
import Derived.Test.YtmbkanpapkhnaaaGreatMgF2
import Derived.DeepKeys4
import Derived.LoopN
set_option linter.unusedVariables false
set_option linter.unusedSimpArgs false
set_option maxRecDepth 100000
set_option maxHeartbeats 1600000
namespace Go.Proofs.YtmbkanpapkhnaaaGreat
open Go.RowKit Sym
structure RN where
 n:Nat
 f:Nat->Itm
 kd:Int
 nx:Lab
 mrk:Int
def RN.abs(r:RN):Rec:=⟨r.kd,b4 r.f r.n,r.nx,r.mrk⟩
def Rec.rn(r:Rec):RN:=⟨r.items.length,itF r.items,r.kind,r.next,r.mark⟩
theorem jE(l:List Itm):b4 (itF l) l.length=l:=by
 apply List.ext_getElem
 .simp [b4]
 intro i h1 h2;simp[b4,itF,List.getD,h2]
theorem Q4(r:Rec):r.rn.abs=r:=by
 obtain⟨k,l,nx,mk⟩:=r;simp only[Rec.rn,RN.abs,jE]
theorem ri{f g:Nat->Itm}{n:Nat}(h:∀t,t<n->f t=g t):okF f n=okF g n:=by
 unfold okF;rw[Bool.eq_iff_iff,List.all_eq_true,List.all_eq_true];have e:∀t,t<n->bV f t=bV g t:=fun t ht=>by
  unfold bV;rw[h t ht,h (t-1) (by omega)]
 constructor
 .intro h1 t ht;rw[<-e t (List.mem_range.1 ht)];exact h1 t ht
 intro h1 t ht;rw[e t (List.mem_range.1 ht)];exact h1 t ht
theorem gQ(r:RN):isR r.abs=D9 r.kd r.n r.f r.nx r.mrk:=by
 unfold isR RN.abs;simp only[i3];rw[cQ,cQ,ri fun t ht=>u0 r.f r.n t ht]
structure Spo where
 ver:Int
 has:Bool
 r:Rec
deriving DecidableEq
def sm:Spo:=⟨0,false,i9⟩
abbrev Shf:=List (Lab×Spo)
def V9(a b:Lab):Bool:=decide (a.bits<b.bits)||(decide (a.bits=b.bits)&&decide (a.len<b.len))
theorem tf{a b:Lab}(h1:a.len=b.len)(h2:a.bits=b.bits):a=b:=by
 obtain⟨x,y⟩:=a;obtain⟨x',y'⟩:=b;simp only at h1 h2;rw[h1,h2]
theorem pZ(a:Lab):V9 a a=false:=by simp[V9]
theorem dy{a b c:Lab}(h1:V9 a b=true)(h2:V9 b c=true):V9 a c=true:=by
 simp only[V9,Bool.or_eq_true,Bool.and_eq_true,decide_eq_true_eq]at *;omega
theorem dz(a b:Lab):V9 a b=true \/ a=b \/ V9 b a=true:=by
 simp only[V9,Bool.or_eq_true,Bool.and_eq_true,decide_eq_true_eq]
 by_cases h1:a.bits<b.bits
 .exact .inl (.inl h1)
 by_cases h2:b.bits<a.bits
 .exact .inr (.inr (.inl h2))
 by_cases h3:a.len<b.len
 .exact .inl (.inr ⟨by omega,h3⟩)
 by_cases h4:b.len<a.len
 .exact .inr (.inr (.inr ⟨by omega,h4⟩))
 exact .inr (.inl (tf (by omega) (by omega)))
theorem dA{a b:Lab}(h:V9 a b=true):a≠b:=by
 rintro rfl;rw[pZ]at h;cases h
def cY(L:Shf):Prop:=L.Pairwise fun a b=>V9 a.1 b.1=true
def uG(l:Lab):Shf->Nat
 | []=>0
 |p::L=>if V9 p.1 l then uG l L+1 else 0
def C4(l:Lab):Shf->Option Spo
 | []=>none
 |p::L=>if p.1=l then some p.2 else C4 l L
def bU(l:Lab)(x:Spo):Shf->Shf
 | []=>[(l,x)]
 |p::L=>if V9 p.1 l then p::bU l x L else if p.1=l then(l,x)::L else(l,x)::p::L
theorem Ah(l:Lab):∀L:Shf,uG l L<=L.length
 | []=>Nat.le_refl _
 |p::L=>by
  unfold uG
  split
  .have:=Ah l L;simp;omega
  simp
theorem dE{l:Lab}:∀{L:Shf},(∀p∈L,V9 l p.1=true)->C4 l L=none
 | [],_=>rfl
 |p::L,h=>by
  unfold C4;rw[if_neg (fun e=>dA (h p (by simp)) e.symm)];exact dE fun q hq=>h q (by simp[hq])
theorem Ag{l:Lab}:∀{L:Shf},cY L->(∀p,L[uG l L]? = some p->(if p.1=l then C4 l L=some p.2 else C4 l L=none))/\(L[uG l L]? = none->C4 l L=none)
 | [],_=>⟨fun p h=>by simp at h,fun _=>rfl⟩
 |p::L,h=>by
  have h':=List.pairwise_cons.1 h;unfold uG
  by_cases hp:V9 p.1 l=true
  .rw [if_pos hp]
   obtain⟨g1,g2⟩:=Ag (l:=l) h'.2;simp only[List.getElem?_cons_succ];unfold C4;rw[if_neg (dA hp)];exact⟨g1,g2⟩
  rw[if_neg hp];simp only[List.getElem?_cons_zero,Option.some.injEq];refine⟨?_,fun h=>by cases h⟩
  rintro q rfl
  unfold C4
  by_cases he:p.1=l
  .rw [if_pos he,if_pos he]
  rw[if_neg he,if_neg he];refine dE fun q hq=>?_
  rcases dz p.1 l with h1|h1|h1
  .exact absurd h1 hp
  .exact absurd h1 he
  exact dy h1 (h'.1 q hq)
theorem ie(l:Lab)(x:Spo)(l':Lab):∀L:Shf,C4 l' (bU l x L)=if l=l' then some x else C4 l' L
 | []=>by simp[bU,C4]
 |p::L=>by
  unfold bU
  split
  .rename_i hp
   unfold C4;rw[ie l x l' L]
   by_cases h1:p.1=l'
   .rw [if_pos h1,if_pos h1]
    by_cases h2:l=l'
    .exact absurd (h1.trans h2.symm) (dA hp)
    rw[if_neg h2]
   rw[if_neg h1,if_neg h1]
  split
  .rename_i _ hp
   unfold C4
   by_cases h2:l=l'
   .rw [if_pos h2,if_pos h2]
   rw[if_neg h2,if_neg h2,if_neg (by rw[hp];exact h2)]
  show(if l=l' then some x else C4 l' (p::L))=_
  rfl
theorem gE(l:Lab)(x:Spo):∀{L:Shf},cY L->(bU l x L).length=if(C4 l L).isSome then L.length else L.length+1
 | [],_=>rfl
 |p::L,h=>by
  have h':=List.pairwise_cons.1 h;unfold bU C4
  split
  .rename_i hp
   rw[if_neg (dA hp),List.length_cons,gE l x h'.2]
   split<;>rfl
  split
  .rfl
  rename_i hp he
  rw[dE fun q hq=>?_]
  .rfl
  rcases dz p.1 l with h1|h1|h1
  .exact absurd h1 hp
  .exact absurd h1 he
  exact dy h1 (h'.1 q hq)
theorem fe{l:Lab}{x:Spo}:∀{L:Shf} {p:Lab×Spo},p∈bU l x L->p=(l,x) \/ p∈L
 | [],p,h=>by simp[bU]at h;exact .inl h
 |q::L,p,h=>by
  unfold bU at h
  split at h
  .rcases List.mem_cons.1 h with rfl|h
   .exact .inr (by simp)
   rcases fe h with h|h
   .exact .inl h
   exact .inr (by simp[h])
  split at h
  .rcases List.mem_cons.1 h with rfl|h
   .exact .inl rfl
   exact .inr (by simp[h])
  rcases List.mem_cons.1 h with rfl|h
  .exact .inl rfl
  exact .inr h
theorem fa{l:Lab}{x:Spo}:∀{L:Shf},cY L->cY (bU l x L)
 | [],_=>List.pairwise_singleton _ _
 |p::L,h=>by
  have h':=List.pairwise_cons.1 h;unfold bU
  split
  .rename_i hp
   refine List.pairwise_cons.2 ⟨fun q hq=>?_,fa h'.2⟩
   rcases fe hq with rfl|hq
   .exact hp
   exact h'.1 q hq
  rename_i hp
  split
  .rename_i he
   exact List.pairwise_cons.2 ⟨fun q hq=>by simp only;rw[<-he];exact h'.1 q hq,h'.2⟩
  rename_i he
  have hl:V9 l p.1=true:=by
   rcases dz p.1 l with h1|h1|h1
   .exact absurd h1 hp
   .exact absurd h1 he
   exact h1
  refine List.pairwise_cons.2 ⟨fun q hq=>?_,h⟩
  rcases List.mem_cons.1 hq with rfl|hq
  .exact hl
  exact dy hl (h'.1 q hq)
structure Rw where
 lab:Lab
 ver:Int
 r:Rec
deriving DecidableEq
def fG:Rw:=⟨⟨0,0⟩,0,i9⟩
def eD:List Rw->Shf->Option Shf
 | [],L=>some L
 |w::l,L=>if(C4 w.lab L).isSome || !isL w.lab || !isR w.r then none else eD l (bU w.lab ⟨w.ver,true,w.r⟩ L)
def bW(l:List Rw):Option Shf:=if 2000<l.length then none else eD l []
structure Got where
 code:Int
 ver:Int
 has:Bool
 r:Rec
deriving DecidableEq
def U7:Got:=⟨0,0,false,i9⟩
structure Wnt where
 kind:Int
 lab:Lab
 ver:Int
 r:Rec
structure Did where
 L:Shf
 wrote:Bool
 got:Got
 err:Int
def inc(v:Int):Int:=IntKind.u64.wrap (v+1)
def Az(w:Wnt):Spo:=⟨inc w.ver,decide (w.kind=2),if w.kind=2 then w.r else i9⟩
def D8(L:Shf)(l:Lab):Spo:=(C4 l L).getD sm
def doL(L:Shf)(w:Wnt):Did:=
 if(w.kind=1 \/ w.kind=2 \/ w.kind=3)/\isL w.lab=true/\(w.kind=2->isR w.r=true)then
  (if w.kind=1 then⟨L,false,⟨0,(D8 L w.lab).ver,(D8 L w.lab).has,(D8 L w.lab).r⟩,0⟩
  else if w.ver≠(D8 L w.lab).ver then⟨L,false,⟨8,(D8 L w.lab).ver,false,i9⟩,0⟩
  else if(C4 w.lab L).isNone/\2000<=L.length then⟨L,false,U7,12⟩
  else⟨bU w.lab (Az w) L,true,⟨0,inc w.ver,false,i9⟩,0⟩)
 else⟨L,false,U7,1⟩
def J3(L:Shf):List Rw:=(L.filter (fun p=>p.2.has)).map fun p=>⟨p.1,p.2.ver,p.2.r⟩
end Go.Proofs.YtmbkanpapkhnaaaGreat
namespace Go.Proofs.YtmbkanpapkhnaaaGreat.Sym
open Go Go.RowKit
structure RA where
 A:Option Addr
 c:Nat
 r:RN
abbrev ew(x:RA):List AV:=[.int .i64 x.r.kd,.sl none x.A x.r.n x.c 2 (fun i=>itC (x.r.f i)),.int .i64 x.r.nx.len,.int .u64 x.r.nx.bits,.int .u64 x.r.mrk]
abbrev C7(x:RA):AV:=.agg (ew x)
def zRN:RN:=⟨0,fun _=>C2,0,⟨0,0⟩,0⟩
def zRA:RA:=⟨none,0,zRN⟩
structure C1 where
 lab:Lab
 ver:Int
 x:RA
abbrev T8(w:C1):List AV:=[.int .i64 w.lab.len,.int .u64 w.lab.bits,.int .u64 w.ver,.int .i64 w.x.r.kd,.sl none w.x.A w.x.r.n w.x.c 2 (fun i=>itC (w.x.r.f i)),.int .i64 w.x.r.nx.len,.int .u64 w.x.r.nx.bits,.int .u64 w.x.r.mrk]
abbrev aM(A:Option Addr)(n c:Nat)(f:Nat->C1):AV:=.sl none A n c 8 (fun i=>T8 (f i))
def qM:C1:=⟨⟨0,0⟩,0,zRA⟩
structure SpA where
 w:C1
 has:Bool
abbrev elC(x:SpA):List AV:=[.int .u64 x.w.ver,.bool (.v x.has),.int .i64 x.w.x.r.kd,.sl none x.w.x.A x.w.x.r.n x.w.x.c 2 (fun i=>itC (x.w.x.r.f i)),.int .i64 x.w.x.r.nx.len,.int .u64 x.w.x.r.nx.bits,.int .u64 x.w.x.r.mrk]
def zSp:SpA:=⟨qM,false⟩
structure u2 where
 code:Int
 ver:Int
 has:Bool
 x:RA
abbrev Z3(g:u2):List AV:=[.int .i64 g.code,.int .u64 g.ver,.bool (.v g.has),.int .i64 g.x.r.kd,.sl none g.x.A g.x.r.n g.x.c 2 (fun i=>itC (g.x.r.f i)),.int .i64 g.x.r.nx.len,.int .u64 g.x.r.nx.bits,.int .u64 g.x.r.mrk]
abbrev u5(g:u2):AV:=.agg (Z3 g)
def mp:u2:=⟨0,0,false,zRA⟩
structure mF where
 code:Int
 had:Bool
 val:ByteArray
 A:Option Addr
 n:Nat
 c:Nat
 f:Nat->Itm
 key:Int
 more:Bool
structure A8 where
 kind:Int
 lab:Lab
 ver:Int
 x:RA
 s:mF
abbrev dU(w:A8):List AV:=[.int .i64 w.kind,.int .i64 w.lab.len,.int .u64 w.lab.bits,.int .u64 w.ver,.int .i64 w.x.r.kd,.sl none w.x.A w.x.r.n w.x.c 2 (fun i=>itC (w.x.r.f i)),.int .i64 w.x.r.nx.len,.int .u64 w.x.r.nx.bits,.int .u64 w.x.r.mrk,.int .i64 w.s.code,.bool (.v w.s.had),.str w.s.val,.sl none w.s.A w.s.n w.s.c 2 (fun i=>itC (w.s.f i)),.int .u64 w.s.key,.bool (.v w.s.more)]
abbrev D5(w:A8):AV:=.agg (dU w)
def C1.abs(w:C1):Rw:=⟨w.lab,w.ver,w.x.r.abs⟩
def u2.abs(g:u2):Got:=⟨g.code,g.ver,g.has,g.x.r.abs⟩
def A8.abs(w:A8):Wnt:=⟨w.kind,w.lab,w.ver,w.x.r.abs⟩
def bF{α β : Type}(h:α->β)(g:Nat->α)(n:Nat):List β:=(List.range n).map fun i=>h (g i)
theorem R2{α β : Type}(h:α->β)(g:Nat->α)(n:Nat):(bF h g n).length=n:=by simp[bF]
theorem ng{α β : Type}(h:α->β)(g:Nat->α){n i:Nat}(hi:i<n):(bF h g n)[i]? = some (h (g i)):=by simp[bF,hi]
theorem lx{α β : Type}(h:α->β)(g:Nat->α)(n:Nat):bF h g (n+1)=bF h g n ++ [h (g n)]:=by simp[bF,List.range_succ]
abbrev F6(f:Nat->C1)(n:Nat):List Rw:=bF C1.abs f n
theorem F0.length:∀{l l':List AV},F0 l l'->l.length=l'.length
 | [],[],_=>rfl
 |v::l,v'::l',h=>by simp only[List.length_cons,F0.length h.2]
 | [],_::_,h=>h.elim
 |_::_,[],h=>h.elim
theorem Sim.rows{g g':Option Nat}{A:Option Addr}{n n' c k:Nat}{f f':Nat->List AV}(hn:n=n')(he:∀i,i<n'->F0 (f i) (f' i)):Sim (.sl g A n c k f) (.sl g' A n' c k f'):=by
 subst hn;refine⟨rfl,fun _=>rfl,fun m w h=>?_⟩
 cases h with
 |sl _ _ _ _ _ _ h1 h2 h3 h4 h5 h6 h7=>
  exact .sl _ _ _ _ _ _ h1 h2 (fun i hi=>by rw[<-(he i hi).length];exact h3 i hi) h4 (fun i hi=>by rw[<-(he i hi).map];exact h5 i hi) (fun i hi=>(he i hi).one (h6 i hi)) (fun i hi=>(he i hi).ok (h7 i hi))
theorem b6.memS{C:Cx}{nt:Nat}{l:List (Nat×AV)}{mem:List (Nat×Blk)}{gr:List (Nat×Gr)}{a:Act}{w:World}{k b ty:Nat}{cells cells':List AV}(h:b6 C ⟨nt,l,[],(k,⟨b,ty,cells⟩)::mem,gr⟩ a w)(e:F0 cells cells'):b6 C ⟨nt,l,[],(k,⟨b,ty,cells'⟩)::mem,gr⟩ a w:=by
 have hto:∀k' e',i6 ((k,(⟨b,ty,cells'⟩:Blk))::mem) k'=some e'->∃e0,i6 ((k,(⟨b,ty,cells⟩:Blk))::mem) k'=some e0/\e0.at_=e'.at_/\e0.ty=e'.ty/\F0 e0.cells e'.cells:=by
  intro k' e' he;simp only[i6]at he ⊢
  split at he
  .rename_i hk;injection he with he;subst he;exact⟨⟨b,ty,cells⟩,by rw[if_pos hk],rfl,rfl,e⟩
  rename_i hk;exact⟨e',by rw[if_neg hk];exact he,rfl,rfl,zl⟩
 have hfro:∀k' e',i6 ((k,(⟨b,ty,cells⟩:Blk))::mem) k'=some e'->∃e0,i6 ((k,(⟨b,ty,cells'⟩:Blk))::mem) k'=some e0/\e0.at_=e'.at_:=by
  intro k' e' he;simp only[i6]at he ⊢
  split at he
  .rename_i hk;injection he with he;subst he;exact⟨⟨b,ty,cells'⟩,by rw[if_pos hk],rfl⟩
  rename_i hk;exact⟨e',by rw[if_neg hk];exact he,rfl⟩
 have hm:St.m ⟨nt,l,[],(k,⟨b,ty,cells'⟩)::mem,gr⟩ C=St.m ⟨nt,l,[],(k,⟨b,ty,cells⟩)::mem,gr⟩ C:=by
  funext x o
  apply propext
  constructor
  .rintro (h|⟨k',e',he,hx⟩|h)
   .exact .inl h
   .obtain ⟨e0,h1,h2,_⟩:=hto k' e' he
    exact .inr (.inl ⟨k',e0,h1,h2.trans hx⟩)
   exact .inr (.inr h)
  rintro(h|⟨k',e',he,hx⟩|h)
  .exact .inl h
  .obtain ⟨e0,h1,h2⟩:=hfro k' e' he
   exact .inr (.inl ⟨k',e0,h1,h2.trans hx⟩)
  exact .inr (.inr h)
 refine⟨h.size,h.defers,fun t ht=>by rw[hm];exact h.slot t ht,fun t p v he hk=>(by cases he),fun k' e' he=>?_,fun k1 k2 e1 e2 h1 h2 hne=>?_,h.gr,fun k1 t k2 e2 h1 h2=>?_,h.sepg,h.chg,h.m0,by rw[hm];exact h.kept⟩
 .rw [hm]
  obtain⟨e0,h1,h2,h3,h4⟩:=hto k' e' he;obtain⟨g1,g2,g3⟩:=h.mem k' e0 h1;refine⟨?_,fun v hv=>⟨h4.one (fun v hv=>(g2 v hv).1) v hv,h4.ok (fun v hv=>(g2 v hv).2) v hv⟩,by rw[<-h2];exact g3⟩;rw[<-h2,<-h3,<-h4.map];exact g1
 .obtain ⟨a1,b1,c1,_⟩:=hto k1 e1 h1
  obtain⟨a2,b2,c2,_⟩:=hto k2 e2 h2;rw[<-c1,<-c2];exact h.nodup k1 k2 a1 a2 b1 b2 hne
 obtain⟨a2,b2,c2,_⟩:=hto k2 e2 h2;rw[<-c2];exact h.sepm k1 t k2 a2 h1 b2
theorem b6.regr{C:Cx}{nt:Nat}{l:List (Nat×AV)}{mem:List (Nat×Blk)}{k:Nat}{A:Option Addr}{n n' c kk e:Nat}{gr:List (Nat×Gr)}{a:Act}{w:World}(h:b6 C ⟨nt,l,[],mem,(k,⟨A,n,c,kk,e⟩)::gr⟩ a w)(hn:n=n'):b6 C ⟨nt,l,[],mem,(k,⟨A,n',c,kk,e⟩)::gr⟩ a w:=hn ▸ h
def putG(g:Nat->SpA)(p:Nat)(x:SpA)(h:Nat):Nat->SpA:=fun i=>if i<p then g i else if i=p then x else g (i-1+h)
theorem qW(A:Option Addr)(c:Nat){r r':RN}(h:r.abs=r'.abs):F0 (ew ⟨A,c,r⟩) (ew ⟨A,c,r'⟩):=by
 obtain⟨n,f,kd,nx,mrk⟩:=r;obtain⟨n',f',kd',nx',mrk'⟩:=r';simp only[RN.abs,Rec.mk.injEq]at h;obtain⟨rfl,h2,rfl,rfl⟩:=h;have hn:n=n':=by rw[<-i3 f n,h2,i3]
 subst hn;refine⟨zr,Sim.recell (fun t ht=>?_),zr,zr,zr,trivial⟩
 show itC (f t)=itC (f' t)
 rw[<-u0 f n t ht,h2,u0 f' n t ht]
theorem mj(r:Rec):r.rn.abs=r:=Q4 r
def spY(A:Option Addr)(c:Nat)(g:Nat->SpA)(A1:Option Addr)(c1:Nat)(b:Nat):i8:=⟨b,fun j=>match j with|0=>A|1=>A1|j+2=>(g j).w.x.A,fun j=>match j with|0=>c|1=>c1|j+2=>(g j).w.x.c,fun _=>⟨#[]⟩⟩
def cS(y:i8)(g:Got):u2:=⟨g.code,g.ver,g.has,⟨y.A 1,y.c 1,g.r.rn⟩⟩
theorem Bd{A A1:Option Addr}{c c1 b:Nat}{g:Nat->SpA}{v:u2}{G:Got}(h:v.abs=G)(hA:v.x.A=A1)(hc:v.x.c=c1):F0 (Z3 v) (Z3 (cS (spY A c g A1 c1 b) G)):=by
 subst h;subst hA;subst hc;have hr:=qW v.x.A v.x.c (r:=v.x.r) (r':=v.x.r.abs.rn) (mj _).symm;exact⟨zr,zr,zr,hr.1,hr.2.1,hr.2.2.1,hr.2.2.2.1,hr.2.2.2.2.1,trivial⟩
def fu(y:i8)(R:List Rw)(i:Nat):C1:=⟨(R.getD i fG).lab,(R.getD i fG).ver,⟨y.A (i+2),y.c (i+2),(R.getD i fG).r.rn⟩⟩
theorem ut(y:i8)(R:List Rw):F6 (fu y R) R.length=R:=by
 apply List.ext_getElem
 .simp [bF]
 intro i h1 h2;simp only[bF,List.getElem_map,List.getElem_range,fu,C1.abs,mj];simp[List.getD,h2]
def rwY(A:Option Addr)(c:Nat)(f:Nat->C1)(b:Nat):i8:=⟨b,fun j=>match j with|0=>A|1=>none|j+2=>(f j).x.A,fun j=>match j with|0=>c|1=>0|j+2=>(f j).x.c,fun _=>⟨#[]⟩⟩
theorem zN{f:Nat->C1}{n:Nat}{R:List Rw}(h:F6 f n=R){i:Nat}(hi:i<n):(f i).abs=R.getD i fG:=by
 rw[<-h];simp[List.getD,ng C1.abs f hi]
theorem zM{A:Option Addr}{n c b:Nat}{f:Nat->C1}{R:List Rw}(h:F6 f n=R){gg:Option Nat}:Sim (.sl gg A n c 8 (fun i=>T8 (f i))) (aM A R.length c (fu (rwY A c f b) R)):=by
 have hn:n=R.length:=by rw[<-h,R2]
 refine Sim.rows hn fun i hi=>?_
 have e:fu (rwY A c f b) R i=⟨(R.getD i fG).lab,(R.getD i fG).ver,⟨(f i).x.A,(f i).x.c,(R.getD i fG).r.rn⟩⟩:=rfl;rw[e,<-zN h (show i<n by omega)];have hr:=qW (f i).x.A (f i).x.c (r:=(f i).x.r) (r':=(f i).x.r.abs.rn) (mj _).symm;exact⟨zr,zr,zr,hr.1,hr.2.1,hr.2.2.1,hr.2.2.2.1,hr.2.2.2.2.1,trivial⟩
theorem Ap{m:Nat->Nat->Prop}{w:World}{g:Option Nat}{A:Option Addr}{n c k:Nat}{cells:Nat->List AV}(h:Ok m w (.sl g A n c k cells)){i:Nat}(hi:i<n):∀v∈cells i,Ok m w v:=by
 cases h with|sl _ _ _ _ _ _ h1 h2 h3 h4 h5 h6 h7=>exact h7 i hi
theorem wF{m:Nat->Nat->Prop}{w:World}{g:Option Nat}{A:Option Addr}{n c:Nat}{f:Nat->C1}(h:Ok m w (.sl g A n c 8 (fun i=>T8 (f i)))):∀i,i<n->(f i).x.r.n<=maxLen:=by
 intro i hi;have:=iW (Ap h hi (.sl none (f i).x.A (f i).x.r.n (f i).x.c 2 (fun t=>itC ((f i).x.r.f t))) (by simp));omega
theorem ur(n:Nat)(f:Nat->Itm)(n2:Nat)(f2:Nat->Itm):dS n f n2 f2=decide (b4 f n=b4 f2 n2):=by
 by_cases h:b4 f n=b4 f2 n2
 .have hn:n=n2:=by rw[<-i3 f n,h,i3]
  rw[decide_eq_true h,iP hn];intro i hi;rw[<-u0 f n i hi,h,u0 f2 n2 i (by omega)]
 rw[decide_eq_false h]
 by_cases hn:n=n2
 .subst hn
  by_cases he:∀i,i<n->f i=f2 i
  .exfalso;apply h;unfold b4;exact List.map_congr_left fun t ht=>he t (List.mem_range.1 ht)
  obtain⟨i,hi⟩:=Classical.not_forall.1 he;obtain⟨hi,hne⟩:=Classical.not_imp.1 hi;exact pH hi hne
 unfold dS;rw[decide_eq_false hn];rfl
theorem uq(r r2:RN):eo r.kd r.n r.f r.nx r.mrk r2.kd r2.n r2.f r2.nx r2.mrk=decide (r.abs=r2.abs):=by
 unfold eo;rw[ur];unfold RN.abs;simp only[Rec.mk.injEq]
 by_cases h1:r.kd=r2.kd<;>by_cases h2:b4 r.f r.n=b4 r2.f r2.n<;>by_cases h3:r.nx=r2.nx<;>by_cases h4:r.mrk=r2.mrk<;>simp[h1,h2,h3,h4]
def DV(f:Nat->C1):Nat->Int
 |0=>0
 |i+1=>IntKind.i64.wrap (DV f i+((f i).x.r.n:Int))
def vL(f:Nat->C1)(n:Nat):Bool:=(List.range n).any fun i=>jW (f i).x.r.n (f i).x.r.f
def qB(n:Nat)(f:Nat->C1):Bool:=decide (300<n)||vL f n||decide (3000<DV f n)
theorem sf{f:Nat->C1}{n:Nat}(h:vL f n=false):∀i,i<n->jW (f i).x.r.n (f i).x.r.f=false:=by
 intro i hi;unfold vL at h;rw[List.any_eq_false]at h
 simpa using h i (List.mem_range.2 hi)
theorem vJ{f:Nat->C1}{n i:Nat}(hi:i<n)(h:jW (f i).x.r.n (f i).x.r.f=true):vL f n=true:=List.any_eq_true.2 ⟨i,List.mem_range.2 hi,h⟩
theorem vK{f:Nat->C1}{n:Nat}(h:∀i,i<n->jW (f i).x.r.n (f i).x.r.f=false):vL f n=false:=by
 unfold vL;rw[List.any_eq_false];intro i hi;simp[h i (List.mem_range.1 hi)]
theorem yQ{n:Nat}{f:Nat->Itm}(h:jW n f=false):n<=40:=by
 unfold jW at h;simp only[Bool.or_eq_false_iff,decide_eq_false_iff_not]at h;omega
theorem uQ{f:Nat->C1}{n i:Nat}{L:Shf}(hi:i<n):eD ((F6 f n).drop i) L=if(C4 (f i).lab L).isSome || !isL (f i).lab || !isR (f i).x.r.abs then none else eD ((F6 f n).drop (i+1)) (bU (f i).lab ⟨(f i).ver,true,(f i).x.r.abs⟩ L):=by
 have hl:i<(F6 f n).length:=by rw[R2];exact hi
 have e:(F6 f n).drop i=(f i).abs::(F6 f n).drop (i+1):=by
  rw[List.drop_eq_getElem_cons hl]
  congr 1
  simp[bF]
 rw[e];rfl
theorem xP:laidOutB Tryz.prog=true:=by kernel_rfl
theorem ta:(24:TypeId)<Tryz.prog.types.size:=of_decide_eq_true (by kernel_rfl)
theorem xO:(match Tryz.prog.underlying 24 with|some (.array _ _)|some (.struct _)=>true|_=>false)=true:=by kernel_rfl
theorem AP:WideMaps.KeyLaw Tryz.prog 24:=deep_law_laid xP (m:=2) (by omega) ta (by kernel_rfl) xO
theorem fy:Maps.Keyed Tryz.prog 24:=Maps.Keyed.of_law AP
theorem cJ:Tryz.prog.underlying 93=some (.map 24 97):=by kernel_rfl
def s8(l:Lab):Prop:=(Lit.int .i64 l.len).wf=true/\(Lit.int .u64 l.bits).wf=true
def I0(l:Lab):Lit:=.string (keyBytes [.int .i64 l.len,.int .u64 l.bits])
theorem Y8{l:Lab}(h:s8 l):Go.keyOf Tryz.prog 24 (f4 l).den=some (I0 l):=by
 obtain⟨h1,h2⟩:=h;have hu:Tryz.prog.underlying 24=some (.struct _):=Tryz.underlying24;have hi:Tryz.prog.underlying 3=some (.int .i64):=by kernel_rfl
 have hb:Tryz.prog.underlying 22=some (.int .u64):=by kernel_rfl
 have hk:Tryz.prog.keyType 24=true:=by kernel_rfl
 have hc:Tryz.prog.cellsOf 24=2:=by kernel_rfl
 have hci:Tryz.prog.cellsOf 3=1:=by kernel_rfl
 have hcb:Tryz.prog.cellsOf 22=1:=by kernel_rfl
 obtain⟨m,hm⟩:=Nat.exists_eq_succ_of_ne_zero (n:=Tryz.prog.types.size) (by have:=ta;intro h;rw[h]at this;exact absurd this (Nat.not_lt_zero _));simp[Go.keyOf,hu,hk,Value.formed,hc,f4,AV.den,AV.denL,hm,Program.keyLits,Value.cells,hci,hcb,hi,hb,h1,h2,I0]
theorem eG{l l':Lab}(h:s8 l)(h':s8 l')(e:I0 l=I0 l'):l=l':=by
 have:=fy.inj (Y8 h) (e ▸ Y8 h');simp[f4,AV.den,AV.denL]at this;exact tf this.1 this.2
theorem pY{P:Program}{K:TypeId}{w:World}{b n n':Nat}{D D':DataW Value}(h:Z4 P K w b n D)(h':Z4 P K w b n' D'):D=D':=by
 obtain⟨es,cl,hb,F,hs,hD⟩:=h;obtain⟨es',cl',hb',F',hs',hD'⟩:=h';rw[hb]at hb';injection hb' with hb';injection hb' with e1 e2
 subst e1;rw[hD,hD']
theorem nb{P:Program}{K:TypeId}{w:World}{b n:Nat}{D:DataW Value}(h:Z4 P K w b n D):Z4 P K w b (Maps.size D) D:=by
 obtain⟨es,cl,hb,F,hs,hD⟩:=h;refine⟨es,cl,hb,F,?_,hD⟩;rw[hD];simp[Maps.size,length_sorted]
abbrev Adr:=Lab->Option Addr×Nat
abbrev elA(E:Adr)(l:Lab)(x:Spo):SpA:=⟨⟨l,x.ver,⟨(E l).1,(E l).2,x.r.rn⟩⟩,x.has⟩
structure ShD(D:DataW Value)(E:Adr)(b:Nat)(L:Shf)(m:Nat->Nat->Prop)(w:World):Prop where
 map:Z4 Tryz.prog 24 w b L.length D
 ris:cY L
 labs:∀p∈L,s8 p.1
 has:∀kl,Maps.has D kl=true ↔ ∃p∈L,I0 p.1=kl
 size:Maps.size D=L.length
 at_:∀p∈L,∀zd,D.atKey (I0 p.1) zd = .held (AV.agg (elC (elA E p.1 p.2))).den
 ok:∀p∈L,Ok m w (.agg (elC (elA E p.1 p.2)))
theorem ShD.keepB{D:DataW Value}{E:Adr}{b:Nat}{L:Shf}{m m':Nat->Nat->Prop}{w w':World}{bo:Option Nat}(h:ShD D E b L m w)(k:Z5 bo w m w' m')(hb:bo≠some b):ShD D E b L m' w':=
 ⟨fX k hb h.map,h.ris,h.labs,h.has,h.size,h.at_,fun p hp=>k.ok (h.ok p hp)⟩
theorem ShD.keep{D:DataW Value}{E:Adr}{b:Nat}{L:Shf}{m m':Nat->Nat->Prop}{w w':World}(h:ShD D E b L m w)(k:bQ w m w' m'):ShD D E b L m' w':=
 ⟨nc k h.map,h.ris,h.labs,h.has,h.size,h.at_,fun p hp=>k.ok (h.ok p hp)⟩
def shD(D:DataW Value)(E:Adr)(b:Nat)(L:Shf):Kn:=⟨ShD D E b L,fun k h=>h.keep k⟩
def shK(b:Nat)(L:Shf):Kn:=⟨fun m w=>∃D E,ShD D E b L m w,fun k ⟨D,E,h⟩=>⟨D,E,h.keep k⟩⟩
def shF(N b:Nat)(L:Shf):Kn:=⟨fun m w=>N<=b/\(shK b L).p m w,fun k h=>⟨h.1,(shK b L).st k h.2⟩⟩
theorem cT{l:Lab}{x:Spo}:∀{L:Shf},C4 l L=some x->(l,x)∈L
 |p::L,h=>by
  unfold C4 at h
  split at h
  .rename_i he;injection h with h;subst h;subst he;exact List.mem_cons_self ..
  exact List.mem_cons_of_mem _ (cT h)
theorem cH{p:Lab×Spo}:∀{L:Shf},cY L->p∈L->C4 p.1 L=some p.2
 |q::L,h,hp=>by
  have h':=List.pairwise_cons.1 h;unfold C4
  rcases List.mem_cons.1 hp with rfl|hp
  .rw [if_pos rfl]
  rw[if_neg (dA (h'.1 p hp))];exact cH h'.2 hp
def qL:Value:=.agg #[.int .u64 0,.bool false,.int .i64 0,.slice none 0 0,.int .i64 0,.int .u64 0,.int .u64 0]
theorem qK(w:World):(zeroValue 97).run Tryz.prog w = .ok qL w:=by kernel_rfl
section
variable {D:DataW Value} {E:Adr} {b:Nat} {L:Shf} {m:Nat->Nat->Prop} {w:World} {l:Lab}
theorem ShD.hasL(h:ShD D E b L m w)(hl:s8 l):Maps.has D (I0 l)=(C4 l L).isSome:=by
 cases hf:C4 l L with
 |some x=>exact(h.has _).2 ⟨(l,x),cT hf,rfl⟩
 |none=>
  rw[Option.isSome_none,Bool.eq_false_iff];intro hh;obtain⟨p,hp,he⟩:=(h.has _).1 hh;have:p.1=l:=eG (h.labs p hp) hl he;rw[<-this,cH h.ris hp]at hf
  cases hf
def adr(E:Adr)(L:Shf):Adr:=fun l=>if(C4 l L).isSome then E l else(none,0)
theorem yl(E:Adr)(hn:C4 l L=none):AV.den (.agg (elC (elA (adr E L) l (D8 L l))))=qL/\∀m w,Ok m w (.agg (elC (elA (adr E L) l (D8 L l)))):=by
 have e1:D8 L l=sm:=by unfold D8;rw[hn];rfl
 have e2:adr E L l=(none,0):=by unfold adr;rw[hn];rfl
 unfold elA;rw[e1,e2];refine⟨rfl,fun m w=>.agg _ (fun v hv=>?_) fun v hv=>?_⟩
 .simp only[elC,List.mem_cons,List.not_mem_nil,or_false]at hv
  rcases hv with rfl|rfl|rfl|rfl|rfl|rfl|rfl<;>rfl
 simp only[elC,List.mem_cons,List.not_mem_nil,or_false]at hv
 rcases hv with rfl|rfl|rfl|rfl|rfl|rfl|rfl
 .exact .int _ _
 .exact .bool _
 .exact .int _ _
 .exact .sl _ _ _ _ _ _ (Nat.le_refl _) (Nat.zero_le _) (fun i hi=>absurd hi (Nat.not_lt_zero _)) (fun i hi=>absurd hi (Nat.not_lt_zero _)) (fun i hi=>absurd hi (Nat.not_lt_zero _)) (fun i hi=>absurd hi (Nat.not_lt_zero _)) (fun i hi=>absurd hi (Nat.not_lt_zero _))
 .exact .int _ _
 .exact .int _ _
 exact .int _ _
theorem ShD.look(h:ShD D E b L m w)(hl:s8 l):D.atKey (I0 l) (.held qL) = .held (AV.agg (elC (elA (adr E L) l (D8 L l)))).den/\Ok m w (.agg (elC (elA (adr E L) l (D8 L l)))):=by
 cases hf:C4 l L with
 |some x=>
  have hm:=cT hf;have e1:D8 L l=x:=by unfold D8;rw[hf];rfl
  have e2:adr E L l=E l:=by unfold adr;rw[hf];rfl
  have e3:elA (adr E L) l (D8 L l)=elA E l x:=by unfold elA;rw[e1,e2]
  rw[e3];exact⟨h.at_ _ hm _,h.ok _ hm⟩
 |none=>
  obtain⟨e1,e2⟩:=yl (L:=L) E hf;refine⟨?_,e2 _ _⟩;rw[e1];exact Maps.atKey_of_not_has (by rw[h.hasL hl,hf];rfl) _
theorem ShD.put(h:ShD D E b L m w)(hl:s8 l){w':World}(k:Z5 (some b) w m w' m)(v:Int)(hs:Bool)(x:RA)(hv:Ok m w (.agg (elC ⟨⟨l,v,x⟩,hs⟩)))(hM:Z4 Tryz.prog 24 w' b (L.length+1) (D.put (I0 l) (.held (AV.agg (elC ⟨⟨l,v,x⟩,hs⟩)).den))) :
  ∃D' E',ShD D' E' b (bU l ⟨v,hs,x.r.abs⟩ L) m w':=by
 have hsim:Sim (.agg (elC ⟨⟨l,v,x⟩,hs⟩)) (.agg (elC ⟨⟨l,v,⟨x.A,x.c,x.r.abs.rn⟩⟩,hs⟩)):=by
  have hr:=qW x.A x.c (r:=x.r) (r':=x.r.abs.rn) (mj _).symm;exact Sim.agg ⟨zr,zr,hr.1,hr.2.1,hr.2.2.1,hr.2.2.2.1,hr.2.2.2.2.1,trivial⟩
 have hkey:WideAt.IsKeyLit (I0 l):=fy.key (Y8 hl);have hmp:Maps.IsMap D:=(h.map.tidy fy).isMap;have hsz:=nb hM;have hlen:Maps.size (D.put (I0 l) (.held (AV.agg (elC ⟨⟨l,v,x⟩,hs⟩)).den))=(bU l ⟨v,hs,x.r.abs⟩ L).length:=by
  rw[Maps.size_put (h.map.tidy fy),h.hasL hl,gE l _ h.ris];rw[h.size]
 have hris:=fa (l:=l) (x:=⟨v,hs,x.r.abs⟩) h.ris;have hin:∀p,p∈bU l ⟨v,hs,x.r.abs⟩ L↔p=(l,⟨v,hs,x.r.abs⟩) \/ (p∈L/\p.1≠l):=by
  intro p
  constructor
  .intro hp
   have h1:=cH hris hp;rw[ie]at h1
   by_cases he:l=p.1
   .rw [if_pos he]at h1
    injection h1 with h1
    obtain⟨p1,p2⟩:=p;simp only at he h1;subst he;subst h1;exact .inl rfl
   rw[if_neg he]at h1;exact .inr ⟨cT h1,fun e=>he e.symm⟩
  rintro(rfl|⟨hp,hne⟩)
  .exact cT (by rw[ie,if_pos rfl])
  exact cT (x:=p.2) (l:=p.1) (by rw[ie,if_neg (fun e=>hne e.symm)];exact cH h.ris hp)
 have hE:∀p:Lab×Spo,p.1≠l->elA (fun k=>if k=l then(x.A,x.c)else E k) p.1 p.2=elA E p.1 p.2:=fun p hne=>by unfold elA;simp only[if_neg hne]
 have hE2:elA (fun k=>if k=l then(x.A,x.c)else E k) l ⟨v,hs,x.r.abs⟩=⟨⟨l,v,⟨x.A,x.c,x.r.abs.rn⟩⟩,hs⟩:=by unfold elA;simp only[if_true]
 refine⟨_,fun k=>if k=l then(x.A,x.c)else E k,?_,hris,fun p hp=>?_,fun kl=>?_,hlen,fun p hp zd=>?_,fun p hp=>?_⟩
 .rw [hlen]at hsz;exact hsz
 .rcases (hin p).1 hp with rfl|⟨hp,_⟩
  .exact hl
  exact h.labs p hp
 .by_cases he:kl=I0 l
  .subst he
   rw[Maps.has_put_same hmp hkey];exact⟨fun _=>⟨_,(hin _).2 (.inl rfl),rfl⟩,fun _=>rfl⟩
  rw[Maps.has_put_other he,h.has]
  constructor
  .rintro ⟨p,hp,hk⟩
   exact⟨p,(hin p).2 (.inr ⟨hp,fun e=>he (by rw[<-hk,e])⟩),hk⟩
  rintro⟨p,hp,hk⟩
  rcases(hin p).1 hp with rfl|⟨hp,_⟩
  .exact absurd hk.symm he
  exact⟨p,hp,hk⟩
 .rcases (hin p).1 hp with rfl|⟨hp,hne⟩
  .rw [Maps.atKey_put_same hmp hkey,hE2,hsim.1]
  rw[Maps.atKey_put_other (fun e=>hne (eG (h.labs p hp) hl e)),hE p hne];exact h.at_ p hp zd
 rcases(hin p).1 hp with rfl|⟨hp,hne⟩
 .rw [hE2];exact k.ok (hsim.2.2 _ _ hv)
 rw[hE p hne];exact k.ok (h.ok p hp)
theorem np{m0:Nat->Nat->Prop}{w0:World}{S:Nat->Prop}{ds:List Deferred}{D:DataW Value}{E:Adr}{b:Nat}{L:Shf}{l:Lab}(hl:s8 l){el:SpA}(hel:el=elA (adr E L) l (D8 L l)){hh:Bool}(hhh:hh=(C4 l L).isSome){all:List Oper}{j t1 t2:Nat}(ho:∀o,all[j]? = some o->o.op = .lookup 93 (.tmp t1) (.tmp t2) true) :
  cE ⟨m0,w0,S,ds,shD D E b L⟩ Tryz.prog all (some (j,[.tmp t1,.tmp t2],[.raw (.map (some b)),f4 l],.tup [.agg (elC el),.bool (.v hh)])):=by
 intro i xs args v he o hio s a w Z hv;simp only[Option.some.injEq,Prod.mk.injEq]at he;obtain⟨rfl,rfl,rfl,rfl⟩:=he;have hop:=ho o hio;simp only[I2]at hv
 split at hv
 .split at hv
  .simp only[Option.map_some,Option.some.injEq,List.cons.injEq,and_true]at hv
   obtain⟨h1,h2⟩:=hv;have hSh:ShD D E b L (s.m ⟨m0,w0,S,ds,shD D E b L⟩) w:=Z.kept;obtain⟨g1,g2⟩:=hSh.look hl;subst hel;have hr:=lw hop Z h1 h2 rfl fy cJ (qK w) hSh.map (Y8 hl) g1;refine⟨?_,.tup _ fun u hu=>?_⟩
   .rw [hr,hSh.hasL hl,<-hhh]
    simp[AV.den,AV.denL,BE.den]
   simp only[List.mem_cons,List.not_mem_nil,or_false]at hu
   rcases hu with rfl|rfl
   .exact g2
   exact .bool _
  simp at hv
 simp at hv
theorem oc{m:Nat->Nat->Prop}{w w':World}{b:Nat}{L:Shf}{l:Lab}{D:DataW Value}{n:Nat}(h0:Z4 Tryz.prog 24 w b n D)(hl:s8 l)(h:(shK b L).p m w)(k:Z5 (some b) w m w' m){v:AV}{x:SpA}(hs:Sim v (.agg (elC x)))(hv:Ok m w v)(hM:Z4 Tryz.prog 24 w' b (L.length+1) (D.put (I0 l) (.held v.den))):(shK b (bU l ⟨x.w.ver,x.has,x.w.x.r.abs⟩ L)).p m w':=by
 obtain⟨D1,E1,h1⟩:=h;have:=pY h0 h1.map;subst this;rw[hs.1]at hM;exact h1.put hl k x.w.ver x.has x.w.x (hs.2.2 _ _ hv) hM
theorem G6{m:Nat->Nat->Prop}{w:World}{b:Nat}{L:Shf}(h:(shK b L).p m w):∃es cl,w.heap[b]? = some (.map es cl):=by
 obtain⟨D,E,h⟩:=h;obtain⟨es,cl,hb,_⟩:=h.map;exact⟨es,cl,hb⟩
def Y0(L:Shf)(l:Lab)(v xv:Int)(kn:Bool)(z:Spo):Did:=
 if v≠xv then⟨L,false,⟨8,xv,false,i9⟩,0⟩
 else if kn=false/\2000<=L.length then⟨L,false,U7,12⟩
 else⟨bU l z L,true,⟨0,z.ver,false,i9⟩,0⟩
section
variable {P:Program} {Q:Exit->Act->World->Prop} {ops:Array Oper}
theorem zv{a:Act}{w:World}{rest:List Oper}{o:Oper}(hw:Region.wanted o (yielded ops a.tmps)=true)(h:wpList P ops Q ({ o with guard:=none }::rest) a w):wpList P ops Q (o::rest) a w:=by
 unfold wpList at h ⊢;rw[if_pos hw];have:Region.wanted { o with guard:=none } (yielded ops a.tmps)=true:=by simp[Region.wanted]
 rw[if_pos this]at h
 cases o
 exact h
theorem uh{C:Cx}{s:St}{a:Act}{w:World}(Z:b6 C s a w){o:Oper}{j g:Nat}(hg:o.guard=some (j,true))(hd:(ops[j]?).bind (·.dst)=some g)(hv:look s.tmps g = .bool .tt):Region.wanted o (yielded ops a.tmps)=true:=by
 have h:=(Z.slot g (by rw[hv];rfl)).1;rw[hv]at h;simp only[Region.wanted,hg,yielded,hd,Option.bind_some,h];rfl
theorem cZ.re{bo:Option Nat}{m:Nat->Nat->Prop}{w w':World}{pre pre':List (Nat×Blk)}{sets sets':List (Nat×List AV)}{news news':List (Nat×Blk)}(h:cZ bo m w w' pre sets news)(hp:pre'.map (·.2)=pre.map (·.2))(hs:sets'.map (·.2)=sets.map (·.2))(hk:sets'.map (·.1)=pre'.map (·.1))(hn:news'.map (·.2)=news.map (·.2)):cZ bo m w w' pre' sets' news':=by
 have hm:mN m news'=mN m news:=by funext b o;simp only[mN,dK hn]
 have hu:(upd pre' sets'++news').map (·.2)=(upd pre sets++news).map (·.2):=by rw[List.map_append,List.map_append,nW hp hs,hn]
 refine⟨hk,aV (p:=fun b=>w'.heap[b.at_]? = some (.cells (b.cells.map AV.den).toArray b.ty (0,0))) hu h.heap,aV (p:=fun b=>∀v∈b.cells,v.one=true/\Ok (mN m news') w' v) hu (hm ▸ h.ok),aV (p:=fun b=>w.heap.size<=b.at_) hn h.fresh,li hn h.dist,h.chg.mono fun k hk=>hk.imp (dK hp k).2 id⟩
theorem M6.re{f:FuncId}{args args':List AV}{pre pre':List (Nat×Blk)}{bo:Option Nat}{I:Kn}{res res':i8->CR}{J:Nat->i8->Kn}(h:M6 P f args pre bo I res J)(ha:F0 args' args)(hp:pre'.map (·.2)=pre.map (·.2))
  (hr:∀x,(res' x).sets.map (·.2)=(res x).sets.map (·.2)/\(res' x).sets.map (·.1)=pre'.map (·.1)/\Sim (res x).v (res' x).v/\(res' x).news.map (·.2)=(res x).news.map (·.2)):M6 P f args' pre' bo I res' J:=by
 intro m w h1 h2 h3 hI;rw[ha.map];refine(h m w h1 (ha.ok h2) (h3.re hp.symm) hI).mono ?_
 rintro e w' ⟨x,rfl,hok,hl,hb,hJ⟩
 obtain⟨r1,r2,r3,r4⟩:=hr x;have hm:mN m (res' x).news=mN m (res x).news:=by funext b o;simp only[mN,dK r4]
 exact⟨x,by rw[r3.1],by rw[hm];exact r3.2.2 _ _ hok,hl.re hp r1 r2 r4,hb,by rw[hm];exact hJ⟩
theorem M6.args{f:FuncId}{args args':List AV}{pre:List (Nat×Blk)}{bo:Option Nat}{I:Kn}{res:i8->CR}{J:Nat->i8->Kn}(h:M6 P f args' pre bo I res J)(hs:F0 args args'):M6 P f args pre bo I res J:=by
 intro m w hm ha hp hI;rw[hs.map];exact h m w hm (hs.ok ha) hp hI
end
theorem ShD.empty{m:Nat->Nat->Prop}{w:World}{b:Nat}(h:Z4 Tryz.prog 24 w b 0 (.map []))(E:Adr):ShD (.map []) E b [] m w:=
 ⟨h,.nil,fun p hp=>(by cases hp),fun kl=>⟨fun h=>(by cases h),fun⟨p,hp,_⟩=>(by cases hp)⟩,rfl,fun p hp=>(by cases hp),fun p hp=>(by cases hp)⟩
end
end Go.Proofs.YtmbkanpapkhnaaaGreat.Sym
namespace Go.Proofs.YtmbkanpapkhnaaaGreat
open Go.RowKit Sym
theorem I3(l:List Itm):b4 (itF l) l.length=l:=by
 apply List.ext_getElem
 .simp [b4]
 intro i h1 h2;simp[b4,itF,List.getD,h2]
def r8(l:Lab)(key:Int):Bool:=isL l&&decide ((A6 key.toNat l.len.toNat:Int)=l.bits)
def k8(l:Lab)(b:Int):Lab:=⟨l.len+1,if b=1 then l.bits+(2^(63-l.len.toNat):Nat)else l.bits⟩
def dX(v:Int)(n:Nat):List UInt8:=(K6 64 v.toNat).take n
theorem eR(v:Int){n:Nat}(hn:n<=64):(dX v n).length=n:=by unfold dX;rw[List.length_take,Y7];omega
theorem qq{v:Int}{n:Nat}:∀c∈dX v n,c=48 \/ c=49:=fun c hc=>gM c (List.mem_of_mem_take hc)
theorem eb{v:Int}(h:U64 v):v.toNat<2^64:=by have:=h.1;have:=h.2;omega
theorem xG{n a b:Nat}(ha:a<2^n)(hb:b<2^n)(h:K6 n a=K6 n b):a=b:=by
 have:=congrArg Z8 h;rw[lk,lk,Nat.mod_eq_of_lt ha,Nat.mod_eq_of_lt hb]at this;exact this
theorem rV{v n:Nat}(hv:v<2^64)(hn:n<=64):v / 2^(64-n)<2^n:=by
 rw[Nat.div_lt_iff_lt_mul (Nat.pow_pos (by decide)),<-Nat.pow_add,show n+(64-n)=64 by omega];exact hv
theorem r7{l:Lab}(h:isL l=true):0<=l.len/\l.len<=64/\(A6 l.bits.toNat l.len.toNat:Int)=l.bits:=by
 unfold isL at h;simp only[Bool.and_eq_true,decide_eq_true_eq]at h;exact⟨h.1.1,h.1.2,h.2⟩
theorem yE{l:Lab}(hl:isL l=true)(hb:U64 l.bits){key:Int}(hk:U64 key):decide (dX l.bits l.len.toNat=dX key l.len.toNat)=r8 l key:=by
 obtain⟨h0,h1,h2⟩:=r7 hl;have hn:l.len.toNat<=64:=by omega
 unfold r8;rw[hl,Bool.true_and];rw[Bool.eq_iff_iff,decide_eq_true_eq,decide_eq_true_eq];unfold dX;rw[lu _ _ hn,lu _ _ hn]
 constructor
 .intro h
  have:=xG (rV (eb hb) hn) (rV (eb hk) hn) h;rw[<-h2];unfold A6;rw[this]
 intro h;have e:A6 key.toNat l.len.toNat=l.bits.toNat:=by omega
 unfold A6 at e;rw[<-e,Nat.mul_div_cancel _ (Nat.pow_pos (by decide))]
theorem bH{n:Nat}(h:n<64):2^(64-n)=2*2^(63-n):=by
 have h9:64-n=(63-n)+1:=by omega
 rw[h9,Nat.pow_succ,Nat.mul_comm]
theorem gN{l:Lab}(hl:isL l=true)(hb:U64 l.bits)(h64:l.len≠64):∃q,l.bits=((q*(2*2^(63-l.len.toNat)):Nat):Int)/\q*(2*2^(63-l.len.toNat))+2*2^(63-l.len.toNat)<=2^64:=by
 obtain⟨h0,h1,h2⟩:=r7 hl;have hn:l.len.toNat<64:=by omega
 refine⟨l.bits.toNat / 2^(64-l.len.toNat),?_,?_⟩
 .rw [<-h2]
  unfold A6;rw[bH hn]
  congr 1
  have:(((l.bits.toNat / (2*2^(63-l.len.toNat))*(2*2^(63-l.len.toNat)):Nat):Int).toNat)=l.bits.toNat / (2*2^(63-l.len.toNat))*(2*2^(63-l.len.toNat)):=Int.toNat_natCast _;have hpos:0<2*2^(63-l.len.toNat):=Nat.mul_pos (by decide) (Nat.pow_pos (by decide));rw[this,Nat.mul_div_cancel _ hpos]
 have h3:=rV (eb hb) (show l.len.toNat<=64 by omega)
 rw[<-bH hn];have:=Nat.mul_le_mul_right (2^(64-l.len.toNat)) (Nat.succ_le_of_lt h3);rw[<-Nat.pow_add,show l.len.toNat+(64-l.len.toNat)=64 by omega,Nat.succ_mul]at this;exact this
theorem dH{l:Lab}(hl:isL l=true)(hb:U64 l.bits)(h64:l.len≠64)(b:Int):U64 (k8 l b).bits:=by
 obtain⟨q,h1,h2⟩:=gN hl hb h64;unfold k8;simp only
 split
 .rw [h1];constructor
  .omega
  have:0<2^(63-l.len.toNat):=Nat.pow_pos (by decide);omega
 exact hb
theorem ft{l:Lab}(hl:isL l=true)(hb:U64 l.bits)(h64:l.len≠64)(b:Int):isL (k8 l b)=true:=by
 obtain⟨q,h1,h2⟩:=gN hl hb h64;obtain⟨h3,h4,h5⟩:=r7 hl;have hlen:(l.len+1).toNat=l.len.toNat+1:=by omega
 have hpow:64-(l.len.toNat+1)=63-l.len.toNat:=by omega
 unfold isL k8;simp only[Bool.and_eq_true,decide_eq_true_eq];refine⟨⟨by omega,by omega⟩,?_⟩;unfold A6;rw[hlen,hpow];have hp:0<2^(63-l.len.toNat):=Nat.pow_pos (by decide)
 split
 .have e:(l.bits+((2^(63-l.len.toNat):Nat):Int)).toNat=(q*2+1)*2^(63-l.len.toNat):=by
   rw[h1,Nat.add_mul,Nat.one_mul,Nat.mul_assoc];omega
  rw[e,Nat.mul_div_cancel _ hp,h1,Nat.add_mul,Nat.one_mul,Nat.mul_assoc];omega
 have e:l.bits.toNat=(q*2)*2^(63-l.len.toNat):=by rw[h1,Nat.mul_assoc];omega
 rw[e,Nat.mul_div_cancel _ hp,h1,Nat.mul_assoc]
theorem nI{l:Lab}(hl:isL l=true)(hb:U64 l.bits)(h64:l.len≠64){key:Int}(hk:U64 key)(hc:r8 l key=true) :
  r8 (k8 l 0) key=decide (key<(k8 l 1).bits)/\r8 (k8 l 1) key=decide ((k8 l 1).bits<=key):=by
 obtain⟨q,h1,h2⟩:=gN hl hb h64;obtain⟨h3,h4,h5⟩:=r7 hl;have hlen:(l.len+1).toNat=l.len.toNat+1:=by omega
 have hpow:64-(l.len.toNat+1)=63-l.len.toNat:=by omega
 have hn:l.len.toNat<64:=by omega
 obtain⟨M,hM⟩:=eqv (2^(63-l.len.toNat));have hp:0<M:=by rw[hM];exact Nat.pow_pos (by decide)
 have hh:(A6 key.toNat l.len.toNat:Int)=l.bits:=by
  unfold r8 at hc;simp only[Bool.and_eq_true,decide_eq_true_eq]at hc;exact hc.2
 rw[<-hM]at h1;have hq:key.toNat / (2*M)=q:=by
  unfold A6 at hh;rw[bH hn,<-hM,h1]at hh;have:key.toNat / (2*M)*(2*M)=q*(2*M):=by omega
  exact Nat.eq_of_mul_eq_mul_right (by omega) this
 have hkey:key.toNat=q*(2*M)+key.toNat % (2*M):=by
  have:=Nat.div_add_mod key.toNat (2*M);rw[hq,Nat.mul_comm]at this;omega
 have hr:=Nat.mod_lt key.toNat (show 0<2*M by omega)
 have hdiv:key.toNat / M=q*2+key.toNat % (2*M) / M:=by
  conv=>lhs;rw[hkey]
  rw[<-Nat.mul_assoc,Nat.mul_comm,Nat.mul_add_div hp]
 have hk0:=hk.1;unfold r8;rw[ft hl hb h64 0,ft hl hb h64 1,Bool.true_and,Bool.true_and];unfold k8 A6;simp only[hlen,hpow,<-hM,if_true,show ¬((0:Int)=1)by decide,if_false,hdiv,h1]
 by_cases hlt:key.toNat % (2*M)<M
 .rw [Nat.div_eq_of_lt hlt,Nat.add_zero,Nat.mul_assoc]
  constructor
  .rw [decide_eq_true rfl,eq_comm,decide_eq_true_eq];omega
  rw[Bool.eq_iff_iff,decide_eq_true_eq,decide_eq_true_eq];omega
 have h9:key.toNat % (2*M) / M=1:=by
  have h10:=Nat.div_lt_of_lt_mul (m:=key.toNat % (2*M)) (n:=M) (k:=2) (by omega);have h11:=(Nat.le_div_iff_mul_le hp (x:=1) (y:=key.toNat % (2*M))).2 (by omega);omega
 rw[h9,Nat.add_mul,Nat.one_mul,Nat.mul_assoc]
 constructor
 .rw [Bool.eq_iff_iff,decide_eq_true_eq,decide_eq_true_eq];omega
 rw[Bool.eq_iff_iff,decide_eq_true_eq,decide_eq_true_eq];omega
theorem ma{l:Lab}(hl:isL l=true)(hb:U64 l.bits)(h64:l.len≠64)(b:Int)(hb01:b=0 \/ b=1) :
  Z8 (dX l.bits l.len.toNat ++ [if b=1 then 49 else 48]++List.replicate (64-(l.len.toNat+1)) 48)=(k8 l b).bits.toNat:=by
 obtain⟨h3,h4,h5⟩:=r7 hl;have hn:l.len.toNat<64:=by omega
 have hh:=ku (eb hb) (show l.len.toNat<=64 by omega)
 rw[ax,fT,List.length_replicate,Nat.add_zero,bH hn]at hh;have hpow:64-(l.len.toNat+1)=63-l.len.toNat:=by omega
 have h0:=hb.1;rw[List.append_assoc,List.singleton_append,ax,iY,fT,List.length_cons,List.length_replicate,hpow,Nat.pow_succ,Nat.mul_comm (2^(63-l.len.toNat)) 2];unfold dX;rw[hh];unfold k8;clear hh
 generalize A6 l.bits.toNat l.len.toNat=H at h5 ⊢
 generalize 2^(63-l.len.toNat)=M
 rcases hb01 with rfl|rfl
 .simp only[show ¬((0:Int)=1)by decide,if_false]
  have:((48:UInt8).toNat-48)=0:=by decide
  rw[this];omega
 simp only[if_true];have:((49:UInt8).toNat-48)=1:=by decide
 rw[this,Nat.one_mul];omega
def K3(l:Lab)(its:List Itm):List Itm:=its.filter fun x=>r8 l x.key
def J5(kd:Int)(n:Nat)(f:Nat->Itm)(nx:Lab)(mk:Int)(l:Lab):Rec×Rec×Int:=
 if(D9 kd n f nx mk&&isL l&&decide ((K3 l (b4 f n)).length=n))=false then(i9,i9,1)
 else if kd≠1/\kd≠3 then(i9,i9,13)else if l.len=64 then(i9,i9,5)
 else(⟨1,K3 (k8 l 0) (b4 f n),k8 l 1,0⟩,⟨1,K3 (k8 l 1) (b4 f n),nx,0⟩,0)
theorem Cj{l:Lab}{its:List Itm}:(K3 l its).length=its.length ↔ ∀x∈its,r8 l x.key=true:=by
 unfold K3;exact List.length_filter_eq_length_iff
def ovl(n:Nat)(f:Nat->Itm)(n2:Nat)(f2:Nat->Itm):Bool:=decide (0<n)&&(decide (0<n2)&&decide ((f2 0).key<=(f (n-1)).key))
def bS(kd:Int)(n:Nat)(f:Nat->Itm)(nx:Lab)(mk:Int)(kd2:Int)(n2:Nat)(f2:Nat->Itm)(nx2:Lab)(mk2:Int):Rec×Int:=
 if(D9 kd n f nx mk&&D9 kd2 n2 f2 nx2 mk2)=false then(i9,1)else if ovl n f n2 f2=true then(i9,1)
 else if ¬(kd=1 \/ kd=5) \/ ¬(kd2=1 \/ kd2=5)then(i9,13)else if 16<n+n2 then(i9,12)else(⟨1,b4 f n++b4 f2 n2,nx2,0⟩,0)
theorem E4{kd:Int}{n:Nat}{f:Nat->Itm}{nx:Lab}{mk:Int}(h:D9 kd n f nx mk=true):1<=kd/\kd<=5/\n<=16/\(nx=B9 \/ isL nx=true)/\okF f n=true:=by
 rw[cQ]at h;simp only[Bool.and_eq_true,Bool.not_eq_true',Bool.or_eq_false_iff,decide_eq_false_iff_not]at h;obtain⟨⟨⟨⟨⟨h1,h2⟩,h3⟩,h4⟩,_⟩,h5⟩:=h;refine⟨by omega,by omega,by omega,?_,h5⟩
 by_cases hd:nx=B9
 .exact .inl hd
 right
 cases hl:isL nx with
 |true=>rfl
 |false=>simp[hd,hl]at h4
def G4(l:Lab):Int:=if isL l=false then 1 else if l.len=0 then 7 else 0
def N8(l:Lab):Lab:=⟨l.len-1,(A6 l.bits.toNat (l.len.toNat-1):Nat)⟩
def G1(l:Lab):Lab:=if G4 l=0 then N8 l else⟨0,0⟩
theorem vh(v n:Nat):A6 v n<=v:=Nat.div_mul_le_self _ _
theorem tq{v:Int}(hv:U64 v)(n:Nat):U64 ((A6 v.toNat n:Nat):Int):=by
 have:=vh v.toNat n;have h1:=hv.1;have h2:=hv.2;exact⟨by omega,by omega⟩
theorem Hn{l:Lab}(hb:U64 l.bits):U64 (N8 l).bits:=tq hb _
theorem lE{v n:Nat}:A6 (A6 v n) n=A6 v n:=by
 unfold A6;rw[Nat.mul_div_cancel _ (Nat.pow_pos (by decide))]
theorem sM{l:Lab}(hl:isL l=true)(hb:U64 l.bits)(h0:l.len≠0):isL (N8 l)=true:=by
 obtain⟨h1,h2,_⟩:=r7 hl;unfold isL N8;simp only[Bool.and_eq_true,decide_eq_true_eq];refine⟨⟨by omega,by omega⟩,?_⟩;rw[show(l.len-1).toNat=l.len.toNat-1 by omega,Int.toNat_natCast,lE]
theorem lp{n v k:Nat}(hv:v<2^n)(hm:v % 2^k=0):v &&& (2^n-1-2^k)=v / 2^(k+1)*2^(k+1):=by
 apply Nat.eq_of_testBit_eq;intro i;rw[Nat.testBit_and,Nat.testBit_mul_two_pow,Nat.testBit_div_two_pow];have hvk:∀i,i<k->v.testBit i=false:=by
  intro i hi;obtain⟨q,hq⟩:=Nat.dvd_of_mod_eq_zero hm;rw[hq,Nat.mul_comm,Nat.testBit_mul_two_pow];simp[show ¬k<=i by omega]
 by_cases h1:i<k
 .simp [hvk i h1,show ¬(k+1<=i)by omega]
 by_cases hin:i<n
 .by_cases hkn:k<n
  .rw [show 2^n-1-2^k=2^n-(2^k+1)by omega,Nat.testBit_two_pow_sub_succ (Nat.pow_lt_pow_right (by decide) hkn),Nat.testBit_two_pow]
   by_cases h2:i=k
   .subst h2;simp;intro h;omega
   simp[hin,show ¬k=i by omega,show k+1<=i by omega,show i-(k+1)+(k+1)=i by omega]
  exfalso;omega
 have hvi:v.testBit i=false:=Nat.testBit_lt_two_pow (Nat.lt_of_lt_of_le hv (Nat.pow_le_pow_right (by decide) (by omega)));rw[hvi]
 by_cases h3:k+1<=i
 .simp [show i-(k+1)+(k+1)=i by omega,hvi]
 simp[h3]
theorem sj{l:Lab}(hl:isL l=true)(hb:U64 l.bits)(h0:l.len≠0):o9 .andNot .u64 l.bits ((2^(64-l.len.toNat):Nat):Int)=(N8 l).bits:=by
 obtain⟨h1,h2,h3⟩:=r7 hl;obtain⟨n,hn⟩:∃n:Nat,l.len=n:=⟨l.len.toNat,by omega⟩
 have hn0:0<n:=by omega
 have hn64:n<=64:=by omega
 have hlt:=eb hb;have hm:l.bits.toNat % 2^(64-n)=0:=by
  have:l.bits.toNat=A6 l.bits.toNat n:=by rw[hn]at h3;simp at h3;omega
  rw[this];unfold A6;exact Nat.mul_mod_left _ _
 show IntKind.u64.wrap (BitVec.ofInt 64 l.bits &&& ~~~BitVec.ofInt 64 _).toNat=_
 have hp:2^(64-n)<2^64:=Nat.pow_lt_pow_right (by decide) (by omega);have e1:(BitVec.ofInt 64 l.bits).toNat=l.bits.toNat:=by
  rw[BitVec.toNat_ofInt];have h1:=hb.1;have h2:=hb.2;rw[Int.emod_eq_of_lt h1 (by simpa using h2)]
 have e2:(BitVec.ofInt 64 ((2^(64-l.len.toNat):Nat):Int)).toNat=2^(64-n):=by
  rw[hn,Int.toNat_natCast,BitVec.ofInt_natCast,BitVec.toNat_ofNat,Nat.mod_eq_of_lt hp]
 rw[BitVec.toNat_and,BitVec.toNat_not,e1,e2,show 2^64-1-2^(64-n)=2^64-1-2^(64-n)from rfl,lp hlt hm];unfold N8 A6;simp only[hn,Int.toNat_natCast];rw[show 64-(n-1)=64-n+1 by omega,eU];have:=Nat.div_mul_le_self l.bits.toNat (2^(64-n+1));rw[Nat.mod_eq_of_lt (by omega)]
end Go.Proofs.YtmbkanpapkhnaaaGreat
namespace Go.Proofs.YtmbkanpapkhnaaaGreat.Sym
open Go Go.RowKit
def iC(x y:Int):Int:=if x<y then -1 else if y<x then 1 else 0
theorem Cn{x y:Int}(h:iC x y<0):x<y:=by
 unfold iC at h
 split at h
 .assumption
 split at h<;>omega
theorem yI{x y:Int}(h:x<y):iC x y<0:=by
 unfold iC;rw[if_pos h]
 decide
theorem Co(x y:Int):decide (iC x y=0)=decide (x=y):=by
 unfold iC
 by_cases h1:x<y
 .simp [h1];omega
 by_cases h2:y<x
 .simp [h1,h2];omega
 simp[h1,h2];omega
def bsF(f:Nat->Itm)(key:Int)(lo hi:Nat):Nat:=
 if h:lo<hi then(if(f ((lo+hi) / 2)).key<key then bsF f key ((lo+hi) / 2+1) hi else bsF f key lo ((lo+hi) / 2))else lo
termination_by hi-lo
decreasing_by all_goals omega
theorem dI{f:Nat->Itm}{key:Int}{lo hi:Nat}(h:¬lo<hi):bsF f key lo hi=lo:=by rw[bsF,dif_neg h]
theorem oZ{f:Nat->Itm}{key:Int}{lo hi m:Nat}(h:lo<hi)(hm:m=(lo+hi) / 2)(hk:(f m).key<key):bsF f key lo hi=bsF f key (m+1) hi:=by
 subst hm;conv=>lhs;rw[bsF]
 rw[dif_pos h,if_pos hk]
theorem pa{f:Nat->Itm}{key:Int}{lo hi m:Nat}(h:lo<hi)(hm:m=(lo+hi) / 2)(hk:¬(f m).key<key):bsF f key lo hi=bsF f key lo m:=by
 subst hm;conv=>lhs;rw[bsF]
 rw[dif_pos h,if_neg hk]
def bX(f:Nat->Itm)(key:Int)(n p:Nat):Bool:=decide (p<n)&&decide ((f p).key=key)
theorem Bc(lo hi:Nat)(h:lo+hi<1000000000):IntKind.i64.wrap (P9 .shr .u64 (IntKind.u64.wrap ((lo:Int)+(hi:Int))) 1)=(((lo+hi) / 2:Nat):Int):=by
 rw[wrap_u64 _ ⟨by omega,by omega⟩];have e:P9 .shr .u64 ((lo:Int)+(hi:Int)) 1=(((lo+hi) / 2:Nat):Int):=by
  have h1:=zE (v:=(lo:Int)+(hi:Int)) ⟨by omega,by omega⟩ 1 (by decide);rw[show((1:Nat):Int)=1 from rfl]at h1;rw[h1,show((lo:Int)+(hi:Int)).toNat=lo+hi by omega]
 rw[e,o8 (by omega) (by omega)]
theorem nC:j6 Tryz.prog 135:=fun _ _=>by kernel_rfl
theorem Dp(x:Int):j7 Tryz.prog 135 [.int .u64 x] (fun _=>.bool .ff):=by
 intro m w hm hargs;refine en 6 hm hargs Tryz.func135 fun B O a0 Z=>?_
 refine wp_seq (rg O a6 [0] [] [] Z fun X0 _ _ Z=>?_);refine wp_seq (rg O a6 [2] [] [] Z fun X1 _ _ Z=>?_);refine wp_ret ((rsi O a6 Z f8 (he:=?_)));subst O;exact Sim.bool (by simp[BE.den,std,a8];rfl)
theorem qk:j6 Tryz.prog 70:=fun _ _=>by kernel_rfl
theorem Ia(x y:Int):j7 Tryz.prog 70 [.int .u64 x,.int .u64 y] (fun _=>.int .i64 (iC x y)):=by
 intro m w hm hargs;refine en 20 hm hargs Tryz.func70 fun B O a0 Z=>?_
 refine wp_seq (rg O a6 [0,1] [] [] Z fun X0 _ _ Z=>?_);refine wp_seq (rg O a6 [0,1,5] [] [(1,.r fun _=>.bool .ff)] Z (hob:=?hob) fun X1 _ _ Z=>?_)
 case hob=>
  intro X;subst O;exact⟨⟨nC,Dp x⟩,trivial⟩
 refine wp_seq (rg O a6 [0,1,5,6] [] [(1,.r fun _=>.bool .ff)] Z (hob:=?hob) fun X2 _ _ Z=>?_)
 case hob=>
  intro X;subst O;exact⟨⟨nC,Dp y⟩,trivial⟩
 refine wp_seq (wp_seq (rg O a6 [11,0,1,6] [] [] Z fun X3 _ _ Z=>?_));refine j3 Z rfl (fun Z=>?_);refine wp_skip (wp_seq (wp_seq (rg O a6 [13,0,1] [] [] Z fun X7 _ _ Z=>?_)));refine j3 Z rfl (fun Z=>?_);refine wp_skip (wp_seq (wp_seq (rg O a6 [16,0,1] [] [] Z fun X9 _ _ Z=>?_)));apply a7 Z rfl<;>intro hb Z
 .have h1:x<y:=by subst O;simpa[std,a8]using hb
  refine wp_seq (rg O a6 [4] [] [] Z fun X10 _ _ Z=>?_);refine wp_ret ((rsp O a6 Z f8 (he:=?_)).1);simp only[iC,h1,if_true];rfl
 have h1:¬x<y:=by subst O;simpa[std,a8]using hb
 refine wp_skip (wp_seq (wp_seq (rg O a6 [19] [] [] Z fun X11 _ _ Z=>?_)));apply a7 Z rfl<;>intro hb Z
 .have h2:y<x:=by subst O;simpa[std,a8]using hb
  refine wp_seq (rg O a6 [4] [] [] Z fun X12 _ _ Z=>?_);refine wp_ret ((rsp O a6 Z f8 (he:=?_)).1);simp only[iC,h1,h2,if_true,if_false];rfl
 have h2:¬y<x:=by subst O;simpa[std,a8]using hb
 refine wp_skip (wp_seq (rg O a6 [4] [] [] Z fun X13 _ _ Z=>?_));refine wp_ret ((rsp O a6 Z f8 (he:=?_)).1);simp only[iC,h1,h2,if_false];rfl
theorem nv:j6 Tryz.prog 256:=fun _ _=>by kernel_rfl
theorem DD(k:Int)(v:ByteArray)(y:Int):j7 Tryz.prog 256 [.agg [.int .u64 k,.str v],.int .u64 y] (fun _=>.int .i64 (iC k y)):=by
 intro m w hm hargs;obtain⟨c,hc⟩:=eqv (iC k y);have S:=Ia k y;rw[<-hc]at S;refine en 9 hm hargs Tryz.func256 fun B O a0 Z=>?_
 refine wp_seq (rg O a6 [1,2] [2] [] Z fun X0 _ _ Z=>?_);refine wp_seq (rg O a6 [4] [] [(3,.r fun _=>.int .i64 c)] Z (hob:=?hob) fun X1 _ _ Z=>?_)
 case hob=>
  intro X;subst O;first|exact⟨⟨qk,S⟩,trivial⟩|exact⟨rfl,⟨qk,S⟩,trivial⟩
 refine wp_ret ((rsp O a6 Z f8 (he:=?_)).1);rw[hc];rfl
theorem vq:j6 Tryz.prog 255:=fun _ _=>by kernel_rfl
theorem IY(A:Option Addr)(n c:Nat)(f:Nat->Itm)(hn:n<=1000000)(key:Int):j7 Tryz.prog 255 [l7 A n c f,.int .u64 key,.fn 256 [] []] (fun _=>.tup [.int .i64 (bsF f key 0 n:Nat),.bool (.v (bX f key n (bsF f key 0 n)))]):=by
 intro m w hm hargs;have hmx:maxLen=9223372036854775807:=rfl;unfold l7 at hargs
 try unfold l7
 refine en 49 hm hargs Tryz.func255 fun B O a0 Z=>?_
 refine wp_seq (rg O a6 [0,1,2] [] [] Z fun X0 _ _ Z=>?_);refine wp_seq (rg O a6 [8,0,1,2] [] [] Z fun X1 _ _ Z=>?_);replace Z:=Z.head (v':=.int .i64 (n:Int)) (by subst O;rfl);refine wp_seq (rg O a6 [9,10,0,1,2,8] [] [] Z fun X2 _ _ Z=>?_);refine wp_seq (wp_block (l5 (ι:=Nat×Nat) (fun p=>[(9,.int .i64 (p.1:Int)),(10,.int .i64 (p.2:Int))]) (fun p=>[]) (fun p=>[]) (fun p=>p.1<=p.2/\p.2<=n/\bsF f key p.1 p.2=bsF f key 0 n) (fun p=>p.2-p.1) (0,n) ⟨Nat.zero_le _,Nat.le_refl _,rfl⟩ Z ?_))
 rintro⟨lo,hi⟩ ⟨hlh,hhn,hbs⟩ _ _ Z
 try dsimp only at hlh
 try dsimp only at hhn
 try dsimp only at hbs
 refine wp_seq (wp_seq (rg O a6 [17,9,10,0,1,2,8] [] [] Z fun X3 _ _ Z=>?_));apply a7 Z rfl<;>intro hb Z
 .have hlt:lo<hi:=by
   have:(lo:Int)<(hi:Int):=by subst O;simpa[std,a8]using hb
   omega
  refine wp_skip (wp_block (wp_seq (rg O a6 [11,9,10,0,1,2,8] [] [] Z fun X4 _ _ Z=>?_)));obtain⟨m,hm⟩:∃m:Nat,m=(lo+hi) / 2:=⟨_,rfl⟩
  have hmlo:lo<=m/\m<hi:=by omega
  replace Z:=Z.head (v':=.int .i64 (m:Int)) (by
   subst O
   show AV.int .i64 (IntKind.i64.wrap (P9 .shr .u64 (IntKind.u64.wrap (IntKind.i64.wrap ((lo:Int)+(hi:Int)))) 1))=_
   rw[o8 (x:=(lo:Int)+(hi:Int)) (by omega) (by omega),Bc lo hi (by omega),hm])
  obtain⟨cv,hcv⟩:=eqv (iC (f m).key key);have S1:=DD (f m).key (f m).val key;rw[<-hcv]at S1;refine wp_seq (rg O a6 [31,11,9,10,0,1,2,8] [] [(6,.r fun _=>.int .i64 cv)] Z (hob:=?hob) fun X5 _ _ Z=>?_)
  case hob=>
   intro X;subst O;refine⟨⟨?_,?_⟩,⟨nv,?_⟩,trivial⟩
   .show (0:Int)<=(m:Int);omega
   .show (m:Int)<(n:Int);omega
   exact S1
  apply a7 Z rfl<;>intro hb Z
  .have hlt2:(f m).key<key:=by
    have h9:cv<0:=by subst O;simpa[std,a8]using hb
    rw[hcv]at h9;exact Cn h9
   have e:B.arith .add .i64 (m:Int) 1=((m+1:Nat):Int):=by subst O;exact o3 (n:=n) (by omega) (by omega)
   refine rg O a6 [9,10,0,1,2,8] [] [] Z fun X6 _ _ Z=>?_
   refine⟨(m+1,hi),⟨by simp only;omega,hhn,?_⟩,by simp only;omega,by rw[<-e];exact Z⟩;exact(oZ hlt hm hlt2).symm.trans hbs
  have hlt2:¬(f m).key<key:=by
   have h9:¬cv<0:=by subst O;simpa[std,a8]using hb
   rw[hcv]at h9;exact fun h=>h9 (yI h)
  refine rg O a6 [9,10,0,1,2,8] [] [] Z fun X7 _ _ Z=>?_
  refine⟨(lo,m),⟨by simp only;omega,by simp only;omega,?_⟩,by simp only;omega,Z⟩;exact(pa hlt hm hlt2).symm.trans hbs
 have hge:¬lo<hi:=by
  have:¬(lo:Int)<(hi:Int):=by subst O;simpa[std,a8]using hb
  omega
 have hlo:lo=bsF f key 0 n:=by rw[<-hbs,dI hge]
 obtain⟨cv,hcv⟩:=eqv (iC (f lo).key key);have S2:=DD (f lo).key (f lo).val key;rw[<-hcv]at S2;refine wp_exit (wp_seq (rg O a6 [6,7] [] [(11,.r fun _=>.int .i64 cv)] Z (hob:=?hob) fun X8 _ _ Z=>?_))
 case hob=>
  intro X;subst O;simp only[b7,Ob.holds,BE.den,List.mem_cons,List.not_mem_nil,or_false,forall_eq_or_imp,forall_eq]
  and_intros<;>first|trivial|(intro h;first|trivial|exact⟨nv,S2⟩|(have h2:(lo:Int)<(n:Int):=of_decide_eq_true h;exact⟨Int.natCast_nonneg _,h2⟩))
 refine wp_ret ((rsi O a6 Z f8 (he:=?_)));subst O;rw[<-hlo];refine Sim.tup ⟨zr,Sim.bool ?_,trivial⟩
 show(if decide ((lo:Int)<(n:Int))=true then decide (cv=0)else false)=bX f key n lo
 unfold bX;rw[hcv]
 by_cases h:lo<n
 .have h1:(lo:Int)<(n:Int):=by omega
  rw[if_pos (by simpa using h1)];simp only[h,decide_true,Bool.true_and];exact Co _ _
 have h1:¬(lo:Int)<(n:Int):=by omega
 rw[if_neg (by simpa using h1)];simp[h]
theorem bi:j6 Tryz.prog 222:=fun _ _=>by kernel_rfl
theorem yS(A:Option Addr)(n c:Nat)(f:Nat->Itm)(hn:n<=1000000)(key:Int):j7 Tryz.prog 222 [l7 A n c f,.int .u64 key] (fun _=>.tup [.int .i64 (bsF f key 0 n:Nat),.bool (.v (bX f key n (bsF f key 0 n)))]):=by
 intro m w hm hargs;have S:=IY A n c f hn key;unfold l7 at S hargs ⊢
 generalize bX f key n (bsF f key 0 n)=hh at S ⊢
 generalize bsF f key 0 n=p at S ⊢
 refine en 11 hm hargs Tryz.func222 fun B O a0 Z=>?_
 refine wp_seq (rg O a6 [0,1] [] [] Z fun X0 _ _ Z=>?_);refine wp_seq (rg O a6 [4,5] [] [(2,.r fun _=>.tup [.int .i64 (p:Int),.bool (.v hh)])] Z (hob:=?hob) fun X1 _ _ Z=>?_)
 case hob=>
  intro X;subst O;exact⟨⟨vq,S⟩,trivial⟩
 exact wp_ret ((rsp O a6 Z f8).1)
def chE(l:Lab)(b:Int):Int:=if isL l=false then 1 else if l.len=64 then 5 else 0
def chV(l:Lab)(b:Int):Lab:=if chE l b=0 then k8 l b else⟨0,0⟩
theorem zG{n:Int}(h0:0<=n)(h1:n<64):P9 .shl .u64 1 (IntKind.i64.wrap (63-n))=((2^(63-n.toNat):Nat):Int):=by
 rw[o8 (by omega) (by omega)]
 show IntKind.u64.wrap (1*(2:Int)^(min (63-n).toNat 64))=_
 rw[Nat.min_eq_left (by omega),Int.one_mul,show(63-n).toNat=63-n.toNat by omega,show(2:Int)^(63-n.toNat)=((2^(63-n.toNat):Nat):Int)by simp,eU];have:2^(63-n.toNat)<=2^63:=Nat.pow_le_pow_right (by decide) (by omega);rw[Nat.mod_eq_of_lt (by omega)]
theorem xe{l:Lab}(hl:isL l=true)(hb:U64 l.bits)(h64:l.len≠64):o9 .or .u64 l.bits ((2^(63-l.len.toNat):Nat):Int)=l.bits+((2^(63-l.len.toNat):Nat):Int):=by
 obtain⟨q,h1,h2⟩:=gN hl hb h64;obtain⟨h3,h4,h5⟩:=r7 hl;have hn:l.len.toNat<64:=by omega
 have hp:0<2^(63-l.len.toNat):=Nat.pow_pos (by decide);rw[h1];rw[Ey (a:=q*(2*2^(63-l.len.toNat))) (b:=2^(63-l.len.toNat)) (k:=64-l.len.toNat) (by rw[bH hn];exact Nat.mul_mod_left _ _) (by rw[bH hn];omega) (by omega)];exact Int.natCast_add _ _
theorem R3{l:Lab}{il:Bool}(hil:il=isL l)(h:∀e ∈ [((BE.v il:BE),true)],e.1.den=e.2):0<=l.len/\l.len<=64:=by
 have hl:il=true:=h _ (List.mem_singleton.2 rfl);obtain⟨a,b,_⟩:=r7 (l:=l) (by rw[<-hil];exact hl);exact⟨a,b⟩
theorem nw:j6 Tryz.prog 220:=fun _ _=>by kernel_rfl
theorem yO(n:Int)(h0:0<=n)(h1:n<64):j7 Tryz.prog 220 [.int .i64 n] (fun _=>.int .u64 ((2^(63-n.toNat):Nat):Int)):=by
 intro m w hm hargs;refine en 6 hm hargs Tryz.func220 fun B O a0 Z=>?_
 refine wp_seq (rg O a6 [0] [] [] Z fun X0 _ _ Z=>?_);refine wp_seq (rg O a6 [2] [] [] Z (hob:=?hob) fun X1 _ _ Z=>?_)
 case hob=>
  intro X;subst O;refine⟨?_,trivial⟩
  show 0<=IntKind.i64.wrap (63-n)
  rw[o8 (by omega) (by omega)];omega
 refine wp_ret ((rsi O a6 Z f8 (he:=?_)));subst O;rw[<-zG h0 h1];exact zr
theorem nz:j6 Tryz.prog 160:=fun _ _=>by kernel_rfl
theorem kB(l:Lab)(hb0:U64 l.bits)(b:Int)(hb01:b=0 \/ b=1):j7 Tryz.prog 160 [f4 l,.int .i64 b] (fun _=>.tup [f4 (chV l b),.int .i64 (chE l b)]):=by
 intro m w hm hargs;have SI:=fD l hb0;simp only[f4]at SI hargs ⊢;obtain⟨il,hil⟩:=eqv (isL l);rw[<-hil]at SI;refine en 38 hm hargs Tryz.func160 fun B O a0 Z=>?_
 refine wp_seq (rg O a6 [1,2,4] [2,4] [] Z fun X0 _ _ Z=>?_);refine wp_seq (wp_block (wp_seq (rg O a6 [6,1,2,4] [2,4] [(1,.r fun _=>.bool (.v il))] Z (hob:=?hob) fun X1 _ _ Z=>?_)))
 case hob=>
  intro X;subst O
  repeat(first|exact trivial|refine⟨rfl,?_⟩|refine⟨fun _=>rfl,?_⟩|refine⟨f7 (Kk:=noK) _ _ _ _,?_⟩|refine⟨fun _=>f7 (Kk:=noK) _ _ _ _,?_⟩|refine⟨⟨aE,SI⟩,?_⟩|refine⟨fun _=>⟨aE,SI⟩,?_⟩)
 apply a7 Z rfl<;>intro hb Z
 .have h9:(if(if(!il)=true then true else decide (b<0))=true then true else decide (b>1))=true:=by subst O;exact hb
  have hilf:il=false:=by rcases hb01 with rfl|rfl<;>cases il<;>first|rfl|(simp at h9)
  have hE:chE l b=1:=by unfold chE;rw[<-hil,hilf];rfl
  have hV:chV l b=⟨0,0⟩:=by unfold chV;rw[hE];rfl
  refine wp_seq (rg O a6 [4,5] [4] [] Z (hob:=?hob) fun X2 _ _ Z=>?_)
  case hob=>
   intro X;subst O
   repeat(first|exact trivial|refine⟨rfl,?_⟩|refine⟨fun _=>rfl,?_⟩|refine⟨f7 (Kk:=noK) _ _ _ _,?_⟩|refine⟨fun _=>f7 (Kk:=noK) _ _ _ _,?_⟩)
  refine wp_ret ((rsi O a6 Z f8 (he:=?_)));subst O;rw[hV,hE];exact zr
 have h9:(if(if(!il)=true then true else decide (b<0))=true then true else decide (b>1))=false:=by subst O;exact hb
 have hilt:il=true:=by cases il<;>first|rfl|(simp at h9)
 have hLt:isL l=true:=by rw[<-hil];exact hilt
 obtain⟨hl0,hl1,hl2⟩:=r7 hLt;refine wp_seq (rg O a6 [19,1,2,4] [2,4] [] Z (hob:=?hob) fun X3 _ _ Z=>?_)
 case hob=>
  intro X;subst O
  repeat(first|exact trivial|refine⟨rfl,?_⟩|refine⟨fun _=>rfl,?_⟩|refine⟨f7 (Kk:=noK) _ _ _ _,?_⟩|refine⟨fun _=>f7 (Kk:=noK) _ _ _ _,?_⟩)
 apply a7 Z rfl<;>intro hb Z
 .have h64:l.len=64:=by subst O;simpa[std,a8]using hb
  have hE:chE l b=5:=by unfold chE;rw[<-hil,hilt,if_neg (by decide),if_pos h64]
  have hV:chV l b=⟨0,0⟩:=by unfold chV;rw[hE];rfl
  refine wp_seq (rg O a6 [4,5] [4] [] Z (hob:=?hob) fun X4 _ _ Z=>?_)
  case hob=>
   intro X;subst O
   repeat(first|exact trivial|refine⟨rfl,?_⟩|refine⟨fun _=>rfl,?_⟩|refine⟨f7 (Kk:=noK) _ _ _ _,?_⟩|refine⟨fun _=>f7 (Kk:=noK) _ _ _ _,?_⟩)
  refine wp_ret ((rsi O a6 Z f8 (he:=?_)));subst O;rw[hV,hE];exact zr
 have h64:l.len≠64:=by subst O;simpa[std,a8]using hb
 have hE:chE l b=0:=by unfold chE;rw[<-hil,hilt,if_neg (by decide),if_neg h64]
 have hV:chV l b=k8 l b:=by unfold chV;rw[hE];rfl
 refine wp_skip (wp_seq (wp_seq (rg O a6 [25,2,4] [2,4] [] Z fun X5 _ _ Z=>?_)));refine oT (ι:=Int) (S0:=[(25,_)]) (M0:=[(2,_)]) (G0:=[]) (fun p=>[]) (fun p=>[(2,⟨(X0 0).b,24,[.int .i64 l.len,.int .u64 p]⟩)]) (fun p=>[]) (fun p=>p=(k8 l b).bits) Z ?_ ?_
 .apply a7 Z rfl<;>intro hb Z
  .have hb1:b=1:=by subst O;simpa[std,a8]using hb
   have SB:=yO l.len hl0 (by omega);obtain⟨bt,hbt⟩:=eqv (((2^(63-l.len.toNat):Nat):Int));rw[<-hbt]at SB;have hor:o9 .or .u64 l.bits bt=l.bits+bt:=by rw[hbt];exact xe hLt hb0 h64
   refine drg O a6 [2,4] [2,4] [(4,.r fun _=>.int .u64 bt)] Z (hob:=?hob) fun X6 _ _ Z=>?_
   case hob=>
    intro X;subst O
    repeat(first|exact trivial|refine⟨rfl,?_⟩|refine⟨fun _=>rfl,?_⟩|refine⟨f7 (Kk:=noK) _ _ _ _,?_⟩|refine⟨fun _=>f7 (Kk:=noK) _ _ _ _,?_⟩|refine⟨⟨nw,SB⟩,?_⟩|refine⟨fun _=>⟨nw,SB⟩,?_⟩)
   refine⟨(k8 l b).bits,rfl,?_⟩;have e:(k8 l b).bits=B.arith .or .u64 l.bits bt:=by
    subst O
    show _=o9 .or .u64 l.bits bt
    rw[hor,hb1,hbt];rfl
   rw[e];exact Z
  have hb1:b=0:=by
   have:¬b=1:=by subst O;simpa[std,a8]using hb
   exact hb01.resolve_right this
  exact wp_skip (⟨(k8 l b).bits,rfl,by rw[hb1];exact Z⟩)
 rintro bb hbb _ _ Z
 try dsimp only at hbb
 refine wp_seq (rg O a6 [2,4] [2,4] [] Z (hob:=?hob) fun X7 _ _ Z=>?_)
 case hob=>
  intro X;subst O
  repeat(first|exact trivial|refine⟨rfl,?_⟩|refine⟨fun _=>rfl,?_⟩|refine⟨f7 (Kk:=noK) _ _ _ _,?_⟩|refine⟨fun _=>f7 (Kk:=noK) _ _ _ _,?_⟩)
 refine wp_seq (rg O a6 [4,5] [4] [] Z (hob:=?hob) fun X8 _ _ Z=>?_)
 case hob=>
  intro X;subst O
  repeat(first|exact trivial|refine⟨rfl,?_⟩|refine⟨fun _=>rfl,?_⟩|refine⟨f7 (Kk:=noK) _ _ _ _,?_⟩|refine⟨fun _=>f7 (Kk:=noK) _ _ _ _,?_⟩)
 refine wp_ret ((rsi O a6 Z f8 (he:=?_)));subst O;rw[hV,hE];have e1:IntKind.i64.wrap (l.len+1)=l.len+1:=o8 (by omega) (by omega);refine Sim.tup ⟨Sim.agg ⟨?_,?_,trivial⟩,zr,trivial⟩
 .show Sim (.int .i64 (IntKind.i64.wrap (l.len+1))) _
  rw[e1];exact zr
 rw[hbb];exact zr
theorem qm:j6 Tryz.prog 32:=fun _ _=>by kernel_rfl
theorem DB(l:Lab)(hb0:U64 l.bits)(key:Int)(hk:U64 key):j7 Tryz.prog 32 [f4 l,.int .u64 key] (fun _=>.bool (.v (r8 l key))):=by
 intro m w hm hargs;have SI:=fD l hb0;have SH:=fun h0 h1=>rD key l.len hk h0 h1
 simp only[f4]at SI hargs;unfold r8;obtain⟨il,hil⟩:=eqv (isL l);rw[<-hil]at SI ⊢;obtain⟨hd,hhd⟩:=eqv (((A6 key.toNat l.len.toNat:Nat):Int));rw[<-hhd];simp only[<-hhd]at SH;refine en 16 hm hargs Tryz.func32 fun B O a0 Z=>?_
 refine wp_seq (rg O a6 [1,2] [2] [] Z fun X0 _ _ Z=>?_);refine wp_seq (drg O a6 [4] [] [(1,.r fun _=>.bool (.v il)),(6,.r fun _=>.int .u64 hd)] Z (hob:=?hob) fun X1 _ _ Z=>?_)
 case hob=>
  intro X;subst O
  repeat(first|exact trivial|refine⟨rfl,?_⟩|refine⟨fun _=>rfl,?_⟩|refine⟨⟨aE,SI⟩,?_⟩|refine⟨fun h=>⟨qi,SH (R3 hil h).1 (R3 hil h).2⟩,?_⟩)
 refine wp_ret ((rsi O a6 Z f8 (he:=?_)));subst O;exact Sim.bool (by show(if il=true then decide (hd=l.bits)else false)=_;rw[z8];rfl)
theorem jl:j6 Tryz.prog 191:=fun _ _=>by kernel_rfl
theorem kr(l:Lab)(hb0:U64 l.bits)(h0:0<=l.len)(h1:l.len<=64):j7 Tryz.prog 191 [f4 l] (fun _=>.str (mkB (dX l.bits l.len.toNat))):=by
 intro m w hm hargs;have SB:=pg l.bits hb0;have hz:(mkB (K6 64 l.bits.toNat)).size=64:=by rw[R1,Y7]
 have he:mkB (dX l.bits l.len.toNat)=(mkB (K6 64 l.bits.toNat)).extract 0 l.len.toNat:=by rw[bC,List.drop_zero];rfl
 rw[he];simp only[f4]at hargs
 generalize mkB (K6 64 l.bits.toNat)=bs at SB hz ⊢
 refine en 9 hm hargs Tryz.func191 fun B O a0 Z=>?_
 refine wp_seq (rg O a6 [1] [1] [] Z fun X0 _ _ Z=>?_);refine wp_seq (drg O a6 [2] [] [(2,.r fun _=>.str bs)] Z (hob:=?hob) fun X1 _ _ Z=>?_)
 case hob=>
  intro X;subst O
  repeat(first|exact trivial|refine⟨rfl,?_⟩|refine⟨⟨jj,SB⟩,?_⟩|refine⟨⟨by decide,h0,by show l.len<=(bs.size:Int);rw[hz];exact h1⟩,?_⟩)
 exact wp_ret ((rsp O a6 Z f8).1)
theorem vz:j6 Tryz.prog 154:=fun _ _=>by kernel_rfl
theorem Et(l:Lab)(hb0:U64 l.bits)(key:Int)(hk:U64 key):j7 Tryz.prog 154 [f4 l,.int .u64 key] (fun _=>.bool (.v (r8 l key))):=by
 intro m w hm hargs;have SI:=iR l hb0;have SD:=fun h0 h1=>kr l hb0 h0 h1
 have SB:=pg key hk;have hz:(mkB (K6 64 key.toNat)).size=64:=by rw[R1,Y7]
 have hct:=fun hl=>yE (l:=l) hl hb0 hk
 have he:mkB (dX key l.len.toNat)=(mkB (K6 64 key.toNat)).extract 0 l.len.toNat:=by rw[bC,List.drop_zero];rfl
 simp only[f4]at SI hargs SD;obtain⟨il,hil⟩:=eqv (isL l);rw[<-hil]at SI
 generalize mkB (K6 64 key.toNat)=bs at SB hz he
 obtain⟨d,hd⟩:=eqv (mkB (dX l.bits l.len.toNat));simp only[<-hd]at SD;refine en 17 hm hargs Tryz.func154 fun B O a0 Z=>?_
 refine wp_seq (rg O a6 [1,2] [2] [] Z fun X0 _ _ Z=>?_);refine wp_seq (drg O a6 [4] [] [(1,.r fun _=>.bool (.v il)),(4,.r fun _=>.str d),(6,.r fun _=>.str bs)] Z (hob:=?hob) fun X1 _ _ Z=>?_)
 case hob=>
  intro X;subst O
  repeat(first|exact trivial|refine⟨rfl,?_⟩|refine⟨fun _=>rfl,?_⟩|refine⟨⟨bj,SI⟩,?_⟩|refine⟨fun _=>⟨jj,SB⟩,?_⟩|refine⟨fun h=>⟨jl,SD (R3 hil h).1 (R3 hil h).2⟩,?_⟩|refine⟨fun h=>⟨by decide,(R3 hil h).1,by show l.len<=(bs.size:Int);rw[hz];exact(R3 hil h).2⟩,?_⟩)
 refine wp_ret ((rsi O a6 Z f8 (he:=?_)));subst O;refine Sim.bool ?_
 show(if il=true then(d.toList==(bs.extract 0 l.len.toNat).toList)else false)=r8 l key
 cases hl:il with
 |false=>rw[hl]at hil;unfold r8;rw[<-hil];rfl
 |true=>
  rw[hl]at hil;rw[if_pos rfl,eqB,hd,<-he,aL,aL];exact hct hil.symm
theorem fp:j6 Tryz.prog 188:=fun _ _=>by kernel_rfl
theorem U0(l:Lab)(hb0:U64 l.bits)(b:Int)(hb01:b=0 \/ b=1):j7 Tryz.prog 188 [f4 l,.int .i64 b] (fun _=>.tup [f4 (chV l b),.int .i64 (chE l b)]):=by
 intro m w hm hargs;have SI:=iR l hb0;simp only[f4]at SI hargs ⊢;obtain⟨il,hil⟩:=eqv (isL l);rw[<-hil]at SI;refine en 32 hm hargs Tryz.func188 fun B O a0 Z=>?_
 refine wp_seq (rg O a6 [1,2,4] [2,4] [] Z fun X0 _ _ Z=>?_);refine wp_seq (wp_seq (rg O a6 [16,1,2,4] [2,4] [(1,.r fun _=>.bool (.v il))] Z (hob:=?hob) fun X1 _ _ Z=>?_))
 case hob=>
  intro X;subst O
  repeat(first|exact trivial|refine⟨rfl,?_⟩|refine⟨fun _=>rfl,?_⟩|refine⟨f7 (Kk:=noK) _ _ _ _,?_⟩|refine⟨fun _=>f7 (Kk:=noK) _ _ _ _,?_⟩|refine⟨⟨bj,SI⟩,?_⟩|refine⟨fun _=>⟨bj,SI⟩,?_⟩)
 apply a7 Z rfl<;>intro hb Z
 .have h9:(if(if(!il)=true then true else decide (b<0))=true then true else decide (b>1))=true:=by subst O;exact hb
  have hilf:il=false:=by rcases hb01 with rfl|rfl<;>cases il<;>first|rfl|(simp at h9)
  have hE:chE l b=1:=by unfold chE;rw[<-hil,hilf];rfl
  have hV:chV l b=⟨0,0⟩:=by unfold chV;rw[hE];rfl
  refine wp_seq (rg O a6 [4,5] [4] [] Z (hob:=?hob) fun X2 _ _ Z=>?_)
  case hob=>
   intro X;subst O
   repeat(first|exact trivial|refine⟨rfl,?_⟩|refine⟨fun _=>rfl,?_⟩|refine⟨f7 (Kk:=noK) _ _ _ _,?_⟩|refine⟨fun _=>f7 (Kk:=noK) _ _ _ _,?_⟩)
  refine wp_ret ((rsi O a6 Z f8 (he:=?_)));subst O;rw[hV,hE];exact zr
 have h9:(if(if(!il)=true then true else decide (b<0))=true then true else decide (b>1))=false:=by subst O;exact hb
 have hilt:il=true:=by cases il<;>first|rfl|(simp at h9)
 have hLt:isL l=true:=by rw[<-hil];exact hilt
 obtain⟨hl0,hl1,hl2⟩:=r7 hLt;refine wp_skip (wp_seq (wp_seq (rg O a6 [20,1,2,4] [2,4] [] Z fun X3 _ _ Z=>?_)));apply a7 Z rfl<;>intro hb Z
 .have h64:l.len=64:=by subst O;simpa[std,a8]using hb
  have hE:chE l b=5:=by unfold chE;rw[<-hil,hilt,if_neg (by decide),if_pos h64]
  have hV:chV l b=⟨0,0⟩:=by unfold chV;rw[hE];rfl
  refine wp_seq (rg O a6 [4,5] [4] [] Z (hob:=?hob) fun X4 _ _ Z=>?_)
  case hob=>
   intro X;subst O
   repeat(first|exact trivial|refine⟨rfl,?_⟩|refine⟨fun _=>rfl,?_⟩|refine⟨f7 (Kk:=noK) _ _ _ _,?_⟩|refine⟨fun _=>f7 (Kk:=noK) _ _ _ _,?_⟩)
  refine wp_ret ((rsi O a6 Z f8 (he:=?_)));subst O;rw[hV,hE];exact zr
 have h64:l.len≠64:=by subst O;simpa[std,a8]using hb
 have hE:chE l b=0:=by unfold chE;rw[<-hil,hilt,if_neg (by decide),if_neg h64]
 have hV:chV l b=k8 l b:=by unfold chV;rw[hE];rfl
 refine wp_skip (wp_seq (wp_seq (rg O a6 [23,2,4] [2,4] [] Z fun X5 _ _ Z=>?_)));apply a7 Z rfl<;>intro hb Z
 .have hb1:b=0:=by subst O;simpa[std,a8]using hb
  have SD:=kr l hb0 hl0 hl1;simp only[f4]at SD;obtain⟨d,hd⟩:=eqv (mkB (dX l.bits l.len.toNat));rw[<-hd]at SD;have hds:d.size=l.len.toNat:=by rw[hd,R1];exact eR _ (by omega)
  have hdt:unB (d++⟨#[48]⟩)=dX l.bits l.len.toNat ++ [48]:=by rw[iI,hd,aL];rfl
  have hsz:(d++⟨#[48]⟩:ByteArray).size=l.len.toNat+1:=by rw[<-cg,hdt,List.length_append,eR _ (by omega)];rfl
  have SO:=xk (d++⟨#[48]⟩) (fun x hx=>by rw[hdt]at hx;rcases List.mem_append.1 hx with hx|hx;exact qq x hx;rw[List.mem_singleton.1 hx];decide) (by omega);obtain⟨k,hk⟩:=eqv (ofT (d++⟨#[48]⟩));rw[<-hk]at SO;simp only[f4]at SO;have hkl:k=k8 l b:=by
   have ht:=ma hLt hb0 h64 b hb01;have hu:=dH hLt hb0 h64 b;rw[hk];unfold ofT;rw[hdt,hsz];have e1:(k8 l b).len=l.len+1:=rfl;have e2:∀k:Lab,k=⟨k.len,k.bits⟩:=fun k=>rfl
   rw[e2 (k8 l b),e1]
   congr 1
   .omega
   have h0:=hu.1;have e3:(if b=1 then(49:UInt8)else 48)=48:=by rw[hb1];rfl
   rw[e3]at ht;rw[ht];omega
  refine wp_seq (rg O a6 [4,5] [4] [(1,.r fun _=>.str d),(3,.r fun _=>.agg [.int .i64 k.len,.int .u64 k.bits])] Z (hob:=?hob) fun X6 _ _ Z=>?_)
  case hob=>
   intro X;subst O
   repeat(first|exact trivial|refine⟨(show d.size+1<=maxLen by simp only[maxLen];omega),?_⟩|refine⟨rfl,?_⟩|refine⟨⟨jl,SD⟩,?_⟩|refine⟨⟨jk,SO⟩,?_⟩)
  refine wp_ret ((rsi O a6 Z f8 (he:=?_)));subst O;rw[hV,hE,<-hkl];exact zr
 have hb1:b=1:=by
  have:¬b=0:=by subst O;simpa[std,a8]using hb
  exact hb01.resolve_left this
 have SD:=kr l hb0 hl0 hl1;simp only[f4]at SD;obtain⟨d,hd⟩:=eqv (mkB (dX l.bits l.len.toNat));rw[<-hd]at SD;have hds:d.size=l.len.toNat:=by rw[hd,R1];exact eR _ (by omega)
 have hdt:unB (d++⟨#[49]⟩)=dX l.bits l.len.toNat ++ [49]:=by rw[iI,hd,aL];rfl
 have hsz:(d++⟨#[49]⟩:ByteArray).size=l.len.toNat+1:=by rw[<-cg,hdt,List.length_append,eR _ (by omega)];rfl
 have SO:=xk (d++⟨#[49]⟩) (fun x hx=>by rw[hdt]at hx;rcases List.mem_append.1 hx with hx|hx;exact qq x hx;rw[List.mem_singleton.1 hx];decide) (by omega);obtain⟨k,hk⟩:=eqv (ofT (d++⟨#[49]⟩));rw[<-hk]at SO;simp only[f4]at SO;have hkl:k=k8 l b:=by
  have ht:=ma hLt hb0 h64 b hb01;have hu:=dH hLt hb0 h64 b;rw[hk];unfold ofT;rw[hdt,hsz];have e1:(k8 l b).len=l.len+1:=rfl;have e2:∀k:Lab,k=⟨k.len,k.bits⟩:=fun k=>rfl
  rw[e2 (k8 l b),e1]
  congr 1
  .omega
  have h0:=hu.1;have e3:(if b=1 then(49:UInt8)else 48)=49:=by rw[hb1];rfl
  rw[e3]at ht;rw[ht];omega
 refine wp_skip (wp_seq (rg O a6 [4,5] [4] [(1,.r fun _=>.str d),(3,.r fun _=>.agg [.int .i64 k.len,.int .u64 k.bits])] Z (hob:=?hob) fun X7 _ _ Z=>?_))
 case hob=>
  intro X;subst O
  repeat(first|exact trivial|refine⟨(show d.size+1<=maxLen by simp only[maxLen];omega),?_⟩|refine⟨rfl,?_⟩|refine⟨⟨jl,SD⟩,?_⟩|refine⟨⟨jk,SO⟩,?_⟩)
 refine wp_ret ((rsi O a6 Z f8 (he:=?_)));subst O;rw[hV,hE,<-hkl];exact zr
structure Nt where
 code:Int
 had:Bool
 val:ByteArray
structure Rsl where
 code:Int
 had:Bool
 val:ByteArray
 items:List Itm
 key:Int
 more:Bool
deriving DecidableEq
def aJ:Rsl:=⟨0,false,⟨#[]⟩,[],0,false⟩
structure Wq where
 kind:Int
 lab:Lab
 ver:Int
 r:Rec
 res:Rsl
deriving DecidableEq
def zWq:Wq:=⟨0,⟨0,0⟩,0,i9,aJ⟩
structure Pst where
 n:Nat
 g:Nat->u2
 note:Nt
def Pst.tl(p:Pst):Pst:=⟨p.n-1,fun j=>p.g (j+1),p.note⟩
inductive Rs(α : Type)where
 |ok (a:α) (p:Pst)
 |stop (w:Wq) (p:Pst)
def Rs.bind{α β : Type}(m:Rs α)(f:α->Pst->Rs β):Rs β:=match m with
 | .ok a p=>f a p
 | .stop w p=>.stop w p
def Dl(p:Pst):Wq:=⟨4,⟨0,0⟩,0,i9,⟨p.note.code,p.note.had,p.note.val,[],0,false⟩⟩
def U3(k:Int)(w:Wq)(p:Pst):Rs u2:=if 0<p.n/\0<(p.n:Int)+k then .ok (p.g 0) p.tl else .stop (if(p.n:Int)+k<=0 then Dl p else w) p
def K0(k:Int)(l:Lab)(p:Pst):Rs u2:=U3 k ⟨1,l,0,i9,aJ⟩ p
def P3(k:Int)(l:Lab)(v:Int)(r:Rec)(p:Pst):Rs Bool:=(U3 k ⟨2,l,v,r,aJ⟩ p).bind fun g p=>.ok (decide (g.code=0)) p
def iq(k:Int)(l:Lab)(v:Int)(p:Pst):Rs Bool:=(U3 k ⟨3,l,v,i9,aJ⟩ p).bind fun g p=>.ok (decide (g.code=0)) p
def gk(g:u2)(kd:Int):Bool:=g.has&&decide (g.x.r.kd=kd)
def asR(kd:Int)(x:RA)(mk:Int):RA:=⟨x.A,x.c,⟨x.r.n,x.r.f,kd,x.r.nx,mk⟩⟩
def eK:Rec:=⟨2,[],B9,0⟩
def R8(x:RA)(l:Lab):Rec×Rec×Int:=J5 x.r.kd x.r.n x.r.f x.r.nx x.r.mrk l
def dg(x y:RA):Rec×Int:=bS x.r.kd x.r.n x.r.f x.r.nx x.r.mrk y.r.kd y.r.n y.r.f y.r.nx y.r.mrk
def A5(k:Int)(l:Lab)(v:Int)(c:Lab)(x:Rec):Nat->Pst->Rs Bool
 |0,p=>.stop zWq p
 |n+1,p=>(K0 k c p).bind fun g p=>if(g.has && !decide (g.x.r.kd=5))=true then .ok true p else(K0 k l p).bind fun q p=>if q.ver=v then(P3 k c g.ver x p).bind fun d p=>if d=true then .ok true p else A5 k l v c x n p else .ok false p
def u4(k:Int)(n:Nat)(l:Lab)(v:Int)(x:RA)(p:Pst):Rs Unit:=
 if(R8 x l).2.2=0 then
  (A5 k l v (chV l 0) (R8 x l).1 n p).bind fun go p=>if go=true then(A5 k l v (chV l 1) (R8 x l).2.1 n p).bind fun go p=>if go=true then(P3 k l v eK p).bind fun _ p=>.ok () p else .ok () p else .ok () p
 else .ok () p
inductive Fz where
 |over
 |unfit
 |fr (x:RA)
def P1(k:Int)(l:Lab)(v:Int)(c:Lab):Nat->Pst->Rs Fz
 |0,p=>.stop zWq p
 |n+1,p=>(K0 k c p).bind fun g p=>if(gk g 1||gk g 5)=true then(if(gk g 5&&decide (g.x.r.mrk=v))=true then .ok (.fr g.x) p else(K0 k l p).bind fun q p=>if q.ver=v then(P3 k c g.ver (asR 5 g.x v).r.abs p).bind fun d p=>if d=true then .ok (.fr (asR 5 g.x v)) p else P1 k l v c n p else .ok .over p)else .ok .unfit p
def I1(k:Int)(l:Lab)(cl:Lab->Pst->Rs Unit)(c:Lab)(p:Pst):Rs Bool:=
 (K0 k c p).bind fun g p=>if gk g 5=true then(cl c p).bind fun _ p=>(K0 k l p).bind fun q p=>if(gk q 1||gk q 5)=true then(iq k c g.ver p).bind fun _ p=>.ok true p else .ok false p else .ok true p
def E6(k:Int):Nat->Lab->Pst->Rs Unit
 |0,_,p=>.stop zWq p
 |n+1,l,p=>if l.len=64 then .ok () p else(I1 k l (E6 k n) (chV l 0) p).bind fun go p=>if go=true then(I1 k l (E6 k n) (chV l 1) p).bind fun _ p=>.ok () p else .ok () p
def aU(k:Int)(th:Lab->Pst->Rs Unit)(l:Lab)(v:Int)(p:Pst):Rs Unit:=(P3 k l v eK p).bind fun d p=>if d=true then(th (chV l 0) p).bind fun _ p=>th (chV l 1) p else .ok () p
def M3(bk k:Int)(n:Nat)(th:Lab->Pst->Rs Unit)(l:Lab)(v:Int)(p:Pst):Rs Unit:=
 (P1 k l v (chV l 0) n p).bind fun a p=>match a with
  | .over=>.ok () p
  | .unfit=>aU k th l v p
  | .fr a=>(P1 k l v (chV l 1) n p).bind fun b p=>match b with
   | .over=>.ok () p
   | .unfit=>aU k th l v p
   | .fr b=>if(dg a b).2=0/\((dg a b).1.items.length:Int)<=bk then(P3 k l v (dg a b).1 p).bind fun d p=>if d=true then E6 k n l p else .ok () p else aU k th l v p
def dW(bk k:Int)(n:Nat)(th:Lab->Pst->Rs Unit)(l:Lab)(g:u2)(p:Pst):Rs Unit:=
 if gk g 3=true then u4 k n l g.ver g.x p else if l.len<64 then M3 bk k n th l g.ver p else .ok () p
def dm(bk k:Int):Nat->Lab->Lab->Pst->Rs Unit
 |0,_,_,p=>.stop zWq p
 |n+1,l,up,p=>(K0 k l p).bind fun g p=>if gk g 5=true then(K0 k up p).bind fun q p=>
   (if(gk q 3||gk q 4)=true then dW bk k n (fun c p=>if G4 c=0 then dm bk k n c (G1 c) p else .ok () p) up q p else .ok () p).bind fun _ p=>
    if gk q 2=true then(P3 k l g.ver (asR 1 g.x 0).r.abs p).bind fun d p=>if d=true then .ok () p else dm bk k n l up p else .ok () p else .ok () p
def I6(bk k:Int)(n:Nat)(l:Lab)(p:Pst):Rs Unit:=if G4 l=0 then dm bk k n l (G1 l) p else .ok () p
def R5(bk k:Int)(n:Nat)(l:Lab)(g:u2)(p:Pst):Rs Unit:=dW bk k n (I6 bk k n) l g p
def L8(r:Rs Rsl):Wq×Int:=match r with
 | .ok a p=>if 0<p.n then(zWq,5)else(⟨4,⟨0,0⟩,0,i9,a⟩,0)
 | .stop w p=>if 0<p.n then(zWq,5)else(w,0)
def Suf(p p':Pst):Prop:=∃d,p'.n+d=p.n/\∀j,p'.g j=p.g (j+d)
theorem Suf.refl(p:Pst):Suf p p:=⟨0,rfl,fun _=>rfl⟩
theorem Suf.trans{p q r:Pst}(h:Suf p q)(h':Suf q r):Suf p r:=by
 obtain⟨d,h1,h2⟩:=h;obtain⟨e,h3,h4⟩:=h';exact⟨e+d,by omega,fun j=>by rw[h4,h2];congr 1;omega⟩
theorem Suf.le{p q:Pst}(h:Suf p q):q.n<=p.n:=by obtain⟨d,h1,_⟩:=h;omega
theorem DX{p:Pst}(h:0<p.n):Suf p p.tl:=⟨1,by simp only[Pst.tl];omega,fun _=>rfl⟩
def Fro{α : Type}(p:Pst)(r:Rs α):Prop:=match r with
 | .ok _ q=>Suf p q
 | .stop _ q=>Suf p q
theorem Fro.bind{α β : Type}{p:Pst}{m:Rs α}{f:α->Pst->Rs β}(h:Fro p m)(hf:∀a q,Suf p q->Fro q (f a q)):Fro p (m.bind f):=by
 cases m with
 |ok a q=>
  have h1:=hf a q h
  show Fro p (f a q)
  cases hr:f a q with
  |ok b r=>rw[hr]at h1;exact Suf.trans h h1
  |stop w r=>rw[hr]at h1;exact Suf.trans h h1
 |stop w q=>exact h
theorem cz(k:Int)(w:Wq)(p:Pst):Fro p (U3 k w p):=by
 unfold U3
 split
 .rename_i h;exact DX h.1
 exact Suf.refl _
theorem s9{α : Type}(a:α)(p:Pst):Fro p (Rs.ok a p):=Suf.refl p
theorem U2{α : Type}(w:Wq)(p:Pst):Fro p (Rs.stop w p:Rs α):=Suf.refl p
theorem k7{α : Type}{p:Pst}{c:Prop} [Decidable c]{x y:Rs α}(hx:Fro p x)(hy:Fro p y):Fro p (if c then x else y):=by split<;>assumption
theorem i7(k:Int)(l:Lab)(p:Pst):Fro p (K0 k l p):=cz _ _ _
theorem l6(k:Int)(l:Lab)(v:Int)(r:Rec)(p:Pst):Fro p (P3 k l v r p):=(cz _ _ _).bind fun _ _ _=>s9 _ _
theorem dD(k:Int)(l:Lab)(v:Int)(p:Pst):Fro p (iq k l v p):=(cz _ _ _).bind fun _ _ _=>s9 _ _
theorem lH(k:Int)(l:Lab)(v:Int)(c:Lab)(x:Rec):∀n p,Fro p (A5 k l v c x n p)
 |0,p=>U2 _ _
 |n+1,p=>(i7 _ _ _).bind fun _ _ _=>k7 (s9 _ _) ((i7 _ _ _).bind fun _ _ _=>k7 ((l6 _ _ _ _ _).bind fun _ _ _=>k7 (s9 _ _) (lH k l v c x n _)) (s9 _ _))
theorem jf(k:Int)(n:Nat)(l:Lab)(v:Int)(x:RA)(p:Pst):Fro p (u4 k n l v x p):=
 k7 ((lH _ _ _ _ _ _ _).bind fun _ _ _=>k7 ((lH _ _ _ _ _ _ _).bind fun _ _ _=>k7 ((l6 _ _ _ _ _).bind fun _ _ _=>s9 _ _) (s9 _ _)) (s9 _ _)) (s9 _ _)
theorem aS(k:Int)(l:Lab)(v:Int)(c:Lab):∀n p,Fro p (P1 k l v c n p)
 |0,p=>U2 _ _
 |n+1,p=>(i7 _ _ _).bind fun _ _ _=>k7 (k7 (s9 _ _) ((i7 _ _ _).bind fun _ _ _=>k7 ((l6 _ _ _ _ _).bind fun _ _ _=>k7 (s9 _ _) (aS k l v c n _)) (s9 _ _))) (s9 _ _)
theorem qd(k:Int)(l:Lab)(cl:Lab->Pst->Rs Unit)(h:∀c p,Fro p (cl c p))(c:Lab)(p:Pst):Fro p (I1 k l cl c p):=
 (i7 _ _ _).bind fun _ _ _=>k7 ((h _ _).bind fun _ _ _=>(i7 _ _ _).bind fun _ _ _=>k7 ((dD _ _ _ _).bind fun _ _ _=>s9 _ _) (s9 _ _)) (s9 _ _)
theorem Z0(k:Int):∀n l p,Fro p (E6 k n l p)
 |0,l,p=>U2 _ _
 |n+1,l,p=>k7 (s9 _ _) ((qd _ _ _ (Z0 k n) _ _).bind fun _ _ _=>k7 ((qd _ _ _ (Z0 k n) _ _).bind fun _ _ _=>s9 _ _) (s9 _ _))
theorem cy(k:Int)(th:Lab->Pst->Rs Unit)(h:∀c p,Fro p (th c p))(l:Lab)(v:Int)(p:Pst):Fro p (aU k th l v p):=
 (l6 _ _ _ _ _).bind fun _ _ _=>k7 ((h _ _).bind fun _ _ _=>h _ _) (s9 _ _)
theorem oF(bk k:Int)(n:Nat)(th:Lab->Pst->Rs Unit)(h:∀c p,Fro p (th c p))(l:Lab)(v:Int)(p:Pst):Fro p (M3 bk k n th l v p):=
 (aS _ _ _ _ _ _).bind fun a _ _=>match a with
  | .over=>s9 _ _
  | .unfit=>cy _ _ h _ _ _
  | .fr a=>(aS _ _ _ _ _ _).bind fun b _ _=>match b with
   | .over=>s9 _ _
   | .unfit=>cy _ _ h _ _ _
   | .fr b=>k7 ((l6 _ _ _ _ _).bind fun _ _ _=>k7 (Z0 _ _ _ _) (s9 _ _)) (cy _ _ h _ _ _)
theorem oG(bk k:Int)(n:Nat)(th:Lab->Pst->Rs Unit)(h:∀c p,Fro p (th c p))(l:Lab)(g:u2)(p:Pst):Fro p (dW bk k n th l g p):=
 k7 (jf _ _ _ _ _ _) (k7 (oF _ _ _ _ h _ _ _) (s9 _ _))
theorem gX(bk k:Int):∀n l up p,Fro p (dm bk k n l up p)
 |0,l,up,p=>U2 _ _
 |n+1,l,up,p=>(i7 _ _ _).bind fun _ _ _=>k7 ((i7 _ _ _).bind fun _ _ _=>(k7 (oG _ _ _ _ (fun c p=>k7 (gX bk k n _ _ _) (s9 _ _)) _ _ _) (s9 _ _)).bind fun _ _ _=>k7 ((l6 _ _ _ _ _).bind fun _ _ _=>k7 (s9 _ _) (gX bk k n _ _ _)) (s9 _ _)) (s9 _ _)
theorem E8(bk k:Int)(n:Nat)(l:Lab)(p:Pst):Fro p (I6 bk k n l p):=k7 (gX _ _ _ _ _ _) (s9 _ _)
theorem F9(bk k:Int)(n:Nat)(l:Lab)(g:u2)(p:Pst):Fro p (R5 bk k n l g p):=oG _ _ _ _ (E8 _ _ _) _ _ _
theorem Fro.of{α : Type}{p q:Pst}{m:Rs α}{a:α}(h:Fro p m)(e:m = .ok a q):Suf p q:=by rw[e]at h;exact h
theorem Fro.ofs{α : Type}{p q:Pst}{m:Rs α}{w:Wq}(h:Fro p m)(e:m = .stop w q):Suf p q:=by rw[e]at h;exact h
theorem ph{k:Int}{w:Wq}{p q:Pst}{g:u2}(h:U3 k w p = .ok g q):0<p.n/\g=p.g 0/\q=p.tl:=by
 unfold U3 at h
 split at h
 .rename_i h0;injection h with h1 h2;exact⟨h0.1,h1.symm,h2.symm⟩
 cases h
theorem u7{k:Int}{l:Lab}{p q:Pst}{g:u2}(h:K0 k l p = .ok g q):q.n<p.n:=by
 obtain⟨h1,_,rfl⟩:=ph h;simp only[Pst.tl];omega
structure L3(x:RA):Prop where
 nx:U64 x.r.nx.bits
 key:∀i,i<x.r.n->U64 (x.r.f i).key
 few:x.r.n<=16
structure db(g:u2):Prop where
 ra:L3 g.x
 ver:U64 g.ver
structure vP(g:u2):Prop where
 code:g.code=0 \/ g.code=8
 rf:g.has=true->D9 g.x.r.kd g.x.r.n g.x.r.f g.x.r.nx g.x.r.mrk=true
 no:g.has=false->g.x.r.kd=0/\g.x.r.n=0/\g.x.r.nx=⟨0,0⟩/\g.x.r.mrk=0
theorem vP.kd{g:u2}(h:vP g)(hh:g.has=true):1<=g.x.r.kd/\g.x.r.kd<=5:=by
 obtain⟨h1,h2,_⟩:=E4 (h.rf hh);exact⟨h1,h2⟩
def f9(p:Pst):Prop:=∀j,j<p.n->db (p.g j)/\vP (p.g j)
theorem f9.suf{p q:Pst}(h:f9 p)(hs:Suf p q):f9 q:=by
 obtain⟨d,h1,h2⟩:=hs;intro j hj;rw[h2];exact h _ (by omega)
theorem f9.get{k:Int}{l:Lab}{p q:Pst}{g:u2}(h:f9 p)(e:K0 k l p = .ok g q):db g:=by
 obtain⟨h1,rfl,_⟩:=ph e;exact(h 0 h1).1
theorem f9.getR{k:Int}{l:Lab}{p q:Pst}{g:u2}(h:f9 p)(e:K0 k l p = .ok g q):vP g:=by
 obtain⟨h1,rfl,_⟩:=ph e;exact(h 0 h1).2
theorem L3.as{x:RA}(h:L3 x)(kd mk:Int):L3 (asR kd x mk):=⟨h.nx,h.key,h.few⟩
theorem gd{k:Int}{l:Lab}{v:Int}{c:Lab}:∀{n:Nat} {p q:Pst} {x:RA},f9 p->P1 k l v c n p = .ok (.fr x) q->L3 x
 |0,p,q,x,_,h=>by cases h
 |n+1,p,q,x,hp,h=>by
  unfold P1 at h
  cases h1:K0 k c p with
  |stop w p1=>rw[h1]at h;cases h
  |ok g p1=>
   rw[h1]at h;have hg:=(hp.get h1).ra;have hp1:=hp.suf ((i7 k c p).of h1);simp only[Rs.bind]at h
   split at h
   .split at h
    .injection h with h _;injection h with h;rw[<-h];exact hg
    cases h2:K0 k l p1 with
    |stop w p2=>rw[h2]at h;cases h
    |ok q2 p2=>
     rw[h2]at h;have hp2:=hp1.suf ((i7 k l p1).of h2);simp only[Rs.bind]at h
     split at h
     .cases h3:P3 k c g.ver (asR 5 g.x v).r.abs p2 with
      |stop w p3=>rw[h3]at h;cases h
      |ok d p3=>
       rw[h3]at h;simp only[Rs.bind]at h
       split at h
       .injection h with h _;injection h with h;rw[<-h];exact hg.as _ _
       exact gd (hp2.suf ((l6 _ _ _ _ _).of h3)) h
     cases h
   cases h
end Go.Proofs.YtmbkanpapkhnaaaGreat.Sym
namespace Go.Proofs.YtmbkanpapkhnaaaGreat.Sym
open Go.RowKit
section
variable {C:Cx} {P:Program} {Q:Exit->Act->World->Prop} {T:List (Nat×TI)} {cs:List (Nat×CS)} {ops:Array Oper} {all:List Oper} {H:mn}
theorem yJ{listed:Array Bool}(hDC:∀k o,all[k]? = some o->listed.getD k false=true->∀e∈o.after.toList,Region.binds .any e=true->listed.getD e.on false=true){i j:Nat}(hr:C6 all i j):(∀o e,all[i]? = some o->e∈o.after.toList->Region.binds .any e=true->listed.getD e.on false=true)->listed.getD j false=true:=by
 induction hr with
 |one h1 h2 h3 h4=>intro hi;rw[<-h4];exact hi _ _ h1 h2 h3
 |more h1 h2 h3 h4 ih=>intro hi;exact ih fun o e g1 g2 g3=>hDC _ o g1 (hi _ _ h1 h2 h3) e g2 g3
theorem qw{tz:List Nat}(hops:ops=all.toArray)(htz:∀i j,jT tz i j=true->C6 all i j){n0:Nat}(hz:∀k,n0<=k->k<ops.size->∀j,j<k->jT tz k j=true)(hze:∀(k:Nat) (o:Oper),ops[k]? = some o->∀e∈o.after.toList,Region.binds .any e=true->e.on<k) :
  ∀(n k:Nat) (listed:Array Bool) (a:Act) (w:World),n0<=k->ops.size-k=n->k<=ops.size->listed.size=ops.size->(∀j,j<k->listed.getD j false=true)->(∀j,k<=j->j<ops.size->listed.getD j true=false) →
  (∀k o,all[k]? = some o->listed.getD k false=true->∀e∈o.after.toList,Region.binds .any e=true->listed.getD e.on false=true)->wpList P ops Q (all.drop k) a w->wpAny P .any ops Q n listed a w
 |0,k,listed,a,w,h0,hn,hk,hsz,hlo,hhi,hDC,hq=>by
  have hlen:all.length=ops.size:=by rw[hops];simp
  have:all.drop k=[]:=List.drop_eq_nil_of_le (by omega);rw[this]at hq;refine⟨?_,hq⟩
  cases hr:Region.ready .any ops listed with
  |nil=>rfl
  |cons i r=>
   obtain⟨h1,o,h2,_⟩:=mem_ready.1 (hr ▸ List.mem_cons_self:i∈Region.ready .any ops listed);have hi:=(Array.getElem?_eq_some_iff.1 h2).1;have:=hlo i (by omega);rw[Y9 h1]at this;cases this
 |n+1,k,listed,a,w,h0,hn,hk,hsz,hlo,hhi,hDC,hq=>by
  have hlen:all.length=ops.size:=by rw[hops];simp
  have hkl:k<ops.size:=by omega
  obtain⟨o,ho⟩:∃o,ops[k]? = some o:=⟨_,Array.getElem?_eq_getElem hkl⟩
  have hoa:all[k]? = some o:=by rw[hops]at ho;simpa using ho
  have hd:all.drop k=o::all.drop (k+1):=by
   have hka:k<all.length:=by omega
   rw[List.drop_eq_getElem_cons hka]
   congr 1
   exact(List.getElem?_eq_some_iff.1 hoa).2
  refine⟨fun hr=>?_,fun i hi=>?_⟩
  .exfalso
   have:k∈Region.ready .any ops listed:=mem_ready.2 ⟨hhi k (Nat.le_refl _) hkl,o,ho,fun e he hb=>hlo _ (hze k o ho e (by simpa using he) hb)⟩;rw[hr]at this;cases this
  obtain⟨h1,o',h2,h3⟩:=mem_ready.1 hi;have hil:=(Array.getElem?_eq_some_iff.1 h2).1;have hik:i=k:=by
   refine Decidable.byContradiction fun hne=>?_
   by_cases hlt:i<k
   .have:=hlo i hlt
    rw[Y9 h1]at this;cases this
   have hw:=htz _ _ (hz i (by omega) hil k (by omega));have h4:=yJ hDC hw (fun o'' e g1 g2 g3=>by
    have:o''=o':=by
     have e1:ops[i]? = some o'':=by rw[hops];simpa using g1
     rw[h2]at e1;injection e1 with e1;exact e1.symm
    subst this;exact h3 e (by simpa using g2) g3)
   have:=hhi k (Nat.le_refl _) hkl;rw[Y9 this]at h4;cases h4
  subst hik;have:o'=o:=by rw[ho]at h2;injection h2 with h2;exact h2.symm
  subst this;have fin:∀a w,wpList P ops Q (all.drop (i+1)) a w->wpAny P .any ops Q n (listed.setIfInBounds i true) a w:=by
   intro a w hq';refine qw hops htz hz hze n (i+1) _ a w (by omega) (by omega) (by omega) (by simpa using hsz) (fun j hj=>?_) (fun j hj hj'=>?_) (fun k2 ok hk2 hu e he hb=>?_) hq'
   .by_cases hji:j=i
    .subst hji;simp[Array.getD_eq_getD_getElem?,hsz,hil]
    rw[getD_set_ne false (fun e'=>hji e'.symm)];exact hlo j (by omega)
   .rw [getD_set_ne true (by omega)];exact hhi j (by omega) hj'
   have hon:listed.getD e.on false=true:=by
    by_cases hki:k2=i
    .subst hki
     have:ok=o':=by
      have e1:ops[k2]? = some ok:=by rw[hops];simpa using hk2
      rw[h2]at e1;injection e1 with e1;exact e1.symm
     subst this;exact h3 e (by simpa using he) hb
    rw[getD_set_ne false (fun e'=>hki e'.symm)]at hu;exact hDC k2 ok hk2 hu e he hb
   by_cases hei:e.on=i
   .rw [hei];simp[Array.getD_eq_getD_getElem?,hsz,hil]
   rw[getD_set_ne false (fun e'=>hei e'.symm)];exact hon
  rw[hd]at hq;unfold wpOp;simp only[h2];unfold wpList at hq
  by_cases hw:Region.wanted o' (yielded ops a.tmps)=true
  .rw [if_pos hw]at hq ⊢
   exact hq.imp (Oper.wp_mono fin) id
  rw[if_neg hw]at hq ⊢;exact fin _ _ hq
theorem tY{tb tz:List Nat}(hT:o5 P T)(hops:ops=all.toArray)(htb:∀i j,jT tb i j=true->C6 all i j)(htz:∀i j,jT tz i j=true->C6 all i j)(hH:cE C P all H){n0:Nat}(hz:∀k,n0<=k->k<ops.size->∀j,j<k->jT tz k j=true)(hze:∀(k:Nat) (o:Oper),ops[k]? = some o->∀e∈o.after.toList,Region.binds .any e=true->e.on<k)(hz4:n0<=ops.size):∀(n:Nat) (L:List (Nat×Oper)) (fs:List D4) (listed:Array Bool) (s:St) (a:Act) (w:World),L.length=n->b6 C s a w->NM s (ds fs)->Ord fs->sk tb L fs->(∀k o,all[k]? = some o->listed.getD k false=true->∀e∈o.after.toList,Region.binds .any e=true->listed.getD e.on false=true) →
  L.Pairwise (fun x y=>x.1<y.1)->(∀x∈L,ops[x.1]? = some x.2/\listed.getD x.1 true=false)->(∀k o,k<n0->ops[k]? = some o->listed.getD k true=false->(k,o)∈L)->(∀k,n0<=k->k<ops.size->listed.getD k true=false)->(∀x∈L,x.1<n0)->listed.size=ops.size →
  (∀x∈L,∀e∈x.2.after.toList,Region.binds .any e=true->e.on<x.1) →
  (∀X,∃τ obs,K8 std T cs H X all L s=some (τ,obs,fs)/\b7 P C.K obs/\∀a' w',b6 C τ a' w'->wpList P ops Q (all.drop n0) a' w')->wpAny P .any ops Q (n+(ops.size-n0)) listed a w
 |0,L,fs,listed,s,a,w,hn,h,hNM,Z,hP,hDC,hsr,hL,hA,hZ,hLn,hsz,hE,hs=>by
  have:L=[]:=List.eq_nil_of_length_eq_zero hn;subst this;obtain⟨τ,obs,e1,_,e2⟩:=hs (fun _=>⟨0,fun _=>none,fun _=>0,fun _=>.empty⟩);simp only[K8,Option.some.injEq,Prod.mk.injEq]at e1;obtain⟨rfl,_⟩:=e1;rw[Nat.zero_add];refine qw hops htz hz hze (ops.size-n0) n0 listed a w (Nat.le_refl _) rfl hz4 hsz (fun k hk=>?_) hZ hDC (e2 a w h)
  by_cases hl:listed.getD k false=true
  .exact hl
  have:=hA k _ hk (Array.getElem?_eq_getElem (by omega)) (gW (by rw[hsz];omega) hl)
  cases this
 |n+1,L,fs,listed,s,a,w,hn,h,hNM,Z,hP,hDC,hsr,hL,hA,hZ,hLn,hsz,hE,hs=>by
  rw[show n+1+(ops.size-n0)=(n+(ops.size-n0))+1 by omega];refine⟨fun hr=>?_,fun i hi=>?_⟩
  .-- the first one that is left may come up
   exfalso
   cases L with
   |nil=>cases hn
   |cons x L=>
    obtain⟨i0,o0⟩:=x;obtain⟨h1,h2⟩:=hL (i0,o0) (by simp);have:i0∈Region.ready .any ops listed:=mem_ready.2 ⟨h2,o0,h1,fun e he hb=>by
     have hlt:=hE (i0,o0) (by simp) e (by simpa using he) hb;simp only at hlt;have hi0:i0<ops.size:=(Array.getElem?_eq_some_iff.1 h1).1;have hon:e.on<listed.size:=by rw[hsz];omega
     by_cases hl:listed.getD e.on false=true
     .exact hl
     exfalso
     have hm:=hA e.on _ (by have:=hLn (i0,o0) (by simp);simp only at this;omega) (Array.getElem?_eq_getElem (by omega)) (gW hon hl)
     rcases List.mem_cons.1 hm with he'|hm
     .injection he' with he';omega
     have:=(List.pairwise_cons.1 hsr).1 _ hm;simp only at this;omega⟩
    rw[hr]at this
    cases this
  obtain⟨h1,o,h2,h3⟩:=mem_ready.1 hi;have hi0:i<n0:=by
   refine Decidable.byContradiction fun hni=>?_
   cases L with
   |nil=>cases hn
   |cons x L=>
    have hx0:=hLn x (by simp);have hw:=htz _ _ (hz i (by omega) (Array.getElem?_eq_some_iff.1 h2).1 x.1 (by omega));have h4:=yJ hDC hw (fun o' e g1 g2 g3=>by
     have:o'=o:=by
      have e1:ops[i]? = some o':=by rw[hops];simpa using g1
      rw[h2]at e1;injection e1 with e1;exact e1.symm
     subst this;exact h3 e (by simpa using g2) g3)
    have q5:=(hL x (by simp)).2;rw[Y9 q5]at h4
    cases h4
  have hio:all[i]? = some o:=by rw[hops]at h2;simpa using h2
  have hin:=hA i o hi0 h2 h1;obtain⟨L1,L2,rfl⟩:=List.append_of_mem hin;obtain⟨fs1,f,fs2,hlen,rfl⟩:∃fs1 f fs2,fs1.length=L1.length/\fs=fs1++f::fs2:=by
   have hl:=hP.1;simp only[List.length_append,List.length_cons]at hl;have hlt:L1.length<fs.length:=by omega
   refine⟨fs.take L1.length,fs[L1.length],fs.drop (L1.length+1),by simp;omega,?_⟩;rw[<-List.drop_eq_getElem_cons hlt,List.take_append_drop]
  obtain⟨hP1,hcm⟩:=du hlen hP.2;have hcomm:∀g∈fs1,iB g f=true:=by
   intro g hg;obtain⟨k,hk⟩:=List.getElem?_of_mem hg;have hkl:k<L1.length:=by rw[<-hlen];exact(List.getElem?_eq_some_iff.1 hk).1
   rcases hcm k _ g (List.getElem?_eq_getElem hkl) hk with he|he
   .exfalso
    have h5:=(hL L1[k] (List.mem_append_left _ (List.getElem_mem hkl))).2;have hr:=htb _ _ he;have dc:∀{i j:Nat},C6 all i j->(∀o e,all[i]? = some o->e∈o.after.toList->Region.binds .any e=true->listed.getD e.on false=true)->listed.getD j false=true:=by
     intro i j hr
     induction hr with
     |one h1 h2 h3 h4=>intro hi;rw[<-h4];exact hi _ _ h1 h2 h3
     |more h1 h2 h3 h4 ih=>intro hi;exact ih fun o e g1 g2 g3=>hDC _ o g1 (hi _ _ h1 h2 h3) e g2 g3
    have h4:=dc hr fun o' e g1 g2 g3=>by
     have:o'=o:=by
      have e1:ops[i]? = some o':=by rw[hops];simpa using g1
      rw[h2]at e1;injection e1 with e1;exact e1.symm
     subst this;exact h3 e (by simpa using g2) g3
    rw[Y9 h5]at h4
    cases h4
   exact he
  have mf:∀X,∃δ ob,P2 std T cs H (X i) all i o s=some (δ,ob,f)/\b7 P C.K ob/\∃τ' obs',K8 std T cs H X all (L1++L2) (s.app δ)=some (τ',obs',fs1++fs2)/\b7 P C.K obs'/\∀a' w',b6 C τ' a' w'->wpList P ops Q (all.drop n0) a' w':=by
   intro X;obtain⟨τ,obs,e1,e2,e3⟩:=hs X;obtain⟨δ,ob,g1,τ',obs',g2,g3,g4⟩:=fV (P:=P) e1 hlen hNM Z hcomm;exact⟨δ,ob,g1,(g4 e2).1,τ',obs',g2,(g4 e2).2,fun a' w' hf=>e3 a' w' (hf.alike g3)⟩
  have hsrt:(L1++L2).Pairwise (fun x y=>x.1<y.1):=hsr.sublist (List.Sublist.append_left (List.sublist_cons_self _ _) _);have hnot:∀x∈L1++L2,x.1≠i:=by
   intro x hx;rw[List.pairwise_append]at hsr;obtain⟨p1,p2,p3⟩:=hsr
   rcases List.mem_append.1 hx with hx|hx
   .have:=p3 x hx (i,o) (by simp);simp only at this;omega
   have:=(List.pairwise_cons.1 p2).1 x hx;simp only at this;omega
  have key:=nH (C:=C) (K:=fun a' w'=>wpAny P .any ops Q (n+(ops.size-n0)) (listed.setIfInBounds i true) a' w') (Q:=Q) (cs:=cs) (i:=i) (o:=o) hT hH hio hops h (fun x=>by
   obtain⟨δ,ob,g1,g2,_⟩:=mf (fun _=>x);exact⟨_,g1,g2⟩) (fun x r a' w' hr hf=>by
   have hfo:=aH hr;obtain⟨δ,ob,f'⟩:=r;obtain⟨δ0,ob0,g0,_⟩:=mf (fun _=>x);rw[hr]at g0;injection g0 with g0;injection g0 with q1 q2;injection q2 with q2 q3
   subst q1;subst q2;subst q3;have hinF:∀g∈fs1++fs2,g∈fs1++f'::fs2:=fun g hg=>by
    rcases List.mem_append.1 hg with hg|hg
    .exact List.mem_append_left _ hg
    exact List.mem_append_right _ (List.mem_cons_of_mem _ hg)
   obtain⟨n1,n2⟩:=eC hfo (gs:=fs1++fs2) hNM (by simp) hinF (fun g hg=>by
    rcases List.mem_append.1 hg with hg|hg
    .have:=hcomm g hg
     simp only[iB,Bool.and_eq_true]at this;exact this.1.1.1.1.1.1.1.1.1
    exact(List.pairwise_cons.1 (List.pairwise_append.1 Z).2.1).1 g hg)
   refine tY hT hops htb htz hH hz hze hz4 n (L1++L2) (fs1++fs2) (listed.setIfInBounds i true) (s.app δ) a' w' ?_ hf n2 ?_ ?_ ?_ hsrt ?_ ?_ (fun k hk hk'=>by rw[getD_set_ne true (by omega)];exact hZ k hk hk') ?_ (by simpa using hsz) ?_ ?_
   .simp at hn ⊢;omega
   .exact Z.sublist (List.Sublist.append_left (List.sublist_cons_self _ _) _)
   .refine ⟨?_,hP1⟩
    have:=hP.1;simp at this ⊢;omega
   .intro k ok hk hu e he hb
    by_cases hki:k=i
    .subst hki
     have:ok=o:=by
      have e1:ops[k]? = some ok:=by rw[hops];simpa using hk
      rw[h2]at e1;injection e1 with e1;exact e1.symm
     subst this;have hl:=h3 e (by simpa using he) hb
     by_cases hei:e.on=k
     .have:=hE (k,ok) hin e he hb
      simp only at this;omega
     rw[getD_set_ne false (fun e'=>hei e'.symm)];exact hl
    rw[getD_set_ne false (fun e'=>hki e'.symm)]at hu;have hl:=hDC k ok hk hu e he hb
    by_cases hei:e.on=i
    .rw [hei]at hl
     have h5:=(hL (i,o) hin).2;simp only at h5;rw[Y9 h5]at hl;cases hl
    rw[getD_set_ne false (fun e'=>hei e'.symm)];exact hl
   .intro x' hx
    have hx':x'∈L1++(i,o)::L2:=by
     rcases List.mem_append.1 hx with hx|hx
     .exact List.mem_append_left _ hx
     exact List.mem_append_right _ (List.mem_cons_of_mem _ hx)
    obtain⟨e1,e2⟩:=hL x' hx';refine⟨e1,?_⟩;rw[getD_set_ne true (fun e=>hnot x' hx e.symm)];exact e2
   .intro k ok hkn hk hu
    by_cases hki:k=i
    .subst hki
     have hlt:k<listed.size:=by rw[hsz];exact(Array.getElem?_eq_some_iff.1 h2).1
     simp[Array.getD_eq_getD_getElem?,hlt]at hu
    rw[getD_set_ne true (fun e=>hki e.symm)]at hu;have:=hA k ok hkn hk hu
    rcases List.mem_append.1 this with hx|hx
    .exact List.mem_append_left _ hx
    rcases List.mem_cons.1 hx with hx|hx
    .injection hx with hx;exact absurd hx hki
    exact List.mem_append_right _ hx
   .intro x' hx
    refine hLn x' ?_
    rcases List.mem_append.1 hx with hx|hx
    .exact List.mem_append_left _ hx
    exact List.mem_append_right _ (List.mem_cons_of_mem _ hx)
   .intro x' hx
    refine hE x' ?_
    rcases List.mem_append.1 hx with hx|hx
    .exact List.mem_append_left _ hx
    exact List.mem_append_right _ (List.mem_cons_of_mem _ hx)
   intro X;obtain⟨Y,hY,hYX⟩:∃Y:Nat->i8,Y i=x/\∀j,j≠i->Y j=X j:=⟨fun j=>if j=i then x else X j,by simp,fun j hj=>by simp[hj]⟩
   obtain⟨δ1,ob1,g1,_,τ',obs',g2,g3,g4⟩:=mf Y;rw[hY,hr]at g1;injection g1 with g1;injection g1 with q1 _
   subst q1;rw[eO _ _ (fun x' hx=>hYX x'.1 (hnot x' hx))]at g2;exact⟨τ',obs',g2,g3,g4⟩)
  unfold wpOp;simp only[h2]
  by_cases hw:Region.wanted o (yielded ops a.tmps)=true
  .rw [if_pos hw]at key ⊢
   exact .inl key
  rw[if_neg hw]at key ⊢;exact key
def iM(all:List Oper)(n0:Nat):Bool:=Nat.ble n0 all.length&&(bK (l9 0 all)&&(List.range all.length).all fun k=>Nat.blt k n0||(List.range k).all fun j=>jT (eF all []) k j)
theorem rT{s:St}{a:Act}{w:World}{all:List Oper}(n0:Nat)(H:mn)(hH:cE C P all H)(hT:o5 P T)(kp km:List Nat)(cs:List (Nat×CS))(h:b6 C s a w)(hgs:s.gs=[])(fs:List D4)(hD:aO (all.take n0) fs=true)(hZ:iM all n0=true)(hlen:(all.take n0).length=fs.length)
  {R:Alg->(Nat->i8)->St×List Ob}
  (hex:∀A X,(K8 A T cs H X all (l9 0 (all.take n0)) s).map (fun r=>((r.1.keep kp km,r.2.1),r.2.2))=some (R A X,fs)) (hob:∀X,b7 P C.K (R std X).2) (hQ:∀X a' w',b6 C (R std X).1 a' w'->wpList P all.toArray Q (all.drop n0) a' w'):wpAny P .any all.toArray Q all.toArray.size (Array.replicate all.toArray.size false) a { w with drawn:=w.drawn+1 }:=by
 simp only[aO,Bool.and_eq_true]at hD;obtain⟨⟨d1,d2⟩,d3⟩:=hD;simp only[iM,Bool.and_eq_true,Nat.ble_eq]at hZ;obtain⟨hn0,hZe,hZ⟩:=hZ;have hf:b6 C s a { w with drawn:=w.drawn+1 }:=h.world (fun _ _ _=>rfl) (fun _ _ _ _ _=>rfl) ⟨h.chg.os,h.chg.tape,h.chg.output,h.chg.size,h.chg.block⟩ (fun _ _ _ hc _=>hc) (fun _ _ h _=>h);have hnl:∀(l:List Oper) (i:Nat),(l9 i l).length=l.length:=by
  intro l
  induction l with
  |nil=>intro i;rfl
  |cons o l ih=>intro i;simp[l9,ih]
 have htk:(all.take n0).length=n0:=by simp;omega
 have hsz:all.toArray.size=(l9 0 (all.take n0)).length+(all.toArray.size-n0):=by rw[hnl,htk];simp;omega
 have hgt:∀{k o},(all.take n0)[k]? = some o->all[k]? = some o/\k<n0:=by
  intro k o hk;have hlt:=(List.getElem?_eq_some_iff.1 hk).1;rw[htk]at hlt;rw[List.getElem?_take,if_pos hlt]at hk;exact⟨hk,hlt⟩
 have hlst:∀k (b:Bool),k<all.length->(Array.replicate all.toArray.size false).getD k b=false:=by
  intro k b hk;have:k<all.toArray.size:=by simpa using hk
  simp[Array.getD_eq_getD_getElem?,hk]
 have hmk:∀i j,jT (eF (all.take n0) []) i j=true->C6 all i j:=by
  intro i j hij;have:=cI (all:=all.take n0) (l:=all.take n0) (tb:=[]) rfl (fun i j h=>by simp at h) i j hij;have conv:∀{i j},C6 (all.take n0) i j->C6 all i j:=by
   intro i j hw
   induction hw with
   |one h1 h2 h3 h4=>exact .one (hgt h1).1 h2 h3 h4
   |more h1 h2 h3 h4 ih=>exact .more (hgt h1).1 h2 h3 ih
  exact conv this
 have ed:∀(L:List (Nat×Oper)),bK L=true->∀x∈L,∀e∈x.2.after.toList,Region.binds .any e=true->e.on<x.1:=by
  intro L
  induction L with
  |nil=>intro _ x hx;cases hx
  |cons y L ih=>
   obtain⟨i,o⟩:=y;intro hL x hx e he hb;simp only[bK,Bool.and_eq_true]at hL
   rcases List.mem_cons.1 hx with rfl|hx
   .have:=List.all_eq_true.1 hL.1 e he
    simpa[hb]using this
   exact ih hL.2 x hx e he hb
 have e0:all.toArray.size=(Array.replicate all.toArray.size false).size:=by simp
 rw[show wpAny P .any all.toArray Q all.toArray.size=wpAny P .any all.toArray Q ((l9 0 (all.take n0)).length+(all.toArray.size-n0))by rw[<-hsz]];refine tY (cs:=cs) (all:=all) (tb:=eF (all.take n0) []) (tz:=eF all []) hT rfl hmk (cI (all:=all) (l:=all) (tb:=[]) rfl (fun i j h=>by simp at h)) hH (n0:=n0) (fun k hk hk' j hj=>?_) (fun k o hk e he hb=>?_) (by simpa using hn0) _ (l9 0 (all.take n0)) fs _ s a _ rfl hf (fun t p v hl=>by rw[hgs]at hl;cases hl) ?_ ⟨by rw[hnl];exact hlen,d1⟩ ?_ (U1 _ 0) ?_ ?_ ?_ ?_ ?_ ?_ ?_
 .have:=List.all_eq_true.1 hZ k (List.mem_range.2 (by simpa using hk'))
  simp only[Bool.or_eq_true,Nat.blt_eq]at this
  rcases this with h|h
  .omega
  exact List.all_eq_true.1 h j (List.mem_range.2 hj)
 .have:=Z7 (i:=0) (l:=all) (k:=k) (o:=o) (by simpa using hk)
  rw[Nat.zero_add]at this;exact ed _ hZe (k,o) this e he hb
 .exact gH d3
 .intro k o hk hu
  exfalso
  rw[hlst k false (List.getElem?_eq_some_iff.1 hk).1]at hu
  cases hu
 .intro x hx
  obtain⟨h1,h2⟩:=V6 hx;rw[Nat.sub_zero]at h2;obtain⟨h3,_⟩:=hgt h2;exact⟨by simpa using h3,hlst _ _ (List.getElem?_eq_some_iff.1 h3).1⟩
 .intro k o hkn hk _
  have hk':(all.take n0)[k]? = some o:=by rw[List.getElem?_take,if_pos hkn];simpa using hk
  have:=Z7 (i:=0) (l:=all.take n0) (k:=k) (o:=o) hk'
  rwa[Nat.zero_add]at this
 .intro k _ hk
  exact hlst _ _ (by simpa using hk)
 .intro x hx
  obtain⟨h1,h2⟩:=V6 hx;rw[Nat.sub_zero]at h2;exact(hgt h2).2
 .simp
 .exact ed _ d2
 intro X;obtain⟨r,hr,e⟩:=Option.map_eq_some_iff.1 (hex std X);obtain⟨τ,obs,fs'⟩:=r;simp only[Prod.mk.injEq]at e;obtain⟨e1,rfl⟩:=e;refine⟨τ,obs,hr,?_,fun a' w' hf'=>hQ X a' w' ?_⟩
 .have:=hob X;rw[<-e1]at this;exact this
 rw[<-e1];exact hf'.keep kp km
theorem vH{s:St}{a:Act}{w:World}{id:Nat}{all:List Oper}(n0:Nat)(H:mn)(hH:cE C P all H)(hm:P.follows .mixedOrders=true)(hT:o5 P T)(kp km:List Nat)(cs:List (Nat×CS))(h:b6 C s a w)(hgs:s.gs=[])(fs:List D4)(hD:aO (all.take n0) fs=true)(hZ:iM all n0=true)(hlen:(all.take n0).length=fs.length)
  {R:Alg->(Nat->i8)->St×List Ob}
  (hex:∀A X,(K8 A T cs H X all (l9 0 (all.take n0)) s).map (fun r=>((r.1.keep kp km,r.2.1),r.2.2))=some (R A X,fs)) (hob:∀X,b7 P C.K (R std X).2) (hQ:∀X a' w',b6 C (R std X).1 a' w'->wpList P all.toArray Q (all.drop n0) a' w'):(Code.region id all.toArray true).wp P Q a w:=
 wp_region_any hm (rT n0 H hH hT kp km cs h hgs fs hD hZ hlen hex hob hQ)
theorem lV{s:St}{a:Act}{w:World}{id:Nat}{all:List Oper}{B:Alg}(O:B=std)(n0:Nat)(H:mn)(hH:cE C P all H)(hm:P.follows .mixedOrders=true)(hT:o5 P T)(kp km:List Nat)(cs:List (Nat×CS))(h:b6 C s a w)(hgs:s.gs=[])(fs:List D4)(hD:aO (all.take n0) fs=true)(hZ:iM all n0=true)(hlen:(all.take n0).length=fs.length)
  {R:Alg->(Nat->i8)->St×List Ob}
  (hex:∀A X,(K8 A T cs H X all (l9 0 (all.take n0)) s).map (fun r=>((r.1.keep kp km,r.2.1),r.2.2))=some (R A X,fs)) (hob:∀X,b7 P C.K (R B X).2) (hQ:∀X a' w',b6 C (R B X).1 a' w'->wpList P all.toArray Q (all.drop n0) a' w'):(Code.region id all.toArray true).wp P Q a w:=by
 subst O;exact vH n0 H hH hm hT kp km cs h hgs fs hD hZ hlen hex hob hQ
end
section
variable {C:Cx} {P:Program} {Q:Exit->Act->World->Prop} {T:List (Nat×TI)} {s:St} {a:Act} {w:World} {B:Alg}
theorem d3{id:Nat}{all:List Oper}{R:Alg->(Nat->i8)->St×List Ob}{fs:List D4}(n0:Nat)(O:B=std)(hT:o5 P T)(kp km:List Nat)(cs:List (Nat×CS))(h:b6 C s a w)(hQ:∀X a' w',b6 C (R B X).1 a' w'->wpList P all.toArray Q (all.drop n0) a' w')(hm:P.follows .mixedOrders=true:=by kernel_rfl)(hgs:s.gs=[]:=by rfl)
  (hex:∀A X,(K8 A T cs none X all (l9 0 (all.take n0)) s).map (fun r=>((r.1.keep kp km,r.2.1),r.2.2))=some (R A X,fs):=by intro A X;conv=>lhs;cbv) (hD:aO (all.take n0) fs=true:=by kernel_rfl) (hZ:iM all n0=true:=by kernel_rfl) (hlen:(all.take n0).length=fs.length:=by rfl) (hob:∀X,b7 P C.K (R B X).2:=by
   intro X;subst O
   first
   |exact trivial
   |(simp only[b7,Ob.holds,BE.den]<;>and_intros<;>(repeat first|trivial|rfl|exact O1|exact O2|exact O3|exact(fun _ _=>by kernel_rfl)|exact O1 _ _ _ rfl|exact O2 _ _ _ rfl|refine⟨?_,?_⟩|intro h|decide|omega)<;>done)
   |(simp[b7,Ob.holds,BE.den,std,a8,o9]<;>omega)):(Code.region id all.toArray true).wp P Q a w:=lV O n0 none az hm hT kp km cs h hgs fs hD hZ hlen hex hob hQ
end
theorem C3{P:Program}{Q:Exit->Act->World->Prop}{c:Code}{n:Nat}{a:Act}{w:World}(h:c.wp P (Exit.then (Code.rounds P c Q n) Q) a w):Code.rounds P c Q (n+1) a w:=h
theorem j5{P:Program}{Q:Exit->Act->World->Prop}{c:Code}{n:Nat}{a:Act}{w:World}(h:c.wp P (Exit.then (Code.rounds P c Q n) Q) a w):Exit.then (Code.rounds P c Q (n+1)) Q .normal a w:=h
inductive iF where
 |ret (r:CR)
 |thr (t:Nat) (v:AV) (sets:List (Nat×List AV))
def Gk(m:Nat->Nat->Prop)(w:World)(pre:List (Nat×Blk))(e:Ending)(w':World):iF->Prop
 | .ret r=>e = .returned r.v.den/\Ok (mN m r.news) w' r.v/\iG m w w' pre r.sets r.news
 | .thr t v sets=>e = .panicked [{ v:=.iface t v.den,recovered:=false }]/\Ok m w' v/\iG m w w' pre sets []
def dT(m:Nat->Nat->Prop)(w:World)(pre:List (Nat×Blk))(out:i8->iF)(e:Ending)(w':World):Prop:=∃x,Gk m w pre e w' (out x)
def W8(P:Program)(f:FuncId)(args:List AV)(pre:List (Nat×Blk))(out:i8->iF):Prop:=
 ∀(m:Nat->Nat->Prop) (w:World),(∀b o,m b o->b<w.heap.size)->(∀v∈args,Ok m w v)->M7 m w pre->Calls P f (args.map AV.den).toArray w (dT m w pre out)
theorem W8.x{P:Program}{f:FuncId}{args:List AV}{pre:List (Nat×Blk)}{out:i8->iF}{res:i8->CR}(h:W8 P f args pre out)(e:∀x,out x = .ret (res x)):v8 P f args pre res:=by
 intro m w h1 h2 h3;refine(h m w h1 h2 h3).mono ?_
 rintro e' w' ⟨x,hx⟩
 rw[e x]at hx;exact⟨x,hx⟩
theorem v8.t{P:Program}{f:FuncId}{args:List AV}{pre:List (Nat×Blk)}{out:i8->iF}{res:i8->CR}(h:v8 P f args pre res)(e:∀x,out x = .ret (res x)):W8 P f args pre out:=by
 intro m w h1 h2 h3;refine(h m w h1 h2 h3).mono ?_
 rintro e' w' ⟨x,hx⟩
 exact⟨x,by rw[e x];exact hx⟩
theorem ru(m:Nat->Nat->Prop):mN m []=m:=by
 funext b o
 apply propext;exact⟨fun h=>h.resolve_right fun⟨e,he,_⟩=>(by cases he),.inl⟩
def za(pre':List (Nat×Blk)):iF->iF->Prop
 | .ret r,.ret r'=>r'.sets.map (·.2)=r.sets.map (·.2)/\r'.sets.map (·.1)=pre'.map (·.1)/\Sim r.v r'.v/\r'.news.map (·.2)=r.news.map (·.2)
 | .thr t v sets,.thr t' v' sets'=>t'=t/\Sim v v'/\sets'.map (·.2)=sets.map (·.2)/\sets'.map (·.1)=pre'.map (·.1)
 |_,_=>False
theorem W8.re{P:Program}{f:FuncId}{args args':List AV}{pre pre':List (Nat×Blk)}{out out':i8->iF}(h:W8 P f args pre out)(ha:F0 args' args)(hp:pre'.map (·.2)=pre.map (·.2))(hr:∀x,za pre' (out x) (out' x)):W8 P f args' pre' out':=by
 intro m w h1 h2 h3;rw[ha.map];refine(h m w h1 (ha.ok h2) (h3.re hp.symm)).mono ?_
 rintro e w' ⟨x,hx⟩
 refine⟨x,?_⟩;have hrx:=hr x
 cases ho:out x with
 |ret r=>
  cases ho':out' x with
  |ret r'=>
   rw[ho]at hx hrx;rw[ho']at hrx;obtain⟨r1,r2,r3,r4⟩:=hrx;obtain⟨rfl,hok,hl⟩:=hx;have hm:mN m r'.news=mN m r.news:=by funext b o;simp only[mN,dK r4]
   exact⟨by rw[r3.1],by rw[hm];exact r3.2.2 _ _ hok,hl.re hp r1 r2 r4⟩
  |thr t v sets=>rw[ho,ho']at hrx;exact hrx.elim
 |thr t v sets=>
  cases ho':out' x with
  |ret r'=>rw[ho,ho']at hrx;exact hrx.elim
  |thr t' v' sets'=>
   rw[ho]at hx hrx;rw[ho']at hrx;obtain⟨rfl,r3,r1,r2⟩:=hrx;obtain⟨rfl,hok,hl⟩:=hx;exact⟨by rw[r3.1],r3.2.2 _ _ hok,hl.re hp r1 r2 rfl⟩
section
variable {P:Program} {T:List (Nat×TI)} {s:St} {a:Act} {w:World}
theorem Hh{Kk:Kn}(hT:o5 P T){m:Nat->Nat->Prop}{w0:World}{pre:List (Nat×Blk)}(h:b6 ⟨m,w0,ats pre,[],Kk⟩ s a w){fn:Func}{out:i8->iF}{rs:List ResultVar}(hfn:fn.results=rs.toArray){r:List AV×List Ob}(hr:Y4 T s rs=some r)(ho:b7 P Kk r.2)
  (x:i8) {cr:CR} (hout:out x = .ret cr) (ks:List Nat) (he:Sim (can (Q5 r.1)) (can cr.v)) (hs:B7 s pre cr.sets) (hn:L7 s pre ks cr.news):bodyPost P fn (dT m w0 pre out) .ret a w/\bodyPost P fn (dT m w0 pre out) .normal a w:=by
 obtain⟨h1,h2⟩:=dB h hs hn;refine iS hT h rfl hfn hr ho fun hv=>⟨x,?_⟩
 rw[hout];exact⟨by rw[<-J8 (Q5 r.1),he.1,J8],(Q7 _).2 (he.2.2 _ _ ((Q7 _).1 (h2 _ hv))),h1⟩
theorem wd{Kk:Kn}{m:Nat->Nat->Prop}{w0:World}{pre:List (Nat×Blk)}(h:b6 ⟨m,w0,ats pre,[],Kk⟩ s a w){fn:Func}{out:i8->iF}{t:Nat}{v v':AV}(hok:Ok (s.m ⟨m,w0,ats pre,[],Kk⟩) w v)(x:i8){sets:List (Nat×List AV)}(hout:out x = .thr t v' sets)(hv:Sim v v')(hs:B7 s pre sets) :
  bodyPost P fn (dT m w0 pre out) (.panic [{ v:=.iface t v.den,recovered:=false }]) a w:=by
 obtain⟨h1,h2⟩:=dB h hs (ks:=[]) (news:=[]) trivial;refine⟨h.defers,x,?_⟩;rw[hout];have:=h2 _ (hv.2.2 _ _ hok);rw[ru]at this;exact⟨by rw[hv.1],this,h1⟩
end
section
variable {C:Cx} {P:Program} {Q:Exit->Act->World->Prop} {T:List (Nat×TI)} {all:List Oper}
def rJ(all:List Oper)(s:St)(o:Oper):Bool:=match o.guard with
 |none=>true
 |some (j,want)=>match(all[j]?).bind (·.dst)with
  |none=>false
  |some g=>match M4 s.gs g with
   |some _=>false
   |none=>match look s.tmps g with
    | .bool .tt=>want
    | .bool .ff=>!want
    |_=>false
theorem Be{s:St}{a:Act}{w:World}{o:Oper}(h:b6 C s a w)(hg:rJ all s o=true):Region.wanted o (yielded all.toArray a.tmps)=true:=by
 unfold rJ at hg
 split at hg
 .rename_i hn;simp[Region.wanted,hn]
 rename_i j want hn
 split at hg
 .cases hg
 rename_i g hd
 split at hg
 .cases hg
 have hd':((all.toArray)[j]?).bind (·.dst)=some g:=by simpa using hd
 have hs:=h.slot g;have key:∀b,a.tmps[g]? = some (.bool b)->b=want->Region.wanted o (yielded all.toArray a.tmps)=true:=by
  intro b hb hw;simp only[Region.wanted,hn,yielded,hd',Option.bind_some,hb,hw];simp
 split at hg
 .rename_i e;rw[e]at hs
  exact key _ (hs rfl).1 hg.symm
 .rename_i e;rw[e]at hs
  refine key _ (hs rfl).1 ?_
  cases want<;>first|rfl|cases hg
 cases hg
theorem cK{s:St}{a:Act}{w:World}{L rest:List Oper}{o:Oper}{c:Call}{g:Operand}{f:FuncId}{l r args args':List AV}(hL:L=o::rest)(hg:rJ all s o=true)(hop:o.op = .call c)(hcal:c.callee = .value g)(h:b6 C s a w)(hgv:val s [] g = .fn f l r)(hl:I2 s [] c.args.toList=some args)(hen:j6 P f)
  {pre:List (Nat×Blk)} {out:i8->iF} (hsp:W8 P f args' pre out) (hsim:F0 (l++args++r) args') (hpre:∀e∈pre,i6 s.mem e.1=some e.2) (hnd:dw pre=true) (hd:gS s o.dst=true)
  (K:∀x w',match out x with
   | .ret cr=>∀a',b6 C ((s.eff (.sets (upd pre cr.sets++cr.news))).put o.dst cr.v) a' w'->wpList P all.toArray Q rest a' w'
   | .thr t v sets=>b6 C (s.eff (.sets (upd pre sets))) a w'->Ok ((s.eff (.sets (upd pre sets))).m C) w' v->Q (.panic [{ v:=.iface t v.den,recovered:=false }]) a w'):wpList P all.toArray Q L a w:=by
 subst hL;unfold wpList;rw[if_pos (Be h hg)];refine .inl ?_;obtain⟨hrun,hok⟩:=iE hop hcal h hgv hl hen;have hdist:=Z9 h hnd hpre;unfold Oper.wp;rw[hrun];simp only[Oper.upon];have:=hsp (s.m C) w (ow h) (hsim.ok hok) ⟨fun e he=>(h.mem _ _ (hpre e he)).1,fun e he=>(h.mem _ _ (hpre e he)).2.1,fun e he o=>.inr (.inl ⟨e.1,e.2,hpre e he,rfl⟩),hdist⟩;rw[<-hsim.map]at this;refine this.mono ?_
 rintro e w' ⟨x,hx⟩
 have hK:=K x w'
 cases ho:out x with
 |ret cr=>
  rw[ho]at hx hK;obtain⟨rfl,g1,g2⟩:=hx;obtain⟨f1,f2⟩:=h.called hdist hpre g2;refine hK _ (f1.put o.dst (fun t ht=>?_) cr.v (fun _=>f2 _ g1) _ fun _=>rfl);rw[lT];exact gR hd t ht
 |thr t v sets=>
  rw[ho]at hx hK;obtain⟨rfl,g1,g2⟩:=hx;obtain⟨f1,f2⟩:=h.called hdist hpre g2;rw[List.append_nil]at f1 f2;exact hK f1 (f2 _ (by rw[ru];exact g1))
end
end Go.Proofs.YtmbkanpapkhnaaaGreat.Sym
namespace Go.Proofs.YtmbkanpapkhnaaaGreat.Sym
open Go Go.RowKit
structure i5 where
 kind:Int
 lab:Lab
 key:Int
 hi:Int
 val:ByteArray
 most:Int
 pA:Option Addr
 pn:Nat
 pc:Nat
 pf:Nat->Int
 x1:Int
 x2:Int
 y1:Int
 y2:Int
 how:Int
 bucket:Int
 budget:Int
abbrev jR(J:i5):List AV:=[.int .i64 J.kind,.int .i64 J.lab.len,.int .u64 J.lab.bits,.int .u64 J.key,.int .u64 J.hi,.str J.val,.int .i64 J.most,.sl none J.pA J.pn J.pc 1 (fun i=>[.int .i64 (J.pf i)]),.int .u32 J.x1,.int .u32 J.x2,.int .u32 J.y1,.int .u32 J.y2,.int .i64 J.how,.int .i64 J.bucket,.int .i64 J.budget]
abbrev aR(J:i5):AV:=.agg (jR J)
abbrev C0(J:i5)(A:Option Addr)(c:Nat)(p:Pst):List AV:=[.int .i64 J.kind,.int .i64 J.lab.len,.int .u64 J.lab.bits,.int .u64 J.key,.int .u64 J.hi,.str J.val,.int .i64 J.most,.sl none J.pA J.pn J.pc 1 (fun i=>[.int .i64 (J.pf i)]),.int .u32 J.x1,.int .u32 J.x2,.int .u32 J.y1,.int .u32 J.y2,.int .i64 J.how,.int .i64 J.bucket,.int .i64 J.budget,
 .sl none A p.n c 8 (fun j=>Z3 (p.g j)),.int .i64 p.note.code,.bool (.v p.note.had),.str p.note.val,.sl none none 0 0 2 (fun _=>[]),.int .u64 0,.bool .ff]
def mF.abs(s:mF):Rsl:=⟨s.code,s.had,s.val,b4 s.f s.n,s.key,s.more⟩
def A8.absQ(q:A8):Wq:=⟨q.kind,q.lab,q.ver,q.x.r.abs,q.s.abs⟩
def wqA(x:i8)(w:Wq):A8:=⟨w.kind,w.lab,w.ver,⟨x.A 1,x.c 1,w.r.rn⟩,⟨w.res.code,w.res.had,w.res.val,x.A 2,w.res.items.length,x.c 2,itF w.res.items,w.res.key,w.res.more⟩⟩
theorem ko(A:Option Addr)(n c:Nat)(f:Nat->Itm):Sim (.sl none A n c 2 (fun i=>itC (f i))) (.sl none A (b4 f n).length c 2 (fun i=>itC (itF (b4 f n) i))):=
 Sim.resl (i3 f n).symm fun t ht=>by rw[i3]at ht;rw[u0 f n t ht]
theorem zj(q:A8)(x:i8)(h1:x.A 1=q.x.A)(h2:x.c 1=q.x.c)(h3:x.A 2=q.s.A)(h4:x.c 2=q.s.c):Sim (D5 q) (D5 (wqA x q.absQ)):=by
 unfold wqA;simp only[h1,h2,h3,h4];exact Sim.agg ⟨zr,zr,zr,zr,zr,ko _ _ _ _,zr,zr,zr,zr,zr,zr,ko _ _ _ _,zr,zr,trivial⟩
def iV{α : Type}(k0:Nat)(J:i5)(enc:α->AV)(r:Rs α)(x:i8):iF:=match r with
 | .ok a p=>.ret ⟨enc a,[(k0,C0 J (x.A 0) (x.c 0) p)],[]⟩
 | .stop w p=>.thr 40 (D5 (wqA x w)) [(k0,C0 J (x.A 0) (x.c 0) p)]
theorem Al{α : Type}(k0 b:Nat)(J:i5)(enc:α->AV)(r:Rs α)(x:i8)(t:Nat)(cs:List AV):za [(k0,⟨b,t,cs⟩)] (iV 0 J enc r x) (iV k0 J enc r x):=by
 cases r with
 |ok a p=>exact⟨rfl,rfl,zr,rfl⟩
 |stop w p=>exact⟨rfl,zr,rfl,rfl⟩
structure j0(J:i5):Prop where
 lo:-1000000<=J.budget
 hi:J.budget<=1000000
 lab:U64 J.lab.bits
 key:U64 J.key
 hik:U64 J.hi
abbrev i4:AV:=.tup []
def s5{α : Type}(f:FuncId)(k0 b:Nat)(J:i5)(A:Option Addr)(c:Nat)(p:Pst)(args:List AV)(enc:α->AV)(r:Rs α):Prop:=
 W8 Tryz.prog f (.ptr k0 b 0::args) [(k0,⟨b,139,C0 J A c p⟩)] (fun x=>iV k0 J enc r x)
theorem s5.ok{α : Type}{f:FuncId}{k0 b:Nat}{J:i5}{A:Option Addr}{c:Nat}{p q:Pst}{args:List AV}{enc:α->AV}{r:Rs α}{a:α}(h:s5 f k0 b J A c p args enc r)(e:r = .ok a q) :
  v8 Tryz.prog f (.ptr k0 b 0::args) [(k0,⟨b,139,C0 J A c p⟩)] (fun x=>⟨enc a,[(k0,C0 J (x.A 0) (x.c 0) q)],[]⟩):=by
 subst e;exact W8.x h fun _=>rfl
theorem s5.stop{α : Type}{f:FuncId}{k0 b:Nat}{J:i5}{A:Option Addr}{c:Nat}{p q:Pst}{args:List AV}{enc:α->AV}{r:Rs α}{w:Wq}(h:s5 f k0 b J A c p args enc r)(e:r = .stop w q) :
  W8 Tryz.prog f (.ptr k0 b 0::args) [(k0,⟨b,139,C0 J A c p⟩)] (fun x=>.thr 40 (D5 (wqA x w)) [(k0,C0 J (x.A 0) (x.c 0) q)]):=by
 subst e;exact h
theorem s5.re{α : Type}{f:FuncId}{k0 b:Nat}{J:i5}{A:Option Addr}{c:Nat}{p:Pst}{args args':List AV}{enc:α->AV}{r:Rs α}(h:s5 f 0 b J A c p args enc r)(ha:F0 args' args):s5 f k0 b J A c p args' enc r:=
 W8.re h ⟨Sim.ptr,ha⟩ rfl fun x=>Al _ _ _ _ _ _ _ _
section
variable {P:Program} {T:List (Nat×TI)} {s:St} {a:Act} {w:World} {α : Type} {Kk:Kn} {m:Nat->Nat->Prop} {w0:World} {b k0 ty:Nat} {cs:List AV} {fn:Func} {enc:α->AV} {J:i5} {r:Rs α}
theorem Ha(h:b6 ⟨m,w0,ats [(k0,⟨b,ty,cs⟩)],[],Kk⟩ s a w){x:i8}{wq:Wq}{q:Pst}(hok:Ok (s.m ⟨m,w0,ats [(k0,⟨b,ty,cs⟩)],[],Kk⟩) w (D5 (wqA x wq)))(hr:r = .stop wq q)(hs:B7 s [(k0,⟨b,ty,cs⟩)] [(k0,C0 J (x.A 0) (x.c 0) q)]) :
  bodyPost P fn (dT m w0 [(k0,⟨b,ty,cs⟩)] (fun x=>iV k0 J enc r x)) (.panic [{ v:=.iface 40 (D5 (wqA x wq)).den,recovered:=false }]) a w:=by
 subst hr;exact wd h hok x rfl (zr) hs
theorem Em(hT:o5 P T)(h:b6 ⟨m,w0,ats [(k0,⟨b,ty,cs⟩)],[],Kk⟩ s a w){rs:List ResultVar}(hfn:fn.results=rs.toArray){rr:List AV×List Ob}(hrr:Y4 T s rs=some rr)(ho:b7 P Kk rr.2)
  {v:α} {q:Pst} (A:Option Addr) (c:Nat) (hr:r = .ok v q) (he:Sim (can (Q5 rr.1)) (can (enc v))) (hs:B7 s [(k0,⟨b,ty,cs⟩)] [(k0,C0 J A c q)]) :
  bodyPost P fn (dT m w0 [(k0,⟨b,ty,cs⟩)] (fun x=>iV k0 J enc r x)) .ret a w/\bodyPost P fn (dT m w0 [(k0,⟨b,ty,cs⟩)] (fun x=>iV k0 J enc r x)) .normal a w:=by
 subst hr;exact Hh hT h hfn hrr ho ⟨0,fun _=>A,fun _=>c,fun _=>.empty⟩ rfl [] he hs trivial
end
theorem xi{m:Nat->Nat->Prop}{w:World}{t:Nat}{v:AV}(h:Ok m w (.ifc t v)):Ok m w v:=by cases h with|ifc _ _ h=>exact h
abbrev xT:AV:=.agg [.int .i64 2,.sl none none 0 0 2 (fun _=>[]),.int .i64 (-1),.int .u64 0,.int .u64 0]
def dM(n:Nat)(f:Nat->Int)(v:Int):Bool:=(List.range n).any fun i=>decide (f i=v)
theorem Cu{n:Nat}{f:Nat->Int}{v:Int}{i:Nat}(hi:i<n)(h:f i=v):dM n f v=true:=List.any_eq_true.2 ⟨i,List.mem_range.2 hi,by simp[h]⟩
theorem Ct{n:Nat}{f:Nat->Int}{v:Int}(h:∀j,j<n->f j≠v):dM n f v=false:=by
 rw[Bool.eq_false_iff];intro ha;obtain⟨i,hi,he⟩:=List.any_eq_true.1 ha;exact h i (List.mem_range.1 hi) (of_decide_eq_true he)
theorem If(f:Nat->Int)(v:Int):dM 1 f v=decide (f 0=v):=by
 show(decide (f 0=v)||false)=_
 exact Bool.or_false _
theorem DE(f:Nat->Int)(v:Int):dM 2 f v=(decide (f 0=v)||decide (f 1=v)):=by
 show(decide (f 0=v)||(decide (f 1=v)||false))=_
 rw[Bool.or_false]
theorem tK(a b:Int):decide (a=b)=decide (b=a):=decide_eq_decide.2 ⟨Eq.symm,Eq.symm⟩
section
variable {P:Program} {T:List (Nat×TI)} {s:St} {a:Act} {w:World} {α : Type} {Kk:Kn} {m:Nat->Nat->Prop} {w0:World} {b k0 ty:Nat} {cs:List AV} {fn:Func} {enc:α->AV} {J:i5} {r:Rs α} {rs:List ResultVar} {rr:List AV×List Ob} {B:Alg}
theorem s5.two{f:FuncId}{A:Option Addr}{c:Nat}{p:Pst}{args:List AV}(h:s5 f k0 b J A c p args enc r)(hf:Fro p r)(hp:f9 p)(hn:p.n<=1000000) :
  (∃wq q,r = .stop wq q/\W8 Tryz.prog f (.ptr k0 b 0::args) [(k0,⟨b,139,C0 J A c p⟩)] (fun x=>.thr 40 (D5 (wqA x wq)) [(k0,C0 J (x.A 0) (x.c 0) q)])) ∨
  ∃v q,r = .ok v q/\Suf p q/\f9 q/\q.n<=1000000/\v8 Tryz.prog f (.ptr k0 b 0::args) [(k0,⟨b,139,C0 J A c p⟩)] (fun x=>⟨enc v,[(k0,C0 J (x.A 0) (x.c 0) q)],[]⟩):=by
 cases hr:r with
 |ok v q=>have hs:=hf.of hr;exact .inr ⟨v,q,rfl,hs,hp.suf hs,Nat.le_trans hs.le hn,h.ok hr⟩
 |stop wq q=>exact .inl ⟨wq,q,rfl,h.stop hr⟩
abbrev rc(J:i5)(v:AV)(q:Pst):CS:=.x fun x=>⟨v,[(0,C0 J (x.A 0) (x.c 0) q)],[]⟩
theorem thm(h:b6 ⟨m,w0,ats [(k0,⟨b,ty,cs⟩)],[],Kk⟩ s a w){x:i8}{wq:Wq}{q:Pst}(hok:Ok (s.m ⟨m,w0,ats [(k0,⟨b,ty,cs⟩)],[],Kk⟩) w (D5 (wqA x wq)))(hr:r = .stop wq q)(hs:B7 s [(k0,⟨b,ty,cs⟩)] [(k0,C0 J (x.A 0) (x.c 0) q)]:=by exact⟨rfl,⟨_,rfl,zl⟩,trivial⟩) :
  bodyPost P fn (dT m w0 [(k0,⟨b,ty,cs⟩)] (fun x=>iV k0 J enc r x)) (.panic [{ v:=.iface 40 (D5 (wqA x wq)).den,recovered:=false }]) a w:=Ha h hok hr hs
theorem rmm(O:B=std)(hT:o5 P T)(h:b6 ⟨m,w0,ats [(k0,⟨b,ty,cs⟩)],[],Kk⟩ s a w){v:α}{q:Pst}(A:Option Addr)(c:Nat)(hr0:r = .ok v q)(hfn:fn.results=rs.toArray:=by rfl)(hr:Y4 T s rs=some rr:=by first|rfl|(conv=>lhs;cbv))(ho:b7 P Kk rr.2:=by first|exact trivial|(subst O;simp[b7,Ob.holds]))
  (he:Sim (can (Q5 rr.1)) (can (enc v)):=by subst O;exact zr) (hs:B7 s [(k0,⟨b,ty,cs⟩)] [(k0,C0 J A c q)]:=by subst O;exact⟨rfl,⟨_,rfl,zl⟩,trivial⟩) :
  bodyPost P fn (dT m w0 [(k0,⟨b,ty,cs⟩)] (fun x=>iV k0 J enc r x)) .ret a w/\bodyPost P fn (dT m w0 [(k0,⟨b,ty,cs⟩)] (fun x=>iV k0 J enc r x)) .normal a w:=Em hT h hfn hr ho A c hr0 he hs
end
section
variable {C:Cx} {P:Program} {Q:Exit->Act->World->Prop} {T:List (Nat×TI)} {s:St} {a:Act} {w:World} {B:Alg} {f:FuncId} {k:Nat} {blk:Blk} {ty:Nat} {v:i8->AV} {sets:i8->List (Nat×List AV)} {args':List AV} {id:Nat} {all rest:List Oper} {R:Alg->(Nat->i8)->St×List Ob} {fs:List D4} {o:Oper} {c:Call} {g:Operand} {l r args:(Nat->i8)->List AV}
theorem stp(i:Nat)(O:B=std)(hT:o5 P T)(kp km:List Nat)(cs:List (Nat×CS))(h:b6 C s a w)(hsp:W8 P f args' [(k,blk)] (fun x=>.thr ty (v x) (sets x)))
  (K:∀X x a w',b6 C ((R B X).1.eff (.sets (upd [(k,blk)] (sets x)))) a w'->Ok (((R B X).1.eff (.sets (upd [(k,blk)] (sets x)))).m C) w' (v x)->Q (.panic [{ v:=.iface ty (v x).den,recovered:=false }]) a w')
  (hex:∀A X,(K5 A T cs X all (l9 0 (all.take i)) s).map (fun r=>(r.1.keep kp km,r.2.1))=some (R A X):=by intro A X;conv=>lhs;cbv) (hob:∀X,b7 P C.K (R B X).2:=by
   intro X;subst O
   first
   |exact trivial
   |(simp only[b7,Ob.holds,BE.den]<;>and_intros<;>(repeat first|trivial|rfl|exact O1|exact O2|exact O3|exact(fun _ _=>by kernel_rfl)|exact O1 _ _ _ rfl|exact O2 _ _ _ rfl|refine⟨?_,?_⟩|intro h|decide|omega)<;>done)
   |(simp[b7,Ob.holds,BE.den,std,a8,o9]<;>omega))
  (hL:all.drop i=o::rest:=by rfl) (hop:o.op = .call c:=by rfl) (hcal:c.callee = .value g:=by rfl) (hg:∀X,rJ all (R B X).1 o=true:=by intro X;rfl) (hgv:∀X,val (R B X).1 [] g = .fn f (l X) (r X):=by intro X;rfl) (hl:∀X,I2 (R B X).1 [] c.args.toList=some (args X):=by intro X;rfl) (hsim:∀X,F0 (l X++args X++r X) args':=by intro X;subst O;exact zl)
  (hpre:∀X,i6 (R B X).1.mem k=some blk:=by intro X;rfl) (hd:∀X,gS (R B X).1 o.dst=true:=by intro X;rfl) (hen:j6 P f:=by exact fun _ _=>by kernel_rfl):(Code.region id all.toArray false).wp P Q a w:=
 wp_region_lit (fi 0 i O hT kp km cs h hex hob fun X a1 w1 Z=>cK hL (hg X) hop hcal Z (hgv X) (hl X) hen hsp (hsim X) (fx (hpre X)) rfl (hd X) fun x w' Z hok=>K X x _ w' Z hok)
theorem kM(i:Nat)(O:B=std)(hT:o5 P T)(kp km:List Nat)(cs:List (Nat×CS))(h:b6 C s a w)(hsp:W8 P f args' [(k,blk)] (fun x=>.thr ty (v x) (sets x)))
  (K:∀X x a w',b6 C ((R B X).1.eff (.sets (upd [(k,blk)] (sets x)))) a w'->Ok (((R B X).1.eff (.sets (upd [(k,blk)] (sets x)))).m C) w' (v x)->Q (.panic [{ v:=.iface ty (v x).den,recovered:=false }]) a w')
  (hm:P.follows .mixedOrders=true:=by kernel_rfl) (hgs:s.gs=[]:=by rfl) (hex:∀A X,(K8 A T cs none X all (l9 0 (all.take i)) s).map (fun r=>((r.1.keep kp km,r.2.1),r.2.2))=some (R A X,fs):=by intro A X;conv=>lhs;cbv) (hD:aO (all.take i) fs=true:=by kernel_rfl) (hZ:iM all i=true:=by kernel_rfl) (hlen:(all.take i).length=fs.length:=by rfl) (hob:∀X,b7 P C.K (R B X).2:=by
   intro X;subst O
   first
   |exact trivial
   |(simp only[b7,Ob.holds,BE.den]<;>and_intros<;>(repeat first|trivial|rfl|exact O1|exact O2|exact O3|exact(fun _ _=>by kernel_rfl)|exact O1 _ _ _ rfl|exact O2 _ _ _ rfl|refine⟨?_,?_⟩|intro h|decide|omega)<;>done)
   |(simp[b7,Ob.holds,BE.den,std,a8,o9]<;>omega))
  (hL:all.drop i=o::rest:=by rfl) (hop:o.op = .call c:=by rfl) (hcal:c.callee = .value g:=by rfl) (hg:∀X,rJ all (R B X).1 o=true:=by intro X;rfl) (hgv:∀X,val (R B X).1 [] g = .fn f (l X) (r X):=by intro X;rfl) (hl:∀X,I2 (R B X).1 [] c.args.toList=some (args X):=by intro X;rfl) (hsim:∀X,F0 (l X++args X++r X) args':=by intro X;subst O;exact zl)
  (hpre:∀X,i6 (R B X).1.mem k=some blk:=by intro X;rfl) (hd:∀X,gS (R B X).1 o.dst=true:=by intro X;rfl) (hen:j6 P f:=by exact fun _ _=>by kernel_rfl):(Code.region id all.toArray true).wp P Q a w:=
 lV O i none az hm hT kp km cs h hgs fs hD hZ hlen hex hob fun X a1 w1 Z=>cK hL (hg X) hop hcal Z (hgv X) (hl X) hen hsp (hsim X) (fx (hpre X)) rfl (hd X) fun x w' Z hok=>K X x _ w' Z hok
end
theorem Ex(l:Lab)(hL:isL l=true)(hb0:U64 l.bits)(h0:l.len≠0):j7 Tryz.prog 289 [f4 l,.int .u64 ((2^(64-l.len.toNat):Nat):Int)] (fun _=>f4 (N8 l)):=by
 intro m w hm hargs;obtain⟨hl0,hl1,hl2⟩:=r7 hL;have e2:=sj hL hb0 h0;obtain⟨bt,hbt⟩:=eqv (((2^(64-l.len.toNat):Nat):Int));rw[<-hbt]at hargs e2 ⊢;simp only[f4]at hargs;refine en 13 hm hargs Tryz.func289 fun B O a0 Z=>?_
 refine wp_seq (rg O a6 [1,2,4] [2,4] [] Z fun X0 _ _ Z=>?_);refine wp_seq (rg O a6 [4] [4] [] Z fun X1 _ _ Z=>?_);refine wp_ret ((rsi O a6 Z f8 (he:=?_)));subst O;have e1:IntKind.i64.wrap (l.len-1)=l.len-1:=o8 (by omega) (by omega);refine Sim.agg ⟨?_,?_,trivial⟩
 .show Sim (.int .i64 (IntKind.i64.wrap (l.len-1))) _
  rw[e1];exact zr
 show Sim (.int .u64 (o9 .andNot .u64 l.bits bt)) _
 rw[e2];exact zr
theorem AN(l:Lab)(hb0:U64 l.bits):j7 Tryz.prog 269 [f4 l,.fn 289 [] []] (fun _=>.tup [f4 (G1 l),.int .i64 (G4 l)]):=by
 intro m w hm hargs;have SI:=fD l hb0;simp only[f4]at SI hargs ⊢;obtain⟨il,hil⟩:=eqv (isL l);rw[<-hil]at SI;refine en 23 hm hargs Tryz.func269 fun B O a0 Z=>?_
 refine wp_seq (rg O a6 [1,2,4] [2,4] [] Z fun X0 _ _ Z=>?_);have O1:=SI;refine wp_seq (wp_block (wp_seq (rg O a6 [6,1,2,4] [2,4] [(1,.r fun _=>.bool (.v il))] Z fun X1 _ _ Z=>?_)));apply a7 Z rfl<;>intro hb Z
 .have hilf:il=false:=by subst O;cases il<;>first|rfl|(simp[std]at hb)
  have hE:G4 l=1:=by unfold G4;rw[<-hil,hilf];rfl
  have hV:G1 l=⟨0,0⟩:=by unfold G1;rw[hE];rfl
  refine wp_seq (rg O a6 [4,5] [4] [] Z fun X2 _ _ Z=>?_);refine wp_ret ((rsi O a6 Z f8 (he:=?_)));subst O;rw[hV,hE];exact zr
 have hilt:il=true:=by subst O;cases il<;>first|rfl|(simp[std]at hb)
 have hLt:isL l=true:=by rw[<-hil];exact hilt
 obtain⟨hl0,hl1,hl2⟩:=r7 hLt;refine wp_seq (rg O a6 [11,1,2,4] [2,4] [] Z fun X3 _ _ Z=>?_);apply a7 Z rfl<;>intro hb Z
 .have h0:l.len=0:=by subst O;simpa[std,a8]using hb
  have hE:G4 l=7:=by unfold G4;rw[<-hil,hilt,if_neg (by decide),if_pos h0]
  have hV:G1 l=⟨0,0⟩:=by unfold G1;rw[hE];rfl
  refine wp_seq (rg O a6 [4,5] [4] [] Z fun X4 _ _ Z=>?_);refine wp_ret ((rsi O a6 Z f8 (he:=?_)));subst O;rw[hV,hE];exact zr
 have h0:¬l.len=0:=by subst O;simpa[std,a8]using hb
 have hE:G4 l=0:=by unfold G4;rw[<-hil,hilt,if_neg (by decide),if_neg h0]
 have hV:G1 l=N8 l:=by unfold G1;rw[hE];rfl
 have SB:=yO (l.len-1) (by omega) (by omega);rw[show 63-(l.len-1).toNat=64-l.len.toNat by omega]at SB;have S1:=Ex l hLt hb0 h0;simp only[f4]at S1;have e1:IntKind.i64.wrap (l.len-1)=l.len-1:=o8 (by omega) (by omega);rw[<-e1]at SB;obtain⟨bt,hbt⟩:=eqv (((2^(64-l.len.toNat):Nat):Int));rw[<-hbt]at SB S1;obtain⟨k,hk⟩:=eqv (N8 l);rw[<-hk]at S1 hV;have O1:=SB;have O2:=S1;refine wp_skip (wp_seq (drg O a6 [4,5] [4] [(5,.r fun _=>.int .u64 bt),(6,.r fun _=>.agg [.int .i64 k.len,.int .u64 k.bits])] Z fun X5 _ _ Z=>?_));refine wp_ret ((rsi O a6 Z f8 (he:=?_)));subst O;rw[hV,hE];exact zr
theorem wY(l:Lab)(hb0:U64 l.bits):j7 Tryz.prog 267 [f4 l] (fun _=>.tup [f4 (G1 l),.int .i64 (G4 l)]):=by
 intro m w hm hargs;have SI:=AN l hb0;simp only[f4]at SI hargs ⊢;obtain⟨k,hk⟩:=eqv (G1 l);rw[<-hk]at SI ⊢;obtain⟨q,hq⟩:=eqv (G4 l);rw[<-hq]at SI ⊢;refine en 8 hm hargs Tryz.func267 fun B O a0 Z=>?_
 refine wp_seq (rg O a6 [1,2] [1,2] [] Z fun X0 _ _ Z=>?_);have O1:=SI;refine wp_seq (rg O a6 [2,3] [2] [(1,.r fun _=>.tup [.agg [.int .i64 k.len,.int .u64 k.bits],.int .i64 q])] Z fun X1 _ _ Z=>?_);exact wp_ret ((rsp O a6 Z f8).1)
theorem kU(l:Lab)(hb0:U64 l.bits):j7 Tryz.prog 174 [f4 l] (fun _=>.tup [f4 (G1 l),.int .i64 (G4 l)]):=by
 intro m w hm hargs;have SI:=iR l hb0;simp only[f4]at SI hargs ⊢;obtain⟨il,hil⟩:=eqv (isL l);rw[<-hil]at SI;refine en 19 hm hargs Tryz.func174 fun B O a0 Z=>?_
 refine wp_seq (rg O a6 [1,2] [1,2] [] Z fun X0 _ _ Z=>?_);have O1:=SI;refine wp_seq (wp_seq (rg O a6 [6,1,2] [1,2] [(1,.r fun _=>.bool (.v il))] Z fun X1 _ _ Z=>?_));apply a7 Z rfl<;>intro hb Z
 .have hilf:il=false:=by subst O;cases il<;>first|rfl|(simp[std]at hb)
  have hE:G4 l=1:=by unfold G4;rw[<-hil,hilf];rfl
  have hV:G1 l=⟨0,0⟩:=by unfold G1;rw[hE];rfl
  refine wp_seq (rg O a6 [2,3] [2] [] Z fun X2 _ _ Z=>?_);refine wp_ret ((rsi O a6 Z f8 (he:=?_)));subst O;rw[hV,hE];exact zr
 have hilt:il=true:=by subst O;cases il<;>first|rfl|(simp[std]at hb)
 have hLt:isL l=true:=by rw[<-hil];exact hilt
 obtain⟨hl0,hl1,hl2⟩:=r7 hLt;refine wp_skip (wp_seq (wp_seq (rg O a6 [10,1,2] [1,2] [] Z fun X3 _ _ Z=>?_)));apply a7 Z rfl<;>intro hb Z
 .have h0:l.len=0:=by subst O;simpa[std,a8]using hb
  have hE:G4 l=7:=by unfold G4;rw[<-hil,hilt,if_neg (by decide),if_pos h0]
  have hV:G1 l=⟨0,0⟩:=by unfold G1;rw[hE];rfl
  refine wp_seq (rg O a6 [2,3] [2] [] Z fun X4 _ _ Z=>?_);refine wp_ret ((rsi O a6 Z f8 (he:=?_)));subst O;rw[hV,hE];exact zr
 have h0:¬l.len=0:=by subst O;simpa[std,a8]using hb
 have hE:G4 l=0:=by unfold G4;rw[<-hil,hilt,if_neg (by decide),if_neg h0]
 have hV:G1 l=N8 l:=by unfold G1;rw[hE];rfl
 have SD:=kr l hb0 hl0 hl1;simp only[f4]at SD;obtain⟨d,hd⟩:=eqv (mkB (dX l.bits l.len.toNat));rw[<-hd]at SD;have hds:d.size=l.len.toNat:=by rw[hd,R1];exact eR _ (by omega)
 have hdx:unB (d.extract 0 (l.len-1).toNat)=(K6 64 l.bits.toNat).take (l.len.toNat-1):=by
  rw[hd,bC,aL,List.drop_zero];unfold dX;rw[List.take_take];congr 1;omega
 have hxs:(d.extract 0 (l.len-1).toNat).size=l.len.toNat-1:=by rw[ByteArray.size_extract];omega
 have SO:=xk (d.extract 0 (l.len-1).toNat) (fun x hx=>by rw[hdx]at hx;exact gM x (List.mem_of_mem_take hx)) (by omega);have hk0:ofT (d.extract 0 (l.len-1).toNat)=N8 l:=by
  unfold ofT N8;rw[hdx,hxs,ku (eb hb0) (by omega)];congr 1;omega
 rw[hk0]at SO;simp only[f4]at SO;have e1:IntKind.i64.wrap (l.len-1)=l.len-1:=o8 (by omega) (by omega);rw[<-e1]at SO;obtain⟨k,hk⟩:=eqv (N8 l);rw[<-hk]at SO hV;refine wp_skip (wp_seq ?_);refine drg O a6 [2,3] [2] [(1,.r fun _=>.str d),(6,.r fun _=>.agg [.int .i64 k.len,.int .u64 k.bits])] Z (hob:=by intro X;subst O;simp only[b7,Ob.holds,BE.den]<;>and_intros<;>repeat first|trivial|rfl|exact SD|exact SO|exact⟨by decide,(show(0:Int)<=IntKind.i64.wrap (l.len-1)by omega),(show IntKind.i64.wrap (l.len-1)<=(d.size:Int)by omega)⟩|exact(show(0:Int)<=IntKind.i64.wrap (l.len-1)by omega)|exact(show IntKind.i64.wrap (l.len-1)<=(d.size:Int)by omega)|exact(fun _ _=>by kernel_rfl)|refine⟨?_,?_⟩|intro h|exact Int.le_refl _|decide|omega) fun X5 _ _ Z=>?_
 refine wp_ret ((rsi O a6 Z f8 (he:=?_)));subst O;rw[hV,hE];exact zr
theorem EQ(A:Option Addr)(n c:Nat)(f:Nat->Int)(v:Int):j7 Tryz.prog 141 [.sl none A n c 1 (fun i=>[.int .i64 (f i)]),.int .i64 v] (fun x=>.int .i64 (if dM n f v then(x.b:Int)else -1)):=by
 intro m w hm hargs;have hlen:=iW (hargs (.sl none A n c 1 (fun i=>[.int .i64 (f i)])) (by simp));have hmx:maxLen=9223372036854775807:=rfl;refine en 19 hm hargs Tryz.func141 fun B O a0 Z=>?_
 refine wp_seq (rg O a6 [0,1] [] [] Z fun X0 _ _ Z=>?_);refine wp_seq (wp_seq (rg O a6 [8,0,1,7] [] [] Z fun X1 _ _ Z=>?_));refine wp_block (l5 (ι:=Nat) (fun p=>[(8,.int .i64 (p:Int))]) (fun p=>[]) (fun p=>[]) (fun p=>p<=n/\∀j,j<p->f j≠v) (fun p=>n-p) 0 ⟨Nat.zero_le _,fun i hi=>absurd hi (Nat.not_lt_zero _)⟩ Z ?_)
 rintro i ⟨hi,hall⟩ _ _ Z
 try dsimp only at hi
 try dsimp only at hall
 refine wp_seq (rg O a6 [9,0,1,7,8] [] [] Z fun X2 _ _ Z=>?_);refine wp_seq (a7 Z rfl (fun hb Z=>?_) (fun hb Z=>?_))
 .have hin:i<n:=by
   have:(i:Int)<(n:Int):=by subst O;simpa[std,a8]using hb
   omega
  refine wp_skip (wp_seq (wp_block (wp_seq (rg O a6 [0,1,5,7,8] [] [] Z fun X3 _ _ Z=>?_))));apply wp_seq;refine rg O a6 [16,0,1,5,7,8] [] [] Z (hob:=by intro X;subst O;simp only[b7,Ob.holds,BE.den]<;>and_intros<;>repeat first|trivial|rfl|exact(show(0:Int)<=(i:Int)by omega)|exact(show(i:Int)<(n:Int)by omega)|exact(fun _ _=>by kernel_rfl)|refine⟨?_,?_⟩|intro h|exact Int.le_refl _|decide|omega) fun X4 _ _ Z=>?_
  apply a7 Z rfl<;>intro hb Z
  .have heq:f i=v:=by
    have:(v==f i)=true:=by subst O;exact hb
    simpa using(beq_iff_eq.1 this).symm
   refine wp_seq (rg O a6 [4] [] [] Z fun X5 _ _ Z=>?_);refine wp_ret ((rsp O a6 Z (⟨i,fun _=>none,fun _=>0,fun _=>.empty⟩) (he:=?_)).1);subst O;rw[Cu hin heq];rfl
  have hne:f i≠v:=by
   have:(v==f i)=false:=by subst O;exact hb
   intro h;rw[h]at this;simp at this
  refine wp_skip (rg O a6 [8,0,1,7] [] [] Z fun X6 _ _ Z=>?_);have e:B.arith .add .i64 (i:Int) 1=((i+1:Nat):Int):=by subst O;exact o3 (n:=n) hin (by omega)
  refine⟨i+1,⟨by omega,fun j hj=>?_⟩,by omega,by rw[<-e];exact Z⟩
  by_cases hij:j=i
  .rw [hij];exact hne
  exact hall j (by omega)
 have hout:i=n:=by
  have:¬(i:Int)<(n:Int):=by subst O;simpa[std,a8]using hb
  omega
 refine wp_exit (wp_seq (rg O a6 [4] [] [] Z fun X7 _ _ Z=>?_));refine wp_ret ((rsp O a6 Z f8 (he:=?_)).1);subst O;rw[hout]at hall;rw[Ct hall];rfl
theorem oU(A:Option Addr)(n c:Nat)(f:Nat->Int)(v:Int):j7 Tryz.prog 86 [.sl none A n c 1 (fun i=>[.int .i64 (f i)]),.int .i64 v] (fun _=>.bool (.v (dM n f v))):=by
 intro m w hm hargs;have S0:=EQ A n c f v;obtain⟨q,hq⟩:=eqv (dM n f v);rw[<-hq]at S0 ⊢;have S:∀x:i8,∃z:Int,z=(if q=true then(x.b:Int)else -1):=fun x=>⟨_,rfl⟩
 refine en 9 hm hargs Tryz.func86 fun B O a0 Z=>?_
 refine wp_seq (rg O a6 [0,1] [] [] Z fun X0 _ _ Z=>?_);have O1:=S0;refine wp_seq (rg O a6 [4] [] [(2,.r fun x=>.int .i64 (if q=true then(x.b:Int)else -1))] Z fun X1 _ _ Z=>?_);refine wp_ret ((rsi O a6 Z f8 (he:=?_)));subst O;refine Sim.bool ?_
 show decide ((if q=true then(((X1 2).b:Nat):Int)else -1) ≥ 0)=q
 cases q
 .rfl
 simp
theorem IT(g:u2)(A:Option Addr)(k:Int)(f:Nat->Int)(h0:f 0=k):j7 Tryz.prog 179 [u5 g,.sl none A 1 1 1 (fun i=>[.int .i64 (f i)])] (fun _=>.bool (.v (gk g k))):=by
 intro m w hm hargs;have S:=oU A 1 1 f g.x.r.kd;obtain⟨q,hq⟩:=eqv (dM 1 f g.x.r.kd);rw[<-hq]at S;refine en 14 hm hargs Tryz.func179 fun B O a0 Z=>?_
 refine wp_seq (rg O a6 [1,2] [2] [] Z fun X0 _ _ Z=>?_);have O1:=S;refine wp_seq (rg O a6 [4] [] [(7,.r fun _=>.bool (.v q))] Z fun X1 _ _ Z=>?_);refine wp_ret ((rsi O a6 Z f8 (he:=?_)));subst O;refine Sim.bool ?_
 show(if g.has=true then q else false)=_
 rw[hq,If,h0];unfold gk;simp only[tK g.x.r.kd];cases g.has<;>rfl
theorem F5(g:u2)(G:Option Nat)(A:Option Addr)(k:Int)(cells:Nat->List AV)(h0:cells 0=[.int .i64 k]):j7 Tryz.prog 179 [u5 g,.sl G A 1 1 1 cells] (fun _=>.bool (.v (gk g k))):=
 (IT g A k (fun _=>k) rfl).sim ⟨zr,Sim.recell (fun i hi=>by
  match i,hi with
  |0,_=>rw[h0]),trivial⟩
theorem IS(g:u2)(A:Option Addr)(k k2:Int)(f:Nat->Int)(h0:f 0=k)(h1:f 1=k2):j7 Tryz.prog 179 [u5 g,.sl none A 2 2 1 (fun i=>[.int .i64 (f i)])] (fun _=>.bool (.v ((gk g k||gk g k2)))):=by
 intro m w hm hargs;have S:=oU A 2 2 f g.x.r.kd;obtain⟨q,hq⟩:=eqv (dM 2 f g.x.r.kd);rw[<-hq]at S;refine en 14 hm hargs Tryz.func179 fun B O a0 Z=>?_
 refine wp_seq (rg O a6 [1,2] [2] [] Z fun X0 _ _ Z=>?_);have O1:=S;refine wp_seq (rg O a6 [4] [] [(7,.r fun _=>.bool (.v q))] Z fun X1 _ _ Z=>?_);refine wp_ret ((rsi O a6 Z f8 (he:=?_)));subst O;refine Sim.bool ?_
 show(if g.has=true then q else false)=_
 rw[hq,DE,h0,h1];unfold gk;simp only[tK g.x.r.kd];cases g.has<;>rfl
theorem cw(g:u2)(G:Option Nat)(A:Option Addr)(k k2:Int)(cells:Nat->List AV)(h0:cells 0=[.int .i64 k])(h1:cells 1=[.int .i64 k2]):j7 Tryz.prog 179 [u5 g,.sl G A 2 2 1 cells] (fun _=>.bool (.v ((gk g k||gk g k2)))):=
 (IS g A k k2 (fun i=>if i=0 then k else k2) rfl rfl).sim ⟨zr,Sim.recell (fun i hi=>by
  match i,hi with
  |0,_=>rw[h0];rfl
  |1,_=>rw[h1];rfl),trivial⟩
theorem qC(kd:Int)(x:RA)(mk:Int):j7 Tryz.prog 164 [.int .i64 kd,C7 x,.int .u64 mk] (fun _=>C7 (asR kd x mk)):=by
 intro m w hm hargs;refine en 14 hm hargs Tryz.func164 fun B O a0 Z=>?_
 refine wp_seq (rg O a6 [0,2,4,6] [4,6] [] Z fun X0 _ _ Z=>?_);refine wp_seq (rg O a6 [6] [6] [] Z fun X1 _ _ Z=>?_);exact wp_ret ((rsp O a6 Z f8).1)
theorem fE:j7 Tryz.prog 262 [] (fun _=>xT):=by
 intro m w hm hargs;have SN:=ou;simp only[f4,B9]at SN;refine en 3 hm hargs Tryz.func262 fun B O a0 Z=>?_
 refine wp_seq (rg O a6 [0] [0] [] Z fun X0 _ _ Z=>?_);have O1:=SN;refine wp_seq (rg O a6 [0] [0] [(0,.r fun _=>.agg [.int .i64 (-1),.int .u64 0])] Z fun X1 _ _ Z=>?_);exact wp_ret ((rsp O a6 Z f8).1)
theorem tS(l:Lab)(hb0:U64 l.bits):j7 Tryz.prog 260 [f4 l] (fun _=>.agg [.int .i64 (chV l 0).len,.int .u64 (chV l 0).bits,.int .i64 (chV l 1).len,.int .u64 (chV l 1).bits]):=by
 intro m w hm hargs;have S0:=kB l hb0 0 (.inl rfl);have S1:=kB l hb0 1 (.inr rfl);simp only[f4]at S0 S1 hargs;obtain⟨x,hx⟩:=eqv (chV l 0);rw[<-hx]at S0 ⊢;obtain⟨y,hy⟩:=eqv (chV l 1);rw[<-hy]at S1 ⊢;obtain⟨u,hu⟩:=eqv (chE l 0);rw[<-hu]at S0;obtain⟨v,hv⟩:=eqv (chE l 1);rw[<-hv]at S1;refine en 20 hm hargs Tryz.func260 fun B O a0 Z=>?_
 refine wp_seq (rg O a6 [1,2] [1,2] [] Z fun X0 _ _ Z=>?_);have O1:=S0;refine wp_seq (rg O a6 [1,2,3] [1,2,3] [(1,.r fun _=>.tup [.agg [.int .i64 x.len,.int .u64 x.bits],.int .i64 u])] Z fun X1 _ _ Z=>?_);have O1:=S1;refine wp_seq (rg O a6 [2,3,5] [2,3,5] [(1,.r fun _=>.tup [.agg [.int .i64 y.len,.int .u64 y.bits],.int .i64 v])] Z fun X2 _ _ Z=>?_);refine wp_seq (rg O a6 [2] [2] [] Z fun X3 _ _ Z=>?_);exact wp_ret ((rsp O a6 Z f8).1)
theorem Gj(b:Nat)(J:i5)(hJ:j0 J)(A:Option Addr)(c:Nat)(p:Pst)(hp:f9 p)(hn:p.n<=1000000)(q:A8):s5 224 0 b J A c p [D5 q] (u5) (U3 J.budget q.absQ p):=by
 intro m w hm hargs hpre;obtain⟨ha,hbu,_,_,_⟩:=hJ;have hmx:maxLen=9223372036854775807:=rfl;have e1:IntKind.i64.wrap ((p.n:Int)+J.budget)=(p.n:Int)+J.budget:=o8 (by omega) (by omega);refine enX 60 hm hpre hargs Tryz.func224 fun B O a0 Z=>?_
 refine wp_seq (rg O a6 [0,3,4] [0,3,4] [] Z fun X0 _ _ Z=>?_);refine wp_seq (wp_seq (drg O a6 [25,0,3,4] [0,3,4] [] Z fun X1 _ _ Z=>?_));apply a7 Z rfl<;>intro hb Z
 .have ht:0<p.n/\0<(p.n:Int)+J.budget:=by
   have h9:(if decide ((p.n:Int)>0)=true then decide (IntKind.i64.wrap ((p.n:Int)+J.budget)>0)else false)=true:=by subst O;exact hb
   rw[e1]at h9;simp at h9;omega
  apply wp_seq;refine rg O a6 [0,4,5] [0,4,5] [] Z (hob:=by intro X;subst O;simp only[b7,Ob.holds,BE.den]<;>and_intros<;>repeat first|trivial|rfl|exact⟨Int.le_refl _,(by show(0:Int)<(p.n:Int);omega)⟩|exact(by show(0:Int)<(p.n:Int);omega)|exact(fun _ _=>by kernel_rfl)|refine⟨?_,?_⟩|intro h|exact Int.le_refl _|decide|omega) fun X2 _ _ Z=>?_
  apply wp_seq;refine rg O a6 [4,5] [0,4,5] [] Z (hob:=by intro X;subst O;simp only[b7,Ob.holds,BE.den]<;>and_intros<;>repeat first|trivial|rfl|exact(by show(0:Int)<=1;decide)|exact(by show(1:Int)<=(p.n:Int);omega)|exact(show(0:Int)<=1/\(1:Int)<=(p.n:Int)/\(p.n:Int)<=(p.n:Int)by omega)|exact(fun _ _=>by kernel_rfl)|refine⟨?_,?_⟩|intro h|exact Int.le_refl _|decide|omega) fun X3 _ _ Z=>?_
  refine wp_seq (rg O a6 [4] [0,4] [] Z fun X4 _ _ Z=>?_);refine wp_ret ((rmm O a6 Z (v:=p.g 0) (q:=p.tl) (aQ A c 1 8) (c-1) (if_pos ht) (he:=?_) (hs:=?_)).1)
  .subst O;exact zr
  subst O;exact⟨rfl,⟨_,rfl,⟨zr,zr,zr,zr,zr,zr,zr,zr,zr,zr,zr,zr,zr,zr,zr,Sim.recell (fun i hi=>by show Z3 (p.g (1+i))=Z3 (p.g (i+1));rw[Nat.add_comm]),zr,zr,zr,zr,zr,zr,trivial⟩⟩,trivial⟩
 have ht:¬(0<p.n/\0<(p.n:Int)+J.budget):=by
  have h9:(if decide ((p.n:Int)>0)=true then decide (IntKind.i64.wrap ((p.n:Int)+J.budget)>0)else false)=false:=by subst O;exact hb
  rw[e1]at h9;simp at h9;omega
 refine wp_skip (wp_seq (wp_seq (drg O a6 [52,0,3] [0,3] [] Z fun X5 _ _ Z=>?_)));apply a7 Z rfl<;>intro hb Z
 .have ho:(p.n:Int)+J.budget<=0:=by
   have h9:decide (IntKind.i64.wrap ((p.n:Int)+J.budget)<=0)=true:=by subst O;exact hb
   rw[e1]at h9;simpa using h9
  refine rg O a6 [3] [0,3] [] Z fun X6 _ _ Z=>?_
  refine wp_region_lit (lpr 0 2 O a6 [59] [0] [] Z fun X7_0 _ _ Z=>?_);refine ne rfl rfl rfl Z rfl (wd (P:=Tryz.prog) (fn:=Tryz.f224) (pre:=[(0,⟨b,139,C0 J A c p⟩)]) (sets:=[(0,C0 J A c p)]) (out:=fun x=>iV 0 J u5 (U3 J.budget q.absQ p) x) Z (xi (Z.slot 59 rfl).2) ⟨0,fun i=>if i=0 then A else none,fun i=>if i=0 then c else 0,fun _=>.empty⟩ (by show iV 0 J u5 (U3 J.budget q.absQ p) _=_;unfold U3;rw[if_neg ht,if_pos ho];rfl) ?_ ⟨rfl,⟨_,rfl,zl⟩,trivial⟩)
  subst O;exact Sim.agg ⟨zr,zr,zr,zr,zr,zq0,zr,zr,zr,zr,zr,zr,zq0,zr,Sim.ff,trivial⟩
 have ho:¬(p.n:Int)+J.budget<=0:=by
  have h9:decide (IntKind.i64.wrap ((p.n:Int)+J.budget)<=0)=false:=by subst O;exact hb
  rw[e1]at h9;simpa using h9
 refine wp_skip (wp_region_lit (lpr 0 2 O a6 [59] [0] [] Z fun X7_0 _ _ Z=>?_));refine ne rfl rfl rfl Z rfl (wd (P:=Tryz.prog) (fn:=Tryz.f224) (pre:=[(0,⟨b,139,C0 J A c p⟩)]) (sets:=[(0,C0 J A c p)]) (out:=fun x=>iV 0 J u5 (U3 J.budget q.absQ p) x) Z (xi (Z.slot 59 rfl).2) ⟨0,fun i=>if i=0 then A else if i=1 then q.x.A else q.s.A,fun i=>if i=0 then c else if i=1 then q.x.c else q.s.c,fun _=>.empty⟩ (by show iV 0 J u5 (U3 J.budget q.absQ p) _=_;unfold U3;rw[if_neg ht,if_neg ho];rfl) ?_ ⟨rfl,⟨_,rfl,zl⟩,trivial⟩)
 subst O;exact zj q _ rfl rfl rfl rfl
theorem yT(k0 b:Nat)(J:i5)(hJ:j0 J)(A:Option Addr)(c:Nat)(p:Pst)(hp:f9 p)(hn:p.n<=1000000)(q:A8):s5 224 k0 b J A c p [D5 q] (u5) (U3 J.budget q.absQ p):=s5.re (Gj b J hJ A c p hp hn q) (by repeat(first|exact trivial|refine⟨zr,?_⟩))
def fH:mF:=⟨0,false,⟨#[]⟩,none,0,0,fun _=>C2,0,false⟩
theorem Gg(k0 b:Nat)(J:i5)(hJ:j0 J)(A:Option Addr)(c:Nat)(p:Pst)(hp:f9 p)(hn:p.n<=1000000)(l:Lab):s5 224 k0 b J A c p [.agg [.int .i64 1,.int .i64 l.len,.int .u64 l.bits,.int .u64 0,.int .i64 0,.sl none none 0 0 2 (fun _=>[]),.int .i64 0,.int .u64 0,.int .u64 0,.int .i64 0,.bool .ff,.str ⟨#[]⟩,.sl none none 0 0 2 (fun _=>[]),.int .u64 0,.bool .ff]] u5 (K0 J.budget l p):=
 s5.re (yT 0 b J hJ A c p hp hn ⟨1,l,0,zRA,fH⟩) ⟨Sim.agg ⟨zr,zr,zr,zr,zr,zq0,zr,zr,zr,zr,Sim.ff,zr,zq0,zr,Sim.ff,trivial⟩,trivial⟩
theorem Gi(k0 b:Nat)(J:i5)(hJ:j0 J)(A:Option Addr)(c:Nat)(p:Pst)(hp:f9 p)(hn:p.n<=1000000)(l:Lab)(v:Int)(x:RA):s5 224 k0 b J A c p [.agg [.int .i64 2,.int .i64 l.len,.int .u64 l.bits,.int .u64 v,.int .i64 x.r.kd,.sl none x.A x.r.n x.c 2 (fun i=>itC (x.r.f i)),.int .i64 x.r.nx.len,.int .u64 x.r.nx.bits,.int .u64 x.r.mrk,.int .i64 0,.bool .ff,.str ⟨#[]⟩,.sl none none 0 0 2 (fun _=>[]),.int .u64 0,.bool .ff]] u5 (U3 J.budget ⟨2,l,v,x.r.abs,aJ⟩ p):=
 s5.re (yT 0 b J hJ A c p hp hn ⟨2,l,v,x,fH⟩) ⟨Sim.agg ⟨zr,zr,zr,zr,zr,zr,zr,zr,zr,zr,Sim.ff,zr,zq0,zr,Sim.ff,trivial⟩,trivial⟩
theorem Gh(k0 b:Nat)(J:i5)(hJ:j0 J)(A:Option Addr)(c:Nat)(p:Pst)(hp:f9 p)(hn:p.n<=1000000)(l:Lab)(v:Int):s5 224 k0 b J A c p [.agg [.int .i64 3,.int .i64 l.len,.int .u64 l.bits,.int .u64 v,.int .i64 0,.sl none none 0 0 2 (fun _=>[]),.int .i64 0,.int .u64 0,.int .u64 0,.int .i64 0,.bool .ff,.str ⟨#[]⟩,.sl none none 0 0 2 (fun _=>[]),.int .u64 0,.bool .ff]] u5 (U3 J.budget ⟨3,l,v,i9,aJ⟩ p):=
 s5.re (yT 0 b J hJ A c p hp hn ⟨3,l,v,zRA,fH⟩) ⟨Sim.agg ⟨zr,zr,zr,zr,zr,zq0,zr,zr,zr,zr,Sim.ff,zr,zq0,zr,Sim.ff,trivial⟩,trivial⟩
theorem EX(b:Nat)(J:i5)(hJ:j0 J)(A:Option Addr)(c:Nat)(p:Pst)(hp:f9 p)(hn:p.n<=1000000)(l:Lab):s5 178 0 b J A c p [f4 l] (u5) (K0 J.budget l p):=by
 intro m w hm hargs hpre;refine enX 9 hm hpre hargs Tryz.func178 fun B O a0 Z=>?_
 refine wp_seq (rg O a6 [0,3,4] [0,3,4] [] Z fun X0 a0 w1 Z=>?_);apply wp_seq
 rcases(Gg 0 b J hJ A c p hp hn l).two (i7 _ _ _) hp hn with⟨w1,p1,hm1,O1⟩|⟨g1,p1,hm1,hs1,hp1,hn1,S1⟩
 .refine stp 3 O a6 [5,7] [0] [] Z O1 fun _ _ _ _ Z hk=>?_
  exact thm (P:=Tryz.prog) (fn:=Tryz.f178) (q:=p1) Z hk (by simp[Rs.bind,hm1])
 have O1:=S1;refine rg O a6 [4] [0,4] [(3,rc J (u5 g1) p1)] Z fun X1 a0 w1 Z=>?_
 exact wp_ret ((rmm O a6 Z (v:=g1) (q:=p1) ((X1 3).A 0) ((X1 3).c 0) (by simp[Rs.bind,hm1])).1)
theorem W0(k0 b:Nat)(J:i5)(hJ:j0 J)(A:Option Addr)(c:Nat)(p:Pst)(hp:f9 p)(hn:p.n<=1000000)(l:Lab):s5 178 k0 b J A c p [f4 l] (u5) (K0 J.budget l p):=s5.re (EX b J hJ A c p hp hn l) (by repeat(first|exact trivial|refine⟨zr,?_⟩))
theorem Gb(b:Nat)(J:i5)(hJ:j0 J)(A:Option Addr)(c:Nat)(p:Pst)(hp:f9 p)(hn:p.n<=1000000)(l:Lab)(v:Int)(x:RA):s5 163 0 b J A c p [f4 l,.int .u64 v,C7 x] (fun d=>.bool (.v d)) (P3 J.budget l v x.r.abs p):=by
 intro m w hm hargs hpre;refine enX 17 hm hpre hargs Tryz.func163 fun B O a0 Z=>?_
 refine wp_seq (rg O a6 [0,2,5,7] [0,5,7] [] Z fun X0 a0 w1 Z=>?_);apply wp_seq
 rcases(Gi 0 b J hJ A c p hp hn l v x).two (cz _ _ _) hp hn with⟨w1,p1,hm1,O1⟩|⟨g1,p1,hm1,hs1,hp1,hn1,S1⟩
 .refine stp 5 O a6 [9,13] [0] [] Z O1 fun _ _ _ _ Z hk=>?_
  exact thm (P:=Tryz.prog) (fn:=Tryz.f163) (q:=p1) Z hk (by simp[P3,Rs.bind,hm1])
 have O1:=S1;refine rg O a6 [8] [0] [(5,rc J (u5 g1) p1)] Z fun X1 a0 w1 Z=>?_
 exact wp_ret ((rmm O a6 Z (v:=decide (g1.code=0)) (q:=p1) ((X1 5).A 0) ((X1 5).c 0) (by simp[P3,Rs.bind,hm1])).1)
theorem cW(k0 b:Nat)(J:i5)(hJ:j0 J)(A:Option Addr)(c:Nat)(p:Pst)(hp:f9 p)(hn:p.n<=1000000)(l:Lab)(v:Int)(x:RA):s5 163 k0 b J A c p [f4 l,.int .u64 v,C7 x] (fun d=>.bool (.v d)) (P3 J.budget l v x.r.abs p):=s5.re (Gb b J hJ A c p hp hn l v x) (by repeat(first|exact trivial|refine⟨zr,?_⟩))
theorem FO(b:Nat)(J:i5)(hJ:j0 J)(A:Option Addr)(c:Nat)(p:Pst)(hp:f9 p)(hn:p.n<=1000000)(l:Lab)(v:Int):s5 288 0 b J A c p [f4 l,.int .u64 v] (fun d=>.bool (.v d)) (iq J.budget l v p):=by
 intro m w hm hargs hpre;refine enX 14 hm hpre hargs Tryz.func288 fun B O a0 Z=>?_
 refine wp_seq (rg O a6 [0,2,4] [0,4] [] Z fun X0 a0 w1 Z=>?_);apply wp_seq
 rcases(Gh 0 b J hJ A c p hp hn l v).two (cz _ _ _) hp hn with⟨w1,p1,hm1,O1⟩|⟨g1,p1,hm1,hs1,hp1,hn1,S1⟩
 .refine stp 4 O a6 [7,10] [0] [] Z O1 fun _ _ _ _ Z hk=>?_
  exact thm (P:=Tryz.prog) (fn:=Tryz.f288) (q:=p1) Z hk (by simp[iq,Rs.bind,hm1])
 have O1:=S1;refine rg O a6 [6] [0] [(4,rc J (u5 g1) p1)] Z fun X1 a0 w1 Z=>?_
 exact wp_ret ((rmm O a6 Z (v:=decide (g1.code=0)) (q:=p1) ((X1 4).A 0) ((X1 4).c 0) (by simp[iq,Rs.bind,hm1])).1)
theorem yu(k0 b:Nat)(J:i5)(hJ:j0 J)(A:Option Addr)(c:Nat)(p:Pst)(hp:f9 p)(hn:p.n<=1000000)(l:Lab)(v:Int):s5 288 k0 b J A c p [f4 l,.int .u64 v] (fun d=>.bool (.v d)) (iq J.budget l v p):=s5.re (FO b J hJ A c p hp hn l v) (by repeat(first|exact trivial|refine⟨zr,?_⟩))
theorem wn(b:Nat)(J:i5)(hJ:j0 J)(A:Option Addr)(c:Nat)(p:Pst)(hp:f9 p)(hn:p.n<=1000000)(l:Lab)(v:Int):s5 261 0 b J A c p [f4 l,.int .u64 v] (fun q:u2=>.bool (.v (decide (q.ver=v)))) (K0 J.budget l p):=by
 intro m w hm hargs hpre;refine enX 13 hm hpre hargs Tryz.func261 fun B O a0 Z=>?_
 refine wp_seq (rg O a6 [0,2,4] [0,4] [] Z fun X0 a0 w1 Z=>?_);apply wp_seq
 rcases(W0 0 b J hJ A c p hp hn l).two (i7 _ _ _) hp hn with⟨w1,p1,hm1,O1⟩|⟨g1,p1,hm1,hs1,hp1,hn1,S1⟩
 .refine stp 2 O a6 [7,8] [0] [] Z O1 fun _ _ _ _ Z hk=>?_
  exact thm (P:=Tryz.prog) (fn:=Tryz.f261) (q:=p1) Z hk (by simp[Rs.bind,hm1])
 have O1:=S1;refine rg O a6 [6] [0] [(2,rc J (u5 g1) p1)] Z fun X1 a0 w1 Z=>?_
 exact wp_ret ((rmm O a6 Z (v:=g1) (q:=p1) ((X1 2).A 0) ((X1 2).c 0) (by simp[Rs.bind,hm1])).1)
theorem ka(k0 b:Nat)(J:i5)(hJ:j0 J)(A:Option Addr)(c:Nat)(p:Pst)(hp:f9 p)(hn:p.n<=1000000)(l:Lab)(v:Int):s5 261 k0 b J A c p [f4 l,.int .u64 v] (fun q:u2=>.bool (.v (decide (q.ver=v)))) (K0 J.budget l p):=s5.re (wn b J hJ A c p hp hn l v) (by repeat(first|exact trivial|refine⟨zr,?_⟩))
end Go.Proofs.YtmbkanpapkhnaaaGreat.Sym
namespace Go.Proofs.YtmbkanpapkhnaaaGreat
open Go.RowKit
theorem Dx:bR Tryz.prog 33 62 2 24 (.agg #[.int .u64 0,.string ⟨#[]⟩]):=⟨by kernel_rfl,by kernel_rfl,rfl,by decide⟩
theorem mB:bR Tryz.prog 33 62 2 24 (.agg #[.int .u64 0,.string ⟨#[]⟩]):=⟨by kernel_rfl,by kernel_rfl,rfl,by decide⟩
theorem AW(w:World)(B:Nat)(v:Value)(n i vb vc:Nat)(xs:List Value)(I2:List Value)(hown:Own w B 62 2 v n xs)(hi:i<=n)(hn:n<2147483648)
  (hv:w.heap[vb]? = some (.cells I2.toArray 62 (0,0))) (hvl:I2.length=2) (hne:o6 v≠some vb) (h1:∀u∈I2,u.oneCell'=true) (h1x:∀u∈xs,u.oneCell'=true) (O:B<=w.heap.size) :
  Calls Tryz.prog 223 #[v,.int .i64 i,.slice (some ⟨vb,0,none⟩) 1 vc] w fun e w'=>
   ∃v',e = .returned v'/\Own w' B 62 2 v' (n+1) (xs.take (i*2)++I2++xs.drop (i*2))/\w.grownBy w' (o6 v)/\(o6 v'=o6 v \/ ∃g,o6 v'=some g/\w.heap.size<=g):=by
 have hrow:E7 w w.heap.size (some ⟨vb,0,none⟩) I2:=fun _=>⟨vb,0,rfl,j2 hv,fun j u hu=>by
  rw[Nat.zero_add,cell_of_row w vb j _ _ (0,0) hv];simpa using hu⟩
 obtain⟨A,c,rfl,hnc,hcm⟩:=hown.isSlice;unfold maxLen at hcm
 by_cases hin:i=n
 .subst hin
  obtain⟨v',w',hr,hO,hG,hb⟩:=bx mB 33 hown (some ⟨vb,0,none⟩) 1 vc I2 (by simpa using hvl) hrow h1 (by simp only[maxLen];omega) (by omega) O;have hfin:∃v'',Ending.returned v' = .returned v''/\Own w' B 62 2 v'' (i+1) (xs.take (i*2)++I2++xs.drop (i*2))/\w.grownBy w' (o6 (.slice A i c))/\(o6 v''=o6 (.slice A i c) \/ ∃g,o6 v''=some g/\w.heap.size<=g):=by
   refine⟨v',rfl,?_,hG,?_⟩
   .have hx:=hown.1
    rw[List.take_of_length_le (by omega),List.drop_of_length_le (by omega),List.append_nil];exact hO
   rcases hb with h|h
   .exact .inl h
   exact .inr ⟨_,h,Nat.le_refl _⟩
  clear hb hG hO
  by_cases hci:c=i
  .subst hci
   have hq:((c:Int)==(c:Int))=true:=by simp
   go_enter Tryz.func223,Tryz.ntmps223
   go_wp2_with (at_builtin;refine F7 hr rfl (.tmp 23) (.tmp 24) rfl rfl rfl rfl ?_)
   go_ret
   exact hfin
  have hq:((i:Int)==(i:Int))=true:=by simp
  go_enter Tryz.func223,Tryz.ntmps223
  go_wp2_with (at_builtin;refine F7 hr rfl (.tmp 23) (.tmp 24) rfl rfl rfl rfl ?_)
  go_ret
  exact hfin
 have hlt:i<n:=by omega
 clear hin
 rcases hown.2 with⟨rfl,_⟩|⟨g,cap,cur,hve,hBg,hg,hnc',hc0,hcm',hcs,htake⟩
 .omega
 injection hve with hA _ hc
 subst hA;subst hc;have hq:((i:Int)==(n:Int))=false:=by simp;omega
 have hgv:o6 (Value.slice (some ⟨g,0,none⟩) n c)=some g:=by simp[o6];omega
 have hxl:=hown.1
 by_cases hroom:n+1<=c
 .-- room: in place
  have hvb:vb≠g:=fun e=>hne (by rw[hgv,e])
  have hsa:w.shape? vb=some (62,I2.length):=by simp[World.shape?,hv]
  have hsb:w.shape? g=some (62,cur.size):=by simp[World.shape?,hg]
  have hov:∀lb cb,(callFunc 257 #[.slice (some ⟨vb,0,none⟩) 1 vc,.slice (some ⟨g,(i+1)*2,none⟩) lb cb]).run Tryz.prog w = .ok (.value (.bool false)) w:=fun lb cb=>by
   rw[run_callFunc_extern Tryz.func257 (by kernel_rfl) (by kernel_rfl) (by kernel_rfl) (e:=Extern.SlicesOverlaps.overlaps #[33,33] #[4]) (by kernel_rfl),
    Lib.run_overlaps_apart w 33 4 62 Tryz.underlying33 2 Tryz.sizeOf62 ⟨vb,0,none⟩ ⟨g,(i+1)*2,none⟩ 1 vc lb cb hvb _ _ _ _ hsa hsb (by omega) (by simp[World.frozen?,hv]) (by simp[World.frozen?,hv])]
   rfl
  have hsz:(n+1)*2<=cur.size:=by rw[hcs];exact Nat.mul_le_mul_right _ hroom
  have hrow1:E7 w.drew w.heap.size (some ⟨g,i*2,none⟩) (xs.drop (i*2)):=fun _=>⟨g,i*2,rfl,j2 hg,fun j u hu=>by
   rw[cell_of_row w.drew g _ cur _ (0,0) hg];rw[List.getElem?_drop,<-htake,List.getElem?_take]at hu
   split at hu
   .simpa using hu
   cases hu⟩
  have hc1:=cj (P:=Tryz.prog) (w:=w.drew) mB 3 (g:=g) (o:=(i+1)*2) (dLen:=n-i) (dCap:=c-(i+1)) (sLen:=n+1-i) (sCap:=c-i) hg hrow1 (n-i) (by omega) (by rw[List.length_drop,hxl,<-Nat.sub_mul]) (by rw[List.length_drop,hxl];omega) (fun v hv=>h1x v (List.mem_of_mem_drop hv));obtain⟨cur3,hcur3⟩:∃c3,c3=(cur.toList.take ((i+1)*2)++xs.drop (i*2)++cur.toList.drop ((i+1)*2+(xs.drop (i*2)).length)):=⟨_,rfl⟩
  rw[<-hcur3]at hc1;obtain⟨w2,hw2⟩:∃w2,w2=w.drew.setRow g cur3.toArray:=⟨_,rfl⟩
  rw[<-hw2]at hc1;have hl3:cur3.length=cur.size:=by rw[hcur3];simp;omega
  have hg2:w2.heap[g]? = some (.cells cur3.toArray 62 (0,0)):=by rw[hw2];exact setRow_heap w.drew g cur _ _ _ hg
  have hC2:Chg (fun k=>k=g) w w2:=by rw[hw2];exact⟨rfl,rfl,rfl,by simp[World.setRow],fun k _ hn=>setRow_other w.drew g k _ hn⟩
  have hrow2:E7 w2 w.heap.size (some ⟨vb,0,none⟩) I2:=fun _=>⟨vb,0,rfl,j2 hv,fun j u hu=>by
   have hvv:w2.heap[vb]? = some (.cells I2.toArray 62 (0,0)):=(hC2.block vb (j2 hv) hvb).trans hv;rw[Nat.zero_add,cell_of_row w2 vb j _ _ (0,0) hvv];simpa using hu⟩
  have hc2:=cj (P:=Tryz.prog) (w:=w2) mB 3 (g:=g) (o:=i*2) (dLen:=n+1-i) (dCap:=c-i) (sLen:=1) (sCap:=vc) hg2 hrow2 1 (by omega) (by omega) (by simp;omega) h1;obtain⟨w3,hw3⟩:∃w3,w3=w2.setRow g (cur3.toArray.toList.take (i*2)++I2++cur3.toArray.toList.drop (i*2+I2.length)).toArray:=⟨_,rfl⟩
  rw[<-hw3]at hc2;have hfin:∃v'',Ending.returned (.slice (some ⟨g,0,none⟩) (n+1) c) = .returned v''/\Own w3 B 62 2 v'' (n+1) (xs.take (i*2)++I2++xs.drop (i*2))/\w.grownBy w3 (o6 (.slice (some ⟨g,0,none⟩) n c))/\(o6 v''=o6 (.slice (some ⟨g,0,none⟩) n c) \/ ∃g,o6 v''=some g/\w.heap.size<=g):=by
   refine⟨_,rfl,⟨?_,.inr ⟨g,c,_,rfl,hBg,by rw[hw3];exact setRow_heap w2 g _ _ _ _ hg2,hroom,hc0,hcm',?_,?_⟩⟩,?_,.inl (by simp[o6])⟩
   .simp;omega
   .simp;omega
   .have ht3:cur3.take (i*2)=xs.take (i*2):=by
     rw[hcur3,List.append_assoc,List.take_append_of_le_length (by simp;omega),List.take_take,Nat.min_eq_left (by omega),<-htake,List.take_take,Nat.min_eq_left (by omega)]
    have hd3:cur3.drop (i*2+I2.length)=xs.drop (i*2)++cur.toList.drop ((i+1)*2+(xs.drop (i*2)).length):=by
     rw[hcur3,List.append_assoc,List.drop_append];have e1:(List.take ((i+1)*2) cur.toList).length=i*2+I2.length:=by simp;omega
     rw[List.drop_of_length_le (by omega),e1];simp
    rw[ht3,hd3,<-List.append_assoc,List.take_append_of_le_length (by simp;omega),List.take_of_length_le (by simp;omega)]
   rw[hgv];have hC3:Chg (fun k=>k=g) w w3:=by rw[hw3];exact hC2.trans (S':=fun k=>k=g) ⟨rfl,rfl,rfl,by simp[World.setRow],fun k _ hn=>setRow_other w2 g k _ hn⟩ fun _ _ h=>h
   exact⟨hC3.os,hC3.tape,hC3.output,hC3.size,fun k hk hn=>hC3.block k hk fun e=>hn (by rw[e])⟩
  clear hw3 hw2 hcur3 hg2 hg hown hne hv hrow hrow1 hrow2 hl3 htake hcs hxl hgv hsa hsb;have HC2:=Lib.hid hC2;clear hC2
  go_enter Tryz.func223,Tryz.ntmps223
  go_wp2_with (first|(simp only[hov]))
  have hwr:IntKind.i64.wrap ((i:Int)+1)=(i:Int)+1:=IntWalk.i64_in _ (by omega);have hw0:(0:Int)<=(i:Int)+1:=by omega
  have hwn:(i:Int)+1<=(n:Int)+1:=by omega
  have hwt:((i:Int)+1).toNat=i+1:=by omega
  have hwc:¬c=i+1:=by omega
  have hwi:¬c=i:=by omega
  have hw1:(i:Int)<=(n:Int)+1:=by omega
  go_region_law (refine fC hc1 rfl (.tmp 73) (.tmp 76) rfl rfl (by simp[Act.eval,Act.put]) (by simp[Act.eval,Act.put]) ?_)
  go_wp2_with (with_reducible refine dP hc2 rfl (.tmp 80) (.tmp 81) rfl rfl rfl rfl ?_)
  go_ret
  exact hfin
 -- no room: a new row
 have HA:=aw (P:=Tryz.prog) (w:=w) (kq:=.i64) mB (Tryz.underlying3) 33 (A:=some ⟨g,0,none⟩) (n:=i) (c:=c) (xs:=xs.take (i*2)) (by rw[List.length_take];omega) ((hown.row _ _ _ rfl).take _) (n+1-i) (by omega) (by omega) (by simp only[maxLen];omega) (by omega);obtain⟨_,cap2,cur2,hr,rfl,hge2,hcm2,hcs2,ht2⟩:=HA;rw[show((n+1-i:Nat):Int)=(n:Int)+1-(i:Int)from by omega,show i+(n+1-i)=n+1 from by omega]at hr;have hge3:n+1<=cap2:=by omega
 clear hge2;obtain⟨w1,hw1⟩:∃w1,w1=w.drew.alloc (.cells cur2 62):=⟨_,rfl⟩
 have HW1:=Lib.hid hw1;rw[<-hw1]at hr;clear hw1;have hg1:w1.heap[w.heap.size]? = some (.cells cur2 62 (0,0)):=by rw[HW1.out];exact heap_alloc_new w.drew _
 have hb1:Below w.heap.size w w1:=by rw[HW1.out];exact(Below.refl _ _).drew.alloc (by simp) _
 have hrow1:E7 w1 w.heap.size (some ⟨vb,0,none⟩) I2:=hrow.below hb1;have hs1:(n+1)*2<=cur2.size:=by rw[hcs2];exact Nat.mul_le_mul_right _ hge3
 have hc1:=cj (P:=Tryz.prog) mB 3 (o:=i*2) (dLen:=n+1-i) (dCap:=cap2-i) (sLen:=1) (sCap:=vc) hg1 hrow1 1 (by omega) (by omega) (by omega) h1;obtain⟨cur3,hcur3⟩:∃c3,c3=(cur2.toList.take (i*2)++I2++cur2.toList.drop (i*2+I2.length)):=⟨_,rfl⟩
 rw[<-hcur3]at hc1;obtain⟨w2,hw2⟩:∃w2,w2=w1.setRow w.heap.size cur3.toArray:=⟨_,rfl⟩
 rw[<-hw2]at hc1;have hl3:cur3.length=cur2.size:=by rw[hcur3];simp;omega
 have hg2:w2.heap[w.heap.size]? = some (.cells cur3.toArray 62 (0,0)):=by rw[hw2];exact setRow_heap w1 w.heap.size cur2 _ _ _ hg1
 have hb2:Below w.heap.size w w2:=by rw[hw2];exact below_setRow hb1 (Nat.le_refl _) _
 have hrow2:E7 w2.drew w.heap.size (some ⟨g,i*2,none⟩) (xs.drop (i*2)):=fun _=>⟨g,i*2,rfl,j2 hg,fun j u hu=>by
  have hgg:w2.drew.heap[g]? = some (.cells cur 62 (0,0)):=(hb2.drew.block g (j2 hg)).trans hg;rw[cell_of_row w2.drew g _ cur _ (0,0) hgg];rw[List.getElem?_drop,<-htake,List.getElem?_take]at hu
  split at hu
  .simpa using hu
  cases hu⟩
 have hc2:=cj (P:=Tryz.prog) (w:=w2.drew) mB 3 (o:=(i+1)*2) (dLen:=n-i) (dCap:=cap2-(i+1)) (sLen:=n-i) (sCap:=c-i) hg2 hrow2 (n-i) (by omega) (by rw[List.length_drop,hxl,<-Nat.sub_mul]) (by rw[List.length_drop,hxl];simp;omega) (fun v hv=>h1x v (List.mem_of_mem_drop hv));obtain⟨w3,hw3⟩:∃w3,w3=w2.drew.setRow w.heap.size (cur3.toArray.toList.take ((i+1)*2)++xs.drop (i*2)++cur3.toArray.toList.drop ((i+1)*2+(xs.drop (i*2)).length)).toArray:=⟨_,rfl⟩
 rw[<-hw3]at hc2;have hfin:∃v'',Ending.returned (.slice (some ⟨w.heap.size,0,none⟩) (n+1) cap2) = .returned v''/\Own w3 B 62 2 v'' (n+1) (xs.take (i*2)++I2++xs.drop (i*2))/\w.grownBy w3 (o6 (.slice (some ⟨g,0,none⟩) n c))/\(o6 v''=o6 (.slice (some ⟨g,0,none⟩) n c) \/ ∃g,o6 v''=some g/\w.heap.size<=g):=by
  refine⟨_,rfl,⟨?_,.inr ⟨w.heap.size,cap2,_,rfl,O,by rw[hw3];exact setRow_heap w2.drew w.heap.size _ _ _ _ hg2,hge3,by omega,hcm2,?_,?_⟩⟩,?_,.inr ⟨w.heap.size,by simp[o6];omega,Nat.le_refl _⟩⟩
  .simp;omega
  .simp;omega
  .rw [List.take_append_of_le_length (by simp;omega),List.take_of_length_le (by simp;omega)]
   congr 1
   rw[hcur3,List.append_assoc,<-List.append_assoc,List.take_append_of_le_length (by simp;omega),List.take_of_length_le (by simp;omega),ht2]
  have hb3:Below w.heap.size w w3:=by rw[hw3];exact below_setRow hb2.drew (Nat.le_refl _) _
  exact⟨hb3.os,hb3.tape,hb3.output,hb3.size,fun k hk _=>hb3.block k hk⟩
 clear hw3 hw2 hcur3 hg2 hg1 hg hown hne hv hrow hrow1 hrow2 hl3 htake hcs2 hcs ht2 hxl;have HB1:=Lib.hid hb1;have HB2:=Lib.hid hb2;clear hb1 hb2
 go_enter Tryz.func223,Tryz.ntmps223
 go_wp2_with (first|(at_builtin;refine F7 hr rfl (.tmp 34) (.tmp 39) rfl rfl rfl rfl ?_)|(with_reducible refine dP hc1 rfl (.tmp 43) (.tmp 44) rfl rfl rfl rfl ?_))
 have hwr:IntKind.i64.wrap ((i:Int)+1)=(i:Int)+1:=IntWalk.i64_in _ (by omega);have hw0:(0:Int)<=(i:Int)+1:=by omega
 have hwn:(i:Int)+1<=(n:Int)+1:=by omega
 have hwt:((i:Int)+1).toNat=i+1:=by omega
 have hwc:¬cap2=i+1:=by omega
 have hwi:¬c=i:=by omega
 go_region_law (refine fC hc2 rfl (.tmp 50) (.tmp 53) rfl rfl (by simp[Act.eval,Act.put]) (by simp[Act.eval,Act.put]) ?_)
 go_wp2
 go_ret
 exact hfin
end Go.Proofs.YtmbkanpapkhnaaaGreat
namespace Go.Proofs.YtmbkanpapkhnaaaGreat.Sym
open Go Go.RowKit
theorem cP(x:Itm):∀v∈C9 x,v.oneCell'=true:=by
 intro v hv;simp only[C9,List.mem_cons,List.not_mem_nil,or_false]at hv
 rcases hv with rfl|rfl<;>rfl
theorem et(l:List Itm):j9 (fun i=>itC (itF l i)) l.length=l.flatMap C9:=by
 have key:∀n,n<=l.length->j9 (fun i=>itC (itF l i)) n=(l.take n).flatMap C9:=by
  intro n
  induction n with
  |zero=>intro _;simp[j9]
  |succ n ih=>
   intro h;rw[J4,ih (by omega),List.take_succ_eq_append_getElem (by omega),List.flatMap_append];simp[itF,List.getD,List.getElem?_eq_getElem (show n<l.length by omega)];rfl
 have:=key l.length (Nat.le_refl _)
 rwa[List.take_length]at this
theorem cO{m:Nat->Nat->Prop}{w:World}{A:Option Addr}{c:Nat}{l:List Itm}(h:Ok m w (l7 A l.length c (itF l))):T5 C9 w w.heap.size A l:=by
 have:=cG h;rw[et]at this;exact this
theorem eH{m:Nat->Nat->Prop}{w:World}{A:Option Addr}{c:Nat}{l:List Itm}(h:Ok m w (l7 A l.length c (itF l))):∀x∈l,x.val.size<=maxLen:=by
 intro x hx;obtain⟨i,hi,rfl⟩:=List.mem_iff_getElem.1 hx
 cases h with
 |sl _ _ _ _ _ _ h1 h2 h3 h4 h5 h6 h7=>
  have:=h7 i hi (.str (itF l i).val) (by simp[itC])
  cases this with|str _ h=>simpa[itF,List.getD,hi]using h
theorem gG{m:Nat->Nat->Prop}{w:World}{B:Nat}{e:TypeId}{A:Option Addr}{n c:Nat}{l:List Itm}(h:ml C9 2 w B e (.slice A n c) l)(hm:∀b o,m b o->b<B)(hs:∀x∈l,x.val.size<=maxLen):Ok m w (l7 A l.length c (itF l)):=by
 obtain⟨A',c',he,h1,h2⟩:=Own.isSlice h;injection he with e1 e2 e3;subst e3;subst e2
 refine kj h1 h2 hs fun hp=>?_
 rw[G8 F3]at hp;obtain⟨b,hA,hb⟩:=M2 h (by omega);refine⟨b,0,hA,fun j u hu=>⟨by rw[Nat.zero_add];exact M8 h hb j u hu,fun hmm=>?_⟩⟩;have:=(Own.lt h b hb).1;have:=hm _ _ hmm;omega
theorem iD(w:World)(A:Option Addr)(k:Nat)(l:List Itm)(hr:T5 C9 w w.heap.size A l)(hl:l.length<2147483000) :
  Calls Tryz.prog 72 #[.slice A l.length k] w fun e w'=>∃v',e = .returned v'/\ml C9 2 w' w.heap.size 62 v' l/\Below w.heap.size w w':=by
 have hq:∀(A:Option Addr) (n k:Nat) (w:World),(binOp .eql 33 (.slice A n k) (.slice none 0 0)).run Tryz.prog w = .ok (.bool A.isNone) w:=fun A n k w=>Go.Lib.run_eql_slice_nil w _ _ A n k 0 0 Tryz.underlying33
 cases A with
 |none=>
  obtain rfl:l=[]:=by
   refine List.eq_nil_of_length_eq_zero (Nat.eq_zero_of_not_pos fun h=>?_);obtain⟨b,off,he,_⟩:=hr.at_ (k:=2) F3 (by decide) h
   cases he
  clear hr
  go_enter Tryz.func72,Tryz.ntmps72
  go_wp2_with fail
  go_ret
  exact⟨_,rfl,Own.nil _ _ _ _ _,Below.refl _ _⟩
 |some a=>
  obtain⟨W1,hW1⟩:=eqv (w.alloc (.cells #[] 62));have hb1:Below w.heap.size w W1:=by rw[hW1];exact(Below.refl _ _).alloc (Nat.le_refl _) _
  obtain⟨v',w',hr',hO,hG,hv⟩:=bx (P:=Tryz.prog) Dx 33 (Own.nil W1 w.heap.size 62 2 (some ⟨w.heap.size,0,none⟩)) (some a) l.length k (l.flatMap C9) (G8 F3 l) (hr.below hb1) (ia cP l) (by simp only[maxLen];omega) (by omega) hb1.size;rw[Nat.zero_add,List.nil_append]at hO;have HO:Hid (ml C9 2 w' w.heap.size 62 v' l/\Below w.heap.size w w'):=⟨hO,hb1.grown hG hb1.size fun g hg=>by simp[o6]at hg⟩;rw[hW1]at hr';clear hO hG hv hb1 hW1
  go_enter Tryz.func72,Tryz.ntmps72
  go_wp2_with (at_builtin;refine F7 hr' rfl (.tmp 5) (.tmp 6) rfl rfl rfl rfl ?_)
  go_ret
  exact⟨_,rfl,HO.out⟩
theorem oV(A:Option Addr)(c:Nat)(l:List Itm)(hs:l.length<2147483000):j7 Tryz.prog 72 [l7 A l.length c (itF l)] (fun y=>l7 (y.A 0) l.length (y.c 0) (itF l)):=by
 intro m w hm ha;have h1:=ha (l7 A l.length c (itF l)) (by simp);refine(iD w A c l (cO h1) hs).mono ?_
 rintro e w' ⟨v',rfl,ho,hb⟩
 obtain⟨A',c',rfl,_,_⟩:=Own.isSlice ho;exact⟨⟨0,fun _=>A',fun _=>c',fun _=>⟨#[]⟩⟩,rfl,gG ho hm (eH h1),hb⟩
theorem clone_sf(A:Option Addr)(n c:Nat)(f:Nat->Itm)(hs:n<2147483000):j7 Tryz.prog 72 [l7 A n c f] (fun y=>l7 (y.A 0) n (y.c 0) f):=by
 have h:=oV A c (b4 f n) (by rw[i3];exact hs);have e:∀A c,Sim (l7 A (b4 f n).length c (itF (b4 f n))) (l7 A n c f):=fun A c=>Sim.resl (i3 f n) fun t ht=>by rw[u0 f n t ht]
 have e':∀A c,Sim (l7 A n c f) (l7 A (b4 f n).length c (itF (b4 f n))):=fun A c=>Sim.resl (i3 f n).symm fun t ht=>by rw[i3]at ht;rw[u0 f n t ht]
 intro m w hm ha;have h2:j7 Tryz.prog 72 [l7 A n c f] (fun y=>l7 (y.A 0) (b4 f n).length (y.c 0) (itF (b4 f n))):=h.sim ⟨e' A c,trivial⟩;refine(h2 m w hm ha).mono ?_
 rintro en w' ⟨x,rfl,hok,hb⟩
 exact⟨x,by rw[(e (x.A 0) (x.c 0)).1],(e (x.A 0) (x.c 0)).2.2 _ _ hok,hb⟩
theorem EV(w:World)(n:Nat)(hn:n<=1000000):Calls Tryz.prog 295 #[.slice none 0 0,.int .i64 n] w fun e w'=>
  ∃A' c',e = .returned (.slice A' 0 c')/\Own w' w.heap.size 62 2 (.slice A' 0 c') 0 []/\Below w.heap.size w w':=by
 have hneg:¬(n:Int)<0:=by omega
 have hw:IntKind.i64.wrap (n:Int)=(n:Int):=o8 (by omega) (by omega);have hw0:IntKind.i64.wrap 0=0:=by decide
 by_cases h0:n=0
 .subst h0
  go_enter Tryz.func295,Tryz.ntmps295
  go_wp2_with fail
  go_ret
  exact⟨none,0,rfl,Own.nil _ _ _ _ _,Below.refl _ _⟩
 have hpos:(0:Int)<(n:Int):=by omega
 have HA:=aw (P:=Tryz.prog) (w:=w) (kq:=.i64) Dx (Tryz.underlying3) 33 (A:=none) (n:=0) (c:=0) (xs:=[]) (by simp) (E7.nil (B:=0)) n (by omega) (by omega) (by simp only[maxLen];omega) (by omega);obtain⟨_,cap2,cur2,hr,rfl,hge2,hcm2,hcs2,ht2⟩:=HA;rw[Nat.zero_add]at hr hge2;obtain⟨w1,hw1⟩:=eqv (w.drew.alloc (.cells cur2 62));rw[<-hw1]at hr;have HF:Hid (Own w1 w.heap.size 62 2 (.slice (some ⟨w.heap.size,0,none⟩) 0 cap2) 0 []/\Below w.heap.size w w1):=by
  refine⟨⟨by simp,.inr ⟨w.heap.size,cap2,cur2,rfl,Nat.le_refl _,by rw[hw1];exact heap_alloc_new w.drew _,Nat.zero_le _,by omega,hcm2,hcs2,by simp⟩⟩,?_⟩;rw[hw1];exact(Below.refl _ _).drew.alloc (by simp) _
 clear hw1 ht2 hcs2 hge2
 go_enter Tryz.func295,Tryz.ntmps295
 go_wp2_with (at_builtin;refine F7 hr rfl (.tmp 20) (.tmp 21) rfl rfl rfl rfl ?_)
 go_ret
 exact⟨_,_,rfl,HF.out⟩
end Go.Proofs.YtmbkanpapkhnaaaGreat.Sym
namespace Go.Proofs.YtmbkanpapkhnaaaGreat
open Go.RowKit Sym
def isK(key:Int)(x:Itm):Bool:=decide (x.key=key)
def aD(l:List Itm)(key:Int):ByteArray:=match l.find? (isK key)with
 |some x=>x.val
 |none=>⟨#[]⟩
def R9(l:List Itm)(key:Int):Bool:=(l.find? (isK key)).isSome
theorem ic(f:Nat->Itm)(n i:Nat)(h:i<n):b4 f n=b4 f i++f i::(List.range (n-i-1)).map fun j=>f (i+1+j):=by
 apply List.ext_getElem
 .simp [b4];omega
 intro t h1 h2;have ht:t<n:=by simpa[b4]using h1
 simp only[b4,List.getElem_map,List.getElem_range]
 by_cases hi:t<i
 .rw [List.getElem_append_left (by simpa using hi)]
  simp
 rw[List.getElem_append_right (by simp;omega)];obtain⟨q,rfl⟩:∃q,t=i+q:=⟨t-i,by omega⟩
 cases q with
 |zero=>simp
 |succ q=>
  simp only[List.length_map,List.length_range,show i+(q+1)-i=q+1 by omega,List.getElem_cons_succ,List.getElem_map,List.getElem_range]
  congr 1
  omega
theorem G3{f:Nat->Itm}{n:Nat}{x:Itm}(h:x∈b4 f n):∃t,t<n/\x=f t:=by
 unfold b4 at h;obtain⟨t,ht,rfl⟩:=List.mem_map.1 h;exact⟨t,List.mem_range.1 ht,rfl⟩
theorem qf{f:Nat->Itm}{n i:Nat}{key:Int}(hi:i<n)(hm:∀t,t<i->(f t).key≠key)(h:(f i).key=key):(b4 f n).find? (isK key)=some (f i):=by
 rw[List.find?_eq_some_iff_append];refine⟨by simp[isK,h],b4 f i,_,ic f n i hi,fun a ha=>?_⟩;obtain⟨t,ht,rfl⟩:=G3 ha;simp[isK,hm t ht]
theorem nr{f:Nat->Itm}{n:Nat}{key:Int}(hm:∀t,t<n->(f t).key≠key):(b4 f n).find? (isK key)=none:=by
 rw[List.find?_eq_none];intro a ha;obtain⟨t,ht,rfl⟩:=G3 ha;simp[isK,hm t ht]
def jS(p:Nat->Bool)(n:Nat):Int:=match(List.range n).find? p with
 |some i=>(i:Int)
 |none=> -1
theorem gU{p:Nat->Bool}{n i:Nat}(hi:i<n)(hm:∀t,t<i->p t=false)(h:p i=true):jS p n=(i:Int):=by
 have:(List.range n).find? p=some i:=by
  rw[List.find?_eq_some_iff_append];refine⟨h,List.range i,(List.range (n-i-1)).map fun j=>i+1+j,?_,fun a ha=>by rw[hm a (List.mem_range.1 ha)];rfl⟩;apply List.ext_getElem
  .simp;omega
  intro t h1 h2;have ht:t<n:=by simpa using h1
  simp only[List.getElem_range]
  by_cases hti:t<i
  .rw [List.getElem_append_left (by simpa using hti)];simp
  rw[List.getElem_append_right (by simp;omega)];obtain⟨q,rfl⟩:∃q,t=i+q:=⟨t-i,by omega⟩
  cases q with
  |zero=>simp
  |succ q=>simp[show i+(q+1)-i=q+1 by omega];omega
 simp[jS,this]
theorem gT{p:Nat->Bool}{n:Nat}(hm:∀t,t<n->p t=false):jS p n = -1:=by
 have:(List.range n).find? p=none:=by
  rw[List.find?_eq_none];intro a ha;rw[hm a (List.mem_range.1 ha)]
  decide
 simp[jS,this]
theorem nl(p:Nat->Bool)(n:Nat):(∃i,i<n/\jS p n=(i:Int)/\p i=true/\∀t,t<i->p t=false) \/ (jS p n = -1/\∀t,t<n->p t=false):=by
 induction n with
 |zero=>exact .inr ⟨rfl,fun t ht=>absurd ht (Nat.not_lt_zero _)⟩
 |succ n ih=>
  rcases ih with⟨i,h1,h2,h3,h4⟩|⟨h1,h2⟩
  .exact .inl ⟨i,by omega,gU (by omega) h4 h3,h3,h4⟩
  cases hp:p n with
  |true=>exact .inl ⟨n,by omega,gU (by omega) h2 hp,hp,h2⟩
  |false=>
   have:∀t,t<n+1->p t=false:=fun t ht=>by
    by_cases h:t=n
    .rw [h];exact hp
    exact h2 t (by omega)
   exact .inr ⟨gT this,this⟩
def I4(l:List Itm)(key:Int):List Itm:=l.filter fun x=>!isK key x
def mA(l:List Itm)(key:Int):List Itm:=l.takeWhile fun x=>decide (x.key<key)
def fQ(l:List Itm)(key:Int)(val:ByteArray):List Itm:=mA (I4 l key) key++⟨key,val⟩::(I4 l key).drop (mA (I4 l key) key).length
def fO(l:List Itm)(key:Int)(val:ByteArray):List Itm:=if 64<val.size then l else fQ l key val
def ofL(l:List Itm):List Itm:=l.foldl (fun m x=>fO m x.key x.val) []
def Srt(l:List Itm):Prop:=l.Pairwise fun x y=>x.key<y.key
theorem kt{f:Nat->Itm}{n:Nat}(h:okF f n=true):∀i j,i<j->j<n->(f i).key<(f j).key:=by
 intro i j hij
 induction j with
 |zero=>omega
 |succ j ih=>
  intro hj;have hk:=xj (f:=f) (i:=j+1) hj h;unfold bV at hk;simp only[Bool.and_eq_true,decide_eq_true_eq,Bool.or_eq_true,beq_iff_eq]at hk;have h2:(f j).key<(f (j+1)).key:=by
   rcases hk.2 with h0|h0
   .omega
   simpa using h0
  by_cases he:i=j
  .rw [he];exact h2
  have:=ih (by omega) (by omega);omega
theorem Aq{f:Nat->Itm}{n:Nat}(h:okF f n=true):Srt (b4 f n):=by
 unfold Srt b4;rw[List.pairwise_map];refine List.Pairwise.imp_of_mem ?_ (List.pairwise_lt_range (n:=n));intro a b ha hb hab;exact kt h a b hab (List.mem_range.1 hb)
theorem qo{l:List Itm}{key:Int}(h:∀x∈l,x.key≠key):I4 l key=l:=by
 unfold I4;rw[List.filter_eq_self];intro x hx;simp[isK,h x hx]
theorem xF{a b:List Itm}{key:Int}(ha:∀x∈a,x.key<key)(hb:∀x∈b,key<x.key):mA (a++b) key=a:=by
 unfold mA;rw[List.takeWhile_append_of_pos (by intro x hx;simpa using ha x hx)]
 cases b with
 |nil=>simp
 |cons y b=>
  have:=hb y (by simp);rw[List.takeWhile_cons_of_neg (by simp;omega)];simp
theorem fP{a b:List Itm}{m:List Itm}{key:Int}{val:ByteArray}(ha:∀x∈a,x.key<key)(hb:∀x∈b,key<x.key)(hm:∀x∈m,x.key=key):fQ (a++m++b) key val=a++⟨key,val⟩::b:=by
 have hd:I4 (a++m++b) key=a++b:=by
  unfold I4;rw[List.filter_append,List.filter_append];rw[List.filter_eq_self.2 (fun x hx=>by have:=ha x hx;simp[isK];omega),List.filter_eq_nil_iff.2 (fun x hx=>by simp[isK,hm x hx]),List.filter_eq_self.2 (fun x hx=>by have:=hb x hx;simp[isK];omega)];simp
 unfold fQ;rw[hd,xF ha hb,List.drop_left]
theorem U8(f:Nat->Itm)(i:Nat):ofL (b4 f (i+1))=fO (ofL (b4 f i)) (f i).key (f i).val:=by
 unfold ofL b4;rw[List.range_succ,List.map_append,List.foldl_append];rfl
theorem ol{f:Nat->Itm}{n:Nat}(h:okF f n=true):∀i,i<=n->ofL (b4 f i)=b4 f i
 |0,_=>rfl
 |i+1,hi=>by
  rw[U8,ol h i (by omega)];have hv:(f i).val.size<=64:=by
   have hk:=xj (f:=f) (i:=i) (by omega) h;unfold bV at hk;simp only[Bool.and_eq_true,decide_eq_true_eq]at hk;exact hk.1
  unfold fO;rw[if_neg (by omega)];have:=fP (a:=b4 f i) (b:=[]) (m:=[]) (key:=(f i).key) (val:=(f i).val) (fun x hx=>by
   obtain⟨t,ht,rfl⟩:=G3 hx;exact kt h t i ht (by omega)) (by simp) (by simp)
  rw[List.append_nil,List.append_nil]at this;rw[this];simp[b4,List.range_succ]
section
variable {l:List Itm} {key:Int} {p:Nat}
structure Cut(l:List Itm)(key:Int)(p:Nat):Prop where
 le:p<=l.length
 lo:∀x∈l.take p,x.key<key
 hi:∀x∈l.drop p,key<=x.key
theorem Cut.hit(h:Cut l key p)(hs:Srt l){x:Itm}(hp:l[p]? = some x)(hx:x.key=key):(∀y∈l.drop (p+1),key<y.key)/\l=l.take p ++ [x]++l.drop (p+1):=by
 have hlt:=(List.getElem?_eq_some_iff.1 hp).1;have hd:l.drop p=x::l.drop (p+1):=by rw[List.drop_eq_getElem_cons hlt,(List.getElem?_eq_some_iff.1 hp).2]
 have hsp:l=l.take p ++ [x]++l.drop (p+1):=by
  conv=>lhs;rw[<-List.take_append_drop p l,hd]
  simp
 refine⟨fun y hy=>?_,hsp⟩;unfold Srt at hs;rw[hsp,List.append_assoc]at hs;have h2:=(List.pairwise_append.1 hs).2.1;rw[List.singleton_append]at h2;have:=(List.pairwise_cons.1 h2).1 y hy;omega
theorem Cut.miss(h:Cut l key p)(hp:∀x,l[p]? = some x->x.key≠key)(hs:Srt l):∀y∈l.drop p,key<y.key:=by
 intro y hy
 cases hd:l.drop p with
 |nil=>rw[hd]at hy;cases hy
 |cons x r=>
  have hlt:p<l.length:=by
   have:=congrArg List.length hd;simp at this;omega
  have hx:l[p]? = some x:=by
   have h2:=List.drop_eq_getElem_cons hlt;rw[hd]at h2;injection h2 with h2 _
   rw[List.getElem?_eq_getElem hlt,<-h2]
  have h1:=h.hi x (by rw[hd];simp);have h2:=hp x hx;rw[hd]at hy
  rcases List.mem_cons.1 hy with rfl|hy
  .omega
  unfold Srt at hs;rw[<-List.take_append_drop p l,hd]at hs;have h3:=(List.pairwise_append.1 hs).2.1;have:=(List.pairwise_cons.1 h3).1 y hy;omega
theorem Af(h:Cut l key p)(hs:Srt l){x:Itm}(hp:l[p]? = some x)(hx:x.key=key)(val:ByteArray):fQ l key val=l.set p ⟨x.key,val⟩/\I4 l key=l.take p++l.drop (p+1)/\l.find? (isK key)=some x:=by
 obtain⟨h1,h2⟩:=h.hit hs hp hx;have hlt:=(List.getElem?_eq_some_iff.1 hp).1;refine⟨?_,?_,?_⟩
 .have h3:l.set p ⟨x.key,val⟩=l.take p++⟨key,val⟩::l.drop (p+1):=by rw[List.set_eq_take_append_cons_drop,if_pos hlt,hx]
  rw[h3]
  conv=>lhs;rw[h2]
  exact fP h.lo h1 (fun y hy=>by rw[List.mem_singleton.1 hy];exact hx)
 .conv=>lhs;rw[h2]
  have f1:I4 (l.take p) key=l.take p:=qo fun y hy=>by have:=h.lo y hy;omega
  have f3:I4 (l.drop (p+1)) key=l.drop (p+1):=qo fun y hy=>by have:=h1 y hy;omega
  unfold I4 at f1 f3 ⊢;rw[List.filter_append,List.filter_append,f1,f3];simp[isK,hx]
 rw[List.find?_eq_some_iff_append];refine⟨by simp[isK,hx],l.take p,l.drop (p+1),by(conv=>lhs;rw[h2]);simp,fun a ha=>?_⟩;have:=h.lo a ha;simp[isK];omega
theorem wV(h:Cut l key p)(hs:Srt l)(hp:∀x,l[p]? = some x->x.key≠key)(val:ByteArray):fQ l key val=l.take p ++ [⟨key,val⟩]++l.drop p/\l.find? (isK key)=none:=by
 have h1:=h.miss hp hs;refine⟨?_,?_⟩
 .have:=fP (a:=l.take p) (b:=l.drop p) (m:=[]) (key:=key) (val:=val) h.lo h1 (by simp)
  rw[List.append_nil,List.take_append_drop]at this;rw[this];simp
 rw[List.find?_eq_none];intro a ha;rw[<-List.take_append_drop p l]at ha
 rcases List.mem_append.1 ha with ha|ha
 .have:=h.lo a ha;simp[isK];omega
 have:=h1 a ha;simp[isK];omega
end
end Go.Proofs.YtmbkanpapkhnaaaGreat
namespace Go.Proofs.YtmbkanpapkhnaaaGreat.Sym
open Go Go.RowKit
theorem mh{f:Nat->Itm}{n:Nat}{key:Int}(hs:∀i j,i<j->j<n->(f i).key<(f j).key):∀k lo hi,hi-lo<=k->lo<=hi->hi<=n->(∀t,t<lo->(f t).key<key)->(∀t,hi<=t->t<n->key<=(f t).key) →
  lo<=bsF f key lo hi/\bsF f key lo hi<=hi/\(∀t,t<bsF f key lo hi->(f t).key<key)/\∀t,bsF f key lo hi<=t->t<n->key<=(f t).key
 |0,lo,hi,hk,h1,h2,h3,h4=>by
  rw[dI (by omega)];exact⟨Nat.le_refl _,h1,h3,fun t ht=>h4 t (by omega)⟩
 |k+1,lo,hi,hk,h1,h2,h3,h4=>by
  by_cases hlt:lo<hi
  .obtain ⟨m,hm⟩:∃m,m=(lo+hi) / 2:=⟨_,rfl⟩
   by_cases hkm:(f m).key<key
   .rw [oZ hlt hm hkm]
    obtain⟨a,b,c,d⟩:=mh hs k (m+1) hi (by omega) (by omega) h2 (fun t ht=>by
     by_cases h:t=m
     .rw [h];exact hkm
     have:=hs t m (by omega) (by omega);omega) h4
    exact⟨by omega,b,c,d⟩
   rw[pa hlt hm hkm];obtain⟨a,b,c,d⟩:=mh hs k lo m (by omega) (by omega) (by omega) h3 (fun t ht htn=>by
    by_cases h:t=m
    .rw [h];omega
    have:=hs m t (by omega) htn;omega)
   exact⟨a,by omega,c,d⟩
  rw[dI hlt];exact⟨Nat.le_refl _,h1,h3,fun t ht=>h4 t (by omega)⟩
theorem lJ(f:Nat->Itm)(p m:Nat):b4 f (p+m)=b4 f p++b4 (fun j=>f (p+j)) m:=by
 unfold b4;rw[List.range_add,List.map_append,List.map_map];rfl
theorem qt(l:Lab)(f:Nat->Itm)(i:Nat):K3 l (b4 f (i+1))=K3 l (b4 f i)++if r8 l (f i).key=true then [f i]else []:=by
 have:b4 f (i+1)=b4 f i ++ [f i]:=by simp[b4,List.range_succ]
 rw[this];unfold K3;rw[List.filter_append]
 congr 1
 cases h:r8 l (f i).key<;>simp[h]
theorem rH{f:Nat->Itm}{n:Nat}{l:Lab}(hok:okF f n=true)(hki:∀i,i<n->U64 (f i).key)(hl:isL l=true)(hb:U64 l.bits)(h64:l.len≠64)(hc:∀i,i<n->r8 l (f i).key=true){p:Nat}(hp:p=bsF f (k8 l 1).bits 0 n) :
  p<=n/\K3 (k8 l 0) (b4 f n)=b4 f p/\K3 (k8 l 1) (b4 f n)=b4 (fun j=>f (p+j)) (n-p):=by
 obtain⟨_,h1,h2,h3⟩:=mh (f:=f) (n:=n) (key:=(k8 l 1).bits) (kt hok) n 0 n (by omega) (Nat.zero_le _) (Nat.le_refl _) (fun t ht=>absurd ht (Nat.not_lt_zero _)) (fun t h1 h2=>absurd h2 (by omega));rw[<-hp]at h1 h2 h3;have hsp:=lJ f p (n-p);rw[show p+(n-p)=n by omega]at hsp;have cc:=fun i hi=>nI hl hb h64 (hki i hi) (hc i hi)
 refine⟨h1,?_,?_⟩
 .rw [hsp]
  unfold K3;rw[List.filter_append,List.filter_eq_self.2 (fun x hx=>by
   obtain⟨t,ht,rfl⟩:=G3 hx;rw[(cc t (by omega)).1];exact decide_eq_true (h2 t ht)),List.filter_eq_nil_iff.2 (fun x hx=>by
   obtain⟨t,ht,rfl⟩:=G3 hx;rw[(cc (p+t) (by omega)).1];have:=h3 (p+t) (by omega) (by omega);simp;omega),List.append_nil]
 rw[hsp];unfold K3;rw[List.filter_append,List.filter_eq_nil_iff.2 (fun x hx=>by
  obtain⟨t,ht,rfl⟩:=G3 hx;rw[(cc t (by omega)).2];have:=h2 t ht;simp;omega),List.filter_eq_self.2 (fun x hx=>by
  obtain⟨t,ht,rfl⟩:=G3 hx;rw[(cc (p+t) (by omega)).2];exact decide_eq_true (h3 (p+t) (by omega) (by omega))),List.nil_append]
theorem lY{l:Lab}{f:Nat->Itm}{n:Nat}:(K3 l (b4 f n)).length=n ↔ ∀i,i<n->r8 l (f i).key=true:=by
 have:=Cj (l:=l) (its:=b4 f n);rw[i3]at this;rw[this]
 constructor
 .intro h i hi
  exact h (f i) (List.mem_map.2 ⟨i,List.mem_range.2 hi,rfl⟩)
 intro h x hx;obtain⟨t,ht,rfl⟩:=G3 hx;exact h t ht
theorem nJ{l:Lab}{b:Int}(hl:isL l=true)(h64:l.len≠64):chE l b=0/\chV l b=k8 l b:=by
 have h:chE l b=0:=by
  unfold chE;rw[hl,if_neg (by decide),if_neg h64]
 exact⟨h,by unfold chV;rw[if_pos h]⟩
theorem lQ:j6 Tryz.prog 72:=fun _ _=>by kernel_rfl
theorem bh:j6 Tryz.prog 271:=fun _ _=>by kernel_rfl
theorem rY(A:Option Addr)(n c:Nat)(f:Nat->Itm)(hn:n<=1000000)(kd:Int)(nx:Lab)(mk:Int)(l:Lab)(hb0:U64 l.bits)(hki:∀i,i<n->U64 (f i).key):j7 Tryz.prog 271 [F2 A n c f kd nx mk,f4 l] (fun x=>l7 (x.A 0) (K3 l (b4 f n)).length (x.c 0) (itF (K3 l (b4 f n)))):=by
 intro m w hm hargs;have hmx:maxLen=9223372036854775807:=rfl;unfold F2 l7 at hargs;simp only[f4]at hargs;refine en 31 hm hargs Tryz.func271 fun B O a0 Z=>?_
 refine wp_seq (rg O a6 [2,3] [2,3] [] Z fun X0 _ _ Z=>?_);refine wp_seq (rg O a6 [5,2,3] [2,3,5,29] [] Z fun X1 _ _ Z=>?_);refine wp_seq (wp_seq (rg O a6 [5,6,2,3] [2,3,5,29] [] Z fun X2 _ _ Z=>?_));replace Z:=Z.headS (v':=.sl (some 5) none 0 0 2 (fun t=>itC C2)) (zq0) rfl;refine wp_block (l5 (ι:=Nat×Nat×(Nat->Itm)×Option Addr×Nat) (fun p=>[(5,.sl (some 5) p.2.2.2.1 p.2.1 p.2.2.2.2 2 (fun t=>itC (p.2.2.1 t))),(6,.int .i64 (p.1:Int))]) (fun p=>[]) (fun p=>[(5,⟨p.2.2.2.1,p.2.1,p.2.2.2.2,2,62⟩)]) (fun p=>p.1<=n/\p.2.1<=p.1/\b4 p.2.2.1 p.2.1=K3 l (b4 f p.1)) (fun p=>n-p.1) (0,0,fun _=>C2,none,0) ⟨Nat.zero_le _,Nat.le_refl _,rfl⟩ Z ?_)
 rintro⟨i,q,g,A1,c1⟩ ⟨hi,hq,hg⟩ _ _ Z
 try dsimp only at hi
 try dsimp only at hq
 try dsimp only at hg
 refine wp_seq (wp_seq (rg O a6 [11,5,6,2,3] [2,3,5,29] [] Z (hob:=?hob) fun X3 _ _ Z=>?_))
 case hob=>
  intro X;subst O
  repeat(first|exact trivial|refine⟨rfl,?_⟩|refine⟨⟨show(0:Int)<=(i:Int)by omega,show(i:Int)<(n:Int)by omega⟩,?_⟩)
 apply a7 Z rfl<;>intro hb Z
 .have hin:i<n:=by
   have:(i:Int)<(n:Int):=by subst O;simpa[std,a8]using hb
   omega
  have S:=Et l hb0 (f i).key (hki i hin);simp only[f4]at S;obtain⟨cq,hcq⟩:=eqv (r8 l (f i).key);rw[<-hcq]at S;refine wp_skip (wp_seq (wp_block (wp_seq (drg O a6 [21,5,6,2,3] [2,3,5,29] [(7,.r fun _=>.bool (.v cq))] Z (hob:=?hob) fun X5 _ _ Z=>?_))))
  case hob=>
   intro X;subst O
   repeat(first|exact trivial|refine⟨rfl,?_⟩|refine⟨⟨show(0:Int)<=(i:Int)by omega,show(i:Int)<(n:Int)by omega⟩,?_⟩|refine⟨⟨vz,S⟩,?_⟩)
  apply a7 Z rfl<;>intro hb Z
  .have hct:cq=true:=hb
   rw[hct]at hcq;refine rg O a6 [5,6,2,3] [2,3,5,29] [] Z (hob:=?hob) fun X6 _ _ Z=>?_
   case hob=>
    intro X;subst O
    repeat(first|exact trivial|refine⟨⟨rfl,rfl,rfl⟩,?_⟩|refine⟨rfl,?_⟩|refine⟨⟨show(0:Int)<=(i:Int)by omega,show(i:Int)<(n:Int)by omega⟩,?_⟩|refine⟨⟨show q+1<=maxLen by omega,show(q+1)*_<=_ by omega⟩,?_⟩)
   replace Z:=Z.headS (v':=.sl (some 5) ((X6 7).A 0) (B.nadd q 1) ((X6 7).c 0) 2 (fun t=>itC (fA g q (f i) t))) (Sim.resl rfl (fun t ht=>by
    subst O;have ht2:t<q+1:=ht
    show L0 q (fun t=>itC (g t)) (K9 2 [.int .u64 (f i).key,.str (f i).val]) t=_
    unfold L0 fA
    split
    .rw [if_neg (by omega)]
    have:t=q:=by omega
    subst this;simp[K9,itC])) rfl
   refine rg O a6 [5,6,2,3] [2,3,5,29] [] Z fun X4 _ _ Z=>?_
   have e:B.arith .add .i64 (i:Int) 1=((i+1:Nat):Int):=by subst O;exact o3 (n:=n) hin (by omega)
   refine⟨(i+1,q+1,fA g q (f i),_,_),⟨by simp only;omega,by simp only;omega,?_⟩,by simp only;omega,by rw[<-e,show q+1=B.nadd q 1 by subst O;rfl];exact Z⟩
   simp only;rw[ge,hg,qt,if_pos hcq.symm]
  have hcf:cq=false:=hb;rw[hcf]at hcq;refine wp_skip (rg O a6 [5,6,2,3] [2,3,5,29] [] Z fun X4 _ _ Z=>?_);have e:B.arith .add .i64 (i:Int) 1=((i+1:Nat):Int):=by subst O;exact o3 (n:=n) hin (by omega)
  refine⟨(i+1,q,g,_,_),⟨by simp only;omega,by simp only;omega,?_⟩,by simp only;omega,by rw[<-e];exact Z⟩;simp only;rw[hg,qt,if_neg (by rw[<-hcq];decide),List.append_nil]
 have hout:i=n:=by
  have:¬(i:Int)<(n:Int):=by subst O;simpa[std,a8]using hb
  omega
 rw[hout]at hg;refine wp_exit (wp_seq (rg O a6 [4] [4,5,29] [] Z fun X7 _ _ Z=>?_));refine wp_ret ((rsi O a6 Z (⟨0,fun _=>A1,fun _=>c1,fun _=>⟨#[]⟩⟩) (he:=?_)));subst O;exact Sim.resl (by rw[<-hg,i3]) (fun t ht=>by rw[<-hg,i3]at ht;rw[<-hg,u0 _ _ t ht])
theorem vp:j6 Tryz.prog 285:=fun _ _=>by kernel_rfl
theorem ES(b:Nat)(l:Lab)(hb0:U64 l.bits)(k:Int)(v:ByteArray)(hk:U64 k):v8 Tryz.prog 285 [.agg [.int .u64 k,.str v],.ptr 0 b 0] [(0,⟨b,24,[.int .i64 l.len,.int .u64 l.bits]⟩)] (fun _=>⟨.bool (.v (!r8 l k)),[(0,[.int .i64 l.len,.int .u64 l.bits])],[]⟩):=by
 intro m w hm hargs hpre;have S:=DB l hb0 k hk;simp only[f4]at S
 generalize r8 l k=cq at S ⊢
 refine enX 9 hm hpre hargs Tryz.func285 fun B O a0 Z=>?_
 refine wp_seq (rg O a6 [1,2] [0,2] [] Z fun X0 _ _ Z=>?_);refine wp_seq (rg O a6 [3] [0] [(3,.r fun _=>.bool (.v cq))] Z (hob:=?hob) fun X1 _ _ Z=>?_)
 case hob=>
  intro X;subst O
  repeat(first|exact trivial|refine⟨rfl,?_⟩|refine⟨fun _=>rfl,?_⟩|refine⟨f7 (Kk:=noK) _ _ _ _,?_⟩|refine⟨fun _=>f7 (Kk:=noK) _ _ _ _,?_⟩|refine⟨⟨qm,S⟩,?_⟩|refine⟨fun _=>⟨qm,S⟩,?_⟩)
 refine wp_ret ((rx O a6 Z f8 [] (he:=?_)).1);subst O;exact Sim.bool rfl
theorem vA:j6 Tryz.prog 136:=fun _ _=>by kernel_rfl
theorem AZ(b:Nat)(A:Option Addr)(n c:Nat)(f:Nat->Itm)(hn:n<=1000000)(l:Lab)(hb0:U64 l.bits)(hki:∀i,i<n->U64 (f i).key):v8 Tryz.prog 136 [l7 A n c f,.fn 285 [] [.ptr 0 b 0]] [(0,⟨b,24,[.int .i64 l.len,.int .u64 l.bits]⟩)] (fun _=>⟨.int .i64 (jS (fun t=>!r8 l (f t).key) n),[(0,[.int .i64 l.len,.int .u64 l.bits])],[]⟩):=by
 intro m w hm hargs hpre;have hmx:maxLen=9223372036854775807:=rfl;unfold l7 at hargs;refine enX 19 hm hpre hargs Tryz.func136 fun B O a0 Z=>?_
 refine wp_seq (rg O a6 [0,1] [0] [] Z fun X0 _ _ Z=>?_);refine wp_seq (wp_seq (rg O a6 [8,0,1,7] [0] [] Z fun X1 _ _ Z=>?_));refine wp_block (l5 (ι:=Nat) (fun p=>[(8,.int .i64 (p:Int))]) (fun p=>[]) (fun p=>[]) (fun p=>p<=n/\∀t,t<p->(!r8 l (f t).key)=false) (fun p=>n-p) 0 ⟨Nat.zero_le _,fun t ht=>absurd ht (Nat.not_lt_zero _)⟩ Z ?_)
 rintro i ⟨hi,hlt⟩ _ _ Z
 try dsimp only at hi
 try dsimp only at hlt
 refine wp_seq (rg O a6 [9,8,0,1,7] [0] [] Z fun X2 _ _ Z=>?_);refine wp_seq (a7 Z rfl (fun hb Z=>?_) (fun hb Z=>?_))
 .have hin:i<n:=by
   have:(i:Int)<(n:Int):=by subst O;simpa[std,a8]using hb
   omega
  have S:=ES b l hb0 (f i).key (f i).val (hki i hin);obtain⟨q,hq⟩:=eqv (!r8 l (f i).key);rw[<-hq]at S;refine wp_skip (wp_seq (wp_block (wp_seq (rg O a6 [5,8,0,1,7] [0] [] Z fun X3 _ _ Z=>?_))));refine wp_seq (rg O a6 [16,5,8,0,1,7] [0] [(5,.x fun _=>⟨.bool (.v q),[(0,[.int .i64 l.len,.int .u64 l.bits])],[]⟩)] Z (hob:=?hob) fun X4 _ _ Z=>?_)
  case hob=>
   intro X;subst O
   repeat(first|exact trivial|refine⟨rfl,?_⟩|refine⟨⟨show(0:Int)<=(i:Int)by omega,show(i:Int)<(n:Int)by omega⟩,?_⟩|refine⟨⟨vp,S⟩,?_⟩)
  apply a7 Z rfl<;>intro hb Z
  .have hqt:q=true:=hb
   refine wp_seq (rg O a6 [4] [0] [] Z fun X5 _ _ Z=>?_);refine wp_ret ((rx O a6 Z f8 [] (he:=?_)).1);subst O;rw[gU (p:=fun t=>!r8 l (f t).key) hin hlt (by show(!r8 l (f i).key)=true;rw[<-hq];exact hqt)];exact zr
  have hqf:q=false:=hb;refine wp_skip (rg O a6 [8,0,1,7] [0] [] Z fun X6 _ _ Z=>?_);have e:B.arith .add .i64 (i:Int) 1=((i+1:Nat):Int):=by subst O;exact o3 (n:=n) hin (by omega)
  refine⟨i+1,⟨by omega,fun t ht=>?_⟩,by omega,by rw[<-e];exact Z⟩
  by_cases h:t=i
  .rw [h,<-hq];exact hqf
  exact hlt t (by omega)
 have hout:i=n:=by
  have:¬(i:Int)<(n:Int):=by subst O;simpa[std,a8]using hb
  omega
 rw[hout]at hlt;refine wp_exit (wp_seq (rg O a6 [4] [0] [] Z fun X7 _ _ Z=>?_));refine wp_ret ((rx O a6 Z f8 [] (he:=?_)).1);subst O;rw[gT (p:=fun t=>!r8 l (f t).key) hlt];exact zr
theorem qj:j6 Tryz.prog 74:=fun _ _=>by kernel_rfl
theorem Bb(b:Nat)(A:Option Addr)(n c:Nat)(f:Nat->Itm)(hn:n<=1000000)(l:Lab)(hb0:U64 l.bits)(hki:∀i,i<n->U64 (f i).key):v8 Tryz.prog 74 [l7 A n c f,.fn 285 [] [.ptr 0 b 0]] [(0,⟨b,24,[.int .i64 l.len,.int .u64 l.bits]⟩)] (fun _=>⟨.bool (.v (!decide ((K3 l (b4 f n)).length=n))),[(0,[.int .i64 l.len,.int .u64 l.bits])],[]⟩):=by
 intro m w hm hargs hpre;have S:=AZ b A n c f hn l hb0 hki;have HC:=nl (fun t=>!r8 l (f t).key) n
 generalize (jS (fun t=>!r8 l (f t).key) n)=ix at S HC
 unfold l7 at S hargs;refine enX 9 hm hpre hargs Tryz.func74 fun B O a0 Z=>?_
 refine wp_seq (rg O a6 [0,1] [0] [] Z fun X0 _ _ Z=>?_);refine wp_seq (rg O a6 [4] [0] [(2,.x fun _=>⟨.int .i64 ix,[(0,[.int .i64 l.len,.int .u64 l.bits])],[]⟩)] Z (hob:=?hob) fun X1 _ _ Z=>?_)
 case hob=>
  intro X;subst O
  repeat(first|exact trivial|refine⟨rfl,?_⟩|refine⟨⟨show(0:Int)<=(i:Int)by omega,show(i:Int)<(n:Int)by omega⟩,?_⟩|refine⟨⟨vA,S⟩,?_⟩)
 refine wp_ret ((rx O a6 Z f8 [] (he:=?_)).1);subst O;refine Sim.bool ?_
 show decide (ix ≥ 0) = !decide ((K3 l (b4 f n)).length=n)
 rw[decide_eq_decide.2 (lY (l:=l) (f:=f) (n:=n))]
 rcases HC with⟨i,h1,h2,h3,h4⟩|⟨h1,h2⟩
 .have h5:¬∀i,i<n->r8 l (f i).key=true:=fun h=>by have:=h i h1;simp[this]at h3
  rw[decide_eq_false h5,h2];simp
 have h5:∀i,i<n->r8 l (f i).key=true:=fun i hi=>by simpa using h2 i hi
 rw[decide_eq_true h5,h1];rfl
theorem ET(k0:Nat)(b:Nat)(A:Option Addr)(n c:Nat)(f:Nat->Itm)(hn:n<=1000000)(l:Lab)(hb0:U64 l.bits)(hki:∀i,i<n->U64 (f i).key):v8 Tryz.prog 74 [l7 A n c f,.fn 285 [] [.ptr k0 b 0]] [(k0,⟨b,24,[.int .i64 l.len,.int .u64 l.bits]⟩)] (fun _=>⟨.bool (.v (!decide ((K3 l (b4 f n)).length=n))),[(k0,[.int .i64 l.len,.int .u64 l.bits])],[]⟩):=
 (Bb b A n c f hn l hb0 hki).re (by repeat(first|exact trivial|refine⟨Sim.ptr,?_⟩|refine⟨Sim.fn ⟨Sim.ptr,trivial⟩ trivial,?_⟩|refine⟨Sim.fn trivial ⟨Sim.ptr,trivial⟩,?_⟩|refine⟨zr,?_⟩)) rfl (fun x=>⟨rfl,rfl,zr,rfl⟩)
theorem vj(A:Option Addr)(n c:Nat)(f:Nat->Itm)(hn:n<=1000000)(kd:Int)(nx:Lab)(mk:Int)(hv:U64 nx.bits)(hki:∀i,i<n->U64 (f i).key)(l:Lab)(hb0:U64 l.bits)(hil:(D9 kd n f nx mk&&isL l)=false):j7 Tryz.prog 259 [F2 A n c f kd nx mk,f4 l] (fun x=>.tup [bB (x.A 0) (x.c 0) (J5 kd n f nx mk l).1,bB (x.A 1) (x.c 1) (J5 kd n f nx mk l).2.1,.int .i64 (J5 kd n f nx mk l).2.2]):=by
 intro m w hm hargs;have hmx:maxLen=9223372036854775807:=rfl;have SI:=eI A n c f (by omega) kd nx mk hv;have SL:=fD l hb0;unfold F2 l7 at SI hargs;simp only[f4]at SL hargs;obtain⟨ir,hir⟩:=eqv (D9 kd n f nx mk);obtain⟨il,hll⟩:=eqv (isL l);rw[<-hir]at SI hil;rw[<-hll]at SL hil;have hW:(J5 kd n f nx mk l)=(i9,i9,1):=by unfold J5;rw[<-hir,<-hll,hil];rfl
 refine en 79 hm hargs Tryz.func259 fun B O a0 Z=>?_
 refine wp_seq (rg O a6 [2,3,4,5] [2,3,4,5] [] Z fun X0 _ _ Z=>?_);refine wp_seq (rg O a6 [7,2,3,4,5] [2,3,4,5] [] Z fun X1 _ _ Z=>?_);refine wp_seq (wp_block (wp_seq (wp_region_lit (lpr 0 9 O a6 [24,7,2,3,4,5] [2,3,4,5] [(1,.r fun _=>.bool (.v ir)),(5,.r fun _=>.bool (.v il))] Z (hob:=?hob) fun X2_0 _ _ Z=>?_))))
 case hob=>
  intro X;subst O
  repeat(first|exact trivial|refine⟨rfl,?_⟩|refine⟨fun _=>rfl,?_⟩|refine⟨f7 (Kk:=noK) _ _ _ _,?_⟩|refine⟨fun _=>f7 (Kk:=noK) _ _ _ _,?_⟩|refine⟨⟨Q6,SI⟩,?_⟩|refine⟨fun _=>⟨Q6,SI⟩,?_⟩|refine⟨⟨aE,SL⟩,?_⟩|refine⟨fun _=>⟨aE,SL⟩,?_⟩)
 replace Z:=Z.headS (v':=.bool .tt) (Sim.bool (by subst O;show(if(!ir)=true then true else !il)=true;cases ir<;>cases il<;>first|rfl|(cases hil))) rfl;refine lnd 9 O a6 [15,2,3,4,5] [2,3,4,5] [(1,.r fun _=>.bool (.v ir)),(5,.r fun _=>.bool (.v il))] Z (hob:=?hob) fun X2 _ _ Z=>?_
 case hob=>
  intro X;subst O
  repeat(first|exact trivial|refine⟨rfl,?_⟩|refine⟨fun _=>rfl,?_⟩|refine⟨f7 (Kk:=noK) _ _ _ _,?_⟩|refine⟨fun _=>f7 (Kk:=noK) _ _ _ _,?_⟩)
 refine j1 Z rfl (fun Z=>?_);refine wp_seq (rg O a6 [4,5,6] [2,3,4,5] [] Z (hob:=?hob) fun X3 _ _ Z=>?_)
 case hob=>
  intro X;subst O
  repeat(first|exact trivial|refine⟨rfl,?_⟩|refine⟨fun _=>rfl,?_⟩|refine⟨f7 (Kk:=noK) _ _ _ _,?_⟩|refine⟨fun _=>f7 (Kk:=noK) _ _ _ _,?_⟩)
 refine wp_ret ((rsi O a6 Z (⟨0,fun _=>none,fun _=>0,fun _=>⟨#[]⟩⟩) (he:=?_)));subst O;rw[hW];exact Sim.tup ⟨Sim.agg ⟨zr,zq0,zr,zr,zr,trivial⟩,Sim.agg ⟨zr,zq0,zr,zr,zr,trivial⟩,zr,trivial⟩
theorem rG(A:Option Addr)(n c:Nat)(f:Nat->Itm)(hn:n<=1000000)(kd:Int)(nx:Lab)(mk:Int)(hv:U64 nx.bits)(hki:∀i,i<n->U64 (f i).key)(l:Lab)(hb0:U64 l.bits)(hil:(D9 kd n f nx mk&&isL l)=true):j7 Tryz.prog 259 [F2 A n c f kd nx mk,f4 l] (fun x=>.tup [bB (x.A 0) (x.c 0) (J5 kd n f nx mk l).1,bB (x.A 1) (x.c 1) (J5 kd n f nx mk l).2.1,.int .i64 (J5 kd n f nx mk l).2.2]):=by
 intro m w hm hargs;have hmx:maxLen=9223372036854775807:=rfl;have SI:=eI A n c f (by omega) kd nx mk hv;have SL:=fD l hb0;unfold F2 l7 at SI hargs;simp only[f4]at SL hargs;obtain⟨ir,hir⟩:=eqv (D9 kd n f nx mk);obtain⟨il,hll⟩:=eqv (isL l);rw[<-hir]at SI hil;rw[<-hll]at SL hil;rw[Bool.and_eq_true]at hil;have hLt:isL l=true:=by rw[<-hll];exact hil.2
 obtain⟨hl0,hl1,hl2⟩:=r7 hLt;obtain⟨hkd1,hkd5,hn16,hnl,hok⟩:=E4 (hir.symm.trans hil.1);refine en 79 hm hargs Tryz.func259 fun B O a0 Z=>?_
 refine wp_seq (rg O a6 [2,3,4,5] [2,3,4,5] [] Z fun X0 _ _ Z=>?_);refine wp_seq (rg O a6 [7,2,3,4,5] [2,3,4,5] [] Z fun X1 _ _ Z=>?_);have SC:=ET 3 (X0 1).b A n c f hn l hb0 hki;obtain⟨ca,hca⟩:=eqv (decide ((K3 l (b4 f n)).length=n));rw[<-hca]at SC;unfold l7 at SC;refine wp_seq (wp_block (wp_seq (wp_region_lit (lpr 0 9 O a6 [24,7,2,3,4,5] [2,3,4,5] [(1,.r fun _=>.bool (.v ir)),(5,.r fun _=>.bool (.v il)),(12,.x fun _=>⟨.bool (.v (!ca)),[(3,[.int .i64 l.len,.int .u64 l.bits])],[]⟩)] Z (hob:=?hob) fun X2_0 _ _ Z=>?_))))
 case hob=>
  intro X;subst O
  repeat(first|exact trivial|refine⟨rfl,?_⟩|refine⟨fun _=>rfl,?_⟩|refine⟨f7 (Kk:=noK) _ _ _ _,?_⟩|refine⟨fun _=>f7 (Kk:=noK) _ _ _ _,?_⟩|refine⟨⟨Q6,SI⟩,?_⟩|refine⟨fun _=>⟨Q6,SI⟩,?_⟩|refine⟨⟨aE,SL⟩,?_⟩|refine⟨fun _=>⟨aE,SL⟩,?_⟩)
 replace Z:=Z.headS (v':=.bool .ff) (Sim.bool (by subst O;show(if(!ir)=true then true else !il)=false;rw[hil.1,hil.2];rfl)) rfl;refine lnd 9 O a6 [15,2,3,4,5] [2,3,4,5] [(1,.r fun _=>.bool (.v ir)),(5,.r fun _=>.bool (.v il)),(12,.x fun _=>⟨.bool (.v (!ca)),[(3,[.int .i64 l.len,.int .u64 l.bits])],[]⟩)] Z (hob:=?hob) fun X2 _ _ Z=>?_
 case hob=>
  intro X;subst O
  repeat(first|exact trivial|refine⟨rfl,?_⟩|refine⟨fun _=>rfl,?_⟩|refine⟨f7 (Kk:=noK) _ _ _ _,?_⟩|refine⟨fun _=>f7 (Kk:=noK) _ _ _ _,?_⟩|refine⟨⟨qj,SC⟩,?_⟩|refine⟨fun _=>⟨qj,SC⟩,?_⟩)
 apply a7 Z rfl<;>intro hb Z
 .have hcf:ca=false:=by
   have h9:(!ca)=true:=by subst O;exact hb
   cases ca<;>first|rfl|(cases h9)
  have hW:(J5 kd n f nx mk l)=(i9,i9,1):=by unfold J5;rw[<-hir,<-hll,<-hca,hil.1,hil.2,hcf];rfl
  refine wp_seq (rg O a6 [4,5,6] [2,3,4,5] [] Z (hob:=?hob) fun X3 _ _ Z=>?_)
  case hob=>
   intro X;subst O
   repeat(first|exact trivial|refine⟨rfl,?_⟩|refine⟨fun _=>rfl,?_⟩|refine⟨f7 (Kk:=noK) _ _ _ _,?_⟩|refine⟨fun _=>f7 (Kk:=noK) _ _ _ _,?_⟩)
  refine wp_ret ((rsi O a6 Z (⟨0,fun _=>none,fun _=>0,fun _=>⟨#[]⟩⟩) (he:=?_)));subst O;rw[hW];exact Sim.tup ⟨Sim.agg ⟨zr,zq0,zr,zr,zr,trivial⟩,Sim.agg ⟨zr,zq0,zr,zr,zr,trivial⟩,zr,trivial⟩
 have hct:ca=true:=by
  have h9:(!ca)=false:=by subst O;exact hb
  cases ca<;>first|rfl|(cases h9)
 have hcn:=of_decide_eq_true (hca.symm.trans hct);have hcc:=lY.1 hcn;refine wp_seq (rg O a6 [32,2,3,4,5] [2,3,4,5] [] Z fun X4 _ _ Z=>?_);apply a7 Z rfl<;>intro hb Z
 .have h9:(if(!decide (kd=1))=true then !decide (kd=3)else false)=true:=by subst O;exact hb
  have hk:kd≠1/\kd≠3:=by
   rw[z8]at h9
   simpa using h9
  have hW:(J5 kd n f nx mk l)=(i9,i9,13):=by unfold J5;rw[<-hir,<-hll,<-hca,hil.1,hil.2,hct,if_neg (by decide),if_pos hk]
  refine wp_seq (rg O a6 [4,5,6] [2,3,4,5] [] Z (hob:=?hob) fun X5 _ _ Z=>?_)
  case hob=>
   intro X;subst O
   repeat(first|exact trivial|refine⟨rfl,?_⟩|refine⟨fun _=>rfl,?_⟩|refine⟨f7 (Kk:=noK) _ _ _ _,?_⟩|refine⟨fun _=>f7 (Kk:=noK) _ _ _ _,?_⟩)
  refine wp_ret ((rsi O a6 Z (⟨0,fun _=>none,fun _=>0,fun _=>⟨#[]⟩⟩) (he:=?_)));subst O;rw[hW];exact Sim.tup ⟨Sim.agg ⟨zr,zq0,zr,zr,zr,trivial⟩,Sim.agg ⟨zr,zq0,zr,zr,zr,trivial⟩,zr,trivial⟩
 have h9:(if(!decide (kd=1))=true then !decide (kd=3)else false)=false:=by subst O;exact hb
 have hk:¬(kd≠1/\kd≠3):=by
  intro h;rw[z8]at h9;simp[h.1,h.2]at h9
 refine wp_seq (rg O a6 [43,2,3,4,5] [2,3,4,5] [] Z (hob:=?hob) fun X6 _ _ Z=>?_)
 case hob=>
  intro X;subst O
  repeat(first|exact trivial|refine⟨rfl,?_⟩|refine⟨fun _=>rfl,?_⟩|refine⟨f7 (Kk:=noK) _ _ _ _,?_⟩|refine⟨fun _=>f7 (Kk:=noK) _ _ _ _,?_⟩)
 apply a7 Z rfl<;>intro hb Z
 .have h64:l.len=64:=by subst O;simpa[std,a8]using hb
  have hW:(J5 kd n f nx mk l)=(i9,i9,5):=by unfold J5;rw[<-hir,<-hll,<-hca,hil.1,hil.2,hct,if_neg (by decide),if_neg hk,if_pos h64]
  refine wp_seq (rg O a6 [4,5,6] [2,3,4,5] [] Z (hob:=?hob) fun X7 _ _ Z=>?_)
  case hob=>
   intro X;subst O
   repeat(first|exact trivial|refine⟨rfl,?_⟩|refine⟨fun _=>rfl,?_⟩|refine⟨f7 (Kk:=noK) _ _ _ _,?_⟩|refine⟨fun _=>f7 (Kk:=noK) _ _ _ _,?_⟩)
  refine wp_ret ((rsi O a6 Z (⟨0,fun _=>none,fun _=>0,fun _=>⟨#[]⟩⟩) (he:=?_)));subst O;rw[hW];exact Sim.tup ⟨Sim.agg ⟨zr,zq0,zr,zr,zr,trivial⟩,Sim.agg ⟨zr,zq0,zr,zr,zr,trivial⟩,zr,trivial⟩
 have h64:l.len≠64:=by subst O;simpa[std,a8]using hb
 obtain⟨k,hk1⟩:=eqv (k8 l 1);have SCH:=kB l hb0 1 (.inr rfl);rw[(nJ (b:=1) hLt h64).1,(nJ (b:=1) hLt h64).2,<-hk1]at SCH;simp only[f4]at SCH;have SA:=yS A n c f hn k.bits;obtain⟨p,hp⟩:=eqv (bsF f k.bits 0 n);rw[<-hp]at SA;rw[hk1]at hp;obtain⟨hpn,hc0,hc1⟩:=rH hok hki hLt hb0 h64 hcc hp
 generalize bX f k.bits n p=hh at SA
 unfold l7 at SA;have hW:(J5 kd n f nx mk l)=(⟨1,K3 (k8 l 0) (b4 f n),k8 l 1,0⟩,⟨1,K3 (k8 l 1) (b4 f n),nx,0⟩,0):=by unfold J5;rw[<-hir,<-hll,<-hca,hil.1,hil.2,hct,if_neg (by decide),if_neg hk,if_neg h64]
 rw[hc0,hc1,<-hk1]at hW;have SC0:=fun A c=>clone_sf A p c f (by omega)
 obtain⟨r,hr⟩:=eqv (n-p);rw[<-hr]at hW;have SC1:=fun A c=>clone_sf A r c (fun j=>f (p+j)) (by omega)
 unfold l7 at SC0 SC1;refine wp_skip (wp_seq (rg O a6 [2,4,5,8] [2,8,4,5] [(1,.r fun _=>.tup [.agg [.int .i64 k.len,.int .u64 k.bits],.int .i64 0])] Z (hob:=?hob) fun X8 _ _ Z=>?_))
 case hob=>
  intro X;subst O
  repeat(first|exact trivial|refine⟨rfl,?_⟩|refine⟨fun _=>rfl,?_⟩|refine⟨f7 (Kk:=noK) _ _ _ _,?_⟩|refine⟨fun _=>f7 (Kk:=noK) _ _ _ _,?_⟩|refine⟨⟨nz,SCH⟩,?_⟩|refine⟨fun _=>⟨nz,SCH⟩,?_⟩)
 refine wp_seq (rg O a6 [2,4,5,8,10] [2,8,4,5] [(4,.r fun _=>.tup [.int .i64 (p:Int),.bool (.v hh)])] Z (hob:=?hob) fun X9 _ _ Z=>?_)
 case hob=>
  intro X;subst O
  repeat(first|exact trivial|refine⟨rfl,?_⟩|refine⟨fun _=>rfl,?_⟩|refine⟨f7 (Kk:=noK) _ _ _ _,?_⟩|refine⟨fun _=>f7 (Kk:=noK) _ _ _ _,?_⟩|refine⟨⟨bi,SA⟩,?_⟩|refine⟨fun _=>⟨bi,SA⟩,?_⟩)
 refine wp_seq (drg O a6 [2,4,5,8,10,12] [2,8,12,4,5] [(4,.r fun x=>.sl none (x.A 0) p (x.c 0) 2 (fun i=>itC (f i)))] Z (hob:=?hob) fun X10 _ _ Z=>?_)
 case hob=>
  intro X;subst O;refine⟨rfl,?_⟩;refine⟨⟨Int.le_refl _,show(0:Int)<=(p:Int)by omega,show(p:Int)<=(n:Int)by omega⟩,?_⟩
  refine⟨⟨lQ,(SC0 _ _).sim ⟨Sim.resl (Nat.sub_zero p) (fun i hi=>by show itC (f (0+i))=itC (f i);rw[Nat.zero_add]),trivial⟩⟩,?_⟩
  repeat(first|exact trivial|refine⟨rfl,?_⟩|refine⟨⟨lQ,(SC0 _ _).sim ⟨Sim.resl (Nat.sub_zero p) (fun i hi=>by show itC (f (0+i))=itC (f i);rw[Nat.zero_add]),trivial⟩⟩,?_⟩|refine⟨⟨Int.le_refl _,show(0:Int)<=(p:Int)by omega,show(p:Int)<=(n:Int)by omega⟩,?_⟩|refine⟨⟨show(0:Int)<=0 by omega,show(0:Int)<=(p:Int)by omega,show(p:Int)<=(c:Int)by omega⟩,?_⟩)
 refine wp_seq (drg O a6 [4,5,12,13] [12,13,4,5] [(4,.r fun x=>.sl none (x.A 0) r (x.c 0) 2 (fun i=>itC (f (p+i))))] Z (hob:=?hob) fun X11 _ _ Z=>?_)
 case hob=>
  intro X;subst O
  repeat(first|exact trivial|refine⟨rfl,?_⟩|refine⟨⟨lQ,(SC1 _ _).sim ⟨Sim.resl (show _=r by rw[hr];rfl) (fun i hi=>rfl),trivial⟩⟩,?_⟩|refine⟨⟨show(0:Int)<=(p:Int)by omega,show(p:Int)<=(n:Int)by omega,Int.le_refl _⟩,?_⟩)
 refine wp_seq (drg O a6 [4,5,6] [4,5] [] Z (hob:=?hob) fun X12 _ _ Z=>?_)
 case hob=>
  intro X;subst O
  repeat(first|exact trivial|refine⟨rfl,?_⟩|refine⟨fun _=>rfl,?_⟩|refine⟨f7 (Kk:=noK) _ _ _ _,?_⟩|refine⟨fun _=>f7 (Kk:=noK) _ _ _ _,?_⟩)
 refine wp_ret ((rsi O a6 Z (⟨0,fun i=>if i=0 then(X10 4).A 0 else(X11 4).A 0,fun i=>if i=0 then(X10 4).c 0 else(X11 4).c 0,fun _=>⟨#[]⟩⟩) (he:=?_)));subst O;rw[hW];exact Sim.tup ⟨Sim.agg ⟨zr,Sim.resl (i3 f p).symm (fun t ht=>by rw[i3]at ht;rw[u0 f p t ht]),zr,zr,zr,trivial⟩,Sim.agg ⟨zr,Sim.resl (i3 _ r).symm (fun t ht=>by rw[i3]at ht;rw[u0 _ r t ht]),zr,zr,zr,trivial⟩,zr,trivial⟩
theorem ux(A:Option Addr)(n c:Nat)(f:Nat->Itm)(hn:n<=1000000)(kd:Int)(nx:Lab)(mk:Int)(hv:U64 nx.bits)(hki:∀i,i<n->U64 (f i).key)(l:Lab)(hb0:U64 l.bits):j7 Tryz.prog 233 [F2 A n c f kd nx mk,f4 l] (fun x=>.tup [bB (x.A 0) (x.c 0) (J5 kd n f nx mk l).1,bB (x.A 1) (x.c 1) (J5 kd n f nx mk l).2.1,.int .i64 (J5 kd n f nx mk l).2.2]):=by
 intro m w hm hargs;have hmx:maxLen=9223372036854775807:=rfl;have SI:=iQ A n c f (by omega) kd nx mk hv;have SL:=iR l hb0;have SV:=rY A n c f hn kd nx mk l hb0 hki;unfold F2 l7 at SI SV hargs;simp only[f4]at SL SV hargs;obtain⟨ir,hir⟩:=eqv (D9 kd n f nx mk);obtain⟨il,hll⟩:=eqv (isL l);rw[<-hir]at SI;rw[<-hll]at SL;obtain⟨n1,hn1⟩:=eqv ((K3 l (b4 f n)).length);obtain⟨g1,hg1⟩:=eqv (itF (K3 l (b4 f n)));rw[<-hn1,<-hg1]at SV;refine en 71 hm hargs Tryz.func233 fun B O a0 Z=>?_
 refine wp_seq (rg O a6 [2,3,4,5] [2,3,4,5] [] Z fun X0 _ _ Z=>?_);refine wp_seq (wp_seq (drg O a6 [30,2,3,4,5] [2,3,4,5] [(1,.r fun _=>.bool (.v ir)),(5,.r fun _=>.bool (.v il)),(11,.r fun x=>.sl none (x.A 0) n1 (x.c 0) 2 (fun i=>itC (g1 i)))] Z (hob:=?hob) fun X1 _ _ Z=>?_))
 case hob=>
  intro X;subst O
  repeat(first|exact trivial|refine⟨rfl,?_⟩|refine⟨fun _=>rfl,?_⟩|refine⟨f7 (Kk:=noK) _ _ _ _,?_⟩|refine⟨fun _=>f7 (Kk:=noK) _ _ _ _,?_⟩|refine⟨⟨M9,SI⟩,?_⟩|refine⟨fun _=>⟨M9,SI⟩,?_⟩|refine⟨⟨bj,SL⟩,?_⟩|refine⟨fun _=>⟨bj,SL⟩,?_⟩|refine⟨⟨bh,SV⟩,?_⟩|refine⟨fun _=>⟨bh,SV⟩,?_⟩)
 apply a7 Z rfl<;>intro hb Z
 .have h9:(if(if(!ir)=true then true else !il)=true then true else !decide ((n1:Int)=(n:Int)))=true:=by subst O;exact hb
  have hW:(J5 kd n f nx mk l)=(i9,i9,1):=by
   unfold J5;rw[<-hir,<-hll,<-hn1];have:(ir&&il&&decide (n1=n))=false:=by
    cases ir<;>cases il<;>first|rfl|(simp at h9 ⊢;omega)
   rw[this];rfl
  refine wp_seq (rg O a6 [4,5,6] [4,5] [] Z (hob:=?hob) fun X2 _ _ Z=>?_)
  case hob=>
   intro X;subst O
   repeat(first|exact trivial|refine⟨rfl,?_⟩|refine⟨fun _=>rfl,?_⟩|refine⟨f7 (Kk:=noK) _ _ _ _,?_⟩|refine⟨fun _=>f7 (Kk:=noK) _ _ _ _,?_⟩)
  refine wp_ret ((rsi O a6 Z (⟨0,fun _=>none,fun _=>0,fun _=>⟨#[]⟩⟩) (he:=?_)));subst O;rw[hW];exact Sim.tup ⟨Sim.agg ⟨zr,zq0,zr,zr,zr,trivial⟩,Sim.agg ⟨zr,zq0,zr,zr,zr,trivial⟩,zr,trivial⟩
 have h9:(if(if(!ir)=true then true else !il)=true then true else !decide ((n1:Int)=(n:Int)))=false:=by subst O;exact hb
 have hirt:ir=true:=by cases ir<;>first|rfl|(simp at h9)
 have hilt:il=true:=by rw[hirt]at h9;cases il<;>first|rfl|(simp at h9)
 have hnn:n1=n:=by
  rw[hirt,hilt]at h9;simp at h9;omega
 have hLt:isL l=true:=by rw[<-hll];exact hilt
 obtain⟨hl0,hl1,hl2⟩:=r7 hLt;obtain⟨hkd1,hkd5,hn16,hnl,hok⟩:=E4 (hir.symm.trans hirt);have hcn:(K3 l (b4 f n)).length=n:=by rw[<-hn1];exact hnn
 refine wp_skip (wp_seq (wp_seq (rg O a6 [40,2,3,4,5] [2,3,4,5] [] Z fun X3 _ _ Z=>?_)));apply a7 Z rfl<;>intro hb Z
 .have h9:(if(!decide (kd=1))=true then !decide (kd=3)else false)=true:=by subst O;exact hb
  have hk:kd≠1/\kd≠3:=by
   rw[z8]at h9
   simpa using h9
  have hW:(J5 kd n f nx mk l)=(i9,i9,13):=by unfold J5;rw[<-hir,<-hll,hcn,hirt,hilt,decide_eq_true rfl,if_neg (by decide),if_pos hk]
  refine wp_seq (rg O a6 [4,5,6] [4,5] [] Z (hob:=?hob) fun X4 _ _ Z=>?_)
  case hob=>
   intro X;subst O
   repeat(first|exact trivial|refine⟨rfl,?_⟩|refine⟨fun _=>rfl,?_⟩|refine⟨f7 (Kk:=noK) _ _ _ _,?_⟩|refine⟨fun _=>f7 (Kk:=noK) _ _ _ _,?_⟩)
  refine wp_ret ((rsi O a6 Z (⟨0,fun _=>none,fun _=>0,fun _=>⟨#[]⟩⟩) (he:=?_)));subst O;rw[hW];exact Sim.tup ⟨Sim.agg ⟨zr,zq0,zr,zr,zr,trivial⟩,Sim.agg ⟨zr,zq0,zr,zr,zr,trivial⟩,zr,trivial⟩
 have h9:(if(!decide (kd=1))=true then !decide (kd=3)else false)=false:=by subst O;exact hb
 have hk:¬(kd≠1/\kd≠3):=by
  intro h;rw[z8]at h9;simp[h.1,h.2]at h9
 refine wp_skip (wp_seq (wp_seq (rg O a6 [45,2,3,4,5] [2,3,4,5] [] Z (hob:=?hob) fun X5 _ _ Z=>?_)))
 case hob=>
  intro X;subst O
  repeat(first|exact trivial|refine⟨rfl,?_⟩|refine⟨fun _=>rfl,?_⟩|refine⟨f7 (Kk:=noK) _ _ _ _,?_⟩|refine⟨fun _=>f7 (Kk:=noK) _ _ _ _,?_⟩)
 apply a7 Z rfl<;>intro hb Z
 .have h64:l.len=64:=by subst O;simpa[std,a8]using hb
  have hW:(J5 kd n f nx mk l)=(i9,i9,5):=by unfold J5;rw[<-hir,<-hll,hcn,hirt,hilt,decide_eq_true rfl,if_neg (by decide),if_neg hk,if_pos h64]
  refine wp_seq (rg O a6 [4,5,6] [4,5] [] Z (hob:=?hob) fun X6 _ _ Z=>?_)
  case hob=>
   intro X;subst O
   repeat(first|exact trivial|refine⟨rfl,?_⟩|refine⟨fun _=>rfl,?_⟩|refine⟨f7 (Kk:=noK) _ _ _ _,?_⟩|refine⟨fun _=>f7 (Kk:=noK) _ _ _ _,?_⟩)
  refine wp_ret ((rsi O a6 Z (⟨0,fun _=>none,fun _=>0,fun _=>⟨#[]⟩⟩) (he:=?_)));subst O;rw[hW];exact Sim.tup ⟨Sim.agg ⟨zr,zq0,zr,zr,zr,trivial⟩,Sim.agg ⟨zr,zq0,zr,zr,zr,trivial⟩,zr,trivial⟩
 have h64:l.len≠64:=by subst O;simpa[std,a8]using hb
 obtain⟨k0,hk0⟩:=eqv (k8 l 0);have SCH0:=U0 l hb0 0 (by decide);rw[(nJ (b:=0) hLt h64).1,(nJ (b:=0) hLt h64).2,<-hk0]at SCH0;have SV0:=rY A n c f hn kd nx mk k0 (by rw[hk0];exact dH hLt hb0 h64 0) hki;obtain⟨m0,hm0⟩:=eqv ((K3 k0 (b4 f n)).length);obtain⟨h0,hh0⟩:=eqv (itF (K3 k0 (b4 f n)));rw[<-hm0,<-hh0]at SV0;unfold F2 l7 at SV0;simp only[f4]at SCH0 SV0;obtain⟨k1,hk1⟩:=eqv (k8 l 1);have SCH1:=U0 l hb0 1 (by decide);rw[(nJ (b:=1) hLt h64).1,(nJ (b:=1) hLt h64).2,<-hk1]at SCH1;have SV1:=rY A n c f hn kd nx mk k1 (by rw[hk1];exact dH hLt hb0 h64 1) hki;obtain⟨m1,hm1⟩:=eqv ((K3 k1 (b4 f n)).length);obtain⟨h1,hh1⟩:=eqv (itF (K3 k1 (b4 f n)));rw[<-hm1,<-hh1]at SV1;unfold F2 l7 at SV1;simp only[f4]at SCH1 SV1;have hW:(J5 kd n f nx mk l)=(⟨1,K3 k0 (b4 f n),k1,0⟩,⟨1,K3 k1 (b4 f n),nx,0⟩,0):=by unfold J5;rw[<-hir,<-hll,hcn,hirt,hilt,decide_eq_true rfl,if_neg (by decide),if_neg hk,if_neg h64,hk0,hk1]
 refine wp_skip (wp_seq (rg O a6 [2,3,4,5,7] [2,3,4,5,7] [(1,.r fun _=>.tup [.agg [.int .i64 k0.len,.int .u64 k0.bits],.int .i64 0])] Z (hob:=?hob) fun X7 _ _ Z=>?_))
 case hob=>
  intro X;subst O
  repeat(first|exact trivial|refine⟨rfl,?_⟩|refine⟨fun _=>rfl,?_⟩|refine⟨f7 (Kk:=noK) _ _ _ _,?_⟩|refine⟨fun _=>f7 (Kk:=noK) _ _ _ _,?_⟩|refine⟨⟨fp,SCH0⟩,?_⟩|refine⟨fun _=>⟨fp,SCH0⟩,?_⟩)
 refine wp_seq (rg O a6 [2,4,5,7,9] [2,4,5,7,9] [(1,.r fun _=>.tup [.agg [.int .i64 k1.len,.int .u64 k1.bits],.int .i64 0])] Z (hob:=?hob) fun X8 _ _ Z=>?_)
 case hob=>
  intro X;subst O
  repeat(first|exact trivial|refine⟨rfl,?_⟩|refine⟨fun _=>rfl,?_⟩|refine⟨f7 (Kk:=noK) _ _ _ _,?_⟩|refine⟨fun _=>f7 (Kk:=noK) _ _ _ _,?_⟩|refine⟨⟨fp,SCH1⟩,?_⟩|refine⟨fun _=>⟨fp,SCH1⟩,?_⟩)
 refine wp_seq (drg O a6 [2,4,5,9,11] [2,4,5,9,11] [(2,.r fun x=>.sl none (x.A 0) m0 (x.c 0) 2 (fun i=>itC (h0 i)))] Z (hob:=?hob) fun X9 _ _ Z=>?_)
 case hob=>
  intro X;subst O
  repeat(first|exact trivial|refine⟨rfl,?_⟩|refine⟨fun _=>rfl,?_⟩|refine⟨f7 (Kk:=noK) _ _ _ _,?_⟩|refine⟨fun _=>f7 (Kk:=noK) _ _ _ _,?_⟩|refine⟨⟨bh,SV0⟩,?_⟩|refine⟨fun _=>⟨bh,SV0⟩,?_⟩)
 refine wp_seq (drg O a6 [4,5,11,12] [4,5,11,12] [(2,.r fun x=>.sl none (x.A 0) m1 (x.c 0) 2 (fun i=>itC (h1 i)))] Z (hob:=?hob) fun X10 _ _ Z=>?_)
 case hob=>
  intro X;subst O
  repeat(first|exact trivial|refine⟨rfl,?_⟩|refine⟨fun _=>rfl,?_⟩|refine⟨f7 (Kk:=noK) _ _ _ _,?_⟩|refine⟨fun _=>f7 (Kk:=noK) _ _ _ _,?_⟩|refine⟨⟨bh,SV1⟩,?_⟩|refine⟨fun _=>⟨bh,SV1⟩,?_⟩)
 refine wp_seq (drg O a6 [4,5,6] [4,5] [] Z (hob:=?hob) fun X11 _ _ Z=>?_)
 case hob=>
  intro X;subst O
  repeat(first|exact trivial|refine⟨rfl,?_⟩|refine⟨fun _=>rfl,?_⟩|refine⟨f7 (Kk:=noK) _ _ _ _,?_⟩|refine⟨fun _=>f7 (Kk:=noK) _ _ _ _,?_⟩)
 refine wp_ret ((rsi O a6 Z (⟨0,fun i=>if i=0 then(X9 2).A 0 else(X10 2).A 0,fun i=>if i=0 then(X9 2).c 0 else(X10 2).c 0,fun _=>⟨#[]⟩⟩) (he:=?_)));subst O;rw[hW];exact Sim.tup ⟨Sim.agg ⟨zr,Sim.resl hm0 (fun t ht=>by rw[hh0]),zr,zr,zr,trivial⟩,Sim.agg ⟨zr,Sim.resl hm1 (fun t ht=>by rw[hh1]),zr,zr,zr,trivial⟩,zr,trivial⟩
end Go.Proofs.YtmbkanpapkhnaaaGreat.Sym
