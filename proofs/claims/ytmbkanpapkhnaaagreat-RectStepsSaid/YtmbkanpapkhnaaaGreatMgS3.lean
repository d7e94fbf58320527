/-
  PlShelf, SymSh, SymShM, PlBack, PlCov, PlUp, SymAt, SymCov, PlProc, SymHd3, SymThr, SymPr0, SymUp, SymPr1, EtyI, InsertI, ItOwn, ItGrow, PlMap, ItCut, SymHalf, SymUni, SymPr2: put together by a program of mine (a claim may have 60 files at most). Conditions: none.
-/
import Derived.Test.YtmbkanpapkhnaaaGreatMgS2
import Derived.DeepKeys4
import Derived.LoopN
set_option linter.unusedVariables false
set_option linter.unusedSimpArgs false
set_option maxRecDepth 100000
set_option maxHeartbeats 1600000
namespace Go.Proofs.YtmbkanpapkhnaaaGreat
open Go.RowKit Sym
structure RN where
 n:Nat
 f:Nat->Itm
 kd:Int
 nx:Lab
 mrk:Int
def RN.abs(r:RN):Rec:=⟨r.kd,f5 r.f r.n,r.nx,r.mrk⟩
def Rec.rn(r:Rec):RN:=⟨r.items.length,itF r.items,r.kind,r.next,r.mark⟩
theorem ku(l:List Itm):f5 (itF l) l.length=l:=by
 apply List.ext_getElem
 .simp [f5]
 intro i h1 h2;simp[f5,itF,List.getD,h2]
theorem aQ(r:Rec):r.rn.abs=r:=by
 obtain⟨k,l,nx,mk⟩:=r;simp only[Rec.rn,RN.abs,ku]
theorem tZ{f g:Nat->Itm}{n:Nat}(h:∀t,t<n->f t=g t):okF f n=okF g n:=by
 unfold okF;rw[Bool.eq_iff_iff,List.all_eq_true,List.all_eq_true];have e:∀t,t<n->ez f t=ez g t:=fun t ht=>by
  unfold ez;rw[h t ht,h (t-1) (by omega)]
 constructor
 .intro h1 t ht;rw[<-e t (List.mem_range.1 ht)];exact h1 t ht
 intro h1 t ht;rw[e t (List.mem_range.1 ht)];exact h1 t ht
theorem lm(r:RN):isR r.abs=R6 r.kd r.n r.f r.nx r.mrk:=by
 unfold isR RN.abs;simp only[j2];rw[iO,iO,tZ fun t ht=>u6 r.f r.n t ht]
structure Spo where
 ver:Int
 has:Bool
 r:Rec
deriving DecidableEq
def vf:Spo:=⟨0,false,k6⟩
abbrev Shf:=List (Lab×Spo)
def M5(a b:Lab):Bool:=decide (a.bits<b.bits)||(decide (a.bits=b.bits)&&decide (a.len<b.len))
theorem wc{a b:Lab}(h1:a.len=b.len)(h2:a.bits=b.bits):a=b:=by
 obtain⟨x,y⟩:=a;obtain⟨x',y'⟩:=b;simp only at h1 h2;rw[h1,h2]
theorem ss(a:Lab):M5 a a=false:=by simp[M5]
theorem bS{a b c:Lab}(h1:M5 a b=true)(h2:M5 b c=true):M5 a c=true:=by
 simp only[M5,Bool.or_eq_true,Bool.and_eq_true,decide_eq_true_eq]at *;omega
theorem bU(a b:Lab):M5 a b=true \/ a=b \/ M5 b a=true:=by
 simp only[M5,Bool.or_eq_true,Bool.and_eq_true,decide_eq_true_eq]
 by_cases h1:a.bits<b.bits
 .exact .inl (.inl h1)
 by_cases h2:b.bits<a.bits
 .exact .inr (.inr (.inl h2))
 by_cases h3:a.len<b.len
 .exact .inl (.inr ⟨by omega,h3⟩)
 by_cases h4:b.len<a.len
 .exact .inr (.inr (.inr ⟨by omega,h4⟩))
 exact .inr (.inl (wc (by omega) (by omega)))
theorem iM{a b:Lab}(h:M5 a b=true):a≠b:=by
 rintro rfl;rw[ss]at h;cases h
def kC(L:Shf):Prop:=L.Pairwise fun a b=>M5 a.1 b.1=true
def xL(l:Lab):Shf->Nat
 | []=>0
 |p::L=>if M5 p.1 l then xL l L+1 else 0
def E0(l:Lab):Shf->Option Spo
 | []=>none
 |p::L=>if p.1=l then some p.2 else E0 l L
def cm(l:Lab)(x:Spo):Shf->Shf
 | []=>[(l,x)]
 |p::L=>if M5 p.1 l then p::cm l x L else if p.1=l then(l,x)::L else(l,x)::p::L
theorem Ed(l:Lab):∀L:Shf,xL l L<=L.length
 | []=>Nat.le_refl _
 |p::L=>by
  unfold xL
  split
  .have:=Ed l L;simp;omega
  simp
theorem dP{l:Lab}:∀{L:Shf},(∀p∈L,M5 l p.1=true)->E0 l L=none
 | [],_=>rfl
 |p::L,h=>by
  unfold E0;rw[if_neg (fun e=>iM (h p (by simp)) e.symm)];exact dP fun q hq=>h q (by simp[hq])
theorem Ec{l:Lab}:∀{L:Shf},kC L->(∀p,L[xL l L]? = some p->(if p.1=l then E0 l L=some p.2 else E0 l L=none))/\(L[xL l L]? = none->E0 l L=none)
 | [],_=>⟨fun p h=>by simp at h,fun _=>rfl⟩
 |p::L,h=>by
  have h':=List.pairwise_cons.1 h;unfold xL
  by_cases hp:M5 p.1 l=true
  .rw [if_pos hp]
   obtain⟨g1,g2⟩:=Ec (l:=l) h'.2;simp only[List.getElem?_cons_succ];unfold E0;rw[if_neg (iM hp)];exact⟨g1,g2⟩
  rw[if_neg hp];simp only[List.getElem?_cons_zero,Option.some.injEq];refine⟨?_,fun h=>by cases h⟩
  rintro q rfl
  unfold E0
  by_cases he:p.1=l
  .rw [if_pos he,if_pos he]
  rw[if_neg he,if_neg he];refine dP fun q hq=>?_
  rcases bU p.1 l with h1|h1|h1
  .exact absurd h1 hp
  .exact absurd h1 he
  exact bS h1 (h'.1 q hq)
theorem iZ(l:Lab)(x:Spo)(l':Lab):∀L:Shf,E0 l' (cm l x L)=if l=l' then some x else E0 l' L
 | []=>by simp[cm,E0]
 |p::L=>by
  unfold cm
  split
  .rename_i hp
   unfold E0;rw[iZ l x l' L]
   by_cases h1:p.1=l'
   .rw [if_pos h1,if_pos h1]
    by_cases h2:l=l'
    .exact absurd (h1.trans h2.symm) (iM hp)
    rw[if_neg h2]
   rw[if_neg h1,if_neg h1]
  split
  .rename_i _ hp
   unfold E0
   by_cases h2:l=l'
   .rw [if_pos h2,if_pos h2]
   rw[if_neg h2,if_neg h2,if_neg (by rw[hp];exact h2)]
  show(if l=l' then some x else E0 l' (p::L))=_
  rfl
theorem iA(l:Lab)(x:Spo):∀{L:Shf},kC L->(cm l x L).length=if(E0 l L).isSome then L.length else L.length+1
 | [],_=>rfl
 |p::L,h=>by
  have h':=List.pairwise_cons.1 h;unfold cm E0
  split
  .rename_i hp
   rw[if_neg (iM hp),List.length_cons,iA l x h'.2]
   split<;>rfl
  split
  .rfl
  rename_i hp he
  rw[dP fun q hq=>?_]
  .rfl
  rcases bU p.1 l with h1|h1|h1
  .exact absurd h1 hp
  .exact absurd h1 he
  exact bS h1 (h'.1 q hq)
theorem fD{l:Lab}{x:Spo}:∀{L:Shf} {p:Lab×Spo},p∈cm l x L->p=(l,x) \/ p∈L
 | [],p,h=>by simp[cm]at h;exact .inl h
 |q::L,p,h=>by
  unfold cm at h
  split at h
  .rcases List.mem_cons.1 h with rfl|h
   .exact .inr (by simp)
   rcases fD h with h|h
   .exact .inl h
   exact .inr (by simp[h])
  split at h
  .rcases List.mem_cons.1 h with rfl|h
   .exact .inl rfl
   exact .inr (by simp[h])
  rcases List.mem_cons.1 h with rfl|h
  .exact .inl rfl
  exact .inr h
theorem fC{l:Lab}{x:Spo}:∀{L:Shf},kC L->kC (cm l x L)
 | [],_=>List.pairwise_singleton _ _
 |p::L,h=>by
  have h':=List.pairwise_cons.1 h;unfold cm
  split
  .rename_i hp
   refine List.pairwise_cons.2 ⟨fun q hq=>?_,fC h'.2⟩
   rcases fD hq with rfl|hq
   .exact hp
   exact h'.1 q hq
  rename_i hp
  split
  .rename_i he
   exact List.pairwise_cons.2 ⟨fun q hq=>by simp only;rw[<-he];exact h'.1 q hq,h'.2⟩
  rename_i he
  have hl:M5 l p.1=true:=by
   rcases bU p.1 l with h1|h1|h1
   .exact absurd h1 hp
   .exact absurd h1 he
   exact h1
  refine List.pairwise_cons.2 ⟨fun q hq=>?_,h⟩
  rcases List.mem_cons.1 hq with rfl|hq
  .exact hl
  exact bS hl (h'.1 q hq)
structure Rw where
 lab:Lab
 ver:Int
 r:Rec
deriving DecidableEq
def ge:Rw:=⟨⟨0,0⟩,0,k6⟩
def gE:List Rw->Shf->Option Shf
 | [],L=>some L
 |w::l,L=>if(E0 w.lab L).isSome || !isL w.lab || !isR w.r then none else gE l (cm w.lab ⟨w.ver,true,w.r⟩ L)
def dF(l:List Rw):Option Shf:=if 2000<l.length then none else gE l []
structure Got where
 code:Int
 ver:Int
 has:Bool
 r:Rec
deriving DecidableEq
def L6:Got:=⟨0,0,false,k6⟩
structure Wnt where
 kind:Int
 lab:Lab
 ver:Int
 r:Rec
structure Did where
 L:Shf
 wrote:Bool
 got:Got
 err:Int
def inc(v:Int):Int:=IntKind.u64.wrap (v+1)
def Eo(w:Wnt):Spo:=⟨inc w.ver,decide (w.kind=2),if w.kind=2 then w.r else k6⟩
def D7(L:Shf)(l:Lab):Spo:=(E0 l L).getD vf
def doL(L:Shf)(w:Wnt):Did:=
 if(w.kind=1 \/ w.kind=2 \/ w.kind=3)/\isL w.lab=true/\(w.kind=2->isR w.r=true)then
  (if w.kind=1 then⟨L,false,⟨0,(D7 L w.lab).ver,(D7 L w.lab).has,(D7 L w.lab).r⟩,0⟩
  else if w.ver≠(D7 L w.lab).ver then⟨L,false,⟨8,(D7 L w.lab).ver,false,k6⟩,0⟩
  else if(E0 w.lab L).isNone/\2000<=L.length then⟨L,false,L6,12⟩
  else⟨cm w.lab (Eo w) L,true,⟨0,inc w.ver,false,k6⟩,0⟩)
 else⟨L,false,L6,1⟩
end Go.Proofs.YtmbkanpapkhnaaaGreat
namespace Go.Proofs.YtmbkanpapkhnaaaGreat.Sym
open Go Go.RowKit
structure RA where
 A:Option Addr
 c:Nat
 r:RN
abbrev nL(x:RA):List AV:=[.int .i64 x.r.kd,.sl none x.A x.r.n x.c 2 (fun i=>itC (x.r.f i)),.int .i64 x.r.nx.len,.int .u64 x.r.nx.bits,.int .u64 x.r.mrk]
abbrev J7(x:RA):AV:=.agg (nL x)
def zRN:RN:=⟨0,fun _=>s7,0,⟨0,0⟩,0⟩
def zRA:RA:=⟨none,0,zRN⟩
structure D4 where
 lab:Lab
 ver:Int
 x:RA
abbrev J2(w:D4):List AV:=[.int .i64 w.lab.len,.int .u64 w.lab.bits,.int .u64 w.ver,.int .i64 w.x.r.kd,.sl none w.x.A w.x.r.n w.x.c 2 (fun i=>itC (w.x.r.f i)),.int .i64 w.x.r.nx.len,.int .u64 w.x.r.nx.bits,.int .u64 w.x.r.mrk]
abbrev cP(A:Option Addr)(n c:Nat)(f:Nat->D4):AV:=.sl none A n c 8 (fun i=>J2 (f i))
def zn:D4:=⟨⟨0,0⟩,0,zRA⟩
structure SpA where
 w:D4
 has:Bool
abbrev elC(x:SpA):List AV:=[.int .u64 x.w.ver,.bool (.v x.has),.int .i64 x.w.x.r.kd,.sl none x.w.x.A x.w.x.r.n x.w.x.c 2 (fun i=>itC (x.w.x.r.f i)),.int .i64 x.w.x.r.nx.len,.int .u64 x.w.x.r.nx.bits,.int .u64 x.w.x.r.mrk]
def zSp:SpA:=⟨zn,false⟩
structure s9 where
 code:Int
 ver:Int
 has:Bool
 x:RA
abbrev V2(g:s9):List AV:=[.int .i64 g.code,.int .u64 g.ver,.bool (.v g.has),.int .i64 g.x.r.kd,.sl none g.x.A g.x.r.n g.x.c 2 (fun i=>itC (g.x.r.f i)),.int .i64 g.x.r.nx.len,.int .u64 g.x.r.nx.bits,.int .u64 g.x.r.mrk]
abbrev B2(g:s9):AV:=.agg (V2 g)
def lD:s9:=⟨0,0,false,zRA⟩
structure rq where
 code:Int
 had:Bool
 val:ByteArray
 A:Option Addr
 n:Nat
 c:Nat
 f:Nat->Itm
 key:Int
 more:Bool
structure B0 where
 kind:Int
 lab:Lab
 ver:Int
 x:RA
 s:rq
abbrev ce(w:B0):List AV:=[.int .i64 w.kind,.int .i64 w.lab.len,.int .u64 w.lab.bits,.int .u64 w.ver,.int .i64 w.x.r.kd,.sl none w.x.A w.x.r.n w.x.c 2 (fun i=>itC (w.x.r.f i)),.int .i64 w.x.r.nx.len,.int .u64 w.x.r.nx.bits,.int .u64 w.x.r.mrk,.int .i64 w.s.code,.bool (.v w.s.had),.str w.s.val,.sl none w.s.A w.s.n w.s.c 2 (fun i=>itC (w.s.f i)),.int .u64 w.s.key,.bool (.v w.s.more)]
abbrev E5(w:B0):AV:=.agg (ce w)
def D4.abs(w:D4):Rw:=⟨w.lab,w.ver,w.x.r.abs⟩
def s9.abs(g:s9):Got:=⟨g.code,g.ver,g.has,g.x.r.abs⟩
def B0.abs(w:B0):Wnt:=⟨w.kind,w.lab,w.ver,w.x.r.abs⟩
def V8{α β : Type}(h:α->β)(g:Nat->α)(n:Nat):List β:=(List.range n).map fun i=>h (g i)
theorem V7{α β : Type}(h:α->β)(g:Nat->α)(n:Nat):(V8 h g n).length=n:=by simp[V8]
theorem oz{α β : Type}(h:α->β)(g:Nat->α){n i:Nat}(hi:i<n):(V8 h g n)[i]? = some (h (g i)):=by simp[V8,hi]
theorem mB{α β : Type}(h:α->β)(g:Nat->α)(n:Nat):V8 h g (n+1)=V8 h g n ++ [h (g n)]:=by simp[V8,List.range_succ]
abbrev J8(f:Nat->D4)(n:Nat):List Rw:=V8 D4.abs f n
theorem G3.length:∀{l l':List AV},G3 l l'->l.length=l'.length
 | [],[],_=>rfl
 |v::l,v'::l',h=>by simp only[List.length_cons,G3.length h.2]
 | [],_::_,h=>h.elim
 |_::_,[],h=>h.elim
theorem Sim.rows{g g':Option Nat}{A:Option Addr}{n n' c k:Nat}{f f':Nat->List AV}(hn:n=n')(he:∀i,i<n'->G3 (f i) (f' i)):Sim (.sl g A n c k f) (.sl g' A n' c k f'):=by
 subst hn;refine⟨rfl,fun _=>rfl,fun m w h=>?_⟩
 cases h with
 |sl _ _ _ _ _ _ h1 h2 h3 h4 h5 h6 h7=>
  exact .sl _ _ _ _ _ _ h1 h2 (fun i hi=>by rw[<-(he i hi).length];exact h3 i hi) h4 (fun i hi=>by rw[<-(he i hi).map];exact h5 i hi) (fun i hi=>(he i hi).one (h6 i hi)) (fun i hi=>(he i hi).ok (h7 i hi))
theorem i5.memS{C:Cx}{nt:Nat}{l:List (Nat×AV)}{mem:List (Nat×Blk)}{gr:List (Nat×Gr)}{a:Act}{w:World}{k b ty:Nat}{cells cells':List AV}(h:i5 C ⟨nt,l,[],(k,⟨b,ty,cells⟩)::mem,gr⟩ a w)(e:G3 cells cells'):i5 C ⟨nt,l,[],(k,⟨b,ty,cells'⟩)::mem,gr⟩ a w:=by
 have hto:∀k' e',j7 ((k,(⟨b,ty,cells'⟩:Blk))::mem) k'=some e'->∃e0,j7 ((k,(⟨b,ty,cells⟩:Blk))::mem) k'=some e0/\e0.at_=e'.at_/\e0.ty=e'.ty/\G3 e0.cells e'.cells:=by
  intro k' e' he;simp only[j7]at he ⊢
  split at he
  .rename_i hk;injection he with he;subst he;exact⟨⟨b,ty,cells⟩,by rw[if_pos hk],rfl,rfl,e⟩
  rename_i hk;exact⟨e',by rw[if_neg hk];exact he,rfl,rfl,zl⟩
 have hfro:∀k' e',j7 ((k,(⟨b,ty,cells⟩:Blk))::mem) k'=some e'->∃e0,j7 ((k,(⟨b,ty,cells'⟩:Blk))::mem) k'=some e0/\e0.at_=e'.at_:=by
  intro k' e' he;simp only[j7]at he ⊢
  split at he
  .rename_i hk;injection he with he;subst he;exact⟨⟨b,ty,cells'⟩,by rw[if_pos hk],rfl⟩
  rename_i hk;exact⟨e',by rw[if_neg hk];exact he,rfl⟩
 have hm:St.m ⟨nt,l,[],(k,⟨b,ty,cells'⟩)::mem,gr⟩ C=St.m ⟨nt,l,[],(k,⟨b,ty,cells⟩)::mem,gr⟩ C:=by
  funext x o
  apply propext
  constructor
  .rintro (h|⟨k',e',he,hx⟩|h)
   .exact .inl h
   .obtain ⟨e0,h1,h2,_⟩:=hto k' e' he
    exact .inr (.inl ⟨k',e0,h1,h2.trans hx⟩)
   exact .inr (.inr h)
  rintro(h|⟨k',e',he,hx⟩|h)
  .exact .inl h
  .obtain ⟨e0,h1,h2⟩:=hfro k' e' he
   exact .inr (.inl ⟨k',e0,h1,h2.trans hx⟩)
  exact .inr (.inr h)
 refine⟨h.size,h.defers,fun t ht=>by rw[hm];exact h.slot t ht,fun t p v he hk=>(by cases he),fun k' e' he=>?_,fun k1 k2 e1 e2 h1 h2 hne=>?_,h.gr,fun k1 t k2 e2 h1 h2=>?_,h.sepg,h.chg,h.m0,by rw[hm];exact h.kept⟩
 .rw [hm]
  obtain⟨e0,h1,h2,h3,h4⟩:=hto k' e' he;obtain⟨g1,g2,g3⟩:=h.mem k' e0 h1;refine⟨?_,fun v hv=>⟨h4.one (fun v hv=>(g2 v hv).1) v hv,h4.ok (fun v hv=>(g2 v hv).2) v hv⟩,by rw[<-h2];exact g3⟩;rw[<-h2,<-h3,<-h4.map];exact g1
 .obtain ⟨a1,b1,c1,_⟩:=hto k1 e1 h1
  obtain⟨a2,b2,c2,_⟩:=hto k2 e2 h2;rw[<-c1,<-c2];exact h.nodup k1 k2 a1 a2 b1 b2 hne
 obtain⟨a2,b2,c2,_⟩:=hto k2 e2 h2;rw[<-c2];exact h.sepm k1 t k2 a2 h1 b2
theorem i5.regr{C:Cx}{nt:Nat}{l:List (Nat×AV)}{mem:List (Nat×Blk)}{k:Nat}{A:Option Addr}{n n' c kk e:Nat}{gr:List (Nat×Gr)}{a:Act}{w:World}(h:i5 C ⟨nt,l,[],mem,(k,⟨A,n,c,kk,e⟩)::gr⟩ a w)(hn:n=n'):i5 C ⟨nt,l,[],mem,(k,⟨A,n',c,kk,e⟩)::gr⟩ a w:=hn ▸ h
def putG(g:Nat->SpA)(p:Nat)(x:SpA)(h:Nat):Nat->SpA:=fun i=>if i<p then g i else if i=p then x else g (i-1+h)
theorem tS(A:Option Addr)(c:Nat){r r':RN}(h:r.abs=r'.abs):G3 (nL ⟨A,c,r⟩) (nL ⟨A,c,r'⟩):=by
 obtain⟨n,f,kd,nx,mrk⟩:=r;obtain⟨n',f',kd',nx',mrk'⟩:=r';simp only[RN.abs,Rec.mk.injEq]at h;obtain⟨rfl,h2,rfl,rfl⟩:=h;have hn:n=n':=by rw[<-j2 f n,h2,j2]
 subst hn;refine⟨zr,Sim.recell (fun t ht=>?_),zr,zr,zr,trivial⟩
 show itC (f t)=itC (f' t)
 rw[<-u6 f n t ht,h2,u6 f' n t ht]
theorem nG(r:Rec):r.rn.abs=r:=aQ r
def spY(A:Option Addr)(c:Nat)(g:Nat->SpA)(A1:Option Addr)(c1:Nat)(b:Nat):j8:=⟨b,fun j=>match j with|0=>A|1=>A1|j+2=>(g j).w.x.A,fun j=>match j with|0=>c|1=>c1|j+2=>(g j).w.x.c,fun _=>⟨#[]⟩⟩
def cY(y:j8)(g:Got):s9:=⟨g.code,g.ver,g.has,⟨y.A 1,y.c 1,g.r.rn⟩⟩
theorem EQ{A A1:Option Addr}{c c1 b:Nat}{g:Nat->SpA}{v:s9}{G:Got}(h:v.abs=G)(hA:v.x.A=A1)(hc:v.x.c=c1):G3 (V2 v) (V2 (cY (spY A c g A1 c1 b) G)):=by
 subst h;subst hA;subst hc;have hr:=tS v.x.A v.x.c (r:=v.x.r) (r':=v.x.r.abs.rn) (nG _).symm;exact⟨zr,zr,zr,hr.1,hr.2.1,hr.2.2.1,hr.2.2.2.1,hr.2.2.2.2.1,trivial⟩
def lS(y:j8)(R:List Rw)(i:Nat):D4:=⟨(R.getD i ge).lab,(R.getD i ge).ver,⟨y.A (i+2),y.c (i+2),(R.getD i ge).r.rn⟩⟩
theorem xz(y:j8)(R:List Rw):J8 (lS y R) R.length=R:=by
 apply List.ext_getElem
 .simp [V8]
 intro i h1 h2;simp only[V8,List.getElem_map,List.getElem_range,lS,D4.abs,nG];simp[List.getD,h2]
def rwY(A:Option Addr)(c:Nat)(f:Nat->D4)(b:Nat):j8:=⟨b,fun j=>match j with|0=>A|1=>none|j+2=>(f j).x.A,fun j=>match j with|0=>c|1=>0|j+2=>(f j).x.c,fun _=>⟨#[]⟩⟩
theorem DD{f:Nat->D4}{n:Nat}{R:List Rw}(h:J8 f n=R){i:Nat}(hi:i<n):(f i).abs=R.getD i ge:=by
 rw[<-h];simp[List.getD,oz D4.abs f hi]
theorem DC{A:Option Addr}{n c b:Nat}{f:Nat->D4}{R:List Rw}(h:J8 f n=R){gg:Option Nat}:Sim (.sl gg A n c 8 (fun i=>J2 (f i))) (cP A R.length c (lS (rwY A c f b) R)):=by
 have hn:n=R.length:=by rw[<-h,V7]
 refine Sim.rows hn fun i hi=>?_
 have e:lS (rwY A c f b) R i=⟨(R.getD i ge).lab,(R.getD i ge).ver,⟨(f i).x.A,(f i).x.c,(R.getD i ge).r.rn⟩⟩:=rfl;rw[e,<-DD h (show i<n by omega)];have hr:=tS (f i).x.A (f i).x.c (r:=(f i).x.r) (r':=(f i).x.r.abs.rn) (nG _).symm;exact⟨zr,zr,zr,hr.1,hr.2.1,hr.2.2.1,hr.2.2.2.1,hr.2.2.2.2.1,trivial⟩
theorem vG{m:Nat->Nat->Prop}{w:World}{g:Option Nat}{A:Option Addr}{n c k:Nat}{cells:Nat->List AV}(h:Ok m w (.sl g A n c k cells)){i:Nat}(hi:i<n):∀v∈cells i,Ok m w v:=by
 cases h with|sl _ _ _ _ _ _ h1 h2 h3 h4 h5 h6 h7=>exact h7 i hi
theorem zS{m:Nat->Nat->Prop}{w:World}{g:Option Nat}{A:Option Addr}{n c:Nat}{f:Nat->D4}(h:Ok m w (.sl g A n c 8 (fun i=>J2 (f i)))):∀i,i<n->(f i).x.r.n<=maxLen:=by
 intro i hi;have:=jE (vG h hi (.sl none (f i).x.A (f i).x.r.n (f i).x.c 2 (fun t=>itC ((f i).x.r.f t))) (by simp));omega
theorem xy(n:Nat)(f:Nat->Itm)(n2:Nat)(f2:Nat->Itm):ef n f n2 f2=decide (f5 f n=f5 f2 n2):=by
 by_cases h:f5 f n=f5 f2 n2
 .have hn:n=n2:=by rw[<-j2 f n,h,j2]
  rw[decide_eq_true h,jx hn];intro i hi;rw[<-u6 f n i hi,h,u6 f2 n2 i (by omega)]
 rw[decide_eq_false h]
 by_cases hn:n=n2
 .subst hn
  by_cases he:∀i,i<n->f i=f2 i
  .exfalso;apply h;unfold f5;exact List.map_congr_left fun t ht=>he t (List.mem_range.1 ht)
  obtain⟨i,hi⟩:=Classical.not_forall.1 he;obtain⟨hi,hne⟩:=Classical.not_imp.1 hi;exact rL hi hne
 unfold ef;rw[decide_eq_false hn];rfl
theorem xx(r r2:RN):eM r.kd r.n r.f r.nx r.mrk r2.kd r2.n r2.f r2.nx r2.mrk=decide (r.abs=r2.abs):=by
 unfold eM;rw[xy];unfold RN.abs;simp only[Rec.mk.injEq]
 by_cases h1:r.kd=r2.kd<;>by_cases h2:f5 r.f r.n=f5 r2.f r2.n<;>by_cases h3:r.nx=r2.nx<;>by_cases h4:r.mrk=r2.mrk<;>simp[h1,h2,h3,h4]
def HV(f:Nat->D4):Nat->Int
 |0=>0
 |i+1=>IntKind.i64.wrap (HV f i+((f i).x.r.n:Int))
def zi(f:Nat->D4)(n:Nat):Bool:=(List.range n).any fun i=>kQ (f i).x.r.n (f i).x.r.f
def tq(n:Nat)(f:Nat->D4):Bool:=decide (300<n)||zi f n||decide (3000<HV f n)
theorem va{f:Nat->D4}{n:Nat}(h:zi f n=false):∀i,i<n->kQ (f i).x.r.n (f i).x.r.f=false:=by
 intro i hi;unfold zi at h;rw[List.any_eq_false]at h
 simpa using h i (List.mem_range.2 hi)
theorem zg{f:Nat->D4}{n i:Nat}(hi:i<n)(h:kQ (f i).x.r.n (f i).x.r.f=true):zi f n=true:=List.any_eq_true.2 ⟨i,List.mem_range.2 hi,h⟩
theorem zh{f:Nat->D4}{n:Nat}(h:∀i,i<n->kQ (f i).x.r.n (f i).x.r.f=false):zi f n=false:=by
 unfold zi;rw[List.any_eq_false];intro i hi;simp[h i (List.mem_range.1 hi)]
theorem CA{n:Nat}{f:Nat->Itm}(h:kQ n f=false):n<=40:=by
 unfold kQ at h;simp only[Bool.or_eq_false_iff,decide_eq_false_iff_not]at h;omega
theorem xT{f:Nat->D4}{n i:Nat}{L:Shf}(hi:i<n):gE ((J8 f n).drop i) L=if(E0 (f i).lab L).isSome || !isL (f i).lab || !isR (f i).x.r.abs then none else gE ((J8 f n).drop (i+1)) (cm (f i).lab ⟨(f i).ver,true,(f i).x.r.abs⟩ L):=by
 have hl:i<(J8 f n).length:=by rw[V7];exact hi
 have e:(J8 f n).drop i=(f i).abs::(J8 f n).drop (i+1):=by
  rw[List.drop_eq_getElem_cons hl]
  congr 1
  simp[V8]
 rw[e];rfl
theorem Bi:laidOutB Tryz.prog=true:=by kernel_rfl
theorem vZ:(24:TypeId)<Tryz.prog.types.size:=of_decide_eq_true (by kernel_rfl)
theorem Bh:(match Tryz.prog.underlying 24 with|some (.array _ _)|some (.struct _)=>true|_=>false)=true:=by kernel_rfl
theorem EF:WideMaps.KeyLaw Tryz.prog 24:=deep_law_laid Bi (m:=2) (by omega) vZ (by kernel_rfl) Bh
theorem dK:Maps.Keyed Tryz.prog 24:=Maps.Keyed.of_law EF
theorem eX:Tryz.prog.underlying 93=some (.map 24 97):=by kernel_rfl
def u0(l:Lab):Prop:=(Lit.int .i64 l.len).wf=true/\(Lit.int .u64 l.bits).wf=true
def K5(l:Lab):Lit:=.string (keyBytes [.int .i64 l.len,.int .u64 l.bits])
theorem P6{l:Lab}(h:u0 l):Go.keyOf Tryz.prog 24 (i6 l).den=some (K5 l):=by
 obtain⟨h1,h2⟩:=h;have hu:Tryz.prog.underlying 24=some (.struct _):=Tryz.underlying24;have hi:Tryz.prog.underlying 3=some (.int .i64):=by kernel_rfl
 have hb:Tryz.prog.underlying 22=some (.int .u64):=by kernel_rfl
 have hk:Tryz.prog.keyType 24=true:=by kernel_rfl
 have hc:Tryz.prog.cellsOf 24=2:=by kernel_rfl
 have hci:Tryz.prog.cellsOf 3=1:=by kernel_rfl
 have hcb:Tryz.prog.cellsOf 22=1:=by kernel_rfl
 obtain⟨m,hm⟩:=Nat.exists_eq_succ_of_ne_zero (n:=Tryz.prog.types.size) (by have:=vZ;intro h;rw[h]at this;exact absurd this (Nat.not_lt_zero _));simp[Go.keyOf,hu,hk,Value.formed,hc,i6,AV.den,AV.denL,hm,Program.keyLits,Value.cells,hci,hcb,hi,hb,h1,h2,K5]
theorem fe{l l':Lab}(h:u0 l)(h':u0 l')(e:K5 l=K5 l'):l=l':=by
 have:=dK.inj (P6 h) (e ▸ P6 h');simp[i6,AV.den,AV.denL]at this;exact wc this.1 this.2
theorem so{P:Program}{K:TypeId}{w:World}{b n n':Nat}{D D':DataW Value}(h:Y0 P K w b n D)(h':Y0 P K w b n' D'):D=D':=by
 obtain⟨es,cl,hb,F,hs,hD⟩:=h;obtain⟨es',cl',hb',F',hs',hD'⟩:=h';rw[hb]at hb';injection hb' with hb';injection hb' with e1 e2
 subst e1;rw[hD,hD']
theorem ot{P:Program}{K:TypeId}{w:World}{b n:Nat}{D:DataW Value}(h:Y0 P K w b n D):Y0 P K w b (Maps.size D) D:=by
 obtain⟨es,cl,hb,F,hs,hD⟩:=h;refine⟨es,cl,hb,F,?_,hD⟩;rw[hD];simp[Maps.size,length_sorted]
abbrev Adr:=Lab->Option Addr×Nat
abbrev elA(E:Adr)(l:Lab)(x:Spo):SpA:=⟨⟨l,x.ver,⟨(E l).1,(E l).2,x.r.rn⟩⟩,x.has⟩
structure ShD(D:DataW Value)(E:Adr)(b:Nat)(L:Shf)(m:Nat->Nat->Prop)(w:World):Prop where
 map:Y0 Tryz.prog 24 w b L.length D
 ris:kC L
 labs:∀p∈L,u0 p.1
 has:∀kl,Maps.has D kl=true ↔ ∃p∈L,K5 p.1=kl
 size:Maps.size D=L.length
 at_:∀p∈L,∀zd,D.atKey (K5 p.1) zd = .held (AV.agg (elC (elA E p.1 p.2))).den
 ok:∀p∈L,Ok m w (.agg (elC (elA E p.1 p.2)))
theorem ShD.keep{D:DataW Value}{E:Adr}{b:Nat}{L:Shf}{m m':Nat->Nat->Prop}{w w':World}(h:ShD D E b L m w)(k:cb w m w' m'):ShD D E b L m' w':=
 ⟨ou k h.map,h.ris,h.labs,h.has,h.size,h.at_,fun p hp=>k.ok (h.ok p hp)⟩
def shD(D:DataW Value)(E:Adr)(b:Nat)(L:Shf):Kn:=⟨ShD D E b L,fun k h=>h.keep k⟩
def shK(b:Nat)(L:Shf):Kn:=⟨fun m w=>∃D E,ShD D E b L m w,fun k ⟨D,E,h⟩=>⟨D,E,h.keep k⟩⟩
def shF(N b:Nat)(L:Shf):Kn:=⟨fun m w=>N<=b/\(shK b L).p m w,fun k h=>⟨h.1,(shK b L).st k h.2⟩⟩
theorem db{l:Lab}{x:Spo}:∀{L:Shf},E0 l L=some x->(l,x)∈L
 |p::L,h=>by
  unfold E0 at h
  split at h
  .rename_i he;injection h with h;subst h;subst he;exact List.mem_cons_self ..
  exact List.mem_cons_of_mem _ (db h)
theorem iE{p:Lab×Spo}:∀{L:Shf},kC L->p∈L->E0 p.1 L=some p.2
 |q::L,h,hp=>by
  have h':=List.pairwise_cons.1 h;unfold E0
  rcases List.mem_cons.1 hp with rfl|hp
  .rw [if_pos rfl]
  rw[if_neg (iM (h'.1 p hp))];exact iE h'.2 hp
def tF:Value:=.agg #[.int .u64 0,.bool false,.int .i64 0,.slice none 0 0,.int .i64 0,.int .u64 0,.int .u64 0]
theorem tE(w:World):(zeroValue 97).run Tryz.prog w = .ok tF w:=by kernel_rfl
section
variable {D:DataW Value} {E:Adr} {b:Nat} {L:Shf} {m:Nat->Nat->Prop} {w:World} {l:Lab}
theorem ShD.hasL(h:ShD D E b L m w)(hl:u0 l):Maps.has D (K5 l)=(E0 l L).isSome:=by
 cases hf:E0 l L with
 |some x=>exact(h.has _).2 ⟨(l,x),db hf,rfl⟩
 |none=>
  rw[Option.isSome_none,Bool.eq_false_iff];intro hh;obtain⟨p,hp,he⟩:=(h.has _).1 hh;have:p.1=l:=fe (h.labs p hp) hl he;rw[<-this,iE h.ris hp]at hf
  cases hf
def adr(E:Adr)(L:Shf):Adr:=fun l=>if(E0 l L).isSome then E l else(none,0)
theorem BK(E:Adr)(hn:E0 l L=none):AV.den (.agg (elC (elA (adr E L) l (D7 L l))))=tF/\∀m w,Ok m w (.agg (elC (elA (adr E L) l (D7 L l)))):=by
 have e1:D7 L l=vf:=by unfold D7;rw[hn];rfl
 have e2:adr E L l=(none,0):=by unfold adr;rw[hn];rfl
 unfold elA;rw[e1,e2];refine⟨rfl,fun m w=>.agg _ (fun v hv=>?_) fun v hv=>?_⟩
 .simp only[elC,List.mem_cons,List.not_mem_nil,or_false]at hv
  rcases hv with rfl|rfl|rfl|rfl|rfl|rfl|rfl<;>rfl
 simp only[elC,List.mem_cons,List.not_mem_nil,or_false]at hv
 rcases hv with rfl|rfl|rfl|rfl|rfl|rfl|rfl
 .exact .int _ _
 .exact .bool _
 .exact .int _ _
 .exact .sl _ _ _ _ _ _ (Nat.le_refl _) (Nat.zero_le _) (fun i hi=>absurd hi (Nat.not_lt_zero _)) (fun i hi=>absurd hi (Nat.not_lt_zero _)) (fun i hi=>absurd hi (Nat.not_lt_zero _)) (fun i hi=>absurd hi (Nat.not_lt_zero _)) (fun i hi=>absurd hi (Nat.not_lt_zero _))
 .exact .int _ _
 .exact .int _ _
 exact .int _ _
theorem ShD.look(h:ShD D E b L m w)(hl:u0 l):D.atKey (K5 l) (.held tF) = .held (AV.agg (elC (elA (adr E L) l (D7 L l)))).den/\Ok m w (.agg (elC (elA (adr E L) l (D7 L l)))):=by
 cases hf:E0 l L with
 |some x=>
  have hm:=db hf;have e1:D7 L l=x:=by unfold D7;rw[hf];rfl
  have e2:adr E L l=E l:=by unfold adr;rw[hf];rfl
  have e3:elA (adr E L) l (D7 L l)=elA E l x:=by unfold elA;rw[e1,e2]
  rw[e3];exact⟨h.at_ _ hm _,h.ok _ hm⟩
 |none=>
  obtain⟨e1,e2⟩:=BK (L:=L) E hf;refine⟨?_,e2 _ _⟩;rw[e1];exact Maps.atKey_of_not_has (by rw[h.hasL hl,hf];rfl) _
theorem ShD.put(h:ShD D E b L m w)(hl:u0 l){w':World}(k:ae (some b) w m w' m)(v:Int)(hs:Bool)(x:RA)(hv:Ok m w (.agg (elC ⟨⟨l,v,x⟩,hs⟩)))(hM:Y0 Tryz.prog 24 w' b (L.length+1) (D.put (K5 l) (.held (AV.agg (elC ⟨⟨l,v,x⟩,hs⟩)).den))) :
  ∃D' E',ShD D' E' b (cm l ⟨v,hs,x.r.abs⟩ L) m w':=by
 have hsim:Sim (.agg (elC ⟨⟨l,v,x⟩,hs⟩)) (.agg (elC ⟨⟨l,v,⟨x.A,x.c,x.r.abs.rn⟩⟩,hs⟩)):=by
  have hr:=tS x.A x.c (r:=x.r) (r':=x.r.abs.rn) (nG _).symm;exact Sim.agg ⟨zr,zr,hr.1,hr.2.1,hr.2.2.1,hr.2.2.2.1,hr.2.2.2.2.1,trivial⟩
 have hkey:WideAt.IsKeyLit (K5 l):=dK.key (P6 hl);have hmp:Maps.IsMap D:=(h.map.tidy dK).isMap;have hsz:=ot hM;have hlen:Maps.size (D.put (K5 l) (.held (AV.agg (elC ⟨⟨l,v,x⟩,hs⟩)).den))=(cm l ⟨v,hs,x.r.abs⟩ L).length:=by
  rw[Maps.size_put (h.map.tidy dK),h.hasL hl,iA l _ h.ris];rw[h.size]
 have hris:=fC (l:=l) (x:=⟨v,hs,x.r.abs⟩) h.ris;have hin:∀p,p∈cm l ⟨v,hs,x.r.abs⟩ L↔p=(l,⟨v,hs,x.r.abs⟩) \/ (p∈L/\p.1≠l):=by
  intro p
  constructor
  .intro hp
   have h1:=iE hris hp;rw[iZ]at h1
   by_cases he:l=p.1
   .rw [if_pos he]at h1
    injection h1 with h1
    obtain⟨p1,p2⟩:=p;simp only at he h1;subst he;subst h1;exact .inl rfl
   rw[if_neg he]at h1;exact .inr ⟨db h1,fun e=>he e.symm⟩
  rintro(rfl|⟨hp,hne⟩)
  .exact db (by rw[iZ,if_pos rfl])
  exact db (x:=p.2) (l:=p.1) (by rw[iZ,if_neg (fun e=>hne e.symm)];exact iE h.ris hp)
 have hE:∀p:Lab×Spo,p.1≠l->elA (fun k=>if k=l then(x.A,x.c)else E k) p.1 p.2=elA E p.1 p.2:=fun p hne=>by unfold elA;simp only[if_neg hne]
 have hE2:elA (fun k=>if k=l then(x.A,x.c)else E k) l ⟨v,hs,x.r.abs⟩=⟨⟨l,v,⟨x.A,x.c,x.r.abs.rn⟩⟩,hs⟩:=by unfold elA;simp only[if_true]
 refine⟨_,fun k=>if k=l then(x.A,x.c)else E k,?_,hris,fun p hp=>?_,fun kl=>?_,hlen,fun p hp zd=>?_,fun p hp=>?_⟩
 .rw [hlen]at hsz;exact hsz
 .rcases (hin p).1 hp with rfl|⟨hp,_⟩
  .exact hl
  exact h.labs p hp
 .by_cases he:kl=K5 l
  .subst he
   rw[Maps.has_put_same hmp hkey];exact⟨fun _=>⟨_,(hin _).2 (.inl rfl),rfl⟩,fun _=>rfl⟩
  rw[Maps.has_put_other he,h.has]
  constructor
  .rintro ⟨p,hp,hk⟩
   exact⟨p,(hin p).2 (.inr ⟨hp,fun e=>he (by rw[<-hk,e])⟩),hk⟩
  rintro⟨p,hp,hk⟩
  rcases(hin p).1 hp with rfl|⟨hp,_⟩
  .exact absurd hk.symm he
  exact⟨p,hp,hk⟩
 .rcases (hin p).1 hp with rfl|⟨hp,hne⟩
  .rw [Maps.atKey_put_same hmp hkey,hE2,hsim.1]
  rw[Maps.atKey_put_other (fun e=>hne (fe (h.labs p hp) hl e)),hE p hne];exact h.at_ p hp zd
 rcases(hin p).1 hp with rfl|⟨hp,hne⟩
 .rw [hE2];exact k.ok (hsim.2.2 _ _ hv)
 rw[hE p hne];exact k.ok (h.ok p hp)
theorem oH{m0:Nat->Nat->Prop}{w0:World}{S:Nat->Prop}{ds:List Deferred}{D:DataW Value}{E:Adr}{b:Nat}{L:Shf}{l:Lab}(hl:u0 l){el:SpA}(hel:el=elA (adr E L) l (D7 L l)){hh:Bool}(hhh:hh=(E0 l L).isSome){all:List Oper}{j t1 t2:Nat}(ho:∀o,all[j]? = some o->o.op = .lookup 93 (.tmp t1) (.tmp t2) true) :
  cM ⟨m0,w0,S,ds,shD D E b L⟩ Tryz.prog all (some (j,[.tmp t1,.tmp t2],[.raw (.map (some b)),i6 l],.tup [.agg (elC el),.bool (.v hh)])):=by
 intro i xs args v he o hio s a w Z hv;simp only[Option.some.injEq,Prod.mk.injEq]at he;obtain⟨rfl,rfl,rfl,rfl⟩:=he;have hop:=ho o hio;simp only[Y3]at hv
 split at hv
 .split at hv
  .simp only[Option.map_some,Option.some.injEq,List.cons.injEq,and_true]at hv
   obtain⟨h1,h2⟩:=hv;have hSh:ShD D E b L (s.m ⟨m0,w0,S,ds,shD D E b L⟩) w:=Z.kept;obtain⟨g1,g2⟩:=hSh.look hl;subst hel;have hr:=mA hop Z h1 h2 rfl dK eX (tE w) hSh.map (P6 hl) g1;refine⟨?_,.tup _ fun u hu=>?_⟩
   .rw [hr,hSh.hasL hl,<-hhh]
    simp[AV.den,AV.denL,BE.den]
   simp only[List.mem_cons,List.not_mem_nil,or_false]at hu
   rcases hu with rfl|rfl
   .exact g2
   exact .bool _
  simp at hv
 simp at hv
theorem pO{m:Nat->Nat->Prop}{w w':World}{b:Nat}{L:Shf}{l:Lab}{D:DataW Value}{n:Nat}(h0:Y0 Tryz.prog 24 w b n D)(hl:u0 l)(h:(shK b L).p m w)(k:ae (some b) w m w' m){v:AV}{x:SpA}(hs:Sim v (.agg (elC x)))(hv:Ok m w v)(hM:Y0 Tryz.prog 24 w' b (L.length+1) (D.put (K5 l) (.held v.den))):(shK b (cm l ⟨x.w.ver,x.has,x.w.x.r.abs⟩ L)).p m w':=by
 obtain⟨D1,E1,h1⟩:=h;have:=so h0 h1.map;subst this;rw[hs.1]at hM;exact h1.put hl k x.w.ver x.has x.w.x (hs.2.2 _ _ hv) hM
theorem J4{m:Nat->Nat->Prop}{w:World}{b:Nat}{L:Shf}(h:(shK b L).p m w):∃es cl,w.heap[b]? = some (.map es cl):=by
 obtain⟨D,E,h⟩:=h;obtain⟨es,cl,hb,_⟩:=h.map;exact⟨es,cl,hb⟩
def W0(L:Shf)(l:Lab)(v xv:Int)(kn:Bool)(z:Spo):Did:=
 if v≠xv then⟨L,false,⟨8,xv,false,k6⟩,0⟩
 else if kn=false/\2000<=L.length then⟨L,false,L6,12⟩
 else⟨cm l z L,true,⟨0,z.ver,false,k6⟩,0⟩
section
variable {P:Program} {Q:Exit->Act->World->Prop} {ops:Array Oper}
theorem Dl{a:Act}{w:World}{rest:List Oper}{o:Oper}(hw:Region.wanted o (yielded ops a.tmps)=true)(h:wpList P ops Q ({ o with guard:=none }::rest) a w):wpList P ops Q (o::rest) a w:=by
 unfold wpList at h ⊢;rw[if_pos hw];have:Region.wanted { o with guard:=none } (yielded ops a.tmps)=true:=by simp[Region.wanted]
 rw[if_pos this]at h
 cases o
 exact h
theorem xl{C:Cx}{s:St}{a:Act}{w:World}(Z:i5 C s a w){o:Oper}{j g:Nat}(hg:o.guard=some (j,true))(hd:(ops[j]?).bind (·.dst)=some g)(hv:look s.tmps g = .bool .tt):Region.wanted o (yielded ops a.tmps)=true:=by
 have h:=(Z.slot g (by rw[hv];rfl)).1;rw[hv]at h;simp only[Region.wanted,hg,yielded,hd,Option.bind_some,h];rfl
theorem cH.re{bo:Option Nat}{m:Nat->Nat->Prop}{w w':World}{pre pre':List (Nat×Blk)}{sets sets':List (Nat×List AV)}{news news':List (Nat×Blk)}(h:cH bo m w w' pre sets news)(hp:pre'.map (·.2)=pre.map (·.2))(hs:sets'.map (·.2)=sets.map (·.2))(hk:sets'.map (·.1)=pre'.map (·.1))(hn:news'.map (·.2)=news.map (·.2)):cH bo m w w' pre' sets' news':=by
 have hm:mN m news'=mN m news:=by funext b o;simp only[mN,dW hn]
 have hu:(upd pre' sets'++news').map (·.2)=(upd pre sets++news).map (·.2):=by rw[List.map_append,List.map_append,pD hp hs,hn]
 refine⟨hk,bu (p:=fun b=>w'.heap[b.at_]? = some (.cells (b.cells.map AV.den).toArray b.ty (0,0))) hu h.heap,bu (p:=fun b=>∀v∈b.cells,v.one=true/\Ok (mN m news') w' v) hu (hm ▸ h.ok),bu (p:=fun b=>w.heap.size<=b.at_) hn h.fresh,mg hn h.dist,h.chg.mono fun k hk=>hk.imp (dW hp k).2 id⟩
theorem P9.re{f:FuncId}{args args':List AV}{pre pre':List (Nat×Blk)}{bo:Option Nat}{I:Kn}{res res':j8->CR}{J:Nat->j8->Kn}(h:P9 P f args pre bo I res J)(ha:G3 args' args)(hp:pre'.map (·.2)=pre.map (·.2))
  (hr:∀x,(res' x).sets.map (·.2)=(res x).sets.map (·.2)/\(res' x).sets.map (·.1)=pre'.map (·.1)/\Sim (res x).v (res' x).v/\(res' x).news.map (·.2)=(res x).news.map (·.2)):P9 P f args' pre' bo I res' J:=by
 intro m w h1 h2 h3 hI;rw[ha.map];refine(h m w h1 (ha.ok h2) (h3.re hp.symm) hI).mono ?_
 rintro e w' ⟨x,rfl,hok,hl,hb,hJ⟩
 obtain⟨r1,r2,r3,r4⟩:=hr x;have hm:mN m (res' x).news=mN m (res x).news:=by funext b o;simp only[mN,dW r4]
 exact⟨x,by rw[r3.1],by rw[hm];exact r3.2.2 _ _ hok,hl.re hp r1 r2 r4,hb,by rw[hm];exact hJ⟩
theorem P9.args{f:FuncId}{args args':List AV}{pre:List (Nat×Blk)}{bo:Option Nat}{I:Kn}{res:j8->CR}{J:Nat->j8->Kn}(h:P9 P f args' pre bo I res J)(hs:G3 args args'):P9 P f args pre bo I res J:=by
 intro m w hm ha hp hI;rw[hs.map];exact h m w hm (hs.ok ha) hp hI
end
theorem ShD.empty{m:Nat->Nat->Prop}{w:World}{b:Nat}(h:Y0 Tryz.prog 24 w b 0 (.map []))(E:Adr):ShD (.map []) E b [] m w:=
 ⟨h,.nil,fun p hp=>(by cases hp),fun kl=>⟨fun h=>(by cases h),fun⟨p,hp,_⟩=>(by cases hp)⟩,rfl,fun p hp=>(by cases hp),fun p hp=>(by cases hp)⟩
end
end Go.Proofs.YtmbkanpapkhnaaaGreat.Sym
namespace Go.Proofs.YtmbkanpapkhnaaaGreat
open Go.RowKit Sym
theorem bW(l:List Itm):f5 (itF l) l.length=l:=by
 apply List.ext_getElem
 .simp [f5]
 intro i h1 h2;simp[f5,itF,List.getD,h2]
def yn(s:ByteArray):Rec:=match Ke (unB s)with
 | .error _=>k6
 | .ok r=>r
def z6(l:Lab)(key:Int):Bool:=isL l&&decide ((F5 key.toNat l.len.toNat:Int)=l.bits)
def u7(l:Lab)(b:Int):Lab:=⟨l.len+1,if b=1 then l.bits+(2^(63-l.len.toNat):Nat)else l.bits⟩
def co(v:Int)(n:Nat):List UInt8:=(K9 64 v.toNat).take n
theorem bY(v:Int){n:Nat}(hn:n<=64):(co v n).length=n:=by unfold co;rw[List.length_take,Y9];omega
theorem nm{v:Int}{n:Nat}:∀c∈co v n,c=48 \/ c=49:=fun c hc=>iK c (List.mem_of_mem_take hc)
theorem Y5{v:Int}(h:U64 v):v.toNat<2^64:=by have:=h.1;have:=h.2;omega
theorem AR{n a b:Nat}(ha:a<2^n)(hb:b<2^n)(h:K9 n a=K9 n b):a=b:=by
 have:=congrArg Y6 h;rw[iB,iB,Nat.mod_eq_of_lt ha,Nat.mod_eq_of_lt hb]at this;exact this
theorem nj{v n:Nat}(hv:v<2^64)(hn:n<=64):v / 2^(64-n)<2^n:=by
 rw[Nat.div_lt_iff_lt_mul (Nat.pow_pos (by decide)),<-Nat.pow_add,show n+(64-n)=64 by omega];exact hv
theorem r8{l:Lab}(h:isL l=true):0<=l.len/\l.len<=64/\(F5 l.bits.toNat l.len.toNat:Int)=l.bits:=by
 unfold isL at h;simp only[Bool.and_eq_true,decide_eq_true_eq]at h;exact⟨h.1.1,h.1.2,h.2⟩
theorem Ch{l:Lab}(hl:isL l=true)(hb:U64 l.bits){key:Int}(hk:U64 key):decide (co l.bits l.len.toNat=co key l.len.toNat)=z6 l key:=by
 obtain⟨h0,h1,h2⟩:=r8 hl;have hn:l.len.toNat<=64:=by omega
 unfold z6;rw[hl,Bool.true_and];rw[Bool.eq_iff_iff,decide_eq_true_eq,decide_eq_true_eq];unfold co;rw[iJ _ _ hn,iJ _ _ hn]
 constructor
 .intro h
  have:=AR (nj (Y5 hb) hn) (nj (Y5 hk) hn) h;rw[<-h2];unfold F5;rw[this]
 intro h;have e:F5 key.toNat l.len.toNat=l.bits.toNat:=by omega
 unfold F5 at e;rw[<-e,Nat.mul_div_cancel _ (Nat.pow_pos (by decide))]
theorem bV{n:Nat}(h:n<64):2^(64-n)=2*2^(63-n):=by
 have h9:64-n=(63-n)+1:=by omega
 rw[h9,Nat.pow_succ,Nat.mul_comm]
theorem lk{l:Lab}(hl:isL l=true)(hb:U64 l.bits)(h64:l.len≠64):∃q,l.bits=((q*(2*2^(63-l.len.toNat)):Nat):Int)/\q*(2*2^(63-l.len.toNat))+2*2^(63-l.len.toNat)<=2^64:=by
 obtain⟨h0,h1,h2⟩:=r8 hl;have hn:l.len.toNat<64:=by omega
 refine⟨l.bits.toNat / 2^(64-l.len.toNat),?_,?_⟩
 .rw [<-h2]
  unfold F5;rw[bV hn]
  congr 1
  have:(((l.bits.toNat / (2*2^(63-l.len.toNat))*(2*2^(63-l.len.toNat)):Nat):Int).toNat)=l.bits.toNat / (2*2^(63-l.len.toNat))*(2*2^(63-l.len.toNat)):=Int.toNat_natCast _;have hpos:0<2*2^(63-l.len.toNat):=Nat.mul_pos (by decide) (Nat.pow_pos (by decide));rw[this,Nat.mul_div_cancel _ hpos]
 have h3:=nj (Y5 hb) (show l.len.toNat<=64 by omega)
 rw[<-bV hn];have:=Nat.mul_le_mul_right (2^(64-l.len.toNat)) (Nat.succ_le_of_lt h3);rw[<-Nat.pow_add,show l.len.toNat+(64-l.len.toNat)=64 by omega,Nat.succ_mul]at this;exact this
theorem dU{l:Lab}(hl:isL l=true)(hb:U64 l.bits)(h64:l.len≠64)(b:Int):U64 (u7 l b).bits:=by
 obtain⟨q,h1,h2⟩:=lk hl hb h64;unfold u7;simp only
 split
 .rw [h1];constructor
  .omega
  have:0<2^(63-l.len.toNat):=Nat.pow_pos (by decide);omega
 exact hb
theorem bG{l:Lab}(hl:isL l=true)(hb:U64 l.bits)(h64:l.len≠64)(b:Int):isL (u7 l b)=true:=by
 obtain⟨q,h1,h2⟩:=lk hl hb h64;obtain⟨h3,h4,h5⟩:=r8 hl;have hlen:(l.len+1).toNat=l.len.toNat+1:=by omega
 have hpow:64-(l.len.toNat+1)=63-l.len.toNat:=by omega
 unfold isL u7;simp only[Bool.and_eq_true,decide_eq_true_eq];refine⟨⟨by omega,by omega⟩,?_⟩;unfold F5;rw[hlen,hpow];have hp:0<2^(63-l.len.toNat):=Nat.pow_pos (by decide)
 split
 .have e:(l.bits+((2^(63-l.len.toNat):Nat):Int)).toNat=(q*2+1)*2^(63-l.len.toNat):=by
   rw[h1,Nat.add_mul,Nat.one_mul,Nat.mul_assoc];omega
  rw[e,Nat.mul_div_cancel _ hp,h1,Nat.add_mul,Nat.one_mul,Nat.mul_assoc];omega
 have e:l.bits.toNat=(q*2)*2^(63-l.len.toNat):=by rw[h1,Nat.mul_assoc];omega
 rw[e,Nat.mul_div_cancel _ hp,h1,Nat.mul_assoc]
theorem yT{l:Lab}(hl:isL l=true)(hb:U64 l.bits)(h64:l.len≠64){key:Int}(hk:U64 key)(hc:z6 l key=true) :
  z6 (u7 l 0) key=decide (key<(u7 l 1).bits)/\z6 (u7 l 1) key=decide ((u7 l 1).bits<=key):=by
 obtain⟨q,h1,h2⟩:=lk hl hb h64;obtain⟨h3,h4,h5⟩:=r8 hl;have hlen:(l.len+1).toNat=l.len.toNat+1:=by omega
 have hpow:64-(l.len.toNat+1)=63-l.len.toNat:=by omega
 have hn:l.len.toNat<64:=by omega
 obtain⟨M,hM⟩:=eqv (2^(63-l.len.toNat));have hp:0<M:=by rw[hM];exact Nat.pow_pos (by decide)
 have hh:(F5 key.toNat l.len.toNat:Int)=l.bits:=by
  unfold z6 at hc;simp only[Bool.and_eq_true,decide_eq_true_eq]at hc;exact hc.2
 rw[<-hM]at h1;have hq:key.toNat / (2*M)=q:=by
  unfold F5 at hh;rw[bV hn,<-hM,h1]at hh;have:key.toNat / (2*M)*(2*M)=q*(2*M):=by omega
  exact Nat.eq_of_mul_eq_mul_right (by omega) this
 have hkey:key.toNat=q*(2*M)+key.toNat % (2*M):=by
  have:=Nat.div_add_mod key.toNat (2*M);rw[hq,Nat.mul_comm]at this;omega
 have hr:=Nat.mod_lt key.toNat (show 0<2*M by omega)
 have hdiv:key.toNat / M=q*2+key.toNat % (2*M) / M:=by
  conv=>lhs;rw[hkey]
  rw[<-Nat.mul_assoc,Nat.mul_comm,Nat.mul_add_div hp]
 have hk0:=hk.1;unfold z6;rw[bG hl hb h64 0,bG hl hb h64 1,Bool.true_and,Bool.true_and];unfold u7 F5;simp only[hlen,hpow,<-hM,if_true,show ¬((0:Int)=1)by decide,if_false,hdiv,h1]
 by_cases hlt:key.toNat % (2*M)<M
 .rw [Nat.div_eq_of_lt hlt,Nat.add_zero,Nat.mul_assoc]
  constructor
  .rw [decide_eq_true rfl,eq_comm,decide_eq_true_eq];omega
  rw[Bool.eq_iff_iff,decide_eq_true_eq,decide_eq_true_eq];omega
 have h9:key.toNat % (2*M) / M=1:=by
  have h10:=Nat.div_lt_of_lt_mul (m:=key.toNat % (2*M)) (n:=M) (k:=2) (by omega);have h11:=(Nat.le_div_iff_mul_le hp (x:=1) (y:=key.toNat % (2*M))).2 (by omega);omega
 rw[h9,Nat.add_mul,Nat.one_mul,Nat.mul_assoc]
 constructor
 .rw [Bool.eq_iff_iff,decide_eq_true_eq,decide_eq_true_eq];omega
 rw[Bool.eq_iff_iff,decide_eq_true_eq,decide_eq_true_eq];omega
theorem nu{l:Lab}(hl:isL l=true)(hb:U64 l.bits)(h64:l.len≠64)(b:Int)(hb01:b=0 \/ b=1) :
  Y6 (co l.bits l.len.toNat ++ [if b=1 then 49 else 48]++List.replicate (64-(l.len.toNat+1)) 48)=(u7 l b).bits.toNat:=by
 obtain⟨h3,h4,h5⟩:=r8 hl;have hn:l.len.toNat<64:=by omega
 have hh:=ld (Y5 hb) (show l.len.toNat<=64 by omega)
 rw[Q6,gA,List.length_replicate,Nat.add_zero,bV hn]at hh;have hpow:64-(l.len.toNat+1)=63-l.len.toNat:=by omega
 have h0:=hb.1;rw[List.append_assoc,List.singleton_append,Q6,jH,gA,List.length_cons,List.length_replicate,hpow,Nat.pow_succ,Nat.mul_comm (2^(63-l.len.toNat)) 2];unfold co;rw[hh];unfold u7;clear hh
 generalize F5 l.bits.toNat l.len.toNat=H at h5 ⊢
 generalize 2^(63-l.len.toNat)=M
 rcases hb01 with rfl|rfl
 .simp only[show ¬((0:Int)=1)by decide,if_false]
  have:((48:UInt8).toNat-48)=0:=by decide
  rw[this];omega
 simp only[if_true];have:((49:UInt8).toNat-48)=1:=by decide
 rw[this,Nat.one_mul];omega
def G8(l:Lab)(its:List Itm):List Itm:=its.filter fun x=>z6 l x.key
def K2(kd:Int)(n:Nat)(f:Nat->Itm)(nx:Lab)(mk:Int)(l:Lab):Rec×Rec×Int:=
 if(R6 kd n f nx mk&&isL l&&decide ((G8 l (f5 f n)).length=n))=false then(k6,k6,1)
 else if kd≠1/\kd≠3 then(k6,k6,13)else if l.len=64 then(k6,k6,5)
 else(⟨1,G8 (u7 l 0) (f5 f n),u7 l 1,0⟩,⟨1,G8 (u7 l 1) (f5 f n),nx,0⟩,0)
theorem FV{l:Lab}{its:List Itm}:(G8 l its).length=its.length ↔ ∀x∈its,z6 l x.key=true:=by
 unfold G8;exact List.length_filter_eq_length_iff
def ovl(n:Nat)(f:Nat->Itm)(n2:Nat)(f2:Nat->Itm):Bool:=decide (0<n)&&(decide (0<n2)&&decide ((f2 0).key<=(f (n-1)).key))
def cg(kd:Int)(n:Nat)(f:Nat->Itm)(nx:Lab)(mk:Int)(kd2:Int)(n2:Nat)(f2:Nat->Itm)(nx2:Lab)(mk2:Int):Rec×Int:=
 if(R6 kd n f nx mk&&R6 kd2 n2 f2 nx2 mk2)=false then(k6,1)else if ovl n f n2 f2=true then(k6,1)
 else if ¬(kd=1 \/ kd=5) \/ ¬(kd2=1 \/ kd2=5)then(k6,13)else if 16<n+n2 then(k6,12)else(⟨1,f5 f n++f5 f2 n2,nx2,0⟩,0)
theorem bB{kd:Int}{n:Nat}{f:Nat->Itm}{nx:Lab}{mk:Int}(h:R6 kd n f nx mk=true):1<=kd/\kd<=5/\n<=16/\(nx=F1 \/ isL nx=true)/\okF f n=true:=by
 rw[iO]at h;simp only[Bool.and_eq_true,Bool.not_eq_true',Bool.or_eq_false_iff,decide_eq_false_iff_not]at h;obtain⟨⟨⟨⟨⟨h1,h2⟩,h3⟩,h4⟩,_⟩,h5⟩:=h;refine⟨by omega,by omega,by omega,?_,h5⟩
 by_cases hd:nx=F1
 .exact .inl hd
 right
 cases hl:isL nx with
 |true=>rfl
 |false=>simp[hd,hl]at h4
def R4(l:Lab):Int:=if isL l=false then 1 else if l.len=0 then 7 else 0
def jB(l:Lab):Lab:=⟨l.len-1,(F5 l.bits.toNat (l.len.toNat-1):Nat)⟩
def Q5(l:Lab):Lab:=if R4 l=0 then jB l else⟨0,0⟩
theorem yl(v n:Nat):F5 v n<=v:=Nat.div_mul_le_self _ _
theorem wo{v:Int}(hv:U64 v)(n:Nat):U64 ((F5 v.toNat n:Nat):Int):=by
 have:=yl v.toNat n;have h1:=hv.1;have h2:=hv.2;exact⟨by omega,by omega⟩
theorem LQ{l:Lab}(hb:U64 l.bits):U64 (jB l).bits:=wo hb _
theorem mJ{v n:Nat}:F5 (F5 v n) n=F5 v n:=by
 unfold F5;rw[Nat.mul_div_cancel _ (Nat.pow_pos (by decide))]
theorem Ee{l:Lab}(hl:isL l=true)(hb:U64 l.bits)(h0:l.len≠0):isL (jB l)=true:=by
 obtain⟨h1,h2,_⟩:=r8 hl;unfold isL jB;simp only[Bool.and_eq_true,decide_eq_true_eq];refine⟨⟨by omega,by omega⟩,?_⟩;rw[show(l.len-1).toNat=l.len.toNat-1 by omega,Int.toNat_natCast,mJ]
theorem mn{n v k:Nat}(hv:v<2^n)(hm:v % 2^k=0):v &&& (2^n-1-2^k)=v / 2^(k+1)*2^(k+1):=by
 apply Nat.eq_of_testBit_eq;intro i;rw[Nat.testBit_and,Nat.testBit_mul_two_pow,Nat.testBit_div_two_pow];have hvk:∀i,i<k->v.testBit i=false:=by
  intro i hi;obtain⟨q,hq⟩:=Nat.dvd_of_mod_eq_zero hm;rw[hq,Nat.mul_comm,Nat.testBit_mul_two_pow];simp[show ¬k<=i by omega]
 by_cases h1:i<k
 .simp [hvk i h1,show ¬(k+1<=i)by omega]
 by_cases hin:i<n
 .by_cases hkn:k<n
  .rw [show 2^n-1-2^k=2^n-(2^k+1)by omega,Nat.testBit_two_pow_sub_succ (Nat.pow_lt_pow_right (by decide) hkn),Nat.testBit_two_pow]
   by_cases h2:i=k
   .subst h2;simp;intro h;omega
   simp[hin,show ¬k=i by omega,show k+1<=i by omega,show i-(k+1)+(k+1)=i by omega]
  exfalso;omega
 have hvi:v.testBit i=false:=Nat.testBit_lt_two_pow (Nat.lt_of_lt_of_le hv (Nat.pow_le_pow_right (by decide) (by omega)));rw[hvi]
 by_cases h3:k+1<=i
 .simp [show i-(k+1)+(k+1)=i by omega,hvi]
 simp[h3]
theorem vc{l:Lab}(hl:isL l=true)(hb:U64 l.bits)(h0:l.len≠0):j0 .andNot .u64 l.bits ((2^(64-l.len.toNat):Nat):Int)=(jB l).bits:=by
 obtain⟨h1,h2,h3⟩:=r8 hl;obtain⟨n,hn⟩:∃n:Nat,l.len=n:=⟨l.len.toNat,by omega⟩
 have hn0:0<n:=by omega
 have hn64:n<=64:=by omega
 have hlt:=Y5 hb;have hm:l.bits.toNat % 2^(64-n)=0:=by
  have:l.bits.toNat=F5 l.bits.toNat n:=by rw[hn]at h3;simp at h3;omega
  rw[this];unfold F5;exact Nat.mul_mod_left _ _
 show IntKind.u64.wrap (BitVec.ofInt 64 l.bits &&& ~~~BitVec.ofInt 64 _).toNat=_
 have hp:2^(64-n)<2^64:=Nat.pow_lt_pow_right (by decide) (by omega);have e1:(BitVec.ofInt 64 l.bits).toNat=l.bits.toNat:=by
  rw[BitVec.toNat_ofInt];have h1:=hb.1;have h2:=hb.2;rw[Int.emod_eq_of_lt h1 (by simpa using h2)]
 have e2:(BitVec.ofInt 64 ((2^(64-l.len.toNat):Nat):Int)).toNat=2^(64-n):=by
  rw[hn,Int.toNat_natCast,BitVec.ofInt_natCast,BitVec.toNat_ofNat,Nat.mod_eq_of_lt hp]
 rw[BitVec.toNat_and,BitVec.toNat_not,e1,e2,show 2^64-1-2^(64-n)=2^64-1-2^(64-n)from rfl,mn hlt hm];unfold jB F5;simp only[hn,Int.toNat_natCast];rw[show 64-(n-1)=64-n+1 by omega,V6];have:=Nat.div_mul_le_self l.bits.toNat (2^(64-n+1));rw[Nat.mod_eq_of_lt (by omega)]
end Go.Proofs.YtmbkanpapkhnaaaGreat
namespace Go.Proofs.YtmbkanpapkhnaaaGreat.Sym
open Go Go.RowKit
def jl(x y:Int):Int:=if x<y then -1 else if y<x then 1 else 0
theorem FY{x y:Int}(h:jl x y<0):x<y:=by
 unfold jl at h
 split at h
 .assumption
 split at h<;>omega
theorem Cn{x y:Int}(h:x<y):jl x y<0:=by
 unfold jl;rw[if_pos h]
 decide
theorem FZ(x y:Int):decide (jl x y=0)=decide (x=y):=by
 unfold jl
 by_cases h1:x<y
 .simp [h1];omega
 by_cases h2:y<x
 .simp [h1,h2];omega
 simp[h1,h2];omega
def bsF(f:Nat->Itm)(key:Int)(lo hi:Nat):Nat:=
 if h:lo<hi then(if(f ((lo+hi) / 2)).key<key then bsF f key ((lo+hi) / 2+1) hi else bsF f key lo ((lo+hi) / 2))else lo
termination_by hi-lo
decreasing_by all_goals omega
theorem qT{f:Nat->Itm}{key:Int}{lo hi:Nat}(h:¬lo<hi):bsF f key lo hi=lo:=by rw[bsF,dif_neg h]
theorem Cu{f:Nat->Itm}{key:Int}{lo hi m:Nat}(h:lo<hi)(hm:m=(lo+hi) / 2)(hk:(f m).key<key):bsF f key lo hi=bsF f key (m+1) hi:=by
 subst hm;conv=>lhs;rw[bsF]
 rw[dif_pos h,if_pos hk]
theorem Cv{f:Nat->Itm}{key:Int}{lo hi m:Nat}(h:lo<hi)(hm:m=(lo+hi) / 2)(hk:¬(f m).key<key):bsF f key lo hi=bsF f key lo m:=by
 subst hm;conv=>lhs;rw[bsF]
 rw[dif_pos h,if_neg hk]
def yk(f:Nat->Itm)(key:Int)(n p:Nat):Bool:=decide (p<n)&&decide ((f p).key=key)
theorem EP(lo hi:Nat)(h:lo+hi<1000000000):IntKind.i64.wrap (s3 .shr .u64 (IntKind.u64.wrap ((lo:Int)+(hi:Int))) 1)=(((lo+hi) / 2:Nat):Int):=by
 rw[wrap_u64 _ ⟨by omega,by omega⟩];have e:s3 .shr .u64 ((lo:Int)+(hi:Int)) 1=(((lo+hi) / 2:Nat):Int):=by
  have h1:=Dv (v:=(lo:Int)+(hi:Int)) ⟨by omega,by omega⟩ 1 (by decide);rw[show((1:Nat):Int)=1 from rfl]at h1;rw[h1,show((lo:Int)+(hi:Int)).toNat=lo+hi by omega]
 rw[e,o8 (by omega) (by omega)]
theorem oU:l8 Tryz.prog 135:=fun _ _=>by kernel_rfl
theorem Hi(x:Int):k9 Tryz.prog 135 [.int .u64 x] (fun _=>.bool .ff):=by
 intro m w hm hargs;refine en 6 hm hargs Tryz.func135 fun B O a0 Z=>?_
 refine a6 [0] [] Z fun X0 Z=>?_
 refine a6 [2] [] Z fun X1 Z=>?_
 refine z7 Z ?_;subst O;exact Sim.bool (by simp[BE.den,std,d4];rfl)
theorem sP:l8 Tryz.prog 70:=fun _ _=>by kernel_rfl
theorem Ms(x y:Int):k9 Tryz.prog 70 [.int .u64 x,.int .u64 y] (fun _=>.int .i64 (jl x y)):=by
 intro m w hm hargs;refine en 20 hm hargs Tryz.func70 fun B O a0 Z=>?_
 refine a6 [0,1] [] Z fun X0 Z=>?_
 refine i9 [0,1,5] [] [(1,.r fun _=>.bool .ff)] Z (hob:=?hob) fun X1 Z=>?_
 case hob=>
  intro X;subst O;exact⟨⟨oU,Hi x⟩,trivial⟩
 refine i9 [0,1,5,6] [] [(1,.r fun _=>.bool .ff)] Z (hob:=?hob) fun X2 Z=>?_
 case hob=>
  intro X;subst O;exact⟨⟨oU,Hi y⟩,trivial⟩
 refine a7 (a6 [11,0,1,6] [] Z fun X3 Z=>?_);refine l4 Z rfl (fun Z=>?_);refine f8 (a7 (a6 [13,0,1] [] Z fun X7 Z=>?_));refine l4 Z rfl (fun Z=>?_);refine f8 (a7 (a6 [16,0,1] [] Z fun X9 Z=>?_));apply b7 Z rfl<;>intro hb Z
 .have h1:x<y:=by subst O;simpa[std,d4]using hb
  refine a6 [4] [] Z fun X10 Z=>?_
  refine N8 Z ?_;simp only[jl,h1,if_true];rfl
 have h1:¬x<y:=by subst O;simpa[std,d4]using hb
 refine f8 (a7 (a6 [19] [] Z fun X11 Z=>?_));apply b7 Z rfl<;>intro hb Z
 .have h2:y<x:=by subst O;simpa[std,d4]using hb
  refine a6 [4] [] Z fun X12 Z=>?_
  refine N8 Z ?_;simp only[jl,h1,h2,if_true,if_false];rfl
 have h2:¬y<x:=by subst O;simpa[std,d4]using hb
 refine f8 (a6 [4] [] Z fun X13 Z=>?_);refine N8 Z ?_;simp only[jl,h1,h2,if_false];rfl
theorem oQ:l8 Tryz.prog 256:=fun _ _=>by kernel_rfl
theorem HD(k:Int)(v:ByteArray)(y:Int):k9 Tryz.prog 256 [.agg [.int .u64 k,.str v],.int .u64 y] (fun _=>.int .i64 (jl k y)):=by
 intro m w hm hargs;obtain⟨c,hc⟩:=eqv (jl k y);have S:=Ms k y;rw[<-hc]at S;refine en 9 hm hargs Tryz.func256 fun B O a0 Z=>?_
 refine a6 [1,2] [2] Z fun X0 Z=>?_
 refine i9 [4] [] [(3,.r fun _=>.int .i64 c)] Z (hob:=?hob) fun X1 Z=>?_
 case hob=>
  intro X;subst O;first|exact⟨⟨sP,S⟩,trivial⟩|exact⟨rfl,⟨sP,S⟩,trivial⟩
 refine N8 Z ?_;rw[hc];rfl
theorem yz:l8 Tryz.prog 255:=fun _ _=>by kernel_rfl
theorem NF(A:Option Addr)(n c:Nat)(f:Nat->Itm)(hn:n<=1000000)(key:Int):k9 Tryz.prog 255 [s4 A n c f,.int .u64 key,.fn 256 [] []] (fun _=>.tup [.int .i64 (bsF f key 0 n:Nat),.bool (.v (yk f key n (bsF f key 0 n)))]):=by
 intro m w hm hargs;have hmx:maxLen=9223372036854775807:=rfl;unfold s4 at hargs
 try unfold s4
 refine en 49 hm hargs Tryz.func255 fun B O a0 Z=>?_
 refine a6 [0,1,2] [] Z fun X0 Z=>?_
 refine a6 [8,0,1,2] [] Z fun X1 Z=>?_
 replace Z:=Z.head (v':=.int .i64 (n:Int)) (by subst O;rfl);refine a6 [9,10,0,1,2,8] [] Z fun X2 Z=>?_
 refine a7 (j1 (l3 (ι:=Nat×Nat) (fun p=>[(9,.int .i64 (p.1:Int)),(10,.int .i64 (p.2:Int))]) (fun p=>[]) (fun p=>[]) (fun p=>p.1<=p.2/\p.2<=n/\bsF f key p.1 p.2=bsF f key 0 n) (fun p=>p.2-p.1) (0,n) ⟨Nat.zero_le _,Nat.le_refl _,rfl⟩ Z ?_))
 rintro⟨lo,hi⟩ ⟨hlh,hhn,hbs⟩ _ _ Z
 try dsimp only at hlh
 try dsimp only at hhn
 try dsimp only at hbs
 refine a7 (a6 [17,9,10,0,1,2,8] [] Z fun X3 Z=>?_);apply b7 Z rfl<;>intro hb Z
 .have hlt:lo<hi:=by
   have:(lo:Int)<(hi:Int):=by subst O;simpa[std,d4]using hb
   omega
  refine f8 (j1 (a6 [11,9,10,0,1,2,8] [] Z fun X4 Z=>?_));obtain⟨m,hm⟩:∃m:Nat,m=(lo+hi) / 2:=⟨_,rfl⟩
  have hmlo:lo<=m/\m<hi:=by omega
  replace Z:=Z.head (v':=.int .i64 (m:Int)) (by
   subst O
   show AV.int .i64 (IntKind.i64.wrap (s3 .shr .u64 (IntKind.u64.wrap (IntKind.i64.wrap ((lo:Int)+(hi:Int)))) 1))=_
   rw[o8 (x:=(lo:Int)+(hi:Int)) (by omega) (by omega),EP lo hi (by omega),hm])
  obtain⟨cv,hcv⟩:=eqv (jl (f m).key key);have S1:=HD (f m).key (f m).val key;rw[<-hcv]at S1;refine i9 [31,11,9,10,0,1,2,8] [] [(6,.r fun _=>.int .i64 cv)] Z (hob:=?hob) fun X5 Z=>?_
  case hob=>
   intro X;subst O;refine⟨⟨?_,?_⟩,⟨oQ,?_⟩,trivial⟩
   .show (0:Int)<=(m:Int);omega
   .show (m:Int)<(n:Int);omega
   exact S1
  apply b7 Z rfl<;>intro hb Z
  .have hlt2:(f m).key<key:=by
    have h9:cv<0:=by subst O;simpa[std,d4]using hb
    rw[hcv]at h9;exact FY h9
   have e:B.arith .add .i64 (m:Int) 1=((m+1:Nat):Int):=by subst O;exact k4 (n:=n) (by omega) (by omega)
   refine j5 [9,10,0,1,2,8] [] Z fun X6 Z=>?_
   refine⟨(m+1,hi),⟨by simp only;omega,hhn,?_⟩,by simp only;omega,by rw[<-e];exact Z⟩;exact(Cu hlt hm hlt2).symm.trans hbs
  have hlt2:¬(f m).key<key:=by
   have h9:¬cv<0:=by subst O;simpa[std,d4]using hb
   rw[hcv]at h9;exact fun h=>h9 (Cn h)
  refine j5 [9,10,0,1,2,8] [] Z fun X7 Z=>?_
  refine⟨(lo,m),⟨by simp only;omega,by simp only;omega,?_⟩,by simp only;omega,Z⟩;exact(Cv hlt hm hlt2).symm.trans hbs
 have hge:¬lo<hi:=by
  have:¬(lo:Int)<(hi:Int):=by subst O;simpa[std,d4]using hb
  omega
 have hlo:lo=bsF f key 0 n:=by rw[<-hbs,qT hge]
 obtain⟨cv,hcv⟩:=eqv (jl (f lo).key key);have S2:=HD (f lo).key (f lo).val key;rw[<-hcv]at S2;refine j9 (i9 [6,7] [] [(11,.r fun _=>.int .i64 cv)] Z (hob:=?hob) fun X8 Z=>?_)
 case hob=>
  intro X;subst O;simp only[i7,Ob.holds,BE.den,List.mem_cons,List.not_mem_nil,or_false,forall_eq_or_imp,forall_eq]
  and_intros<;>first|trivial|(intro h;first|trivial|exact⟨oQ,S2⟩|(have h2:(lo:Int)<(n:Int):=of_decide_eq_true h;exact⟨Int.natCast_nonneg _,h2⟩))
 refine z7 Z ?_;subst O;rw[<-hlo];refine Sim.tup ⟨zr,Sim.bool ?_,trivial⟩
 show(if decide ((lo:Int)<(n:Int))=true then decide (cv=0)else false)=yk f key n lo
 unfold yk;rw[hcv]
 by_cases h:lo<n
 .have h1:(lo:Int)<(n:Int):=by omega
  rw[if_pos (by simpa using h1)];simp only[h,decide_true,Bool.true_and];exact FZ _ _
 have h1:¬(lo:Int)<(n:Int):=by omega
 rw[if_neg (by simpa using h1)];simp[h]
theorem oR:l8 Tryz.prog 222:=fun _ _=>by kernel_rfl
theorem NG(A:Option Addr)(n c:Nat)(f:Nat->Itm)(hn:n<=1000000)(key:Int):k9 Tryz.prog 222 [s4 A n c f,.int .u64 key] (fun _=>.tup [.int .i64 (bsF f key 0 n:Nat),.bool (.v (yk f key n (bsF f key 0 n)))]):=by
 intro m w hm hargs;have S:=NF A n c f hn key;unfold s4 at S hargs ⊢
 generalize yk f key n (bsF f key 0 n)=hh at S ⊢
 generalize bsF f key 0 n=p at S ⊢
 refine en 11 hm hargs Tryz.func222 fun B O a0 Z=>?_
 refine a6 [0,1] [] Z fun X0 Z=>?_
 refine i9 [4,5] [] [(2,.r fun _=>.tup [.int .i64 (p:Int),.bool (.v hh)])] Z (hob:=?hob) fun X1 Z=>?_
 case hob=>
  intro X;subst O;exact⟨⟨yz,S⟩,trivial⟩
 exact i8 ((rsp O a8 Z C5).1)
def chE(l:Lab)(b:Int):Int:=if isL l=false then 1 else if l.len=64 then 5 else 0
def chV(l:Lab)(b:Int):Lab:=if chE l b=0 then u7 l b else⟨0,0⟩
theorem Dw{n:Int}(h0:0<=n)(h1:n<64):s3 .shl .u64 1 (IntKind.i64.wrap (63-n))=((2^(63-n.toNat):Nat):Int):=by
 rw[o8 (by omega) (by omega)]
 show IntKind.u64.wrap (1*(2:Int)^(min (63-n).toNat 64))=_
 rw[Nat.min_eq_left (by omega),Int.one_mul,show(63-n).toNat=63-n.toNat by omega,show(2:Int)^(63-n.toNat)=((2^(63-n.toNat):Nat):Int)by simp,V6];have:2^(63-n.toNat)<=2^63:=Nat.pow_le_pow_right (by decide) (by omega);rw[Nat.mod_eq_of_lt (by omega)]
theorem At{l:Lab}(hl:isL l=true)(hb:U64 l.bits)(h64:l.len≠64):j0 .or .u64 l.bits ((2^(63-l.len.toNat):Nat):Int)=l.bits+((2^(63-l.len.toNat):Nat):Int):=by
 obtain⟨q,h1,h2⟩:=lk hl hb h64;obtain⟨h3,h4,h5⟩:=r8 hl;have hn:l.len.toNat<64:=by omega
 have hp:0<2^(63-l.len.toNat):=Nat.pow_pos (by decide);rw[h1];rw[As (a:=q*(2*2^(63-l.len.toNat))) (b:=2^(63-l.len.toNat)) (k:=64-l.len.toNat) (by rw[bV hn];exact Nat.mul_mod_left _ _) (by rw[bV hn];omega) (by omega)];exact Int.natCast_add _ _
theorem R5{l:Lab}{il:Bool}(hil:il=isL l)(h:∀e ∈ [((BE.v il:BE),true)],e.1.den=e.2):0<=l.len/\l.len<=64:=by
 have hl:il=true:=h _ (List.mem_singleton.2 rfl);obtain⟨a,b,_⟩:=r8 (l:=l) (by rw[<-hil];exact hl);exact⟨a,b⟩
theorem oS:l8 Tryz.prog 220:=fun _ _=>by kernel_rfl
theorem HB(n:Int)(h0:0<=n)(h1:n<64):k9 Tryz.prog 220 [.int .i64 n] (fun _=>.int .u64 ((2^(63-n.toNat):Nat):Int)):=by
 intro m w hm hargs;refine en 6 hm hargs Tryz.func220 fun B O a0 Z=>?_
 refine a6 [0] [] Z fun X0 Z=>?_
 refine a6 [2] [] Z (hob:=?hob) fun X1 Z=>?_
 case hob=>
  intro X;subst O;refine⟨?_,trivial⟩
  show 0<=IntKind.i64.wrap (63-n)
  rw[o8 (by omega) (by omega)];omega
 refine z7 Z ?_;subst O;rw[<-Dw h0 h1];exact zr
theorem oT:l8 Tryz.prog 160:=fun _ _=>by kernel_rfl
theorem lz(l:Lab)(hb0:U64 l.bits)(b:Int)(hb01:b=0 \/ b=1):k9 Tryz.prog 160 [i6 l,.int .i64 b] (fun _=>.tup [i6 (chV l b),.int .i64 (chE l b)]):=by
 intro m w hm hargs;have SI:=fZ l hb0;simp only[i6]at SI hargs ⊢;obtain⟨il,hil⟩:=eqv (isL l);rw[<-hil]at SI;refine en 38 hm hargs Tryz.func160 fun B O a0 Z=>?_
 refine a6 [1,2,4] [2,4] Z fun X0 Z=>?_
 refine a7 (j1 (i9 [6,1,2,4] [2,4] [(1,.r fun _=>.bool (.v il))] Z (hob:=?hob) fun X1 Z=>?_))
 case hob=>
  intro X;subst O
  repeat(first|exact trivial|refine⟨rfl,?_⟩|refine⟨fun _=>rfl,?_⟩|refine⟨u5 (Kk:=noK) _ _ _ _,?_⟩|refine⟨fun _=>u5 (Kk:=noK) _ _ _ _,?_⟩|refine⟨⟨aL,SI⟩,?_⟩|refine⟨fun _=>⟨aL,SI⟩,?_⟩)
 apply b7 Z rfl<;>intro hb Z
 .have h9:(if(if(!il)=true then true else decide (b<0))=true then true else decide (b>1))=true:=by subst O;exact hb
  have hilf:il=false:=by rcases hb01 with rfl|rfl<;>cases il<;>first|rfl|(simp at h9)
  have hE:chE l b=1:=by unfold chE;rw[<-hil,hilf];rfl
  have hV:chV l b=⟨0,0⟩:=by unfold chV;rw[hE];rfl
  refine a6 [4,5] [4] Z fun X2 Z=>?_
  refine z7 Z ?_;subst O;rw[hV,hE];exact zr
 have h9:(if(if(!il)=true then true else decide (b<0))=true then true else decide (b>1))=false:=by subst O;exact hb
 have hilt:il=true:=by cases il<;>first|rfl|(simp at h9)
 have hLt:isL l=true:=by rw[<-hil];exact hilt
 obtain⟨hl0,hl1,hl2⟩:=r8 hLt;refine a6 [19,1,2,4] [2,4] Z fun X3 Z=>?_
 apply b7 Z rfl<;>intro hb Z
 .have h64:l.len=64:=by subst O;simpa[std,d4]using hb
  have hE:chE l b=5:=by unfold chE;rw[<-hil,hilt,if_neg (by decide),if_pos h64]
  have hV:chV l b=⟨0,0⟩:=by unfold chV;rw[hE];rfl
  refine a6 [4,5] [4] Z fun X4 Z=>?_
  refine z7 Z ?_;subst O;rw[hV,hE];exact zr
 have h64:l.len≠64:=by subst O;simpa[std,d4]using hb
 have hE:chE l b=0:=by unfold chE;rw[<-hil,hilt,if_neg (by decide),if_neg h64]
 have hV:chV l b=u7 l b:=by unfold chV;rw[hE];rfl
 refine f8 (a7 (a6 [25,2,4] [2,4] Z fun X5 Z=>?_));refine wK (ι:=Int) (S0:=[(25,_)]) (M0:=[(2,_)]) (G0:=[]) (fun p=>[]) (fun p=>[(2,⟨(X0 0).b,24,[.int .i64 l.len,.int .u64 p]⟩)]) (fun p=>[]) (fun p=>p=(u7 l b).bits) Z ?_ ?_
 .apply b7 Z rfl<;>intro hb Z
  .have hb1:b=1:=by subst O;simpa[std,d4]using hb
   have SB:=HB l.len hl0 (by omega);obtain⟨bt,hbt⟩:=eqv (((2^(63-l.len.toNat):Nat):Int));rw[<-hbt]at SB;have hor:j0 .or .u64 l.bits bt=l.bits+bt:=by rw[hbt];exact At hLt hb0 h64
   refine drg O a8 [2,4] [2,4] [(4,.r fun _=>.int .u64 bt)] Z (hob:=?hob) fun X6 _ _ Z=>?_
   case hob=>
    intro X;subst O
    repeat(first|exact trivial|refine⟨rfl,?_⟩|refine⟨fun _=>rfl,?_⟩|refine⟨u5 (Kk:=noK) _ _ _ _,?_⟩|refine⟨fun _=>u5 (Kk:=noK) _ _ _ _,?_⟩|refine⟨⟨oS,SB⟩,?_⟩|refine⟨fun _=>⟨oS,SB⟩,?_⟩)
   refine⟨(u7 l b).bits,rfl,?_⟩;have e:(u7 l b).bits=B.arith .or .u64 l.bits bt:=by
    subst O
    show _=j0 .or .u64 l.bits bt
    rw[hor,hb1,hbt];rfl
   rw[e];exact Z
  have hb1:b=0:=by
   have:¬b=1:=by subst O;simpa[std,d4]using hb
   exact hb01.resolve_right this
  exact f8 (⟨(u7 l b).bits,rfl,by rw[hb1];exact Z⟩)
 rintro bb hbb _ _ Z
 try dsimp only at hbb
 refine a6 [2,4] [2,4] Z fun X7 Z=>?_
 refine a6 [4,5] [4] Z fun X8 Z=>?_
 refine z7 Z ?_;subst O;rw[hV,hE];have e1:IntKind.i64.wrap (l.len+1)=l.len+1:=o8 (by omega) (by omega);refine Sim.tup ⟨Sim.agg ⟨?_,?_,trivial⟩,zr,trivial⟩
 .show Sim (.int .i64 (IntKind.i64.wrap (l.len+1))) _
  rw[e1];exact zr
 rw[hbb];exact zr
theorem sQ:l8 Tryz.prog 32:=fun _ _=>by kernel_rfl
theorem wN(l:Lab)(hb0:U64 l.bits)(key:Int)(hk:U64 key):k9 Tryz.prog 32 [i6 l,.int .u64 key] (fun _=>.bool (.v (z6 l key))):=by
 intro m w hm hargs;have SI:=fZ l hb0;have SH:=fun h0 h1=>uz key l.len hk h0 h1
 simp only[i6]at SI hargs;unfold z6;obtain⟨il,hil⟩:=eqv (isL l);rw[<-hil]at SI ⊢;obtain⟨hd,hhd⟩:=eqv (((F5 key.toNat l.len.toNat:Nat):Int));rw[<-hhd];simp only[<-hhd]at SH;refine en 16 hm hargs Tryz.func32 fun B O a0 Z=>?_
 refine a6 [1,2] [2] Z fun X0 Z=>?_
 refine a7 (drg O a8 [4] [] [(1,.r fun _=>.bool (.v il)),(6,.r fun _=>.int .u64 hd)] Z (hob:=?hob) fun X1 _ _ Z=>?_)
 case hob=>
  intro X;subst O
  repeat(first|exact trivial|refine⟨rfl,?_⟩|refine⟨fun _=>rfl,?_⟩|refine⟨⟨aL,SI⟩,?_⟩|refine⟨fun h=>⟨sN,SH (R5 hil h).1 (R5 hil h).2⟩,?_⟩)
 refine z7 Z ?_;subst O;exact Sim.bool (by show(if il=true then decide (hd=l.bits)else false)=_;rw[C0];rfl)
theorem jP:l8 Tryz.prog 191:=fun _ _=>by kernel_rfl
theorem iy(l:Lab)(hb0:U64 l.bits)(h0:0<=l.len)(h1:l.len<=64):k9 Tryz.prog 191 [i6 l] (fun _=>.str (mkB (co l.bits l.len.toNat))):=by
 intro m w hm hargs;have SB:=qV l.bits hb0;have hz:(mkB (K9 64 l.bits.toNat)).size=64:=by rw[J5,Y9]
 have he:mkB (co l.bits l.len.toNat)=(mkB (K9 64 l.bits.toNat)).extract 0 l.len.toNat:=by rw[bP,List.drop_zero];rfl
 rw[he];simp only[i6]at hargs
 generalize mkB (K9 64 l.bits.toNat)=bs at SB hz ⊢
 refine en 9 hm hargs Tryz.func191 fun B O a0 Z=>?_
 refine a6 [1] [1] Z fun X0 Z=>?_
 refine a7 (drg O a8 [2] [] [(2,.r fun _=>.str bs)] Z (hob:=?hob) fun X1 _ _ Z=>?_)
 case hob=>
  intro X;subst O
  repeat(first|exact trivial|refine⟨rfl,?_⟩|refine⟨⟨jN,SB⟩,?_⟩|refine⟨⟨by decide,h0,by show l.len<=(bs.size:Int);rw[hz];exact h1⟩,?_⟩)
 exact i8 ((rsp O a8 Z C5).1)
theorem yG:l8 Tryz.prog 154:=fun _ _=>by kernel_rfl
theorem tV(l:Lab)(hb0:U64 l.bits)(key:Int)(hk:U64 key):k9 Tryz.prog 154 [i6 l,.int .u64 key] (fun _=>.bool (.v (z6 l key))):=by
 intro m w hm hargs;have SI:=gn l hb0;have SD:=fun h0 h1=>iy l hb0 h0 h1
 have SB:=qV key hk;have hz:(mkB (K9 64 key.toNat)).size=64:=by rw[J5,Y9]
 have hct:=fun hl=>Ch (l:=l) hl hb0 hk
 have he:mkB (co key l.len.toNat)=(mkB (K9 64 key.toNat)).extract 0 l.len.toNat:=by rw[bP,List.drop_zero];rfl
 simp only[i6]at SI hargs SD;obtain⟨il,hil⟩:=eqv (isL l);rw[<-hil]at SI
 generalize mkB (K9 64 key.toNat)=bs at SB hz he
 obtain⟨d,hd⟩:=eqv (mkB (co l.bits l.len.toNat));simp only[<-hd]at SD;refine en 17 hm hargs Tryz.func154 fun B O a0 Z=>?_
 refine a6 [1,2] [2] Z fun X0 Z=>?_
 refine a7 (drg O a8 [4] [] [(1,.r fun _=>.bool (.v il)),(4,.r fun _=>.str d),(6,.r fun _=>.str bs)] Z (hob:=?hob) fun X1 _ _ Z=>?_)
 case hob=>
  intro X;subst O
  repeat(first|exact trivial|refine⟨rfl,?_⟩|refine⟨fun _=>rfl,?_⟩|refine⟨⟨bE,SI⟩,?_⟩|refine⟨fun _=>⟨jN,SB⟩,?_⟩|refine⟨fun h=>⟨jP,SD (R5 hil h).1 (R5 hil h).2⟩,?_⟩|refine⟨fun h=>⟨by decide,(R5 hil h).1,by show l.len<=(bs.size:Int);rw[hz];exact(R5 hil h).2⟩,?_⟩)
 refine z7 Z ?_;subst O;refine Sim.bool ?_
 show(if il=true then(d.toList==(bs.extract 0 l.len.toNat).toList)else false)=z6 l key
 cases hl:il with
 |false=>rw[hl]at hil;unfold z6;rw[<-hil];rfl
 |true=>
  rw[hl]at hil;rw[if_pos rfl,eqB,hd,<-he,Y4,Y4];exact hct hil.symm
theorem fM:l8 Tryz.prog 188:=fun _ _=>by kernel_rfl
theorem U3(l:Lab)(hb0:U64 l.bits)(b:Int)(hb01:b=0 \/ b=1):k9 Tryz.prog 188 [i6 l,.int .i64 b] (fun _=>.tup [i6 (chV l b),.int .i64 (chE l b)]):=by
 intro m w hm hargs;have SI:=gn l hb0;simp only[i6]at SI hargs ⊢;obtain⟨il,hil⟩:=eqv (isL l);rw[<-hil]at SI;refine en 32 hm hargs Tryz.func188 fun B O a0 Z=>?_
 refine a6 [1,2,4] [2,4] Z fun X0 Z=>?_
 refine a7 (i9 [16,1,2,4] [2,4] [(1,.r fun _=>.bool (.v il))] Z (hob:=?hob) fun X1 Z=>?_)
 case hob=>
  intro X;subst O
  repeat(first|exact trivial|refine⟨rfl,?_⟩|refine⟨fun _=>rfl,?_⟩|refine⟨u5 (Kk:=noK) _ _ _ _,?_⟩|refine⟨fun _=>u5 (Kk:=noK) _ _ _ _,?_⟩|refine⟨⟨bE,SI⟩,?_⟩|refine⟨fun _=>⟨bE,SI⟩,?_⟩)
 apply b7 Z rfl<;>intro hb Z
 .have h9:(if(if(!il)=true then true else decide (b<0))=true then true else decide (b>1))=true:=by subst O;exact hb
  have hilf:il=false:=by rcases hb01 with rfl|rfl<;>cases il<;>first|rfl|(simp at h9)
  have hE:chE l b=1:=by unfold chE;rw[<-hil,hilf];rfl
  have hV:chV l b=⟨0,0⟩:=by unfold chV;rw[hE];rfl
  refine a6 [4,5] [4] Z fun X2 Z=>?_
  refine z7 Z ?_;subst O;rw[hV,hE];exact zr
 have h9:(if(if(!il)=true then true else decide (b<0))=true then true else decide (b>1))=false:=by subst O;exact hb
 have hilt:il=true:=by cases il<;>first|rfl|(simp at h9)
 have hLt:isL l=true:=by rw[<-hil];exact hilt
 obtain⟨hl0,hl1,hl2⟩:=r8 hLt;refine f8 (a7 (a6 [20,1,2,4] [2,4] Z fun X3 Z=>?_));apply b7 Z rfl<;>intro hb Z
 .have h64:l.len=64:=by subst O;simpa[std,d4]using hb
  have hE:chE l b=5:=by unfold chE;rw[<-hil,hilt,if_neg (by decide),if_pos h64]
  have hV:chV l b=⟨0,0⟩:=by unfold chV;rw[hE];rfl
  refine a6 [4,5] [4] Z fun X4 Z=>?_
  refine z7 Z ?_;subst O;rw[hV,hE];exact zr
 have h64:l.len≠64:=by subst O;simpa[std,d4]using hb
 have hE:chE l b=0:=by unfold chE;rw[<-hil,hilt,if_neg (by decide),if_neg h64]
 have hV:chV l b=u7 l b:=by unfold chV;rw[hE];rfl
 refine f8 (a7 (a6 [23,2,4] [2,4] Z fun X5 Z=>?_));apply b7 Z rfl<;>intro hb Z
 .have hb1:b=0:=by subst O;simpa[std,d4]using hb
  have SD:=iy l hb0 hl0 hl1;simp only[i6]at SD;obtain⟨d,hd⟩:=eqv (mkB (co l.bits l.len.toNat));rw[<-hd]at SD;have hds:d.size=l.len.toNat:=by rw[hd,J5];exact bY _ (by omega)
  have hdt:unB (d++⟨#[48]⟩)=co l.bits l.len.toNat ++ [48]:=by rw[jt,hd,Y4];rfl
  have hsz:(d++⟨#[48]⟩:ByteArray).size=l.len.toNat+1:=by rw[<-az,hdt,List.length_append,bY _ (by omega)];rfl
  have SO:=Ay (d++⟨#[48]⟩) (fun x hx=>by rw[hdt]at hx;rcases List.mem_append.1 hx with hx|hx;exact nm x hx;rw[List.mem_singleton.1 hx];decide) (by omega);obtain⟨k,hk⟩:=eqv (ofT (d++⟨#[48]⟩));rw[<-hk]at SO;simp only[i6]at SO;have hkl:k=u7 l b:=by
   have ht:=nu hLt hb0 h64 b hb01;have hu:=dU hLt hb0 h64 b;rw[hk];unfold ofT;rw[hdt,hsz];have e1:(u7 l b).len=l.len+1:=rfl;have e2:∀k:Lab,k=⟨k.len,k.bits⟩:=fun k=>rfl
   rw[e2 (u7 l b),e1]
   congr 1
   .omega
   have h0:=hu.1;have e3:(if b=1 then(49:UInt8)else 48)=48:=by rw[hb1];rfl
   rw[e3]at ht;rw[ht];omega
  refine i9 [4,5] [4] [(1,.r fun _=>.str d),(3,.r fun _=>.agg [.int .i64 k.len,.int .u64 k.bits])] Z (hob:=?hob) fun X6 Z=>?_
  case hob=>
   intro X;subst O
   repeat(first|exact trivial|refine⟨(show d.size+1<=maxLen by simp only[maxLen];omega),?_⟩|refine⟨rfl,?_⟩|refine⟨⟨jP,SD⟩,?_⟩|refine⟨⟨jO,SO⟩,?_⟩)
  refine z7 Z ?_;subst O;rw[hV,hE,<-hkl];exact zr
 have hb1:b=1:=by
  have:¬b=0:=by subst O;simpa[std,d4]using hb
  exact hb01.resolve_left this
 have SD:=iy l hb0 hl0 hl1;simp only[i6]at SD;obtain⟨d,hd⟩:=eqv (mkB (co l.bits l.len.toNat));rw[<-hd]at SD;have hds:d.size=l.len.toNat:=by rw[hd,J5];exact bY _ (by omega)
 have hdt:unB (d++⟨#[49]⟩)=co l.bits l.len.toNat ++ [49]:=by rw[jt,hd,Y4];rfl
 have hsz:(d++⟨#[49]⟩:ByteArray).size=l.len.toNat+1:=by rw[<-az,hdt,List.length_append,bY _ (by omega)];rfl
 have SO:=Ay (d++⟨#[49]⟩) (fun x hx=>by rw[hdt]at hx;rcases List.mem_append.1 hx with hx|hx;exact nm x hx;rw[List.mem_singleton.1 hx];decide) (by omega);obtain⟨k,hk⟩:=eqv (ofT (d++⟨#[49]⟩));rw[<-hk]at SO;simp only[i6]at SO;have hkl:k=u7 l b:=by
  have ht:=nu hLt hb0 h64 b hb01;have hu:=dU hLt hb0 h64 b;rw[hk];unfold ofT;rw[hdt,hsz];have e1:(u7 l b).len=l.len+1:=rfl;have e2:∀k:Lab,k=⟨k.len,k.bits⟩:=fun k=>rfl
  rw[e2 (u7 l b),e1]
  congr 1
  .omega
  have h0:=hu.1;have e3:(if b=1 then(49:UInt8)else 48)=49:=by rw[hb1];rfl
  rw[e3]at ht;rw[ht];omega
 refine f8 (i9 [4,5] [4] [(1,.r fun _=>.str d),(3,.r fun _=>.agg [.int .i64 k.len,.int .u64 k.bits])] Z (hob:=?hob) fun X7 Z=>?_)
 case hob=>
  intro X;subst O
  repeat(first|exact trivial|refine⟨(show d.size+1<=maxLen by simp only[maxLen];omega),?_⟩|refine⟨rfl,?_⟩|refine⟨⟨jP,SD⟩,?_⟩|refine⟨⟨jO,SO⟩,?_⟩)
 refine z7 Z ?_;subst O;rw[hV,hE,<-hkl];exact zr
structure Nt where
 code:Int
 had:Bool
 val:ByteArray
structure Rsl where
 code:Int
 had:Bool
 val:ByteArray
 items:List Itm
 key:Int
 more:Bool
deriving DecidableEq
def dq:Rsl:=⟨0,false,⟨#[]⟩,[],0,false⟩
structure Wq where
 kind:Int
 lab:Lab
 ver:Int
 r:Rec
 res:Rsl
deriving DecidableEq
def zWq:Wq:=⟨0,⟨0,0⟩,0,k6,dq⟩
structure Pst where
 n:Nat
 g:Nat->s9
 note:Nt
def Pst.tl(p:Pst):Pst:=⟨p.n-1,fun j=>p.g (j+1),p.note⟩
inductive Rs(α : Type)where
 |ok (a:α) (p:Pst)
 |stop (w:Wq) (p:Pst)
def Rs.bind{α β : Type}(m:Rs α)(f:α->Pst->Rs β):Rs β:=match m with
 | .ok a p=>f a p
 | .stop w p=>.stop w p
def Aq(p:Pst):Wq:=⟨4,⟨0,0⟩,0,k6,⟨p.note.code,p.note.had,p.note.val,[],0,false⟩⟩
def K8(k:Int)(w:Wq)(p:Pst):Rs s9:=if 0<p.n/\0<(p.n:Int)+k then .ok (p.g 0) p.tl else .stop (if(p.n:Int)+k<=0 then Aq p else w) p
def M8(k:Int)(l:Lab)(p:Pst):Rs s9:=K8 k ⟨1,l,0,k6,dq⟩ p
def aw(k:Int)(l:Lab)(v:Int)(r:Rec)(p:Pst):Rs Bool:=(K8 k ⟨2,l,v,r,dq⟩ p).bind fun g p=>.ok (decide (g.code=0)) p
def jd(k:Int)(l:Lab)(v:Int)(p:Pst):Rs Bool:=(K8 k ⟨3,l,v,k6,dq⟩ p).bind fun g p=>.ok (decide (g.code=0)) p
def gk(g:s9)(kd:Int):Bool:=g.has&&decide (g.x.r.kd=kd)
def asR(kd:Int)(x:RA)(mk:Int):RA:=⟨x.A,x.c,⟨x.r.n,x.r.f,kd,x.r.nx,mk⟩⟩
def cI:Rec:=⟨2,[],F1,0⟩
def M7(x:RA)(l:Lab):Rec×Rec×Int:=K2 x.r.kd x.r.n x.r.f x.r.nx x.r.mrk l
def ci(x y:RA):Rec×Int:=cg x.r.kd x.r.n x.r.f x.r.nx x.r.mrk y.r.kd y.r.n y.r.f y.r.nx y.r.mrk
def B9(k:Int)(l:Lab)(v:Int)(c:Lab)(x:Rec):Nat->Pst->Rs Bool
 |0,p=>.stop zWq p
 |n+1,p=>(M8 k c p).bind fun g p=>if(g.has && !decide (g.x.r.kd=5))=true then .ok true p else(M8 k l p).bind fun q p=>if q.ver=v then(aw k c g.ver x p).bind fun d p=>if d=true then .ok true p else B9 k l v c x n p else .ok false p
def A4(k:Int)(n:Nat)(l:Lab)(v:Int)(x:RA)(p:Pst):Rs Unit:=
 if(M7 x l).2.2=0 then
  (B9 k l v (chV l 0) (M7 x l).1 n p).bind fun go p=>if go=true then(B9 k l v (chV l 1) (M7 x l).2.1 n p).bind fun go p=>if go=true then(aw k l v cI p).bind fun _ p=>.ok () p else .ok () p else .ok () p
 else .ok () p
inductive Fz where
 |over
 |unfit
 |fr (x:RA)
def P0(k:Int)(l:Lab)(v:Int)(c:Lab):Nat->Pst->Rs Fz
 |0,p=>.stop zWq p
 |n+1,p=>(M8 k c p).bind fun g p=>if(gk g 1||gk g 5)=true then(if(gk g 5&&decide (g.x.r.mrk=v))=true then .ok (.fr g.x) p else(M8 k l p).bind fun q p=>if q.ver=v then(aw k c g.ver (asR 5 g.x v).r.abs p).bind fun d p=>if d=true then .ok (.fr (asR 5 g.x v)) p else P0 k l v c n p else .ok .over p)else .ok .unfit p
def J0(k:Int)(l:Lab)(cl:Lab->Pst->Rs Unit)(c:Lab)(p:Pst):Rs Bool:=
 (M8 k c p).bind fun g p=>if gk g 5=true then(cl c p).bind fun _ p=>(M8 k l p).bind fun q p=>if(gk q 1||gk q 5)=true then(jd k c g.ver p).bind fun _ p=>.ok true p else .ok false p else .ok true p
def G4(k:Int):Nat->Lab->Pst->Rs Unit
 |0,_,p=>.stop zWq p
 |n+1,l,p=>if l.len=64 then .ok () p else(J0 k l (G4 k n) (chV l 0) p).bind fun go p=>if go=true then(J0 k l (G4 k n) (chV l 1) p).bind fun _ p=>.ok () p else .ok () p
def bq(k:Int)(th:Lab->Pst->Rs Unit)(l:Lab)(v:Int)(p:Pst):Rs Unit:=(aw k l v cI p).bind fun d p=>if d=true then(th (chV l 0) p).bind fun _ p=>th (chV l 1) p else .ok () p
def M3(bk k:Int)(n:Nat)(th:Lab->Pst->Rs Unit)(l:Lab)(v:Int)(p:Pst):Rs Unit:=
 (P0 k l v (chV l 0) n p).bind fun a p=>match a with
  | .over=>.ok () p
  | .unfit=>bq k th l v p
  | .fr a=>(P0 k l v (chV l 1) n p).bind fun b p=>match b with
   | .over=>.ok () p
   | .unfit=>bq k th l v p
   | .fr b=>if(ci a b).2=0/\((ci a b).1.items.length:Int)<=bk then(aw k l v (ci a b).1 p).bind fun d p=>if d=true then G4 k n l p else .ok () p else bq k th l v p
def eA(bk k:Int)(n:Nat)(th:Lab->Pst->Rs Unit)(l:Lab)(g:s9)(p:Pst):Rs Unit:=
 if gk g 3=true then A4 k n l g.ver g.x p else if l.len<64 then M3 bk k n th l g.ver p else .ok () p
def dy(bk k:Int):Nat->Lab->Lab->Pst->Rs Unit
 |0,_,_,p=>.stop zWq p
 |n+1,l,up,p=>(M8 k l p).bind fun g p=>if gk g 5=true then(M8 k up p).bind fun q p=>
   (if(gk q 3||gk q 4)=true then eA bk k n (fun c p=>if R4 c=0 then dy bk k n c (Q5 c) p else .ok () p) up q p else .ok () p).bind fun _ p=>
    if gk q 2=true then(aw k l g.ver (asR 1 g.x 0).r.abs p).bind fun d p=>if d=true then .ok () p else dy bk k n l up p else .ok () p else .ok () p
def J6(bk k:Int)(n:Nat)(l:Lab)(p:Pst):Rs Unit:=if R4 l=0 then dy bk k n l (Q5 l) p else .ok () p
def aJ(bk k:Int)(n:Nat)(l:Lab)(g:s9)(p:Pst):Rs Unit:=eA bk k n (J6 bk k n) l g p
def J1(r:Rs Rsl):Wq×Int:=match r with
 | .ok a p=>if 0<p.n then(zWq,5)else(⟨4,⟨0,0⟩,0,k6,a⟩,0)
 | .stop w p=>if 0<p.n then(zWq,5)else(w,0)
def Suf(p p':Pst):Prop:=∃d,p'.n+d=p.n/\∀j,p'.g j=p.g (j+d)
theorem Suf.refl(p:Pst):Suf p p:=⟨0,rfl,fun _=>rfl⟩
theorem Suf.trans{p q r:Pst}(h:Suf p q)(h':Suf q r):Suf p r:=by
 obtain⟨d,h1,h2⟩:=h;obtain⟨e,h3,h4⟩:=h';exact⟨e+d,by omega,fun j=>by rw[h4,h2];congr 1;omega⟩
theorem Suf.le{p q:Pst}(h:Suf p q):q.n<=p.n:=by obtain⟨d,h1,_⟩:=h;omega
theorem HX{p:Pst}(h:0<p.n):Suf p p.tl:=⟨1,by simp only[Pst.tl];omega,fun _=>rfl⟩
def Fro{α : Type}(p:Pst)(r:Rs α):Prop:=match r with
 | .ok _ q=>Suf p q
 | .stop _ q=>Suf p q
theorem Fro.bind{α β : Type}{p:Pst}{m:Rs α}{f:α->Pst->Rs β}(h:Fro p m)(hf:∀a q,Suf p q->Fro q (f a q)):Fro p (m.bind f):=by
 cases m with
 |ok a q=>
  have h1:=hf a q h
  show Fro p (f a q)
  cases hr:f a q with
  |ok b r=>rw[hr]at h1;exact Suf.trans h h1
  |stop w r=>rw[hr]at h1;exact Suf.trans h h1
 |stop w q=>exact h
theorem cE(k:Int)(w:Wq)(p:Pst):Fro p (K8 k w p):=by
 unfold K8
 split
 .rename_i h;exact HX h.1
 exact Suf.refl _
theorem B1{α : Type}(a:α)(p:Pst):Fro p (Rs.ok a p):=Suf.refl p
theorem aI{α : Type}(w:Wq)(p:Pst):Fro p (Rs.stop w p:Rs α):=Suf.refl p
theorem l9{α : Type}{p:Pst}{c:Prop} [Decidable c]{x y:Rs α}(hx:Fro p x)(hy:Fro p y):Fro p (if c then x else y):=by split<;>assumption
theorem k8(k:Int)(l:Lab)(p:Pst):Fro p (M8 k l p):=cE _ _ _
theorem A5(k:Int)(l:Lab)(v:Int)(r:Rec)(p:Pst):Fro p (aw k l v r p):=(cE _ _ _).bind fun _ _ _=>B1 _ _
theorem dO(k:Int)(l:Lab)(v:Int)(p:Pst):Fro p (jd k l v p):=(cE _ _ _).bind fun _ _ _=>B1 _ _
theorem mQ(k:Int)(l:Lab)(v:Int)(c:Lab)(x:Rec):∀n p,Fro p (B9 k l v c x n p)
 |0,p=>aI _ _
 |n+1,p=>(k8 _ _ _).bind fun _ _ _=>l9 (B1 _ _) ((k8 _ _ _).bind fun _ _ _=>l9 ((A5 _ _ _ _ _).bind fun _ _ _=>l9 (B1 _ _) (mQ k l v c x n _)) (B1 _ _))
theorem jL(k:Int)(n:Nat)(l:Lab)(v:Int)(x:RA)(p:Pst):Fro p (A4 k n l v x p):=
 l9 ((mQ _ _ _ _ _ _ _).bind fun _ _ _=>l9 ((mQ _ _ _ _ _ _ _).bind fun _ _ _=>l9 ((A5 _ _ _ _ _).bind fun _ _ _=>B1 _ _) (B1 _ _)) (B1 _ _)) (B1 _ _)
theorem bj(k:Int)(l:Lab)(v:Int)(c:Lab):∀n p,Fro p (P0 k l v c n p)
 |0,p=>aI _ _
 |n+1,p=>(k8 _ _ _).bind fun _ _ _=>l9 (l9 (B1 _ _) ((k8 _ _ _).bind fun _ _ _=>l9 ((A5 _ _ _ _ _).bind fun _ _ _=>l9 (B1 _ _) (bj k l v c n _)) (B1 _ _))) (B1 _ _)
theorem sH(k:Int)(l:Lab)(cl:Lab->Pst->Rs Unit)(h:∀c p,Fro p (cl c p))(c:Lab)(p:Pst):Fro p (J0 k l cl c p):=
 (k8 _ _ _).bind fun _ _ _=>l9 ((h _ _).bind fun _ _ _=>(k8 _ _ _).bind fun _ _ _=>l9 ((dO _ _ _ _).bind fun _ _ _=>B1 _ _) (B1 _ _)) (B1 _ _)
theorem Z1(k:Int):∀n l p,Fro p (G4 k n l p)
 |0,l,p=>aI _ _
 |n+1,l,p=>l9 (B1 _ _) ((sH _ _ _ (Z1 k n) _ _).bind fun _ _ _=>l9 ((sH _ _ _ (Z1 k n) _ _).bind fun _ _ _=>B1 _ _) (B1 _ _))
theorem cD(k:Int)(th:Lab->Pst->Rs Unit)(h:∀c p,Fro p (th c p))(l:Lab)(v:Int)(p:Pst):Fro p (bq k th l v p):=
 (A5 _ _ _ _ _).bind fun _ _ _=>l9 ((h _ _).bind fun _ _ _=>h _ _) (B1 _ _)
theorem qD(bk k:Int)(n:Nat)(th:Lab->Pst->Rs Unit)(h:∀c p,Fro p (th c p))(l:Lab)(v:Int)(p:Pst):Fro p (M3 bk k n th l v p):=
 (bj _ _ _ _ _ _).bind fun a _ _=>match a with
  | .over=>B1 _ _
  | .unfit=>cD _ _ h _ _ _
  | .fr a=>(bj _ _ _ _ _ _).bind fun b _ _=>match b with
   | .over=>B1 _ _
   | .unfit=>cD _ _ h _ _ _
   | .fr b=>l9 ((A5 _ _ _ _ _).bind fun _ _ _=>l9 (Z1 _ _ _ _) (B1 _ _)) (cD _ _ h _ _ _)
theorem qE(bk k:Int)(n:Nat)(th:Lab->Pst->Rs Unit)(h:∀c p,Fro p (th c p))(l:Lab)(g:s9)(p:Pst):Fro p (eA bk k n th l g p):=
 l9 (jL _ _ _ _ _ _) (l9 (qD _ _ _ _ h _ _ _) (B1 _ _))
theorem iU(bk k:Int):∀n l up p,Fro p (dy bk k n l up p)
 |0,l,up,p=>aI _ _
 |n+1,l,up,p=>(k8 _ _ _).bind fun _ _ _=>l9 ((k8 _ _ _).bind fun _ _ _=>(l9 (qE _ _ _ _ (fun c p=>l9 (iU bk k n _ _ _) (B1 _ _)) _ _ _) (B1 _ _)).bind fun _ _ _=>l9 ((A5 _ _ _ _ _).bind fun _ _ _=>l9 (B1 _ _) (iU bk k n _ _ _)) (B1 _ _)) (B1 _ _)
theorem F9(bk k:Int)(n:Nat)(l:Lab)(p:Pst):Fro p (J6 bk k n l p):=l9 (iU _ _ _ _ _ _) (B1 _ _)
theorem R8(bk k:Int)(n:Nat)(l:Lab)(g:s9)(p:Pst):Fro p (aJ bk k n l g p):=qE _ _ _ _ (F9 _ _ _) _ _ _
theorem Fro.of{α : Type}{p q:Pst}{m:Rs α}{a:α}(h:Fro p m)(e:m = .ok a q):Suf p q:=by rw[e]at h;exact h
theorem Fro.ofs{α : Type}{p q:Pst}{m:Rs α}{w:Wq}(h:Fro p m)(e:m = .stop w q):Suf p q:=by rw[e]at h;exact h
theorem uY{k:Int}{w:Wq}{p q:Pst}{g:s9}(h:K8 k w p = .ok g q):0<p.n/\g=p.g 0/\q=p.tl:=by
 unfold K8 at h
 split at h
 .rename_i h0;injection h with h1 h2;exact⟨h0.1,h1.symm,h2.symm⟩
 cases h
theorem B7{k:Int}{l:Lab}{p q:Pst}{g:s9}(h:M8 k l p = .ok g q):q.n<p.n:=by
 obtain⟨h1,_,rfl⟩:=uY h;simp only[Pst.tl];omega
structure ay(x:RA):Prop where
 nx:U64 x.r.nx.bits
 key:∀i,i<x.r.n->U64 (x.r.f i).key
 few:x.r.n<=16
structure ew(g:s9):Prop where
 ra:ay g.x
 ver:U64 g.ver
structure zk(g:s9):Prop where
 code:g.code=0 \/ g.code=8
 rf:g.has=true->R6 g.x.r.kd g.x.r.n g.x.r.f g.x.r.nx g.x.r.mrk=true
 no:g.has=false->g.x.r.kd=0/\g.x.r.n=0/\g.x.r.nx=⟨0,0⟩/\g.x.r.mrk=0
theorem zk.kd{g:s9}(h:zk g)(hh:g.has=true):1<=g.x.r.kd/\g.x.r.kd<=5:=by
 obtain⟨h1,h2,_⟩:=bB (h.rf hh);exact⟨h1,h2⟩
def j3(p:Pst):Prop:=∀j,j<p.n->ew (p.g j)/\zk (p.g j)
theorem j3.suf{p q:Pst}(h:j3 p)(hs:Suf p q):j3 q:=by
 obtain⟨d,h1,h2⟩:=hs;intro j hj;rw[h2];exact h _ (by omega)
theorem j3.get{k:Int}{l:Lab}{p q:Pst}{g:s9}(h:j3 p)(e:M8 k l p = .ok g q):ew g:=by
 obtain⟨h1,rfl,_⟩:=uY e;exact(h 0 h1).1
theorem j3.getR{k:Int}{l:Lab}{p q:Pst}{g:s9}(h:j3 p)(e:M8 k l p = .ok g q):zk g:=by
 obtain⟨h1,rfl,_⟩:=uY e;exact(h 0 h1).2
theorem ay.as{x:RA}(h:ay x)(kd mk:Int):ay (asR kd x mk):=⟨h.nx,h.key,h.few⟩
theorem gM{k:Int}{l:Lab}{v:Int}{c:Lab}:∀{n:Nat} {p q:Pst} {x:RA},j3 p->P0 k l v c n p = .ok (.fr x) q->ay x
 |0,p,q,x,_,h=>by cases h
 |n+1,p,q,x,hp,h=>by
  unfold P0 at h
  cases h1:M8 k c p with
  |stop w p1=>rw[h1]at h;cases h
  |ok g p1=>
   rw[h1]at h;have hg:=(hp.get h1).ra;have hp1:=hp.suf ((k8 k c p).of h1);simp only[Rs.bind]at h
   split at h
   .split at h
    .injection h with h _;injection h with h;rw[<-h];exact hg
    cases h2:M8 k l p1 with
    |stop w p2=>rw[h2]at h;cases h
    |ok q2 p2=>
     rw[h2]at h;have hp2:=hp1.suf ((k8 k l p1).of h2);simp only[Rs.bind]at h
     split at h
     .cases h3:aw k c g.ver (asR 5 g.x v).r.abs p2 with
      |stop w p3=>rw[h3]at h;cases h
      |ok d p3=>
       rw[h3]at h;simp only[Rs.bind]at h
       split at h
       .injection h with h _;injection h with h;rw[<-h];exact hg.as _ _
       exact gM (hp2.suf ((A5 _ _ _ _ _).of h3)) h
     cases h
   cases h
end Go.Proofs.YtmbkanpapkhnaaaGreat.Sym
namespace Go.Proofs.YtmbkanpapkhnaaaGreat.Sym
open Go.RowKit
section
variable {C:Cx} {P:Program} {Q:Exit->Act->World->Prop} {T:List (Nat×TI)} {cs:List (Nat×CS)} {ops:Array Oper} {all:List Oper} {H:nI}
theorem Cq{listed:Array Bool}(hDC:∀k o,all[k]? = some o->listed.getD k false=true->∀e∈o.after.toList,Region.binds .any e=true->listed.getD e.on false=true){i j:Nat}(hr:E4 all i j):(∀o e,all[i]? = some o->e∈o.after.toList->Region.binds .any e=true->listed.getD e.on false=true)->listed.getD j false=true:=by
 induction hr with
 |one h1 h2 h3 h4=>intro hi;rw[<-h4];exact hi _ _ h1 h2 h3
 |more h1 h2 h3 h4 ih=>intro hi;exact ih fun o e g1 g2 g3=>hDC _ o g1 (hi _ _ h1 h2 h3) e g2 g3
theorem sY{tz:List Nat}(hops:ops=all.toArray)(htz:∀i j,kM tz i j=true->E4 all i j){n0:Nat}(hz:∀k,n0<=k->k<ops.size->∀j,j<k->kM tz k j=true)(hze:∀(k:Nat) (o:Oper),ops[k]? = some o->∀e∈o.after.toList,Region.binds .any e=true->e.on<k) :
  ∀(n k:Nat) (listed:Array Bool) (a:Act) (w:World),n0<=k->ops.size-k=n->k<=ops.size->listed.size=ops.size->(∀j,j<k->listed.getD j false=true)->(∀j,k<=j->j<ops.size->listed.getD j true=false) →
  (∀k o,all[k]? = some o->listed.getD k false=true->∀e∈o.after.toList,Region.binds .any e=true->listed.getD e.on false=true)->wpList P ops Q (all.drop k) a w->wpAny P .any ops Q n listed a w
 |0,k,listed,a,w,h0,hn,hk,hsz,hlo,hhi,hDC,hq=>by
  have hlen:all.length=ops.size:=by rw[hops];simp
  have:all.drop k=[]:=List.drop_eq_nil_of_le (by omega);rw[this]at hq;refine⟨?_,hq⟩
  cases hr:Region.ready .any ops listed with
  |nil=>rfl
  |cons i r=>
   obtain⟨h1,o,h2,_⟩:=mem_ready.1 (hr ▸ List.mem_cons_self:i∈Region.ready .any ops listed);have hi:=(Array.getElem?_eq_some_iff.1 h2).1;have:=hlo i (by omega);rw[Z0 h1]at this;cases this
 |n+1,k,listed,a,w,h0,hn,hk,hsz,hlo,hhi,hDC,hq=>by
  have hlen:all.length=ops.size:=by rw[hops];simp
  have hkl:k<ops.size:=by omega
  obtain⟨o,ho⟩:∃o,ops[k]? = some o:=⟨_,Array.getElem?_eq_getElem hkl⟩
  have hoa:all[k]? = some o:=by rw[hops]at ho;simpa using ho
  have hd:all.drop k=o::all.drop (k+1):=by
   have hka:k<all.length:=by omega
   rw[List.drop_eq_getElem_cons hka]
   congr 1
   exact(List.getElem?_eq_some_iff.1 hoa).2
  refine⟨fun hr=>?_,fun i hi=>?_⟩
  .exfalso
   have:k∈Region.ready .any ops listed:=mem_ready.2 ⟨hhi k (Nat.le_refl _) hkl,o,ho,fun e he hb=>hlo _ (hze k o ho e (by simpa using he) hb)⟩;rw[hr]at this;cases this
  obtain⟨h1,o',h2,h3⟩:=mem_ready.1 hi;have hil:=(Array.getElem?_eq_some_iff.1 h2).1;have hik:i=k:=by
   refine Decidable.byContradiction fun hne=>?_
   by_cases hlt:i<k
   .have:=hlo i hlt
    rw[Z0 h1]at this;cases this
   have hw:=htz _ _ (hz i (by omega) hil k (by omega));have h4:=Cq hDC hw (fun o'' e g1 g2 g3=>by
    have:o''=o':=by
     have e1:ops[i]? = some o'':=by rw[hops];simpa using g1
     rw[h2]at e1;injection e1 with e1;exact e1.symm
    subst this;exact h3 e (by simpa using g2) g3)
   have:=hhi k (Nat.le_refl _) hkl;rw[Z0 this]at h4;cases h4
  subst hik;have:o'=o:=by rw[ho]at h2;injection h2 with h2;exact h2.symm
  subst this;have fin:∀a w,wpList P ops Q (all.drop (i+1)) a w->wpAny P .any ops Q n (listed.setIfInBounds i true) a w:=by
   intro a w hq';refine sY hops htz hz hze n (i+1) _ a w (by omega) (by omega) (by omega) (by simpa using hsz) (fun j hj=>?_) (fun j hj hj'=>?_) (fun k2 ok hk2 hu e he hb=>?_) hq'
   .by_cases hji:j=i
    .subst hji;simp[Array.getD_eq_getD_getElem?,hsz,hil]
    rw[getD_set_ne false (fun e'=>hji e'.symm)];exact hlo j (by omega)
   .rw [getD_set_ne true (by omega)];exact hhi j (by omega) hj'
   have hon:listed.getD e.on false=true:=by
    by_cases hki:k2=i
    .subst hki
     have:ok=o':=by
      have e1:ops[k2]? = some ok:=by rw[hops];simpa using hk2
      rw[h2]at e1;injection e1 with e1;exact e1.symm
     subst this;exact h3 e (by simpa using he) hb
    rw[getD_set_ne false (fun e'=>hki e'.symm)]at hu;exact hDC k2 ok hk2 hu e he hb
   by_cases hei:e.on=i
   .rw [hei];simp[Array.getD_eq_getD_getElem?,hsz,hil]
   rw[getD_set_ne false (fun e'=>hei e'.symm)];exact hon
  rw[hd]at hq;unfold wpOp;simp only[h2];unfold wpList at hq
  by_cases hw:Region.wanted o' (yielded ops a.tmps)=true
  .rw [if_pos hw]at hq ⊢
   exact hq.imp (Oper.wp_mono fin) id
  rw[if_neg hw]at hq ⊢;exact fin _ _ hq
theorem wZ{tb tz:List Nat}(hT:o7 P T)(hops:ops=all.toArray)(htb:∀i j,kM tb i j=true->E4 all i j)(htz:∀i j,kM tz i j=true->E4 all i j)(hH:cM C P all H){n0:Nat}(hz:∀k,n0<=k->k<ops.size->∀j,j<k->kM tz k j=true)(hze:∀(k:Nat) (o:Oper),ops[k]? = some o->∀e∈o.after.toList,Region.binds .any e=true->e.on<k)(hz4:n0<=ops.size):∀(n:Nat) (L:List (Nat×Oper)) (fs:List F7) (listed:Array Bool) (s:St) (a:Act) (w:World),L.length=n->i5 C s a w->NM s (ds fs)->Ord fs->vd tb L fs->(∀k o,all[k]? = some o->listed.getD k false=true->∀e∈o.after.toList,Region.binds .any e=true->listed.getD e.on false=true) →
  L.Pairwise (fun x y=>x.1<y.1)->(∀x∈L,ops[x.1]? = some x.2/\listed.getD x.1 true=false)->(∀k o,k<n0->ops[k]? = some o->listed.getD k true=false->(k,o)∈L)->(∀k,n0<=k->k<ops.size->listed.getD k true=false)->(∀x∈L,x.1<n0)->listed.size=ops.size →
  (∀x∈L,∀e∈x.2.after.toList,Region.binds .any e=true->e.on<x.1) →
  (∀X,∃τ obs,K7 std T cs H X all L s=some (τ,obs,fs)/\i7 P C.K obs/\∀a' w',i5 C τ a' w'->wpList P ops Q (all.drop n0) a' w')->wpAny P .any ops Q (n+(ops.size-n0)) listed a w
 |0,L,fs,listed,s,a,w,hn,h,hNM,Z,hP,hDC,hsr,hL,hA,hZ,hLn,hsz,hE,hs=>by
  have:L=[]:=List.eq_nil_of_length_eq_zero hn;subst this;obtain⟨τ,obs,e1,_,e2⟩:=hs (fun _=>⟨0,fun _=>none,fun _=>0,fun _=>.empty⟩);simp only[K7,Option.some.injEq,Prod.mk.injEq]at e1;obtain⟨rfl,_⟩:=e1;rw[Nat.zero_add];refine sY hops htz hz hze (ops.size-n0) n0 listed a w (Nat.le_refl _) rfl hz4 hsz (fun k hk=>?_) hZ hDC (e2 a w h)
  by_cases hl:listed.getD k false=true
  .exact hl
  have:=hA k _ hk (Array.getElem?_eq_getElem (by omega)) (iR (by rw[hsz];omega) hl)
  cases this
 |n+1,L,fs,listed,s,a,w,hn,h,hNM,Z,hP,hDC,hsr,hL,hA,hZ,hLn,hsz,hE,hs=>by
  rw[show n+1+(ops.size-n0)=(n+(ops.size-n0))+1 by omega];refine⟨fun hr=>?_,fun i hi=>?_⟩
  .-- the first one that is left may come up
   exfalso
   cases L with
   |nil=>cases hn
   |cons x L=>
    obtain⟨i0,o0⟩:=x;obtain⟨h1,h2⟩:=hL (i0,o0) (by simp);have:i0∈Region.ready .any ops listed:=mem_ready.2 ⟨h2,o0,h1,fun e he hb=>by
     have hlt:=hE (i0,o0) (by simp) e (by simpa using he) hb;simp only at hlt;have hi0:i0<ops.size:=(Array.getElem?_eq_some_iff.1 h1).1;have hon:e.on<listed.size:=by rw[hsz];omega
     by_cases hl:listed.getD e.on false=true
     .exact hl
     exfalso
     have hm:=hA e.on _ (by have:=hLn (i0,o0) (by simp);simp only at this;omega) (Array.getElem?_eq_getElem (by omega)) (iR hon hl)
     rcases List.mem_cons.1 hm with he'|hm
     .injection he' with he';omega
     have:=(List.pairwise_cons.1 hsr).1 _ hm;simp only at this;omega⟩
    rw[hr]at this
    cases this
  obtain⟨h1,o,h2,h3⟩:=mem_ready.1 hi;have hi0:i<n0:=by
   refine Decidable.byContradiction fun hni=>?_
   cases L with
   |nil=>cases hn
   |cons x L=>
    have hx0:=hLn x (by simp);have hw:=htz _ _ (hz i (by omega) (Array.getElem?_eq_some_iff.1 h2).1 x.1 (by omega));have h4:=Cq hDC hw (fun o' e g1 g2 g3=>by
     have:o'=o:=by
      have e1:ops[i]? = some o':=by rw[hops];simpa using g1
      rw[h2]at e1;injection e1 with e1;exact e1.symm
     subst this;exact h3 e (by simpa using g2) g3)
    have q5:=(hL x (by simp)).2;rw[Z0 q5]at h4
    cases h4
  have hio:all[i]? = some o:=by rw[hops]at h2;simpa using h2
  have hin:=hA i o hi0 h2 h1;obtain⟨L1,L2,rfl⟩:=List.append_of_mem hin;obtain⟨fs1,f,fs2,hlen,rfl⟩:∃fs1 f fs2,fs1.length=L1.length/\fs=fs1++f::fs2:=by
   have hl:=hP.1;simp only[List.length_append,List.length_cons]at hl;have hlt:L1.length<fs.length:=by omega
   refine⟨fs.take L1.length,fs[L1.length],fs.drop (L1.length+1),by simp;omega,?_⟩;rw[<-List.drop_eq_getElem_cons hlt,List.take_append_drop]
  obtain⟨hP1,hcm⟩:=dD hlen hP.2;have hcomm:∀g∈fs1,jk g f=true:=by
   intro g hg;obtain⟨k,hk⟩:=List.getElem?_of_mem hg;have hkl:k<L1.length:=by rw[<-hlen];exact(List.getElem?_eq_some_iff.1 hk).1
   rcases hcm k _ g (List.getElem?_eq_getElem hkl) hk with he|he
   .exfalso
    have h5:=(hL L1[k] (List.mem_append_left _ (List.getElem_mem hkl))).2;have hr:=htb _ _ he;have dc:∀{i j:Nat},E4 all i j->(∀o e,all[i]? = some o->e∈o.after.toList->Region.binds .any e=true->listed.getD e.on false=true)->listed.getD j false=true:=by
     intro i j hr
     induction hr with
     |one h1 h2 h3 h4=>intro hi;rw[<-h4];exact hi _ _ h1 h2 h3
     |more h1 h2 h3 h4 ih=>intro hi;exact ih fun o e g1 g2 g3=>hDC _ o g1 (hi _ _ h1 h2 h3) e g2 g3
    have h4:=dc hr fun o' e g1 g2 g3=>by
     have:o'=o:=by
      have e1:ops[i]? = some o':=by rw[hops];simpa using g1
      rw[h2]at e1;injection e1 with e1;exact e1.symm
     subst this;exact h3 e (by simpa using g2) g3
    rw[Z0 h5]at h4
    cases h4
   exact he
  have mf:∀X,∃δ ob,P2 std T cs H (X i) all i o s=some (δ,ob,f)/\i7 P C.K ob/\∃τ' obs',K7 std T cs H X all (L1++L2) (s.app δ)=some (τ',obs',fs1++fs2)/\i7 P C.K obs'/\∀a' w',i5 C τ' a' w'->wpList P ops Q (all.drop n0) a' w':=by
   intro X;obtain⟨τ,obs,e1,e2,e3⟩:=hs X;obtain⟨δ,ob,g1,τ',obs',g2,g3,g4⟩:=gF (P:=P) e1 hlen hNM Z hcomm;exact⟨δ,ob,g1,(g4 e2).1,τ',obs',g2,(g4 e2).2,fun a' w' hf=>e3 a' w' (hf.alike g3)⟩
  have hsrt:(L1++L2).Pairwise (fun x y=>x.1<y.1):=hsr.sublist (List.Sublist.append_left (List.sublist_cons_self _ _) _);have hnot:∀x∈L1++L2,x.1≠i:=by
   intro x hx;rw[List.pairwise_append]at hsr;obtain⟨p1,p2,p3⟩:=hsr
   rcases List.mem_append.1 hx with hx|hx
   .have:=p3 x hx (i,o) (by simp);simp only at this;omega
   have:=(List.pairwise_cons.1 p2).1 x hx;simp only at this;omega
  have key:=oW (C:=C) (K:=fun a' w'=>wpAny P .any ops Q (n+(ops.size-n0)) (listed.setIfInBounds i true) a' w') (Q:=Q) (cs:=cs) (i:=i) (o:=o) hT hH hio hops h (fun x=>by
   obtain⟨δ,ob,g1,g2,_⟩:=mf (fun _=>x);exact⟨_,g1,g2⟩) (fun x r a' w' hr hf=>by
   have hfo:=aN hr;obtain⟨δ,ob,f'⟩:=r;obtain⟨δ0,ob0,g0,_⟩:=mf (fun _=>x);rw[hr]at g0;injection g0 with g0;injection g0 with q1 q2;injection q2 with q2 q3
   subst q1;subst q2;subst q3;have hinF:∀g∈fs1++fs2,g∈fs1++f'::fs2:=fun g hg=>by
    rcases List.mem_append.1 hg with hg|hg
    .exact List.mem_append_left _ hg
    exact List.mem_append_right _ (List.mem_cons_of_mem _ hg)
   obtain⟨n1,n2⟩:=eU hfo (gs:=fs1++fs2) hNM (by simp) hinF (fun g hg=>by
    rcases List.mem_append.1 hg with hg|hg
    .have:=hcomm g hg
     simp only[jk,Bool.and_eq_true]at this;exact this.1.1.1.1.1.1.1.1.1
    exact(List.pairwise_cons.1 (List.pairwise_append.1 Z).2.1).1 g hg)
   refine wZ hT hops htb htz hH hz hze hz4 n (L1++L2) (fs1++fs2) (listed.setIfInBounds i true) (s.app δ) a' w' ?_ hf n2 ?_ ?_ ?_ hsrt ?_ ?_ (fun k hk hk'=>by rw[getD_set_ne true (by omega)];exact hZ k hk hk') ?_ (by simpa using hsz) ?_ ?_
   .simp at hn ⊢;omega
   .exact Z.sublist (List.Sublist.append_left (List.sublist_cons_self _ _) _)
   .refine ⟨?_,hP1⟩
    have:=hP.1;simp at this ⊢;omega
   .intro k ok hk hu e he hb
    by_cases hki:k=i
    .subst hki
     have:ok=o:=by
      have e1:ops[k]? = some ok:=by rw[hops];simpa using hk
      rw[h2]at e1;injection e1 with e1;exact e1.symm
     subst this;have hl:=h3 e (by simpa using he) hb
     by_cases hei:e.on=k
     .have:=hE (k,ok) hin e he hb
      simp only at this;omega
     rw[getD_set_ne false (fun e'=>hei e'.symm)];exact hl
    rw[getD_set_ne false (fun e'=>hki e'.symm)]at hu;have hl:=hDC k ok hk hu e he hb
    by_cases hei:e.on=i
    .rw [hei]at hl
     have h5:=(hL (i,o) hin).2;simp only at h5;rw[Z0 h5]at hl;cases hl
    rw[getD_set_ne false (fun e'=>hei e'.symm)];exact hl
   .intro x' hx
    have hx':x'∈L1++(i,o)::L2:=by
     rcases List.mem_append.1 hx with hx|hx
     .exact List.mem_append_left _ hx
     exact List.mem_append_right _ (List.mem_cons_of_mem _ hx)
    obtain⟨e1,e2⟩:=hL x' hx';refine⟨e1,?_⟩;rw[getD_set_ne true (fun e=>hnot x' hx e.symm)];exact e2
   .intro k ok hkn hk hu
    by_cases hki:k=i
    .subst hki
     have hlt:k<listed.size:=by rw[hsz];exact(Array.getElem?_eq_some_iff.1 h2).1
     simp[Array.getD_eq_getD_getElem?,hlt]at hu
    rw[getD_set_ne true (fun e=>hki e.symm)]at hu;have:=hA k ok hkn hk hu
    rcases List.mem_append.1 this with hx|hx
    .exact List.mem_append_left _ hx
    rcases List.mem_cons.1 hx with hx|hx
    .injection hx with hx;exact absurd hx hki
    exact List.mem_append_right _ hx
   .intro x' hx
    refine hLn x' ?_
    rcases List.mem_append.1 hx with hx|hx
    .exact List.mem_append_left _ hx
    exact List.mem_append_right _ (List.mem_cons_of_mem _ hx)
   .intro x' hx
    refine hE x' ?_
    rcases List.mem_append.1 hx with hx|hx
    .exact List.mem_append_left _ hx
    exact List.mem_append_right _ (List.mem_cons_of_mem _ hx)
   intro X;obtain⟨Y,hY,hYX⟩:∃Y:Nat->j8,Y i=x/\∀j,j≠i->Y j=X j:=⟨fun j=>if j=i then x else X j,by simp,fun j hj=>by simp[hj]⟩
   obtain⟨δ1,ob1,g1,_,τ',obs',g2,g3,g4⟩:=mf Y;rw[hY,hr]at g1;injection g1 with g1;injection g1 with q1 _
   subst q1;rw[fk _ _ (fun x' hx=>hYX x'.1 (hnot x' hx))]at g2;exact⟨τ',obs',g2,g3,g4⟩)
  unfold wpOp;simp only[h2]
  by_cases hw:Region.wanted o (yielded ops a.tmps)=true
  .rw [if_pos hw]at key ⊢
   exact .inl key
  rw[if_neg hw]at key ⊢;exact key
def gi(all:List Oper)(n0:Nat):Bool:=Nat.ble n0 all.length&&(dS (o9 0 all)&&(List.range all.length).all fun k=>Nat.blt k n0||(List.range k).all fun j=>kM (fY all []) k j)
theorem nh{s:St}{a:Act}{w:World}{all:List Oper}(n0:Nat)(H:nI)(hH:cM C P all H)(hT:o7 P T)(kp km:List Nat)(cs:List (Nat×CS))(h:i5 C s a w)(hgs:s.gs=[])(fs:List F7)(hD:cG (all.take n0) fs=true)(hZ:gi all n0=true)(hlen:(all.take n0).length=fs.length)
  {R:Alg->(Nat->j8)->St×List Ob}
  (hex:∀A X,(K7 A T cs H X all (o9 0 (all.take n0)) s).map (fun r=>((r.1.keep kp km,r.2.1),r.2.2))=some (R A X,fs)) (hob:∀X,i7 P C.K (R std X).2) (hQ:∀X a' w',i5 C (R std X).1 a' w'->wpList P all.toArray Q (all.drop n0) a' w'):wpAny P .any all.toArray Q all.toArray.size (Array.replicate all.toArray.size false) a { w with drawn:=w.drawn+1 }:=by
 simp only[cG,Bool.and_eq_true]at hD;obtain⟨⟨d1,d2⟩,d3⟩:=hD;simp only[gi,Bool.and_eq_true,Nat.ble_eq]at hZ;obtain⟨hn0,hZe,hZ⟩:=hZ;have hf:i5 C s a { w with drawn:=w.drawn+1 }:=h.world (fun _ _ _=>rfl) (fun _ _ _ _ _=>rfl) ⟨h.chg.os,h.chg.tape,h.chg.output,h.chg.size,h.chg.block⟩ (fun _ _ _ hc _=>hc) (fun _ _ h _=>h);have hnl:∀(l:List Oper) (i:Nat),(o9 i l).length=l.length:=by
  intro l
  induction l with
  |nil=>intro i;rfl
  |cons o l ih=>intro i;simp[o9,ih]
 have htk:(all.take n0).length=n0:=by simp;omega
 have hsz:all.toArray.size=(o9 0 (all.take n0)).length+(all.toArray.size-n0):=by rw[hnl,htk];simp;omega
 have hgt:∀{k o},(all.take n0)[k]? = some o->all[k]? = some o/\k<n0:=by
  intro k o hk;have hlt:=(List.getElem?_eq_some_iff.1 hk).1;rw[htk]at hlt;rw[List.getElem?_take,if_pos hlt]at hk;exact⟨hk,hlt⟩
 have hlst:∀k (b:Bool),k<all.length->(Array.replicate all.toArray.size false).getD k b=false:=by
  intro k b hk;have:k<all.toArray.size:=by simpa using hk
  simp[Array.getD_eq_getD_getElem?,hk]
 have hmk:∀i j,kM (fY (all.take n0) []) i j=true->E4 all i j:=by
  intro i j hij;have:=eW (all:=all.take n0) (l:=all.take n0) (tb:=[]) rfl (fun i j h=>by simp at h) i j hij;have conv:∀{i j},E4 (all.take n0) i j->E4 all i j:=by
   intro i j hw
   induction hw with
   |one h1 h2 h3 h4=>exact .one (hgt h1).1 h2 h3 h4
   |more h1 h2 h3 h4 ih=>exact .more (hgt h1).1 h2 h3 ih
  exact conv this
 have ed:∀(L:List (Nat×Oper)),dS L=true->∀x∈L,∀e∈x.2.after.toList,Region.binds .any e=true->e.on<x.1:=by
  intro L
  induction L with
  |nil=>intro _ x hx;cases hx
  |cons y L ih=>
   obtain⟨i,o⟩:=y;intro hL x hx e he hb;simp only[dS,Bool.and_eq_true]at hL
   rcases List.mem_cons.1 hx with rfl|hx
   .have:=List.all_eq_true.1 hL.1 e he
    simpa[hb]using this
   exact ih hL.2 x hx e he hb
 have e0:all.toArray.size=(Array.replicate all.toArray.size false).size:=by simp
 rw[show wpAny P .any all.toArray Q all.toArray.size=wpAny P .any all.toArray Q ((o9 0 (all.take n0)).length+(all.toArray.size-n0))by rw[<-hsz]];refine wZ (cs:=cs) (all:=all) (tb:=fY (all.take n0) []) (tz:=fY all []) hT rfl hmk (eW (all:=all) (l:=all) (tb:=[]) rfl (fun i j h=>by simp at h)) hH (n0:=n0) (fun k hk hk' j hj=>?_) (fun k o hk e he hb=>?_) (by simpa using hn0) _ (o9 0 (all.take n0)) fs _ s a _ rfl hf (fun t p v hl=>by rw[hgs]at hl;cases hl) ?_ ⟨by rw[hnl];exact hlen,d1⟩ ?_ (aB _ 0) ?_ ?_ ?_ ?_ ?_ ?_ ?_
 .have:=List.all_eq_true.1 hZ k (List.mem_range.2 (by simpa using hk'))
  simp only[Bool.or_eq_true,Nat.blt_eq]at this
  rcases this with h|h
  .omega
  exact List.all_eq_true.1 h j (List.mem_range.2 hj)
 .have:=bO (i:=0) (l:=all) (k:=k) (o:=o) (by simpa using hk)
  rw[Nat.zero_add]at this;exact ed _ hZe (k,o) this e he hb
 .exact kZ d3
 .intro k o hk hu
  exfalso
  rw[hlst k false (List.getElem?_eq_some_iff.1 hk).1]at hu
  cases hu
 .intro x hx
  obtain⟨h1,h2⟩:=aj hx;rw[Nat.sub_zero]at h2;obtain⟨h3,_⟩:=hgt h2;exact⟨by simpa using h3,hlst _ _ (List.getElem?_eq_some_iff.1 h3).1⟩
 .intro k o hkn hk _
  have hk':(all.take n0)[k]? = some o:=by rw[List.getElem?_take,if_pos hkn];simpa using hk
  have:=bO (i:=0) (l:=all.take n0) (k:=k) (o:=o) hk'
  rwa[Nat.zero_add]at this
 .intro k _ hk
  exact hlst _ _ (by simpa using hk)
 .intro x hx
  obtain⟨h1,h2⟩:=aj hx;rw[Nat.sub_zero]at h2;exact(hgt h2).2
 .simp
 .exact ed _ d2
 intro X;obtain⟨r,hr,e⟩:=Option.map_eq_some_iff.1 (hex std X);obtain⟨τ,obs,fs'⟩:=r;simp only[Prod.mk.injEq]at e;obtain⟨e1,rfl⟩:=e;refine⟨τ,obs,hr,?_,fun a' w' hf'=>hQ X a' w' ?_⟩
 .have:=hob X;rw[<-e1]at this;exact this
 rw[<-e1];exact hf'.keep kp km
theorem yM{s:St}{a:Act}{w:World}{id:Nat}{all:List Oper}(n0:Nat)(H:nI)(hH:cM C P all H)(hm:P.follows .mixedOrders=true)(hT:o7 P T)(kp km:List Nat)(cs:List (Nat×CS))(h:i5 C s a w)(hgs:s.gs=[])(fs:List F7)(hD:cG (all.take n0) fs=true)(hZ:gi all n0=true)(hlen:(all.take n0).length=fs.length)
  {R:Alg->(Nat->j8)->St×List Ob}
  (hex:∀A X,(K7 A T cs H X all (o9 0 (all.take n0)) s).map (fun r=>((r.1.keep kp km,r.2.1),r.2.2))=some (R A X,fs)) (hob:∀X,i7 P C.K (R std X).2) (hQ:∀X a' w',i5 C (R std X).1 a' w'->wpList P all.toArray Q (all.drop n0) a' w'):(Code.region id all.toArray true).wp P Q a w:=
 wp_region_any hm (nh n0 H hH hT kp km cs h hgs fs hD hZ hlen hex hob hQ)
theorem ng{s:St}{a:Act}{w:World}{id:Nat}{all:List Oper}{B:Alg}(O:B=std)(n0:Nat)(H:nI)(hH:cM C P all H)(hm:P.follows .mixedOrders=true)(hT:o7 P T)(kp km:List Nat)(cs:List (Nat×CS))(h:i5 C s a w)(hgs:s.gs=[])(fs:List F7)(hD:cG (all.take n0) fs=true)(hZ:gi all n0=true)(hlen:(all.take n0).length=fs.length)
  {R:Alg->(Nat->j8)->St×List Ob}
  (hex:∀A X,(K7 A T cs H X all (o9 0 (all.take n0)) s).map (fun r=>((r.1.keep kp km,r.2.1),r.2.2))=some (R A X,fs)) (hob:∀X,i7 P C.K (R B X).2) (hQ:∀X a' w',i5 C (R B X).1 a' w'->wpList P all.toArray Q (all.drop n0) a' w'):(Code.region id all.toArray true).wp P Q a w:=by
 subst O;exact yM n0 H hH hm hT kp km cs h hgs fs hD hZ hlen hex hob hQ
end
section
variable {C:Cx} {P:Program} {Q:Exit->Act->World->Prop} {T:List (Nat×TI)} {s:St} {a:Act} {w:World} {B:Alg}
theorem d3{id:Nat}{all:List Oper}{R:Alg->(Nat->j8)->St×List Ob}{fs:List F7}(n0:Nat)(O:B=std)(hT:o7 P T)(kp km:List Nat)(cs:List (Nat×CS))(h:i5 C s a w)(hQ:∀X a' w',i5 C (R B X).1 a' w'->wpList P all.toArray Q (all.drop n0) a' w')(hm:P.follows .mixedOrders=true:=by kernel_rfl)(hgs:s.gs=[]:=by rfl)
  (hex:∀A X,(K7 A T cs none X all (o9 0 (all.take n0)) s).map (fun r=>((r.1.keep kp km,r.2.1),r.2.2))=some (R A X,fs):=by intro A X;conv=>lhs;cbv) (hD:cG (all.take n0) fs=true:=by kernel_rfl) (hZ:gi all n0=true:=by kernel_rfl) (hlen:(all.take n0).length=fs.length:=by rfl) (hob:∀X,i7 P C.K (R B X).2:=by
   intro X;subst O
   first
   |exact trivial
   |(simp only[i7,Ob.holds,BE.den]<;>and_intros<;>(repeat first|trivial|rfl|exact O1|exact O2|exact O3|exact(fun _ _=>by kernel_rfl)|exact O1 _ _ _ rfl|exact O2 _ _ _ rfl|refine⟨?_,?_⟩|intro h|decide|omega)<;>done)
   |(simp[i7,Ob.holds,BE.den,std,d4,j0]<;>omega)):(Code.region id all.toArray true).wp P Q a w:=ng O n0 none L5 hm hT kp km cs h hgs fs hD hZ hlen hex hob hQ
end
theorem F0{P:Program}{Q:Exit->Act->World->Prop}{c:Code}{n:Nat}{a:Act}{w:World}(h:c.wp P (Exit.then (Code.rounds P c Q n) Q) a w):Code.rounds P c Q (n+1) a w:=h
theorem l5{P:Program}{Q:Exit->Act->World->Prop}{c:Code}{n:Nat}{a:Act}{w:World}(h:c.wp P (Exit.then (Code.rounds P c Q n) Q) a w):Exit.then (Code.rounds P c Q (n+1)) Q .normal a w:=h
inductive jr where
 |ret (r:CR)
 |thr (t:Nat) (v:AV) (sets:List (Nat×List AV))
def KK(m:Nat->Nat->Prop)(w:World)(pre:List (Nat×Blk))(e:Ending)(w':World):jr->Prop
 | .ret r=>e = .returned r.v.den/\Ok (mN m r.news) w' r.v/\js m w w' pre r.sets r.news
 | .thr t v sets=>e = .panicked [{ v:=.iface t v.den,recovered:=false }]/\Ok m w' v/\js m w w' pre sets []
def et(m:Nat->Nat->Prop)(w:World)(pre:List (Nat×Blk))(out:j8->jr)(e:Ending)(w':World):Prop:=∃x,KK m w pre e w' (out x)
def U5(P:Program)(f:FuncId)(args:List AV)(pre:List (Nat×Blk))(out:j8->jr):Prop:=
 ∀(m:Nat->Nat->Prop) (w:World),(∀b o,m b o->b<w.heap.size)->(∀v∈args,Ok m w v)->R1 m w pre->Calls P f (args.map AV.den).toArray w (et m w pre out)
theorem U5.x{P:Program}{f:FuncId}{args:List AV}{pre:List (Nat×Blk)}{out:j8->jr}{res:j8->CR}(h:U5 P f args pre out)(e:∀x,out x = .ret (res x)):C1 P f args pre res:=by
 intro m w h1 h2 h3;refine(h m w h1 h2 h3).mono ?_
 rintro e' w' ⟨x,hx⟩
 rw[e x]at hx;exact⟨x,hx⟩
theorem C1.t{P:Program}{f:FuncId}{args:List AV}{pre:List (Nat×Blk)}{out:j8->jr}{res:j8->CR}(h:C1 P f args pre res)(e:∀x,out x = .ret (res x)):U5 P f args pre out:=by
 intro m w h1 h2 h3;refine(h m w h1 h2 h3).mono ?_
 rintro e' w' ⟨x,hx⟩
 exact⟨x,by rw[e x];exact hx⟩
theorem uj(m:Nat->Nat->Prop):mN m []=m:=by
 funext b o
 apply propext;exact⟨fun h=>h.resolve_right fun⟨e,he,_⟩=>(by cases he),.inl⟩
def CP(pre':List (Nat×Blk)):jr->jr->Prop
 | .ret r,.ret r'=>r'.sets.map (·.2)=r.sets.map (·.2)/\r'.sets.map (·.1)=pre'.map (·.1)/\Sim r.v r'.v/\r'.news.map (·.2)=r.news.map (·.2)
 | .thr t v sets,.thr t' v' sets'=>t'=t/\Sim v v'/\sets'.map (·.2)=sets.map (·.2)/\sets'.map (·.1)=pre'.map (·.1)
 |_,_=>False
theorem U5.re{P:Program}{f:FuncId}{args args':List AV}{pre pre':List (Nat×Blk)}{out out':j8->jr}(h:U5 P f args pre out)(ha:G3 args' args)(hp:pre'.map (·.2)=pre.map (·.2))(hr:∀x,CP pre' (out x) (out' x)):U5 P f args' pre' out':=by
 intro m w h1 h2 h3;rw[ha.map];refine(h m w h1 (ha.ok h2) (h3.re hp.symm)).mono ?_
 rintro e w' ⟨x,hx⟩
 refine⟨x,?_⟩;have hrx:=hr x
 cases ho:out x with
 |ret r=>
  cases ho':out' x with
  |ret r'=>
   rw[ho]at hx hrx;rw[ho']at hrx;obtain⟨r1,r2,r3,r4⟩:=hrx;obtain⟨rfl,hok,hl⟩:=hx;have hm:mN m r'.news=mN m r.news:=by funext b o;simp only[mN,dW r4]
   exact⟨by rw[r3.1],by rw[hm];exact r3.2.2 _ _ hok,hl.re hp r1 r2 r4⟩
  |thr t v sets=>rw[ho,ho']at hrx;exact hrx.elim
 |thr t v sets=>
  cases ho':out' x with
  |ret r'=>rw[ho,ho']at hrx;exact hrx.elim
  |thr t' v' sets'=>
   rw[ho]at hx hrx;rw[ho']at hrx;obtain⟨rfl,r3,r1,r2⟩:=hrx;obtain⟨rfl,hok,hl⟩:=hx;exact⟨by rw[r3.1],r3.2.2 _ _ hok,hl.re hp r1 r2 rfl⟩
section
variable {P:Program} {T:List (Nat×TI)} {s:St} {a:Act} {w:World}
theorem LH{Kk:Kn}(hT:o7 P T){m:Nat->Nat->Prop}{w0:World}{pre:List (Nat×Blk)}(h:i5 ⟨m,w0,ats pre,[],Kk⟩ s a w){fn:Func}{out:j8->jr}{rs:List ResultVar}(hfn:fn.results=rs.toArray){r:List AV×List Ob}(hr:T5 T s rs=some r)(ho:i7 P Kk r.2)
  (x:j8) {cr:CR} (hout:out x = .ret cr) (ks:List Nat) (he:Sim (can (K0 r.1)) (can cr.v)) (hs:C2 s pre cr.sets) (hn:K6 s pre ks cr.news):bodyPost P fn (et m w0 pre out) .ret a w/\bodyPost P fn (et m w0 pre out) .normal a w:=by
 obtain⟨h1,h2⟩:=dI h hs hn;refine gq hT h rfl hfn hr ho fun hv=>⟨x,?_⟩
 rw[hout];exact⟨by rw[<-I6 (K0 r.1),he.1,I6],(L9 _).2 (he.2.2 _ _ ((L9 _).1 (h2 _ hv))),h1⟩
theorem zA{Kk:Kn}{m:Nat->Nat->Prop}{w0:World}{pre:List (Nat×Blk)}(h:i5 ⟨m,w0,ats pre,[],Kk⟩ s a w){fn:Func}{out:j8->jr}{t:Nat}{v v':AV}(hok:Ok (s.m ⟨m,w0,ats pre,[],Kk⟩) w v)(x:j8){sets:List (Nat×List AV)}(hout:out x = .thr t v' sets)(hv:Sim v v')(hs:C2 s pre sets) :
  bodyPost P fn (et m w0 pre out) (.panic [{ v:=.iface t v.den,recovered:=false }]) a w:=by
 obtain⟨h1,h2⟩:=dI h hs (ks:=[]) (news:=[]) trivial;refine⟨h.defers,x,?_⟩;rw[hout];have:=h2 _ (hv.2.2 _ _ hok);rw[uj]at this;exact⟨by rw[hv.1],this,h1⟩
end
section
variable {C:Cx} {P:Program} {Q:Exit->Act->World->Prop} {T:List (Nat×TI)} {all:List Oper}
def uE(all:List Oper)(s:St)(o:Oper):Bool:=match o.guard with
 |none=>true
 |some (j,want)=>match(all[j]?).bind (·.dst)with
  |none=>false
  |some g=>match M4 s.gs g with
   |some _=>false
   |none=>match look s.tmps g with
    | .bool .tt=>want
    | .bool .ff=>!want
    |_=>false
theorem ER{s:St}{a:Act}{w:World}{o:Oper}(h:i5 C s a w)(hg:uE all s o=true):Region.wanted o (yielded all.toArray a.tmps)=true:=by
 unfold uE at hg
 split at hg
 .rename_i hn;simp[Region.wanted,hn]
 rename_i j want hn
 split at hg
 .cases hg
 rename_i g hd
 split at hg
 .cases hg
 have hd':((all.toArray)[j]?).bind (·.dst)=some g:=by simpa using hd
 have hs:=h.slot g;have key:∀b,a.tmps[g]? = some (.bool b)->b=want->Region.wanted o (yielded all.toArray a.tmps)=true:=by
  intro b hb hw;simp only[Region.wanted,hn,yielded,hd',Option.bind_some,hb,hw];simp
 split at hg
 .rename_i e;rw[e]at hs
  exact key _ (hs rfl).1 hg.symm
 .rename_i e;rw[e]at hs
  refine key _ (hs rfl).1 ?_
  cases want<;>first|rfl|cases hg
 cases hg
theorem cU{s:St}{a:Act}{w:World}{L rest:List Oper}{o:Oper}{c:Call}{g:Operand}{f:FuncId}{l r args args':List AV}(hL:L=o::rest)(hg:uE all s o=true)(hop:o.op = .call c)(hcal:c.callee = .value g)(h:i5 C s a w)(hgv:val s [] g = .fn f l r)(hl:Y3 s [] c.args.toList=some args)(hen:l8 P f)
  {pre:List (Nat×Blk)} {out:j8->jr} (hsp:U5 P f args' pre out) (hsim:G3 (l++args++r) args') (hpre:∀e∈pre,j7 s.mem e.1=some e.2) (hnd:dE pre=true) (hd:gK s o.dst=true)
  (K:∀x w',match out x with
   | .ret cr=>∀a',i5 C ((s.eff (.sets (upd pre cr.sets++cr.news))).put o.dst cr.v) a' w'->wpList P all.toArray Q rest a' w'
   | .thr t v sets=>i5 C (s.eff (.sets (upd pre sets))) a w'->Ok ((s.eff (.sets (upd pre sets))).m C) w' v->Q (.panic [{ v:=.iface t v.den,recovered:=false }]) a w'):wpList P all.toArray Q L a w:=by
 subst hL;unfold wpList;rw[if_pos (ER h hg)];refine .inl ?_;obtain⟨hrun,hok⟩:=jn hop hcal h hgv hl hen;have hdist:=ao h hnd hpre;unfold Oper.wp;rw[hrun];simp only[Oper.upon];have:=hsp (s.m C) w (qm h) (hsim.ok hok) ⟨fun e he=>(h.mem _ _ (hpre e he)).1,fun e he=>(h.mem _ _ (hpre e he)).2.1,fun e he o=>.inr (.inl ⟨e.1,e.2,hpre e he,rfl⟩),hdist⟩;rw[<-hsim.map]at this;refine this.mono ?_
 rintro e w' ⟨x,hx⟩
 have hK:=K x w'
 cases ho:out x with
 |ret cr=>
  rw[ho]at hx hK;obtain⟨rfl,g1,g2⟩:=hx;obtain⟨f1,f2⟩:=h.called hdist hpre g2;refine hK _ (f1.put o.dst (fun t ht=>?_) cr.v (fun _=>f2 _ g1) _ fun _=>rfl);rw[nf];exact iP hd t ht
 |thr t v sets=>
  rw[ho]at hx hK;obtain⟨rfl,g1,g2⟩:=hx;obtain⟨f1,f2⟩:=h.called hdist hpre g2;rw[List.append_nil]at f1 f2;exact hK f1 (f2 _ (by rw[uj];exact g1))
end
end Go.Proofs.YtmbkanpapkhnaaaGreat.Sym
namespace Go.Proofs.YtmbkanpapkhnaaaGreat.Sym
open Go Go.RowKit
structure j4 where
 kind:Int
 lab:Lab
 key:Int
 hi:Int
 val:ByteArray
 most:Int
 pA:Option Addr
 pn:Nat
 pc:Nat
 pf:Nat->Int
 x1:Int
 x2:Int
 y1:Int
 y2:Int
 how:Int
 bucket:Int
 budget:Int
abbrev IX(J:j4):List AV:=[.int .i64 J.kind,.int .i64 J.lab.len,.int .u64 J.lab.bits,.int .u64 J.key,.int .u64 J.hi,.str J.val,.int .i64 J.most,.sl none J.pA J.pn J.pc 1 (fun i=>[.int .i64 (J.pf i)]),.int .u32 J.x1,.int .u32 J.x2,.int .u32 J.y1,.int .u32 J.y2,.int .i64 J.how,.int .i64 J.bucket,.int .i64 J.budget]
abbrev Z6(J:j4):AV:=.agg (IX J)
abbrev G1(J:j4)(A:Option Addr)(c:Nat)(p:Pst):List AV:=[.int .i64 J.kind,.int .i64 J.lab.len,.int .u64 J.lab.bits,.int .u64 J.key,.int .u64 J.hi,.str J.val,.int .i64 J.most,.sl none J.pA J.pn J.pc 1 (fun i=>[.int .i64 (J.pf i)]),.int .u32 J.x1,.int .u32 J.x2,.int .u32 J.y1,.int .u32 J.y2,.int .i64 J.how,.int .i64 J.bucket,.int .i64 J.budget,
 .sl none A p.n c 8 (fun j=>V2 (p.g j)),.int .i64 p.note.code,.bool (.v p.note.had),.str p.note.val,.sl none none 0 0 2 (fun _=>[]),.int .u64 0,.bool .ff]
def rq.abs(s:rq):Rsl:=⟨s.code,s.had,s.val,f5 s.f s.n,s.key,s.more⟩
def B0.absQ(q:B0):Wq:=⟨q.kind,q.lab,q.ver,q.x.r.abs,q.s.abs⟩
def wqA(x:j8)(w:Wq):B0:=⟨w.kind,w.lab,w.ver,⟨x.A 1,x.c 1,w.r.rn⟩,⟨w.res.code,w.res.had,w.res.val,x.A 2,w.res.items.length,x.c 2,itF w.res.items,w.res.key,w.res.more⟩⟩
theorem ip(A:Option Addr)(n c:Nat)(f:Nat->Itm):Sim (.sl none A n c 2 (fun i=>itC (f i))) (.sl none A (f5 f n).length c 2 (fun i=>itC (itF (f5 f n) i))):=
 Sim.resl (j2 f n).symm fun t ht=>by rw[j2]at ht;rw[u6 f n t ht]
theorem Df(q:B0)(x:j8)(h1:x.A 1=q.x.A)(h2:x.c 1=q.x.c)(h3:x.A 2=q.s.A)(h4:x.c 2=q.s.c):Sim (E5 q) (E5 (wqA x q.absQ)):=by
 unfold wqA;simp only[h1,h2,h3,h4];exact Sim.agg ⟨zr,zr,zr,zr,zr,ip _ _ _ _,zr,zr,zr,zr,zr,zr,ip _ _ _ _,zr,zr,trivial⟩
def jC{α : Type}(k0:Nat)(J:j4)(enc:α->AV)(r:Rs α)(x:j8):jr:=match r with
 | .ok a p=>.ret ⟨enc a,[(k0,G1 J (x.A 0) (x.c 0) p)],[]⟩
 | .stop w p=>.thr 40 (E5 (wqA x w)) [(k0,G1 J (x.A 0) (x.c 0) p)]
theorem Eh{α : Type}(k0 b:Nat)(J:j4)(enc:α->AV)(r:Rs α)(x:j8)(t:Nat)(cs:List AV):CP [(k0,⟨b,t,cs⟩)] (jC 0 J enc r x) (jC k0 J enc r x):=by
 cases r with
 |ok a p=>exact⟨rfl,rfl,zr,rfl⟩
 |stop w p=>exact⟨rfl,zr,rfl,rfl⟩
structure l6(J:j4):Prop where
 lo:-1000000<=J.budget
 hi:J.budget<=1000000
 lab:U64 J.lab.bits
 key:U64 J.key
 hik:U64 J.hi
abbrev k7:AV:=.tup []
def B3{α : Type}(f:FuncId)(k0 b:Nat)(J:j4)(A:Option Addr)(c:Nat)(p:Pst)(args:List AV)(enc:α->AV)(r:Rs α):Prop:=
 U5 Tryz.prog f (.ptr k0 b 0::args) [(k0,⟨b,139,G1 J A c p⟩)] (fun x=>jC k0 J enc r x)
theorem B3.ok{α : Type}{f:FuncId}{k0 b:Nat}{J:j4}{A:Option Addr}{c:Nat}{p q:Pst}{args:List AV}{enc:α->AV}{r:Rs α}{a:α}(h:B3 f k0 b J A c p args enc r)(e:r = .ok a q) :
  C1 Tryz.prog f (.ptr k0 b 0::args) [(k0,⟨b,139,G1 J A c p⟩)] (fun x=>⟨enc a,[(k0,G1 J (x.A 0) (x.c 0) q)],[]⟩):=by
 subst e;exact U5.x h fun _=>rfl
theorem B3.stop{α : Type}{f:FuncId}{k0 b:Nat}{J:j4}{A:Option Addr}{c:Nat}{p q:Pst}{args:List AV}{enc:α->AV}{r:Rs α}{w:Wq}(h:B3 f k0 b J A c p args enc r)(e:r = .stop w q) :
  U5 Tryz.prog f (.ptr k0 b 0::args) [(k0,⟨b,139,G1 J A c p⟩)] (fun x=>.thr 40 (E5 (wqA x w)) [(k0,G1 J (x.A 0) (x.c 0) q)]):=by
 subst e;exact h
theorem B3.re{α : Type}{f:FuncId}{k0 b:Nat}{J:j4}{A:Option Addr}{c:Nat}{p:Pst}{args args':List AV}{enc:α->AV}{r:Rs α}(h:B3 f 0 b J A c p args enc r)(ha:G3 args' args):B3 f k0 b J A c p args' enc r:=
 U5.re h ⟨Sim.ptr,ha⟩ rfl fun x=>Eh _ _ _ _ _ _ _ _
section
variable {P:Program} {T:List (Nat×TI)} {s:St} {a:Act} {w:World} {α : Type} {Kk:Kn} {m:Nat->Nat->Prop} {w0:World} {b k0 ty:Nat} {cs:List AV} {fn:Func} {enc:α->AV} {J:j4} {r:Rs α}
theorem Lw(h:i5 ⟨m,w0,ats [(k0,⟨b,ty,cs⟩)],[],Kk⟩ s a w){x:j8}{wq:Wq}{q:Pst}(hok:Ok (s.m ⟨m,w0,ats [(k0,⟨b,ty,cs⟩)],[],Kk⟩) w (E5 (wqA x wq)))(hr:r = .stop wq q)(hs:C2 s [(k0,⟨b,ty,cs⟩)] [(k0,G1 J (x.A 0) (x.c 0) q)]) :
  bodyPost P fn (et m w0 [(k0,⟨b,ty,cs⟩)] (fun x=>jC k0 J enc r x)) (.panic [{ v:=.iface 40 (E5 (wqA x wq)).den,recovered:=false }]) a w:=by
 subst hr;exact zA h hok x rfl (zr) hs
theorem In(hT:o7 P T)(h:i5 ⟨m,w0,ats [(k0,⟨b,ty,cs⟩)],[],Kk⟩ s a w){rs:List ResultVar}(hfn:fn.results=rs.toArray){rr:List AV×List Ob}(hrr:T5 T s rs=some rr)(ho:i7 P Kk rr.2)
  {v:α} {q:Pst} (A:Option Addr) (c:Nat) (hr:r = .ok v q) (he:Sim (can (K0 rr.1)) (can (enc v))) (hs:C2 s [(k0,⟨b,ty,cs⟩)] [(k0,G1 J A c q)]) :
  bodyPost P fn (et m w0 [(k0,⟨b,ty,cs⟩)] (fun x=>jC k0 J enc r x)) .ret a w/\bodyPost P fn (et m w0 [(k0,⟨b,ty,cs⟩)] (fun x=>jC k0 J enc r x)) .normal a w:=by
 subst hr;exact LH hT h hfn hrr ho ⟨0,fun _=>A,fun _=>c,fun _=>.empty⟩ rfl [] he hs trivial
end
theorem Av{m:Nat->Nat->Prop}{w:World}{t:Nat}{v:AV}(h:Ok m w (.ifc t v)):Ok m w v:=by cases h with|ifc _ _ h=>exact h
abbrev Bq:AV:=.agg [.int .i64 2,.sl none none 0 0 2 (fun _=>[]),.int .i64 (-1),.int .u64 0,.int .u64 0]
def dZ(n:Nat)(f:Nat->Int)(v:Int):Bool:=(List.range n).any fun i=>decide (f i=v)
theorem Gn{n:Nat}{f:Nat->Int}{v:Int}{i:Nat}(hi:i<n)(h:f i=v):dZ n f v=true:=List.any_eq_true.2 ⟨i,List.mem_range.2 hi,by simp[h]⟩
theorem Gm{n:Nat}{f:Nat->Int}{v:Int}(h:∀j,j<n->f j≠v):dZ n f v=false:=by
 rw[Bool.eq_false_iff];intro ha;obtain⟨i,hi,he⟩:=List.any_eq_true.1 ha;exact h i (List.mem_range.1 hi) (of_decide_eq_true he)
theorem HE(f:Nat->Int)(v:Int):dZ 1 f v=decide (f 0=v):=by
 show(decide (f 0=v)||false)=_
 exact Bool.or_false _
theorem MF(f:Nat->Int)(v:Int):dZ 2 f v=(decide (f 0=v)||decide (f 1=v)):=by
 show(decide (f 0=v)||(decide (f 1=v)||false))=_
 rw[Bool.or_false]
theorem wH(a b:Int):decide (a=b)=decide (b=a):=decide_eq_decide.2 ⟨Eq.symm,Eq.symm⟩
section
variable {P:Program} {T:List (Nat×TI)} {s:St} {a:Act} {w:World} {α : Type} {Kk:Kn} {m:Nat->Nat->Prop} {w0:World} {b k0 ty:Nat} {cs:List AV} {fn:Func} {enc:α->AV} {J:j4} {r:Rs α} {rs:List ResultVar} {rr:List AV×List Ob} {B:Alg}
theorem B3.two{f:FuncId}{A:Option Addr}{c:Nat}{p:Pst}{args:List AV}(h:B3 f k0 b J A c p args enc r)(hf:Fro p r)(hp:j3 p)(hn:p.n<=1000000) :
  (∃wq q,r = .stop wq q/\U5 Tryz.prog f (.ptr k0 b 0::args) [(k0,⟨b,139,G1 J A c p⟩)] (fun x=>.thr 40 (E5 (wqA x wq)) [(k0,G1 J (x.A 0) (x.c 0) q)])) ∨
  ∃v q,r = .ok v q/\Suf p q/\j3 q/\q.n<=1000000/\C1 Tryz.prog f (.ptr k0 b 0::args) [(k0,⟨b,139,G1 J A c p⟩)] (fun x=>⟨enc v,[(k0,G1 J (x.A 0) (x.c 0) q)],[]⟩):=by
 cases hr:r with
 |ok v q=>have hs:=hf.of hr;exact .inr ⟨v,q,rfl,hs,hp.suf hs,Nat.le_trans hs.le hn,h.ok hr⟩
 |stop wq q=>exact .inl ⟨wq,q,rfl,h.stop hr⟩
abbrev rc(J:j4)(v:AV)(q:Pst):CS:=.x fun x=>⟨v,[(0,G1 J (x.A 0) (x.c 0) q)],[]⟩
theorem thm(h:i5 ⟨m,w0,ats [(k0,⟨b,ty,cs⟩)],[],Kk⟩ s a w){x:j8}{wq:Wq}{q:Pst}(hok:Ok (s.m ⟨m,w0,ats [(k0,⟨b,ty,cs⟩)],[],Kk⟩) w (E5 (wqA x wq)))(hr:r = .stop wq q)(hs:C2 s [(k0,⟨b,ty,cs⟩)] [(k0,G1 J (x.A 0) (x.c 0) q)]:=by exact⟨rfl,⟨_,rfl,zl⟩,trivial⟩) :
  bodyPost P fn (et m w0 [(k0,⟨b,ty,cs⟩)] (fun x=>jC k0 J enc r x)) (.panic [{ v:=.iface 40 (E5 (wqA x wq)).den,recovered:=false }]) a w:=Lw h hok hr hs
theorem rmm(O:B=std)(hT:o7 P T)(h:i5 ⟨m,w0,ats [(k0,⟨b,ty,cs⟩)],[],Kk⟩ s a w){v:α}{q:Pst}(A:Option Addr)(c:Nat)(hr0:r = .ok v q)(hfn:fn.results=rs.toArray:=by rfl)(hr:T5 T s rs=some rr:=by first|rfl|(conv=>lhs;cbv))(ho:i7 P Kk rr.2:=by first|exact trivial|(subst O;simp[i7,Ob.holds]))
  (he:Sim (can (K0 rr.1)) (can (enc v)):=by subst O;exact zr) (hs:C2 s [(k0,⟨b,ty,cs⟩)] [(k0,G1 J A c q)]:=by subst O;exact⟨rfl,⟨_,rfl,zl⟩,trivial⟩) :
  bodyPost P fn (et m w0 [(k0,⟨b,ty,cs⟩)] (fun x=>jC k0 J enc r x)) .ret a w/\bodyPost P fn (et m w0 [(k0,⟨b,ty,cs⟩)] (fun x=>jC k0 J enc r x)) .normal a w:=In hT h hfn hr ho A c hr0 he hs
end
section
variable {C:Cx} {P:Program} {Q:Exit->Act->World->Prop} {T:List (Nat×TI)} {s:St} {a:Act} {w:World} {B:Alg} {f:FuncId} {k:Nat} {blk:Blk} {ty:Nat} {v:j8->AV} {sets:j8->List (Nat×List AV)} {args':List AV} {id:Nat} {all rest:List Oper} {R:Alg->(Nat->j8)->St×List Ob} {fs:List F7} {o:Oper} {c:Call} {g:Operand} {l r args:(Nat->j8)->List AV}
theorem stp(i:Nat)(O:B=std)(hT:o7 P T)(kp km:List Nat)(cs:List (Nat×CS))(h:i5 C s a w)(hsp:U5 P f args' [(k,blk)] (fun x=>.thr ty (v x) (sets x)))
  (K:∀X x a w',i5 C ((R B X).1.eff (.sets (upd [(k,blk)] (sets x)))) a w'->Ok (((R B X).1.eff (.sets (upd [(k,blk)] (sets x)))).m C) w' (v x)->Q (.panic [{ v:=.iface ty (v x).den,recovered:=false }]) a w')
  (hex:∀A X,(K3 A T cs X all (o9 0 (all.take i)) s).map (fun r=>(r.1.keep kp km,r.2.1))=some (R A X):=by intro A X;conv=>lhs;cbv) (hob:∀X,i7 P C.K (R B X).2:=by
   intro X;subst O
   first
   |exact trivial
   |(simp only[i7,Ob.holds,BE.den]<;>and_intros<;>(repeat first|trivial|rfl|exact O1|exact O2|exact O3|exact(fun _ _=>by kernel_rfl)|exact O1 _ _ _ rfl|exact O2 _ _ _ rfl|refine⟨?_,?_⟩|intro h|decide|omega)<;>done)
   |(simp[i7,Ob.holds,BE.den,std,d4,j0]<;>omega))
  (hL:all.drop i=o::rest:=by rfl) (hop:o.op = .call c:=by rfl) (hcal:c.callee = .value g:=by rfl) (hg:∀X,uE all (R B X).1 o=true:=by intro X;rfl) (hgv:∀X,val (R B X).1 [] g = .fn f (l X) (r X):=by intro X;rfl) (hl:∀X,Y3 (R B X).1 [] c.args.toList=some (args X):=by intro X;rfl) (hsim:∀X,G3 (l X++args X++r X) args':=by intro X;subst O;exact zl)
  (hpre:∀X,j7 (R B X).1.mem k=some blk:=by intro X;rfl) (hd:∀X,gK (R B X).1 o.dst=true:=by intro X;rfl) (hen:l8 P f:=by exact fun _ _=>by kernel_rfl):(Code.region id all.toArray false).wp P Q a w:=
 wp_region_lit (fG 0 i O hT kp km cs h hex hob fun X a1 w1 Z=>cU hL (hg X) hop hcal Z (hgv X) (hl X) hen hsp (hsim X) (fQ (hpre X)) rfl (hd X) fun x w' Z hok=>K X x _ w' Z hok)
theorem lK(i:Nat)(O:B=std)(hT:o7 P T)(kp km:List Nat)(cs:List (Nat×CS))(h:i5 C s a w)(hsp:U5 P f args' [(k,blk)] (fun x=>.thr ty (v x) (sets x)))
  (K:∀X x a w',i5 C ((R B X).1.eff (.sets (upd [(k,blk)] (sets x)))) a w'->Ok (((R B X).1.eff (.sets (upd [(k,blk)] (sets x)))).m C) w' (v x)->Q (.panic [{ v:=.iface ty (v x).den,recovered:=false }]) a w')
  (hm:P.follows .mixedOrders=true:=by kernel_rfl) (hgs:s.gs=[]:=by rfl) (hex:∀A X,(K7 A T cs none X all (o9 0 (all.take i)) s).map (fun r=>((r.1.keep kp km,r.2.1),r.2.2))=some (R A X,fs):=by intro A X;conv=>lhs;cbv) (hD:cG (all.take i) fs=true:=by kernel_rfl) (hZ:gi all i=true:=by kernel_rfl) (hlen:(all.take i).length=fs.length:=by rfl) (hob:∀X,i7 P C.K (R B X).2:=by
   intro X;subst O
   first
   |exact trivial
   |(simp only[i7,Ob.holds,BE.den]<;>and_intros<;>(repeat first|trivial|rfl|exact O1|exact O2|exact O3|exact(fun _ _=>by kernel_rfl)|exact O1 _ _ _ rfl|exact O2 _ _ _ rfl|refine⟨?_,?_⟩|intro h|decide|omega)<;>done)
   |(simp[i7,Ob.holds,BE.den,std,d4,j0]<;>omega))
  (hL:all.drop i=o::rest:=by rfl) (hop:o.op = .call c:=by rfl) (hcal:c.callee = .value g:=by rfl) (hg:∀X,uE all (R B X).1 o=true:=by intro X;rfl) (hgv:∀X,val (R B X).1 [] g = .fn f (l X) (r X):=by intro X;rfl) (hl:∀X,Y3 (R B X).1 [] c.args.toList=some (args X):=by intro X;rfl) (hsim:∀X,G3 (l X++args X++r X) args':=by intro X;subst O;exact zl)
  (hpre:∀X,j7 (R B X).1.mem k=some blk:=by intro X;rfl) (hd:∀X,gK (R B X).1 o.dst=true:=by intro X;rfl) (hen:l8 P f:=by exact fun _ _=>by kernel_rfl):(Code.region id all.toArray true).wp P Q a w:=
 ng O i none L5 hm hT kp km cs h hgs fs hD hZ hlen hex hob fun X a1 w1 Z=>cU hL (hg X) hop hcal Z (hgv X) (hl X) hen hsp (hsim X) (fQ (hpre X)) rfl (hd X) fun x w' Z hok=>K X x _ w' Z hok
end
theorem IA(l:Lab)(hL:isL l=true)(hb0:U64 l.bits)(h0:l.len≠0):k9 Tryz.prog 289 [i6 l,.int .u64 ((2^(64-l.len.toNat):Nat):Int)] (fun _=>i6 (jB l)):=by
 intro m w hm hargs;obtain⟨hl0,hl1,hl2⟩:=r8 hL;have e2:=vc hL hb0 h0;obtain⟨bt,hbt⟩:=eqv (((2^(64-l.len.toNat):Nat):Int));rw[<-hbt]at hargs e2 ⊢;simp only[i6]at hargs;refine en 13 hm hargs Tryz.func289 fun B O a0 Z=>?_
 refine a6 [1,2,4] [2,4] Z fun X0 Z=>?_
 refine a6 [4] [4] Z fun X1 Z=>?_
 refine z7 Z ?_;subst O;have e1:IntKind.i64.wrap (l.len-1)=l.len-1:=o8 (by omega) (by omega);refine Sim.agg ⟨?_,?_,trivial⟩
 .show Sim (.int .i64 (IntKind.i64.wrap (l.len-1))) _
  rw[e1];exact zr
 show Sim (.int .u64 (j0 .andNot .u64 l.bits bt)) _
 rw[e2];exact zr
theorem EE(l:Lab)(hb0:U64 l.bits):k9 Tryz.prog 269 [i6 l,.fn 289 [] []] (fun _=>.tup [i6 (Q5 l),.int .i64 (R4 l)]):=by
 intro m w hm hargs;have SI:=fZ l hb0;simp only[i6]at SI hargs ⊢;obtain⟨il,hil⟩:=eqv (isL l);rw[<-hil]at SI;refine en 23 hm hargs Tryz.func269 fun B O a0 Z=>?_
 refine a6 [1,2,4] [2,4] Z fun X0 Z=>?_
 have O1:=SI;refine a7 (j1 (i9 [6,1,2,4] [2,4] [(1,.r fun _=>.bool (.v il))] Z fun X1 Z=>?_));apply b7 Z rfl<;>intro hb Z
 .have hilf:il=false:=by subst O;cases il<;>first|rfl|(simp[std]at hb)
  have hE:R4 l=1:=by unfold R4;rw[<-hil,hilf];rfl
  have hV:Q5 l=⟨0,0⟩:=by unfold Q5;rw[hE];rfl
  refine a6 [4,5] [4] Z fun X2 Z=>?_
  refine z7 Z ?_;subst O;rw[hV,hE];exact zr
 have hilt:il=true:=by subst O;cases il<;>first|rfl|(simp[std]at hb)
 have hLt:isL l=true:=by rw[<-hil];exact hilt
 obtain⟨hl0,hl1,hl2⟩:=r8 hLt;refine a6 [11,1,2,4] [2,4] Z fun X3 Z=>?_
 apply b7 Z rfl<;>intro hb Z
 .have h0:l.len=0:=by subst O;simpa[std,d4]using hb
  have hE:R4 l=7:=by unfold R4;rw[<-hil,hilt,if_neg (by decide),if_pos h0]
  have hV:Q5 l=⟨0,0⟩:=by unfold Q5;rw[hE];rfl
  refine a6 [4,5] [4] Z fun X4 Z=>?_
  refine z7 Z ?_;subst O;rw[hV,hE];exact zr
 have h0:¬l.len=0:=by subst O;simpa[std,d4]using hb
 have hE:R4 l=0:=by unfold R4;rw[<-hil,hilt,if_neg (by decide),if_neg h0]
 have hV:Q5 l=jB l:=by unfold Q5;rw[hE];rfl
 have SB:=HB (l.len-1) (by omega) (by omega);rw[show 63-(l.len-1).toNat=64-l.len.toNat by omega]at SB;have S1:=IA l hLt hb0 h0;simp only[i6]at S1;have e1:IntKind.i64.wrap (l.len-1)=l.len-1:=o8 (by omega) (by omega);rw[<-e1]at SB;obtain⟨bt,hbt⟩:=eqv (((2^(64-l.len.toNat):Nat):Int));rw[<-hbt]at SB S1;obtain⟨k,hk⟩:=eqv (jB l);rw[<-hk]at S1 hV;have O1:=SB;have O2:=S1;refine f8 (a7 (drg O a8 [4,5] [4] [(5,.r fun _=>.int .u64 bt),(6,.r fun _=>.agg [.int .i64 k.len,.int .u64 k.bits])] Z fun X5 _ _ Z=>?_));refine z7 Z ?_;subst O;rw[hV,hE];exact zr
theorem Hc(l:Lab)(hb0:U64 l.bits):k9 Tryz.prog 267 [i6 l] (fun _=>.tup [i6 (Q5 l),.int .i64 (R4 l)]):=by
 intro m w hm hargs;have SI:=EE l hb0;simp only[i6]at SI hargs ⊢;obtain⟨k,hk⟩:=eqv (Q5 l);rw[<-hk]at SI ⊢;obtain⟨q,hq⟩:=eqv (R4 l);rw[<-hq]at SI ⊢;refine en 8 hm hargs Tryz.func267 fun B O a0 Z=>?_
 refine a6 [1,2] [1,2] Z fun X0 Z=>?_
 have O1:=SI;refine i9 [2,3] [2] [(1,.r fun _=>.tup [.agg [.int .i64 k.len,.int .u64 k.bits],.int .i64 q])] Z fun X1 Z=>?_
 exact i8 ((rsp O a8 Z C5).1)
theorem tQ(l:Lab)(hb0:U64 l.bits):k9 Tryz.prog 174 [i6 l] (fun _=>.tup [i6 (Q5 l),.int .i64 (R4 l)]):=by
 intro m w hm hargs;have SI:=gn l hb0;simp only[i6]at SI hargs ⊢;obtain⟨il,hil⟩:=eqv (isL l);rw[<-hil]at SI;refine en 19 hm hargs Tryz.func174 fun B O a0 Z=>?_
 refine a6 [1,2] [1,2] Z fun X0 Z=>?_
 have O1:=SI;refine a7 (i9 [6,1,2] [1,2] [(1,.r fun _=>.bool (.v il))] Z fun X1 Z=>?_);apply b7 Z rfl<;>intro hb Z
 .have hilf:il=false:=by subst O;cases il<;>first|rfl|(simp[std]at hb)
  have hE:R4 l=1:=by unfold R4;rw[<-hil,hilf];rfl
  have hV:Q5 l=⟨0,0⟩:=by unfold Q5;rw[hE];rfl
  refine a6 [2,3] [2] Z fun X2 Z=>?_
  refine z7 Z ?_;subst O;rw[hV,hE];exact zr
 have hilt:il=true:=by subst O;cases il<;>first|rfl|(simp[std]at hb)
 have hLt:isL l=true:=by rw[<-hil];exact hilt
 obtain⟨hl0,hl1,hl2⟩:=r8 hLt;refine f8 (a7 (a6 [10,1,2] [1,2] Z fun X3 Z=>?_));apply b7 Z rfl<;>intro hb Z
 .have h0:l.len=0:=by subst O;simpa[std,d4]using hb
  have hE:R4 l=7:=by unfold R4;rw[<-hil,hilt,if_neg (by decide),if_pos h0]
  have hV:Q5 l=⟨0,0⟩:=by unfold Q5;rw[hE];rfl
  refine a6 [2,3] [2] Z fun X4 Z=>?_
  refine z7 Z ?_;subst O;rw[hV,hE];exact zr
 have h0:¬l.len=0:=by subst O;simpa[std,d4]using hb
 have hE:R4 l=0:=by unfold R4;rw[<-hil,hilt,if_neg (by decide),if_neg h0]
 have hV:Q5 l=jB l:=by unfold Q5;rw[hE];rfl
 have SD:=iy l hb0 hl0 hl1;simp only[i6]at SD;obtain⟨d,hd⟩:=eqv (mkB (co l.bits l.len.toNat));rw[<-hd]at SD;have hds:d.size=l.len.toNat:=by rw[hd,J5];exact bY _ (by omega)
 have hdx:unB (d.extract 0 (l.len-1).toNat)=(K9 64 l.bits.toNat).take (l.len.toNat-1):=by
  rw[hd,bP,Y4,List.drop_zero];unfold co;rw[List.take_take];congr 1;omega
 have hxs:(d.extract 0 (l.len-1).toNat).size=l.len.toNat-1:=by rw[ByteArray.size_extract];omega
 have SO:=Ay (d.extract 0 (l.len-1).toNat) (fun x hx=>by rw[hdx]at hx;exact iK x (List.mem_of_mem_take hx)) (by omega);have hk0:ofT (d.extract 0 (l.len-1).toNat)=jB l:=by
  unfold ofT jB;rw[hdx,hxs,ld (Y5 hb0) (by omega)];congr 1;omega
 rw[hk0]at SO;simp only[i6]at SO;have e1:IntKind.i64.wrap (l.len-1)=l.len-1:=o8 (by omega) (by omega);rw[<-e1]at SO;obtain⟨k,hk⟩:=eqv (jB l);rw[<-hk]at SO hV;refine f8 (a7 ?_);refine drg O a8 [2,3] [2] [(1,.r fun _=>.str d),(6,.r fun _=>.agg [.int .i64 k.len,.int .u64 k.bits])] Z (hob:=by intro X;subst O;simp only[i7,Ob.holds,BE.den]<;>and_intros<;>repeat first|trivial|rfl|exact SD|exact SO|exact⟨by decide,(show(0:Int)<=IntKind.i64.wrap (l.len-1)by omega),(show IntKind.i64.wrap (l.len-1)<=(d.size:Int)by omega)⟩|exact(show(0:Int)<=IntKind.i64.wrap (l.len-1)by omega)|exact(show IntKind.i64.wrap (l.len-1)<=(d.size:Int)by omega)|exact(fun _ _=>by kernel_rfl)|refine⟨?_,?_⟩|intro h|exact Int.le_refl _|decide|omega) fun X5 _ _ Z=>?_
 refine z7 Z ?_;subst O;rw[hV,hE];exact zr
theorem IZ(A:Option Addr)(n c:Nat)(f:Nat->Int)(v:Int):k9 Tryz.prog 141 [.sl none A n c 1 (fun i=>[.int .i64 (f i)]),.int .i64 v] (fun x=>.int .i64 (if dZ n f v then(x.b:Int)else -1)):=by
 intro m w hm hargs;have hlen:=jE (hargs (.sl none A n c 1 (fun i=>[.int .i64 (f i)])) (by simp));have hmx:maxLen=9223372036854775807:=rfl;refine en 19 hm hargs Tryz.func141 fun B O a0 Z=>?_
 refine a6 [0,1] [] Z fun X0 Z=>?_
 refine a7 (a6 [8,0,1,7] [] Z fun X1 Z=>?_);refine j1 (l3 (ι:=Nat) (fun p=>[(8,.int .i64 (p:Int))]) (fun p=>[]) (fun p=>[]) (fun p=>p<=n/\∀j,j<p->f j≠v) (fun p=>n-p) 0 ⟨Nat.zero_le _,fun i hi=>absurd hi (Nat.not_lt_zero _)⟩ Z ?_)
 rintro i ⟨hi,hall⟩ _ _ Z
 try dsimp only at hi
 try dsimp only at hall
 refine a6 [9,0,1,7,8] [] Z fun X2 Z=>?_
 refine a7 (b7 Z rfl (fun hb Z=>?_) (fun hb Z=>?_))
 .have hin:i<n:=by
   have:(i:Int)<(n:Int):=by subst O;simpa[std,d4]using hb
   omega
  refine f8 (a7 (j1 (a6 [0,1,5,7,8] [] Z fun X3 Z=>?_)));refine a7 ?_;have O4:(0:Int)<=(i:Int):=by omega
  have O5:(i:Int)<(n:Int):=by omega
  refine j5 [16,0,1,5,7,8] [] Z fun X4 Z=>?_
  apply b7 Z rfl<;>intro hb Z
  .have heq:f i=v:=by
    have:(v==f i)=true:=by subst O;exact hb
    simpa using(beq_iff_eq.1 this).symm
   refine a6 [4] [] Z fun X5 Z=>?_
   refine i8 ((rsp O a8 Z (⟨i,fun _=>none,fun _=>0,fun _=>.empty⟩) (he:=?_)).1);subst O;rw[Gn hin heq];rfl
  have hne:f i≠v:=by
   have:(v==f i)=false:=by subst O;exact hb
   intro h;rw[h]at this;simp at this
  refine f8 (j5 [8,0,1,7] [] Z fun X6 Z=>?_);have e:B.arith .add .i64 (i:Int) 1=((i+1:Nat):Int):=by subst O;exact k4 (n:=n) hin (by omega)
  refine⟨i+1,⟨by omega,fun j hj=>?_⟩,by omega,by rw[<-e];exact Z⟩
  by_cases hij:j=i
  .rw [hij];exact hne
  exact hall j (by omega)
 have hout:i=n:=by
  have:¬(i:Int)<(n:Int):=by subst O;simpa[std,d4]using hb
  omega
 refine j9 (a6 [4] [] Z fun X7 Z=>?_);refine N8 Z ?_;subst O;rw[hout]at hall;rw[Gm hall];rfl
theorem qO(A:Option Addr)(n c:Nat)(f:Nat->Int)(v:Int):k9 Tryz.prog 86 [.sl none A n c 1 (fun i=>[.int .i64 (f i)]),.int .i64 v] (fun _=>.bool (.v (dZ n f v))):=by
 intro m w hm hargs;have S0:=IZ A n c f v;obtain⟨q,hq⟩:=eqv (dZ n f v);rw[<-hq]at S0 ⊢;have S:∀x:j8,∃z:Int,z=(if q=true then(x.b:Int)else -1):=fun x=>⟨_,rfl⟩
 refine en 9 hm hargs Tryz.func86 fun B O a0 Z=>?_
 refine a6 [0,1] [] Z fun X0 Z=>?_
 have O1:=S0;refine i9 [4] [] [(2,.r fun x=>.int .i64 (if q=true then(x.b:Int)else -1))] Z fun X1 Z=>?_
 refine z7 Z ?_;subst O;refine Sim.bool ?_
 show decide ((if q=true then(((X1 2).b:Nat):Int)else -1) ≥ 0)=q
 cases q
 .rfl
 simp
theorem Ny(g:s9)(A:Option Addr)(k:Int)(f:Nat->Int)(h0:f 0=k):k9 Tryz.prog 179 [B2 g,.sl none A 1 1 1 (fun i=>[.int .i64 (f i)])] (fun _=>.bool (.v (gk g k))):=by
 intro m w hm hargs;have S:=qO A 1 1 f g.x.r.kd;obtain⟨q,hq⟩:=eqv (dZ 1 f g.x.r.kd);rw[<-hq]at S;refine en 14 hm hargs Tryz.func179 fun B O a0 Z=>?_
 refine a6 [1,2] [2] Z fun X0 Z=>?_
 have O1:=S;refine i9 [4] [] [(7,.r fun _=>.bool (.v q))] Z fun X1 Z=>?_
 refine z7 Z ?_;subst O;refine Sim.bool ?_
 show(if g.has=true then q else false)=_
 rw[hq,HE,h0];unfold gk;simp only[wH g.x.r.kd];cases g.has<;>rfl
theorem I2(g:s9)(G:Option Nat)(A:Option Addr)(k:Int)(cells:Nat->List AV)(h0:cells 0=[.int .i64 k]):k9 Tryz.prog 179 [B2 g,.sl G A 1 1 1 cells] (fun _=>.bool (.v (gk g k))):=
 (Ny g A k (fun _=>k) rfl).sim ⟨zr,Sim.recell (fun i hi=>by
  match i,hi with
  |0,_=>rw[h0]),trivial⟩
theorem Nx(g:s9)(A:Option Addr)(k k2:Int)(f:Nat->Int)(h0:f 0=k)(h1:f 1=k2):k9 Tryz.prog 179 [B2 g,.sl none A 2 2 1 (fun i=>[.int .i64 (f i)])] (fun _=>.bool (.v ((gk g k||gk g k2)))):=by
 intro m w hm hargs;have S:=qO A 2 2 f g.x.r.kd;obtain⟨q,hq⟩:=eqv (dZ 2 f g.x.r.kd);rw[<-hq]at S;refine en 14 hm hargs Tryz.func179 fun B O a0 Z=>?_
 refine a6 [1,2] [2] Z fun X0 Z=>?_
 have O1:=S;refine i9 [4] [] [(7,.r fun _=>.bool (.v q))] Z fun X1 Z=>?_
 refine z7 Z ?_;subst O;refine Sim.bool ?_
 show(if g.has=true then q else false)=_
 rw[hq,MF,h0,h1];unfold gk;simp only[wH g.x.r.kd];cases g.has<;>rfl
theorem cB(g:s9)(G:Option Nat)(A:Option Addr)(k k2:Int)(cells:Nat->List AV)(h0:cells 0=[.int .i64 k])(h1:cells 1=[.int .i64 k2]):k9 Tryz.prog 179 [B2 g,.sl G A 2 2 1 cells] (fun _=>.bool (.v ((gk g k||gk g k2)))):=
 (Nx g A k k2 (fun i=>if i=0 then k else k2) rfl rfl).sim ⟨zr,Sim.recell (fun i hi=>by
  match i,hi with
  |0,_=>rw[h0];rfl
  |1,_=>rw[h1];rfl),trivial⟩
theorem uZ(kd:Int)(x:RA)(mk:Int):k9 Tryz.prog 164 [.int .i64 kd,J7 x,.int .u64 mk] (fun _=>J7 (asR kd x mk)):=by
 intro m w hm hargs;refine en 14 hm hargs Tryz.func164 fun B O a0 Z=>?_
 refine a6 [0,2,4,6] [4,6] Z fun X0 Z=>?_
 refine a6 [6] [6] Z fun X1 Z=>?_
 exact i8 ((rsp O a8 Z C5).1)
theorem ga:k9 Tryz.prog 262 [] (fun _=>Bq):=by
 intro m w hm hargs;have SN:=ml;simp only[i6,F1]at SN;refine en 3 hm hargs Tryz.func262 fun B O a0 Z=>?_
 refine a6 [0] [0] Z fun X0 Z=>?_
 have O1:=SN;refine i9 [0] [0] [(0,.r fun _=>.agg [.int .i64 (-1),.int .u64 0])] Z fun X1 Z=>?_
 exact i8 ((rsp O a8 Z C5).1)
theorem wQ(l:Lab)(hb0:U64 l.bits):k9 Tryz.prog 260 [i6 l] (fun _=>.agg [.int .i64 (chV l 0).len,.int .u64 (chV l 0).bits,.int .i64 (chV l 1).len,.int .u64 (chV l 1).bits]):=by
 intro m w hm hargs;have S0:=lz l hb0 0 (.inl rfl);have S1:=lz l hb0 1 (.inr rfl);simp only[i6]at S0 S1 hargs;obtain⟨x,hx⟩:=eqv (chV l 0);rw[<-hx]at S0 ⊢;obtain⟨y,hy⟩:=eqv (chV l 1);rw[<-hy]at S1 ⊢;obtain⟨u,hu⟩:=eqv (chE l 0);rw[<-hu]at S0;obtain⟨v,hv⟩:=eqv (chE l 1);rw[<-hv]at S1;refine en 20 hm hargs Tryz.func260 fun B O a0 Z=>?_
 refine a6 [1,2] [1,2] Z fun X0 Z=>?_
 have O1:=S0;refine i9 [1,2,3] [1,2,3] [(1,.r fun _=>.tup [.agg [.int .i64 x.len,.int .u64 x.bits],.int .i64 u])] Z fun X1 Z=>?_
 have O1:=S1;refine i9 [2,3,5] [2,3,5] [(1,.r fun _=>.tup [.agg [.int .i64 y.len,.int .u64 y.bits],.int .i64 v])] Z fun X2 Z=>?_
 refine a6 [2] [2] Z fun X3 Z=>?_
 exact i8 ((rsp O a8 Z C5).1)
theorem KJ(b:Nat)(J:j4)(hJ:l6 J)(A:Option Addr)(c:Nat)(p:Pst)(hp:j3 p)(hn:p.n<=1000000)(q:B0):B3 224 0 b J A c p [E5 q] (B2) (K8 J.budget q.absQ p):=by
 intro m w hm hargs hpre;obtain⟨ha,hbu,_,_,_⟩:=hJ;have hmx:maxLen=9223372036854775807:=rfl;have e1:IntKind.i64.wrap ((p.n:Int)+J.budget)=(p.n:Int)+J.budget:=o8 (by omega) (by omega);refine enX 60 hm hpre hargs Tryz.func224 fun B O a0 Z=>?_
 refine a6 [0,3,4] [0,3,4] Z fun X0 Z=>?_
 refine a7 (a7 (drg O a8 [25,0,3,4] [0,3,4] [] Z fun X1 _ _ Z=>?_));apply b7 Z rfl<;>intro hb Z
 .have ht:0<p.n/\0<(p.n:Int)+J.budget:=by
   have h9:(if decide ((p.n:Int)>0)=true then decide (IntKind.i64.wrap ((p.n:Int)+J.budget)>0)else false)=true:=by subst O;exact hb
   rw[e1]at h9;simp at h9;omega
  refine a7 ?_;refine j5 [0,4,5] [0,4,5] Z (hob:=by intro X;subst O;simp only[i7,Ob.holds,BE.den]<;>and_intros<;>repeat first|trivial|rfl|exact⟨Int.le_refl _,(by show(0:Int)<(p.n:Int);omega)⟩|exact(by show(0:Int)<(p.n:Int);omega)|exact(fun _ _=>by kernel_rfl)|refine⟨?_,?_⟩|intro h|exact Int.le_refl _|decide|omega) fun X2 Z=>?_
  refine a7 ?_;refine j5 [4,5] [0,4,5] Z (hob:=by intro X;subst O;simp only[i7,Ob.holds,BE.den]<;>and_intros<;>repeat first|trivial|rfl|exact(by show(0:Int)<=1;decide)|exact(by show(1:Int)<=(p.n:Int);omega)|exact(show(0:Int)<=1/\(1:Int)<=(p.n:Int)/\(p.n:Int)<=(p.n:Int)by omega)|exact(fun _ _=>by kernel_rfl)|refine⟨?_,?_⟩|intro h|exact Int.le_refl _|decide|omega) fun X3 Z=>?_
  refine a6 [4] [0,4] Z fun X4 Z=>?_
  refine i8 ((rmm O a8 Z (v:=p.g 0) (q:=p.tl) (R0 A c 1 8) (c-1) (if_pos ht) (he:=?_) (hs:=?_)).1)
  .subst O;exact zr
  subst O;exact⟨rfl,⟨_,rfl,⟨zr,zr,zr,zr,zr,zr,zr,zr,zr,zr,zr,zr,zr,zr,zr,Sim.recell (fun i hi=>by show V2 (p.g (1+i))=V2 (p.g (i+1));rw[Nat.add_comm]),zr,zr,zr,zr,zr,zr,trivial⟩⟩,trivial⟩
 have ht:¬(0<p.n/\0<(p.n:Int)+J.budget):=by
  have h9:(if decide ((p.n:Int)>0)=true then decide (IntKind.i64.wrap ((p.n:Int)+J.budget)>0)else false)=false:=by subst O;exact hb
  rw[e1]at h9;simp at h9;omega
 refine f8 (a7 (a7 (drg O a8 [52,0,3] [0,3] [] Z fun X5 _ _ Z=>?_)));apply b7 Z rfl<;>intro hb Z
 .have ho:(p.n:Int)+J.budget<=0:=by
   have h9:decide (IntKind.i64.wrap ((p.n:Int)+J.budget)<=0)=true:=by subst O;exact hb
   rw[e1]at h9;simpa using h9
  refine j5 [3] [0,3] Z fun X6 Z=>?_
  refine wp_region_lit (lpr 0 2 O a8 [59] [0] [] Z fun X7_0 _ _ Z=>?_);refine ox rfl rfl rfl Z rfl (zA (P:=Tryz.prog) (fn:=Tryz.f224) (pre:=[(0,⟨b,139,G1 J A c p⟩)]) (sets:=[(0,G1 J A c p)]) (out:=fun x=>jC 0 J B2 (K8 J.budget q.absQ p) x) Z (Av (Z.slot 59 rfl).2) ⟨0,fun i=>if i=0 then A else none,fun i=>if i=0 then c else 0,fun _=>.empty⟩ (by show jC 0 J B2 (K8 J.budget q.absQ p) _=_;unfold K8;rw[if_neg ht,if_pos ho];rfl) ?_ ⟨rfl,⟨_,rfl,zl⟩,trivial⟩)
  subst O;exact Sim.agg ⟨zr,zr,zr,zr,zr,zq0,zr,zr,zr,zr,zr,zr,zq0,zr,Sim.ff,trivial⟩
 have ho:¬(p.n:Int)+J.budget<=0:=by
  have h9:decide (IntKind.i64.wrap ((p.n:Int)+J.budget)<=0)=false:=by subst O;exact hb
  rw[e1]at h9;simpa using h9
 refine f8 (wp_region_lit (lpr 0 2 O a8 [59] [0] [] Z fun X7_0 _ _ Z=>?_));refine ox rfl rfl rfl Z rfl (zA (P:=Tryz.prog) (fn:=Tryz.f224) (pre:=[(0,⟨b,139,G1 J A c p⟩)]) (sets:=[(0,G1 J A c p)]) (out:=fun x=>jC 0 J B2 (K8 J.budget q.absQ p) x) Z (Av (Z.slot 59 rfl).2) ⟨0,fun i=>if i=0 then A else if i=1 then q.x.A else q.s.A,fun i=>if i=0 then c else if i=1 then q.x.c else q.s.c,fun _=>.empty⟩ (by show jC 0 J B2 (K8 J.budget q.absQ p) _=_;unfold K8;rw[if_neg ht,if_neg ho];rfl) ?_ ⟨rfl,⟨_,rfl,zl⟩,trivial⟩)
 subst O;exact Df q _ rfl rfl rfl rfl
theorem CG(k0 b:Nat)(J:j4)(hJ:l6 J)(A:Option Addr)(c:Nat)(p:Pst)(hp:j3 p)(hn:p.n<=1000000)(q:B0):B3 224 k0 b J A c p [E5 q] (B2) (K8 J.budget q.absQ p):=B3.re (KJ b J hJ A c p hp hn q) (by repeat(first|exact trivial|refine⟨zr,?_⟩))
def gZ:rq:=⟨0,false,⟨#[]⟩,none,0,0,fun _=>s7,0,false⟩
theorem KG(k0 b:Nat)(J:j4)(hJ:l6 J)(A:Option Addr)(c:Nat)(p:Pst)(hp:j3 p)(hn:p.n<=1000000)(l:Lab):B3 224 k0 b J A c p [.agg [.int .i64 1,.int .i64 l.len,.int .u64 l.bits,.int .u64 0,.int .i64 0,.sl none none 0 0 2 (fun _=>[]),.int .i64 0,.int .u64 0,.int .u64 0,.int .i64 0,.bool .ff,.str ⟨#[]⟩,.sl none none 0 0 2 (fun _=>[]),.int .u64 0,.bool .ff]] B2 (M8 J.budget l p):=
 B3.re (CG 0 b J hJ A c p hp hn ⟨1,l,0,zRA,gZ⟩) ⟨Sim.agg ⟨zr,zr,zr,zr,zr,zq0,zr,zr,zr,zr,Sim.ff,zr,zq0,zr,Sim.ff,trivial⟩,trivial⟩
theorem KI(k0 b:Nat)(J:j4)(hJ:l6 J)(A:Option Addr)(c:Nat)(p:Pst)(hp:j3 p)(hn:p.n<=1000000)(l:Lab)(v:Int)(x:RA):B3 224 k0 b J A c p [.agg [.int .i64 2,.int .i64 l.len,.int .u64 l.bits,.int .u64 v,.int .i64 x.r.kd,.sl none x.A x.r.n x.c 2 (fun i=>itC (x.r.f i)),.int .i64 x.r.nx.len,.int .u64 x.r.nx.bits,.int .u64 x.r.mrk,.int .i64 0,.bool .ff,.str ⟨#[]⟩,.sl none none 0 0 2 (fun _=>[]),.int .u64 0,.bool .ff]] B2 (K8 J.budget ⟨2,l,v,x.r.abs,dq⟩ p):=
 B3.re (CG 0 b J hJ A c p hp hn ⟨2,l,v,x,gZ⟩) ⟨Sim.agg ⟨zr,zr,zr,zr,zr,zr,zr,zr,zr,zr,Sim.ff,zr,zq0,zr,Sim.ff,trivial⟩,trivial⟩
theorem KH(k0 b:Nat)(J:j4)(hJ:l6 J)(A:Option Addr)(c:Nat)(p:Pst)(hp:j3 p)(hn:p.n<=1000000)(l:Lab)(v:Int):B3 224 k0 b J A c p [.agg [.int .i64 3,.int .i64 l.len,.int .u64 l.bits,.int .u64 v,.int .i64 0,.sl none none 0 0 2 (fun _=>[]),.int .i64 0,.int .u64 0,.int .u64 0,.int .i64 0,.bool .ff,.str ⟨#[]⟩,.sl none none 0 0 2 (fun _=>[]),.int .u64 0,.bool .ff]] B2 (K8 J.budget ⟨3,l,v,k6,dq⟩ p):=
 B3.re (CG 0 b J hJ A c p hp hn ⟨3,l,v,zRA,gZ⟩) ⟨Sim.agg ⟨zr,zr,zr,zr,zr,zq0,zr,zr,zr,zr,Sim.ff,zr,zq0,zr,Sim.ff,trivial⟩,trivial⟩
theorem Jj(b:Nat)(J:j4)(hJ:l6 J)(A:Option Addr)(c:Nat)(p:Pst)(hp:j3 p)(hn:p.n<=1000000)(l:Lab):B3 178 0 b J A c p [i6 l] (B2) (M8 J.budget l p):=by
 intro m w hm hargs hpre;refine enX 9 hm hpre hargs Tryz.func178 fun B O a0 Z=>?_
 refine a6 [0,3,4] [0,3,4] Z fun X0 Z=>?_
 refine a7 ?_
 rcases(KG 0 b J hJ A c p hp hn l).two (k8 _ _ _) hp hn with⟨w1,p1,hm1,O1⟩|⟨g1,p1,hm1,hs1,hp1,hn1,S1⟩
 .refine stp 3 O a8 [5,7] [0] [] Z O1 fun _ _ _ _ Z hk=>?_
  exact thm (P:=Tryz.prog) (fn:=Tryz.f178) (q:=p1) Z hk (by simp[Rs.bind,hm1])
 have O1:=S1;refine f7 [4] [0,4] [(3,rc J (B2 g1) p1)] Z fun X1 Z=>?_
 exact i8 ((rmm O a8 Z (v:=g1) (q:=p1) ((X1 3).A 0) ((X1 3).c 0) (by simp[Rs.bind,hm1])).1)
theorem aH(k0 b:Nat)(J:j4)(hJ:l6 J)(A:Option Addr)(c:Nat)(p:Pst)(hp:j3 p)(hn:p.n<=1000000)(l:Lab):B3 178 k0 b J A c p [i6 l] (B2) (M8 J.budget l p):=B3.re (Jj b J hJ A c p hp hn l) (by repeat(first|exact trivial|refine⟨zr,?_⟩))
theorem Ku(b:Nat)(J:j4)(hJ:l6 J)(A:Option Addr)(c:Nat)(p:Pst)(hp:j3 p)(hn:p.n<=1000000)(l:Lab)(v:Int)(x:RA):B3 163 0 b J A c p [i6 l,.int .u64 v,J7 x] (fun d=>.bool (.v d)) (aw J.budget l v x.r.abs p):=by
 intro m w hm hargs hpre;refine enX 17 hm hpre hargs Tryz.func163 fun B O a0 Z=>?_
 refine a6 [0,2,5,7] [0,5,7] Z fun X0 Z=>?_
 refine a7 ?_
 rcases(KI 0 b J hJ A c p hp hn l v x).two (cE _ _ _) hp hn with⟨w1,p1,hm1,O1⟩|⟨g1,p1,hm1,hs1,hp1,hn1,S1⟩
 .refine stp 5 O a8 [9,13] [0] [] Z O1 fun _ _ _ _ Z hk=>?_
  exact thm (P:=Tryz.prog) (fn:=Tryz.f163) (q:=p1) Z hk (by simp[aw,Rs.bind,hm1])
 have O1:=S1;refine f7 [8] [0] [(5,rc J (B2 g1) p1)] Z fun X1 Z=>?_
 exact i8 ((rmm O a8 Z (v:=decide (g1.code=0)) (q:=p1) ((X1 5).A 0) ((X1 5).c 0) (by simp[aw,Rs.bind,hm1])).1)
theorem jm(k0 b:Nat)(J:j4)(hJ:l6 J)(A:Option Addr)(c:Nat)(p:Pst)(hp:j3 p)(hn:p.n<=1000000)(l:Lab)(v:Int)(x:RA):B3 163 k0 b J A c p [i6 l,.int .u64 v,J7 x] (fun d=>.bool (.v d)) (aw J.budget l v x.r.abs p):=B3.re (Ku b J hJ A c p hp hn l v x) (by repeat(first|exact trivial|refine⟨zr,?_⟩))
theorem Kb(b:Nat)(J:j4)(hJ:l6 J)(A:Option Addr)(c:Nat)(p:Pst)(hp:j3 p)(hn:p.n<=1000000)(l:Lab)(v:Int):B3 288 0 b J A c p [i6 l,.int .u64 v] (fun d=>.bool (.v d)) (jd J.budget l v p):=by
 intro m w hm hargs hpre;refine enX 14 hm hpre hargs Tryz.func288 fun B O a0 Z=>?_
 refine a6 [0,2,4] [0,4] Z fun X0 Z=>?_
 refine a7 ?_
 rcases(KH 0 b J hJ A c p hp hn l v).two (cE _ _ _) hp hn with⟨w1,p1,hm1,O1⟩|⟨g1,p1,hm1,hs1,hp1,hn1,S1⟩
 .refine stp 4 O a8 [7,10] [0] [] Z O1 fun _ _ _ _ Z hk=>?_
  exact thm (P:=Tryz.prog) (fn:=Tryz.f288) (q:=p1) Z hk (by simp[jd,Rs.bind,hm1])
 have O1:=S1;refine f7 [6] [0] [(4,rc J (B2 g1) p1)] Z fun X1 Z=>?_
 exact i8 ((rmm O a8 Z (v:=decide (g1.code=0)) (q:=p1) ((X1 4).A 0) ((X1 4).c 0) (by simp[jd,Rs.bind,hm1])).1)
theorem BU(k0 b:Nat)(J:j4)(hJ:l6 J)(A:Option Addr)(c:Nat)(p:Pst)(hp:j3 p)(hn:p.n<=1000000)(l:Lab)(v:Int):B3 288 k0 b J A c p [i6 l,.int .u64 v] (fun d=>.bool (.v d)) (jd J.budget l v p):=B3.re (Kb b J hJ A c p hp hn l v) (by repeat(first|exact trivial|refine⟨zr,?_⟩))
theorem zE(b:Nat)(J:j4)(hJ:l6 J)(A:Option Addr)(c:Nat)(p:Pst)(hp:j3 p)(hn:p.n<=1000000)(l:Lab)(v:Int):B3 261 0 b J A c p [i6 l,.int .u64 v] (fun q:s9=>.bool (.v (decide (q.ver=v)))) (M8 J.budget l p):=by
 intro m w hm hargs hpre;refine enX 13 hm hpre hargs Tryz.func261 fun B O a0 Z=>?_
 refine a6 [0,2,4] [0,4] Z fun X0 Z=>?_
 refine a7 ?_
 rcases(aH 0 b J hJ A c p hp hn l).two (k8 _ _ _) hp hn with⟨w1,p1,hm1,O1⟩|⟨g1,p1,hm1,hs1,hp1,hn1,S1⟩
 .refine stp 2 O a8 [7,8] [0] [] Z O1 fun _ _ _ _ Z hk=>?_
  exact thm (P:=Tryz.prog) (fn:=Tryz.f261) (q:=p1) Z hk (by simp[Rs.bind,hm1])
 have O1:=S1;refine f7 [6] [0] [(2,rc J (B2 g1) p1)] Z fun X1 Z=>?_
 exact i8 ((rmm O a8 Z (v:=g1) (q:=p1) ((X1 2).A 0) ((X1 2).c 0) (by simp[Rs.bind,hm1])).1)
theorem kU(k0 b:Nat)(J:j4)(hJ:l6 J)(A:Option Addr)(c:Nat)(p:Pst)(hp:j3 p)(hn:p.n<=1000000)(l:Lab)(v:Int):B3 261 k0 b J A c p [i6 l,.int .u64 v] (fun q:s9=>.bool (.v (decide (q.ver=v)))) (M8 J.budget l p):=B3.re (zE b J hJ A c p hp hn l v) (by repeat(first|exact trivial|refine⟨zr,?_⟩))
end Go.Proofs.YtmbkanpapkhnaaaGreat.Sym
namespace Go.Proofs.YtmbkanpapkhnaaaGreat
open Go.RowKit
theorem Hs:cN Tryz.prog 33 62 2 24 (.agg #[.int .u64 0,.string ⟨#[]⟩]):=⟨by kernel_rfl,by kernel_rfl,rfl,by decide⟩
theorem etyI:cN Tryz.prog 33 62 2 24 (.agg #[.int .u64 0,.string ⟨#[]⟩]):=⟨by kernel_rfl,by kernel_rfl,rfl,by decide⟩
end Go.Proofs.YtmbkanpapkhnaaaGreat
namespace Go.Proofs.YtmbkanpapkhnaaaGreat.Sym
open Go Go.RowKit
theorem mF(x:Itm):∀v∈itmE x,v.oneCell'=true:=by
 intro v hv;simp only[itmE,List.mem_cons,List.not_mem_nil,or_false]at hv
 rcases hv with rfl|rfl<;>rfl
theorem rowFlat_its(l:List Itm):j6 (fun i=>itC (itF l i)) l.length=l.flatMap itmE:=by
 have key:∀n,n<=l.length->j6 (fun i=>itC (itF l i)) n=(l.take n).flatMap itmE:=by
  intro n
  induction n with
  |zero=>intro _;simp[j6]
  |succ n ih=>
   intro h;rw[I3,ih (by omega),List.take_succ_eq_append_getElem (by omega),List.flatMap_append];simp[itF,List.getD,List.getElem?_eq_getElem (show n<l.length by omega)];rfl
 have:=key l.length (Nat.le_refl _)
 rwa[List.take_length]at this
theorem its_reads{m:Nat->Nat->Prop}{w:World}{A:Option Addr}{c:Nat}{l:List Itm}(h:Ok m w (s4 A l.length c (itF l))):ax itmE w w.heap.size A l:=by
 have:=cQ h;rw[rowFlat_its]at this;exact this
theorem mE{m:Nat->Nat->Prop}{w:World}{A:Option Addr}{c:Nat}{l:List Itm}(h:Ok m w (s4 A l.length c (itF l))):∀x∈l,x.val.size<=maxLen:=by
 intro x hx;obtain⟨i,hi,rfl⟩:=List.mem_iff_getElem.1 hx
 cases h with
 |sl _ _ _ _ _ _ h1 h2 h3 h4 h5 h6 h7=>
  have:=h7 i hi (.str (itF l i).val) (by simp[itC])
  cases this with|str _ h=>simpa[itF,List.getD,hi]using h
theorem qc{m:Nat->Nat->Prop}{w:World}{B:Nat}{e:TypeId}{A:Option Addr}{n c:Nat}{l:List Itm}(h:ve itmE 2 w B e (.slice A n c) l)(hm:∀b o,m b o->b<B)(hs:∀x∈l,x.val.size<=maxLen):Ok m w (s4 A l.length c (itF l)):=by
 obtain⟨A',c',he,h1,h2⟩:=Own.isSlice h;injection he with e1 e2 e3;subst e3;subst e2
 refine kY h1 h2 hs fun hp=>?_
 rw[I7 M6]at hp;obtain⟨b,hA,hb⟩:=M2 h (by omega);refine⟨b,0,hA,fun j u hu=>⟨by rw[Nat.zero_add];exact N5 h hb j u hu,fun hmm=>?_⟩⟩;have:=(Own.lt h b hb).1;have:=hm _ _ hmm;omega
theorem clone_c(w:World)(A:Option Addr)(k:Nat)(l:List Itm)(hr:ax itmE w w.heap.size A l)(hl:l.length<2147483000) :
  Calls Tryz.prog 72 #[.slice A l.length k] w fun e w'=>∃v',e = .returned v'/\ve itmE 2 w' w.heap.size 62 v' l/\Below w.heap.size w w':=by
 have hq:∀(A:Option Addr) (n k:Nat) (w:World),(binOp .eql 33 (.slice A n k) (.slice none 0 0)).run Tryz.prog w = .ok (.bool A.isNone) w:=fun A n k w=>Go.Lib.run_eql_slice_nil w _ _ A n k 0 0 Tryz.underlying33
 cases A with
 |none=>
  obtain rfl:l=[]:=by
   refine List.eq_nil_of_length_eq_zero (Nat.eq_zero_of_not_pos fun h=>?_);obtain⟨b,off,he,_⟩:=hr.at_ (k:=2) M6 (by decide) h
   cases he
  clear hr
  go_enter Tryz.func72,Tryz.ntmps72
  go_wp2_with fail
  go_ret
  exact⟨_,rfl,Own.nil _ _ _ _ _,Below.refl _ _⟩
 |some a=>
  obtain⟨W1,hW1⟩:=eqv (w.alloc (.cells #[] 62));have hb1:Below w.heap.size w W1:=by rw[hW1];exact(Below.refl _ _).alloc (Nat.le_refl _) _
  obtain⟨v',w',hr',hO,hG,hv⟩:=eO (P:=Tryz.prog) Hs 33 (Own.nil W1 w.heap.size 62 2 (some ⟨w.heap.size,0,none⟩)) (some a) l.length k (l.flatMap itmE) (I7 M6 l) (hr.below hb1) (sI mF l) (by simp only[maxLen];omega) (by omega) hb1.size;rw[Nat.zero_add,List.nil_append]at hO;have HO:Hid (ve itmE 2 w' w.heap.size 62 v' l/\Below w.heap.size w w'):=⟨hO,hb1.grown hG hb1.size fun g hg=>by simp[B4]at hg⟩;rw[hW1]at hr';clear hO hG hv hb1 hW1
  go_enter Tryz.func72,Tryz.ntmps72
  go_wp2_with (at_builtin;refine Y2 hr' rfl (.tmp 5) (.tmp 6) rfl rfl rfl rfl ?_)
  go_ret
  exact⟨_,rfl,HO.out⟩
theorem qP(A:Option Addr)(c:Nat)(l:List Itm)(hs:l.length<2147483000):k9 Tryz.prog 72 [s4 A l.length c (itF l)] (fun y=>s4 (y.A 0) l.length (y.c 0) (itF l)):=by
 intro m w hm ha;have h1:=ha (s4 A l.length c (itF l)) (by simp);refine(clone_c w A c l (its_reads h1) hs).mono ?_
 rintro e w' ⟨v',rfl,ho,hb⟩
 obtain⟨A',c',rfl,_,_⟩:=Own.isSlice ho;exact⟨⟨0,fun _=>A',fun _=>c',fun _=>⟨#[]⟩⟩,rfl,qc ho hm (mE h1),hb⟩
theorem clone_sf(A:Option Addr)(n c:Nat)(f:Nat->Itm)(hs:n<2147483000):k9 Tryz.prog 72 [s4 A n c f] (fun y=>s4 (y.A 0) n (y.c 0) f):=by
 have h:=qP A c (f5 f n) (by rw[j2];exact hs);have e:∀A c,Sim (s4 A (f5 f n).length c (itF (f5 f n))) (s4 A n c f):=fun A c=>Sim.resl (j2 f n) fun t ht=>by rw[u6 f n t ht]
 have e':∀A c,Sim (s4 A n c f) (s4 A (f5 f n).length c (itF (f5 f n))):=fun A c=>Sim.resl (j2 f n).symm fun t ht=>by rw[j2]at ht;rw[u6 f n t ht]
 intro m w hm ha;have h2:k9 Tryz.prog 72 [s4 A n c f] (fun y=>s4 (y.A 0) (f5 f n).length (y.c 0) (itF (f5 f n))):=h.sim ⟨e' A c,trivial⟩;refine(h2 m w hm ha).mono ?_
 rintro en w' ⟨x,rfl,hok,hb⟩
 exact⟨x,by rw[(e (x.A 0) (x.c 0)).1],(e (x.A 0) (x.c 0)).2.2 _ _ hok,hb⟩
theorem Jg(w:World)(n:Nat)(hn:n<=1000000):Calls Tryz.prog 295 #[.slice none 0 0,.int .i64 n] w fun e w'=>
  ∃A' c',e = .returned (.slice A' 0 c')/\Own w' w.heap.size 62 2 (.slice A' 0 c') 0 []/\Below w.heap.size w w':=by
 have hneg:¬(n:Int)<0:=by omega
 have hw:IntKind.i64.wrap (n:Int)=(n:Int):=o8 (by omega) (by omega);have hw0:IntKind.i64.wrap 0=0:=by decide
 by_cases h0:n=0
 .subst h0
  go_enter Tryz.func295,Tryz.ntmps295
  go_wp2_with fail
  go_ret
  exact⟨none,0,rfl,Own.nil _ _ _ _ _,Below.refl _ _⟩
 have hpos:(0:Int)<(n:Int):=by omega
 have HA:=eN (P:=Tryz.prog) (w:=w) (kq:=.i64) Hs (Tryz.underlying3) 33 (A:=none) (n:=0) (c:=0) (xs:=[]) (by simp) (U6.nil (B:=0)) n (by omega) (by omega) (by simp only[maxLen];omega) (by omega);obtain⟨_,cap2,cur2,hr,rfl,hge2,hcm2,hcs2,ht2⟩:=HA;rw[Nat.zero_add]at hr hge2;obtain⟨w1,hw1⟩:=eqv (w.drew.alloc (.cells cur2 62));rw[<-hw1]at hr;have HF:Hid (Own w1 w.heap.size 62 2 (.slice (some ⟨w.heap.size,0,none⟩) 0 cap2) 0 []/\Below w.heap.size w w1):=by
  refine⟨⟨by simp,.inr ⟨w.heap.size,cap2,cur2,rfl,Nat.le_refl _,by rw[hw1];exact heap_alloc_new w.drew _,Nat.zero_le _,by omega,hcm2,hcs2,by simp⟩⟩,?_⟩;rw[hw1];exact(Below.refl _ _).drew.alloc (by simp) _
 clear hw1 ht2 hcs2 hge2
 go_enter Tryz.func295,Tryz.ntmps295
 go_wp2_with (at_builtin;refine Y2 hr rfl (.tmp 20) (.tmp 21) rfl rfl rfl rfl ?_)
 go_ret
 exact⟨_,_,rfl,HF.out⟩
end Go.Proofs.YtmbkanpapkhnaaaGreat.Sym
namespace Go.Proofs.YtmbkanpapkhnaaaGreat
open Go.RowKit Sym
def isK(key:Int)(x:Itm):Bool:=decide (x.key=key)
def eo(l:List Itm)(key:Int):ByteArray:=match l.find? (isK key)with
 |some x=>x.val
 |none=>⟨#[]⟩
def eq(l:List Itm)(key:Int):Bool:=(l.find? (isK key)).isSome
theorem iY(f:Nat->Itm)(n i:Nat)(h:i<n):f5 f n=f5 f i++f i::(List.range (n-i-1)).map fun j=>f (i+1+j):=by
 apply List.ext_getElem
 .simp [f5];omega
 intro t h1 h2;have ht:t<n:=by simpa[f5]using h1
 simp only[f5,List.getElem_map,List.getElem_range]
 by_cases hi:t<i
 .rw [List.getElem_append_left (by simpa using hi)]
  simp
 rw[List.getElem_append_right (by simp;omega)];obtain⟨q,rfl⟩:∃q,t=i+q:=⟨t-i,by omega⟩
 cases q with
 |zero=>simp
 |succ q=>
  simp only[List.length_map,List.length_range,show i+(q+1)-i=q+1 by omega,List.getElem_cons_succ,List.getElem_map,List.getElem_range]
  congr 1
  omega
theorem L8{f:Nat->Itm}{n:Nat}{x:Itm}(h:x∈f5 f n):∃t,t<n/\x=f t:=by
 unfold f5 at h;obtain⟨t,ht,rfl⟩:=List.mem_map.1 h;exact⟨t,List.mem_range.1 ht,rfl⟩
theorem sJ{f:Nat->Itm}{n i:Nat}{key:Int}(hi:i<n)(hm:∀t,t<i->(f t).key≠key)(h:(f i).key=key):(f5 f n).find? (isK key)=some (f i):=by
 rw[List.find?_eq_some_iff_append];refine⟨by simp[isK,h],f5 f i,_,iY f n i hi,fun a ha=>?_⟩;obtain⟨t,ht,rfl⟩:=L8 ha;simp[isK,hm t ht]
theorem oN{f:Nat->Itm}{n:Nat}{key:Int}(hm:∀t,t<n->(f t).key≠key):(f5 f n).find? (isK key)=none:=by
 rw[List.find?_eq_none];intro a ha;obtain⟨t,ht,rfl⟩:=L8 ha;simp[isK,hm t ht]
def nO(p:Nat->Bool)(n:Nat):Int:=match(List.range n).find? p with
 |some i=>(i:Int)
 |none=> -1
theorem lp{p:Nat->Bool}{n i:Nat}(hi:i<n)(hm:∀t,t<i->p t=false)(h:p i=true):nO p n=(i:Int):=by
 have:(List.range n).find? p=some i:=by
  rw[List.find?_eq_some_iff_append];refine⟨h,List.range i,(List.range (n-i-1)).map fun j=>i+1+j,?_,fun a ha=>by rw[hm a (List.mem_range.1 ha)];rfl⟩;apply List.ext_getElem
  .simp;omega
  intro t h1 h2;have ht:t<n:=by simpa using h1
  simp only[List.getElem_range]
  by_cases hti:t<i
  .rw [List.getElem_append_left (by simpa using hti)];simp
  rw[List.getElem_append_right (by simp;omega)];obtain⟨q,rfl⟩:∃q,t=i+q:=⟨t-i,by omega⟩
  cases q with
  |zero=>simp
  |succ q=>simp[show i+(q+1)-i=q+1 by omega];omega
 simp[nO,this]
theorem mI{p:Nat->Bool}{n:Nat}(hm:∀t,t<n->p t=false):nO p n = -1:=by
 have:(List.range n).find? p=none:=by
  rw[List.find?_eq_none];intro a ha;rw[hm a (List.mem_range.1 ha)]
  decide
 simp[nO,this]
theorem oF(p:Nat->Bool)(n:Nat):(∃i,i<n/\nO p n=(i:Int)/\p i=true/\∀t,t<i->p t=false) \/ (nO p n = -1/\∀t,t<n->p t=false):=by
 induction n with
 |zero=>exact .inr ⟨rfl,fun t ht=>absurd ht (Nat.not_lt_zero _)⟩
 |succ n ih=>
  rcases ih with⟨i,h1,h2,h3,h4⟩|⟨h1,h2⟩
  .exact .inl ⟨i,by omega,lp (by omega) h4 h3,h3,h4⟩
  cases hp:p n with
  |true=>exact .inl ⟨n,by omega,lp (by omega) h2 hp,hp,h2⟩
  |false=>
   have:∀t,t<n+1->p t=false:=fun t ht=>by
    by_cases h:t=n
    .rw [h];exact hp
    exact h2 t (by omega)
   exact .inr ⟨mI this,this⟩
def dh(l:List Itm)(key:Int):List Itm:=l.filter fun x=>!isK key x
def uk(l:List Itm)(key:Int):List Itm:=l.takeWhile fun x=>decide (x.key<key)
def Iv(l:List Itm)(key:Int)(val:ByteArray):List Itm:=uk (dh l key) key++⟨key,val⟩::(dh l key).drop (uk (dh l key) key).length
def kI(l:List Itm)(key:Int)(val:ByteArray):List Itm:=if 64<val.size then l else Iv l key val
def ofL(l:List Itm):List Itm:=l.foldl (fun m x=>kI m x.key x.val) []
theorem Ej{f:Nat->Itm}{n:Nat}(h:okF f n=true):∀i j,i<j->j<n->(f i).key<(f j).key:=by
 intro i j hij
 induction j with
 |zero=>omega
 |succ j ih=>
  intro hj;have hk:=IB (f:=f) (i:=j+1) hj h;unfold ez at hk;simp only[Bool.and_eq_true,decide_eq_true_eq,Bool.or_eq_true,beq_iff_eq]at hk;have h2:(f j).key<(f (j+1)).key:=by
   rcases hk.2 with h0|h0
   .omega
   simpa using h0
  by_cases he:i=j
  .rw [he];exact h2
  have:=ih (by omega) (by omega);omega
theorem aT(f:Nat->Itm)(i:Nat):ofL (f5 f (i+1))=kI (ofL (f5 f i)) (f i).key (f i).val:=by
 unfold ofL f5;rw[List.range_succ,List.map_append,List.foldl_append];rfl
section
variable {l:List Itm} {key:Int} {p:Nat}
end
end Go.Proofs.YtmbkanpapkhnaaaGreat
namespace Go.Proofs.YtmbkanpapkhnaaaGreat.Sym
open Go Go.RowKit
theorem nB{f:Nat->Itm}{n:Nat}{key:Int}(hs:∀i j,i<j->j<n->(f i).key<(f j).key):∀k lo hi,hi-lo<=k->lo<=hi->hi<=n->(∀t,t<lo->(f t).key<key)->(∀t,hi<=t->t<n->key<=(f t).key) →
  lo<=bsF f key lo hi/\bsF f key lo hi<=hi/\(∀t,t<bsF f key lo hi->(f t).key<key)/\∀t,bsF f key lo hi<=t->t<n->key<=(f t).key
 |0,lo,hi,hk,h1,h2,h3,h4=>by
  rw[qT (by omega)];exact⟨Nat.le_refl _,h1,h3,fun t ht=>h4 t (by omega)⟩
 |k+1,lo,hi,hk,h1,h2,h3,h4=>by
  by_cases hlt:lo<hi
  .obtain ⟨m,hm⟩:∃m,m=(lo+hi) / 2:=⟨_,rfl⟩
   by_cases hkm:(f m).key<key
   .rw [Cu hlt hm hkm]
    obtain⟨a,b,c,d⟩:=nB hs k (m+1) hi (by omega) (by omega) h2 (fun t ht=>by
     by_cases h:t=m
     .rw [h];exact hkm
     have:=hs t m (by omega) (by omega);omega) h4
    exact⟨by omega,b,c,d⟩
   rw[Cv hlt hm hkm];obtain⟨a,b,c,d⟩:=nB hs k lo m (by omega) (by omega) (by omega) h3 (fun t ht htn=>by
    by_cases h:t=m
    .rw [h];omega
    have:=hs m t (by omega) htn;omega)
   exact⟨a,by omega,c,d⟩
  rw[qT hlt];exact⟨Nat.le_refl _,h1,h3,fun t ht=>h4 t (by omega)⟩
theorem mU(f:Nat->Itm)(p m:Nat):f5 f (p+m)=f5 f p++f5 (fun j=>f (p+j)) m:=by
 unfold f5;rw[List.range_add,List.map_append,List.map_map];rfl
theorem sW(l:Lab)(f:Nat->Itm)(i:Nat):G8 l (f5 f (i+1))=G8 l (f5 f i)++if z6 l (f i).key=true then [f i]else []:=by
 have:f5 f (i+1)=f5 f i ++ [f i]:=by simp[f5,List.range_succ]
 rw[this];unfold G8;rw[List.filter_append]
 congr 1
 cases h:z6 l (f i).key<;>simp[h]
theorem uB{f:Nat->Itm}{n:Nat}{l:Lab}(hok:okF f n=true)(hki:∀i,i<n->U64 (f i).key)(hl:isL l=true)(hb:U64 l.bits)(h64:l.len≠64)(hc:∀i,i<n->z6 l (f i).key=true){p:Nat}(hp:p=bsF f (u7 l 1).bits 0 n) :
  p<=n/\G8 (u7 l 0) (f5 f n)=f5 f p/\G8 (u7 l 1) (f5 f n)=f5 (fun j=>f (p+j)) (n-p):=by
 obtain⟨_,h1,h2,h3⟩:=nB (f:=f) (n:=n) (key:=(u7 l 1).bits) (Ej hok) n 0 n (by omega) (Nat.zero_le _) (Nat.le_refl _) (fun t ht=>absurd ht (Nat.not_lt_zero _)) (fun t h1 h2=>absurd h2 (by omega));rw[<-hp]at h1 h2 h3;have hsp:=mU f p (n-p);rw[show p+(n-p)=n by omega]at hsp;have cc:=fun i hi=>yT hl hb h64 (hki i hi) (hc i hi)
 refine⟨h1,?_,?_⟩
 .rw [hsp]
  unfold G8;rw[List.filter_append,List.filter_eq_self.2 (fun x hx=>by
   obtain⟨t,ht,rfl⟩:=L8 hx;rw[(cc t (by omega)).1];exact decide_eq_true (h2 t ht)),List.filter_eq_nil_iff.2 (fun x hx=>by
   obtain⟨t,ht,rfl⟩:=L8 hx;rw[(cc (p+t) (by omega)).1];have:=h3 (p+t) (by omega) (by omega);simp;omega),List.append_nil]
 rw[hsp];unfold G8;rw[List.filter_append,List.filter_eq_nil_iff.2 (fun x hx=>by
  obtain⟨t,ht,rfl⟩:=L8 hx;rw[(cc t (by omega)).2];have:=h2 t ht;simp;omega),List.filter_eq_self.2 (fun x hx=>by
  obtain⟨t,ht,rfl⟩:=L8 hx;rw[(cc (p+t) (by omega)).2];exact decide_eq_true (h3 (p+t) (by omega) (by omega))),List.nil_append]
theorem ns{l:Lab}{f:Nat->Itm}{n:Nat}:(G8 l (f5 f n)).length=n ↔ ∀i,i<n->z6 l (f i).key=true:=by
 have:=FV (l:=l) (its:=f5 f n);rw[j2]at this;rw[this]
 constructor
 .intro h i hi
  exact h (f i) (List.mem_map.2 ⟨i,List.mem_range.2 hi,rfl⟩)
 intro h x hx;obtain⟨t,ht,rfl⟩:=L8 hx;exact h t ht
theorem oZ{l:Lab}{b:Int}(hl:isL l=true)(h64:l.len≠64):chE l b=0/\chV l b=u7 l b:=by
 have h:chE l b=0:=by
  unfold chE;rw[hl,if_neg (by decide),if_neg h64]
 exact⟨h,by unfold chV;rw[if_pos h]⟩
theorem nc:l8 Tryz.prog 72:=fun _ _=>by kernel_rfl
theorem bD:l8 Tryz.prog 271:=fun _ _=>by kernel_rfl
theorem uT(A:Option Addr)(n c:Nat)(f:Nat->Itm)(hn:n<=1000000)(kd:Int)(nx:Lab)(mk:Int)(l:Lab)(hb0:U64 l.bits)(hki:∀i,i<n->U64 (f i).key):k9 Tryz.prog 271 [R3 A n c f kd nx mk,i6 l] (fun x=>s4 (x.A 0) (G8 l (f5 f n)).length (x.c 0) (itF (G8 l (f5 f n)))):=by
 intro m w hm hargs;have hmx:maxLen=9223372036854775807:=rfl;unfold R3 s4 at hargs;simp only[i6]at hargs;refine en 31 hm hargs Tryz.func271 fun B O a0 Z=>?_
 refine a6 [2,3] [2,3] Z fun X0 Z=>?_
 refine a6 [5,2,3] [2,3,5,29] Z fun X1 Z=>?_
 refine a7 (a6 [5,6,2,3] [2,3,5,29] Z fun X2 Z=>?_);replace Z:=Z.headS (v':=.sl (some 5) none 0 0 2 (fun t=>itC s7)) (zq0) rfl;refine j1 (l3 (ι:=Nat×Nat×(Nat->Itm)×Option Addr×Nat) (fun p=>[(5,.sl (some 5) p.2.2.2.1 p.2.1 p.2.2.2.2 2 (fun t=>itC (p.2.2.1 t))),(6,.int .i64 (p.1:Int))]) (fun p=>[]) (fun p=>[(5,⟨p.2.2.2.1,p.2.1,p.2.2.2.2,2,62⟩)]) (fun p=>p.1<=n/\p.2.1<=p.1/\f5 p.2.2.1 p.2.1=G8 l (f5 f p.1)) (fun p=>n-p.1) (0,0,fun _=>s7,none,0) ⟨Nat.zero_le _,Nat.le_refl _,rfl⟩ Z ?_)
 rintro⟨i,q,g,A1,c1⟩ ⟨hi,hq,hg⟩ _ _ Z
 try dsimp only at hi
 try dsimp only at hq
 try dsimp only at hg
 refine a7 (a6 [11,5,6,2,3] [2,3,5,29] Z (hob:=?hob) fun X3 Z=>?_)
 case hob=>
  intro X;subst O
  repeat(first|exact trivial|refine⟨rfl,?_⟩|refine⟨⟨show(0:Int)<=(i:Int)by omega,show(i:Int)<(n:Int)by omega⟩,?_⟩)
 apply b7 Z rfl<;>intro hb Z
 .have hin:i<n:=by
   have:(i:Int)<(n:Int):=by subst O;simpa[std,d4]using hb
   omega
  have S:=tV l hb0 (f i).key (hki i hin);simp only[i6]at S;obtain⟨cq,hcq⟩:=eqv (z6 l (f i).key);rw[<-hcq]at S;refine f8 (a7 (j1 (a7 (drg O a8 [21,5,6,2,3] [2,3,5,29] [(7,.r fun _=>.bool (.v cq))] Z (hob:=?hob) fun X5 _ _ Z=>?_))))
  case hob=>
   intro X;subst O
   repeat(first|exact trivial|refine⟨rfl,?_⟩|refine⟨⟨show(0:Int)<=(i:Int)by omega,show(i:Int)<(n:Int)by omega⟩,?_⟩|refine⟨⟨yG,S⟩,?_⟩)
  apply b7 Z rfl<;>intro hb Z
  .have hct:cq=true:=hb
   rw[hct]at hcq;refine j5 [5,6,2,3] [2,3,5,29] Z (hob:=?hob) fun X6 Z=>?_
   case hob=>
    intro X;subst O
    repeat(first|exact trivial|refine⟨⟨rfl,rfl,rfl⟩,?_⟩|refine⟨rfl,?_⟩|refine⟨⟨show(0:Int)<=(i:Int)by omega,show(i:Int)<(n:Int)by omega⟩,?_⟩|refine⟨⟨show q+1<=maxLen by omega,show(q+1)*_<=_ by omega⟩,?_⟩)
   replace Z:=Z.headS (v':=.sl (some 5) ((X6 7).A 0) (B.nadd q 1) ((X6 7).c 0) 2 (fun t=>itC (V3 g q (f i) t))) (Sim.resl rfl (fun t ht=>by
    subst O;have ht2:t<q+1:=ht
    show D3 q (fun t=>itC (g t)) (C9 2 [.int .u64 (f i).key,.str (f i).val]) t=_
    unfold D3 V3
    split
    .rw [if_neg (by omega)]
    have:t=q:=by omega
    subst this;simp[C9,itC])) rfl
   refine j5 [5,6,2,3] [2,3,5,29] Z fun X4 Z=>?_
   have e:B.arith .add .i64 (i:Int) 1=((i+1:Nat):Int):=by subst O;exact k4 (n:=n) hin (by omega)
   refine⟨(i+1,q+1,V3 g q (f i),_,_),⟨by simp only;omega,by simp only;omega,?_⟩,by simp only;omega,by rw[<-e,show q+1=B.nadd q 1 by subst O;rfl];exact Z⟩
   simp only;rw[Q8,hg,sW,if_pos hcq.symm]
  have hcf:cq=false:=hb;rw[hcf]at hcq;refine f8 (j5 [5,6,2,3] [2,3,5,29] Z fun X4 Z=>?_);have e:B.arith .add .i64 (i:Int) 1=((i+1:Nat):Int):=by subst O;exact k4 (n:=n) hin (by omega)
  refine⟨(i+1,q,g,_,_),⟨by simp only;omega,by simp only;omega,?_⟩,by simp only;omega,by rw[<-e];exact Z⟩;simp only;rw[hg,sW,if_neg (by rw[<-hcq];decide),List.append_nil]
 have hout:i=n:=by
  have:¬(i:Int)<(n:Int):=by subst O;simpa[std,d4]using hb
  omega
 rw[hout]at hg;refine j9 (a6 [4] [4,5,29] Z fun X7 Z=>?_);refine i8 ((rsi O a8 Z (⟨0,fun _=>A1,fun _=>c1,fun _=>⟨#[]⟩⟩) (he:=?_)));subst O;exact Sim.resl (by rw[<-hg,j2]) (fun t ht=>by rw[<-hg,j2]at ht;rw[<-hg,u6 _ _ t ht])
theorem yy:l8 Tryz.prog 285:=fun _ _=>by kernel_rfl
theorem Jb(b:Nat)(l:Lab)(hb0:U64 l.bits)(k:Int)(v:ByteArray)(hk:U64 k):C1 Tryz.prog 285 [.agg [.int .u64 k,.str v],.ptr 0 b 0] [(0,⟨b,24,[.int .i64 l.len,.int .u64 l.bits]⟩)] (fun _=>⟨.bool (.v (!z6 l k)),[(0,[.int .i64 l.len,.int .u64 l.bits])],[]⟩):=by
 intro m w hm hargs hpre;have S:=wN l hb0 k hk;simp only[i6]at S
 generalize z6 l k=cq at S ⊢
 refine enX 9 hm hpre hargs Tryz.func285 fun B O a0 Z=>?_
 refine a6 [1,2] [0,2] Z fun X0 Z=>?_
 refine i9 [3] [0] [(3,.r fun _=>.bool (.v cq))] Z (hob:=?hob) fun X1 Z=>?_
 case hob=>
  intro X;subst O
  repeat(first|exact trivial|refine⟨rfl,?_⟩|refine⟨fun _=>rfl,?_⟩|refine⟨u5 (Kk:=noK) _ _ _ _,?_⟩|refine⟨fun _=>u5 (Kk:=noK) _ _ _ _,?_⟩|refine⟨⟨sQ,S⟩,?_⟩|refine⟨fun _=>⟨sQ,S⟩,?_⟩)
 refine i8 ((rx O a8 Z C5 [] (he:=?_)).1);subst O;exact Sim.bool rfl
theorem yH:l8 Tryz.prog 136:=fun _ _=>by kernel_rfl
theorem EN(b:Nat)(A:Option Addr)(n c:Nat)(f:Nat->Itm)(hn:n<=1000000)(l:Lab)(hb0:U64 l.bits)(hki:∀i,i<n->U64 (f i).key):C1 Tryz.prog 136 [s4 A n c f,.fn 285 [] [.ptr 0 b 0]] [(0,⟨b,24,[.int .i64 l.len,.int .u64 l.bits]⟩)] (fun _=>⟨.int .i64 (nO (fun t=>!z6 l (f t).key) n),[(0,[.int .i64 l.len,.int .u64 l.bits])],[]⟩):=by
 intro m w hm hargs hpre;have hmx:maxLen=9223372036854775807:=rfl;unfold s4 at hargs;refine enX 19 hm hpre hargs Tryz.func136 fun B O a0 Z=>?_
 refine a6 [0,1] [0] Z fun X0 Z=>?_
 refine a7 (a6 [8,0,1,7] [0] Z fun X1 Z=>?_);refine j1 (l3 (ι:=Nat) (fun p=>[(8,.int .i64 (p:Int))]) (fun p=>[]) (fun p=>[]) (fun p=>p<=n/\∀t,t<p->(!z6 l (f t).key)=false) (fun p=>n-p) 0 ⟨Nat.zero_le _,fun t ht=>absurd ht (Nat.not_lt_zero _)⟩ Z ?_)
 rintro i ⟨hi,hlt⟩ _ _ Z
 try dsimp only at hi
 try dsimp only at hlt
 refine a6 [9,8,0,1,7] [0] Z fun X2 Z=>?_
 refine a7 (b7 Z rfl (fun hb Z=>?_) (fun hb Z=>?_))
 .have hin:i<n:=by
   have:(i:Int)<(n:Int):=by subst O;simpa[std,d4]using hb
   omega
  have S:=Jb b l hb0 (f i).key (f i).val (hki i hin);obtain⟨q,hq⟩:=eqv (!z6 l (f i).key);rw[<-hq]at S;refine f8 (a7 (j1 (a6 [5,8,0,1,7] [0] Z fun X3 Z=>?_)));refine i9 [16,5,8,0,1,7] [0] [(5,.x fun _=>⟨.bool (.v q),[(0,[.int .i64 l.len,.int .u64 l.bits])],[]⟩)] Z (hob:=?hob) fun X4 Z=>?_
  case hob=>
   intro X;subst O
   repeat(first|exact trivial|refine⟨rfl,?_⟩|refine⟨⟨show(0:Int)<=(i:Int)by omega,show(i:Int)<(n:Int)by omega⟩,?_⟩|refine⟨⟨yy,S⟩,?_⟩)
  apply b7 Z rfl<;>intro hb Z
  .have hqt:q=true:=hb
   refine a6 [4] [0] Z fun X5 Z=>?_
   refine i8 ((rx O a8 Z C5 [] (he:=?_)).1);subst O;rw[lp (p:=fun t=>!z6 l (f t).key) hin hlt (by show(!z6 l (f i).key)=true;rw[<-hq];exact hqt)];exact zr
  have hqf:q=false:=hb;refine f8 (j5 [8,0,1,7] [0] Z fun X6 Z=>?_);have e:B.arith .add .i64 (i:Int) 1=((i+1:Nat):Int):=by subst O;exact k4 (n:=n) hin (by omega)
  refine⟨i+1,⟨by omega,fun t ht=>?_⟩,by omega,by rw[<-e];exact Z⟩
  by_cases h:t=i
  .rw [h,<-hq];exact hqf
  exact hlt t (by omega)
 have hout:i=n:=by
  have:¬(i:Int)<(n:Int):=by subst O;simpa[std,d4]using hb
  omega
 rw[hout]at hlt;refine j9 (a6 [4] [0] Z fun X7 Z=>?_);refine i8 ((rx O a8 Z C5 [] (he:=?_)).1);subst O;rw[mI (p:=fun t=>!z6 l (f t).key) hlt];exact zr
theorem sO:l8 Tryz.prog 74:=fun _ _=>by kernel_rfl
theorem EO(b:Nat)(A:Option Addr)(n c:Nat)(f:Nat->Itm)(hn:n<=1000000)(l:Lab)(hb0:U64 l.bits)(hki:∀i,i<n->U64 (f i).key):C1 Tryz.prog 74 [s4 A n c f,.fn 285 [] [.ptr 0 b 0]] [(0,⟨b,24,[.int .i64 l.len,.int .u64 l.bits]⟩)] (fun _=>⟨.bool (.v (!decide ((G8 l (f5 f n)).length=n))),[(0,[.int .i64 l.len,.int .u64 l.bits])],[]⟩):=by
 intro m w hm hargs hpre;have S:=EN b A n c f hn l hb0 hki;have HC:=oF (fun t=>!z6 l (f t).key) n
 generalize (nO (fun t=>!z6 l (f t).key) n)=ix at S HC
 unfold s4 at S hargs;refine enX 9 hm hpre hargs Tryz.func74 fun B O a0 Z=>?_
 refine a6 [0,1] [0] Z fun X0 Z=>?_
 refine i9 [4] [0] [(2,.x fun _=>⟨.int .i64 ix,[(0,[.int .i64 l.len,.int .u64 l.bits])],[]⟩)] Z (hob:=?hob) fun X1 Z=>?_
 case hob=>
  intro X;subst O
  repeat(first|exact trivial|refine⟨rfl,?_⟩|refine⟨⟨show(0:Int)<=(i:Int)by omega,show(i:Int)<(n:Int)by omega⟩,?_⟩|refine⟨⟨yH,S⟩,?_⟩)
 refine i8 ((rx O a8 Z C5 [] (he:=?_)).1);subst O;refine Sim.bool ?_
 show decide (ix ≥ 0) = !decide ((G8 l (f5 f n)).length=n)
 rw[decide_eq_decide.2 (ns (l:=l) (f:=f) (n:=n))]
 rcases HC with⟨i,h1,h2,h3,h4⟩|⟨h1,h2⟩
 .have h5:¬∀i,i<n->z6 l (f i).key=true:=fun h=>by have:=h i h1;simp[this]at h3
  rw[decide_eq_false h5,h2];simp
 have h5:∀i,i<n->z6 l (f i).key=true:=fun i hi=>by simpa using h2 i hi
 rw[decide_eq_true h5,h1];rfl
theorem Jd(k0:Nat)(b:Nat)(A:Option Addr)(n c:Nat)(f:Nat->Itm)(hn:n<=1000000)(l:Lab)(hb0:U64 l.bits)(hki:∀i,i<n->U64 (f i).key):C1 Tryz.prog 74 [s4 A n c f,.fn 285 [] [.ptr k0 b 0]] [(k0,⟨b,24,[.int .i64 l.len,.int .u64 l.bits]⟩)] (fun _=>⟨.bool (.v (!decide ((G8 l (f5 f n)).length=n))),[(k0,[.int .i64 l.len,.int .u64 l.bits])],[]⟩):=
 (EO b A n c f hn l hb0 hki).re (by repeat(first|exact trivial|refine⟨Sim.ptr,?_⟩|refine⟨Sim.fn ⟨Sim.ptr,trivial⟩ trivial,?_⟩|refine⟨Sim.fn trivial ⟨Sim.ptr,trivial⟩,?_⟩|refine⟨zr,?_⟩)) rfl (fun x=>⟨rfl,rfl,zr,rfl⟩)
theorem ym(A:Option Addr)(n c:Nat)(f:Nat->Itm)(hn:n<=1000000)(kd:Int)(nx:Lab)(mk:Int)(hv:U64 nx.bits)(hki:∀i,i<n->U64 (f i).key)(l:Lab)(hb0:U64 l.bits)(hil:(R6 kd n f nx mk&&isL l)=false):k9 Tryz.prog 259 [R3 A n c f kd nx mk,i6 l] (fun x=>.tup [jX (x.A 0) (x.c 0) (K2 kd n f nx mk l).1,jX (x.A 1) (x.c 1) (K2 kd n f nx mk l).2.1,.int .i64 (K2 kd n f nx mk l).2.2]):=by
 intro m w hm hargs;have hmx:maxLen=9223372036854775807:=rfl;have SI:=mH A n c f (by omega) kd nx mk hv;have SL:=fZ l hb0;unfold R3 s4 at SI hargs;simp only[i6]at SL hargs;obtain⟨ir,hir⟩:=eqv (R6 kd n f nx mk);obtain⟨il,hll⟩:=eqv (isL l);rw[<-hir]at SI hil;rw[<-hll]at SL hil;have hW:(K2 kd n f nx mk l)=(k6,k6,1):=by unfold K2;rw[<-hir,<-hll,hil];rfl
 refine en 79 hm hargs Tryz.func259 fun B O a0 Z=>?_
 refine a6 [2,3,4,5] [2,3,4,5] Z fun X0 Z=>?_
 refine a6 [7,2,3,4,5] [2,3,4,5] Z fun X1 Z=>?_
 refine a7 (j1 (a7 (wp_region_lit (lpr 0 9 O a8 [24,7,2,3,4,5] [2,3,4,5] [(1,.r fun _=>.bool (.v ir)),(5,.r fun _=>.bool (.v il))] Z (hob:=?hob) fun X2_0 _ _ Z=>?_))))
 case hob=>
  intro X;subst O
  repeat(first|exact trivial|refine⟨rfl,?_⟩|refine⟨fun _=>rfl,?_⟩|refine⟨u5 (Kk:=noK) _ _ _ _,?_⟩|refine⟨fun _=>u5 (Kk:=noK) _ _ _ _,?_⟩|refine⟨⟨bX,SI⟩,?_⟩|refine⟨fun _=>⟨bX,SI⟩,?_⟩|refine⟨⟨aL,SL⟩,?_⟩|refine⟨fun _=>⟨aL,SL⟩,?_⟩)
 replace Z:=Z.headS (v':=.bool .tt) (Sim.bool (by subst O;show(if(!ir)=true then true else !il)=true;cases ir<;>cases il<;>first|rfl|(cases hil))) rfl;refine lnd 9 O a8 [15,2,3,4,5] [2,3,4,5] [(1,.r fun _=>.bool (.v ir)),(5,.r fun _=>.bool (.v il))] Z (hob:=?hob) fun X2 _ _ Z=>?_
 case hob=>
  intro X;subst O
  repeat(first|exact trivial|refine⟨rfl,?_⟩|refine⟨fun _=>rfl,?_⟩|refine⟨u5 (Kk:=noK) _ _ _ _,?_⟩|refine⟨fun _=>u5 (Kk:=noK) _ _ _ _,?_⟩)
 refine l7 Z rfl (fun Z=>?_);refine a6 [4,5,6] [2,3,4,5] Z fun X3 Z=>?_
 refine i8 ((rsi O a8 Z (⟨0,fun _=>none,fun _=>0,fun _=>⟨#[]⟩⟩) (he:=?_)));subst O;rw[hW];exact Sim.tup ⟨Sim.agg ⟨zr,zq0,zr,zr,zr,trivial⟩,Sim.agg ⟨zr,zq0,zr,zr,zr,trivial⟩,zr,trivial⟩
theorem uA(A:Option Addr)(n c:Nat)(f:Nat->Itm)(hn:n<=1000000)(kd:Int)(nx:Lab)(mk:Int)(hv:U64 nx.bits)(hki:∀i,i<n->U64 (f i).key)(l:Lab)(hb0:U64 l.bits)(hil:(R6 kd n f nx mk&&isL l)=true):k9 Tryz.prog 259 [R3 A n c f kd nx mk,i6 l] (fun x=>.tup [jX (x.A 0) (x.c 0) (K2 kd n f nx mk l).1,jX (x.A 1) (x.c 1) (K2 kd n f nx mk l).2.1,.int .i64 (K2 kd n f nx mk l).2.2]):=by
 intro m w hm hargs;have hmx:maxLen=9223372036854775807:=rfl;have SI:=mH A n c f (by omega) kd nx mk hv;have SL:=fZ l hb0;unfold R3 s4 at SI hargs;simp only[i6]at SL hargs;obtain⟨ir,hir⟩:=eqv (R6 kd n f nx mk);obtain⟨il,hll⟩:=eqv (isL l);rw[<-hir]at SI hil;rw[<-hll]at SL hil;rw[Bool.and_eq_true]at hil;have hLt:isL l=true:=by rw[<-hll];exact hil.2
 obtain⟨hl0,hl1,hl2⟩:=r8 hLt;obtain⟨hkd1,hkd5,hn16,hnl,hok⟩:=bB (hir.symm.trans hil.1);refine en 79 hm hargs Tryz.func259 fun B O a0 Z=>?_
 refine a6 [2,3,4,5] [2,3,4,5] Z fun X0 Z=>?_
 refine a6 [7,2,3,4,5] [2,3,4,5] Z fun X1 Z=>?_
 have SC:=Jd 3 (X0 1).b A n c f hn l hb0 hki;obtain⟨ca,hca⟩:=eqv (decide ((G8 l (f5 f n)).length=n));rw[<-hca]at SC;unfold s4 at SC;refine a7 (j1 (a7 (wp_region_lit (lpr 0 9 O a8 [24,7,2,3,4,5] [2,3,4,5] [(1,.r fun _=>.bool (.v ir)),(5,.r fun _=>.bool (.v il)),(12,.x fun _=>⟨.bool (.v (!ca)),[(3,[.int .i64 l.len,.int .u64 l.bits])],[]⟩)] Z (hob:=?hob) fun X2_0 _ _ Z=>?_))))
 case hob=>
  intro X;subst O
  repeat(first|exact trivial|refine⟨rfl,?_⟩|refine⟨fun _=>rfl,?_⟩|refine⟨u5 (Kk:=noK) _ _ _ _,?_⟩|refine⟨fun _=>u5 (Kk:=noK) _ _ _ _,?_⟩|refine⟨⟨bX,SI⟩,?_⟩|refine⟨fun _=>⟨bX,SI⟩,?_⟩|refine⟨⟨aL,SL⟩,?_⟩|refine⟨fun _=>⟨aL,SL⟩,?_⟩)
 replace Z:=Z.headS (v':=.bool .ff) (Sim.bool (by subst O;show(if(!ir)=true then true else !il)=false;rw[hil.1,hil.2];rfl)) rfl;refine lnd 9 O a8 [15,2,3,4,5] [2,3,4,5] [(1,.r fun _=>.bool (.v ir)),(5,.r fun _=>.bool (.v il)),(12,.x fun _=>⟨.bool (.v (!ca)),[(3,[.int .i64 l.len,.int .u64 l.bits])],[]⟩)] Z (hob:=?hob) fun X2 _ _ Z=>?_
 case hob=>
  intro X;subst O
  repeat(first|exact trivial|refine⟨rfl,?_⟩|refine⟨fun _=>rfl,?_⟩|refine⟨u5 (Kk:=noK) _ _ _ _,?_⟩|refine⟨fun _=>u5 (Kk:=noK) _ _ _ _,?_⟩|refine⟨⟨sO,SC⟩,?_⟩|refine⟨fun _=>⟨sO,SC⟩,?_⟩)
 apply b7 Z rfl<;>intro hb Z
 .have hcf:ca=false:=by
   have h9:(!ca)=true:=by subst O;exact hb
   cases ca<;>first|rfl|(cases h9)
  have hW:(K2 kd n f nx mk l)=(k6,k6,1):=by unfold K2;rw[<-hir,<-hll,<-hca,hil.1,hil.2,hcf];rfl
  refine a6 [4,5,6] [2,3,4,5] Z fun X3 Z=>?_
  refine i8 ((rsi O a8 Z (⟨0,fun _=>none,fun _=>0,fun _=>⟨#[]⟩⟩) (he:=?_)));subst O;rw[hW];exact Sim.tup ⟨Sim.agg ⟨zr,zq0,zr,zr,zr,trivial⟩,Sim.agg ⟨zr,zq0,zr,zr,zr,trivial⟩,zr,trivial⟩
 have hct:ca=true:=by
  have h9:(!ca)=false:=by subst O;exact hb
  cases ca<;>first|rfl|(cases h9)
 have hcn:=of_decide_eq_true (hca.symm.trans hct);have hcc:=ns.1 hcn;refine a6 [32,2,3,4,5] [2,3,4,5] Z fun X4 Z=>?_
 apply b7 Z rfl<;>intro hb Z
 .have h9:(if(!decide (kd=1))=true then !decide (kd=3)else false)=true:=by subst O;exact hb
  have hk:kd≠1/\kd≠3:=by
   rw[C0]at h9
   simpa using h9
  have hW:(K2 kd n f nx mk l)=(k6,k6,13):=by unfold K2;rw[<-hir,<-hll,<-hca,hil.1,hil.2,hct,if_neg (by decide),if_pos hk]
  refine a6 [4,5,6] [2,3,4,5] Z fun X5 Z=>?_
  refine i8 ((rsi O a8 Z (⟨0,fun _=>none,fun _=>0,fun _=>⟨#[]⟩⟩) (he:=?_)));subst O;rw[hW];exact Sim.tup ⟨Sim.agg ⟨zr,zq0,zr,zr,zr,trivial⟩,Sim.agg ⟨zr,zq0,zr,zr,zr,trivial⟩,zr,trivial⟩
 have h9:(if(!decide (kd=1))=true then !decide (kd=3)else false)=false:=by subst O;exact hb
 have hk:¬(kd≠1/\kd≠3):=by
  intro h;rw[C0]at h9;simp[h.1,h.2]at h9
 refine a6 [43,2,3,4,5] [2,3,4,5] Z fun X6 Z=>?_
 apply b7 Z rfl<;>intro hb Z
 .have h64:l.len=64:=by subst O;simpa[std,d4]using hb
  have hW:(K2 kd n f nx mk l)=(k6,k6,5):=by unfold K2;rw[<-hir,<-hll,<-hca,hil.1,hil.2,hct,if_neg (by decide),if_neg hk,if_pos h64]
  refine a6 [4,5,6] [2,3,4,5] Z fun X7 Z=>?_
  refine i8 ((rsi O a8 Z (⟨0,fun _=>none,fun _=>0,fun _=>⟨#[]⟩⟩) (he:=?_)));subst O;rw[hW];exact Sim.tup ⟨Sim.agg ⟨zr,zq0,zr,zr,zr,trivial⟩,Sim.agg ⟨zr,zq0,zr,zr,zr,trivial⟩,zr,trivial⟩
 have h64:l.len≠64:=by subst O;simpa[std,d4]using hb
 obtain⟨k,hk1⟩:=eqv (u7 l 1);have SCH:=lz l hb0 1 (.inr rfl);rw[(oZ (b:=1) hLt h64).1,(oZ (b:=1) hLt h64).2,<-hk1]at SCH;simp only[i6]at SCH;have SA:=NG A n c f hn k.bits;obtain⟨p,hp⟩:=eqv (bsF f k.bits 0 n);rw[<-hp]at SA;rw[hk1]at hp;obtain⟨hpn,hc0,hc1⟩:=uB hok hki hLt hb0 h64 hcc hp
 generalize yk f k.bits n p=hh at SA
 unfold s4 at SA;have hW:(K2 kd n f nx mk l)=(⟨1,G8 (u7 l 0) (f5 f n),u7 l 1,0⟩,⟨1,G8 (u7 l 1) (f5 f n),nx,0⟩,0):=by unfold K2;rw[<-hir,<-hll,<-hca,hil.1,hil.2,hct,if_neg (by decide),if_neg hk,if_neg h64]
 rw[hc0,hc1,<-hk1]at hW;have SC0:=fun A c=>clone_sf A p c f (by omega)
 obtain⟨r,hr⟩:=eqv (n-p);rw[<-hr]at hW;have SC1:=fun A c=>clone_sf A r c (fun j=>f (p+j)) (by omega)
 unfold s4 at SC0 SC1;refine f8 (i9 [2,4,5,8] [2,8,4,5] [(1,.r fun _=>.tup [.agg [.int .i64 k.len,.int .u64 k.bits],.int .i64 0])] Z (hob:=?hob) fun X8 Z=>?_)
 case hob=>
  intro X;subst O
  repeat(first|exact trivial|refine⟨rfl,?_⟩|refine⟨fun _=>rfl,?_⟩|refine⟨u5 (Kk:=noK) _ _ _ _,?_⟩|refine⟨fun _=>u5 (Kk:=noK) _ _ _ _,?_⟩|refine⟨⟨oT,SCH⟩,?_⟩|refine⟨fun _=>⟨oT,SCH⟩,?_⟩)
 refine i9 [2,4,5,8,10] [2,8,4,5] [(4,.r fun _=>.tup [.int .i64 (p:Int),.bool (.v hh)])] Z (hob:=?hob) fun X9 Z=>?_
 case hob=>
  intro X;subst O
  repeat(first|exact trivial|refine⟨rfl,?_⟩|refine⟨fun _=>rfl,?_⟩|refine⟨u5 (Kk:=noK) _ _ _ _,?_⟩|refine⟨fun _=>u5 (Kk:=noK) _ _ _ _,?_⟩|refine⟨⟨oR,SA⟩,?_⟩|refine⟨fun _=>⟨oR,SA⟩,?_⟩)
 refine a7 (drg O a8 [2,4,5,8,10,12] [2,8,12,4,5] [(4,.r fun x=>.sl none (x.A 0) p (x.c 0) 2 (fun i=>itC (f i)))] Z (hob:=?hob) fun X10 _ _ Z=>?_)
 case hob=>
  intro X;subst O;refine⟨rfl,?_⟩;refine⟨⟨Int.le_refl _,show(0:Int)<=(p:Int)by omega,show(p:Int)<=(n:Int)by omega⟩,?_⟩
  refine⟨⟨nc,(SC0 _ _).sim ⟨Sim.resl (Nat.sub_zero p) (fun i hi=>by show itC (f (0+i))=itC (f i);rw[Nat.zero_add]),trivial⟩⟩,?_⟩
  repeat(first|exact trivial|refine⟨rfl,?_⟩|refine⟨⟨nc,(SC0 _ _).sim ⟨Sim.resl (Nat.sub_zero p) (fun i hi=>by show itC (f (0+i))=itC (f i);rw[Nat.zero_add]),trivial⟩⟩,?_⟩|refine⟨⟨Int.le_refl _,show(0:Int)<=(p:Int)by omega,show(p:Int)<=(n:Int)by omega⟩,?_⟩|refine⟨⟨show(0:Int)<=0 by omega,show(0:Int)<=(p:Int)by omega,show(p:Int)<=(c:Int)by omega⟩,?_⟩)
 refine a7 (drg O a8 [4,5,12,13] [12,13,4,5] [(4,.r fun x=>.sl none (x.A 0) r (x.c 0) 2 (fun i=>itC (f (p+i))))] Z (hob:=?hob) fun X11 _ _ Z=>?_)
 case hob=>
  intro X;subst O
  repeat(first|exact trivial|refine⟨rfl,?_⟩|refine⟨⟨nc,(SC1 _ _).sim ⟨Sim.resl (show _=r by rw[hr];rfl) (fun i hi=>rfl),trivial⟩⟩,?_⟩|refine⟨⟨show(0:Int)<=(p:Int)by omega,show(p:Int)<=(n:Int)by omega,Int.le_refl _⟩,?_⟩)
 refine a7 (drg O a8 [4,5,6] [4,5] [] Z (hob:=?hob) fun X12 _ _ Z=>?_)
 case hob=>
  intro X;subst O
  repeat(first|exact trivial|refine⟨rfl,?_⟩|refine⟨fun _=>rfl,?_⟩|refine⟨u5 (Kk:=noK) _ _ _ _,?_⟩|refine⟨fun _=>u5 (Kk:=noK) _ _ _ _,?_⟩)
 refine i8 ((rsi O a8 Z (⟨0,fun i=>if i=0 then(X10 4).A 0 else(X11 4).A 0,fun i=>if i=0 then(X10 4).c 0 else(X11 4).c 0,fun _=>⟨#[]⟩⟩) (he:=?_)));subst O;rw[hW];exact Sim.tup ⟨Sim.agg ⟨zr,Sim.resl (j2 f p).symm (fun t ht=>by rw[j2]at ht;rw[u6 f p t ht]),zr,zr,zr,trivial⟩,Sim.agg ⟨zr,Sim.resl (j2 _ r).symm (fun t ht=>by rw[j2]at ht;rw[u6 _ r t ht]),zr,zr,zr,trivial⟩,zr,trivial⟩
theorem xD(A:Option Addr)(n c:Nat)(f:Nat->Itm)(hn:n<=1000000)(kd:Int)(nx:Lab)(mk:Int)(hv:U64 nx.bits)(hki:∀i,i<n->U64 (f i).key)(l:Lab)(hb0:U64 l.bits):k9 Tryz.prog 233 [R3 A n c f kd nx mk,i6 l] (fun x=>.tup [jX (x.A 0) (x.c 0) (K2 kd n f nx mk l).1,jX (x.A 1) (x.c 1) (K2 kd n f nx mk l).2.1,.int .i64 (K2 kd n f nx mk l).2.2]):=by
 intro m w hm hargs;have hmx:maxLen=9223372036854775807:=rfl;have SI:=qb A n c f (by omega) kd nx mk hv;have SL:=gn l hb0;have SV:=uT A n c f hn kd nx mk l hb0 hki;unfold R3 s4 at SI SV hargs;simp only[i6]at SL SV hargs;obtain⟨ir,hir⟩:=eqv (R6 kd n f nx mk);obtain⟨il,hll⟩:=eqv (isL l);rw[<-hir]at SI;rw[<-hll]at SL;obtain⟨n1,hn1⟩:=eqv ((G8 l (f5 f n)).length);obtain⟨g1,hg1⟩:=eqv (itF (G8 l (f5 f n)));rw[<-hn1,<-hg1]at SV;refine en 71 hm hargs Tryz.func233 fun B O a0 Z=>?_
 refine a6 [2,3,4,5] [2,3,4,5] Z fun X0 Z=>?_
 refine a7 (a7 (drg O a8 [30,2,3,4,5] [2,3,4,5] [(1,.r fun _=>.bool (.v ir)),(5,.r fun _=>.bool (.v il)),(11,.r fun x=>.sl none (x.A 0) n1 (x.c 0) 2 (fun i=>itC (g1 i)))] Z (hob:=?hob) fun X1 _ _ Z=>?_))
 case hob=>
  intro X;subst O
  repeat(first|exact trivial|refine⟨rfl,?_⟩|refine⟨fun _=>rfl,?_⟩|refine⟨u5 (Kk:=noK) _ _ _ _,?_⟩|refine⟨fun _=>u5 (Kk:=noK) _ _ _ _,?_⟩|refine⟨⟨bF,SI⟩,?_⟩|refine⟨fun _=>⟨bF,SI⟩,?_⟩|refine⟨⟨bE,SL⟩,?_⟩|refine⟨fun _=>⟨bE,SL⟩,?_⟩|refine⟨⟨bD,SV⟩,?_⟩|refine⟨fun _=>⟨bD,SV⟩,?_⟩)
 apply b7 Z rfl<;>intro hb Z
 .have h9:(if(if(!ir)=true then true else !il)=true then true else !decide ((n1:Int)=(n:Int)))=true:=by subst O;exact hb
  have hW:(K2 kd n f nx mk l)=(k6,k6,1):=by
   unfold K2;rw[<-hir,<-hll,<-hn1];have:(ir&&il&&decide (n1=n))=false:=by
    cases ir<;>cases il<;>first|rfl|(simp at h9 ⊢;omega)
   rw[this];rfl
  refine a6 [4,5,6] [4,5] Z fun X2 Z=>?_
  refine i8 ((rsi O a8 Z (⟨0,fun _=>none,fun _=>0,fun _=>⟨#[]⟩⟩) (he:=?_)));subst O;rw[hW];exact Sim.tup ⟨Sim.agg ⟨zr,zq0,zr,zr,zr,trivial⟩,Sim.agg ⟨zr,zq0,zr,zr,zr,trivial⟩,zr,trivial⟩
 have h9:(if(if(!ir)=true then true else !il)=true then true else !decide ((n1:Int)=(n:Int)))=false:=by subst O;exact hb
 have hirt:ir=true:=by cases ir<;>first|rfl|(simp at h9)
 have hilt:il=true:=by rw[hirt]at h9;cases il<;>first|rfl|(simp at h9)
 have hnn:n1=n:=by
  rw[hirt,hilt]at h9;simp at h9;omega
 have hLt:isL l=true:=by rw[<-hll];exact hilt
 obtain⟨hl0,hl1,hl2⟩:=r8 hLt;obtain⟨hkd1,hkd5,hn16,hnl,hok⟩:=bB (hir.symm.trans hirt);have hcn:(G8 l (f5 f n)).length=n:=by rw[<-hn1];exact hnn
 refine f8 (a7 (a6 [40,2,3,4,5] [2,3,4,5] Z fun X3 Z=>?_));apply b7 Z rfl<;>intro hb Z
 .have h9:(if(!decide (kd=1))=true then !decide (kd=3)else false)=true:=by subst O;exact hb
  have hk:kd≠1/\kd≠3:=by
   rw[C0]at h9
   simpa using h9
  have hW:(K2 kd n f nx mk l)=(k6,k6,13):=by unfold K2;rw[<-hir,<-hll,hcn,hirt,hilt,decide_eq_true rfl,if_neg (by decide),if_pos hk]
  refine a6 [4,5,6] [4,5] Z fun X4 Z=>?_
  refine i8 ((rsi O a8 Z (⟨0,fun _=>none,fun _=>0,fun _=>⟨#[]⟩⟩) (he:=?_)));subst O;rw[hW];exact Sim.tup ⟨Sim.agg ⟨zr,zq0,zr,zr,zr,trivial⟩,Sim.agg ⟨zr,zq0,zr,zr,zr,trivial⟩,zr,trivial⟩
 have h9:(if(!decide (kd=1))=true then !decide (kd=3)else false)=false:=by subst O;exact hb
 have hk:¬(kd≠1/\kd≠3):=by
  intro h;rw[C0]at h9;simp[h.1,h.2]at h9
 refine f8 (a7 (a6 [45,2,3,4,5] [2,3,4,5] Z fun X5 Z=>?_));apply b7 Z rfl<;>intro hb Z
 .have h64:l.len=64:=by subst O;simpa[std,d4]using hb
  have hW:(K2 kd n f nx mk l)=(k6,k6,5):=by unfold K2;rw[<-hir,<-hll,hcn,hirt,hilt,decide_eq_true rfl,if_neg (by decide),if_neg hk,if_pos h64]
  refine a6 [4,5,6] [4,5] Z fun X6 Z=>?_
  refine i8 ((rsi O a8 Z (⟨0,fun _=>none,fun _=>0,fun _=>⟨#[]⟩⟩) (he:=?_)));subst O;rw[hW];exact Sim.tup ⟨Sim.agg ⟨zr,zq0,zr,zr,zr,trivial⟩,Sim.agg ⟨zr,zq0,zr,zr,zr,trivial⟩,zr,trivial⟩
 have h64:l.len≠64:=by subst O;simpa[std,d4]using hb
 obtain⟨k0,hk0⟩:=eqv (u7 l 0);have SCH0:=U3 l hb0 0 (by decide);rw[(oZ (b:=0) hLt h64).1,(oZ (b:=0) hLt h64).2,<-hk0]at SCH0;have SV0:=uT A n c f hn kd nx mk k0 (by rw[hk0];exact dU hLt hb0 h64 0) hki;obtain⟨m0,hm0⟩:=eqv ((G8 k0 (f5 f n)).length);obtain⟨h0,hh0⟩:=eqv (itF (G8 k0 (f5 f n)));rw[<-hm0,<-hh0]at SV0;unfold R3 s4 at SV0;simp only[i6]at SCH0 SV0;obtain⟨k1,hk1⟩:=eqv (u7 l 1);have SCH1:=U3 l hb0 1 (by decide);rw[(oZ (b:=1) hLt h64).1,(oZ (b:=1) hLt h64).2,<-hk1]at SCH1;have SV1:=uT A n c f hn kd nx mk k1 (by rw[hk1];exact dU hLt hb0 h64 1) hki;obtain⟨m1,hm1⟩:=eqv ((G8 k1 (f5 f n)).length);obtain⟨h1,hh1⟩:=eqv (itF (G8 k1 (f5 f n)));rw[<-hm1,<-hh1]at SV1;unfold R3 s4 at SV1;simp only[i6]at SCH1 SV1;have hW:(K2 kd n f nx mk l)=(⟨1,G8 k0 (f5 f n),k1,0⟩,⟨1,G8 k1 (f5 f n),nx,0⟩,0):=by unfold K2;rw[<-hir,<-hll,hcn,hirt,hilt,decide_eq_true rfl,if_neg (by decide),if_neg hk,if_neg h64,hk0,hk1]
 refine f8 (i9 [2,3,4,5,7] [2,3,4,5,7] [(1,.r fun _=>.tup [.agg [.int .i64 k0.len,.int .u64 k0.bits],.int .i64 0])] Z (hob:=?hob) fun X7 Z=>?_)
 case hob=>
  intro X;subst O
  repeat(first|exact trivial|refine⟨rfl,?_⟩|refine⟨fun _=>rfl,?_⟩|refine⟨u5 (Kk:=noK) _ _ _ _,?_⟩|refine⟨fun _=>u5 (Kk:=noK) _ _ _ _,?_⟩|refine⟨⟨fM,SCH0⟩,?_⟩|refine⟨fun _=>⟨fM,SCH0⟩,?_⟩)
 refine i9 [2,4,5,7,9] [2,4,5,7,9] [(1,.r fun _=>.tup [.agg [.int .i64 k1.len,.int .u64 k1.bits],.int .i64 0])] Z (hob:=?hob) fun X8 Z=>?_
 case hob=>
  intro X;subst O
  repeat(first|exact trivial|refine⟨rfl,?_⟩|refine⟨fun _=>rfl,?_⟩|refine⟨u5 (Kk:=noK) _ _ _ _,?_⟩|refine⟨fun _=>u5 (Kk:=noK) _ _ _ _,?_⟩|refine⟨⟨fM,SCH1⟩,?_⟩|refine⟨fun _=>⟨fM,SCH1⟩,?_⟩)
 refine a7 (drg O a8 [2,4,5,9,11] [2,4,5,9,11] [(2,.r fun x=>.sl none (x.A 0) m0 (x.c 0) 2 (fun i=>itC (h0 i)))] Z (hob:=?hob) fun X9 _ _ Z=>?_)
 case hob=>
  intro X;subst O
  repeat(first|exact trivial|refine⟨rfl,?_⟩|refine⟨fun _=>rfl,?_⟩|refine⟨u5 (Kk:=noK) _ _ _ _,?_⟩|refine⟨fun _=>u5 (Kk:=noK) _ _ _ _,?_⟩|refine⟨⟨bD,SV0⟩,?_⟩|refine⟨fun _=>⟨bD,SV0⟩,?_⟩)
 refine a7 (drg O a8 [4,5,11,12] [4,5,11,12] [(2,.r fun x=>.sl none (x.A 0) m1 (x.c 0) 2 (fun i=>itC (h1 i)))] Z (hob:=?hob) fun X10 _ _ Z=>?_)
 case hob=>
  intro X;subst O
  repeat(first|exact trivial|refine⟨rfl,?_⟩|refine⟨fun _=>rfl,?_⟩|refine⟨u5 (Kk:=noK) _ _ _ _,?_⟩|refine⟨fun _=>u5 (Kk:=noK) _ _ _ _,?_⟩|refine⟨⟨bD,SV1⟩,?_⟩|refine⟨fun _=>⟨bD,SV1⟩,?_⟩)
 refine a7 (drg O a8 [4,5,6] [4,5] [] Z (hob:=?hob) fun X11 _ _ Z=>?_)
 case hob=>
  intro X;subst O
  repeat(first|exact trivial|refine⟨rfl,?_⟩|refine⟨fun _=>rfl,?_⟩|refine⟨u5 (Kk:=noK) _ _ _ _,?_⟩|refine⟨fun _=>u5 (Kk:=noK) _ _ _ _,?_⟩)
 refine i8 ((rsi O a8 Z (⟨0,fun i=>if i=0 then(X9 2).A 0 else(X10 2).A 0,fun i=>if i=0 then(X9 2).c 0 else(X10 2).c 0,fun _=>⟨#[]⟩⟩) (he:=?_)));subst O;rw[hW];exact Sim.tup ⟨Sim.agg ⟨zr,Sim.resl hm0 (fun t ht=>by rw[hh0]),zr,zr,zr,trivial⟩,Sim.agg ⟨zr,Sim.resl hm1 (fun t ht=>by rw[hh1]),zr,zr,zr,trivial⟩,zr,trivial⟩
theorem kT{n:Nat}{m:Bool}(h:(if decide ((n:Int)>0)=true then m else false)=true):0<n/\m=true:=by
 rw[C0,Bool.and_eq_true,decide_eq_true_eq]at h;exact⟨by omega,h.2⟩
theorem Dk{n N:Nat}(hn:n<=1000)(h:(if decide ((n:Int)>0)=true then decide ((n:Int)<(N:Int))else false)=true):0<=IntKind.i64.wrap ((n:Int)-1)/\IntKind.i64.wrap ((n:Int)-1)<(N:Int):=by
 obtain⟨h1,h2⟩:=kT h;have h2:=of_decide_eq_true h2;rw[o8 (by omega) (by omega)];omega
theorem Dj{n N:Nat}(h:(if decide ((n:Int)>0)=true then decide ((n:Int)<(N:Int))else false)=true):0<=(n:Int)/\(n:Int)<(N:Int):=by
 obtain⟨h1,h2⟩:=kT h;have h2:=of_decide_eq_true h2;omega
theorem Di{n n2:Nat}(hn:n<=1000)(h:(if decide ((n:Int)>0)=true then decide ((n2:Int)>0)else false)=true):0<=IntKind.i64.wrap ((n:Int)-1)/\IntKind.i64.wrap ((n:Int)-1)<(n:Int):=by
 obtain⟨h1,h2⟩:=kT h;rw[o8 (by omega) (by omega)];omega
theorem Dh{n n2:Nat}(h:(if decide ((n:Int)>0)=true then decide ((n2:Int)>0)else false)=true):0<=(0:Int)/\(0:Int)<(n2:Int):=by
 obtain⟨h1,h2⟩:=kT h;have h2:=of_decide_eq_true h2;omega
def kN(n:Nat)(f f2:Nat->Itm):Nat->Itm:=fun t=>if t<n then f t else f2 (t-n)
def qQ(NN:Nat->Nat)(FF:Nat->Nat->Itm)(k:Nat):List Itm:=(List.range k).flatMap fun i=>f5 (FF i) (NN i)
theorem pd(NN:Nat->Nat)(FF:Nat->Nat->Itm)(k:Nat):qQ NN FF (k+1)=qQ NN FF k++f5 (FF k) (NN k):=by simp[qQ,List.range_succ]
theorem Cr(n n2:Nat)(f f2:Nat->Itm):qQ (fun i=>if i=0 then n else n2) (fun i=>if i=0 then f else f2) 2=f5 f n++f5 f2 n2:=by simp[qQ,List.range_succ]
theorem kx(q m:Nat)(g h:Nat->Itm):f5 (kN q g h) (q+m)=f5 g q++f5 h m:=by
 rw[mU]
 congr 1
 .unfold f5 kN
  apply List.map_congr_left;intro t ht;rw[if_pos (List.mem_range.1 ht)]
 unfold f5 kN;apply List.map_congr_left;intro t ht;rw[if_neg (by omega)]
 congr 1
 omega
theorem uW(f:Nat->Itm)(n:Nat)(f2:Nat->Itm)(n2 t:Nat)(h:t<n+n2):itF (f5 f n++f5 f2 n2) t=kN n f f2 t:=by
 rw[<-kx,u6 _ _ t h]
theorem Eg(f:Nat->Itm)(n:Nat)(f2:Nat->Itm)(n2:Nat)(hn:n<=1000)(hn2:n2<=1000){b:Bool}:(if b=true then true else(if(if decide ((n:Int)>0)=true then decide ((n:Int)<((n+n2:Nat):Int))else false)=true then decide ((itF (f5 f n++f5 f2 n2) (IntKind.i64.wrap ((n:Int)-1)).toNat).key ≥ (itF (f5 f n++f5 f2 n2) (n:Int).toNat).key)else false))=(if b=true then true else ovl n f n2 f2):=by
 congr 1
 unfold ovl
 by_cases h1:0<n
 .by_cases h2:0<n2
  .have e1:IntKind.i64.wrap ((n:Int)-1)=(n:Int)-1:=o8 (by omega) (by omega)
   rw[e1,Int.toNat_natCast,show((n:Int)-1).toNat=n-1 by omega,uW _ _ _ _ _ (show n-1<n+n2 by omega),uW _ _ _ _ _ (show n<n+n2 by omega)];have c1:kN n f f2 (n-1)=f (n-1):=by unfold kN;rw[if_pos (by omega)]
   have c2:kN n f f2 n=f2 0:=by unfold kN;rw[if_neg (by omega),Nat.sub_self]
   rw[c1,c2];have a:decide ((n:Int)>0)=true:=by simp;omega
   have b:decide ((n:Int)<((n+n2:Nat):Int))=true:=by simp;omega
   rw[a,b,decide_eq_true h1,decide_eq_true h2];simp
  have b:decide ((n:Int)<((n+n2:Nat):Int))=false:=by simp;omega
  rw[b,decide_eq_false h2];simp
 have a:decide ((n:Int)>0)=false:=by simp;omega
 rw[a,decide_eq_false h1];simp
theorem Ar(f:Nat->Itm)(n:Nat)(f2:Nat->Itm)(n2:Nat)(hn:n<=1000):(if(if decide ((n:Int)>0)=true then decide ((n2:Int)>0)else false)=true then decide ((f (IntKind.i64.wrap ((n:Int)-1)).toNat).key ≥ (f2 (0:Int).toNat).key)else false)=ovl n f n2 f2:=by
 unfold ovl
 by_cases h1:0<n
 .have e1:IntKind.i64.wrap ((n:Int)-1)=(n:Int)-1:=o8 (by omega) (by omega)
  have a:decide ((n:Int)>0)=true:=by simp;omega
  rw[e1,show((n:Int)-1).toNat=n-1 by omega,a,decide_eq_true h1]
  by_cases h2:0<n2
  .have b:decide ((n2:Int)>0)=true:=by simp;omega
   rw[b,decide_eq_true h2];simp
  have b:decide ((n2:Int)>0)=false:=by simp;omega
  rw[b,decide_eq_false h2];simp
 have a:decide ((n:Int)>0)=false:=by simp;omega
 rw[a,decide_eq_false h1];simp
theorem oC(kd kd2:Int):((if(if(!decide (kd=1))=true then !decide (kd=5)else false)=true then true else(if(!decide (kd2=1))=true then !decide (kd2=5)else false))=true-> ¬(kd=1 \/ kd=5) \/ ¬(kd2=1 \/ kd2=5)) ∧
  ((if(if(!decide (kd=1))=true then !decide (kd=5)else false)=true then true else(if(!decide (kd2=1))=true then !decide (kd2=5)else false))=false-> ¬(¬(kd=1 \/ kd=5) \/ ¬(kd2=1 \/ kd2=5))):=by
 rw[C0,C0,V1]
 constructor
 .intro h
  simp at h;omega
 intro h;simp at h;omega
theorem yw:l8 Tryz.prog 295:=fun _ _=>by kernel_rfl
theorem yx:l8 Tryz.prog 286:=fun _ _=>by kernel_rfl
theorem Cm(A0:Option Addr)(k c0:Nat)(AA:Nat->Option Addr)(NN CC:Nat->Nat)(FF:Nat->Nat->Itm)(hk:k<=10)(hN:∀i,i<k->NN i<=1000):k9 Tryz.prog 286 [.sl none A0 k c0 1 (fun i=>[.sl none (AA i) (NN i) (CC i) 2 (fun t=>itC (FF i t))])] (fun x=>s4 (x.A 0) (qQ NN FF k).length (x.c 0) (itF (qQ NN FF k))):=by
 intro m w hm hargs;have hmx:maxLen=9223372036854775807:=rfl;refine en 36 hm hargs Tryz.func286 fun B O a0 Z=>?_
 refine a6 [0] [] Z fun X0 Z=>?_
 refine a6 [3,0] [] Z fun X1 Z=>?_
 refine a7 (a6 [3,11,0,9,10] [] Z fun X2 Z=>?_);refine j1 (l3 (ι:=Nat×Nat) (fun p=>[(3,.int .i64 (p.2:Int)),(11,.int .i64 (p.1:Int))]) (fun p=>[]) (fun p=>[]) (fun p=>p.1<=k/\p.2=(qQ NN FF p.1).length/\p.2<=1000*p.1) (fun p=>k-p.1) (0,0) ⟨Nat.zero_le _,rfl,Nat.le_refl _⟩ Z ?_)
 rintro⟨i,z⟩ ⟨hi,hz,hzb⟩ a0 w1 Z
 try dsimp only at hi
 try dsimp only at hz
 try dsimp only at hzb
 refine a6 [12,3,11,0,9,10] [] Z fun X3 Z=>?_
 refine a7 (b7 Z rfl (fun hb Z=>?_) (fun hb Z=>?_))
 .have hin:i<k:=by
   have:(i:Int)<(k:Int):=by subst O;simpa[std,d4]using hb
   omega
  have hNi:=hN i hin;refine f8 (a7 (j1 (a6 [5,3,11,0,9,10] [] Z (hob:=?hob) fun X4 Z=>?_)))
  case hob=>
   intro X;subst O
   repeat(first|exact trivial|refine⟨rfl,?_⟩|refine⟨⟨show(0:Int)<=(i:Int)by omega,show(i:Int)<(k:Int)by omega⟩,?_⟩)
  refine a6 [3,11,0,9,10] [] Z fun X5 Z=>?_
  obtain⟨z2,hz2⟩:=eqv (z+NN i);replace Z:=Z.head (v':=.int .i64 (z2:Int)) (by
   subst O
   show AV.int .i64 (IntKind.i64.wrap ((z:Int)+(NN i:Int)))=_
   rw[o8 (by omega) (by omega),hz2];rfl)
  refine a6 [20,3,11,0,9,10] [] Z fun X6 Z=>?_
  apply b7 Z rfl<;>intro hb Z
  .exfalso
   have:(z2:Int)<0:=by subst O;simpa[std,d4]using hb
   omega
  skip
  refine f8 (j5 [3,11,0,9,10] [] Z fun X8 Z=>?_);have e:B.arith .add .i64 (i:Int) 1=((i+1:Nat):Int):=by subst O;exact k4 (n:=k) hin (by omega)
  refine⟨(i+1,z2),⟨by simp only;omega,?_,by simp only;omega⟩,by simp only;omega,by rw[<-e];exact Z⟩;simp only;rw[hz2,pd,List.length_append,j2,<-hz]
 have hout:i=k:=by
  have:¬(i:Int)<(k:Int):=by subst O;simpa[std,d4]using hb
  omega
 rw[hout]at hz hzb;refine j9 (a7 (wp_region_lit (lpr 0 1 O a8 [23,0] [] [] Z fun X9_0 a0 w1 Z=>?_)));have ev:=Bz Z (t:=23) (k:=.i64) (n:=(z:Int)) rfl;refine uh (argv:=#[.slice none 0 0,.int .i64 (z:Int)]) rfl rfl rfl rfl rfl Z (by have e2:=ev;simp[Act.eval]at e2 ⊢;exact e2) yw (by show 24<36;decide) (e:=62) (k:=2) (by decide) (fun t=>itC s7) (Jg w1 z (by omega)) ?_
 intro A9 c9 a0 w1 Z;refine lnd 2 O a8 [6,0] [24] [] Z fun X9 a0 w1 Z=>?_
 refine a7 (a6 [6,27,25,26] [24] Z fun X10 Z=>?_);refine j1 (l3 (ι:=Nat×Nat×(Nat->Itm)×Option Addr×Nat) (fun p=>[(6,.sl (some 24) p.2.2.2.1 p.2.1 p.2.2.2.2 2 (fun t=>itC (p.2.2.1 t))),(27,.int .i64 (p.1:Int))]) (fun p=>[]) (fun p=>[(24,⟨p.2.2.2.1,p.2.1,p.2.2.2.2,2,62⟩)]) (fun p=>p.1<=k/\f5 p.2.2.1 p.2.1=qQ NN FF p.1/\p.2.1<=1000*p.1) (fun p=>k-p.1) (0,0,fun _=>s7,A9,c9) ⟨Nat.zero_le _,rfl,Nat.le_refl _⟩ Z ?_)
 rintro⟨i,q,g,A1,c1⟩ ⟨hi,hg,hqb⟩ a0 w1 Z
 try dsimp only at hi
 try dsimp only at hg
 try dsimp only at hqb
 refine a6 [28,6,27,25,26] [24] Z fun X11 Z=>?_
 refine a7 (b7 Z rfl (fun hb Z=>?_) (fun hb Z=>?_))
 .have hin:i<k:=by
   have:(i:Int)<(k:Int):=by subst O;simpa[std,d4]using hb
   omega
  have hNi:=hN i hin;refine f8 (a7 (j1 (a6 [8,6,27,25,26] [24] Z (hob:=?hob) fun X12 Z=>?_)))
  case hob=>
   intro X;subst O
   repeat(first|exact trivial|refine⟨rfl,?_⟩|refine⟨⟨show(0:Int)<=(i:Int)by omega,show(i:Int)<(k:Int)by omega⟩,?_⟩)
  refine j5 [6,27,25,26] [24] Z (hob:=?hob) fun X13 Z=>?_
  case hob=>
   intro X;subst O
   repeat(first|exact trivial|refine⟨⟨rfl,rfl,rfl⟩,?_⟩|refine⟨⟨show q+NN i<=maxLen by omega,show(q+NN i)*_<=_ by omega⟩,?_⟩|refine⟨rfl,?_⟩)
  replace Z:=Z.headS (v':=.sl (some 24) ((X13 2).A 0) (B.nadd q (NN (B.toNat (i:Int)))) ((X13 2).c 0) 2 (fun t=>itC (kN q g (FF i) t))) (Sim.resl rfl (fun t ht=>by
   subst O
   show D3 q (fun t=>itC (g t)) (fun t=>itC (FF i t)) t=_
   unfold D3 kN
   split<;>rfl)) rfl
  refine j5 [6,27,25,26] [24] Z fun X14 Z=>?_
  have e:B.arith .add .i64 (i:Int) 1=((i+1:Nat):Int):=by subst O;exact k4 (n:=k) hin (by omega)
  refine⟨(i+1,q+NN i,kN q g (FF i),_,_),⟨by simp only;omega,?_,by simp only;omega⟩,by simp only;omega,by rw[<-e,show q+NN i=B.nadd q (NN (B.toNat (i:Int)))by subst O;rfl];exact Z⟩
  simp only;rw[pd,kx,hg]
 have hout:i=k:=by
  have:¬(i:Int)<(k:Int):=by subst O;simpa[std,d4]using hb
  omega
 rw[hout]at hg;refine j9 (a6 [2] [2,33] Z fun X15 Z=>?_);refine i8 ((rsi O a8 Z (⟨0,fun _=>A1,fun _=>c1,fun _=>⟨#[]⟩⟩) (he:=?_)));subst O;exact Sim.resl (by rw[<-hg,j2]) (fun t ht=>by rw[<-hg,j2]at ht;rw[<-hg,u6 _ _ t ht])
theorem fL:l8 Tryz.prog 287:=fun _ _=>by kernel_rfl
theorem wx(A:Option Addr)(n c:Nat)(f:Nat->Itm)(hn:n<=1000000)(kd:Int)(nx:Lab)(mk:Int):k9 Tryz.prog 287 [R3 A n c f kd nx mk] (fun _=>.bool (.v (decide (kd=1)||decide (kd=5)))):=by
 intro m w hm hargs;unfold R3 s4 at hargs;refine en 11 hm hargs Tryz.func287 fun B O a0 Z=>?_
 refine a6 [1] [1] Z fun X0 Z=>?_
 refine a6 [2] [] Z fun X1 Z=>?_
 refine z7 Z ?_;subst O;exact Sim.bool (by show(if decide (kd=1)=true then true else decide (kd=5))=_;rw[V1];rfl)
theorem Dg(A:Option Addr)(n c:Nat)(f:Nat->Itm)(hn:n<=1000)(kd:Int)(nx:Lab)(mk:Int)(hv:U64 nx.bits)(A2:Option Addr)(n2 c2:Nat)(f2:Nat->Itm)(hn2:n2<=1000)(kd2:Int)(nx2:Lab)(mk2:Int)(hv2:U64 nx2.bits):k9 Tryz.prog 265 [R3 A n c f kd nx mk,R3 A2 n2 c2 f2 kd2 nx2 mk2] (fun x=>.tup [jX (x.A 0) (x.c 0) (cg kd n f nx mk kd2 n2 f2 nx2 mk2).1,.int .i64 (cg kd n f nx mk kd2 n2 f2 nx2 mk2).2]):=by
 intro m w hm hargs;have hmx:maxLen=9223372036854775807:=rfl;have SI:=mH A n c f (by omega) kd nx mk hv;have SI2:=mH A2 n2 c2 f2 (by omega) kd2 nx2 mk2 hv2;obtain⟨i1,hi1⟩:=eqv (R6 kd n f nx mk);obtain⟨i2,hi2⟩:=eqv (R6 kd2 n2 f2 nx2 mk2);obtain⟨ov,hov⟩:=eqv (ovl n f n2 f2);rw[<-hi1]at SI;rw[<-hi2]at SI2;unfold R3 s4 at SI SI2 hargs;have SF:=wx A n c f (by omega) kd nx mk;have SF2:=wx A2 n2 c2 f2 (by omega) kd2 nx2 mk2;unfold R3 s4 at SF SF2;obtain⟨x1,hx1⟩:=eqv ((decide (kd=1)||decide (kd=5)));obtain⟨x2,hx2⟩:=eqv ((decide (kd2=1)||decide (kd2=5)));rw[<-hx1]at SF;rw[<-hx2]at SF2;have SC:=fun A0=>Cm A0 2 2 (fun i=>if i=0 then A else A2) (fun i=>if i=0 then n else n2) (fun i=>if i=0 then c else c2) (fun i=>if i=0 then f else f2) (by decide) (fun i hi=>by show(if i=0 then n else n2)<=1000;split<;>omega)
 rw[Cr]at SC;obtain⟨N,hN⟩:=eqv ((f5 f n++f5 f2 n2).length);obtain⟨g,hg⟩:=eqv (itF (f5 f n++f5 f2 n2));rw[<-hN,<-hg]at SC;have hNn:N=n+n2:=by rw[hN,List.length_append,j2,j2]
 have hot:=Eg (b:=(if(!i1)=true then true else !i2)) f n f2 n2 (by omega) (by omega);rw[<-hg,<-hNn,<-hov]at hot;unfold s4 at SC;refine en 70 hm hargs Tryz.func265 fun B O a0 Z=>?_
 refine a6 [2,3,4] [2,3,4] Z fun X0 Z=>?_
 refine i9 [6,2,3,4] [2,3,4] [(5,.r fun x=>.sl none (x.A 0) N (x.c 0) 2 (fun i=>itC (g i)))] Z (hob:=?hob) fun X1 Z=>?_
 case hob=>
  intro X;subst O
  repeat(first|exact trivial|refine⟨rfl,?_⟩|refine⟨⟨yx,(SC _).sim ⟨Sim.resl rfl (fun i hi=>by have h2:i=0 \/ i=1:=(by omega);rcases h2 with rfl|rfl<;>rfl),trivial⟩⟩,?_⟩)
 refine a6 [7,6,2,3,4] [2,3,4] Z fun X2 Z=>?_
 replace Z:=Z.head (v':=.int .i64 (n:Int)) (by subst O;rfl);refine a7 (j1 (a7 (drg O a8 [17,6,7,2,3,4] [2,3,4] [(1,.r fun _=>.bool (.v i1)),(5,.r fun _=>.bool (.v i2))] Z (hob:=?hob) fun X3 _ _ Z=>?_)))
 case hob=>
  intro X;subst O;simp only[i7,Ob.holds,BE.den,List.mem_cons,List.not_mem_nil,or_false,forall_eq_or_imp,forall_eq]
  and_intros<;>first|trivial|exact bX|exact SI|exact SI2|(intros;first|trivial|exact bX|exact SI2|exact⟨bX,SI2⟩)|(intro h;first|exact Dk hn h.1|exact Dj h.1)
 apply b7 Z rfl<;>intro hb Z
 .have h9:(if(if(!i1)=true then true else !i2)=true then true else(if(if decide ((n:Int)>0)=true then decide ((n:Int)<(N:Int))else false)=true then decide ((g (IntKind.i64.wrap ((n:Int)-1)).toNat).key ≥ (g (n:Int).toNat).key)else false))=true:=by subst O;exact hb
  rw[hot]at h9;have hW:(cg kd n f nx mk kd2 n2 f2 nx2 mk2)=(k6,1):=by unfold cg;rw[<-hi1,<-hi2,<-hov];cases i1<;>cases i2<;>cases ov<;>first|rfl|(simp at h9)
  refine a6 [4,5] [4] Z fun X4 Z=>?_
  refine i8 ((rsi O a8 Z (⟨0,fun _=>none,fun _=>0,fun _=>⟨#[]⟩⟩) (he:=?_)));subst O;rw[hW];exact Sim.tup ⟨Sim.agg ⟨zr,zq0,zr,zr,zr,trivial⟩,zr,trivial⟩
 have h9:(if(if(!i1)=true then true else !i2)=true then true else(if(if decide ((n:Int)>0)=true then decide ((n:Int)<(N:Int))else false)=true then decide ((g (IntKind.i64.wrap ((n:Int)-1)).toNat).key ≥ (g (n:Int).toNat).key)else false))=false:=by subst O;exact hb
 rw[hot]at h9;have h12:i1=true/\i2=true/\ov=false:=by cases i1<;>cases i2<;>cases ov<;>first|exact⟨rfl,rfl,rfl⟩|(simp at h9)
 obtain⟨h1t,h2t,hovf⟩:=h12;have hU:(cg kd n f nx mk kd2 n2 f2 nx2 mk2)=(if ¬(kd=1 \/ kd=5) \/ ¬(kd2=1 \/ kd2=5)then(k6,13)else if 16<n+n2 then(k6,12)else(⟨1,f5 f n++f5 f2 n2,nx2,0⟩,0)):=by unfold cg;rw[<-hi1,<-hi2,<-hov,h1t,h2t,hovf];rfl
 refine i9 [51,6,3,4] [3,4] [(1,.r fun _=>.bool (.v x1)),(5,.r fun _=>.bool (.v x2))] Z (hob:=?hob) fun X5 Z=>?_
 case hob=>
  intro X;subst O
  repeat(first|exact trivial|refine⟨rfl,?_⟩|refine⟨fun _=>rfl,?_⟩|refine⟨u5 (Kk:=noK) _ _ _ _,?_⟩|refine⟨fun _=>u5 (Kk:=noK) _ _ _ _,?_⟩|refine⟨⟨fL,SF⟩,?_⟩|refine⟨fun _=>⟨fL,SF⟩,?_⟩|refine⟨⟨fL,SF2⟩,?_⟩|refine⟨fun _=>⟨fL,SF2⟩,?_⟩)
 apply b7 Z rfl<;>intro hb Z
 .have h9:(if(!x1)=true then true else !x2)=true:=by subst O;exact hb
  have hfx:¬(kd=1 \/ kd=5) \/ ¬(kd2=1 \/ kd2=5):=by
   cases h1:x1 with
   |false=>left;rw[h1]at hx1;simpa using hx1.symm
   |true=>
    right
    rw[h1]at h9;have h2:x2=false:=by cases x2<;>first|rfl|(simp at h9)
    rw[h2]at hx2;simpa using hx2.symm
  have hW:(cg kd n f nx mk kd2 n2 f2 nx2 mk2)=(k6,13):=by rw[hU,if_pos hfx]
  refine a6 [4,5] [4] Z fun X6 Z=>?_
  refine i8 ((rsi O a8 Z (⟨0,fun _=>none,fun _=>0,fun _=>⟨#[]⟩⟩) (he:=?_)));subst O;rw[hW];exact Sim.tup ⟨Sim.agg ⟨zr,zq0,zr,zr,zr,trivial⟩,zr,trivial⟩
 have h9:(if(!x1)=true then true else !x2)=false:=by subst O;exact hb
 have hfx:¬(¬(kd=1 \/ kd=5) \/ ¬(kd2=1 \/ kd2=5)):=by
  have h1:x1=true/\x2=true:=by cases x1<;>cases x2<;>first|exact⟨rfl,rfl⟩|(simp at h9)
  rw[h1.1]at hx1;rw[h1.2]at hx2;have a:=hx1.symm;have b:=hx2.symm;simp only[Bool.or_eq_true,decide_eq_true_eq]at a b;intro h
  rcases h with h|h
  .exact h a
  exact h b
 refine a6 [61,6,3,4] [3,4] Z fun X7 Z=>?_
 apply b7 Z rfl<;>intro hb Z
 .have hf16:16<n+n2:=by
   have:(16:Int)<(N:Int):=by subst O;simpa[std,d4]using hb
   omega
  have hW:(cg kd n f nx mk kd2 n2 f2 nx2 mk2)=(k6,12):=by rw[hU,if_neg hfx,if_pos hf16]
  refine a6 [4,5] [4] Z fun X8 Z=>?_
  refine i8 ((rsi O a8 Z (⟨0,fun _=>none,fun _=>0,fun _=>⟨#[]⟩⟩) (he:=?_)));subst O;rw[hW];exact Sim.tup ⟨Sim.agg ⟨zr,zq0,zr,zr,zr,trivial⟩,zr,trivial⟩
 have hf16:¬16<n+n2:=by
  have:¬(16:Int)<(N:Int):=by subst O;simpa[std,d4]using hb
  omega
 have hW:(cg kd n f nx mk kd2 n2 f2 nx2 mk2)=(⟨1,f5 f n++f5 f2 n2,nx2,0⟩,0):=by rw[hU,if_neg hfx,if_neg hf16]
 refine f8 (a6 [4,5] [4] Z fun X9 Z=>?_);refine i8 ((rsi O a8 Z (⟨0,fun _=>(X1 5).A 0,fun _=>(X1 5).c 0,fun _=>⟨#[]⟩⟩) (he:=?_)));subst O;rw[hW];exact Sim.tup ⟨Sim.agg ⟨zr,Sim.resl hN (fun t ht=>by rw[hg]),zr,zr,zr,trivial⟩,zr,trivial⟩
theorem zO(A:Option Addr)(n c:Nat)(f:Nat->Itm)(hn:n<=1000)(kd:Int)(nx:Lab)(mk:Int)(hv:U64 nx.bits)(A2:Option Addr)(n2 c2:Nat)(f2:Nat->Itm)(hn2:n2<=1000)(kd2:Int)(nx2:Lab)(mk2:Int)(hv2:U64 nx2.bits):k9 Tryz.prog 237 [R3 A n c f kd nx mk,R3 A2 n2 c2 f2 kd2 nx2 mk2] (fun x=>.tup [jX (x.A 0) (x.c 0) (cg kd n f nx mk kd2 n2 f2 nx2 mk2).1,.int .i64 (cg kd n f nx mk kd2 n2 f2 nx2 mk2).2]):=by
 intro m w hm hargs;have hmx:maxLen=9223372036854775807:=rfl;have SI:=qb A n c f (by omega) kd nx mk hv;have SI2:=qb A2 n2 c2 f2 (by omega) kd2 nx2 mk2 hv2;obtain⟨i1,hi1⟩:=eqv (R6 kd n f nx mk);obtain⟨i2,hi2⟩:=eqv (R6 kd2 n2 f2 nx2 mk2);obtain⟨ov,hov⟩:=eqv (ovl n f n2 f2);rw[<-hi1]at SI;rw[<-hi2]at SI2;unfold R3 s4 at SI SI2 hargs;have hot:=Ar f n f2 n2 (by omega);rw[<-hov]at hot;refine en 82 hm hargs Tryz.func237 fun B O a0 Z=>?_
 refine a6 [2,3,4] [2,3,4] Z fun X0 Z=>?_
 refine a7 (i9 [15,2,3,4] [2,3,4] [(1,.r fun _=>.bool (.v i1)),(5,.r fun _=>.bool (.v i2))] Z (hob:=?hob) fun X1 Z=>?_)
 case hob=>
  intro X;subst O
  repeat(first|exact trivial|refine⟨rfl,?_⟩|refine⟨fun _=>rfl,?_⟩|refine⟨u5 (Kk:=noK) _ _ _ _,?_⟩|refine⟨fun _=>u5 (Kk:=noK) _ _ _ _,?_⟩|refine⟨⟨bF,SI⟩,?_⟩|refine⟨fun _=>⟨bF,SI⟩,?_⟩|refine⟨⟨bF,SI2⟩,?_⟩|refine⟨fun _=>⟨bF,SI2⟩,?_⟩)
 apply b7 Z rfl<;>intro hb Z
 .have h9:(if(!i1)=true then true else !i2)=true:=by subst O;exact hb
  have hW:(cg kd n f nx mk kd2 n2 f2 nx2 mk2)=(k6,1):=by unfold cg;rw[<-hi1,<-hi2,<-hov];cases i1<;>cases i2<;>cases ov<;>first|rfl|(simp at h9)
  refine a6 [4,5] [4] Z fun X2 Z=>?_
  refine i8 ((rsi O a8 Z (⟨0,fun _=>none,fun _=>0,fun _=>⟨#[]⟩⟩) (he:=?_)));subst O;rw[hW];exact Sim.tup ⟨Sim.agg ⟨zr,zq0,zr,zr,zr,trivial⟩,zr,trivial⟩
 have h9:(if(!i1)=true then true else !i2)=false:=by subst O;exact hb
 have h12:i1=true/\i2=true:=by cases i1<;>cases i2<;>first|exact⟨rfl,rfl⟩|(simp at h9)
 obtain⟨h1t,h2t⟩:=h12;refine f8 (a6 [6,2,3,4] [2,3,4] Z fun X3 Z=>?_);replace Z:=Z.head (v':=.int .i64 (n:Int)) (by subst O;rfl);refine a7 (a7 (drg O a8 [42,6,2,3,4] [2,3,4] [] Z (hob:=?hob) fun X4 _ _ Z=>?_))
 case hob=>
  intro X;subst O;simp only[i7,Ob.holds,BE.den,List.mem_cons,List.not_mem_nil,or_false,forall_eq_or_imp,forall_eq]
  and_intros<;>first|trivial|(intro h;first|trivial|exact Di hn h|exact Dh h)
 apply b7 Z rfl<;>intro hb Z
 .have h8:(if(if decide ((n:Int)>0)=true then decide ((n2:Int)>0)else false)=true then decide ((f (IntKind.i64.wrap ((n:Int)-1)).toNat).key ≥ (f2 (0:Int).toNat).key)else false)=true:=by subst O;exact hb
  rw[hot]at h8;have hW:(cg kd n f nx mk kd2 n2 f2 nx2 mk2)=(k6,1):=by unfold cg;rw[<-hi1,<-hi2,<-hov,h1t,h2t,h8];rfl
  refine a6 [4,5] [4] Z fun X5 Z=>?_
  refine i8 ((rsi O a8 Z (⟨0,fun _=>none,fun _=>0,fun _=>⟨#[]⟩⟩) (he:=?_)));subst O;rw[hW];exact Sim.tup ⟨Sim.agg ⟨zr,zq0,zr,zr,zr,trivial⟩,zr,trivial⟩
 have h8:(if(if decide ((n:Int)>0)=true then decide ((n2:Int)>0)else false)=true then decide ((f (IntKind.i64.wrap ((n:Int)-1)).toNat).key ≥ (f2 (0:Int).toNat).key)else false)=false:=by subst O;exact hb
 rw[hot]at h8;have hU:(cg kd n f nx mk kd2 n2 f2 nx2 mk2)=(if ¬(kd=1 \/ kd=5) \/ ¬(kd2=1 \/ kd2=5)then(k6,13)else if 16<n+n2 then(k6,12)else(⟨1,f5 f n++f5 f2 n2,nx2,0⟩,0)):=by unfold cg;rw[<-hi1,<-hi2,<-hov,h1t,h2t,h8];rfl
 refine f8 (a7 (a6 [61,6,2,3,4] [2,3,4] Z fun X6 Z=>?_));apply b7 Z rfl<;>intro hb Z
 .have h7:(if(if(!decide (kd=1))=true then !decide (kd=5)else false)=true then true else(if(!decide (kd2=1))=true then !decide (kd2=5)else false))=true:=by subst O;exact hb
  have hfx:=(oC kd kd2).1 h7;have hW:(cg kd n f nx mk kd2 n2 f2 nx2 mk2)=(k6,13):=by rw[hU,if_pos hfx]
  refine a6 [4,5] [4] Z fun X7 Z=>?_
  refine i8 ((rsi O a8 Z (⟨0,fun _=>none,fun _=>0,fun _=>⟨#[]⟩⟩) (he:=?_)));subst O;rw[hW];exact Sim.tup ⟨Sim.agg ⟨zr,zq0,zr,zr,zr,trivial⟩,zr,trivial⟩
 have h7:(if(if(!decide (kd=1))=true then !decide (kd=5)else false)=true then true else(if(!decide (kd2=1))=true then !decide (kd2=5)else false))=false:=by subst O;exact hb
 have hfx:=(oC kd kd2).2 h7;refine f8 (a7 (a6 [68,2,3,4] [2,3,4] Z fun X8 Z=>?_));apply b7 Z rfl<;>intro hb Z
 .have hf16:16<n+n2:=by
   have:(16:Int)<IntKind.i64.wrap ((n:Int)+(n2:Int)):=by subst O;simpa[std,d4,j0]using hb
   rw[o8 (by omega) (by omega)]at this;omega
  have hW:(cg kd n f nx mk kd2 n2 f2 nx2 mk2)=(k6,12):=by rw[hU,if_neg hfx,if_pos hf16]
  refine a6 [4,5] [4] Z fun X9 Z=>?_
  refine i8 ((rsi O a8 Z (⟨0,fun _=>none,fun _=>0,fun _=>⟨#[]⟩⟩) (he:=?_)));subst O;rw[hW];exact Sim.tup ⟨Sim.agg ⟨zr,zq0,zr,zr,zr,trivial⟩,zr,trivial⟩
 have hf16:¬16<n+n2:=by
  have:¬(16:Int)<IntKind.i64.wrap ((n:Int)+(n2:Int)):=by subst O;simpa[std,d4,j0]using hb
  rw[o8 (by omega) (by omega)]at this;omega
 have hW:(cg kd n f nx mk kd2 n2 f2 nx2 mk2)=(⟨1,f5 f n++f5 f2 n2,nx2,0⟩,0):=by rw[hU,if_neg hfx,if_neg hf16]
 refine f8 (a6 [7,2,3,4] [2,3,4,7] Z fun X10 Z=>?_);refine a6 [7,3,4] [3,4,7] Z (hob:=?hob) fun X11 Z=>?_
 case hob=>
  intro X;subst O
  repeat(first|exact trivial|refine⟨⟨rfl,rfl,rfl⟩,?_⟩|refine⟨⟨show 0+n<=maxLen by omega,show(0+n)*_<=_ by omega⟩,?_⟩|refine⟨rfl,?_⟩)
 refine a6 [7,3,4] [3,4,7] Z (hob:=?hob) fun X12 Z=>?_
 case hob=>
  intro X;subst O
  repeat(first|exact trivial|refine⟨⟨rfl,rfl,rfl⟩,?_⟩|refine⟨⟨show 0+n+n2<=maxLen by omega,show(0+n+n2)*_<=_ by omega⟩,?_⟩|refine⟨rfl,?_⟩)
 refine a6 [4,5] [4] Z fun X13 Z=>?_
 refine i8 ((rsi O a8 Z (⟨0,fun _=>(X12 3).A 0,fun _=>(X12 3).c 0,fun _=>⟨#[]⟩⟩) (he:=?_)));subst O;rw[hW];refine Sim.tup ⟨Sim.agg ⟨zr,Sim.resl (show 0+n+n2=(f5 f n++f5 f2 n2).length by rw[List.length_append,j2,j2];omega) (fun t ht=>?_),zr,zr,zr,trivial⟩,zr,trivial⟩
 show D3 (0+n) (D3 0 _ (fun t=>itC (f t))) (fun t=>itC (f2 t)) t=itC (itF (f5 f n++f5 f2 n2) t)
 rw[uW f n f2 n2 t (by have h:t<(f5 f n++f5 f2 n2).length:=ht;rw[List.length_append,j2,j2]at h;exact h)];unfold D3 kN;rw[Nat.zero_add]
 by_cases h:t<n
 .rw [if_pos h,if_neg (Nat.not_lt_zero _),if_pos h];rfl
 rw[if_neg h,if_neg h]
structure LOk(l:Lab):Prop where
 isl:isL l=true
 u:U64 l.bits
theorem P5:LOk ⟨0,0⟩:=⟨by decide,by decide,by decide⟩
theorem LOk.ch{l:Lab}(h:LOk l)(b:Int):LOk (chV l b):=by
 unfold chV
 split
 .rename_i he
  have h64:l.len≠64:=by
   intro h64;unfold chE at he;rw[h.isl]at he;simp[h64]at he
  exact⟨bG h.isl h.u h64 b,dU h.isl h.u h64 b⟩
 exact P5
theorem LOk.par{l:Lab}(h:LOk l):LOk (Q5 l):=by
 unfold Q5
 split
 .rename_i he
  have h0:l.len≠0:=by
   intro h0;unfold R4 at he;rw[h.isl]at he;simp[h0]at he
  exact⟨Ee h.isl h.u h0,LQ h.u⟩
 exact P5
theorem U1{f:Nat->Itm}{c:Nat}{A:Option Addr}:Sim (.sl none A 0 c 2 (fun _=>[])) (.sl none A 0 c 2 (fun i=>itC (f i))):=Sim.recell fun i hi=>absurd hi (Nat.not_lt_zero _)
theorem Je(x:RA)(h:ay x)(l:Lab)(hl:U64 l.bits):k9 Tryz.prog 259 [J7 x,i6 l] (fun y=>.tup [J7 ⟨y.A 0,y.c 0,(M7 x l).1.rn⟩,J7 ⟨y.A 1,y.c 1,(M7 x l).2.1.rn⟩,.int .i64 (M7 x l).2.2]):=by
 have hf:=h.few
 cases hb:(R6 x.r.kd x.r.n x.r.f x.r.nx x.r.mrk&&isL l)with
 |false=>exact ym x.A x.r.n x.c x.r.f (by omega) x.r.kd x.r.nx x.r.mrk h.nx h.key l hl hb
 |true=>exact uA x.A x.r.n x.c x.r.f (by omega) x.r.kd x.r.nx x.r.mrk h.nx h.key l hl hb
theorem KS(x y:RA)(h:ay x)(h':ay y):k9 Tryz.prog 265 [J7 x,J7 y] (fun z=>.tup [J7 ⟨z.A 0,z.c 0,(ci x y).1.rn⟩,.int .i64 (ci x y).2]):=by
 have hf:=h.few;have hf':=h'.few;exact Dg x.A x.r.n x.c x.r.f (by omega) x.r.kd x.r.nx x.r.mrk h.nx y.A y.r.n y.c y.r.f (by omega) y.r.kd y.r.nx y.r.mrk h'.nx
def fzR:Fz->RA
 | .fr x=>x
 |_=>zRA
def fzI:Fz->Int
 | .over=>0
 | .unfit=>1
 | .fr _=>2
def wD(z:Fz):AV:=.tup [J7 (fzR z),.int .i64 (fzI z)]
theorem Mk{z:Fz}(h:fzI z=0):z = .over:=by cases z<;>first|rfl|(simp[fzI]at h)
theorem Mj{z:Fz}(h:fzI z=1):z = .unfit:=by cases z<;>first|rfl|(simp[fzI]at h)
theorem Mi{z:Fz}(h0:fzI z≠0)(h1:fzI z≠1):z = .fr (fzR z):=by cases z<;>first|rfl|exact absurd rfl h0|exact absurd rfl h1
theorem A8 (bk k:Int) (n:Nat) (l up:Lab) (p:Pst):dy bk k (n + 1) l up p=(M8 k l p).bind fun g p => if gk g 5=true then (M8 k up p).bind fun q p =>
      (if(gk q 3||gk q 4)=true then aJ bk k n up q p else .ok () p).bind fun _ p=>
        if gk q 2=true then(aw k l g.ver (asR 1 g.x 0).r.abs p).bind fun d p=>if d=true then .ok () p else dy bk k n l up p else .ok () p else .ok () p:=rfl
section
def ClC(n:Nat):Prop:=∀(k0 b:Nat) (J:j4) (hJ:l6 J) (A:Option Addr) (c:Nat) (p:Pst) (hp:j3 p) (hn:p.n<=1000000) (l:Lab) (hl:LOk l),p.n<n->B3 266 k0 b J A c p [i6 l] (fun _=>k7) (G4 J.budget n l p)
def ThC(n:Nat):Prop:=∀(k0 b:Nat) (J:j4) (hJ:l6 J) (A:Option Addr) (c:Nat) (p:Pst) (hp:j3 p) (hn:p.n<=1000000) (l:Lab) (hl:LOk l),p.n<n->B3 228 k0 b J A c p [i6 l] (fun _=>k7) (J6 J.bucket J.budget n l p)
def Gs(n:Nat):Prop:=∀(k0 b:Nat) (J:j4) (hJ:l6 J) (A:Option Addr) (c:Nat) (p:Pst) (hp:j3 p) (hn:p.n<=1000000) (l:Lab) (hl:LOk l) (g:s9) (hg:ew g),p.n<n->B3 165 k0 b J A c p [i6 l,B2 g] (fun _=>k7) (aJ J.bucket J.budget n l g p)
end
end Go.Proofs.YtmbkanpapkhnaaaGreat.Sym
