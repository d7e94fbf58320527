/-
  PlShelf, SymSh, SymShM, PlCov, PlUp, SymAt, SymCov, PlProc, SymHd3, SymThr, SymPr0, SymUp, SymPr1, EtyI, InsertI, ItOwn, ItGrow, PlMap, ItCut, SymHalf, SymUni, SymPr2: put together by a program of mine (a claim may have 60 files at most). Conditions: none.
-/
import Derived.WalkKit
import Derived.WalkLawsBesides
import Derived.WalkSpells
import Derived.Lib.Hide
import Derived.Deep.QuietTactic
import Derived.BigQuiet
import Derived.Deep.LoopGhost
import Derived.Deep.DeepCutAuto
import Derived.Deep.RegionLaw
import Derived.Lib.Overlaps
import Derived.Laws.CopyOwn
import Derived.IntWalk
import Derived.ProofKit
import Derived.OpenShut
import Derived.ShutString
import Derived.ChangeOld
import Derived.Deep.Slices
import Derived.Test.YtodelmejfpkicaaGreatProg
import Derived.Orders
import Derived.OrdersHeld
import Derived.Defers
import Derived.Recover
import Derived.Lib.BitFns
import Derived.ChangeKeysEq
import Derived.Test.YtodelmejfpkicaaGreatChecked
import Derived.Lib.BufferWrite
import Derived.Maps.OwnSet
import Derived.Maps.RangeWalk
import Derived.Maps.Ext
import Derived.DeepKeys4
import Derived.LoopN
import Derived.Test.YtodelmejfpkicaaGreatMgS1
import Derived.Test.YtodelmejfpkicaaGreatMgS2
set_option linter.unusedVariables false
set_option linter.unusedSimpArgs false
set_option maxRecDepth 100000
set_option maxHeartbeats 1600000
namespace Go.Proofs.YtodelmejfpkicaaGreat
open Go.RowKit Sym
structure RN where
 n:Nat
 f:Nat -> Itm
 kd:Int
 nx:Lab
 mrk:Int
def RN.abs (r:RN):Rec:=⟨r.kd,b7 r.f r.n,r.nx,r.mrk⟩
def Rec.rn (r:Rec):RN:=⟨r.items.length,itF r.items,r.kind,r.next,r.mark⟩
theorem iQ (l:List Itm):b7 (itF l) l.length=l:=by
 apply List.ext_getElem
 .simp [b7]
 intro i h1 h2;simp [b7,itF,List.getD,h2]
theorem V1 (r:Rec):r.rn.abs=r:=by
 obtain ⟨k,l,nx,mk⟩:=r;simp only [Rec.rn,RN.abs,iQ]
theorem qz {f g:Nat -> Itm} {n:Nat} (h:∀ t,t < n -> f t=g t):okF f n=okF g n:=by
 unfold okF;rw [Bool.eq_iff_iff,List.all_eq_true,List.all_eq_true];have e:∀ t,t < n -> df f t=df g t:=fun t ht => by
  unfold df;rw [h t ht,h (t - 1) (by omega)]
 constructor
 .intro h1 t ht; rw [<-e t (List.mem_range.1 ht)]; exact h1 t ht
 intro h1 t ht; rw [e t (List.mem_range.1 ht)]; exact h1 t ht
theorem gi (r:RN):isR r.abs=L5 r.kd r.n r.f r.nx r.mrk:=by
 unfold isR RN.abs;simp only [i3];rw [gj,gj,qz fun t ht => s9 r.f r.n t ht]
structure Spo where
 ver:Int
 has:Bool
 r:Rec
deriving DecidableEq
def rJ:Spo:=⟨0,false,i8⟩
abbrev Shf:=List (Lab × Spo)
def J3 (a b:Lab):Bool:=decide (a.bits < b.bits) || (decide (a.bits=b.bits) && decide (a.len < b.len))
theorem nE {a b:Lab} (h1:a.len=b.len) (h2:a.bits=b.bits):a=b:=by
 obtain ⟨x,y⟩:=a; obtain ⟨x',y'⟩:=b; simp only at h1 h2; rw [h1,h2]
theorem kx (a:Lab):J3 a a=false:=by simp [J3]
theorem aJ {a b c:Lab} (h1:J3 a b=true) (h2:J3 b c=true):J3 a c=true:=by
 simp only [J3,Bool.or_eq_true,Bool.and_eq_true,decide_eq_true_eq] at *;omega
theorem aK (a b:Lab):J3 a b=true \/ a=b \/ J3 b a=true:=by
 simp only [J3,Bool.or_eq_true,Bool.and_eq_true,decide_eq_true_eq]
 by_cases h1:a.bits < b.bits
 .exact .inl (.inl h1)
 by_cases h2:b.bits < a.bits
 .exact .inr (.inr (.inl h2))
 by_cases h3:a.len < b.len
 .exact .inl (.inr ⟨by omega,h3⟩)
 by_cases h4:b.len < a.len
 .exact .inr (.inr (.inr ⟨by omega,h4⟩))
 exact .inr (.inl (nE (by omega) (by omega)))
theorem eq {a b:Lab} (h:J3 a b=true):a ≠ b:=by
 rintro rfl; rw [kx] at h; cases h
def cZ (L:Shf):Prop:=L.Pairwise fun a b => J3 a.1 b.1=true
def E0 (l:Lab):Shf -> Option Spo
 | [] => none
 | p :: L => if p.1=l then some p.2 else E0 l L
def aS (l:Lab) (x:Spo):Shf -> Shf
 | [] => [(l,x)]
 | p :: L => if J3 p.1 l then p :: aS l x L else if p.1=l then (l,x) :: L else (l,x) :: p :: L
theorem gv {l:Lab}:∀ {L:Shf},(∀ p ∈ L,J3 l p.1=true) -> E0 l L=none
 | [],_ => rfl
 | p :: L,h => by
  unfold E0;rw [if_neg (fun e => eq (h p (by simp)) e.symm)];exact gv fun q hq => h q (by simp [hq])
theorem gu (l:Lab) (x:Spo) (l':Lab):∀ L:Shf,E0 l' (aS l x L)=if l=l' then some x else E0 l' L
 | [] => by simp [aS,E0]
 | p :: L => by
  unfold aS
  split
  .rename_i hp
   unfold E0;rw [gu l x l' L]
   by_cases h1:p.1=l'
   .rw [if_pos h1,if_pos h1]
    by_cases h2:l=l'
    .exact absurd (h1.trans h2.symm) (eq hp)
    rw [if_neg h2]
   rw [if_neg h1,if_neg h1]
  split
  .rename_i _ hp
   unfold E0
   by_cases h2:l=l'
   .rw [if_pos h2,if_pos h2]
   rw [if_neg h2,if_neg h2,if_neg (by rw [hp]; exact h2)]
  show (if l=l' then some x else E0 l' (p :: L))=_
  rfl
theorem fS (l:Lab) (x:Spo):∀ {L:Shf},cZ L -> (aS l x L).length=if (E0 l L).isSome then L.length else L.length + 1
 | [],_ => rfl
 | p :: L,h => by
  have h':=List.pairwise_cons.1 h;unfold aS E0
  split
  .rename_i hp
   rw [if_neg (eq hp),List.length_cons,fS l x h'.2]
   split<;>rfl
  split
  .rfl
  rename_i hp he
  rw [gv fun q hq => ?_]
  .rfl
  rcases aK p.1 l with h1 | h1 | h1
  .exact absurd h1 hp
  .exact absurd h1 he
  exact aJ h1 (h'.1 q hq)
theorem eh {l:Lab} {x:Spo}:∀ {L:Shf} {p:Lab × Spo},p ∈ aS l x L -> p=(l,x) \/ p ∈ L
 | [],p,h => by simp [aS] at h; exact .inl h
 | q :: L,p,h => by
  unfold aS at h
  split at h
  .rcases List.mem_cons.1 h with rfl | h
   .exact .inr (by simp)
   rcases eh h with h | h
   .exact .inl h
   exact .inr (by simp [h])
  split at h
  .rcases List.mem_cons.1 h with rfl | h
   .exact .inl rfl
   exact .inr (by simp [h])
  rcases List.mem_cons.1 h with rfl | h
  .exact .inl rfl
  exact .inr h
theorem ef {l:Lab} {x:Spo}:∀ {L:Shf},cZ L -> cZ (aS l x L)
 | [],_ => List.pairwise_singleton _ _
 | p :: L,h => by
  have h':=List.pairwise_cons.1 h;unfold aS
  split
  .rename_i hp
   refine List.pairwise_cons.2 ⟨fun q hq => ?_,ef h'.2⟩
   rcases eh hq with rfl | hq
   .exact hp
   exact h'.1 q hq
  rename_i hp
  split
  .rename_i he
   exact List.pairwise_cons.2 ⟨fun q hq => by simp only; rw [<-he]; exact h'.1 q hq,h'.2⟩
  rename_i he
  have hl:J3 l p.1=true:=by
   rcases aK p.1 l with h1 | h1 | h1
   .exact absurd h1 hp
   .exact absurd h1 he
   exact h1
  refine List.pairwise_cons.2 ⟨fun q hq => ?_,h⟩
  rcases List.mem_cons.1 hq with rfl | hq
  .exact hl
  exact aJ hl (h'.1 q hq)
structure Rw where
 lab:Lab
 ver:Int
 r:Rec
deriving DecidableEq
def eY:Rw:=⟨⟨0,0⟩,0,i8⟩
def dD:List Rw -> Shf -> Option Shf
 | [],L => some L
 | w :: l,L => if (E0 w.lab L).isSome || !isL w.lab || !isR w.r then none else dD l (aS w.lab ⟨w.ver,true,w.r⟩ L)
def aT (l:List Rw):Option Shf:=if 2000 < l.length then none else dD l []
structure Got where
 code:Int
 ver:Int
 has:Bool
 r:Rec
deriving DecidableEq
def Q6:Got:=⟨0,0,false,i8⟩
structure Wnt where
 kind:Int
 lab:Lab
 ver:Int
 r:Rec
structure Did where
 L:Shf
 wrote:Bool
 got:Got
 err:Int
def inc (v:Int):Int:=IntKind.u64.wrap (v + 1)
def zt (w:Wnt):Spo:=⟨inc w.ver,decide (w.kind=2),if w.kind=2 then w.r else i8⟩
def D3 (L:Shf) (l:Lab):Spo:=(E0 l L).getD rJ
def doL (L:Shf) (w:Wnt):Did:=
 if (w.kind=1 \/ w.kind=2 \/ w.kind=3)/\isL w.lab=true/\(w.kind=2 -> isR w.r=true) then
  (if w.kind=1 then ⟨L,false,⟨0,(D3 L w.lab).ver,(D3 L w.lab).has,(D3 L w.lab).r⟩,0⟩
  else if w.ver ≠ (D3 L w.lab).ver then ⟨L,false,⟨8,(D3 L w.lab).ver,false,i8⟩,0⟩
  else if (E0 w.lab L).isNone/\2000<=L.length then ⟨L,false,Q6,12⟩
  else ⟨aS w.lab (zt w) L,true,⟨0,inc w.ver,false,i8⟩,0⟩)
 else ⟨L,false,Q6,1⟩
def I9 (L:Shf):List Rw:=(L.filter (fun p => p.2.has)).map fun p => ⟨p.1,p.2.ver,p.2.r⟩
end Go.Proofs.YtodelmejfpkicaaGreat
namespace Go.Proofs.YtodelmejfpkicaaGreat.Sym
open Go Go.RowKit
structure RA where
 A:Option Addr
 c:Nat
 r:RN
abbrev fR (x:RA):List AV:=[.int .i64 x.r.kd,.sl none x.A x.r.n x.c 2 (fun i => itC (x.r.f i)),.int .i64 x.r.nx.len,.int .u64 x.r.nx.bits,.int .u64 x.r.mrk]
abbrev u9 (x:RA):AV:=.agg (fR x)
def zRN:RN:=⟨0,fun _ => r7,0,⟨0,0⟩,0⟩
def zRA:RA:=⟨none,0,zRN⟩
structure l5 where
 lab:Lab
 ver:Int
 x:RA
abbrev u7 (w:l5):List AV:=[.int .i64 w.lab.len,.int .u64 w.lab.bits,.int .u64 w.ver,.int .i64 w.x.r.kd,.sl none w.x.A w.x.r.n w.x.c 2 (fun i => itC (w.x.r.f i)),.int .i64 w.x.r.nx.len,.int .u64 w.x.r.nx.bits,.int .u64 w.x.r.mrk]
abbrev T6 (A:Option Addr) (n c:Nat) (f:Nat -> l5):AV:=.sl none A n c 8 (fun i => u7 (f i))
def ou:l5:=⟨⟨0,0⟩,0,zRA⟩
structure SpA where
 w:l5
 has:Bool
abbrev elC (x:SpA):List AV:=[.int .u64 x.w.ver,.bool (.v x.has),.int .i64 x.w.x.r.kd,.sl none x.w.x.A x.w.x.r.n x.w.x.c 2 (fun i => itC (x.w.x.r.f i)),.int .i64 x.w.x.r.nx.len,.int .u64 x.w.x.r.nx.bits,.int .u64 x.w.x.r.mrk]
def zSp:SpA:=⟨ou,false⟩
structure l9 where
 code:Int
 ver:Int
 has:Bool
 x:RA
abbrev R8 (g:l9):List AV:=[.int .i64 g.code,.int .u64 g.ver,.bool (.v g.has),.int .i64 g.x.r.kd,.sl none g.x.A g.x.r.n g.x.c 2 (fun i => itC (g.x.r.f i)),.int .i64 g.x.r.nx.len,.int .u64 g.x.r.nx.bits,.int .u64 g.x.r.mrk]
abbrev s5 (g:l9):AV:=.agg (R8 g)
def ox:l9:=⟨0,0,false,zRA⟩
structure lI where
 code:Int
 had:Bool
 val:ByteArray
 A:Option Addr
 n:Nat
 c:Nat
 f:Nat -> Itm
 key:Int
 more:Bool
structure u0 where
 kind:Int
 lab:Lab
 ver:Int
 x:RA
 s:lI
abbrev da (w:u0):List AV:=[.int .i64 w.kind,.int .i64 w.lab.len,.int .u64 w.lab.bits,.int .u64 w.ver,.int .i64 w.x.r.kd,.sl none w.x.A w.x.r.n w.x.c 2 (fun i => itC (w.x.r.f i)),.int .i64 w.x.r.nx.len,.int .u64 w.x.r.nx.bits,.int .u64 w.x.r.mrk,.int .i64 w.s.code,.bool (.v w.s.had),.str w.s.val,.sl none w.s.A w.s.n w.s.c 2 (fun i => itC (w.s.f i)),.int .u64 w.s.key,.bool (.v w.s.more)]
abbrev B5 (w:u0):AV:=.agg (da w)
def l5.abs (w:l5):Rw:=⟨w.lab,w.ver,w.x.r.abs⟩
def SpA.abs (x:SpA):Lab × Spo:=(x.w.lab,⟨x.w.ver,x.has,x.w.x.r.abs⟩)
def l9.abs (g:l9):Got:=⟨g.code,g.ver,g.has,g.x.r.abs⟩
def u0.abs (w:u0):Wnt:=⟨w.kind,w.lab,w.ver,w.x.r.abs⟩
def J5 {α β : Type} (h:α -> β) (g:Nat -> α) (n:Nat):List β:=(List.range n).map fun i => h (g i)
theorem G3 {α β : Type} (h:α -> β) (g:Nat -> α) (n:Nat):(J5 h g n).length=n:=by simp [J5]
theorem ii {α β : Type} (h:α -> β) (g:Nat -> α) {n i:Nat} (hi:i < n):(J5 h g n)[i]? = some (h (g i)):=by simp [J5,hi]
theorem aI {α β : Type} (h:α -> β) (g:Nat -> α) (n:Nat):J5 h g (n + 1)=J5 h g n ++ [h (g n)]:=by simp [J5,List.range_succ]
abbrev r9 (f:Nat -> l5) (n:Nat):List Rw:=J5 l5.abs f n
theorem D9.length:∀ {l l':List AV},D9 l l' -> l.length=l'.length
 | [],[],_ => rfl
 | v :: l,v' :: l',h => by simp only [List.length_cons,D9.length h.2]
 | [],_ :: _,h => h.elim
 | _ :: _,[],h => h.elim
theorem Sim.rows {g g':Option Nat} {A:Option Addr} {n n' c k:Nat} {f f':Nat -> List AV} (hn:n=n') (he:∀ i,i < n' -> D9 (f i) (f' i)):Sim (.sl g A n c k f) (.sl g' A n' c k f'):=by
 subst hn;refine ⟨rfl,fun _ => rfl,fun m w h => ?_⟩
 cases h with
 | sl _ _ _ _ _ _ h1 h2 h3 h4 h5 h6 h7 =>
  exact .sl _ _ _ _ _ _ h1 h2 (fun i hi => by rw [<-(he i hi).length]; exact h3 i hi) h4 (fun i hi => by rw [<-(he i hi).map]; exact h5 i hi) (fun i hi => (he i hi).one (h6 i hi)) (fun i hi => (he i hi).ok (h7 i hi))
theorem b4.memS {C:Cx} {nt:Nat} {l:List (Nat × AV)} {mem:List (Nat × Blk)} {gr:List (Nat × Gr)} {a:Act} {w:World} {k b ty:Nat} {cells cells':List AV} (h:b4 C ⟨nt,l,[],(k,⟨b,ty,cells⟩) :: mem,gr⟩ a w) (e:D9 cells cells'):b4 C ⟨nt,l,[],(k,⟨b,ty,cells'⟩) :: mem,gr⟩ a w:=by
 have hto:∀ k' e',f5 ((k,(⟨b,ty,cells'⟩:Blk)) :: mem) k'=some e' -> ∃ e0,f5 ((k,(⟨b,ty,cells⟩:Blk)) :: mem) k'=some e0/\e0.at_=e'.at_/\e0.ty=e'.ty/\D9 e0.cells e'.cells:=by
  intro k' e' he;simp only [f5] at he ⊢
  split at he
  .rename_i hk; injection he with he; subst he; exact ⟨⟨b,ty,cells⟩,by rw [if_pos hk],rfl,rfl,e⟩
  rename_i hk; exact ⟨e',by rw [if_neg hk]; exact he,rfl,rfl,zl⟩
 have hfro:∀ k' e',f5 ((k,(⟨b,ty,cells⟩:Blk)) :: mem) k'=some e' -> ∃ e0,f5 ((k,(⟨b,ty,cells'⟩:Blk)) :: mem) k'=some e0/\e0.at_=e'.at_:=by
  intro k' e' he;simp only [f5] at he ⊢
  split at he
  .rename_i hk; injection he with he; subst he; exact ⟨⟨b,ty,cells'⟩,by rw [if_pos hk],rfl⟩
  rename_i hk; exact ⟨e',by rw [if_neg hk]; exact he,rfl⟩
 have hm:St.m ⟨nt,l,[],(k,⟨b,ty,cells'⟩) :: mem,gr⟩ C=St.m ⟨nt,l,[],(k,⟨b,ty,cells⟩) :: mem,gr⟩ C:=by
  funext x o
  apply propext
  constructor
  .rintro (h | ⟨k',e',he,hx⟩ | h)
   .exact .inl h
   .obtain ⟨e0,h1,h2,_⟩:=hto k' e' he
    exact .inr (.inl ⟨k',e0,h1,h2.trans hx⟩)
   exact .inr (.inr h)
  rintro (h | ⟨k',e',he,hx⟩ | h)
  .exact .inl h
  .obtain ⟨e0,h1,h2⟩:=hfro k' e' he
   exact .inr (.inl ⟨k',e0,h1,h2.trans hx⟩)
  exact .inr (.inr h)
 refine ⟨h.size,h.defers,fun t ht => by rw [hm]; exact h.slot t ht,fun t p v he hk => (by cases he),fun k' e' he => ?_,fun k1 k2 e1 e2 h1 h2 hne => ?_,h.gr,fun k1 t k2 e2 h1 h2 => ?_,h.sepg,h.chg,h.m0,by rw [hm]; exact h.kept⟩
 .rw [hm]
  obtain ⟨e0,h1,h2,h3,h4⟩:=hto k' e' he;obtain ⟨g1,g2,g3⟩:=h.mem k' e0 h1;refine ⟨?_,fun v hv => ⟨h4.one (fun v hv => (g2 v hv).1) v hv,h4.ok (fun v hv => (g2 v hv).2) v hv⟩,by rw [<-h2]; exact g3⟩;rw [<-h2,<-h3,<-h4.map]; exact g1
 .obtain ⟨a1,b1,c1,_⟩:=hto k1 e1 h1
  obtain ⟨a2,b2,c2,_⟩:=hto k2 e2 h2;rw [<-c1,<-c2];exact h.nodup k1 k2 a1 a2 b1 b2 hne
 obtain ⟨a2,b2,c2,_⟩:=hto k2 e2 h2;rw [<-c2];exact h.sepm k1 t k2 a2 h1 b2
theorem b4.regr {C:Cx} {nt:Nat} {l:List (Nat × AV)} {mem:List (Nat × Blk)} {k:Nat} {A:Option Addr} {n n' c kk e:Nat} {gr:List (Nat × Gr)} {a:Act} {w:World} (h:b4 C ⟨nt,l,[],mem,(k,⟨A,n,c,kk,e⟩) :: gr⟩ a w) (hn:n=n'):b4 C ⟨nt,l,[],mem,(k,⟨A,n',c,kk,e⟩) :: gr⟩ a w:=hn ▸ h
def putG (g:Nat -> SpA) (p:Nat) (x:SpA) (h:Nat):Nat -> SpA:=fun i => if i < p then g i else if i=p then x else g (i - 1 + h)
theorem qv (A:Option Addr) (c:Nat) {r r':RN} (h:r.abs=r'.abs):D9 (fR ⟨A,c,r⟩) (fR ⟨A,c,r'⟩):=by
 obtain ⟨n,f,kd,nx,mrk⟩:=r;obtain ⟨n',f',kd',nx',mrk'⟩:=r';simp only [RN.abs,Rec.mk.injEq] at h;obtain ⟨rfl,h2,rfl,rfl⟩:=h;have hn:n=n':=by rw [<-i3 f n,h2,i3]
 subst hn;refine ⟨zr,Sim.recell (fun t ht => ?_),zr,zr,zr,trivial⟩
 show itC (f t)=itC (f' t)
 rw [<-s9 f n t ht,h2,s9 f' n t ht]
theorem lz (r:Rec):r.rn.abs=r:=V1 r
def spY (A:Option Addr) (c:Nat) (g:Nat -> SpA) (A1:Option Addr) (c1:Nat) (b:Nat):f9:=⟨b,fun j => match j with | 0 => A | 1 => A1 | j + 2 => (g j).w.x.A,fun j => match j with | 0 => c | 1 => c1 | j + 2 => (g j).w.x.c,fun _ => ⟨#[]⟩⟩
def ci (y:f9) (g:Got):l9:=⟨g.code,g.ver,g.has,⟨y.A 1,y.c 1,g.r.rn⟩⟩
theorem zT {A A1:Option Addr} {c c1 b:Nat} {g:Nat -> SpA} {v:l9} {G:Got} (h:v.abs=G) (hA:v.x.A=A1) (hc:v.x.c=c1):D9 (R8 v) (R8 (ci (spY A c g A1 c1 b) G)):=by
 subst h; subst hA; subst hc;have hr:=qv v.x.A v.x.c (r:=v.x.r) (r':=v.x.r.abs.rn) (lz _).symm;exact ⟨zr,zr,zr,hr.1,hr.2.1,hr.2.2.1,hr.2.2.2.1,hr.2.2.2.2.1,trivial⟩
def W8 (y:f9) (R:List Rw) (i:Nat):l5:=⟨(R.getD i eY).lab,(R.getD i eY).ver,⟨y.A (i + 2),y.c (i + 2),(R.getD i eY).r.rn⟩⟩
theorem tR (y:f9) (R:List Rw):r9 (W8 y R) R.length=R:=by
 apply List.ext_getElem
 .simp [J5]
 intro i h1 h2;simp only [J5,List.getElem_map,List.getElem_range,W8,l5.abs,lz];simp [List.getD,h2]
def rwY (A:Option Addr) (c:Nat) (f:Nat -> l5) (b:Nat):f9:=⟨b,fun j => match j with | 0 => A | 1 => none | j + 2 => (f j).x.A,fun j => match j with | 0 => c | 1 => 0 | j + 2 => (f j).x.c,fun _ => ⟨#[]⟩⟩
theorem yN {f:Nat -> l5} {n:Nat} {R:List Rw} (h:r9 f n=R) {i:Nat} (hi:i < n):(f i).abs=R.getD i eY:=by
 rw [<-h]; simp [List.getD,ii l5.abs f hi]
theorem rR {A:Option Addr} {n c b:Nat} {f:Nat -> l5} {R:List Rw} (h:r9 f n=R) {gg:Option Nat}:Sim (.sl gg A n c 8 (fun i => u7 (f i))) (T6 A R.length c (W8 (rwY A c f b) R)):=by
 have hn:n=R.length:=by rw [<-h,G3]
 refine Sim.rows hn fun i hi => ?_
 have e:W8 (rwY A c f b) R i=⟨(R.getD i eY).lab,(R.getD i eY).ver,⟨(f i).x.A,(f i).x.c,(R.getD i eY).r.rn⟩⟩:=rfl;rw [e,<-yN h (show i < n by omega)];have hr:=qv (f i).x.A (f i).x.c (r:=(f i).x.r) (r':=(f i).x.r.abs.rn) (lz _).symm;exact ⟨zr,zr,zr,hr.1,hr.2.1,hr.2.2.1,hr.2.2.2.1,hr.2.2.2.2.1,trivial⟩
theorem se {m:Nat -> Nat -> Prop} {w:World} {g:Option Nat} {A:Option Addr} {n c k:Nat} {cells:Nat -> List AV} (h:Ok m w (.sl g A n c k cells)) {i:Nat} (hi:i < n):∀ v ∈ cells i,Ok m w v:=by
 cases h with | sl _ _ _ _ _ _ h1 h2 h3 h4 h5 h6 h7 => exact h7 i hi
theorem vM {m:Nat -> Nat -> Prop} {w:World} {g:Option Nat} {A:Option Addr} {n c:Nat} {f:Nat -> l5} (h:Ok m w (.sl g A n c 8 (fun i => u7 (f i)))):∀ i,i < n -> (f i).x.r.n<=maxLen:=by
 intro i hi;have:=gX (se h hi (.sl none (f i).x.A (f i).x.r.n (f i).x.c 2 (fun t => itC ((f i).x.r.f t))) (by simp));omega
theorem tQ (n:Nat) (f:Nat -> Itm) (n2:Nat) (f2:Nat -> Itm):cT n f n2 f2=decide (b7 f n=b7 f2 n2):=by
 by_cases h:b7 f n=b7 f2 n2
 .have hn:n=n2:=by rw [<-i3 f n,h,i3]
  rw [decide_eq_true h,gO hn];intro i hi;rw [<-s9 f n i hi,h,s9 f2 n2 i (by omega)]
 rw [decide_eq_false h]
 by_cases hn:n=n2
 .subst hn
  by_cases he:∀ i,i < n -> f i=f2 i
  .exfalso; apply h; unfold b7; exact List.map_congr_left fun t ht => he t (List.mem_range.1 ht)
  obtain ⟨i,hi⟩:=Classical.not_forall.1 he;obtain ⟨hi,hne⟩:=Classical.not_imp.1 hi;exact oN hi hne
 unfold cT; rw [decide_eq_false hn]; rfl
theorem tP (r r2:RN):dw r.kd r.n r.f r.nx r.mrk r2.kd r2.n r2.f r2.nx r2.mrk=decide (r.abs=r2.abs):=by
 unfold dw;rw [tQ];unfold RN.abs;simp only [Rec.mk.injEq]
 by_cases h1:r.kd=r2.kd<;>by_cases h2:b7 r.f r.n=b7 r2.f r2.n<;>by_cases h3:r.nx=r2.nx<;>by_cases h4:r.mrk=r2.mrk<;>simp [h1,h2,h3,h4]
def Cd (f:Nat -> l5):Nat -> Int
 | 0 => 0
 | i + 1 => IntKind.i64.wrap (Cd f i + ((f i).x.r.n:Int))
def uX (f:Nat -> l5) (n:Nat):Bool:=(List.range n).any fun i => jg (f i).x.r.n (f i).x.r.f
def pU (n:Nat) (f:Nat -> l5):Bool:=decide (300 < n) || uX f n || decide (3000 < Cd f n)
theorem rE {f:Nat -> l5} {n:Nat} (h:uX f n=false):∀ i,i < n -> jg (f i).x.r.n (f i).x.r.f=false:=by
 intro i hi;unfold uX at h;rw [List.any_eq_false] at h
 simpa using h i (List.mem_range.2 hi)
theorem uV {f:Nat -> l5} {n i:Nat} (hi:i < n) (h:jg (f i).x.r.n (f i).x.r.f=true):uX f n=true:=List.any_eq_true.2 ⟨i,List.mem_range.2 hi,h⟩
theorem uW {f:Nat -> l5} {n:Nat} (h:∀ i,i < n -> jg (f i).x.r.n (f i).x.r.f=false):uX f n=false:=by
 unfold uX;rw [List.any_eq_false];intro i hi;simp [h i (List.mem_range.1 hi)]
theorem yc {n:Nat} {f:Nat -> Itm} (h:jg n f=false):n<=40:=by
 unfold jg at h;simp only [Bool.or_eq_false_iff,decide_eq_false_iff_not] at h;omega
theorem ui {f:Nat -> l5} {n i:Nat} {L:Shf} (hi:i < n):dD ((r9 f n).drop i) L=if (E0 (f i).lab L).isSome || !isL (f i).lab || !isR (f i).x.r.abs then none else dD ((r9 f n).drop (i + 1)) (aS (f i).lab ⟨(f i).ver,true,(f i).x.r.abs⟩ L):=by
 have hl:i < (r9 f n).length:=by rw [G3]; exact hi
 have e:(r9 f n).drop i=(f i).abs :: (r9 f n).drop (i + 1):=by
  rw [List.drop_eq_getElem_cons hl]
  congr 1
  simp [J5]
 rw [e];rfl
theorem wY:laidOutB Tryz.prog=true:=by kernel_rfl
theorem sD:(24:TypeId) < Tryz.prog.types.size:=of_decide_eq_true (by kernel_rfl)
theorem wX:(match Tryz.prog.underlying 24 with | some (.array _ _) | some (.struct _) => true | _ => false)=true:=by kernel_rfl
theorem zK:WideMaps.KeyLaw Tryz.prog 24:=deep_law_laid wY (m:=2) (by omega) sD (by kernel_rfl) wX
theorem Z1:Maps.Keyed Tryz.prog 24:=Maps.Keyed.of_law zK
theorem bS:Tryz.prog.underlying 111=some (.map 24 115):=by kernel_rfl
def k4 (l:Lab):Prop:=(Lit.int .i64 l.len).wf=true/\(Lit.int .u64 l.bits).wf=true
def u4 (l:Lab):Lit:=.string (keyBytes [.int .i64 l.len,.int .u64 l.bits])
theorem J1 {l:Lab} (h:k4 l):Go.keyOf Tryz.prog 24 (b6 l).den=some (u4 l):=by
 obtain ⟨h1,h2⟩:=h;have hu:Tryz.prog.underlying 24=some (.struct _):=Tryz.underlying24;have hi:Tryz.prog.underlying 3=some (.int .i64):=by kernel_rfl
 have hb:Tryz.prog.underlying 22=some (.int .u64):=by kernel_rfl
 have hk:Tryz.prog.keyType 24=true:=by kernel_rfl
 have hc:Tryz.prog.cellsOf 24=2:=by kernel_rfl
 have hci:Tryz.prog.cellsOf 3=1:=by kernel_rfl
 have hcb:Tryz.prog.cellsOf 22=1:=by kernel_rfl
 obtain ⟨m,hm⟩:=Nat.exists_eq_succ_of_ne_zero (n:=Tryz.prog.types.size) (by have:=sD; intro h; rw [h] at this; exact absurd this (Nat.not_lt_zero _));simp [Go.keyOf,hu,hk,Value.formed,hc,b6,AV.den,AV.denL,hm,Program.keyLits,Value.cells,hci,hcb,hi,hb,h1,h2,u4]
theorem cb {l l':Lab} (h:k4 l) (h':k4 l') (e:u4 l=u4 l'):l=l':=by
 have:=Z1.inj (J1 h) (e ▸ J1 h');simp [b6,AV.den,AV.denL] at this;exact nE this.1 this.2
theorem pj {P:Program} {K:TypeId} {w:World} {b n n':Nat} {D D':DataW Value} (h:U9 P K w b n D) (h':U9 P K w b n' D'):D=D':=by
 obtain ⟨es,cl,hb,F,hs,hD⟩:=h;obtain ⟨es',cl',hb',F',hs',hD'⟩:=h';rw [hb] at hb';injection hb' with hb'; injection hb' with e1 e2
 subst e1;rw [hD,hD']
theorem lX {P:Program} {K:TypeId} {w:World} {b n:Nat} {D:DataW Value} (h:U9 P K w b n D):U9 P K w b (Maps.size D) D:=by
 obtain ⟨es,cl,hb,F,hs,hD⟩:=h;refine ⟨es,cl,hb,F,?_,hD⟩;rw [hD];simp [Maps.size,length_sorted]
abbrev Adr:=Lab -> Option Addr × Nat
abbrev elA (E:Adr) (l:Lab) (x:Spo):SpA:=⟨⟨l,x.ver,⟨(E l).1,(E l).2,x.r.rn⟩⟩,x.has⟩
structure ShD (D:DataW Value) (E:Adr) (b:Nat) (L:Shf) (m:Nat -> Nat -> Prop) (w:World):Prop where
 map:U9 Tryz.prog 24 w b L.length D
 ris:cZ L
 labs:∀ p ∈ L,k4 p.1
 has:∀ kl,Maps.has D kl=true ↔ ∃ p ∈ L,u4 p.1=kl
 size:Maps.size D=L.length
 at_:∀ p ∈ L,∀ zd,D.atKey (u4 p.1) zd = .held (AV.agg (elC (elA E p.1 p.2))).den
 ok:∀ p ∈ L,Ok m w (.agg (elC (elA E p.1 p.2)))
theorem ShD.keepB {D:DataW Value} {E:Adr} {b:Nat} {L:Shf} {m m':Nat -> Nat -> Prop} {w w':World} {bo:Option Nat} (h:ShD D E b L m w) (k:P1 bo w m w' m') (hb:bo ≠ some b):ShD D E b L m' w':=
 ⟨fm k hb h.map,h.ris,h.labs,h.has,h.size,h.at_,fun p hp => k.ok (h.ok p hp)⟩
theorem ShD.keep {D:DataW Value} {E:Adr} {b:Nat} {L:Shf} {m m':Nat -> Nat -> Prop} {w w':World} (h:ShD D E b L m w) (k:R3 w m w' m'):ShD D E b L m' w':=
 ⟨lY k h.map,h.ris,h.labs,h.has,h.size,h.at_,fun p hp => k.ok (h.ok p hp)⟩
def shD (D:DataW Value) (E:Adr) (b:Nat) (L:Shf):Kn:=⟨ShD D E b L,fun k h => h.keep k⟩
def shK (b:Nat) (L:Shf):Kn:=⟨fun m w => ∃ D E,ShD D E b L m w,fun k ⟨D,E,h⟩ => ⟨D,E,h.keep k⟩⟩
def shF (N b:Nat) (L:Shf):Kn:=⟨fun m w => N<=b/\(shK b L).p m w,fun k h => ⟨h.1,(shK b L).st k h.2⟩⟩
theorem cj {l:Lab} {x:Spo}:∀ {L:Shf},E0 l L=some x -> (l,x) ∈ L
 | p :: L,h => by
  unfold E0 at h
  split at h
  .rename_i he; injection h with h; subst h; subst he; exact List.mem_cons_self ..
  exact List.mem_cons_of_mem _ (cj h)
theorem bQ {p:Lab × Spo}:∀ {L:Shf},cZ L -> p ∈ L -> E0 p.1 L=some p.2
 | q :: L,h,hp => by
  have h':=List.pairwise_cons.1 h;unfold E0
  rcases List.mem_cons.1 hp with rfl | hp
  .rw [if_pos rfl]
  rw [if_neg (eq (h'.1 p hp))];exact bQ h'.2 hp
def qb:Value:=.agg #[.int .u64 0,.bool false,.int .i64 0,.slice none 0 0,.int .i64 0,.int .u64 0,.int .u64 0]
theorem qa (w:World):(zeroValue 115).run Tryz.prog w = .ok qb w:=by kernel_rfl
section
variable {D:DataW Value} {E:Adr} {b:Nat} {L:Shf} {m:Nat -> Nat -> Prop} {w:World} {l:Lab}
theorem ShD.hasL (h:ShD D E b L m w) (hl:k4 l):Maps.has D (u4 l)=(E0 l L).isSome:=by
 cases hf:E0 l L with
 | some x => exact (h.has _).2 ⟨(l,x),cj hf,rfl⟩
 | none =>
  rw [Option.isSome_none,Bool.eq_false_iff];intro hh;obtain ⟨p,hp,he⟩:=(h.has _).1 hh;have:p.1=l:=cb (h.labs p hp) hl he;rw [<-this,bQ h.ris hp] at hf
  cases hf
def adr (E:Adr) (L:Shf):Adr:=fun l => if (E0 l L).isSome then E l else (none,0)
theorem xA (E:Adr) (hn:E0 l L=none):AV.den (.agg (elC (elA (adr E L) l (D3 L l))))=qb/\∀ m w,Ok m w (.agg (elC (elA (adr E L) l (D3 L l)))):=by
 have e1:D3 L l=rJ:=by unfold D3; rw [hn]; rfl
 have e2:adr E L l=(none,0):=by unfold adr; rw [hn]; rfl
 unfold elA;rw [e1,e2];refine ⟨rfl,fun m w => .agg _ (fun v hv => ?_) fun v hv => ?_⟩
 .simp only [elC,List.mem_cons,List.not_mem_nil,or_false] at hv
  rcases hv with rfl | rfl | rfl | rfl | rfl | rfl | rfl<;>rfl
 simp only [elC,List.mem_cons,List.not_mem_nil,or_false] at hv
 rcases hv with rfl | rfl | rfl | rfl | rfl | rfl | rfl
 .exact .int _ _
 .exact .bool _
 .exact .int _ _
 .exact .sl _ _ _ _ _ _ (Nat.le_refl _) (Nat.zero_le _) (fun i hi => absurd hi (Nat.not_lt_zero _)) (fun i hi => absurd hi (Nat.not_lt_zero _)) (fun i hi => absurd hi (Nat.not_lt_zero _)) (fun i hi => absurd hi (Nat.not_lt_zero _)) (fun i hi => absurd hi (Nat.not_lt_zero _))
 .exact .int _ _
 .exact .int _ _
 exact .int _ _
theorem ShD.look (h:ShD D E b L m w) (hl:k4 l):D.atKey (u4 l) (.held qb) = .held (AV.agg (elC (elA (adr E L) l (D3 L l)))).den/\Ok m w (.agg (elC (elA (adr E L) l (D3 L l)))):=by
 cases hf:E0 l L with
 | some x =>
  have hm:=cj hf;have e1:D3 L l=x:=by unfold D3; rw [hf]; rfl
  have e2:adr E L l=E l:=by unfold adr; rw [hf]; rfl
  have e3:elA (adr E L) l (D3 L l)=elA E l x:=by unfold elA; rw [e1,e2]
  rw [e3];exact ⟨h.at_ _ hm _,h.ok _ hm⟩
 | none =>
  obtain ⟨e1,e2⟩:=xA (L:=L) E hf;refine ⟨?_,e2 _ _⟩;rw [e1];exact Maps.atKey_of_not_has (by rw [h.hasL hl,hf]; rfl) _
theorem ShD.put (h:ShD D E b L m w) (hl:k4 l) {w':World} (k:P1 (some b) w m w' m) (v:Int) (hs:Bool) (x:RA) (hv:Ok m w (.agg (elC ⟨⟨l,v,x⟩,hs⟩))) (hM:U9 Tryz.prog 24 w' b (L.length + 1) (D.put (u4 l) (.held (AV.agg (elC ⟨⟨l,v,x⟩,hs⟩)).den))) :
  ∃ D' E',ShD D' E' b (aS l ⟨v,hs,x.r.abs⟩ L) m w':=by
 have hsim:Sim (.agg (elC ⟨⟨l,v,x⟩,hs⟩)) (.agg (elC ⟨⟨l,v,⟨x.A,x.c,x.r.abs.rn⟩⟩,hs⟩)):=by
  have hr:=qv x.A x.c (r:=x.r) (r':=x.r.abs.rn) (lz _).symm;exact Sim.agg ⟨zr,zr,hr.1,hr.2.1,hr.2.2.1,hr.2.2.2.1,hr.2.2.2.2.1,trivial⟩
 have hkey:WideAt.IsKeyLit (u4 l):=Z1.key (J1 hl);have hmp:Maps.IsMap D:=(h.map.tidy Z1).isMap;have hsz:=lX hM;have hlen:Maps.size (D.put (u4 l) (.held (AV.agg (elC ⟨⟨l,v,x⟩,hs⟩)).den))=(aS l ⟨v,hs,x.r.abs⟩ L).length:=by
  rw [Maps.size_put (h.map.tidy Z1),h.hasL hl,fS l _ h.ris];rw [h.size]
 have hris:=ef (l:=l) (x:=⟨v,hs,x.r.abs⟩) h.ris;have hin:∀ p,p ∈ aS l ⟨v,hs,x.r.abs⟩ L ↔ p=(l,⟨v,hs,x.r.abs⟩) \/ (p ∈ L/\p.1 ≠ l):=by
  intro p
  constructor
  .intro hp
   have h1:=bQ hris hp;rw [gu] at h1
   by_cases he:l=p.1
   .rw [if_pos he] at h1
    injection h1 with h1
    obtain ⟨p1,p2⟩:=p;simp only at he h1;subst he; subst h1;exact .inl rfl
   rw [if_neg he] at h1;exact .inr ⟨cj h1,fun e => he e.symm⟩
  rintro (rfl | ⟨hp,hne⟩)
  .exact cj (by rw [gu,if_pos rfl])
  exact cj (x:=p.2) (l:=p.1) (by rw [gu,if_neg (fun e => hne e.symm)]; exact bQ h.ris hp)
 have hE:∀ p:Lab × Spo,p.1 ≠ l -> elA (fun k => if k=l then (x.A,x.c) else E k) p.1 p.2=elA E p.1 p.2:=fun p hne => by unfold elA; simp only [if_neg hne]
 have hE2:elA (fun k => if k=l then (x.A,x.c) else E k) l ⟨v,hs,x.r.abs⟩=⟨⟨l,v,⟨x.A,x.c,x.r.abs.rn⟩⟩,hs⟩:=by unfold elA; simp only [if_true]
 refine ⟨_,fun k => if k=l then (x.A,x.c) else E k,?_,hris,fun p hp => ?_,fun kl => ?_,hlen,fun p hp zd => ?_,fun p hp => ?_⟩
 .rw [hlen] at hsz; exact hsz
 .rcases (hin p).1 hp with rfl | ⟨hp,_⟩
  .exact hl
  exact h.labs p hp
 .by_cases he:kl=u4 l
  .subst he
   rw [Maps.has_put_same hmp hkey];exact ⟨fun _ => ⟨_,(hin _).2 (.inl rfl),rfl⟩,fun _ => rfl⟩
  rw [Maps.has_put_other he,h.has]
  constructor
  .rintro ⟨p,hp,hk⟩
   exact ⟨p,(hin p).2 (.inr ⟨hp,fun e => he (by rw [<-hk,e])⟩),hk⟩
  rintro ⟨p,hp,hk⟩
  rcases (hin p).1 hp with rfl | ⟨hp,_⟩
  .exact absurd hk.symm he
  exact ⟨p,hp,hk⟩
 .rcases (hin p).1 hp with rfl | ⟨hp,hne⟩
  .rw [Maps.atKey_put_same hmp hkey,hE2,hsim.1]
  rw [Maps.atKey_put_other (fun e => hne (cb (h.labs p hp) hl e)),hE p hne];exact h.at_ p hp zd
 rcases (hin p).1 hp with rfl | ⟨hp,hne⟩
 .rw [hE2]; exact k.ok (hsim.2.2 _ _ hv)
 rw [hE p hne]; exact k.ok (h.ok p hp)
theorem ml {m0:Nat -> Nat -> Prop} {w0:World} {S:Nat -> Prop} {ds:List Deferred} {D:DataW Value} {E:Adr} {b:Nat} {L:Shf} {l:Lab} (hl:k4 l) {el:SpA} (hel:el=elA (adr E L) l (D3 L l)) {hh:Bool} (hhh:hh=(E0 l L).isSome) {all:List Oper} {j t1 t2:Nat} (ho:∀ o,all[j]? = some o -> o.op = .lookup 111 (.tmp t1) (.tmp t2) true) :
  aQ ⟨m0,w0,S,ds,shD D E b L⟩ Tryz.prog all (some (j,[.tmp t1,.tmp t2],[.raw (.map (some b)),b6 l],.tup [.agg (elC el),.bool (.v hh)])):=by
 intro i xs args v he o hio s a w hF hv;simp only [Option.some.injEq,Prod.mk.injEq] at he;obtain ⟨rfl,rfl,rfl,rfl⟩:=he;have hop:=ho o hio;simp only [V0] at hv
 split at hv
 .split at hv
  .simp only [Option.map_some,Option.some.injEq,List.cons.injEq,and_true] at hv
   obtain ⟨h1,h2⟩:=hv;have hSh:ShD D E b L (s.m ⟨m0,w0,S,ds,shD D E b L⟩) w:=hF.kept;obtain ⟨g1,g2⟩:=hSh.look hl;subst hel;have hr:=qG hop hF h1 h2 rfl Z1 bS (qa w) hSh.map (J1 hl) g1;refine ⟨?_,.tup _ fun u hu => ?_⟩
   .rw [hr,hSh.hasL hl,<-hhh]
    simp [AV.den,AV.denL,BE.den]
   simp only [List.mem_cons,List.not_mem_nil,or_false] at hu
   rcases hu with rfl | rfl
   .exact g2
   exact .bool _
  simp at hv
 simp at hv
theorem nh {m:Nat -> Nat -> Prop} {w w':World} {b:Nat} {L:Shf} {l:Lab} {D:DataW Value} {n:Nat} (h0:U9 Tryz.prog 24 w b n D) (hl:k4 l) (h:(shK b L).p m w) (k:P1 (some b) w m w' m) {v:AV} {x:SpA} (hs:Sim v (.agg (elC x))) (hv:Ok m w v) (hM:U9 Tryz.prog 24 w' b (L.length + 1) (D.put (u4 l) (.held v.den))):(shK b (aS l ⟨x.w.ver,x.has,x.w.x.r.abs⟩ L)).p m w':=by
 obtain ⟨D1,E1,h1⟩:=h;have:=pj h0 h1.map;subst this;rw [hs.1] at hM;exact h1.put hl k x.w.ver x.has x.w.x (hs.2.2 _ _ hv) hM
theorem G9 {m:Nat -> Nat -> Prop} {w:World} {b:Nat} {L:Shf} (h:(shK b L).p m w):∃ es cl,w.heap[b]? = some (.map es cl):=by
 obtain ⟨D,E,h⟩:=h;obtain ⟨es,cl,hb,_⟩:=h.map;exact ⟨es,cl,hb⟩
def R9 (L:Shf) (l:Lab) (v xv:Int) (kn:Bool) (z:Spo):Did:=
 if v ≠ xv then ⟨L,false,⟨8,xv,false,i8⟩,0⟩
 else if kn=false/\2000<=L.length then ⟨L,false,Q6,12⟩
 else ⟨aS l z L,true,⟨0,z.ver,false,i8⟩,0⟩
section
variable {P:Program} {Q:Exit -> Act -> World -> Prop} {ops:Array Oper}
theorem yA {a:Act} {w:World} {rest:List Oper} {o:Oper} (hw:Region.wanted o (yielded ops a.tmps)=true) (h:wpList P ops Q ({ o with guard:=none } :: rest) a w):wpList P ops Q (o :: rest) a w:=by
 unfold wpList at h ⊢;rw [if_pos hw];have:Region.wanted { o with guard:=none } (yielded ops a.tmps)=true:=by simp [Region.wanted]
 rw [if_pos this] at h
 cases o
 exact h
theorem tI {C:Cx} {s:St} {a:Act} {w:World} (hF:b4 C s a w) {o:Oper} {j g:Nat} (hg:o.guard=some (j,true)) (hd:(ops[j]?).bind (·.dst)=some g) (hv:look s.tmps g = .bool .tt):Region.wanted o (yielded ops a.tmps)=true:=by
 have h:=(hF.slot g (by rw [hv]; rfl)).1;rw [hv] at h;simp only [Region.wanted,hg,yielded,hd,Option.bind_some,h];rfl
theorem bE.re {bo:Option Nat} {m:Nat -> Nat -> Prop} {w w':World} {pre pre':List (Nat × Blk)} {sets sets':List (Nat × List AV)} {news news':List (Nat × Blk)} (h:bE bo m w w' pre sets news) (hp:pre'.map (·.2)=pre.map (·.2)) (hs:sets'.map (·.2)=sets.map (·.2)) (hk:sets'.map (·.1)=pre'.map (·.1)) (hn:news'.map (·.2)=news.map (·.2)):bE bo m w w' pre' sets' news':=by
 have hm:mN m news'=mN m news:=by funext b o; simp only [mN,bD hn]
 have hu:(upd pre' sets' ++ news').map (·.2)=(upd pre sets ++ news).map (·.2):=by rw [List.map_append,List.map_append,mX hp hs,hn]
 refine ⟨hk,aa (p:=fun b => w'.heap[b.at_]? = some (.cells (b.cells.map AV.den).toArray b.ty (0,0))) hu h.heap,aa (p:=fun b => ∀ v ∈ b.cells,v.one=true/\Ok (mN m news') w' v) hu (hm ▸ h.ok),aa (p:=fun b => w.heap.size<=b.at_) hn h.fresh,jX hn h.dist,h.chg.mono fun k hk => hk.imp (bD hp k).2 id⟩
theorem J4.re {f:FuncId} {args args':List AV} {pre pre':List (Nat × Blk)} {bo:Option Nat} {I:Kn} {res res':f9 -> CR} {J:Nat -> f9 -> Kn} (h:J4 P f args pre bo I res J) (ha:D9 args' args) (hp:pre'.map (·.2)=pre.map (·.2))
  (hr:∀ x,(res' x).sets.map (·.2)=(res x).sets.map (·.2)/\(res' x).sets.map (·.1)=pre'.map (·.1)/\Sim (res x).v (res' x).v/\(res' x).news.map (·.2)=(res x).news.map (·.2)):J4 P f args' pre' bo I res' J:=by
 intro m w h1 h2 h3 hI;rw [ha.map];refine (h m w h1 (ha.ok h2) (h3.re hp.symm) hI).mono ?_
 rintro e w' ⟨x,rfl,hok,hl,hb,hJ⟩
 obtain ⟨r1,r2,r3,r4⟩:=hr x;have hm:mN m (res' x).news=mN m (res x).news:=by funext b o; simp only [mN,bD r4]
 exact ⟨x,by rw [r3.1],by rw [hm]; exact r3.2.2 _ _ hok,hl.re hp r1 r2 r4,hb,by rw [hm]; exact hJ⟩
theorem J4.args {f:FuncId} {args args':List AV} {pre:List (Nat × Blk)} {bo:Option Nat} {I:Kn} {res:f9 -> CR} {J:Nat -> f9 -> Kn} (h:J4 P f args' pre bo I res J) (hs:D9 args args'):J4 P f args pre bo I res J:=by
 intro m w hm ha hp hI;rw [hs.map];exact h m w hm (hs.ok ha) hp hI
end
theorem ShD.empty {m:Nat -> Nat -> Prop} {w:World} {b:Nat} (h:U9 Tryz.prog 24 w b 0 (.map [])) (E:Adr):ShD (.map []) E b [] m w:=
 ⟨h,.nil,fun p hp => (by cases hp),fun kl => ⟨fun h => (by cases h),fun ⟨p,hp,_⟩ => (by cases hp)⟩,rfl,fun p hp => (by cases hp),fun p hp => (by cases hp)⟩
end
end Go.Proofs.YtodelmejfpkicaaGreat.Sym
namespace Go.Proofs.YtodelmejfpkicaaGreat
open Go.RowKit Sym
def B1 (l:Lab) (key:Int):Bool:=isL l && decide ((I1 key.toNat l.len.toNat:Int)=l.bits)
def s4 (l:Lab) (b:Int):Lab:=⟨l.len + 1,if b=1 then l.bits + (2 ^ (63 - l.len.toNat):Nat) else l.bits⟩
def dg (v:Int) (n:Nat):List UInt8:=(J7 64 v.toNat).take n
theorem dP (v:Int) {n:Nat} (hn:n<=64):(dg v n).length=n:=by unfold dg; rw [List.length_take,Y2]; omega
theorem pL {v:Int} {n:Nat}:∀ c ∈ dg v n,c=48 \/ c=49:=fun c hc => ku c (List.mem_of_mem_take hc)
theorem gK {v:Int} (h:U64 v):v.toNat < 2 ^ 64:=by have:=h.1; have:=h.2; omega
theorem wQ {n a b:Nat} (ha:a < 2 ^ n) (hb:b < 2 ^ n) (h:J7 n a=J7 n b):a=b:=by
 have:=congrArg V3 h;rw [ka,ka,Nat.mod_eq_of_lt ha,Nat.mod_eq_of_lt hb] at this;exact this
theorem ri {v n:Nat} (hv:v < 2 ^ 64) (hn:n<=64):v / 2 ^ (64 - n) < 2 ^ n:=by
 rw [Nat.div_lt_iff_lt_mul (Nat.pow_pos (by decide)),<-Nat.pow_add,show n + (64 - n)=64 by omega];exact hv
theorem s7 {l:Lab} (h:isL l=true):0<=l.len/\l.len<=64/\(I1 l.bits.toNat l.len.toNat:Int)=l.bits:=by
 unfold isL at h;simp only [Bool.and_eq_true,decide_eq_true_eq] at h;exact ⟨h.1.1,h.1.2,h.2⟩
theorem xN {l:Lab} (hl:isL l=true) (hb:U64 l.bits) {key:Int} (hk:U64 key):decide (dg l.bits l.len.toNat=dg key l.len.toNat)=B1 l key:=by
 obtain ⟨h0,h1,h2⟩:=s7 hl;have hn:l.len.toNat<=64:=by omega
 unfold B1;rw [hl,Bool.true_and];rw [Bool.eq_iff_iff,decide_eq_true_eq,decide_eq_true_eq];unfold dg;rw [kt _ _ hn,kt _ _ hn]
 constructor
 .intro h
  have:=wQ (ri (gK hb) hn) (ri (gK hk) hn) h;rw [<-h2];unfold I1;rw [this]
 intro h;have e:I1 key.toNat l.len.toNat=l.bits.toNat:=by omega
 unfold I1 at e;rw [<-e,Nat.mul_div_cancel _ (Nat.pow_pos (by decide))]
theorem ce {n:Nat} (h:n < 64):2 ^ (64 - n)=2 * 2 ^ (63 - n):=by
 have h9:64 - n=(63 - n) + 1:=by omega
 rw [h9,Nat.pow_succ,Nat.mul_comm]
theorem ju {l:Lab} (hl:isL l=true) (hb:U64 l.bits) (h64:l.len ≠ 64):∃ q,l.bits=((q * (2 * 2 ^ (63 - l.len.toNat)):Nat):Int)/\q * (2 * 2 ^ (63 - l.len.toNat)) + 2 * 2 ^ (63 - l.len.toNat)<=2 ^ 64:=by
 obtain ⟨h0,h1,h2⟩:=s7 hl;have hn:l.len.toNat < 64:=by omega
 refine ⟨l.bits.toNat / 2 ^ (64 - l.len.toNat),?_,?_⟩
 .rw [<-h2]
  unfold I1;rw [ce hn]
  congr 1
  have:(((l.bits.toNat / (2 * 2 ^ (63 - l.len.toNat)) * (2 * 2 ^ (63 - l.len.toNat)):Nat):Int).toNat)=l.bits.toNat / (2 * 2 ^ (63 - l.len.toNat)) * (2 * 2 ^ (63 - l.len.toNat)):=Int.toNat_natCast _;have hpos:0 < 2 * 2 ^ (63 - l.len.toNat):=Nat.mul_pos (by decide) (Nat.pow_pos (by decide));rw [this,Nat.mul_div_cancel _ hpos]
 have h3:=ri (gK hb) (show l.len.toNat<=64 by omega)
 rw [<-ce hn];have:=Nat.mul_le_mul_right (2 ^ (64 - l.len.toNat)) (Nat.succ_le_of_lt h3);rw [<-Nat.pow_add,show l.len.toNat + (64 - l.len.toNat)=64 by omega,Nat.succ_mul] at this;exact this
theorem cQ {l:Lab} (hl:isL l=true) (hb:U64 l.bits) (h64:l.len ≠ 64) (b:Int):U64 (s4 l b).bits:=by
 obtain ⟨q,h1,h2⟩:=ju hl hb h64;unfold s4;simp only
 split
 .rw [h1]; constructor
  .omega
  have:0 < 2 ^ (63 - l.len.toNat):=Nat.pow_pos (by decide);omega
 exact hb
theorem eM {l:Lab} (hl:isL l=true) (hb:U64 l.bits) (h64:l.len ≠ 64) (b:Int):isL (s4 l b)=true:=by
 obtain ⟨q,h1,h2⟩:=ju hl hb h64;obtain ⟨h3,h4,h5⟩:=s7 hl;have hlen:(l.len + 1).toNat=l.len.toNat + 1:=by omega
 have hpow:64 - (l.len.toNat + 1)=63 - l.len.toNat:=by omega
 unfold isL s4;simp only [Bool.and_eq_true,decide_eq_true_eq];refine ⟨⟨by omega,by omega⟩,?_⟩;unfold I1;rw [hlen,hpow];have hp:0 < 2 ^ (63 - l.len.toNat):=Nat.pow_pos (by decide)
 split
 .have e:(l.bits + ((2 ^ (63 - l.len.toNat):Nat):Int)).toNat=(q * 2 + 1) * 2 ^ (63 - l.len.toNat):=by
   rw [h1,Nat.add_mul,Nat.one_mul,Nat.mul_assoc]; omega
  rw [e,Nat.mul_div_cancel _ hp,h1,Nat.add_mul,Nat.one_mul,Nat.mul_assoc];omega
 have e:l.bits.toNat=(q * 2) * 2 ^ (63 - l.len.toNat):=by rw [h1,Nat.mul_assoc]; omega
 rw [e,Nat.mul_div_cancel _ hp,h1,Nat.mul_assoc]
theorem uT {l:Lab} (hl:isL l=true) (hb:U64 l.bits) (h64:l.len ≠ 64) {key:Int} (hk:U64 key) (hc:B1 l key=true) :
  B1 (s4 l 0) key=decide (key < (s4 l 1).bits)/\B1 (s4 l 1) key=decide ((s4 l 1).bits<=key):=by
 obtain ⟨q,h1,h2⟩:=ju hl hb h64;obtain ⟨h3,h4,h5⟩:=s7 hl;have hlen:(l.len + 1).toNat=l.len.toNat + 1:=by omega
 have hpow:64 - (l.len.toNat + 1)=63 - l.len.toNat:=by omega
 have hn:l.len.toNat < 64:=by omega
 obtain ⟨M,hM⟩:=eqv (2 ^ (63 - l.len.toNat));have hp:0 < M:=by rw [hM]; exact Nat.pow_pos (by decide)
 have hh:(I1 key.toNat l.len.toNat:Int)=l.bits:=by
  unfold B1 at hc;simp only [Bool.and_eq_true,decide_eq_true_eq] at hc;exact hc.2
 rw [<-hM] at h1;have hq:key.toNat / (2 * M)=q:=by
  unfold I1 at hh;rw [ce hn,<-hM,h1] at hh;have:key.toNat / (2 * M) * (2 * M)=q * (2 * M):=by omega
  exact Nat.eq_of_mul_eq_mul_right (by omega) this
 have hkey:key.toNat=q * (2 * M) + key.toNat % (2 * M):=by
  have:=Nat.div_add_mod key.toNat (2 * M);rw [hq,Nat.mul_comm] at this;omega
 have hr:=Nat.mod_lt key.toNat (show 0 < 2 * M by omega)
 have hdiv:key.toNat / M=q * 2 + key.toNat % (2 * M) / M:=by
  conv => lhs; rw [hkey]
  rw [<-Nat.mul_assoc,Nat.mul_comm,Nat.mul_add_div hp]
 have hk0:=hk.1;unfold B1;rw [eM hl hb h64 0,eM hl hb h64 1,Bool.true_and,Bool.true_and];unfold s4 I1;simp only [hlen,hpow,<-hM,if_true,show ¬ ((0:Int)=1) by decide,if_false,hdiv,h1]
 by_cases hlt:key.toNat % (2 * M) < M
 .rw [Nat.div_eq_of_lt hlt,Nat.add_zero,Nat.mul_assoc]
  constructor
  .rw [decide_eq_true rfl,eq_comm,decide_eq_true_eq]; omega
  rw [Bool.eq_iff_iff,decide_eq_true_eq,decide_eq_true_eq]; omega
 have h9:key.toNat % (2 * M) / M=1:=by
  have h10:=Nat.div_lt_of_lt_mul (m:=key.toNat % (2 * M)) (n:=M) (k:=2) (by omega);have h11:=(Nat.le_div_iff_mul_le hp (x:=1) (y:=key.toNat % (2 * M))).2 (by omega);omega
 rw [h9,Nat.add_mul,Nat.one_mul,Nat.mul_assoc]
 constructor
 .rw [Bool.eq_iff_iff,decide_eq_true_eq,decide_eq_true_eq]; omega
 rw [Bool.eq_iff_iff,decide_eq_true_eq,decide_eq_true_eq]; omega
theorem lk {l:Lab} (hl:isL l=true) (hb:U64 l.bits) (h64:l.len ≠ 64) (b:Int) (hb01:b=0 \/ b=1) :
  V3 (dg l.bits l.len.toNat ++ [if b=1 then 49 else 48] ++ List.replicate (64 - (l.len.toNat + 1)) 48)=(s4 l b).bits.toNat:=by
 obtain ⟨h3,h4,h5⟩:=s7 hl;have hn:l.len.toNat < 64:=by omega
 have hh:=nv (gK hb) (show l.len.toNat<=64 by omega)
 rw [Y0,fk,List.length_replicate,Nat.add_zero,ce hn] at hh;have hpow:64 - (l.len.toNat + 1)=63 - l.len.toNat:=by omega
 have h0:=hb.1;rw [List.append_assoc,List.singleton_append,Y0,gY,fk,List.length_cons,List.length_replicate,hpow,Nat.pow_succ,Nat.mul_comm (2 ^ (63 - l.len.toNat)) 2];unfold dg;rw [hh];unfold s4;clear hh
 generalize I1 l.bits.toNat l.len.toNat=H at h5 ⊢
 generalize 2 ^ (63 - l.len.toNat)=M
 rcases hb01 with rfl | rfl
 .simp only [show ¬ ((0:Int)=1) by decide,if_false]
  have:((48:UInt8).toNat - 48)=0:=by decide
  rw [this];omega
 simp only [if_true];have:((49:UInt8).toNat - 48)=1:=by decide
 rw [this,Nat.one_mul];omega
def D8 (l:Lab) (its:List Itm):List Itm:=its.filter fun x => B1 l x.key
def I2 (kd:Int) (n:Nat) (f:Nat -> Itm) (nx:Lab) (mk:Int) (l:Lab):Rec × Rec × Int:=
 if (L5 kd n f nx mk && isL l && decide ((D8 l (b7 f n)).length=n))=false then (i8,i8,1)
 else if kd ≠ 1/\kd ≠ 3 then (i8,i8,13) else if l.len=64 then (i8,i8,5)
 else (⟨1,D8 (s4 l 0) (b7 f n),s4 l 1,0⟩,⟨1,D8 (s4 l 1) (b7 f n),nx,0⟩,0)
theorem AF {l:Lab} {its:List Itm}:(D8 l its).length=its.length ↔ ∀ x ∈ its,B1 l x.key=true:=by
 unfold D8;exact List.length_filter_eq_length_iff
def ovl (n:Nat) (f:Nat -> Itm) (n2:Nat) (f2:Nat -> Itm):Bool:=decide (0 < n) && (decide (0 < n2) && decide ((f2 0).key<=(f (n - 1)).key))
def aR (kd:Int) (n:Nat) (f:Nat -> Itm) (nx:Lab) (mk:Int) (kd2:Int) (n2:Nat) (f2:Nat -> Itm) (nx2:Lab) (mk2:Int):Rec × Int:=
 if (L5 kd n f nx mk && L5 kd2 n2 f2 nx2 mk2)=false then (i8,1) else if ovl n f n2 f2=true then (i8,1)
 else if ¬ (kd=1 \/ kd=5) \/ ¬ (kd2=1 \/ kd2=5) then (i8,13) else if 16 < n + n2 then (i8,12) else (⟨1,b7 f n ++ b7 f2 n2,nx2,0⟩,0)
theorem V5 {kd:Int} {n:Nat} {f:Nat -> Itm} {nx:Lab} {mk:Int} (h:L5 kd n f nx mk=true):1<=kd/\kd<=5/\n<=16/\(nx=B2 \/ isL nx=true)/\okF f n=true:=by
 rw [gj] at h;simp only [Bool.and_eq_true,Bool.not_eq_true',Bool.or_eq_false_iff,decide_eq_false_iff_not] at h;obtain ⟨⟨⟨⟨⟨h1,h2⟩,h3⟩,h4⟩,_⟩,h5⟩:=h;refine ⟨by omega,by omega,by omega,?_,h5⟩
 by_cases hd:nx=B2
 .exact .inl hd
 right
 cases hl:isL nx with
 | true => rfl
 | false => simp [hd,hl] at h4
def Q8 (l:Lab):Int:=if isL l=false then 1 else if l.len=0 then 7 else 0
def gU (l:Lab):Lab:=⟨l.len - 1,(I1 l.bits.toNat (l.len.toNat - 1):Nat)⟩
def P5 (l:Lab):Lab:=if Q8 l=0 then gU l else ⟨0,0⟩
theorem uA (v n:Nat):I1 v n<=v:=Nat.div_mul_le_self _ _
theorem zQ {v:Int} (hv:U64 v) (n:Nat):U64 ((I1 v.toNat n:Nat):Int):=by
 have:=uA v.toNat n;have h1:=hv.1; have h2:=hv.2;exact ⟨by omega,by omega⟩
theorem BA {l:Lab} (hb:U64 l.bits):U64 (gU l).bits:=zQ hb _
theorem qN {v n:Nat}:I1 (I1 v n) n=I1 v n:=by
 unfold I1;rw [Nat.mul_div_cancel _ (Nat.pow_pos (by decide))]
theorem rX {l:Lab} (hl:isL l=true) (hb:U64 l.bits) (h0:l.len ≠ 0):isL (gU l)=true:=by
 obtain ⟨h1,h2,_⟩:=s7 hl;unfold isL gU;simp only [Bool.and_eq_true,decide_eq_true_eq];refine ⟨⟨by omega,by omega⟩,?_⟩;rw [show (l.len - 1).toNat=l.len.toNat - 1 by omega,Int.toNat_natCast,qN]
theorem kh {n v k:Nat} (hv:v < 2 ^ n) (hm:v % 2 ^ k=0):v &&& (2 ^ n - 1 - 2 ^ k)=v / 2 ^ (k + 1) * 2 ^ (k + 1):=by
 apply Nat.eq_of_testBit_eq;intro i;rw [Nat.testBit_and,Nat.testBit_mul_two_pow,Nat.testBit_div_two_pow];have hvk:∀ i,i < k -> v.testBit i=false:=by
  intro i hi;obtain ⟨q,hq⟩:=Nat.dvd_of_mod_eq_zero hm;rw [hq,Nat.mul_comm,Nat.testBit_mul_two_pow];simp [show ¬ k<=i by omega]
 by_cases h1:i < k
 .simp [hvk i h1,show ¬ (k + 1<=i) by omega]
 by_cases hin:i < n
 .by_cases hkn:k < n
  .rw [show 2 ^ n - 1 - 2 ^ k=2 ^ n - (2 ^ k + 1) by omega,Nat.testBit_two_pow_sub_succ (Nat.pow_lt_pow_right (by decide) hkn),Nat.testBit_two_pow]
   by_cases h2:i=k
   .subst h2; simp; intro h; omega
   simp [hin,show ¬ k=i by omega,show k + 1<=i by omega,show i - (k + 1) + (k + 1)=i by omega]
  exfalso; omega
 have hvi:v.testBit i=false:=Nat.testBit_lt_two_pow (Nat.lt_of_lt_of_le hv (Nat.pow_le_pow_right (by decide) (by omega)));rw [hvi]
 by_cases h3:k + 1<=i
 .simp [show i - (k + 1) + (k + 1)=i by omega,hvi]
 simp [h3]
theorem rH {l:Lab} (hl:isL l=true) (hb:U64 l.bits) (h0:l.len ≠ 0):o9 .andNot .u64 l.bits ((2 ^ (64 - l.len.toNat):Nat):Int)=(gU l).bits:=by
 obtain ⟨h1,h2,h3⟩:=s7 hl;obtain ⟨n,hn⟩:∃ n:Nat,l.len=n:=⟨l.len.toNat,by omega⟩
 have hn0:0 < n:=by omega
 have hn64:n<=64:=by omega
 have hlt:=gK hb;have hm:l.bits.toNat % 2 ^ (64 - n)=0:=by
  have:l.bits.toNat=I1 l.bits.toNat n:=by rw [hn] at h3; simp at h3; omega
  rw [this]; unfold I1; exact Nat.mul_mod_left _ _
 show IntKind.u64.wrap (BitVec.ofInt 64 l.bits &&& ~~~BitVec.ofInt 64 _).toNat=_
 have hp:2 ^ (64 - n) < 2 ^ 64:=Nat.pow_lt_pow_right (by decide) (by omega);have e1:(BitVec.ofInt 64 l.bits).toNat=l.bits.toNat:=by
  rw [BitVec.toNat_ofInt];have h1:=hb.1; have h2:=hb.2;rw [Int.emod_eq_of_lt h1 (by simpa using h2)]
 have e2:(BitVec.ofInt 64 ((2 ^ (64 - l.len.toNat):Nat):Int)).toNat=2 ^ (64 - n):=by
  rw [hn,Int.toNat_natCast,BitVec.ofInt_natCast,BitVec.toNat_ofNat,Nat.mod_eq_of_lt hp]
 rw [BitVec.toNat_and,BitVec.toNat_not,e1,e2,show 2 ^ 64 - 1 - 2 ^ (64 - n)=2 ^ 64 - 1 - 2 ^ (64 - n) from rfl,kh hlt hm];unfold gU I1;simp only [hn,Int.toNat_natCast];rw [show 64 - (n - 1)=64 - n + 1 by omega,gI];have:=Nat.div_mul_le_self l.bits.toNat (2 ^ (64 - n + 1));rw [Nat.mod_eq_of_lt (by omega)]
end Go.Proofs.YtodelmejfpkicaaGreat
namespace Go.Proofs.YtodelmejfpkicaaGreat.Sym
open Go Go.RowKit
def gH (x y:Int):Int:=if x < y then -1 else if y < x then 1 else 0
theorem AI {x y:Int} (h:gH x y < 0):x < y:=by
 unfold gH at h
 split at h
 .assumption
 split at h<;>omega
theorem xU {x y:Int} (h:x < y):gH x y < 0:=by
 unfold gH;rw [if_pos h]
 decide
theorem AJ (x y:Int):decide (gH x y=0)=decide (x=y):=by
 unfold gH
 by_cases h1:x < y
 .simp [h1]; omega
 by_cases h2:y < x
 .simp [h1,h2]; omega
 simp [h1,h2]; omega
def bsF (f:Nat -> Itm) (key:Int) (lo hi:Nat):Nat:=
 if h:lo < hi then (if (f ((lo + hi) / 2)).key < key then bsF f key ((lo + hi) / 2 + 1) hi else bsF f key lo ((lo + hi) / 2)) else lo
termination_by hi - lo
decreasing_by all_goals omega
theorem oe {f:Nat -> Itm} {key:Int} {lo hi:Nat} (h:¬ lo < hi):bsF f key lo hi=lo:=by rw [bsF,dif_neg h]
theorem xZ {f:Nat -> Itm} {key:Int} {lo hi m:Nat} (h:lo < hi) (hm:m=(lo + hi) / 2) (hk:(f m).key < key):bsF f key lo hi=bsF f key (m + 1) hi:=by
 subst hm; conv => lhs; rw [bsF]
 rw [dif_pos h,if_pos hk]
theorem ya {f:Nat -> Itm} {key:Int} {lo hi m:Nat} (h:lo < hi) (hm:m=(lo + hi) / 2) (hk:¬ (f m).key < key):bsF f key lo hi=bsF f key lo m:=by
 subst hm; conv => lhs; rw [bsF]
 rw [dif_pos h,if_neg hk]
def uz (f:Nat -> Itm) (key:Int) (n p:Nat):Bool:=decide (p < n) && decide ((f p).key=key)
theorem zS (lo hi:Nat) (h:lo + hi < 1000000000):IntKind.i64.wrap (L8 .shr .u64 (IntKind.u64.wrap ((lo:Int) + (hi:Int))) 1)=(((lo + hi) / 2:Nat):Int):=by
 rw [wrap_u64 _ ⟨by omega,by omega⟩];have e:L8 .shr .u64 ((lo:Int) + (hi:Int)) 1=(((lo + hi) / 2:Nat):Int):=by
  have h1:=yH (v:=(lo:Int) + (hi:Int)) ⟨by omega,by omega⟩ 1 (by decide);rw [show ((1:Nat):Int)=1 from rfl] at h1;rw [h1,show ((lo:Int) + (hi:Int)).toNat=lo + hi by omega]
 rw [e,r8 (by omega) (by omega)]
theorem mH:j3 Tryz.prog 156:=fun _ _ => by kernel_rfl
theorem BI (x:Int):j5 Tryz.prog 156 [.int .u64 x] (fun _ => .bool .ff):=by
 intro m w hm hargs;refine en 6 hm hargs Tryz.func156 fun B hB a0 hF => ?_
 refine wp_seq (rg hB a6 [0] [] [] hF fun X0 a0 w1 hF => ?_);refine wp_seq (rg hB a6 [2] [] [] hF fun X1 a0 w1 hF => ?_);refine wp_ret ((rsi hB a6 hF f4 (he:=?_)));subst hB; exact Sim.bool (by simp [BE.den,std,a8]; rfl)
theorem pH:j3 Tryz.prog 86:=fun _ _ => by kernel_rfl
theorem FJ (x y:Int):j5 Tryz.prog 86 [.int .u64 x,.int .u64 y] (fun _ => .int .i64 (gH x y)):=by
 intro m w hm hargs;refine en 20 hm hargs Tryz.func86 fun B hB a0 hF => ?_
 refine wp_seq (rg hB a6 [0,1] [] [] hF fun X0 a0 w1 hF => ?_);refine wp_seq (rg hB a6 [0,1,5] [] [(1,.r fun _ => .bool .ff)] hF (hob:=?hob) fun X1 a0 w1 hF => ?_)
 case hob =>
  intro X;subst hB; exact ⟨⟨mH,BI x⟩,trivial⟩
 refine wp_seq (rg hB a6 [0,1,5,6] [] [(1,.r fun _ => .bool .ff)] hF (hob:=?hob) fun X2 a0 w1 hF => ?_)
 case hob =>
  intro X;subst hB; exact ⟨⟨mH,BI y⟩,trivial⟩
 refine wp_seq (wp_seq (rg hB a6 [11,0,1,6] [] [] hF fun X3 a0 w1 hF => ?_));refine i9 hF rfl (fun hF => ?_);refine wp_skip (wp_seq (wp_seq (rg hB a6 [13,0,1] [] [] hF fun X7 a0 w1 hF => ?_)));refine i9 hF rfl (fun hF => ?_);refine wp_skip (wp_seq (wp_seq (rg hB a6 [16,0,1] [] [] hF fun X9 a0 w1 hF => ?_)));apply a7 hF rfl<;>intro hb hF
 .have h1:x < y:=by subst hB; simpa [std,a8] using hb
  refine wp_seq (rg hB a6 [4] [] [] hF fun X10 a0 w1 hF => ?_);refine wp_ret ((rsp hB a6 hF f4 (he:=?_)).1);simp only [gH,h1,if_true]; rfl
 have h1:¬ x < y:=by subst hB; simpa [std,a8] using hb
 refine wp_skip (wp_seq (wp_seq (rg hB a6 [19] [] [] hF fun X11 a0 w1 hF => ?_)));apply a7 hF rfl<;>intro hb hF
 .have h2:y < x:=by subst hB; simpa [std,a8] using hb
  refine wp_seq (rg hB a6 [4] [] [] hF fun X12 a0 w1 hF => ?_);refine wp_ret ((rsp hB a6 hF f4 (he:=?_)).1);simp only [gH,h1,h2,if_true,if_false]; rfl
 have h2:¬ y < x:=by subst hB; simpa [std,a8] using hb
 refine wp_skip (wp_seq (rg hB a6 [4] [] [] hF fun X13 a0 w1 hF => ?_));refine wp_ret ((rsp hB a6 hF f4 (he:=?_)).1);simp only [gH,h1,h2,if_false]; rfl
theorem mB:j3 Tryz.prog 284:=fun _ _ => by kernel_rfl
theorem BS (k:Int) (v:ByteArray) (y:Int):j5 Tryz.prog 284 [.agg [.int .u64 k,.str v],.int .u64 y] (fun _ => .int .i64 (gH k y)):=by
 intro m w hm hargs;obtain ⟨c,hc⟩:=eqv (gH k y);have S:=FJ k y;rw [<-hc] at S;refine en 9 hm hargs Tryz.func284 fun B hB a0 hF => ?_
 refine wp_seq (rg hB a6 [1,2] [2] [] hF fun X0 a0 w1 hF => ?_);refine wp_seq (rg hB a6 [4] [] [(3,.r fun _ => .int .i64 c)] hF (hob:=?hob) fun X1 a0 w1 hF => ?_)
 case hob =>
  intro X;subst hB; first | exact ⟨⟨pH,S⟩,trivial⟩ | exact ⟨rfl,⟨pH,S⟩,trivial⟩
 refine wp_ret ((rsp hB a6 hF f4 (he:=?_)).1);rw [hc]; rfl
theorem uH:j3 Tryz.prog 283:=fun _ _ => by kernel_rfl
theorem GC (A:Option Addr) (n c:Nat) (f:Nat -> Itm) (hn:n<=1000000) (key:Int):j5 Tryz.prog 283 [l4 A n c f,.int .u64 key,.fn 284 [] []] (fun _ => .tup [.int .i64 (bsF f key 0 n:Nat),.bool (.v (uz f key n (bsF f key 0 n)))]):=by
 intro m w hm hargs;have hmx:maxLen=9223372036854775807:=rfl;unfold l4 at hargs
 try unfold l4
 refine en 49 hm hargs Tryz.func283 fun B hB a0 hF => ?_
 refine wp_seq (rg hB a6 [0,1,2] [] [] hF fun X0 a0 w1 hF => ?_);refine wp_seq (rg hB a6 [8,0,1,2] [] [] hF fun X1 a0 w1 hF => ?_);replace hF:=hF.head (v':=.int .i64 (n:Int)) (by subst hB; rfl);refine wp_seq (rg hB a6 [9,10,0,1,2,8] [] [] hF fun X2 a0 w1 hF => ?_);refine wp_seq (wp_block (l0 (ι:=Nat × Nat) (fun p => [(9,.int .i64 (p.1:Int)),(10,.int .i64 (p.2:Int))]) (fun p => []) (fun p => []) (fun p => p.1<=p.2/\p.2<=n/\bsF f key p.1 p.2=bsF f key 0 n) (fun p => p.2 - p.1) (0,n) ⟨Nat.zero_le _,Nat.le_refl _,rfl⟩ hF ?_))
 rintro ⟨lo,hi⟩ ⟨hlh,hhn,hbs⟩ a0 w1 hF
 try dsimp only at hlh
 try dsimp only at hhn
 try dsimp only at hbs
 refine wp_seq (wp_seq (rg hB a6 [17,9,10,0,1,2,8] [] [] hF fun X3 a0 w1 hF => ?_));apply a7 hF rfl<;>intro hb hF
 .have hlt:lo < hi:=by
   have:(lo:Int) < (hi:Int):=by subst hB; simpa [std,a8] using hb
   omega
  refine wp_skip (wp_block (wp_seq (rg hB a6 [11,9,10,0,1,2,8] [] [] hF fun X4 a0 w1 hF => ?_)));obtain ⟨m,hm⟩:∃ m:Nat,m=(lo + hi) / 2:=⟨_,rfl⟩
  have hmlo:lo<=m/\m < hi:=by omega
  replace hF:=hF.head (v':=.int .i64 (m:Int)) (by
   subst hB
   show AV.int .i64 (IntKind.i64.wrap (L8 .shr .u64 (IntKind.u64.wrap (IntKind.i64.wrap ((lo:Int) + (hi:Int)))) 1))=_
   rw [r8 (x:=(lo:Int) + (hi:Int)) (by omega) (by omega),zS lo hi (by omega),hm])
  obtain ⟨cv,hcv⟩:=eqv (gH (f m).key key);have S1:=BS (f m).key (f m).val key;rw [<-hcv] at S1;refine wp_seq (rg hB a6 [31,11,9,10,0,1,2,8] [] [(6,.r fun _ => .int .i64 cv)] hF (hob:=?hob) fun X5 a0 w1 hF => ?_)
  case hob =>
   intro X;subst hB;refine ⟨⟨?_,?_⟩,⟨mB,?_⟩,trivial⟩
   .show (0:Int)<=(m:Int); omega
   .show (m:Int) < (n:Int); omega
   exact S1
  apply a7 hF rfl<;>intro hb hF
  .have hlt2:(f m).key < key:=by
    have h9:cv < 0:=by subst hB; simpa [std,a8] using hb
    rw [hcv] at h9;exact AI h9
   have e:B.arith .add .i64 (m:Int) 1=((m + 1:Nat):Int):=by subst hB; exact j2 (n:=n) (by omega) (by omega)
   refine rg hB a6 [9,10,0,1,2,8] [] [] hF fun X6 a0 w1 hF => ?_
   refine ⟨(m + 1,hi),⟨by simp only; omega,hhn,?_⟩,by simp only; omega,by rw [<-e]; exact hF⟩;exact (xZ hlt hm hlt2).symm.trans hbs
  have hlt2:¬ (f m).key < key:=by
   have h9:¬ cv < 0:=by subst hB; simpa [std,a8] using hb
   rw [hcv] at h9;exact fun h => h9 (xU h)
  refine rg hB a6 [9,10,0,1,2,8] [] [] hF fun X7 a0 w1 hF => ?_
  refine ⟨(lo,m),⟨by simp only; omega,by simp only; omega,?_⟩,by simp only; omega,hF⟩;exact (ya hlt hm hlt2).symm.trans hbs
 have hge:¬ lo < hi:=by
  have:¬ (lo:Int) < (hi:Int):=by subst hB; simpa [std,a8] using hb
  omega
 have hlo:lo=bsF f key 0 n:=by rw [<-hbs,oe hge]
 obtain ⟨cv,hcv⟩:=eqv (gH (f lo).key key);have S2:=BS (f lo).key (f lo).val key;rw [<-hcv] at S2;refine wp_exit (wp_seq (rg hB a6 [6,7] [] [(11,.r fun _ => .int .i64 cv)] hF (hob:=?hob) fun X8 a0 w1 hF => ?_))
 case hob =>
  intro X;subst hB;simp only [b5,Ob.holds,BE.den,List.mem_cons,List.not_mem_nil,or_false,forall_eq_or_imp,forall_eq]
  and_intros<;>first | trivial | (intro h; first | trivial | exact ⟨mB,S2⟩ | (have h2:(lo:Int) < (n:Int):=of_decide_eq_true h; exact ⟨Int.natCast_nonneg _,h2⟩))
 refine wp_ret ((rsi hB a6 hF f4 (he:=?_)));subst hB;rw [<-hlo];refine Sim.tup ⟨zr,Sim.bool ?_,trivial⟩
 show (if decide ((lo:Int) < (n:Int))=true then decide (cv=0) else false)=uz f key n lo
 unfold uz;rw [hcv]
 by_cases h:lo < n
 .have h1:(lo:Int) < (n:Int):=by omega
  rw [if_pos (by simpa using h1)];simp only [h,decide_true,Bool.true_and];exact AJ _ _
 have h1:¬ (lo:Int) < (n:Int):=by omega
 rw [if_neg (by simpa using h1)];simp [h]
theorem mC:j3 Tryz.prog 252:=fun _ _ => by kernel_rfl
theorem GD (A:Option Addr) (n c:Nat) (f:Nat -> Itm) (hn:n<=1000000) (key:Int):j5 Tryz.prog 252 [l4 A n c f,.int .u64 key] (fun _ => .tup [.int .i64 (bsF f key 0 n:Nat),.bool (.v (uz f key n (bsF f key 0 n)))]):=by
 intro m w hm hargs;have S:=GC A n c f hn key;unfold l4 at S hargs ⊢
 generalize uz f key n (bsF f key 0 n)=hh at S ⊢
 generalize bsF f key 0 n=p at S ⊢
 refine en 11 hm hargs Tryz.func252 fun B hB a0 hF => ?_
 refine wp_seq (rg hB a6 [0,1] [] [] hF fun X0 a0 w1 hF => ?_);refine wp_seq (rg hB a6 [4,5] [] [(2,.r fun _ => .tup [.int .i64 (p:Int),.bool (.v hh)])] hF (hob:=?hob) fun X1 a0 w1 hF => ?_)
 case hob =>
  intro X;subst hB; exact ⟨⟨uH,S⟩,trivial⟩
 exact wp_ret ((rsp hB a6 hF f4).1)
def chE (l:Lab) (b:Int):Int:=if isL l=false then 1 else if l.len=64 then 5 else 0
def chV (l:Lab) (b:Int):Lab:=if chE l b=0 then s4 l b else ⟨0,0⟩
theorem yJ {n:Int} (h0:0<=n) (h1:n < 64):L8 .shl .u64 1 (IntKind.i64.wrap (63 - n))=((2 ^ (63 - n.toNat):Nat):Int):=by
 rw [r8 (by omega) (by omega)]
 show IntKind.u64.wrap (1 * (2:Int) ^ (min (63 - n).toNat 64))=_
 rw [Nat.min_eq_left (by omega),Int.one_mul,show (63 - n).toNat=63 - n.toNat by omega,show (2:Int) ^ (63 - n.toNat)=((2 ^ (63 - n.toNat):Nat):Int) by simp,gI];have:2 ^ (63 - n.toNat)<=2 ^ 63:=Nat.pow_le_pow_right (by decide) (by omega);rw [Nat.mod_eq_of_lt (by omega)]
theorem wr {l:Lab} (hl:isL l=true) (hb:U64 l.bits) (h64:l.len ≠ 64):o9 .or .u64 l.bits ((2 ^ (63 - l.len.toNat):Nat):Int)=l.bits + ((2 ^ (63 - l.len.toNat):Nat):Int):=by
 obtain ⟨q,h1,h2⟩:=ju hl hb h64;obtain ⟨h3,h4,h5⟩:=s7 hl;have hn:l.len.toNat < 64:=by omega
 have hp:0 < 2 ^ (63 - l.len.toNat):=Nat.pow_pos (by decide);rw [h1];rw [CE (a:=q * (2 * 2 ^ (63 - l.len.toNat))) (b:=2 ^ (63 - l.len.toNat)) (k:=64 - l.len.toNat) (by rw [ce hn]; exact Nat.mul_mod_left _ _) (by rw [ce hn]; omega) (by omega)];exact Int.natCast_add _ _
theorem M7 {l:Lab} {il:Bool} (hil:il=isL l) (h:∀ e ∈ [((BE.v il:BE),true)],e.1.den=e.2):0<=l.len/\l.len<=64:=by
 have hl:il=true:=h _ (List.mem_singleton.2 rfl);obtain ⟨a,b,_⟩:=s7 (l:=l) (by rw [<-hil]; exact hl);exact ⟨a,b⟩
theorem mD:j3 Tryz.prog 241:=fun _ _ => by kernel_rfl
theorem BR (n:Int) (h0:0<=n) (h1:n < 64):j5 Tryz.prog 241 [.int .i64 n] (fun _ => .int .u64 ((2 ^ (63 - n.toNat):Nat):Int)):=by
 intro m w hm hargs;refine en 6 hm hargs Tryz.func241 fun B hB a0 hF => ?_
 refine wp_seq (rg hB a6 [0] [] [] hF fun X0 a0 w1 hF => ?_);refine wp_seq (rg hB a6 [2] [] [] hF (hob:=?hob) fun X1 a0 w1 hF => ?_)
 case hob =>
  intro X;subst hB;refine ⟨?_,trivial⟩
  show 0<=IntKind.i64.wrap (63 - n)
  rw [r8 (by omega) (by omega)]; omega
 refine wp_ret ((rsi hB a6 hF f4 (he:=?_)));subst hB;rw [<-yJ h0 h1];exact zr
theorem mE:j3 Tryz.prog 170:=fun _ _ => by kernel_rfl
theorem eL (l:Lab) (hb0:U64 l.bits) (b:Int) (hb01:b=0 \/ b=1):j5 Tryz.prog 170 [b6 l,.int .i64 b] (fun _ => .tup [b6 (chV l b),.int .i64 (chE l b)]):=by
 intro m w hm hargs;have SI:=gl l hb0;simp only [b6] at SI hargs ⊢;obtain ⟨il,hil⟩:=eqv (isL l);rw [<-hil] at SI;refine en 38 hm hargs Tryz.func170 fun B hB a0 hF => ?_
 refine wp_seq (rg hB a6 [1,2,4] [2,4] [] hF fun X0 a0 w1 hF => ?_);refine wp_seq (wp_block (wp_seq (rg hB a6 [6,1,2,4] [2,4] [(1,.r fun _ => .bool (.v il))] hF (hob:=?hob) fun X1 a0 w1 hF => ?_)))
 case hob =>
  intro X;subst hB
  repeat (first | exact trivial | refine ⟨rfl,?_⟩ | refine ⟨fun _ => rfl,?_⟩ | refine ⟨f8 (Kk:=noK) _ _ _ _,?_⟩ | refine ⟨fun _ => f8 (Kk:=noK) _ _ _ _,?_⟩ | refine ⟨⟨Y7,SI⟩,?_⟩ | refine ⟨fun _ => ⟨Y7,SI⟩,?_⟩)
 apply a7 hF rfl<;>intro hb hF
 .have h9:(if (if (!il)=true then true else decide (b < 0))=true then true else decide (b > 1))=true:=by subst hB; exact hb
  have hilf:il=false:=by rcases hb01 with rfl | rfl<;>cases il<;>first | rfl | (simp at h9)
  have hE:chE l b=1:=by unfold chE; rw [<-hil,hilf]; rfl
  have hV:chV l b=⟨0,0⟩:=by unfold chV; rw [hE]; rfl
  refine wp_seq (rg hB a6 [4,5] [4] [] hF (hob:=?hob) fun X2 a0 w1 hF => ?_)
  case hob =>
   intro X;subst hB
   repeat (first | exact trivial | refine ⟨rfl,?_⟩ | refine ⟨fun _ => rfl,?_⟩ | refine ⟨f8 (Kk:=noK) _ _ _ _,?_⟩ | refine ⟨fun _ => f8 (Kk:=noK) _ _ _ _,?_⟩)
  refine wp_ret ((rsi hB a6 hF f4 (he:=?_)));subst hB;rw [hV,hE];exact zr
 have h9:(if (if (!il)=true then true else decide (b < 0))=true then true else decide (b > 1))=false:=by subst hB; exact hb
 have hilt:il=true:=by cases il<;>first | rfl | (simp at h9)
 have hLt:isL l=true:=by rw [<-hil]; exact hilt
 obtain ⟨hl0,hl1,hl2⟩:=s7 hLt;refine wp_seq (rg hB a6 [19,1,2,4] [2,4] [] hF (hob:=?hob) fun X3 a0 w1 hF => ?_)
 case hob =>
  intro X;subst hB
  repeat (first | exact trivial | refine ⟨rfl,?_⟩ | refine ⟨fun _ => rfl,?_⟩ | refine ⟨f8 (Kk:=noK) _ _ _ _,?_⟩ | refine ⟨fun _ => f8 (Kk:=noK) _ _ _ _,?_⟩)
 apply a7 hF rfl<;>intro hb hF
 .have h64:l.len=64:=by subst hB; simpa [std,a8] using hb
  have hE:chE l b=5:=by unfold chE; rw [<-hil,hilt,if_neg (by decide),if_pos h64]
  have hV:chV l b=⟨0,0⟩:=by unfold chV; rw [hE]; rfl
  refine wp_seq (rg hB a6 [4,5] [4] [] hF (hob:=?hob) fun X4 a0 w1 hF => ?_)
  case hob =>
   intro X;subst hB
   repeat (first | exact trivial | refine ⟨rfl,?_⟩ | refine ⟨fun _ => rfl,?_⟩ | refine ⟨f8 (Kk:=noK) _ _ _ _,?_⟩ | refine ⟨fun _ => f8 (Kk:=noK) _ _ _ _,?_⟩)
  refine wp_ret ((rsi hB a6 hF f4 (he:=?_)));subst hB;rw [hV,hE];exact zr
 have h64:l.len ≠ 64:=by subst hB; simpa [std,a8] using hb
 have hE:chE l b=0:=by unfold chE; rw [<-hil,hilt,if_neg (by decide),if_neg h64]
 have hV:chV l b=s4 l b:=by unfold chV; rw [hE]; rfl
 refine wp_skip (wp_seq (wp_seq (rg hB a6 [25,2,4] [2,4] [] hF fun X5 a0 w1 hF => ?_)));refine eH (ι:=Int) (S0:=[(25,_)]) (M0:=[(2,_)]) (G0:=[]) (fun p => []) (fun p => [(2,⟨(X0 0).b,24,[.int .i64 l.len,.int .u64 p]⟩)]) (fun p => []) (fun p => p=(s4 l b).bits) hF ?_ ?_
 .apply a7 hF rfl<;>intro hb hF
  .have hb1:b=1:=by subst hB; simpa [std,a8] using hb
   have SB:=BR l.len hl0 (by omega);obtain ⟨bt,hbt⟩:=eqv (((2 ^ (63 - l.len.toNat):Nat):Int));rw [<-hbt] at SB;have hor:o9 .or .u64 l.bits bt=l.bits + bt:=by rw [hbt]; exact wr hLt hb0 h64
   refine drg hB a6 [2,4] [2,4] [(4,.r fun _ => .int .u64 bt)] hF (hob:=?hob) fun X6 a0 w1 hF => ?_
   case hob =>
    intro X;subst hB
    repeat (first | exact trivial | refine ⟨rfl,?_⟩ | refine ⟨fun _ => rfl,?_⟩ | refine ⟨f8 (Kk:=noK) _ _ _ _,?_⟩ | refine ⟨fun _ => f8 (Kk:=noK) _ _ _ _,?_⟩ | refine ⟨⟨mD,SB⟩,?_⟩ | refine ⟨fun _ => ⟨mD,SB⟩,?_⟩)
   refine ⟨(s4 l b).bits,rfl,?_⟩;have e:(s4 l b).bits=B.arith .or .u64 l.bits bt:=by
    subst hB
    show _=o9 .or .u64 l.bits bt
    rw [hor,hb1,hbt]; rfl
   rw [e]; exact hF
  have hb1:b=0:=by
   have:¬ b=1:=by subst hB; simpa [std,a8] using hb
   exact hb01.resolve_right this
  exact wp_skip (⟨(s4 l b).bits,rfl,by rw [hb1]; exact hF⟩)
 rintro bb hbb a0 w1 hF
 try dsimp only at hbb
 refine wp_seq (rg hB a6 [2,4] [2,4] [] hF (hob:=?hob) fun X7 a0 w1 hF => ?_)
 case hob =>
  intro X;subst hB
  repeat (first | exact trivial | refine ⟨rfl,?_⟩ | refine ⟨fun _ => rfl,?_⟩ | refine ⟨f8 (Kk:=noK) _ _ _ _,?_⟩ | refine ⟨fun _ => f8 (Kk:=noK) _ _ _ _,?_⟩)
 refine wp_seq (rg hB a6 [4,5] [4] [] hF (hob:=?hob) fun X8 a0 w1 hF => ?_)
 case hob =>
  intro X;subst hB
  repeat (first | exact trivial | refine ⟨rfl,?_⟩ | refine ⟨fun _ => rfl,?_⟩ | refine ⟨f8 (Kk:=noK) _ _ _ _,?_⟩ | refine ⟨fun _ => f8 (Kk:=noK) _ _ _ _,?_⟩)
 refine wp_ret ((rsi hB a6 hF f4 (he:=?_)));subst hB;rw [hV,hE];have e1:IntKind.i64.wrap (l.len + 1)=l.len + 1:=r8 (by omega) (by omega);refine Sim.tup ⟨Sim.agg ⟨?_,?_,trivial⟩,zr,trivial⟩
 .show Sim (.int .i64 (IntKind.i64.wrap (l.len + 1))) _
  rw [e1]; exact zr
 rw [hbb]; exact zr
theorem pJ:j3 Tryz.prog 37:=fun _ _ => by kernel_rfl
theorem BP (l:Lab) (hb0:U64 l.bits) (key:Int) (hk:U64 key):j5 Tryz.prog 37 [b6 l,.int .u64 key] (fun _ => .bool (.v (B1 l key))):=by
 intro m w hm hargs;have SI:=gl l hb0;have SH:=fun h0 h1 => xh key l.len hk h0 h1
 simp only [b6] at SI hargs;unfold B1;obtain ⟨il,hil⟩:=eqv (isL l);rw [<-hil] at SI ⊢;obtain ⟨hd,hhd⟩:=eqv (((I1 key.toNat l.len.toNat:Nat):Int));rw [<-hhd];simp only [<-hhd] at SH;refine en 16 hm hargs Tryz.func37 fun B hB a0 hF => ?_
 refine wp_seq (rg hB a6 [1,2] [2] [] hF fun X0 a0 w1 hF => ?_);refine wp_seq (drg hB a6 [4] [] [(1,.r fun _ => .bool (.v il)),(6,.r fun _ => .int .u64 hd)] hF (hob:=?hob) fun X1 a0 w1 hF => ?_)
 case hob =>
  intro X;subst hB
  repeat (first | exact trivial | refine ⟨rfl,?_⟩ | refine ⟨fun _ => rfl,?_⟩ | refine ⟨⟨Y7,SI⟩,?_⟩ | refine ⟨fun h => ⟨pF,SH (M7 hil h).1 (M7 hil h).2⟩,?_⟩)
 refine wp_ret ((rsi hB a6 hF f4 (he:=?_)));subst hB;exact Sim.bool (by show (if il=true then decide (hd=l.bits) else false)=_; rw [A8]; rfl)
theorem iA:j3 Tryz.prog 215:=fun _ _ => by kernel_rfl
theorem jp (l:Lab) (hb0:U64 l.bits) (h0:0<=l.len) (h1:l.len<=64):j5 Tryz.prog 215 [b6 l] (fun _ => .str (mkB (dg l.bits l.len.toNat))):=by
 intro m w hm hargs;have SB:=rB l.bits hb0;have hz:(mkB (J7 64 l.bits.toNat)).size=64:=by rw [Q7,Y2]
 have he:mkB (dg l.bits l.len.toNat)=(mkB (J7 64 l.bits.toNat)).extract 0 l.len.toNat:=by rw [cG,List.drop_zero]; rfl
 rw [he];simp only [b6] at hargs
 generalize mkB (J7 64 l.bits.toNat)=bs at SB hz ⊢
 refine en 9 hm hargs Tryz.func215 fun B hB a0 hF => ?_
 refine wp_seq (rg hB a6 [1] [1] [] hF fun X0 a0 w1 hF => ?_);refine wp_seq (drg hB a6 [2] [] [(2,.r fun _ => .str bs)] hF (hob:=?hob) fun X1 a0 w1 hF => ?_)
 case hob =>
  intro X;subst hB
  repeat (first | exact trivial | refine ⟨rfl,?_⟩ | refine ⟨⟨iy,SB⟩,?_⟩ | refine ⟨⟨by decide,h0,by show l.len<=(bs.size:Int); rw [hz]; exact h1⟩,?_⟩)
 exact wp_ret ((rsp hB a6 hF f4).1)
theorem uL:j3 Tryz.prog 188:=fun _ _ => by kernel_rfl
theorem Cz (l:Lab) (hb0:U64 l.bits) (key:Int) (hk:U64 key):j5 Tryz.prog 188 [b6 l,.int .u64 key] (fun _ => .bool (.v (B1 l key))):=by
 intro m w hm hargs;have SI:=gP l hb0;have SD:=fun h0 h1 => jp l hb0 h0 h1
 have SB:=rB key hk;have hz:(mkB (J7 64 key.toNat)).size=64:=by rw [Q7,Y2]
 have hct:=fun hl => xN (l:=l) hl hb0 hk
 have he:mkB (dg key l.len.toNat)=(mkB (J7 64 key.toNat)).extract 0 l.len.toNat:=by rw [cG,List.drop_zero]; rfl
 simp only [b6] at SI hargs SD;obtain ⟨il,hil⟩:=eqv (isL l);rw [<-hil] at SI
 generalize mkB (J7 64 key.toNat)=bs at SB hz he
 obtain ⟨d,hd⟩:=eqv (mkB (dg l.bits l.len.toNat));simp only [<-hd] at SD;refine en 17 hm hargs Tryz.func188 fun B hB a0 hF => ?_
 refine wp_seq (rg hB a6 [1,2] [2] [] hF fun X0 a0 w1 hF => ?_);refine wp_seq (drg hB a6 [4] [] [(1,.r fun _ => .bool (.v il)),(4,.r fun _ => .str d),(6,.r fun _ => .str bs)] hF (hob:=?hob) fun X1 a0 w1 hF => ?_)
 case hob =>
  intro X;subst hB
  repeat (first | exact trivial | refine ⟨rfl,?_⟩ | refine ⟨fun _ => rfl,?_⟩ | refine ⟨⟨au,SI⟩,?_⟩ | refine ⟨fun _ => ⟨iy,SB⟩,?_⟩ | refine ⟨fun h => ⟨iA,SD (M7 hil h).1 (M7 hil h).2⟩,?_⟩ | refine ⟨fun h => ⟨by decide,(M7 hil h).1,by show l.len<=(bs.size:Int); rw [hz]; exact (M7 hil h).2⟩,?_⟩)
 refine wp_ret ((rsi hB a6 hF f4 (he:=?_)));subst hB;refine Sim.bool ?_
 show (if il=true then (d.toList == (bs.extract 0 l.len.toNat).toList) else false)=B1 l key
 cases hl:il with
 | false => rw [hl] at hil; unfold B1; rw [<-hil]; rfl
 | true =>
  rw [hl] at hil;rw [if_pos rfl,eqB,hd,<-he,aB,aB];exact hct hil.symm
theorem eD:j3 Tryz.prog 166:=fun _ _ => by kernel_rfl
theorem Q5 (l:Lab) (hb0:U64 l.bits) (b:Int) (hb01:b=0 \/ b=1):j5 Tryz.prog 166 [b6 l,.int .i64 b] (fun _ => .tup [b6 (chV l b),.int .i64 (chE l b)]):=by
 intro m w hm hargs;have SI:=gP l hb0;simp only [b6] at SI hargs ⊢;obtain ⟨il,hil⟩:=eqv (isL l);rw [<-hil] at SI;refine en 32 hm hargs Tryz.func166 fun B hB a0 hF => ?_
 refine wp_seq (rg hB a6 [1,2,4] [2,4] [] hF fun X0 a0 w1 hF => ?_);refine wp_seq (wp_seq (rg hB a6 [16,1,2,4] [2,4] [(1,.r fun _ => .bool (.v il))] hF (hob:=?hob) fun X1 a0 w1 hF => ?_))
 case hob =>
  intro X;subst hB
  repeat (first | exact trivial | refine ⟨rfl,?_⟩ | refine ⟨fun _ => rfl,?_⟩ | refine ⟨f8 (Kk:=noK) _ _ _ _,?_⟩ | refine ⟨fun _ => f8 (Kk:=noK) _ _ _ _,?_⟩ | refine ⟨⟨au,SI⟩,?_⟩ | refine ⟨fun _ => ⟨au,SI⟩,?_⟩)
 apply a7 hF rfl<;>intro hb hF
 .have h9:(if (if (!il)=true then true else decide (b < 0))=true then true else decide (b > 1))=true:=by subst hB; exact hb
  have hilf:il=false:=by rcases hb01 with rfl | rfl<;>cases il<;>first | rfl | (simp at h9)
  have hE:chE l b=1:=by unfold chE; rw [<-hil,hilf]; rfl
  have hV:chV l b=⟨0,0⟩:=by unfold chV; rw [hE]; rfl
  refine wp_seq (rg hB a6 [4,5] [4] [] hF (hob:=?hob) fun X2 a0 w1 hF => ?_)
  case hob =>
   intro X;subst hB
   repeat (first | exact trivial | refine ⟨rfl,?_⟩ | refine ⟨fun _ => rfl,?_⟩ | refine ⟨f8 (Kk:=noK) _ _ _ _,?_⟩ | refine ⟨fun _ => f8 (Kk:=noK) _ _ _ _,?_⟩)
  refine wp_ret ((rsi hB a6 hF f4 (he:=?_)));subst hB;rw [hV,hE];exact zr
 have h9:(if (if (!il)=true then true else decide (b < 0))=true then true else decide (b > 1))=false:=by subst hB; exact hb
 have hilt:il=true:=by cases il<;>first | rfl | (simp at h9)
 have hLt:isL l=true:=by rw [<-hil]; exact hilt
 obtain ⟨hl0,hl1,hl2⟩:=s7 hLt;refine wp_skip (wp_seq (wp_seq (rg hB a6 [20,1,2,4] [2,4] [] hF fun X3 a0 w1 hF => ?_)));apply a7 hF rfl<;>intro hb hF
 .have h64:l.len=64:=by subst hB; simpa [std,a8] using hb
  have hE:chE l b=5:=by unfold chE; rw [<-hil,hilt,if_neg (by decide),if_pos h64]
  have hV:chV l b=⟨0,0⟩:=by unfold chV; rw [hE]; rfl
  refine wp_seq (rg hB a6 [4,5] [4] [] hF (hob:=?hob) fun X4 a0 w1 hF => ?_)
  case hob =>
   intro X;subst hB
   repeat (first | exact trivial | refine ⟨rfl,?_⟩ | refine ⟨fun _ => rfl,?_⟩ | refine ⟨f8 (Kk:=noK) _ _ _ _,?_⟩ | refine ⟨fun _ => f8 (Kk:=noK) _ _ _ _,?_⟩)
  refine wp_ret ((rsi hB a6 hF f4 (he:=?_)));subst hB;rw [hV,hE];exact zr
 have h64:l.len ≠ 64:=by subst hB; simpa [std,a8] using hb
 have hE:chE l b=0:=by unfold chE; rw [<-hil,hilt,if_neg (by decide),if_neg h64]
 have hV:chV l b=s4 l b:=by unfold chV; rw [hE]; rfl
 refine wp_skip (wp_seq (wp_seq (rg hB a6 [23,2,4] [2,4] [] hF fun X5 a0 w1 hF => ?_)));apply a7 hF rfl<;>intro hb hF
 .have hb1:b=0:=by subst hB; simpa [std,a8] using hb
  have SD:=jp l hb0 hl0 hl1;simp only [b6] at SD;obtain ⟨d,hd⟩:=eqv (mkB (dg l.bits l.len.toNat));rw [<-hd] at SD;have hds:d.size=l.len.toNat:=by rw [hd,Q7]; exact dP _ (by omega)
  have hdt:unB (d ++ ⟨#[48]⟩)=dg l.bits l.len.toNat ++ [48]:=by rw [gJ,hd,aB]; rfl
  have hsz:(d ++ ⟨#[48]⟩:ByteArray).size=l.len.toNat + 1:=by rw [<-aZ,hdt,List.length_append,dP _ (by omega)]; rfl
  have SO:=zj (d ++ ⟨#[48]⟩) (fun x hx => by rw [hdt] at hx; rcases List.mem_append.1 hx with hx | hx; exact pL x hx; rw [List.mem_singleton.1 hx]; decide) (by omega);obtain ⟨k,hk⟩:=eqv (ofT (d ++ ⟨#[48]⟩));rw [<-hk] at SO;simp only [b6] at SO;have hkl:k=s4 l b:=by
   have ht:=lk hLt hb0 h64 b hb01;have hu:=cQ hLt hb0 h64 b;rw [hk]; unfold ofT; rw [hdt,hsz];have e1:(s4 l b).len=l.len + 1:=rfl;have e2:∀ k:Lab,k=⟨k.len,k.bits⟩:=fun k => rfl
   rw [e2 (s4 l b),e1]
   congr 1
   .omega
   have h0:=hu.1;have e3:(if b=1 then (49:UInt8) else 48)=48:=by rw [hb1]; rfl
   rw [e3] at ht;rw [ht]; omega
  refine wp_seq (rg hB a6 [4,5] [4] [(1,.r fun _ => .str d),(3,.r fun _ => .agg [.int .i64 k.len,.int .u64 k.bits])] hF (hob:=?hob) fun X6 a0 w1 hF => ?_)
  case hob =>
   intro X;subst hB
   repeat (first | exact trivial | refine ⟨(show d.size + 1<=maxLen by simp only [maxLen]; omega),?_⟩ | refine ⟨rfl,?_⟩ | refine ⟨⟨iA,SD⟩,?_⟩ | refine ⟨⟨iz,SO⟩,?_⟩)
  refine wp_ret ((rsi hB a6 hF f4 (he:=?_)));subst hB;rw [hV,hE,<-hkl];exact zr
 have hb1:b=1:=by
  have:¬ b=0:=by subst hB; simpa [std,a8] using hb
  exact hb01.resolve_left this
 have SD:=jp l hb0 hl0 hl1;simp only [b6] at SD;obtain ⟨d,hd⟩:=eqv (mkB (dg l.bits l.len.toNat));rw [<-hd] at SD;have hds:d.size=l.len.toNat:=by rw [hd,Q7]; exact dP _ (by omega)
 have hdt:unB (d ++ ⟨#[49]⟩)=dg l.bits l.len.toNat ++ [49]:=by rw [gJ,hd,aB]; rfl
 have hsz:(d ++ ⟨#[49]⟩:ByteArray).size=l.len.toNat + 1:=by rw [<-aZ,hdt,List.length_append,dP _ (by omega)]; rfl
 have SO:=zj (d ++ ⟨#[49]⟩) (fun x hx => by rw [hdt] at hx; rcases List.mem_append.1 hx with hx | hx; exact pL x hx; rw [List.mem_singleton.1 hx]; decide) (by omega);obtain ⟨k,hk⟩:=eqv (ofT (d ++ ⟨#[49]⟩));rw [<-hk] at SO;simp only [b6] at SO;have hkl:k=s4 l b:=by
  have ht:=lk hLt hb0 h64 b hb01;have hu:=cQ hLt hb0 h64 b;rw [hk]; unfold ofT; rw [hdt,hsz];have e1:(s4 l b).len=l.len + 1:=rfl;have e2:∀ k:Lab,k=⟨k.len,k.bits⟩:=fun k => rfl
  rw [e2 (s4 l b),e1]
  congr 1
  .omega
  have h0:=hu.1;have e3:(if b=1 then (49:UInt8) else 48)=49:=by rw [hb1]; rfl
  rw [e3] at ht;rw [ht]; omega
 refine wp_skip (wp_seq (rg hB a6 [4,5] [4] [(1,.r fun _ => .str d),(3,.r fun _ => .agg [.int .i64 k.len,.int .u64 k.bits])] hF (hob:=?hob) fun X7 a0 w1 hF => ?_))
 case hob =>
  intro X;subst hB
  repeat (first | exact trivial | refine ⟨(show d.size + 1<=maxLen by simp only [maxLen]; omega),?_⟩ | refine ⟨rfl,?_⟩ | refine ⟨⟨iA,SD⟩,?_⟩ | refine ⟨⟨iz,SO⟩,?_⟩)
 refine wp_ret ((rsi hB a6 hF f4 (he:=?_)));subst hB;rw [hV,hE,<-hkl];exact zr
structure Nt where
 code:Int
 had:Bool
 val:ByteArray
structure Rsl where
 code:Int
 had:Bool
 val:ByteArray
 items:List Itm
 key:Int
 more:Bool
deriving DecidableEq
def dm:Rsl:=⟨0,false,⟨#[]⟩,[],0,false⟩
structure Wq where
 kind:Int
 lab:Lab
 ver:Int
 r:Rec
 res:Rsl
deriving DecidableEq
def zWq:Wq:=⟨0,⟨0,0⟩,0,i8,dm⟩
structure Pst where
 n:Nat
 g:Nat -> l9
 note:Nt
def Pst.tl (p:Pst):Pst:=⟨p.n - 1,fun j => p.g (j + 1),p.note⟩
inductive Rs (α : Type) where
 | ok (a:α) (p:Pst)
 | stop (w:Wq) (p:Pst)
def Rs.bind {α β : Type} (m:Rs α) (f:α -> Pst -> Rs β):Rs β:=match m with
 | .ok a p => f a p
 | .stop w p => .stop w p
def BD (p:Pst):Wq:=⟨4,⟨0,0⟩,0,i8,⟨p.note.code,p.note.had,p.note.val,[],0,false⟩⟩
def U5 (k:Int) (w:Wq) (p:Pst):Rs l9:=if 0 < p.n/\0 < (p.n:Int) + k then .ok (p.g 0) p.tl else .stop (if (p.n:Int) + k<=0 then BD p else w) p
def R1 (k:Int) (l:Lab) (p:Pst):Rs l9:=U5 k ⟨1,l,0,i8,dm⟩ p
def T0 (k:Int) (l:Lab) (v:Int) (r:Rec) (p:Pst):Rs Bool:=(U5 k ⟨2,l,v,r,dm⟩ p).bind fun g p => .ok (decide (g.code=0)) p
def iD (k:Int) (l:Lab) (v:Int) (p:Pst):Rs Bool:=(U5 k ⟨3,l,v,i8,dm⟩ p).bind fun g p => .ok (decide (g.code=0)) p
def gk (g:l9) (kd:Int):Bool:=g.has && decide (g.x.r.kd=kd)
def asR (kd:Int) (x:RA) (mk:Int):RA:=⟨x.A,x.c,⟨x.r.n,x.r.f,kd,x.r.nx,mk⟩⟩
def dI:Rec:=⟨2,[],B2,0⟩
def P0 (x:RA) (l:Lab):Rec × Rec × Int:=I2 x.r.kd x.r.n x.r.f x.r.nx x.r.mrk l
def cx (x y:RA):Rec × Int:=aR x.r.kd x.r.n x.r.f x.r.nx x.r.mrk y.r.kd y.r.n y.r.f y.r.nx y.r.mrk
def s8 (k:Int) (l:Lab) (v:Int) (c:Lab) (x:Rec):Nat -> Pst -> Rs Bool
 | 0,p => .stop zWq p
 | n + 1,p => (R1 k c p).bind fun g p => if (g.has && !decide (g.x.r.kd=5))=true then .ok true p else (R1 k l p).bind fun q p => if q.ver=v then (T0 k c g.ver x p).bind fun d p => if d=true then .ok true p else s8 k l v c x n p else .ok false p
def l7 (k:Int) (n:Nat) (l:Lab) (v:Int) (x:RA) (p:Pst):Rs Unit:=
 if (P0 x l).2.2=0 then
  (s8 k l v (chV l 0) (P0 x l).1 n p).bind fun go p => if go=true then (s8 k l v (chV l 1) (P0 x l).2.1 n p).bind fun go p => if go=true then (T0 k l v dI p).bind fun _ p => .ok () p else .ok () p else .ok () p
 else .ok () p
inductive Fz where
 | over
 | unfit
 | fr (x:RA)
def L6 (k:Int) (l:Lab) (v:Int) (c:Lab):Nat -> Pst -> Rs Fz
 | 0,p => .stop zWq p
 | n + 1,p => (R1 k c p).bind fun g p => if (gk g 1 || gk g 5)=true then (if (gk g 5 && decide (g.x.r.mrk=v))=true then .ok (.fr g.x) p else (R1 k l p).bind fun q p => if q.ver=v then (T0 k c g.ver (asR 5 g.x v).r.abs p).bind fun d p => if d=true then .ok (.fr (asR 5 g.x v)) p else L6 k l v c n p else .ok .over p) else .ok .unfit p
def G7 (k:Int) (l:Lab) (cl:Lab -> Pst -> Rs Unit) (c:Lab) (p:Pst):Rs Bool:=
 (R1 k c p).bind fun g p => if gk g 5=true then (cl c p).bind fun _ p => (R1 k l p).bind fun q p => if (gk q 1 || gk q 5)=true then (iD k c g.ver p).bind fun _ p => .ok true p else .ok false p else .ok true p
def C7 (k:Int):Nat -> Lab -> Pst -> Rs Unit
 | 0,_,p => .stop zWq p
 | n + 1,l,p => if l.len=64 then .ok () p else (G7 k l (C7 k n) (chV l 0) p).bind fun go p => if go=true then (G7 k l (C7 k n) (chV l 1) p).bind fun _ p => .ok () p else .ok () p
def aO (k:Int) (th:Lab -> Pst -> Rs Unit) (l:Lab) (v:Int) (p:Pst):Rs Unit:=(T0 k l v dI p).bind fun d p => if d=true then (th (chV l 0) p).bind fun _ p => th (chV l 1) p else .ok () p
def L0 (bk k:Int) (n:Nat) (th:Lab -> Pst -> Rs Unit) (l:Lab) (v:Int) (p:Pst):Rs Unit:=
 (L6 k l v (chV l 0) n p).bind fun a p => match a with
  | .over => .ok () p
  | .unfit => aO k th l v p
  | .fr a => (L6 k l v (chV l 1) n p).bind fun b p => match b with
   | .over => .ok () p
   | .unfit => aO k th l v p
   | .fr b => if (cx a b).2=0/\((cx a b).1.items.length:Int)<=bk then (T0 k l v (cx a b).1 p).bind fun d p => if d=true then C7 k n l p else .ok () p else aO k th l v p
def dM (bk k:Int) (n:Nat) (th:Lab -> Pst -> Rs Unit) (l:Lab) (g:l9) (p:Pst):Rs Unit:=
 if gk g 3=true then l7 k n l g.ver g.x p else if l.len < 64 then L0 bk k n th l g.ver p else .ok () p
def db (bk k:Int):Nat -> Lab -> Lab -> Pst -> Rs Unit
 | 0,_,_,p => .stop zWq p
 | n + 1,l,up,p => (R1 k l p).bind fun g p => if gk g 5=true then (R1 k up p).bind fun q p =>
   (if (gk q 3 || gk q 4)=true then dM bk k n (fun c p => if Q8 c=0 then db bk k n c (P5 c) p else .ok () p) up q p else .ok () p).bind fun _ p =>
    if gk q 2=true then (T0 k l g.ver (asR 1 g.x 0).r.abs p).bind fun d p => if d=true then .ok () p else db bk k n l up p else .ok () p else .ok () p
def G4 (bk k:Int) (n:Nat) (l:Lab) (p:Pst):Rs Unit:=if Q8 l=0 then db bk k n l (P5 l) p else .ok () p
def Y5 (bk k:Int) (n:Nat) (l:Lab) (g:l9) (p:Pst):Rs Unit:=dM bk k n (G4 bk k n) l g p
def K0 (r:Rs Rsl):Wq × Int:=match r with
 | .ok a p => if 0 < p.n then (zWq,5) else (⟨4,⟨0,0⟩,0,i8,a⟩,0)
 | .stop w p => if 0 < p.n then (zWq,5) else (w,0)
def Suf (p p':Pst):Prop:=∃ d,p'.n + d=p.n/\∀ j,p'.g j=p.g (j + d)
theorem Suf.refl (p:Pst):Suf p p:=⟨0,rfl,fun _ => rfl⟩
theorem Suf.trans {p q r:Pst} (h:Suf p q) (h':Suf q r):Suf p r:=by
 obtain ⟨d,h1,h2⟩:=h;obtain ⟨e,h3,h4⟩:=h';exact ⟨e + d,by omega,fun j => by rw [h4,h2]; congr 1; omega⟩
theorem Suf.le {p q:Pst} (h:Suf p q):q.n<=p.n:=by obtain ⟨d,h1,_⟩:=h; omega
theorem Cf {p:Pst} (h:0 < p.n):Suf p p.tl:=⟨1,by simp only [Pst.tl]; omega,fun _ => rfl⟩
def Fro {α : Type} (p:Pst) (r:Rs α):Prop:=match r with
 | .ok _ q => Suf p q
 | .stop _ q => Suf p q
theorem Fro.bind {α β : Type} {p:Pst} {m:Rs α} {f:α -> Pst -> Rs β} (h:Fro p m) (hf:∀ a q,Suf p q -> Fro q (f a q)):Fro p (m.bind f):=by
 cases m with
 | ok a q =>
  have h1:=hf a q h
  show Fro p (f a q)
  cases hr:f a q with
  | ok b r => rw [hr] at h1; exact Suf.trans h h1
  | stop w r => rw [hr] at h1; exact Suf.trans h h1
 | stop w q => exact h
theorem bz (k:Int) (w:Wq) (p:Pst):Fro p (U5 k w p):=by
 unfold U5
 split
 .rename_i h; exact Cf h.1
 exact Suf.refl _
theorem u3 {α : Type} (a:α) (p:Pst):Fro p (Rs.ok a p):=Suf.refl p
theorem dL {α : Type} (w:Wq) (p:Pst):Fro p (Rs.stop w p:Rs α):=Suf.refl p
theorem o7 {α : Type} {p:Pst} {c:Prop} [Decidable c] {x y:Rs α} (hx:Fro p x) (hy:Fro p y):Fro p (if c then x else y):=by split<;>assumption
theorem j1 (k:Int) (l:Lab) (p:Pst):Fro p (R1 k l p):=bz _ _ _
theorem l3 (k:Int) (l:Lab) (v:Int) (r:Rec) (p:Pst):Fro p (T0 k l v r p):=(bz _ _ _).bind fun _ _ _ => u3 _ _
theorem cM (k:Int) (l:Lab) (v:Int) (p:Pst):Fro p (iD k l v p):=(bz _ _ _).bind fun _ _ _ => u3 _ _
theorem kN (k:Int) (l:Lab) (v:Int) (c:Lab) (x:Rec):∀ n p,Fro p (s8 k l v c x n p)
 | 0,p => dL _ _
 | n + 1,p => (j1 _ _ _).bind fun _ _ _ => o7 (u3 _ _) ((j1 _ _ _).bind fun _ _ _ => o7 ((l3 _ _ _ _ _).bind fun _ _ _ => o7 (u3 _ _) (kN k l v c x n _)) (u3 _ _))
theorem iq (k:Int) (n:Nat) (l:Lab) (v:Int) (x:RA) (p:Pst):Fro p (l7 k n l v x p):=
 o7 ((kN _ _ _ _ _ _ _).bind fun _ _ _ => o7 ((kN _ _ _ _ _ _ _).bind fun _ _ _ => o7 ((l3 _ _ _ _ _).bind fun _ _ _ => u3 _ _) (u3 _ _)) (u3 _ _)) (u3 _ _)
theorem Z8 (k:Int) (l:Lab) (v:Int) (c:Lab):∀ n p,Fro p (L6 k l v c n p)
 | 0,p => dL _ _
 | n + 1,p => (j1 _ _ _).bind fun _ _ _ => o7 (o7 (u3 _ _) ((j1 _ _ _).bind fun _ _ _ => o7 ((l3 _ _ _ _ _).bind fun _ _ _ => o7 (u3 _ _) (Z8 k l v c n _)) (u3 _ _))) (u3 _ _)
theorem pz (k:Int) (l:Lab) (cl:Lab -> Pst -> Rs Unit) (h:∀ c p,Fro p (cl c p)) (c:Lab) (p:Pst):Fro p (G7 k l cl c p):=
 (j1 _ _ _).bind fun _ _ _ => o7 ((h _ _).bind fun _ _ _ => (j1 _ _ _).bind fun _ _ _ => o7 ((cM _ _ _ _).bind fun _ _ _ => u3 _ _) (u3 _ _)) (u3 _ _)
theorem J2 (k:Int):∀ n l p,Fro p (C7 k n l p)
 | 0,l,p => dL _ _
 | n + 1,l,p => o7 (u3 _ _) ((pz _ _ _ (J2 k n) _ _).bind fun _ _ _ => o7 ((pz _ _ _ (J2 k n) _ _).bind fun _ _ _ => u3 _ _) (u3 _ _))
theorem bx (k:Int) (th:Lab -> Pst -> Rs Unit) (h:∀ c p,Fro p (th c p)) (l:Lab) (v:Int) (p:Pst):Fro p (aO k th l v p):=
 (l3 _ _ _ _ _).bind fun _ _ _ => o7 ((h _ _).bind fun _ _ _ => h _ _) (u3 _ _)
theorem nN (bk k:Int) (n:Nat) (th:Lab -> Pst -> Rs Unit) (h:∀ c p,Fro p (th c p)) (l:Lab) (v:Int) (p:Pst):Fro p (L0 bk k n th l v p):=
 (Z8 _ _ _ _ _ _).bind fun a _ _ => match a with
  | .over => u3 _ _
  | .unfit => bx _ _ h _ _ _
  | .fr a => (Z8 _ _ _ _ _ _).bind fun b _ _ => match b with
   | .over => u3 _ _
   | .unfit => bx _ _ h _ _ _
   | .fr b => o7 ((l3 _ _ _ _ _).bind fun _ _ _ => o7 (J2 _ _ _ _) (u3 _ _)) (bx _ _ h _ _ _)
theorem nP (bk k:Int) (n:Nat) (th:Lab -> Pst -> Rs Unit) (h:∀ c p,Fro p (th c p)) (l:Lab) (g:l9) (p:Pst):Fro p (dM bk k n th l g p):=
 o7 (iq _ _ _ _ _ _) (o7 (nN _ _ _ _ h _ _ _) (u3 _ _))
theorem gq (bk k:Int):∀ n l up p,Fro p (db bk k n l up p)
 | 0,l,up,p => dL _ _
 | n + 1,l,up,p => (j1 _ _ _).bind fun _ _ _ => o7 ((j1 _ _ _).bind fun _ _ _ => (o7 (nP _ _ _ _ (fun c p => o7 (gq bk k n _ _ _) (u3 _ _)) _ _ _) (u3 _ _)).bind fun _ _ _ => o7 ((l3 _ _ _ _ _).bind fun _ _ _ => o7 (u3 _ _) (gq bk k n _ _ _)) (u3 _ _)) (u3 _ _)
theorem F5 (bk k:Int) (n:Nat) (l:Lab) (p:Pst):Fro p (G4 bk k n l p):=o7 (gq _ _ _ _ _ _) (u3 _ _)
theorem bw (bk k:Int) (n:Nat) (l:Lab) (g:l9) (p:Pst):Fro p (Y5 bk k n l g p):=nP _ _ _ _ (F5 _ _ _) _ _ _
theorem Fro.of {α : Type} {p q:Pst} {m:Rs α} {a:α} (h:Fro p m) (e:m = .ok a q):Suf p q:=by rw [e] at h; exact h
theorem Fro.ofs {α : Type} {p q:Pst} {m:Rs α} {w:Wq} (h:Fro p m) (e:m = .stop w q):Suf p q:=by rw [e] at h; exact h
theorem rC {k:Int} {w:Wq} {p q:Pst} {g:l9} (h:U5 k w p = .ok g q):0 < p.n/\g=p.g 0/\q=p.tl:=by
 unfold U5 at h
 split at h
 .rename_i h0; injection h with h1 h2; exact ⟨h0.1,h1.symm,h2.symm⟩
 cases h
theorem B0 {k:Int} {l:Lab} {p q:Pst} {g:l9} (h:R1 k l p = .ok g q):q.n < p.n:=by
 obtain ⟨h1,_,rfl⟩:=rC h;simp only [Pst.tl]; omega
structure U8 (x:RA):Prop where
 nx:U64 x.r.nx.bits
 key:∀ i,i < x.r.n -> U64 (x.r.f i).key
 few:x.r.n<=16
structure dX (g:l9):Prop where
 ra:U8 g.x
 ver:U64 g.ver
structure ym (g:l9):Prop where
 code:g.code=0 \/ g.code=8
 rf:g.has=true -> L5 g.x.r.kd g.x.r.n g.x.r.f g.x.r.nx g.x.r.mrk=true
 no:g.has=false -> g.x.r.kd=0/\g.x.r.n=0/\g.x.r.nx=⟨0,0⟩/\g.x.r.mrk=0
theorem ym.kd {g:l9} (h:ym g) (hh:g.has=true):1<=g.x.r.kd/\g.x.r.kd<=5:=by
 obtain ⟨h1,h2,_⟩:=V5 (h.rf hh);exact ⟨h1,h2⟩
def i5 (p:Pst):Prop:=∀ j,j < p.n -> dX (p.g j)/\ym (p.g j)
theorem i5.suf {p q:Pst} (h:i5 p) (hs:Suf p q):i5 q:=by
 obtain ⟨d,h1,h2⟩:=hs;intro j hj;rw [h2];exact h _ (by omega)
theorem i5.get {k:Int} {l:Lab} {p q:Pst} {g:l9} (h:i5 p) (e:R1 k l p = .ok g q):dX g:=by
 obtain ⟨h1,rfl,_⟩:=rC e;exact (h 0 h1).1
theorem i5.getR {k:Int} {l:Lab} {p q:Pst} {g:l9} (h:i5 p) (e:R1 k l p = .ok g q):ym g:=by
 obtain ⟨h1,rfl,_⟩:=rC e;exact (h 0 h1).2
theorem U8.as {x:RA} (h:U8 x) (kd mk:Int):U8 (asR kd x mk):=⟨h.nx,h.key,h.few⟩
theorem fw {k:Int} {l:Lab} {v:Int} {c:Lab}:∀ {n:Nat} {p q:Pst} {x:RA},i5 p -> L6 k l v c n p = .ok (.fr x) q -> U8 x
 | 0,p,q,x,_,h => by cases h
 | n + 1,p,q,x,hp,h => by
  unfold L6 at h
  cases h1:R1 k c p with
  | stop w p1 => rw [h1] at h; cases h
  | ok g p1 =>
   rw [h1] at h;have hg:=(hp.get h1).ra;have hp1:=hp.suf ((j1 k c p).of h1);simp only [Rs.bind] at h
   split at h
   .split at h
    .injection h with h _; injection h with h; rw [<-h]; exact hg
    cases h2:R1 k l p1 with
    | stop w p2 => rw [h2] at h; cases h
    | ok q2 p2 =>
     rw [h2] at h;have hp2:=hp1.suf ((j1 k l p1).of h2);simp only [Rs.bind] at h
     split at h
     .cases h3:T0 k c g.ver (asR 5 g.x v).r.abs p2 with
      | stop w p3 => rw [h3] at h; cases h
      | ok d p3 =>
       rw [h3] at h;simp only [Rs.bind] at h
       split at h
       .injection h with h _; injection h with h; rw [<-h]; exact hg.as _ _
       exact fw (hp2.suf ((l3 _ _ _ _ _).of h3)) h
     cases h
   cases h
end Go.Proofs.YtodelmejfpkicaaGreat.Sym
namespace Go.Proofs.YtodelmejfpkicaaGreat.Sym
open Go.RowKit
section
variable {C:Cx} {P:Program} {Q:Exit -> Act -> World -> Prop} {T:List (Nat × TI)} {cs:List (Nat × CS)} {ops:Array Oper} {all:List Oper} {H:jh}
theorem nX {listed:Array Bool} (hDC:∀ k o,all[k]? = some o -> listed.getD k false=true -> ∀ e ∈ o.after.toList,Region.binds .any e=true -> listed.getD e.on false=true) {i j:Nat} (hr:q8 all i j):(∀ o e,all[i]? = some o -> e ∈ o.after.toList -> Region.binds .any e=true -> listed.getD e.on false=true) -> listed.getD j false=true:=by
 induction hr with
 | one h1 h2 h3 h4 => intro hi; rw [<-h4]; exact hi _ _ h1 h2 h3
 | more h1 h2 h3 h4 ih => intro hi; exact ih fun o e g1 g2 g3 => hDC _ o g1 (hi _ _ h1 h2 h3) e g2 g3
theorem pO {tz:List Nat} (hops:ops=all.toArray) (htz:∀ i j,co tz i j=true -> q8 all i j) {n0:Nat} (hz:∀ k,n0<=k -> k < ops.size -> ∀ j,j < k -> co tz k j=true) (hze:∀ (k:Nat) (o:Oper),ops[k]? = some o -> ∀ e ∈ o.after.toList,Region.binds .any e=true -> e.on < k) :
  ∀ (n k:Nat) (listed:Array Bool) (a:Act) (w:World),n0<=k -> ops.size - k=n -> k<=ops.size -> listed.size=ops.size -> (∀ j,j < k -> listed.getD j false=true) -> (∀ j,k<=j -> j < ops.size -> listed.getD j true=false) →
  (∀ k o,all[k]? = some o -> listed.getD k false=true -> ∀ e ∈ o.after.toList,Region.binds .any e=true -> listed.getD e.on false=true) -> wpList P ops Q (all.drop k) a w -> wpAny P .any ops Q n listed a w
 | 0,k,listed,a,w,h0,hn,hk,hsz,hlo,hhi,hDC,hq => by
  have hlen:all.length=ops.size:=by rw [hops]; simp
  have:all.drop k=[]:=List.drop_eq_nil_of_le (by omega);rw [this] at hq;refine ⟨?_,hq⟩
  cases hr:Region.ready .any ops listed with
  | nil => rfl
  | cons i r =>
   obtain ⟨h1,o,h2,_⟩:=mem_ready.1 (hr ▸ List.mem_cons_self:i ∈ Region.ready .any ops listed);have hi:=(Array.getElem?_eq_some_iff.1 h2).1;have:=hlo i (by omega);rw [F0 h1] at this; cases this
 | n + 1,k,listed,a,w,h0,hn,hk,hsz,hlo,hhi,hDC,hq => by
  have hlen:all.length=ops.size:=by rw [hops]; simp
  have hkl:k < ops.size:=by omega
  obtain ⟨o,ho⟩:∃ o,ops[k]? = some o:=⟨_,Array.getElem?_eq_getElem hkl⟩
  have hoa:all[k]? = some o:=by rw [hops] at ho; simpa using ho
  have hd:all.drop k=o :: all.drop (k + 1):=by
   have hka:k < all.length:=by omega
   rw [List.drop_eq_getElem_cons hka]
   congr 1
   exact (List.getElem?_eq_some_iff.1 hoa).2
  refine ⟨fun hr => ?_,fun i hi => ?_⟩
  .exfalso
   have:k ∈ Region.ready .any ops listed:=mem_ready.2 ⟨hhi k (Nat.le_refl _) hkl,o,ho,fun e he hb => hlo _ (hze k o ho e (by simpa using he) hb)⟩;rw [hr] at this; cases this
  obtain ⟨h1,o',h2,h3⟩:=mem_ready.1 hi;have hil:=(Array.getElem?_eq_some_iff.1 h2).1;have hik:i=k:=by
   refine Decidable.byContradiction fun hne => ?_
   by_cases hlt:i < k
   .have:=hlo i hlt
    rw [F0 h1] at this; cases this
   have hw:=htz _ _ (hz i (by omega) hil k (by omega));have h4:=nX hDC hw (fun o'' e g1 g2 g3 => by
    have:o''=o':=by
     have e1:ops[i]? = some o'':=by rw [hops]; simpa using g1
     rw [h2] at e1; injection e1 with e1; exact e1.symm
    subst this;exact h3 e (by simpa using g2) g3)
   have:=hhi k (Nat.le_refl _) hkl;rw [F0 this] at h4; cases h4
  subst hik;have:o'=o:=by rw [ho] at h2; injection h2 with h2; exact h2.symm
  subst this;have fin:∀ a w,wpList P ops Q (all.drop (i + 1)) a w -> wpAny P .any ops Q n (listed.setIfInBounds i true) a w:=by
   intro a w hq';refine pO hops htz hz hze n (i + 1) _ a w (by omega) (by omega) (by omega) (by simpa using hsz) (fun j hj => ?_) (fun j hj hj' => ?_) (fun k2 ok hk2 hu e he hb => ?_) hq'
   .by_cases hji:j=i
    .subst hji; simp [Array.getD_eq_getD_getElem?,hsz,hil]
    rw [getD_set_ne false (fun e' => hji e'.symm)]; exact hlo j (by omega)
   .rw [getD_set_ne true (by omega)]; exact hhi j (by omega) hj'
   have hon:listed.getD e.on false=true:=by
    by_cases hki:k2=i
    .subst hki
     have:ok=o':=by
      have e1:ops[k2]? = some ok:=by rw [hops]; simpa using hk2
      rw [h2] at e1; injection e1 with e1; exact e1.symm
     subst this;exact h3 e (by simpa using he) hb
    rw [getD_set_ne false (fun e' => hki e'.symm)] at hu;exact hDC k2 ok hk2 hu e he hb
   by_cases hei:e.on=i
   .rw [hei]; simp [Array.getD_eq_getD_getElem?,hsz,hil]
   rw [getD_set_ne false (fun e' => hei e'.symm)]; exact hon
  rw [hd] at hq;unfold wpOp;simp only [h2];unfold wpList at hq
  by_cases hw:Region.wanted o' (yielded ops a.tmps)=true
  .rw [if_pos hw] at hq ⊢
   exact hq.imp (Oper.wp_mono fin) id
  rw [if_neg hw] at hq ⊢;exact fin _ _ hq
theorem tq {tb tz:List Nat} (hT:j9 P T) (hops:ops=all.toArray) (htb:∀ i j,co tb i j=true -> q8 all i j) (htz:∀ i j,co tz i j=true -> q8 all i j) (hH:aQ C P all H) {n0:Nat} (hz:∀ k,n0<=k -> k < ops.size -> ∀ j,j < k -> co tz k j=true) (hze:∀ (k:Nat) (o:Oper),ops[k]? = some o -> ∀ e ∈ o.after.toList,Region.binds .any e=true -> e.on < k) (hz4:n0<=ops.size):∀ (n:Nat) (L:List (Nat × Oper)) (fs:List B9) (listed:Array Bool) (s:St) (a:Act) (w:World),L.length=n -> b4 C s a w -> NM s (ds fs) -> Ord fs -> om tb L fs -> (∀ k o,all[k]? = some o -> listed.getD k false=true -> ∀ e ∈ o.after.toList,Region.binds .any e=true -> listed.getD e.on false=true) →
  L.Pairwise (fun x y => x.1 < y.1) -> (∀ x ∈ L,ops[x.1]? = some x.2/\listed.getD x.1 true=false) -> (∀ k o,k < n0 -> ops[k]? = some o -> listed.getD k true=false -> (k,o) ∈ L) -> (∀ k,n0<=k -> k < ops.size -> listed.getD k true=false) -> (∀ x ∈ L,x.1 < n0) -> listed.size=ops.size →
  (∀ x ∈ L,∀ e ∈ x.2.after.toList,Region.binds .any e=true -> e.on < x.1) →
  (∀ X,∃ τ obs,F2 std T cs H X all L s=some (τ,obs,fs)/\b5 P C.K obs/\∀ a' w',b4 C τ a' w' -> wpList P ops Q (all.drop n0) a' w') -> wpAny P .any ops Q (n + (ops.size - n0)) listed a w
 | 0,L,fs,listed,s,a,w,hn,h,hNM,hF,hP,hDC,hsr,hL,hA,hZ,hLn,hsz,hE,hs => by
  have:L=[]:=List.eq_nil_of_length_eq_zero hn;subst this;obtain ⟨τ,obs,e1,_,e2⟩:=hs (fun _ => ⟨0,fun _ => none,fun _ => 0,fun _ => .empty⟩);simp only [F2,Option.some.injEq,Prod.mk.injEq] at e1;obtain ⟨rfl,_⟩:=e1;rw [Nat.zero_add];refine pO hops htz hz hze (ops.size - n0) n0 listed a w (Nat.le_refl _) rfl hz4 hsz (fun k hk => ?_) hZ hDC (e2 a w h)
  by_cases hl:listed.getD k false=true
  .exact hl
  have:=hA k _ hk (Array.getElem?_eq_getElem (by omega)) (cL (by rw [hsz]; omega) hl)
  cases this
 | n + 1,L,fs,listed,s,a,w,hn,h,hNM,hF,hP,hDC,hsr,hL,hA,hZ,hLn,hsz,hE,hs => by
  rw [show n + 1 + (ops.size - n0)=(n + (ops.size - n0)) + 1 by omega];refine ⟨fun hr => ?_,fun i hi => ?_⟩
  .-- the first one that is left may come up
   exfalso
   cases L with
   | nil => cases hn
   | cons x L =>
    obtain ⟨i0,o0⟩:=x;obtain ⟨h1,h2⟩:=hL (i0,o0) (by simp);have:i0 ∈ Region.ready .any ops listed:=mem_ready.2 ⟨h2,o0,h1,fun e he hb => by
     have hlt:=hE (i0,o0) (by simp) e (by simpa using he) hb;simp only at hlt;have hi0:i0 < ops.size:=(Array.getElem?_eq_some_iff.1 h1).1;have hon:e.on < listed.size:=by rw [hsz]; omega
     by_cases hl:listed.getD e.on false=true
     .exact hl
     exfalso
     have hm:=hA e.on _ (by have:=hLn (i0,o0) (by simp); simp only at this; omega) (Array.getElem?_eq_getElem (by omega)) (cL hon hl)
     rcases List.mem_cons.1 hm with he' | hm
     .injection he' with he'; omega
     have:=(List.pairwise_cons.1 hsr).1 _ hm;simp only at this; omega⟩
    rw [hr] at this
    cases this
  obtain ⟨h1,o,h2,h3⟩:=mem_ready.1 hi;have hi0:i < n0:=by
   refine Decidable.byContradiction fun hni => ?_
   cases L with
   | nil => cases hn
   | cons x L =>
    have hx0:=hLn x (by simp);have hw:=htz _ _ (hz i (by omega) (Array.getElem?_eq_some_iff.1 h2).1 x.1 (by omega));have h4:=nX hDC hw (fun o' e g1 g2 g3 => by
     have:o'=o:=by
      have e1:ops[i]? = some o':=by rw [hops]; simpa using g1
      rw [h2] at e1; injection e1 with e1; exact e1.symm
     subst this;exact h3 e (by simpa using g2) g3)
    have q5:=(hL x (by simp)).2;rw [F0 q5] at h4
    cases h4
  have hio:all[i]? = some o:=by rw [hops] at h2; simpa using h2
  have hin:=hA i o hi0 h2 h1;obtain ⟨L1,L2,rfl⟩:=List.append_of_mem hin;obtain ⟨fs1,f,fs2,hlen,rfl⟩:∃ fs1 f fs2,fs1.length=L1.length/\fs=fs1 ++ f :: fs2:=by
   have hl:=hP.1;simp only [List.length_append,List.length_cons] at hl;have hlt:L1.length < fs.length:=by omega
   refine ⟨fs.take L1.length,fs[L1.length],fs.drop (L1.length + 1),by simp; omega,?_⟩;rw [<-List.drop_eq_getElem_cons hlt,List.take_append_drop]
  obtain ⟨hP1,hcm⟩:=aD hlen hP.2;have hcomm:∀ g ∈ fs1,eQ g f=true:=by
   intro g hg;obtain ⟨k,hk⟩:=List.getElem?_of_mem hg;have hkl:k < L1.length:=by rw [<-hlen]; exact (List.getElem?_eq_some_iff.1 hk).1
   rcases hcm k _ g (List.getElem?_eq_getElem hkl) hk with he | he
   .exfalso
    have h5:=(hL L1[k] (List.mem_append_left _ (List.getElem_mem hkl))).2;have hr:=htb _ _ he;have dc:∀ {i j:Nat},q8 all i j -> (∀ o e,all[i]? = some o -> e ∈ o.after.toList -> Region.binds .any e=true -> listed.getD e.on false=true) -> listed.getD j false=true:=by
     intro i j hr
     induction hr with
     | one h1 h2 h3 h4 => intro hi; rw [<-h4]; exact hi _ _ h1 h2 h3
     | more h1 h2 h3 h4 ih => intro hi; exact ih fun o e g1 g2 g3 => hDC _ o g1 (hi _ _ h1 h2 h3) e g2 g3
    have h4:=dc hr fun o' e g1 g2 g3 => by
     have:o'=o:=by
      have e1:ops[i]? = some o':=by rw [hops]; simpa using g1
      rw [h2] at e1; injection e1 with e1; exact e1.symm
     subst this;exact h3 e (by simpa using g2) g3
    rw [F0 h5] at h4
    cases h4
   exact he
  have mf:∀ X,∃ δ ob,J8 std T cs H (X i) all i o s=some (δ,ob,f)/\b5 P C.K ob/\∃ τ' obs',F2 std T cs H X all (L1 ++ L2) (s.app δ)=some (τ',obs',fs1 ++ fs2)/\b5 P C.K obs'/\∀ a' w',b4 C τ' a' w' -> wpList P ops Q (all.drop n0) a' w':=by
   intro X;obtain ⟨τ,obs,e1,e2,e3⟩:=hs X;obtain ⟨δ,ob,g1,τ',obs',g2,g3,g4⟩:=cF (P:=P) e1 hlen hNM hF hcomm;exact ⟨δ,ob,g1,(g4 e2).1,τ',obs',g2,(g4 e2).2,fun a' w' hf => e3 a' w' (hf.alike g3)⟩
  have hsrt:(L1 ++ L2).Pairwise (fun x y => x.1 < y.1):=hsr.sublist (List.Sublist.append_left (List.sublist_cons_self _ _) _);have hnot:∀ x ∈ L1 ++ L2,x.1 ≠ i:=by
   intro x hx;rw [List.pairwise_append] at hsr;obtain ⟨p1,p2,p3⟩:=hsr
   rcases List.mem_append.1 hx with hx | hx
   .have:=p3 x hx (i,o) (by simp); simp only at this; omega
   have:=(List.pairwise_cons.1 p2).1 x hx; simp only at this; omega
  have key:=iG (C:=C) (K:=fun a' w' => wpAny P .any ops Q (n + (ops.size - n0)) (listed.setIfInBounds i true) a' w') (Q:=Q) (cs:=cs) (i:=i) (o:=o) hT hH hio hops h (fun x => by
   obtain ⟨δ,ob,g1,g2,_⟩:=mf (fun _ => x);exact ⟨_,g1,g2⟩) (fun x r a' w' hr hf => by
   have hfo:=R6 hr;obtain ⟨δ,ob,f'⟩:=r;obtain ⟨δ0,ob0,g0,_⟩:=mf (fun _ => x);rw [hr] at g0;injection g0 with g0; injection g0 with q1 q2; injection q2 with q2 q3
   subst q1; subst q2; subst q3;have hinF:∀ g ∈ fs1 ++ fs2,g ∈ fs1 ++ f' :: fs2:=fun g hg => by
    rcases List.mem_append.1 hg with hg | hg
    .exact List.mem_append_left _ hg
    exact List.mem_append_right _ (List.mem_cons_of_mem _ hg)
   obtain ⟨n1,n2⟩:=cV hfo (gs:=fs1 ++ fs2) hNM (by simp) hinF (fun g hg => by
    rcases List.mem_append.1 hg with hg | hg
    .have:=hcomm g hg
     simp only [eQ,Bool.and_eq_true] at this;exact this.1.1.1.1.1.1.1.1.1
    exact (List.pairwise_cons.1 (List.pairwise_append.1 hF).2.1).1 g hg)
   refine tq hT hops htb htz hH hz hze hz4 n (L1 ++ L2) (fs1 ++ fs2) (listed.setIfInBounds i true) (s.app δ) a' w' ?_ hf n2 ?_ ?_ ?_ hsrt ?_ ?_ (fun k hk hk' => by rw [getD_set_ne true (by omega)]; exact hZ k hk hk') ?_ (by simpa using hsz) ?_ ?_
   .simp at hn ⊢; omega
   .exact hF.sublist (List.Sublist.append_left (List.sublist_cons_self _ _) _)
   .refine ⟨?_,hP1⟩
    have:=hP.1;simp at this ⊢; omega
   .intro k ok hk hu e he hb
    by_cases hki:k=i
    .subst hki
     have:ok=o:=by
      have e1:ops[k]? = some ok:=by rw [hops]; simpa using hk
      rw [h2] at e1; injection e1 with e1; exact e1.symm
     subst this;have hl:=h3 e (by simpa using he) hb
     by_cases hei:e.on=k
     .have:=hE (k,ok) hin e he hb
      simp only at this; omega
     rw [getD_set_ne false (fun e' => hei e'.symm)]; exact hl
    rw [getD_set_ne false (fun e' => hki e'.symm)] at hu;have hl:=hDC k ok hk hu e he hb
    by_cases hei:e.on=i
    .rw [hei] at hl
     have h5:=(hL (i,o) hin).2;simp only at h5;rw [F0 h5] at hl; cases hl
    rw [getD_set_ne false (fun e' => hei e'.symm)]; exact hl
   .intro x' hx
    have hx':x' ∈ L1 ++ (i,o) :: L2:=by
     rcases List.mem_append.1 hx with hx | hx
     .exact List.mem_append_left _ hx
     exact List.mem_append_right _ (List.mem_cons_of_mem _ hx)
    obtain ⟨e1,e2⟩:=hL x' hx';refine ⟨e1,?_⟩;rw [getD_set_ne true (fun e => hnot x' hx e.symm)];exact e2
   .intro k ok hkn hk hu
    by_cases hki:k=i
    .subst hki
     have hlt:k < listed.size:=by rw [hsz]; exact (Array.getElem?_eq_some_iff.1 h2).1
     simp [Array.getD_eq_getD_getElem?,hlt] at hu
    rw [getD_set_ne true (fun e => hki e.symm)] at hu;have:=hA k ok hkn hk hu
    rcases List.mem_append.1 this with hx | hx
    .exact List.mem_append_left _ hx
    rcases List.mem_cons.1 hx with hx | hx
    .injection hx with hx; exact absurd hx hki
    exact List.mem_append_right _ hx
   .intro x' hx
    refine hLn x' ?_
    rcases List.mem_append.1 hx with hx | hx
    .exact List.mem_append_left _ hx
    exact List.mem_append_right _ (List.mem_cons_of_mem _ hx)
   .intro x' hx
    refine hE x' ?_
    rcases List.mem_append.1 hx with hx | hx
    .exact List.mem_append_left _ hx
    exact List.mem_append_right _ (List.mem_cons_of_mem _ hx)
   intro X;obtain ⟨Y,hY,hYX⟩:∃ Y:Nat -> f9,Y i=x/\∀ j,j ≠ i -> Y j=X j:=⟨fun j => if j=i then x else X j,by simp,fun j hj => by simp [hj]⟩
   obtain ⟨δ1,ob1,g1,_,τ',obs',g2,g3,g4⟩:=mf Y;rw [hY,hr] at g1;injection g1 with g1; injection g1 with q1 _
   subst q1;rw [bB _ _ (fun x' hx => hYX x'.1 (hnot x' hx))] at g2;exact ⟨τ',obs',g2,g3,g4⟩)
  unfold wpOp;simp only [h2]
  by_cases hw:Region.wanted o (yielded ops a.tmps)=true
  .rw [if_pos hw] at key ⊢
   exact .inl key
  rw [if_neg hw] at key ⊢;exact key
def eZ (all:List Oper) (n0:Nat):Bool:=Nat.ble n0 all.length && (V7 (j4 0 all) && (List.range all.length).all fun k => Nat.blt k n0 || (List.range k).all fun j => co (R5 all []) k j)
theorem lg {s:St} {a:Act} {w:World} {all:List Oper} (n0:Nat) (H:jh) (hH:aQ C P all H) (hT:j9 P T) (kp km:List Nat) (cs:List (Nat × CS)) (h:b4 C s a w) (hgs:s.gs=[]) (fs:List B9) (hD:Z6 (all.take n0) fs=true) (hZ:eZ all n0=true) (hlen:(all.take n0).length=fs.length)
  {R:Alg -> (Nat -> f9) -> St × List Ob}
  (hex:∀ A X,(F2 A T cs H X all (j4 0 (all.take n0)) s).map (fun r => ((r.1.keep kp km,r.2.1),r.2.2))=some (R A X,fs)) (hob:∀ X,b5 P C.K (R std X).2) (hQ:∀ X a' w',b4 C (R std X).1 a' w' -> wpList P all.toArray Q (all.drop n0) a' w'):wpAny P .any all.toArray Q all.toArray.size (Array.replicate all.toArray.size false) a { w with drawn:=w.drawn + 1 }:=by
 simp only [Z6,Bool.and_eq_true] at hD;obtain ⟨⟨d1,d2⟩,d3⟩:=hD;simp only [eZ,Bool.and_eq_true,Nat.ble_eq] at hZ;obtain ⟨hn0,hZe,hZ⟩:=hZ;have hf:b4 C s a { w with drawn:=w.drawn + 1 }:=h.world (fun _ _ _ => rfl) (fun _ _ _ _ _ => rfl) ⟨h.chg.os,h.chg.tape,h.chg.output,h.chg.size,h.chg.block⟩ (fun _ _ _ hc _ => hc) (fun _ _ h _ => h);have hnl:∀ (l:List Oper) (i:Nat),(j4 i l).length=l.length:=by
  intro l
  induction l with
  | nil => intro i; rfl
  | cons o l ih => intro i; simp [j4,ih]
 have htk:(all.take n0).length=n0:=by simp; omega
 have hsz:all.toArray.size=(j4 0 (all.take n0)).length + (all.toArray.size - n0):=by rw [hnl,htk]; simp; omega
 have hgt:∀ {k o},(all.take n0)[k]? = some o -> all[k]? = some o/\k < n0:=by
  intro k o hk;have hlt:=(List.getElem?_eq_some_iff.1 hk).1;rw [htk] at hlt;rw [List.getElem?_take,if_pos hlt] at hk;exact ⟨hk,hlt⟩
 have hlst:∀ k (b:Bool),k < all.length -> (Array.replicate all.toArray.size false).getD k b=false:=by
  intro k b hk;have:k < all.toArray.size:=by simpa using hk
  simp [Array.getD_eq_getD_getElem?,hk]
 have hmk:∀ i j,co (R5 (all.take n0) []) i j=true -> q8 all i j:=by
  intro i j hij;have:=aG (all:=all.take n0) (l:=all.take n0) (tb:=[]) rfl (fun i j h => by simp at h) i j hij;have conv:∀ {i j},q8 (all.take n0) i j -> q8 all i j:=by
   intro i j hw
   induction hw with
   | one h1 h2 h3 h4 => exact .one (hgt h1).1 h2 h3 h4
   | more h1 h2 h3 h4 ih => exact .more (hgt h1).1 h2 h3 ih
  exact conv this
 have ed:∀ (L:List (Nat × Oper)),V7 L=true -> ∀ x ∈ L,∀ e ∈ x.2.after.toList,Region.binds .any e=true -> e.on < x.1:=by
  intro L
  induction L with
  | nil => intro _ x hx; cases hx
  | cons y L ih =>
   obtain ⟨i,o⟩:=y;intro hL x hx e he hb;simp only [V7,Bool.and_eq_true] at hL
   rcases List.mem_cons.1 hx with rfl | hx
   .have:=List.all_eq_true.1 hL.1 e he
    simpa [hb] using this
   exact ih hL.2 x hx e he hb
 have e0:all.toArray.size=(Array.replicate all.toArray.size false).size:=by simp
 rw [show wpAny P .any all.toArray Q all.toArray.size=wpAny P .any all.toArray Q ((j4 0 (all.take n0)).length + (all.toArray.size - n0)) by rw [<-hsz]];refine tq (cs:=cs) (all:=all) (tb:=R5 (all.take n0) []) (tz:=R5 all []) hT rfl hmk (aG (all:=all) (l:=all) (tb:=[]) rfl (fun i j h => by simp at h)) hH (n0:=n0) (fun k hk hk' j hj => ?_) (fun k o hk e he hb => ?_) (by simpa using hn0) _ (j4 0 (all.take n0)) fs _ s a _ rfl hf (fun t p v hl => by rw [hgs] at hl; cases hl) ?_ ⟨by rw [hnl]; exact hlen,d1⟩ ?_ (K8 _ 0) ?_ ?_ ?_ ?_ ?_ ?_ ?_
 .have:=List.all_eq_true.1 hZ k (List.mem_range.2 (by simpa using hk'))
  simp only [Bool.or_eq_true,Nat.blt_eq] at this
  rcases this with h | h
  .omega
  exact List.all_eq_true.1 h j (List.mem_range.2 hj)
 .have:=J6 (i:=0) (l:=all) (k:=k) (o:=o) (by simpa using hk)
  rw [Nat.zero_add] at this;exact ed _ hZe (k,o) this e he hb
 .exact ej d3
 .intro k o hk hu
  exfalso
  rw [hlst k false (List.getElem?_eq_some_iff.1 hk).1] at hu
  cases hu
 .intro x hx
  obtain ⟨h1,h2⟩:=G5 hx;rw [Nat.sub_zero] at h2;obtain ⟨h3,_⟩:=hgt h2;exact ⟨by simpa using h3,hlst _ _ (List.getElem?_eq_some_iff.1 h3).1⟩
 .intro k o hkn hk _
  have hk':(all.take n0)[k]? = some o:=by rw [List.getElem?_take,if_pos hkn]; simpa using hk
  have:=J6 (i:=0) (l:=all.take n0) (k:=k) (o:=o) hk'
  rwa [Nat.zero_add] at this
 .intro k _ hk
  exact hlst _ _ (by simpa using hk)
 .intro x hx
  obtain ⟨h1,h2⟩:=G5 hx;rw [Nat.sub_zero] at h2;exact (hgt h2).2
 .simp
 .exact ed _ d2
 intro X;obtain ⟨r,hr,e⟩:=Option.map_eq_some_iff.1 (hex std X);obtain ⟨τ,obs,fs'⟩:=r;simp only [Prod.mk.injEq] at e;obtain ⟨e1,rfl⟩:=e;refine ⟨τ,obs,hr,?_,fun a' w' hf' => hQ X a' w' ?_⟩
 .have:=hob X; rw [<-e1] at this; exact this
 rw [<-e1]; exact hf'.keep kp km
theorem uP {s:St} {a:Act} {w:World} {id:Nat} {all:List Oper} (n0:Nat) (H:jh) (hH:aQ C P all H) (hm:P.follows .mixedOrders=true) (hT:j9 P T) (kp km:List Nat) (cs:List (Nat × CS)) (h:b4 C s a w) (hgs:s.gs=[]) (fs:List B9) (hD:Z6 (all.take n0) fs=true) (hZ:eZ all n0=true) (hlen:(all.take n0).length=fs.length)
  {R:Alg -> (Nat -> f9) -> St × List Ob}
  (hex:∀ A X,(F2 A T cs H X all (j4 0 (all.take n0)) s).map (fun r => ((r.1.keep kp km,r.2.1),r.2.2))=some (R A X,fs)) (hob:∀ X,b5 P C.K (R std X).2) (hQ:∀ X a' w',b4 C (R std X).1 a' w' -> wpList P all.toArray Q (all.drop n0) a' w'):(Code.region id all.toArray true).wp P Q a w:=
 wp_region_any hm (lg n0 H hH hT kp km cs h hgs fs hD hZ hlen hex hob hQ)
theorem ld {s:St} {a:Act} {w:World} {id:Nat} {all:List Oper} {B:Alg} (hB:B=std) (n0:Nat) (H:jh) (hH:aQ C P all H) (hm:P.follows .mixedOrders=true) (hT:j9 P T) (kp km:List Nat) (cs:List (Nat × CS)) (h:b4 C s a w) (hgs:s.gs=[]) (fs:List B9) (hD:Z6 (all.take n0) fs=true) (hZ:eZ all n0=true) (hlen:(all.take n0).length=fs.length)
  {R:Alg -> (Nat -> f9) -> St × List Ob}
  (hex:∀ A X,(F2 A T cs H X all (j4 0 (all.take n0)) s).map (fun r => ((r.1.keep kp km,r.2.1),r.2.2))=some (R A X,fs)) (hob:∀ X,b5 P C.K (R B X).2) (hQ:∀ X a' w',b4 C (R B X).1 a' w' -> wpList P all.toArray Q (all.drop n0) a' w'):(Code.region id all.toArray true).wp P Q a w:=by
 subst hB;exact uP n0 H hH hm hT kp km cs h hgs fs hD hZ hlen hex hob hQ
end
section
variable {C:Cx} {P:Program} {Q:Exit -> Act -> World -> Prop} {T:List (Nat × TI)} {s:St} {a:Act} {w:World} {B:Alg}
theorem d3 {id:Nat} {all:List Oper} {R:Alg -> (Nat -> f9) -> St × List Ob} {fs:List B9} (n0:Nat) (hB:B=std) (hT:j9 P T) (kp km:List Nat) (cs:List (Nat × CS)) (h:b4 C s a w) (hQ:∀ X a' w',b4 C (R B X).1 a' w' -> wpList P all.toArray Q (all.drop n0) a' w') (hm:P.follows .mixedOrders=true:=by kernel_rfl) (hgs:s.gs=[]:=by rfl)
  (hex:∀ A X,(F2 A T cs none X all (j4 0 (all.take n0)) s).map (fun r => ((r.1.keep kp km,r.2.1),r.2.2))=some (R A X,fs):=by intro A X; conv => lhs; cbv) (hD:Z6 (all.take n0) fs=true:=by kernel_rfl) (hZ:eZ all n0=true:=by kernel_rfl) (hlen:(all.take n0).length=fs.length:=by rfl) (hob:∀ X,b5 P C.K (R B X).2:=by
   intro X; subst hB
   first
   | exact trivial
   | (simp only [b5,Ob.holds,BE.den]<;>and_intros<;>(repeat first | trivial | rfl | exact O1 | exact O2 | exact O3 | exact (fun _ _ => by kernel_rfl) | exact O1 _ _ _ rfl | exact O2 _ _ _ rfl | refine ⟨?_,?_⟩ | intro h | decide | omega)<;>done)
   | (simp [b5,Ob.holds,BE.den,std,a8,o9]<;>omega)):(Code.region id all.toArray true).wp P Q a w:=ld hB n0 none G2 hm hT kp km cs h hgs fs hD hZ hlen hex hob hQ
end
theorem C3 {P:Program} {Q:Exit -> Act -> World -> Prop} {c:Code} {n:Nat} {a:Act} {w:World} (h:c.wp P (Exit.then (Code.rounds P c Q n) Q) a w):Code.rounds P c Q (n + 1) a w:=h
theorem i4 {P:Program} {Q:Exit -> Act -> World -> Prop} {c:Code} {n:Nat} {a:Act} {w:World} (h:c.wp P (Exit.then (Code.rounds P c Q n) Q) a w):Exit.then (Code.rounds P c Q (n + 1)) Q .normal a w:=h
inductive fE where
 | ret (r:CR)
 | thr (t:Nat) (v:AV) (sets:List (Nat × List AV))
def Eh (m:Nat -> Nat -> Prop) (w:World) (pre:List (Nat × Blk)) (e:Ending) (w':World):fE -> Prop
 | .ret r => e = .returned r.v.den/\Ok (mN m r.news) w' r.v/\fF m w w' pre r.sets r.news
 | .thr t v sets => e = .panicked [{ v:=.iface t v.den,recovered:=false }]/\Ok m w' v/\fF m w w' pre sets []
def cX (m:Nat -> Nat -> Prop) (w:World) (pre:List (Nat × Blk)) (out:f9 -> fE) (e:Ending) (w':World):Prop:=∃ x,Eh m w pre e w' (out x)
def M5 (P:Program) (f:FuncId) (args:List AV) (pre:List (Nat × Blk)) (out:f9 -> fE):Prop:=
 ∀ (m:Nat -> Nat -> Prop) (w:World),(∀ b o,m b o -> b < w.heap.size) -> (∀ v ∈ args,Ok m w v) -> J0 m w pre -> Calls P f (args.map AV.den).toArray w (cX m w pre out)
theorem M5.x {P:Program} {f:FuncId} {args:List AV} {pre:List (Nat × Blk)} {out:f9 -> fE} {res:f9 -> CR} (h:M5 P f args pre out) (e:∀ x,out x = .ret (res x)):u2 P f args pre res:=by
 intro m w h1 h2 h3;refine (h m w h1 h2 h3).mono ?_
 rintro e' w' ⟨x,hx⟩
 rw [e x] at hx;exact ⟨x,hx⟩
theorem u2.t {P:Program} {f:FuncId} {args:List AV} {pre:List (Nat × Blk)} {out:f9 -> fE} {res:f9 -> CR} (h:u2 P f args pre res) (e:∀ x,out x = .ret (res x)):M5 P f args pre out:=by
 intro m w h1 h2 h3;refine (h m w h1 h2 h3).mono ?_
 rintro e' w' ⟨x,hx⟩
 exact ⟨x,by rw [e x]; exact hx⟩
theorem M5.res {P:Program} {f:FuncId} {args:List AV} {pre:List (Nat × Blk)} {out out':f9 -> fE} (h:M5 P f args pre out) (e:∀ x,out x=out' x):M5 P f args pre out':=by
 have:out=out':=funext e;exact this ▸ h
theorem wP (m:Nat -> Nat -> Prop):mN m []=m:=by
 funext b o
 apply propext;exact ⟨fun h => h.resolve_right fun ⟨e,he,_⟩ => (by cases he),.inl⟩
def yk (pre':List (Nat × Blk)):fE -> fE -> Prop
 | .ret r,.ret r' => r'.sets.map (·.2)=r.sets.map (·.2)/\r'.sets.map (·.1)=pre'.map (·.1)/\Sim r.v r'.v/\r'.news.map (·.2)=r.news.map (·.2)
 | .thr t v sets,.thr t' v' sets' => t'=t/\Sim v v'/\sets'.map (·.2)=sets.map (·.2)/\sets'.map (·.1)=pre'.map (·.1)
 | _,_ => False
theorem M5.re {P:Program} {f:FuncId} {args args':List AV} {pre pre':List (Nat × Blk)} {out out':f9 -> fE} (h:M5 P f args pre out) (ha:D9 args' args) (hp:pre'.map (·.2)=pre.map (·.2)) (hr:∀ x,yk pre' (out x) (out' x)):M5 P f args' pre' out':=by
 intro m w h1 h2 h3;rw [ha.map];refine (h m w h1 (ha.ok h2) (h3.re hp.symm)).mono ?_
 rintro e w' ⟨x,hx⟩
 refine ⟨x,?_⟩;have hrx:=hr x
 cases ho:out x with
 | ret r =>
  cases ho':out' x with
  | ret r' =>
   rw [ho] at hx hrx;rw [ho'] at hrx;obtain ⟨r1,r2,r3,r4⟩:=hrx;obtain ⟨rfl,hok,hl⟩:=hx;have hm:mN m r'.news=mN m r.news:=by funext b o; simp only [mN,bD r4]
   exact ⟨by rw [r3.1],by rw [hm]; exact r3.2.2 _ _ hok,hl.re hp r1 r2 r4⟩
  | thr t v sets => rw [ho,ho'] at hrx; exact hrx.elim
 | thr t v sets =>
  cases ho':out' x with
  | ret r' => rw [ho,ho'] at hrx; exact hrx.elim
  | thr t' v' sets' =>
   rw [ho] at hx hrx;rw [ho'] at hrx;obtain ⟨rfl,r3,r1,r2⟩:=hrx;obtain ⟨rfl,hok,hl⟩:=hx;exact ⟨by rw [r3.1],r3.2.2 _ _ hok,hl.re hp r1 r2 rfl⟩
section
variable {P:Program} {T:List (Nat × TI)} {s:St} {a:Act} {w:World}
theorem By {Kk:Kn} (hT:j9 P T) {m:Nat -> Nat -> Prop} {w0:World} {pre:List (Nat × Blk)} (h:b4 ⟨m,w0,ats pre,[],Kk⟩ s a w) {fn:Func} {out:f9 -> fE} {rs:List ResultVar} (hfn:fn.results=rs.toArray) {r:List AV × List Ob} (hr:P8 T s rs=some r) (ho:b5 P Kk r.2)
  (x:f9) {cr:CR} (hout:out x = .ret cr) (ks:List Nat) (he:Sim (can (I6 r.1)) (can cr.v)) (hs:z6 s pre cr.sets) (hn:I8 s pre ks cr.news):bodyPost P fn (cX m w0 pre out) .ret a w/\bodyPost P fn (cX m w0 pre out) .normal a w:=by
 obtain ⟨h1,h2⟩:=cJ h hs hn;refine fg hT h rfl hfn hr ho fun hv => ⟨x,?_⟩
 rw [hout];exact ⟨by rw [<-F7 (I6 r.1),he.1,F7],(J9 _).2 (he.2.2 _ _ ((J9 _).1 (h2 _ hv))),h1⟩
theorem rO {Kk:Kn} {m:Nat -> Nat -> Prop} {w0:World} {pre:List (Nat × Blk)} (h:b4 ⟨m,w0,ats pre,[],Kk⟩ s a w) {fn:Func} {out:f9 -> fE} {t:Nat} {v v':AV} (hok:Ok (s.m ⟨m,w0,ats pre,[],Kk⟩) w v) (x:f9) {sets:List (Nat × List AV)} (hout:out x = .thr t v' sets) (hv:Sim v v') (hs:z6 s pre sets) :
  bodyPost P fn (cX m w0 pre out) (.panic [{ v:=.iface t v.den,recovered:=false }]) a w:=by
 obtain ⟨h1,h2⟩:=cJ h hs (ks:=[]) (news:=[]) trivial;refine ⟨h.defers,x,?_⟩;rw [hout];have:=h2 _ (hv.2.2 _ _ hok);rw [wP] at this;exact ⟨by rw [hv.1],this,h1⟩
end
section
variable {C:Cx} {P:Program} {Q:Exit -> Act -> World -> Prop} {T:List (Nat × TI)} {all:List Oper}
def xj (all:List Oper) (s:St) (o:Oper):Bool:=match o.guard with
 | none => true
 | some (j,want) => match (all[j]?).bind (·.dst) with
  | none => false
  | some g => match K3 s.gs g with
   | some _ => false
   | none => match look s.tmps g with
    | .bool .tt => want
    | .bool .ff => !want
    | _ => false
theorem zU {s:St} {a:Act} {w:World} {o:Oper} (h:b4 C s a w) (hg:xj all s o=true):Region.wanted o (yielded all.toArray a.tmps)=true:=by
 unfold xj at hg
 split at hg
 .rename_i hn; simp [Region.wanted,hn]
 rename_i j want hn
 split at hg
 .cases hg
 rename_i g hd
 split at hg
 .cases hg
 have hd':((all.toArray)[j]?).bind (·.dst)=some g:=by simpa using hd
 have hs:=h.slot g;have key:∀ b,a.tmps[g]? = some (.bool b) -> b=want -> Region.wanted o (yielded all.toArray a.tmps)=true:=by
  intro b hb hw;simp only [Region.wanted,hn,yielded,hd',Option.bind_some,hb,hw];simp
 split at hg
 .rename_i e; rw [e] at hs
  exact key _ (hs rfl).1 hg.symm
 .rename_i e; rw [e] at hs
  refine key _ (hs rfl).1 ?_
  cases want<;>first | rfl | cases hg
 cases hg
theorem fY {s:St} {a:Act} {w:World} {L rest:List Oper} {o:Oper} {c:Call} {g:Operand} {f:FuncId} {l r args args':List AV} (hL:L=o :: rest) (hg:xj all s o=true) (hop:o.op = .call c) (hcal:c.callee = .value g) (h:b4 C s a w) (hgv:val s [] g = .fn f l r) (hl:V0 s [] c.args.toList=some args) (hen:j3 P f)
  {pre:List (Nat × Blk)} {out:f9 -> fE} (hsp:M5 P f args' pre out) (hsim:D9 (l ++ args ++ r) args') (hpre:∀ e ∈ pre,f5 s.mem e.1=some e.2) (hnd:cE pre=true) (hd:ip s o.dst=true)
  (K:∀ x w',match out x with
   | .ret cr => ∀ a',b4 C ((s.eff (.sets (upd pre cr.sets ++ cr.news))).put o.dst cr.v) a' w' -> wpList P all.toArray Q rest a' w'
   | .thr t v sets => b4 C (s.eff (.sets (upd pre sets))) a w' -> Ok ((s.eff (.sets (upd pre sets))).m C) w' v -> Q (.panic [{ v:=.iface t v.den,recovered:=false }]) a w'):wpList P all.toArray Q L a w:=by
 subst hL;unfold wpList;rw [if_pos (zU h hg)];refine .inl ?_;obtain ⟨hrun,hok⟩:=cu hop hcal h hgv hl hen;have hdist:=V4 h hnd hpre;unfold Oper.wp;rw [hrun];simp only [Oper.upon];have:=hsp (s.m C) w (nB h) (hsim.ok hok) ⟨fun e he => (h.mem _ _ (hpre e he)).1,fun e he => (h.mem _ _ (hpre e he)).2.1,fun e he o => .inr (.inl ⟨e.1,e.2,hpre e he,rfl⟩),hdist⟩;rw [<-hsim.map] at this;refine this.mono ?_
 rintro e w' ⟨x,hx⟩
 have hK:=K x w'
 cases ho:out x with
 | ret cr =>
  rw [ho] at hx hK;obtain ⟨rfl,g1,g2⟩:=hx;obtain ⟨f1,f2⟩:=h.called hdist hpre g2;refine hK _ (f1.put o.dst (fun t ht => ?_) cr.v (fun _ => f2 _ g1) _ fun _ => rfl);rw [kX]; exact gm hd t ht
 | thr t v sets =>
  rw [ho] at hx hK;obtain ⟨rfl,g1,g2⟩:=hx;obtain ⟨f1,f2⟩:=h.called hdist hpre g2;rw [List.append_nil] at f1 f2;exact hK f1 (f2 _ (by rw [wP]; exact g1))
end
end Go.Proofs.YtodelmejfpkicaaGreat.Sym
namespace Go.Proofs.YtodelmejfpkicaaGreat.Sym
open Go Go.RowKit
structure i6 where
 kind:Int
 lab:Lab
 key:Int
 hi:Int
 val:ByteArray
 most:Int
 pA:Option Addr
 pn:Nat
 pc:Nat
 pf:Nat -> Int
 x1:Int
 x2:Int
 y1:Int
 y2:Int
 how:Int
 bucket:Int
 budget:Int
abbrev CX (J:i6):List AV:=[.int .i64 J.kind,.int .i64 J.lab.len,.int .u64 J.lab.bits,.int .u64 J.key,.int .u64 J.hi,.str J.val,.int .i64 J.most,.sl none J.pA J.pn J.pc 1 (fun i => [.int .i64 (J.pf i)]),.int .u32 J.x1,.int .u32 J.x2,.int .u32 J.y1,.int .u32 J.y2,.int .i64 J.how,.int .i64 J.bucket,.int .i64 J.budget]
abbrev U2 (J:i6):AV:=.agg (CX J)
abbrev C0 (J:i6) (A:Option Addr) (c:Nat) (p:Pst):List AV:=[.int .i64 J.kind,.int .i64 J.lab.len,.int .u64 J.lab.bits,.int .u64 J.key,.int .u64 J.hi,.str J.val,.int .i64 J.most,.sl none J.pA J.pn J.pc 1 (fun i => [.int .i64 (J.pf i)]),.int .u32 J.x1,.int .u32 J.x2,.int .u32 J.y1,.int .u32 J.y2,.int .i64 J.how,.int .i64 J.bucket,.int .i64 J.budget,
 .sl none A p.n c 8 (fun j => R8 (p.g j)),.int .i64 p.note.code,.bool (.v p.note.had),.str p.note.val,.sl none none 0 0 2 (fun _ => []),.int .u64 0,.bool .ff]
def lI.abs (s:lI):Rsl:=⟨s.code,s.had,s.val,b7 s.f s.n,s.key,s.more⟩
def u0.absQ (q:u0):Wq:=⟨q.kind,q.lab,q.ver,q.x.r.abs,q.s.abs⟩
def wqA (x:f9) (w:Wq):u0:=⟨w.kind,w.lab,w.ver,⟨x.A 1,x.c 1,w.r.rn⟩,⟨w.res.code,w.res.had,w.res.val,x.A 2,w.res.items.length,x.c 2,itF w.res.items,w.res.key,w.res.more⟩⟩
theorem jo (A:Option Addr) (n c:Nat) (f:Nat -> Itm):Sim (.sl none A n c 2 (fun i => itC (f i))) (.sl none A (b7 f n).length c 2 (fun i => itC (itF (b7 f n) i))):=
 Sim.resl (i3 f n).symm fun t ht => by rw [i3] at ht; rw [s9 f n t ht]
theorem yu (q:u0) (x:f9) (h1:x.A 1=q.x.A) (h2:x.c 1=q.x.c) (h3:x.A 2=q.s.A) (h4:x.c 2=q.s.c):Sim (B5 q) (B5 (wqA x q.absQ)):=by
 unfold wqA;simp only [h1,h2,h3,h4];exact Sim.agg ⟨zr,zr,zr,zr,zr,jo _ _ _ _,zr,zr,zr,zr,zr,zr,jo _ _ _ _,zr,zr,trivial⟩
def gV {α : Type} (k0:Nat) (J:i6) (enc:α -> AV) (r:Rs α) (x:f9):fE:=match r with
 | .ok a p => .ret ⟨enc a,[(k0,C0 J (x.A 0) (x.c 0) p)],[]⟩
 | .stop w p => .thr 40 (B5 (wqA x w)) [(k0,C0 J (x.A 0) (x.c 0) p)]
theorem zh {α : Type} (k0 b:Nat) (J:i6) (enc:α -> AV) (r:Rs α) (x:f9) (t:Nat) (cs:List AV):yk [(k0,⟨b,t,cs⟩)] (gV 0 J enc r x) (gV k0 J enc r x):=by
 cases r with
 | ok a p => exact ⟨rfl,rfl,zr,rfl⟩
 | stop w p => exact ⟨rfl,zr,rfl,rfl⟩
structure k8 (J:i6):Prop where
 lo:-1000000<=J.budget
 hi:J.budget<=1000000
 lab:U64 J.lab.bits
 key:U64 J.key
 hik:U64 J.hi
abbrev i7:AV:=.tup []
def B7 {α : Type} (f:FuncId) (k0 b:Nat) (J:i6) (A:Option Addr) (c:Nat) (p:Pst) (args:List AV) (enc:α -> AV) (r:Rs α):Prop:=
 M5 Tryz.prog f (.ptr k0 b 0 :: args) [(k0,⟨b,166,C0 J A c p⟩)] (fun x => gV k0 J enc r x)
theorem B7.ok {α : Type} {f:FuncId} {k0 b:Nat} {J:i6} {A:Option Addr} {c:Nat} {p q:Pst} {args:List AV} {enc:α -> AV} {r:Rs α} {a:α} (h:B7 f k0 b J A c p args enc r) (e:r = .ok a q) :
  u2 Tryz.prog f (.ptr k0 b 0 :: args) [(k0,⟨b,166,C0 J A c p⟩)] (fun x => ⟨enc a,[(k0,C0 J (x.A 0) (x.c 0) q)],[]⟩):=by
 subst e;exact M5.x h fun _ => rfl
theorem B7.stop {α : Type} {f:FuncId} {k0 b:Nat} {J:i6} {A:Option Addr} {c:Nat} {p q:Pst} {args:List AV} {enc:α -> AV} {r:Rs α} {w:Wq} (h:B7 f k0 b J A c p args enc r) (e:r = .stop w q) :
  M5 Tryz.prog f (.ptr k0 b 0 :: args) [(k0,⟨b,166,C0 J A c p⟩)] (fun x => .thr 40 (B5 (wqA x w)) [(k0,C0 J (x.A 0) (x.c 0) q)]):=by
 subst e;exact h
theorem B7.re {α : Type} {f:FuncId} {k0 b:Nat} {J:i6} {A:Option Addr} {c:Nat} {p:Pst} {args args':List AV} {enc:α -> AV} {r:Rs α} (h:B7 f 0 b J A c p args enc r) (ha:D9 args' args):B7 f k0 b J A c p args' enc r:=
 M5.re h ⟨Sim.ptr,ha⟩ rfl fun x => zh _ _ _ _ _ _ _ _
section
variable {P:Program} {T:List (Nat × TI)} {s:St} {a:Act} {w:World} {α : Type} {Kk:Kn} {m:Nat -> Nat -> Prop} {w0:World} {b k0 ty:Nat} {cs:List AV} {fn:Func} {enc:α -> AV} {J:i6} {r:Rs α}
theorem ER (h:b4 ⟨m,w0,ats [(k0,⟨b,ty,cs⟩)],[],Kk⟩ s a w) {x:f9} {wq:Wq} {q:Pst} (hok:Ok (s.m ⟨m,w0,ats [(k0,⟨b,ty,cs⟩)],[],Kk⟩) w (B5 (wqA x wq))) (hr:r = .stop wq q) (hs:z6 s [(k0,⟨b,ty,cs⟩)] [(k0,C0 J (x.A 0) (x.c 0) q)]) :
  bodyPost P fn (cX m w0 [(k0,⟨b,ty,cs⟩)] (fun x => gV k0 J enc r x)) (.panic [{ v:=.iface 40 (B5 (wqA x wq)).den,recovered:=false }]) a w:=by
 subst hr;exact rO h hok x rfl (zr) hs
theorem Cv (hT:j9 P T) (h:b4 ⟨m,w0,ats [(k0,⟨b,ty,cs⟩)],[],Kk⟩ s a w) {rs:List ResultVar} (hfn:fn.results=rs.toArray) {rr:List AV × List Ob} (hrr:P8 T s rs=some rr) (ho:b5 P Kk rr.2)
  {v:α} {q:Pst} (A:Option Addr) (c:Nat) (hr:r = .ok v q) (he:Sim (can (I6 rr.1)) (can (enc v))) (hs:z6 s [(k0,⟨b,ty,cs⟩)] [(k0,C0 J A c q)]) :
  bodyPost P fn (cX m w0 [(k0,⟨b,ty,cs⟩)] (fun x => gV k0 J enc r x)) .ret a w/\bodyPost P fn (cX m w0 [(k0,⟨b,ty,cs⟩)] (fun x => gV k0 J enc r x)) .normal a w:=by
 subst hr;exact By hT h hfn hrr ho ⟨0,fun _ => A,fun _ => c,fun _ => .empty⟩ rfl [] he hs trivial
end
theorem wu {m:Nat -> Nat -> Prop} {w:World} {t:Nat} {v:AV} (h:Ok m w (.ifc t v)):Ok m w v:=by cases h with | ifc _ _ h => exact h
abbrev xf:AV:=.agg [.int .i64 2,.sl none none 0 0 2 (fun _ => []),.int .i64 (-1),.int .u64 0,.int .u64 0]
def dU (n:Nat) (f:Nat -> Int) (v:Int):Bool:=(List.range n).any fun i => decide (f i=v)
theorem AQ {n:Nat} {f:Nat -> Int} {v:Int} {i:Nat} (hi:i < n) (h:f i=v):dU n f v=true:=List.any_eq_true.2 ⟨i,List.mem_range.2 hi,by simp [h]⟩
theorem AP {n:Nat} {f:Nat -> Int} {v:Int} (h:∀ j,j < n -> f j ≠ v):dU n f v=false:=by
 rw [Bool.eq_false_iff];intro ha;obtain ⟨i,hi,he⟩:=List.any_eq_true.1 ha;exact h i (List.mem_range.1 hi) (of_decide_eq_true he)
theorem BT (f:Nat -> Int) (v:Int):dU 1 f v=decide (f 0=v):=by
 show (decide (f 0=v) || false)=_
 exact Bool.or_false _
theorem FM (f:Nat -> Int) (v:Int):dU 2 f v=(decide (f 0=v) || decide (f 1=v)):=by
 show (decide (f 0=v) || (decide (f 1=v) || false))=_
 rw [Bool.or_false]
theorem xI (a b:Int):decide (a=b)=decide (b=a):=decide_eq_decide.2 ⟨Eq.symm,Eq.symm⟩
section
variable {P:Program} {T:List (Nat × TI)} {s:St} {a:Act} {w:World} {α : Type} {Kk:Kn} {m:Nat -> Nat -> Prop} {w0:World} {b k0 ty:Nat} {cs:List AV} {fn:Func} {enc:α -> AV} {J:i6} {r:Rs α} {rs:List ResultVar} {rr:List AV × List Ob} {B:Alg}
theorem B7.two {f:FuncId} {A:Option Addr} {c:Nat} {p:Pst} {args:List AV} (h:B7 f k0 b J A c p args enc r) (hf:Fro p r) (hp:i5 p) (hn:p.n<=1000000) :
  (∃ wq q,r = .stop wq q/\M5 Tryz.prog f (.ptr k0 b 0 :: args) [(k0,⟨b,166,C0 J A c p⟩)] (fun x => .thr 40 (B5 (wqA x wq)) [(k0,C0 J (x.A 0) (x.c 0) q)])) ∨
  ∃ v q,r = .ok v q/\Suf p q/\i5 q/\q.n<=1000000/\u2 Tryz.prog f (.ptr k0 b 0 :: args) [(k0,⟨b,166,C0 J A c p⟩)] (fun x => ⟨enc v,[(k0,C0 J (x.A 0) (x.c 0) q)],[]⟩):=by
 cases hr:r with
 | ok v q => have hs:=hf.of hr; exact .inr ⟨v,q,rfl,hs,hp.suf hs,Nat.le_trans hs.le hn,h.ok hr⟩
 | stop wq q => exact .inl ⟨wq,q,rfl,h.stop hr⟩
abbrev rc (J:i6) (v:AV) (q:Pst):CS:=.x fun x => ⟨v,[(0,C0 J (x.A 0) (x.c 0) q)],[]⟩
theorem thm (h:b4 ⟨m,w0,ats [(k0,⟨b,ty,cs⟩)],[],Kk⟩ s a w) {x:f9} {wq:Wq} {q:Pst} (hok:Ok (s.m ⟨m,w0,ats [(k0,⟨b,ty,cs⟩)],[],Kk⟩) w (B5 (wqA x wq))) (hr:r = .stop wq q) (hs:z6 s [(k0,⟨b,ty,cs⟩)] [(k0,C0 J (x.A 0) (x.c 0) q)]:=by exact ⟨rfl,⟨_,rfl,zl⟩,trivial⟩) :
  bodyPost P fn (cX m w0 [(k0,⟨b,ty,cs⟩)] (fun x => gV k0 J enc r x)) (.panic [{ v:=.iface 40 (B5 (wqA x wq)).den,recovered:=false }]) a w:=ER h hok hr hs
theorem rmm (hB:B=std) (hT:j9 P T) (h:b4 ⟨m,w0,ats [(k0,⟨b,ty,cs⟩)],[],Kk⟩ s a w) {v:α} {q:Pst} (A:Option Addr) (c:Nat) (hr0:r = .ok v q) (hfn:fn.results=rs.toArray:=by rfl) (hr:P8 T s rs=some rr:=by first | rfl | (conv => lhs; cbv)) (ho:b5 P Kk rr.2:=by first | exact trivial | (subst hB; simp [b5,Ob.holds]))
  (he:Sim (can (I6 rr.1)) (can (enc v)):=by subst hB; exact zr) (hs:z6 s [(k0,⟨b,ty,cs⟩)] [(k0,C0 J A c q)]:=by subst hB; exact ⟨rfl,⟨_,rfl,zl⟩,trivial⟩) :
  bodyPost P fn (cX m w0 [(k0,⟨b,ty,cs⟩)] (fun x => gV k0 J enc r x)) .ret a w/\bodyPost P fn (cX m w0 [(k0,⟨b,ty,cs⟩)] (fun x => gV k0 J enc r x)) .normal a w:=Cv hT h hfn hr ho A c hr0 he hs
end
section
variable {C:Cx} {P:Program} {Q:Exit -> Act -> World -> Prop} {T:List (Nat × TI)} {s:St} {a:Act} {w:World} {B:Alg} {f:FuncId} {k:Nat} {blk:Blk} {ty:Nat} {v:f9 -> AV} {sets:f9 -> List (Nat × List AV)} {args':List AV} {id:Nat} {all rest:List Oper} {R:Alg -> (Nat -> f9) -> St × List Ob} {fs:List B9} {o:Oper} {c:Call} {g:Operand} {l r args:(Nat -> f9) -> List AV}
theorem stp (i:Nat) (hB:B=std) (hT:j9 P T) (kp km:List Nat) (cs:List (Nat × CS)) (h:b4 C s a w) (hsp:M5 P f args' [(k,blk)] (fun x => .thr ty (v x) (sets x)))
  (K:∀ X x a w',b4 C ((R B X).1.eff (.sets (upd [(k,blk)] (sets x)))) a w' -> Ok (((R B X).1.eff (.sets (upd [(k,blk)] (sets x)))).m C) w' (v x) -> Q (.panic [{ v:=.iface ty (v x).den,recovered:=false }]) a w')
  (hex:∀ A X,(K5 A T cs X all (j4 0 (all.take i)) s).map (fun r => (r.1.keep kp km,r.2.1))=some (R A X):=by intro A X; conv => lhs; cbv) (hob:∀ X,b5 P C.K (R B X).2:=by
   intro X; subst hB
   first
   | exact trivial
   | (simp only [b5,Ob.holds,BE.den]<;>and_intros<;>(repeat first | trivial | rfl | exact O1 | exact O2 | exact O3 | exact (fun _ _ => by kernel_rfl) | exact O1 _ _ _ rfl | exact O2 _ _ _ rfl | refine ⟨?_,?_⟩ | intro h | decide | omega)<;>done)
   | (simp [b5,Ob.holds,BE.den,std,a8,o9]<;>omega))
  (hL:all.drop i=o :: rest:=by rfl) (hop:o.op = .call c:=by rfl) (hcal:c.callee = .value g:=by rfl) (hg:∀ X,xj all (R B X).1 o=true:=by intro X; rfl) (hgv:∀ X,val (R B X).1 [] g = .fn f (l X) (r X):=by intro X; rfl) (hl:∀ X,V0 (R B X).1 [] c.args.toList=some (args X):=by intro X; rfl) (hsim:∀ X,D9 (l X ++ args X ++ r X) args':=by intro X; subst hB; exact zl)
  (hpre:∀ X,f5 (R B X).1.mem k=some blk:=by intro X; rfl) (hd:∀ X,ip (R B X).1 o.dst=true:=by intro X; rfl) (hen:j3 P f:=by exact fun _ _ => by kernel_rfl):(Code.region id all.toArray false).wp P Q a w:=
 wp_region_lit (mb 0 i hB hT kp km cs h hex hob fun X a1 w1 hF => fY hL (hg X) hop hcal hF (hgv X) (hl X) hen hsp (hsim X) (fW (hpre X)) rfl (hd X) fun x w' hF hok => K X x _ w' hF hok)
theorem iZ (i:Nat) (hB:B=std) (hT:j9 P T) (kp km:List Nat) (cs:List (Nat × CS)) (h:b4 C s a w) (hsp:M5 P f args' [(k,blk)] (fun x => .thr ty (v x) (sets x)))
  (K:∀ X x a w',b4 C ((R B X).1.eff (.sets (upd [(k,blk)] (sets x)))) a w' -> Ok (((R B X).1.eff (.sets (upd [(k,blk)] (sets x)))).m C) w' (v x) -> Q (.panic [{ v:=.iface ty (v x).den,recovered:=false }]) a w')
  (hm:P.follows .mixedOrders=true:=by kernel_rfl) (hgs:s.gs=[]:=by rfl) (hex:∀ A X,(F2 A T cs none X all (j4 0 (all.take i)) s).map (fun r => ((r.1.keep kp km,r.2.1),r.2.2))=some (R A X,fs):=by intro A X; conv => lhs; cbv) (hD:Z6 (all.take i) fs=true:=by kernel_rfl) (hZ:eZ all i=true:=by kernel_rfl) (hlen:(all.take i).length=fs.length:=by rfl) (hob:∀ X,b5 P C.K (R B X).2:=by
   intro X; subst hB
   first
   | exact trivial
   | (simp only [b5,Ob.holds,BE.den]<;>and_intros<;>(repeat first | trivial | rfl | exact O1 | exact O2 | exact O3 | exact (fun _ _ => by kernel_rfl) | exact O1 _ _ _ rfl | exact O2 _ _ _ rfl | refine ⟨?_,?_⟩ | intro h | decide | omega)<;>done)
   | (simp [b5,Ob.holds,BE.den,std,a8,o9]<;>omega))
  (hL:all.drop i=o :: rest:=by rfl) (hop:o.op = .call c:=by rfl) (hcal:c.callee = .value g:=by rfl) (hg:∀ X,xj all (R B X).1 o=true:=by intro X; rfl) (hgv:∀ X,val (R B X).1 [] g = .fn f (l X) (r X):=by intro X; rfl) (hl:∀ X,V0 (R B X).1 [] c.args.toList=some (args X):=by intro X; rfl) (hsim:∀ X,D9 (l X ++ args X ++ r X) args':=by intro X; subst hB; exact zl)
  (hpre:∀ X,f5 (R B X).1.mem k=some blk:=by intro X; rfl) (hd:∀ X,ip (R B X).1 o.dst=true:=by intro X; rfl) (hen:j3 P f:=by exact fun _ _ => by kernel_rfl):(Code.region id all.toArray true).wp P Q a w:=
 ld hB i none G2 hm hT kp km cs h hgs fs hD hZ hlen hex hob fun X a1 w1 hF => fY hL (hg X) hop hcal hF (hgv X) (hl X) hen hsp (hsim X) (fW (hpre X)) rfl (hd X) fun x w' hF hok => K X x _ w' hF hok
end
theorem CB (l:Lab) (hL:isL l=true) (hb0:U64 l.bits) (h0:l.len ≠ 0):j5 Tryz.prog 173 [b6 l,.int .u64 ((2 ^ (64 - l.len.toNat):Nat):Int)] (fun _ => b6 (gU l)):=by
 intro m w hm hargs;obtain ⟨hl0,hl1,hl2⟩:=s7 hL;have e2:=rH hL hb0 h0;obtain ⟨bt,hbt⟩:=eqv (((2 ^ (64 - l.len.toNat):Nat):Int));rw [<-hbt] at hargs e2 ⊢;simp only [b6] at hargs;refine en 13 hm hargs Tryz.func173 fun B hB a0 hF => ?_
 refine wp_seq (rg hB a6 [1,2,4] [2,4] [] hF fun X0 a0 w1 hF => ?_);refine wp_seq (rg hB a6 [4] [4] [] hF fun X1 a0 w1 hF => ?_);refine wp_ret ((rsi hB a6 hF f4 (he:=?_)));subst hB;have e1:IntKind.i64.wrap (l.len - 1)=l.len - 1:=r8 (by omega) (by omega);refine Sim.agg ⟨?_,?_,trivial⟩
 .show Sim (.int .i64 (IntKind.i64.wrap (l.len - 1))) _
  rw [e1]; exact zr
 show Sim (.int .u64 (o9 .andNot .u64 l.bits bt)) _
 rw [e2]; exact zr
theorem zH (l:Lab) (hb0:U64 l.bits):j5 Tryz.prog 172 [b6 l,.fn 173 [] []] (fun _ => .tup [b6 (P5 l),.int .i64 (Q8 l)]):=by
 intro m w hm hargs;have SI:=gl l hb0;simp only [b6] at SI hargs ⊢;obtain ⟨il,hil⟩:=eqv (isL l);rw [<-hil] at SI;refine en 23 hm hargs Tryz.func172 fun B hB a0 hF => ?_
 refine wp_seq (rg hB a6 [1,2,4] [2,4] [] hF fun X0 a0 w1 hF => ?_);have O1:=SI;refine wp_seq (wp_block (wp_seq (rg hB a6 [6,1,2,4] [2,4] [(1,.r fun _ => .bool (.v il))] hF fun X1 a0 w1 hF => ?_)));apply a7 hF rfl<;>intro hb hF
 .have hilf:il=false:=by subst hB; cases il<;>first | rfl | (simp [std] at hb)
  have hE:Q8 l=1:=by unfold Q8; rw [<-hil,hilf]; rfl
  have hV:P5 l=⟨0,0⟩:=by unfold P5; rw [hE]; rfl
  refine wp_seq (rg hB a6 [4,5] [4] [] hF fun X2 a0 w1 hF => ?_);refine wp_ret ((rsi hB a6 hF f4 (he:=?_)));subst hB;rw [hV,hE];exact zr
 have hilt:il=true:=by subst hB; cases il<;>first | rfl | (simp [std] at hb)
 have hLt:isL l=true:=by rw [<-hil]; exact hilt
 obtain ⟨hl0,hl1,hl2⟩:=s7 hLt;refine wp_seq (rg hB a6 [11,1,2,4] [2,4] [] hF fun X3 a0 w1 hF => ?_);apply a7 hF rfl<;>intro hb hF
 .have h0:l.len=0:=by subst hB; simpa [std,a8] using hb
  have hE:Q8 l=7:=by unfold Q8; rw [<-hil,hilt,if_neg (by decide),if_pos h0]
  have hV:P5 l=⟨0,0⟩:=by unfold P5; rw [hE]; rfl
  refine wp_seq (rg hB a6 [4,5] [4] [] hF fun X4 a0 w1 hF => ?_);refine wp_ret ((rsi hB a6 hF f4 (he:=?_)));subst hB;rw [hV,hE];exact zr
 have h0:¬ l.len=0:=by subst hB; simpa [std,a8] using hb
 have hE:Q8 l=0:=by unfold Q8; rw [<-hil,hilt,if_neg (by decide),if_neg h0]
 have hV:P5 l=gU l:=by unfold P5; rw [hE]; rfl
 have SB:=BR (l.len - 1) (by omega) (by omega);rw [show 63 - (l.len - 1).toNat=64 - l.len.toNat by omega] at SB;have S1:=CB l hLt hb0 h0;simp only [b6] at S1;have e1:IntKind.i64.wrap (l.len - 1)=l.len - 1:=r8 (by omega) (by omega);rw [<-e1] at SB;obtain ⟨bt,hbt⟩:=eqv (((2 ^ (64 - l.len.toNat):Nat):Int));rw [<-hbt] at SB S1;obtain ⟨k,hk⟩:=eqv (gU l);rw [<-hk] at S1 hV;have O1:=SB;have O2:=S1;refine wp_skip (wp_seq (drg hB a6 [4,5] [4] [(5,.r fun _ => .int .u64 bt),(6,.r fun _ => .agg [.int .i64 k.len,.int .u64 k.bits])] hF fun X5 a0 w1 hF => ?_));refine wp_ret ((rsi hB a6 hF f4 (he:=?_)));subst hB;rw [hV,hE];exact zr
theorem BB (l:Lab) (hb0:U64 l.bits):j5 Tryz.prog 111 [b6 l] (fun _ => .tup [b6 (P5 l),.int .i64 (Q8 l)]):=by
 intro m w hm hargs;have SI:=zH l hb0;simp only [b6] at SI hargs ⊢;obtain ⟨k,hk⟩:=eqv (P5 l);rw [<-hk] at SI ⊢;obtain ⟨q,hq⟩:=eqv (Q8 l);rw [<-hq] at SI ⊢;refine en 8 hm hargs Tryz.func111 fun B hB a0 hF => ?_
 refine wp_seq (rg hB a6 [1,2] [1,2] [] hF fun X0 a0 w1 hF => ?_);have O1:=SI;refine wp_seq (rg hB a6 [2,3] [2] [(1,.r fun _ => .tup [.agg [.int .i64 k.len,.int .u64 k.bits],.int .i64 q])] hF fun X1 a0 w1 hF => ?_);exact wp_ret ((rsp hB a6 hF f4).1)
theorem vL (l:Lab) (hb0:U64 l.bits):j5 Tryz.prog 201 [b6 l] (fun _ => .tup [b6 (P5 l),.int .i64 (Q8 l)]):=by
 intro m w hm hargs;have SI:=gP l hb0;simp only [b6] at SI hargs ⊢;obtain ⟨il,hil⟩:=eqv (isL l);rw [<-hil] at SI;refine en 19 hm hargs Tryz.func201 fun B hB a0 hF => ?_
 refine wp_seq (rg hB a6 [1,2] [1,2] [] hF fun X0 a0 w1 hF => ?_);have O1:=SI;refine wp_seq (wp_seq (rg hB a6 [6,1,2] [1,2] [(1,.r fun _ => .bool (.v il))] hF fun X1 a0 w1 hF => ?_));apply a7 hF rfl<;>intro hb hF
 .have hilf:il=false:=by subst hB; cases il<;>first | rfl | (simp [std] at hb)
  have hE:Q8 l=1:=by unfold Q8; rw [<-hil,hilf]; rfl
  have hV:P5 l=⟨0,0⟩:=by unfold P5; rw [hE]; rfl
  refine wp_seq (rg hB a6 [2,3] [2] [] hF fun X2 a0 w1 hF => ?_);refine wp_ret ((rsi hB a6 hF f4 (he:=?_)));subst hB;rw [hV,hE];exact zr
 have hilt:il=true:=by subst hB; cases il<;>first | rfl | (simp [std] at hb)
 have hLt:isL l=true:=by rw [<-hil]; exact hilt
 obtain ⟨hl0,hl1,hl2⟩:=s7 hLt;refine wp_skip (wp_seq (wp_seq (rg hB a6 [10,1,2] [1,2] [] hF fun X3 a0 w1 hF => ?_)));apply a7 hF rfl<;>intro hb hF
 .have h0:l.len=0:=by subst hB; simpa [std,a8] using hb
  have hE:Q8 l=7:=by unfold Q8; rw [<-hil,hilt,if_neg (by decide),if_pos h0]
  have hV:P5 l=⟨0,0⟩:=by unfold P5; rw [hE]; rfl
  refine wp_seq (rg hB a6 [2,3] [2] [] hF fun X4 a0 w1 hF => ?_);refine wp_ret ((rsi hB a6 hF f4 (he:=?_)));subst hB;rw [hV,hE];exact zr
 have h0:¬ l.len=0:=by subst hB; simpa [std,a8] using hb
 have hE:Q8 l=0:=by unfold Q8; rw [<-hil,hilt,if_neg (by decide),if_neg h0]
 have hV:P5 l=gU l:=by unfold P5; rw [hE]; rfl
 have SD:=jp l hb0 hl0 hl1;simp only [b6] at SD;obtain ⟨d,hd⟩:=eqv (mkB (dg l.bits l.len.toNat));rw [<-hd] at SD;have hds:d.size=l.len.toNat:=by rw [hd,Q7]; exact dP _ (by omega)
 have hdx:unB (d.extract 0 (l.len - 1).toNat)=(J7 64 l.bits.toNat).take (l.len.toNat - 1):=by
  rw [hd,cG,aB,List.drop_zero]; unfold dg; rw [List.take_take]; congr 1; omega
 have hxs:(d.extract 0 (l.len - 1).toNat).size=l.len.toNat - 1:=by rw [ByteArray.size_extract]; omega
 have SO:=zj (d.extract 0 (l.len - 1).toNat) (fun x hx => by rw [hdx] at hx; exact ku x (List.mem_of_mem_take hx)) (by omega);have hk0:ofT (d.extract 0 (l.len - 1).toNat)=gU l:=by
  unfold ofT gU; rw [hdx,hxs,nv (gK hb0) (by omega)]; congr 1; omega
 rw [hk0] at SO;simp only [b6] at SO;have e1:IntKind.i64.wrap (l.len - 1)=l.len - 1:=r8 (by omega) (by omega);rw [<-e1] at SO;obtain ⟨k,hk⟩:=eqv (gU l);rw [<-hk] at SO hV;refine wp_skip (wp_seq ?_);refine drg hB a6 [2,3] [2] [(1,.r fun _ => .str d),(6,.r fun _ => .agg [.int .i64 k.len,.int .u64 k.bits])] hF (hob:=by intro X; subst hB; simp only [b5,Ob.holds,BE.den]<;>and_intros<;>repeat first | trivial | rfl | exact SD | exact SO | exact ⟨by decide,(show (0:Int)<=IntKind.i64.wrap (l.len - 1) by omega),(show IntKind.i64.wrap (l.len - 1)<=(d.size:Int) by omega)⟩ | exact (show (0:Int)<=IntKind.i64.wrap (l.len - 1) by omega) | exact (show IntKind.i64.wrap (l.len - 1)<=(d.size:Int) by omega) | exact (fun _ _ => by kernel_rfl) | refine ⟨?_,?_⟩ | intro h | exact Int.le_refl _ | decide | omega) fun X5 a0 w1 hF => ?_
 refine wp_ret ((rsi hB a6 hF f4 (he:=?_)));subst hB;rw [hV,hE];exact zr
theorem Da (A:Option Addr) (n c:Nat) (f:Nat -> Int) (v:Int):j5 Tryz.prog 175 [.sl none A n c 1 (fun i => [.int .i64 (f i)]),.int .i64 v] (fun x => .int .i64 (if dU n f v then (x.b:Int) else -1)):=by
 intro m w hm hargs;have hlen:=gX (hargs (.sl none A n c 1 (fun i => [.int .i64 (f i)])) (by simp));have hmx:maxLen=9223372036854775807:=rfl;refine en 19 hm hargs Tryz.func175 fun B hB a0 hF => ?_
 refine wp_seq (rg hB a6 [0,1] [] [] hF fun X0 a0 w1 hF => ?_);refine wp_seq (wp_seq (rg hB a6 [8,0,1,7] [] [] hF fun X1 a0 w1 hF => ?_));refine wp_block (l0 (ι:=Nat) (fun p => [(8,.int .i64 (p:Int))]) (fun p => []) (fun p => []) (fun p => p<=n/\∀ j,j < p -> f j ≠ v) (fun p => n - p) 0 ⟨Nat.zero_le _,fun i hi => absurd hi (Nat.not_lt_zero _)⟩ hF ?_)
 rintro i ⟨hi,hall⟩ a0 w1 hF
 try dsimp only at hi
 try dsimp only at hall
 refine wp_seq (rg hB a6 [9,0,1,7,8] [] [] hF fun X2 a0 w1 hF => ?_);refine wp_seq (a7 hF rfl (fun hb hF => ?_) (fun hb hF => ?_))
 .have hin:i < n:=by
   have:(i:Int) < (n:Int):=by subst hB; simpa [std,a8] using hb
   omega
  refine wp_skip (wp_seq (wp_block (wp_seq (rg hB a6 [0,1,5,7,8] [] [] hF fun X3 a0 w1 hF => ?_))));apply wp_seq;refine rg hB a6 [16,0,1,5,7,8] [] [] hF (hob:=by intro X; subst hB; simp only [b5,Ob.holds,BE.den]<;>and_intros<;>repeat first | trivial | rfl | exact (show (0:Int)<=(i:Int) by omega) | exact (show (i:Int) < (n:Int) by omega) | exact (fun _ _ => by kernel_rfl) | refine ⟨?_,?_⟩ | intro h | exact Int.le_refl _ | decide | omega) fun X4 a0 w1 hF => ?_
  apply a7 hF rfl<;>intro hb hF
  .have heq:f i=v:=by
    have:(v == f i)=true:=by subst hB; exact hb
    simpa using (beq_iff_eq.1 this).symm
   refine wp_seq (rg hB a6 [4] [] [] hF fun X5 a0 w1 hF => ?_);refine wp_ret ((rsp hB a6 hF (⟨i,fun _ => none,fun _ => 0,fun _ => .empty⟩) (he:=?_)).1);subst hB;rw [AQ hin heq]; rfl
  have hne:f i ≠ v:=by
   have:(v == f i)=false:=by subst hB; exact hb
   intro h; rw [h] at this; simp at this
  refine wp_skip (rg hB a6 [8,0,1,7] [] [] hF fun X6 a0 w1 hF => ?_);have e:B.arith .add .i64 (i:Int) 1=((i + 1:Nat):Int):=by subst hB; exact j2 (n:=n) hin (by omega)
  refine ⟨i + 1,⟨by omega,fun j hj => ?_⟩,by omega,by rw [<-e]; exact hF⟩
  by_cases hij:j=i
  .rw [hij]; exact hne
  exact hall j (by omega)
 have hout:i=n:=by
  have:¬ (i:Int) < (n:Int):=by subst hB; simpa [std,a8] using hb
  omega
 refine wp_exit (wp_seq (rg hB a6 [4] [] [] hF fun X7 a0 w1 hF => ?_));refine wp_ret ((rsp hB a6 hF f4 (he:=?_)).1);subst hB;rw [hout] at hall;rw [AP hall]; rfl
theorem ry (A:Option Addr) (n c:Nat) (f:Nat -> Int) (v:Int):j5 Tryz.prog 117 [.sl none A n c 1 (fun i => [.int .i64 (f i)]),.int .i64 v] (fun _ => .bool (.v (dU n f v))):=by
 intro m w hm hargs;have S0:=Da A n c f v;obtain ⟨q,hq⟩:=eqv (dU n f v);rw [<-hq] at S0 ⊢;have S:∀ x:f9,∃ z:Int,z=(if q=true then (x.b:Int) else -1):=fun x => ⟨_,rfl⟩
 refine en 9 hm hargs Tryz.func117 fun B hB a0 hF => ?_
 refine wp_seq (rg hB a6 [0,1] [] [] hF fun X0 a0 w1 hF => ?_);have O1:=S0;refine wp_seq (rg hB a6 [4] [] [(2,.r fun x => .int .i64 (if q=true then (x.b:Int) else -1))] hF fun X1 a0 w1 hF => ?_);refine wp_ret ((rsi hB a6 hF f4 (he:=?_)));subst hB;refine Sim.bool ?_
 show decide ((if q=true then (((X1 2).b:Nat):Int) else -1) ≥ 0)=q
 cases q
 .rfl
 simp
theorem Gz (g:l9) (A:Option Addr) (k:Int) (f:Nat -> Int) (h0:f 0=k):j5 Tryz.prog 163 [s5 g,.sl none A 1 1 1 (fun i => [.int .i64 (f i)])] (fun _ => .bool (.v (gk g k))):=by
 intro m w hm hargs;have S:=ry A 1 1 f g.x.r.kd;obtain ⟨q,hq⟩:=eqv (dU 1 f g.x.r.kd);rw [<-hq] at S;refine en 14 hm hargs Tryz.func163 fun B hB a0 hF => ?_
 refine wp_seq (rg hB a6 [1,2] [2] [] hF fun X0 a0 w1 hF => ?_);have O1:=S;refine wp_seq (rg hB a6 [4] [] [(7,.r fun _ => .bool (.v q))] hF fun X1 a0 w1 hF => ?_);refine wp_ret ((rsi hB a6 hF f4 (he:=?_)));subst hB;refine Sim.bool ?_
 show (if g.has=true then q else false)=_
 rw [hq,BT,h0]; unfold gk; simp only [xI g.x.r.kd]; cases g.has<;>rfl
theorem N8 (g:l9) (G:Option Nat) (A:Option Addr) (k:Int) (cells:Nat -> List AV) (h0:cells 0=[.int .i64 k]):j5 Tryz.prog 163 [s5 g,.sl G A 1 1 1 cells] (fun _ => .bool (.v (gk g k))):=
 (Gz g A k (fun _ => k) rfl).sim ⟨zr,Sim.recell (fun i hi => by
  match i,hi with
  | 0,_ => rw [h0]),trivial⟩
theorem Gy (g:l9) (A:Option Addr) (k k2:Int) (f:Nat -> Int) (h0:f 0=k) (h1:f 1=k2):j5 Tryz.prog 163 [s5 g,.sl none A 2 2 1 (fun i => [.int .i64 (f i)])] (fun _ => .bool (.v ((gk g k || gk g k2)))):=by
 intro m w hm hargs;have S:=ry A 2 2 f g.x.r.kd;obtain ⟨q,hq⟩:=eqv (dU 2 f g.x.r.kd);rw [<-hq] at S;refine en 14 hm hargs Tryz.func163 fun B hB a0 hF => ?_
 refine wp_seq (rg hB a6 [1,2] [2] [] hF fun X0 a0 w1 hF => ?_);have O1:=S;refine wp_seq (rg hB a6 [4] [] [(7,.r fun _ => .bool (.v q))] hF fun X1 a0 w1 hF => ?_);refine wp_ret ((rsi hB a6 hF f4 (he:=?_)));subst hB;refine Sim.bool ?_
 show (if g.has=true then q else false)=_
 rw [hq,FM,h0,h1]; unfold gk; simp only [xI g.x.r.kd]; cases g.has<;>rfl
theorem dH (g:l9) (G:Option Nat) (A:Option Addr) (k k2:Int) (cells:Nat -> List AV) (h0:cells 0=[.int .i64 k]) (h1:cells 1=[.int .i64 k2]):j5 Tryz.prog 163 [s5 g,.sl G A 2 2 1 cells] (fun _ => .bool (.v ((gk g k || gk g k2)))):=
 (Gy g A k k2 (fun i => if i=0 then k else k2) rfl rfl).sim ⟨zr,Sim.recell (fun i hi => by
  match i,hi with
  | 0,_ => rw [h0]; rfl
  | 1,_ => rw [h1]; rfl),trivial⟩
theorem rD (kd:Int) (x:RA) (mk:Int):j5 Tryz.prog 192 [.int .i64 kd,u9 x,.int .u64 mk] (fun _ => u9 (asR kd x mk)):=by
 intro m w hm hargs;refine en 14 hm hargs Tryz.func192 fun B hB a0 hF => ?_
 refine wp_seq (rg hB a6 [0,2,4,6] [4,6] [] hF fun X0 a0 w1 hF => ?_);refine wp_seq (rg hB a6 [6] [6] [] hF fun X1 a0 w1 hF => ?_);exact wp_ret ((rsp hB a6 hF f4).1)
theorem eV:j5 Tryz.prog 289 [] (fun _ => xf):=by
 intro m w hm hargs;have SN:=gZ;simp only [b6,B2] at SN;refine en 3 hm hargs Tryz.func289 fun B hB a0 hF => ?_
 refine wp_seq (rg hB a6 [0] [0] [] hF fun X0 a0 w1 hF => ?_);have O1:=SN;refine wp_seq (rg hB a6 [0] [0] [(0,.r fun _ => .agg [.int .i64 (-1),.int .u64 0])] hF fun X1 a0 w1 hF => ?_);exact wp_ret ((rsp hB a6 hF f4).1)
theorem tg (l:Lab) (hb0:U64 l.bits):j5 Tryz.prog 279 [b6 l] (fun _ => .agg [.int .i64 (chV l 0).len,.int .u64 (chV l 0).bits,.int .i64 (chV l 1).len,.int .u64 (chV l 1).bits]):=by
 intro m w hm hargs;have S0:=eL l hb0 0 (.inl rfl);have S1:=eL l hb0 1 (.inr rfl);simp only [b6] at S0 S1 hargs;obtain ⟨x,hx⟩:=eqv (chV l 0);rw [<-hx] at S0 ⊢;obtain ⟨y,hy⟩:=eqv (chV l 1);rw [<-hy] at S1 ⊢;obtain ⟨u,hu⟩:=eqv (chE l 0);rw [<-hu] at S0;obtain ⟨v,hv⟩:=eqv (chE l 1);rw [<-hv] at S1;refine en 20 hm hargs Tryz.func279 fun B hB a0 hF => ?_
 refine wp_seq (rg hB a6 [1,2] [1,2] [] hF fun X0 a0 w1 hF => ?_);have O1:=S0;refine wp_seq (rg hB a6 [1,2,3] [1,2,3] [(1,.r fun _ => .tup [.agg [.int .i64 x.len,.int .u64 x.bits],.int .i64 u])] hF fun X1 a0 w1 hF => ?_);have O1:=S1;refine wp_seq (rg hB a6 [2,3,5] [2,3,5] [(1,.r fun _ => .tup [.agg [.int .i64 y.len,.int .u64 y.bits],.int .i64 v])] hF fun X2 a0 w1 hF => ?_);refine wp_seq (rg hB a6 [2] [2] [] hF fun X3 a0 w1 hF => ?_);exact wp_ret ((rsp hB a6 hF f4).1)
theorem Eg (b:Nat) (J:i6) (hJ:k8 J) (A:Option Addr) (c:Nat) (p:Pst) (hp:i5 p) (hn:p.n<=1000000) (q:u0):B7 238 0 b J A c p [B5 q] (s5) (U5 J.budget q.absQ p):=by
 intro m w hm hargs hpre;obtain ⟨ha,hbu,_,_,_⟩:=hJ;have hmx:maxLen=9223372036854775807:=rfl;have e1:IntKind.i64.wrap ((p.n:Int) + J.budget)=(p.n:Int) + J.budget:=r8 (by omega) (by omega);refine enX 60 hm hpre hargs Tryz.func238 fun B hB a0 hF => ?_
 refine wp_seq (rg hB a6 [0,3,4] [0,3,4] [] hF fun X0 a0 w1 hF => ?_);refine wp_seq (wp_seq (drg hB a6 [25,0,3,4] [0,3,4] [] hF fun X1 a0 w1 hF => ?_));apply a7 hF rfl<;>intro hb hF
 .have ht:0 < p.n/\0 < (p.n:Int) + J.budget:=by
   have h9:(if decide ((p.n:Int) > 0)=true then decide (IntKind.i64.wrap ((p.n:Int) + J.budget) > 0) else false)=true:=by subst hB; exact hb
   rw [e1] at h9; simp at h9; omega
  apply wp_seq;refine rg hB a6 [0,4,5] [0,4,5] [] hF (hob:=by intro X; subst hB; simp only [b5,Ob.holds,BE.den]<;>and_intros<;>repeat first | trivial | rfl | exact ⟨Int.le_refl _,(by show (0:Int) < (p.n:Int); omega)⟩ | exact (by show (0:Int) < (p.n:Int); omega) | exact (fun _ _ => by kernel_rfl) | refine ⟨?_,?_⟩ | intro h | exact Int.le_refl _ | decide | omega) fun X2 a0 w1 hF => ?_
  apply wp_seq;refine rg hB a6 [4,5] [0,4,5] [] hF (hob:=by intro X; subst hB; simp only [b5,Ob.holds,BE.den]<;>and_intros<;>repeat first | trivial | rfl | exact (by show (0:Int)<=1; decide) | exact (by show (1:Int)<=(p.n:Int); omega) | exact (show (0:Int)<=1/\(1:Int)<=(p.n:Int)/\(p.n:Int)<=(p.n:Int) by omega) | exact (fun _ _ => by kernel_rfl) | refine ⟨?_,?_⟩ | intro h | exact Int.le_refl _ | decide | omega) fun X3 a0 w1 hF => ?_
  refine wp_seq (rg hB a6 [4] [0,4] [] hF fun X4 a0 w1 hF => ?_);refine wp_ret ((rmm hB a6 hF (v:=p.g 0) (q:=p.tl) (M4 A c 1 8) (c - 1) (if_pos ht) (he:=?_) (hs:=?_)).1)
  .subst hB; exact zr
  subst hB; exact ⟨rfl,⟨_,rfl,⟨zr,zr,zr,zr,zr,zr,zr,zr,zr,zr,zr,zr,zr,zr,zr,Sim.recell (fun i hi => by show R8 (p.g (1 + i))=R8 (p.g (i + 1)); rw [Nat.add_comm]),zr,zr,zr,zr,zr,zr,trivial⟩⟩,trivial⟩
 have ht:¬ (0 < p.n/\0 < (p.n:Int) + J.budget):=by
  have h9:(if decide ((p.n:Int) > 0)=true then decide (IntKind.i64.wrap ((p.n:Int) + J.budget) > 0) else false)=false:=by subst hB; exact hb
  rw [e1] at h9; simp at h9; omega
 refine wp_skip (wp_seq (wp_seq (drg hB a6 [52,0,3] [0,3] [] hF fun X5 a0 w1 hF => ?_)));apply a7 hF rfl<;>intro hb hF
 .have ho:(p.n:Int) + J.budget<=0:=by
   have h9:decide (IntKind.i64.wrap ((p.n:Int) + J.budget)<=0)=true:=by subst hB; exact hb
   rw [e1] at h9; simpa using h9
  refine rg hB a6 [3] [0,3] [] hF fun X6 a0 w1 hF => ?_
  refine wp_region_lit (lpr 0 2 hB a6 [59] [0] [] hF fun X7_0 a0 w1 hF => ?_);refine ma rfl rfl rfl hF rfl (rO (P:=Tryz.prog) (fn:=Tryz.f238) (pre:=[(0,⟨b,166,C0 J A c p⟩)]) (sets:=[(0,C0 J A c p)]) (out:=fun x => gV 0 J s5 (U5 J.budget q.absQ p) x) hF (wu (hF.slot 59 rfl).2) ⟨0,fun i => if i=0 then A else none,fun i => if i=0 then c else 0,fun _ => .empty⟩ (by show gV 0 J s5 (U5 J.budget q.absQ p) _=_; unfold U5; rw [if_neg ht,if_pos ho]; rfl) ?_ ⟨rfl,⟨_,rfl,zl⟩,trivial⟩)
  subst hB;exact Sim.agg ⟨zr,zr,zr,zr,zr,zq0,zr,zr,zr,zr,zr,zr,zq0,zr,Sim.ff,trivial⟩
 have ho:¬ (p.n:Int) + J.budget<=0:=by
  have h9:decide (IntKind.i64.wrap ((p.n:Int) + J.budget)<=0)=false:=by subst hB; exact hb
  rw [e1] at h9; simpa using h9
 refine wp_skip (wp_region_lit (lpr 0 2 hB a6 [59] [0] [] hF fun X7_0 a0 w1 hF => ?_));refine ma rfl rfl rfl hF rfl (rO (P:=Tryz.prog) (fn:=Tryz.f238) (pre:=[(0,⟨b,166,C0 J A c p⟩)]) (sets:=[(0,C0 J A c p)]) (out:=fun x => gV 0 J s5 (U5 J.budget q.absQ p) x) hF (wu (hF.slot 59 rfl).2) ⟨0,fun i => if i=0 then A else if i=1 then q.x.A else q.s.A,fun i => if i=0 then c else if i=1 then q.x.c else q.s.c,fun _ => .empty⟩ (by show gV 0 J s5 (U5 J.budget q.absQ p) _=_; unfold U5; rw [if_neg ht,if_neg ho]; rfl) ?_ ⟨rfl,⟨_,rfl,zl⟩,trivial⟩)
 subst hB;exact yu q _ rfl rfl rfl rfl
theorem ye (k0 b:Nat) (J:i6) (hJ:k8 J) (A:Option Addr) (c:Nat) (p:Pst) (hp:i5 p) (hn:p.n<=1000000) (q:u0):B7 238 k0 b J A c p [B5 q] (s5) (U5 J.budget q.absQ p):=B7.re (Eg b J hJ A c p hp hn q) (by repeat (first | exact trivial | refine ⟨zr,?_⟩))
def jz:lI:=⟨0,false,⟨#[]⟩,none,0,0,fun _ => r7,0,false⟩
theorem Ed (k0 b:Nat) (J:i6) (hJ:k8 J) (A:Option Addr) (c:Nat) (p:Pst) (hp:i5 p) (hn:p.n<=1000000) (l:Lab):B7 238 k0 b J A c p [.agg [.int .i64 1,.int .i64 l.len,.int .u64 l.bits,.int .u64 0,.int .i64 0,.sl none none 0 0 2 (fun _ => []),.int .i64 0,.int .u64 0,.int .u64 0,.int .i64 0,.bool .ff,.str ⟨#[]⟩,.sl none none 0 0 2 (fun _ => []),.int .u64 0,.bool .ff]] s5 (R1 J.budget l p):=
 B7.re (ye 0 b J hJ A c p hp hn ⟨1,l,0,zRA,jz⟩) ⟨Sim.agg ⟨zr,zr,zr,zr,zr,zq0,zr,zr,zr,zr,Sim.ff,zr,zq0,zr,Sim.ff,trivial⟩,trivial⟩
theorem Ef (k0 b:Nat) (J:i6) (hJ:k8 J) (A:Option Addr) (c:Nat) (p:Pst) (hp:i5 p) (hn:p.n<=1000000) (l:Lab) (v:Int) (x:RA):B7 238 k0 b J A c p [.agg [.int .i64 2,.int .i64 l.len,.int .u64 l.bits,.int .u64 v,.int .i64 x.r.kd,.sl none x.A x.r.n x.c 2 (fun i => itC (x.r.f i)),.int .i64 x.r.nx.len,.int .u64 x.r.nx.bits,.int .u64 x.r.mrk,.int .i64 0,.bool .ff,.str ⟨#[]⟩,.sl none none 0 0 2 (fun _ => []),.int .u64 0,.bool .ff]] s5 (U5 J.budget ⟨2,l,v,x.r.abs,dm⟩ p):=
 B7.re (ye 0 b J hJ A c p hp hn ⟨2,l,v,x,jz⟩) ⟨Sim.agg ⟨zr,zr,zr,zr,zr,zr,zr,zr,zr,zr,Sim.ff,zr,zq0,zr,Sim.ff,trivial⟩,trivial⟩
theorem Ee (k0 b:Nat) (J:i6) (hJ:k8 J) (A:Option Addr) (c:Nat) (p:Pst) (hp:i5 p) (hn:p.n<=1000000) (l:Lab) (v:Int):B7 238 k0 b J A c p [.agg [.int .i64 3,.int .i64 l.len,.int .u64 l.bits,.int .u64 v,.int .i64 0,.sl none none 0 0 2 (fun _ => []),.int .i64 0,.int .u64 0,.int .u64 0,.int .i64 0,.bool .ff,.str ⟨#[]⟩,.sl none none 0 0 2 (fun _ => []),.int .u64 0,.bool .ff]] s5 (U5 J.budget ⟨3,l,v,i8,dm⟩ p):=
 B7.re (ye 0 b J hJ A c p hp hn ⟨3,l,v,zRA,jz⟩) ⟨Sim.agg ⟨zr,zr,zr,zr,zr,zq0,zr,zr,zr,zr,Sim.ff,zr,zq0,zr,Sim.ff,trivial⟩,trivial⟩
theorem Dj (b:Nat) (J:i6) (hJ:k8 J) (A:Option Addr) (c:Nat) (p:Pst) (hp:i5 p) (hn:p.n<=1000000) (l:Lab):B7 162 0 b J A c p [b6 l] (s5) (R1 J.budget l p):=by
 intro m w hm hargs hpre;refine enX 9 hm hpre hargs Tryz.func162 fun B hB a0 hF => ?_
 refine wp_seq (rg hB a6 [0,3,4] [0,3,4] [] hF fun X0 a0 w1 hF => ?_);apply wp_seq
 rcases (Ed 0 b J hJ A c p hp hn l).two (j1 _ _ _) hp hn with ⟨w1,p1,hm1,O1⟩ | ⟨g1,p1,hm1,hs1,hp1,hn1,S1⟩
 .refine stp 3 hB a6 [5,7] [0] [] hF O1 fun _ _ _ _ hF hk => ?_
  exact thm (P:=Tryz.prog) (fn:=Tryz.f162) (q:=p1) hF hk (by simp [Rs.bind,hm1])
 have O1:=S1;refine rg hB a6 [4] [0,4] [(3,rc J (s5 g1) p1)] hF fun X1 a0 w1 hF => ?_
 exact wp_ret ((rmm hB a6 hF (v:=g1) (q:=p1) ((X1 3).A 0) ((X1 3).c 0) (by simp [Rs.bind,hm1])).1)
theorem aL (k0 b:Nat) (J:i6) (hJ:k8 J) (A:Option Addr) (c:Nat) (p:Pst) (hp:i5 p) (hn:p.n<=1000000) (l:Lab):B7 162 k0 b J A c p [b6 l] (s5) (R1 J.budget l p):=B7.re (Dj b J hJ A c p hp hn l) (by repeat (first | exact trivial | refine ⟨zr,?_⟩))
theorem DY (b:Nat) (J:i6) (hJ:k8 J) (A:Option Addr) (c:Nat) (p:Pst) (hp:i5 p) (hn:p.n<=1000000) (l:Lab) (v:Int) (x:RA):B7 164 0 b J A c p [b6 l,.int .u64 v,u9 x] (fun d => .bool (.v d)) (T0 J.budget l v x.r.abs p):=by
 intro m w hm hargs hpre;refine enX 17 hm hpre hargs Tryz.func164 fun B hB a0 hF => ?_
 refine wp_seq (rg hB a6 [0,2,5,7] [0,5,7] [] hF fun X0 a0 w1 hF => ?_);apply wp_seq
 rcases (Ef 0 b J hJ A c p hp hn l v x).two (bz _ _ _) hp hn with ⟨w1,p1,hm1,O1⟩ | ⟨g1,p1,hm1,hs1,hp1,hn1,S1⟩
 .refine stp 5 hB a6 [9,13] [0] [] hF O1 fun _ _ _ _ hF hk => ?_
  exact thm (P:=Tryz.prog) (fn:=Tryz.f164) (q:=p1) hF hk (by simp [T0,Rs.bind,hm1])
 have O1:=S1;refine rg hB a6 [8] [0] [(5,rc J (s5 g1) p1)] hF fun X1 a0 w1 hF => ?_
 exact wp_ret ((rmm hB a6 hF (v:=decide (g1.code=0)) (q:=p1) ((X1 5).A 0) ((X1 5).c 0) (by simp [T0,Rs.bind,hm1])).1)
theorem eW (k0 b:Nat) (J:i6) (hJ:k8 J) (A:Option Addr) (c:Nat) (p:Pst) (hp:i5 p) (hn:p.n<=1000000) (l:Lab) (v:Int) (x:RA):B7 164 k0 b J A c p [b6 l,.int .u64 v,u9 x] (fun d => .bool (.v d)) (T0 J.budget l v x.r.abs p):=B7.re (DY b J hJ A c p hp hn l v x) (by repeat (first | exact trivial | refine ⟨zr,?_⟩))
theorem DP (b:Nat) (J:i6) (hJ:k8 J) (A:Option Addr) (c:Nat) (p:Pst) (hp:i5 p) (hn:p.n<=1000000) (l:Lab) (v:Int):B7 280 0 b J A c p [b6 l,.int .u64 v] (fun d => .bool (.v d)) (iD J.budget l v p):=by
 intro m w hm hargs hpre;refine enX 14 hm hpre hargs Tryz.func280 fun B hB a0 hF => ?_
 refine wp_seq (rg hB a6 [0,2,4] [0,4] [] hF fun X0 a0 w1 hF => ?_);apply wp_seq
 rcases (Ee 0 b J hJ A c p hp hn l v).two (bz _ _ _) hp hn with ⟨w1,p1,hm1,O1⟩ | ⟨g1,p1,hm1,hs1,hp1,hn1,S1⟩
 .refine stp 4 hB a6 [7,10] [0] [] hF O1 fun _ _ _ _ hF hk => ?_
  exact thm (P:=Tryz.prog) (fn:=Tryz.f280) (q:=p1) hF hk (by simp [iD,Rs.bind,hm1])
 have O1:=S1;refine rg hB a6 [6] [0] [(4,rc J (s5 g1) p1)] hF fun X1 a0 w1 hF => ?_
 exact wp_ret ((rmm hB a6 hF (v:=decide (g1.code=0)) (q:=p1) ((X1 4).A 0) ((X1 4).c 0) (by simp [iD,Rs.bind,hm1])).1)
theorem xE (k0 b:Nat) (J:i6) (hJ:k8 J) (A:Option Addr) (c:Nat) (p:Pst) (hp:i5 p) (hn:p.n<=1000000) (l:Lab) (v:Int):B7 280 k0 b J A c p [b6 l,.int .u64 v] (fun d => .bool (.v d)) (iD J.budget l v p):=B7.re (DP b J hJ A c p hp hn l v) (by repeat (first | exact trivial | refine ⟨zr,?_⟩))
theorem vA (b:Nat) (J:i6) (hJ:k8 J) (A:Option Addr) (c:Nat) (p:Pst) (hp:i5 p) (hn:p.n<=1000000) (l:Lab) (v:Int):B7 288 0 b J A c p [b6 l,.int .u64 v] (fun q:l9 => .bool (.v (decide (q.ver=v)))) (R1 J.budget l p):=by
 intro m w hm hargs hpre;refine enX 13 hm hpre hargs Tryz.func288 fun B hB a0 hF => ?_
 refine wp_seq (rg hB a6 [0,2,4] [0,4] [] hF fun X0 a0 w1 hF => ?_);apply wp_seq
 rcases (aL 0 b J hJ A c p hp hn l).two (j1 _ _ _) hp hn with ⟨w1,p1,hm1,O1⟩ | ⟨g1,p1,hm1,hs1,hp1,hn1,S1⟩
 .refine stp 2 hB a6 [7,8] [0] [] hF O1 fun _ _ _ _ hF hk => ?_
  exact thm (P:=Tryz.prog) (fn:=Tryz.f288) (q:=p1) hF hk (by simp [Rs.bind,hm1])
 have O1:=S1;refine rg hB a6 [6] [0] [(2,rc J (s5 g1) p1)] hF fun X1 a0 w1 hF => ?_
 exact wp_ret ((rmm hB a6 hF (v:=g1) (q:=p1) ((X1 2).A 0) ((X1 2).c 0) (by simp [Rs.bind,hm1])).1)
theorem jl (k0 b:Nat) (J:i6) (hJ:k8 J) (A:Option Addr) (c:Nat) (p:Pst) (hp:i5 p) (hn:p.n<=1000000) (l:Lab) (v:Int):B7 288 k0 b J A c p [b6 l,.int .u64 v] (fun q:l9 => .bool (.v (decide (q.ver=v)))) (R1 J.budget l p):=B7.re (vA b J hJ A c p hp hn l v) (by repeat (first | exact trivial | refine ⟨zr,?_⟩))
end Go.Proofs.YtodelmejfpkicaaGreat.Sym
namespace Go.Proofs.YtodelmejfpkicaaGreat
open Go.RowKit
theorem BL:bK Tryz.prog 33 62 2 24 (.agg #[.int .u64 0,.string ⟨#[]⟩]):=⟨by kernel_rfl,by kernel_rfl,rfl,by decide⟩
theorem etyI:bK Tryz.prog 33 62 2 24 (.agg #[.int .u64 0,.string ⟨#[]⟩]):=⟨by kernel_rfl,by kernel_rfl,rfl,by decide⟩
end Go.Proofs.YtodelmejfpkicaaGreat
namespace Go.Proofs.YtodelmejfpkicaaGreat.Sym
open Go Go.RowKit
theorem kF (x:Itm):∀ v ∈ itmE x,v.oneCell'=true:=by
 intro v hv;simp only [itmE,List.mem_cons,List.not_mem_nil,or_false] at hv
 rcases hv with rfl | rfl<;>rfl
theorem rowFlat_its (l:List Itm):f7 (fun i => itC (itF l i)) l.length=l.flatMap itmE:=by
 have key:∀ n,n<=l.length -> f7 (fun i => itC (itF l i)) n=(l.take n).flatMap itmE:=by
  intro n
  induction n with
  | zero => intro _; simp [f7]
  | succ n ih =>
   intro h;rw [F3,ih (by omega),List.take_succ_eq_append_getElem (by omega),List.flatMap_append];simp [itF,List.getD,List.getElem?_eq_getElem (show n < l.length by omega)];rfl
 have:=key l.length (Nat.le_refl _)
 rwa [List.take_length] at this
theorem its_reads {m:Nat -> Nat -> Prop} {w:World} {A:Option Addr} {c:Nat} {l:List Itm} (h:Ok m w (l4 A l.length c (itF l))):F9 itmE w w.heap.size A l:=by
 have:=bP h;rw [rowFlat_its] at this;exact this
theorem kE {m:Nat -> Nat -> Prop} {w:World} {A:Option Addr} {c:Nat} {l:List Itm} (h:Ok m w (l4 A l.length c (itF l))):∀ x ∈ l,x.val.size<=maxLen:=by
 intro x hx;obtain ⟨i,hi,rfl⟩:=List.mem_iff_getElem.1 hx
 cases h with
 | sl _ _ _ _ _ _ h1 h2 h3 h4 h5 h6 h7 =>
  have:=h7 i hi (.str (itF l i).val) (by simp [itC])
  cases this with | str _ h => simpa [itF,List.getD,hi] using h
theorem ns {m:Nat -> Nat -> Prop} {w:World} {B:Nat} {e:TypeId} {A:Option Addr} {n c:Nat} {l:List Itm} (h:rI itmE 2 w B e (.slice A n c) l) (hm:∀ b o,m b o -> b < B) (hs:∀ x ∈ l,x.val.size<=maxLen):Ok m w (l4 A l.length c (itF l)):=by
 obtain ⟨A',c',he,h1,h2⟩:=Own.isSlice h;injection he with e1 e2 e3; subst e3; subst e2
 refine jn h1 h2 hs fun hp => ?_
 rw [C8 K4] at hp;obtain ⟨b,hA,hb⟩:=K2 h (by omega);refine ⟨b,0,hA,fun j u hu => ⟨by rw [Nat.zero_add]; exact K7 h hb j u hu,fun hmm => ?_⟩⟩;have:=(Own.lt h b hb).1;have:=hm _ _ hmm;omega
theorem clone_c (w:World) (A:Option Addr) (k:Nat) (l:List Itm) (hr:F9 itmE w w.heap.size A l) (hl:l.length < 2147483000) :
  Calls Tryz.prog 88 #[.slice A l.length k] w fun e w' => ∃ v',e = .returned v'/\rI itmE 2 w' w.heap.size 62 v' l/\Below w.heap.size w w':=by
 have hq:∀ (A:Option Addr) (n k:Nat) (w:World),(binOp .eql 33 (.slice A n k) (.slice none 0 0)).run Tryz.prog w = .ok (.bool A.isNone) w:=fun A n k w => Go.Lib.run_eql_slice_nil w _ _ A n k 0 0 Tryz.underlying33
 cases A with
 | none =>
  obtain rfl:l=[]:=by
   refine List.eq_nil_of_length_eq_zero (Nat.eq_zero_of_not_pos fun h => ?_);obtain ⟨b,off,he,_⟩:=hr.at_ (k:=2) K4 (by decide) h
   cases he
  clear hr
  go_enter Tryz.func88,Tryz.ntmps88
  go_wp2_with fail
  go_ret
  exact ⟨_,rfl,Own.nil _ _ _ _ _,Below.refl _ _⟩
 | some a =>
  obtain ⟨W1,hW1⟩:=eqv (w.alloc (.cells #[] 62));have hb1:Below w.heap.size w W1:=by rw [hW1]; exact (Below.refl _ _).alloc (Nat.le_refl _) _
  obtain ⟨v',w',hr',hO,hG,hv⟩:=dy (P:=Tryz.prog) BL 33 (Own.nil W1 w.heap.size 62 2 (some ⟨w.heap.size,0,none⟩)) (some a) l.length k (l.flatMap itmE) (C8 K4 l) (hr.below hb1) (pB kF l) (by simp only [maxLen]; omega) (by omega) hb1.size;rw [Nat.zero_add,List.nil_append] at hO;have HO:Hid (rI itmE 2 w' w.heap.size 62 v' l/\Below w.heap.size w w'):=⟨hO,hb1.grown hG hb1.size fun g hg => by simp [l8] at hg⟩;rw [hW1] at hr';clear hO hG hv hb1 hW1
  go_enter Tryz.func88,Tryz.ntmps88
  go_wp2_with (at_builtin; refine T5 hr' rfl (.tmp 5) (.tmp 6) rfl rfl rfl rfl ?_)
  go_ret
  exact ⟨_,rfl,HO.out⟩
theorem nY (A:Option Addr) (c:Nat) (l:List Itm) (hs:l.length < 2147483000):j5 Tryz.prog 88 [l4 A l.length c (itF l)] (fun y => l4 (y.A 0) l.length (y.c 0) (itF l)):=by
 intro m w hm ha;have h1:=ha (l4 A l.length c (itF l)) (by simp);refine (clone_c w A c l (its_reads h1) hs).mono ?_
 rintro e w' ⟨v',rfl,ho,hb⟩
 obtain ⟨A',c',rfl,_,_⟩:=Own.isSlice ho;exact ⟨⟨0,fun _ => A',fun _ => c',fun _ => ⟨#[]⟩⟩,rfl,ns ho hm (kE h1),hb⟩
theorem clone_sf (A:Option Addr) (n c:Nat) (f:Nat -> Itm) (hs:n < 2147483000):j5 Tryz.prog 88 [l4 A n c f] (fun y => l4 (y.A 0) n (y.c 0) f):=by
 have h:=nY A c (b7 f n) (by rw [i3]; exact hs);have e:∀ A c,Sim (l4 A (b7 f n).length c (itF (b7 f n))) (l4 A n c f):=fun A c => Sim.resl (i3 f n) fun t ht => by rw [s9 f n t ht]
 have e':∀ A c,Sim (l4 A n c f) (l4 A (b7 f n).length c (itF (b7 f n))):=fun A c => Sim.resl (i3 f n).symm fun t ht => by rw [i3] at ht; rw [s9 f n t ht]
 intro m w hm ha;have h2:j5 Tryz.prog 88 [l4 A n c f] (fun y => l4 (y.A 0) (b7 f n).length (y.c 0) (itF (b7 f n))):=h.sim ⟨e' A c,trivial⟩;refine (h2 m w hm ha).mono ?_
 rintro en w' ⟨x,rfl,hok,hb⟩
 exact ⟨x,by rw [(e (x.A 0) (x.c 0)).1],(e (x.A 0) (x.c 0)).2.2 _ _ hok,hb⟩
theorem Dh (w:World) (n:Nat) (hn:n<=1000000):Calls Tryz.prog 316 #[.slice none 0 0,.int .i64 n] w fun e w' =>
  ∃ A' c',e = .returned (.slice A' 0 c')/\Own w' w.heap.size 62 2 (.slice A' 0 c') 0 []/\Below w.heap.size w w':=by
 have hneg:¬ (n:Int) < 0:=by omega
 have hw:IntKind.i64.wrap (n:Int)=(n:Int):=r8 (by omega) (by omega);have hw0:IntKind.i64.wrap 0=0:=by decide
 by_cases h0:n=0
 .subst h0
  go_enter Tryz.func316,Tryz.ntmps316
  go_wp2_with fail
  go_ret
  exact ⟨none,0,rfl,Own.nil _ _ _ _ _,Below.refl _ _⟩
 have hpos:(0:Int) < (n:Int):=by omega
 have HA:=dx (P:=Tryz.prog) (w:=w) (kq:=.i64) BL (Tryz.underlying3) 33 (A:=none) (n:=0) (c:=0) (xs:=[]) (by simp) (I5.nil (B:=0)) n (by omega) (by omega) (by simp only [maxLen]; omega) (by omega);obtain ⟨_,cap2,cur2,hr,rfl,hge2,hcm2,hcs2,ht2⟩:=HA;rw [Nat.zero_add] at hr hge2;obtain ⟨w1,hw1⟩:=eqv (w.drew.alloc (.cells cur2 62));rw [<-hw1] at hr;have HF:Hid (Own w1 w.heap.size 62 2 (.slice (some ⟨w.heap.size,0,none⟩) 0 cap2) 0 []/\Below w.heap.size w w1):=by
  refine ⟨⟨by simp,.inr ⟨w.heap.size,cap2,cur2,rfl,Nat.le_refl _,by rw [hw1]; exact heap_alloc_new w.drew _,Nat.zero_le _,by omega,hcm2,hcs2,by simp⟩⟩,?_⟩;rw [hw1];exact (Below.refl _ _).drew.alloc (by simp) _
 clear hw1 ht2 hcs2 hge2
 go_enter Tryz.func316,Tryz.ntmps316
 go_wp2_with (at_builtin; refine T5 hr rfl (.tmp 20) (.tmp 21) rfl rfl rfl rfl ?_)
 go_ret
 exact ⟨_,_,rfl,HF.out⟩
end Go.Proofs.YtodelmejfpkicaaGreat.Sym
namespace Go.Proofs.YtodelmejfpkicaaGreat
open Go.RowKit Sym
theorem aM {f:Nat -> Itm} {n:Nat} {x:Itm} (h:x ∈ b7 f n):∃ t,t < n/\x=f t:=by
 unfold b7 at h;obtain ⟨t,ht,rfl⟩:=List.mem_map.1 h;exact ⟨t,List.mem_range.1 ht,rfl⟩
def lG (p:Nat -> Bool) (n:Nat):Int:=match (List.range n).find? p with
 | some i => (i:Int)
 | none => -1
theorem jv {p:Nat -> Bool} {n i:Nat} (hi:i < n) (hm:∀ t,t < i -> p t=false) (h:p i=true):lG p n=(i:Int):=by
 have:(List.range n).find? p=some i:=by
  rw [List.find?_eq_some_iff_append];refine ⟨h,List.range i,(List.range (n - i - 1)).map fun j => i + 1 + j,?_,fun a ha => by rw [hm a (List.mem_range.1 ha)]; rfl⟩;apply List.ext_getElem
  .simp; omega
  intro t h1 h2;have ht:t < n:=by simpa using h1
  simp only [List.getElem_range]
  by_cases hti:t < i
  .rw [List.getElem_append_left (by simpa using hti)]; simp
  rw [List.getElem_append_right (by simp; omega)];obtain ⟨q,rfl⟩:∃ q,t=i + q:=⟨t - i,by omega⟩
  cases q with
  | zero => simp
  | succ q => simp [show i + (q + 1) - i=q + 1 by omega]; omega
 simp [lG,this]
theorem kI {p:Nat -> Bool} {n:Nat} (hm:∀ t,t < n -> p t=false):lG p n = -1:=by
 have:(List.range n).find? p=none:=by
  rw [List.find?_eq_none];intro a ha;rw [hm a (List.mem_range.1 ha)]
  decide
 simp [lG,this]
theorem mi (p:Nat -> Bool) (n:Nat):(∃ i,i < n/\lG p n=(i:Int)/\p i=true/\∀ t,t < i -> p t=false) \/ (lG p n = -1/\∀ t,t < n -> p t=false):=by
 induction n with
 | zero => exact .inr ⟨rfl,fun t ht => absurd ht (Nat.not_lt_zero _)⟩
 | succ n ih =>
  rcases ih with ⟨i,h1,h2,h3,h4⟩ | ⟨h1,h2⟩
  .exact .inl ⟨i,by omega,jv (by omega) h4 h3,h3,h4⟩
  cases hp:p n with
  | true => exact .inl ⟨n,by omega,jv (by omega) h2 hp,hp,h2⟩
  | false =>
   have:∀ t,t < n + 1 -> p t=false:=fun t ht => by
    by_cases h:t=n
    .rw [h]; exact hp
    exact h2 t (by omega)
   exact .inr ⟨kI this,this⟩
def Srt (l:List Itm):Prop:=l.Pairwise fun x y => x.key < y.key
theorem zi {f:Nat -> Itm} {n:Nat} (h:okF f n=true):∀ i j,i < j -> j < n -> (f i).key < (f j).key:=by
 intro i j hij
 induction j with
 | zero => omega
 | succ j ih =>
  intro hj;have hk:=CF (f:=f) (i:=j + 1) hj h;unfold df at hk;simp only [Bool.and_eq_true,decide_eq_true_eq,Bool.or_eq_true,beq_iff_eq] at hk;have h2:(f j).key < (f (j + 1)).key:=by
   rcases hk.2 with h0 | h0
   .omega
   simpa using h0
  by_cases he:i=j
  .rw [he]; exact h2
  have:=ih (by omega) (by omega);omega
section
variable {l:List Itm} {key:Int} {p:Nat}
structure Cut (l:List Itm) (key:Int) (p:Nat):Prop where
 le:p<=l.length
 lo:∀ x ∈ l.take p,x.key < key
 hi:∀ x ∈ l.drop p,key<=x.key
theorem Cut.hit (h:Cut l key p) (hs:Srt l) {x:Itm} (hp:l[p]? = some x) (hx:x.key=key):(∀ y ∈ l.drop (p + 1),key < y.key)/\l=l.take p ++ [x] ++ l.drop (p + 1):=by
 have hlt:=(List.getElem?_eq_some_iff.1 hp).1;have hd:l.drop p=x :: l.drop (p + 1):=by rw [List.drop_eq_getElem_cons hlt,(List.getElem?_eq_some_iff.1 hp).2]
 have hsp:l=l.take p ++ [x] ++ l.drop (p + 1):=by
  conv => lhs; rw [<-List.take_append_drop p l,hd]
  simp
 refine ⟨fun y hy => ?_,hsp⟩;unfold Srt at hs;rw [hsp,List.append_assoc] at hs;have h2:=(List.pairwise_append.1 hs).2.1;rw [List.singleton_append] at h2;have:=(List.pairwise_cons.1 h2).1 y hy;omega
end
end Go.Proofs.YtodelmejfpkicaaGreat
namespace Go.Proofs.YtodelmejfpkicaaGreat.Sym
open Go Go.RowKit
theorem lw {f:Nat -> Itm} {n:Nat} {key:Int} (hs:∀ i j,i < j -> j < n -> (f i).key < (f j).key):∀ k lo hi,hi - lo<=k -> lo<=hi -> hi<=n -> (∀ t,t < lo -> (f t).key < key) -> (∀ t,hi<=t -> t < n -> key<=(f t).key) →
  lo<=bsF f key lo hi/\bsF f key lo hi<=hi/\(∀ t,t < bsF f key lo hi -> (f t).key < key)/\∀ t,bsF f key lo hi<=t -> t < n -> key<=(f t).key
 | 0,lo,hi,hk,h1,h2,h3,h4 => by
  rw [oe (by omega)];exact ⟨Nat.le_refl _,h1,h3,fun t ht => h4 t (by omega)⟩
 | k + 1,lo,hi,hk,h1,h2,h3,h4 => by
  by_cases hlt:lo < hi
  .obtain ⟨m,hm⟩:∃ m,m=(lo + hi) / 2:=⟨_,rfl⟩
   by_cases hkm:(f m).key < key
   .rw [xZ hlt hm hkm]
    obtain ⟨a,b,c,d⟩:=lw hs k (m + 1) hi (by omega) (by omega) h2 (fun t ht => by
     by_cases h:t=m
     .rw [h]; exact hkm
     have:=hs t m (by omega) (by omega); omega) h4
    exact ⟨by omega,b,c,d⟩
   rw [ya hlt hm hkm];obtain ⟨a,b,c,d⟩:=lw hs k lo m (by omega) (by omega) (by omega) h3 (fun t ht htn => by
    by_cases h:t=m
    .rw [h]; omega
    have:=hs m t (by omega) htn; omega)
   exact ⟨a,by omega,c,d⟩
  rw [oe hlt];exact ⟨Nat.le_refl _,h1,h3,fun t ht => h4 t (by omega)⟩
theorem kQ (f:Nat -> Itm) (p m:Nat):b7 f (p + m)=b7 f p ++ b7 (fun j => f (p + j)) m:=by
 unfold b7;rw [List.range_add,List.map_append,List.map_map];rfl
theorem pN (l:Lab) (f:Nat -> Itm) (i:Nat):D8 l (b7 f (i + 1))=D8 l (b7 f i) ++ if B1 l (f i).key=true then [f i] else []:=by
 have:b7 f (i + 1)=b7 f i ++ [f i]:=by simp [b7,List.range_succ]
 rw [this];unfold D8;rw [List.filter_append]
 congr 1
 cases h:B1 l (f i).key<;>simp [h]
theorem qP {f:Nat -> Itm} {n:Nat} {l:Lab} (hok:okF f n=true) (hki:∀ i,i < n -> U64 (f i).key) (hl:isL l=true) (hb:U64 l.bits) (h64:l.len ≠ 64) (hc:∀ i,i < n -> B1 l (f i).key=true) {p:Nat} (hp:p=bsF f (s4 l 1).bits 0 n) :
  p<=n/\D8 (s4 l 0) (b7 f n)=b7 f p/\D8 (s4 l 1) (b7 f n)=b7 (fun j => f (p + j)) (n - p):=by
 obtain ⟨_,h1,h2,h3⟩:=lw (f:=f) (n:=n) (key:=(s4 l 1).bits) (zi hok) n 0 n (by omega) (Nat.zero_le _) (Nat.le_refl _) (fun t ht => absurd ht (Nat.not_lt_zero _)) (fun t h1 h2 => absurd h2 (by omega));rw [<-hp] at h1 h2 h3;have hsp:=kQ f p (n - p);rw [show p + (n - p)=n by omega] at hsp;have cc:=fun i hi => uT hl hb h64 (hki i hi) (hc i hi)
 refine ⟨h1,?_,?_⟩
 .rw [hsp]
  unfold D8;rw [List.filter_append,List.filter_eq_self.2 (fun x hx => by
   obtain ⟨t,ht,rfl⟩:=aM hx;rw [(cc t (by omega)).1];exact decide_eq_true (h2 t ht)),List.filter_eq_nil_iff.2 (fun x hx => by
   obtain ⟨t,ht,rfl⟩:=aM hx;rw [(cc (p + t) (by omega)).1];have:=h3 (p + t) (by omega) (by omega);simp; omega),List.append_nil]
 rw [hsp];unfold D8;rw [List.filter_append,List.filter_eq_nil_iff.2 (fun x hx => by
  obtain ⟨t,ht,rfl⟩:=aM hx;rw [(cc t (by omega)).2];have:=h2 t ht;simp; omega),List.filter_eq_self.2 (fun x hx => by
  obtain ⟨t,ht,rfl⟩:=aM hx;rw [(cc (p + t) (by omega)).2];exact decide_eq_true (h3 (p + t) (by omega) (by omega))),List.nil_append]
theorem lj {l:Lab} {f:Nat -> Itm} {n:Nat}:(D8 l (b7 f n)).length=n ↔ ∀ i,i < n -> B1 l (f i).key=true:=by
 have:=AF (l:=l) (its:=b7 f n);rw [i3] at this;rw [this]
 constructor
 .intro h i hi
  exact h (f i) (List.mem_map.2 ⟨i,List.mem_range.2 hi,rfl⟩)
 intro h x hx;obtain ⟨t,ht,rfl⟩:=aM hx;exact h t ht
theorem mI {l:Lab} {b:Int} (hl:isL l=true) (h64:l.len ≠ 64):chE l b=0/\chV l b=s4 l b:=by
 have h:chE l b=0:=by
  unfold chE;rw [hl,if_neg (by decide),if_neg h64]
 exact ⟨h,by unfold chV; rw [if_pos h]⟩
theorem kV:j3 Tryz.prog 88:=fun _ _ => by kernel_rfl
theorem ar:j3 Tryz.prog 295:=fun _ _ => by kernel_rfl
theorem rv (A:Option Addr) (n c:Nat) (f:Nat -> Itm) (hn:n<=1000000) (kd:Int) (nx:Lab) (mk:Int) (l:Lab) (hb0:U64 l.bits) (hki:∀ i,i < n -> U64 (f i).key):j5 Tryz.prog 295 [Q2 A n c f kd nx mk,b6 l] (fun x => l4 (x.A 0) (D8 l (b7 f n)).length (x.c 0) (itF (D8 l (b7 f n)))):=by
 intro m w hm hargs;have hmx:maxLen=9223372036854775807:=rfl;unfold Q2 l4 at hargs;simp only [b6] at hargs;refine en 31 hm hargs Tryz.func295 fun B hB a0 hF => ?_
 refine wp_seq (rg hB a6 [2,3] [2,3] [] hF fun X0 a0 w1 hF => ?_);refine wp_seq (rg hB a6 [5,2,3] [2,3,5,29] [] hF fun X1 a0 w1 hF => ?_);refine wp_seq (wp_seq (rg hB a6 [5,6,2,3] [2,3,5,29] [] hF fun X2 a0 w1 hF => ?_));replace hF:=hF.headS (v':=.sl (some 5) none 0 0 2 (fun t => itC r7)) (zq0) rfl;refine wp_block (l0 (ι:=Nat × Nat × (Nat -> Itm) × Option Addr × Nat) (fun p => [(5,.sl (some 5) p.2.2.2.1 p.2.1 p.2.2.2.2 2 (fun t => itC (p.2.2.1 t))),(6,.int .i64 (p.1:Int))]) (fun p => []) (fun p => [(5,⟨p.2.2.2.1,p.2.1,p.2.2.2.2,2,62⟩)]) (fun p => p.1<=n/\p.2.1<=p.1/\b7 p.2.2.1 p.2.1=D8 l (b7 f p.1)) (fun p => n - p.1) (0,0,fun _ => r7,none,0) ⟨Nat.zero_le _,Nat.le_refl _,rfl⟩ hF ?_)
 rintro ⟨i,q,g,A1,c1⟩ ⟨hi,hq,hg⟩ a0 w1 hF
 try dsimp only at hi
 try dsimp only at hq
 try dsimp only at hg
 refine wp_seq (wp_seq (rg hB a6 [11,5,6,2,3] [2,3,5,29] [] hF (hob:=?hob) fun X3 a0 w1 hF => ?_))
 case hob =>
  intro X;subst hB
  repeat (first | exact trivial | refine ⟨rfl,?_⟩ | refine ⟨⟨show (0:Int)<=(i:Int) by omega,show (i:Int) < (n:Int) by omega⟩,?_⟩)
 apply a7 hF rfl<;>intro hb hF
 .have hin:i < n:=by
   have:(i:Int) < (n:Int):=by subst hB; simpa [std,a8] using hb
   omega
  have S:=Cz l hb0 (f i).key (hki i hin);simp only [b6] at S;obtain ⟨cq,hcq⟩:=eqv (B1 l (f i).key);rw [<-hcq] at S;refine wp_skip (wp_seq (wp_block (wp_seq (drg hB a6 [21,5,6,2,3] [2,3,5,29] [(7,.r fun _ => .bool (.v cq))] hF (hob:=?hob) fun X5 a0 w1 hF => ?_))))
  case hob =>
   intro X;subst hB
   repeat (first | exact trivial | refine ⟨rfl,?_⟩ | refine ⟨⟨show (0:Int)<=(i:Int) by omega,show (i:Int) < (n:Int) by omega⟩,?_⟩ | refine ⟨⟨uL,S⟩,?_⟩)
  apply a7 hF rfl<;>intro hb hF
  .have hct:cq=true:=hb
   rw [hct] at hcq;refine rg hB a6 [5,6,2,3] [2,3,5,29] [] hF (hob:=?hob) fun X6 a0 w1 hF => ?_
   case hob =>
    intro X;subst hB
    repeat (first | exact trivial | refine ⟨⟨rfl,rfl,rfl⟩,?_⟩ | refine ⟨rfl,?_⟩ | refine ⟨⟨show (0:Int)<=(i:Int) by omega,show (i:Int) < (n:Int) by omega⟩,?_⟩ | refine ⟨⟨show q + 1<=maxLen by omega,show (q + 1) * _<=_ by omega⟩,?_⟩)
   replace hF:=hF.headS (v':=.sl (some 5) ((X6 7).A 0) (B.nadd q 1) ((X6 7).c 0) 2 (fun t => itC (nQ g q (f i) t))) (Sim.resl rfl (fun t ht => by
    subst hB;have ht2:t < q + 1:=ht
    show F8 q (fun t => itC (g t)) (I4 2 [.int .u64 (f i).key,.str (f i).val]) t=_
    unfold F8 nQ
    split
    .rw [if_neg (by omega)]
    have:t=q:=by omega
    subst this;simp [I4,itC])) rfl
   refine rg hB a6 [5,6,2,3] [2,3,5,29] [] hF fun X4 a0 w1 hF => ?_
   have e:B.arith .add .i64 (i:Int) 1=((i + 1:Nat):Int):=by subst hB; exact j2 (n:=n) hin (by omega)
   refine ⟨(i + 1,q + 1,nQ g q (f i),_,_),⟨by simp only; omega,by simp only; omega,?_⟩,by simp only; omega,by rw [<-e,show q + 1=B.nadd q 1 by subst hB; rfl]; exact hF⟩
   simp only;rw [kP,hg,pN,if_pos hcq.symm]
  have hcf:cq=false:=hb;rw [hcf] at hcq;refine wp_skip (rg hB a6 [5,6,2,3] [2,3,5,29] [] hF fun X4 a0 w1 hF => ?_);have e:B.arith .add .i64 (i:Int) 1=((i + 1:Nat):Int):=by subst hB; exact j2 (n:=n) hin (by omega)
  refine ⟨(i + 1,q,g,_,_),⟨by simp only; omega,by simp only; omega,?_⟩,by simp only; omega,by rw [<-e]; exact hF⟩;simp only;rw [hg,pN,if_neg (by rw [<-hcq]; decide),List.append_nil]
 have hout:i=n:=by
  have:¬ (i:Int) < (n:Int):=by subst hB; simpa [std,a8] using hb
  omega
 rw [hout] at hg;refine wp_exit (wp_seq (rg hB a6 [4] [4,5,29] [] hF fun X7 a0 w1 hF => ?_));refine wp_ret ((rsi hB a6 hF (⟨0,fun _ => A1,fun _ => c1,fun _ => ⟨#[]⟩⟩) (he:=?_)));subst hB;exact Sim.resl (by rw [<-hg,i3]) (fun t ht => by rw [<-hg,i3] at ht; rw [<-hg,s9 _ _ t ht])
theorem uG:j3 Tryz.prog 308:=fun _ _ => by kernel_rfl
theorem Dc (b:Nat) (l:Lab) (hb0:U64 l.bits) (k:Int) (v:ByteArray) (hk:U64 k):u2 Tryz.prog 308 [.agg [.int .u64 k,.str v],.ptr 0 b 0] [(0,⟨b,24,[.int .i64 l.len,.int .u64 l.bits]⟩)] (fun _ => ⟨.bool (.v (!B1 l k)),[(0,[.int .i64 l.len,.int .u64 l.bits])],[]⟩):=by
 intro m w hm hargs hpre;have S:=BP l hb0 k hk;simp only [b6] at S
 generalize B1 l k=cq at S ⊢
 refine enX 9 hm hpre hargs Tryz.func308 fun B hB a0 hF => ?_
 refine wp_seq (rg hB a6 [1,2] [0,2] [] hF fun X0 a0 w1 hF => ?_);refine wp_seq (rg hB a6 [3] [0] [(3,.r fun _ => .bool (.v cq))] hF (hob:=?hob) fun X1 a0 w1 hF => ?_)
 case hob =>
  intro X;subst hB
  repeat (first | exact trivial | refine ⟨rfl,?_⟩ | refine ⟨fun _ => rfl,?_⟩ | refine ⟨f8 (Kk:=noK) _ _ _ _,?_⟩ | refine ⟨fun _ => f8 (Kk:=noK) _ _ _ _,?_⟩ | refine ⟨⟨pJ,S⟩,?_⟩ | refine ⟨fun _ => ⟨pJ,S⟩,?_⟩)
 refine wp_ret ((rx hB a6 hF f4 [] (he:=?_)).1);subst hB; exact Sim.bool rfl
theorem uM:j3 Tryz.prog 157:=fun _ _ => by kernel_rfl
theorem zP (b:Nat) (A:Option Addr) (n c:Nat) (f:Nat -> Itm) (hn:n<=1000000) (l:Lab) (hb0:U64 l.bits) (hki:∀ i,i < n -> U64 (f i).key):u2 Tryz.prog 157 [l4 A n c f,.fn 308 [] [.ptr 0 b 0]] [(0,⟨b,24,[.int .i64 l.len,.int .u64 l.bits]⟩)] (fun _ => ⟨.int .i64 (lG (fun t => !B1 l (f t).key) n),[(0,[.int .i64 l.len,.int .u64 l.bits])],[]⟩):=by
 intro m w hm hargs hpre;have hmx:maxLen=9223372036854775807:=rfl;unfold l4 at hargs;refine enX 19 hm hpre hargs Tryz.func157 fun B hB a0 hF => ?_
 refine wp_seq (rg hB a6 [0,1] [0] [] hF fun X0 a0 w1 hF => ?_);refine wp_seq (wp_seq (rg hB a6 [8,0,1,7] [0] [] hF fun X1 a0 w1 hF => ?_));refine wp_block (l0 (ι:=Nat) (fun p => [(8,.int .i64 (p:Int))]) (fun p => []) (fun p => []) (fun p => p<=n/\∀ t,t < p -> (!B1 l (f t).key)=false) (fun p => n - p) 0 ⟨Nat.zero_le _,fun t ht => absurd ht (Nat.not_lt_zero _)⟩ hF ?_)
 rintro i ⟨hi,hlt⟩ a0 w1 hF
 try dsimp only at hi
 try dsimp only at hlt
 refine wp_seq (rg hB a6 [9,8,0,1,7] [0] [] hF fun X2 a0 w1 hF => ?_);refine wp_seq (a7 hF rfl (fun hb hF => ?_) (fun hb hF => ?_))
 .have hin:i < n:=by
   have:(i:Int) < (n:Int):=by subst hB; simpa [std,a8] using hb
   omega
  have S:=Dc b l hb0 (f i).key (f i).val (hki i hin);obtain ⟨q,hq⟩:=eqv (!B1 l (f i).key);rw [<-hq] at S;refine wp_skip (wp_seq (wp_block (wp_seq (rg hB a6 [5,8,0,1,7] [0] [] hF fun X3 a0 w1 hF => ?_))));refine wp_seq (rg hB a6 [16,5,8,0,1,7] [0] [(5,.x fun _ => ⟨.bool (.v q),[(0,[.int .i64 l.len,.int .u64 l.bits])],[]⟩)] hF (hob:=?hob) fun X4 a0 w1 hF => ?_)
  case hob =>
   intro X;subst hB
   repeat (first | exact trivial | refine ⟨rfl,?_⟩ | refine ⟨⟨show (0:Int)<=(i:Int) by omega,show (i:Int) < (n:Int) by omega⟩,?_⟩ | refine ⟨⟨uG,S⟩,?_⟩)
  apply a7 hF rfl<;>intro hb hF
  .have hqt:q=true:=hb
   refine wp_seq (rg hB a6 [4] [0] [] hF fun X5 a0 w1 hF => ?_);refine wp_ret ((rx hB a6 hF f4 [] (he:=?_)).1);subst hB;rw [jv (p:=fun t => !B1 l (f t).key) hin hlt (by show (!B1 l (f i).key)=true; rw [<-hq]; exact hqt)];exact zr
  have hqf:q=false:=hb;refine wp_skip (rg hB a6 [8,0,1,7] [0] [] hF fun X6 a0 w1 hF => ?_);have e:B.arith .add .i64 (i:Int) 1=((i + 1:Nat):Int):=by subst hB; exact j2 (n:=n) hin (by omega)
  refine ⟨i + 1,⟨by omega,fun t ht => ?_⟩,by omega,by rw [<-e]; exact hF⟩
  by_cases h:t=i
  .rw [h,<-hq]; exact hqf
  exact hlt t (by omega)
 have hout:i=n:=by
  have:¬ (i:Int) < (n:Int):=by subst hB; simpa [std,a8] using hb
  omega
 rw [hout] at hlt;refine wp_exit (wp_seq (rg hB a6 [4] [0] [] hF fun X7 a0 w1 hF => ?_));refine wp_ret ((rx hB a6 hF f4 [] (he:=?_)).1);subst hB;rw [kI (p:=fun t => !B1 l (f t).key) hlt];exact zr
theorem pG:j3 Tryz.prog 90:=fun _ _ => by kernel_rfl
theorem zR (b:Nat) (A:Option Addr) (n c:Nat) (f:Nat -> Itm) (hn:n<=1000000) (l:Lab) (hb0:U64 l.bits) (hki:∀ i,i < n -> U64 (f i).key):u2 Tryz.prog 90 [l4 A n c f,.fn 308 [] [.ptr 0 b 0]] [(0,⟨b,24,[.int .i64 l.len,.int .u64 l.bits]⟩)] (fun _ => ⟨.bool (.v (!decide ((D8 l (b7 f n)).length=n))),[(0,[.int .i64 l.len,.int .u64 l.bits])],[]⟩):=by
 intro m w hm hargs hpre;have S:=zP b A n c f hn l hb0 hki;have HC:=mi (fun t => !B1 l (f t).key) n
 generalize (lG (fun t => !B1 l (f t).key) n)=ix at S HC
 unfold l4 at S hargs;refine enX 9 hm hpre hargs Tryz.func90 fun B hB a0 hF => ?_
 refine wp_seq (rg hB a6 [0,1] [0] [] hF fun X0 a0 w1 hF => ?_);refine wp_seq (rg hB a6 [4] [0] [(2,.x fun _ => ⟨.int .i64 ix,[(0,[.int .i64 l.len,.int .u64 l.bits])],[]⟩)] hF (hob:=?hob) fun X1 a0 w1 hF => ?_)
 case hob =>
  intro X;subst hB
  repeat (first | exact trivial | refine ⟨rfl,?_⟩ | refine ⟨⟨show (0:Int)<=(i:Int) by omega,show (i:Int) < (n:Int) by omega⟩,?_⟩ | refine ⟨⟨uM,S⟩,?_⟩)
 refine wp_ret ((rx hB a6 hF f4 [] (he:=?_)).1);subst hB;refine Sim.bool ?_
 show decide (ix ≥ 0) = !decide ((D8 l (b7 f n)).length=n)
 rw [decide_eq_decide.2 (lj (l:=l) (f:=f) (n:=n))]
 rcases HC with ⟨i,h1,h2,h3,h4⟩ | ⟨h1,h2⟩
 .have h5:¬ ∀ i,i < n -> B1 l (f i).key=true:=fun h => by have:=h i h1; simp [this] at h3
  rw [decide_eq_false h5,h2]; simp
 have h5:∀ i,i < n -> B1 l (f i).key=true:=fun i hi => by simpa using h2 i hi
 rw [decide_eq_true h5,h1]; rfl
theorem Dd (k0:Nat) (b:Nat) (A:Option Addr) (n c:Nat) (f:Nat -> Itm) (hn:n<=1000000) (l:Lab) (hb0:U64 l.bits) (hki:∀ i,i < n -> U64 (f i).key):u2 Tryz.prog 90 [l4 A n c f,.fn 308 [] [.ptr k0 b 0]] [(k0,⟨b,24,[.int .i64 l.len,.int .u64 l.bits]⟩)] (fun _ => ⟨.bool (.v (!decide ((D8 l (b7 f n)).length=n))),[(k0,[.int .i64 l.len,.int .u64 l.bits])],[]⟩):=
 (zR b A n c f hn l hb0 hki).re (by repeat (first | exact trivial | refine ⟨Sim.ptr,?_⟩ | refine ⟨Sim.fn ⟨Sim.ptr,trivial⟩ trivial,?_⟩ | refine ⟨Sim.fn trivial ⟨Sim.ptr,trivial⟩,?_⟩ | refine ⟨zr,?_⟩)) rfl (fun x => ⟨rfl,rfl,zr,rfl⟩)
theorem uB (A:Option Addr) (n c:Nat) (f:Nat -> Itm) (hn:n<=1000000) (kd:Int) (nx:Lab) (mk:Int) (hv:U64 nx.bits) (hki:∀ i,i < n -> U64 (f i).key) (l:Lab) (hb0:U64 l.bits) (hil:(L5 kd n f nx mk && isL l)=false):j5 Tryz.prog 287 [Q2 A n c f kd nx mk,b6 l] (fun x => .tup [iJ (x.A 0) (x.c 0) (I2 kd n f nx mk l).1,iJ (x.A 1) (x.c 1) (I2 kd n f nx mk l).2.1,.int .i64 (I2 kd n f nx mk l).2.2]):=by
 intro m w hm hargs;have hmx:maxLen=9223372036854775807:=rfl;have SI:=kH A n c f (by omega) kd nx mk hv;have SL:=gl l hb0;unfold Q2 l4 at SI hargs;simp only [b6] at SL hargs;obtain ⟨ir,hir⟩:=eqv (L5 kd n f nx mk);obtain ⟨il,hll⟩:=eqv (isL l);rw [<-hir] at SI hil;rw [<-hll] at SL hil;have hW:(I2 kd n f nx mk l)=(i8,i8,1):=by unfold I2; rw [<-hir,<-hll,hil]; rfl
 refine en 79 hm hargs Tryz.func287 fun B hB a0 hF => ?_
 refine wp_seq (rg hB a6 [2,3,4,5] [2,3,4,5] [] hF fun X0 a0 w1 hF => ?_);refine wp_seq (rg hB a6 [7,2,3,4,5] [2,3,4,5] [] hF fun X1 a0 w1 hF => ?_);refine wp_seq (wp_block (wp_seq (wp_region_lit (lpr 0 9 hB a6 [24,7,2,3,4,5] [2,3,4,5] [(1,.r fun _ => .bool (.v ir)),(5,.r fun _ => .bool (.v il))] hF (hob:=?hob) fun X2_0 a0 w1 hF => ?_))))
 case hob =>
  intro X;subst hB
  repeat (first | exact trivial | refine ⟨rfl,?_⟩ | refine ⟨fun _ => rfl,?_⟩ | refine ⟨f8 (Kk:=noK) _ _ _ _,?_⟩ | refine ⟨fun _ => f8 (Kk:=noK) _ _ _ _,?_⟩ | refine ⟨⟨aN,SI⟩,?_⟩ | refine ⟨fun _ => ⟨aN,SI⟩,?_⟩ | refine ⟨⟨Y7,SL⟩,?_⟩ | refine ⟨fun _ => ⟨Y7,SL⟩,?_⟩)
 replace hF:=hF.headS (v':=.bool .tt) (Sim.bool (by subst hB; show (if (!ir)=true then true else !il)=true; cases ir<;>cases il<;>first | rfl | (cases hil))) rfl;refine lnd 9 hB a6 [15,2,3,4,5] [2,3,4,5] [(1,.r fun _ => .bool (.v ir)),(5,.r fun _ => .bool (.v il))] hF (hob:=?hob) fun X2 a0 w1 hF => ?_
 case hob =>
  intro X;subst hB
  repeat (first | exact trivial | refine ⟨rfl,?_⟩ | refine ⟨fun _ => rfl,?_⟩ | refine ⟨f8 (Kk:=noK) _ _ _ _,?_⟩ | refine ⟨fun _ => f8 (Kk:=noK) _ _ _ _,?_⟩)
 refine j0 hF rfl (fun hF => ?_);refine wp_seq (rg hB a6 [4,5,6] [2,3,4,5] [] hF (hob:=?hob) fun X3 a0 w1 hF => ?_)
 case hob =>
  intro X;subst hB
  repeat (first | exact trivial | refine ⟨rfl,?_⟩ | refine ⟨fun _ => rfl,?_⟩ | refine ⟨f8 (Kk:=noK) _ _ _ _,?_⟩ | refine ⟨fun _ => f8 (Kk:=noK) _ _ _ _,?_⟩)
 refine wp_ret ((rsi hB a6 hF (⟨0,fun _ => none,fun _ => 0,fun _ => ⟨#[]⟩⟩) (he:=?_)));subst hB;rw [hW];exact Sim.tup ⟨Sim.agg ⟨zr,zq0,zr,zr,zr,trivial⟩,Sim.agg ⟨zr,zq0,zr,zr,zr,trivial⟩,zr,trivial⟩
theorem qO (A:Option Addr) (n c:Nat) (f:Nat -> Itm) (hn:n<=1000000) (kd:Int) (nx:Lab) (mk:Int) (hv:U64 nx.bits) (hki:∀ i,i < n -> U64 (f i).key) (l:Lab) (hb0:U64 l.bits) (hil:(L5 kd n f nx mk && isL l)=true):j5 Tryz.prog 287 [Q2 A n c f kd nx mk,b6 l] (fun x => .tup [iJ (x.A 0) (x.c 0) (I2 kd n f nx mk l).1,iJ (x.A 1) (x.c 1) (I2 kd n f nx mk l).2.1,.int .i64 (I2 kd n f nx mk l).2.2]):=by
 intro m w hm hargs;have hmx:maxLen=9223372036854775807:=rfl;have SI:=kH A n c f (by omega) kd nx mk hv;have SL:=gl l hb0;unfold Q2 l4 at SI hargs;simp only [b6] at SL hargs;obtain ⟨ir,hir⟩:=eqv (L5 kd n f nx mk);obtain ⟨il,hll⟩:=eqv (isL l);rw [<-hir] at SI hil;rw [<-hll] at SL hil;rw [Bool.and_eq_true] at hil;have hLt:isL l=true:=by rw [<-hll]; exact hil.2
 obtain ⟨hl0,hl1,hl2⟩:=s7 hLt;obtain ⟨hkd1,hkd5,hn16,hnl,hok⟩:=V5 (hir.symm.trans hil.1);refine en 79 hm hargs Tryz.func287 fun B hB a0 hF => ?_
 refine wp_seq (rg hB a6 [2,3,4,5] [2,3,4,5] [] hF fun X0 a0 w1 hF => ?_);refine wp_seq (rg hB a6 [7,2,3,4,5] [2,3,4,5] [] hF fun X1 a0 w1 hF => ?_);have SC:=Dd 3 (X0 1).b A n c f hn l hb0 hki;obtain ⟨ca,hca⟩:=eqv (decide ((D8 l (b7 f n)).length=n));rw [<-hca] at SC;unfold l4 at SC;refine wp_seq (wp_block (wp_seq (wp_region_lit (lpr 0 9 hB a6 [24,7,2,3,4,5] [2,3,4,5] [(1,.r fun _ => .bool (.v ir)),(5,.r fun _ => .bool (.v il)),(12,.x fun _ => ⟨.bool (.v (!ca)),[(3,[.int .i64 l.len,.int .u64 l.bits])],[]⟩)] hF (hob:=?hob) fun X2_0 a0 w1 hF => ?_))))
 case hob =>
  intro X;subst hB
  repeat (first | exact trivial | refine ⟨rfl,?_⟩ | refine ⟨fun _ => rfl,?_⟩ | refine ⟨f8 (Kk:=noK) _ _ _ _,?_⟩ | refine ⟨fun _ => f8 (Kk:=noK) _ _ _ _,?_⟩ | refine ⟨⟨aN,SI⟩,?_⟩ | refine ⟨fun _ => ⟨aN,SI⟩,?_⟩ | refine ⟨⟨Y7,SL⟩,?_⟩ | refine ⟨fun _ => ⟨Y7,SL⟩,?_⟩)
 replace hF:=hF.headS (v':=.bool .ff) (Sim.bool (by subst hB; show (if (!ir)=true then true else !il)=false; rw [hil.1,hil.2]; rfl)) rfl;refine lnd 9 hB a6 [15,2,3,4,5] [2,3,4,5] [(1,.r fun _ => .bool (.v ir)),(5,.r fun _ => .bool (.v il)),(12,.x fun _ => ⟨.bool (.v (!ca)),[(3,[.int .i64 l.len,.int .u64 l.bits])],[]⟩)] hF (hob:=?hob) fun X2 a0 w1 hF => ?_
 case hob =>
  intro X;subst hB
  repeat (first | exact trivial | refine ⟨rfl,?_⟩ | refine ⟨fun _ => rfl,?_⟩ | refine ⟨f8 (Kk:=noK) _ _ _ _,?_⟩ | refine ⟨fun _ => f8 (Kk:=noK) _ _ _ _,?_⟩ | refine ⟨⟨pG,SC⟩,?_⟩ | refine ⟨fun _ => ⟨pG,SC⟩,?_⟩)
 apply a7 hF rfl<;>intro hb hF
 .have hcf:ca=false:=by
   have h9:(!ca)=true:=by subst hB; exact hb
   cases ca<;>first | rfl | (cases h9)
  have hW:(I2 kd n f nx mk l)=(i8,i8,1):=by unfold I2; rw [<-hir,<-hll,<-hca,hil.1,hil.2,hcf]; rfl
  refine wp_seq (rg hB a6 [4,5,6] [2,3,4,5] [] hF (hob:=?hob) fun X3 a0 w1 hF => ?_)
  case hob =>
   intro X;subst hB
   repeat (first | exact trivial | refine ⟨rfl,?_⟩ | refine ⟨fun _ => rfl,?_⟩ | refine ⟨f8 (Kk:=noK) _ _ _ _,?_⟩ | refine ⟨fun _ => f8 (Kk:=noK) _ _ _ _,?_⟩)
  refine wp_ret ((rsi hB a6 hF (⟨0,fun _ => none,fun _ => 0,fun _ => ⟨#[]⟩⟩) (he:=?_)));subst hB;rw [hW];exact Sim.tup ⟨Sim.agg ⟨zr,zq0,zr,zr,zr,trivial⟩,Sim.agg ⟨zr,zq0,zr,zr,zr,trivial⟩,zr,trivial⟩
 have hct:ca=true:=by
  have h9:(!ca)=false:=by subst hB; exact hb
  cases ca<;>first | rfl | (cases h9)
 have hcn:=of_decide_eq_true (hca.symm.trans hct);have hcc:=lj.1 hcn;refine wp_seq (rg hB a6 [32,2,3,4,5] [2,3,4,5] [] hF fun X4 a0 w1 hF => ?_);apply a7 hF rfl<;>intro hb hF
 .have h9:(if (!decide (kd=1))=true then !decide (kd=3) else false)=true:=by subst hB; exact hb
  have hk:kd ≠ 1/\kd ≠ 3:=by
   rw [A8] at h9
   simpa using h9
  have hW:(I2 kd n f nx mk l)=(i8,i8,13):=by unfold I2; rw [<-hir,<-hll,<-hca,hil.1,hil.2,hct,if_neg (by decide),if_pos hk]
  refine wp_seq (rg hB a6 [4,5,6] [2,3,4,5] [] hF (hob:=?hob) fun X5 a0 w1 hF => ?_)
  case hob =>
   intro X;subst hB
   repeat (first | exact trivial | refine ⟨rfl,?_⟩ | refine ⟨fun _ => rfl,?_⟩ | refine ⟨f8 (Kk:=noK) _ _ _ _,?_⟩ | refine ⟨fun _ => f8 (Kk:=noK) _ _ _ _,?_⟩)
  refine wp_ret ((rsi hB a6 hF (⟨0,fun _ => none,fun _ => 0,fun _ => ⟨#[]⟩⟩) (he:=?_)));subst hB;rw [hW];exact Sim.tup ⟨Sim.agg ⟨zr,zq0,zr,zr,zr,trivial⟩,Sim.agg ⟨zr,zq0,zr,zr,zr,trivial⟩,zr,trivial⟩
 have h9:(if (!decide (kd=1))=true then !decide (kd=3) else false)=false:=by subst hB; exact hb
 have hk:¬ (kd ≠ 1/\kd ≠ 3):=by
  intro h;rw [A8] at h9;simp [h.1,h.2] at h9
 refine wp_seq (rg hB a6 [43,2,3,4,5] [2,3,4,5] [] hF (hob:=?hob) fun X6 a0 w1 hF => ?_)
 case hob =>
  intro X;subst hB
  repeat (first | exact trivial | refine ⟨rfl,?_⟩ | refine ⟨fun _ => rfl,?_⟩ | refine ⟨f8 (Kk:=noK) _ _ _ _,?_⟩ | refine ⟨fun _ => f8 (Kk:=noK) _ _ _ _,?_⟩)
 apply a7 hF rfl<;>intro hb hF
 .have h64:l.len=64:=by subst hB; simpa [std,a8] using hb
  have hW:(I2 kd n f nx mk l)=(i8,i8,5):=by unfold I2; rw [<-hir,<-hll,<-hca,hil.1,hil.2,hct,if_neg (by decide),if_neg hk,if_pos h64]
  refine wp_seq (rg hB a6 [4,5,6] [2,3,4,5] [] hF (hob:=?hob) fun X7 a0 w1 hF => ?_)
  case hob =>
   intro X;subst hB
   repeat (first | exact trivial | refine ⟨rfl,?_⟩ | refine ⟨fun _ => rfl,?_⟩ | refine ⟨f8 (Kk:=noK) _ _ _ _,?_⟩ | refine ⟨fun _ => f8 (Kk:=noK) _ _ _ _,?_⟩)
  refine wp_ret ((rsi hB a6 hF (⟨0,fun _ => none,fun _ => 0,fun _ => ⟨#[]⟩⟩) (he:=?_)));subst hB;rw [hW];exact Sim.tup ⟨Sim.agg ⟨zr,zq0,zr,zr,zr,trivial⟩,Sim.agg ⟨zr,zq0,zr,zr,zr,trivial⟩,zr,trivial⟩
 have h64:l.len ≠ 64:=by subst hB; simpa [std,a8] using hb
 obtain ⟨k,hk1⟩:=eqv (s4 l 1);have SCH:=eL l hb0 1 (.inr rfl);rw [(mI (b:=1) hLt h64).1,(mI (b:=1) hLt h64).2,<-hk1] at SCH;simp only [b6] at SCH;have SA:=GD A n c f hn k.bits;obtain ⟨p,hp⟩:=eqv (bsF f k.bits 0 n);rw [<-hp] at SA;rw [hk1] at hp;obtain ⟨hpn,hc0,hc1⟩:=qP hok hki hLt hb0 h64 hcc hp
 generalize uz f k.bits n p=hh at SA
 unfold l4 at SA;have hW:(I2 kd n f nx mk l)=(⟨1,D8 (s4 l 0) (b7 f n),s4 l 1,0⟩,⟨1,D8 (s4 l 1) (b7 f n),nx,0⟩,0):=by unfold I2; rw [<-hir,<-hll,<-hca,hil.1,hil.2,hct,if_neg (by decide),if_neg hk,if_neg h64]
 rw [hc0,hc1,<-hk1] at hW;have SC0:=fun A c => clone_sf A p c f (by omega)
 obtain ⟨r,hr⟩:=eqv (n - p);rw [<-hr] at hW;have SC1:=fun A c => clone_sf A r c (fun j => f (p + j)) (by omega)
 unfold l4 at SC0 SC1;refine wp_skip (wp_seq (rg hB a6 [2,4,5,8] [2,8,4,5] [(1,.r fun _ => .tup [.agg [.int .i64 k.len,.int .u64 k.bits],.int .i64 0])] hF (hob:=?hob) fun X8 a0 w1 hF => ?_))
 case hob =>
  intro X;subst hB
  repeat (first | exact trivial | refine ⟨rfl,?_⟩ | refine ⟨fun _ => rfl,?_⟩ | refine ⟨f8 (Kk:=noK) _ _ _ _,?_⟩ | refine ⟨fun _ => f8 (Kk:=noK) _ _ _ _,?_⟩ | refine ⟨⟨mE,SCH⟩,?_⟩ | refine ⟨fun _ => ⟨mE,SCH⟩,?_⟩)
 refine wp_seq (rg hB a6 [2,4,5,8,10] [2,8,4,5] [(4,.r fun _ => .tup [.int .i64 (p:Int),.bool (.v hh)])] hF (hob:=?hob) fun X9 a0 w1 hF => ?_)
 case hob =>
  intro X;subst hB
  repeat (first | exact trivial | refine ⟨rfl,?_⟩ | refine ⟨fun _ => rfl,?_⟩ | refine ⟨f8 (Kk:=noK) _ _ _ _,?_⟩ | refine ⟨fun _ => f8 (Kk:=noK) _ _ _ _,?_⟩ | refine ⟨⟨mC,SA⟩,?_⟩ | refine ⟨fun _ => ⟨mC,SA⟩,?_⟩)
 refine wp_seq (drg hB a6 [2,4,5,8,10,12] [2,8,12,4,5] [(4,.r fun x => .sl none (x.A 0) p (x.c 0) 2 (fun i => itC (f i)))] hF (hob:=?hob) fun X10 a0 w1 hF => ?_)
 case hob =>
  intro X;subst hB;refine ⟨rfl,?_⟩;refine ⟨⟨Int.le_refl _,show (0:Int)<=(p:Int) by omega,show (p:Int)<=(n:Int) by omega⟩,?_⟩
  refine ⟨⟨kV,(SC0 _ _).sim ⟨Sim.resl (Nat.sub_zero p) (fun i hi => by show itC (f (0 + i))=itC (f i); rw [Nat.zero_add]),trivial⟩⟩,?_⟩
  repeat (first | exact trivial | refine ⟨rfl,?_⟩ | refine ⟨⟨kV,(SC0 _ _).sim ⟨Sim.resl (Nat.sub_zero p) (fun i hi => by show itC (f (0 + i))=itC (f i); rw [Nat.zero_add]),trivial⟩⟩,?_⟩ | refine ⟨⟨Int.le_refl _,show (0:Int)<=(p:Int) by omega,show (p:Int)<=(n:Int) by omega⟩,?_⟩ | refine ⟨⟨show (0:Int)<=0 by omega,show (0:Int)<=(p:Int) by omega,show (p:Int)<=(c:Int) by omega⟩,?_⟩)
 refine wp_seq (drg hB a6 [4,5,12,13] [12,13,4,5] [(4,.r fun x => .sl none (x.A 0) r (x.c 0) 2 (fun i => itC (f (p + i))))] hF (hob:=?hob) fun X11 a0 w1 hF => ?_)
 case hob =>
  intro X;subst hB
  repeat (first | exact trivial | refine ⟨rfl,?_⟩ | refine ⟨⟨kV,(SC1 _ _).sim ⟨Sim.resl (show _=r by rw [hr]; rfl) (fun i hi => rfl),trivial⟩⟩,?_⟩ | refine ⟨⟨show (0:Int)<=(p:Int) by omega,show (p:Int)<=(n:Int) by omega,Int.le_refl _⟩,?_⟩)
 refine wp_seq (drg hB a6 [4,5,6] [4,5] [] hF (hob:=?hob) fun X12 a0 w1 hF => ?_)
 case hob =>
  intro X;subst hB
  repeat (first | exact trivial | refine ⟨rfl,?_⟩ | refine ⟨fun _ => rfl,?_⟩ | refine ⟨f8 (Kk:=noK) _ _ _ _,?_⟩ | refine ⟨fun _ => f8 (Kk:=noK) _ _ _ _,?_⟩)
 refine wp_ret ((rsi hB a6 hF (⟨0,fun i => if i=0 then (X10 4).A 0 else (X11 4).A 0,fun i => if i=0 then (X10 4).c 0 else (X11 4).c 0,fun _ => ⟨#[]⟩⟩) (he:=?_)));subst hB;rw [hW];exact Sim.tup ⟨Sim.agg ⟨zr,Sim.resl (i3 f p).symm (fun t ht => by rw [i3] at ht; rw [s9 f p t ht]),zr,zr,zr,trivial⟩,Sim.agg ⟨zr,Sim.resl (i3 _ r).symm (fun t ht => by rw [i3] at ht; rw [s9 _ r t ht]),zr,zr,zr,trivial⟩,zr,trivial⟩
theorem tU (A:Option Addr) (n c:Nat) (f:Nat -> Itm) (hn:n<=1000000) (kd:Int) (nx:Lab) (mk:Int) (hv:U64 nx.bits) (hki:∀ i,i < n -> U64 (f i).key) (l:Lab) (hb0:U64 l.bits):j5 Tryz.prog 260 [Q2 A n c f kd nx mk,b6 l] (fun x => .tup [iJ (x.A 0) (x.c 0) (I2 kd n f nx mk l).1,iJ (x.A 1) (x.c 1) (I2 kd n f nx mk l).2.1,.int .i64 (I2 kd n f nx mk l).2.2]):=by
 intro m w hm hargs;have hmx:maxLen=9223372036854775807:=rfl;have SI:=nm A n c f (by omega) kd nx mk hv;have SL:=gP l hb0;have SV:=rv A n c f hn kd nx mk l hb0 hki;unfold Q2 l4 at SI SV hargs;simp only [b6] at SL SV hargs;obtain ⟨ir,hir⟩:=eqv (L5 kd n f nx mk);obtain ⟨il,hll⟩:=eqv (isL l);rw [<-hir] at SI;rw [<-hll] at SL;obtain ⟨n1,hn1⟩:=eqv ((D8 l (b7 f n)).length);obtain ⟨g1,hg1⟩:=eqv (itF (D8 l (b7 f n)));rw [<-hn1,<-hg1] at SV;refine en 71 hm hargs Tryz.func260 fun B hB a0 hF => ?_
 refine wp_seq (rg hB a6 [2,3,4,5] [2,3,4,5] [] hF fun X0 a0 w1 hF => ?_);refine wp_seq (wp_seq (drg hB a6 [30,2,3,4,5] [2,3,4,5] [(1,.r fun _ => .bool (.v ir)),(5,.r fun _ => .bool (.v il)),(11,.r fun x => .sl none (x.A 0) n1 (x.c 0) 2 (fun i => itC (g1 i)))] hF (hob:=?hob) fun X1 a0 w1 hF => ?_))
 case hob =>
  intro X;subst hB
  repeat (first | exact trivial | refine ⟨rfl,?_⟩ | refine ⟨fun _ => rfl,?_⟩ | refine ⟨f8 (Kk:=noK) _ _ _ _,?_⟩ | refine ⟨fun _ => f8 (Kk:=noK) _ _ _ _,?_⟩ | refine ⟨⟨aw,SI⟩,?_⟩ | refine ⟨fun _ => ⟨aw,SI⟩,?_⟩ | refine ⟨⟨au,SL⟩,?_⟩ | refine ⟨fun _ => ⟨au,SL⟩,?_⟩ | refine ⟨⟨ar,SV⟩,?_⟩ | refine ⟨fun _ => ⟨ar,SV⟩,?_⟩)
 apply a7 hF rfl<;>intro hb hF
 .have h9:(if (if (!ir)=true then true else !il)=true then true else !decide ((n1:Int)=(n:Int)))=true:=by subst hB; exact hb
  have hW:(I2 kd n f nx mk l)=(i8,i8,1):=by
   unfold I2; rw [<-hir,<-hll,<-hn1];have:(ir && il && decide (n1=n))=false:=by
    cases ir<;>cases il<;>first | rfl | (simp at h9 ⊢; omega)
   rw [this]; rfl
  refine wp_seq (rg hB a6 [4,5,6] [4,5] [] hF (hob:=?hob) fun X2 a0 w1 hF => ?_)
  case hob =>
   intro X;subst hB
   repeat (first | exact trivial | refine ⟨rfl,?_⟩ | refine ⟨fun _ => rfl,?_⟩ | refine ⟨f8 (Kk:=noK) _ _ _ _,?_⟩ | refine ⟨fun _ => f8 (Kk:=noK) _ _ _ _,?_⟩)
  refine wp_ret ((rsi hB a6 hF (⟨0,fun _ => none,fun _ => 0,fun _ => ⟨#[]⟩⟩) (he:=?_)));subst hB;rw [hW];exact Sim.tup ⟨Sim.agg ⟨zr,zq0,zr,zr,zr,trivial⟩,Sim.agg ⟨zr,zq0,zr,zr,zr,trivial⟩,zr,trivial⟩
 have h9:(if (if (!ir)=true then true else !il)=true then true else !decide ((n1:Int)=(n:Int)))=false:=by subst hB; exact hb
 have hirt:ir=true:=by cases ir<;>first | rfl | (simp at h9)
 have hilt:il=true:=by rw [hirt] at h9; cases il<;>first | rfl | (simp at h9)
 have hnn:n1=n:=by
  rw [hirt,hilt] at h9;simp at h9;omega
 have hLt:isL l=true:=by rw [<-hll]; exact hilt
 obtain ⟨hl0,hl1,hl2⟩:=s7 hLt;obtain ⟨hkd1,hkd5,hn16,hnl,hok⟩:=V5 (hir.symm.trans hirt);have hcn:(D8 l (b7 f n)).length=n:=by rw [<-hn1]; exact hnn
 refine wp_skip (wp_seq (wp_seq (rg hB a6 [40,2,3,4,5] [2,3,4,5] [] hF fun X3 a0 w1 hF => ?_)));apply a7 hF rfl<;>intro hb hF
 .have h9:(if (!decide (kd=1))=true then !decide (kd=3) else false)=true:=by subst hB; exact hb
  have hk:kd ≠ 1/\kd ≠ 3:=by
   rw [A8] at h9
   simpa using h9
  have hW:(I2 kd n f nx mk l)=(i8,i8,13):=by unfold I2; rw [<-hir,<-hll,hcn,hirt,hilt,decide_eq_true rfl,if_neg (by decide),if_pos hk]
  refine wp_seq (rg hB a6 [4,5,6] [4,5] [] hF (hob:=?hob) fun X4 a0 w1 hF => ?_)
  case hob =>
   intro X;subst hB
   repeat (first | exact trivial | refine ⟨rfl,?_⟩ | refine ⟨fun _ => rfl,?_⟩ | refine ⟨f8 (Kk:=noK) _ _ _ _,?_⟩ | refine ⟨fun _ => f8 (Kk:=noK) _ _ _ _,?_⟩)
  refine wp_ret ((rsi hB a6 hF (⟨0,fun _ => none,fun _ => 0,fun _ => ⟨#[]⟩⟩) (he:=?_)));subst hB;rw [hW];exact Sim.tup ⟨Sim.agg ⟨zr,zq0,zr,zr,zr,trivial⟩,Sim.agg ⟨zr,zq0,zr,zr,zr,trivial⟩,zr,trivial⟩
 have h9:(if (!decide (kd=1))=true then !decide (kd=3) else false)=false:=by subst hB; exact hb
 have hk:¬ (kd ≠ 1/\kd ≠ 3):=by
  intro h;rw [A8] at h9;simp [h.1,h.2] at h9
 refine wp_skip (wp_seq (wp_seq (rg hB a6 [45,2,3,4,5] [2,3,4,5] [] hF (hob:=?hob) fun X5 a0 w1 hF => ?_)))
 case hob =>
  intro X;subst hB
  repeat (first | exact trivial | refine ⟨rfl,?_⟩ | refine ⟨fun _ => rfl,?_⟩ | refine ⟨f8 (Kk:=noK) _ _ _ _,?_⟩ | refine ⟨fun _ => f8 (Kk:=noK) _ _ _ _,?_⟩)
 apply a7 hF rfl<;>intro hb hF
 .have h64:l.len=64:=by subst hB; simpa [std,a8] using hb
  have hW:(I2 kd n f nx mk l)=(i8,i8,5):=by unfold I2; rw [<-hir,<-hll,hcn,hirt,hilt,decide_eq_true rfl,if_neg (by decide),if_neg hk,if_pos h64]
  refine wp_seq (rg hB a6 [4,5,6] [4,5] [] hF (hob:=?hob) fun X6 a0 w1 hF => ?_)
  case hob =>
   intro X;subst hB
   repeat (first | exact trivial | refine ⟨rfl,?_⟩ | refine ⟨fun _ => rfl,?_⟩ | refine ⟨f8 (Kk:=noK) _ _ _ _,?_⟩ | refine ⟨fun _ => f8 (Kk:=noK) _ _ _ _,?_⟩)
  refine wp_ret ((rsi hB a6 hF (⟨0,fun _ => none,fun _ => 0,fun _ => ⟨#[]⟩⟩) (he:=?_)));subst hB;rw [hW];exact Sim.tup ⟨Sim.agg ⟨zr,zq0,zr,zr,zr,trivial⟩,Sim.agg ⟨zr,zq0,zr,zr,zr,trivial⟩,zr,trivial⟩
 have h64:l.len ≠ 64:=by subst hB; simpa [std,a8] using hb
 obtain ⟨k0,hk0⟩:=eqv (s4 l 0);have SCH0:=Q5 l hb0 0 (by decide);rw [(mI (b:=0) hLt h64).1,(mI (b:=0) hLt h64).2,<-hk0] at SCH0;have SV0:=rv A n c f hn kd nx mk k0 (by rw [hk0]; exact cQ hLt hb0 h64 0) hki;obtain ⟨m0,hm0⟩:=eqv ((D8 k0 (b7 f n)).length);obtain ⟨h0,hh0⟩:=eqv (itF (D8 k0 (b7 f n)));rw [<-hm0,<-hh0] at SV0;unfold Q2 l4 at SV0;simp only [b6] at SCH0 SV0;obtain ⟨k1,hk1⟩:=eqv (s4 l 1);have SCH1:=Q5 l hb0 1 (by decide);rw [(mI (b:=1) hLt h64).1,(mI (b:=1) hLt h64).2,<-hk1] at SCH1;have SV1:=rv A n c f hn kd nx mk k1 (by rw [hk1]; exact cQ hLt hb0 h64 1) hki;obtain ⟨m1,hm1⟩:=eqv ((D8 k1 (b7 f n)).length);obtain ⟨h1,hh1⟩:=eqv (itF (D8 k1 (b7 f n)));rw [<-hm1,<-hh1] at SV1;unfold Q2 l4 at SV1;simp only [b6] at SCH1 SV1;have hW:(I2 kd n f nx mk l)=(⟨1,D8 k0 (b7 f n),k1,0⟩,⟨1,D8 k1 (b7 f n),nx,0⟩,0):=by unfold I2; rw [<-hir,<-hll,hcn,hirt,hilt,decide_eq_true rfl,if_neg (by decide),if_neg hk,if_neg h64,hk0,hk1]
 refine wp_skip (wp_seq (rg hB a6 [2,3,4,5,7] [2,3,4,5,7] [(1,.r fun _ => .tup [.agg [.int .i64 k0.len,.int .u64 k0.bits],.int .i64 0])] hF (hob:=?hob) fun X7 a0 w1 hF => ?_))
 case hob =>
  intro X;subst hB
  repeat (first | exact trivial | refine ⟨rfl,?_⟩ | refine ⟨fun _ => rfl,?_⟩ | refine ⟨f8 (Kk:=noK) _ _ _ _,?_⟩ | refine ⟨fun _ => f8 (Kk:=noK) _ _ _ _,?_⟩ | refine ⟨⟨eD,SCH0⟩,?_⟩ | refine ⟨fun _ => ⟨eD,SCH0⟩,?_⟩)
 refine wp_seq (rg hB a6 [2,4,5,7,9] [2,4,5,7,9] [(1,.r fun _ => .tup [.agg [.int .i64 k1.len,.int .u64 k1.bits],.int .i64 0])] hF (hob:=?hob) fun X8 a0 w1 hF => ?_)
 case hob =>
  intro X;subst hB
  repeat (first | exact trivial | refine ⟨rfl,?_⟩ | refine ⟨fun _ => rfl,?_⟩ | refine ⟨f8 (Kk:=noK) _ _ _ _,?_⟩ | refine ⟨fun _ => f8 (Kk:=noK) _ _ _ _,?_⟩ | refine ⟨⟨eD,SCH1⟩,?_⟩ | refine ⟨fun _ => ⟨eD,SCH1⟩,?_⟩)
 refine wp_seq (drg hB a6 [2,4,5,9,11] [2,4,5,9,11] [(2,.r fun x => .sl none (x.A 0) m0 (x.c 0) 2 (fun i => itC (h0 i)))] hF (hob:=?hob) fun X9 a0 w1 hF => ?_)
 case hob =>
  intro X;subst hB
  repeat (first | exact trivial | refine ⟨rfl,?_⟩ | refine ⟨fun _ => rfl,?_⟩ | refine ⟨f8 (Kk:=noK) _ _ _ _,?_⟩ | refine ⟨fun _ => f8 (Kk:=noK) _ _ _ _,?_⟩ | refine ⟨⟨ar,SV0⟩,?_⟩ | refine ⟨fun _ => ⟨ar,SV0⟩,?_⟩)
 refine wp_seq (drg hB a6 [4,5,11,12] [4,5,11,12] [(2,.r fun x => .sl none (x.A 0) m1 (x.c 0) 2 (fun i => itC (h1 i)))] hF (hob:=?hob) fun X10 a0 w1 hF => ?_)
 case hob =>
  intro X;subst hB
  repeat (first | exact trivial | refine ⟨rfl,?_⟩ | refine ⟨fun _ => rfl,?_⟩ | refine ⟨f8 (Kk:=noK) _ _ _ _,?_⟩ | refine ⟨fun _ => f8 (Kk:=noK) _ _ _ _,?_⟩ | refine ⟨⟨ar,SV1⟩,?_⟩ | refine ⟨fun _ => ⟨ar,SV1⟩,?_⟩)
 refine wp_seq (drg hB a6 [4,5,6] [4,5] [] hF (hob:=?hob) fun X11 a0 w1 hF => ?_)
 case hob =>
  intro X;subst hB
  repeat (first | exact trivial | refine ⟨rfl,?_⟩ | refine ⟨fun _ => rfl,?_⟩ | refine ⟨f8 (Kk:=noK) _ _ _ _,?_⟩ | refine ⟨fun _ => f8 (Kk:=noK) _ _ _ _,?_⟩)
 refine wp_ret ((rsi hB a6 hF (⟨0,fun i => if i=0 then (X9 2).A 0 else (X10 2).A 0,fun i => if i=0 then (X9 2).c 0 else (X10 2).c 0,fun _ => ⟨#[]⟩⟩) (he:=?_)));subst hB;rw [hW];exact Sim.tup ⟨Sim.agg ⟨zr,Sim.resl hm0 (fun t ht => by rw [hh0]),zr,zr,zr,trivial⟩,Sim.agg ⟨zr,Sim.resl hm1 (fun t ht => by rw [hh1]),zr,zr,zr,trivial⟩,zr,trivial⟩
theorem jk {n:Nat} {m:Bool} (h:(if decide ((n:Int) > 0)=true then m else false)=true):0 < n/\m=true:=by
 rw [A8,Bool.and_eq_true,decide_eq_true_eq] at h;exact ⟨by omega,h.2⟩
theorem yz {n N:Nat} (hn:n<=1000) (h:(if decide ((n:Int) > 0)=true then decide ((n:Int) < (N:Int)) else false)=true):0<=IntKind.i64.wrap ((n:Int) - 1)/\IntKind.i64.wrap ((n:Int) - 1) < (N:Int):=by
 obtain ⟨h1,h2⟩:=jk h;have h2:=of_decide_eq_true h2;rw [r8 (by omega) (by omega)];omega
theorem yy {n N:Nat} (h:(if decide ((n:Int) > 0)=true then decide ((n:Int) < (N:Int)) else false)=true):0<=(n:Int)/\(n:Int) < (N:Int):=by
 obtain ⟨h1,h2⟩:=jk h;have h2:=of_decide_eq_true h2;omega
theorem yx {n n2:Nat} (hn:n<=1000) (h:(if decide ((n:Int) > 0)=true then decide ((n2:Int) > 0) else false)=true):0<=IntKind.i64.wrap ((n:Int) - 1)/\IntKind.i64.wrap ((n:Int) - 1) < (n:Int):=by
 obtain ⟨h1,h2⟩:=jk h;rw [r8 (by omega) (by omega)];omega
theorem yw {n n2:Nat} (h:(if decide ((n:Int) > 0)=true then decide ((n2:Int) > 0) else false)=true):0<=(0:Int)/\(0:Int) < (n2:Int):=by
 obtain ⟨h1,h2⟩:=jk h;have h2:=of_decide_eq_true h2;omega
def je (n:Nat) (f f2:Nat -> Itm):Nat -> Itm:=fun t => if t < n then f t else f2 (t - n)
def nZ (NN:Nat -> Nat) (FF:Nat -> Nat -> Itm) (k:Nat):List Itm:=(List.range k).flatMap fun i => b7 (FF i) (NN i)
theorem mJ (NN:Nat -> Nat) (FF:Nat -> Nat -> Itm) (k:Nat):nZ NN FF (k + 1)=nZ NN FF k ++ b7 (FF k) (NN k):=by simp [nZ,List.range_succ]
theorem xW (n n2:Nat) (f f2:Nat -> Itm):nZ (fun i => if i=0 then n else n2) (fun i => if i=0 then f else f2) 2=b7 f n ++ b7 f2 n2:=by simp [nZ,List.range_succ]
theorem iU (q m:Nat) (g h:Nat -> Itm):b7 (je q g h) (q + m)=b7 g q ++ b7 h m:=by
 rw [kQ]
 congr 1
 .unfold b7 je
  apply List.map_congr_left;intro t ht;rw [if_pos (List.mem_range.1 ht)]
 unfold b7 je;apply List.map_congr_left;intro t ht;rw [if_neg (by omega)]
 congr 1
 omega
theorem rz (f:Nat -> Itm) (n:Nat) (f2:Nat -> Itm) (n2 t:Nat) (h:t < n + n2):itF (b7 f n ++ b7 f2 n2) t=je n f f2 t:=by
 rw [<-iU,s9 _ _ t h]
theorem zg (f:Nat -> Itm) (n:Nat) (f2:Nat -> Itm) (n2:Nat) (hn:n<=1000) (hn2:n2<=1000) {b:Bool}:(if b=true then true else (if (if decide ((n:Int) > 0)=true then decide ((n:Int) < ((n + n2:Nat):Int)) else false)=true then decide ((itF (b7 f n ++ b7 f2 n2) (IntKind.i64.wrap ((n:Int) - 1)).toNat).key ≥ (itF (b7 f n ++ b7 f2 n2) (n:Int).toNat).key) else false))=(if b=true then true else ovl n f n2 f2):=by
 congr 1
 unfold ovl
 by_cases h1:0 < n
 .by_cases h2:0 < n2
  .have e1:IntKind.i64.wrap ((n:Int) - 1)=(n:Int) - 1:=r8 (by omega) (by omega)
   rw [e1,Int.toNat_natCast,show ((n:Int) - 1).toNat=n - 1 by omega,rz _ _ _ _ _ (show n - 1 < n + n2 by omega),rz _ _ _ _ _ (show n < n + n2 by omega)];have c1:je n f f2 (n - 1)=f (n - 1):=by unfold je; rw [if_pos (by omega)]
   have c2:je n f f2 n=f2 0:=by unfold je; rw [if_neg (by omega),Nat.sub_self]
   rw [c1,c2];have a:decide ((n:Int) > 0)=true:=by simp; omega
   have b:decide ((n:Int) < ((n + n2:Nat):Int))=true:=by simp; omega
   rw [a,b,decide_eq_true h1,decide_eq_true h2];simp
  have b:decide ((n:Int) < ((n + n2:Nat):Int))=false:=by simp; omega
  rw [b,decide_eq_false h2];simp
 have a:decide ((n:Int) > 0)=false:=by simp; omega
 rw [a,decide_eq_false h1];simp
theorem wn (f:Nat -> Itm) (n:Nat) (f2:Nat -> Itm) (n2:Nat) (hn:n<=1000):(if (if decide ((n:Int) > 0)=true then decide ((n2:Int) > 0) else false)=true then decide ((f (IntKind.i64.wrap ((n:Int) - 1)).toNat).key ≥ (f2 (0:Int).toNat).key) else false)=ovl n f n2 f2:=by
 unfold ovl
 by_cases h1:0 < n
 .have e1:IntKind.i64.wrap ((n:Int) - 1)=(n:Int) - 1:=r8 (by omega) (by omega)
  have a:decide ((n:Int) > 0)=true:=by simp; omega
  rw [e1,show ((n:Int) - 1).toNat=n - 1 by omega,a,decide_eq_true h1]
  by_cases h2:0 < n2
  .have b:decide ((n2:Int) > 0)=true:=by simp; omega
   rw [b,decide_eq_true h2];simp
  have b:decide ((n2:Int) > 0)=false:=by simp; omega
  rw [b,decide_eq_false h2];simp
 have a:decide ((n:Int) > 0)=false:=by simp; omega
 rw [a,decide_eq_false h1];simp
theorem mg (kd kd2:Int):((if (if (!decide (kd=1))=true then !decide (kd=5) else false)=true then true else (if (!decide (kd2=1))=true then !decide (kd2=5) else false))=true -> ¬ (kd=1 \/ kd=5) \/ ¬ (kd2=1 \/ kd2=5)) ∧
  ((if (if (!decide (kd=1))=true then !decide (kd=5) else false)=true then true else (if (!decide (kd2=1))=true then !decide (kd2=5) else false))=false -> ¬ (¬ (kd=1 \/ kd=5) \/ ¬ (kd2=1 \/ kd2=5))):=by
 rw [A8,A8,R0]
 constructor
 .intro h
  simp at h;omega
 intro h;simp at h;omega
theorem uE:j3 Tryz.prog 316:=fun _ _ => by kernel_rfl
theorem uF:j3 Tryz.prog 309:=fun _ _ => by kernel_rfl
theorem xR (A0:Option Addr) (k c0:Nat) (AA:Nat -> Option Addr) (NN CC:Nat -> Nat) (FF:Nat -> Nat -> Itm) (hk:k<=10) (hN:∀ i,i < k -> NN i<=1000):j5 Tryz.prog 309 [.sl none A0 k c0 1 (fun i => [.sl none (AA i) (NN i) (CC i) 2 (fun t => itC (FF i t))])] (fun x => l4 (x.A 0) (nZ NN FF k).length (x.c 0) (itF (nZ NN FF k))):=by
 intro m w hm hargs;have hmx:maxLen=9223372036854775807:=rfl;refine en 36 hm hargs Tryz.func309 fun B hB a0 hF => ?_
 refine wp_seq (rg hB a6 [0] [] [] hF fun X0 a0 w1 hF => ?_);refine wp_seq (rg hB a6 [3,0] [] [] hF fun X1 a0 w1 hF => ?_);refine wp_seq (wp_seq (rg hB a6 [3,11,0,9,10] [] [] hF fun X2 a0 w1 hF => ?_));refine wp_block (l0 (ι:=Nat × Nat) (fun p => [(3,.int .i64 (p.2:Int)),(11,.int .i64 (p.1:Int))]) (fun p => []) (fun p => []) (fun p => p.1<=k/\p.2=(nZ NN FF p.1).length/\p.2<=1000 * p.1) (fun p => k - p.1) (0,0) ⟨Nat.zero_le _,rfl,Nat.le_refl _⟩ hF ?_)
 rintro ⟨i,z⟩ ⟨hi,hz,hzb⟩ a0 w1 hF
 try dsimp only at hi
 try dsimp only at hz
 try dsimp only at hzb
 refine wp_seq (rg hB a6 [12,3,11,0,9,10] [] [] hF fun X3 a0 w1 hF => ?_);refine wp_seq (a7 hF rfl (fun hb hF => ?_) (fun hb hF => ?_))
 .have hin:i < k:=by
   have:(i:Int) < (k:Int):=by subst hB; simpa [std,a8] using hb
   omega
  have hNi:=hN i hin;refine wp_skip (wp_seq (wp_block (wp_seq (rg hB a6 [5,3,11,0,9,10] [] [] hF (hob:=?hob) fun X4 a0 w1 hF => ?_))))
  case hob =>
   intro X;subst hB
   repeat (first | exact trivial | refine ⟨rfl,?_⟩ | refine ⟨⟨show (0:Int)<=(i:Int) by omega,show (i:Int) < (k:Int) by omega⟩,?_⟩)
  refine wp_seq (rg hB a6 [3,11,0,9,10] [] [] hF fun X5 a0 w1 hF => ?_);obtain ⟨z2,hz2⟩:=eqv (z + NN i);replace hF:=hF.head (v':=.int .i64 (z2:Int)) (by
   subst hB
   show AV.int .i64 (IntKind.i64.wrap ((z:Int) + (NN i:Int)))=_
   rw [r8 (by omega) (by omega),hz2]; rfl)
  refine wp_seq (rg hB a6 [20,3,11,0,9,10] [] [] hF fun X6 a0 w1 hF => ?_);apply a7 hF rfl<;>intro hb hF
  .exfalso
   have:(z2:Int) < 0:=by subst hB; simpa [std,a8] using hb
   omega
  skip
  refine wp_skip (rg hB a6 [3,11,0,9,10] [] [] hF fun X8 a0 w1 hF => ?_);have e:B.arith .add .i64 (i:Int) 1=((i + 1:Nat):Int):=by subst hB; exact j2 (n:=k) hin (by omega)
  refine ⟨(i + 1,z2),⟨by simp only; omega,?_,by simp only; omega⟩,by simp only; omega,by rw [<-e]; exact hF⟩;simp only;rw [hz2,mJ,List.length_append,i3,<-hz]
 have hout:i=k:=by
  have:¬ (i:Int) < (k:Int):=by subst hB; simpa [std,a8] using hb
  omega
 rw [hout] at hz hzb;refine wp_exit (wp_seq (wp_region_lit (lpr 0 1 hB a6 [23,0] [] [] hF fun X9_0 a0 w1 hF => ?_)));have ev:=xm hF (t:=23) (k:=.i64) (n:=(z:Int)) rfl;refine qD (argv:=#[.slice none 0 0,.int .i64 (z:Int)]) rfl rfl rfl rfl rfl hF (by have e2:=ev; simp [Act.eval] at e2 ⊢; exact e2) uE (by show 24 < 36; decide) (e:=62) (k:=2) (by decide) (fun t => itC r7) (Dh w1 z (by omega)) ?_
 intro A9 c9 a0 w1 hF;refine lnd 2 hB a6 [6,0] [24] [] hF fun X9 a0 w1 hF => ?_
 refine wp_seq (wp_seq (rg hB a6 [6,27,25,26] [24] [] hF fun X10 a0 w1 hF => ?_));refine wp_block (l0 (ι:=Nat × Nat × (Nat -> Itm) × Option Addr × Nat) (fun p => [(6,.sl (some 24) p.2.2.2.1 p.2.1 p.2.2.2.2 2 (fun t => itC (p.2.2.1 t))),(27,.int .i64 (p.1:Int))]) (fun p => []) (fun p => [(24,⟨p.2.2.2.1,p.2.1,p.2.2.2.2,2,62⟩)]) (fun p => p.1<=k/\b7 p.2.2.1 p.2.1=nZ NN FF p.1/\p.2.1<=1000 * p.1) (fun p => k - p.1) (0,0,fun _ => r7,A9,c9) ⟨Nat.zero_le _,rfl,Nat.le_refl _⟩ hF ?_)
 rintro ⟨i,q,g,A1,c1⟩ ⟨hi,hg,hqb⟩ a0 w1 hF
 try dsimp only at hi
 try dsimp only at hg
 try dsimp only at hqb
 refine wp_seq (rg hB a6 [28,6,27,25,26] [24] [] hF fun X11 a0 w1 hF => ?_);refine wp_seq (a7 hF rfl (fun hb hF => ?_) (fun hb hF => ?_))
 .have hin:i < k:=by
   have:(i:Int) < (k:Int):=by subst hB; simpa [std,a8] using hb
   omega
  have hNi:=hN i hin;refine wp_skip (wp_seq (wp_block (wp_seq (rg hB a6 [8,6,27,25,26] [24] [] hF (hob:=?hob) fun X12 a0 w1 hF => ?_))))
  case hob =>
   intro X;subst hB
   repeat (first | exact trivial | refine ⟨rfl,?_⟩ | refine ⟨⟨show (0:Int)<=(i:Int) by omega,show (i:Int) < (k:Int) by omega⟩,?_⟩)
  refine rg hB a6 [6,27,25,26] [24] [] hF (hob:=?hob) fun X13 a0 w1 hF => ?_
  case hob =>
   intro X;subst hB
   repeat (first | exact trivial | refine ⟨⟨rfl,rfl,rfl⟩,?_⟩ | refine ⟨⟨show q + NN i<=maxLen by omega,show (q + NN i) * _<=_ by omega⟩,?_⟩ | refine ⟨rfl,?_⟩)
  replace hF:=hF.headS (v':=.sl (some 24) ((X13 2).A 0) (B.nadd q (NN (B.toNat (i:Int)))) ((X13 2).c 0) 2 (fun t => itC (je q g (FF i) t))) (Sim.resl rfl (fun t ht => by
   subst hB
   show F8 q (fun t => itC (g t)) (fun t => itC (FF i t)) t=_
   unfold F8 je
   split<;>rfl)) rfl
  refine rg hB a6 [6,27,25,26] [24] [] hF fun X14 a0 w1 hF => ?_
  have e:B.arith .add .i64 (i:Int) 1=((i + 1:Nat):Int):=by subst hB; exact j2 (n:=k) hin (by omega)
  refine ⟨(i + 1,q + NN i,je q g (FF i),_,_),⟨by simp only; omega,?_,by simp only; omega⟩,by simp only; omega,by rw [<-e,show q + NN i=B.nadd q (NN (B.toNat (i:Int))) by subst hB; rfl]; exact hF⟩
  simp only;rw [mJ,iU,hg]
 have hout:i=k:=by
  have:¬ (i:Int) < (k:Int):=by subst hB; simpa [std,a8] using hb
  omega
 rw [hout] at hg;refine wp_exit (wp_seq (rg hB a6 [2] [2,33] [] hF fun X15 a0 w1 hF => ?_));refine wp_ret ((rsi hB a6 hF (⟨0,fun _ => A1,fun _ => c1,fun _ => ⟨#[]⟩⟩) (he:=?_)));subst hB;exact Sim.resl (by rw [<-hg,i3]) (fun t ht => by rw [<-hg,i3] at ht; rw [<-hg,s9 _ _ t ht])
theorem eC:j3 Tryz.prog 310:=fun _ _ => by kernel_rfl
theorem sO (A:Option Addr) (n c:Nat) (f:Nat -> Itm) (hn:n<=1000000) (kd:Int) (nx:Lab) (mk:Int):j5 Tryz.prog 310 [Q2 A n c f kd nx mk] (fun _ => .bool (.v (decide (kd=1) || decide (kd=5)))):=by
 intro m w hm hargs;unfold Q2 l4 at hargs;refine en 11 hm hargs Tryz.func310 fun B hB a0 hF => ?_
 refine wp_seq (rg hB a6 [1] [1] [] hF fun X0 a0 w1 hF => ?_);refine wp_seq (rg hB a6 [2] [] [] hF fun X1 a0 w1 hF => ?_);refine wp_ret ((rsi hB a6 hF f4 (he:=?_)));subst hB;exact Sim.bool (by show (if decide (kd=1)=true then true else decide (kd=5))=_; rw [R0]; rfl)
theorem yv (A:Option Addr) (n c:Nat) (f:Nat -> Itm) (hn:n<=1000) (kd:Int) (nx:Lab) (mk:Int) (hv:U64 nx.bits) (A2:Option Addr) (n2 c2:Nat) (f2:Nat -> Itm) (hn2:n2<=1000) (kd2:Int) (nx2:Lab) (mk2:Int) (hv2:U64 nx2.bits):j5 Tryz.prog 292 [Q2 A n c f kd nx mk,Q2 A2 n2 c2 f2 kd2 nx2 mk2] (fun x => .tup [iJ (x.A 0) (x.c 0) (aR kd n f nx mk kd2 n2 f2 nx2 mk2).1,.int .i64 (aR kd n f nx mk kd2 n2 f2 nx2 mk2).2]):=by
 intro m w hm hargs;have hmx:maxLen=9223372036854775807:=rfl;have SI:=kH A n c f (by omega) kd nx mk hv;have SI2:=kH A2 n2 c2 f2 (by omega) kd2 nx2 mk2 hv2;obtain ⟨i1,hi1⟩:=eqv (L5 kd n f nx mk);obtain ⟨i2,hi2⟩:=eqv (L5 kd2 n2 f2 nx2 mk2);obtain ⟨ov,hov⟩:=eqv (ovl n f n2 f2);rw [<-hi1] at SI;rw [<-hi2] at SI2;unfold Q2 l4 at SI SI2 hargs;have SF:=sO A n c f (by omega) kd nx mk;have SF2:=sO A2 n2 c2 f2 (by omega) kd2 nx2 mk2;unfold Q2 l4 at SF SF2;obtain ⟨x1,hx1⟩:=eqv ((decide (kd=1) || decide (kd=5)));obtain ⟨x2,hx2⟩:=eqv ((decide (kd2=1) || decide (kd2=5)));rw [<-hx1] at SF;rw [<-hx2] at SF2;have SC:=fun A0 => xR A0 2 2 (fun i => if i=0 then A else A2) (fun i => if i=0 then n else n2) (fun i => if i=0 then c else c2) (fun i => if i=0 then f else f2) (by decide) (fun i hi => by show (if i=0 then n else n2)<=1000; split<;>omega)
 rw [xW] at SC;obtain ⟨N,hN⟩:=eqv ((b7 f n ++ b7 f2 n2).length);obtain ⟨g,hg⟩:=eqv (itF (b7 f n ++ b7 f2 n2));rw [<-hN,<-hg] at SC;have hNn:N=n + n2:=by rw [hN,List.length_append,i3,i3]
 have hot:=zg (b:=(if (!i1)=true then true else !i2)) f n f2 n2 (by omega) (by omega);rw [<-hg,<-hNn,<-hov] at hot;unfold l4 at SC;refine en 70 hm hargs Tryz.func292 fun B hB a0 hF => ?_
 refine wp_seq (rg hB a6 [2,3,4] [2,3,4] [] hF fun X0 a0 w1 hF => ?_);refine wp_seq (rg hB a6 [6,2,3,4] [2,3,4] [(5,.r fun x => .sl none (x.A 0) N (x.c 0) 2 (fun i => itC (g i)))] hF (hob:=?hob) fun X1 a0 w1 hF => ?_)
 case hob =>
  intro X;subst hB
  repeat (first | exact trivial | refine ⟨rfl,?_⟩ | refine ⟨⟨uF,(SC _).sim ⟨Sim.resl rfl (fun i hi => by have h2:i=0 \/ i=1:=(by omega); rcases h2 with rfl | rfl<;>rfl),trivial⟩⟩,?_⟩)
 refine wp_seq (rg hB a6 [7,6,2,3,4] [2,3,4] [] hF fun X2 a0 w1 hF => ?_);replace hF:=hF.head (v':=.int .i64 (n:Int)) (by subst hB; rfl);refine wp_seq (wp_block (wp_seq (drg hB a6 [17,6,7,2,3,4] [2,3,4] [(1,.r fun _ => .bool (.v i1)),(5,.r fun _ => .bool (.v i2))] hF (hob:=?hob) fun X3 a0 w1 hF => ?_)))
 case hob =>
  intro X;subst hB;simp only [b5,Ob.holds,BE.den,List.mem_cons,List.not_mem_nil,or_false,forall_eq_or_imp,forall_eq]
  and_intros<;>first | trivial | exact aN | exact SI | exact SI2 | (intros; first | trivial | exact aN | exact SI2 | exact ⟨aN,SI2⟩) | (intro h; first | exact yz hn h.1 | exact yy h.1)
 apply a7 hF rfl<;>intro hb hF
 .have h9:(if (if (!i1)=true then true else !i2)=true then true else (if (if decide ((n:Int) > 0)=true then decide ((n:Int) < (N:Int)) else false)=true then decide ((g (IntKind.i64.wrap ((n:Int) - 1)).toNat).key ≥ (g (n:Int).toNat).key) else false))=true:=by subst hB; exact hb
  rw [hot] at h9;have hW:(aR kd n f nx mk kd2 n2 f2 nx2 mk2)=(i8,1):=by unfold aR; rw [<-hi1,<-hi2,<-hov]; cases i1<;>cases i2<;>cases ov<;>first | rfl | (simp at h9)
  refine wp_seq (rg hB a6 [4,5] [4] [] hF (hob:=?hob) fun X4 a0 w1 hF => ?_)
  case hob =>
   intro X;subst hB
   repeat (first | exact trivial | refine ⟨rfl,?_⟩ | refine ⟨fun _ => rfl,?_⟩ | refine ⟨f8 (Kk:=noK) _ _ _ _,?_⟩ | refine ⟨fun _ => f8 (Kk:=noK) _ _ _ _,?_⟩)
  refine wp_ret ((rsi hB a6 hF (⟨0,fun _ => none,fun _ => 0,fun _ => ⟨#[]⟩⟩) (he:=?_)));subst hB;rw [hW];exact Sim.tup ⟨Sim.agg ⟨zr,zq0,zr,zr,zr,trivial⟩,zr,trivial⟩
 have h9:(if (if (!i1)=true then true else !i2)=true then true else (if (if decide ((n:Int) > 0)=true then decide ((n:Int) < (N:Int)) else false)=true then decide ((g (IntKind.i64.wrap ((n:Int) - 1)).toNat).key ≥ (g (n:Int).toNat).key) else false))=false:=by subst hB; exact hb
 rw [hot] at h9;have h12:i1=true/\i2=true/\ov=false:=by cases i1<;>cases i2<;>cases ov<;>first | exact ⟨rfl,rfl,rfl⟩ | (simp at h9)
 obtain ⟨h1t,h2t,hovf⟩:=h12;have hU:(aR kd n f nx mk kd2 n2 f2 nx2 mk2)=(if ¬ (kd=1 \/ kd=5) \/ ¬ (kd2=1 \/ kd2=5) then (i8,13) else if 16 < n + n2 then (i8,12) else (⟨1,b7 f n ++ b7 f2 n2,nx2,0⟩,0)):=by unfold aR; rw [<-hi1,<-hi2,<-hov,h1t,h2t,hovf]; rfl
 refine wp_seq (rg hB a6 [51,6,3,4] [3,4] [(1,.r fun _ => .bool (.v x1)),(5,.r fun _ => .bool (.v x2))] hF (hob:=?hob) fun X5 a0 w1 hF => ?_)
 case hob =>
  intro X;subst hB
  repeat (first | exact trivial | refine ⟨rfl,?_⟩ | refine ⟨fun _ => rfl,?_⟩ | refine ⟨f8 (Kk:=noK) _ _ _ _,?_⟩ | refine ⟨fun _ => f8 (Kk:=noK) _ _ _ _,?_⟩ | refine ⟨⟨eC,SF⟩,?_⟩ | refine ⟨fun _ => ⟨eC,SF⟩,?_⟩ | refine ⟨⟨eC,SF2⟩,?_⟩ | refine ⟨fun _ => ⟨eC,SF2⟩,?_⟩)
 apply a7 hF rfl<;>intro hb hF
 .have h9:(if (!x1)=true then true else !x2)=true:=by subst hB; exact hb
  have hfx:¬ (kd=1 \/ kd=5) \/ ¬ (kd2=1 \/ kd2=5):=by
   cases h1:x1 with
   | false => left; rw [h1] at hx1; simpa using hx1.symm
   | true =>
    right
    rw [h1] at h9;have h2:x2=false:=by cases x2<;>first | rfl | (simp at h9)
    rw [h2] at hx2; simpa using hx2.symm
  have hW:(aR kd n f nx mk kd2 n2 f2 nx2 mk2)=(i8,13):=by rw [hU,if_pos hfx]
  refine wp_seq (rg hB a6 [4,5] [4] [] hF (hob:=?hob) fun X6 a0 w1 hF => ?_)
  case hob =>
   intro X;subst hB
   repeat (first | exact trivial | refine ⟨rfl,?_⟩ | refine ⟨fun _ => rfl,?_⟩ | refine ⟨f8 (Kk:=noK) _ _ _ _,?_⟩ | refine ⟨fun _ => f8 (Kk:=noK) _ _ _ _,?_⟩)
  refine wp_ret ((rsi hB a6 hF (⟨0,fun _ => none,fun _ => 0,fun _ => ⟨#[]⟩⟩) (he:=?_)));subst hB;rw [hW];exact Sim.tup ⟨Sim.agg ⟨zr,zq0,zr,zr,zr,trivial⟩,zr,trivial⟩
 have h9:(if (!x1)=true then true else !x2)=false:=by subst hB; exact hb
 have hfx:¬ (¬ (kd=1 \/ kd=5) \/ ¬ (kd2=1 \/ kd2=5)):=by
  have h1:x1=true/\x2=true:=by cases x1<;>cases x2<;>first | exact ⟨rfl,rfl⟩ | (simp at h9)
  rw [h1.1] at hx1; rw [h1.2] at hx2;have a:=hx1.symm; have b:=hx2.symm;simp only [Bool.or_eq_true,decide_eq_true_eq] at a b;intro h
  rcases h with h | h
  .exact h a
  exact h b
 refine wp_seq (rg hB a6 [61,6,3,4] [3,4] [] hF fun X7 a0 w1 hF => ?_);apply a7 hF rfl<;>intro hb hF
 .have hf16:16 < n + n2:=by
   have:(16:Int) < (N:Int):=by subst hB; simpa [std,a8] using hb
   omega
  have hW:(aR kd n f nx mk kd2 n2 f2 nx2 mk2)=(i8,12):=by rw [hU,if_neg hfx,if_pos hf16]
  refine wp_seq (rg hB a6 [4,5] [4] [] hF (hob:=?hob) fun X8 a0 w1 hF => ?_)
  case hob =>
   intro X;subst hB
   repeat (first | exact trivial | refine ⟨rfl,?_⟩ | refine ⟨fun _ => rfl,?_⟩ | refine ⟨f8 (Kk:=noK) _ _ _ _,?_⟩ | refine ⟨fun _ => f8 (Kk:=noK) _ _ _ _,?_⟩)
  refine wp_ret ((rsi hB a6 hF (⟨0,fun _ => none,fun _ => 0,fun _ => ⟨#[]⟩⟩) (he:=?_)));subst hB;rw [hW];exact Sim.tup ⟨Sim.agg ⟨zr,zq0,zr,zr,zr,trivial⟩,zr,trivial⟩
 have hf16:¬ 16 < n + n2:=by
  have:¬ (16:Int) < (N:Int):=by subst hB; simpa [std,a8] using hb
  omega
 have hW:(aR kd n f nx mk kd2 n2 f2 nx2 mk2)=(⟨1,b7 f n ++ b7 f2 n2,nx2,0⟩,0):=by rw [hU,if_neg hfx,if_neg hf16]
 refine wp_skip (wp_seq (rg hB a6 [4,5] [4] [] hF (hob:=?hob) fun X9 a0 w1 hF => ?_))
 case hob =>
  intro X;subst hB
  repeat (first | exact trivial | refine ⟨rfl,?_⟩ | refine ⟨fun _ => rfl,?_⟩ | refine ⟨f8 (Kk:=noK) _ _ _ _,?_⟩ | refine ⟨fun _ => f8 (Kk:=noK) _ _ _ _,?_⟩)
 refine wp_ret ((rsi hB a6 hF (⟨0,fun _ => (X1 5).A 0,fun _ => (X1 5).c 0,fun _ => ⟨#[]⟩⟩) (he:=?_)));subst hB;rw [hW];exact Sim.tup ⟨Sim.agg ⟨zr,Sim.resl hN (fun t ht => by rw [hg]),zr,zr,zr,trivial⟩,zr,trivial⟩
theorem vH (A:Option Addr) (n c:Nat) (f:Nat -> Itm) (hn:n<=1000) (kd:Int) (nx:Lab) (mk:Int) (hv:U64 nx.bits) (A2:Option Addr) (n2 c2:Nat) (f2:Nat -> Itm) (hn2:n2<=1000) (kd2:Int) (nx2:Lab) (mk2:Int) (hv2:U64 nx2.bits):j5 Tryz.prog 264 [Q2 A n c f kd nx mk,Q2 A2 n2 c2 f2 kd2 nx2 mk2] (fun x => .tup [iJ (x.A 0) (x.c 0) (aR kd n f nx mk kd2 n2 f2 nx2 mk2).1,.int .i64 (aR kd n f nx mk kd2 n2 f2 nx2 mk2).2]):=by
 intro m w hm hargs;have hmx:maxLen=9223372036854775807:=rfl;have SI:=nm A n c f (by omega) kd nx mk hv;have SI2:=nm A2 n2 c2 f2 (by omega) kd2 nx2 mk2 hv2;obtain ⟨i1,hi1⟩:=eqv (L5 kd n f nx mk);obtain ⟨i2,hi2⟩:=eqv (L5 kd2 n2 f2 nx2 mk2);obtain ⟨ov,hov⟩:=eqv (ovl n f n2 f2);rw [<-hi1] at SI;rw [<-hi2] at SI2;unfold Q2 l4 at SI SI2 hargs;have hot:=wn f n f2 n2 (by omega);rw [<-hov] at hot;refine en 82 hm hargs Tryz.func264 fun B hB a0 hF => ?_
 refine wp_seq (rg hB a6 [2,3,4] [2,3,4] [] hF fun X0 a0 w1 hF => ?_);refine wp_seq (wp_seq (rg hB a6 [15,2,3,4] [2,3,4] [(1,.r fun _ => .bool (.v i1)),(5,.r fun _ => .bool (.v i2))] hF (hob:=?hob) fun X1 a0 w1 hF => ?_))
 case hob =>
  intro X;subst hB
  repeat (first | exact trivial | refine ⟨rfl,?_⟩ | refine ⟨fun _ => rfl,?_⟩ | refine ⟨f8 (Kk:=noK) _ _ _ _,?_⟩ | refine ⟨fun _ => f8 (Kk:=noK) _ _ _ _,?_⟩ | refine ⟨⟨aw,SI⟩,?_⟩ | refine ⟨fun _ => ⟨aw,SI⟩,?_⟩ | refine ⟨⟨aw,SI2⟩,?_⟩ | refine ⟨fun _ => ⟨aw,SI2⟩,?_⟩)
 apply a7 hF rfl<;>intro hb hF
 .have h9:(if (!i1)=true then true else !i2)=true:=by subst hB; exact hb
  have hW:(aR kd n f nx mk kd2 n2 f2 nx2 mk2)=(i8,1):=by unfold aR; rw [<-hi1,<-hi2,<-hov]; cases i1<;>cases i2<;>cases ov<;>first | rfl | (simp at h9)
  refine wp_seq (rg hB a6 [4,5] [4] [] hF (hob:=?hob) fun X2 a0 w1 hF => ?_)
  case hob =>
   intro X;subst hB
   repeat (first | exact trivial | refine ⟨rfl,?_⟩ | refine ⟨fun _ => rfl,?_⟩ | refine ⟨f8 (Kk:=noK) _ _ _ _,?_⟩ | refine ⟨fun _ => f8 (Kk:=noK) _ _ _ _,?_⟩)
  refine wp_ret ((rsi hB a6 hF (⟨0,fun _ => none,fun _ => 0,fun _ => ⟨#[]⟩⟩) (he:=?_)));subst hB;rw [hW];exact Sim.tup ⟨Sim.agg ⟨zr,zq0,zr,zr,zr,trivial⟩,zr,trivial⟩
 have h9:(if (!i1)=true then true else !i2)=false:=by subst hB; exact hb
 have h12:i1=true/\i2=true:=by cases i1<;>cases i2<;>first | exact ⟨rfl,rfl⟩ | (simp at h9)
 obtain ⟨h1t,h2t⟩:=h12;refine wp_skip (wp_seq (rg hB a6 [6,2,3,4] [2,3,4] [] hF (hob:=?hob) fun X3 a0 w1 hF => ?_))
 case hob =>
  intro X;subst hB
  repeat (first | exact trivial | refine ⟨rfl,?_⟩ | refine ⟨fun _ => rfl,?_⟩ | refine ⟨f8 (Kk:=noK) _ _ _ _,?_⟩ | refine ⟨fun _ => f8 (Kk:=noK) _ _ _ _,?_⟩)
 replace hF:=hF.head (v':=.int .i64 (n:Int)) (by subst hB; rfl);refine wp_seq (wp_seq (drg hB a6 [42,6,2,3,4] [2,3,4] [] hF (hob:=?hob) fun X4 a0 w1 hF => ?_))
 case hob =>
  intro X;subst hB;simp only [b5,Ob.holds,BE.den,List.mem_cons,List.not_mem_nil,or_false,forall_eq_or_imp,forall_eq]
  and_intros<;>first | trivial | (intro h; first | trivial | exact yx hn h | exact yw h)
 apply a7 hF rfl<;>intro hb hF
 .have h8:(if (if decide ((n:Int) > 0)=true then decide ((n2:Int) > 0) else false)=true then decide ((f (IntKind.i64.wrap ((n:Int) - 1)).toNat).key ≥ (f2 (0:Int).toNat).key) else false)=true:=by subst hB; exact hb
  rw [hot] at h8;have hW:(aR kd n f nx mk kd2 n2 f2 nx2 mk2)=(i8,1):=by unfold aR; rw [<-hi1,<-hi2,<-hov,h1t,h2t,h8]; rfl
  refine wp_seq (rg hB a6 [4,5] [4] [] hF (hob:=?hob) fun X5 a0 w1 hF => ?_)
  case hob =>
   intro X;subst hB
   repeat (first | exact trivial | refine ⟨rfl,?_⟩ | refine ⟨fun _ => rfl,?_⟩ | refine ⟨f8 (Kk:=noK) _ _ _ _,?_⟩ | refine ⟨fun _ => f8 (Kk:=noK) _ _ _ _,?_⟩)
  refine wp_ret ((rsi hB a6 hF (⟨0,fun _ => none,fun _ => 0,fun _ => ⟨#[]⟩⟩) (he:=?_)));subst hB;rw [hW];exact Sim.tup ⟨Sim.agg ⟨zr,zq0,zr,zr,zr,trivial⟩,zr,trivial⟩
 have h8:(if (if decide ((n:Int) > 0)=true then decide ((n2:Int) > 0) else false)=true then decide ((f (IntKind.i64.wrap ((n:Int) - 1)).toNat).key ≥ (f2 (0:Int).toNat).key) else false)=false:=by subst hB; exact hb
 rw [hot] at h8;have hU:(aR kd n f nx mk kd2 n2 f2 nx2 mk2)=(if ¬ (kd=1 \/ kd=5) \/ ¬ (kd2=1 \/ kd2=5) then (i8,13) else if 16 < n + n2 then (i8,12) else (⟨1,b7 f n ++ b7 f2 n2,nx2,0⟩,0)):=by unfold aR; rw [<-hi1,<-hi2,<-hov,h1t,h2t,h8]; rfl
 refine wp_skip (wp_seq (wp_seq (rg hB a6 [61,6,2,3,4] [2,3,4] [] hF fun X6 a0 w1 hF => ?_)));apply a7 hF rfl<;>intro hb hF
 .have h7:(if (if (!decide (kd=1))=true then !decide (kd=5) else false)=true then true else (if (!decide (kd2=1))=true then !decide (kd2=5) else false))=true:=by subst hB; exact hb
  have hfx:=(mg kd kd2).1 h7;have hW:(aR kd n f nx mk kd2 n2 f2 nx2 mk2)=(i8,13):=by rw [hU,if_pos hfx]
  refine wp_seq (rg hB a6 [4,5] [4] [] hF (hob:=?hob) fun X7 a0 w1 hF => ?_)
  case hob =>
   intro X;subst hB
   repeat (first | exact trivial | refine ⟨rfl,?_⟩ | refine ⟨fun _ => rfl,?_⟩ | refine ⟨f8 (Kk:=noK) _ _ _ _,?_⟩ | refine ⟨fun _ => f8 (Kk:=noK) _ _ _ _,?_⟩)
  refine wp_ret ((rsi hB a6 hF (⟨0,fun _ => none,fun _ => 0,fun _ => ⟨#[]⟩⟩) (he:=?_)));subst hB;rw [hW];exact Sim.tup ⟨Sim.agg ⟨zr,zq0,zr,zr,zr,trivial⟩,zr,trivial⟩
 have h7:(if (if (!decide (kd=1))=true then !decide (kd=5) else false)=true then true else (if (!decide (kd2=1))=true then !decide (kd2=5) else false))=false:=by subst hB; exact hb
 have hfx:=(mg kd kd2).2 h7;refine wp_skip (wp_seq (wp_seq (rg hB a6 [68,2,3,4] [2,3,4] [] hF (hob:=?hob) fun X8 a0 w1 hF => ?_)))
 case hob =>
  intro X;subst hB
  repeat (first | exact trivial | refine ⟨rfl,?_⟩ | refine ⟨fun _ => rfl,?_⟩ | refine ⟨f8 (Kk:=noK) _ _ _ _,?_⟩ | refine ⟨fun _ => f8 (Kk:=noK) _ _ _ _,?_⟩)
 apply a7 hF rfl<;>intro hb hF
 .have hf16:16 < n + n2:=by
   have:(16:Int) < IntKind.i64.wrap ((n:Int) + (n2:Int)):=by subst hB; simpa [std,a8,o9] using hb
   rw [r8 (by omega) (by omega)] at this;omega
  have hW:(aR kd n f nx mk kd2 n2 f2 nx2 mk2)=(i8,12):=by rw [hU,if_neg hfx,if_pos hf16]
  refine wp_seq (rg hB a6 [4,5] [4] [] hF (hob:=?hob) fun X9 a0 w1 hF => ?_)
  case hob =>
   intro X;subst hB
   repeat (first | exact trivial | refine ⟨rfl,?_⟩ | refine ⟨fun _ => rfl,?_⟩ | refine ⟨f8 (Kk:=noK) _ _ _ _,?_⟩ | refine ⟨fun _ => f8 (Kk:=noK) _ _ _ _,?_⟩)
  refine wp_ret ((rsi hB a6 hF (⟨0,fun _ => none,fun _ => 0,fun _ => ⟨#[]⟩⟩) (he:=?_)));subst hB;rw [hW];exact Sim.tup ⟨Sim.agg ⟨zr,zq0,zr,zr,zr,trivial⟩,zr,trivial⟩
 have hf16:¬ 16 < n + n2:=by
  have:¬ (16:Int) < IntKind.i64.wrap ((n:Int) + (n2:Int)):=by subst hB; simpa [std,a8,o9] using hb
  rw [r8 (by omega) (by omega)] at this;omega
 have hW:(aR kd n f nx mk kd2 n2 f2 nx2 mk2)=(⟨1,b7 f n ++ b7 f2 n2,nx2,0⟩,0):=by rw [hU,if_neg hfx,if_neg hf16]
 refine wp_skip (wp_seq (rg hB a6 [7,2,3,4] [2,3,4,7] [] hF fun X10 a0 w1 hF => ?_));refine wp_seq (rg hB a6 [7,3,4] [3,4,7] [] hF (hob:=?hob) fun X11 a0 w1 hF => ?_)
 case hob =>
  intro X;subst hB
  repeat (first | exact trivial | refine ⟨⟨rfl,rfl,rfl⟩,?_⟩ | refine ⟨⟨show 0 + n<=maxLen by omega,show (0 + n) * _<=_ by omega⟩,?_⟩ | refine ⟨rfl,?_⟩)
 refine wp_seq (rg hB a6 [7,3,4] [3,4,7] [] hF (hob:=?hob) fun X12 a0 w1 hF => ?_)
 case hob =>
  intro X;subst hB
  repeat (first | exact trivial | refine ⟨⟨rfl,rfl,rfl⟩,?_⟩ | refine ⟨⟨show 0 + n + n2<=maxLen by omega,show (0 + n + n2) * _<=_ by omega⟩,?_⟩ | refine ⟨rfl,?_⟩)
 refine wp_seq (rg hB a6 [4,5] [4] [] hF (hob:=?hob) fun X13 a0 w1 hF => ?_)
 case hob =>
  intro X;subst hB
  repeat (first | exact trivial | refine ⟨rfl,?_⟩ | refine ⟨fun _ => rfl,?_⟩ | refine ⟨f8 (Kk:=noK) _ _ _ _,?_⟩ | refine ⟨fun _ => f8 (Kk:=noK) _ _ _ _,?_⟩)
 refine wp_ret ((rsi hB a6 hF (⟨0,fun _ => (X12 3).A 0,fun _ => (X12 3).c 0,fun _ => ⟨#[]⟩⟩) (he:=?_)));subst hB;rw [hW];refine Sim.tup ⟨Sim.agg ⟨zr,Sim.resl (show 0 + n + n2=(b7 f n ++ b7 f2 n2).length by rw [List.length_append,i3,i3]; omega) (fun t ht => ?_),zr,zr,zr,trivial⟩,zr,trivial⟩
 show F8 (0 + n) (F8 0 _ (fun t => itC (f t))) (fun t => itC (f2 t)) t=itC (itF (b7 f n ++ b7 f2 n2) t)
 rw [rz f n f2 n2 t (by have h:t < (b7 f n ++ b7 f2 n2).length:=ht; rw [List.length_append,i3,i3] at h; exact h)];unfold F8 je;rw [Nat.zero_add]
 by_cases h:t < n
 .rw [if_pos h,if_neg (Nat.not_lt_zero _),if_pos h]; rfl
 rw [if_neg h,if_neg h]
structure LOk (l:Lab):Prop where
 isl:isL l=true
 u:U64 l.bits
theorem kv:LOk ⟨0,0⟩:=⟨by decide,by decide,by decide⟩
theorem LOk.ch {l:Lab} (h:LOk l) (b:Int):LOk (chV l b):=by
 unfold chV
 split
 .rename_i he
  have h64:l.len ≠ 64:=by
   intro h64;unfold chE at he;rw [h.isl] at he;simp [h64] at he
  exact ⟨eM h.isl h.u h64 b,cQ h.isl h.u h64 b⟩
 exact kv
theorem LOk.par {l:Lab} (h:LOk l):LOk (P5 l):=by
 unfold P5
 split
 .rename_i he
  have h0:l.len ≠ 0:=by
   intro h0;unfold Q8 at he;rw [h.isl] at he;simp [h0] at he
  exact ⟨rX h.isl h.u h0,BA h.u⟩
 exact kv
theorem P7 {f:Nat -> Itm} {c:Nat} {A:Option Addr}:Sim (.sl none A 0 c 2 (fun _ => [])) (.sl none A 0 c 2 (fun i => itC (f i))):=Sim.recell fun i hi => absurd hi (Nat.not_lt_zero _)
theorem Df (x:RA) (h:U8 x) (l:Lab) (hl:U64 l.bits):j5 Tryz.prog 287 [u9 x,b6 l] (fun y => .tup [u9 ⟨y.A 0,y.c 0,(P0 x l).1.rn⟩,u9 ⟨y.A 1,y.c 1,(P0 x l).2.1.rn⟩,.int .i64 (P0 x l).2.2]):=by
 have hf:=h.few
 cases hb:(L5 x.r.kd x.r.n x.r.f x.r.nx x.r.mrk && isL l) with
 | false => exact uB x.A x.r.n x.c x.r.f (by omega) x.r.kd x.r.nx x.r.mrk h.nx h.key l hl hb
 | true => exact qO x.A x.r.n x.c x.r.f (by omega) x.r.kd x.r.nx x.r.mrk h.nx h.key l hl hb
theorem Er (x y:RA) (h:U8 x) (h':U8 y):j5 Tryz.prog 292 [u9 x,u9 y] (fun z => .tup [u9 ⟨z.A 0,z.c 0,(cx x y).1.rn⟩,.int .i64 (cx x y).2]):=by
 have hf:=h.few;have hf':=h'.few;exact yv x.A x.r.n x.c x.r.f (by omega) x.r.kd x.r.nx x.r.mrk h.nx y.A y.r.n y.c y.r.f (by omega) y.r.kd y.r.nx y.r.mrk h'.nx
def fzR:Fz -> RA
 | .fr x => x
 | _ => zRA
def fzI:Fz -> Int
 | .over => 0
 | .unfit => 1
 | .fr _ => 2
def sS (z:Fz):AV:=.tup [u9 (fzR z),.int .i64 (fzI z)]
theorem Fy {z:Fz} (h:fzI z=0):z = .over:=by cases z<;>first | rfl | (simp [fzI] at h)
theorem Fx {z:Fz} (h:fzI z=1):z = .unfit:=by cases z<;>first | rfl | (simp [fzI] at h)
theorem Fw {z:Fz} (h0:fzI z ≠ 0) (h1:fzI z ≠ 1):z = .fr (fzR z):=by cases z<;>first | rfl | exact absurd rfl h0 | exact absurd rfl h1
theorem o5 (bk k:Int) (n:Nat) (l up:Lab) (p:Pst):db bk k (n + 1) l up p=(R1 k l p).bind fun g p => if gk g 5=true then (R1 k up p).bind fun q p =>
      (if (gk q 3 || gk q 4)=true then Y5 bk k n up q p else .ok () p).bind fun _ p =>
        if gk q 2=true then (T0 k l g.ver (asR 1 g.x 0).r.abs p).bind fun d p => if d=true then .ok () p else db bk k n l up p else .ok () p else .ok () p:=rfl
section
def ClC (n:Nat):Prop:=∀ (k0 b:Nat) (J:i6) (hJ:k8 J) (A:Option Addr) (c:Nat) (p:Pst) (hp:i5 p) (hn:p.n<=1000000) (l:Lab) (hl:LOk l),p.n < n -> B7 235 k0 b J A c p [b6 l] (fun _ => i7) (C7 J.budget n l p)
def ThC (n:Nat):Prop:=∀ (k0 b:Nat) (J:i6) (hJ:k8 J) (A:Option Addr) (c:Nat) (p:Pst) (hp:i5 p) (hn:p.n<=1000000) (l:Lab) (hl:LOk l),p.n < n -> B7 236 k0 b J A c p [b6 l] (fun _ => i7) (G4 J.bucket J.budget n l p)
def AU (n:Nat):Prop:=∀ (k0 b:Nat) (J:i6) (hJ:k8 J) (A:Option Addr) (c:Nat) (p:Pst) (hp:i5 p) (hn:p.n<=1000000) (l:Lab) (hl:LOk l) (g:l9) (hg:dX g),p.n < n -> B7 193 k0 b J A c p [b6 l,s5 g] (fun _ => i7) (Y5 J.bucket J.budget n l g p)
end
end Go.Proofs.YtodelmejfpkicaaGreat.Sym
