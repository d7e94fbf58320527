/-
  Sym8, Sym9, SymKit, SymMan, PlB, PlNum, PlWire, PlDec, PlRec, SymEq, SymLab, SymRd, SymRec1, OpenS08, SymFr, SymArr, SymFz, SymMap, SymHd, PlGet, PlShelf, SymSh, SymShM, PlBack: put together by a program of mine (a claim may have 60 files at most). Conditions: none.
-/
import Derived.Test.YtmbkanpapkhnaaaGreatMgT1
import Derived.Orders
import Derived.OrdersHeld
import Derived.Defers
import Derived.Recover
import Derived.Lib.BitFns
import Derived.ChangeKeysEq
import Derived.Test.YtmbkanpapkhnaaaGreatChecked
import Derived.Lib.BufferWrite
import Derived.Maps.OwnSet
import Derived.Maps.RangeWalk
import Derived.Maps.Ext
import Derived.DeepKeys4
set_option linter.unusedVariables false
set_option linter.unusedSimpArgs false
set_option maxRecDepth 100000
set_option maxHeartbeats 1600000
namespace Go.Proofs.YtmbkanpapkhnaaaGreat.Sym
open Go.RowKit
def AgT(s s':St)(U:List Nat):Prop:=∀t∈U,look s.tmps t=look s'.tmps t/\J7 s.gs t=J7 s'.gs t
def AgM(s s':St)(R:List Nat):Prop:=∀k∈R,i8 s.mem k=i8 s'.mem k
def AgR(s s':St)(R:List Nat):Prop:=∀k∈R,i8 s.gr k=i8 s'.gr k
theorem AgT.sub{s s':St}{U V:List Nat}(h:AgT s s' U)(hs:∀t∈V,t∈U):AgT s s' V:=fun t ht=>h t (hs t ht)
theorem nE{l:List Operand}{t:Nat}(h:Operand.tmp t∈l):t∈tl l:=by
 induction l with
 |nil=>cases h
 |cons x l ih=>
  rcases List.mem_cons.1 h with h|h
  .subst h;simp[tl]
  have:=ih h
  cases x<;>simp[tl,this]
section
variable {s s':St} {q:List (Nat×Bool)} {A:Alg} {T:List (Nat×TI)} {cs:List (Nat×CS)} {x:j1} {i d ty:Nat}
theorem dP{U:List Nat}(h:AgT s s' U)(q:List (Nat×Bool)){y:Operand}(hy:∀t,y = .tmp t->t∈U):val s q y=val s' q y:=by
 cases y with
 |tmp t=>
  obtain⟨h1,h2⟩:=h t (hy t rfl);simp only[val,h1,h2]
 |_=>rfl
theorem Z2{U:List Nat}(h:AgT s s' U)(q:List (Nat×Bool)):∀{l:List Operand},(∀t∈tl l,t∈U)->R0 s q l=R0 s' q l
 | [],_=>rfl
 |y::l,hl=>by
  have h1:val s q y=val s' q y:=dP h q fun t ht=>hl t (nE (by simp[ht]))
  have h2:=Z2 h q (l:=l) (fun t ht=>hl t (by cases y<;>simp[tl,ht]));simp only[R0,h1,h2]
theorem bK{t:Nat}:∀{l r:List Operand},t∈tl l->t∈tl (l++r)
 |y::l,r,h=>by
  have ih:=bK (t:=t) (l:=l) (r:=r)
  cases y<;>simp[tl]at h ⊢<;>first|exact ih h|(rcases h with h|h;exact .inl h;exact .inr (ih h))
theorem M5{t:Nat}:∀{l r:List Operand},t∈tl r->t∈tl (l++r)
 | [],r,h=>h
 |y::l,r,h=>by
  have ih:=M5 (t:=t) (l:=l) (r:=r) h
  cases y<;>simp[tl]<;>first|exact ih|exact .inr ih
theorem cT{U:List Nat}(h:AgT s s' U)(q:List (Nat×Bool)):∀{l:List (Nat×Operand)},(∀t∈tl (l.map (·.2)),t∈U)->fu s q l=fu s' q l
 | [],_=>rfl
 |(k,y)::l,hl=>by
  have h1:val s q y=val s' q y:=dP h q fun t ht=>hl t (nE (by simp[ht]))
  have h2:=cT h q (l:=l) (fun t ht=>hl t (by cases y<;>simp[tl,ht]));simp only[fu,h1,h2]
theorem V5{U:List Nat}(h:AgT s s' U)(q:List (Nat×Bool))(dd:Int){o:Option Operand}(ho:∀t∈tl o.toList,t∈U):G3 A s q dd o=G3 A s' q dd o:=by
 cases o with
 |none=>rfl
 |some y=>
  have h1:val s q y=val s' q y:=dP h q fun t ht=>ho t (nE (by simp[ht]))
  simp only[G3,h1]
theorem gL{v1 v2:AV}{t1:Nat}(hR:AgR s s' (eb v1)):L6 A T x s d t1 v1 v2=L6 A T x s' d t1 v1 v2:=by
 unfold L6
 cases v1 with
 |sl g A1 n c k cells=>
  cases v2 with
  |sl g2 A2 n2 c2 k2 cells2=>
   cases D7 T t1 with
   |none=>rfl
   |some ti=>
    cases g with
    |none=>rfl
    |some key=>
     have e:i8 s.gr key=i8 s'.gr key:=hR key (by simp[eb]);simp only[e]
  |_=>rfl
 |_=>rfl
theorem im{l:List (Nat×List AV)}{K:List Nat}(hK:AgM s s' K)(hl:∀e∈l,e.1∈K):W7 s l=W7 s' l:=by
 induction l with
 |nil=>rfl
 |cons y l ih=>
  obtain⟨k,c⟩:=y;have h1:i8 s.mem k=i8 s'.mem k:=hK k (hl (k,c) (by simp));simp only[W7,h1,ih fun e he=>hl e (List.mem_cons_of_mem _ he)]
theorem vG{l:List (Nat×List AV)}{pre:List (Nat×Blk)}(h:W7 s l=some pre):l.map (·.1)=pre.map (·.1):=by
 induction l generalizing pre with
 |nil=>simp[W7]at h;subst h;rfl
 |cons y l ih=>
  obtain⟨k,c⟩:=y;simp only[W7]at h
  split at h
  .rename_i b r hb hr
   injection h with h;subst h
   simp[ih hr]
  cases h
theorem jG{v:AV}{o:Option CS}{l:Option (List AV)}{r:AV×Eff×List Ob}(h:U8 s x v o l=some r)(hR:AgM s s' (lL r.2.1++xN r.2.1)):U8 s' x v o l=some r:=by
 unfold U8 at h ⊢
 split at h
 .exact h
 .rename_i res a
  split at h
  .rename_i pre hp
   split at h
   .rename_i hn
    injection h with h;subst h
    have hk:=vG hp;have:=im (l:=(res x).sets) hR (fun e he=>by
     have:e.1∈(res x).sets.map (·.1):=List.mem_map.2 ⟨e,he,rfl⟩;rw[hk,<-jA hk]at this;simp only[lL,List.map_append];exact List.mem_append_left _ (List.mem_append_left _ this))
    rw[<-this,hp];simp only[hn,if_true]
   cases h
  cases h
 .rename_i f l r' ks res a
  split at h
  .rename_i pre hp
   split at h
   .rename_i hn
    injection h with h;subst h
    have:=im (l:=ks.map fun k=>(k,([]:List AV))) hR (fun e he=>by
     obtain⟨k,hk,rfl⟩:=List.mem_map.1 he;exact List.mem_append_right _ hk)
    rw[<-this,hp];simp only[hn,if_true]
   cases h
  cases h
 cases h
theorem jF{op:Op}{r:AV×Eff×List Ob}(hr:z7 A T cs x i s q d ty op=some r)(hU:AgT s s' (v8 op))(hR':AgM s s' (V8 s q op++(lL r.2.1++xN r.2.1)))(hG:AgR s s' (T4 s q op)):z7 A T cs x i s' q d ty op=some r/\V8 s q op=V8 s' q op/\T4 s q op=T4 s' q op:=by
 have hR:AgM s s' (V8 s q op):=fun k hk=>hR' k (List.mem_append_left _ hk)
 have hW:AgM s s' (lL r.2.1++xN r.2.1):=fun k hk=>hR' k (List.mem_append_right _ hk)
 suffices hh:(z7 A T cs x i s q d ty op=z7 A T cs x i s' q d ty op \/ z7 A T cs x i s' q d ty op=some r)/\V8 s q op=V8 s' q op/\T4 s q op=T4 s' q op by
  refine⟨?_,hh.2⟩
  rcases hh.1 with h|h
  .rw [<-h];exact hr
  exact h
 have V:∀q {y:Operand},(∀t,y = .tmp t->t∈v8 op)->val s q y=val s' q y:=fun q y hy=>dP hU q hy
 cases op with
 |move y=>simp only[z7,V8,T4,V q (y:=y) (fun t ht=>by subst ht;simp[v8,tl])];exact⟨.inl trivial,trivial,trivial⟩
 |makeFunc fn first cap=>
  have h1:=Z2 hU q (l:=first.toList) (fun t ht=>by simp only[v8];exact bK ht);have h2:=Z2 hU q (l:=cap.toList) (fun t ht=>by simp only[v8];exact M5 ht);simp only[z7,V8,T4,h1,h2];exact⟨.inl trivial,trivial,trivial⟩
 |makeInterface t y=>simp only[z7,V8,T4,V q (y:=y) (fun t ht=>by subst ht;simp[v8,tl])];exact⟨.inl trivial,trivial,trivial⟩
 |nilCheck y=>simp only[z7,V8,T4,V q (y:=y) (fun t ht=>by subst ht;simp[v8,tl])];exact⟨.inl trivial,trivial,trivial⟩
 |assign y=>simp only[z7,V8,T4,V q (y:=y) (fun t ht=>by subst ht;simp[v8,tl])];exact⟨.inl trivial,trivial,trivial⟩
 |box t y=>simp only[z7,V8,T4,V q (y:=y) (fun t ht=>by subst ht;simp[v8,tl])];exact⟨.inl trivial,trivial,trivial⟩
 |extract y n=>simp only[z7,V8,T4,V q (y:=y) (fun t ht=>by subst ht;simp[v8,tl])];exact⟨.inl trivial,trivial,trivial⟩
 |unOp o t y=>simp only[z7,V8,T4,V q (y:=y) (fun t ht=>by subst ht;simp[v8,tl])];exact⟨.inl trivial,trivial,trivial⟩
 |fieldAddr t y f=>simp only[z7,V8,T4,V q (y:=y) (fun t ht=>by subst ht;simp[v8,tl])];exact⟨.inl trivial,trivial,trivial⟩
 |field t y f=>simp only[z7,V8,T4,V q (y:=y) (fun t ht=>by subst ht;simp[v8,tl])];exact⟨.inl trivial,trivial,trivial⟩
 |convert t t' y=>simp only[z7,V8,T4,V q (y:=y) (fun t ht=>by subst ht;simp[v8,tl])];exact⟨.inl trivial,trivial,trivial⟩
 |binOp o t y z t'=>
  simp only[z7,V8,T4,V q (y:=y) (fun t ht=>by subst ht;simp[v8,tl]),V q (y:=z) (fun t ht=>by subst ht;cases y<;>simp[v8,tl])];exact⟨.inl trivial,trivial,trivial⟩
 |lookup t y z ok=>
  simp only[z7,V8,T4,V q (y:=y) (fun t ht=>by subst ht;simp[v8,tl]),V q (y:=z) (fun t ht=>by subst ht;cases y<;>simp[v8,tl])];exact⟨.inl trivial,trivial,trivial⟩
 |indexAddr t y z=>
  simp only[z7,V8,T4,V q (y:=y) (fun t ht=>by subst ht;simp[v8,tl]),V q (y:=z) (fun t ht=>by subst ht;cases y<;>simp[v8,tl])];exact⟨.inl trivial,trivial,trivial⟩
 |index t y z=>
  simp only[z7,V8,T4,V q (y:=y) (fun t ht=>by subst ht;simp[v8,tl]),V q (y:=z) (fun t ht=>by subst ht;cases y<;>simp[v8,tl])];exact⟨.inl trivial,trivial,trivial⟩
 |load t p=>
  have hp:=V q (y:=p) (fun t ht=>by subst ht;simp[v8,tl]);simp only[V8,hp]at hR ⊢;refine⟨.inl ?_,trivial,rfl⟩;simp only[z7,hp]
  cases hv:val s' q p with
  |ptr key b off=>
   have this:i8 s.mem key=i8 s'.mem key:=hR key (by rw[hv];simp[keyOf])
   cases D7 T t with
   |none=>rfl
   |some ti=>simp only[this]
  |_=>cases D7 T t<;>rfl
 |store t p y=>
  have hp:=V q (y:=p) (fun t ht=>by subst ht;simp[v8,tl]);have hy:=V q (y:=y) (fun t ht=>by subst ht;cases p<;>simp[v8,tl]);simp only[V8,hp]at hR ⊢;refine⟨.inl ?_,trivial,rfl⟩;simp only[z7,hp,hy]
  cases hv:val s' q p with
  |ptr key b off=>
   have this:i8 s.mem key=i8 s'.mem key:=hR key (by rw[hv];simp[keyOf])
   cases D7 T t with
   |none=>rfl
   |some ti=>simp only[this]
  |_=>cases D7 T t<;>rfl
 |pick c y z=>
  refine⟨.inl ?_,rfl,rfl⟩
  cases c with
  |tmp c=>
   have h1:=V q (y:=.tmp c) (fun t ht=>by injection ht with ht;subst ht;simp[v8,tl]);have h2:=fun q=>V q (y:=y) (fun t ht=>by subst ht;simp[v8,tl])
   have h3:=fun q=>V q (y:=z) (fun t ht=>by subst ht;cases y<;>simp[v8,tl])
   simp only[z7,h1,h2,h3]
  |_=>rfl
 |build t ps=>
  refine⟨.inl ?_,rfl,rfl⟩;have:=cT hU q (l:=ps.toList) (fun t ht=>ht);simp only[z7,this]
 |buildSlice t n ps=>
  refine⟨.inl ?_,rfl,rfl⟩;have:=cT hU q (l:=ps.toList) (fun t ht=>ht);simp only[z7,this]
 |slice t y lo hi mx=>
  refine⟨.inl ?_,rfl,rfl⟩
  cases mx with
  |some m=>
   have h1:=V q (y:=y) (fun t ht=>by subst ht;simp[v8,tl]);have h2:∀dd,G3 A s q dd lo=G3 A s' q dd lo:=fun dd=>V5 hU q dd (fun t ht=>M5 (l:=[y]) (bK ht))
   have h3:∀dd,G3 A s q dd hi=G3 A s' q dd hi:=fun dd=>V5 hU q dd (fun t ht=>M5 (l:=[y]) (M5 (bK ht)))
   have h4:∀dd,G3 A s q dd (some m)=G3 A s' q dd (some m):=fun dd=>V5 hU q dd (fun t ht=>M5 (l:=[y]) (M5 (M5 ht)))
   simp only[z7,h1,h2,h3,h4]
  |none=>
   have h1:=V q (y:=y) (fun t ht=>by subst ht;simp[v8,tl]);have h2:∀dd,G3 A s q dd lo=G3 A s' q dd lo:=fun dd=>V5 hU q dd (fun t ht=>M5 (l:=[y]) (bK ht))
   have h3:∀dd,G3 A s q dd hi=G3 A s' q dd hi:=fun dd=>V5 hU q dd (fun t ht=>M5 (l:=[y]) (M5 (bK ht)))
   simp only[z7,h1,h2,h3]
 |call c=>
  have h1:=Z2 hU q (l:=c.args.toList) (fun t ht=>by simp only[v8];exact M5 ht);have hv:∀y,y∈c.args.toList->val s q y=val s' q y:=fun y hy=>V q (fun t ht=>by subst ht;simp only[v8];exact M5 (nE hy))
  have hrg:T4 s q (.call c)=T4 s' q (.call c):=by
   simp only[T4]
   cases ha:c.args.toList with
   |nil=>rfl
   |cons o r=>exact congrArg eb (hv o (by rw[ha];simp))
  refine⟨?_,rfl,hrg⟩
  cases hc:c.callee with
  |builtin b=>
   refine .inl ?_;simp only[z7,h1,hc]
   cases b with
   |len=>
    simp only
    split
    .rename_i y t hy _
     rw[hv y (by rw[hy];simp)]
    rfl
   |append=>
    simp only
    split
    .rename_i y z t1 t2 hy _
     have e1:=hv y (by rw[hy];simp);have e2:=hv z (by rw[hy];simp);rw[e1,e2];have hG':AgR s s' (eb (val s' q y)):=by
      have:T4 s q (.call c)=eb (val s q y):=by simp only[T4,hy]
      rw[this,e1]at hG;exact hG
     rw[gL hG']
    rfl
   |min=>
    simp only
    split
    .rename_i y z hy
     have e1:=hv y (by rw[hy];simp);have e2:=hv z (by rw[hy];simp);rw[e1,e2]
    rfl
   |max=>
    simp only
    split
    .rename_i y z hy
     have e1:=hv y (by rw[hy];simp);have e2:=hv z (by rw[hy];simp);rw[e1,e2]
    rfl
   |_=>rfl
  |value g=>
   have hg:=V q (y:=g) (fun t ht=>by subst ht;simp only[v8,hc,nh];exact bK (by simp[tl]));refine .inr ?_;simp only[z7,hc]at hr ⊢;rw[hg,h1]at hr;exact jG hr hW
  |invoke y m=>
   refine .inl ?_;simp only[z7,hc]
 |_=>exact⟨.inl rfl,rfl,rfl⟩
theorem iC:∀{p:List (Nat×Bool)},AgT s s' (p.map (·.1))->gz s p=gz s' p
 | [],_=>rfl
 |(t,b)::p,h=>by
  obtain⟨h1,h2⟩:=h t (by simp);have ih:=iC (p:=p) (h.sub fun k hk=>by simp only[List.map_cons,List.mem_cons];exact .inr hk);have hv:pI s t=pI s' t:=by simp only[pI,h1,h2]
  simp only[gz,hv,ih]
theorem eZ(hn:s.nt=s'.nt)(d:Option Nat):fa s d=fa s' d:=by cases d<;>simp[fa,hn]
theorem eL{o:Oper}{ex:List Nat}{r:N3×List Ob×C8}(h:fC A T cs x i o s ex=some r)(hU:AgT s s' r.2.2.cons)(hR:AgM s s' r.2.2.rk)(hG:AgR s s' r.2.2.rg)(hn:s.nt=s'.nt):fC A T cs x i o s' ex=some r:=by
 unfold fC at h ⊢
 split at h
 .rename_i v e obs hst hnt
  injection h with h;subst h
  obtain⟨h1,h2,h3⟩:=jF hst (hU.sub fun t ht=>List.mem_append_left _ ht) hR hG;rw[h1,<-eZ hn,hnt,<-h2,<-h3]
 cases h
theorem aD{o:Oper}{ex:List Nat}(hn:s.nt=s'.nt):Z3 o s ex=Z3 o s' ex:=by
 unfold Z3;rw[eZ hn]
theorem bP{o:Oper}{ex:List Nat}{r:N3×List Ob×C8}(h:eM A T cs x i o s ex q=some r)(hU:AgT s s' r.2.2.cons)(hR:AgM s s' r.2.2.rk)(hG:AgR s s' r.2.2.rg)(hn:s.nt=s'.nt):eM A T cs x i o s' ex q=some r:=by
 unfold eM at h ⊢
 split at h
 .cases h
 rename_i d hd
 split at h
 .rename_i v e obs c hst hc
  split at h
  .rename_i hb
   injection h with h;subst h
   have hqe:pV e=true:=by simp only[Bool.and_eq_true]at hb;exact hb.1.1.1
   obtain⟨h1,h2,h4⟩:=jF hst (hU.sub fun t ht=>List.mem_append_left _ ht) (by simpa[xR hqe]using hR) hG;have h3:=iC (p:=q) (hU.sub fun t ht=>List.mem_append_right _ (List.mem_append_right _ ht));simp only[h1,<-h3,hc,<-hn,<-h2,<-h4];rw[if_pos hb]
  cases h
 cases h
theorem Cq{o:Oper}{all:List Oper}{r:N3×List Ob×C8}(h:K9 A T cs x all i o s=some r){j:Nat}{want:Bool}(hg:o.guard=some (j,want)){g:Nat}(hb:(all[j]?).bind (·.dst)=some g):g∈r.2.2.cons:=by
 have hu:∀{r},fC A T cs x i o s [g]=some r->g∈r.2.2.cons:=by
  intro r h;unfold fC at h
  split at h
  .injection h with h;subst h;simp
  cases h
 have hsk:∀{r},Z3 o s [g]=some r->g∈r.2.2.cons:=by
  intro r h;unfold Z3 at h
  split at h
  .injection h with h;subst h;simp
  cases h
 have hr:∀{q r},eM A T cs x i o s [g] q=some r->g∈r.2.2.cons:=by
  intro q r h;unfold eM at h
  split at h
  .cases h
  split at h
  .split at h
   .injection h with h;subst h;simp
   cases h
  cases h
 simp only[K9,hg,hb]at h
 split at h
 .split at h
  .exact hr h
  exact hsk h
 .split at h
  .exact hsk h
  exact hr h
 .exact hr h
 .cases h
 split at h
 .split at h
  .exact hu h
  exact hsk h
 .split at h
  .exact hsk h
  exact hu h
 .exact hr h
 cases h
theorem V3{o:Oper}{all:List Oper}{r:N3×List Ob×C8}(h:K9 A T cs x all i o s=some r)(hU:AgT s s' r.2.2.cons)(hR:AgM s s' r.2.2.rk)(hG:AgR s s' r.2.2.rg)(hn:s.nt=s'.nt):K9 A T cs x all i o s'=some r:=by
 cases hg:o.guard with
 |none=>
  simp only[K9,hg]at h ⊢;exact eL h hU hR hG hn
 |some jw=>
  obtain⟨j,want⟩:=jw
  cases hb:(all[j]?).bind (·.dst)with
  |none=>simp only[K9,hg,hb]at h;cases h
  |some g=>
   obtain⟨e1,e2⟩:=hU g (Cq h hg hb);simp only[K9,hg,hb,<-e1,<-e2]at h ⊢
   split at h
   .split at h
    .rename_i hw;rw[if_pos hw];exact bP h hU hR hG hn
    rename_i hw;rw[if_neg hw,<-aD hn];exact h
   .split at h
    .rename_i hw;rw[if_pos hw,<-aD hn];exact h
    rename_i hw;rw[if_neg hw];exact bP h hU hR hG hn
   .exact bP h hU hR hG hn
   .cases h
   split at h
   .split at h
    .rename_i hw;rw[if_pos hw];exact eL h hU hR hG hn
    rename_i hw;rw[if_neg hw,<-aD hn];exact h
   .split at h
    .rename_i hw;rw[if_pos hw,<-aD hn];exact h
    rename_i hw;rw[if_neg hw];exact eL h hU hR hG hn
   .exact bP h hU hR hG hn
   cases h
end
def Fw:Put->AV
 | .plain v=>v
 | .guarded _ _=>.undef
def Fx:Put->Option (List (Nat×Bool)×AV)
 | .plain _=>none
 | .guarded q v=>some (q,v)
def eT:Eff->List (Nat×Blk)
 | .new k b=>[(k,b)]
 | .set k b=>[(k,b)]
 | .sets l=>l
 |_=>[]
def lP:Eff->Option (Nat×Gr)
 | .grow k t=>some (k,t)
 |_=>none
def NM(s:St)(Ds:List Nat):Prop:=∀t p v,J7 s.gs t=some (p,v)->∀d∈Ds,∀x∈p,x.1≠d
def Wf(δ : N3):Prop:=∀q v,δ.p = .guarded q v->δ.d≠none
def dl:Option Nat->List Nat
 |none=>[]
 |some d=>[d]
theorem qf{p:List (Nat×Bool)}{d:Nat}(h:∀x∈p,x.1≠d):R2 p d=false:=by
 induction p with
 |nil=>rfl
 |cons y p ih=>
  obtain⟨k,b⟩:=y;simp only[R2,Bool.or_eq_false_iff,beq_eq_false_iff_ne];exact⟨h (k,b) (by simp),ih fun x hx=>h x (by simp[hx])⟩
section
variable {s:St} {δ : N3}
theorem qH(e:Eff):(s.eff e).tmps=s.tmps:=by cases e<;>rfl
theorem sL(e:Eff):(s.eff e).gs=s.gs:=by cases e<;>rfl
theorem fm:(s.app δ).nt=s.nt:=by
 obtain⟨e,d,p⟩:=δ
 cases p<;>cases d<;>simp[St.app,St.put,St.putG,lc]
theorem ar(hw:Wf δ)(t:Nat):look (s.app δ).tmps t=if δ.d=some t then Fw δ.p else look s.tmps t:=by
 obtain⟨e,d,p⟩:=δ
 cases p with
 |plain v=>cases d<;>simp[St.app,St.put,qH,u5,Fw]
 |guarded q v=>cases d with
  |none=>exact absurd rfl (hw q v rfl)
  |some d=>simp[St.app,St.putG,qH,u5,Fw]
theorem dK(hw:Wf δ)(hn:NM s (dl δ.d))(t:Nat):J7 (s.app δ).gs t=if δ.d=some t then Fx δ.p else J7 s.gs t:=by
 obtain⟨e,d,p⟩:=δ;have hk:∀d',d=some d'->(J7 s.gs t).map (wc d')=J7 s.gs t:=by
  intro d' hd
  cases hl:J7 s.gs t with
  |none=>rfl
  |some x=>
   obtain⟨p',v'⟩:=x;have:=qf (hn t p' v' hl d' (by simp[hd,dl]));simp[wc,this]
 cases p with
 |plain v=>cases d with
  |none=>simp[St.app,St.put,sL]
  |some d=>simp[St.app,St.put,sL,eW,Fx,hk d rfl]
 |guarded q v=>cases d with
  |none=>exact absurd rfl (hw q v rfl)
  |some d=>
   simp only[St.app,St.putG,sL,aa,eW,Fx,hk d rfl,Option.some.injEq]
   split<;>rfl
theorem cz(hw:Wf δ)(k:Nat):i8 (s.app δ).mem k=(i8 (eT δ.e) k).or (i8 s.mem k):=by
 obtain⟨e,d,p⟩:=δ;have he:(s.app ⟨e,d,p⟩).mem=(s.eff e).mem:=by
  cases p with
  |plain v=>cases d<;>rfl
  |guarded q v=>cases d with
   |none=>exact absurd rfl (hw q v rfl)
   |some d=>rfl
 rw[he]
 cases e with
 |sets l=>simp only[St.eff,eT,aG]
 |new k' b=>simp only[St.eff,eT,C7,Y9];by_cases h:k'=k<;>simp[h,i8]
 |set k' b=>simp only[St.eff,eT,C7,Y9];by_cases h:k'=k<;>simp[h,i8]
 |_=>simp[St.eff,eT,i8]
theorem fo(hw:Wf δ)(k:Nat):i8 (s.app δ).gr k=match lP δ.e with|some (k',b)=>if k'=k then some b else i8 s.gr k|none=>i8 s.gr k:=by
 obtain⟨e,d,p⟩:=δ;have he:(s.app ⟨e,d,p⟩).gr=(s.eff e).gr:=by
  cases p with
  |plain v=>cases d<;>rfl
  |guarded q v=>cases d with
   |none=>exact absurd rfl (hw q v rfl)
   |some d=>rfl
 rw[he]
 cases e<;>simp only[St.eff,lP,C7,Y9]<;>(repeat(first|rfl|split))<;>simp_all
theorem ni{s':St}(hw:Wf δ)(h:N4 s s')(hn:NM s (dl δ.d)):N4 (s.app δ) (s'.app δ):=by
 have hn':NM s' (dl δ.d):=fun t p v hl=>hn t p v (by rw[h.gs];exact hl)
 refine⟨by rw[fm,fm];exact h.nt,fun t=>?_,fun t=>?_,fun k=>?_,fun k=>?_⟩
 .rw [ar hw,ar hw,h.tmps]
 .rw [dK hw hn,dK hw hn',h.gs]
 .rw [cz hw,cz hw,h.mem]
 rw[fo hw,fo hw,h.gr]
end
theorem NM.sub{s:St}{D E:List Nat}(h:NM s D)(hs:∀d∈E,d∈D):NM s E:=fun t p v hl d hd=>h t p v hl d (hs d hd)
theorem NM.app{s:St}{δ : N3}{D:List Nat}(h:NM s D)(hw:Wf δ)(hd:NM s (dl δ.d))(hq:∀q v,δ.p = .guarded q v->∀d∈D,∀x∈q,x.1≠d):NM (s.app δ) D:=by
 intro t p v hl;rw[dK hw hd]at hl
 split at hl
 .cases hp:δ.p with
  |plain v'=>rw[hp]at hl;cases hl
  |guarded q v'=>rw[hp]at hl;injection hl with hl;injection hl with h1 h2;subst h1;exact hq q v' hp
 exact h t p v hl
theorem qV{s:St}{δ ε : N3}(hδ : Wf δ)(hε : Wf ε)(h1:NM s (dl δ.d))(h2:NM s (dl ε.d))(h3:NM (s.app δ) (dl ε.d))(h4:NM (s.app ε) (dl δ.d))(hd:∀t,δ.d=some t->ε.d≠some t)
  (hm:∀k b b',i8 (eT δ.e) k=some b->i8 (eT ε.e) k=some b'->False) (hg:∀k b k' b',lP δ.e=some (k,b)->lP ε.e=some (k',b')->k≠k'):N4 ((s.app δ).app ε) ((s.app ε).app δ):=by
 refine⟨by simp only[fm],fun t=>?_,fun t=>?_,fun k=>?_,fun k=>?_⟩
 .rw [ar hε,ar hδ,ar hδ,ar hε]
  by_cases e1:δ.d=some t
  .rw [if_neg (hd t e1),if_pos e1,if_pos e1]
  by_cases e2:ε.d=some t<;>simp[e1,e2]
 .rw [dK hε h3,dK hδ h1,dK hδ h4,dK hε h2]
  by_cases e1:δ.d=some t
  .rw [if_neg (hd t e1),if_pos e1,if_pos e1]
  by_cases e2:ε.d=some t<;>simp[e1,e2]
 .rw [cz hε,cz hδ,cz hδ,cz hε]
  cases hx:i8 (eT δ.e) k with
  |none=>cases i8 (eT ε.e) k<;>rfl
  |some b=>
   cases hy:i8 (eT ε.e) k with
   |none=>rfl
   |some b'=>exact(hm k b b' hx hy).elim
 rw[fo hε,fo hδ,fo hδ,fo hε]
 cases hx:lP δ.e with
 |none=>cases lP ε.e<;>rfl
 |some kb=>
  obtain⟨k1,b1⟩:=kb
  cases hy:lP ε.e with
  |none=>rfl
  |some kb'=>
   obtain⟨k2,b2⟩:=kb';have:=hg k1 b1 k2 b2 hx hy;simp only
   by_cases e1:k1=k
   .subst e1;simp[fun h:k2=k1=>this h.symm]
    intro h;exact absurd h.symm this
   simp[e1]
theorem BH{e:Eff}{k:Nat}{b:Blk}(h:i8 (eT e) k=some b):k∈lL e:=by
 cases e with
 |sets l=>exact List.mem_map.2 ⟨_,F9 h,rfl⟩
 |new k' b'=>have:=F9 h;simp[eT]at this;simp[lL,this]
 |set k' b'=>have:=F9 h;simp[eT]at this;simp[lL,this]
 |_=>cases h
structure fq(r:N3×List Ob×C8):Prop where
 wf:Wf r.1
 d:r.2.2.d=r.1.d
 wk:∀k b,i8 (eT r.1.e) k=some b->k∈r.2.2.wk
 wg:∀k b,lP r.1.e=some (k,b)->k∈r.2.2.wg
 qs:∀q v,r.1.p = .guarded q v->∀x∈q,x.1∈r.2.2.qs
theorem U3{A:Alg}{T:List (Nat×TI)}{cs:List (Nat×CS)}{x:j1}{all:List Oper}{i:Nat}{o:Oper}{s:St}{r:N3×List Ob×C8}(h:K9 A T cs x all i o s=some r):fq r:=by
 have hu:∀{ex r},fC A T cs x i o s ex=some r->fq r:=by
  intro ex r h;unfold fC at h
  split at h
  .rename_i v e obs _ _
   injection h with h;subst h
   refine⟨(fun q v h=>by cases h),rfl,fun k b h=>?_,fun k b h=>?_,(fun q v h=>by cases h)⟩
   .exact BH h
   cases e<;>simp[lP]at h<;>simp[GU,h]
  cases h
 have hsk:∀{ex r},Z3 o s ex=some r->fq r:=by
  intro ex r h;unfold Z3 at h
  split at h
  .injection h with h;subst h
   exact⟨(fun q v h=>by cases h),rfl,(fun k b h=>by cases h),(fun k b h=>by cases h),(fun q v h=>by cases h)⟩
  cases h
 have hr:∀{ex q r},eM A T cs x i o s ex q=some r->fq r:=by
  intro ex q r h;unfold eM at h
  split at h
  .cases h
  rename_i d hd
  split at h
  .split at h
   .injection h with h;subst h
    refine⟨(fun q v h=>by rw[hd];simp),rfl,(fun k b h=>by cases h),(fun k b h=>by cases h),(fun q' v' h y hy=>?_)⟩;injection h with h1 h2;subst h1
    exact List.mem_map.2 ⟨y,hy,rfl⟩
   cases h
  cases h
 cases hg:o.guard with
 |none=>simp only[K9,hg]at h;exact hu h
 |some jw=>
  obtain⟨j,want⟩:=jw;simp only[K9,hg]at h
  split at h
  .cases h
  split at h
  .split at h
   .exact hr h
   exact hsk h
  .split at h
   .exact hsk h
   exact hr h
  .exact hr h
  .cases h
  split at h
  .split at h
   .exact hu h
   exact hsk h
  .split at h
   .exact hsk h
   exact hu h
  .exact hr h
  cases h
def et(l r:List Nat):Bool:=l.all fun x=>!(r.contains x)
theorem F5{l r:List Nat}(h:et l r=true):∀x∈l,x ∉ r:=by
 intro x hx hr;have:=List.all_eq_true.1 h x hx;simp[hr]at this
def gA(f g:C8):Bool:=et (dl f.d) g.qs&&et (dl f.d) g.cons&&et (dl g.d) f.cons&&et (dl f.d) (dl g.d)&&et f.wk g.rk&&et g.wk f.rk&&et f.wk g.wk&&et f.wg g.rg&&et g.wg f.rg&&et f.wg g.wg
section
variable {A:Alg} {T:List (Nat×TI)} {cs:List (Nat×CS)} {X:Nat->j1} {all:List Oper}
def ds(fs:List C8):List Nat:=fs.flatMap fun f=>dl f.d
theorem ia{fs:List C8}{g:C8}(hg:g∈fs){d:Nat}(hd:d∈dl g.d):d∈ds fs:=List.mem_flatMap.2 ⟨g,hg,hd⟩
theorem En{fs:List C8}{d:Nat}(hd:d∈ds fs):∃g∈fs,d∈dl g.d:=List.mem_flatMap.1 hd
def Ord(fs:List C8):Prop:=fs.Pairwise fun f g=>et (dl g.d) f.qs=true
theorem dp{r:N3×List Ob×C8}(hf:fq r){s:St}{fs gs:List C8}(hn:NM s (ds fs))(hm:r.2.2∈fs)(hs:∀g∈gs,g∈fs)(hq:∀g∈gs,et (dl g.d) r.2.2.qs=true):NM s (dl r.1.d)/\NM (s.app r.1) (ds gs):=by
 have h1:NM s (dl r.1.d):=hn.sub fun d hd=>ia hm (by rw[hf.d];exact hd)
 refine⟨h1,NM.app (hn.sub fun d hd=>?_) hf.wf h1 fun q v hp d hd x hx e=>?_⟩
 .obtain ⟨g,hg,hgd⟩:=En hd
  exact ia (hs g hg) hgd
 obtain⟨g,hg,hgd⟩:=En hd;exact F5 (hq g hg) d hgd (e ▸ hf.qs q v hp x hx)
theorem kT:∀{l:List (Nat×Oper)} {s s' τ : St} {obs:List Ob} {fs:List C8},G8 A T cs X all l s=some (τ,obs,fs)->N4 s s'->NM s (ds fs)->Ord fs->∃τ',G8 A T cs X all l s'=some (τ',obs,fs)/\N4 τ τ'
 | [],s,s',τ,obs,fs,h,ha,hn,hf=>by
  simp only[G8,Option.some.injEq,Prod.mk.injEq]at h;obtain⟨rfl,rfl,rfl⟩:=h;exact⟨s',rfl,ha⟩
 |(i,o)::l,s,s',τ,obs,fs,h,ha,hn,hf=>by
  obtain⟨δ,ob,f,r',h1,h2,h3⟩:=N1 h;obtain⟨τ1,obs1,fs1⟩:=r';simp only[Prod.mk.injEq]at h3;obtain⟨rfl,rfl,rfl⟩:=h3;have hfo:=U3 h1;have hd':=V3 h1 (s':=s') (fun t _=>⟨ha.tmps t,ha.gs t⟩) (fun k _=>ha.mem k) (fun k _=>ha.gr k) ha.nt;have hf':=List.pairwise_cons.1 hf;obtain⟨n1,n2⟩:=dp hfo (gs:=fs1) hn (by simp) (fun g hg=>by simp[hg]) hf'.1;obtain⟨τ',e1,e2⟩:=kT h2 (ni hfo.wf ha n1) n2 hf'.2;exact⟨τ',by simp only[G8,hd',e1],e2⟩
theorem pk{s:St}{r:N3×List Ob×C8}(hf:fq r)(hn:NM s (dl r.1.d)){g:C8}(h1:∀x∈dl r.2.2.d,x ∉ g.cons)(h2:∀x∈r.2.2.wk,x ∉ g.rk)(h3:∀x∈r.2.2.wg,x ∉ g.rg):AgT s (s.app r.1) g.cons/\AgM s (s.app r.1) g.rk/\AgR s (s.app r.1) g.rg:=by
 refine⟨?_,?_,?_⟩
 .intro t ht
  have hne:r.1.d≠some t:=fun e=>h1 t (by rw[hf.d,e];simp[dl]) ht
  exact⟨by rw[ar hf.wf,if_neg hne],by rw[dK hf.wf hn,if_neg hne]⟩
 .intro k hk
  rw[cz hf.wf]
  cases hx:i8 (eT r.1.e) k with
  |none=>rfl
  |some b=>exact absurd hk (h2 k (hf.wk k b hx))
 intro k hk;rw[fo hf.wf]
 cases hx:lP r.1.e with
 |none=>rfl
 |some kb=>
  obtain⟨k',b⟩:=kb;have hne:k'≠k:=fun e=>h3 k' (hf.wg k' b hx) (e ▸ hk)
  simp[hne]
theorem N4.symm{s t:St}(h:N4 s t):N4 t s:=⟨h.nt.symm,fun k=>(h.tmps k).symm,fun k=>(h.gs k).symm,fun k=>(h.mem k).symm,fun k=>(h.gr k).symm⟩
theorem N4.trans{s t u:St}(h:N4 s t)(h':N4 t u):N4 s u:=⟨h.nt.trans h'.nt,fun k=>(h.tmps k).trans (h'.tmps k),fun k=>(h.gs k).trans (h'.gs k),fun k=>(h.mem k).trans (h'.mem k),fun k=>(h.gr k).trans (h'.gr k)⟩
theorem mq{P:Program}{K:Kn}{i:Nat}{o:Oper}{L2:List (Nat×Oper)}:∀{L1:List (Nat×Oper)} {s τ : St} {obs:List Ob} {fs1:List C8} {f:C8} {fs2:List C8},
  G8 A T cs X all (L1++(i,o)::L2) s=some (τ,obs,fs1++f::fs2)->fs1.length=L1.length->NM s (ds (fs1++f::fs2))->Ord (fs1++f::fs2)->(∀g∈fs1,gA g f=true) →
  ∃δ ob,K9 A T cs (X i) all i o s=some (δ,ob,f)/\∃τ' obs',G8 A T cs X all (L1++L2) (s.app δ)=some (τ',obs',fs1++fs2)/\N4 τ' τ/\(f8 P K obs->f8 P K ob/\f8 P K obs')
 | [],s,τ,obs,fs1,f,fs2,h,hl,hn,Z,hc=>by
  have:fs1=[]:=List.eq_nil_of_length_eq_zero hl;subst this;obtain⟨δ,ob,f',r',h1,h2,h3⟩:=N1 h;obtain⟨τ1,obs1,fs1⟩:=r';simp only[List.nil_append,Prod.mk.injEq,List.cons.injEq]at h3;obtain⟨rfl,rfl,rfl,rfl⟩:=h3;exact⟨δ,ob,h1,τ,obs1,h2,⟨rfl,fun _=>rfl,fun _=>rfl,fun _=>rfl,fun _=>rfl⟩,fun ha=>f8.app.1 ha⟩
 |(j,oj)::L1,s,τ,obs,fs1,f,fs2,h,hl,hn,Z,hc=>by
  cases fs1 with
  |nil=>cases hl
  |cons fj fs1=>
   obtain⟨δj,obj,fj',r',h1,h2,h3⟩:=N1 h;obtain⟨τ1,obs1,fsr⟩:=r';simp only[List.cons_append,Prod.mk.injEq,List.cons.injEq]at h3;obtain⟨rfl,rfl,rfl,rfl⟩:=h3;have hfj:=U3 h1;have hF':=List.pairwise_cons.1 Z;obtain⟨n1,n2⟩:=dp hfj (gs:=fs1++f::fs2) hn (by simp) (fun g hg=>by simp only[List.cons_append,List.mem_cons];exact .inr hg) hF'.1;obtain⟨δ,ob,g1,τ',obs',g2,g3,g4⟩:=mq (P:=P) (L1:=L1) h2 (by simpa using hl) n2 hF'.2 (fun g hg=>hc g (by simp[hg]));have hcm:=hc fj (by simp);simp only[gA,Bool.and_eq_true]at hcm;obtain⟨⟨⟨⟨⟨⟨⟨⟨⟨c0,c1⟩,c2⟩,c3⟩,c4⟩,c5⟩,c6⟩,c7⟩,c8⟩,c9⟩:=hcm;have hf:=U3 g1;have hFf:=List.pairwise_append.1 hF'.2;have hin:∀g∈fs1++fs2,g∈fs1++f::fs2:=fun g hg=>by
    rcases List.mem_append.1 hg with hg|hg
    .exact List.mem_append_left _ hg
    exact List.mem_append_right _ (List.mem_cons_of_mem _ hg)
   have hq:∀g∈fj::(fs1++fs2),et (dl g.d) f.qs=true:=by
    intro g hg
    rcases List.mem_cons.1 hg with rfl|hg
    .exact c0
    rcases List.mem_append.1 hg with hg|hg
    .have:=hc g (by simp[hg])
     simp only[gA,Bool.and_eq_true]at this;exact this.1.1.1.1.1.1.1.1.1
    exact(List.pairwise_cons.1 hFf.2.1).1 g hg
   -- i at s
   obtain⟨a1,a2,a3⟩:=pk hfj n1 (g:=f) (F5 c1) (F5 c4) (F5 c7);have d1:K9 A T cs (X i) all i o s=some (δ,ob,f):=V3 g1 (fun t ht=>⟨(a1 t ht).1.symm,(a1 t ht).2.symm⟩) (fun k hk=>(a2 k hk).symm) (fun k hk=>(a3 k hk).symm) fm;obtain⟨m1,m2⟩:=dp hf (gs:=fj::(fs1++fs2)) hn (by simp) (fun g hg=>by
    rcases List.mem_cons.1 hg with rfl|hg
    .simp
    simp only[List.cons_append,List.mem_cons];exact .inr (hin g hg)) hq
   -- j behind i
   obtain⟨b1,b2,b3⟩:=pk hf m1 (g:=fj) (F5 c2) (F5 c5) (F5 c8);have d2:K9 A T cs (X j) all j oj (s.app δ)=some (δj,obj,fj):=V3 h1 b1 b2 b3 fm.symm
   -- the two orders come to the same
   have sw:N4 ((s.app δj).app δ) ((s.app δ).app δj):=by
    refine qV hfj.wf hf.wf n1 m1 (n2.sub fun d hd=>ia (g:=f) (by simp) (by rw[hf.d];exact hd)) (m2.sub fun d hd=>ia (g:=fj) (by simp) (by rw[hfj.d];exact hd)) (fun t ht ht'=>?_) (fun k b b' e1 e2=>?_) (fun k b k' b' e1 e2 he=>?_)
    .exact F5 c3 t (by rw[hfj.d];simp only;rw[ht];simp[dl]) (by rw[hf.d];simp only;rw[ht'];simp[dl])
    .exact F5 c6 k (hfj.wk k b e1) (hf.wk k b' e2)
    subst he;exact F5 c9 k (hfj.wg k b e1) (hf.wg k b' e2)
   obtain⟨nn1,nn2⟩:=dp hf (gs:=fs1++fs2) n2 (by simp) hin (fun g hg=>hq g (List.mem_cons_of_mem _ hg));obtain⟨τ'',e1,e2⟩:=kT g2 sw nn2 (hF'.2.sublist (List.Sublist.append_left (List.sublist_cons_self _ _) _));refine⟨δ,ob,d1,τ'',obj++obs',?_,e2.symm.trans g3,fun ha=>?_⟩
   .simp only[List.cons_append,G8,d2,e1]
   obtain⟨p1,p2⟩:=f8.app.1 ha;obtain⟨p3,p4⟩:=g4 p2;exact⟨p3,f8.app.2 ⟨p1,p4⟩⟩
end
def lZ(tb:List Nat)(m:Nat):List Edge->Nat
 | []=>m
 |e::l=>lZ tb (if Region.binds .any e then(m ||| 1 <<< e.on) ||| tb.getD e.on 0 else m) l
def eA:List Oper->List Nat->List Nat
 | [],tb=>tb
 |o::l,tb=>eA l (tb ++ [lZ tb 0 o.after.toList])
inductive B9(all:List Oper):Nat->Nat->Prop
 |one {i j:Nat} {o:Oper} {e:Edge}:all[i]? = some o->e∈o.after.toList->Region.binds .any e=true->e.on=j->B9 all i j
 |more {i j:Nat} {o:Oper} {e:Edge}:all[i]? = some o->e∈o.after.toList->Region.binds .any e=true->B9 all e.on j->B9 all i j
theorem pp{tb:List Nat}:∀{l:List Edge} {m j:Nat},(lZ tb m l).testBit j=true->m.testBit j=true \/ ∃e∈l,Region.binds .any e=true/\(e.on=j \/ (tb.getD e.on 0).testBit j=true)
 | [],m,j,h=>.inl h
 |e::l,m,j,h=>by
  rcases pp (l:=l) h with h|⟨e',h1,h2⟩
  .split at h
   .rename_i hb
    rw[Nat.testBit_or,Nat.testBit_or,Nat.one_shiftLeft,Nat.testBit_two_pow]at h;simp only[Bool.or_eq_true,decide_eq_true_eq]at h
    rcases h with(h|h)|h
    .exact .inl h
    .exact .inr ⟨e,by simp,hb,.inl h⟩
    exact .inr ⟨e,by simp,hb,.inr h⟩
   exact .inl h
  exact .inr ⟨e',by simp[h1],h2⟩
theorem dt{all:List Oper}:∀{l:List Oper} {tb:List Nat},all.drop tb.length=l->(∀i j,(tb.getD i 0).testBit j=true->B9 all i j)->∀i j,((eA l tb).getD i 0).testBit j=true->B9 all i j
 | [],tb,_,h=>h
 |o::l,tb,hl,h=>by
  have ho:all[tb.length]? = some o:=by
   have:=congrArg (fun r=>r[0]?) hl
   simpa using this
  refine dt (l:=l) (tb:=tb ++ [lZ tb 0 o.after.toList]) ?_ fun i j hij=>?_
  .have:=congrArg List.tail hl
   simpa[List.tail_drop]using this
  rcases Nat.lt_trichotomy i tb.length with hlt|he|hgt
  .refine h i j ?_
   simpa[List.getD,List.getElem?_append_left hlt]using hij
  .subst he
   have:(lZ tb 0 o.after.toList).testBit j=true:=by simpa[List.getD]using hij
   rcases pp this with h0|⟨e,h1,h2,h3⟩
   .simp at h0
   rcases h3 with h3|h3
   .exact .one ho h1 h2 h3
   exact .more ho h1 h2 (h _ _ h3)
  exfalso
  have:(tb ++ [lZ tb 0 o.after.toList])[i]? = none:=by rw[List.getElem?_eq_none_iff];simp;omega
  simp[List.getD,this]at hij
def iS(tb:List Nat)(i j:Nat):Bool:=(tb.getD i 0).testBit j
def eQ(tb:List Nat):List (Nat×Oper)->List C8->Bool
 |(j,_)::l,f::fs=>(l.zip fs).all (fun x=>iS tb x.1.1 j||gA f x.2)&&eQ tb l fs
 |_,_=>true
def cp:List (Nat×Oper)->Bool
 | []=>true
 |(i,o)::l=>o.after.toList.all (fun e=>!(Region.binds .any e)||Nat.blt e.on i)&&cp l
def BA:List C8->Bool
 | []=>true
 |f::fs=>fs.all (fun g=>et (dl g.d) f.qs)&&BA fs
theorem jc:∀{fs:List C8},BA fs=true->Ord fs
 | [],_=>.nil
 |f::fs,h=>by
  simp only[BA,Bool.and_eq_true]at h;exact .cons (fun g hg=>List.all_eq_true.1 h.1 g hg) (jc h.2)
def aJ(l:List Oper)(fs:List C8):Bool:=eQ (eA l []) (l6 0 l) fs&&cp (l6 0 l)&&BA fs
theorem T6:∀{l:List Oper} {i:Nat} {x:Nat×Oper},x∈l6 i l->i<=x.1/\l[x.1-i]? = some x.2
 | [],i,x,h=>by cases h
 |o::l,i,x,h=>by
  rcases List.mem_cons.1 h with rfl|h
  .simp
  obtain⟨h1,h2⟩:=T6 h;refine⟨by omega,?_⟩;rw[show x.1-i=(x.1-(i+1))+1 by omega,List.getElem?_cons_succ];exact h2
theorem Z7:∀{l:List Oper} {i k:Nat} {o:Oper},l[k]? = some o->(i+k,o)∈l6 i l
 | [],i,k,o,h=>by simp at h
 |o'::l,i,0,o,h=>by simp at h;subst h;simp[l6]
 |o'::l,i,k+1,o,h=>by
  have:=Z7 (l:=l) (i:=i+1) (k:=k) (o:=o) (by simpa using h);rw[show i+(k+1)=i+1+k by omega];exact List.mem_cons_of_mem _ this
theorem U5:∀(l:List Oper) (i:Nat),(l6 i l).Pairwise (fun x y=>x.1<y.1)
 | [],_=>.nil
 |o::l,i=>List.pairwise_cons.2 ⟨fun x hx=>by have:=Y8 x hx;simp only;omega,U5 l (i+1)⟩
def tg(tb:List Nat)(L:List (Nat×Oper))(fs:List C8):Prop:=L.length=fs.length/\eQ tb L fs=true
theorem bS{tb:List Nat}{i:Nat}{o:Oper}:∀{L1 L2:List (Nat×Oper)} {fs1:List C8} {f:C8} {fs2:List C8},fs1.length=L1.length->eQ tb (L1++(i,o)::L2) (fs1++f::fs2)=true →
  eQ tb (L1++L2) (fs1++fs2)=true/\∀(k:Nat) (x:Nat×Oper) (g:C8),L1[k]? = some x->fs1[k]? = some g->iS tb i x.1=true \/ gA g f=true
 | [],L2,fs1,f,fs2,hl,h=>by
  have:fs1=[]:=List.eq_nil_of_length_eq_zero hl;subst this;simp only[List.nil_append,eQ,Bool.and_eq_true]at h;exact⟨h.2,fun k x g hx=>by simp at hx⟩
 |(j,oj)::L1,L2,fs1,f,fs2,hl,h=>by
  cases fs1 with
  |nil=>cases hl
  |cons fj fs1=>
   have hl':fs1.length=L1.length:=by simpa using hl
   simp only[List.cons_append,eQ,Bool.and_eq_true]at h ⊢;obtain⟨h1,h2⟩:=h;obtain⟨g1,g2⟩:=bS hl' h2;have hz:=List.all_eq_true.1 h1;refine⟨⟨List.all_eq_true.2 fun x hx=>hz x ?_,g1⟩,fun k x g hx hg=>?_⟩
   .rw [List.zip_append hl'.symm]at hx ⊢
    rcases List.mem_append.1 hx with hx|hx
    .exact List.mem_append_left _ hx
    exact List.mem_append_right _ (by simp only[List.zip_cons_cons,List.mem_cons];exact .inr hx)
   cases k with
   |zero=>
    simp at hx hg;subst hx;subst hg;have:=hz ((i,o),f) (by rw[List.zip_append hl'.symm];exact List.mem_append_right _ (by simp))
    simpa using this
   |succ k=>exact g2 k x g (by simpa using hx) (by simpa using hg)
section
variable {C:Cx} {P:Program} {Q:Exit->Act->World->Prop} {T:List (Nat×TI)} {cs:List (Nat×CS)} {ops:Array Oper} {all:List Oper}
theorem R5{listed:Array Bool}{k:Nat}(h:listed.getD k true=false):listed.getD k false=false:=by
 simp only[Array.getD_eq_getD_getElem?]at h ⊢
 cases hk:listed[k]? with
 |none=>rfl
 |some b=>rw[hk]at h;simpa using h
theorem fW{listed:Array Bool}{k:Nat}(hk:k<listed.size)(h:listed.getD k false≠true):listed.getD k true=false:=by
 simp only[Array.getD_eq_getD_getElem?,Array.getElem?_eq_getElem hk]at h ⊢
 simpa using h
theorem Aj{tb:List Nat}(hT:l9 P T)(hops:ops=all.toArray)(htb:∀i j,iS tb i j=true->B9 all i j):∀(n:Nat) (L:List (Nat×Oper)) (fs:List C8) (listed:Array Bool) (s:St) (a:Act) (w:World),L.length=n->f7 C s a w->NM s (ds fs)->Ord fs->tg tb L fs->(∀k o,all[k]? = some o->listed.getD k false=true->∀e∈o.after.toList,Region.binds .any e=true->listed.getD e.on false=true) →
  L.Pairwise (fun x y=>x.1<y.1)->(∀x∈L,ops[x.1]? = some x.2/\listed.getD x.1 true=false)->(∀k o,ops[k]? = some o->listed.getD k true=false->(k,o)∈L)->listed.size=ops.size →
  (∀x∈L,∀e∈x.2.after.toList,Region.binds .any e=true->e.on<x.1) →
  (∀X,∃τ obs,G8 std T cs X all L s=some (τ,obs,fs)/\f8 P C.K obs/\∀a' w',f7 C τ a' w'->Q .normal a' w')->wpAny P .any ops Q n listed a w
 |0,L,fs,listed,s,a,w,hn,h,hNM,Z,hP,hDC,hsr,hL,hA,hsz,hE,hs=>by
  have:L=[]:=List.eq_nil_of_length_eq_zero hn;subst this;refine⟨?_,?_⟩
  .cases hr:Region.ready .any ops listed with
   |nil=>rfl
   |cons i r=>
    obtain⟨h1,o,h2,_⟩:=mem_ready.1 (hr ▸ List.mem_cons_self:i∈Region.ready .any ops listed)
    cases hA i o h2 h1
  obtain⟨τ,obs,h1,_,h2⟩:=hs (fun _=>⟨0,fun _=>none,fun _=>0,fun _=>.empty⟩);simp only[G8,Option.some.injEq,Prod.mk.injEq]at h1;obtain⟨rfl,_⟩:=h1;exact h2 a w h
 |n+1,L,fs,listed,s,a,w,hn,h,hNM,Z,hP,hDC,hsr,hL,hA,hsz,hE,hs=>by
  refine⟨fun hr=>?_,fun i hi=>?_⟩
  .-- the first one that is left may come up
   exfalso
   cases L with
   |nil=>cases hn
   |cons x L=>
    obtain⟨i0,o0⟩:=x;obtain⟨h1,h2⟩:=hL (i0,o0) (by simp);have:i0∈Region.ready .any ops listed:=mem_ready.2 ⟨h2,o0,h1,fun e he hb=>by
     have hlt:=hE (i0,o0) (by simp) e (by simpa using he) hb;simp only at hlt;have hi0:i0<ops.size:=(Array.getElem?_eq_some_iff.1 h1).1;have hon:e.on<listed.size:=by rw[hsz];omega
     by_cases hl:listed.getD e.on false=true
     .exact hl
     exfalso
     have hm:=hA e.on _ (Array.getElem?_eq_getElem (by omega)) (fW hon hl)
     rcases List.mem_cons.1 hm with he'|hm
     .injection he' with he';omega
     have:=(List.pairwise_cons.1 hsr).1 _ hm;simp only at this;omega⟩
    rw[hr]at this
    cases this
  obtain⟨h1,o,h2,h3⟩:=mem_ready.1 hi;have hin:=hA i o h2 h1;obtain⟨L1,L2,rfl⟩:=List.append_of_mem hin;obtain⟨fs1,f,fs2,hlen,rfl⟩:∃fs1 f fs2,fs1.length=L1.length/\fs=fs1++f::fs2:=by
   have hl:=hP.1;simp only[List.length_append,List.length_cons]at hl;have hlt:L1.length<fs.length:=by omega
   refine⟨fs.take L1.length,fs[L1.length],fs.drop (L1.length+1),by simp;omega,?_⟩;rw[<-List.drop_eq_getElem_cons hlt,List.take_append_drop]
  obtain⟨hP1,hcm⟩:=bS hlen hP.2;have hcomm:∀g∈fs1,gA g f=true:=by
   intro g hg;obtain⟨k,hk⟩:=List.getElem?_of_mem hg;have hkl:k<L1.length:=by rw[<-hlen];exact(List.getElem?_eq_some_iff.1 hk).1
   rcases hcm k _ g (List.getElem?_eq_getElem hkl) hk with he|he
   .exfalso
    have h5:=(hL L1[k] (List.mem_append_left _ (List.getElem_mem hkl))).2;have hr:=htb _ _ he;have dc:∀{i j:Nat},B9 all i j->(∀o e,all[i]? = some o->e∈o.after.toList->Region.binds .any e=true->listed.getD e.on false=true)->listed.getD j false=true:=by
     intro i j hr
     induction hr with
     |one h1 h2 h3 h4=>intro hi;rw[<-h4];exact hi _ _ h1 h2 h3
     |more h1 h2 h3 h4 ih=>intro hi;exact ih fun o e g1 g2 g3=>hDC _ o g1 (hi _ _ h1 h2 h3) e g2 g3
    have h4:=dc hr fun o' e g1 g2 g3=>by
     have:o'=o:=by
      have e1:ops[i]? = some o':=by rw[hops];simpa using g1
      rw[h2]at e1;injection e1 with e1;exact e1.symm
     subst this;exact h3 e (by simpa using g2) g3
    rw[R5 h5]at h4
    cases h4
   exact he
  have mf:∀X,∃δ ob,K9 std T cs (X i) all i o s=some (δ,ob,f)/\f8 P C.K ob/\∃τ' obs',G8 std T cs X all (L1++L2) (s.app δ)=some (τ',obs',fs1++fs2)/\f8 P C.K obs'/\∀a' w',f7 C τ' a' w'->Q .normal a' w':=by
   intro X;obtain⟨τ,obs,e1,e2,e3⟩:=hs X;obtain⟨δ,ob,g1,τ',obs',g2,g3,g4⟩:=mq (P:=P) e1 hlen hNM Z hcomm;exact⟨δ,ob,g1,(g4 e2).1,τ',obs',g2,(g4 e2).2,fun a' w' hf=>e3 a' w' (hf.alike g3)⟩
  have hsrt:(L1++L2).Pairwise (fun x y=>x.1<y.1):=hsr.sublist (List.Sublist.append_left (List.sublist_cons_self _ _) _);have hnot:∀x∈L1++L2,x.1≠i:=by
   intro x hx;rw[List.pairwise_append]at hsr;obtain⟨p1,p2,p3⟩:=hsr
   rcases List.mem_append.1 hx with hx|hx
   .have:=p3 x hx (i,o) (by simp);simp only at this;omega
   have:=(List.pairwise_cons.1 p2).1 x hx;simp only at this;omega
  have key:=gu (C:=C) (K:=fun a' w'=>wpAny P .any ops Q n (listed.setIfInBounds i true) a' w') (Q:=Q) (cs:=cs) (i:=i) (o:=o) hT hops h (fun x=>by
   obtain⟨δ,ob,g1,g2,_⟩:=mf (fun _=>x);exact⟨_,g1,g2⟩) (fun x r a' w' hr hf=>by
   have hfo:=U3 hr;obtain⟨δ,ob,f'⟩:=r;obtain⟨δ0,ob0,g0,_⟩:=mf (fun _=>x);rw[hr]at g0;injection g0 with g0;injection g0 with q1 q2;injection q2 with q2 q3
   subst q1;subst q2;subst q3;have hinF:∀g∈fs1++fs2,g∈fs1++f'::fs2:=fun g hg=>by
    rcases List.mem_append.1 hg with hg|hg
    .exact List.mem_append_left _ hg
    exact List.mem_append_right _ (List.mem_cons_of_mem _ hg)
   obtain⟨n1,n2⟩:=dp hfo (gs:=fs1++fs2) hNM (by simp) hinF (fun g hg=>by
    rcases List.mem_append.1 hg with hg|hg
    .have:=hcomm g hg
     simp only[gA,Bool.and_eq_true]at this;exact this.1.1.1.1.1.1.1.1.1
    exact(List.pairwise_cons.1 (List.pairwise_append.1 Z).2.1).1 g hg)
   refine Aj hT hops htb n (L1++L2) (fs1++fs2) (listed.setIfInBounds i true) (s.app δ) a' w' ?_ hf n2 ?_ ?_ ?_ hsrt ?_ ?_ (by simpa using hsz) ?_ ?_
   .simp at hn ⊢;omega
   .exact Z.sublist (List.Sublist.append_left (List.sublist_cons_self _ _) _)
   .refine ⟨?_,hP1⟩
    have:=hP.1;simp at this ⊢;omega
   .intro k ok hk hu e he hb
    by_cases hki:k=i
    .subst hki
     have:ok=o:=by
      have e1:ops[k]? = some ok:=by rw[hops];simpa using hk
      rw[h2]at e1;injection e1 with e1;exact e1.symm
     subst this;have hl:=h3 e (by simpa using he) hb
     by_cases hei:e.on=k
     .have:=hE (k,ok) hin e he hb
      simp only at this;omega
     rw[getD_set_ne false (fun e'=>hei e'.symm)];exact hl
    rw[getD_set_ne false (fun e'=>hki e'.symm)]at hu;have hl:=hDC k ok hk hu e he hb
    by_cases hei:e.on=i
    .rw [hei]at hl
     have h5:=(hL (i,o) hin).2;simp only at h5;rw[R5 h5]at hl;cases hl
    rw[getD_set_ne false (fun e'=>hei e'.symm)];exact hl
   .intro x' hx
    have hx':x'∈L1++(i,o)::L2:=by
     rcases List.mem_append.1 hx with hx|hx
     .exact List.mem_append_left _ hx
     exact List.mem_append_right _ (List.mem_cons_of_mem _ hx)
    obtain⟨e1,e2⟩:=hL x' hx';refine⟨e1,?_⟩;rw[getD_set_ne true (fun e=>hnot x' hx e.symm)];exact e2
   .intro k ok hk hu
    by_cases hki:k=i
    .subst hki
     have hlt:k<listed.size:=by rw[hsz];exact(Array.getElem?_eq_some_iff.1 h2).1
     simp[Array.getD_eq_getD_getElem?,hlt]at hu
    rw[getD_set_ne true (fun e=>hki e.symm)]at hu;have:=hA k ok hk hu
    rcases List.mem_append.1 this with hx|hx
    .exact List.mem_append_left _ hx
    rcases List.mem_cons.1 hx with hx|hx
    .injection hx with hx;exact absurd hx hki
    exact List.mem_append_right _ hx
   .intro x' hx
    refine hE x' ?_
    rcases List.mem_append.1 hx with hx|hx
    .exact List.mem_append_left _ hx
    exact List.mem_append_right _ (List.mem_cons_of_mem _ hx)
   intro X;obtain⟨Y,hY,hYX⟩:∃Y:Nat->j1,Y i=x/\∀j,j≠i->Y j=X j:=⟨fun j=>if j=i then x else X j,by simp,fun j hj=>by simp[hj]⟩
   obtain⟨δ1,ob1,g1,_,τ',obs',g2,g3,g4⟩:=mf Y;rw[hY,hr]at g1;injection g1 with g1;injection g1 with q1 _
   subst q1;rw[U2 _ _ (fun x' hx=>hYX x'.1 (hnot x' hx))]at g2;exact⟨τ',obs',g2,g3,g4⟩)
  unfold wpOp;simp only[h2]
  by_cases hw:Region.wanted o (yielded ops a.tmps)=true
  .rw [if_pos hw]at key ⊢
   exact .inl key
  rw[if_neg hw]at key ⊢;exact key
theorem zB{s:St}{a:Act}{w:World}{id:Nat}{l:List Oper}(hm:P.follows .mixedOrders=true)(hT:l9 P T)(kp km:List Nat)(cs:List (Nat×CS))(h:f7 C s a w)(hgs:s.gs=[])(fs:List C8)(hD:aJ l fs=true)(hlen:l.length=fs.length)
  {R:Alg->(Nat->j1)->St×List Ob}
  (hex:∀A X,(G8 A T cs X l (l6 0 l) s).map (fun r=>((r.1.keep kp km,r.2.1),r.2.2))=some (R A X,fs)) (hob:∀X,f8 P C.K (R std X).2) (hQ:∀X a' w',f7 C (R std X).1 a' w'->Q .normal a' w'):(Code.region id l.toArray true).wp P Q a w:=by
 simp only[aJ,Bool.and_eq_true]at hD;obtain⟨⟨d1,d2⟩,d3⟩:=hD;refine wp_region_any hm ?_;have hf:f7 C s a { w with drawn:=w.drawn+1 }:=h.world (fun _ _ _=>rfl) (fun _ _ _ _ _=>rfl) ⟨h.chg.os,h.chg.tape,h.chg.output,h.chg.size,h.chg.block⟩ (fun _ _ _ hc _=>hc) (fun _ _ h _=>h);have hnl:∀(l:List Oper) (i:Nat),(l6 i l).length=l.length:=by
  intro l
  induction l with
  |nil=>intro i;rfl
  |cons o l ih=>intro i;simp[l6,ih]
 have hsz:l.toArray.size=(l6 0 l).length:=by simp[hnl]
 rw[hsz];refine Aj (cs:=cs) (all:=l) (tb:=eA l []) hT rfl (dt (l:=l) (tb:=[]) rfl (fun i j h=>by simp at h)) _ (l6 0 l) fs _ s a _ rfl hf (fun t p v hl=>by rw[hgs]at hl;cases hl) ?_ ⟨by rw[hnl];exact hlen,d1⟩ ?_ (U5 l 0) ?_ ?_ (by simp[hnl]) ?_ ?_
 .exact jc d3
 .intro k o hk hu
  exfalso
  by_cases hk':k<(l6 0 l).length
  .simp [Array.getD_eq_getD_getElem?,hk']at hu
  simp[Array.getD_eq_getD_getElem?,hk']at hu
 .intro x hx
  obtain⟨h1,h2⟩:=T6 hx;rw[Nat.sub_zero]at h2;refine⟨by simpa using h2,?_⟩;have hlt:=(List.getElem?_eq_some_iff.1 h2).1;simp[Array.getD_eq_getD_getElem?,hnl,hlt]
 .intro k o hk _
  have:=Z7 (i:=0) (l:=l) (k:=k) (o:=o) (by simpa using hk)
  rwa[Nat.zero_add]at this
 .have ed:∀(L:List (Nat×Oper)),cp L=true->∀x∈L,∀e∈x.2.after.toList,Region.binds .any e=true->e.on<x.1:=by
   intro L
   induction L with
   |nil=>intro _ x hx;cases hx
   |cons y L ih=>
    obtain⟨i,o⟩:=y;intro hL x hx e he hb;simp only[cp,Bool.and_eq_true]at hL
    rcases List.mem_cons.1 hx with rfl|hx
    .have:=List.all_eq_true.1 hL.1 e he
     simpa[hb]using this
    exact ih hL.2 x hx e he hb
  exact ed _ d2
 intro X;obtain⟨r,hr,e⟩:=Option.map_eq_some_iff.1 (hex std X);obtain⟨τ,obs,fs'⟩:=r;simp only[Prod.mk.injEq]at e;obtain⟨e1,rfl⟩:=e;refine⟨τ,obs,hr,?_,fun a' w' hf'=>hQ X a' w' ?_⟩
 .have:=hob X;rw[<-e1]at this;exact this
 rw[<-e1];exact hf'.keep kp km
end
theorem j7{k:Nat}{n:Nat}(h:k<n)(hn:n<=maxLen):IntKind.i64.wrap ((k:Int)+1)=((k+1:Nat):Int):=by
 have:(n:Int)<=9223372036854775807:=by simp only[maxLen]at hn;omega
 rw[IntKind.wrap_i64];omega
theorem s5{x:Int}(h:-9223372036854775808<=x)(h':x<=9223372036854775807):IntKind.i64.wrap x=x:=by rw[IntKind.wrap_i64];omega
theorem rQ{m:Nat->Nat->Prop}{w:World}{g:Option Nat}{A:Option Addr}{n c k:Nat}{cells:Nat->List AV}(h:Ok m w (.sl g A n c k cells)):n<=c/\c<=maxLen:=by
 cases h with|sl _ _ _ _ _ _ h1 h2=>exact⟨h1,h2⟩
theorem vL{m:Nat->Nat->Prop}{w:World}{g g':Option Nat}{A:Option Addr}{n c k:Nat}{f f':Nat->List AV}(h:Ok m w (.sl g A n c k f))(he:∀i,i<n->f i=f' i):Ok m w (.sl g' A n c k f'):=by
 cases h with
 |sl _ _ _ _ _ _ h1 h2 h3 h4 h5 h6 h7=>
  exact .sl _ _ _ _ _ _ h1 h2 (fun i hi=>by rw[<-he i hi];exact h3 i hi) h4 (fun i hi=>by rw[<-he i hi];exact h5 i hi) (fun i hi=>by rw[<-he i hi];exact h6 i hi) (fun i hi=>by rw[<-he i hi];exact h7 i hi)
def Sim(v v':AV):Prop:=v.den=v'.den/\(v.one=true->v'.one=true)/\∀m w,Ok m w v->Ok m w v'
theorem Sim.refl(v:AV):Sim v v:=⟨rfl,id,fun _ _ h=>h⟩
theorem Sim.recell{g g':Option Nat}{A:Option Addr}{n c k:Nat}{f f':Nat->List AV}(he:∀i,i<n->f i=f' i):Sim (.sl g A n c k f) (.sl g' A n c k f'):=⟨rfl,fun _=>rfl,fun _ _ h=>vL h he⟩
theorem zq0{g g':Option Nat}{A:Option Addr}{c k:Nat}{f f':Nat->List AV}:Sim (.sl g A 0 c k f) (.sl g' A 0 c k f'):=Sim.recell (fun i hi=>absurd hi (Nat.not_lt_zero _))
theorem Sim.resl{g g':Option Nat}{A:Option Addr}{n n' c k:Nat}{f f':Nat->List AV}(hn:n=n')(he:∀i,i<n'->f i=f' i):Sim (.sl g A n c k f) (.sl g' A n' c k f'):=by
 subst hn;exact Sim.recell he
theorem Sim.tt:Sim (.bool .tt) (.bool (.v true)):=⟨rfl,id,fun _ _ _=>.bool _⟩
theorem Sim.ff:Sim (.bool .ff) (.bool (.v false)):=⟨rfl,id,fun _ _ _=>.bool _⟩
def ES(tmps:List (Nat×AV)):List (Nat×AV)->Prop
 | []=>True
 |(t,v)::l=>((look tmps t).known=true/\Sim (look tmps t) v)/\ES tmps l
theorem tB{tmps:List (Nat×AV)}:∀{l:List (Nat×AV)},ES tmps l->∀t,(look l t).known=true->(look tmps t).known=true/\Sim (look tmps t) (look l t)
 | [],_,t,h=>by cases h
 |(k,v)::l,hs,t,h=>by
  rw[u5]at h ⊢
  by_cases he:k=t
  .subst he;rw[if_pos rfl]at h ⊢;exact hs.1
  rw[if_neg he]at h ⊢;exact tB hs.2 t h
theorem f7.slots{C:Cx}{s:St}{a:Act}{w:World}(h:f7 C s a w){l:List (Nat×AV)}(hl:ES s.tmps l):f7 C { s with tmps:=l,gs:=[] } a w:=
 ⟨h.size,h.defers,fun t ht=>by
  obtain⟨h1,h2,_,h3⟩:=tB hl t ht;have:=h.slot t h1;exact⟨by show a.tmps[t]? = some (look l t).den;rw[<-h2];exact this.1,h3 _ _ this.2⟩,(fun t p v hg=>by cases hg),h.mem,h.nodup,h.gr,h.sepm,h.sepg,h.chg,h.m0,h.kept⟩
theorem f7.head{C:Cx}{nt d:Nat}{v v':AV}{l:List (Nat×AV)}{mem:List (Nat×Blk)}{gr:List (Nat×Gr)}{a:Act}{w:World}(h:f7 C ⟨nt,(d,v)::l,[],mem,gr⟩ a w)(e:v=v'):f7 C ⟨nt,(d,v')::l,[],mem,gr⟩ a w:=e ▸ h
theorem f7.headS{C:Cx}{nt d:Nat}{v v':AV}{l:List (Nat×AV)}{mem:List (Nat×Blk)}{gr:List (Nat×Gr)}{a:Act}{w:World}(h:f7 C ⟨nt,(d,v)::l,[],mem,gr⟩ a w)(e:Sim v v')(hk:v.known=true):f7 C ⟨nt,(d,v')::l,[],mem,gr⟩ a w:=
 ⟨h.size,h.defers,fun t ht=>by
  by_cases he:d=t
  .subst he
   have e0:∀v:AV,look ((d,v)::l) d=v:=fun v=>by rw[u5,if_pos rfl]
   have:=h.slot d (by show(look ((d,v)::l) d).known=true;rw[e0];exact hk)
   have this':a.tmps[d]? = some (look ((d,v)::l) d).den/\Ok (St.m ⟨nt,(d,v)::l,[],mem,gr⟩ C) w (look ((d,v)::l) d):=this;rw[e0]at this'
   show a.tmps[d]? = some (look ((d,v')::l) d).den/\Ok _ w (look ((d,v')::l) d)
   rw[e0,<-e.1];exact⟨this'.1,e.2.2 _ _ this'.2⟩
  have e1:∀v:AV,look ((d,v)::l) t=look l t:=fun v=>by rw[u5,if_neg he]
  have hk':(look ((d,v')::l) t).known=true:=ht;rw[e1]at hk';have:=h.slot t (by show(look ((d,v)::l) t).known=true;rw[e1];exact hk')
  have this':a.tmps[t]? = some (look ((d,v)::l) t).den/\Ok (St.m ⟨nt,(d,v)::l,[],mem,gr⟩ C) w (look ((d,v)::l) t):=this;rw[e1]at this'
  show a.tmps[t]? = some (look ((d,v')::l) t).den/\Ok _ w (look ((d,v')::l) t)
  rw[e1];exact this',(fun t p v hg=>by cases hg),h.mem,h.nodup,h.gr,h.sepm,h.sepg,h.chg,h.m0,h.kept⟩
theorem f7.tail{C:Cx}{nt:Nat}{d:Nat}{v:AV}{l:List (Nat×AV)}{mem:List (Nat×Blk)}{gr:List (Nat×Gr)}{a:Act}{w:World}(h:f7 C ⟨nt,(d,v)::l,[],mem,gr⟩ a w)(hd:(look l d).known=false):f7 C ⟨nt,l,[],mem,gr⟩ a w:=
 ⟨h.size,h.defers,fun t ht=>by
  have hne:d≠t:=fun e=>by subst e;rw[hd]at ht;cases ht
  have:=h.slot t (by show(look ((d,v)::l) t).known=true;rw[u5,if_neg hne];exact ht)
  have e:look ((d,v)::l) t=look l t:=by rw[u5,if_neg hne]
  have this':a.tmps[t]? = some (look ((d,v)::l) t).den/\Ok (St.m ⟨nt,(d,v)::l,[],mem,gr⟩ C) w (look ((d,v)::l) t):=this;rw[e]at this';exact this',(fun t p v hg=>by cases hg),h.mem,h.nodup,h.gr,h.sepm,h.sepg,h.chg,h.m0,h.kept⟩
section
variable {P:Program} {Q:Exit->Act->World->Prop} {C:Cx} {nt t:Nat} {b:Bool} {l:List (Nat×AV)} {mem:List (Nat×Blk)} {gr:List (Nat×Gr)} {a:Act} {w:World} {x y:Code}
theorem mg(h:f7 C ⟨nt,(t,.bool (.v b))::l,[],mem,gr⟩ a w)(h1:b=true->f7 C ⟨nt,(t,.bool .tt)::l,[],mem,gr⟩ a w->x.wp P Q a w)(h2:b=false->f7 C ⟨nt,(t,.bool .ff)::l,[],mem,gr⟩ a w->y.wp P Q a w):(Code.cond (.tmp t) x y).wp P Q a w:=
 uN h (by show look ((t,_)::l) t=_;rw[u5,if_pos rfl]) (fun hb=>h1 hb (h.headS (by subst hb;exact⟨rfl,id,fun _ _ _=>.bool _⟩) rfl)) (fun hb=>h2 hb (h.headS (by subst hb;exact⟨rfl,id,fun _ _ _=>.bool _⟩) rfl))
theorem d7(h:f7 C ⟨nt,(t,.bool (.v b))::l,[],mem,gr⟩ a w)(hd:(look l t).known=false)(h1:b=true->f7 C ⟨nt,l,[],mem,gr⟩ a w->x.wp P Q a w)(h2:b=false->f7 C ⟨nt,l,[],mem,gr⟩ a w->y.wp P Q a w):(Code.cond (.tmp t) x y).wp P Q a w:=
 uN h (by show look ((t,_)::l) t=_;rw[u5,if_pos rfl]) (fun hb=>h1 hb (h.tail hd)) (fun hb=>h2 hb (h.tail hd))
theorem D5(h:f7 C ⟨nt,(t,.bool .tt)::l,[],mem,gr⟩ a w)(hd:(look l t).known=false)(h1:f7 C ⟨nt,l,[],mem,gr⟩ a w->x.wp P Q a w):(Code.cond (.tmp t) x y).wp P Q a w:=
 CE h (by show look ((t,_)::l) t=_;rw[u5,if_pos rfl]) (h1 (h.tail hd))
theorem F2(h:f7 C ⟨nt,(t,.bool .ff)::l,[],mem,gr⟩ a w)(hd:(look l t).known=false)(h1:f7 C ⟨nt,l,[],mem,gr⟩ a w->y.wp P Q a w):(Code.cond (.tmp t) x y).wp P Q a w:=
 CF h (by show look ((t,_)::l) t=_;rw[u5,if_pos rfl]) (h1 (h.tail hd))
end
def ly:BE->BE
 | .tt=>.v true
 | .ff=>.v false
 |b=>b
mutual
def can:AV->AV
 | .bool b=>.bool (ly b)
 | .agg l=>.agg (iT l)
 | .tup l=>.tup (iT l)
 |v=>v
def iT:List AV->List AV
 | []=>[]
 |v::l=>can v::iT l
end
theorem qP(l:List AV):iT l=l.map can:=by
 induction l with
 |nil=>rfl
 |cons v l ih=>simp[iT,ih]
theorem zW(b:BE):(ly b).den=b.den:=by cases b<;>rfl
mutual
theorem F6:∀v:AV,(can v).den=v.den
 | .bool b=>by simp only[can,AV.den,zW]
 | .agg l=>by simp only[can,AV.den,lx l]
 | .tup l=>by simp only[can,AV.den,lx l]
 | .undef| .int .. | .str .. | .nilp| .ptr .. | .sl .. | .ep .. | .fn .. | .ifc .. | .nili| .opt .. | .raw .. =>rfl
theorem lx:∀l:List AV,AV.denL (iT l)=AV.denL l
 | []=>rfl
 |v::l=>by simp only[iT,AV.denL,F6 v,lx l]
end
theorem js(v:AV):(can v).one=v.one:=by cases v<;>rfl
mutual
theorem J3{m:Nat->Nat->Prop}{w:World}:∀v:AV,Ok m w v↔Ok m w (can v)
 | .bool b=>⟨fun _=>.bool _,fun _=>.bool _⟩
 | .agg l=>by
  have ih:=oS (m:=m) (w:=w) l
  constructor
  .intro h
   cases h with
   |agg _ h1 h2=>
    refine .agg _ (fun v hv=>?_) (ih.1 h2);rw[qP]at hv;obtain⟨y,hy,rfl⟩:=List.mem_map.1 hv;rw[js];exact h1 y hy
  intro h;have h':Ok m w (.agg (iT l)):=h
  cases h' with
  |agg _ h1 h2=>
   refine .agg _ (fun v hv=>?_) (ih.2 h2);rw[<-js];exact h1 _ (by rw[qP];exact List.mem_map.2 ⟨v,hv,rfl⟩)
 | .tup l=>by
  have ih:=oS (m:=m) (w:=w) l
  constructor
  .intro h
   cases h with|tup _ h1=>exact .tup _ (ih.1 h1)
  intro h;have h':Ok m w (.tup (iT l)):=h
  cases h' with|tup _ h1=>exact .tup _ (ih.2 h1)
 | .undef| .int .. | .str .. | .nilp| .ptr .. | .sl .. | .ep .. | .fn .. | .ifc .. | .nili| .opt .. | .raw .. =>Iff.rfl
theorem oS{m:Nat->Nat->Prop}{w:World}:∀l:List AV,(∀v∈l,Ok m w v) ↔ ∀v∈iT l,Ok m w v
 | []=>by simp[iT]
 |v::l=>by
  have h1:=J3 (m:=m) (w:=w) v;have h2:=oS (m:=m) (w:=w) l;simp only[iT,List.mem_cons,forall_eq_or_imp];exact and_congr h1 h2
end
theorem zV{m:Nat->Nat->Prop}{w:World}{v v':AV}(h:Ok m w v)(e:can v=can v'):v.den=v'.den/\Ok m w v':=
 ⟨by rw[<-F6 v,<-F6 v',e],(J3 v').2 (e ▸ (J3 v).1 h)⟩
section
variable {P:Program} {T:List (Nat×TI)} {s:St} {a:Act} {w:World}
theorem xJ{Kk:Kn}(hT:l9 P T){m:Nat->Nat->Prop}{w0:World}(h:f7 ⟨m,w0,fun _=>False,[],Kk⟩ s a w){fn:Func}{res:j1->AV}{rs:List ResultVar}(hfn:fn.results=rs.toArray){r:List AV×List Ob}(hr:T5 T s rs=some r)(ho:f8 P Kk r.2)
  (x:j1) (he:can (J5 r.1)=can (res x)):bodyPost P fn (fun e w'=>∃x,e = .returned (res x).den/\Ok m w' (res x)/\Below w0.heap.size w0 w') .ret a w:=by
 refine(eN hT h rfl hfn hr ho fun hv=>?_).1;obtain⟨h1,h2⟩:=oJ h hv;obtain⟨h3,h4⟩:=zV h1 he;exact⟨x,by rw[h3],h4,h2⟩
end
section
variable {P:Program} {T:List (Nat×TI)} {s:St} {a:Act} {w:World}
theorem vz{Kk:Kn}(hT:l9 P T){m:Nat->Nat->Prop}{w0:World}(h:f7 ⟨m,w0,fun _=>False,[],Kk⟩ s a w){fn:Func}{res:j1->AV}{rs:List ResultVar}(hfn:fn.results=rs.toArray){r:List AV×List Ob}(hr:T5 T s rs=some r)(ho:f8 P Kk r.2)
  (x:j1) (he:can (J5 r.1)=can (res x)):bodyPost P fn (fun e w'=>∃x,e = .returned (res x).den/\Ok m w' (res x)/\Below w0.heap.size w0 w') .normal a w:=by
 refine(eN hT h rfl hfn hr ho fun hv=>?_).2;obtain⟨h1,h2⟩:=oJ h hv;obtain⟨h3,h4⟩:=zV h1 he;exact⟨x,by rw[h3],h4,h2⟩
end
def pre{α : Type}:List α->List α->List α
 | [],r=>r
 |x::l,r=>x::pre l r
theorem r9{P:Program}{Q:Exit->Act->World->Prop}{C:Cx}{ι : Type}(S:ι->List (Nat×AV))(M:ι->List (Nat×Blk))(G:ι->List (Nat×Gr))(J:ι->Prop)(μ : ι->Nat){nt:Nat}{rest:List (Nat×AV)}{restm:List (Nat×Blk)}{restg:List (Nat×Gr)}{c:Code}{a:Act}{w:World}(p₀:ι)(h₀:J p₀)
  (hf:f7 C ⟨nt,pre (S p₀) rest,[],pre (M p₀) restm,pre (G p₀) restg⟩ a w)
  (round:∀p,J p->∀a w,f7 C ⟨nt,pre (S p) rest,[],pre (M p) restm,pre (G p) restg⟩ a w->c.wp P (Exit.then (fun a' w'=>∃p',J p'/\μ p'<μ p/\f7 C ⟨nt,pre (S p') rest,[],pre (M p') restm,pre (G p') restg⟩ a' w') Q) a w):(Code.loop c).wp P Q a w:=
 BM (fun p=>⟨nt,pre (S p) rest,[],pre (M p) restm,pre (G p) restg⟩) J μ p₀ h₀ hf round
def E7:List AV->List AV->Prop
 | [],[]=>True
 |v::l,v'::l'=>Sim v v'/\E7 l l'
 |_,_=>False
theorem E7.den:∀{l l':List AV},E7 l l'->AV.denL l=AV.denL l'
 | [],[],_=>rfl
 |v::l,v'::l',h=>by simp only[AV.denL,h.1.1,E7.den h.2]
theorem E7.one:∀{l l':List AV},E7 l l'->(∀v∈l,v.one=true)->∀v∈l',v.one=true
 | [],[],_,_=>by simp
 |v::l,v'::l',h,h1=>by
  simp only[List.mem_cons,forall_eq_or_imp]at h1 ⊢;exact⟨h.1.2.1 h1.1,E7.one h.2 h1.2⟩
theorem E7.ok{m:Nat->Nat->Prop}{w:World}:∀{l l':List AV},E7 l l'->(∀v∈l,Ok m w v)->∀v∈l',Ok m w v
 | [],[],_,_=>by simp
 |v::l,v'::l',h,h1=>by
  simp only[List.mem_cons,forall_eq_or_imp]at h1 ⊢;exact⟨h.1.2.2 _ _ h1.1,E7.ok h.2 h1.2⟩
theorem Sim.agg{l l':List AV}(h:E7 l l'):Sim (.agg l) (.agg l'):=
 ⟨by simp only[AV.den,h.den],id,fun m w ho=>by cases ho with|agg _ h1 h2=>exact .agg _ (h.one h1) (h.ok h2)⟩
theorem Sim.tup{l l':List AV}(h:E7 l l'):Sim (.tup l) (.tup l'):=
 ⟨by simp only[AV.den,h.den],id,fun m w ho=>by cases ho with|tup _ h1=>exact .tup _ (h.ok h1)⟩
theorem l7.res{P:Program}{f:Nat}{args:List AV}{res res':j1->AV}(h:l7 P f args res)(hs:∀x,Sim (res x) (res' x)):l7 P f args res':=by
 intro m w hm ha;refine(h m w hm ha).mono ?_
 rintro e w' ⟨x,rfl,ho,hb⟩
 exact⟨x,by rw[(hs x).1],(hs x).2.2 _ _ ho,hb⟩
theorem Sim.bool{b b':BE}(h:b.den=b'.den):Sim (.bool b) (.bool b'):=⟨by simp only[AV.den,h],id,fun _ _ _=>.bool _⟩
theorem l7.sim{P:Program}{f:Nat}{args args':List AV}{res:j1->AV}(h:l7 P f args res)(hs:E7 args' args):l7 P f args' res:=by
 intro m w hm ha;have:=h m w hm (hs.ok ha);have e:args'.map AV.den=args.map AV.den:=by
  clear this ha h
  induction args' generalizing args with
  |nil=>cases args with
   |nil=>rfl
   |cons=>exact hs.elim
  |cons v l ih=>cases args with
   |nil=>exact hs.elim
   |cons v' l'=>simp only[List.map_cons,hs.1.1,ih hs.2]
 rw[e];exact this
theorem uK{P:Program}{Q:Exit->Act->World->Prop}{C:Cx}{ι : Type}(S:ι->List (Nat×AV))(M:ι->List (Nat×Blk))(G:ι->List (Nat×Gr))(J:ι->Prop){nt:Nat}{S0 rest:List (Nat×AV)}{M0 restm:List (Nat×Blk)}{G0 restg:List (Nat×Gr)}{x:Code}{a:Act}{w:World}
  (hf:f7 C ⟨nt,pre S0 rest,[],pre M0 restm,pre G0 restg⟩ a w)
  (hx:x.wp P (Exit.then (fun a' w'=>∃p,J p/\f7 C ⟨nt,pre (S p) rest,[],pre (M p) restm,pre (G p) restg⟩ a' w') Q) a w)
  (hy:∀p,J p->∀a' w',f7 C ⟨nt,pre (S p) rest,[],pre (M p) restm,pre (G p) restg⟩ a' w'->Q .normal a' w'):x.wp P Q a w:=by
 refine Code.wp_mono (fun e a' w' h=>?_) hx
 cases e with
 |normal=>obtain⟨p,hp,hf'⟩:=h;exact hy p hp a' w' hf'
 |_=>exact h
theorem Bm{Kk:Kn}{P:Program}{T:List (Nat×TI)}{s:St}{a:Act}{w:World}(hT:l9 P T){m:Nat->Nat->Prop}{w0:World}(h:f7 ⟨m,w0,fun _=>False,[],Kk⟩ s a w){fn:Func}{res:j1->AV}{rs:List ResultVar}(hfn:fn.results=rs.toArray){r:List AV×List Ob}(hr:T5 T s rs=some r)(ho:f8 P Kk r.2)
  (x:j1) (he:Sim (can (J5 r.1)) (can (res x))):bodyPost P fn (fun e w'=>∃x,e = .returned (res x).den/\Ok m w' (res x)/\Below w0.heap.size w0 w') .ret a w:=by
 refine(eN hT h rfl hfn hr ho fun hv=>?_).1;obtain⟨h1,h2⟩:=oJ h hv;exact⟨x,by rw[<-F6 (J5 r.1),he.1,F6],(J3 _).2 (he.2.2 _ _ ((J3 _).1 h1)),h2⟩
def G6:j1:=⟨0,fun _=>none,fun _=>0,fun _=>.empty⟩
section
variable {C:Cx} {P:Program} {Q:Exit->Act->World->Prop} {T:List (Nat×TI)} {ops:Array Oper} {all:List Oper}
theorem qB{cs:List (Nat×CS)}{l2:List Oper}(hT:l9 P T)(hall:ops=all.toArray):∀(l:List Oper) (i:Nat) (s:St) (a:Act) (w:World),f7 C s a w->(∀X,∃r,G8 std T cs X all (l6 i l) s=some r/\f8 P C.K r.2.1) →
  (∀X r a' w',G8 std T cs X all (l6 i l) s=some r->f7 C r.1 a' w'->wpList P ops Q l2 a' w')->wpList P ops Q (l++l2) a w
 | [],i,s,a,w,h,hs,hQ=>hQ (fun _=>⟨0,fun _=>none,fun _=>0,fun _=>.empty⟩) _ a w rfl h
 |o::l,i,s,a,w,h,hs,hQ=>by
  refine wpList_step fun K hK=>?_
  refine gu (cs:=cs) (i:=i) hT hall h (fun x=>?_) fun x r a' w' hr hf=>hK _ _ ?_
  .obtain ⟨r,hr,hob⟩:=hs (fun _=>x)
   obtain⟨δ,ob,f,r',h1,h2,rfl⟩:=N1 hr;exact⟨_,h1,(f8.app.1 hob).1⟩
  have put:∀X:Nat->j1,∃Y:Nat->j1,Y i=x/\∀j,i+1<=j->Y j=X j:=fun X=>⟨fun j=>if j=i then x else X j,by simp,fun j hj=>by simp only;rw[if_neg (by omega)]⟩
  refine qB (cs:=cs) hT hall l (i+1) (s.app r.1) a' w' hf (fun X=>?_) fun X r' a'' w'' hr' hf'=>?_
  .obtain ⟨Y,hY,hYX⟩:=put X
   obtain⟨r1,h1,hob⟩:=hs Y;obtain⟨δ,ob,f,r2,h2,h3,rfl⟩:=N1 h1;rw[hY,hr]at h2;injection h2 with h2;subst h2
   rw[U2 _ _ (fun x hx=>hYX x.1 (Y8 x hx))]at h3;exact⟨r2,h3,(f8.app.1 hob).2⟩
  obtain⟨Y,hY,hYX⟩:=put X;obtain⟨r1,h1,hob⟩:=hs Y;have h1':=h1;obtain⟨δ,ob,f,r2,h2,h3,rfl⟩:=N1 h1;rw[hY,hr]at h2;injection h2 with h2;subst h2
  rw[U2 _ _ (fun x hx=>hYX x.1 (Y8 x hx)),hr']at h3;injection h3 with h3;subst h3
  exact hQ Y _ a'' w'' h1' hf'
theorem yH{s:St}{a:Act}{w:World}{L:List Oper}(i n:Nat)(hT:l9 P T)(kp km:List Nat)(cs:List (Nat×CS))(h:f7 C s a w){R:Alg->(Nat->j1)->St×List Ob}
  (hex:∀A X,(G8 A T cs X all (l6 i (L.take n)) s).map (fun r=>(r.1.keep kp km,r.2.1))=some (R A X)) (hob:∀X,f8 P C.K (R std X).2) (hQ:∀X a' w',f7 C (R std X).1 a' w'->wpList P all.toArray Q (L.drop n) a' w'):wpList P all.toArray Q L a w:=by
 have e:L=L.take n++L.drop n:=(List.take_append_drop n L).symm;rw[e];refine qB (cs:=cs) hT rfl (L.take n) i s a w h (fun X=>?_) fun X r a' w' hr hf=>?_
 .obtain ⟨r,hr,e⟩:=Option.map_eq_some_iff.1 (hex std X)
  refine⟨r,hr,?_⟩;have:=hob X;rw[<-e]at this;exact this
 have e:=hex std X;rw[hr]at e;injection e with e
 refine hQ X a' w' ?_;rw[<-e];exact hf.keep kp km
theorem yI{s:St}{a:Act}{w:World}{L:List Oper}(i:Nat)(hT:l9 P T)(kp km:List Nat)(cs:List (Nat×CS))(h:f7 C s a w){R:Alg->(Nat->j1)->St×List Ob}
  (hex:∀A X,(G8 A T cs X all (l6 i L) s).map (fun r=>(r.1.keep kp km,r.2.1))=some (R A X)) (hob:∀X,f8 P C.K (R std X).2) (hQ:∀X a' w',f7 C (R std X).1 a' w'->Q .normal a' w'):wpList P all.toArray Q L a w:=by
 refine oG (cs:=cs) hT rfl L i s a w h (fun X=>?_) fun X r a' w' hr hf=>?_
 .obtain ⟨r,hr,e⟩:=Option.map_eq_some_iff.1 (hex std X)
  refine⟨r,hr,?_⟩;have:=hob X;rw[<-e]at this;exact this
 have e:=hex std X;rw[hr]at e;injection e with e
 refine hQ X a' w' ?_;rw[<-e];exact hf.keep kp km
theorem T8{a:Act}{w:World}{L rest:List Oper}{o:Oper}(hL:L=o::rest)(hg:o.guard=none)(h:o.wp P a w (wpList P ops Q rest) Q):wpList P ops Q L a w:=by
 subst hL;unfold wpList;have:Region.wanted o (yielded ops a.tmps)=true:=by simp[Region.wanted,hg]
 rw[if_pos this];exact .inl h
end
inductive Out where
 |ret (r:CR)
 |thr (v:Value) (sets:List (Nat×List AV))
def GR(m:Nat->Nat->Prop)(w:World)(pre:List (Nat×Blk))(e:Ending)(w':World):Out->Prop
 | .ret r=>e = .returned r.v.den/\Ok (mN m r.news) w' r.v/\gJ m w w' pre r.sets r.news
 | .thr v sets=>e = .panicked [{ v,recovered:=false }]/\gJ m w w' pre sets []
def iH(m:Nat->Nat->Prop)(w:World)(pre:List (Nat×Blk))(out:j1->Out)(e:Ending)(w':World):Prop:=∃x,GR m w pre e w' (out x)
def An(P:Program)(f:FuncId)(args:List AV)(pre:List (Nat×Blk))(out:j1->Out):Prop:=
 ∀(m:Nat->Nat->Prop) (w:World),(∀b o,m b o->b<w.heap.size)->(∀v∈args,Ok m w v)->M4 m w pre->Calls P f (args.map AV.den).toArray w (iH m w pre out)
theorem An.x{P:Program}{f:FuncId}{args:List AV}{pre:List (Nat×Blk)}{out:j1->Out}{res:j1->CR}(h:An P f args pre out)(e:∀x,out x = .ret (res x)):L4 P f args pre res:=by
 intro m w h1 h2 h3;refine(h m w h1 h2 h3).mono ?_
 rintro e' w' ⟨x,hx⟩
 rw[e x]at hx;exact⟨x,hx⟩
theorem L4.pure{P:Program}{f:FuncId}{args:List AV}{res:j1->CR}{res':j1->AV}(h:L4 P f args [] res)(e:∀x,res x=⟨res' x,[],[]⟩):l7 P f args res':=by
 intro m w h1 h2;refine(h m w h1 h2 ⟨fun e he=>(by cases he),fun e he=>(by cases he),fun e he=>(by cases he),.nil⟩).mono ?_
 rintro e' w' ⟨x,rfl,hok,hl⟩
 rw[e x]at hok hl ⊢;refine⟨x,rfl,hok.mono fun b o u h1 h2=>⟨h1,fun h=>h2 (.inl h)⟩,hl.chg.below (Nat.le_refl _) fun k ⟨e,he,_⟩=>(by cases he)⟩
section
variable {P:Program}
theorem bp{m:Nat->Nat->Prop}{w:World}{pre:List (Nat×Blk)}(hm:∀b o,m b o->b<w.heap.size)(hp:M4 m w pre){args:List AV}(hargs:∀v∈args,Ok m w v){n:Nat}(hn:args.length<=n) :
  f7 ⟨m,w,ats pre,[],noK⟩ ⟨n,A8 0 args,[],pre,[]⟩ { tmps:=(args.map AV.den).toArray++Array.replicate (n-args.length) Go.undef,defers:=[] } w:=by
 have mono:∀v,Ok m w v->Ok (St.m ⟨n,A8 0 args,[],pre,[]⟩ ⟨m,w,ats pre,[],noK⟩) w v:=fun v hv=>hv.mono fun b' o u h1 h2=>⟨h1,fun h=>by
  rcases h with h|⟨k,e,he,hat⟩|⟨k,e,he,_⟩
  .exact h2 h
  .exact h2 (hat ▸ hp.free _ (F9 he) o)
  cases he⟩
 have h0:=pu hm hargs hn;refine⟨h0.size,rfl,fun t ht=>?_,(fun t p v he=>by cases he),fun k e he=>?_,fun k k' e e' he he' hne=>dn hp.dist (F9 he) (F9 he') hne,(fun k t ht=>by cases ht),(fun k t k' e ht=>by cases ht),(fun k t k' t' b ht=>by cases ht),Chg.refl _ _,hm,trivial⟩
 .obtain ⟨h1,h2⟩:=h0.slot t ht
  exact⟨h1,mono _ (h2.mono fun b' o u g1 g2=>⟨g1,fun hm'=>g2 (.inl hm')⟩)⟩
 have hin:=F9 he;exact⟨hp.heap _ hin,fun v hv=>⟨(hp.ok _ hin v hv).1,mono _ (hp.ok _ hin v hv).2⟩,.inr ⟨_,hin,rfl⟩⟩
theorem zx{m:Nat->Nat->Prop}{w:World}{pre:List (Nat×Blk)}(hm:∀b o,m b o->b<w.heap.size)(hp:M4 m w pre){args:List AV}(hargs:∀v∈args,Ok m w v){f:FuncId}{fn:Func}{c:Code}{R:Ending->World->Prop}(hf:P.funcs[f]? = some fn)(hbd:fn.body=some c)(hn:args.length<=fn.ntmps)
  (h:∀a,f7 ⟨m,w,ats pre,[],noK⟩ ⟨fn.ntmps,A8 0 args,[],pre,[]⟩ a w->c.wp P (bodyPost P fn R) a w):Calls P f (args.map AV.den).toArray w R:=by
 refine calls_of_wp hf hbd ?_;have:=h _ (bp hm hp hargs hn)
 simpa using this
theorem Gh{m:Nat->Nat->Prop}{w:World}{pre:List (Nat×Blk)}(hm:∀b o,m b o->b<w.heap.size)(hp:M4 m w pre){args:List AV}(hargs:∀v∈args,Ok m w v){f:FuncId}{fn:Func}{c:Code}{R:Ending->World->Prop}(hf:P.funcs[f]? = some fn)(hbd:fn.body=some c)(hn:args.length<=fn.ntmps)
  (h:∀a,f7 ⟨m,w,ats pre,[],noK⟩ ⟨fn.ntmps,A8 0 args,[],pre,[]⟩ a w->c.wp P (bodyPostD P fn R) a w):Calls P f (args.map AV.den).toArray w R:=by
 refine calls_of_wp_defers hf hbd ?_;have:=h _ (bp hm hp hargs hn)
 simpa using this
def C4(s:St):List (Nat×Blk)->List (Nat×List AV)->Prop
 | [],[]=>True
 |(k,b)::l,(k',c)::r=>k'=k/\(∃cells,i8 s.mem k=some ⟨b.at_,b.ty,cells⟩/\E7 cells c)/\C4 s l r
 |_,_=>False
def I2(s:St)(pre:List (Nat×Blk)):List Nat->List (Nat×Blk)->Prop
 | [],[]=>True
 |k::ks,(_,b)::l=>(∃cells,i8 s.mem k=some ⟨b.at_,b.ty,cells⟩/\E7 cells b.cells)/\(∀e∈pre,e.1≠k)/\k ∉ ks/\I2 s pre ks l
 |_,_=>False
theorem C4.keys{s:St}:∀{pre:List (Nat×Blk)} {sets:List (Nat×List AV)},C4 s pre sets->sets.map (·.1)=pre.map (·.1)
 | [],[],_=>rfl
 |(k,b)::l,(k',c)::r,h=>by simp only[List.map_cons,h.1,C4.keys h.2.2]
 | [],_::_,h=>h.elim
 |_::_,[],h=>h.elim
theorem C4.mem{s:St}:∀{pre:List (Nat×Blk)} {sets:List (Nat×List AV)},C4 s pre sets->∀e∈upd pre sets,∃cells,i8 s.mem e.1=some ⟨e.2.at_,e.2.ty,cells⟩/\E7 cells e.2.cells
 | [],[],_,e,he=>by cases he
 |(k,b)::l,(k',c)::r,h,e,he=>by
  simp only[upd,List.mem_cons]at he
  rcases he with rfl|he
  .exact h.2.1
  exact C4.mem h.2.2 e he
 | [],_::_,h,_,_=>h.elim
 |_::_,[],h,_,_=>h.elim
theorem C4.all{s:St}:∀{pre:List (Nat×Blk)} {sets:List (Nat×List AV)},C4 s pre sets->∀e∈pre,∃cells,i8 s.mem e.1=some ⟨e.2.at_,e.2.ty,cells⟩
 | [],[],_,e,he=>by cases he
 |(k,b)::l,(k',c)::r,h,e,he=>by
  rcases List.mem_cons.1 he with rfl|he
  .obtain ⟨cells,h1,_⟩:=h.2.1;exact⟨cells,h1⟩
  exact C4.all h.2.2 e he
 | [],_::_,h,_,_=>h.elim
 |_::_,[],h,_,_=>h.elim
theorem I2.mem{s:St}{pre:List (Nat×Blk)}:∀{ks:List Nat} {news:List (Nat×Blk)},I2 s pre ks news->∀e∈news,∃k cells,k∈ks/\i8 s.mem k=some ⟨e.2.at_,e.2.ty,cells⟩/\E7 cells e.2.cells/\∀e∈pre,e.1≠k
 | [],[],_,e,he=>by cases he
 |k::ks,(_,b)::l,h,e,he=>by
  rcases List.mem_cons.1 he with rfl|he
  .obtain ⟨cells,h1,h2⟩:=h.1;exact⟨k,cells,by simp,h1,h2,h.2.1⟩
  obtain⟨k',cells,h0,h1⟩:=I2.mem h.2.2.2 e he;exact⟨k',cells,List.mem_cons_of_mem _ h0,h1⟩
 | [],_::_,h,_,_=>h.elim
 |_::_,[],h,_,_=>h.elim
theorem I2.dist{s:St}{C:Cx}{a:Act}{w:World}(Z:f7 C s a w){pre:List (Nat×Blk)}:∀{ks:List Nat} {news:List (Nat×Blk)},I2 s pre ks news->news.Pairwise fun e f=>e.2.at_≠f.2.at_
 | [],[],_=>.nil
 |k::ks,(_,b)::l,h=>by
  refine .cons (fun e he=>?_) (I2.dist Z h.2.2.2);obtain⟨k',cells,h0,h1,_⟩:=I2.mem h.2.2.2 e he;obtain⟨cells',h2,_⟩:=h.1;have:=Z.nodup k k' _ _ h2 h1 fun e=>h.2.2.1 (e ▸ h0)
  exact this
 | [],_::_,h=>h.elim
 |_::_,[],h=>h.elim
theorem E7.map:∀{l l':List AV},E7 l l'->l.map AV.den=l'.map AV.den
 | [],[],_=>rfl
 |v::l,v'::l',h=>by simp only[List.map_cons,h.1.1,E7.map h.2]
 | [],_::_,h=>h.elim
 |_::_,[],h=>h.elim
theorem bX{K:Kn}{m:Nat->Nat->Prop}{w0 w:World}{pre:List (Nat×Blk)}{d:List Deferred}{s:St}{a:Act}(h:f7 ⟨m,w0,ats pre,d,K⟩ s a w){sets:List (Nat×List AV)}{news:List (Nat×Blk)}{ks:List Nat}(hs:C4 s pre sets)(hn:I2 s pre ks news) :
  gJ m w0 w pre sets news/\∀v,Ok (s.m ⟨m,w0,ats pre,d,K⟩) w v->Ok (mN m news) w v:=by
 have sub:∀v,Ok (s.m ⟨m,w0,ats pre,d,K⟩) w v->Ok (mN m news) w v:=fun v hv=>hv.mono fun b' o u h1 h2=>⟨h1,fun hm=>by
  rcases hm with hm|⟨e,he,hat⟩
  .exact h2 (.inl hm)
  obtain⟨k,cells,_,hk,_⟩:=hn.mem e he;exact h2 (.inr (.inl ⟨k,_,hk,hat⟩))⟩
 have key:∀e∈upd pre sets++news,∃k cells,i8 s.mem k=some ⟨e.2.at_,e.2.ty,cells⟩/\E7 cells e.2.cells:=by
  intro e he
  rcases List.mem_append.1 he with he|he
  .obtain ⟨cells,h1,h2⟩:=hs.mem e he;exact⟨_,cells,h1,h2⟩
  obtain⟨k,cells,_,h1,h2,_⟩:=hn.mem e he;exact⟨k,cells,h1,h2⟩
 refine⟨⟨hs.keys,fun e he=>?_,fun e he v hv=>?_,fun e he=>?_,hn.dist h,h.chg⟩,sub⟩
 .obtain ⟨k,cells,h1,h2⟩:=key e he
  have:=(h.mem _ _ h1).1;simp only at this;rw[h2.map]at this;exact this
 .obtain ⟨k,cells,h1,h2⟩:=key e he
  have h3:=(h.mem _ _ h1).2.1;exact⟨h2.one (fun v hv=>(h3 v hv).1) v hv,h2.ok (fun v hv=>sub v (h3 v hv).2) v hv⟩
 obtain⟨k,cells,_,h1,_,h2⟩:=hn.mem e he
 rcases(h.mem _ _ h1).2.2 with h3|⟨e',he',hat⟩
 .exact h3
 obtain⟨cells',h4⟩:=hs.all e' he';have:=h.nodup _ _ _ _ h4 h1 (h2 e' he');exact absurd hat this
variable {T:List (Nat×TI)} {s:St} {a:Act} {w:World}
theorem Bn{Kk:Kn}(hT:l9 P T){m:Nat->Nat->Prop}{w0:World}{pre:List (Nat×Blk)}(h:f7 ⟨m,w0,ats pre,[],Kk⟩ s a w){fn:Func}{out:j1->Out}{rs:List ResultVar}(hfn:fn.results=rs.toArray){r:List AV×List Ob}(hr:T5 T s rs=some r)(ho:f8 P Kk r.2)
  (x:j1) {cr:CR} (hout:out x = .ret cr) (ks:List Nat) (he:Sim (can (J5 r.1)) (can cr.v)) (hs:C4 s pre cr.sets) (hn:I2 s pre ks cr.news):bodyPost P fn (iH m w0 pre out) .ret a w/\bodyPost P fn (iH m w0 pre out) .normal a w:=by
 obtain⟨h1,h2⟩:=bX h hs hn;refine eN hT h rfl hfn hr ho fun hv=>⟨x,?_⟩
 rw[hout];exact⟨by rw[<-F6 (J5 r.1),he.1,F6],(J3 _).2 (he.2.2 _ _ ((J3 _).1 (h2 _ hv))),h1⟩
theorem HM{Kk:Kn}(hT:l9 P T){m:Nat->Nat->Prop}{w0:World}{pre:List (Nat×Blk)}(h:f7 ⟨m,w0,ats pre,[],Kk⟩ s a w){fn:Func}{res:j1->CR}{rs:List ResultVar}(hfn:fn.results=rs.toArray){r:List AV×List Ob}(hr:T5 T s rs=some r)(ho:f8 P Kk r.2)
  (x:j1) (ks:List Nat) (he:Sim (can (J5 r.1)) (can (res x).v)) (hs:C4 s pre (res x).sets) (hn:I2 s pre ks (res x).news):bodyPost P fn (nm m w0 pre res) .ret a w/\bodyPost P fn (nm m w0 pre res) .normal a w:=
 Bn (out:=fun x=>.ret (res x)) hT h hfn hr ho x rfl ks he hs hn
end
section
variable {C:Cx} {P:Program} {Q:Exit->Act->World->Prop} {T:List (Nat×TI)} {ops:Array Oper} {all:List Oper}
theorem gE{s:St}{a:Act}{w:World}{o:Oper}{c:Call}{g:Operand}{f:FuncId}{l r args:List AV}(hop:o.op = .call c)(hcal:c.callee = .value g)(h:f7 C s a w)(hgv:val s [] g = .fn f l r)(hl:R0 s [] c.args.toList=some args)(hen:o3 P f) :
  (execOp a.eval o).run P w = .ok (.enter f ((l++args++r).map AV.den).toArray) w/\∀v∈l++args++r,Ok (s.m C) w v:=by
 obtain⟨h1,h2⟩:=bI h (fun _ h=>by cases h) hl;have hg:=A7 h (q:=[]) (fun _ h=>by cases h) (x:=g) (by rw[hgv];rfl);rw[hgv]at hg;have hargs:c.args.map a.eval=(args.map AV.den).toArray:=by
  apply Array.ext'
  simpa using h1
 have e1:a.eval g = .func (.func f) (l.map AV.den).toArray (r.map AV.den).toArray:=by
  have:=hg.1
  simpa[AV.den,B7]using this
 have hent':=hen ((l++args++r).map AV.den).toArray w;refine⟨?_,fun v hv=>?_⟩
 .simp only[List.map_append]at hent'
  simp[execOp,hop,resolve,hcal,e1,Deferred.ofValue,invoke,hargs,List.append_assoc]
  simpa[List.append_assoc]using hent'
 cases hg.2 with
 |fn _ _ _ k1 k2=>
  rcases List.mem_append.1 hv with hv|hv
  .rcases List.mem_append.1 hv with hv|hv
   .exact k1 v hv
   exact h2 v hv
  exact k2 v hv
theorem my{s:St}{a:Act}{w:World}{L rest:List Oper}{o:Oper}{x:Operand}{t:Nat}{v:AV}(hL:L=o::rest)(hg:o.guard=none)(hop:o.op = .panic x)(h:f7 C s a w)(hx:val s [] x = .ifc t v)(hQ:Q (.panic [{ v:=.iface t v.den,recovered:=false }]) a w):wpList P ops Q L a w:=by
 refine T8 hL hg ?_;have hxv:=(A7 h (q:=[]) (fun _ h=>by cases h) (x:=x) (by rw[hx];rfl)).1;rw[hx]at hxv;have e1:a.eval x = .iface t v.den:=hxv;have hrun:(execOp a.eval o).run P w = .halt (.panic (.iface t v.den)) w:=by
  simp only[execOp,hop,e1,Instr.panic,Sem.run_bind];rfl
 unfold Oper.wp;rw[hrun];exact hQ
theorem vV{s:St}{a:Act}{w:World}{L rest:List Oper}{o:Oper}{c:Call}{g:Operand}{f:FuncId}{l r args:List AV}(hL:L=o::rest)(hg:o.guard=none)(hd:o.dst=none)(hop:o.op = .defer c)(hcal:c.callee = .value g)(h:f7 C s a w)(hgv:val s [] g = .fn f l r)(hl:R0 s [] c.args.toList=some args)
  (K:∀a',f7 ⟨C.m0,C.w0,C.S,{ target:=.fn (.func f) (AV.denL r).toArray,args:=(AV.denL (l++args)).toArray }::C.ds,C.K⟩ s a' w->wpList P ops Q rest a' w):wpList P ops Q L a w:=by
 refine T8 hL hg ?_;obtain⟨h1,h2⟩:=bI h (fun _ h=>by cases h) hl;have hgo:=A7 h (q:=[]) (fun _ h=>by cases h) (x:=g) (by rw[hgv];rfl);rw[hgv]at hgo;have hargs:c.args.map a.eval=(args.map AV.den).toArray:=by
  apply Array.ext'
  simpa using h1
 have e1:a.eval g = .func (.func f) (l.map AV.den).toArray (r.map AV.den).toArray:=by
  have:=hgo.1
  simpa[AV.den,B7]using this
 have hrun:(execOp a.eval o).run P w = .ok (.defer { target:=.fn (.func f) (AV.denL r).toArray,args:=(AV.denL (l++args)).toArray }) w:=by
  simp[execOp,hop,resolve,hcal,e1,Deferred.ofValue,hargs,B7]
 unfold Oper.wp;rw[hrun];simp only[Oper.upon,hd,Act.put];refine K _ ⟨h.size,?_,h.slot,h.gs,h.mem,h.nodup,h.gr,h.sepm,h.sepg,h.chg,h.m0,h.kept⟩;simp only[h.defers]
theorem sj{s:St}{a:Act}{w:World}{fn:Func}{R:Ending->World->Prop}{u u1:FrameMode}{f:FuncId}{l r:List AV}{ds:List Deferred}(h:f7 ⟨C.m0,C.w0,C.S,{ target:=.fn (.func f) (AV.denL r).toArray,args:=(AV.denL l).toArray }::ds,C.K⟩ s a w)(hu:u ≠ .run)(hen:o3 P f)
  {pre:List (Nat×Blk)} {sets:List (Nat×List AV)} (hpre:∀e∈pre,i8 s.mem e.1=some e.2) (hnd:bU pre=true)
  (hc:M4 (s.m C) w pre->CallsD P f ((l++r).map AV.den).toArray u w fun e u' w'=>(∃v,e = .returned v)/\u'=u1/\gJ (s.m C) w w' pre sets [])
  (K:∀w',f7 ⟨C.m0,C.w0,C.S,ds,C.K⟩ (s.eff (.sets (upd pre sets))) { tmps:=a.tmps,defers:=ds } w'->Leaves P fn a.tmps R ds (settle u1) w'):Leaves P fn a.tmps R a.defers u w:=by
 rw[h.defers];have h0:f7 ⟨C.m0,C.w0,C.S,ds,C.K⟩ s { tmps:=a.tmps,defers:=ds } w:=⟨h.size,rfl,h.slot,h.gs,h.mem,h.nodup,h.gr,h.sepm,h.sepg,h.chg,h.m0,h.kept⟩;have hdist:=T7 h hnd hpre;have hent:=hen ((l++r).map AV.den).toArray w;refine leaves_cons hu (f:=f) (args:=((l++r).map AV.den).toArray) (by simpa[invoke,B7]using hent) ?_;refine(hc ⟨fun e he=>(h.mem _ _ (hpre e he)).1,fun e he=>(h.mem _ _ (hpre e he)).2.1,fun e he o=>.inr (.inl ⟨e.1,e.2,hpre e he,rfl⟩),hdist⟩).mono ?_
 rintro e u' w' ⟨⟨v,rfl⟩,rfl,hl⟩
 have f1:=(h0.called hdist hpre hl).1;rw[List.append_nil]at f1;exact K w' f1
theorem aZ{Kk:Kn}{s:St}{a:Act}{w:World}{m:Nat->Nat->Prop}{w0:World}{pre:List (Nat×Blk)}(hT:l9 P T)(h:f7 ⟨m,w0,ats pre,[],Kk⟩ s a w){fn:Func}{out:j1->Out}{rs:List ResultVar}(hfn:fn.results=rs.toArray){r:List AV×List Ob}(hr:T5 T s rs=some r)(ho:f8 P Kk r.2)
  (x:j1) {cr:CR} (hout:out x = .ret cr) (ks:List Nat) (he:Sim (can (J5 r.1)) (can cr.v)) (hs:C4 s pre cr.sets) (hn:I2 s pre ks cr.news):Leaves P fn a.tmps (iH m w0 pre out) [] .returning w:=by
 obtain⟨h1,h2⟩:=bX h hs hn;obtain⟨g1,g2⟩:=eO hT h hfn hr ho;refine⟨_,g1,x,?_⟩;rw[hout];exact⟨by rw[<-F6 (J5 r.1),he.1,F6],(J3 _).2 (he.2.2 _ _ ((J3 _).1 (h2 _ g2))),h1⟩
theorem HQ{Kk:Kn}{s:St}{a:Act}{w:World}{m:Nat->Nat->Prop}{w0:World}{pre:List (Nat×Blk)}(hT:l9 P T)(h:f7 ⟨m,w0,ats pre,[],Kk⟩ s a w){fn:Func}{out:j1->Out}{rs:List ResultVar}(hfn:fn.results=rs.toArray){r:List AV×List Ob}(hr:T5 T s rs=some r)(ho:f8 P Kk r.2)
  (x:j1) {cr:CR} (hout:out x = .ret cr) (ks:List Nat) (he:Sim (can (J5 r.1)) (can cr.v)) (hs:C4 s pre cr.sets) (hn:I2 s pre ks cr.news):bodyPostD P fn (iH m w0 pre out) .ret a w:=by
 show Leaves P fn a.tmps (iH m w0 pre out) a.defers .returning w
 rw[h.defers];exact aZ hT h hfn hr ho x hout ks he hs hn
end
theorem Sim.ptr{k k' b off:Nat}:Sim (.ptr k b off) (.ptr k' b off):=⟨rfl,fun _=>rfl,fun _ _ _=>.ptr _ _ _⟩
theorem Sim.fn{f:Nat}{l l' r r':List AV}(h:E7 l l')(h':E7 r r'):Sim (.fn f l r) (.fn f l' r'):=
 ⟨by simp only[AV.den,h.den,h'.den],fun _=>rfl,fun m w ho=>by cases ho with|fn _ _ _ h1 h2=>exact .fn _ _ _ (h.ok h1) (h'.ok h2)⟩
theorem E7.refl:∀l:List AV,E7 l l
 | []=>trivial
 |v::l=>⟨Sim.refl v,E7.refl l⟩
theorem nC:∀{pre pre':List (Nat×Blk)} {r r':List (Nat×List AV)},pre'.map (·.2)=pre.map (·.2)->r'.map (·.2)=r.map (·.2)->(upd pre' r').map (·.2)=(upd pre r).map (·.2)
 | [],[],r,r',_,_=>by cases r<;>cases r'<;>rfl
 | [],_::_,_,_,h,_=>by cases h
 |_::_,[],_,_,h,_=>by cases h
 |_::_,_::_,[],[],_,_=>rfl
 |_::_,_::_,[],_::_,_,h=>by cases h
 |_::_,_::_,_::_,[],_,h=>by cases h
 |(k,b)::l,(k',b')::l',(q,c)::r,(q',c')::r',h,h'=>by
  simp only[List.map_cons,List.cons.injEq]at h h';obtain⟨rfl,h⟩:=h;obtain⟨rfl,h'⟩:=h';simp only[upd,List.map_cons,nC h h']
theorem Y7{l l':List (Nat×Blk)}{p:Blk->Prop}(h:l'.map (·.2)=l.map (·.2))(hp:∀e∈l,p e.2):∀e∈l',p e.2:=by
 intro e he;have:e.2∈l.map (·.2):=by rw[<-h];exact List.mem_map.2 ⟨e,he,rfl⟩
 obtain⟨e',h1,h2⟩:=List.mem_map.1 this;rw[<-h2];exact hp e' h1
theorem jX{l l':List (Nat×Blk)}(h:l'.map (·.2)=l.map (·.2))(hp:l.Pairwise fun e f=>e.2.at_≠f.2.at_):l'.Pairwise fun e f=>e.2.at_≠f.2.at_:=by
 have e:∀l:List (Nat×Blk),(l.Pairwise fun e f=>e.2.at_≠f.2.at_)↔(l.map (·.2)).Pairwise fun b c=>b.at_≠c.at_:=fun l=>by rw[List.pairwise_map]
 rw[e,h,<-e];exact hp
theorem cw{l l':List (Nat×Blk)}(h:l'.map (·.2)=l.map (·.2))(b:Nat):ats l' b↔ats l b:=by
 have e:∀l:List (Nat×Blk),ats l b ↔ ∃x∈l.map (·.2),x.at_=b:=fun l=>⟨fun⟨e,he,h⟩=>⟨e.2,List.mem_map.2 ⟨e,he,rfl⟩,h⟩,fun⟨x,hx,h⟩=>by obtain⟨e,he,rfl⟩:=List.mem_map.1 hx;exact⟨e,he,h⟩⟩
 rw[e,e,h]
theorem gJ.re{m:Nat->Nat->Prop}{w w':World}{pre pre':List (Nat×Blk)}{sets sets':List (Nat×List AV)}{news news':List (Nat×Blk)}(h:gJ m w w' pre sets news)(hp:pre'.map (·.2)=pre.map (·.2))(hs:sets'.map (·.2)=sets.map (·.2))(hk:sets'.map (·.1)=pre'.map (·.1))(hn:news'.map (·.2)=news.map (·.2)):gJ m w w' pre' sets' news':=by
 have hm:mN m news'=mN m news:=by funext b o;simp only[mN,cw hn]
 have hu:(upd pre' sets'++news').map (·.2)=(upd pre sets++news).map (·.2):=by rw[List.map_append,List.map_append,nC hp hs,hn]
 refine⟨hk,Y7 (p:=fun b=>w'.heap[b.at_]? = some (.cells (b.cells.map AV.den).toArray b.ty (0,0))) hu h.heap,Y7 (p:=fun b=>∀v∈b.cells,v.one=true/\Ok (mN m news') w' v) hu (hm ▸ h.ok),Y7 (p:=fun b=>w.heap.size<=b.at_) hn h.fresh,jX hn h.dist,h.chg.mono fun k hk=>(cw hp k).2 hk⟩
theorem M4.re{m:Nat->Nat->Prop}{w:World}{pre pre':List (Nat×Blk)}(h:M4 m w pre)(hp:pre'.map (·.2)=pre.map (·.2)):M4 m w pre':=
 ⟨Y7 (p:=fun b=>w.heap[b.at_]? = some (.cells (b.cells.map AV.den).toArray b.ty (0,0))) hp h.heap,Y7 (p:=fun b=>∀v∈b.cells,v.one=true/\Ok m w v) hp h.ok,Y7 (p:=fun b=>∀o,m b.at_ o) hp h.free,jX hp h.dist⟩
theorem L4.re{P:Program}{f:FuncId}{args args':List AV}{pre pre':List (Nat×Blk)}{res res':j1->CR}(h:L4 P f args pre res)(ha:E7 args' args)(hp:pre'.map (·.2)=pre.map (·.2))
  (hr:∀x,(res' x).sets.map (·.2)=(res x).sets.map (·.2)/\(res' x).sets.map (·.1)=pre'.map (·.1)/\Sim (res x).v (res' x).v/\(res' x).news.map (·.2)=(res x).news.map (·.2)):L4 P f args' pre' res':=by
 intro m w h1 h2 h3;rw[ha.map];refine(h m w h1 (ha.ok h2) (h3.re hp.symm)).mono ?_
 rintro e w' ⟨x,rfl,hok,hl⟩
 obtain⟨r1,r2,r3,r4⟩:=hr x;have hm:mN m (res' x).news=mN m (res x).news:=by funext b o;simp only[mN,cw r4]
 exact⟨x,by rw[r3.1],by rw[hm];exact r3.2.2 _ _ hok,hl.re hp r1 r2 r4⟩
section
variable {C:Cx} {P:Program} {Q:Exit->Act->World->Prop} {T:List (Nat×TI)} {s:St} {a:Act} {w:World}
theorem rL{id:Nat}{l:List Oper}{B:Alg}(O:B=std)(hT:l9 P T)(kp km:List Nat)(cs:List (Nat×CS))(h:f7 C s a w){R:Alg->(Nat->j1)->St×List Ob}
  (hex:∀A X,(G8 A T cs X l (l6 0 l) s).map (fun r=>(r.1.keep kp km,r.2.1))=some (R A X)) (hob:∀X,f8 P C.K (R B X).2) (hQ:∀X a' w',f7 C (R B X).1 a' w'->Q .normal a' w'):(Code.region id l.toArray false).wp P Q a w:=by
 subst O;exact vB hT kp km cs h hex hob hQ
theorem wI{id:Nat}{l:List Oper}{B:Alg}(O:B=std)(hm:P.follows .mixedOrders=true)(hT:l9 P T)(kp km:List Nat)(cs:List (Nat×CS))(h:f7 C s a w)(hgs:s.gs=[])(fs:List C8)(hD:aJ l fs=true)(hlen:l.length=fs.length)
  {R:Alg->(Nat->j1)->St×List Ob}
  (hex:∀A X,(G8 A T cs X l (l6 0 l) s).map (fun r=>((r.1.keep kp km,r.2.1),r.2.2))=some (R A X,fs)) (hob:∀X,f8 P C.K (R B X).2) (hQ:∀X a' w',f7 C (R B X).1 a' w'->Q .normal a' w'):(Code.region id l.toArray true).wp P Q a w:=by
 subst O;exact zB hm hT kp km cs h hgs fs hD hlen hex hob hQ
theorem dX{all L:List Oper}(i n:Nat){B:Alg}(O:B=std)(hT:l9 P T)(kp km:List Nat)(cs:List (Nat×CS))(h:f7 C s a w){R:Alg->(Nat->j1)->St×List Ob}
  (hex:∀A X,(G8 A T cs X all (l6 i (L.take n)) s).map (fun r=>(r.1.keep kp km,r.2.1))=some (R A X)) (hob:∀X,f8 P C.K (R B X).2) (hQ:∀X a' w',f7 C (R B X).1 a' w'->wpList P all.toArray Q (L.drop n) a' w'):wpList P all.toArray Q L a w:=by
 subst O;exact yH i n hT kp km cs h hex hob hQ
theorem aY{all L:List Oper}(i:Nat){B:Alg}(O:B=std)(hT:l9 P T)(kp km:List Nat)(cs:List (Nat×CS))(h:f7 C s a w){R:Alg->(Nat->j1)->St×List Ob}
  (hex:∀A X,(G8 A T cs X all (l6 i L) s).map (fun r=>(r.1.keep kp km,r.2.1))=some (R A X)) (hob:∀X,f8 P C.K (R B X).2) (hQ:∀X a' w',f7 C (R B X).1 a' w'->Q .normal a' w'):wpList P all.toArray Q L a w:=by
 subst O;exact yI i hT kp km cs h hex hob hQ
end
theorem eqv{α : Sort _}(x:α):∃y,y=x:=⟨x,rfl⟩
theorem zr{a:AV}:Sim a a:=Sim.refl a
theorem zl{a:List AV}:E7 a a:=E7.refl a
theorem eq{α : Type _}{p:α->Prop}{x:α}(h:p x):∀e ∈ [x],p e:=fun e he=>by rw[List.mem_singleton.1 he];exact h
section
variable {C:Cx} {P:Program} {Q:Exit->Act->World->Prop} {T:List (Nat×TI)} {s:St} {a:Act} {w:World} {B:Alg}
theorem rg{id:Nat}{l:List Oper}{R:Alg->(Nat->j1)->St×List Ob}(O:B=std)(hT:l9 P T)(kp km:List Nat)(cs:List (Nat×CS))(h:f7 C s a w)(hQ:∀X a' w',f7 C (R B X).1 a' w'->Q .normal a' w')
  (hex:∀A X,(G8 A T cs X l (l6 0 l) s).map (fun r=>(r.1.keep kp km,r.2.1))=some (R A X):=by intro A X;conv=>lhs;cbv) (hob:∀X,f8 P C.K (R B X).2:=by
   intro X;subst O
   first
   |exact trivial
   |(simp only[f8,Ob.holds,BE.den]<;>and_intros<;>(repeat first|trivial|rfl|exact O1|exact O2|exact O3|exact(fun _ _=>by kernel_rfl)|exact O1 _ _ _ rfl|exact O2 _ _ _ rfl|refine⟨?_,?_⟩|intro h|decide|omega)<;>done)
   |(simp[f8,Ob.holds,BE.den,std,b7,i5]<;>omega)):(Code.region id l.toArray false).wp P Q a w:=rL O hT kp km cs h hex hob hQ
theorem a6 {id:Nat} {l:List Oper} {R:Alg -> (Nat -> j1) -> St × List Ob} {y:Code} (kp km:List Nat) (h:f7 C s a w) (hQ:∀ {a' w'} X,f7 C (R B X).1 a' w' -> y.wp P Q a' w') (O:B=std:=by exact O) (hT:l9 P T:=by exact a8)
    (hex:∀A X,(G8 A T [] X l (l6 0 l) s).map (fun r=>(r.1.keep kp km,r.2.1))=some (R A X):=by intro A X;conv=>lhs;cbv) (hob:∀X,f8 P C.K (R B X).2:=by
      intro X;subst O
      first
      |exact trivial
      |(simp only[f8,Ob.holds,BE.den]<;>and_intros<;>(repeat first|trivial|rfl|exact O1|exact O2|exact O3|exact O4|exact O5|exact O6|exact(fun _ _=>by kernel_rfl)|exact Int.le_refl _|exact Int.natCast_nonneg _|exact C3 (Kk:=noK) _ _ _ _|exact tT (Kk:=noK) _ _ _ _ _ _|exact jZ (Kk:=noK) _ _ _ _ _ _ _ _|exact disz_s _|exact O4 _ _ _|exact O1 _ _ _ rfl|exact O2 _ _ _ rfl|refine⟨?_,?_⟩|intro h|decide|omega)<;>done)
      |(simp[f8,Ob.holds,BE.den,std,b7,i5]<;>omega)):(Code.seq (Code.region id l.toArray false) y).wp P Q a w:=wp_seq (rg O hT kp km [] h (fun X a' w' hf=>hQ X hf) hex hob)
theorem j6 {id:Nat} {l:List Oper} {R:Alg -> (Nat -> j1) -> St × List Ob} {y:Code} (kp km:List Nat) (cs:List (Nat × CS)) (h:f7 C s a w) (hQ:∀ {a' w'} X,f7 C (R B X).1 a' w' -> y.wp P Q a' w') (O:B=std:=by exact O) (hT:l9 P T:=by exact a8)
    (hex:∀A X,(G8 A T cs X l (l6 0 l) s).map (fun r=>(r.1.keep kp km,r.2.1))=some (R A X):=by intro A X;conv=>lhs;cbv) (hob:∀X,f8 P C.K (R B X).2:=by
      intro X;subst O
      first
      |exact trivial
      |(simp only[f8,Ob.holds,BE.den]<;>and_intros<;>(repeat first|trivial|rfl|exact O1|exact O2|exact O3|exact O4|exact O5|exact O6|exact(fun _ _=>by kernel_rfl)|exact Int.le_refl _|exact Int.natCast_nonneg _|exact C3 (Kk:=noK) _ _ _ _|exact tT (Kk:=noK) _ _ _ _ _ _|exact jZ (Kk:=noK) _ _ _ _ _ _ _ _|exact disz_s _|exact O4 _ _ _|exact O1 _ _ _ rfl|exact O2 _ _ _ rfl|refine⟨?_,?_⟩|intro h|decide|omega)<;>done)
      |(simp[f8,Ob.holds,BE.den,std,b7,i5]<;>omega)):(Code.seq (Code.region id l.toArray false) y).wp P Q a w:=wp_seq (rg O hT kp km cs h (fun X a' w' hf=>hQ X hf) hex hob)
theorem j5 {id:Nat} {l:List Oper} {R:Alg -> (Nat -> j1) -> St × List Ob} (kp km:List Nat) (h:f7 C s a w) (hQ:∀ {a' w'} X,f7 C (R B X).1 a' w' -> Q .normal a' w') (O:B=std:=by exact O) (hT:l9 P T:=by exact a8)
    (hex:∀A X,(G8 A T [] X l (l6 0 l) s).map (fun r=>(r.1.keep kp km,r.2.1))=some (R A X):=by intro A X;conv=>lhs;cbv) (hob:∀X,f8 P C.K (R B X).2:=by
      intro X;subst O
      first
      |exact trivial
      |(simp only[f8,Ob.holds,BE.den]<;>and_intros<;>(repeat first|trivial|rfl|exact O1|exact O2|exact O3|exact O4|exact O5|exact O6|exact(fun _ _=>by kernel_rfl)|exact Int.le_refl _|exact Int.natCast_nonneg _|exact C3 (Kk:=noK) _ _ _ _|exact tT (Kk:=noK) _ _ _ _ _ _|exact jZ (Kk:=noK) _ _ _ _ _ _ _ _|exact disz_s _|exact O4 _ _ _|exact O1 _ _ _ rfl|exact O2 _ _ _ rfl|refine⟨?_,?_⟩|intro h|decide|omega)<;>done)
      |(simp[f8,Ob.holds,BE.den,std,b7,i5]<;>omega)):(Code.region id l.toArray false).wp P Q a w:=(rg O hT kp km [] h (fun X a' w' hf=>hQ X hf) hex hob)
theorem j4 {id:Nat} {l:List Oper} {R:Alg -> (Nat -> j1) -> St × List Ob} (kp km:List Nat) (cs:List (Nat × CS)) (h:f7 C s a w) (hQ:∀ {a' w'} X,f7 C (R B X).1 a' w' -> Q .normal a' w') (O:B=std:=by exact O) (hT:l9 P T:=by exact a8)
    (hex:∀A X,(G8 A T cs X l (l6 0 l) s).map (fun r=>(r.1.keep kp km,r.2.1))=some (R A X):=by intro A X;conv=>lhs;cbv) (hob:∀X,f8 P C.K (R B X).2:=by
      intro X;subst O
      first
      |exact trivial
      |(simp only[f8,Ob.holds,BE.den]<;>and_intros<;>(repeat first|trivial|rfl|exact O1|exact O2|exact O3|exact O4|exact O5|exact O6|exact(fun _ _=>by kernel_rfl)|exact Int.le_refl _|exact Int.natCast_nonneg _|exact C3 (Kk:=noK) _ _ _ _|exact tT (Kk:=noK) _ _ _ _ _ _|exact jZ (Kk:=noK) _ _ _ _ _ _ _ _|exact disz_s _|exact O4 _ _ _|exact O1 _ _ _ rfl|exact O2 _ _ _ rfl|refine⟨?_,?_⟩|intro h|decide|omega)<;>done)
      |(simp[f8,Ob.holds,BE.den,std,b7,i5]<;>omega)):(Code.region id l.toArray false).wp P Q a w:=(rg O hT kp km cs h (fun X a' w' hf=>hQ X hf) hex hob)
theorem a7{x y:Code}(h:x.wp P (Exit.then (y.wp P Q) Q) a w):(Code.seq x y).wp P Q a w:=wp_seq h
theorem f9(h:Q .normal a w):Code.skip.wp P Q a w:=wp_skip h
theorem j0{id:Nat}{c:Code}(h:c.wp P (Exit.inBlock id Q) a w):(Code.block id c).wp P Q a w:=wp_block h
theorem j2(h:Q .ret a w):Code.ret.wp P Q a w:=wp_ret h
theorem o4{id:Nat}(h:Q (.exit id) a w):(Code.exit id).wp P Q a w:=wp_exit h
theorem drg{id:Nat}{l:List Oper}{R:Alg->(Nat->j1)->St×List Ob}{fs:List C8}(O:B=std)(hT:l9 P T)(kp km:List Nat)(cs:List (Nat×CS))(h:f7 C s a w)(hQ:∀X a' w',f7 C (R B X).1 a' w'->Q .normal a' w')
  (hm:P.follows .mixedOrders=true:=by kernel_rfl) (hgs:s.gs=[]:=by rfl)
  (hex:∀A X,(G8 A T cs X l (l6 0 l) s).map (fun r=>((r.1.keep kp km,r.2.1),r.2.2))=some (R A X,fs):=by intro A X;conv=>lhs;cbv) (hD:aJ l fs=true:=by kernel_rfl) (hlen:l.length=fs.length:=by rfl) (hob:∀X,f8 P C.K (R B X).2:=by
   intro X;subst O
   first
   |exact trivial
   |(simp only[f8,Ob.holds,BE.den]<;>and_intros<;>(repeat first|trivial|rfl|exact O1|exact O2|exact O3|exact(fun _ _=>by kernel_rfl)|exact O1 _ _ _ rfl|exact O2 _ _ _ rfl|refine⟨?_,?_⟩|intro h|decide|omega)<;>done)
   |(simp[f8,Ob.holds,BE.den,std,b7,i5]<;>omega)):(Code.region id l.toArray true).wp P Q a w:=wI O hm hT kp km cs h hgs fs hD hlen hex hob hQ
theorem lpr{all L:List Oper}{R:Alg->(Nat->j1)->St×List Ob}(i n:Nat)(O:B=std)(hT:l9 P T)(kp km:List Nat)(cs:List (Nat×CS))(h:f7 C s a w)(hQ:∀X a' w',f7 C (R B X).1 a' w'->wpList P all.toArray Q (L.drop n) a' w')
  (hex:∀A X,(G8 A T cs X all (l6 i (L.take n)) s).map (fun r=>(r.1.keep kp km,r.2.1))=some (R A X):=by intro A X;conv=>lhs;cbv) (hob:∀X,f8 P C.K (R B X).2:=by
   intro X;subst O
   first
   |exact trivial
   |(simp only[f8,Ob.holds,BE.den]<;>and_intros<;>(repeat first|trivial|rfl|exact O1|exact O2|exact O3|exact(fun _ _=>by kernel_rfl)|exact O1 _ _ _ rfl|exact O2 _ _ _ rfl|refine⟨?_,?_⟩|intro h|decide|omega)<;>done)
   |(simp[f8,Ob.holds,BE.den,std,b7,i5]<;>omega)):wpList P all.toArray Q L a w:=dX i n O hT kp km cs h hex hob hQ
theorem lnd{all L:List Oper}{R:Alg->(Nat->j1)->St×List Ob}(i:Nat)(O:B=std)(hT:l9 P T)(kp km:List Nat)(cs:List (Nat×CS))(h:f7 C s a w)(hQ:∀X a' w',f7 C (R B X).1 a' w'->Q .normal a' w')
  (hex:∀A X,(G8 A T cs X all (l6 i L) s).map (fun r=>(r.1.keep kp km,r.2.1))=some (R A X):=by intro A X;conv=>lhs;cbv) (hob:∀X,f8 P C.K (R B X).2:=by
   intro X;subst O
   first
   |exact trivial
   |(simp only[f8,Ob.holds,BE.den]<;>and_intros<;>(repeat first|trivial|rfl|exact O1|exact O2|exact O3|exact(fun _ _=>by kernel_rfl)|exact O1 _ _ _ rfl|exact O2 _ _ _ rfl|refine⟨?_,?_⟩|intro h|decide|omega)<;>done)
   |(simp[f8,Ob.holds,BE.den,std,b7,i5]<;>omega)):wpList P all.toArray Q L a w:=aY i O hT kp km cs h hex hob hQ
end
section
variable {P:Program} {f:FuncId} {fn:Func} {c:Code} {R:Ending->World->Prop} {m:Nat->Nat->Prop} {w:World} {pre:List (Nat×Blk)} {args:List AV}
theorem en(nt:Nat)(hm:∀b o,m b o->b<w.heap.size)(hargs:∀v∈args,Ok m w v)(hf:P.funcs[f]? = some fn)(h:∀B,B=std->∀a,f7 ⟨m,w,fun _=>False,[],noK⟩ ⟨nt,A8 0 args,[],[],[]⟩ a w->c.wp P (bodyPost P fn R) a w)(hb:fn.body=some c:=by rfl)(hnt:fn.ntmps=nt:=by rfl)(hn:args.length<=nt:=by exact Nat.le_of_ble_eq_true rfl):Calls P f (args.map AV.den).toArray w R:=
 enter hm hargs hf hb (hnt ▸ hn) (by rw[hnt];exact h std rfl)
theorem enX(nt:Nat)(hm:∀b o,m b o->b<w.heap.size)(hp:M4 m w pre)(hargs:∀v∈args,Ok m w v)(hf:P.funcs[f]? = some fn)(h:∀B,B=std->∀a,f7 ⟨m,w,ats pre,[],noK⟩ ⟨nt,A8 0 args,[],pre,[]⟩ a w->c.wp P (bodyPost P fn R) a w)(hb:fn.body=some c:=by rfl)(hnt:fn.ntmps=nt:=by rfl)(hn:args.length<=nt:=by exact Nat.le_of_ble_eq_true rfl):Calls P f (args.map AV.den).toArray w R:=
 zx hm hp hargs hf hb (hnt ▸ hn) (by rw[hnt];exact h std rfl)
end
section
variable {P:Program} {T:List (Nat×TI)} {s:St} {a:Act} {w:World} {Kk:Kn} {m:Nat->Nat->Prop} {w0:World} {fn:Func} {rs:List ResultVar} {r:List AV×List Ob} {pre:List (Nat×Blk)} {B:Alg}
theorem rsp{res:j1->AV}(O:B=std)(hT:l9 P T)(h:f7 ⟨m,w0,fun _=>False,[],Kk⟩ s a w)(x:j1)(hfn:fn.results=rs.toArray:=by rfl)(hr:T5 T s rs=some r:=by first|rfl|(conv=>lhs;cbv))(ho:f8 P Kk r.2:=by first|exact trivial|(subst O;simp[f8,Ob.holds]))
  (he:can (J5 r.1)=can (res x):=by subst O;rfl):bodyPost P fn (fun e w'=>∃x,e = .returned (res x).den/\Ok m w' (res x)/\Below w0.heap.size w0 w') .ret a w/\bodyPost P fn (fun e w'=>∃x,e = .returned (res x).den/\Ok m w' (res x)/\Below w0.heap.size w0 w') .normal a w:=
 ⟨xJ hT h hfn hr ho x he,vz hT h hfn hr ho x he⟩
theorem rsi{res:j1->AV}(O:B=std)(hT:l9 P T)(h:f7 ⟨m,w0,fun _=>False,[],Kk⟩ s a w)(x:j1)(hfn:fn.results=rs.toArray:=by rfl)(hr:T5 T s rs=some r:=by first|rfl|(conv=>lhs;cbv))(ho:f8 P Kk r.2:=by first|exact trivial|(subst O;simp[f8,Ob.holds]))
  (he:Sim (can (J5 r.1)) (can (res x)):=by subst O;exact zr):bodyPost P fn (fun e w'=>∃x,e = .returned (res x).den/\Ok m w' (res x)/\Below w0.heap.size w0 w') .ret a w:=
 Bm hT h hfn hr ho x he
theorem B4{Q:Exit->Act->World->Prop}{res:j1->AV}(h:f7 ⟨m,w0,fun _=>False,[],Kk⟩ s a w)(he:Sim (can (J5 r.1)) (can (res G6)))(hQ:bodyPost P fn (fun e w'=>∃x,e = .returned (res x).den/\Ok m w' (res x)/\Below w0.heap.size w0 w') .ret a w->Q .ret a w:=by exact fun h=>h)(O:B=std:=by exact O)(hT:l9 P T:=by exact a8)(hfn:fn.results=rs.toArray:=by rfl)(hr:T5 T s rs=some r:=by first|rfl|(conv=>lhs;cbv))(ho:f8 P Kk r.2:=by first|exact trivial|(subst O;simp[f8,Ob.holds])):Code.ret.wp P Q a w:=wp_ret (hQ (rsi O hT h G6 hfn hr ho he))
theorem aS{Q:Exit->Act->World->Prop}{res:j1->AV}(h:f7 ⟨m,w0,fun _=>False,[],Kk⟩ s a w)(he:can (J5 r.1)=can (res G6))(hQ:bodyPost P fn (fun e w'=>∃x,e = .returned (res x).den/\Ok m w' (res x)/\Below w0.heap.size w0 w') .ret a w->Q .ret a w:=by exact fun h=>h)(O:B=std:=by exact O)(hT:l9 P T:=by exact a8)(hfn:fn.results=rs.toArray:=by rfl)(hr:T5 T s rs=some r:=by first|rfl|(conv=>lhs;cbv))(ho:f8 P Kk r.2:=by first|exact trivial|(subst O;simp[f8,Ob.holds])):Code.ret.wp P Q a w:=wp_ret (hQ (rsp O hT h G6 hfn hr ho he).1)
theorem rx{res:j1->CR}(O:B=std)(hT:l9 P T)(h:f7 ⟨m,w0,ats pre,[],Kk⟩ s a w)(x:j1)(ks:List Nat)(hfn:fn.results=rs.toArray:=by rfl)(hr:T5 T s rs=some r:=by first|rfl|(conv=>lhs;cbv))(ho:f8 P Kk r.2:=by first|exact trivial|(subst O;simp[f8,Ob.holds]))
  (he:Sim (can (J5 r.1)) (can (res x).v):=by subst O;exact zr) (hs:C4 s pre (res x).sets:=by subst O;first|exact trivial|exact⟨rfl,⟨_,rfl,zl⟩,trivial⟩) (hn:I2 s pre ks (res x).news:=by exact trivial):bodyPost P fn (nm m w0 pre res) .ret a w/\bodyPost P fn (nm m w0 pre res) .normal a w:=
 HM hT h hfn hr ho x ks he hs hn
end
end Go.Proofs.YtmbkanpapkhnaaaGreat.Sym
namespace Go.Proofs.YtmbkanpapkhnaaaGreat
open Go.RowKit
def mkB(l:List UInt8):ByteArray:=⟨l.toArray⟩
def unB(s:ByteArray):List UInt8:=s.data.toList
theorem DZ(s:ByteArray):mkB (unB s)=s:=by simp[mkB,unB]
theorem EC{s t:ByteArray}(h:unB s=unB t):s=t:=by rw[<-DZ s,<-DZ t,h]
theorem me(s:ByteArray):s.toList=unB s:=by simp[unB,ByteArray.toList_eq]
theorem IJ(s t:ByteArray):(s==t)=true↔s=t:=by
 cases s with|mk a=>cases t with|mk b=>
 have:(ByteArray.mk a==ByteArray.mk b)=(a==b):=rfl;rw[this];simp
end Go.Proofs.YtmbkanpapkhnaaaGreat
namespace Go.Proofs.YtmbkanpapkhnaaaGreat
open Go.RowKit Sym
def U64(v:Int):Prop:=0<=v/\v<18446744073709551616
def G7(v n:Nat):Nat:=v / 2^(64-n)*2^(64-n)
theorem wrap_u64(x:Int)(h:U64 x):IntKind.u64.wrap x=x:=by
 unfold U64 at h;simp[IntKind.wrap,IntKind.signed,IntKind.bits];omega
theorem tC{n:Int}(h0:0<=n)(h1:n<=64):o7 .shr .u64 18446744073709551615 n=((2^(64-n.toNat)-1:Nat):Int):=by
 obtain⟨k,rfl⟩:=Int.eq_ofNat_of_zero_le h0;have hk:k<=64:=by omega
 simp only[o7,Int.toNat_natCast,IntKind.bits];rw[Nat.min_eq_left hk];have hp:(18446744073709551615:Int)=((2^64-1:Nat):Int):=by decide
 have hq:(2:Int)^k=((2^k:Nat):Int):=by simp
 rw[hp,hq,Int.fdiv_eq_ediv_of_nonneg _ (Int.natCast_nonneg _),<-Int.natCast_ediv];have e:(2:Nat)^64-1=(2^(64-k)-1)*2^k+(2^k-1):=by
  have h2:(2:Nat)^64=2^(64-k)*2^k:=by rw[<-Nat.pow_add];congr 1;omega
  have h3:=Nat.one_le_two_pow (n:=64-k);have h4:=Nat.one_le_two_pow (n:=k);rw[h2,Nat.sub_mul,Nat.one_mul];have h5:2^k<=2^(64-k)*2^k:=Nat.le_mul_of_pos_left _ h3;omega
 have hd:((2:Nat)^64-1) / 2^k=2^(64-k)-1:=by
  rw[e,Nat.mul_comm,Nat.mul_add_div (Nat.two_pow_pos k),Nat.div_eq_of_lt (by have:=Nat.two_pow_pos k;omega),Nat.add_zero]
 rw[<-hd]
theorem sZ{v:Int}(hv:U64 v)(k:Nat)(hk:k<=64):i5 .andNot .u64 v ((2^k-1:Nat):Int)=((v.toNat / 2^k*2^k:Nat):Int):=by
 obtain⟨x,rfl⟩:=Int.eq_ofNat_of_zero_le hv.1;have hx:x<2^64:=by have:=hv.2;omega
 have hle:x / 2^k*2^k<=x:=Nat.div_mul_le_self _ _;simp only[Int.toNat_natCast]
 show IntKind.u64.wrap ((BitVec.ofInt 64 (x:Int) &&& ~~~BitVec.ofInt 64 ((2^k-1:Nat):Int)).toNat:Int)=_
 have hp:2^k<=2^64:=Nat.pow_le_pow_right (by decide) hk;have key:(BitVec.ofInt 64 (x:Int) &&& ~~~BitVec.ofInt 64 ((2^k-1:Nat):Int)).toNat=x / 2^k*2^k:=by
  apply Nat.eq_of_testBit_eq;intro i;have e1:BitVec.ofInt 64 (x:Int)=BitVec.ofNat 64 x:=rfl;have e2:BitVec.ofInt 64 ((2^k-1:Nat):Int)=BitVec.ofNat 64 (2^k-1):=rfl;rw[e1,e2,BitVec.testBit_toNat,BitVec.getLsbD_and,BitVec.getLsbD_not,BitVec.getLsbD_ofNat,BitVec.getLsbD_ofNat,Nat.testBit_two_pow_sub_one];rw[<-Nat.shiftRight_eq_div_pow,<-Nat.shiftLeft_eq,Nat.testBit_shiftLeft,Nat.testBit_shiftRight]
  by_cases hi:i<64
  .by_cases hik:k<=i
   .rw [show k+(i-k)=i by omega];simp[hi,hik,show ¬i<k by omega]
   simp[hi,hik,show i<k by omega]
  have:x.testBit i=false:=Nat.testBit_lt_two_pow (Nat.lt_of_lt_of_le hx (Nat.pow_le_pow_right (by decide) (by omega)))
  by_cases hik:k<=i
  .rw [show k+(i-k)=i by omega];simp[hi,this]
  simp[hi,hik]
 rw[key];exact wrap_u64 _ ⟨by omega,by omega⟩
theorem yW{v n:Int}(hv:U64 v)(h0:0<=n)(h1:n<=64):i5 .andNot .u64 v (o7 .shr .u64 18446744073709551615 n)=(G7 v.toNat n.toNat:Int):=by
 rw[tC h0 h1,sZ hv _ (by omega)];rfl
structure Lab where
 len:Int
 bits:Int
deriving DecidableEq
def isL(l:Lab):Bool:=decide (0<=l.len)&&decide (l.len<=64)&&decide ((G7 l.bits.toNat l.len.toNat:Int)=l.bits)
def D6:Lab:=⟨-1,0⟩
theorem AS{v:Int}(hv:U64 v)(n:Nat)(hn:n<=64):o7 .shr .u64 v (n:Int)=((v.toNat / 2^n:Nat):Int):=by
 obtain⟨x,rfl⟩:=Int.eq_ofNat_of_zero_le hv.1;simp only[o7,Int.toNat_natCast,IntKind.bits,Nat.min_eq_left hn];have hq:(2:Int)^n=((2^n:Nat):Int):=by simp
 rw[hq,Int.fdiv_eq_ediv_of_nonneg _ (Int.natCast_nonneg _),<-Int.natCast_ediv]
theorem Q2(x:Nat):IntKind.u64.wrap (x:Int)=((x % 2^64:Nat):Int):=by
 simp[IntKind.wrap,IntKind.signed,IntKind.bits]
def GV:List UInt8->Nat:=List.foldl (fun a c=>a*256+c.toNat) 0
abbrev Dec(α : Type):=Except Int (α×List UInt8)
def wM:List UInt8->Dec Nat
 | []=>.error 4
 |n::r=>if 8<n.toNat then .error 3 else if r.length<n.toNat then .error 4 else if(r.take n.toNat).head? = some 0 then .error 3 else .ok (GV (r.take n.toNat),r.drop n.toNat)
def JE(s:List UInt8):Dec (List UInt8):=match wM s with
 | .error e=>.error e
 | .ok (n,r)=>if 4096<n then .error 3 else if r.length<n then .error 4 else .ok (r.take n,r.drop n)
def Ed(n:UInt8)(d:List UInt8):Lab:=⟨n.toNat,(GV d*256^(8-d.length):Nat)⟩
def JG:List UInt8->Dec Lab
 | []=>.error 4
 |n::r=>if 64<n.toNat then .error 3 else if r.length<(n.toNat+7) / 8 then .error 4 else if isL (Ed n (r.take ((n.toNat+7) / 8)))then .ok (Ed n (r.take ((n.toNat+7) / 8)),r.drop ((n.toNat+7) / 8))else .error 3
theorem BY(l:Lab):isL l=true↔(0<=l.len/\l.len<=64)/\(G7 l.bits.toNat l.len.toNat:Int)=l.bits:=by
 simp[isL,Bool.and_eq_true]
structure Itm where
 key:Int
 val:ByteArray
deriving DecidableEq
structure Rec where
 kind:Int
 items:List Itm
 next:Lab
 mark:Int
deriving DecidableEq
def C0:Itm:=⟨0,⟨#[]⟩⟩
def j3:Rec:=⟨0,[],⟨0,0⟩,0⟩
def eo(f:Nat->Itm)(i:Nat):Bool:=decide ((f i).val.size<=64)&&(i==0||decide ((f (i-1)).key<(f i).key))
def okF(f:Nat->Itm)(n:Nat):Bool:=(List.range n).all (eo f)
theorem yi(f:Nat->Itm)(n:Nat):okF f (n+1)=(okF f n&&eo f n):=by
 simp[okF,List.range_succ]
theorem vN{f:Nat->Itm}{i n:Nat}(hi:i<n)(h:eo f i=false):okF f n=false:=by
 unfold okF;rw[Bool.eq_false_iff];intro h2;have:=List.all_eq_true.1 h2 i (List.mem_range.2 hi);rw[h]at this;cases this
theorem yj{f:Nat->Itm}{i n:Nat}(hi:i<n)(h:okF f n=true):eo f i=true:=List.all_eq_true.1 h i (List.mem_range.2 hi)
def lN(n:Nat)(f:Nat->Itm):Bool:=decide (n<=16)&&okF f n
def P1(k:Int):Bool:=decide (k=2)||decide (k=4)
def N7(kd:Int)(n:Nat)(f:Nat->Itm)(nx:Lab)(mk:Int):Bool:=
 (decide (nx=D6)||isL nx)&&(if P1 kd then decide (n=0)&&decide (nx=D6)&&decide (mk=0)else if kd=1 \/ kd=3 then decide (mk=0)&&lN n f else if kd=5 then lN n f else false)
def itF(l:List Itm):Nat->Itm:=fun i=>l.getD i C0
def isR(r:Rec):Bool:=N7 r.kind r.items.length (itF r.items) r.next r.mark
theorem vO(f:Nat->Itm)(i:Nat)(hi:i<=maxLen):(if decide ((64:Int)<((f i).val.size:Int))=true then true else if decide ((0:Int)<(i:Int))=true then decide ((f i).key<=(f (IntKind.i64.wrap ((i:Int)-1)).toNat).key)else false) = !eo f i:=by
 have hm:maxLen=9223372036854775807:=rfl;unfold eo
 by_cases h1:(f i).val.size<=64
 .have h1':¬(64:Int)<((f i).val.size:Int):=by omega
  by_cases h2:i=0
  .subst h2;simp[h1];omega
  rw[s5 (by omega) (by omega),show((i:Int)-1).toNat=i-1 by omega];have h2':(0:Int)<(i:Int):=by omega
  have h2n:0<i:=by omega
  have h2b:(i==0)=false:=by simp[h2]
  by_cases h3:(f (i-1)).key<(f i).key
  .have h3':¬(f i).key<=(f (i-1)).key:=by omega
   simp[h1,h1',h2b,h2',h2n,h3,h3']
  have h3':(f i).key<=(f (i-1)).key:=by omega
  simp[h1,h1',h2b,h2',h2n,h3,h3']
 have h1':(64:Int)<((f i).val.size:Int):=by omega
 simp[h1,h1']
theorem kH(kd:Int)(n:Nat)(f:Nat->Itm)(nx:Lab)(mk:Int):N7 kd n f nx mk =
  (!((decide (kd<1)||decide (5<kd))||decide (16<n)||(!decide (nx=D6) && !isL nx)) && !((!decide (mk=0) && !decide (kd=5))||(P1 kd&&(decide (0<n) || !decide (nx=D6))))&&okF f n):=by
 unfold N7
 by_cases hk:kd=1 \/ kd=2 \/ kd=3 \/ kd=4 \/ kd=5
 .rcases hk with rfl|rfl|rfl|rfl|rfl
  .unfold lN P1;cases hn:decide (n<=16)<;>cases hm:decide (mk=0)<;>cases hx:decide (nx=D6)<;>cases hl:isL nx<;>simp_all<;>omega
  .cases hz:decide (n=0)
   .have:n≠0:=by simpa using hz
    cases hm:decide (mk=0)<;>cases hx:decide (nx=D6)<;>cases hl:isL nx<;>simp_all [P1]<;>omega
   have:n=0:=by simpa using hz
   subst this
   cases hm:decide (mk=0)<;>cases hx:decide (nx=D6)<;>cases hl:isL nx<;>simp_all [P1,okF]
  .unfold lN P1;cases hn:decide (n<=16)<;>cases hm:decide (mk=0)<;>cases hx:decide (nx=D6)<;>cases hl:isL nx<;>simp_all<;>omega
  .cases hz:decide (n=0)
   .have:n≠0:=by simpa using hz
    cases hm:decide (mk=0)<;>cases hx:decide (nx=D6)<;>cases hl:isL nx<;>simp_all [P1]<;>omega
   have:n=0:=by simpa using hz
   subst this
   cases hm:decide (mk=0)<;>cases hx:decide (nx=D6)<;>cases hl:isL nx<;>simp_all [P1,okF]
  unfold lN P1;cases hn:decide (n<=16)<;>cases hm:decide (mk=0)<;>cases hx:decide (nx=D6)<;>cases hl:isL nx<;>simp_all<;>omega
 have h1:¬kd=1:=fun h=>hk (.inl h)
 have h2:¬kd=2:=fun h=>hk (.inr (.inl h))
 have h3:¬kd=3:=fun h=>hk (.inr (.inr (.inl h)))
 have h4:¬kd=4:=fun h=>hk (.inr (.inr (.inr (.inl h))))
 have h5:¬kd=5:=fun h=>hk (.inr (.inr (.inr (.inr h))))
 have h6:kd<1 \/ 5<kd:=by omega
 rcases h6 with h6|h6<;>simp[P1,h1,h2,h3,h4,h5,h6]
end Go.Proofs.YtmbkanpapkhnaaaGreat
namespace Go.Proofs.YtmbkanpapkhnaaaGreat.Sym
open Go.RowKit
inductive Sh where
 |int (k:IntKind)
 |bool
 |str
def Sh.fits:Sh->AV->Prop
 | .int k,.int k' _=>k=k'
 | .bool,.bool _=>True
 | .str,.str _=>True
 |_,_=>False
def R6:List Sh->List AV->Prop
 | [],[]=>True
 |h::l,v::r=>h.fits v/\R6 l r
 |_,_=>False
def da(P:Program)(g:TypeId->Option (List Sh)):List Field->Nat->Option (List Sh)
 | [],_=>some []
 | f :: fs, off => if f.name == "_" || f.offset != off then none else match g f.type with
  |some sh=>if cE P f.type==some sh.length&&(aO P f.type).isSome&&(aO P f.type != some false||sh.length==1)then(da P g fs (off+sh.length)).map (sh ++ ·)else none
  |none=>none
def aI(P:Program):Nat->TypeId->Option (List Sh)
 |0,_=>none
 |d+1,t=>match P.underlying t with
  |some .bool=>some [.bool]
  |some (.int k)=>some [.int k]
  |some .string=>some [.str]
  |some (.struct fs)=>if P.stoodInHeld t then none else da P (aI P d) fs.toList 0
  |some (.array n e)=>match aI P d e with
   |some sh=>if P.cellsOf e==sh.length&&(P.info? e).isSome&&cE P e==some sh.length&&(aO P e).isSome&&(aO P e != some false||sh.length==1)then some (List.replicate n sh).flatten else none
   |none=>none
  |_=>none
def mkV(g:Bool)(l:List AV):Value:=if g then .agg (l.map AV.den).toArray else(l.map AV.den).headD Go.undef
theorem Z0:∀{sh:List Sh} {l:List AV},R6 sh l->l.length=sh.length
 | [],[],_=>rfl
 |_::_,_::_,h=>by simp[Z0 h.2]
 | [],_::_,h=>h.elim
 |_::_,[],h=>h.elim
theorem V1:∀{s1 s2:List Sh} {l:List AV},R6 (s1++s2) l->∃a b,l=a++b/\R6 s1 a/\R6 s2 b
 | [],s2,l,h=>⟨[],l,rfl,trivial,h⟩
 |_::_,_,[],h=>h.elim
 |s::s1,s2,v::l,h=>by
  obtain⟨a,b,rfl,h1,h2⟩:=V1 h.2;exact⟨v::a,b,rfl,⟨h.1,h1⟩,h2⟩
theorem fk:∀{a b a' b':List AV},a.length=a'.length->eqL (a++b) (a'++b')=(eqL a a'&&eqL b b')
 | [],b,[],b',_=>by cases b<;>cases b'<;>simp[eqL]
 | [],_,_::_,_,h=>by cases h
 |_::_,_,[],_,h=>by cases h
 |v::a,b,v'::a',b',h=>by
  have:=fk (a:=a) (b:=b) (a':=a') (b':=b') (by simpa using h);simp only[List.cons_append,eqL,this,Bool.and_assoc]
section
variable {P:Program} {w:World}
theorem fB{e:TypeId}{g:Bool}{sh:List Sh}{px x sx:List AV}(hg:aO P e=some g)(hs:cE P e=some sh.length)(h1:g=false->sh.length=1)(hx:R6 sh x) :
  (part e ((px++x++sx).map AV.den).toArray px.length).run P w = .ok (mkV g x) w:=by
 have hl:=Z0 hx;unfold part;simp only[Sem.run_bind,ju hg w,Result.andThen_ok]
 cases g with
 |true=>
  simp only[if_true,Sem.run_bind,cY hs w,Result.andThen_ok,Sem.run_pure,mkV]
  congr 2
  apply Array.ext';rw[Array.toList_extract];simp only[List.extract,Nat.add_sub_cancel_left,List.map_append,<-hl];rw[List.append_assoc,List.drop_append_of_le_length (by simp),List.drop_eq_nil_of_le (by simp),List.nil_append,List.take_append_of_le_length (by simp),List.take_of_length_le (by simp)]
 |false=>
  obtain⟨v,rfl⟩:∃v,x=[v]:=by
   rw[h1 rfl]at hl;exact List.length_eq_one_iff.1 hl
  have:((px ++ [v]++sx).map AV.den).toArray[px.length]? = some v.den:=by simp
  rw[this];simp[mkV]
theorem mR{d D:Nat}(IH:∀t sh,aI P d t=some sh->∀x y g,aO P t=some g->R6 sh x->R6 sh y->(Op.equalIn (D+d) t (mkV g x) (mkV g y)).run P w = .ok (eqL x y) w) :
  ∀(fs:List Field) (off:Nat) (sh:List Sh),da P (aI P d) fs off=some sh->∀(px py x y:List AV),px.length=off->py.length=off->R6 sh x->R6 sh y →
   (Op.eqFields (D+d) ((px++x).map AV.den).toArray ((py++y).map AV.den).toArray fs).run P w = .ok (eqL x y) w
 | [],off,sh,h,px,py,x,y,hp,hq,hx,hy=>by
  simp only[da,Option.some.injEq]at h;subst h
  cases x with
  |cons=>exact hx.elim
  |nil=>cases y with
   |cons=>exact hy.elim
   |nil=>simp[Op.eqFields,eqL]
 |f::fs,off,sh,h,px,py,x,y,hp,hq,hx,hy=>by
  simp only[da]at h
  split at h
  .cases h
  rename_i hn
  simp only[Bool.or_eq_true,beq_iff_eq,bne_iff_ne,not_or,ne_eq,Decidable.not_not]at hn;obtain⟨hn1,hn2⟩:=hn
  split at h
  .rename_i s1 hs1
   split at h
   .rename_i hc
    simp only[Bool.and_eq_true,beq_iff_eq,Bool.or_eq_true,bne_iff_ne,ne_eq]at hc;obtain⟨⟨hc1,hc2⟩,hc3⟩:=hc;obtain⟨s2,hs2,rfl⟩:=Option.map_eq_some_iff.1 h;obtain⟨a,b,rfl,ha,hb⟩:=V1 hx;obtain⟨a',b',rfl,ha',hb'⟩:=V1 hy;obtain⟨g,hg⟩:=Option.isSome_iff_exists.1 hc2;have h1:g=false->s1.length=1:=by
     intro hgf
     rcases hc3 with h|h
     .rw [hg,hgf]at h;exact absurd rfl h
     exact h
    have p1:=fB (P:=P) (w:=w) (px:=px) (sx:=b) hg hc1 h1 ha;have p2:=fB (P:=P) (w:=w) (px:=py) (sx:=b') hg hc1 h1 ha';rw[hp]at p1;rw[hq]at p2;have la:=Z0 ha;have la':=Z0 ha';have e1:=IH _ _ hs1 a a' g hg ha ha';have e2:=mR IH fs (off+s1.length) s2 hs2 (px++a) (py++a') b b' (by simp[hp,la]) (by simp[hq,la']) hb hb';rw[fk (la.trans la'.symm)];simp only[<-List.append_assoc];unfold Op.eqFields;simp only[hn1,ne_eq,not_false_eq_true,if_true,Sem.run_bind,hn2,p1,p2,e1,Result.andThen_ok]
    cases hE:eqL a a' with
    |true=>simpa using e2
    |false=>simp
   cases h
  cases h
theorem qC{d D:Nat}{e:TypeId}{g:Bool}{sh:List Sh}(hg:aO P e=some g)(hs:cE P e=some sh.length)(h1:g=false->sh.length=1)
  (IH:∀x y,R6 sh x->R6 sh y->(Op.equalIn (D+d) e (mkV g x) (mkV g y)).run P w = .ok (eqL x y) w) :
  ∀(n i:Nat) (px py x y:List AV),px.length=i*sh.length->py.length=i*sh.length->R6 (List.replicate n sh).flatten x->R6 (List.replicate n sh).flatten y →
   (Op.eqItems (D+d) e sh.length ((px++x).map AV.den).toArray ((py++y).map AV.den).toArray (List.range' i n)).run P w = .ok (eqL x y) w
 |0,i,px,py,x,y,hp,hq,hx,hy=>by
  cases x with
  |cons=>exact hx.elim
  |nil=>cases y with
   |cons=>exact hy.elim
   |nil=>simp[Op.eqItems,eqL]
 |n+1,i,px,py,x,y,hp,hq,hx,hy=>by
  rw[List.replicate_succ,List.flatten_cons]at hx hy;obtain⟨a,b,rfl,ha,hb⟩:=V1 hx;obtain⟨a',b',rfl,ha',hb'⟩:=V1 hy;have p1:=fB (P:=P) (w:=w) (px:=px) (sx:=b) hg hs h1 ha;have p2:=fB (P:=P) (w:=w) (px:=py) (sx:=b') hg hs h1 ha';rw[hp]at p1;rw[hq]at p2;have la:=Z0 ha;have la':=Z0 ha';have e1:=IH a a' ha ha';have e2:=qC hg hs h1 IH n (i+1) (px++a) (py++a') b b' (by rw[List.length_append,hp,la,Nat.add_mul,Nat.one_mul]) (by rw[List.length_append,hq,la',Nat.add_mul,Nat.one_mul]) hb hb';rw[fk (la.trans la'.symm)];simp only[<-List.append_assoc];rw[List.range'_succ];unfold Op.eqItems;simp only[Sem.run_bind,p1,p2,e1,Result.andThen_ok]
  cases hE:eqL a a' with
  |true=>simpa using e2
  |false=>simp
theorem kV(w:World):∀(d:Nat) (t:TypeId) (sh:List Sh),aI P d t=some sh->∀(D:Nat) (x y:List AV) (g:Bool),aO P t=some g->R6 sh x->R6 sh y->(Op.equalIn (D+d) t (mkV g x) (mkV g y)).run P w = .ok (eqL x y) w
 |0,t,sh,h,_,_,_,_,_,_,_=>by cases h
 |d+1,t,sh,h,D,x,y,g,hg,hx,hy=>by
  have one:∀{s:Sh} {z:List AV},R6 [s] z->∃v,z=[v]/\s.fits v:=by
   intro s z hz
   match z,hz with
   | [v],hz=>exact⟨v,rfl,hz.1⟩
  simp only[aI]at h
  split at h
  .rename_i hu
   injection h with h;subst h
   obtain⟨v,rfl,hv⟩:=one hx;obtain⟨u,rfl,hu'⟩:=one hy;have:g=false:=by simpa[aO,hu]using hg
   subst this
   cases v<;>simp only[Sh.fits]at hv
   cases u<;>simp only[Sh.fits]at hu'
   simp only[mkV,List.map_cons,List.headD_cons,Bool.false_eq_true,if_false,AV.den,<-Nat.add_assoc];rw[run_equalIn_bool w _ _ _ _ hu];simp[eqL,eqC]
  .rename_i k hu
   injection h with h;subst h
   obtain⟨v,rfl,hv⟩:=one hx;obtain⟨u,rfl,hu'⟩:=one hy;have:g=false:=by simpa[aO,hu]using hg
   subst this
   cases v<;>simp only[Sh.fits]at hv
   cases u<;>simp only[Sh.fits]at hu'
   subst hv;subst hu';simp only[mkV,List.map_cons,List.headD_cons,Bool.false_eq_true,if_false,AV.den,<-Nat.add_assoc];rw[run_equalIn_int w _ _ _ _ _ _ hu];simp[eqL,eqC]
  .rename_i hu
   injection h with h;subst h
   obtain⟨v,rfl,hv⟩:=one hx;obtain⟨u,rfl,hu'⟩:=one hy;have:g=false:=by simpa[aO,hu]using hg
   subst this
   cases v<;>simp only[Sh.fits]at hv
   cases u<;>simp only[Sh.fits]at hu'
   rename_i s1 s2
   simp only[mkV,List.map_cons,List.headD_cons,Bool.false_eq_true,if_false,AV.den,<-Nat.add_assoc];rw[run_equalIn_string w _ _ _ _ hu];have e:(s1.toList==s2.toList)=(s1==s2):=by
    rw[Bool.eq_iff_iff,beq_iff_eq,me,me]
    constructor
    .intro h;rw[EC h];exact(IJ _ _).2 rfl
    intro h;rw[(IJ _ _).1 h]
   simp[eqL,eqC,e]
  .rename_i fs hu
   split at h
   .cases h
   rename_i hst
   have:g=true:=by simpa[aO,hu]using hg
   subst this;have hfs:P.fieldsOf t=fs:=by simp[Program.fieldsOf,hu]
   have:=mR (w:=w) (D:=D) (fun t sh h x y g hg hx hy=>kV w d t sh h D x y g hg hx hy) fs.toList 0 sh h [] [] x y rfl rfl hx hy;simp only[mkV,if_true,<-Nat.add_assoc];rw[run_equalIn_struct w _ t _ _ (by rw[hfs];exact hu) (by simpa using hst),hfs];exact this
  .rename_i n e hu
   split at h
   .rename_i s1 hs1
    split at h
    .rename_i hc
     simp only[Bool.and_eq_true,beq_iff_eq,Bool.or_eq_true,bne_iff_ne,ne_eq]at hc;obtain⟨⟨⟨⟨c1,c2⟩,c3⟩,c4⟩,c5⟩:=hc;injection h with h;subst h
     have:g=true:=by simpa[aO,hu]using hg
     subst this;obtain⟨i,hi⟩:=Option.isSome_iff_exists.1 c2;obtain⟨g',hg'⟩:=Option.isSome_iff_exists.1 c4;have h1:g'=false->s1.length=1:=by
      intro hgf
      rcases c5 with h|h
      .rw [hg',hgf]at h;exact absurd rfl h
      exact h
     have:=qC (w:=w) (D:=D) (d:=d) hg' c3 h1 (fun x y hx hy=>kV w d e s1 hs1 D x y g' hg' hx hy) n 0 [] [] x y (by simp) (by simp) hx hy;simp only[mkV,if_true,<-Nat.add_assoc];rw[run_equalIn_array w _ _ _ hu hi,c1,List.range_eq_range'];exact this
    cases h
   cases h
  cases h
theorem rS{K:Kn}{t:Nat}{d:Nat}{sh:List Sh}(hsh:aI P d t=some sh)(hd:d<=10000)(hg:P.eqGuardType P.depth t=false)(ha:aO P t=some true){x y:List AV}(hx:R6 sh x)(hy:R6 sh y):Ob.holds P K (.eql t x y):=by
 intro w o1 o2;have h:=kV w d t sh hsh (10000-d) x y true ha hx hy;rw[show 10000-d+d=10000 by omega]at h;have hgd:∀op,(eqGuard op t o1 o2 (.agg (x.map AV.den).toArray) (.agg (y.map AV.den).toArray)).run P w = .ok () w:=by
  intro op;unfold eqGuard
  cases op<;>simp[hg]<;>rfl
 simp only[mkV,if_true]at h
 constructor
 .simp only[Sem.run_bind,hgd,Result.andThen_ok]
  rw[run_eql_struct,h];rfl
 simp only[Sem.run_bind,hgd,Result.andThen_ok];rw[run_neq_struct,h];rfl
end
end Go.Proofs.YtmbkanpapkhnaaaGreat.Sym
namespace Go.Proofs.YtmbkanpapkhnaaaGreat.Sym
open Go Go.RowKit
def i9(l:Lab):AV:=.agg [.int .i64 l.len,.int .u64 l.bits]
theorem jp(l k:Lab):eqL [.int .i64 l.len,.int .u64 l.bits] [.int .i64 k.len,.int .u64 k.bits]=decide (l=k):=by
 obtain⟨a,b⟩:=l;obtain⟨c,d⟩:=k;rw[Bool.eq_iff_iff];simp[eqL,eqC]
theorem vY:Tryz.prog.eqGuardType Tryz.prog.depth 24=false:=by kernel_rfl
theorem vX:aI Tryz.prog 2 24=some [.int .i64,.int .u64]:=by kernel_rfl
theorem BV:aO Tryz.prog 24=some true:=by kernel_rfl
theorem C3{Kk:Kn}(a b c d:Int):Ob.holds Tryz.prog Kk (.eql 24 [.int .i64 a,.int .u64 b] [.int .i64 c,.int .u64 d]):=rS vX (by decide) vY BV ⟨rfl,rfl,trivial⟩ ⟨rfl,rfl,trivial⟩
theorem qD:o3 Tryz.prog 82:=fun _ _=>by kernel_rfl
theorem sv(v n:Int)(hv:U64 v)(h0:0<=n)(h1:n<=64):l7 Tryz.prog 82 [.int .u64 v,.int .i64 n] (fun _=>.int .u64 (G7 v.toNat n.toNat)):=by
 intro m w hm hargs;refine en 11 hm hargs Tryz.func82 fun B O a0 Z=>?_
 refine a6 [0,1] [] Z fun X0 Z=>?_
 refine a6 [0,5] [] Z fun X1 Z=>?_
 refine a6 [4] [] Z fun X2 Z=>?_
 refine aS Z ?_;subst O;simp only[yW hv h0 h1,std];rfl
theorem V2:o3 Tryz.prog 48:=fun _ _=>by kernel_rfl
theorem eB(l:Lab)(hv:U64 l.bits):l7 Tryz.prog 48 [i9 l] (fun _=>.bool (.v (isL l))):=by
 intro m w hm hargs;simp only[i9]at hargs ⊢;have S:=fun h0 h1=>sv l.bits l.len hv h0 h1
 generalize hhd:((G7 l.bits.toNat l.len.toNat:Nat):Int)=hd at S
 refine en 21 hm hargs Tryz.func48 fun B O a0 Z=>?_
 refine a6 [1] [1] Z fun X0 Z=>?_
 refine a7 (drg O a8 [2] [] [(13,.r fun _=>.int .u64 hd)] Z (hob:=?hob) fun X1 _ _ Z=>?_)
 case hob=>
  intro X;subst O;refine⟨rfl,fun _=>rfl,fun _=>rfl,fun _=>rfl,fun h=>?_,fun _=>rfl,trivial⟩;have hl:=h _ (List.mem_singleton.2 rfl);have hl:(0:Int)<=l.len/\l.len<=64:=by simpa[std,b7,BE.den]using hl
  exact⟨qD,S hl.1 hl.2⟩
 refine aS Z ?_;subst O;refine congrArg (fun b=>AV.bool (.v b)) ?_;simp only[std,b7,isL,BE.den,hhd]
 by_cases h1:0<=l.len<;>by_cases h2:l.len<=64<;>simp[h1,h2]
 rfl
theorem eh:o3 Tryz.prog 102:=fun _ _=>by kernel_rfl
theorem ka:l7 Tryz.prog 102 [] (fun _=>i9 D6):=by
 intro m w hm hargs;refine en 2 hm hargs Tryz.func102 fun B O a0 Z=>?_
 refine a6 [0] [0] Z fun X0 Z=>?_
 refine a6 [0] [0] Z fun X1 Z=>?_
 exact j2 ((rsp O a8 Z G6).1)
theorem yd{a b k:Nat}(h:a % 2^k=0)(hb:b<2^k)(hab:a+b<2^64):i5 .or .u64 (a:Int) (b:Int)=((a+b:Nat):Int):=by
 show IntKind.u64.wrap ((BitVec.ofNat 64 a ||| BitVec.ofNat 64 b).toNat:Int)=_
 have e:(BitVec.ofNat 64 a ||| BitVec.ofNat 64 b).toNat=a+b:=by
  rw[BitVec.toNat_or,BitVec.toNat_ofNat,BitVec.toNat_ofNat,Nat.mod_eq_of_lt (by omega),Nat.mod_eq_of_lt (by omega)];obtain⟨q,rfl⟩:=Nat.dvd_of_mod_eq_zero h;rw[Nat.mul_comm,<-Nat.shiftLeft_eq,<-Nat.shiftLeft_add_eq_or_of_lt hb]
 rw[e,Q2,Nat.mod_eq_of_lt hab]
def itC(x:Itm):List AV:=[.int .u64 x.key,.str x.val]
def r6(A:Option Addr)(n c:Nat)(f:Nat->Itm):AV:=.sl none A n c 2 (fun i=>itC (f i))
def bR(A:Option Addr)(n c:Nat)(f:Nat->Itm)(kd:Int)(nx:Lab)(mk:Int):AV:=.agg [.int .i64 kd,r6 A n c f,.int .i64 nx.len,.int .u64 nx.bits,.int .u64 mk]
theorem sn(a b:Bool):(if a=true then true else b)=(a||b):=by cases a<;>rfl
theorem M7(a b:Bool):(if a=true then b else false)=(a&&b):=by cases a<;>rfl
def EI(f:Nat->Itm):Nat->Int
 |0=>0
 |i+1=>IntKind.i64.wrap (EI f i+((f i).val.size:Int))
def iV(n:Nat)(f:Nat->Itm):Bool:=decide (40<n)||decide (8000<EI f n)
def pT(A:Option Addr)(c:Nat)(r:Rec):AV:=bR A r.items.length c (itF r.items) r.kind r.next r.mark
theorem gZ:o3 Tryz.prog 103:=fun _ _=>by kernel_rfl
theorem HL(A:Option Addr)(n c:Nat)(f:Nat->Itm)(hn:n<=maxLen):l7 Tryz.prog 103 [r6 A n c f] (fun _=>.bool (.v (lN n f))):=by
 intro m w hm hargs;have hmx:maxLen=9223372036854775807:=rfl;refine en 35 hm hargs Tryz.func103 fun B O a0 Z=>?_
 refine a6 [0] [] Z fun X0 Z=>?_
 refine a7 (a6 [7,0,5,6] [] Z fun X1 Z=>?_);refine j0 (r9 (ι:=Nat) (fun p=>[(7,.int .i64 (p:Int))]) (fun p=>[]) (fun p=>[]) (fun p=>p<=n/\okF f p=true) (fun p=>n-p) 0 ⟨Nat.zero_le _,rfl⟩ Z ?_)
 rintro i ⟨hi,hok⟩ _ _ Z
 try dsimp only at hi
 try dsimp only at hok
 refine a6 [8,0,5,6,7] [] Z fun X2 Z=>?_
 refine a7 (d7 Z rfl (fun hb Z=>?_) (fun hb Z=>?_))
 .have hin:i<n:=by
   have:(i:Int)<(n:Int):=by subst O;simpa[std,b7]using hb
   omega
  have ht:=vO f i (by omega);refine f9 (a7 (j0 (a6 [0,3,4,5,6,7] [4] Z (hob:=?hob) fun X3 Z=>?_)))
  case hob=>
   intro X;subst O;exact⟨⟨show(0:Int)<=(i:Int)by omega,show(i:Int)<(n:Int)by omega⟩,rfl,trivial⟩
  refine a7 (drg O a8 [30,0,5,6,7] [] [] Z (hob:=?hob) fun X4 _ _ Z=>?_)
  case hob=>
   intro X;subst O;have hix:(0:Int)<(i:Int)->0<=IntKind.i64.wrap ((i:Int)-1)/\IntKind.i64.wrap ((i:Int)-1)<(n:Int):=fun h=>by rw[s5 (by omega) (by omega)];omega
   simp only[f8,Ob.holds,BE.den,List.mem_cons,List.not_mem_nil,or_false,forall_eq_or_imp,forall_eq]
   and_intros<;>first|trivial|(intro h;first|trivial|exact hix (of_decide_eq_true h)|exact hix (of_decide_eq_true h.1))
  apply d7 Z rfl<;>intro hb Z
  .have hat:eo f i=false:=by
    have h9:(!eo f i)=true:=by subst O;exact ht.symm.trans hb
    simpa using h9
   refine a6 [2] [] Z fun X5 Z=>?_
   refine aS Z ?_;subst O;refine congrArg (fun b=>AV.bool (.v b)) ?_;unfold lN;rw[vN hin hat];simp
  have hat:eo f i=true:=by
   have h9:(!eo f i)=false:=by subst O;exact ht.symm.trans hb
   simpa using h9
  refine f9 (j5 [7,0,5,6] [] Z fun X6 Z=>?_);have e:B.arith .add .i64 (i:Int) 1=((i+1:Nat):Int):=by subst O;exact j7 (n:=n) hin hn
  refine⟨i+1,⟨by omega,by rw[yi,hok,hat];rfl⟩,by omega,by rw[<-e];exact Z⟩
 have hout:i=n:=by
  have:¬(i:Int)<(n:Int):=by subst O;simpa[std,b7]using hb
  omega
 refine o4 (a6 [2] [] Z fun X7 Z=>?_);refine aS Z ?_;subst O;refine congrArg (fun b=>AV.bool (.v b)) ?_;unfold lN;rw[hout]at hok;rw[hok];simp[std,b7];omega
theorem aq:o3 Tryz.prog 49:=fun _ _=>by kernel_rfl
theorem kF(A:Option Addr)(n c:Nat)(f:Nat->Itm)(hn:n<=maxLen)(kd:Int)(nx:Lab)(mk:Int)(hv:U64 nx.bits):l7 Tryz.prog 49 [bR A n c f kd nx mk] (fun _=>.bool (.v (N7 kd n f nx mk))):=by
 intro m w hm hargs;have S1:=ka;have S2:=eB nx hv;have S3:=HL A n c f hn;simp only[i9]at S1 S2
 generalize hq:isL nx=q at S2
 generalize hr:lN n f=r at S3
 have hnx:=jp nx D6
 generalize hd:decide (nx=D6)=d at hnx
 refine en 44 hm hargs Tryz.func49 fun B O a0 Z=>?_
 refine a6 [1] [1] Z fun X0 Z=>?_
 refine a7 (a7 (drg O a8 [12,1] [1] [(2,.r fun _=>.agg [.int .i64 (-1),.int .u64 0]),(7,.r fun _=>.bool (.v q))] Z (hob:=?hob) fun X1 _ _ Z=>?_))
 case hob=>
  intro X;subst O;exact⟨rfl,⟨eh,S1⟩,C3 (Kk:=noK) _ _ _ _,fun _=>rfl,fun _=>⟨V2,S2⟩,trivial⟩
 apply d7 Z rfl<;>intro hb Z
 .have hx:d=false/\q=false:=by
   have h9:(if(!eqL [.int .i64 nx.len,.int .u64 nx.bits] [.int .i64 (-1),.int .u64 0])=true then !q else false)=true:=by subst O;exact hb
   rw[show eqL [.int .i64 nx.len,.int .u64 nx.bits] [.int .i64 (-1),.int .u64 0]=d from hnx]at h9
   cases d<;>cases q<;>simp at h9 ⊢
  refine a6 [2] [] Z fun X2 Z=>?_
  refine aS Z ?_;subst O;refine congrArg (fun b=>AV.bool (.v b)) ?_;unfold N7;rw[hd,hq,hr]
  first|(subst hk)|skip
  have hnx2:eqL [.int .i64 nx.len,.int .u64 nx.bits] [.int .i64 (-1),.int .u64 0]=d:=hnx
  simp_all [P1,std,b7,BE.den]
  try(cases d<;>cases q<;>simp_all<;>(by_cases h0:mk=0<;>simp[h0]))
 have hx:d=true \/ q=true:=by
  have h9:(if(!eqL [.int .i64 nx.len,.int .u64 nx.bits] [.int .i64 (-1),.int .u64 0])=true then !q else false)=false:=by subst O;exact hb
  rw[show eqL [.int .i64 nx.len,.int .u64 nx.bits] [.int .i64 (-1),.int .u64 0]=d from hnx]at h9
  cases d<;>cases q<;>simp at h9 ⊢
 refine f9 (a7 (a6 [1,14] [1] Z fun X3 Z=>?_));refine j0 (a7 (j0 (a7 (j0 (a7 (j0 (a7 (a7 (a7 (a6 [15,1,14] [1] Z fun X4 Z=>?_))))))))));refine mg Z (fun hb Z=>?_) (fun hb Z=>?_)
 .have hk:kd=2:=by subst O;simpa[std,b7]using hb
  refine f9 (D5 Z rfl (fun Z=>?_));refine o4 (a7 (a7 (drg O a8 [2] [] [(7,.r fun _=>.agg [.int .i64 (-1),.int .u64 0])] Z (hob:=?hob) fun X9 _ _ Z=>?_)))
  case hob=>
   intro X;subst O;exact⟨rfl,fun _=>rfl,fun _=>⟨eh,S1⟩,fun _=>C3 (Kk:=noK) _ _ _ _,fun _=>rfl,trivial⟩
  refine aS Z ?_;subst O;refine congrArg (fun b=>AV.bool (.v b)) ?_;unfold N7;rw[hd,hq,hr]
  first|(subst hk)|skip
  have hnx2:eqL [.int .i64 nx.len,.int .u64 nx.bits] [.int .i64 (-1),.int .u64 0]=d:=hnx
  simp_all [P1,std,b7,BE.den]
  try(cases d<;>cases q<;>simp_all<;>(by_cases h0:mk=0<;>simp[h0]))
 have hk2:¬kd=2:=by subst O;simpa[std,b7]using hb
 refine j5 [15,1,14] [1] Z fun X5 Z=>?_
 apply d7 Z rfl<;>intro hb Z
 .have hk:kd=4:=by subst O;simpa[std,b7]using hb
  refine o4 (a7 (a7 (drg O a8 [2] [] [(7,.r fun _=>.agg [.int .i64 (-1),.int .u64 0])] Z (hob:=?hob) fun X9 _ _ Z=>?_)))
  case hob=>
   intro X;subst O;exact⟨rfl,fun _=>rfl,fun _=>⟨eh,S1⟩,fun _=>C3 (Kk:=noK) _ _ _ _,fun _=>rfl,trivial⟩
  refine aS Z ?_;subst O;refine congrArg (fun b=>AV.bool (.v b)) ?_;unfold N7;rw[hd,hq,hr]
  first|(subst hk)|skip
  have hnx2:eqL [.int .i64 nx.len,.int .u64 nx.bits] [.int .i64 (-1),.int .u64 0]=d:=hnx
  simp_all [P1,std,b7,BE.den]
  try(cases d<;>cases q<;>simp_all<;>(by_cases h0:mk=0<;>simp[h0]))
 have hk4:¬kd=4:=by subst O;simpa[std,b7]using hb
 refine f9 (a7 (a7 (a6 [18,1,14] [1] Z fun X6 Z=>?_)));refine mg Z (fun hb Z=>?_) (fun hb Z=>?_)
 .have hk:kd=1:=by subst O;simpa[std,b7]using hb
  refine f9 (D5 Z rfl (fun Z=>?_));refine o4 (a6 [40,1] [1] Z fun X10 Z=>?_);apply d7 Z rfl<;>intro hb Z
  .have hm:¬mk=0:=by subst O;simpa[std,b7]using hb
   refine a6 [2] [] Z fun X11 Z=>?_
   refine aS Z ?_;subst O;refine congrArg (fun b=>AV.bool (.v b)) ?_;unfold N7;rw[hd,hq,hr]
   first|(subst hk)|skip
   have hnx2:eqL [.int .i64 nx.len,.int .u64 nx.bits] [.int .i64 (-1),.int .u64 0]=d:=hnx
   simp_all [P1,std,b7,BE.den]
   try(cases d<;>cases q<;>simp_all<;>(by_cases h0:mk=0<;>simp[h0]))
  have hm:mk=0:=by subst O;simpa[std,b7]using hb
  refine f9 (a7 (j6 [2] [] [(2,.r fun _=>.bool (.v r))] Z (hob:=?hob) fun X12 Z=>?_))
  case hob=>
   intro X;subst O;exact⟨rfl,⟨gZ,S3⟩,trivial⟩
  refine aS Z ?_;subst O;refine congrArg (fun b=>AV.bool (.v b)) ?_;unfold N7;rw[hd,hq,hr]
  first|(subst hk)|skip
  have hnx2:eqL [.int .i64 nx.len,.int .u64 nx.bits] [.int .i64 (-1),.int .u64 0]=d:=hnx
  simp_all [P1,std,b7,BE.den]
  try(cases d<;>cases q<;>simp_all<;>(by_cases h0:mk=0<;>simp[h0]))
 have hk1:¬kd=1:=by subst O;simpa[std,b7]using hb
 refine j5 [18,1,14] [1] Z fun X7 Z=>?_
 apply d7 Z rfl<;>intro hb Z
 .have hk:kd=3:=by subst O;simpa[std,b7]using hb
  refine o4 (a6 [40,1] [1] Z fun X10 Z=>?_);apply d7 Z rfl<;>intro hb Z
  .have hm:¬mk=0:=by subst O;simpa[std,b7]using hb
   refine a6 [2] [] Z fun X11 Z=>?_
   refine aS Z ?_;subst O;refine congrArg (fun b=>AV.bool (.v b)) ?_;unfold N7;rw[hd,hq,hr]
   first|(subst hk)|skip
   have hnx2:eqL [.int .i64 nx.len,.int .u64 nx.bits] [.int .i64 (-1),.int .u64 0]=d:=hnx
   simp_all [P1,std,b7,BE.den]
   try(cases d<;>cases q<;>simp_all<;>(by_cases h0:mk=0<;>simp[h0]))
  have hm:mk=0:=by subst O;simpa[std,b7]using hb
  refine f9 (a7 (j6 [2] [] [(2,.r fun _=>.bool (.v r))] Z (hob:=?hob) fun X12 Z=>?_))
  case hob=>
   intro X;subst O;exact⟨rfl,⟨gZ,S3⟩,trivial⟩
  refine aS Z ?_;subst O;refine congrArg (fun b=>AV.bool (.v b)) ?_;unfold N7;rw[hd,hq,hr]
  first|(subst hk)|skip
  have hnx2:eqL [.int .i64 nx.len,.int .u64 nx.bits] [.int .i64 (-1),.int .u64 0]=d:=hnx
  simp_all [P1,std,b7,BE.den]
  try(cases d<;>cases q<;>simp_all<;>(by_cases h0:mk=0<;>simp[h0]))
 have hk3:¬kd=3:=by subst O;simpa[std,b7]using hb
 refine f9 (a6 [21,1] [1] Z fun X8 Z=>?_);apply d7 Z rfl<;>intro hb Z
 .have hk:kd=5:=by subst O;simpa[std,b7]using hb
  refine o4 (a7 (j6 [2] [] [(2,.r fun _=>.bool (.v r))] Z (hob:=?hob) fun X12 Z=>?_))
  case hob=>
   intro X;subst O;exact⟨rfl,⟨gZ,S3⟩,trivial⟩
  refine aS Z ?_;subst O;refine congrArg (fun b=>AV.bool (.v b)) ?_;unfold N7;rw[hd,hq,hr]
  first|(subst hk)|skip
  have hnx2:eqL [.int .i64 nx.len,.int .u64 nx.bits] [.int .i64 (-1),.int .u64 0]=d:=hnx
  simp_all [P1,std,b7,BE.den]
  try(cases d<;>cases q<;>simp_all<;>(by_cases h0:mk=0<;>simp[h0]))
 have hk5:¬kd=5:=by subst O;simpa[std,b7]using hb
 refine f9 (o4 (a6 [2] [] Z fun X13 Z=>?_));refine aS Z ?_;subst O;refine congrArg (fun b=>AV.bool (.v b)) ?_;unfold N7;rw[hd,hq,hr]
 first|(subst hk)|skip
 have hnx2:eqL [.int .i64 nx.len,.int .u64 nx.bits] [.int .i64 (-1),.int .u64 0]=d:=hnx
 simp_all [P1,std,b7,BE.den]
 try(cases d<;>cases q<;>simp_all<;>(by_cases h0:mk=0<;>simp[h0]))
theorem II(A:Option Addr)(n c:Nat)(f:Nat->Itm)(hn:n<=maxLen)(kd:Int)(nx:Lab)(mk:Int):l7 Tryz.prog 34 [bR A n c f kd nx mk] (fun _=>.bool (.v (iV n f))):=by
 intro m w hm hargs;have hmx:maxLen=9223372036854775807:=rfl;refine en 35 hm hargs Tryz.func34 fun B O a0 Z=>?_
 refine a6 [1] [1] Z fun X0 Z=>?_
 refine a6 [1,3] [1] Z fun X1 Z=>?_
 refine a7 (a6 [3,4,1] [1] Z fun X2 Z=>?_);refine j0 (r9 (ι:=Nat×Int) (fun p=>[(3,.int .i64 p.2),(4,.int .i64 (p.1:Int))]) (fun p=>[]) (fun p=>[]) (fun p=>p.1<=n/\p.2=EI f p.1) (fun p=>n-p.1) (0,0) ⟨Nat.zero_le _,rfl⟩ Z ?_)
 rintro⟨i,x⟩ ⟨hi,hx⟩ _ _ Z
 try dsimp only at hi
 try dsimp only at hx
 refine a7 (a6 [15,1,3,4] [1] Z (hob:=?hob) fun X3 Z=>?_)
 case hob=>
  intro X;subst O;simp only[f8,Ob.holds,BE.den,List.mem_cons,List.not_mem_nil,or_false,forall_eq_or_imp,forall_eq]
  and_intros<;>first|trivial|(intro h;trivial)
 apply d7 Z rfl<;>intro hb Z
 .have h9:(if decide ((i:Int)<(n:Int))=true then decide ((n:Int)<=40)else false)=true:=by subst O;exact hb
  have hin:i<n:=by
   have:(i:Int)<(n:Int)/\(n:Int)<=40:=by simpa using h9
   omega
  refine f9 (a7 (j0 (j5 [1,3,4] [1] Z (hob:=?hob) fun X5 Z=>?_)))
  case hob=>
   intro X;subst O;exact⟨rfl,⟨show(0:Int)<=(i:Int)by omega,show(i:Int)<(n:Int)by omega⟩,trivial⟩
  refine j5 [3,4,1] [1] Z fun X4 Z=>?_
  have e:B.arith .add .i64 (i:Int) 1=((i+1:Nat):Int):=by subst O;exact j7 (n:=n) hin hn
  refine⟨(i+1,B.arith .add .i64 x (B.ofNat (B.slen (f (B.toNat (i:Int))).val))),⟨by simp only;omega,?_⟩,by simp only;omega,by rw[<-e];exact Z⟩;subst O;rw[hx];rfl
 have h9:(if decide ((i:Int)<(n:Int))=true then decide ((n:Int)<=40)else false)=false:=by subst O;exact hb
 have hout:n<=40->i=n:=by
  intro h40;have:(i:Int)<(n:Int)->(40:Int)<(n:Int):=by simpa using h9
  omega
 refine o4 (a6 [2] [] Z (hob:=?hob) fun X6 Z=>?_)
 case hob=>
  intro X;subst O;simp only[f8,Ob.holds,BE.den,List.mem_cons,List.not_mem_nil,or_false,forall_eq_or_imp,forall_eq]
  and_intros<;>first|trivial|(intro h;trivial)
 refine aS Z ?_;subst O;refine congrArg (fun b=>AV.bool (.v b)) ?_
 show(if decide ((40:Int)<(n:Int))=true then true else decide (8000<x))=_
 rw[sn];unfold iV
 by_cases h4:n<=40
 .rw [hout h4]at hx
  rw[hx,decide_eq_false (show ¬(40:Int)<(n:Int)by omega),decide_eq_false (show ¬40<n by omega)]
 rw[decide_eq_true (show(40:Int)<(n:Int)by omega),decide_eq_true (show 40<n by omega)];rfl
end Go.Proofs.YtmbkanpapkhnaaaGreat.Sym
namespace Go.Proofs.YtmbkanpapkhnaaaGreat.Sym
open Go Go.ChangeShapes Go.WideShapes Go.ChangeAt Go.RowKit Go.Deep
abbrev m0:Nat->Nat->Prop:=fun _ _=>False
theorem jB{n:Int}(h:(Lit.int .u64 n).wf=true):U64 n:=by
 simp[Lit.wf,IntKind.min,IntKind.max,IntKind.signed,IntKind.bits]at h;exact⟨by omega,by omega⟩
def itmE(x:Itm):List Value:=[.int .u64 x.key,.string x.val]
theorem K0(x:Itm):(itmE x).length=2:=rfl
theorem jb{m:Nat->Nat->Prop}{w:World}{A:Option Addr}{k:Nat}{l:List Itm}(hl:l.length<=k)(hk:k<=maxLen)(hs:∀x∈l,x.val.size<=maxLen)
  (h:0<(l.flatMap itmE).length->∃b off,A=some ⟨b,off,none⟩/\∀j u,(l.flatMap itmE)[j]? = some u->w.cell? ⟨b,off+j,none⟩=some u/\¬m b (off+j)):Ok m w (r6 A l.length k (itF l)):=by
 have hg:∀i (hi:i<l.length),itF l i=l[i]:=fun i hi=>by simp[itF,List.getD,hi]
 have hpos:∀i,i<l.length->0<(l.flatMap itmE).length:=fun i hi=>by rw[F8 K0];omega
 refine .sl _ _ _ _ _ _ hl hk (fun i _=>rfl) (fun i hi=>?_) (fun i hi j u hu=>?_) (fun i hi v hv=>?_) (fun i hi v hv=>?_)
 .obtain ⟨b,off,hA,_⟩:=h (hpos i hi);exact⟨b,off,hA⟩
 .obtain ⟨b,off,hA,hc⟩:=h (hpos i hi)
  have hu':(itmE (itF l i))[j]? = some u:=hu;rw[hg i hi]at hu';exact⟨b,off,hA,hc _ u (gd K0 (List.getElem?_eq_getElem hi) hu')⟩
 .simp only[itC,List.mem_cons,List.not_mem_nil,or_false]at hv
  rcases hv with rfl|rfl<;>rfl
 simp only[itC,List.mem_cons,List.not_mem_nil,or_false]at hv
 rcases hv with rfl|rfl
 .exact .int _ _
 exact .str _ (by rw[hg i hi];exact hs _ (List.getElem_mem hi))
section
variable {H:Type} {enc:TypeId×Value->H} {w:World} {base:Nat} {spare:Nat->Bool} {held:Bool}
theorem Cu(n:Nat)(cs:List Value)(y:DataW H×List MemPlace)(h:DataW.trod enc Tryz.prog w base spare held n 62 cs=some y):∃x:Itm,cs=itmE x/\(x.val.size<=maxLen/\U64 x.key):=by
 obtain⟨xs,m,rfl,rfl,hlen,hxl,hf⟩:=DataW.trod_struct Tryz.underlying62 h;have hC:Tryz.prog.cellsOf 62=2:=by kernel_rfl
 have h0:DataW.trod enc Tryz.prog w base spare held m 22 ((cs.drop 0).take (Tryz.prog.cellsOf 22))=xs[0]?:=hf 0 _ rfl;have h1:DataW.trod enc Tryz.prog w base spare held m 9 ((cs.drop 1).take (Tryz.prog.cellsOf 9))=xs[1]?:=hf 1 _ rfl;rw[hC]at hlen;rw[show Tryz.prog.cellsOf 22=1 by kernel_rfl]at h0;rw[show Tryz.prog.cellsOf 9=1 by kernel_rfl]at h1
 match cs,hlen with
 | [c0,c1],_=>
  match xs,hxl with
  | [y0,y1],_=>
   obtain⟨a,e0,_,wa⟩:=DataW.trod_int Tryz.underlying22 h0;obtain⟨s,e1,_,ws⟩:=DataW.trod_string Tryz.underlying9 h1;simp at e0 e1;subst e0;subst e1;exact⟨⟨a,s⟩,rfl,ws,jB wa⟩
variable {r:Reach} {b0:Nat} {v:Value} {d:DataW H} {p:List MemPlace}
end
end Go.Proofs.YtmbkanpapkhnaaaGreat.Sym
namespace Go.Proofs.YtmbkanpapkhnaaaGreat.Sym
open Go.RowKit
theorem f7.fresh{C:Cx}{s:St}{a:Act}{w w':World}(h:f7 C s a w)(hb:Below w.heap.size w w')(key:Nat){t:Gr}(hk:0<t.k){xs:List Value}(hO:Own w' w.heap.size t.e t.k t.v t.n xs) :
  f7 C (s.eff (.grow key t)) a w':=by
 have hcell:∀b o u,w.cell? ⟨b,o,none⟩=some u->w'.cell? ⟨b,o,none⟩=some u:=fun b o u hc=>by
  rw[hb.cell (World.block_lt_of_cell? w _ hc)];exact hc
 have hlt:∀b,s9 t.v=some b->w.heap.size<=b:=fun b hv=>(hO.lt b hv).1
 have hm:∀b o,b<w.heap.size-> ¬s.m C b o-> ¬(s.eff (.grow key t)).m C b o:=by
  intro b o hbl hn hm
  rcases hm with hm|hm|⟨k',t',ht',hv,hm⟩
  .exact hn (.inl hm)
  .exact hn (.inr (.inl hm))
  rcases j9 ht' with⟨_,rfl⟩|⟨_,ht'⟩
  .have:=hlt b hv;omega
  exact hn (.inr (.inr ⟨k',t',ht',hv,hm⟩))
 have kp:au w (s.m C) w' ((s.eff (.grow key t)).m C):=⟨fun b o u h1 h2=>⟨hcell b o u h1,hm b o (World.block_lt_of_cell? w _ h1) h2⟩,fun b o h1 _=>(hb.block b (Array.getElem?_eq_some_iff.1 h1).1).trans h1⟩;have mono:∀v,Ok (s.m C) w v->Ok ((s.eff (.grow key t)).m C) w' v:=fun v hv=>kp.ok hv
 have hsz:=h.chg.size;refine⟨h.size,h.defers,fun t ht=>⟨(h.slot t ht).1,mono _ (h.slot t ht).2⟩,fun t p v he hk=>⟨fun hp=>⟨((h.gs t p v he hk).1 hp).1,mono _ ((h.gs t p v he hk).1 hp).2⟩,(h.gs t p v he hk).2⟩,?_,h.nodup,?_,?_,?_,?_,h.m0,C.K.st kp h.kept⟩
 .intro k e he
  obtain⟨h1,h2,h3⟩:=h.mem k e he;exact⟨(hb.block _ (C6 h1)).trans h1,fun v hv=>⟨(h2 v hv).1,mono _ (h2 v hv).2⟩,h3⟩
 .intro k t' ht'
  rcases j9 ht' with⟨_,rfl⟩|⟨hne,ht'⟩
  .exact ⟨hk,_,hO.mono hsz⟩
  obtain⟨h1,xs',h2⟩:=h.gr k t' ht';exact⟨h1,xs',h2.keep fun b hv=>hb.block b (h2.lt b hv).2⟩
 .intro k t' k' e ht' he
  rcases j9 ht' with⟨_,rfl⟩|⟨_,ht'⟩
  .intro hv
   have:=hlt _ hv;have:=C6 (h.mem k' e he).1;omega
  exact h.sepm k t' k' e ht' he
 .intro k1 t1 k2 t2 b h1 h2 hne hv hv'
  rcases j9 h1 with⟨e1,r1⟩|⟨e1,g1⟩
  .rcases j9 h2 with⟨e2,_⟩|⟨e2,g2⟩
   .exact hne (e1.trans e2.symm)
   obtain⟨_,xs',ho'⟩:=h.gr k2 t2 g2;have:=(ho'.lt _ hv').2;have:=hlt _ (r1 ▸ hv);omega
  rcases j9 h2 with⟨e2,r2⟩|⟨e2,g2⟩
  .obtain ⟨_,xs',ho'⟩:=h.gr k1 t1 g1
   have:=(ho'.lt _ hv).2;have:=hlt _ (r2 ▸ hv');omega
  exact h.sepg k1 t1 k2 t2 b g1 g2 hne hv hv'
 exact h.chg.trans (Chg.of_new (S:=fun _=>False) hb) fun k hk e=>e.elim
theorem vK{m:Nat->Nat->Prop}{w:World}{B e k:Nat}{A:Option Addr}{c:Nat}{xs:List Value}(h:Own w B e k (.slice A 0 c) 0 xs)(g:Option Nat)(f:Nat->List AV):Ok m w (.sl g A 0 c k f):=by
 obtain⟨A',c',he,h1,h2⟩:=h.isSlice;injection he with _ _ e3;subst e3
 exact .sl _ _ _ _ _ _ (Nat.zero_le _) h2 (fun i hi=>absurd hi (Nat.not_lt_zero _)) (fun i hi=>absurd hi (Nat.not_lt_zero _)) (fun i hi=>absurd hi (Nat.not_lt_zero _)) (fun i hi=>absurd hi (Nat.not_lt_zero _)) (fun i hi=>absurd hi (Nat.not_lt_zero _))
section
variable {C:Cx} {P:Program} {Q:Exit->Act->World->Prop} {ops:Array Oper}
theorem rY{s:St}{a:Act}{w:World}{L rest:List Oper}{o:Oper}{c:Call}{f:FuncId}{argv:Array Value}{d:Nat}(hL:L=o::rest)(hg:o.guard=none)(hop:o.op = .call c)(hcal:c.callee = .value (.func f))(hdst:o.dst=some d)(h:f7 C s a w)(hav:c.args.map a.eval=argv)(hen:o3 P f)(hd:d<s.nt)
  {e k:Nat} (hk:0<k) (fc:Nat->List AV) (hc:Calls P f argv w fun en w'=>∃A' c',en = .returned (.slice A' 0 c')/\Own w' w.heap.size e k (.slice A' 0 c') 0 []/\Below w.heap.size w w')
  (K:∀A' c' a' w',f7 C ((s.eff (.grow d ⟨A',0,c',k,e⟩)).put (some d) (.sl (some d) A' 0 c' k fc)) a' w'->wpList P ops Q rest a' w'):wpList P ops Q L a w:=by
 refine T8 hL hg ?_;have hrun:(execOp a.eval o).run P w = .ok (.enter f argv) w:=by
  have hent:=hen argv w;have e1:=(A7 h (q:=[]) (fun _ h=>by cases h) (x:=.func f) rfl).1;have e2:a.eval (.func f) = .func (.func f) #[] #[]:=by simpa[val,AV.den,AV.denL]using e1
  simp[execOp,hop,resolve,hcal,e2,Deferred.ofValue,invoke,hav]
  simpa using hent
 unfold Oper.wp;rw[hrun];simp only[Oper.upon];refine hc.mono ?_
 rintro en w' ⟨A',c',rfl,hO,hb⟩
 have hf:=h.fresh hb d (t:=⟨A',0,c',k,e⟩) hk hO;rw[hdst];refine K A' c' _ w' (hf.put (some d) (fun t ht=>?_) (.sl (some d) A' 0 c' k fc) (fun _=>vK hO _ _) _ fun _=>rfl);injection ht with ht
 subst ht;rw[lc];exact hd
theorem zj{s:St}{a:Act}{w:World}(h:f7 C s a w){t:Nat}{k:IntKind}{n:Int}(hv:val s [] (.tmp t) = .int k n):a.eval (.tmp t) = .int k n:=by
 have e1:=(A7 h (q:=[]) (fun _ h=>by cases h) (x:=.tmp t) (by rw[hv];rfl)).1;rw[hv]at e1;exact e1
end
section
variable {C:Cx} {P:Program} {Q:Exit->Act->World->Prop} {ops:Array Oper} {s:St} {a:Act} {w:World} {L rest:List Oper} {o:Oper}
theorem dW{d:Nat}{v:AV}(hL:L=o::rest)(hg:o.guard=none)(hdst:o.dst=some d)(h:f7 C s a w)(hd:d<s.nt)(hrun:(execOp a.eval o).run P w = .ok (.value v.den) w)(hv:Ok (s.m C) w v)
  (K:∀a',f7 C (s.put (some d) v) a' w->wpList P ops Q rest a' w):wpList P ops Q L a w:=by
 refine T8 hL hg ?_;unfold Oper.wp;rw[hrun];simp only[Oper.upon];rw[hdst];exact K _ (h.put (some d) (fun t ht=>by injection ht with ht;subst ht;exact hd) v (fun _=>hv) _ fun _=>rfl)
end
section
variable {C:Cx} {s:St} {a:Act} {w:World}
theorem f7.reslot(h:f7 C s a w)(d:Nat)(v:AV)(hk:(look s.tmps d).known=true)(hd:(look s.tmps d).den=v.den)(hv:Ok (s.m C) w v):f7 C { s with tmps:=(d,v)::s.tmps } a w:=by
 refine⟨h.size,h.defers,fun t ht=>?_,h.gs,h.mem,h.nodup,h.gr,h.sepm,h.sepg,h.chg,h.m0,h.kept⟩;simp only[u5]at ht ⊢
 by_cases he:d=t
 .subst he
  rw[if_pos rfl]at ht ⊢;exact⟨by rw[(h.slot d hk).1,hd],hv⟩
 rw[if_neg he]at ht ⊢;exact h.slot t ht
end
end Go.Proofs.YtmbkanpapkhnaaaGreat.Sym
namespace Go.Proofs.YtmbkanpapkhnaaaGreat.Sym
open Go Go.RowKit
theorem U6{w:World}{b:Nat}{o:Obj}(hb:w.heap[b]? = some o):b<w.heap.size:=(Array.getElem?_eq_some_iff.1 hb).1
structure T2(bo:Option Nat)(w:World)(m:Nat->Nat->Prop)(w':World)(m':Nat->Nat->Prop):Prop where
 cell:∀b o u,w.cell? ⟨b,o,none⟩=some u-> ¬m b o->w'.cell? ⟨b,o,none⟩=some u/\¬m' b o
 obj:∀(b:Nat) (o:Obj),bo≠some b->w.heap[b]? = some o->(∀c t f,o≠Obj.cells c t f)->w'.heap[b]? = some o
theorem T2.ok{bo:Option Nat}{w w':World}{m m':Nat->Nat->Prop}(h:T2 bo w m w' m'){v:AV}(hv:Ok m w v):Ok m' w' v:=hv.mono h.cell
theorem bJ{w w':World}{m:Nat->Nat->Prop}{b:Nat}{o:Obj}(hb:w.heap[b]? = some o)(ho:∀c t f,o≠Obj.cells c t f)(hg:w.grownBy w' (some b)):T2 (some b) w m w' m:=by
 refine⟨fun b' o' u hc hn=>⟨?_,hn⟩,fun b' o' hn h1 _=>(hg.block b' (U6 h1) (fun e=>hn e.symm)).trans h1⟩;have hlt:=World.block_lt_of_cell? w _ hc;have:b'≠b:=by
  rintro rfl
  unfold World.cell? at hc;simp only[hb]at hc
  cases o with
  |cells c t f=>exact ho c t f rfl
  |_=>simp at hc
 unfold World.cell? at hc ⊢;rw[show w'.heap[b']? = w.heap[b']? from hg.block b' hlt fun e=>this (Option.some.inj e)];exact hc
section
variable {m0:Nat->Nat->Prop} {w0:World} {S:Nat->Prop} {ds:List Deferred} {K:Kn} {s:St} {a:Act} {w w':World}
theorem f7.withK(h:f7 ⟨m0,w0,S,ds,K⟩ s a w){K':Kn}(hK:K'.p (s.m ⟨m0,w0,S,ds,K⟩) w):f7 ⟨m0,w0,S,ds,K'⟩ s a w:=
 ⟨h.size,h.defers,h.slot,h.gs,h.mem,h.nodup,h.gr,h.sepm,h.sepg,h.chg,h.m0,hK⟩
theorem f7.wider(h:f7 ⟨m0,w0,S,ds,K⟩ s a w){S':Nat->Prop}(hS:∀k,S k->S' k):f7 ⟨m0,w0,S',ds,K⟩ s a w:=
 ⟨h.size,h.defers,h.slot,h.gs,fun k e he=>⟨(h.mem k e he).1,(h.mem k e he).2.1,(h.mem k e he).2.2.imp id (hS _)⟩,h.nodup,h.gr,h.sepm,h.sepg,h.chg.mono hS,h.m0,h.kept⟩
theorem f7.turn(h:f7 ⟨m0,w0,S,ds,K⟩ s a w){b:Nat}{o:Obj}(hb:w.heap[b]? = some o)(ho:∀c t f,o≠Obj.cells c t f)(hg:w.grownBy w' (some b))(hC:b<w0.heap.size->S b){K':Kn}(hK:K'.p (s.m ⟨m0,w0,S,ds,K⟩) w'):f7 ⟨m0,w0,S,ds,K'⟩ s a w':=by
 have hh:∀k,k<w.heap.size->k≠b->w'.heap[k]? = w.heap[k]?:=fun k hk hn=>hg.block k hk (fun e=>hn (Option.some.inj e))
 have hne:∀{k:Nat} {c:Array Value} {t:TypeId} {f:Nat×Nat},w.heap[k]? = some (.cells c t f)->k≠b:=by
  rintro k c t f hk rfl
  rw[hb]at hk;exact ho _ _ _ (Option.some.inj hk)
 have h':f7 ⟨m0,w0,S,ds,noK⟩ s a w:=h.withK trivial;have h'':f7 ⟨m0,w0,S,ds,K'⟩ s a w':=by
  have hcell:=(bJ (m:=s.m ⟨m0,w0,S,ds,K⟩) hb ho hg).cell;have mono:∀{v:AV},Ok (s.m ⟨m0,w0,S,ds,K⟩) w v->Ok (s.m ⟨m0,w0,S,ds,K⟩) w' v:=fun hv=>hv.mono hcell
  refine⟨h.size,h.defers,fun t hk=>⟨(h.slot t hk).1,mono (h.slot t hk).2⟩,fun t p v hg hk=>⟨fun hp=>⟨((h.gs t p v hg hk).1 hp).1,mono ((h.gs t p v hg hk).1 hp).2⟩,(h.gs t p v hg hk).2⟩,fun k e he=>?_,h.nodup,fun k t hk=>?_,h.sepm,h.sepg,?_,h.m0,hK⟩
  .obtain ⟨h1,h2,h3⟩:=h.mem k e he
   exact⟨(hh _ (U6 h1) (hne h1)).trans h1,fun v hv=>⟨(h2 v hv).1,mono (h2 v hv).2⟩,h3⟩
  .obtain ⟨h1,xs,h2⟩:=h.gr k t hk
   refine⟨h1,xs,h2.keep fun g hg=>?_⟩;obtain⟨c,t',f,hcl⟩:=h2.isCells hg;exact hh g (U6 hcl) (hne hcl)
  exact h.chg.trans (Chg.of_grown hg) fun k hk e=>by cases e;exact hC hk
 exact h''
end
theorem cu{w w':World}(h:Below w.heap.size w w')(m:Nat->Nat->Prop):au w m w' m:=
 ⟨fun b o u h1 h2=>⟨(h.cell (World.block_lt_of_cell? w _ h1)).trans h1,h2⟩,fun b o h1 _=>(h.block b (U6 h1)).trans h1⟩
def hR(v:Value):Option (DataW Value×List MemPlace):=some (.held v,[])
abbrev Q7(P:Program)(K:TypeId)(w:World)(b n:Nat)(D:DataW Value):Prop:=w.ownsMap P K hR b n D
theorem mw{P:Program}{K:TypeId}{w w':World}{b n:Nat}{D:DataW Value}(h:Q7 P K w b n D)(e:w'.heap[b]? = w.heap[b]?):Q7 P K w' b n D:=by
 obtain⟨es,cl,hb,F,hs,hD⟩:=h;exact⟨es,cl,e.trans hb,F,hs,hD⟩
theorem qh{P:Program}{K:TypeId}{w:World}{b n:Nat}{D:DataW Value}(h:Q7 P K w b n D):∃o,w.heap[b]? = some o/\∀c t f,o≠Obj.cells c t f:=by
 obtain⟨es,cl,hb,_⟩:=h;exact⟨_,hb,fun c t f e=>by cases e⟩
theorem ko{P:Program}{K:TypeId}{w w':World}{m m':Nat->Nat->Prop}{b n:Nat}{bo:Option Nat}{D:DataW Value}(hk:T2 bo w m w' m')(hne:bo≠some b)(h:Q7 P K w b n D):Q7 P K w' b n D:=by
 obtain⟨o,hb,ho⟩:=qh h;exact mw h ((hk.obj b o hne hb ho).trans hb.symm)
theorem mu{P:Program}{K:TypeId}{w w':World}{m m':Nat->Nat->Prop}{b n:Nat}{D:DataW Value}(hk:au w m w' m')(h:Q7 P K w b n D):Q7 P K w' b n D:=
 ko (bo:=none) ⟨hk.cell,fun b o _ h1 h2=>hk.obj b o h1 h2⟩ (by simp) h
theorem dm{P:Program}{k:TypeId}{w w':World}{m m':Nat->Nat->Prop}{b r n:Nat}{D:DataW Value}{left:Lit->Bool}{cnt:Nat}(hk:au w m w' m')(h:w.ranges P k hR b r n D left cnt):w'.ranges P k hR b r n D left cnt:=by
 obtain⟨es,clock,since,seen,c0,hb,F,hs,hD,hr,rest⟩:=h;exact⟨es,clock,since,seen,c0,hk.obj b _ hb (fun c t f e=>by cases e),F,hs,hD,hk.obj r _ hr (fun c t f e=>by cases e),rest⟩
structure cD(P:Program)(w:World)(r:Nat)(key v:Value):Prop where
 it:∃b s seen c es cl,w.heap[r]? = some (.mapIter (some b) s seen c)/\w.heap[b]? = some (.map es cl)
 run:(Instr.entry (.pointer (some ⟨r,0,none⟩))).run P w = .ok (.tuple #[key,v]) w
theorem kW{P:Program}{w w':World}{m m':Nat->Nat->Prop}{r:Nat}{key v:Value}(hk:au w m w' m')(h:cD P w r key v):cD P w' r key v:=by
 obtain⟨⟨b,s,seen,c,es,cl,hr,hb⟩,hrun⟩:=h;have hr':=hk.obj r _ hr (fun c t f e=>by cases e);have hb':=hk.obj b _ hb (fun c t f e=>by cases e);refine⟨⟨b,s,seen,c,es,cl,hr',hb'⟩,?_⟩;simp only[Instr.entry,getObj,Sem.run_bind,Sem.run,hr,Result.andThen]at hrun;simp only[Instr.entry,getObj,Sem.run_bind,Sem.run,hr',Result.andThen]
 revert hrun
 cases seen.back? with
 |none=>intro hrun;simp_all
 |some x=>
  simp only[getObj,Sem.run_bind,Sem.run,hb,hb',Result.andThen]
  by_cases hc:(cl != c)=true
  .simp only[if_pos hc]
   intro hrun
   simp_all
  simp only[if_neg hc]
  cases Array.find? (fun x_1=>x_1.born==x) es with
  |none=>intro hrun;simp_all
  |some e=>
   intro hrun
   simp_all
structure aK(bo:Option Nat)(m:Nat->Nat->Prop)(w w':World)(pre:List (Nat×Blk))(sets:List (Nat×List AV))(news:List (Nat×Blk)):Prop where
 keys:sets.map (·.1)=pre.map (·.1)
 heap:∀e∈upd pre sets++news,w'.heap[e.2.at_]? = some (.cells (e.2.cells.map AV.den).toArray e.2.ty (0,0))
 ok:∀e∈upd pre sets++news,∀v∈e.2.cells,v.one=true/\Ok (mN m news) w' v
 fresh:∀e∈news,w.heap.size<=e.2.at_
 dist:news.Pairwise fun e f=>e.2.at_≠f.2.at_
 chg:Chg (fun k=>ats pre k \/ bo=some k) w w'
def I5(P:Program)(f:FuncId)(args:List AV)(pre:List (Nat×Blk))(bo:Option Nat)(I:Kn)(res:j1->CR)(J:Nat->j1->Kn):Prop:=
 ∀(m:Nat->Nat->Prop) (w:World),(∀b o,m b o->b<w.heap.size)->(∀v∈args,Ok m w v)->M4 m w pre->I.p m w →
  Calls P f (args.map AV.den).toArray w fun e w'=>∃x,e = .returned (res x).v.den/\Ok (mN m (res x).news) w' (res x).v/\aK bo m w w' pre (res x).sets (res x).news/\(∀b,bo=some b->∃es cl es' cl',w.heap[b]? = some (.map es cl)/\w'.heap[b]? = some (.map es' cl'))/\(J w.heap.size x).p (mN m (res x).news) w'
open Go.MapKept Go.ChangeMaps in
theorem aK.mid{b:Nat}{m:Nat->Nat->Prop}{w w':World}{pre:List (Nat×Blk)}{sets:List (Nat×List AV)}{news:List (Nat×Blk)}(h:aK (some b) m w w' pre sets news){es es':Array MapEntry}{cl cl':Nat}(hb:w.heap[b]? = some (.map es cl))(hb':w'.heap[b]? = some (.map es' cl')) :
  ∃w1,w.mapTurned w1 b/\gJ m w1 w' pre sets news:=by
 refine⟨setBlock w b (.map es' cl'),⟨es,cl,es',cl',hb,rfl⟩,h.keys,h.heap,h.ok,fun e he=>?_,h.dist,?_⟩
 .have:=h.fresh e he
  simpa[setBlock]using this
 refine⟨h.chg.os,h.chg.tape,h.chg.output,by have:=h.chg.size;simpa[setBlock]using this,fun k hk hn=>?_⟩
 by_cases hkb:k=b
 .subst hkb;rw[hb',heap_setBlock_same hb]
 rw[heap_setBlock_other hb _ hkb];refine h.chg.block k (by simpa[setBlock]using hk) ?_
 rintro(h1|h1)
 .exact hn h1
 injection h1 with h1;exact hkb h1.symm
theorem aK.plain{m:Nat->Nat->Prop}{w w':World}{pre:List (Nat×Blk)}{sets:List (Nat×List AV)}{news:List (Nat×Blk)}(h:aK none m w w' pre sets news):gJ m w w' pre sets news:=
 ⟨h.keys,h.heap,h.ok,h.fresh,h.dist,h.chg.mono fun k hk=>hk.resolve_right (by simp)⟩
theorem aK.keepB{bo:Option Nat}{m:Nat->Nat->Prop}{w w':World}{pre:List (Nat×Blk)}{sets:List (Nat×List AV)}{news:List (Nat×Blk)}(h:aK bo m w w' pre sets news)(hp:M4 m w pre)(hmap:∀b,bo=some b->∃es cl,w.heap[b]? = some (.map es cl)):T2 bo w m w' (mN m news):=by
 refine⟨fun b o u hc hn=>?_,fun b o hn h1 h2=>?_⟩
 .have hlt:=World.block_lt_of_cell? w _ hc
  refine⟨?_,fun hm=>?_⟩
  .have:w'.heap[b]? = w.heap[b]?:=h.chg.block b hlt (by
    rintro(⟨e,he,rfl⟩|h1)
    .exact hn (hp.free e he o)
    obtain⟨es,cl,h2⟩:=hmap b h1;unfold World.cell? at hc;simp[h2]at hc)
   unfold World.cell? at hc ⊢;rw[this];exact hc
  rcases hm with hm|⟨e,he,rfl⟩
  .exact hn hm
  exact absurd (h.fresh e he) (Nat.not_le.2 hlt)
 rw[h.chg.block b (U6 h1) ?_]
 .exact h1
 rintro(⟨e,he,rfl⟩|h3)
 .rw [hp.heap e he]at h1
  exact h2 _ _ _ (Option.some.inj h1).symm
 exact hn h3
theorem qQ{C:Cx}{s:St}{w':World}{pre:List (Nat×Blk)}(hp:∀e∈pre,i8 s.mem e.1=some e.2){sets:List (Nat×List AV)}{news:List (Nat×Blk)}(d:Option Nat)(v:AV):au w' (mN (s.m C) news) w' (((s.eff (.sets (upd pre sets++news))).put d v).m C):=by
 refine⟨fun b o u h1 hn=>⟨h1,fun hm=>?_⟩,fun _ _ h _=>h⟩;have hm':(s.eff (.sets (upd pre sets++news))).m C b o:=by cases d<;>exact hm
 rcases hm' with hm|⟨k,e,he,hm⟩|hm
 .exact hn (.inl (.inl hm))
 .have he':i8 (jL (upd pre sets++news) s.mem) k=some e:=he
  rw[aG]at he'
  cases hk:i8 (upd pre sets++news) k with
  |some e'=>
   rw[hk]at he';simp only[Option.some_or,Option.some.injEq]at he';subst he'
   rcases List.mem_append.1 (F9 hk)with he|he
   .obtain ⟨e1,g1,g2,g3,_⟩:=iX he
    simp only at g3;exact hn (.inl (.inr (.inl ⟨e1.1,e1.2,hp e1 g1,g3.trans hm⟩)))
   exact hn (.inr ⟨_,he,hm⟩)
  |none=>
   rw[hk]at he';exact hn (.inl (.inr (.inl ⟨k,e,by simpa using he',hm⟩)))
 exact hn (.inl (.inr (.inr hm)))
section
variable {m0:Nat->Nat->Prop} {w0:World} {S:Nat->Prop} {ds:List Deferred} {K:Kn} {P:Program} {Q:Exit->Act->World->Prop} {T:List (Nat×TI)} {ops:Array Oper}
theorem E3{s:St}{a:Act}{w:World}{L rest:List Oper}{o:Oper}{c:Call}{g:Operand}{f:FuncId}{l r args args':List AV}(hL:L=o::rest)(hg:o.guard=none)(hop:o.op = .call c)(hcal:c.callee = .value g)(h:f7 ⟨m0,w0,S,ds,K⟩ s a w)(hgv:val s [] g = .fn f l r)(hl:R0 s [] c.args.toList=some args)(hen:o3 P f)
  {pre:List (Nat×Blk)} {bo:Option Nat} {I:Kn} {res:j1->CR} {J:Nat->j1->Kn} (hsp:I5 P f args' pre bo I res J) (hI:∀m w,K.p m w->I.p m w) (hC:∀b,bo=some b->b<w0.heap.size->S b) (hsim:E7 (l++args++r) args') (hpre:∀e∈pre,i8 s.mem e.1=some e.2) (hnd:bU pre=true) (hd:fa s o.dst=true)
  (K':j1->Kn) (hK':∀n x m w m' w',w0.heap.size<=n->K.p m w->T2 bo w m w' m'->(J n x).p m' w'->(K' x).p m' w')
  (Kc:∀x a' w',f7 ⟨m0,w0,S,ds,K' x⟩ ((s.eff (.sets (upd pre (res x).sets++(res x).news))).put o.dst (res x).v) a' w'->wpList P ops Q rest a' w'):wpList P ops Q L a w:=by
 refine T8 hL hg ?_;obtain⟨hrun,hok⟩:=gE hop hcal h hgv hl hen;have hdist:=T7 h hnd hpre;unfold Oper.wp;rw[hrun];simp only[Oper.upon];have hpo:M4 (s.m ⟨m0,w0,S,ds,K⟩) w pre:=⟨fun e he=>(h.mem _ _ (hpre e he)).1,fun e he=>(h.mem _ _ (hpre e he)).2.1,fun e he o=>.inr (.inl ⟨e.1,e.2,hpre e he,rfl⟩),hdist⟩;have:=hsp (s.m ⟨m0,w0,S,ds,K⟩) w (oi h) (hsim.ok hok) hpo (hI _ _ h.kept);rw[<-hsim.map]at this;refine this.mono ?_
 rintro e w' ⟨x,rfl,g1,g2,g3,g4⟩
 have hkb:=g2.keepB hpo (fun b hb=>by obtain⟨es,cl,_,_,h1,_⟩:=g3 b hb;exact⟨es,cl,h1⟩);have hkn:=(K' x).st (qQ (C:=⟨m0,w0,S,ds,K⟩) (w':=w') hpre (sets:=(res x).sets) (news:=(res x).news) o.dst (res x).v) (hK' _ x _ _ _ _ h.chg.size h.kept hkb g4);have h':f7 ⟨m0,w0,S,ds,noK⟩ s a w:=h.withK trivial;have fin:∀w1,f7 ⟨m0,w0,S,ds,noK⟩ s a w1->gJ (s.m ⟨m0,w0,S,ds,noK⟩) w1 w' pre (res x).sets (res x).news->wpList P ops Q rest (a.put o.dst (res x).v.den) w':=by
  intro w1 hf hl';obtain⟨f1,f2⟩:=hf.called hdist hpre hl';refine Kc x _ w' (f7.withK (K:=noK) (f1.put o.dst (fun t ht=>by rw[lc];exact fU hd t ht) (res x).v (fun _=>f2 _ g1) _ fun _=>rfl) hkn)
 cases bo with
 |none=>exact fin w h' g2.plain
 |some b=>
  obtain⟨es,cl,es',cl',h1,h2⟩:=g3 b rfl;obtain⟨w1,ht,hl'⟩:=g2.mid h1 h2;have hgr:=ht.grown;exact fin w1 (h'.turn h1 (fun c t f e=>by cases e) hgr (hC b rfl) trivial) hl'
theorem qm{bo:Option Nat}{m:Nat->Nat->Prop}{w0 w:World}{pre:List (Nat×Blk)}{d:List Deferred}{s:St}{a:Act}(h:f7 ⟨m,w0,fun k=>ats pre k \/ bo=some k,d,K⟩ s a w)(hmap:∀b,bo=some b->∃es cl,w.heap[b]? = some (.map es cl)){sets:List (Nat×List AV)}{news:List (Nat×Blk)}{ks:List Nat}(hs:C4 s pre sets)(hn:I2 s pre ks news) :
  aK bo m w0 w pre sets news/\au w (s.m ⟨m,w0,fun k=>ats pre k \/ bo=some k,d,K⟩) w (mN m news):=by
 have kp:au w (s.m ⟨m,w0,fun k=>ats pre k \/ bo=some k,d,K⟩) w (mN m news):=⟨fun b' o u h1 h2=>⟨h1,fun hm=>by
  rcases hm with hm|⟨e,he,hat⟩
  .exact h2 (.inl hm)
  obtain⟨k,cells,_,hk,_⟩:=hn.mem e he;exact h2 (.inr (.inl ⟨k,_,hk,hat⟩))⟩,fun _ _ h _=>h⟩
 have key:∀e∈upd pre sets++news,∃k cells,i8 s.mem k=some ⟨e.2.at_,e.2.ty,cells⟩/\E7 cells e.2.cells:=by
  intro e he
  rcases List.mem_append.1 he with he|he
  .obtain ⟨cells,h1,h2⟩:=hs.mem e he;exact⟨_,cells,h1,h2⟩
  obtain⟨k,cells,_,h1,h2,_⟩:=hn.mem e he;exact⟨k,cells,h1,h2⟩
 refine⟨⟨hs.keys,fun e he=>?_,fun e he v hv=>?_,fun e he=>?_,?_,h.chg⟩,kp⟩
 .obtain ⟨k,cells,h1,h2⟩:=key e he
  have:=(h.mem _ _ h1).1;simp only at this;rw[h2.map]at this;exact this
 .obtain ⟨k,cells,h1,h2⟩:=key e he
  have h3:=(h.mem _ _ h1).2.1;exact⟨h2.one (fun v hv=>(h3 v hv).1) v hv,h2.ok (fun v hv=>kp.ok (h3 v hv).2) v hv⟩
 .obtain ⟨k,cells,_,h1,_,h2⟩:=hn.mem e he
  rcases(h.mem _ _ h1).2.2 with h3|⟨e',he',hat⟩|h3
  .exact h3
  .obtain ⟨cells',h4⟩:=hs.all e' he'
   have:=h.nodup _ _ _ _ h4 h1 (h2 e' he');exact absurd hat this
  obtain⟨es,cl,h4⟩:=hmap _ h3;have h5:=(h.mem _ _ h1).1;simp only at h5;rw[h4]at h5;cases h5
 exact hn.dist h
theorem HP(hT:l9 P T){bo:Option Nat}{m:Nat->Nat->Prop}{w0:World}{pre:List (Nat×Blk)}{s:St}{a:Act}{w:World}(h:f7 ⟨m,w0,fun k=>ats pre k \/ bo=some k,[],K⟩ s a w){fn:Func}{res:j1->CR}{J:j1->Kn}{rs:List ResultVar}(hfn:fn.results=rs.toArray){r:List AV×List Ob}(hr:T5 T s rs=some r)(ho:f8 P K r.2)
  (x:j1) (ks:List Nat) (hmap:∀b,bo=some b->(∃es cl,w0.heap[b]? = some (.map es cl))/\∀m,K.p m w->∃es cl,w.heap[b]? = some (.map es cl)) (he:Sim (can (J5 r.1)) (can (res x).v)) (hs:C4 s pre (res x).sets) (hn:I2 s pre ks (res x).news) (hJ:∀m w,K.p m w->(J x).p m w) :
  let R:=fun e w'=>∃x,e=Ending.returned (res x).v.den/\Ok (mN m (res x).news) w' (res x).v/\aK bo m w0 w' pre (res x).sets (res x).news/\(∀b,bo=some b->∃es cl es' cl',w0.heap[b]? = some (.map es cl)/\w'.heap[b]? = some (.map es' cl'))/\(J x).p (mN m (res x).news) w'
  bodyPost P fn R .ret a w/\bodyPost P fn R .normal a w:=by
 intro R;obtain⟨h1,h2⟩:=qm h (fun b hb=>(hmap b hb).2 _ h.kept) hs hn;refine eN hT h rfl hfn hr ho fun hv=>⟨x,?_,(J3 _).2 (he.2.2 _ _ ((J3 _).1 (h2.ok hv))),h1,fun b hb=>?_,hJ _ _ (K.st h2 h.kept)⟩
 .rw [<-F6 (J5 r.1),he.1,F6]
 obtain⟨⟨es,cl,h3⟩,h4⟩:=hmap b hb;obtain⟨es',cl',h4⟩:=h4 _ h.kept;exact⟨_,_,_,_,h3,h4⟩
theorem Gg{bo:Option Nat}{I:Kn}{m:Nat->Nat->Prop}{w:World}{pre:List (Nat×Blk)}(hm:∀b o,m b o->b<w.heap.size)(hp:M4 m w pre)(hI:I.p m w){args:List AV}(hargs:∀v∈args,Ok m w v){f:FuncId}{fn:Func}{c:Code}{R:Ending->World->Prop}(hf:P.funcs[f]? = some fn)(hbd:fn.body=some c)(hn:args.length<=fn.ntmps)
  (h:∀a,f7 ⟨m,w,fun k=>ats pre k \/ bo=some k,[],I⟩ ⟨fn.ntmps,A8 0 args,[],pre,[]⟩ a w->c.wp P (bodyPost P fn R) a w):Calls P f (args.map AV.den).toArray w R:=
 zx hm hp hargs hf hbd hn fun a Z=>h a ((Z.wider fun k hk=>.inl hk).withK (I.st ⟨fun b o u h1 h2=>⟨h1,fun hm'=>by
  rcases hm' with h3|⟨k,e,he,hat⟩|⟨k,e,he,_⟩
  .exact h2 h3
  .exact h2 (hat ▸ hp.free _ (F9 he) o)
  cases he⟩,fun _ _ h _=>h⟩ hI))
variable {C:Cx} {s:St} {a:Act} {w:World} {L rest:List Oper} {o:Oper}
open Go.Maps in
theorem kv{m x:Operand}{t k e:TypeId}{b n:Nat}{D:DataW Value}{vx:AV}{kl:Lit}{z:Value}(hop:o.op = .lookup t m x true)(h:f7 C s a w)(hm:val s [] m = .raw (.map (some b)))(hx:val s [] x=vx)(hxk:vx.known=true)
  (K:Keyed P k) (ht:P.underlying t=some (.map k e)) (hz:(zeroValue e).run P w = .ok z w) (hM:Q7 P k w b n D) (hkey:Go.keyOf P k vx.den=some kl) {v:AV} (hv:D.atKey kl (.held z) = .held v.den) :
  (execOp a.eval o).run P w = .ok (.value (.tuple #[v.den,.bool (Maps.has D kl)])) w:=by
 have hmv:=(A7 h (q:=[]) (fun _ h=>by cases h) (x:=m) (by rw[hm];rfl)).1;have hxv:=(A7 h (q:=[]) (fun _ h=>by cases h) (x:=x) (by rw[hx];exact hxk)).1;rw[hm]at hmv;rw[hx]at hxv;obtain⟨v',ps,hrun,hv'⟩:=hM.look_ok K ht hz (zd:=.held z) (zp:=[]) rfl hkey;have e1:v'=v.den:=by
  unfold hR at hv';injection hv' with h1
  injection h1 with h1 _
  rw[hv]at h1;injection h1
 subst e1;simp[execOp,hop,hmv,hxv,hrun,Result.andThen,AV.den]
open Go.Maps in
theorem man_lookup{m x:Operand}{t k e:TypeId}{d b n:Nat}{D:DataW Value}{vx:AV}{kl:Lit}{z:Value}(hL:L=o::rest)(hg:o.guard=none)(hop:o.op = .lookup t m x true)(hdst:o.dst=some d)(h:f7 C s a w)(hd:d<s.nt)(hm:val s [] m = .raw (.map (some b)))(hx:val s [] x=vx)(hxk:vx.known=true)
  (K:Keyed P k) (ht:P.underlying t=some (.map k e)) (hz:(zeroValue e).run P w = .ok z w) (hM:Q7 P k w b n D) (hkey:Go.keyOf P k vx.den=some kl) {v:AV} (hv:D.atKey kl (.held z) = .held v.den) (hok:Ok (s.m C) w v)
  (K':∀a',f7 C (s.put (some d) (.tup [v,.bool (.v (Maps.has D kl))])) a' w->wpList P ops Q rest a' w):wpList P ops Q L a w:=by
 refine dW hL hg hdst h hd (v:=.tup [v,.bool (.v (Maps.has D kl))]) ?_ (.tup _ fun u hu=>?_) K'
 .rw [kv hop h hm hx hxk K ht hz hM hkey hv];simp[AV.den,AV.denL,BE.den]
 simp only[List.mem_cons,List.not_mem_nil,or_false]at hu
 rcases hu with rfl|rfl
 .exact hok
 exact .bool _
theorem qj{m:Operand}{t k e:TypeId}{d b n:Nat}{D:DataW Value}{c:Call}(hL:L=o::rest)(hg:o.guard=none)(hop:o.op = .call c)(hc1:c.callee = .builtin .len)(hc2:c.args = #[m])(hc3:c.argTypes = #[t])(hdst:o.dst=some d)(h:f7 C s a w)(hd:d<s.nt)(hm:val s [] m = .raw (.map (some b)))
  (ht:P.underlying t=some (.map k e)) (hM:Q7 P k w b n D) (K':∀a',f7 C (s.put (some d) (.int .i64 (Maps.size D:Int))) a' w->wpList P ops Q rest a' w):wpList P ops Q L a w:=by
 have hmv:=(A7 h (q:=[]) (fun _ h=>by cases h) (x:=m) (by rw[hm];rfl)).1;rw[hm]at hmv;have hrun:=hM.len ht o.type;refine dW hL hg hdst h hd (v:=.int .i64 (Maps.size D:Int)) ?_ (.int _ _) K';simp[execOp,hop,hc1,hc2,hc3,resolve,invoke,builtin,hmv,hrun,Result.andThen,AV.den]
open Go.Maps in
theorem G9{m x y:Operand}{t k e:TypeId}{b n:Nat}{D:DataW Value}{vx vy:AV}{kl:Lit}(hL:L=o::rest)(hg:o.guard=none)(hop:o.op = .mapUpdate t m x y)(hdst:o.dst=none)(h:f7 ⟨m0,w0,S,ds,K⟩ s a w)(hm:val s [] m = .raw (.map (some b)))(hx:val s [] x=vx)(hxk:vx.known=true)(hy:val s [] y=vy)(hyk:vy.known=true)
  (Kd:Keyed P k) (ht:P.underlying t=some (.map k e)) (hM:Q7 P k w b n D) (hn:n<maxLen) (hkey:Go.keyOf P k vx.den=some kl) (hC:b<w0.heap.size->S b)
  (K1:Kn) (hK1:∀m w',K.p m w->T2 (some b) w m w' m->Ok m w vy->Q7 P k w' b (n+1) (D.put kl (.held vy.den))->K1.p m w')
  (K':∀w',f7 ⟨m0,w0,S,ds,K1⟩ s a w'->wpList P ops Q rest a w'):wpList P ops Q L a w:=by
 have hmv:=(A7 h (q:=[]) (fun _ h=>by cases h) (x:=m) (by rw[hm];rfl)).1;have hxv:=(A7 h (q:=[]) (fun _ h=>by cases h) (x:=x) (by rw[hx];exact hxk)).1;have hyv:=A7 h (q:=[]) (fun _ h=>by cases h) (x:=y) (by rw[hy];exact hyk);rw[hm]at hmv;rw[hx]at hxv;rw[hy]at hyv;obtain⟨w',hrun,h1,h2⟩:=hM.store Kd ht hn hkey (show hR vy.den=some (.held vy.den,[])from rfl)
 obtain⟨ob,hb,hno⟩:=qh hM;refine T8 hL hg ?_;refine jx (w':=w') ?_ ?_
 .simp [execOp,hop,hmv,hxv,hyv.1,hrun,Result.andThen,AV.den]
 rw[hdst];exact K' w' (h.turn hb hno h2.grown hC (hK1 _ _ h.kept (bJ hb hno h2.grown) hyv.2 h1))
open Go.MapKept in
theorem dw{t k e:TypeId}{d:Nat}(hL:L=o::rest)(hg:o.guard=none)(hop:o.op = .makeMap t none)(hdst:o.dst=some d)(h:f7 ⟨m0,w0,S,ds,K⟩ s a w)(hd:d<s.nt)
  (K1:Kn) (hK1:∀m w',K.p m w->au w m w' m->Q7 P k w' w.heap.size 0 (.map [])->K1.p m w')
  (K':∀a' w',w0.heap.size<=w.heap.size->f7 ⟨m0,w0,S,ds,K1⟩ (s.put (some d) (.raw (.map (some w.heap.size)))) a' w'->wpList P ops Q rest a' w'):wpList P ops Q L a w:=by
 refine T8 hL hg ?_;unfold Oper.wp;have e1:(execOp a.eval o).run P w = .ok (.value (.map (some w.heap.size))) (w.alloc (.map #[] 0)):=by
  simp[execOp,hop,run_makeMap,Result.andThen]
 rw[e1];simp only[Oper.upon];rw[hdst];have hb:Below w.heap.size w (w.alloc (.map #[] 0)):=(Below.refl _ _).alloc (Nat.le_refl _) _;refine K' _ _ h.chg.size ?_;have h2:=((h.below hb).withK (K':=K1) (hK1 _ _ h.kept (cu hb _) (World.ownsMap_made _ _ _ _)));exact h2.put (some d) (fun t ht=>by injection ht with ht;subst ht;exact hd) (.raw (.map (some w.heap.size))) (fun _=>.raw _) _ fun _=>rfl
open Go.Maps in
theorem vS{m:Operand}{t k e:TypeId}{d b n:Nat}{D:DataW Value}(hL:L=o::rest)(hg:o.guard=none)(hop:o.op = .range t m)(hdst:o.dst=some d)(h:f7 ⟨m0,w0,S,ds,K⟩ s a w)(hd:d<s.nt)(hm:val s [] m = .raw (.map (some b)))
  (Kd:Keyed P k) (ht:P.underlying t=some (.map k e)) (hM:Q7 P k w b n D)
  (K1:Kn) (hK1:∀m w',K.p m w->au w m w' m->w'.ranges P k hR b w.heap.size n D (Maps.has D) (Maps.size D)->K1.p m w')
  (K':∀a' w',w0.heap.size<=w.heap.size->f7 ⟨m0,w0,S,ds,K1⟩ (s.put (some d) (.raw (.pointer (some ⟨w.heap.size,0,none⟩)))) a' w'->wpList P ops Q rest a' w'):wpList P ops Q L a w:=by
 have hmv:=(A7 h (q:=[]) (fun _ h=>by cases h) (x:=m) (by rw[hm];rfl)).1;rw[hm]at hmv;obtain⟨w',hrun,r1,r2,r3⟩:=hM.range Kd ht;refine T8 hL hg ?_;unfold Oper.wp;have e1:(execOp a.eval o).run P w = .ok (.value (.pointer (some ⟨w.heap.size,0,none⟩))) w':=by
  simp[execOp,hop,hmv,hrun,Result.andThen,AV.den]
 rw[e1];simp only[Oper.upon];rw[hdst];have hb:Below w.heap.size w w':=⟨r2.os,r2.tape,r2.output,r2.size,fun k hk=>r2.block k hk (by simp)⟩;refine K' _ _ h.chg.size ?_;have h2:=((h.below hb).withK (K':=K1) (hK1 _ _ h.kept (cu hb _) r1));exact h2.put (some d) (fun t ht=>by injection ht with ht;subst ht;exact hd) (.raw (.pointer (some ⟨w.heap.size,0,none⟩))) (fun _=>.raw _) _ fun _=>rfl
theorem vU{it:Operand}{d r:Nat}{vk vv:AV}(hL:L=o::rest)(hg:o.guard=none)(hop:o.op = .entry it)(hdst:o.dst=some d)(h:f7 C s a w)(hd:d<s.nt)(hit:val s [] it = .raw (.pointer (some ⟨r,0,none⟩)))
  (hE:cD P w r vk.den vv.den) (hk:Ok (s.m C) w vk) (hv:Ok (s.m C) w vv)
  (K':∀a',f7 C (s.put (some d) (.tup [vk,vv])) a' w->wpList P ops Q rest a' w):wpList P ops Q L a w:=by
 have hiv:=(A7 h (q:=[]) (fun _ h=>by cases h) (x:=it) (by rw[hit];rfl)).1;rw[hit]at hiv;refine dW hL hg hdst h hd (v:=.tup [vk,vv]) ?_ (.tup _ fun u hu=>?_) K'
 .simp [execOp,hop,hiv,hE.run,Result.andThen,AV.den,AV.denL]
 simp only[List.mem_cons,List.not_mem_nil,or_false]at hu
 rcases hu with rfl|rfl
 .exact hk
 exact hv
theorem fQ{ι : Type}(I:ι->Act->World->Prop)(J:ι->Prop)(μ : ι->Nat){c:Code}{a:Act}{w:World}(p₀:ι)(h₀:J p₀)(hf:I p₀ a w)
  (round:∀p,J p->∀a w,I p a w->c.wp P (Exit.then (fun a' w'=>∃p',J p'/\μ p'<μ p/\I p' a' w') Q) a w):(Code.loop c).wp P Q a w:=by
 intro b k fs;have key:∀n p a w,μ p=n->J p->I p a w →
   ∃e a' w',Q e a' w'/\Arrives P (lone (b.at a (.code c :: .inLoop c::k)) fs w) b k fs e a' w':=by
  intro n
  induction n using Nat.strongRecOn with
  |_ n ih=>
   intro p a w hn hJ Z;obtain⟨e,a₁,w₁,hq,harr⟩:=round p hJ a w Z b (.inLoop c::k) fs
   cases e with
   |normal=>
    obtain⟨p',hJ',hlt,hF'⟩:=hq;obtain⟨e₂,a₂,w₂,hq₂,harr₂⟩:=ih (μ p') (hn ▸ hlt) p' a₁ w₁ rfl hJ' hF';exact⟨e₂,a₂,w₂,hq₂,.of_steps (Steps.trans harr (.one step_inLoop)) harr₂⟩
   |exit id=>exact⟨_,a₁,w₁,hq,.pass (x:=.inLoop c) rfl (fun _ _=>.inl (by simp)) harr⟩
   |goto l=>exact⟨_,a₁,w₁,hq,.pass (x:=.inLoop c) rfl (fun _ _=>.inl (by simp)) harr⟩
   |ret=>exact⟨_,a₁,w₁,hq,.pass (x:=.inLoop c) rfl (fun _ _=>.inl (by simp)) harr⟩
   |panic ch=>exact⟨_,a₁,w₁,hq,.pass (x:=.inLoop c) rfl (fun _ _=>.inl (by simp)) harr⟩
   |outgrown=>exact⟨_,a₁,w₁,hq,.pass (x:=.inLoop c) rfl (fun _ _=>.inl (by simp)) harr⟩
 obtain⟨e,a',w',hq,harr⟩:=key _ p₀ a w rfl h₀ hf;exact⟨e,a',w',hq,.of_steps (.one step_loop) harr⟩
theorem aX{ι : Type}(Kf:ι->Kn)(Sl:ι->List (Nat×AV))(M:ι->List (Nat×Blk))(G:ι->List (Nat×Gr))(J:ι->Prop)(μ : ι->Nat){nt:Nat}{rest:List (Nat×AV)}{restm:List (Nat×Blk)}{restg:List (Nat×Gr)}{c:Code}{a:Act}{w:World}(p₀:ι)(h₀:J p₀)
  (hf:f7 ⟨m0,w0,S,ds,Kf p₀⟩ ⟨nt,pre (Sl p₀) rest,[],pre (M p₀) restm,pre (G p₀) restg⟩ a w)
  (round:∀p,J p->∀a w,f7 ⟨m0,w0,S,ds,Kf p⟩ ⟨nt,pre (Sl p) rest,[],pre (M p) restm,pre (G p) restg⟩ a w->c.wp P (Exit.then (fun a' w'=>∃p',J p'/\μ p'<μ p/\f7 ⟨m0,w0,S,ds,Kf p'⟩ ⟨nt,pre (Sl p') rest,[],pre (M p') restm,pre (G p') restg⟩ a' w') Q) a w):(Code.loop c).wp P Q a w:=
 fQ (fun p a w=>f7 ⟨m0,w0,S,ds,Kf p⟩ ⟨nt,pre (Sl p) rest,[],pre (M p) restm,pre (G p) restg⟩ a w) J μ p₀ h₀ hf round
end
section
variable {P:Program} {f:FuncId} {fn:Func} {c:Code} {R:Ending->World->Prop} {m:Nat->Nat->Prop} {w:World} {pre:List (Nat×Blk)} {args:List AV} {I:Kn} {bo:Option Nat}
theorem enM(nt:Nat)(hm:∀b o,m b o->b<w.heap.size)(hp:M4 m w pre)(hI:I.p m w)(hargs:∀v∈args,Ok m w v)(hf:P.funcs[f]? = some fn)(h:∀B,B=std->∀a,f7 ⟨m,w,fun k=>ats pre k \/ bo=some k,[],I⟩ ⟨nt,A8 0 args,[],pre,[]⟩ a w->c.wp P (bodyPost P fn R) a w)(hb:fn.body=some c:=by rfl)(hnt:fn.ntmps=nt:=by rfl)(hn:args.length<=nt:=by exact Nat.le_of_ble_eq_true rfl):Calls P f (args.map AV.den).toArray w R:=
 Gg hm hp hI hargs hf hb (hnt ▸ hn) (by rw[hnt];exact h std rfl)
end
section
variable {K:Kn} {P:Program} {T:List (Nat×TI)} {s:St} {a:Act} {w:World} {m:Nat->Nat->Prop} {w0:World} {fn:Func} {rs:List ResultVar} {r:List AV×List Ob} {pre:List (Nat×Blk)} {B:Alg} {bo:Option Nat} {res:j1->CR} {J:j1->Kn}
theorem rm(O:B=std)(hT:l9 P T)(h:f7 ⟨m,w0,fun k=>ats pre k \/ bo=some k,[],K⟩ s a w)(x:j1)(ks:List Nat)(hfn:fn.results=rs.toArray:=by rfl)(hr:T5 T s rs=some r:=by first|rfl|(conv=>lhs;cbv))(ho:f8 P K r.2:=by first|exact trivial|(subst O;simp[f8,Ob.holds]))
  (hmap:∀b,bo=some b->(∃es cl,w0.heap[b]? = some (.map es cl))/\∀m,K.p m w->∃es cl,w.heap[b]? = some (.map es cl):=by intro b hb;cases hb) (he:Sim (can (J5 r.1)) (can (res x).v):=by subst O;exact zr) (hs:C4 s pre (res x).sets:=by subst O;first|exact trivial|exact⟨rfl,⟨_,rfl,zl⟩,trivial⟩) (hn:I2 s pre ks (res x).news:=by exact trivial) (hJ:∀m w,K.p m w->(J x).p m w:=by exact fun m w h=>h) :
  let R:=fun e w'=>∃x,e=Ending.returned (res x).v.den/\Ok (mN m (res x).news) w' (res x).v/\aK bo m w0 w' pre (res x).sets (res x).news/\(∀b,bo=some b->∃es cl es' cl',w0.heap[b]? = some (.map es cl)/\w'.heap[b]? = some (.map es' cl'))/\(J x).p (mN m (res x).news) w'
  bodyPost P fn R .ret a w/\bodyPost P fn R .normal a w:=HP hT h hfn hr ho x ks hmap he hs hn hJ
end
abbrev lK:=Option (Nat×List Operand×List AV×AV)
def K4(A:Alg)(T:List (Nat×TI))(cs:List (Nat×CS))(H:lK)(x:j1)(all:List Oper)(i:Nat)(o:Oper)(s:St):Option (N3×List Ob×C8):=
 match H with
 |none=>K9 A T cs x all i o s
 |some (j,xs,args,v)=>if j==i then(match o.guard,R0 s [] xs,fa s o.dst with
   |none,some l,true=>some (⟨.no,o.dst,.plain v⟩,[.pr (l=args)],⟨o.dst,tl xs,[],[],[],[],[]⟩)
   |_,_,_=>none)else K9 A T cs x all i o s
def aP(C:Cx)(P:Program)(all:List Oper)(H:lK):Prop:=∀i xs args v,H=some (i,xs,args,v)->∀o,all[i]? = some o->∀s a w,f7 C s a w->R0 s [] xs=some args->(execOp a.eval o).run P w = .ok (.value v.den) w/\Ok (s.m C) w v
theorem I7{C:Cx}{P:Program}{all:List Oper}:aP C P all none:=fun _ _ _ _ h=>by cases h
def I3(A:Alg)(T:List (Nat×TI))(cs:List (Nat×CS))(H:lK)(X:Nat->j1)(all:List Oper):List (Nat×Oper)->St->Option (St×List Ob×List C8)
 | [],s=>some (s,[],[])
 |(i,o)::l,s=>match K4 A T cs H (X i) all i o s with
  |none=>none
  |some (δ,ob,f)=>match I3 A T cs H X all l (s.app δ)with
   |none=>none
   |some (s'',ob',fs)=>some (s'',ob++ob',f::fs)
section
variable {A:Alg} {T:List (Nat×TI)} {cs:List (Nat×CS)} {H:lK} {X:Nat->j1} {all:List Oper}
theorem V4{x:j1}{i:Nat}{o:Oper}{s:St}{r:N3×List Ob×C8}(h:K4 A T cs H x all i o s=some r):fq r:=by
 unfold K4 at h
 split at h
 .exact U3 h
 split at h
 .split at h
  .injection h with h;subst h
   exact⟨(fun q v h=>by cases h),rfl,(fun k b h=>by cases h),(fun k b h=>by cases h),(fun q v h=>by cases h)⟩
  cases h
 exact U3 h
theorem ct{x:j1}{i:Nat}{o:Oper}{s s':St}{r:N3×List Ob×C8}(h:K4 A T cs H x all i o s=some r)(hU:AgT s s' r.2.2.cons)(hR:AgM s s' r.2.2.rk)(hG:AgR s s' r.2.2.rg)(hn:s.nt=s'.nt):K4 A T cs H x all i o s'=some r:=by
 unfold K4 at h ⊢
 split at h
 .exact V3 h hU hR hG hn
 split at h
 .rename_i hj
  rw[if_pos hj]
  split at h
  .rename_i l hg hv hi
   injection h with h;subst h
   rw[hg,<-Z2 hU [] (fun t ht=>ht),hv,<-eZ hn,hi]
  cases h
 rename_i hj
 rw[if_neg hj];exact V3 h hU hR hG hn
theorem fh{X:Nat->j1}{i:Nat}{o:Oper}{l:List (Nat×Oper)}{s:St}{r}(hr:I3 A T cs H X all ((i,o)::l) s=some r) :
  ∃δ ob f r',K4 A T cs H (X i) all i o s=some (δ,ob,f)/\I3 A T cs H X all l (s.app δ)=some r'/\r=(r'.1,ob++r'.2.1,f::r'.2.2):=by
 simp only[I3]at hr
 split at hr
 .cases hr
 rename_i δ ob f he
 split at hr
 .cases hr
 rename_i s'' ob' fs he'
 injection hr with hr
 exact⟨δ,ob,f,_,he,he',hr.symm⟩
theorem dG{X Y:Nat->j1}:∀(l:List (Nat×Oper)) (s:St),(∀x∈l,X x.1=Y x.1)->I3 A T cs H X all l s=I3 A T cs H Y all l s
 | [],_,_=>rfl
 |(i,o)::l,s,h=>by
  simp only[I3];rw[h (i,o) (by simp)]
  cases K4 A T cs H (Y i) all i o s with
  |none=>rfl
  |some r=>obtain⟨δ,ob,f⟩:=r;simp only;rw[dG l _ (fun x hx=>h x (by simp[hx]))]
theorem iB:∀{l:List (Nat×Oper)} {s s' τ : St} {obs:List Ob} {fs:List C8},I3 A T cs H X all l s=some (τ,obs,fs)->N4 s s'->NM s (ds fs)->Ord fs->∃τ',I3 A T cs H X all l s'=some (τ',obs,fs)/\N4 τ τ'
 | [],s,s',τ,obs,fs,h,ha,hn,hf=>by
  simp only[I3,Option.some.injEq,Prod.mk.injEq]at h;obtain⟨rfl,rfl,rfl⟩:=h;exact⟨s',rfl,ha⟩
 |(i,o)::l,s,s',τ,obs,fs,h,ha,hn,hf=>by
  obtain⟨δ,ob,f,r',h1,h2,h3⟩:=fh h;obtain⟨τ1,obs1,fs1⟩:=r';simp only[Prod.mk.injEq]at h3;obtain⟨rfl,rfl,rfl⟩:=h3;have hfo:=V4 h1;have hd':=ct h1 (s':=s') (fun t _=>⟨ha.tmps t,ha.gs t⟩) (fun k _=>ha.mem k) (fun k _=>ha.gr k) ha.nt;have hf':=List.pairwise_cons.1 hf;obtain⟨n1,n2⟩:=dp hfo (gs:=fs1) hn (by simp) (fun g hg=>by simp[hg]) hf'.1;obtain⟨τ',e1,e2⟩:=iB h2 (ni hfo.wf ha n1) n2 hf'.2;exact⟨τ',by simp only[I3,hd',e1],e2⟩
theorem eU{P:Program}{K:Kn}{i:Nat}{o:Oper}{L2:List (Nat×Oper)}:∀{L1:List (Nat×Oper)} {s τ : St} {obs:List Ob} {fs1:List C8} {f:C8} {fs2:List C8},
  I3 A T cs H X all (L1++(i,o)::L2) s=some (τ,obs,fs1++f::fs2)->fs1.length=L1.length->NM s (ds (fs1++f::fs2))->Ord (fs1++f::fs2)->(∀g∈fs1,gA g f=true) →
  ∃δ ob,K4 A T cs H (X i) all i o s=some (δ,ob,f)/\∃τ' obs',I3 A T cs H X all (L1++L2) (s.app δ)=some (τ',obs',fs1++fs2)/\N4 τ' τ/\(f8 P K obs->f8 P K ob/\f8 P K obs')
 | [],s,τ,obs,fs1,f,fs2,h,hl,hn,Z,hc=>by
  have:fs1=[]:=List.eq_nil_of_length_eq_zero hl;subst this;obtain⟨δ,ob,f',r',h1,h2,h3⟩:=fh h;obtain⟨τ1,obs1,fs1⟩:=r';simp only[List.nil_append,Prod.mk.injEq,List.cons.injEq]at h3;obtain⟨rfl,rfl,rfl,rfl⟩:=h3;exact⟨δ,ob,h1,τ,obs1,h2,⟨rfl,fun _=>rfl,fun _=>rfl,fun _=>rfl,fun _=>rfl⟩,fun ha=>f8.app.1 ha⟩
 |(j,oj)::L1,s,τ,obs,fs1,f,fs2,h,hl,hn,Z,hc=>by
  cases fs1 with
  |nil=>cases hl
  |cons fj fs1=>
   obtain⟨δj,obj,fj',r',h1,h2,h3⟩:=fh h;obtain⟨τ1,obs1,fsr⟩:=r';simp only[List.cons_append,Prod.mk.injEq,List.cons.injEq]at h3;obtain⟨rfl,rfl,rfl,rfl⟩:=h3;have hfj:=V4 h1;have hF':=List.pairwise_cons.1 Z;obtain⟨n1,n2⟩:=dp hfj (gs:=fs1++f::fs2) hn (by simp) (fun g hg=>by simp only[List.cons_append,List.mem_cons];exact .inr hg) hF'.1;obtain⟨δ,ob,g1,τ',obs',g2,g3,g4⟩:=eU (P:=P) (L1:=L1) h2 (by simpa using hl) n2 hF'.2 (fun g hg=>hc g (by simp[hg]));have hcm:=hc fj (by simp);simp only[gA,Bool.and_eq_true]at hcm;obtain⟨⟨⟨⟨⟨⟨⟨⟨⟨c0,c1⟩,c2⟩,c3⟩,c4⟩,c5⟩,c6⟩,c7⟩,c8⟩,c9⟩:=hcm;have hf:=V4 g1;have hFf:=List.pairwise_append.1 hF'.2;have hin:∀g∈fs1++fs2,g∈fs1++f::fs2:=fun g hg=>by
    rcases List.mem_append.1 hg with hg|hg
    .exact List.mem_append_left _ hg
    exact List.mem_append_right _ (List.mem_cons_of_mem _ hg)
   have hq:∀g∈fj::(fs1++fs2),et (dl g.d) f.qs=true:=by
    intro g hg
    rcases List.mem_cons.1 hg with rfl|hg
    .exact c0
    rcases List.mem_append.1 hg with hg|hg
    .have:=hc g (by simp[hg])
     simp only[gA,Bool.and_eq_true]at this;exact this.1.1.1.1.1.1.1.1.1
    exact(List.pairwise_cons.1 hFf.2.1).1 g hg
   -- i at s
   obtain⟨a1,a2,a3⟩:=pk hfj n1 (g:=f) (F5 c1) (F5 c4) (F5 c7);have d1:K4 A T cs H (X i) all i o s=some (δ,ob,f):=ct g1 (fun t ht=>⟨(a1 t ht).1.symm,(a1 t ht).2.symm⟩) (fun k hk=>(a2 k hk).symm) (fun k hk=>(a3 k hk).symm) fm;obtain⟨m1,m2⟩:=dp hf (gs:=fj::(fs1++fs2)) hn (by simp) (fun g hg=>by
    rcases List.mem_cons.1 hg with rfl|hg
    .simp
    simp only[List.cons_append,List.mem_cons];exact .inr (hin g hg)) hq
   -- j behind i
   obtain⟨b1,b2,b3⟩:=pk hf m1 (g:=fj) (F5 c2) (F5 c5) (F5 c8);have d2:K4 A T cs H (X j) all j oj (s.app δ)=some (δj,obj,fj):=ct h1 b1 b2 b3 fm.symm
   -- the two orders come to the same
   have sw:N4 ((s.app δj).app δ) ((s.app δ).app δj):=by
    refine qV hfj.wf hf.wf n1 m1 (n2.sub fun d hd=>ia (g:=f) (by simp) (by rw[hf.d];exact hd)) (m2.sub fun d hd=>ia (g:=fj) (by simp) (by rw[hfj.d];exact hd)) (fun t ht ht'=>?_) (fun k b b' e1 e2=>?_) (fun k b k' b' e1 e2 he=>?_)
    .exact F5 c3 t (by rw[hfj.d];simp only;rw[ht];simp[dl]) (by rw[hf.d];simp only;rw[ht'];simp[dl])
    .exact F5 c6 k (hfj.wk k b e1) (hf.wk k b' e2)
    subst he;exact F5 c9 k (hfj.wg k b e1) (hf.wg k b' e2)
   obtain⟨nn1,nn2⟩:=dp hf (gs:=fs1++fs2) n2 (by simp) hin (fun g hg=>hq g (List.mem_cons_of_mem _ hg));obtain⟨τ'',e1,e2⟩:=iB g2 sw nn2 (hF'.2.sublist (List.Sublist.append_left (List.sublist_cons_self _ _) _));refine⟨δ,ob,d1,τ'',obj++obs',?_,e2.symm.trans g3,fun ha=>?_⟩
   .simp only[List.cons_append,I3,d2,e1]
   obtain⟨p1,p2⟩:=f8.app.1 ha;obtain⟨p3,p4⟩:=g4 p2;exact⟨p3,f8.app.2 ⟨p1,p4⟩⟩
end
section
variable {C:Cx} {P:Program} {Q:Exit->Act->World->Prop} {T:List (Nat×TI)} {cs:List (Nat×CS)} {H:lK} {ops:Array Oper} {all:List Oper}
theorem na{s:St}{a:Act}{w:World}{K:Act->World->Prop}(hT:l9 P T){i:Nat}{o:Oper}(hH:aP C P all H)(hio:all[i]? = some o)(hall:ops=all.toArray)(h:f7 C s a w)(hs:∀x,∃r,K4 std T cs H x all i o s=some r/\f8 P C.K r.2.1)
  (hK:∀x r a' w',K4 std T cs H x all i o s=some r->f7 C (s.app r.1) a' w'->K a' w'):if Region.wanted o (yielded ops a.tmps)then o.wp P a w K Q else K (a.put o.dst Go.undef) w:=by
 have plain:(∀x,K4 std T cs H x all i o s=K9 std T cs x all i o s)->if Region.wanted o (yielded ops a.tmps)then o.wp P a w K Q else K (a.put o.dst Go.undef) w:=fun e=>
  gu hT hall h (fun x=>by rw[<-e];exact hs x) fun x r a' w' hr=>hK x r a' w' (by rw[e];exact hr)
 cases hh:H with
 |none=>exact plain fun x=>by rw[hh];rfl
 |some y=>
  obtain⟨j,xs,args,v⟩:=y
  by_cases hj:(j==i)=true
  .obtain ⟨r,hr,hob⟩:=hs ⟨0,fun _=>none,fun _=>0,fun _=>.empty⟩
   have hr0:=hr;unfold K4 at hr;rw[hh]at hr;simp only at hr;rw[if_pos hj]at hr
   split at hr
   .rename_i l hg hv hi
    injection hr with hr;subst hr
    have hl:l=args:=hob.1;subst hl;have hji:j=i:=by simpa using hj
    subst hji;have hw:Region.wanted o (yielded ops a.tmps)=true:=by simp[Region.wanted,hg]
    rw[if_pos hw];obtain⟨g1,g2⟩:=hH _ _ _ _ hh o hio s a w h hv;exact k6 g1 (hK _ _ _ _ hr0 (h.put o.dst (fU hi) v (fun _=>g2) v.den fun _=>rfl))
   cases hr
  exact plain fun x=>by
   unfold K4;rw[hh];simp only;rw[if_neg hj]
theorem uY{tb:List Nat}(hT:l9 P T)(hops:ops=all.toArray)(htb:∀i j,iS tb i j=true->B9 all i j)(hH:aP C P all H){n0:Nat}{zo:List Oper}(hz1:zo.length<=1)(hz2:∀k o,ops[k]? = some o->k<n0 \/ (k=n0/\zo=[o]))(hz3:∀o,zo=[o]->ops[n0]? = some o/\(∀j,j<n0->∃e∈o.after.toList,Region.binds .any e=true/\e.on=j)/\∀e∈o.after.toList,Region.binds .any e=true->e.on<n0)(hz4:n0<=ops.size):∀(n:Nat) (L:List (Nat×Oper)) (fs:List C8) (listed:Array Bool) (s:St) (a:Act) (w:World),L.length=n->f7 C s a w->NM s (ds fs)->Ord fs->tg tb L fs->(∀k o,all[k]? = some o->listed.getD k false=true->∀e∈o.after.toList,Region.binds .any e=true->listed.getD e.on false=true) →
  L.Pairwise (fun x y=>x.1<y.1)->(∀x∈L,ops[x.1]? = some x.2/\listed.getD x.1 true=false)->(∀k o,k<n0->ops[k]? = some o->listed.getD k true=false->(k,o)∈L)->(∀o,zo=[o]->listed.getD n0 true=false)->(∀x∈L,x.1<n0)->listed.size=ops.size →
  (∀x∈L,∀e∈x.2.after.toList,Region.binds .any e=true->e.on<x.1) →
  (∀X,∃τ obs,I3 std T cs H X all L s=some (τ,obs,fs)/\f8 P C.K obs/\∀a' w',f7 C τ a' w'->wpList P ops Q zo a' w')->wpAny P .any ops Q (n+zo.length) listed a w
 |0,L,fs,listed,s,a,w,hn,h,hNM,Z,hP,hDC,hsr,hL,hA,hZ,hLn,hsz,hE,hs=>by
  have:L=[]:=List.eq_nil_of_length_eq_zero hn;subst this;have all0:∀k,k<n0->listed.getD k false=true:=by
   intro k hk
   by_cases hl:listed.getD k false=true
   .exact hl
   have:=hA k _ hk (Array.getElem?_eq_getElem (by omega)) (fW (by rw[hsz];omega) hl)
   cases this
  obtain⟨τ,obs,e1,_,e2⟩:=hs (fun _=>⟨0,fun _=>none,fun _=>0,fun _=>.empty⟩);simp only[I3,Option.some.injEq,Prod.mk.injEq]at e1;obtain⟨rfl,_⟩:=e1;have hfin:=e2 a w h
  match zo,hz1,hz2,hz3,hZ,hfin with
  | [],_,hz2,_,_,hfin=>
   refine⟨?_,hfin⟩
   cases hr:Region.ready .any ops listed with
   |nil=>rfl
   |cons i r=>
    obtain⟨h1,o,h2,_⟩:=mem_ready.1 (hr ▸ List.mem_cons_self:i∈Region.ready .any ops listed)
    rcases hz2 i o h2 with hi|⟨_,hi⟩
    .cases hA i o hi h2 h1
    cases hi
  | [o],_,hz2,hz3,hZ,hfin=>
   obtain⟨g1,g2,g3⟩:=hz3 o rfl;refine⟨fun hr=>?_,fun i hi=>?_⟩
   .exfalso
    have:n0∈Region.ready .any ops listed:=mem_ready.2 ⟨hZ o rfl,o,g1,fun e he hb=>all0 _ (g3 e (by simpa using he) hb)⟩;rw[hr]at this;cases this
   obtain⟨h1,o',h2,h3⟩:=mem_ready.1 hi
   rcases hz2 i o' h2 with hi'|⟨hi',ho'⟩
   .cases hA i o' hi' h2 h1
   injection ho' with ho' _
   subst ho';subst hi';have fin:∀a w,wpList P ops Q [] a w->wpAny P .any ops Q 0 (listed.setIfInBounds i true) a w:=by
    intro a w hq;refine⟨?_,hq⟩
    cases hr:Region.ready .any ops (listed.setIfInBounds i true)with
    |nil=>rfl
    |cons k r=>
     obtain⟨k1,ok,k2,_⟩:=mem_ready.1 (hr ▸ List.mem_cons_self:k∈Region.ready .any ops (listed.setIfInBounds i true))
     rcases hz2 k ok k2 with hk|⟨hk,_⟩
     .rw [getD_set_ne true (by omega)]at k1
      cases hA k ok hk k2 k1
     subst hk;have hlt:k<listed.size:=by rw[hsz];exact(Array.getElem?_eq_some_iff.1 h2).1
     simp[Array.getD_eq_getD_getElem?,hlt]at k1
   unfold wpOp;simp only[h2];unfold wpList at hfin
   by_cases hw:Region.wanted o (yielded ops a.tmps)=true
   .rw [if_pos hw]at hfin ⊢
    exact hfin.imp (Oper.wp_mono fin) id
   rw[if_neg hw]at hfin ⊢;exact fin _ _ hfin
  |_::_::_,hz1,_,_,_,_=>simp at hz1
 |n+1,L,fs,listed,s,a,w,hn,h,hNM,Z,hP,hDC,hsr,hL,hA,hZ,hLn,hsz,hE,hs=>by
  rw[show n+1+zo.length=(n+zo.length)+1 by omega];refine⟨fun hr=>?_,fun i hi=>?_⟩
  .-- the first one that is left may come up
   exfalso
   cases L with
   |nil=>cases hn
   |cons x L=>
    obtain⟨i0,o0⟩:=x;obtain⟨h1,h2⟩:=hL (i0,o0) (by simp);have:i0∈Region.ready .any ops listed:=mem_ready.2 ⟨h2,o0,h1,fun e he hb=>by
     have hlt:=hE (i0,o0) (by simp) e (by simpa using he) hb;simp only at hlt;have hi0:i0<ops.size:=(Array.getElem?_eq_some_iff.1 h1).1;have hon:e.on<listed.size:=by rw[hsz];omega
     by_cases hl:listed.getD e.on false=true
     .exact hl
     exfalso
     have hm:=hA e.on _ (by have:=hLn (i0,o0) (by simp);simp only at this;omega) (Array.getElem?_eq_getElem (by omega)) (fW hon hl)
     rcases List.mem_cons.1 hm with he'|hm
     .injection he' with he';omega
     have:=(List.pairwise_cons.1 hsr).1 _ hm;simp only at this;omega⟩
    rw[hr]at this
    cases this
  obtain⟨h1,o,h2,h3⟩:=mem_ready.1 hi;have hi0:i<n0:=by
   rcases hz2 i o h2 with hi0|⟨rfl,ho⟩
   .exact hi0
   exfalso
   cases L with
   |nil=>cases hn
   |cons x L=>
    obtain⟨_,g2,_⟩:=hz3 o ho;obtain⟨e,q1,q2,q3⟩:=g2 x.1 (hLn x (by simp));have q4:=h3 e (by simpa using q1) q2;have q5:=(hL x (by simp)).2;rw[q3,R5 q5]at q4
    cases q4
  have hio:all[i]? = some o:=by rw[hops]at h2;simpa using h2
  have hin:=hA i o hi0 h2 h1;obtain⟨L1,L2,rfl⟩:=List.append_of_mem hin;obtain⟨fs1,f,fs2,hlen,rfl⟩:∃fs1 f fs2,fs1.length=L1.length/\fs=fs1++f::fs2:=by
   have hl:=hP.1;simp only[List.length_append,List.length_cons]at hl;have hlt:L1.length<fs.length:=by omega
   refine⟨fs.take L1.length,fs[L1.length],fs.drop (L1.length+1),by simp;omega,?_⟩;rw[<-List.drop_eq_getElem_cons hlt,List.take_append_drop]
  obtain⟨hP1,hcm⟩:=bS hlen hP.2;have hcomm:∀g∈fs1,gA g f=true:=by
   intro g hg;obtain⟨k,hk⟩:=List.getElem?_of_mem hg;have hkl:k<L1.length:=by rw[<-hlen];exact(List.getElem?_eq_some_iff.1 hk).1
   rcases hcm k _ g (List.getElem?_eq_getElem hkl) hk with he|he
   .exfalso
    have h5:=(hL L1[k] (List.mem_append_left _ (List.getElem_mem hkl))).2;have hr:=htb _ _ he;have dc:∀{i j:Nat},B9 all i j->(∀o e,all[i]? = some o->e∈o.after.toList->Region.binds .any e=true->listed.getD e.on false=true)->listed.getD j false=true:=by
     intro i j hr
     induction hr with
     |one h1 h2 h3 h4=>intro hi;rw[<-h4];exact hi _ _ h1 h2 h3
     |more h1 h2 h3 h4 ih=>intro hi;exact ih fun o e g1 g2 g3=>hDC _ o g1 (hi _ _ h1 h2 h3) e g2 g3
    have h4:=dc hr fun o' e g1 g2 g3=>by
     have:o'=o:=by
      have e1:ops[i]? = some o':=by rw[hops];simpa using g1
      rw[h2]at e1;injection e1 with e1;exact e1.symm
     subst this;exact h3 e (by simpa using g2) g3
    rw[R5 h5]at h4
    cases h4
   exact he
  have mf:∀X,∃δ ob,K4 std T cs H (X i) all i o s=some (δ,ob,f)/\f8 P C.K ob/\∃τ' obs',I3 std T cs H X all (L1++L2) (s.app δ)=some (τ',obs',fs1++fs2)/\f8 P C.K obs'/\∀a' w',f7 C τ' a' w'->wpList P ops Q zo a' w':=by
   intro X;obtain⟨τ,obs,e1,e2,e3⟩:=hs X;obtain⟨δ,ob,g1,τ',obs',g2,g3,g4⟩:=eU (P:=P) e1 hlen hNM Z hcomm;exact⟨δ,ob,g1,(g4 e2).1,τ',obs',g2,(g4 e2).2,fun a' w' hf=>e3 a' w' (hf.alike g3)⟩
  have hsrt:(L1++L2).Pairwise (fun x y=>x.1<y.1):=hsr.sublist (List.Sublist.append_left (List.sublist_cons_self _ _) _);have hnot:∀x∈L1++L2,x.1≠i:=by
   intro x hx;rw[List.pairwise_append]at hsr;obtain⟨p1,p2,p3⟩:=hsr
   rcases List.mem_append.1 hx with hx|hx
   .have:=p3 x hx (i,o) (by simp);simp only at this;omega
   have:=(List.pairwise_cons.1 p2).1 x hx;simp only at this;omega
  have key:=na (C:=C) (K:=fun a' w'=>wpAny P .any ops Q (n+zo.length) (listed.setIfInBounds i true) a' w') (Q:=Q) (cs:=cs) (i:=i) (o:=o) hT hH hio hops h (fun x=>by
   obtain⟨δ,ob,g1,g2,_⟩:=mf (fun _=>x);exact⟨_,g1,g2⟩) (fun x r a' w' hr hf=>by
   have hfo:=V4 hr;obtain⟨δ,ob,f'⟩:=r;obtain⟨δ0,ob0,g0,_⟩:=mf (fun _=>x);rw[hr]at g0;injection g0 with g0;injection g0 with q1 q2;injection q2 with q2 q3
   subst q1;subst q2;subst q3;have hinF:∀g∈fs1++fs2,g∈fs1++f'::fs2:=fun g hg=>by
    rcases List.mem_append.1 hg with hg|hg
    .exact List.mem_append_left _ hg
    exact List.mem_append_right _ (List.mem_cons_of_mem _ hg)
   obtain⟨n1,n2⟩:=dp hfo (gs:=fs1++fs2) hNM (by simp) hinF (fun g hg=>by
    rcases List.mem_append.1 hg with hg|hg
    .have:=hcomm g hg
     simp only[gA,Bool.and_eq_true]at this;exact this.1.1.1.1.1.1.1.1.1
    exact(List.pairwise_cons.1 (List.pairwise_append.1 Z).2.1).1 g hg)
   refine uY hT hops htb hH hz1 hz2 hz3 hz4 n (L1++L2) (fs1++fs2) (listed.setIfInBounds i true) (s.app δ) a' w' ?_ hf n2 ?_ ?_ ?_ hsrt ?_ ?_ (fun o' ho'=>by rw[getD_set_ne true (by omega)];exact hZ o' ho') ?_ (by simpa using hsz) ?_ ?_
   .simp at hn ⊢;omega
   .exact Z.sublist (List.Sublist.append_left (List.sublist_cons_self _ _) _)
   .refine ⟨?_,hP1⟩
    have:=hP.1;simp at this ⊢;omega
   .intro k ok hk hu e he hb
    by_cases hki:k=i
    .subst hki
     have:ok=o:=by
      have e1:ops[k]? = some ok:=by rw[hops];simpa using hk
      rw[h2]at e1;injection e1 with e1;exact e1.symm
     subst this;have hl:=h3 e (by simpa using he) hb
     by_cases hei:e.on=k
     .have:=hE (k,ok) hin e he hb
      simp only at this;omega
     rw[getD_set_ne false (fun e'=>hei e'.symm)];exact hl
    rw[getD_set_ne false (fun e'=>hki e'.symm)]at hu;have hl:=hDC k ok hk hu e he hb
    by_cases hei:e.on=i
    .rw [hei]at hl
     have h5:=(hL (i,o) hin).2;simp only at h5;rw[R5 h5]at hl;cases hl
    rw[getD_set_ne false (fun e'=>hei e'.symm)];exact hl
   .intro x' hx
    have hx':x'∈L1++(i,o)::L2:=by
     rcases List.mem_append.1 hx with hx|hx
     .exact List.mem_append_left _ hx
     exact List.mem_append_right _ (List.mem_cons_of_mem _ hx)
    obtain⟨e1,e2⟩:=hL x' hx';refine⟨e1,?_⟩;rw[getD_set_ne true (fun e=>hnot x' hx e.symm)];exact e2
   .intro k ok hkn hk hu
    by_cases hki:k=i
    .subst hki
     have hlt:k<listed.size:=by rw[hsz];exact(Array.getElem?_eq_some_iff.1 h2).1
     simp[Array.getD_eq_getD_getElem?,hlt]at hu
    rw[getD_set_ne true (fun e=>hki e.symm)]at hu;have:=hA k ok hkn hk hu
    rcases List.mem_append.1 this with hx|hx
    .exact List.mem_append_left _ hx
    rcases List.mem_cons.1 hx with hx|hx
    .injection hx with hx;exact absurd hx hki
    exact List.mem_append_right _ hx
   .intro x' hx
    refine hLn x' ?_
    rcases List.mem_append.1 hx with hx|hx
    .exact List.mem_append_left _ hx
    exact List.mem_append_right _ (List.mem_cons_of_mem _ hx)
   .intro x' hx
    refine hE x' ?_
    rcases List.mem_append.1 hx with hx|hx
    .exact List.mem_append_left _ hx
    exact List.mem_append_right _ (List.mem_cons_of_mem _ hx)
   intro X;obtain⟨Y,hY,hYX⟩:∃Y:Nat->j1,Y i=x/\∀j,j≠i->Y j=X j:=⟨fun j=>if j=i then x else X j,by simp,fun j hj=>by simp[hj]⟩
   obtain⟨δ1,ob1,g1,_,τ',obs',g2,g3,g4⟩:=mf Y;rw[hY,hr]at g1;injection g1 with g1;injection g1 with q1 _
   subst q1;rw[dG _ _ (fun x' hx=>hYX x'.1 (hnot x' hx))]at g2;exact⟨τ',obs',g2,g3,g4⟩)
  unfold wpOp;simp only[h2]
  by_cases hw:Region.wanted o (yielded ops a.tmps)=true
  .rw [if_pos hw]at key ⊢
   exact .inl key
  rw[if_neg hw]at key ⊢;exact key
def xl(all:List Oper)(n0:Nat):Bool:=Nat.ble n0 all.length&&(match all.drop n0 with
 | []=>true
 | [o]=>(List.range n0).all (fun j=>o.after.toList.any fun e=>Region.binds .any e&&e.on==j)&&o.after.toList.all (fun e=>!(Region.binds .any e)||Nat.blt e.on n0)
 |_=>false)
theorem wK{s:St}{a:Act}{w:World}{id:Nat}{all:List Oper}(n0:Nat)(H:lK)(hH:aP C P all H)(hm:P.follows .mixedOrders=true)(hT:l9 P T)(kp km:List Nat)(cs:List (Nat×CS))(h:f7 C s a w)(hgs:s.gs=[])(fs:List C8)(hD:aJ (all.take n0) fs=true)(hZ:xl all n0=true)(hlen:(all.take n0).length=fs.length)
  {R:Alg->(Nat->j1)->St×List Ob}
  (hex:∀A X,(I3 A T cs H X all (l6 0 (all.take n0)) s).map (fun r=>((r.1.keep kp km,r.2.1),r.2.2))=some (R A X,fs)) (hob:∀X,f8 P C.K (R std X).2) (hQ:∀X a' w',f7 C (R std X).1 a' w'->wpList P all.toArray Q (all.drop n0) a' w'):(Code.region id all.toArray true).wp P Q a w:=by
 simp only[aJ,Bool.and_eq_true]at hD;obtain⟨⟨d1,d2⟩,d3⟩:=hD;simp only[xl,Bool.and_eq_true,Nat.ble_eq]at hZ;obtain⟨hn0,hZ⟩:=hZ;refine wp_region_any hm ?_;have hf:f7 C s a { w with drawn:=w.drawn+1 }:=h.world (fun _ _ _=>rfl) (fun _ _ _ _ _=>rfl) ⟨h.chg.os,h.chg.tape,h.chg.output,h.chg.size,h.chg.block⟩ (fun _ _ _ hc _=>hc) (fun _ _ h _=>h);have hnl:∀(l:List Oper) (i:Nat),(l6 i l).length=l.length:=by
  intro l
  induction l with
  |nil=>intro i;rfl
  |cons o l ih=>intro i;simp[l6,ih]
 have htk:(all.take n0).length=n0:=by simp;omega
 have hzl:(all.drop n0).length<=1:=by
  revert hZ
  cases all.drop n0 with
  |nil=>intro _;simp
  |cons x l=>cases l with
   |nil=>intro _;simp
   |cons y l=>intro h;cases h
 have hsz:all.toArray.size=(l6 0 (all.take n0)).length+(all.drop n0).length:=by rw[hnl,htk];simp;omega
 have hgt:∀{k o},(all.take n0)[k]? = some o->all[k]? = some o/\k<n0:=by
  intro k o hk;have hlt:=(List.getElem?_eq_some_iff.1 hk).1;rw[htk]at hlt;rw[List.getElem?_take,if_pos hlt]at hk;exact⟨hk,hlt⟩
 have hlst:∀k (b:Bool),k<all.length->(Array.replicate all.toArray.size false).getD k b=false:=by
  intro k b hk;have:k<all.toArray.size:=by simpa using hk
  simp[Array.getD_eq_getD_getElem?,hk]
 have hsz0:all.toArray.size=all.length:=by simp
 have hmk:∀i j,iS (eA (all.take n0) []) i j=true->B9 all i j:=by
  intro i j hij;have:=dt (all:=all.take n0) (l:=all.take n0) (tb:=[]) rfl (fun i j h=>by simp at h) i j hij;have conv:∀{i j},B9 (all.take n0) i j->B9 all i j:=by
   intro i j hw
   induction hw with
   |one h1 h2 h3 h4=>exact .one (hgt h1).1 h2 h3 h4
   |more h1 h2 h3 h4 ih=>exact .more (hgt h1).1 h2 h3 ih
  exact conv this
 rw[hsz];refine uY (cs:=cs) (all:=all) (tb:=eA (all.take n0) []) hT rfl hmk hH (n0:=n0) (zo:=all.drop n0) hzl ?_ ?_ (by simpa using hn0) _ (l6 0 (all.take n0)) fs _ s a _ rfl hf (fun t p v hl=>by rw[hgs]at hl;cases hl) ?_ ⟨by rw[hnl];exact hlen,d1⟩ ?_ (U5 _ 0) ?_ ?_ ?_ ?_ ?_ ?_ ?_
 .intro k o hk
  have hk':all[k]? = some o:=by simpa using hk
  have hlt:=(List.getElem?_eq_some_iff.1 hk').1
  by_cases hkn:k<n0
  .exact .inl hkn
  right
  have h1:(all.drop n0)[k-n0]? = some o:=by rw[List.getElem?_drop];rw[show n0+(k-n0)=k by omega];exact hk'
  have h2:=(List.getElem?_eq_some_iff.1 h1).1;have h3:k=n0:=by omega
  subst h3;refine⟨rfl,?_⟩
  revert hzl h1
  generalize all.drop k=dl
  intro hzl h1
  match dl,hzl,h1 with
  | [x],_,h1=>simp at h1;rw[h1]
  | [],_,h1=>simp at h1
  |_::_::_,hzl,_=>simp at hzl
 .intro o ho
  rw[ho]at hZ;simp only[Bool.and_eq_true]at hZ;refine⟨?_,fun j hj=>?_,fun e he hb=>?_⟩
  .have:(all.drop n0)[0]? = some o:=by rw[ho];rfl
   rw[List.getElem?_drop]at this
   simpa using this
  .have:=List.all_eq_true.1 hZ.1 j (List.mem_range.2 hj)
   obtain⟨e,he,hb⟩:=List.any_eq_true.1 this;simp only[Bool.and_eq_true,beq_iff_eq]at hb;exact⟨e,he,hb.1,hb.2⟩
  have:=List.all_eq_true.1 hZ.2 e he
  simpa[hb]using this
 .exact jc d3
 .intro k o hk hu
  exfalso
  rw[<-hsz,hlst k false (List.getElem?_eq_some_iff.1 hk).1]at hu
  cases hu
 .intro x hx
  obtain⟨h1,h2⟩:=T6 hx;rw[Nat.sub_zero]at h2;obtain⟨h3,_⟩:=hgt h2;exact⟨by simpa using h3,by rw[<-hsz];exact hlst _ _ (List.getElem?_eq_some_iff.1 h3).1⟩
 .intro k o hkn hk _
  have hk':(all.take n0)[k]? = some o:=by rw[List.getElem?_take,if_pos hkn];simpa using hk
  have:=Z7 (i:=0) (l:=all.take n0) (k:=k) (o:=o) hk'
  rwa[Nat.zero_add]at this
 .intro o ho
  have:(all.drop n0).length=1:=by rw[ho];rfl
  rw[<-hsz];exact hlst _ _ (by simp at this;omega)
 .intro x hx
  obtain⟨h1,h2⟩:=T6 hx;rw[Nat.sub_zero]at h2;exact(hgt h2).2
 .rw [<-hsz];simp
 .have ed:∀(L:List (Nat×Oper)),cp L=true->∀x∈L,∀e∈x.2.after.toList,Region.binds .any e=true->e.on<x.1:=by
   intro L
   induction L with
   |nil=>intro _ x hx;cases hx
   |cons y L ih=>
    obtain⟨i,o⟩:=y;intro hL x hx e he hb;simp only[cp,Bool.and_eq_true]at hL
    rcases List.mem_cons.1 hx with rfl|hx
    .have:=List.all_eq_true.1 hL.1 e he
     simpa[hb]using this
    exact ih hL.2 x hx e he hb
  exact ed _ d2
 intro X;obtain⟨r,hr,e⟩:=Option.map_eq_some_iff.1 (hex std X);obtain⟨τ,obs,fs'⟩:=r;simp only[Prod.mk.injEq]at e;obtain⟨e1,rfl⟩:=e;refine⟨τ,obs,hr,?_,fun a' w' hf'=>hQ X a' w' ?_⟩
 .have:=hob X;rw[<-e1]at this;exact this
 rw[<-e1];exact hf'.keep kp km
theorem P8{s:St}{a:Act}{w:World}{id:Nat}{all:List Oper}{B:Alg}(O:B=std)(n0:Nat)(H:lK)(hH:aP C P all H)(hm:P.follows .mixedOrders=true)(hT:l9 P T)(kp km:List Nat)(cs:List (Nat×CS))(h:f7 C s a w)(hgs:s.gs=[])(fs:List C8)(hD:aJ (all.take n0) fs=true)(hZ:xl all n0=true)(hlen:(all.take n0).length=fs.length)
  {R:Alg->(Nat->j1)->St×List Ob}
  (hex:∀A X,(I3 A T cs H X all (l6 0 (all.take n0)) s).map (fun r=>((r.1.keep kp km,r.2.1),r.2.2))=some (R A X,fs)) (hob:∀X,f8 P C.K (R B X).2) (hQ:∀X a' w',f7 C (R B X).1 a' w'->wpList P all.toArray Q (all.drop n0) a' w'):(Code.region id all.toArray true).wp P Q a w:=by
 subst O;exact wK n0 H hH hm hT kp km cs h hgs fs hD hZ hlen hex hob hQ
end
end Go.Proofs.YtmbkanpapkhnaaaGreat.Sym
namespace Go.Proofs.YtmbkanpapkhnaaaGreat
open Go.RowKit Sym
def app{α : Type}(l:List α):Dec (List α)->Dec (List α)
 | .error e=>.error e
 | .ok (r,s)=>.ok (l++r,s)
def Jx:Option Int->Nat->Bool
 |none,_=>false
 |some q,k=>decide ((k:Int)<=q)
def Eo:Nat->Option Int->List UInt8->Dec (List Itm)
 |0,_,s=>.ok ([],s)
 |n+1,p,s=>match wM s with
  | .error e=>.error e
  | .ok (k,r)=>if Jx p k then .error 3 else match JE r with
   | .error e=>.error e
   | .ok (t,r2)=>if 64<t.length then .error 3 else app [⟨k,mkB t⟩] (Eo n (some k) r2)
def zI(s:List UInt8):Dec (List Itm):=match wM s with
 | .error e=>.error e
 | .ok (n,r)=>if 16<n then .error 3 else Eo n none r
def Cv(s:List UInt8):Dec Lab:=match wM s with
 | .error e=>.error e
 | .ok (n,r)=>if n=0 then .ok (D6,r)else if n=1 then JG r else .error 3
def fin(r:Rec)(rest:List UInt8):Except Int Rec:=if rest=[]then .ok r else .error 3
def Cw(k:Nat)(l:List Itm)(nx:Lab)(s:List UInt8):Dec Rec:=if k=5 then(match wM s with
  | .error e=>.error e
  | .ok (v,r)=>.ok (⟨k,l,nx,v⟩,r))else .ok (⟨k,l,nx,0⟩,s)
def Cy(k:Nat)(s:List UInt8):Dec Rec:=match zI s with
 | .error e=>.error e
 | .ok (l,r)=>match Cv r with
  | .error e=>.error e
  | .ok (nx,r2)=>Cw k l nx r2
def JF(s:List UInt8):Dec Rec:=match wM s with
 | .error e=>.error e
 | .ok (k,r)=>if k<1 \/ 5<k then .error 3 else if P1 k then .ok (⟨k,[],D6,0⟩,r)else Cy k r
def Gm(s:List UInt8):Except Int Rec:=match JF s with
 | .error e=>.error e
 | .ok (r,rest)=>fin r rest
section
variable {m k:Nat} {p:Option Int} {s r r2 t:List UInt8} {e:Int}
end
def d4(f:Nat->Itm)(i:Nat):List Itm:=(List.range i).map f
def cm(f:Nat->Itm)(i:Nat)(x:Itm):Nat->Itm:=fun t=>if t=i then x else f t
theorem cg(f:Nat->Itm)(i:Nat)(x:Itm):d4 (cm f i x) (i+1)=d4 f i ++ [x]:=by
 unfold d4;rw[List.range_succ,List.map_append]
 congr 1
 .apply List.map_congr_left
  intro t ht;have:=List.mem_range.1 ht;simp[cm,show ¬t=i by omega]
 simp[cm]
theorem i6(f:Nat->Itm)(i:Nat):(d4 f i).length=i:=by simp[d4]
theorem s7(f:Nat->Itm)(n:Nat):∀t,t<n->itF (d4 f n) t=f t:=by
 intro t ht;simp[itF,d4,List.getD,ht]
structure RN where
 n:Nat
 f:Nat->Itm
 kd:Int
 nx:Lab
 mrk:Int
def RN.abs(r:RN):Rec:=⟨r.kd,d4 r.f r.n,r.nx,r.mrk⟩
def Rec.rn(r:Rec):RN:=⟨r.items.length,itF r.items,r.kind,r.next,r.mark⟩
theorem iA(l:List Itm):d4 (itF l) l.length=l:=by
 apply List.ext_getElem
 .simp [d4]
 intro i h1 h2;simp[d4,itF,List.getD,h2]
theorem Z4(r:Rec):r.rn.abs=r:=by
 obtain⟨k,l,nx,mk⟩:=r;simp only[Rec.rn,RN.abs,iA]
theorem rR{f g:Nat->Itm}{n:Nat}(h:∀t,t<n->f t=g t):okF f n=okF g n:=by
 unfold okF;rw[Bool.eq_iff_iff,List.all_eq_true,List.all_eq_true];have e:∀t,t<n->eo f t=eo g t:=fun t ht=>by
  unfold eo;rw[h t ht,h (t-1) (by omega)]
 constructor
 .intro h1 t ht;rw[<-e t (List.mem_range.1 ht)];exact h1 t ht
 intro h1 t ht;rw[e t (List.mem_range.1 ht)];exact h1 t ht
theorem ea(r:RN):isR r.abs=N7 r.kd r.n r.f r.nx r.mrk:=by
 unfold isR RN.abs;simp only[i6];rw[kH,kH,rR fun t ht=>s7 r.f r.n t ht]
structure Spo where
 ver:Int
 has:Bool
 r:Rec
deriving DecidableEq
def tp:Spo:=⟨0,false,j3⟩
abbrev Shf:=List (Lab×Spo)
def J9(a b:Lab):Bool:=decide (a.bits<b.bits)||(decide (a.bits=b.bits)&&decide (a.len<b.len))
theorem un{a b:Lab}(h1:a.len=b.len)(h2:a.bits=b.bits):a=b:=by
 obtain⟨x,y⟩:=a;obtain⟨x',y'⟩:=b;simp only at h1 h2;rw[h1,h2]
theorem qk(a:Lab):J9 a a=false:=by simp[J9]
theorem ae{a b c:Lab}(h1:J9 a b=true)(h2:J9 b c=true):J9 a c=true:=by
 simp only[J9,Bool.or_eq_true,Bool.and_eq_true,decide_eq_true_eq]at *;omega
theorem ah(a b:Lab):J9 a b=true \/ a=b \/ J9 b a=true:=by
 simp only[J9,Bool.or_eq_true,Bool.and_eq_true,decide_eq_true_eq]
 by_cases h1:a.bits<b.bits
 .exact .inl (.inl h1)
 by_cases h2:b.bits<a.bits
 .exact .inr (.inr (.inl h2))
 by_cases h3:a.len<b.len
 .exact .inl (.inr ⟨by omega,h3⟩)
 by_cases h4:b.len<a.len
 .exact .inr (.inr (.inr ⟨by omega,h4⟩))
 exact .inr (.inl (un (by omega) (by omega)))
theorem fR{a b:Lab}(h:J9 a b=true):a≠b:=by
 rintro rfl;rw[qk]at h;cases h
def iG(L:Shf):Prop:=L.Pairwise fun a b=>J9 a.1 b.1=true
def vH(l:Lab):Shf->Nat
 | []=>0
 |p::L=>if J9 p.1 l then vH l L+1 else 0
def B2(l:Lab):Shf->Option Spo
 | []=>none
 |p::L=>if p.1=l then some p.2 else B2 l L
def Z5(l:Lab)(x:Spo):Shf->Shf
 | []=>[(l,x)]
 |p::L=>if J9 p.1 l then p::Z5 l x L else if p.1=l then(l,x)::L else(l,x)::p::L
theorem Bw(l:Lab):∀L:Shf,vH l L<=L.length
 | []=>Nat.le_refl _
 |p::L=>by
  unfold vH
  split
  .have:=Bw l L;simp;omega
  simp
theorem ci{l:Lab}:∀{L:Shf},(∀p∈L,J9 l p.1=true)->B2 l L=none
 | [],_=>rfl
 |p::L,h=>by
  unfold B2;rw[if_neg (fun e=>fR (h p (by simp)) e.symm)];exact ci fun q hq=>h q (by simp[hq])
theorem Bv{l:Lab}:∀{L:Shf},iG L->(∀p,L[vH l L]? = some p->(if p.1=l then B2 l L=some p.2 else B2 l L=none))/\(L[vH l L]? = none->B2 l L=none)
 | [],_=>⟨fun p h=>by simp at h,fun _=>rfl⟩
 |p::L,h=>by
  have h':=List.pairwise_cons.1 h;unfold vH
  by_cases hp:J9 p.1 l=true
  .rw [if_pos hp]
   obtain⟨g1,g2⟩:=Bv (l:=l) h'.2;simp only[List.getElem?_cons_succ];unfold B2;rw[if_neg (fR hp)];exact⟨g1,g2⟩
  rw[if_neg hp];simp only[List.getElem?_cons_zero,Option.some.injEq];refine⟨?_,fun h=>by cases h⟩
  rintro q rfl
  unfold B2
  by_cases he:p.1=l
  .rw [if_pos he,if_pos he]
  rw[if_neg he,if_neg he];refine ci fun q hq=>?_
  rcases ah p.1 l with h1|h1|h1
  .exact absurd h1 hp
  .exact absurd h1 he
  exact ae h1 (h'.1 q hq)
theorem gi(l:Lab)(x:Spo)(l':Lab):∀L:Shf,B2 l' (Z5 l x L)=if l=l' then some x else B2 l' L
 | []=>by simp[Z5,B2]
 |p::L=>by
  unfold Z5
  split
  .rename_i hp
   unfold B2;rw[gi l x l' L]
   by_cases h1:p.1=l'
   .rw [if_pos h1,if_pos h1]
    by_cases h2:l=l'
    .exact absurd (h1.trans h2.symm) (fR hp)
    rw[if_neg h2]
   rw[if_neg h1,if_neg h1]
  split
  .rename_i _ hp
   unfold B2
   by_cases h2:l=l'
   .rw [if_pos h2,if_pos h2]
   rw[if_neg h2,if_neg h2,if_neg (by rw[hp];exact h2)]
  show(if l=l' then some x else B2 l' (p::L))=_
  rfl
theorem dU(l:Lab)(x:Spo):∀{L:Shf},iG L->(Z5 l x L).length=if(B2 l L).isSome then L.length else L.length+1
 | [],_=>rfl
 |p::L,h=>by
  have h':=List.pairwise_cons.1 h;unfold Z5 B2
  split
  .rename_i hp
   rw[if_neg (fR hp),List.length_cons,dU l x h'.2]
   split<;>rfl
  split
  .rfl
  rename_i hp he
  rw[ci fun q hq=>?_]
  .rfl
  rcases ah p.1 l with h1|h1|h1
  .exact absurd h1 hp
  .exact absurd h1 he
  exact ae h1 (h'.1 q hq)
theorem Y4{l:Lab}{x:Spo}:∀{L:Shf} {p:Lab×Spo},p∈Z5 l x L->p=(l,x) \/ p∈L
 | [],p,h=>by simp[Z5]at h;exact .inl h
 |q::L,p,h=>by
  unfold Z5 at h
  split at h
  .rcases List.mem_cons.1 h with rfl|h
   .exact .inr (by simp)
   rcases Y4 h with h|h
   .exact .inl h
   exact .inr (by simp[h])
  split at h
  .rcases List.mem_cons.1 h with rfl|h
   .exact .inl rfl
   exact .inr (by simp[h])
  rcases List.mem_cons.1 h with rfl|h
  .exact .inl rfl
  exact .inr h
theorem dT{l:Lab}{x:Spo}:∀{L:Shf},iG L->iG (Z5 l x L)
 | [],_=>List.pairwise_singleton _ _
 |p::L,h=>by
  have h':=List.pairwise_cons.1 h;unfold Z5
  split
  .rename_i hp
   refine List.pairwise_cons.2 ⟨fun q hq=>?_,dT h'.2⟩
   rcases Y4 hq with rfl|hq
   .exact hp
   exact h'.1 q hq
  rename_i hp
  split
  .rename_i he
   exact List.pairwise_cons.2 ⟨fun q hq=>by simp only;rw[<-he];exact h'.1 q hq,h'.2⟩
  rename_i he
  have hl:J9 l p.1=true:=by
   rcases ah p.1 l with h1|h1|h1
   .exact absurd h1 hp
   .exact absurd h1 he
   exact h1
  refine List.pairwise_cons.2 ⟨fun q hq=>?_,h⟩
  rcases List.mem_cons.1 hq with rfl|hq
  .exact hl
  exact ae hl (h'.1 q hq)
structure Rw where
 lab:Lab
 ver:Int
 r:Rec
deriving DecidableEq
def eE:Rw:=⟨⟨0,0⟩,0,j3⟩
def cM:List Rw->Shf->Option Shf
 | [],L=>some L
 |w::l,L=>if(B2 w.lab L).isSome || !isL w.lab || !isR w.r then none else cM l (Z5 w.lab ⟨w.ver,true,w.r⟩ L)
def aL(l:List Rw):Option Shf:=if 2000<l.length then none else cM l []
structure Got where
 code:Int
 ver:Int
 has:Bool
 r:Rec
deriving DecidableEq
def G4:Got:=⟨0,0,false,j3⟩
structure Wnt where
 kind:Int
 lab:Lab
 ver:Int
 r:Rec
structure Did where
 L:Shf
 wrote:Bool
 got:Got
 err:Int
def inc(v:Int):Int:=IntKind.u64.wrap (v+1)
def BF(w:Wnt):Spo:=⟨inc w.ver,decide (w.kind=2),if w.kind=2 then w.r else j3⟩
def u9(L:Shf)(l:Lab):Spo:=(B2 l L).getD tp
def doL(L:Shf)(w:Wnt):Did:=
 if(w.kind=1 \/ w.kind=2 \/ w.kind=3)/\isL w.lab=true/\(w.kind=2->isR w.r=true)then
  (if w.kind=1 then⟨L,false,⟨0,(u9 L w.lab).ver,(u9 L w.lab).has,(u9 L w.lab).r⟩,0⟩
  else if w.ver≠(u9 L w.lab).ver then⟨L,false,⟨8,(u9 L w.lab).ver,false,j3⟩,0⟩
  else if(B2 w.lab L).isNone/\2000<=L.length then⟨L,false,G4,12⟩
  else⟨Z5 w.lab (BF w) L,true,⟨0,inc w.ver,false,j3⟩,0⟩)
 else⟨L,false,G4,1⟩
end Go.Proofs.YtmbkanpapkhnaaaGreat
namespace Go.Proofs.YtmbkanpapkhnaaaGreat.Sym
open Go Go.RowKit
structure RA where
 A:Option Addr
 c:Nat
 r:RN
abbrev nX(x:RA):List AV:=[.int .i64 x.r.kd,.sl none x.A x.r.n x.c 2 (fun i=>itC (x.r.f i)),.int .i64 x.r.nx.len,.int .u64 x.r.nx.bits,.int .u64 x.r.mrk]
abbrev N6(x:RA):AV:=.agg (nX x)
def zRN:RN:=⟨0,fun _=>C0,0,⟨0,0⟩,0⟩
def zRA:RA:=⟨none,0,zRN⟩
structure B1 where
 lab:Lab
 ver:Int
 x:RA
abbrev G2(w:B1):List AV:=[.int .i64 w.lab.len,.int .u64 w.lab.bits,.int .u64 w.ver,.int .i64 w.x.r.kd,.sl none w.x.A w.x.r.n w.x.c 2 (fun i=>itC (w.x.r.f i)),.int .i64 w.x.r.nx.len,.int .u64 w.x.r.nx.bits,.int .u64 w.x.r.mrk]
abbrev aT(A:Option Addr)(n c:Nat)(f:Nat->B1):AV:=.sl none A n c 8 (fun i=>G2 (f i))
def xd:B1:=⟨⟨0,0⟩,0,zRA⟩
structure SpA where
 w:B1
 has:Bool
abbrev elC(x:SpA):List AV:=[.int .u64 x.w.ver,.bool (.v x.has),.int .i64 x.w.x.r.kd,.sl none x.w.x.A x.w.x.r.n x.w.x.c 2 (fun i=>itC (x.w.x.r.f i)),.int .i64 x.w.x.r.nx.len,.int .u64 x.w.x.r.nx.bits,.int .u64 x.w.x.r.mrk]
def zSp:SpA:=⟨xd,false⟩
structure r5 where
 code:Int
 ver:Int
 has:Bool
 x:RA
abbrev N9(g:r5):List AV:=[.int .i64 g.code,.int .u64 g.ver,.bool (.v g.has),.int .i64 g.x.r.kd,.sl none g.x.A g.x.r.n g.x.c 2 (fun i=>itC (g.x.r.f i)),.int .i64 g.x.r.nx.len,.int .u64 g.x.r.nx.bits,.int .u64 g.x.r.mrk]
abbrev F4(g:r5):AV:=.agg (N9 g)
def jv:r5:=⟨0,0,false,zRA⟩
structure xa where
 code:Int
 had:Bool
 val:ByteArray
 A:Option Addr
 n:Nat
 c:Nat
 f:Nat->Itm
 key:Int
 more:Bool
structure F7 where
 kind:Int
 lab:Lab
 ver:Int
 x:RA
 s:xa
abbrev V6(w:F7):List AV:=[.int .i64 w.kind,.int .i64 w.lab.len,.int .u64 w.lab.bits,.int .u64 w.ver,.int .i64 w.x.r.kd,.sl none w.x.A w.x.r.n w.x.c 2 (fun i=>itC (w.x.r.f i)),.int .i64 w.x.r.nx.len,.int .u64 w.x.r.nx.bits,.int .u64 w.x.r.mrk,.int .i64 w.s.code,.bool (.v w.s.had),.str w.s.val,.sl none w.s.A w.s.n w.s.c 2 (fun i=>itC (w.s.f i)),.int .u64 w.s.key,.bool (.v w.s.more)]
abbrev E8(w:F7):AV:=.agg (V6 w)
def B1.abs(w:B1):Rw:=⟨w.lab,w.ver,w.x.r.abs⟩
def r5.abs(g:r5):Got:=⟨g.code,g.ver,g.has,g.x.r.abs⟩
def F7.abs(w:F7):Wnt:=⟨w.kind,w.lab,w.ver,w.x.r.abs⟩
def Q4{α β : Type}(h:α->β)(g:Nat->α)(n:Nat):List β:=(List.range n).map fun i=>h (g i)
theorem Q3{α β : Type}(h:α->β)(g:Nat->α)(n:Nat):(Q4 h g n).length=n:=by simp[Q4]
theorem mA{α β : Type}(h:α->β)(g:Nat->α){n i:Nat}(hi:i<n):(Q4 h g n)[i]? = some (h (g i)):=by simp[Q4,hi]
theorem kw{α β : Type}(h:α->β)(g:Nat->α)(n:Nat):Q4 h g (n+1)=Q4 h g n ++ [h (g n)]:=by simp[Q4,List.range_succ]
abbrev G5(f:Nat->B1)(n:Nat):List Rw:=Q4 B1.abs f n
theorem E7.length:∀{l l':List AV},E7 l l'->l.length=l'.length
 | [],[],_=>rfl
 |v::l,v'::l',h=>by simp only[List.length_cons,E7.length h.2]
 | [],_::_,h=>h.elim
 |_::_,[],h=>h.elim
theorem Sim.rows{g g':Option Nat}{A:Option Addr}{n n' c k:Nat}{f f':Nat->List AV}(hn:n=n')(he:∀i,i<n'->E7 (f i) (f' i)):Sim (.sl g A n c k f) (.sl g' A n' c k f'):=by
 subst hn;refine⟨rfl,fun _=>rfl,fun m w h=>?_⟩
 cases h with
 |sl _ _ _ _ _ _ h1 h2 h3 h4 h5 h6 h7=>
  exact .sl _ _ _ _ _ _ h1 h2 (fun i hi=>by rw[<-(he i hi).length];exact h3 i hi) h4 (fun i hi=>by rw[<-(he i hi).map];exact h5 i hi) (fun i hi=>(he i hi).one (h6 i hi)) (fun i hi=>(he i hi).ok (h7 i hi))
theorem f7.memS{C:Cx}{nt:Nat}{l:List (Nat×AV)}{mem:List (Nat×Blk)}{gr:List (Nat×Gr)}{a:Act}{w:World}{k b ty:Nat}{cells cells':List AV}(h:f7 C ⟨nt,l,[],(k,⟨b,ty,cells⟩)::mem,gr⟩ a w)(e:E7 cells cells'):f7 C ⟨nt,l,[],(k,⟨b,ty,cells'⟩)::mem,gr⟩ a w:=by
 have hto:∀k' e',i8 ((k,(⟨b,ty,cells'⟩:Blk))::mem) k'=some e'->∃e0,i8 ((k,(⟨b,ty,cells⟩:Blk))::mem) k'=some e0/\e0.at_=e'.at_/\e0.ty=e'.ty/\E7 e0.cells e'.cells:=by
  intro k' e' he;simp only[i8]at he ⊢
  split at he
  .rename_i hk;injection he with he;subst he;exact⟨⟨b,ty,cells⟩,by rw[if_pos hk],rfl,rfl,e⟩
  rename_i hk;exact⟨e',by rw[if_neg hk];exact he,rfl,rfl,zl⟩
 have hfro:∀k' e',i8 ((k,(⟨b,ty,cells⟩:Blk))::mem) k'=some e'->∃e0,i8 ((k,(⟨b,ty,cells'⟩:Blk))::mem) k'=some e0/\e0.at_=e'.at_:=by
  intro k' e' he;simp only[i8]at he ⊢
  split at he
  .rename_i hk;injection he with he;subst he;exact⟨⟨b,ty,cells'⟩,by rw[if_pos hk],rfl⟩
  rename_i hk;exact⟨e',by rw[if_neg hk];exact he,rfl⟩
 have hm:St.m ⟨nt,l,[],(k,⟨b,ty,cells'⟩)::mem,gr⟩ C=St.m ⟨nt,l,[],(k,⟨b,ty,cells⟩)::mem,gr⟩ C:=by
  funext x o
  apply propext
  constructor
  .rintro (h|⟨k',e',he,hx⟩|h)
   .exact .inl h
   .obtain ⟨e0,h1,h2,_⟩:=hto k' e' he
    exact .inr (.inl ⟨k',e0,h1,h2.trans hx⟩)
   exact .inr (.inr h)
  rintro(h|⟨k',e',he,hx⟩|h)
  .exact .inl h
  .obtain ⟨e0,h1,h2⟩:=hfro k' e' he
   exact .inr (.inl ⟨k',e0,h1,h2.trans hx⟩)
  exact .inr (.inr h)
 refine⟨h.size,h.defers,fun t ht=>by rw[hm];exact h.slot t ht,fun t p v he hk=>(by cases he),fun k' e' he=>?_,fun k1 k2 e1 e2 h1 h2 hne=>?_,h.gr,fun k1 t k2 e2 h1 h2=>?_,h.sepg,h.chg,h.m0,by rw[hm];exact h.kept⟩
 .rw [hm]
  obtain⟨e0,h1,h2,h3,h4⟩:=hto k' e' he;obtain⟨g1,g2,g3⟩:=h.mem k' e0 h1;refine⟨?_,fun v hv=>⟨h4.one (fun v hv=>(g2 v hv).1) v hv,h4.ok (fun v hv=>(g2 v hv).2) v hv⟩,by rw[<-h2];exact g3⟩;rw[<-h2,<-h3,<-h4.map];exact g1
 .obtain ⟨a1,b1,c1,_⟩:=hto k1 e1 h1
  obtain⟨a2,b2,c2,_⟩:=hto k2 e2 h2;rw[<-c1,<-c2];exact h.nodup k1 k2 a1 a2 b1 b2 hne
 obtain⟨a2,b2,c2,_⟩:=hto k2 e2 h2;rw[<-c2];exact h.sepm k1 t k2 a2 h1 b2
theorem f7.regr{C:Cx}{nt:Nat}{l:List (Nat×AV)}{mem:List (Nat×Blk)}{k:Nat}{A:Option Addr}{n n' c kk e:Nat}{gr:List (Nat×Gr)}{a:Act}{w:World}(h:f7 C ⟨nt,l,[],mem,(k,⟨A,n,c,kk,e⟩)::gr⟩ a w)(hn:n=n'):f7 C ⟨nt,l,[],mem,(k,⟨A,n',c,kk,e⟩)::gr⟩ a w:=hn ▸ h
def putG(g:Nat->SpA)(p:Nat)(x:SpA)(h:Nat):Nat->SpA:=fun i=>if i<p then g i else if i=p then x else g (i-1+h)
theorem rK(A:Option Addr)(c:Nat){r r':RN}(h:r.abs=r'.abs):E7 (nX ⟨A,c,r⟩) (nX ⟨A,c,r'⟩):=by
 obtain⟨n,f,kd,nx,mrk⟩:=r;obtain⟨n',f',kd',nx',mrk'⟩:=r';simp only[RN.abs,Rec.mk.injEq]at h;obtain⟨rfl,h2,rfl,rfl⟩:=h;have hn:n=n':=by rw[<-i6 f n,h2,i6]
 subst hn;refine⟨zr,Sim.recell (fun t ht=>?_),zr,zr,zr,trivial⟩
 show itC (f t)=itC (f' t)
 rw[<-s7 f n t ht,h2,s7 f' n t ht]
theorem lG(r:Rec):r.rn.abs=r:=Z4 r
def spY(A:Option Addr)(c:Nat)(g:Nat->SpA)(A1:Option Addr)(c1:Nat)(b:Nat):j1:=⟨b,fun j=>match j with|0=>A|1=>A1|j+2=>(g j).w.x.A,fun j=>match j with|0=>c|1=>c1|j+2=>(g j).w.x.c,fun _=>⟨#[]⟩⟩
def ba(y:j1)(g:Got):r5:=⟨g.code,g.ver,g.has,⟨y.A 1,y.c 1,g.r.rn⟩⟩
theorem Ci{A A1:Option Addr}{c c1 b:Nat}{g:Nat->SpA}{v:r5}{G:Got}(h:v.abs=G)(hA:v.x.A=A1)(hc:v.x.c=c1):E7 (N9 v) (N9 (ba (spY A c g A1 c1 b) G)):=by
 subst h;subst hA;subst hc;have hr:=rK v.x.A v.x.c (r:=v.x.r) (r':=v.x.r.abs.rn) (lG _).symm;exact⟨zr,zr,zr,hr.1,hr.2.1,hr.2.2.1,hr.2.2.2.1,hr.2.2.2.2.1,trivial⟩
def jO(y:j1)(R:List Rw)(i:Nat):B1:=⟨(R.getD i eE).lab,(R.getD i eE).ver,⟨y.A (i+2),y.c (i+2),(R.getD i eE).r.rn⟩⟩
theorem vr(y:j1)(R:List Rw):G5 (jO y R) R.length=R:=by
 apply List.ext_getElem
 .simp [Q4]
 intro i h1 h2;simp only[Q4,List.getElem_map,List.getElem_range,jO,B1.abs,lG];simp[List.getD,h2]
def rwY(A:Option Addr)(c:Nat)(f:Nat->B1)(b:Nat):j1:=⟨b,fun j=>match j with|0=>A|1=>none|j+2=>(f j).x.A,fun j=>match j with|0=>c|1=>0|j+2=>(f j).x.c,fun _=>⟨#[]⟩⟩
theorem AZ{f:Nat->B1}{n:Nat}{R:List Rw}(h:G5 f n=R){i:Nat}(hi:i<n):(f i).abs=R.getD i eE:=by
 rw[<-h];simp[List.getD,mA B1.abs f hi]
theorem AY{A:Option Addr}{n c b:Nat}{f:Nat->B1}{R:List Rw}(h:G5 f n=R){gg:Option Nat}:Sim (.sl gg A n c 8 (fun i=>G2 (f i))) (aT A R.length c (jO (rwY A c f b) R)):=by
 have hn:n=R.length:=by rw[<-h,Q3]
 refine Sim.rows hn fun i hi=>?_
 have e:jO (rwY A c f b) R i=⟨(R.getD i eE).lab,(R.getD i eE).ver,⟨(f i).x.A,(f i).x.c,(R.getD i eE).r.rn⟩⟩:=rfl;rw[e,<-AZ h (show i<n by omega)];have hr:=rK (f i).x.A (f i).x.c (r:=(f i).x.r) (r':=(f i).x.r.abs.rn) (lG _).symm;exact⟨zr,zr,zr,hr.1,hr.2.1,hr.2.2.1,hr.2.2.2.1,hr.2.2.2.2.1,trivial⟩
theorem tR{m:Nat->Nat->Prop}{w:World}{g:Option Nat}{A:Option Addr}{n c k:Nat}{cells:Nat->List AV}(h:Ok m w (.sl g A n c k cells)){i:Nat}(hi:i<n):∀v∈cells i,Ok m w v:=by
 cases h with|sl _ _ _ _ _ _ h1 h2 h3 h4 h5 h6 h7=>exact h7 i hi
theorem xF{m:Nat->Nat->Prop}{w:World}{g:Option Nat}{A:Option Addr}{n c:Nat}{f:Nat->B1}(h:Ok m w (.sl g A n c 8 (fun i=>G2 (f i)))):∀i,i<n->(f i).x.r.n<=maxLen:=by
 intro i hi;have:=rQ (tR h hi (.sl none (f i).x.A (f i).x.r.n (f i).x.c 2 (fun t=>itC ((f i).x.r.f t))) (by simp));omega
def EH(f:Nat->B1):Nat->Int
 |0=>0
 |i+1=>IntKind.i64.wrap (EH f i+((f i).x.r.n:Int))
def wX(f:Nat->B1)(n:Nat):Bool:=(List.range n).any fun i=>iV (f i).x.r.n (f i).x.r.f
def qT(n:Nat)(f:Nat->B1):Bool:=decide (300<n)||wX f n||decide (3000<EH f n)
theorem sY{f:Nat->B1}{n:Nat}(h:wX f n=false):∀i,i<n->iV (f i).x.r.n (f i).x.r.f=false:=by
 intro i hi;unfold wX at h;rw[List.any_eq_false]at h
 simpa using h i (List.mem_range.2 hi)
theorem wV{f:Nat->B1}{n i:Nat}(hi:i<n)(h:iV (f i).x.r.n (f i).x.r.f=true):wX f n=true:=List.any_eq_true.2 ⟨i,List.mem_range.2 hi,h⟩
theorem wW{f:Nat->B1}{n:Nat}(h:∀i,i<n->iV (f i).x.r.n (f i).x.r.f=false):wX f n=false:=by
 unfold wX;rw[List.any_eq_false];intro i hi;simp[h i (List.mem_range.1 hi)]
theorem Ac{n:Nat}{f:Nat->Itm}(h:iV n f=false):n<=40:=by
 unfold iV at h;simp only[Bool.or_eq_false_iff,decide_eq_false_iff_not]at h;omega
theorem vQ{f:Nat->B1}{n i:Nat}{L:Shf}(hi:i<n):cM ((G5 f n).drop i) L=if(B2 (f i).lab L).isSome || !isL (f i).lab || !isR (f i).x.r.abs then none else cM ((G5 f n).drop (i+1)) (Z5 (f i).lab ⟨(f i).ver,true,(f i).x.r.abs⟩ L):=by
 have hl:i<(G5 f n).length:=by rw[Q3];exact hi
 have e:(G5 f n).drop i=(f i).abs::(G5 f n).drop (i+1):=by
  rw[List.drop_eq_getElem_cons hl]
  congr 1
  simp[Q4]
 rw[e];rfl
theorem yO:laidOutB Tryz.prog=true:=by kernel_rfl
theorem ul:(24:TypeId)<Tryz.prog.types.size:=of_decide_eq_true (by kernel_rfl)
theorem yN:(match Tryz.prog.underlying 24 with|some (.array _ _)|some (.struct _)=>true|_=>false)=true:=by kernel_rfl
theorem BU:WideMaps.KeyLaw Tryz.prog 24:=deep_law_laid yO (m:=2) (by omega) ul (by kernel_rfl) yN
theorem bY:Maps.Keyed Tryz.prog 24:=Maps.Keyed.of_law BU
theorem dv:Tryz.prog.underlying 93=some (.map 24 97):=by kernel_rfl
def o9(l:Lab):Prop:=(Lit.int .i64 l.len).wf=true/\(Lit.int .u64 l.bits).wf=true
def I0(l:Lab):Lit:=.string (keyBytes [.int .i64 l.len,.int .u64 l.bits])
theorem K8{l:Lab}(h:o9 l):Go.keyOf Tryz.prog 24 (i9 l).den=some (I0 l):=by
 obtain⟨h1,h2⟩:=h;have hu:Tryz.prog.underlying 24=some (.struct _):=Tryz.underlying24;have hi:Tryz.prog.underlying 3=some (.int .i64):=by kernel_rfl
 have hb:Tryz.prog.underlying 22=some (.int .u64):=by kernel_rfl
 have hk:Tryz.prog.keyType 24=true:=by kernel_rfl
 have hc:Tryz.prog.cellsOf 24=2:=by kernel_rfl
 have hci:Tryz.prog.cellsOf 3=1:=by kernel_rfl
 have hcb:Tryz.prog.cellsOf 22=1:=by kernel_rfl
 obtain⟨m,hm⟩:=Nat.exists_eq_succ_of_ne_zero (n:=Tryz.prog.types.size) (by have:=ul;intro h;rw[h]at this;exact absurd this (Nat.not_lt_zero _));simp[Go.keyOf,hu,hk,Value.formed,hc,i9,AV.den,AV.denL,hm,Program.keyLits,Value.cells,hci,hcb,hi,hb,h1,h2,I0]
theorem dB{l l':Lab}(h:o9 l)(h':o9 l')(e:I0 l=I0 l'):l=l':=by
 have:=bY.inj (K8 h) (e ▸ K8 h');simp[i9,AV.den,AV.denL]at this;exact un this.1 this.2
theorem qi{P:Program}{K:TypeId}{w:World}{b n n':Nat}{D D':DataW Value}(h:Q7 P K w b n D)(h':Q7 P K w b n' D'):D=D':=by
 obtain⟨es,cl,hb,F,hs,hD⟩:=h;obtain⟨es',cl',hb',F',hs',hD'⟩:=h';rw[hb]at hb';injection hb' with hb';injection hb' with e1 e2
 subst e1;rw[hD,hD']
theorem mr{P:Program}{K:TypeId}{w:World}{b n:Nat}{D:DataW Value}(h:Q7 P K w b n D):Q7 P K w b (Maps.size D) D:=by
 obtain⟨es,cl,hb,F,hs,hD⟩:=h;refine⟨es,cl,hb,F,?_,hD⟩;rw[hD];simp[Maps.size,length_sorted]
abbrev Adr:=Lab->Option Addr×Nat
abbrev elA(E:Adr)(l:Lab)(x:Spo):SpA:=⟨⟨l,x.ver,⟨(E l).1,(E l).2,x.r.rn⟩⟩,x.has⟩
structure ShD(D:DataW Value)(E:Adr)(b:Nat)(L:Shf)(m:Nat->Nat->Prop)(w:World):Prop where
 map:Q7 Tryz.prog 24 w b L.length D
 ris:iG L
 labs:∀p∈L,o9 p.1
 has:∀kl,Maps.has D kl=true ↔ ∃p∈L,I0 p.1=kl
 size:Maps.size D=L.length
 at_:∀p∈L,∀zd,D.atKey (I0 p.1) zd = .held (AV.agg (elC (elA E p.1 p.2))).den
 ok:∀p∈L,Ok m w (.agg (elC (elA E p.1 p.2)))
theorem ShD.keep{D:DataW Value}{E:Adr}{b:Nat}{L:Shf}{m m':Nat->Nat->Prop}{w w':World}(h:ShD D E b L m w)(k:au w m w' m'):ShD D E b L m' w':=
 ⟨mu k h.map,h.ris,h.labs,h.has,h.size,h.at_,fun p hp=>k.ok (h.ok p hp)⟩
def shD(D:DataW Value)(E:Adr)(b:Nat)(L:Shf):Kn:=⟨ShD D E b L,fun k h=>h.keep k⟩
def shK(b:Nat)(L:Shf):Kn:=⟨fun m w=>∃D E,ShD D E b L m w,fun k ⟨D,E,h⟩=>⟨D,E,h.keep k⟩⟩
def shF(N b:Nat)(L:Shf):Kn:=⟨fun m w=>N<=b/\(shK b L).p m w,fun k h=>⟨h.1,(shK b L).st k h.2⟩⟩
theorem bj{l:Lab}{x:Spo}:∀{L:Shf},B2 l L=some x->(l,x)∈L
 |p::L,h=>by
  unfold B2 at h
  split at h
  .rename_i he;injection h with h;subst h;subst he;exact List.mem_cons_self ..
  exact List.mem_cons_of_mem _ (bj h)
theorem fM{p:Lab×Spo}:∀{L:Shf},iG L->p∈L->B2 p.1 L=some p.2
 |q::L,h,hp=>by
  have h':=List.pairwise_cons.1 h;unfold B2
  rcases List.mem_cons.1 hp with rfl|hp
  .rw [if_pos rfl]
  rw[if_neg (fR (h'.1 p hp))];exact fM h'.2 hp
def ru:Value:=.agg #[.int .u64 0,.bool false,.int .i64 0,.slice none 0 0,.int .i64 0,.int .u64 0,.int .u64 0]
theorem rt(w:World):(zeroValue 97).run Tryz.prog w = .ok ru w:=by kernel_rfl
section
variable {D:DataW Value} {E:Adr} {b:Nat} {L:Shf} {m:Nat->Nat->Prop} {w:World} {l:Lab}
theorem ShD.hasL(h:ShD D E b L m w)(hl:o9 l):Maps.has D (I0 l)=(B2 l L).isSome:=by
 cases hf:B2 l L with
 |some x=>exact(h.has _).2 ⟨(l,x),bj hf,rfl⟩
 |none=>
  rw[Option.isSome_none,Bool.eq_false_iff];intro hh;obtain⟨p,hp,he⟩:=(h.has _).1 hh;have:p.1=l:=dB (h.labs p hp) hl he;rw[<-this,fM h.ris hp]at hf
  cases hf
def adr(E:Adr)(L:Shf):Adr:=fun l=>if(B2 l L).isSome then E l else(none,0)
theorem zy(E:Adr)(hn:B2 l L=none):AV.den (.agg (elC (elA (adr E L) l (u9 L l))))=ru/\∀m w,Ok m w (.agg (elC (elA (adr E L) l (u9 L l)))):=by
 have e1:u9 L l=tp:=by unfold u9;rw[hn];rfl
 have e2:adr E L l=(none,0):=by unfold adr;rw[hn];rfl
 unfold elA;rw[e1,e2];refine⟨rfl,fun m w=>.agg _ (fun v hv=>?_) fun v hv=>?_⟩
 .simp only[elC,List.mem_cons,List.not_mem_nil,or_false]at hv
  rcases hv with rfl|rfl|rfl|rfl|rfl|rfl|rfl<;>rfl
 simp only[elC,List.mem_cons,List.not_mem_nil,or_false]at hv
 rcases hv with rfl|rfl|rfl|rfl|rfl|rfl|rfl
 .exact .int _ _
 .exact .bool _
 .exact .int _ _
 .exact .sl _ _ _ _ _ _ (Nat.le_refl _) (Nat.zero_le _) (fun i hi=>absurd hi (Nat.not_lt_zero _)) (fun i hi=>absurd hi (Nat.not_lt_zero _)) (fun i hi=>absurd hi (Nat.not_lt_zero _)) (fun i hi=>absurd hi (Nat.not_lt_zero _)) (fun i hi=>absurd hi (Nat.not_lt_zero _))
 .exact .int _ _
 .exact .int _ _
 exact .int _ _
theorem ShD.look(h:ShD D E b L m w)(hl:o9 l):D.atKey (I0 l) (.held ru) = .held (AV.agg (elC (elA (adr E L) l (u9 L l)))).den/\Ok m w (.agg (elC (elA (adr E L) l (u9 L l)))):=by
 cases hf:B2 l L with
 |some x=>
  have hm:=bj hf;have e1:u9 L l=x:=by unfold u9;rw[hf];rfl
  have e2:adr E L l=E l:=by unfold adr;rw[hf];rfl
  have e3:elA (adr E L) l (u9 L l)=elA E l x:=by unfold elA;rw[e1,e2]
  rw[e3];exact⟨h.at_ _ hm _,h.ok _ hm⟩
 |none=>
  obtain⟨e1,e2⟩:=zy (L:=L) E hf;refine⟨?_,e2 _ _⟩;rw[e1];exact Maps.atKey_of_not_has (by rw[h.hasL hl,hf];rfl) _
theorem ShD.put(h:ShD D E b L m w)(hl:o9 l){w':World}(k:T2 (some b) w m w' m)(v:Int)(hs:Bool)(x:RA)(hv:Ok m w (.agg (elC ⟨⟨l,v,x⟩,hs⟩)))(hM:Q7 Tryz.prog 24 w' b (L.length+1) (D.put (I0 l) (.held (AV.agg (elC ⟨⟨l,v,x⟩,hs⟩)).den))) :
  ∃D' E',ShD D' E' b (Z5 l ⟨v,hs,x.r.abs⟩ L) m w':=by
 have hsim:Sim (.agg (elC ⟨⟨l,v,x⟩,hs⟩)) (.agg (elC ⟨⟨l,v,⟨x.A,x.c,x.r.abs.rn⟩⟩,hs⟩)):=by
  have hr:=rK x.A x.c (r:=x.r) (r':=x.r.abs.rn) (lG _).symm;exact Sim.agg ⟨zr,zr,hr.1,hr.2.1,hr.2.2.1,hr.2.2.2.1,hr.2.2.2.2.1,trivial⟩
 have hkey:WideAt.IsKeyLit (I0 l):=bY.key (K8 hl);have hmp:Maps.IsMap D:=(h.map.tidy bY).isMap;have hsz:=mr hM;have hlen:Maps.size (D.put (I0 l) (.held (AV.agg (elC ⟨⟨l,v,x⟩,hs⟩)).den))=(Z5 l ⟨v,hs,x.r.abs⟩ L).length:=by
  rw[Maps.size_put (h.map.tidy bY),h.hasL hl,dU l _ h.ris];rw[h.size]
 have hris:=dT (l:=l) (x:=⟨v,hs,x.r.abs⟩) h.ris;have hin:∀p,p∈Z5 l ⟨v,hs,x.r.abs⟩ L↔p=(l,⟨v,hs,x.r.abs⟩) \/ (p∈L/\p.1≠l):=by
  intro p
  constructor
  .intro hp
   have h1:=fM hris hp;rw[gi]at h1
   by_cases he:l=p.1
   .rw [if_pos he]at h1
    injection h1 with h1
    obtain⟨p1,p2⟩:=p;simp only at he h1;subst he;subst h1;exact .inl rfl
   rw[if_neg he]at h1;exact .inr ⟨bj h1,fun e=>he e.symm⟩
  rintro(rfl|⟨hp,hne⟩)
  .exact bj (by rw[gi,if_pos rfl])
  exact bj (x:=p.2) (l:=p.1) (by rw[gi,if_neg (fun e=>hne e.symm)];exact fM h.ris hp)
 have hE:∀p:Lab×Spo,p.1≠l->elA (fun k=>if k=l then(x.A,x.c)else E k) p.1 p.2=elA E p.1 p.2:=fun p hne=>by unfold elA;simp only[if_neg hne]
 have hE2:elA (fun k=>if k=l then(x.A,x.c)else E k) l ⟨v,hs,x.r.abs⟩=⟨⟨l,v,⟨x.A,x.c,x.r.abs.rn⟩⟩,hs⟩:=by unfold elA;simp only[if_true]
 refine⟨_,fun k=>if k=l then(x.A,x.c)else E k,?_,hris,fun p hp=>?_,fun kl=>?_,hlen,fun p hp zd=>?_,fun p hp=>?_⟩
 .rw [hlen]at hsz;exact hsz
 .rcases (hin p).1 hp with rfl|⟨hp,_⟩
  .exact hl
  exact h.labs p hp
 .by_cases he:kl=I0 l
  .subst he
   rw[Maps.has_put_same hmp hkey];exact⟨fun _=>⟨_,(hin _).2 (.inl rfl),rfl⟩,fun _=>rfl⟩
  rw[Maps.has_put_other he,h.has]
  constructor
  .rintro ⟨p,hp,hk⟩
   exact⟨p,(hin p).2 (.inr ⟨hp,fun e=>he (by rw[<-hk,e])⟩),hk⟩
  rintro⟨p,hp,hk⟩
  rcases(hin p).1 hp with rfl|⟨hp,_⟩
  .exact absurd hk.symm he
  exact⟨p,hp,hk⟩
 .rcases (hin p).1 hp with rfl|⟨hp,hne⟩
  .rw [Maps.atKey_put_same hmp hkey,hE2,hsim.1]
  rw[Maps.atKey_put_other (fun e=>hne (dB (h.labs p hp) hl e)),hE p hne];exact h.at_ p hp zd
 rcases(hin p).1 hp with rfl|⟨hp,hne⟩
 .rw [hE2];exact k.ok (hsim.2.2 _ _ hv)
 rw[hE p hne];exact k.ok (h.ok p hp)
theorem mI{m0:Nat->Nat->Prop}{w0:World}{S:Nat->Prop}{ds:List Deferred}{D:DataW Value}{E:Adr}{b:Nat}{L:Shf}{l:Lab}(hl:o9 l){el:SpA}(hel:el=elA (adr E L) l (u9 L l)){hh:Bool}(hhh:hh=(B2 l L).isSome){all:List Oper}{j t1 t2:Nat}(ho:∀o,all[j]? = some o->o.op = .lookup 93 (.tmp t1) (.tmp t2) true) :
  aP ⟨m0,w0,S,ds,shD D E b L⟩ Tryz.prog all (some (j,[.tmp t1,.tmp t2],[.raw (.map (some b)),i9 l],.tup [.agg (elC el),.bool (.v hh)])):=by
 intro i xs args v he o hio s a w Z hv;simp only[Option.some.injEq,Prod.mk.injEq]at he;obtain⟨rfl,rfl,rfl,rfl⟩:=he;have hop:=ho o hio;simp only[R0]at hv
 split at hv
 .split at hv
  .simp only[Option.map_some,Option.some.injEq,List.cons.injEq,and_true]at hv
   obtain⟨h1,h2⟩:=hv;have hSh:ShD D E b L (s.m ⟨m0,w0,S,ds,shD D E b L⟩) w:=Z.kept;obtain⟨g1,g2⟩:=hSh.look hl;subst hel;have hr:=kv hop Z h1 h2 rfl bY dv (rt w) hSh.map (K8 hl) g1;refine⟨?_,.tup _ fun u hu=>?_⟩
   .rw [hr,hSh.hasL hl,<-hhh]
    simp[AV.den,AV.denL,BE.den]
   simp only[List.mem_cons,List.not_mem_nil,or_false]at hu
   rcases hu with rfl|rfl
   .exact g2
   exact .bool _
  simp at hv
 simp at hv
theorem nM{m:Nat->Nat->Prop}{w w':World}{b:Nat}{L:Shf}{l:Lab}{D:DataW Value}{n:Nat}(h0:Q7 Tryz.prog 24 w b n D)(hl:o9 l)(h:(shK b L).p m w)(k:T2 (some b) w m w' m){v:AV}{x:SpA}(hs:Sim v (.agg (elC x)))(hv:Ok m w v)(hM:Q7 Tryz.prog 24 w' b (L.length+1) (D.put (I0 l) (.held v.den))):(shK b (Z5 l ⟨x.w.ver,x.has,x.w.x.r.abs⟩ L)).p m w':=by
 obtain⟨D1,E1,h1⟩:=h;have:=qi h0 h1.map;subst this;rw[hs.1]at hM;exact h1.put hl k x.w.ver x.has x.w.x (hs.2.2 _ _ hv) hM
theorem C1{m:Nat->Nat->Prop}{w:World}{b:Nat}{L:Shf}(h:(shK b L).p m w):∃es cl,w.heap[b]? = some (.map es cl):=by
 obtain⟨D,E,h⟩:=h;obtain⟨es,cl,hb,_⟩:=h.map;exact⟨es,cl,hb⟩
def Q6(L:Shf)(l:Lab)(v xv:Int)(kn:Bool)(z:Spo):Did:=
 if v≠xv then⟨L,false,⟨8,xv,false,j3⟩,0⟩
 else if kn=false/\2000<=L.length then⟨L,false,G4,12⟩
 else⟨Z5 l z L,true,⟨0,z.ver,false,j3⟩,0⟩
section
variable {P:Program} {Q:Exit->Act->World->Prop} {ops:Array Oper}
theorem AJ{a:Act}{w:World}{rest:List Oper}{o:Oper}(hw:Region.wanted o (yielded ops a.tmps)=true)(h:wpList P ops Q ({ o with guard:=none }::rest) a w):wpList P ops Q (o::rest) a w:=by
 unfold wpList at h ⊢;rw[if_pos hw];have:Region.wanted { o with guard:=none } (yielded ops a.tmps)=true:=by simp[Region.wanted]
 rw[if_pos this]at h
 cases o
 exact h
theorem vm{C:Cx}{s:St}{a:Act}{w:World}(Z:f7 C s a w){o:Oper}{j g:Nat}(hg:o.guard=some (j,true))(hd:(ops[j]?).bind (·.dst)=some g)(hv:look s.tmps g = .bool .tt):Region.wanted o (yielded ops a.tmps)=true:=by
 have h:=(Z.slot g (by rw[hv];rfl)).1;rw[hv]at h;simp only[Region.wanted,hg,yielded,hd,Option.bind_some,h];rfl
theorem aK.re{bo:Option Nat}{m:Nat->Nat->Prop}{w w':World}{pre pre':List (Nat×Blk)}{sets sets':List (Nat×List AV)}{news news':List (Nat×Blk)}(h:aK bo m w w' pre sets news)(hp:pre'.map (·.2)=pre.map (·.2))(hs:sets'.map (·.2)=sets.map (·.2))(hk:sets'.map (·.1)=pre'.map (·.1))(hn:news'.map (·.2)=news.map (·.2)):aK bo m w w' pre' sets' news':=by
 have hm:mN m news'=mN m news:=by funext b o;simp only[mN,cw hn]
 have hu:(upd pre' sets'++news').map (·.2)=(upd pre sets++news).map (·.2):=by rw[List.map_append,List.map_append,nC hp hs,hn]
 refine⟨hk,Y7 (p:=fun b=>w'.heap[b.at_]? = some (.cells (b.cells.map AV.den).toArray b.ty (0,0))) hu h.heap,Y7 (p:=fun b=>∀v∈b.cells,v.one=true/\Ok (mN m news') w' v) hu (hm ▸ h.ok),Y7 (p:=fun b=>w.heap.size<=b.at_) hn h.fresh,jX hn h.dist,h.chg.mono fun k hk=>hk.imp (cw hp k).2 id⟩
theorem I5.re{f:FuncId}{args args':List AV}{pre pre':List (Nat×Blk)}{bo:Option Nat}{I:Kn}{res res':j1->CR}{J:Nat->j1->Kn}(h:I5 P f args pre bo I res J)(ha:E7 args' args)(hp:pre'.map (·.2)=pre.map (·.2))
  (hr:∀x,(res' x).sets.map (·.2)=(res x).sets.map (·.2)/\(res' x).sets.map (·.1)=pre'.map (·.1)/\Sim (res x).v (res' x).v/\(res' x).news.map (·.2)=(res x).news.map (·.2)):I5 P f args' pre' bo I res' J:=by
 intro m w h1 h2 h3 hI;rw[ha.map];refine(h m w h1 (ha.ok h2) (h3.re hp.symm) hI).mono ?_
 rintro e w' ⟨x,rfl,hok,hl,hb,hJ⟩
 obtain⟨r1,r2,r3,r4⟩:=hr x;have hm:mN m (res' x).news=mN m (res x).news:=by funext b o;simp only[mN,cw r4]
 exact⟨x,by rw[r3.1],by rw[hm];exact r3.2.2 _ _ hok,hl.re hp r1 r2 r4,hb,by rw[hm];exact hJ⟩
theorem I5.args{f:FuncId}{args args':List AV}{pre:List (Nat×Blk)}{bo:Option Nat}{I:Kn}{res:j1->CR}{J:Nat->j1->Kn}(h:I5 P f args' pre bo I res J)(hs:E7 args args'):I5 P f args pre bo I res J:=by
 intro m w hm ha hp hI;rw[hs.map];exact h m w hm (hs.ok ha) hp hI
end
theorem ShD.empty{m:Nat->Nat->Prop}{w:World}{b:Nat}(h:Q7 Tryz.prog 24 w b 0 (.map []))(E:Adr):ShD (.map []) E b [] m w:=
 ⟨h,.nil,fun p hp=>(by cases hp),fun kl=>⟨fun h=>(by cases h),fun⟨p,hp,_⟩=>(by cases hp)⟩,rfl,fun p hp=>(by cases hp),fun p hp=>(by cases hp)⟩
end
end Go.Proofs.YtmbkanpapkhnaaaGreat.Sym
namespace Go.Proofs.YtmbkanpapkhnaaaGreat
open Go.RowKit Sym
theorem fe(l:List Itm):d4 (itF l) l.length=l:=by
 apply List.ext_getElem
 .simp [d4]
 intro i h1 h2;simp[d4,itF,List.getD,h2]
def iQ(s:ByteArray):Rec:=match Gm (unB s)with
 | .error _=>j3
 | .ok r=>r
end Go.Proofs.YtmbkanpapkhnaaaGreat
