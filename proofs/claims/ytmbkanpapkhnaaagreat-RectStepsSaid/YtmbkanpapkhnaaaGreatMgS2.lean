/-
  Sym8, Sym9, SymKit, SymMan, PlB, PlNum, PlWire, PlDec, PlRec, SymEq, SymLab, SymRd, SymRec1, OpenS08, SymFr, SymArr, SymFz, SymMap, SymHd, PlGet: put together by a program of mine (a claim may have 60 files at most). Conditions: none.
-/
import Derived.Test.YtmbkanpapkhnaaaGreatMgS1
import Derived.Orders
import Derived.OrdersHeld
import Derived.Defers
import Derived.Recover
import Derived.Lib.BitFns
import Derived.ChangeKeysEq
import Derived.Test.YtmbkanpapkhnaaaGreatChecked
import Derived.Lib.BufferWrite
import Derived.Maps.OwnSet
import Derived.Maps.RangeWalk
import Derived.Maps.Ext
set_option linter.unusedVariables false
set_option linter.unusedSimpArgs false
set_option maxRecDepth 100000
set_option maxHeartbeats 1600000
namespace Go.Proofs.YtmbkanpapkhnaaaGreat.Sym
open Go.RowKit
def AgT(s s':St)(U:List Nat):Prop:=∀t∈U,look s.tmps t=look s'.tmps t/\M4 s.gs t=M4 s'.gs t
def AgM(s s':St)(R:List Nat):Prop:=∀k∈R,j7 s.mem k=j7 s'.mem k
def AgR(s s':St)(R:List Nat):Prop:=∀k∈R,j7 s.gr k=j7 s'.gr k
theorem AgT.sub{s s':St}{U V:List Nat}(h:AgT s s' U)(hs:∀t∈V,t∈U):AgT s s' V:=fun t ht=>h t (hs t ht)
theorem pG{l:List Operand}{t:Nat}(h:Operand.tmp t∈l):t∈tl l:=by
 induction l with
 |nil=>cases h
 |cons x l ih=>
  rcases List.mem_cons.1 h with h|h
  .subst h;simp[tl]
  have:=ih h
  cases x<;>simp[tl,this]
section
variable {s s':St} {q:List (Nat×Bool)} {A:Alg} {T:List (Nat×TI)} {cs:List (Nat×CS)} {x:j8} {i d ty:Nat}
theorem fw{U:List Nat}(h:AgT s s' U)(q:List (Nat×Bool)){y:Operand}(hy:∀t,y = .tmp t->t∈U):val s q y=val s' q y:=by
 cases y with
 |tmp t=>
  obtain⟨h1,h2⟩:=h t (hy t rfl);simp only[val,h1,h2]
 |_=>rfl
theorem bJ{U:List Nat}(h:AgT s s' U)(q:List (Nat×Bool)):∀{l:List Operand},(∀t∈tl l,t∈U)->Y3 s q l=Y3 s' q l
 | [],_=>rfl
 |y::l,hl=>by
  have h1:val s q y=val s' q y:=fw h q fun t ht=>hl t (pG (by simp[ht]))
  have h2:=bJ h q (l:=l) (fun t ht=>hl t (by cases y<;>simp[tl,ht]));simp only[Y3,h1,h2]
theorem dx{t:Nat}:∀{l r:List Operand},t∈tl l->t∈tl (l++r)
 |y::l,r,h=>by
  have ih:=dx (t:=t) (l:=l) (r:=r)
  cases y<;>simp[tl]at h ⊢<;>first|exact ih h|(rcases h with h|h;exact .inl h;exact .inr (ih h))
theorem R2{t:Nat}:∀{l r:List Operand},t∈tl r->t∈tl (l++r)
 | [],r,h=>h
 |y::l,r,h=>by
  have ih:=R2 (t:=t) (l:=l) (r:=r) h
  cases y<;>simp[tl]<;>first|exact ih|exact .inr ih
theorem eD{U:List Nat}(h:AgT s s' U)(q:List (Nat×Bool)):∀{l:List (Nat×Operand)},(∀t∈tl (l.map (·.2)),t∈U)->ib s q l=ib s' q l
 | [],_=>rfl
 |(k,y)::l,hl=>by
  have h1:val s q y=val s' q y:=fw h q fun t ht=>hl t (pG (by simp[ht]))
  have h2:=eD h q (l:=l) (fun t ht=>hl t (by cases y<;>simp[tl,ht]));simp only[ib,h1,h2]
theorem aO{U:List Nat}(h:AgT s s' U)(q:List (Nat×Bool))(dd:Int){o:Option Operand}(ho:∀t∈tl o.toList,t∈U):J3 A s q dd o=J3 A s' q dd o:=by
 cases o with
 |none=>rfl
 |some y=>
  have h1:val s q y=val s' q y:=fw h q fun t ht=>ho t (pG (by simp[ht]))
  simp only[J3,h1]
theorem ju{v1 v2:AV}{t1:Nat}(hR:AgR s s' (fJ v1)):Q2 A T x s d t1 v1 v2=Q2 A T x s' d t1 v1 v2:=by
 unfold Q2
 cases v1 with
 |sl g A1 n c k cells=>
  cases v2 with
  |sl g2 A2 n2 c2 k2 cells2=>
   cases G5 T t1 with
   |none=>rfl
   |some ti=>
    cases g with
    |none=>rfl
    |some key=>
     have e:j7 s.gr key=j7 s'.gr key:=hR key (by simp[fJ]);simp only[e]
  |_=>rfl
 |_=>rfl
theorem jZ{l:List (Nat×List AV)}{K:List Nat}(hK:AgM s s' K)(hl:∀e∈l,e.1∈K):aX s l=aX s' l:=by
 induction l with
 |nil=>rfl
 |cons y l ih=>
  obtain⟨k,c⟩:=y;have h1:j7 s.mem k=j7 s'.mem k:=hK k (hl (k,c) (by simp));simp only[aX,h1,ih fun e he=>hl e (List.mem_cons_of_mem _ he)]
theorem xK{l:List (Nat×List AV)}{pre:List (Nat×Blk)}(h:aX s l=some pre):l.map (·.1)=pre.map (·.1):=by
 induction l generalizing pre with
 |nil=>simp[aX]at h;subst h;rfl
 |cons y l ih=>
  obtain⟨k,c⟩:=y;simp only[aX]at h
  split at h
  .rename_i b r hb hr
   injection h with h;subst h
   simp[ih hr]
  cases h
theorem lN{v:AV}{o:Option CS}{l:Option (List AV)}{r:AV×Eff×List Ob}(h:aD s x v o l=some r)(hR:AgM s s' (nJ r.2.1++Ac r.2.1)):aD s' x v o l=some r:=by
 unfold aD at h ⊢
 split at h
 .exact h
 .rename_i res a
  split at h
  .rename_i pre hp
   split at h
   .rename_i hn
    injection h with h;subst h
    have hk:=xK hp;have:=jZ (l:=(res x).sets) hR (fun e he=>by
     have:e.1∈(res x).sets.map (·.1):=List.mem_map.2 ⟨e,he,rfl⟩;rw[hk,<-lH hk]at this;simp only[nJ,List.map_append];exact List.mem_append_left _ (List.mem_append_left _ this))
    rw[<-this,hp];simp only[hn,if_true]
   cases h
  cases h
 .rename_i f l r' ks res a
  split at h
  .rename_i pre hp
   split at h
   .rename_i hn
    injection h with h;subst h
    have:=jZ (l:=ks.map fun k=>(k,([]:List AV))) hR (fun e he=>by
     obtain⟨k,hk,rfl⟩:=List.mem_map.1 he;exact List.mem_append_right _ hk)
    rw[<-this,hp];simp only[hn,if_true]
   cases h
  cases h
 cases h
theorem lM{op:Op}{r:AV×Eff×List Ob}(hr:C4 A T cs x i s q d ty op=some r)(hU:AgT s s' (C3 op))(hR':AgM s s' (aR s q op++(nJ r.2.1++Ac r.2.1)))(hG:AgR s s' (ah s q op)):C4 A T cs x i s' q d ty op=some r/\aR s q op=aR s' q op/\ah s q op=ah s' q op:=by
 have hR:AgM s s' (aR s q op):=fun k hk=>hR' k (List.mem_append_left _ hk)
 have hW:AgM s s' (nJ r.2.1++Ac r.2.1):=fun k hk=>hR' k (List.mem_append_right _ hk)
 suffices hh:(C4 A T cs x i s q d ty op=C4 A T cs x i s' q d ty op \/ C4 A T cs x i s' q d ty op=some r)/\aR s q op=aR s' q op/\ah s q op=ah s' q op by
  refine⟨?_,hh.2⟩
  rcases hh.1 with h|h
  .rw [<-h];exact hr
  exact h
 have V:∀q {y:Operand},(∀t,y = .tmp t->t∈C3 op)->val s q y=val s' q y:=fun q y hy=>fw hU q hy
 cases op with
 |move y=>simp only[C4,aR,ah,V q (y:=y) (fun t ht=>by subst ht;simp[C3,tl])];exact⟨.inl trivial,trivial,trivial⟩
 |makeFunc fn first cap=>
  have h1:=bJ hU q (l:=first.toList) (fun t ht=>by simp only[C3];exact dx ht);have h2:=bJ hU q (l:=cap.toList) (fun t ht=>by simp only[C3];exact R2 ht);simp only[C4,aR,ah,h1,h2];exact⟨.inl trivial,trivial,trivial⟩
 |makeInterface t y=>simp only[C4,aR,ah,V q (y:=y) (fun t ht=>by subst ht;simp[C3,tl])];exact⟨.inl trivial,trivial,trivial⟩
 |nilCheck y=>simp only[C4,aR,ah,V q (y:=y) (fun t ht=>by subst ht;simp[C3,tl])];exact⟨.inl trivial,trivial,trivial⟩
 |assign y=>simp only[C4,aR,ah,V q (y:=y) (fun t ht=>by subst ht;simp[C3,tl])];exact⟨.inl trivial,trivial,trivial⟩
 |box t y=>simp only[C4,aR,ah,V q (y:=y) (fun t ht=>by subst ht;simp[C3,tl])];exact⟨.inl trivial,trivial,trivial⟩
 |extract y n=>simp only[C4,aR,ah,V q (y:=y) (fun t ht=>by subst ht;simp[C3,tl])];exact⟨.inl trivial,trivial,trivial⟩
 |unOp o t y=>simp only[C4,aR,ah,V q (y:=y) (fun t ht=>by subst ht;simp[C3,tl])];exact⟨.inl trivial,trivial,trivial⟩
 |fieldAddr t y f=>simp only[C4,aR,ah,V q (y:=y) (fun t ht=>by subst ht;simp[C3,tl])];exact⟨.inl trivial,trivial,trivial⟩
 |field t y f=>simp only[C4,aR,ah,V q (y:=y) (fun t ht=>by subst ht;simp[C3,tl])];exact⟨.inl trivial,trivial,trivial⟩
 |convert t t' y=>simp only[C4,aR,ah,V q (y:=y) (fun t ht=>by subst ht;simp[C3,tl])];exact⟨.inl trivial,trivial,trivial⟩
 |binOp o t y z t'=>
  simp only[C4,aR,ah,V q (y:=y) (fun t ht=>by subst ht;simp[C3,tl]),V q (y:=z) (fun t ht=>by subst ht;cases y<;>simp[C3,tl])];exact⟨.inl trivial,trivial,trivial⟩
 |lookup t y z ok=>
  simp only[C4,aR,ah,V q (y:=y) (fun t ht=>by subst ht;simp[C3,tl]),V q (y:=z) (fun t ht=>by subst ht;cases y<;>simp[C3,tl])];exact⟨.inl trivial,trivial,trivial⟩
 |indexAddr t y z=>
  simp only[C4,aR,ah,V q (y:=y) (fun t ht=>by subst ht;simp[C3,tl]),V q (y:=z) (fun t ht=>by subst ht;cases y<;>simp[C3,tl])];exact⟨.inl trivial,trivial,trivial⟩
 |index t y z=>
  simp only[C4,aR,ah,V q (y:=y) (fun t ht=>by subst ht;simp[C3,tl]),V q (y:=z) (fun t ht=>by subst ht;cases y<;>simp[C3,tl])];exact⟨.inl trivial,trivial,trivial⟩
 |load t p=>
  have hp:=V q (y:=p) (fun t ht=>by subst ht;simp[C3,tl]);simp only[aR,hp]at hR ⊢;refine⟨.inl ?_,trivial,rfl⟩;simp only[C4,hp]
  cases hv:val s' q p with
  |ptr key b off=>
   have this:j7 s.mem key=j7 s'.mem key:=hR key (by rw[hv];simp[keyOf])
   cases G5 T t with
   |none=>rfl
   |some ti=>simp only[this]
  |_=>cases G5 T t<;>rfl
 |store t p y=>
  have hp:=V q (y:=p) (fun t ht=>by subst ht;simp[C3,tl]);have hy:=V q (y:=y) (fun t ht=>by subst ht;cases p<;>simp[C3,tl]);simp only[aR,hp]at hR ⊢;refine⟨.inl ?_,trivial,rfl⟩;simp only[C4,hp,hy]
  cases hv:val s' q p with
  |ptr key b off=>
   have this:j7 s.mem key=j7 s'.mem key:=hR key (by rw[hv];simp[keyOf])
   cases G5 T t with
   |none=>rfl
   |some ti=>simp only[this]
  |_=>cases G5 T t<;>rfl
 |pick c y z=>
  refine⟨.inl ?_,rfl,rfl⟩
  cases c with
  |tmp c=>
   have h1:=V q (y:=.tmp c) (fun t ht=>by injection ht with ht;subst ht;simp[C3,tl]);have h2:=fun q=>V q (y:=y) (fun t ht=>by subst ht;simp[C3,tl])
   have h3:=fun q=>V q (y:=z) (fun t ht=>by subst ht;cases y<;>simp[C3,tl])
   simp only[C4,h1,h2,h3]
  |_=>rfl
 |build t ps=>
  refine⟨.inl ?_,rfl,rfl⟩;have:=eD hU q (l:=ps.toList) (fun t ht=>ht);simp only[C4,this]
 |buildSlice t n ps=>
  refine⟨.inl ?_,rfl,rfl⟩;have:=eD hU q (l:=ps.toList) (fun t ht=>ht);simp only[C4,this]
 |slice t y lo hi mx=>
  refine⟨.inl ?_,rfl,rfl⟩
  cases mx with
  |some m=>
   have h1:=V q (y:=y) (fun t ht=>by subst ht;simp[C3,tl]);have h2:∀dd,J3 A s q dd lo=J3 A s' q dd lo:=fun dd=>aO hU q dd (fun t ht=>R2 (l:=[y]) (dx ht))
   have h3:∀dd,J3 A s q dd hi=J3 A s' q dd hi:=fun dd=>aO hU q dd (fun t ht=>R2 (l:=[y]) (R2 (dx ht)))
   have h4:∀dd,J3 A s q dd (some m)=J3 A s' q dd (some m):=fun dd=>aO hU q dd (fun t ht=>R2 (l:=[y]) (R2 (R2 ht)))
   simp only[C4,h1,h2,h3,h4]
  |none=>
   have h1:=V q (y:=y) (fun t ht=>by subst ht;simp[C3,tl]);have h2:∀dd,J3 A s q dd lo=J3 A s' q dd lo:=fun dd=>aO hU q dd (fun t ht=>R2 (l:=[y]) (dx ht))
   have h3:∀dd,J3 A s q dd hi=J3 A s' q dd hi:=fun dd=>aO hU q dd (fun t ht=>R2 (l:=[y]) (R2 (dx ht)))
   simp only[C4,h1,h2,h3]
 |call c=>
  have h1:=bJ hU q (l:=c.args.toList) (fun t ht=>by simp only[C3];exact R2 ht);have hv:∀y,y∈c.args.toList->val s q y=val s' q y:=fun y hy=>V q (fun t ht=>by subst ht;simp only[C3];exact R2 (pG hy))
  have hrg:ah s q (.call c)=ah s' q (.call c):=by
   simp only[ah]
   cases ha:c.args.toList with
   |nil=>rfl
   |cons o r=>exact congrArg fJ (hv o (by rw[ha];simp))
  refine⟨?_,rfl,hrg⟩
  cases hc:c.callee with
  |builtin b=>
   refine .inl ?_;simp only[C4,h1,hc]
   cases b with
   |len=>
    simp only
    split
    .rename_i y t hy _
     rw[hv y (by rw[hy];simp)]
    rfl
   |append=>
    simp only
    split
    .rename_i y z t1 t2 hy _
     have e1:=hv y (by rw[hy];simp);have e2:=hv z (by rw[hy];simp);rw[e1,e2];have hG':AgR s s' (fJ (val s' q y)):=by
      have:ah s q (.call c)=fJ (val s q y):=by simp only[ah,hy]
      rw[this,e1]at hG;exact hG
     rw[ju hG']
    rfl
   |min=>
    simp only
    split
    .rename_i y z hy
     have e1:=hv y (by rw[hy];simp);have e2:=hv z (by rw[hy];simp);rw[e1,e2]
    rfl
   |max=>
    simp only
    split
    .rename_i y z hy
     have e1:=hv y (by rw[hy];simp);have e2:=hv z (by rw[hy];simp);rw[e1,e2]
    rfl
   |_=>rfl
  |value g=>
   have hg:=V q (y:=g) (fun t ht=>by subst ht;simp only[C3,hc,pg];exact dx (by simp[tl]));refine .inr ?_;simp only[C4,hc]at hr ⊢;rw[hg,h1]at hr;exact lN hr hW
  |invoke y m=>
   refine .inl ?_;simp only[C4,hc]
 |_=>exact⟨.inl rfl,rfl,rfl⟩
theorem kw:∀{p:List (Nat×Bool)},AgT s s' (p.map (·.1))->jj s p=jj s' p
 | [],_=>rfl
 |(t,b)::p,h=>by
  obtain⟨h1,h2⟩:=h t (by simp);have ih:=kw (p:=p) (h.sub fun k hk=>by simp only[List.map_cons,List.mem_cons];exact .inr hk);have hv:rK s t=rK s' t:=by simp only[rK,h1,h2]
  simp only[jj,hv,ih]
theorem gJ(hn:s.nt=s'.nt)(d:Option Nat):gK s d=gK s' d:=by cases d<;>simp[gK,hn]
theorem gl{o:Oper}{ex:List Nat}{r:T2×List Ob×F7}(h:io A T cs x i o s ex=some r)(hU:AgT s s' r.2.2.cons)(hR:AgM s s' r.2.2.rk)(hG:AgR s s' r.2.2.rg)(hn:s.nt=s'.nt):io A T cs x i o s' ex=some r:=by
 unfold io at h ⊢
 split at h
 .rename_i v e obs hst hnt
  injection h with h;subst h
  obtain⟨h1,h2,h3⟩:=lM hst (hU.sub fun t ht=>List.mem_append_left _ ht) hR hG;rw[h1,<-gJ hn,hnt,<-h2,<-h3]
 cases h
theorem cw{o:Oper}{ex:List Nat}(hn:s.nt=s'.nt):bK o s ex=bK o s' ex:=by
 unfold bK;rw[gJ hn]
theorem dB{o:Oper}{ex:List Nat}{r:T2×List Ob×F7}(h:gm A T cs x i o s ex q=some r)(hU:AgT s s' r.2.2.cons)(hR:AgM s s' r.2.2.rk)(hG:AgR s s' r.2.2.rg)(hn:s.nt=s'.nt):gm A T cs x i o s' ex q=some r:=by
 unfold gm at h ⊢
 split at h
 .cases h
 rename_i d hd
 split at h
 .rename_i v e obs c hst hc
  split at h
  .rename_i hb
   injection h with h;subst h
   have hqe:rT e=true:=by simp only[Bool.and_eq_true]at hb;exact hb.1.1.1
   obtain⟨h1,h2,h4⟩:=lM hst (hU.sub fun t ht=>List.mem_append_left _ ht) (by simpa[Ah hqe]using hR) hG;have h3:=kw (p:=q) (hU.sub fun t ht=>List.mem_append_right _ (List.mem_append_right _ ht));simp only[h1,<-h3,hc,<-hn,<-h2,<-h4];rw[if_pos hb]
  cases h
 cases h
theorem Ft{o:Oper}{all:List Oper}{r:T2×List Ob×F7}(h:P7 A T cs x all i o s=some r){j:Nat}{want:Bool}(hg:o.guard=some (j,want)){g:Nat}(hb:(all[j]?).bind (·.dst)=some g):g∈r.2.2.cons:=by
 have hu:∀{r},io A T cs x i o s [g]=some r->g∈r.2.2.cons:=by
  intro r h;unfold io at h
  split at h
  .injection h with h;subst h;simp
  cases h
 have hsk:∀{r},bK o s [g]=some r->g∈r.2.2.cons:=by
  intro r h;unfold bK at h
  split at h
  .injection h with h;subst h;simp
  cases h
 have hr:∀{q r},gm A T cs x i o s [g] q=some r->g∈r.2.2.cons:=by
  intro q r h;unfold gm at h
  split at h
  .cases h
  split at h
  .split at h
   .injection h with h;subst h;simp
   cases h
  cases h
 simp only[P7,hg,hb]at h
 split at h
 .split at h
  .exact hr h
  exact hsk h
 .split at h
  .exact hsk h
  exact hr h
 .exact hr h
 .cases h
 split at h
 .split at h
  .exact hu h
  exact hsk h
 .split at h
  .exact hsk h
  exact hu h
 .exact hr h
 cases h
theorem aM{o:Oper}{all:List Oper}{r:T2×List Ob×F7}(h:P7 A T cs x all i o s=some r)(hU:AgT s s' r.2.2.cons)(hR:AgM s s' r.2.2.rk)(hG:AgR s s' r.2.2.rg)(hn:s.nt=s'.nt):P7 A T cs x all i o s'=some r:=by
 cases hg:o.guard with
 |none=>
  simp only[P7,hg]at h ⊢;exact gl h hU hR hG hn
 |some jw=>
  obtain⟨j,want⟩:=jw
  cases hb:(all[j]?).bind (·.dst)with
  |none=>simp only[P7,hg,hb]at h;cases h
  |some g=>
   obtain⟨e1,e2⟩:=hU g (Ft h hg hb);simp only[P7,hg,hb,<-e1,<-e2]at h ⊢
   split at h
   .split at h
    .rename_i hw;rw[if_pos hw];exact dB h hU hR hG hn
    rename_i hw;rw[if_neg hw,<-cw hn];exact h
   .split at h
    .rename_i hw;rw[if_pos hw,<-cw hn];exact h
    rename_i hw;rw[if_neg hw];exact dB h hU hR hG hn
   .exact dB h hU hR hG hn
   .cases h
   split at h
   .split at h
    .rename_i hw;rw[if_pos hw];exact gl h hU hR hG hn
    rename_i hw;rw[if_neg hw,<-cw hn];exact h
   .split at h
    .rename_i hw;rw[if_pos hw,<-cw hn];exact h
    rename_i hw;rw[if_neg hw];exact gl h hU hR hG hn
   .exact dB h hU hR hG hn
   cases h
end
def IK:Put->AV
 | .plain v=>v
 | .guarded _ _=>.undef
def IL:Put->Option (List (Nat×Bool)×AV)
 | .plain _=>none
 | .guarded q v=>some (q,v)
def gD:Eff->List (Nat×Blk)
 | .new k b=>[(k,b)]
 | .set k b=>[(k,b)]
 | .sets l=>l
 |_=>[]
def nN:Eff->Option (Nat×Gr)
 | .grow k t=>some (k,t)
 |_=>none
def NM(s:St)(Ds:List Nat):Prop:=∀t p v,M4 s.gs t=some (p,v)->∀d∈Ds,∀x∈p,x.1≠d
def Wf(δ : T2):Prop:=∀q v,δ.p = .guarded q v->δ.d≠none
def dl:Option Nat->List Nat
 |none=>[]
 |some d=>[d]
theorem sk{p:List (Nat×Bool)}{d:Nat}(h:∀x∈p,x.1≠d):Y8 p d=false:=by
 induction p with
 |nil=>rfl
 |cons y p ih=>
  obtain⟨k,b⟩:=y;simp only[Y8,Bool.or_eq_false_iff,beq_eq_false_iff_ne];exact⟨h (k,b) (by simp),ih fun x hx=>h x (by simp[hx])⟩
section
variable {s:St} {δ : T2}
theorem sS(e:Eff):(s.eff e).tmps=s.tmps:=by cases e<;>rfl
theorem uL(e:Eff):(s.eff e).gs=s.gs:=by cases e<;>rfl
theorem gS:(s.app δ).nt=s.nt:=by
 obtain⟨e,d,p⟩:=δ
 cases p<;>cases d<;>simp[St.app,St.put,St.putG,nf]
theorem bZ(hw:Wf δ)(t:Nat):look (s.app δ).tmps t=if δ.d=some t then IK δ.p else look s.tmps t:=by
 obtain⟨e,d,p⟩:=δ
 cases p with
 |plain v=>cases d<;>simp[St.app,St.put,sS,B6,IK]
 |guarded q v=>cases d with
  |none=>exact absurd rfl (hw q v rfl)
  |some d=>simp[St.app,St.putG,sS,B6,IK]
theorem fp(hw:Wf δ)(hn:NM s (dl δ.d))(t:Nat):M4 (s.app δ).gs t=if δ.d=some t then IL δ.p else M4 s.gs t:=by
 obtain⟨e,d,p⟩:=δ;have hk:∀d',d=some d'->(M4 s.gs t).map (yg d')=M4 s.gs t:=by
  intro d' hd
  cases hl:M4 s.gs t with
  |none=>rfl
  |some x=>
   obtain⟨p',v'⟩:=x;have:=sk (hn t p' v' hl d' (by simp[hd,dl]));simp[yg,this]
 cases p with
 |plain v=>cases d with
  |none=>simp[St.app,St.put,uL]
  |some d=>simp[St.app,St.put,uL,gH,IL,hk d rfl]
 |guarded q v=>cases d with
  |none=>exact absurd rfl (hw q v rfl)
  |some d=>
   simp only[St.app,St.putG,uL,bR,gH,IL,hk d rfl,Option.some.injEq]
   split<;>rfl
theorem dX(hw:Wf δ)(k:Nat):j7 (s.app δ).mem k=(j7 (gD δ.e) k).or (j7 s.mem k):=by
 obtain⟨e,d,p⟩:=δ;have he:(s.app ⟨e,d,p⟩).mem=(s.eff e).mem:=by
  cases p with
  |plain v=>cases d<;>rfl
  |guarded q v=>cases d with
   |none=>exact absurd rfl (hw q v rfl)
   |some d=>rfl
 rw[he]
 cases e with
 |sets l=>simp only[St.eff,gD,cA]
 |new k' b=>simp only[St.eff,gD,F3,bz];by_cases h:k'=k<;>simp[h,j7]
 |set k' b=>simp only[St.eff,gD,F3,bz];by_cases h:k'=k<;>simp[h,j7]
 |_=>simp[St.eff,gD,j7]
theorem gU(hw:Wf δ)(k:Nat):j7 (s.app δ).gr k=match nN δ.e with|some (k',b)=>if k'=k then some b else j7 s.gr k|none=>j7 s.gr k:=by
 obtain⟨e,d,p⟩:=δ;have he:(s.app ⟨e,d,p⟩).gr=(s.eff e).gr:=by
  cases p with
  |plain v=>cases d<;>rfl
  |guarded q v=>cases d with
   |none=>exact absurd rfl (hw q v rfl)
   |some d=>rfl
 rw[he]
 cases e<;>simp only[St.eff,nN,F3,bz]<;>(repeat(first|rfl|split))<;>simp_all
theorem ph{s':St}(hw:Wf δ)(h:T4 s s')(hn:NM s (dl δ.d)):T4 (s.app δ) (s'.app δ):=by
 have hn':NM s' (dl δ.d):=fun t p v hl=>hn t p v (by rw[h.gs];exact hl)
 refine⟨by rw[gS,gS];exact h.nt,fun t=>?_,fun t=>?_,fun k=>?_,fun k=>?_⟩
 .rw [bZ hw,bZ hw,h.tmps]
 .rw [fp hw hn,fp hw hn',h.gs]
 .rw [dX hw,dX hw,h.mem]
 rw[gU hw,gU hw,h.gr]
end
theorem NM.sub{s:St}{D E:List Nat}(h:NM s D)(hs:∀d∈E,d∈D):NM s E:=fun t p v hl d hd=>h t p v hl d (hs d hd)
theorem NM.app{s:St}{δ : T2}{D:List Nat}(h:NM s D)(hw:Wf δ)(hd:NM s (dl δ.d))(hq:∀q v,δ.p = .guarded q v->∀d∈D,∀x∈q,x.1≠d):NM (s.app δ) D:=by
 intro t p v hl;rw[fp hw hd]at hl
 split at hl
 .cases hp:δ.p with
  |plain v'=>rw[hp]at hl;cases hl
  |guarded q v'=>rw[hp]at hl;injection hl with hl;injection hl with h1 h2;subst h1;exact hq q v' hp
 exact h t p v hl
theorem tv{s:St}{δ ε : T2}(hδ : Wf δ)(hε : Wf ε)(h1:NM s (dl δ.d))(h2:NM s (dl ε.d))(h3:NM (s.app δ) (dl ε.d))(h4:NM (s.app ε) (dl δ.d))(hd:∀t,δ.d=some t->ε.d≠some t)
  (hm:∀k b b',j7 (gD δ.e) k=some b->j7 (gD ε.e) k=some b'->False) (hg:∀k b k' b',nN δ.e=some (k,b)->nN ε.e=some (k',b')->k≠k'):T4 ((s.app δ).app ε) ((s.app ε).app δ):=by
 refine⟨by simp only[gS],fun t=>?_,fun t=>?_,fun k=>?_,fun k=>?_⟩
 .rw [bZ hε,bZ hδ,bZ hδ,bZ hε]
  by_cases e1:δ.d=some t
  .rw [if_neg (hd t e1),if_pos e1,if_pos e1]
  by_cases e2:ε.d=some t<;>simp[e1,e2]
 .rw [fp hε h3,fp hδ h1,fp hδ h4,fp hε h2]
  by_cases e1:δ.d=some t
  .rw [if_neg (hd t e1),if_pos e1,if_pos e1]
  by_cases e2:ε.d=some t<;>simp[e1,e2]
 .rw [dX hε,dX hδ,dX hδ,dX hε]
  cases hx:j7 (gD δ.e) k with
  |none=>cases j7 (gD ε.e) k<;>rfl
  |some b=>
   cases hy:j7 (gD ε.e) k with
   |none=>rfl
   |some b'=>exact(hm k b b' hx hy).elim
 rw[gU hε,gU hδ,gU hδ,gU hε]
 cases hx:nN δ.e with
 |none=>cases nN ε.e<;>rfl
 |some kb=>
  obtain⟨k1,b1⟩:=kb
  cases hy:nN ε.e with
  |none=>rfl
  |some kb'=>
   obtain⟨k2,b2⟩:=kb';have:=hg k1 b1 k2 b2 hx hy;simp only
   by_cases e1:k1=k
   .subst e1;simp[fun h:k2=k1=>this h.symm]
    intro h;exact absurd h.symm this
   simp[e1]
theorem Er{e:Eff}{k:Nat}{b:Blk}(h:j7 (gD e) k=some b):k∈nJ e:=by
 cases e with
 |sets l=>exact List.mem_map.2 ⟨_,I9 h,rfl⟩
 |new k' b'=>have:=I9 h;simp[gD]at this;simp[nJ,this]
 |set k' b'=>have:=I9 h;simp[gD]at this;simp[nJ,this]
 |_=>cases h
structure gY(r:T2×List Ob×F7):Prop where
 wf:Wf r.1
 d:r.2.2.d=r.1.d
 wk:∀k b,j7 (gD r.1.e) k=some b->k∈r.2.2.wk
 wg:∀k b,nN r.1.e=some (k,b)->k∈r.2.2.wg
 qs:∀q v,r.1.p = .guarded q v->∀x∈q,x.1∈r.2.2.qs
theorem au{A:Alg}{T:List (Nat×TI)}{cs:List (Nat×CS)}{x:j8}{all:List Oper}{i:Nat}{o:Oper}{s:St}{r:T2×List Ob×F7}(h:P7 A T cs x all i o s=some r):gY r:=by
 have hu:∀{ex r},io A T cs x i o s ex=some r->gY r:=by
  intro ex r h;unfold io at h
  split at h
  .rename_i v e obs _ _
   injection h with h;subst h
   refine⟨(fun q v h=>by cases h),rfl,fun k b h=>?_,fun k b h=>?_,(fun q v h=>by cases h)⟩
   .exact Er h
   cases e<;>simp[nN]at h<;>simp[KQ,h]
  cases h
 have hsk:∀{ex r},bK o s ex=some r->gY r:=by
  intro ex r h;unfold bK at h
  split at h
  .injection h with h;subst h
   exact⟨(fun q v h=>by cases h),rfl,(fun k b h=>by cases h),(fun k b h=>by cases h),(fun q v h=>by cases h)⟩
  cases h
 have hr:∀{ex q r},gm A T cs x i o s ex q=some r->gY r:=by
  intro ex q r h;unfold gm at h
  split at h
  .cases h
  rename_i d hd
  split at h
  .split at h
   .injection h with h;subst h
    refine⟨(fun q v h=>by rw[hd];simp),rfl,(fun k b h=>by cases h),(fun k b h=>by cases h),(fun q' v' h y hy=>?_)⟩;injection h with h1 h2;subst h1
    exact List.mem_map.2 ⟨y,hy,rfl⟩
   cases h
  cases h
 cases hg:o.guard with
 |none=>simp only[P7,hg]at h;exact hu h
 |some jw=>
  obtain⟨j,want⟩:=jw;simp only[P7,hg]at h
  split at h
  .cases h
  split at h
  .split at h
   .exact hr h
   exact hsk h
  .split at h
   .exact hsk h
   exact hr h
  .exact hr h
  .cases h
  split at h
  .split at h
   .exact hu h
   exact hsk h
  .split at h
   .exact hsk h
   exact hu h
  .exact hr h
  cases h
def fS(l r:List Nat):Bool:=l.all fun x=>!(r.contains x)
theorem I5{l r:List Nat}(h:fS l r=true):∀x∈l,x ∉ r:=by
 intro x hx hr;have:=List.all_eq_true.1 h x hx;simp[hr]at this
def jk(f g:F7):Bool:=fS (dl f.d) g.qs&&fS (dl f.d) g.cons&&fS (dl g.d) f.cons&&fS (dl f.d) (dl g.d)&&fS f.wk g.rk&&fS g.wk f.rk&&fS f.wk g.wk&&fS f.wg g.rg&&fS g.wg f.rg&&fS f.wg g.wg
section
variable {A:Alg} {T:List (Nat×TI)} {cs:List (Nat×CS)} {X:Nat->j8} {all:List Oper}
def ds(fs:List F7):List Nat:=fs.flatMap fun f=>dl f.d
theorem jR{fs:List F7}{g:F7}(hg:g∈fs){d:Nat}(hd:d∈dl g.d):d∈ds fs:=List.mem_flatMap.2 ⟨g,hg,hd⟩
theorem Hu{fs:List F7}{d:Nat}(hd:d∈ds fs):∃g∈fs,d∈dl g.d:=List.mem_flatMap.1 hd
def Ord(fs:List F7):Prop:=fs.Pairwise fun f g=>fS (dl g.d) f.qs=true
theorem eU{r:T2×List Ob×F7}(hf:gY r){s:St}{fs gs:List F7}(hn:NM s (ds fs))(hm:r.2.2∈fs)(hs:∀g∈gs,g∈fs)(hq:∀g∈gs,fS (dl g.d) r.2.2.qs=true):NM s (dl r.1.d)/\NM (s.app r.1) (ds gs):=by
 have h1:NM s (dl r.1.d):=hn.sub fun d hd=>jR hm (by rw[hf.d];exact hd)
 refine⟨h1,NM.app (hn.sub fun d hd=>?_) hf.wf h1 fun q v hp d hd x hx e=>?_⟩
 .obtain ⟨g,hg,hgd⟩:=Hu hd
  exact jR (hs g hg) hgd
 obtain⟨g,hg,hgd⟩:=Hu hd;exact I5 (hq g hg) d hgd (e ▸ hf.qs q v hp x hx)
theorem mX:∀{l:List (Nat×Oper)} {s s' τ : St} {obs:List Ob} {fs:List F7},K3 A T cs X all l s=some (τ,obs,fs)->T4 s s'->NM s (ds fs)->Ord fs->∃τ',K3 A T cs X all l s'=some (τ',obs,fs)/\T4 τ τ'
 | [],s,s',τ,obs,fs,h,ha,hn,hf=>by
  simp only[K3,Option.some.injEq,Prod.mk.injEq]at h;obtain⟨rfl,rfl,rfl⟩:=h;exact⟨s',rfl,ha⟩
 |(i,o)::l,s,s',τ,obs,fs,h,ha,hn,hf=>by
  obtain⟨δ,ob,f,r',h1,h2,h3⟩:=R9 h;obtain⟨τ1,obs1,fs1⟩:=r';simp only[Prod.mk.injEq]at h3;obtain⟨rfl,rfl,rfl⟩:=h3;have hfo:=au h1;have hd':=aM h1 (s':=s') (fun t _=>⟨ha.tmps t,ha.gs t⟩) (fun k _=>ha.mem k) (fun k _=>ha.gr k) ha.nt;have hf':=List.pairwise_cons.1 hf;obtain⟨n1,n2⟩:=eU hfo (gs:=fs1) hn (by simp) (fun g hg=>by simp[hg]) hf'.1;obtain⟨τ',e1,e2⟩:=mX h2 (ph hfo.wf ha n1) n2 hf'.2;exact⟨τ',by simp only[K3,hd',e1],e2⟩
theorem rp{s:St}{r:T2×List Ob×F7}(hf:gY r)(hn:NM s (dl r.1.d)){g:F7}(h1:∀x∈dl r.2.2.d,x ∉ g.cons)(h2:∀x∈r.2.2.wk,x ∉ g.rk)(h3:∀x∈r.2.2.wg,x ∉ g.rg):AgT s (s.app r.1) g.cons/\AgM s (s.app r.1) g.rk/\AgR s (s.app r.1) g.rg:=by
 refine⟨?_,?_,?_⟩
 .intro t ht
  have hne:r.1.d≠some t:=fun e=>h1 t (by rw[hf.d,e];simp[dl]) ht
  exact⟨by rw[bZ hf.wf,if_neg hne],by rw[fp hf.wf hn,if_neg hne]⟩
 .intro k hk
  rw[dX hf.wf]
  cases hx:j7 (gD r.1.e) k with
  |none=>rfl
  |some b=>exact absurd hk (h2 k (hf.wk k b hx))
 intro k hk;rw[gU hf.wf]
 cases hx:nN r.1.e with
 |none=>rfl
 |some kb=>
  obtain⟨k',b⟩:=kb;have hne:k'≠k:=fun e=>h3 k' (hf.wg k' b hx) (e ▸ hk)
  simp[hne]
theorem T4.symm{s t:St}(h:T4 s t):T4 t s:=⟨h.nt.symm,fun k=>(h.tmps k).symm,fun k=>(h.gs k).symm,fun k=>(h.mem k).symm,fun k=>(h.gr k).symm⟩
theorem T4.trans{s t u:St}(h:T4 s t)(h':T4 t u):T4 s u:=⟨h.nt.trans h'.nt,fun k=>(h.tmps k).trans (h'.tmps k),fun k=>(h.gs k).trans (h'.gs k),fun k=>(h.mem k).trans (h'.mem k),fun k=>(h.gr k).trans (h'.gr k)⟩
theorem oq{P:Program}{K:Kn}{i:Nat}{o:Oper}{L2:List (Nat×Oper)}:∀{L1:List (Nat×Oper)} {s τ : St} {obs:List Ob} {fs1:List F7} {f:F7} {fs2:List F7},
  K3 A T cs X all (L1++(i,o)::L2) s=some (τ,obs,fs1++f::fs2)->fs1.length=L1.length->NM s (ds (fs1++f::fs2))->Ord (fs1++f::fs2)->(∀g∈fs1,jk g f=true) →
  ∃δ ob,P7 A T cs (X i) all i o s=some (δ,ob,f)/\∃τ' obs',K3 A T cs X all (L1++L2) (s.app δ)=some (τ',obs',fs1++fs2)/\T4 τ' τ/\(i7 P K obs->i7 P K ob/\i7 P K obs')
 | [],s,τ,obs,fs1,f,fs2,h,hl,hn,Z,hc=>by
  have:fs1=[]:=List.eq_nil_of_length_eq_zero hl;subst this;obtain⟨δ,ob,f',r',h1,h2,h3⟩:=R9 h;obtain⟨τ1,obs1,fs1⟩:=r';simp only[List.nil_append,Prod.mk.injEq,List.cons.injEq]at h3;obtain⟨rfl,rfl,rfl,rfl⟩:=h3;exact⟨δ,ob,h1,τ,obs1,h2,⟨rfl,fun _=>rfl,fun _=>rfl,fun _=>rfl,fun _=>rfl⟩,fun ha=>i7.app.1 ha⟩
 |(j,oj)::L1,s,τ,obs,fs1,f,fs2,h,hl,hn,Z,hc=>by
  cases fs1 with
  |nil=>cases hl
  |cons fj fs1=>
   obtain⟨δj,obj,fj',r',h1,h2,h3⟩:=R9 h;obtain⟨τ1,obs1,fsr⟩:=r';simp only[List.cons_append,Prod.mk.injEq,List.cons.injEq]at h3;obtain⟨rfl,rfl,rfl,rfl⟩:=h3;have hfj:=au h1;have hF':=List.pairwise_cons.1 Z;obtain⟨n1,n2⟩:=eU hfj (gs:=fs1++f::fs2) hn (by simp) (fun g hg=>by simp only[List.cons_append,List.mem_cons];exact .inr hg) hF'.1;obtain⟨δ,ob,g1,τ',obs',g2,g3,g4⟩:=oq (P:=P) (L1:=L1) h2 (by simpa using hl) n2 hF'.2 (fun g hg=>hc g (by simp[hg]));have hcm:=hc fj (by simp);simp only[jk,Bool.and_eq_true]at hcm;obtain⟨⟨⟨⟨⟨⟨⟨⟨⟨c0,c1⟩,c2⟩,c3⟩,c4⟩,c5⟩,c6⟩,c7⟩,c8⟩,c9⟩:=hcm;have hf:=au g1;have hFf:=List.pairwise_append.1 hF'.2;have hin:∀g∈fs1++fs2,g∈fs1++f::fs2:=fun g hg=>by
    rcases List.mem_append.1 hg with hg|hg
    .exact List.mem_append_left _ hg
    exact List.mem_append_right _ (List.mem_cons_of_mem _ hg)
   have hq:∀g∈fj::(fs1++fs2),fS (dl g.d) f.qs=true:=by
    intro g hg
    rcases List.mem_cons.1 hg with rfl|hg
    .exact c0
    rcases List.mem_append.1 hg with hg|hg
    .have:=hc g (by simp[hg])
     simp only[jk,Bool.and_eq_true]at this;exact this.1.1.1.1.1.1.1.1.1
    exact(List.pairwise_cons.1 hFf.2.1).1 g hg
   -- i at s
   obtain⟨a1,a2,a3⟩:=rp hfj n1 (g:=f) (I5 c1) (I5 c4) (I5 c7);have d1:P7 A T cs (X i) all i o s=some (δ,ob,f):=aM g1 (fun t ht=>⟨(a1 t ht).1.symm,(a1 t ht).2.symm⟩) (fun k hk=>(a2 k hk).symm) (fun k hk=>(a3 k hk).symm) gS;obtain⟨m1,m2⟩:=eU hf (gs:=fj::(fs1++fs2)) hn (by simp) (fun g hg=>by
    rcases List.mem_cons.1 hg with rfl|hg
    .simp
    simp only[List.cons_append,List.mem_cons];exact .inr (hin g hg)) hq
   -- j behind i
   obtain⟨b1,b2,b3⟩:=rp hf m1 (g:=fj) (I5 c2) (I5 c5) (I5 c8);have d2:P7 A T cs (X j) all j oj (s.app δ)=some (δj,obj,fj):=aM h1 b1 b2 b3 gS.symm
   -- the two orders come to the same
   have sw:T4 ((s.app δj).app δ) ((s.app δ).app δj):=by
    refine tv hfj.wf hf.wf n1 m1 (n2.sub fun d hd=>jR (g:=f) (by simp) (by rw[hf.d];exact hd)) (m2.sub fun d hd=>jR (g:=fj) (by simp) (by rw[hfj.d];exact hd)) (fun t ht ht'=>?_) (fun k b b' e1 e2=>?_) (fun k b k' b' e1 e2 he=>?_)
    .exact I5 c3 t (by rw[hfj.d];simp only;rw[ht];simp[dl]) (by rw[hf.d];simp only;rw[ht'];simp[dl])
    .exact I5 c6 k (hfj.wk k b e1) (hf.wk k b' e2)
    subst he;exact I5 c9 k (hfj.wg k b e1) (hf.wg k b' e2)
   obtain⟨nn1,nn2⟩:=eU hf (gs:=fs1++fs2) n2 (by simp) hin (fun g hg=>hq g (List.mem_cons_of_mem _ hg));obtain⟨τ'',e1,e2⟩:=mX g2 sw nn2 (hF'.2.sublist (List.Sublist.append_left (List.sublist_cons_self _ _) _));refine⟨δ,ob,d1,τ'',obj++obs',?_,e2.symm.trans g3,fun ha=>?_⟩
   .simp only[List.cons_append,K3,d2,e1]
   obtain⟨p1,p2⟩:=i7.app.1 ha;obtain⟨p3,p4⟩:=g4 p2;exact⟨p3,i7.app.2 ⟨p1,p4⟩⟩
end
def nW(tb:List Nat)(m:Nat):List Edge->Nat
 | []=>m
 |e::l=>nW tb (if Region.binds .any e then(m ||| 1 <<< e.on) ||| tb.getD e.on 0 else m) l
def fY:List Oper->List Nat->List Nat
 | [],tb=>tb
 |o::l,tb=>fY l (tb ++ [nW tb 0 o.after.toList])
inductive E4(all:List Oper):Nat->Nat->Prop
 |one {i j:Nat} {o:Oper} {e:Edge}:all[i]? = some o->e∈o.after.toList->Region.binds .any e=true->e.on=j->E4 all i j
 |more {i j:Nat} {o:Oper} {e:Edge}:all[i]? = some o->e∈o.after.toList->Region.binds .any e=true->E4 all e.on j->E4 all i j
theorem rA{tb:List Nat}:∀{l:List Edge} {m j:Nat},(nW tb m l).testBit j=true->m.testBit j=true \/ ∃e∈l,Region.binds .any e=true/\(e.on=j \/ (tb.getD e.on 0).testBit j=true)
 | [],m,j,h=>.inl h
 |e::l,m,j,h=>by
  rcases rA (l:=l) h with h|⟨e',h1,h2⟩
  .split at h
   .rename_i hb
    rw[Nat.testBit_or,Nat.testBit_or,Nat.one_shiftLeft,Nat.testBit_two_pow]at h;simp only[Bool.or_eq_true,decide_eq_true_eq]at h
    rcases h with(h|h)|h
    .exact .inl h
    .exact .inr ⟨e,by simp,hb,.inl h⟩
    exact .inr ⟨e,by simp,hb,.inr h⟩
   exact .inl h
  exact .inr ⟨e',by simp[h1],h2⟩
theorem eW{all:List Oper}:∀{l:List Oper} {tb:List Nat},all.drop tb.length=l->(∀i j,(tb.getD i 0).testBit j=true->E4 all i j)->∀i j,((fY l tb).getD i 0).testBit j=true->E4 all i j
 | [],tb,_,h=>h
 |o::l,tb,hl,h=>by
  have ho:all[tb.length]? = some o:=by
   have:=congrArg (fun r=>r[0]?) hl
   simpa using this
  refine eW (l:=l) (tb:=tb ++ [nW tb 0 o.after.toList]) ?_ fun i j hij=>?_
  .have:=congrArg List.tail hl
   simpa[List.tail_drop]using this
  rcases Nat.lt_trichotomy i tb.length with hlt|he|hgt
  .refine h i j ?_
   simpa[List.getD,List.getElem?_append_left hlt]using hij
  .subst he
   have:(nW tb 0 o.after.toList).testBit j=true:=by simpa[List.getD]using hij
   rcases rA this with h0|⟨e,h1,h2,h3⟩
   .simp at h0
   rcases h3 with h3|h3
   .exact .one ho h1 h2 h3
   exact .more ho h1 h2 (h _ _ h3)
  exfalso
  have:(tb ++ [nW tb 0 o.after.toList])[i]? = none:=by rw[List.getElem?_eq_none_iff];simp;omega
  simp[List.getD,this]at hij
def kM(tb:List Nat)(i j:Nat):Bool:=(tb.getD i 0).testBit j
def gy(tb:List Nat):List (Nat×Oper)->List F7->Bool
 |(j,_)::l,f::fs=>(l.zip fs).all (fun x=>kM tb x.1.1 j||jk f x.2)&&gy tb l fs
 |_,_=>true
def dS:List (Nat×Oper)->Bool
 | []=>true
 |(i,o)::l=>o.after.toList.all (fun e=>!(Region.binds .any e)||Nat.blt e.on i)&&dS l
def Ei:List F7->Bool
 | []=>true
 |f::fs=>fs.all (fun g=>fS (dl g.d) f.qs)&&Ei fs
theorem kZ:∀{fs:List F7},Ei fs=true->Ord fs
 | [],_=>.nil
 |f::fs,h=>by
  simp only[Ei,Bool.and_eq_true]at h;exact .cons (fun g hg=>List.all_eq_true.1 h.1 g hg) (kZ h.2)
def cG(l:List Oper)(fs:List F7):Bool:=gy (fY l []) (o9 0 l) fs&&dS (o9 0 l)&&Ei fs
theorem aj:∀{l:List Oper} {i:Nat} {x:Nat×Oper},x∈o9 i l->i<=x.1/\l[x.1-i]? = some x.2
 | [],i,x,h=>by cases h
 |o::l,i,x,h=>by
  rcases List.mem_cons.1 h with rfl|h
  .simp
  obtain⟨h1,h2⟩:=aj h;refine⟨by omega,?_⟩;rw[show x.1-i=(x.1-(i+1))+1 by omega,List.getElem?_cons_succ];exact h2
theorem bO:∀{l:List Oper} {i k:Nat} {o:Oper},l[k]? = some o->(i+k,o)∈o9 i l
 | [],i,k,o,h=>by simp at h
 |o'::l,i,0,o,h=>by simp at h;subst h;simp[o9]
 |o'::l,i,k+1,o,h=>by
  have:=bO (l:=l) (i:=i+1) (k:=k) (o:=o) (by simpa using h);rw[show i+(k+1)=i+1+k by omega];exact List.mem_cons_of_mem _ this
theorem aB:∀(l:List Oper) (i:Nat),(o9 i l).Pairwise (fun x y=>x.1<y.1)
 | [],_=>.nil
 |o::l,i=>List.pairwise_cons.2 ⟨fun x hx=>by have:=bw x hx;simp only;omega,aB l (i+1)⟩
def vd(tb:List Nat)(L:List (Nat×Oper))(fs:List F7):Prop:=L.length=fs.length/\gy tb L fs=true
theorem dD{tb:List Nat}{i:Nat}{o:Oper}:∀{L1 L2:List (Nat×Oper)} {fs1:List F7} {f:F7} {fs2:List F7},fs1.length=L1.length->gy tb (L1++(i,o)::L2) (fs1++f::fs2)=true →
  gy tb (L1++L2) (fs1++fs2)=true/\∀(k:Nat) (x:Nat×Oper) (g:F7),L1[k]? = some x->fs1[k]? = some g->kM tb i x.1=true \/ jk g f=true
 | [],L2,fs1,f,fs2,hl,h=>by
  have:fs1=[]:=List.eq_nil_of_length_eq_zero hl;subst this;simp only[List.nil_append,gy,Bool.and_eq_true]at h;exact⟨h.2,fun k x g hx=>by simp at hx⟩
 |(j,oj)::L1,L2,fs1,f,fs2,hl,h=>by
  cases fs1 with
  |nil=>cases hl
  |cons fj fs1=>
   have hl':fs1.length=L1.length:=by simpa using hl
   simp only[List.cons_append,gy,Bool.and_eq_true]at h ⊢;obtain⟨h1,h2⟩:=h;obtain⟨g1,g2⟩:=dD hl' h2;have hz:=List.all_eq_true.1 h1;refine⟨⟨List.all_eq_true.2 fun x hx=>hz x ?_,g1⟩,fun k x g hx hg=>?_⟩
   .rw [List.zip_append hl'.symm]at hx ⊢
    rcases List.mem_append.1 hx with hx|hx
    .exact List.mem_append_left _ hx
    exact List.mem_append_right _ (by simp only[List.zip_cons_cons,List.mem_cons];exact .inr hx)
   cases k with
   |zero=>
    simp at hx hg;subst hx;subst hg;have:=hz ((i,o),f) (by rw[List.zip_append hl'.symm];exact List.mem_append_right _ (by simp))
    simpa using this
   |succ k=>exact g2 k x g (by simpa using hx) (by simpa using hg)
section
variable {C:Cx} {P:Program} {Q:Exit->Act->World->Prop} {T:List (Nat×TI)} {cs:List (Nat×CS)} {ops:Array Oper} {all:List Oper}
theorem Z0{listed:Array Bool}{k:Nat}(h:listed.getD k true=false):listed.getD k false=false:=by
 simp only[Array.getD_eq_getD_getElem?]at h ⊢
 cases hk:listed[k]? with
 |none=>rfl
 |some b=>rw[hk]at h;simpa using h
theorem iR{listed:Array Bool}{k:Nat}(hk:k<listed.size)(h:listed.getD k false≠true):listed.getD k true=false:=by
 simp only[Array.getD_eq_getD_getElem?,Array.getElem?_eq_getElem hk]at h ⊢
 simpa using h
theorem CJ{tb:List Nat}(hT:o7 P T)(hops:ops=all.toArray)(htb:∀i j,kM tb i j=true->E4 all i j):∀(n:Nat) (L:List (Nat×Oper)) (fs:List F7) (listed:Array Bool) (s:St) (a:Act) (w:World),L.length=n->i5 C s a w->NM s (ds fs)->Ord fs->vd tb L fs->(∀k o,all[k]? = some o->listed.getD k false=true->∀e∈o.after.toList,Region.binds .any e=true->listed.getD e.on false=true) →
  L.Pairwise (fun x y=>x.1<y.1)->(∀x∈L,ops[x.1]? = some x.2/\listed.getD x.1 true=false)->(∀k o,ops[k]? = some o->listed.getD k true=false->(k,o)∈L)->listed.size=ops.size →
  (∀x∈L,∀e∈x.2.after.toList,Region.binds .any e=true->e.on<x.1) →
  (∀X,∃τ obs,K3 std T cs X all L s=some (τ,obs,fs)/\i7 P C.K obs/\∀a' w',i5 C τ a' w'->Q .normal a' w')->wpAny P .any ops Q n listed a w
 |0,L,fs,listed,s,a,w,hn,h,hNM,Z,hP,hDC,hsr,hL,hA,hsz,hE,hs=>by
  have:L=[]:=List.eq_nil_of_length_eq_zero hn;subst this;refine⟨?_,?_⟩
  .cases hr:Region.ready .any ops listed with
   |nil=>rfl
   |cons i r=>
    obtain⟨h1,o,h2,_⟩:=mem_ready.1 (hr ▸ List.mem_cons_self:i∈Region.ready .any ops listed)
    cases hA i o h2 h1
  obtain⟨τ,obs,h1,_,h2⟩:=hs (fun _=>⟨0,fun _=>none,fun _=>0,fun _=>.empty⟩);simp only[K3,Option.some.injEq,Prod.mk.injEq]at h1;obtain⟨rfl,_⟩:=h1;exact h2 a w h
 |n+1,L,fs,listed,s,a,w,hn,h,hNM,Z,hP,hDC,hsr,hL,hA,hsz,hE,hs=>by
  refine⟨fun hr=>?_,fun i hi=>?_⟩
  .-- the first one that is left may come up
   exfalso
   cases L with
   |nil=>cases hn
   |cons x L=>
    obtain⟨i0,o0⟩:=x;obtain⟨h1,h2⟩:=hL (i0,o0) (by simp);have:i0∈Region.ready .any ops listed:=mem_ready.2 ⟨h2,o0,h1,fun e he hb=>by
     have hlt:=hE (i0,o0) (by simp) e (by simpa using he) hb;simp only at hlt;have hi0:i0<ops.size:=(Array.getElem?_eq_some_iff.1 h1).1;have hon:e.on<listed.size:=by rw[hsz];omega
     by_cases hl:listed.getD e.on false=true
     .exact hl
     exfalso
     have hm:=hA e.on _ (Array.getElem?_eq_getElem (by omega)) (iR hon hl)
     rcases List.mem_cons.1 hm with he'|hm
     .injection he' with he';omega
     have:=(List.pairwise_cons.1 hsr).1 _ hm;simp only at this;omega⟩
    rw[hr]at this
    cases this
  obtain⟨h1,o,h2,h3⟩:=mem_ready.1 hi;have hin:=hA i o h2 h1;obtain⟨L1,L2,rfl⟩:=List.append_of_mem hin;obtain⟨fs1,f,fs2,hlen,rfl⟩:∃fs1 f fs2,fs1.length=L1.length/\fs=fs1++f::fs2:=by
   have hl:=hP.1;simp only[List.length_append,List.length_cons]at hl;have hlt:L1.length<fs.length:=by omega
   refine⟨fs.take L1.length,fs[L1.length],fs.drop (L1.length+1),by simp;omega,?_⟩;rw[<-List.drop_eq_getElem_cons hlt,List.take_append_drop]
  obtain⟨hP1,hcm⟩:=dD hlen hP.2;have hcomm:∀g∈fs1,jk g f=true:=by
   intro g hg;obtain⟨k,hk⟩:=List.getElem?_of_mem hg;have hkl:k<L1.length:=by rw[<-hlen];exact(List.getElem?_eq_some_iff.1 hk).1
   rcases hcm k _ g (List.getElem?_eq_getElem hkl) hk with he|he
   .exfalso
    have h5:=(hL L1[k] (List.mem_append_left _ (List.getElem_mem hkl))).2;have hr:=htb _ _ he;have dc:∀{i j:Nat},E4 all i j->(∀o e,all[i]? = some o->e∈o.after.toList->Region.binds .any e=true->listed.getD e.on false=true)->listed.getD j false=true:=by
     intro i j hr
     induction hr with
     |one h1 h2 h3 h4=>intro hi;rw[<-h4];exact hi _ _ h1 h2 h3
     |more h1 h2 h3 h4 ih=>intro hi;exact ih fun o e g1 g2 g3=>hDC _ o g1 (hi _ _ h1 h2 h3) e g2 g3
    have h4:=dc hr fun o' e g1 g2 g3=>by
     have:o'=o:=by
      have e1:ops[i]? = some o':=by rw[hops];simpa using g1
      rw[h2]at e1;injection e1 with e1;exact e1.symm
     subst this;exact h3 e (by simpa using g2) g3
    rw[Z0 h5]at h4
    cases h4
   exact he
  have mf:∀X,∃δ ob,P7 std T cs (X i) all i o s=some (δ,ob,f)/\i7 P C.K ob/\∃τ' obs',K3 std T cs X all (L1++L2) (s.app δ)=some (τ',obs',fs1++fs2)/\i7 P C.K obs'/\∀a' w',i5 C τ' a' w'->Q .normal a' w':=by
   intro X;obtain⟨τ,obs,e1,e2,e3⟩:=hs X;obtain⟨δ,ob,g1,τ',obs',g2,g3,g4⟩:=oq (P:=P) e1 hlen hNM Z hcomm;exact⟨δ,ob,g1,(g4 e2).1,τ',obs',g2,(g4 e2).2,fun a' w' hf=>e3 a' w' (hf.alike g3)⟩
  have hsrt:(L1++L2).Pairwise (fun x y=>x.1<y.1):=hsr.sublist (List.Sublist.append_left (List.sublist_cons_self _ _) _);have hnot:∀x∈L1++L2,x.1≠i:=by
   intro x hx;rw[List.pairwise_append]at hsr;obtain⟨p1,p2,p3⟩:=hsr
   rcases List.mem_append.1 hx with hx|hx
   .have:=p3 x hx (i,o) (by simp);simp only at this;omega
   have:=(List.pairwise_cons.1 p2).1 x hx;simp only at this;omega
  have key:=jh (C:=C) (K:=fun a' w'=>wpAny P .any ops Q n (listed.setIfInBounds i true) a' w') (Q:=Q) (cs:=cs) (i:=i) (o:=o) hT hops h (fun x=>by
   obtain⟨δ,ob,g1,g2,_⟩:=mf (fun _=>x);exact⟨_,g1,g2⟩) (fun x r a' w' hr hf=>by
   have hfo:=au hr;obtain⟨δ,ob,f'⟩:=r;obtain⟨δ0,ob0,g0,_⟩:=mf (fun _=>x);rw[hr]at g0;injection g0 with g0;injection g0 with q1 q2;injection q2 with q2 q3
   subst q1;subst q2;subst q3;have hinF:∀g∈fs1++fs2,g∈fs1++f'::fs2:=fun g hg=>by
    rcases List.mem_append.1 hg with hg|hg
    .exact List.mem_append_left _ hg
    exact List.mem_append_right _ (List.mem_cons_of_mem _ hg)
   obtain⟨n1,n2⟩:=eU hfo (gs:=fs1++fs2) hNM (by simp) hinF (fun g hg=>by
    rcases List.mem_append.1 hg with hg|hg
    .have:=hcomm g hg
     simp only[jk,Bool.and_eq_true]at this;exact this.1.1.1.1.1.1.1.1.1
    exact(List.pairwise_cons.1 (List.pairwise_append.1 Z).2.1).1 g hg)
   refine CJ hT hops htb n (L1++L2) (fs1++fs2) (listed.setIfInBounds i true) (s.app δ) a' w' ?_ hf n2 ?_ ?_ ?_ hsrt ?_ ?_ (by simpa using hsz) ?_ ?_
   .simp at hn ⊢;omega
   .exact Z.sublist (List.Sublist.append_left (List.sublist_cons_self _ _) _)
   .refine ⟨?_,hP1⟩
    have:=hP.1;simp at this ⊢;omega
   .intro k ok hk hu e he hb
    by_cases hki:k=i
    .subst hki
     have:ok=o:=by
      have e1:ops[k]? = some ok:=by rw[hops];simpa using hk
      rw[h2]at e1;injection e1 with e1;exact e1.symm
     subst this;have hl:=h3 e (by simpa using he) hb
     by_cases hei:e.on=k
     .have:=hE (k,ok) hin e he hb
      simp only at this;omega
     rw[getD_set_ne false (fun e'=>hei e'.symm)];exact hl
    rw[getD_set_ne false (fun e'=>hki e'.symm)]at hu;have hl:=hDC k ok hk hu e he hb
    by_cases hei:e.on=i
    .rw [hei]at hl
     have h5:=(hL (i,o) hin).2;simp only at h5;rw[Z0 h5]at hl;cases hl
    rw[getD_set_ne false (fun e'=>hei e'.symm)];exact hl
   .intro x' hx
    have hx':x'∈L1++(i,o)::L2:=by
     rcases List.mem_append.1 hx with hx|hx
     .exact List.mem_append_left _ hx
     exact List.mem_append_right _ (List.mem_cons_of_mem _ hx)
    obtain⟨e1,e2⟩:=hL x' hx';refine⟨e1,?_⟩;rw[getD_set_ne true (fun e=>hnot x' hx e.symm)];exact e2
   .intro k ok hk hu
    by_cases hki:k=i
    .subst hki
     have hlt:k<listed.size:=by rw[hsz];exact(Array.getElem?_eq_some_iff.1 h2).1
     simp[Array.getD_eq_getD_getElem?,hlt]at hu
    rw[getD_set_ne true (fun e=>hki e.symm)]at hu;have:=hA k ok hk hu
    rcases List.mem_append.1 this with hx|hx
    .exact List.mem_append_left _ hx
    rcases List.mem_cons.1 hx with hx|hx
    .injection hx with hx;exact absurd hx hki
    exact List.mem_append_right _ hx
   .intro x' hx
    refine hE x' ?_
    rcases List.mem_append.1 hx with hx|hx
    .exact List.mem_append_left _ hx
    exact List.mem_append_right _ (List.mem_cons_of_mem _ hx)
   intro X;obtain⟨Y,hY,hYX⟩:∃Y:Nat->j8,Y i=x/\∀j,j≠i->Y j=X j:=⟨fun j=>if j=i then x else X j,by simp,fun j hj=>by simp[hj]⟩
   obtain⟨δ1,ob1,g1,_,τ',obs',g2,g3,g4⟩:=mf Y;rw[hY,hr]at g1;injection g1 with g1;injection g1 with q1 _
   subst q1;rw[ar _ _ (fun x' hx=>hYX x'.1 (hnot x' hx))]at g2;exact⟨τ',obs',g2,g3,g4⟩)
  unfold wpOp;simp only[h2]
  by_cases hw:Region.wanted o (yielded ops a.tmps)=true
  .rw [if_pos hw]at key ⊢
   exact .inl key
  rw[if_neg hw]at key ⊢;exact key
theorem BM{s:St}{a:Act}{w:World}{id:Nat}{l:List Oper}(hm:P.follows .mixedOrders=true)(hT:o7 P T)(kp km:List Nat)(cs:List (Nat×CS))(h:i5 C s a w)(hgs:s.gs=[])(fs:List F7)(hD:cG l fs=true)(hlen:l.length=fs.length)
  {R:Alg->(Nat->j8)->St×List Ob}
  (hex:∀A X,(K3 A T cs X l (o9 0 l) s).map (fun r=>((r.1.keep kp km,r.2.1),r.2.2))=some (R A X,fs)) (hob:∀X,i7 P C.K (R std X).2) (hQ:∀X a' w',i5 C (R std X).1 a' w'->Q .normal a' w'):(Code.region id l.toArray true).wp P Q a w:=by
 simp only[cG,Bool.and_eq_true]at hD;obtain⟨⟨d1,d2⟩,d3⟩:=hD;refine wp_region_any hm ?_;have hf:i5 C s a { w with drawn:=w.drawn+1 }:=h.world (fun _ _ _=>rfl) (fun _ _ _ _ _=>rfl) ⟨h.chg.os,h.chg.tape,h.chg.output,h.chg.size,h.chg.block⟩ (fun _ _ _ hc _=>hc) (fun _ _ h _=>h);have hnl:∀(l:List Oper) (i:Nat),(o9 i l).length=l.length:=by
  intro l
  induction l with
  |nil=>intro i;rfl
  |cons o l ih=>intro i;simp[o9,ih]
 have hsz:l.toArray.size=(o9 0 l).length:=by simp[hnl]
 rw[hsz];refine CJ (cs:=cs) (all:=l) (tb:=fY l []) hT rfl (eW (l:=l) (tb:=[]) rfl (fun i j h=>by simp at h)) _ (o9 0 l) fs _ s a _ rfl hf (fun t p v hl=>by rw[hgs]at hl;cases hl) ?_ ⟨by rw[hnl];exact hlen,d1⟩ ?_ (aB l 0) ?_ ?_ (by simp[hnl]) ?_ ?_
 .exact kZ d3
 .intro k o hk hu
  exfalso
  by_cases hk':k<(o9 0 l).length
  .simp [Array.getD_eq_getD_getElem?,hk']at hu
  simp[Array.getD_eq_getD_getElem?,hk']at hu
 .intro x hx
  obtain⟨h1,h2⟩:=aj hx;rw[Nat.sub_zero]at h2;refine⟨by simpa using h2,?_⟩;have hlt:=(List.getElem?_eq_some_iff.1 h2).1;simp[Array.getD_eq_getD_getElem?,hnl,hlt]
 .intro k o hk _
  have:=bO (i:=0) (l:=l) (k:=k) (o:=o) (by simpa using hk)
  rwa[Nat.zero_add]at this
 .have ed:∀(L:List (Nat×Oper)),dS L=true->∀x∈L,∀e∈x.2.after.toList,Region.binds .any e=true->e.on<x.1:=by
   intro L
   induction L with
   |nil=>intro _ x hx;cases hx
   |cons y L ih=>
    obtain⟨i,o⟩:=y;intro hL x hx e he hb;simp only[dS,Bool.and_eq_true]at hL
    rcases List.mem_cons.1 hx with rfl|hx
    .have:=List.all_eq_true.1 hL.1 e he
     simpa[hb]using this
    exact ih hL.2 x hx e he hb
  exact ed _ d2
 intro X;obtain⟨r,hr,e⟩:=Option.map_eq_some_iff.1 (hex std X);obtain⟨τ,obs,fs'⟩:=r;simp only[Prod.mk.injEq]at e;obtain⟨e1,rfl⟩:=e;refine⟨τ,obs,hr,?_,fun a' w' hf'=>hQ X a' w' ?_⟩
 .have:=hob X;rw[<-e1]at this;exact this
 rw[<-e1];exact hf'.keep kp km
end
theorem k4{k:Nat}{n:Nat}(h:k<n)(hn:n<=maxLen):IntKind.i64.wrap ((k:Int)+1)=((k+1:Nat):Int):=by
 have:(n:Int)<=9223372036854775807:=by simp only[maxLen]at hn;omega
 rw[IntKind.wrap_i64];omega
theorem o8{x:Int}(h:-9223372036854775808<=x)(h':x<=9223372036854775807):IntKind.i64.wrap x=x:=by rw[IntKind.wrap_i64];omega
theorem Aw{m:Nat->Nat->Prop}{w:World}{l:List AV}(h:Ok m w (.agg l)):∀v∈l,Ok m w v:=by cases h with|agg _ _ h=>exact h
theorem jE{m:Nat->Nat->Prop}{w:World}{g:Option Nat}{A:Option Addr}{n c k:Nat}{cells:Nat->List AV}(h:Ok m w (.sl g A n c k cells)):n<=c/\c<=maxLen:=by
 cases h with|sl _ _ _ _ _ _ h1 h2=>exact⟨h1,h2⟩
theorem xP{m:Nat->Nat->Prop}{w:World}{g g':Option Nat}{A:Option Addr}{n c k:Nat}{f f':Nat->List AV}(h:Ok m w (.sl g A n c k f))(he:∀i,i<n->f i=f' i):Ok m w (.sl g' A n c k f'):=by
 cases h with
 |sl _ _ _ _ _ _ h1 h2 h3 h4 h5 h6 h7=>
  exact .sl _ _ _ _ _ _ h1 h2 (fun i hi=>by rw[<-he i hi];exact h3 i hi) h4 (fun i hi=>by rw[<-he i hi];exact h5 i hi) (fun i hi=>by rw[<-he i hi];exact h6 i hi) (fun i hi=>by rw[<-he i hi];exact h7 i hi)
def Sim(v v':AV):Prop:=v.den=v'.den/\(v.one=true->v'.one=true)/\∀m w,Ok m w v->Ok m w v'
theorem Sim.refl(v:AV):Sim v v:=⟨rfl,id,fun _ _ h=>h⟩
theorem Sim.recell{g g':Option Nat}{A:Option Addr}{n c k:Nat}{f f':Nat->List AV}(he:∀i,i<n->f i=f' i):Sim (.sl g A n c k f) (.sl g' A n c k f'):=⟨rfl,fun _=>rfl,fun _ _ h=>xP h he⟩
theorem zq0{g g':Option Nat}{A:Option Addr}{c k:Nat}{f f':Nat->List AV}:Sim (.sl g A 0 c k f) (.sl g' A 0 c k f'):=Sim.recell (fun i hi=>absurd hi (Nat.not_lt_zero _))
theorem Sim.resl{g g':Option Nat}{A:Option Addr}{n n' c k:Nat}{f f':Nat->List AV}(hn:n=n')(he:∀i,i<n'->f i=f' i):Sim (.sl g A n c k f) (.sl g' A n' c k f'):=by
 subst hn;exact Sim.recell he
theorem Sim.tt:Sim (.bool .tt) (.bool (.v true)):=⟨rfl,id,fun _ _ _=>.bool _⟩
theorem Sim.ff:Sim (.bool .ff) (.bool (.v false)):=⟨rfl,id,fun _ _ _=>.bool _⟩
def If(tmps:List (Nat×AV)):List (Nat×AV)->Prop
 | []=>True
 |(t,v)::l=>((look tmps t).known=true/\Sim (look tmps t) v)/\If tmps l
theorem vn{tmps:List (Nat×AV)}:∀{l:List (Nat×AV)},If tmps l->∀t,(look l t).known=true->(look tmps t).known=true/\Sim (look tmps t) (look l t)
 | [],_,t,h=>by cases h
 |(k,v)::l,hs,t,h=>by
  rw[B6]at h ⊢
  by_cases he:k=t
  .subst he;rw[if_pos rfl]at h ⊢;exact hs.1
  rw[if_neg he]at h ⊢;exact vn hs.2 t h
theorem i5.slots{C:Cx}{s:St}{a:Act}{w:World}(h:i5 C s a w){l:List (Nat×AV)}(hl:If s.tmps l):i5 C { s with tmps:=l,gs:=[] } a w:=
 ⟨h.size,h.defers,fun t ht=>by
  obtain⟨h1,h2,_,h3⟩:=vn hl t ht;have:=h.slot t h1;exact⟨by show a.tmps[t]? = some (look l t).den;rw[<-h2];exact this.1,h3 _ _ this.2⟩,(fun t p v hg=>by cases hg),h.mem,h.nodup,h.gr,h.sepm,h.sepg,h.chg,h.m0,h.kept⟩
theorem i5.head{C:Cx}{nt d:Nat}{v v':AV}{l:List (Nat×AV)}{mem:List (Nat×Blk)}{gr:List (Nat×Gr)}{a:Act}{w:World}(h:i5 C ⟨nt,(d,v)::l,[],mem,gr⟩ a w)(e:v=v'):i5 C ⟨nt,(d,v')::l,[],mem,gr⟩ a w:=e ▸ h
theorem i5.headS{C:Cx}{nt d:Nat}{v v':AV}{l:List (Nat×AV)}{mem:List (Nat×Blk)}{gr:List (Nat×Gr)}{a:Act}{w:World}(h:i5 C ⟨nt,(d,v)::l,[],mem,gr⟩ a w)(e:Sim v v')(hk:v.known=true):i5 C ⟨nt,(d,v')::l,[],mem,gr⟩ a w:=
 ⟨h.size,h.defers,fun t ht=>by
  by_cases he:d=t
  .subst he
   have e0:∀v:AV,look ((d,v)::l) d=v:=fun v=>by rw[B6,if_pos rfl]
   have:=h.slot d (by show(look ((d,v)::l) d).known=true;rw[e0];exact hk)
   have this':a.tmps[d]? = some (look ((d,v)::l) d).den/\Ok (St.m ⟨nt,(d,v)::l,[],mem,gr⟩ C) w (look ((d,v)::l) d):=this;rw[e0]at this'
   show a.tmps[d]? = some (look ((d,v')::l) d).den/\Ok _ w (look ((d,v')::l) d)
   rw[e0,<-e.1];exact⟨this'.1,e.2.2 _ _ this'.2⟩
  have e1:∀v:AV,look ((d,v)::l) t=look l t:=fun v=>by rw[B6,if_neg he]
  have hk':(look ((d,v')::l) t).known=true:=ht;rw[e1]at hk';have:=h.slot t (by show(look ((d,v)::l) t).known=true;rw[e1];exact hk')
  have this':a.tmps[t]? = some (look ((d,v)::l) t).den/\Ok (St.m ⟨nt,(d,v)::l,[],mem,gr⟩ C) w (look ((d,v)::l) t):=this;rw[e1]at this'
  show a.tmps[t]? = some (look ((d,v')::l) t).den/\Ok _ w (look ((d,v')::l) t)
  rw[e1];exact this',(fun t p v hg=>by cases hg),h.mem,h.nodup,h.gr,h.sepm,h.sepg,h.chg,h.m0,h.kept⟩
theorem i5.tail{C:Cx}{nt:Nat}{d:Nat}{v:AV}{l:List (Nat×AV)}{mem:List (Nat×Blk)}{gr:List (Nat×Gr)}{a:Act}{w:World}(h:i5 C ⟨nt,(d,v)::l,[],mem,gr⟩ a w)(hd:(look l d).known=false):i5 C ⟨nt,l,[],mem,gr⟩ a w:=
 ⟨h.size,h.defers,fun t ht=>by
  have hne:d≠t:=fun e=>by subst e;rw[hd]at ht;cases ht
  have:=h.slot t (by show(look ((d,v)::l) t).known=true;rw[B6,if_neg hne];exact ht)
  have e:look ((d,v)::l) t=look l t:=by rw[B6,if_neg hne]
  have this':a.tmps[t]? = some (look ((d,v)::l) t).den/\Ok (St.m ⟨nt,(d,v)::l,[],mem,gr⟩ C) w (look ((d,v)::l) t):=this;rw[e]at this';exact this',(fun t p v hg=>by cases hg),h.mem,h.nodup,h.gr,h.sepm,h.sepg,h.chg,h.m0,h.kept⟩
section
variable {P:Program} {Q:Exit->Act->World->Prop} {C:Cx} {nt t:Nat} {b:Bool} {l:List (Nat×AV)} {mem:List (Nat×Blk)} {gr:List (Nat×Gr)} {a:Act} {w:World} {x y:Code}
theorem oa(h:i5 C ⟨nt,(t,.bool (.v b))::l,[],mem,gr⟩ a w)(h1:b=true->i5 C ⟨nt,(t,.bool .tt)::l,[],mem,gr⟩ a w->x.wp P Q a w)(h2:b=false->i5 C ⟨nt,(t,.bool .ff)::l,[],mem,gr⟩ a w->y.wp P Q a w):(Code.cond (.tmp t) x y).wp P Q a w:=
 wP h (by show look ((t,_)::l) t=_;rw[B6,if_pos rfl]) (fun hb=>h1 hb (h.headS (by subst hb;exact⟨rfl,id,fun _ _ _=>.bool _⟩) rfl)) (fun hb=>h2 hb (h.headS (by subst hb;exact⟨rfl,id,fun _ _ _=>.bool _⟩) rfl))
theorem b7(h:i5 C ⟨nt,(t,.bool (.v b))::l,[],mem,gr⟩ a w)(hd:(look l t).known=false)(h1:b=true->i5 C ⟨nt,l,[],mem,gr⟩ a w->x.wp P Q a w)(h2:b=false->i5 C ⟨nt,l,[],mem,gr⟩ a w->y.wp P Q a w):(Code.cond (.tmp t) x y).wp P Q a w:=
 wP h (by show look ((t,_)::l) t=_;rw[B6,if_pos rfl]) (fun hb=>h1 hb (h.tail hd)) (fun hb=>h2 hb (h.tail hd))
theorem l7(h:i5 C ⟨nt,(t,.bool .tt)::l,[],mem,gr⟩ a w)(hd:(look l t).known=false)(h1:i5 C ⟨nt,l,[],mem,gr⟩ a w->x.wp P Q a w):(Code.cond (.tmp t) x y).wp P Q a w:=
 FW h (by show look ((t,_)::l) t=_;rw[B6,if_pos rfl]) (h1 (h.tail hd))
theorem l4(h:i5 C ⟨nt,(t,.bool .ff)::l,[],mem,gr⟩ a w)(hd:(look l t).known=false)(h1:i5 C ⟨nt,l,[],mem,gr⟩ a w->y.wp P Q a w):(Code.cond (.tmp t) x y).wp P Q a w:=
 FX h (by show look ((t,_)::l) t=_;rw[B6,if_pos rfl]) (h1 (h.tail hd))
end
def fT:BE->BE
 | .tt=>.v true
 | .ff=>.v false
 |b=>b
mutual
def can:AV->AV
 | .bool b=>.bool (fT b)
 | .agg l=>.agg (kO l)
 | .tup l=>.tup (kO l)
 |v=>v
def kO:List AV->List AV
 | []=>[]
 |v::l=>can v::kO l
end
theorem td(l:List AV):kO l=l.map can:=by
 induction l with
 |nil=>rfl
 |cons v l ih=>simp[kO,ih]
theorem Ct(b:BE):(fT b).den=b.den:=by cases b<;>rfl
mutual
theorem I6:∀v:AV,(can v).den=v.den
 | .bool b=>by simp only[can,AV.den,Ct]
 | .agg l=>by simp only[can,AV.den,nA l]
 | .tup l=>by simp only[can,AV.den,nA l]
 | .undef| .int .. | .str .. | .nilp| .ptr .. | .sl .. | .ep .. | .fn .. | .ifc .. | .nili| .opt .. | .raw .. =>rfl
theorem nA:∀l:List AV,AV.denL (kO l)=AV.denL l
 | []=>rfl
 |v::l=>by simp only[kO,AV.denL,I6 v,nA l]
end
theorem lA(v:AV):(can v).one=v.one:=by cases v<;>rfl
mutual
theorem L9{m:Nat->Nat->Prop}{w:World}:∀v:AV,Ok m w v↔Ok m w (can v)
 | .bool b=>⟨fun _=>.bool _,fun _=>.bool _⟩
 | .agg l=>by
  have ih:=qR (m:=m) (w:=w) l
  constructor
  .intro h
   cases h with
   |agg _ h1 h2=>
    refine .agg _ (fun v hv=>?_) (ih.1 h2);rw[td]at hv;obtain⟨y,hy,rfl⟩:=List.mem_map.1 hv;rw[lA];exact h1 y hy
  intro h;have h':Ok m w (.agg (kO l)):=h
  cases h' with
  |agg _ h1 h2=>
   refine .agg _ (fun v hv=>?_) (ih.2 h2);rw[<-lA];exact h1 _ (by rw[td];exact List.mem_map.2 ⟨v,hv,rfl⟩)
 | .tup l=>by
  have ih:=qR (m:=m) (w:=w) l
  constructor
  .intro h
   cases h with|tup _ h1=>exact .tup _ (ih.1 h1)
  intro h;have h':Ok m w (.tup (kO l)):=h
  cases h' with|tup _ h1=>exact .tup _ (ih.2 h1)
 | .undef| .int .. | .str .. | .nilp| .ptr .. | .sl .. | .ep .. | .fn .. | .ifc .. | .nili| .opt .. | .raw .. =>Iff.rfl
theorem qR{m:Nat->Nat->Prop}{w:World}:∀l:List AV,(∀v∈l,Ok m w v) ↔ ∀v∈kO l,Ok m w v
 | []=>by simp[kO]
 |v::l=>by
  have h1:=L9 (m:=m) (w:=w) v;have h2:=qR (m:=m) (w:=w) l;simp only[kO,List.mem_cons,forall_eq_or_imp];exact and_congr h1 h2
end
theorem Cs{m:Nat->Nat->Prop}{w:World}{v v':AV}(h:Ok m w v)(e:can v=can v'):v.den=v'.den/\Ok m w v':=
 ⟨by rw[<-I6 v,<-I6 v',e],(L9 v').2 (e ▸ (L9 v).1 h)⟩
section
variable {P:Program} {T:List (Nat×TI)} {s:St} {a:Act} {w:World}
theorem zW{Kk:Kn}(hT:o7 P T){m:Nat->Nat->Prop}{w0:World}(h:i5 ⟨m,w0,fun _=>False,[],Kk⟩ s a w){fn:Func}{res:j8->AV}{rs:List ResultVar}(hfn:fn.results=rs.toArray){r:List AV×List Ob}(hr:T5 T s rs=some r)(ho:i7 P Kk r.2)
  (x:j8) (he:can (K0 r.1)=can (res x)):bodyPost P fn (fun e w'=>∃x,e = .returned (res x).den/\Ok m w' (res x)/\Below w0.heap.size w0 w') .ret a w:=by
 refine(gq hT h rfl hfn hr ho fun hv=>?_).1;obtain⟨h1,h2⟩:=qI h hv;obtain⟨h3,h4⟩:=Cs h1 he;exact⟨x,by rw[h3],h4,h2⟩
end
section
variable {P:Program} {T:List (Nat×TI)} {s:St} {a:Act} {w:World}
theorem xE{Kk:Kn}(hT:o7 P T){m:Nat->Nat->Prop}{w0:World}(h:i5 ⟨m,w0,fun _=>False,[],Kk⟩ s a w){fn:Func}{res:j8->AV}{rs:List ResultVar}(hfn:fn.results=rs.toArray){r:List AV×List Ob}(hr:T5 T s rs=some r)(ho:i7 P Kk r.2)
  (x:j8) (he:can (K0 r.1)=can (res x)):bodyPost P fn (fun e w'=>∃x,e = .returned (res x).den/\Ok m w' (res x)/\Below w0.heap.size w0 w') .normal a w:=by
 refine(gq hT h rfl hfn hr ho fun hv=>?_).2;obtain⟨h1,h2⟩:=qI h hv;obtain⟨h3,h4⟩:=Cs h1 he;exact⟨x,by rw[h3],h4,h2⟩
end
def pre{α : Type}:List α->List α->List α
 | [],r=>r
 |x::l,r=>x::pre l r
theorem l3{P:Program}{Q:Exit->Act->World->Prop}{C:Cx}{ι : Type}(S:ι->List (Nat×AV))(M:ι->List (Nat×Blk))(G:ι->List (Nat×Gr))(J:ι->Prop)(μ : ι->Nat){nt:Nat}{rest:List (Nat×AV)}{restm:List (Nat×Blk)}{restg:List (Nat×Gr)}{c:Code}{a:Act}{w:World}(p₀:ι)(h₀:J p₀)
  (hf:i5 C ⟨nt,pre (S p₀) rest,[],pre (M p₀) restm,pre (G p₀) restg⟩ a w)
  (round:∀p,J p->∀a w,i5 C ⟨nt,pre (S p) rest,[],pre (M p) restm,pre (G p) restg⟩ a w->c.wp P (Exit.then (fun a' w'=>∃p',J p'/\μ p'<μ p/\i5 C ⟨nt,pre (S p') rest,[],pre (M p') restm,pre (G p') restg⟩ a' w') Q) a w):(Code.loop c).wp P Q a w:=
 Ew (fun p=>⟨nt,pre (S p) rest,[],pre (M p) restm,pre (G p) restg⟩) J μ p₀ h₀ hf round
def G3:List AV->List AV->Prop
 | [],[]=>True
 |v::l,v'::l'=>Sim v v'/\G3 l l'
 |_,_=>False
theorem G3.den:∀{l l':List AV},G3 l l'->AV.denL l=AV.denL l'
 | [],[],_=>rfl
 |v::l,v'::l',h=>by simp only[AV.denL,h.1.1,G3.den h.2]
theorem G3.one:∀{l l':List AV},G3 l l'->(∀v∈l,v.one=true)->∀v∈l',v.one=true
 | [],[],_,_=>by simp
 |v::l,v'::l',h,h1=>by
  simp only[List.mem_cons,forall_eq_or_imp]at h1 ⊢;exact⟨h.1.2.1 h1.1,G3.one h.2 h1.2⟩
theorem G3.ok{m:Nat->Nat->Prop}{w:World}:∀{l l':List AV},G3 l l'->(∀v∈l,Ok m w v)->∀v∈l',Ok m w v
 | [],[],_,_=>by simp
 |v::l,v'::l',h,h1=>by
  simp only[List.mem_cons,forall_eq_or_imp]at h1 ⊢;exact⟨h.1.2.2 _ _ h1.1,G3.ok h.2 h1.2⟩
theorem Sim.agg{l l':List AV}(h:G3 l l'):Sim (.agg l) (.agg l'):=
 ⟨by simp only[AV.den,h.den],id,fun m w ho=>by cases ho with|agg _ h1 h2=>exact .agg _ (h.one h1) (h.ok h2)⟩
theorem Sim.tup{l l':List AV}(h:G3 l l'):Sim (.tup l) (.tup l'):=
 ⟨by simp only[AV.den,h.den],id,fun m w ho=>by cases ho with|tup _ h1=>exact .tup _ (h.ok h1)⟩
theorem k9.res{P:Program}{f:Nat}{args:List AV}{res res':j8->AV}(h:k9 P f args res)(hs:∀x,Sim (res x) (res' x)):k9 P f args res':=by
 intro m w hm ha;refine(h m w hm ha).mono ?_
 rintro e w' ⟨x,rfl,ho,hb⟩
 exact⟨x,by rw[(hs x).1],(hs x).2.2 _ _ ho,hb⟩
theorem Sim.bool{b b':BE}(h:b.den=b'.den):Sim (.bool b) (.bool b'):=⟨by simp only[AV.den,h],id,fun _ _ _=>.bool _⟩
theorem k9.sim{P:Program}{f:Nat}{args args':List AV}{res:j8->AV}(h:k9 P f args res)(hs:G3 args' args):k9 P f args' res:=by
 intro m w hm ha;have:=h m w hm (hs.ok ha);have e:args'.map AV.den=args.map AV.den:=by
  clear this ha h
  induction args' generalizing args with
  |nil=>cases args with
   |nil=>rfl
   |cons=>exact hs.elim
  |cons v l ih=>cases args with
   |nil=>exact hs.elim
   |cons v' l'=>simp only[List.map_cons,hs.1.1,ih hs.2]
 rw[e];exact this
theorem wK{P:Program}{Q:Exit->Act->World->Prop}{C:Cx}{ι : Type}(S:ι->List (Nat×AV))(M:ι->List (Nat×Blk))(G:ι->List (Nat×Gr))(J:ι->Prop){nt:Nat}{S0 rest:List (Nat×AV)}{M0 restm:List (Nat×Blk)}{G0 restg:List (Nat×Gr)}{x:Code}{a:Act}{w:World}
  (hf:i5 C ⟨nt,pre S0 rest,[],pre M0 restm,pre G0 restg⟩ a w)
  (hx:x.wp P (Exit.then (fun a' w'=>∃p,J p/\i5 C ⟨nt,pre (S p) rest,[],pre (M p) restm,pre (G p) restg⟩ a' w') Q) a w)
  (hy:∀p,J p->∀a' w',i5 C ⟨nt,pre (S p) rest,[],pre (M p) restm,pre (G p) restg⟩ a' w'->Q .normal a' w'):x.wp P Q a w:=by
 refine Code.wp_mono (fun e a' w' h=>?_) hx
 cases e with
 |normal=>obtain⟨p,hp,hf'⟩:=h;exact hy p hp a' w' hf'
 |_=>exact h
theorem DR{Kk:Kn}{P:Program}{T:List (Nat×TI)}{s:St}{a:Act}{w:World}(hT:o7 P T){m:Nat->Nat->Prop}{w0:World}(h:i5 ⟨m,w0,fun _=>False,[],Kk⟩ s a w){fn:Func}{res:j8->AV}{rs:List ResultVar}(hfn:fn.results=rs.toArray){r:List AV×List Ob}(hr:T5 T s rs=some r)(ho:i7 P Kk r.2)
  (x:j8) (he:Sim (can (K0 r.1)) (can (res x))):bodyPost P fn (fun e w'=>∃x,e = .returned (res x).den/\Ok m w' (res x)/\Below w0.heap.size w0 w') .ret a w:=by
 refine(gq hT h rfl hfn hr ho fun hv=>?_).1;obtain⟨h1,h2⟩:=qI h hv;exact⟨x,by rw[<-I6 (K0 r.1),he.1,I6],(L9 _).2 (he.2.2 _ _ ((L9 _).1 h1)),h2⟩
def C5:j8:=⟨0,fun _=>none,fun _=>0,fun _=>.empty⟩
section
variable {C:Cx} {P:Program} {Q:Exit->Act->World->Prop} {T:List (Nat×TI)} {ops:Array Oper} {all:List Oper}
theorem sL{cs:List (Nat×CS)}{l2:List Oper}(hT:o7 P T)(hall:ops=all.toArray):∀(l:List Oper) (i:Nat) (s:St) (a:Act) (w:World),i5 C s a w->(∀X,∃r,K3 std T cs X all (o9 i l) s=some r/\i7 P C.K r.2.1) →
  (∀X r a' w',K3 std T cs X all (o9 i l) s=some r->i5 C r.1 a' w'->wpList P ops Q l2 a' w')->wpList P ops Q (l++l2) a w
 | [],i,s,a,w,h,hs,hQ=>hQ (fun _=>⟨0,fun _=>none,fun _=>0,fun _=>.empty⟩) _ a w rfl h
 |o::l,i,s,a,w,h,hs,hQ=>by
  refine wpList_step fun K hK=>?_
  refine jh (cs:=cs) (i:=i) hT hall h (fun x=>?_) fun x r a' w' hr hf=>hK _ _ ?_
  .obtain ⟨r,hr,hob⟩:=hs (fun _=>x)
   obtain⟨δ,ob,f,r',h1,h2,rfl⟩:=R9 hr;exact⟨_,h1,(i7.app.1 hob).1⟩
  have put:∀X:Nat->j8,∃Y:Nat->j8,Y i=x/\∀j,i+1<=j->Y j=X j:=fun X=>⟨fun j=>if j=i then x else X j,by simp,fun j hj=>by simp only;rw[if_neg (by omega)]⟩
  refine sL (cs:=cs) hT hall l (i+1) (s.app r.1) a' w' hf (fun X=>?_) fun X r' a'' w'' hr' hf'=>?_
  .obtain ⟨Y,hY,hYX⟩:=put X
   obtain⟨r1,h1,hob⟩:=hs Y;obtain⟨δ,ob,f,r2,h2,h3,rfl⟩:=R9 h1;rw[hY,hr]at h2;injection h2 with h2;subst h2
   rw[ar _ _ (fun x hx=>hYX x.1 (bw x hx))]at h3;exact⟨r2,h3,(i7.app.1 hob).2⟩
  obtain⟨Y,hY,hYX⟩:=put X;obtain⟨r1,h1,hob⟩:=hs Y;have h1':=h1;obtain⟨δ,ob,f,r2,h2,h3,rfl⟩:=R9 h1;rw[hY,hr]at h2;injection h2 with h2;subst h2
  rw[ar _ _ (fun x hx=>hYX x.1 (bw x hx)),hr']at h3;injection h3 with h3;subst h3
  exact hQ Y _ a'' w'' h1' hf'
theorem AX{s:St}{a:Act}{w:World}{L:List Oper}(i n:Nat)(hT:o7 P T)(kp km:List Nat)(cs:List (Nat×CS))(h:i5 C s a w){R:Alg->(Nat->j8)->St×List Ob}
  (hex:∀A X,(K3 A T cs X all (o9 i (L.take n)) s).map (fun r=>(r.1.keep kp km,r.2.1))=some (R A X)) (hob:∀X,i7 P C.K (R std X).2) (hQ:∀X a' w',i5 C (R std X).1 a' w'->wpList P all.toArray Q (L.drop n) a' w'):wpList P all.toArray Q L a w:=by
 have e:L=L.take n++L.drop n:=(List.take_append_drop n L).symm;rw[e];refine sL (cs:=cs) hT rfl (L.take n) i s a w h (fun X=>?_) fun X r a' w' hr hf=>?_
 .obtain ⟨r,hr,e⟩:=Option.map_eq_some_iff.1 (hex std X)
  refine⟨r,hr,?_⟩;have:=hob X;rw[<-e]at this;exact this
 have e:=hex std X;rw[hr]at e;injection e with e
 refine hQ X a' w' ?_;rw[<-e];exact hf.keep kp km
theorem AY{s:St}{a:Act}{w:World}{L:List Oper}(i:Nat)(hT:o7 P T)(kp km:List Nat)(cs:List (Nat×CS))(h:i5 C s a w){R:Alg->(Nat->j8)->St×List Ob}
  (hex:∀A X,(K3 A T cs X all (o9 i L) s).map (fun r=>(r.1.keep kp km,r.2.1))=some (R A X)) (hob:∀X,i7 P C.K (R std X).2) (hQ:∀X a' w',i5 C (R std X).1 a' w'->Q .normal a' w'):wpList P all.toArray Q L a w:=by
 refine qF (cs:=cs) hT rfl L i s a w h (fun X=>?_) fun X r a' w' hr hf=>?_
 .obtain ⟨r,hr,e⟩:=Option.map_eq_some_iff.1 (hex std X)
  refine⟨r,hr,?_⟩;have:=hob X;rw[<-e]at this;exact this
 have e:=hex std X;rw[hr]at e;injection e with e
 refine hQ X a' w' ?_;rw[<-e];exact hf.keep kp km
theorem ap{a:Act}{w:World}{L rest:List Oper}{o:Oper}(hL:L=o::rest)(hg:o.guard=none)(h:o.wp P a w (wpList P ops Q rest) Q):wpList P ops Q L a w:=by
 subst hL;unfold wpList;have:Region.wanted o (yielded ops a.tmps)=true:=by simp[Region.wanted,hg]
 rw[if_pos this];exact .inl h
end
inductive Out where
 |ret (r:CR)
 |thr (v:Value) (sets:List (Nat×List AV))
def KN(m:Nat->Nat->Prop)(w:World)(pre:List (Nat×Blk))(e:Ending)(w':World):Out->Prop
 | .ret r=>e = .returned r.v.den/\Ok (mN m r.news) w' r.v/\js m w w' pre r.sets r.news
 | .thr v sets=>e = .panicked [{ v,recovered:=false }]/\js m w w' pre sets []
def kD(m:Nat->Nat->Prop)(w:World)(pre:List (Nat×Blk))(out:j8->Out)(e:Ending)(w':World):Prop:=∃x,KN m w pre e w' (out x)
def CL(P:Program)(f:FuncId)(args:List AV)(pre:List (Nat×Blk))(out:j8->Out):Prop:=
 ∀(m:Nat->Nat->Prop) (w:World),(∀b o,m b o->b<w.heap.size)->(∀v∈args,Ok m w v)->R1 m w pre->Calls P f (args.map AV.den).toArray w (kD m w pre out)
theorem CL.x{P:Program}{f:FuncId}{args:List AV}{pre:List (Nat×Blk)}{out:j8->Out}{res:j8->CR}(h:CL P f args pre out)(e:∀x,out x = .ret (res x)):C1 P f args pre res:=by
 intro m w h1 h2 h3;refine(h m w h1 h2 h3).mono ?_
 rintro e' w' ⟨x,hx⟩
 rw[e x]at hx;exact⟨x,hx⟩
theorem C1.pure{P:Program}{f:FuncId}{args:List AV}{res:j8->CR}{res':j8->AV}(h:C1 P f args [] res)(e:∀x,res x=⟨res' x,[],[]⟩):k9 P f args res':=by
 intro m w h1 h2;refine(h m w h1 h2 ⟨fun e he=>(by cases he),fun e he=>(by cases he),fun e he=>(by cases he),.nil⟩).mono ?_
 rintro e' w' ⟨x,rfl,hok,hl⟩
 rw[e x]at hok hl ⊢;refine⟨x,rfl,hok.mono fun b o u h1 h2=>⟨h1,fun h=>h2 (.inl h)⟩,hl.chg.below (Nat.le_refl _) fun k ⟨e,he,_⟩=>(by cases he)⟩
section
variable {P:Program}
theorem de{m:Nat->Nat->Prop}{w:World}{pre:List (Nat×Blk)}(hm:∀b o,m b o->b<w.heap.size)(hp:R1 m w pre){args:List AV}(hargs:∀v∈args,Ok m w v){n:Nat}(hn:args.length<=n) :
  i5 ⟨m,w,ats pre,[],noK⟩ ⟨n,C8 0 args,[],pre,[]⟩ { tmps:=(args.map AV.den).toArray++Array.replicate (n-args.length) Go.undef,defers:=[] } w:=by
 have mono:∀v,Ok m w v->Ok (St.m ⟨n,C8 0 args,[],pre,[]⟩ ⟨m,w,ats pre,[],noK⟩) w v:=fun v hv=>hv.mono fun b' o u h1 h2=>⟨h1,fun h=>by
  rcases h with h|⟨k,e,he,hat⟩|⟨k,e,he,_⟩
  .exact h2 h
  .exact h2 (hat ▸ hp.free _ (I9 he) o)
  cases he⟩
 have h0:=rC hm hargs hn;refine⟨h0.size,rfl,fun t ht=>?_,(fun t p v he=>by cases he),fun k e he=>?_,fun k k' e e' he he' hne=>eT hp.dist (I9 he) (I9 he') hne,(fun k t ht=>by cases ht),(fun k t k' e ht=>by cases ht),(fun k t k' t' b ht=>by cases ht),Chg.refl _ _,hm,trivial⟩
 .obtain ⟨h1,h2⟩:=h0.slot t ht
  exact⟨h1,mono _ (h2.mono fun b' o u g1 g2=>⟨g1,fun hm'=>g2 (.inl hm')⟩)⟩
 have hin:=I9 he;exact⟨hp.heap _ hin,fun v hv=>⟨(hp.ok _ hin v hv).1,mono _ (hp.ok _ hin v hv).2⟩,.inr ⟨_,hin,rfl⟩⟩
theorem BJ{m:Nat->Nat->Prop}{w:World}{pre:List (Nat×Blk)}(hm:∀b o,m b o->b<w.heap.size)(hp:R1 m w pre){args:List AV}(hargs:∀v∈args,Ok m w v){f:FuncId}{fn:Func}{c:Code}{R:Ending->World->Prop}(hf:P.funcs[f]? = some fn)(hbd:fn.body=some c)(hn:args.length<=fn.ntmps)
  (h:∀a,i5 ⟨m,w,ats pre,[],noK⟩ ⟨fn.ntmps,C8 0 args,[],pre,[]⟩ a w->c.wp P (bodyPost P fn R) a w):Calls P f (args.map AV.den).toArray w R:=by
 refine calls_of_wp hf hbd ?_;have:=h _ (de hm hp hargs hn)
 simpa using this
theorem Jy{m:Nat->Nat->Prop}{w:World}{pre:List (Nat×Blk)}(hm:∀b o,m b o->b<w.heap.size)(hp:R1 m w pre){args:List AV}(hargs:∀v∈args,Ok m w v){f:FuncId}{fn:Func}{c:Code}{R:Ending->World->Prop}(hf:P.funcs[f]? = some fn)(hbd:fn.body=some c)(hn:args.length<=fn.ntmps)
  (h:∀a,i5 ⟨m,w,ats pre,[],noK⟩ ⟨fn.ntmps,C8 0 args,[],pre,[]⟩ a w->c.wp P (bodyPostD P fn R) a w):Calls P f (args.map AV.den).toArray w R:=by
 refine calls_of_wp_defers hf hbd ?_;have:=h _ (de hm hp hargs hn)
 simpa using this
def C2(s:St):List (Nat×Blk)->List (Nat×List AV)->Prop
 | [],[]=>True
 |(k,b)::l,(k',c)::r=>k'=k/\(∃cells,j7 s.mem k=some ⟨b.at_,b.ty,cells⟩/\G3 cells c)/\C2 s l r
 |_,_=>False
def K6(s:St)(pre:List (Nat×Blk)):List Nat->List (Nat×Blk)->Prop
 | [],[]=>True
 |k::ks,(_,b)::l=>(∃cells,j7 s.mem k=some ⟨b.at_,b.ty,cells⟩/\G3 cells b.cells)/\(∀e∈pre,e.1≠k)/\k ∉ ks/\K6 s pre ks l
 |_,_=>False
theorem C2.keys{s:St}:∀{pre:List (Nat×Blk)} {sets:List (Nat×List AV)},C2 s pre sets->sets.map (·.1)=pre.map (·.1)
 | [],[],_=>rfl
 |(k,b)::l,(k',c)::r,h=>by simp only[List.map_cons,h.1,C2.keys h.2.2]
 | [],_::_,h=>h.elim
 |_::_,[],h=>h.elim
theorem C2.mem{s:St}:∀{pre:List (Nat×Blk)} {sets:List (Nat×List AV)},C2 s pre sets->∀e∈upd pre sets,∃cells,j7 s.mem e.1=some ⟨e.2.at_,e.2.ty,cells⟩/\G3 cells e.2.cells
 | [],[],_,e,he=>by cases he
 |(k,b)::l,(k',c)::r,h,e,he=>by
  simp only[upd,List.mem_cons]at he
  rcases he with rfl|he
  .exact h.2.1
  exact C2.mem h.2.2 e he
 | [],_::_,h,_,_=>h.elim
 |_::_,[],h,_,_=>h.elim
theorem C2.all{s:St}:∀{pre:List (Nat×Blk)} {sets:List (Nat×List AV)},C2 s pre sets->∀e∈pre,∃cells,j7 s.mem e.1=some ⟨e.2.at_,e.2.ty,cells⟩
 | [],[],_,e,he=>by cases he
 |(k,b)::l,(k',c)::r,h,e,he=>by
  rcases List.mem_cons.1 he with rfl|he
  .obtain ⟨cells,h1,_⟩:=h.2.1;exact⟨cells,h1⟩
  exact C2.all h.2.2 e he
 | [],_::_,h,_,_=>h.elim
 |_::_,[],h,_,_=>h.elim
theorem K6.mem{s:St}{pre:List (Nat×Blk)}:∀{ks:List Nat} {news:List (Nat×Blk)},K6 s pre ks news->∀e∈news,∃k cells,k∈ks/\j7 s.mem k=some ⟨e.2.at_,e.2.ty,cells⟩/\G3 cells e.2.cells/\∀e∈pre,e.1≠k
 | [],[],_,e,he=>by cases he
 |k::ks,(_,b)::l,h,e,he=>by
  rcases List.mem_cons.1 he with rfl|he
  .obtain ⟨cells,h1,h2⟩:=h.1;exact⟨k,cells,by simp,h1,h2,h.2.1⟩
  obtain⟨k',cells,h0,h1⟩:=K6.mem h.2.2.2 e he;exact⟨k',cells,List.mem_cons_of_mem _ h0,h1⟩
 | [],_::_,h,_,_=>h.elim
 |_::_,[],h,_,_=>h.elim
theorem K6.dist{s:St}{C:Cx}{a:Act}{w:World}(Z:i5 C s a w){pre:List (Nat×Blk)}:∀{ks:List Nat} {news:List (Nat×Blk)},K6 s pre ks news->news.Pairwise fun e f=>e.2.at_≠f.2.at_
 | [],[],_=>.nil
 |k::ks,(_,b)::l,h=>by
  refine .cons (fun e he=>?_) (K6.dist Z h.2.2.2);obtain⟨k',cells,h0,h1,_⟩:=K6.mem h.2.2.2 e he;obtain⟨cells',h2,_⟩:=h.1;have:=Z.nodup k k' _ _ h2 h1 fun e=>h.2.2.1 (e ▸ h0)
  exact this
 | [],_::_,h=>h.elim
 |_::_,[],h=>h.elim
theorem G3.map:∀{l l':List AV},G3 l l'->l.map AV.den=l'.map AV.den
 | [],[],_=>rfl
 |v::l,v'::l',h=>by simp only[List.map_cons,h.1.1,G3.map h.2]
 | [],_::_,h=>h.elim
 |_::_,[],h=>h.elim
theorem dI{K:Kn}{m:Nat->Nat->Prop}{w0 w:World}{pre:List (Nat×Blk)}{d:List Deferred}{s:St}{a:Act}(h:i5 ⟨m,w0,ats pre,d,K⟩ s a w){sets:List (Nat×List AV)}{news:List (Nat×Blk)}{ks:List Nat}(hs:C2 s pre sets)(hn:K6 s pre ks news) :
  js m w0 w pre sets news/\∀v,Ok (s.m ⟨m,w0,ats pre,d,K⟩) w v->Ok (mN m news) w v:=by
 have sub:∀v,Ok (s.m ⟨m,w0,ats pre,d,K⟩) w v->Ok (mN m news) w v:=fun v hv=>hv.mono fun b' o u h1 h2=>⟨h1,fun hm=>by
  rcases hm with hm|⟨e,he,hat⟩
  .exact h2 (.inl hm)
  obtain⟨k,cells,_,hk,_⟩:=hn.mem e he;exact h2 (.inr (.inl ⟨k,_,hk,hat⟩))⟩
 have key:∀e∈upd pre sets++news,∃k cells,j7 s.mem k=some ⟨e.2.at_,e.2.ty,cells⟩/\G3 cells e.2.cells:=by
  intro e he
  rcases List.mem_append.1 he with he|he
  .obtain ⟨cells,h1,h2⟩:=hs.mem e he;exact⟨_,cells,h1,h2⟩
  obtain⟨k,cells,_,h1,h2,_⟩:=hn.mem e he;exact⟨k,cells,h1,h2⟩
 refine⟨⟨hs.keys,fun e he=>?_,fun e he v hv=>?_,fun e he=>?_,hn.dist h,h.chg⟩,sub⟩
 .obtain ⟨k,cells,h1,h2⟩:=key e he
  have:=(h.mem _ _ h1).1;simp only at this;rw[h2.map]at this;exact this
 .obtain ⟨k,cells,h1,h2⟩:=key e he
  have h3:=(h.mem _ _ h1).2.1;exact⟨h2.one (fun v hv=>(h3 v hv).1) v hv,h2.ok (fun v hv=>sub v (h3 v hv).2) v hv⟩
 obtain⟨k,cells,_,h1,_,h2⟩:=hn.mem e he
 rcases(h.mem _ _ h1).2.2 with h3|⟨e',he',hat⟩
 .exact h3
 obtain⟨cells',h4⟩:=hs.all e' he';have:=h.nodup _ _ _ _ h4 h1 (h2 e' he');exact absurd hat this
variable {T:List (Nat×TI)} {s:St} {a:Act} {w:World}
theorem DS{Kk:Kn}(hT:o7 P T){m:Nat->Nat->Prop}{w0:World}{pre:List (Nat×Blk)}(h:i5 ⟨m,w0,ats pre,[],Kk⟩ s a w){fn:Func}{out:j8->Out}{rs:List ResultVar}(hfn:fn.results=rs.toArray){r:List AV×List Ob}(hr:T5 T s rs=some r)(ho:i7 P Kk r.2)
  (x:j8) {cr:CR} (hout:out x = .ret cr) (ks:List Nat) (he:Sim (can (K0 r.1)) (can cr.v)) (hs:C2 s pre cr.sets) (hn:K6 s pre ks cr.news):bodyPost P fn (kD m w0 pre out) .ret a w/\bodyPost P fn (kD m w0 pre out) .normal a w:=by
 obtain⟨h1,h2⟩:=dI h hs hn;refine gq hT h rfl hfn hr ho fun hv=>⟨x,?_⟩
 rw[hout];exact⟨by rw[<-I6 (K0 r.1),he.1,I6],(L9 _).2 (he.2.2 _ _ ((L9 _).1 (h2 _ hv))),h1⟩
theorem vz{Kk:Kn}(hT:o7 P T){m:Nat->Nat->Prop}{w0:World}{pre:List (Nat×Blk)}(h:i5 ⟨m,w0,ats pre,[],Kk⟩ s a w){fn:Func}{res:j8->CR}{rs:List ResultVar}(hfn:fn.results=rs.toArray){r:List AV×List Ob}(hr:T5 T s rs=some r)(ho:i7 P Kk r.2)
  (x:j8) (ks:List Nat) (he:Sim (can (K0 r.1)) (can (res x).v)) (hs:C2 s pre (res x).sets) (hn:K6 s pre ks (res x).news):bodyPost P fn (Z9 m w0 pre res) .ret a w/\bodyPost P fn (Z9 m w0 pre res) .normal a w:=
 DS (out:=fun x=>.ret (res x)) hT h hfn hr ho x rfl ks he hs hn
end
section
variable {C:Cx} {P:Program} {Q:Exit->Act->World->Prop} {T:List (Nat×TI)} {ops:Array Oper} {all:List Oper}
theorem jn{s:St}{a:Act}{w:World}{o:Oper}{c:Call}{g:Operand}{f:FuncId}{l r args:List AV}(hop:o.op = .call c)(hcal:c.callee = .value g)(h:i5 C s a w)(hgv:val s [] g = .fn f l r)(hl:Y3 s [] c.args.toList=some args)(hen:l8 P f) :
  (execOp a.eval o).run P w = .ok (.enter f ((l++args++r).map AV.den).toArray) w/\∀v∈l++args++r,Ok (s.m C) w v:=by
 obtain⟨h1,h2⟩:=dt h (fun _ h=>by cases h) hl;have hg:=E6 h (q:=[]) (fun _ h=>by cases h) (x:=g) (by rw[hgv];rfl);rw[hgv]at hg;have hargs:c.args.map a.eval=(args.map AV.den).toArray:=by
  apply Array.ext'
  simpa using h1
 have e1:a.eval g = .func (.func f) (l.map AV.den).toArray (r.map AV.den).toArray:=by
  have:=hg.1
  simpa[AV.den,E3]using this
 have hent':=hen ((l++args++r).map AV.den).toArray w;refine⟨?_,fun v hv=>?_⟩
 .simp only[List.map_append]at hent'
  simp[execOp,hop,resolve,hcal,e1,Deferred.ofValue,invoke,hargs,List.append_assoc]
  simpa[List.append_assoc]using hent'
 cases hg.2 with
 |fn _ _ _ k1 k2=>
  rcases List.mem_append.1 hv with hv|hv
  .rcases List.mem_append.1 hv with hv|hv
   .exact k1 v hv
   exact h2 v hv
  exact k2 v hv
theorem ox{s:St}{a:Act}{w:World}{L rest:List Oper}{o:Oper}{x:Operand}{t:Nat}{v:AV}(hL:L=o::rest)(hg:o.guard=none)(hop:o.op = .panic x)(h:i5 C s a w)(hx:val s [] x = .ifc t v)(hQ:Q (.panic [{ v:=.iface t v.den,recovered:=false }]) a w):wpList P ops Q L a w:=by
 refine ap hL hg ?_;have hxv:=(E6 h (q:=[]) (fun _ h=>by cases h) (x:=x) (by rw[hx];rfl)).1;rw[hx]at hxv;have e1:a.eval x = .iface t v.den:=hxv;have hrun:(execOp a.eval o).run P w = .halt (.panic (.iface t v.den)) w:=by
  simp only[execOp,hop,e1,Instr.panic,Sem.run_bind];rfl
 unfold Oper.wp;rw[hrun];exact hQ
theorem xY{s:St}{a:Act}{w:World}{L rest:List Oper}{o:Oper}{c:Call}{g:Operand}{f:FuncId}{l r args:List AV}(hL:L=o::rest)(hg:o.guard=none)(hd:o.dst=none)(hop:o.op = .defer c)(hcal:c.callee = .value g)(h:i5 C s a w)(hgv:val s [] g = .fn f l r)(hl:Y3 s [] c.args.toList=some args)
  (K:∀a',i5 ⟨C.m0,C.w0,C.S,{ target:=.fn (.func f) (AV.denL r).toArray,args:=(AV.denL (l++args)).toArray }::C.ds,C.K⟩ s a' w->wpList P ops Q rest a' w):wpList P ops Q L a w:=by
 refine ap hL hg ?_;obtain⟨h1,h2⟩:=dt h (fun _ h=>by cases h) hl;have hgo:=E6 h (q:=[]) (fun _ h=>by cases h) (x:=g) (by rw[hgv];rfl);rw[hgv]at hgo;have hargs:c.args.map a.eval=(args.map AV.den).toArray:=by
  apply Array.ext'
  simpa using h1
 have e1:a.eval g = .func (.func f) (l.map AV.den).toArray (r.map AV.den).toArray:=by
  have:=hgo.1
  simpa[AV.den,E3]using this
 have hrun:(execOp a.eval o).run P w = .ok (.defer { target:=.fn (.func f) (AV.denL r).toArray,args:=(AV.denL (l++args)).toArray }) w:=by
  simp[execOp,hop,resolve,hcal,e1,Deferred.ofValue,hargs,E3]
 unfold Oper.wp;rw[hrun];simp only[Oper.upon,hd,Act.put];refine K _ ⟨h.size,?_,h.slot,h.gs,h.mem,h.nodup,h.gr,h.sepm,h.sepg,h.chg,h.m0,h.kept⟩;simp only[h.defers]
theorem ut{s:St}{a:Act}{w:World}{fn:Func}{R:Ending->World->Prop}{u u1:FrameMode}{f:FuncId}{l r:List AV}{ds:List Deferred}(h:i5 ⟨C.m0,C.w0,C.S,{ target:=.fn (.func f) (AV.denL r).toArray,args:=(AV.denL l).toArray }::ds,C.K⟩ s a w)(hu:u ≠ .run)(hen:l8 P f)
  {pre:List (Nat×Blk)} {sets:List (Nat×List AV)} (hpre:∀e∈pre,j7 s.mem e.1=some e.2) (hnd:dE pre=true)
  (hc:R1 (s.m C) w pre->CallsD P f ((l++r).map AV.den).toArray u w fun e u' w'=>(∃v,e = .returned v)/\u'=u1/\js (s.m C) w w' pre sets [])
  (K:∀w',i5 ⟨C.m0,C.w0,C.S,ds,C.K⟩ (s.eff (.sets (upd pre sets))) { tmps:=a.tmps,defers:=ds } w'->Leaves P fn a.tmps R ds (settle u1) w'):Leaves P fn a.tmps R a.defers u w:=by
 rw[h.defers];have h0:i5 ⟨C.m0,C.w0,C.S,ds,C.K⟩ s { tmps:=a.tmps,defers:=ds } w:=⟨h.size,rfl,h.slot,h.gs,h.mem,h.nodup,h.gr,h.sepm,h.sepg,h.chg,h.m0,h.kept⟩;have hdist:=ao h hnd hpre;have hent:=hen ((l++r).map AV.den).toArray w;refine leaves_cons hu (f:=f) (args:=((l++r).map AV.den).toArray) (by simpa[invoke,E3]using hent) ?_;refine(hc ⟨fun e he=>(h.mem _ _ (hpre e he)).1,fun e he=>(h.mem _ _ (hpre e he)).2.1,fun e he o=>.inr (.inl ⟨e.1,e.2,hpre e he,rfl⟩),hdist⟩).mono ?_
 rintro e u' w' ⟨⟨v,rfl⟩,rfl,hl⟩
 have f1:=(h0.called hdist hpre hl).1;rw[List.append_nil]at f1;exact K w' f1
theorem cW{Kk:Kn}{s:St}{a:Act}{w:World}{m:Nat->Nat->Prop}{w0:World}{pre:List (Nat×Blk)}(hT:o7 P T)(h:i5 ⟨m,w0,ats pre,[],Kk⟩ s a w){fn:Func}{out:j8->Out}{rs:List ResultVar}(hfn:fn.results=rs.toArray){r:List AV×List Ob}(hr:T5 T s rs=some r)(ho:i7 P Kk r.2)
  (x:j8) {cr:CR} (hout:out x = .ret cr) (ks:List Nat) (he:Sim (can (K0 r.1)) (can cr.v)) (hs:C2 s pre cr.sets) (hn:K6 s pre ks cr.news):Leaves P fn a.tmps (kD m w0 pre out) [] .returning w:=by
 obtain⟨h1,h2⟩:=dI h hs hn;obtain⟨g1,g2⟩:=gt hT h hfn hr ho;refine⟨_,g1,x,?_⟩;rw[hout];exact⟨by rw[<-I6 (K0 r.1),he.1,I6],(L9 _).2 (he.2.2 _ _ ((L9 _).1 (h2 _ g2))),h1⟩
theorem LJ{Kk:Kn}{s:St}{a:Act}{w:World}{m:Nat->Nat->Prop}{w0:World}{pre:List (Nat×Blk)}(hT:o7 P T)(h:i5 ⟨m,w0,ats pre,[],Kk⟩ s a w){fn:Func}{out:j8->Out}{rs:List ResultVar}(hfn:fn.results=rs.toArray){r:List AV×List Ob}(hr:T5 T s rs=some r)(ho:i7 P Kk r.2)
  (x:j8) {cr:CR} (hout:out x = .ret cr) (ks:List Nat) (he:Sim (can (K0 r.1)) (can cr.v)) (hs:C2 s pre cr.sets) (hn:K6 s pre ks cr.news):bodyPostD P fn (kD m w0 pre out) .ret a w:=by
 show Leaves P fn a.tmps (kD m w0 pre out) a.defers .returning w
 rw[h.defers];exact cW hT h hfn hr ho x hout ks he hs hn
end
theorem Sim.ptr{k k' b off:Nat}:Sim (.ptr k b off) (.ptr k' b off):=⟨rfl,fun _=>rfl,fun _ _ _=>.ptr _ _ _⟩
theorem Sim.fn{f:Nat}{l l' r r':List AV}(h:G3 l l')(h':G3 r r'):Sim (.fn f l r) (.fn f l' r'):=
 ⟨by simp only[AV.den,h.den,h'.den],fun _=>rfl,fun m w ho=>by cases ho with|fn _ _ _ h1 h2=>exact .fn _ _ _ (h.ok h1) (h'.ok h2)⟩
theorem G3.refl:∀l:List AV,G3 l l
 | []=>trivial
 |v::l=>⟨Sim.refl v,G3.refl l⟩
theorem pD:∀{pre pre':List (Nat×Blk)} {r r':List (Nat×List AV)},pre'.map (·.2)=pre.map (·.2)->r'.map (·.2)=r.map (·.2)->(upd pre' r').map (·.2)=(upd pre r).map (·.2)
 | [],[],r,r',_,_=>by cases r<;>cases r'<;>rfl
 | [],_::_,_,_,h,_=>by cases h
 |_::_,[],_,_,h,_=>by cases h
 |_::_,_::_,[],[],_,_=>rfl
 |_::_,_::_,[],_::_,_,h=>by cases h
 |_::_,_::_,_::_,[],_,h=>by cases h
 |(k,b)::l,(k',b')::l',(q,c)::r,(q',c')::r',h,h'=>by
  simp only[List.map_cons,List.cons.injEq]at h h';obtain⟨rfl,h⟩:=h;obtain⟨rfl,h'⟩:=h';simp only[upd,List.map_cons,pD h h']
theorem bu{l l':List (Nat×Blk)}{p:Blk->Prop}(h:l'.map (·.2)=l.map (·.2))(hp:∀e∈l,p e.2):∀e∈l',p e.2:=by
 intro e he;have:e.2∈l.map (·.2):=by rw[<-h];exact List.mem_map.2 ⟨e,he,rfl⟩
 obtain⟨e',h1,h2⟩:=List.mem_map.1 this;rw[<-h2];exact hp e' h1
theorem mg{l l':List (Nat×Blk)}(h:l'.map (·.2)=l.map (·.2))(hp:l.Pairwise fun e f=>e.2.at_≠f.2.at_):l'.Pairwise fun e f=>e.2.at_≠f.2.at_:=by
 have e:∀l:List (Nat×Blk),(l.Pairwise fun e f=>e.2.at_≠f.2.at_)↔(l.map (·.2)).Pairwise fun b c=>b.at_≠c.at_:=fun l=>by rw[List.pairwise_map]
 rw[e,h,<-e];exact hp
theorem dW{l l':List (Nat×Blk)}(h:l'.map (·.2)=l.map (·.2))(b:Nat):ats l' b↔ats l b:=by
 have e:∀l:List (Nat×Blk),ats l b ↔ ∃x∈l.map (·.2),x.at_=b:=fun l=>⟨fun⟨e,he,h⟩=>⟨e.2,List.mem_map.2 ⟨e,he,rfl⟩,h⟩,fun⟨x,hx,h⟩=>by obtain⟨e,he,rfl⟩:=List.mem_map.1 hx;exact⟨e,he,h⟩⟩
 rw[e,e,h]
theorem js.re{m:Nat->Nat->Prop}{w w':World}{pre pre':List (Nat×Blk)}{sets sets':List (Nat×List AV)}{news news':List (Nat×Blk)}(h:js m w w' pre sets news)(hp:pre'.map (·.2)=pre.map (·.2))(hs:sets'.map (·.2)=sets.map (·.2))(hk:sets'.map (·.1)=pre'.map (·.1))(hn:news'.map (·.2)=news.map (·.2)):js m w w' pre' sets' news':=by
 have hm:mN m news'=mN m news:=by funext b o;simp only[mN,dW hn]
 have hu:(upd pre' sets'++news').map (·.2)=(upd pre sets++news).map (·.2):=by rw[List.map_append,List.map_append,pD hp hs,hn]
 refine⟨hk,bu (p:=fun b=>w'.heap[b.at_]? = some (.cells (b.cells.map AV.den).toArray b.ty (0,0))) hu h.heap,bu (p:=fun b=>∀v∈b.cells,v.one=true/\Ok (mN m news') w' v) hu (hm ▸ h.ok),bu (p:=fun b=>w.heap.size<=b.at_) hn h.fresh,mg hn h.dist,h.chg.mono fun k hk=>(dW hp k).2 hk⟩
theorem R1.re{m:Nat->Nat->Prop}{w:World}{pre pre':List (Nat×Blk)}(h:R1 m w pre)(hp:pre'.map (·.2)=pre.map (·.2)):R1 m w pre':=
 ⟨bu (p:=fun b=>w.heap[b.at_]? = some (.cells (b.cells.map AV.den).toArray b.ty (0,0))) hp h.heap,bu (p:=fun b=>∀v∈b.cells,v.one=true/\Ok m w v) hp h.ok,bu (p:=fun b=>∀o,m b.at_ o) hp h.free,mg hp h.dist⟩
theorem C1.re{P:Program}{f:FuncId}{args args':List AV}{pre pre':List (Nat×Blk)}{res res':j8->CR}(h:C1 P f args pre res)(ha:G3 args' args)(hp:pre'.map (·.2)=pre.map (·.2))
  (hr:∀x,(res' x).sets.map (·.2)=(res x).sets.map (·.2)/\(res' x).sets.map (·.1)=pre'.map (·.1)/\Sim (res x).v (res' x).v/\(res' x).news.map (·.2)=(res x).news.map (·.2)):C1 P f args' pre' res':=by
 intro m w h1 h2 h3;rw[ha.map];refine(h m w h1 (ha.ok h2) (h3.re hp.symm)).mono ?_
 rintro e w' ⟨x,rfl,hok,hl⟩
 obtain⟨r1,r2,r3,r4⟩:=hr x;have hm:mN m (res' x).news=mN m (res x).news:=by funext b o;simp only[mN,dW r4]
 exact⟨x,by rw[r3.1],by rw[hm];exact r3.2.2 _ _ hok,hl.re hp r1 r2 r4⟩
section
variable {C:Cx} {P:Program} {Q:Exit->Act->World->Prop} {T:List (Nat×TI)} {s:St} {a:Act} {w:World}
theorem tT{id:Nat}{l:List Oper}{B:Alg}(O:B=std)(hT:o7 P T)(kp km:List Nat)(cs:List (Nat×CS))(h:i5 C s a w){R:Alg->(Nat->j8)->St×List Ob}
  (hex:∀A X,(K3 A T cs X l (o9 0 l) s).map (fun r=>(r.1.keep kp km,r.2.1))=some (R A X)) (hob:∀X,i7 P C.K (R B X).2) (hQ:∀X a' w',i5 C (R B X).1 a' w'->Q .normal a' w'):(Code.region id l.toArray false).wp P Q a w:=by
 subst O;exact xG hT kp km cs h hex hob hQ
theorem yL{id:Nat}{l:List Oper}{B:Alg}(O:B=std)(hm:P.follows .mixedOrders=true)(hT:o7 P T)(kp km:List Nat)(cs:List (Nat×CS))(h:i5 C s a w)(hgs:s.gs=[])(fs:List F7)(hD:cG l fs=true)(hlen:l.length=fs.length)
  {R:Alg->(Nat->j8)->St×List Ob}
  (hex:∀A X,(K3 A T cs X l (o9 0 l) s).map (fun r=>((r.1.keep kp km,r.2.1),r.2.2))=some (R A X,fs)) (hob:∀X,i7 P C.K (R B X).2) (hQ:∀X a' w',i5 C (R B X).1 a' w'->Q .normal a' w'):(Code.region id l.toArray true).wp P Q a w:=by
 subst O;exact BM hm hT kp km cs h hgs fs hD hlen hex hob hQ
theorem fG{all L:List Oper}(i n:Nat){B:Alg}(O:B=std)(hT:o7 P T)(kp km:List Nat)(cs:List (Nat×CS))(h:i5 C s a w){R:Alg->(Nat->j8)->St×List Ob}
  (hex:∀A X,(K3 A T cs X all (o9 i (L.take n)) s).map (fun r=>(r.1.keep kp km,r.2.1))=some (R A X)) (hob:∀X,i7 P C.K (R B X).2) (hQ:∀X a' w',i5 C (R B X).1 a' w'->wpList P all.toArray Q (L.drop n) a' w'):wpList P all.toArray Q L a w:=by
 subst O;exact AX i n hT kp km cs h hex hob hQ
theorem cV{all L:List Oper}(i:Nat){B:Alg}(O:B=std)(hT:o7 P T)(kp km:List Nat)(cs:List (Nat×CS))(h:i5 C s a w){R:Alg->(Nat->j8)->St×List Ob}
  (hex:∀A X,(K3 A T cs X all (o9 i L) s).map (fun r=>(r.1.keep kp km,r.2.1))=some (R A X)) (hob:∀X,i7 P C.K (R B X).2) (hQ:∀X a' w',i5 C (R B X).1 a' w'->Q .normal a' w'):wpList P all.toArray Q L a w:=by
 subst O;exact AY i hT kp km cs h hex hob hQ
end
theorem eqv{α : Sort _}(x:α):∃y,y=x:=⟨x,rfl⟩
theorem zr{a:AV}:Sim a a:=Sim.refl a
theorem zl{a:List AV}:G3 a a:=G3.refl a
theorem fQ{α : Type _}{p:α->Prop}{x:α}(h:p x):∀e ∈ [x],p e:=fun e he=>by rw[List.mem_singleton.1 he];exact h
section
variable {C:Cx} {P:Program} {Q:Exit->Act->World->Prop} {T:List (Nat×TI)} {s:St} {a:Act} {w:World} {B:Alg}
theorem rg{id:Nat}{l:List Oper}{R:Alg->(Nat->j8)->St×List Ob}(O:B=std)(hT:o7 P T)(kp km:List Nat)(cs:List (Nat×CS))(h:i5 C s a w)(hQ:∀X a' w',i5 C (R B X).1 a' w'->Q .normal a' w')
  (hex:∀A X,(K3 A T cs X l (o9 0 l) s).map (fun r=>(r.1.keep kp km,r.2.1))=some (R A X):=by intro A X;conv=>lhs;cbv) (hob:∀X,i7 P C.K (R B X).2:=by
   intro X;subst O
   first
   |exact trivial
   |(simp only[i7,Ob.holds,BE.den]<;>and_intros<;>(repeat first|trivial|rfl|exact O1|exact O2|exact O3|exact(fun _ _=>by kernel_rfl)|exact O1 _ _ _ rfl|exact O2 _ _ _ rfl|refine⟨?_,?_⟩|intro h|decide|omega)<;>done)
   |(simp[i7,Ob.holds,BE.den,std,d4,j0]<;>omega)):(Code.region id l.toArray false).wp P Q a w:=tT O hT kp km cs h hex hob hQ
theorem a6 {id:Nat} {l:List Oper} {R:Alg -> (Nat -> j8) -> St × List Ob} {y:Code} (kp km:List Nat) (h:i5 C s a w) (hQ:∀ {a' w'} X,i5 C (R B X).1 a' w' -> y.wp P Q a' w') (O:B=std:=by exact O) (hT:o7 P T:=by exact a8)
    (hex:∀A X,(K3 A T [] X l (o9 0 l) s).map (fun r=>(r.1.keep kp km,r.2.1))=some (R A X):=by intro A X;conv=>lhs;cbv) (hob:∀X,i7 P C.K (R B X).2:=by
      intro X;subst O
      first
      |exact trivial
      |(simp only[i7,Ob.holds,BE.den]<;>and_intros<;>(repeat first|trivial|rfl|exact O1|exact O2|exact O3|exact O4|exact O5|exact O6|exact(fun _ _=>by kernel_rfl)|exact Int.le_refl _|exact Int.natCast_nonneg _|exact u5 (Kk:=noK) _ _ _ _|exact vI (Kk:=noK) _ _ _ _ _ _|exact mi (Kk:=noK) _ _ _ _ _ _ _ _|exact qL _|exact O4 _ _ _|exact O1 _ _ _ rfl|exact O2 _ _ _ rfl|refine⟨?_,?_⟩|intro h|decide|omega)<;>done)
      |(simp[i7,Ob.holds,BE.den,std,d4,j0]<;>omega)):(Code.seq (Code.region id l.toArray false) y).wp P Q a w:=wp_seq (rg O hT kp km [] h (fun X a' w' hf=>hQ X hf) hex hob)
theorem i9 {id:Nat} {l:List Oper} {R:Alg -> (Nat -> j8) -> St × List Ob} {y:Code} (kp km:List Nat) (cs:List (Nat × CS)) (h:i5 C s a w) (hQ:∀ {a' w'} X,i5 C (R B X).1 a' w' -> y.wp P Q a' w') (O:B=std:=by exact O) (hT:o7 P T:=by exact a8)
    (hex:∀A X,(K3 A T cs X l (o9 0 l) s).map (fun r=>(r.1.keep kp km,r.2.1))=some (R A X):=by intro A X;conv=>lhs;cbv) (hob:∀X,i7 P C.K (R B X).2:=by
      intro X;subst O
      first
      |exact trivial
      |(simp only[i7,Ob.holds,BE.den]<;>and_intros<;>(repeat first|trivial|rfl|exact O1|exact O2|exact O3|exact O4|exact O5|exact O6|exact(fun _ _=>by kernel_rfl)|exact Int.le_refl _|exact Int.natCast_nonneg _|exact u5 (Kk:=noK) _ _ _ _|exact vI (Kk:=noK) _ _ _ _ _ _|exact mi (Kk:=noK) _ _ _ _ _ _ _ _|exact qL _|exact O4 _ _ _|exact O1 _ _ _ rfl|exact O2 _ _ _ rfl|refine⟨?_,?_⟩|intro h|decide|omega)<;>done)
      |(simp[i7,Ob.holds,BE.den,std,d4,j0]<;>omega)):(Code.seq (Code.region id l.toArray false) y).wp P Q a w:=wp_seq (rg O hT kp km cs h (fun X a' w' hf=>hQ X hf) hex hob)
theorem j5 {id:Nat} {l:List Oper} {R:Alg -> (Nat -> j8) -> St × List Ob} (kp km:List Nat) (h:i5 C s a w) (hQ:∀ {a' w'} X,i5 C (R B X).1 a' w' -> Q .normal a' w') (O:B=std:=by exact O) (hT:o7 P T:=by exact a8)
    (hex:∀A X,(K3 A T [] X l (o9 0 l) s).map (fun r=>(r.1.keep kp km,r.2.1))=some (R A X):=by intro A X;conv=>lhs;cbv) (hob:∀X,i7 P C.K (R B X).2:=by
      intro X;subst O
      first
      |exact trivial
      |(simp only[i7,Ob.holds,BE.den]<;>and_intros<;>(repeat first|trivial|rfl|exact O1|exact O2|exact O3|exact O4|exact O5|exact O6|exact(fun _ _=>by kernel_rfl)|exact Int.le_refl _|exact Int.natCast_nonneg _|exact u5 (Kk:=noK) _ _ _ _|exact vI (Kk:=noK) _ _ _ _ _ _|exact mi (Kk:=noK) _ _ _ _ _ _ _ _|exact qL _|exact O4 _ _ _|exact O1 _ _ _ rfl|exact O2 _ _ _ rfl|refine⟨?_,?_⟩|intro h|decide|omega)<;>done)
      |(simp[i7,Ob.holds,BE.den,std,d4,j0]<;>omega)):(Code.region id l.toArray false).wp P Q a w:=(rg O hT kp km [] h (fun X a' w' hf=>hQ X hf) hex hob)
theorem f7 {id:Nat} {l:List Oper} {R:Alg -> (Nat -> j8) -> St × List Ob} (kp km:List Nat) (cs:List (Nat × CS)) (h:i5 C s a w) (hQ:∀ {a' w'} X,i5 C (R B X).1 a' w' -> Q .normal a' w') (O:B=std:=by exact O) (hT:o7 P T:=by exact a8)
    (hex:∀A X,(K3 A T cs X l (o9 0 l) s).map (fun r=>(r.1.keep kp km,r.2.1))=some (R A X):=by intro A X;conv=>lhs;cbv) (hob:∀X,i7 P C.K (R B X).2:=by
      intro X;subst O
      first
      |exact trivial
      |(simp only[i7,Ob.holds,BE.den]<;>and_intros<;>(repeat first|trivial|rfl|exact O1|exact O2|exact O3|exact O4|exact O5|exact O6|exact(fun _ _=>by kernel_rfl)|exact Int.le_refl _|exact Int.natCast_nonneg _|exact u5 (Kk:=noK) _ _ _ _|exact vI (Kk:=noK) _ _ _ _ _ _|exact mi (Kk:=noK) _ _ _ _ _ _ _ _|exact qL _|exact O4 _ _ _|exact O1 _ _ _ rfl|exact O2 _ _ _ rfl|refine⟨?_,?_⟩|intro h|decide|omega)<;>done)
      |(simp[i7,Ob.holds,BE.den,std,d4,j0]<;>omega)):(Code.region id l.toArray false).wp P Q a w:=(rg O hT kp km cs h (fun X a' w' hf=>hQ X hf) hex hob)
theorem a7{x y:Code}(h:x.wp P (Exit.then (y.wp P Q) Q) a w):(Code.seq x y).wp P Q a w:=wp_seq h
theorem f8(h:Q .normal a w):Code.skip.wp P Q a w:=wp_skip h
theorem j1{id:Nat}{c:Code}(h:c.wp P (Exit.inBlock id Q) a w):(Code.block id c).wp P Q a w:=wp_block h
theorem i8(h:Q .ret a w):Code.ret.wp P Q a w:=wp_ret h
theorem j9{id:Nat}(h:Q (.exit id) a w):(Code.exit id).wp P Q a w:=wp_exit h
theorem drg{id:Nat}{l:List Oper}{R:Alg->(Nat->j8)->St×List Ob}{fs:List F7}(O:B=std)(hT:o7 P T)(kp km:List Nat)(cs:List (Nat×CS))(h:i5 C s a w)(hQ:∀X a' w',i5 C (R B X).1 a' w'->Q .normal a' w')
  (hm:P.follows .mixedOrders=true:=by kernel_rfl) (hgs:s.gs=[]:=by rfl)
  (hex:∀A X,(K3 A T cs X l (o9 0 l) s).map (fun r=>((r.1.keep kp km,r.2.1),r.2.2))=some (R A X,fs):=by intro A X;conv=>lhs;cbv) (hD:cG l fs=true:=by kernel_rfl) (hlen:l.length=fs.length:=by rfl) (hob:∀X,i7 P C.K (R B X).2:=by
   intro X;subst O
   first
   |exact trivial
   |(simp only[i7,Ob.holds,BE.den]<;>and_intros<;>(repeat first|trivial|rfl|exact O1|exact O2|exact O3|exact(fun _ _=>by kernel_rfl)|exact O1 _ _ _ rfl|exact O2 _ _ _ rfl|refine⟨?_,?_⟩|intro h|decide|omega)<;>done)
   |(simp[i7,Ob.holds,BE.den,std,d4,j0]<;>omega)):(Code.region id l.toArray true).wp P Q a w:=yL O hm hT kp km cs h hgs fs hD hlen hex hob hQ
theorem lpr{all L:List Oper}{R:Alg->(Nat->j8)->St×List Ob}(i n:Nat)(O:B=std)(hT:o7 P T)(kp km:List Nat)(cs:List (Nat×CS))(h:i5 C s a w)(hQ:∀X a' w',i5 C (R B X).1 a' w'->wpList P all.toArray Q (L.drop n) a' w')
  (hex:∀A X,(K3 A T cs X all (o9 i (L.take n)) s).map (fun r=>(r.1.keep kp km,r.2.1))=some (R A X):=by intro A X;conv=>lhs;cbv) (hob:∀X,i7 P C.K (R B X).2:=by
   intro X;subst O
   first
   |exact trivial
   |(simp only[i7,Ob.holds,BE.den]<;>and_intros<;>(repeat first|trivial|rfl|exact O1|exact O2|exact O3|exact(fun _ _=>by kernel_rfl)|exact O1 _ _ _ rfl|exact O2 _ _ _ rfl|refine⟨?_,?_⟩|intro h|decide|omega)<;>done)
   |(simp[i7,Ob.holds,BE.den,std,d4,j0]<;>omega)):wpList P all.toArray Q L a w:=fG i n O hT kp km cs h hex hob hQ
theorem lnd{all L:List Oper}{R:Alg->(Nat->j8)->St×List Ob}(i:Nat)(O:B=std)(hT:o7 P T)(kp km:List Nat)(cs:List (Nat×CS))(h:i5 C s a w)(hQ:∀X a' w',i5 C (R B X).1 a' w'->Q .normal a' w')
  (hex:∀A X,(K3 A T cs X all (o9 i L) s).map (fun r=>(r.1.keep kp km,r.2.1))=some (R A X):=by intro A X;conv=>lhs;cbv) (hob:∀X,i7 P C.K (R B X).2:=by
   intro X;subst O
   first
   |exact trivial
   |(simp only[i7,Ob.holds,BE.den]<;>and_intros<;>(repeat first|trivial|rfl|exact O1|exact O2|exact O3|exact(fun _ _=>by kernel_rfl)|exact O1 _ _ _ rfl|exact O2 _ _ _ rfl|refine⟨?_,?_⟩|intro h|decide|omega)<;>done)
   |(simp[i7,Ob.holds,BE.den,std,d4,j0]<;>omega)):wpList P all.toArray Q L a w:=cV i O hT kp km cs h hex hob hQ
end
section
variable {P:Program} {f:FuncId} {fn:Func} {c:Code} {R:Ending->World->Prop} {m:Nat->Nat->Prop} {w:World} {pre:List (Nat×Blk)} {args:List AV}
theorem en(nt:Nat)(hm:∀b o,m b o->b<w.heap.size)(hargs:∀v∈args,Ok m w v)(hf:P.funcs[f]? = some fn)(h:∀B,B=std->∀a,i5 ⟨m,w,fun _=>False,[],noK⟩ ⟨nt,C8 0 args,[],[],[]⟩ a w->c.wp P (bodyPost P fn R) a w)(hb:fn.body=some c:=by rfl)(hnt:fn.ntmps=nt:=by rfl)(hn:args.length<=nt:=by exact Nat.le_of_ble_eq_true rfl):Calls P f (args.map AV.den).toArray w R:=
 enter hm hargs hf hb (hnt ▸ hn) (by rw[hnt];exact h std rfl)
theorem enX(nt:Nat)(hm:∀b o,m b o->b<w.heap.size)(hp:R1 m w pre)(hargs:∀v∈args,Ok m w v)(hf:P.funcs[f]? = some fn)(h:∀B,B=std->∀a,i5 ⟨m,w,ats pre,[],noK⟩ ⟨nt,C8 0 args,[],pre,[]⟩ a w->c.wp P (bodyPost P fn R) a w)(hb:fn.body=some c:=by rfl)(hnt:fn.ntmps=nt:=by rfl)(hn:args.length<=nt:=by exact Nat.le_of_ble_eq_true rfl):Calls P f (args.map AV.den).toArray w R:=
 BJ hm hp hargs hf hb (hnt ▸ hn) (by rw[hnt];exact h std rfl)
end
section
variable {P:Program} {T:List (Nat×TI)} {s:St} {a:Act} {w:World} {Kk:Kn} {m:Nat->Nat->Prop} {w0:World} {fn:Func} {rs:List ResultVar} {r:List AV×List Ob} {pre:List (Nat×Blk)} {B:Alg}
theorem rsp{res:j8->AV}(O:B=std)(hT:o7 P T)(h:i5 ⟨m,w0,fun _=>False,[],Kk⟩ s a w)(x:j8)(hfn:fn.results=rs.toArray:=by rfl)(hr:T5 T s rs=some r:=by first|rfl|(conv=>lhs;cbv))(ho:i7 P Kk r.2:=by first|exact trivial|(subst O;simp[i7,Ob.holds]))
  (he:can (K0 r.1)=can (res x):=by subst O;rfl):bodyPost P fn (fun e w'=>∃x,e = .returned (res x).den/\Ok m w' (res x)/\Below w0.heap.size w0 w') .ret a w/\bodyPost P fn (fun e w'=>∃x,e = .returned (res x).den/\Ok m w' (res x)/\Below w0.heap.size w0 w') .normal a w:=
 ⟨zW hT h hfn hr ho x he,xE hT h hfn hr ho x he⟩
theorem rsi{res:j8->AV}(O:B=std)(hT:o7 P T)(h:i5 ⟨m,w0,fun _=>False,[],Kk⟩ s a w)(x:j8)(hfn:fn.results=rs.toArray:=by rfl)(hr:T5 T s rs=some r:=by first|rfl|(conv=>lhs;cbv))(ho:i7 P Kk r.2:=by first|exact trivial|(subst O;simp[i7,Ob.holds]))
  (he:Sim (can (K0 r.1)) (can (res x)):=by subst O;exact zr):bodyPost P fn (fun e w'=>∃x,e = .returned (res x).den/\Ok m w' (res x)/\Below w0.heap.size w0 w') .ret a w:=
 DR hT h hfn hr ho x he
theorem z7{Q:Exit->Act->World->Prop}{res:j8->AV}(h:i5 ⟨m,w0,fun _=>False,[],Kk⟩ s a w)(he:Sim (can (K0 r.1)) (can (res C5)))(hQ:bodyPost P fn (fun e w'=>∃x,e = .returned (res x).den/\Ok m w' (res x)/\Below w0.heap.size w0 w') .ret a w->Q .ret a w:=by exact fun h=>h)(O:B=std:=by exact O)(hT:o7 P T:=by exact a8)(hfn:fn.results=rs.toArray:=by rfl)(hr:T5 T s rs=some r:=by first|rfl|(conv=>lhs;cbv))(ho:i7 P Kk r.2:=by first|exact trivial|(subst O;simp[i7,Ob.holds])):Code.ret.wp P Q a w:=wp_ret (hQ (rsi O hT h C5 hfn hr ho he))
theorem N8{Q:Exit->Act->World->Prop}{res:j8->AV}(h:i5 ⟨m,w0,fun _=>False,[],Kk⟩ s a w)(he:can (K0 r.1)=can (res C5))(hQ:bodyPost P fn (fun e w'=>∃x,e = .returned (res x).den/\Ok m w' (res x)/\Below w0.heap.size w0 w') .ret a w->Q .ret a w:=by exact fun h=>h)(O:B=std:=by exact O)(hT:o7 P T:=by exact a8)(hfn:fn.results=rs.toArray:=by rfl)(hr:T5 T s rs=some r:=by first|rfl|(conv=>lhs;cbv))(ho:i7 P Kk r.2:=by first|exact trivial|(subst O;simp[i7,Ob.holds])):Code.ret.wp P Q a w:=wp_ret (hQ (rsp O hT h C5 hfn hr ho he).1)
theorem rx{res:j8->CR}(O:B=std)(hT:o7 P T)(h:i5 ⟨m,w0,ats pre,[],Kk⟩ s a w)(x:j8)(ks:List Nat)(hfn:fn.results=rs.toArray:=by rfl)(hr:T5 T s rs=some r:=by first|rfl|(conv=>lhs;cbv))(ho:i7 P Kk r.2:=by first|exact trivial|(subst O;simp[i7,Ob.holds]))
  (he:Sim (can (K0 r.1)) (can (res x).v):=by subst O;exact zr) (hs:C2 s pre (res x).sets:=by subst O;first|exact trivial|exact⟨rfl,⟨_,rfl,zl⟩,trivial⟩) (hn:K6 s pre ks (res x).news:=by exact trivial):bodyPost P fn (Z9 m w0 pre res) .ret a w/\bodyPost P fn (Z9 m w0 pre res) .normal a w:=
 vz hT h hfn hr ho x ks he hs hn
end
end Go.Proofs.YtmbkanpapkhnaaaGreat.Sym
namespace Go.Proofs.YtmbkanpapkhnaaaGreat
open Go.RowKit
def mkB(l:List UInt8):ByteArray:=⟨l.toArray⟩
def unB(s:ByteArray):List UInt8:=s.data.toList
theorem vM(s:ByteArray):mkB (unB s)=s:=by simp[mkB,unB]
theorem Y4(l:List UInt8):unB (mkB l)=l:=by simp[mkB,unB]
theorem tH{s t:ByteArray}(h:unB s=unB t):s=t:=by rw[<-vM s,<-vM t,h]
theorem jt(s t:ByteArray):unB (s++t)=unB s++unB t:=by
 show(s++t).data.toList=_
 rw[ByteArray.data_append,Array.toList_append];rfl
theorem fE(a b:List UInt8):mkB a++mkB b=mkB (a++b):=by apply tH;rw[jt,Y4,Y4,Y4]
theorem az(s:ByteArray):(unB s).length=s.size:=Array.length_toList
theorem J5(l:List UInt8):(mkB l).size=l.length:=by rw[<-az,Y4]
theorem lI(s:ByteArray)(i j:Nat):unB (s.extract i j)=((unB s).take j).drop i:=by
 unfold unB;rw[ByteArray.data_extract,Array.toList_extract];simp[List.extract,List.drop_take]
theorem bP(l:List UInt8)(i j:Nat):(mkB l).extract i j=mkB ((l.take j).drop i):=by apply tH;rw[lI,Y4,Y4]
theorem HQ(s:ByteArray)(i:Nat):s[i]? = (unB s)[i]?:=by
 unfold unB;rw[Array.getElem?_toList]
 by_cases h:i<s.size
 .rw [getElem?_pos s i h,getElem?_pos s.data i h];rfl
 rw[getElem?_neg s i h,getElem?_neg s.data i h]
theorem fy(s:ByteArray):s.toList=unB s:=by simp[unB,ByteArray.toList_eq]
theorem eqB(s t:ByteArray):(s.toList==t.toList)=decide (unB s=unB t):=by
 rw[fy,fy]
 by_cases h:unB s=unB t
 .simp [h]
 simp[h]
theorem KB(s t:ByteArray):(s==t)=true↔s=t:=by
 cases s with|mk a=>cases t with|mk b=>
 have:(ByteArray.mk a==ByteArray.mk b)=(a==b):=rfl;rw[this];simp
end Go.Proofs.YtmbkanpapkhnaaaGreat
namespace Go.Proofs.YtmbkanpapkhnaaaGreat
open Go.RowKit Sym
def U64(v:Int):Prop:=0<=v/\v<18446744073709551616
def F5(v n:Nat):Nat:=v / 2^(64-n)*2^(64-n)
theorem wrap_u64(x:Int)(h:U64 x):IntKind.u64.wrap x=x:=by
 unfold U64 at h;simp[IntKind.wrap,IntKind.signed,IntKind.bits];omega
theorem vo{n:Int}(h0:0<=n)(h1:n<=64):s3 .shr .u64 18446744073709551615 n=((2^(64-n.toNat)-1:Nat):Int):=by
 obtain⟨k,rfl⟩:=Int.eq_ofNat_of_zero_le h0;have hk:k<=64:=by omega
 simp only[s3,Int.toNat_natCast,IntKind.bits];rw[Nat.min_eq_left hk];have hp:(18446744073709551615:Int)=((2^64-1:Nat):Int):=by decide
 have hq:(2:Int)^k=((2^k:Nat):Int):=by simp
 rw[hp,hq,Int.fdiv_eq_ediv_of_nonneg _ (Int.natCast_nonneg _),<-Int.natCast_ediv];have e:(2:Nat)^64-1=(2^(64-k)-1)*2^k+(2^k-1):=by
  have h2:(2:Nat)^64=2^(64-k)*2^k:=by rw[<-Nat.pow_add];congr 1;omega
  have h3:=Nat.one_le_two_pow (n:=64-k);have h4:=Nat.one_le_two_pow (n:=k);rw[h2,Nat.sub_mul,Nat.one_mul];have h5:2^k<=2^(64-k)*2^k:=Nat.le_mul_of_pos_left _ h3;omega
 have hd:((2:Nat)^64-1) / 2^k=2^(64-k)-1:=by
  rw[e,Nat.mul_comm,Nat.mul_add_div (Nat.two_pow_pos k),Nat.div_eq_of_lt (by have:=Nat.two_pow_pos k;omega),Nat.add_zero]
 rw[<-hd]
theorem vb{v:Int}(hv:U64 v)(k:Nat)(hk:k<=64):j0 .andNot .u64 v ((2^k-1:Nat):Int)=((v.toNat / 2^k*2^k:Nat):Int):=by
 obtain⟨x,rfl⟩:=Int.eq_ofNat_of_zero_le hv.1;have hx:x<2^64:=by have:=hv.2;omega
 have hle:x / 2^k*2^k<=x:=Nat.div_mul_le_self _ _;simp only[Int.toNat_natCast]
 show IntKind.u64.wrap ((BitVec.ofInt 64 (x:Int) &&& ~~~BitVec.ofInt 64 ((2^k-1:Nat):Int)).toNat:Int)=_
 have hp:2^k<=2^64:=Nat.pow_le_pow_right (by decide) hk;have key:(BitVec.ofInt 64 (x:Int) &&& ~~~BitVec.ofInt 64 ((2^k-1:Nat):Int)).toNat=x / 2^k*2^k:=by
  apply Nat.eq_of_testBit_eq;intro i;have e1:BitVec.ofInt 64 (x:Int)=BitVec.ofNat 64 x:=rfl;have e2:BitVec.ofInt 64 ((2^k-1:Nat):Int)=BitVec.ofNat 64 (2^k-1):=rfl;rw[e1,e2,BitVec.testBit_toNat,BitVec.getLsbD_and,BitVec.getLsbD_not,BitVec.getLsbD_ofNat,BitVec.getLsbD_ofNat,Nat.testBit_two_pow_sub_one];rw[<-Nat.shiftRight_eq_div_pow,<-Nat.shiftLeft_eq,Nat.testBit_shiftLeft,Nat.testBit_shiftRight]
  by_cases hi:i<64
  .by_cases hik:k<=i
   .rw [show k+(i-k)=i by omega];simp[hi,hik,show ¬i<k by omega]
   simp[hi,hik,show i<k by omega]
  have:x.testBit i=false:=Nat.testBit_lt_two_pow (Nat.lt_of_lt_of_le hx (Nat.pow_le_pow_right (by decide) (by omega)))
  by_cases hik:k<=i
  .rw [show k+(i-k)=i by omega];simp[hi,this]
  simp[hi,hik]
 rw[key];exact wrap_u64 _ ⟨by omega,by omega⟩
theorem Bs{v n:Int}(hv:U64 v)(h0:0<=n)(h1:n<=64):j0 .andNot .u64 v (s3 .shr .u64 18446744073709551615 n)=(F5 v.toNat n.toNat:Int):=by
 rw[vo h0 h1,vb hv _ (by omega)];rfl
structure Lab where
 len:Int
 bits:Int
deriving DecidableEq
def isL(l:Lab):Bool:=decide (0<=l.len)&&decide (l.len<=64)&&decide ((F5 l.bits.toNat l.len.toNat:Int)=l.bits)
def F1:Lab:=⟨-1,0⟩
def dig(v k:Nat):UInt8:=if v / 2^k % 2=1 then 49 else 48
def K9:Nat->Nat->List UInt8
 |0,_=>[]
 |k+1,v=>dig v k::K9 k v
theorem Y9(k v:Nat):(K9 k v).length=k:=by induction k with|zero=>rfl|succ k ih=>simp[K9,ih]
def Y6:List UInt8->Nat:=List.foldl (fun a c=>2*a+(c.toNat-48)) 0
theorem mj(l:List UInt8)(a:Nat):l.foldl (fun a c=>2*a+(c.toNat-48)) a=a*2^l.length+Y6 l:=by
 induction l generalizing a with
 |nil=>simp[Y6]
 |cons c l ih=>
  unfold Y6;rw[List.foldl_cons,ih,List.foldl_cons,ih (2*0+(c.toNat-48)),List.length_cons,Nat.pow_succ,Nat.add_mul,Nat.mul_zero,Nat.zero_add,Nat.add_assoc]
  congr 1
  rw[Nat.mul_comm 2 a,Nat.mul_assoc,Nat.mul_comm 2]
theorem Q6(l r:List UInt8):Y6 (l++r)=Y6 l*2^r.length+Y6 r:=by
 unfold Y6;rw[List.foldl_append,mj];rfl
theorem Fm(v k:Nat):(dig v k).toNat-48=v / 2^k % 2:=by
 unfold dig
 rcases Nat.mod_two_eq_zero_or_one (v / 2^k)with h|h
 .simp [h]
 simp[h]
theorem jH(c:UInt8)(l:List UInt8):Y6 (c::l)=(c.toNat-48)*2^l.length+Y6 l:=by
 have:Y6 (c::l)=l.foldl (fun a c=>2*a+(c.toNat-48)) (2*0+(c.toNat-48)):=rfl;rw[this,mj,Nat.mul_zero,Nat.zero_add]
theorem iB(k v:Nat):Y6 (K9 k v)=v % 2^k:=by
 induction k with
 |zero=>simp[K9,Y6,Nat.mod_one]
 |succ k ih=>
  have:Y6 (K9 (k+1) v)=((dig v k).toNat-48)*2^k+Y6 (K9 k v):=by
   rw[K9,jH,Y9]
  rw[this,Fm,ih,Nat.pow_succ,Nat.mod_mul];rw[Nat.add_comm,Nat.mul_comm (2^k)]
theorem gA(n:Nat):Y6 (List.replicate n 48)=0:=by
 induction n with
 |zero=>rfl
 |succ n ih=>rw[List.replicate_succ',Q6,ih];rfl
theorem iJ(n v:Nat)(hn:n<=64):(K9 64 v).take n=K9 n (v / 2^(64-n)):=by
  have key:∀k m,m<=k->(K9 k v).take m=K9 m (v / 2^(k-m)):=by
    intro k
    induction k with
    | zero => intro m hm; have:m=0:=by omega
              subst this;rfl
    |succ k ih=>
      intro m hm
      cases m with
      |zero=>rfl
      |succ m=>
        simp only[K9,List.take_succ_cons];rw[ih m (by omega)];rw[show k+1-(m+1)=k-m by omega]
        congr 1
        unfold dig;rw[Nat.div_div_eq_div_mul,<-Nat.pow_add,show k-m+m=k by omega]
  exact key 64 n hn
theorem ld{v n:Nat}(hv:v<2^64)(hn:n<=64):Y6 ((K9 64 v).take n++List.replicate (64-n) 48)=F5 v n:=by
 rw[Q6,gA,List.length_replicate,iJ n v hn,iB,Nat.add_zero];unfold F5
 congr 1
 apply Nat.mod_eq_of_lt;rw[Nat.div_lt_iff_lt_mul (Nat.two_pow_pos _),<-Nat.pow_add,show n+(64-n)=64 by omega];exact hv
theorem Em(l:List UInt8)(h:∀c∈l,c=48 \/ c=49):Y6 l<2^l.length:=by
 induction l with
 |nil=>decide
 |cons c l ih=>
  have e:=jH c l;have:=ih fun x hx=>h x (List.mem_cons_of_mem _ hx)
  rw[e,List.length_cons,Nat.pow_succ]
  rcases h c (by simp)with rfl|rfl
  .simp;omega
  simp;omega
theorem iK{k v:Nat}:∀c∈K9 k v,c=48 \/ c=49:=by
 induction k with
 |zero=>intro c h;cases h
 |succ k ih=>
  intro c h
  rcases List.mem_cons.1 h with rfl|h
  .unfold dig;split
   .exact .inr rfl
   exact .inl rfl
  exact ih c h
theorem Dv{v:Int}(hv:U64 v)(n:Nat)(hn:n<=64):s3 .shr .u64 v (n:Int)=((v.toNat / 2^n:Nat):Int):=by
 obtain⟨x,rfl⟩:=Int.eq_ofNat_of_zero_le hv.1;simp only[s3,Int.toNat_natCast,IntKind.bits,Nat.min_eq_left hn];have hq:(2:Int)^n=((2^n:Nat):Int):=by simp
 rw[hq,Int.fdiv_eq_ediv_of_nonneg _ (Int.natCast_nonneg _),<-Int.natCast_ediv]
theorem V6(x:Nat):IntKind.u64.wrap (x:Int)=((x % 2^64:Nat):Int):=by
 simp[IntKind.wrap,IntKind.signed,IntKind.bits]
def KR:List UInt8->Nat:=List.foldl (fun a c=>a*256+c.toNat) 0
abbrev Dec(α : Type):=Except Int (α×List UInt8)
def yP:List UInt8->Dec Nat
 | []=>.error 4
 |n::r=>if 8<n.toNat then .error 3 else if r.length<n.toNat then .error 4 else if(r.take n.toNat).head? = some 0 then .error 3 else .ok (KR (r.take n.toNat),r.drop n.toNat)
def NC(s:List UInt8):Dec (List UInt8):=match yP s with
 | .error e=>.error e
 | .ok (n,r)=>if 4096<n then .error 3 else if r.length<n then .error 4 else .ok (r.take n,r.drop n)
def Hm(n:UInt8)(d:List UInt8):Lab:=⟨n.toNat,(KR d*256^(8-d.length):Nat)⟩
def NE:List UInt8->Dec Lab
 | []=>.error 4
 |n::r=>if 64<n.toNat then .error 3 else if r.length<(n.toNat+7) / 8 then .error 4 else if isL (Hm n (r.take ((n.toNat+7) / 8)))then .ok (Hm n (r.take ((n.toNat+7) / 8)),r.drop ((n.toNat+7) / 8))else .error 3
theorem EI(l:Lab):isL l=true↔(0<=l.len/\l.len<=64)/\(F5 l.bits.toNat l.len.toNat:Int)=l.bits:=by
 simp[isL,Bool.and_eq_true]
structure Itm where
 key:Int
 val:ByteArray
deriving DecidableEq
structure Rec where
 kind:Int
 items:List Itm
 next:Lab
 mark:Int
deriving DecidableEq
def s7:Itm:=⟨0,⟨#[]⟩⟩
def k6:Rec:=⟨0,[],⟨0,0⟩,0⟩
def ez(f:Nat->Itm)(i:Nat):Bool:=decide ((f i).val.size<=64)&&(i==0||decide ((f (i-1)).key<(f i).key))
def okF(f:Nat->Itm)(n:Nat):Bool:=(List.range n).all (ez f)
theorem rY(f:Nat->Itm)(n:Nat):okF f (n+1)=(okF f n&&ez f n):=by
 simp[okF,List.range_succ]
theorem oi{f:Nat->Itm}{i n:Nat}(hi:i<n)(h:ez f i=false):okF f n=false:=by
 unfold okF;rw[Bool.eq_false_iff];intro h2;have:=List.all_eq_true.1 h2 i (List.mem_range.2 hi);rw[h]at this;cases this
theorem IB{f:Nat->Itm}{i n:Nat}(hi:i<n)(h:okF f n=true):ez f i=true:=List.all_eq_true.1 h i (List.mem_range.2 hi)
def pZ(n:Nat)(f:Nat->Itm):Bool:=decide (n<=16)&&okF f n
def Q9(k:Int):Bool:=decide (k=2)||decide (k=4)
def R6(kd:Int)(n:Nat)(f:Nat->Itm)(nx:Lab)(mk:Int):Bool:=
 (decide (nx=F1)||isL nx)&&(if Q9 kd then decide (n=0)&&decide (nx=F1)&&decide (mk=0)else if kd=1 \/ kd=3 then decide (mk=0)&&pZ n f else if kd=5 then pZ n f else false)
def itF(l:List Itm):Nat->Itm:=fun i=>l.getD i s7
def isR(r:Rec):Bool:=R6 r.kind r.items.length (itF r.items) r.next r.mark
theorem ol(f:Nat->Itm)(i:Nat)(hi:i<=maxLen):(if decide ((64:Int)<((f i).val.size:Int))=true then true else if decide ((0:Int)<(i:Int))=true then decide ((f i).key<=(f (IntKind.i64.wrap ((i:Int)-1)).toNat).key)else false) = !ez f i:=by
 have hm:maxLen=9223372036854775807:=rfl;unfold ez
 by_cases h1:(f i).val.size<=64
 .have h1':¬(64:Int)<((f i).val.size:Int):=by omega
  by_cases h2:i=0
  .subst h2;simp[h1];omega
  rw[o8 (by omega) (by omega),show((i:Int)-1).toNat=i-1 by omega];have h2':(0:Int)<(i:Int):=by omega
  have h2n:0<i:=by omega
  have h2b:(i==0)=false:=by simp[h2]
  by_cases h3:(f (i-1)).key<(f i).key
  .have h3':¬(f i).key<=(f (i-1)).key:=by omega
   simp[h1,h1',h2b,h2',h2n,h3,h3']
  have h3':(f i).key<=(f (i-1)).key:=by omega
  simp[h1,h1',h2b,h2',h2n,h3,h3']
 have h1':(64:Int)<((f i).val.size:Int):=by omega
 simp[h1,h1']
theorem iO(kd:Int)(n:Nat)(f:Nat->Itm)(nx:Lab)(mk:Int):R6 kd n f nx mk =
  (!((decide (kd<1)||decide (5<kd))||decide (16<n)||(!decide (nx=F1) && !isL nx)) && !((!decide (mk=0) && !decide (kd=5))||(Q9 kd&&(decide (0<n) || !decide (nx=F1))))&&okF f n):=by
 unfold R6
 by_cases hk:kd=1 \/ kd=2 \/ kd=3 \/ kd=4 \/ kd=5
 .rcases hk with rfl|rfl|rfl|rfl|rfl
  .unfold pZ Q9;cases hn:decide (n<=16)<;>cases hm:decide (mk=0)<;>cases hx:decide (nx=F1)<;>cases hl:isL nx<;>simp_all<;>omega
  .cases hz:decide (n=0)
   .have:n≠0:=by simpa using hz
    cases hm:decide (mk=0)<;>cases hx:decide (nx=F1)<;>cases hl:isL nx<;>simp_all [Q9]<;>omega
   have:n=0:=by simpa using hz
   subst this
   cases hm:decide (mk=0)<;>cases hx:decide (nx=F1)<;>cases hl:isL nx<;>simp_all [Q9,okF]
  .unfold pZ Q9;cases hn:decide (n<=16)<;>cases hm:decide (mk=0)<;>cases hx:decide (nx=F1)<;>cases hl:isL nx<;>simp_all<;>omega
  .cases hz:decide (n=0)
   .have:n≠0:=by simpa using hz
    cases hm:decide (mk=0)<;>cases hx:decide (nx=F1)<;>cases hl:isL nx<;>simp_all [Q9]<;>omega
   have:n=0:=by simpa using hz
   subst this
   cases hm:decide (mk=0)<;>cases hx:decide (nx=F1)<;>cases hl:isL nx<;>simp_all [Q9,okF]
  unfold pZ Q9;cases hn:decide (n<=16)<;>cases hm:decide (mk=0)<;>cases hx:decide (nx=F1)<;>cases hl:isL nx<;>simp_all<;>omega
 have h1:¬kd=1:=fun h=>hk (.inl h)
 have h2:¬kd=2:=fun h=>hk (.inr (.inl h))
 have h3:¬kd=3:=fun h=>hk (.inr (.inr (.inl h)))
 have h4:¬kd=4:=fun h=>hk (.inr (.inr (.inr (.inl h))))
 have h5:¬kd=5:=fun h=>hk (.inr (.inr (.inr (.inr h))))
 have h6:kd<1 \/ 5<kd:=by omega
 rcases h6 with h6|h6<;>simp[Q9,h1,h2,h3,h4,h5,h6]
end Go.Proofs.YtmbkanpapkhnaaaGreat
namespace Go.Proofs.YtmbkanpapkhnaaaGreat.Sym
open Go.RowKit
inductive Sh where
 |int (k:IntKind)
 |bool
 |str
def Sh.fits:Sh->AV->Prop
 | .int k,.int k' _=>k=k'
 | .bool,.bool _=>True
 | .str,.str _=>True
 |_,_=>False
def Z2:List Sh->List AV->Prop
 | [],[]=>True
 |h::l,v::r=>h.fits v/\Z2 l r
 |_,_=>False
def eL(P:Program)(g:TypeId->Option (List Sh)):List Field->Nat->Option (List Sh)
 | [],_=>some []
 | f :: fs, off => if f.name == "_" || f.offset != off then none else match g f.type with
  |some sh=>if ee P f.type==some sh.length&&(cp P f.type).isSome&&(cp P f.type != some false||sh.length==1)then(eL P g fs (off+sh.length)).map (sh ++ ·)else none
  |none=>none
def bp(P:Program):Nat->TypeId->Option (List Sh)
 |0,_=>none
 |d+1,t=>match P.underlying t with
  |some .bool=>some [.bool]
  |some (.int k)=>some [.int k]
  |some .string=>some [.str]
  |some (.struct fs)=>if P.stoodInHeld t then none else eL P (bp P d) fs.toList 0
  |some (.array n e)=>match bp P d e with
   |some sh=>if P.cellsOf e==sh.length&&(P.info? e).isSome&&ee P e==some sh.length&&(cp P e).isSome&&(cp P e != some false||sh.length==1)then some (List.replicate n sh).flatten else none
   |none=>none
  |_=>none
def mkV(g:Bool)(l:List AV):Value:=if g then .agg (l.map AV.den).toArray else(l.map AV.den).headD Go.undef
theorem bC:∀{sh:List Sh} {l:List AV},Z2 sh l->l.length=sh.length
 | [],[],_=>rfl
 |_::_,_::_,h=>by simp[bC h.2]
 | [],_::_,h=>h.elim
 |_::_,[],h=>h.elim
theorem aK:∀{s1 s2:List Sh} {l:List AV},Z2 (s1++s2) l->∃a b,l=a++b/\Z2 s1 a/\Z2 s2 b
 | [],s2,l,h=>⟨[],l,rfl,trivial,h⟩
 |_::_,_,[],h=>h.elim
 |s::s1,s2,v::l,h=>by
  obtain⟨a,b,rfl,h1,h2⟩:=aK h.2;exact⟨v::a,b,rfl,⟨h.1,h1⟩,h2⟩
theorem gQ:∀{a b a' b':List AV},a.length=a'.length->eqL (a++b) (a'++b')=(eqL a a'&&eqL b b')
 | [],b,[],b',_=>by cases b<;>cases b'<;>simp[eqL]
 | [],_,_::_,_,h=>by cases h
 |_::_,_,[],_,h=>by cases h
 |v::a,b,v'::a',b',h=>by
  have:=gQ (a:=a) (b:=b) (a':=a') (b':=b') (by simpa using h);simp only[List.cons_append,eqL,this,Bool.and_assoc]
section
variable {P:Program} {w:World}
theorem im{e:TypeId}{g:Bool}{sh:List Sh}{px x sx:List AV}(hg:cp P e=some g)(hs:ee P e=some sh.length)(h1:g=false->sh.length=1)(hx:Z2 sh x) :
  (part e ((px++x++sx).map AV.den).toArray px.length).run P w = .ok (mkV g x) w:=by
 have hl:=bC hx;unfold part;simp only[Sem.run_bind,lC hg w,Result.andThen_ok]
 cases g with
 |true=>
  simp only[if_true,Sem.run_bind,eH hs w,Result.andThen_ok,Sem.run_pure,mkV]
  congr 2
  apply Array.ext';rw[Array.toList_extract];simp only[List.extract,Nat.add_sub_cancel_left,List.map_append,<-hl];rw[List.append_assoc,List.drop_append_of_le_length (by simp),List.drop_eq_nil_of_le (by simp),List.nil_append,List.take_append_of_le_length (by simp),List.take_of_length_le (by simp)]
 |false=>
  obtain⟨v,rfl⟩:∃v,x=[v]:=by
   rw[h1 rfl]at hl;exact List.length_eq_one_iff.1 hl
  have:((px ++ [v]++sx).map AV.den).toArray[px.length]? = some v.den:=by simp
  rw[this];simp[mkV]
theorem oP{d D:Nat}(IH:∀t sh,bp P d t=some sh->∀x y g,cp P t=some g->Z2 sh x->Z2 sh y->(Op.equalIn (D+d) t (mkV g x) (mkV g y)).run P w = .ok (eqL x y) w) :
  ∀(fs:List Field) (off:Nat) (sh:List Sh),eL P (bp P d) fs off=some sh->∀(px py x y:List AV),px.length=off->py.length=off->Z2 sh x->Z2 sh y →
   (Op.eqFields (D+d) ((px++x).map AV.den).toArray ((py++y).map AV.den).toArray fs).run P w = .ok (eqL x y) w
 | [],off,sh,h,px,py,x,y,hp,hq,hx,hy=>by
  simp only[eL,Option.some.injEq]at h;subst h
  cases x with
  |cons=>exact hx.elim
  |nil=>cases y with
   |cons=>exact hy.elim
   |nil=>simp[Op.eqFields,eqL]
 |f::fs,off,sh,h,px,py,x,y,hp,hq,hx,hy=>by
  simp only[eL]at h
  split at h
  .cases h
  rename_i hn
  simp only[Bool.or_eq_true,beq_iff_eq,bne_iff_ne,not_or,ne_eq,Decidable.not_not]at hn;obtain⟨hn1,hn2⟩:=hn
  split at h
  .rename_i s1 hs1
   split at h
   .rename_i hc
    simp only[Bool.and_eq_true,beq_iff_eq,Bool.or_eq_true,bne_iff_ne,ne_eq]at hc;obtain⟨⟨hc1,hc2⟩,hc3⟩:=hc;obtain⟨s2,hs2,rfl⟩:=Option.map_eq_some_iff.1 h;obtain⟨a,b,rfl,ha,hb⟩:=aK hx;obtain⟨a',b',rfl,ha',hb'⟩:=aK hy;obtain⟨g,hg⟩:=Option.isSome_iff_exists.1 hc2;have h1:g=false->s1.length=1:=by
     intro hgf
     rcases hc3 with h|h
     .rw [hg,hgf]at h;exact absurd rfl h
     exact h
    have p1:=im (P:=P) (w:=w) (px:=px) (sx:=b) hg hc1 h1 ha;have p2:=im (P:=P) (w:=w) (px:=py) (sx:=b') hg hc1 h1 ha';rw[hp]at p1;rw[hq]at p2;have la:=bC ha;have la':=bC ha';have e1:=IH _ _ hs1 a a' g hg ha ha';have e2:=oP IH fs (off+s1.length) s2 hs2 (px++a) (py++a') b b' (by simp[hp,la]) (by simp[hq,la']) hb hb';rw[gQ (la.trans la'.symm)];simp only[<-List.append_assoc];unfold Op.eqFields;simp only[hn1,ne_eq,not_false_eq_true,if_true,Sem.run_bind,hn2,p1,p2,e1,Result.andThen_ok]
    cases hE:eqL a a' with
    |true=>simpa using e2
    |false=>simp
   cases h
  cases h
theorem sM{d D:Nat}{e:TypeId}{g:Bool}{sh:List Sh}(hg:cp P e=some g)(hs:ee P e=some sh.length)(h1:g=false->sh.length=1)
  (IH:∀x y,Z2 sh x->Z2 sh y->(Op.equalIn (D+d) e (mkV g x) (mkV g y)).run P w = .ok (eqL x y) w) :
  ∀(n i:Nat) (px py x y:List AV),px.length=i*sh.length->py.length=i*sh.length->Z2 (List.replicate n sh).flatten x->Z2 (List.replicate n sh).flatten y →
   (Op.eqItems (D+d) e sh.length ((px++x).map AV.den).toArray ((py++y).map AV.den).toArray (List.range' i n)).run P w = .ok (eqL x y) w
 |0,i,px,py,x,y,hp,hq,hx,hy=>by
  cases x with
  |cons=>exact hx.elim
  |nil=>cases y with
   |cons=>exact hy.elim
   |nil=>simp[Op.eqItems,eqL]
 |n+1,i,px,py,x,y,hp,hq,hx,hy=>by
  rw[List.replicate_succ,List.flatten_cons]at hx hy;obtain⟨a,b,rfl,ha,hb⟩:=aK hx;obtain⟨a',b',rfl,ha',hb'⟩:=aK hy;have p1:=im (P:=P) (w:=w) (px:=px) (sx:=b) hg hs h1 ha;have p2:=im (P:=P) (w:=w) (px:=py) (sx:=b') hg hs h1 ha';rw[hp]at p1;rw[hq]at p2;have la:=bC ha;have la':=bC ha';have e1:=IH a a' ha ha';have e2:=sM hg hs h1 IH n (i+1) (px++a) (py++a') b b' (by rw[List.length_append,hp,la,Nat.add_mul,Nat.one_mul]) (by rw[List.length_append,hq,la',Nat.add_mul,Nat.one_mul]) hb hb';rw[gQ (la.trans la'.symm)];simp only[<-List.append_assoc];rw[List.range'_succ];unfold Op.eqItems;simp only[Sem.run_bind,p1,p2,e1,Result.andThen_ok]
  cases hE:eqL a a' with
  |true=>simpa using e2
  |false=>simp
theorem mZ(w:World):∀(d:Nat) (t:TypeId) (sh:List Sh),bp P d t=some sh->∀(D:Nat) (x y:List AV) (g:Bool),cp P t=some g->Z2 sh x->Z2 sh y->(Op.equalIn (D+d) t (mkV g x) (mkV g y)).run P w = .ok (eqL x y) w
 |0,t,sh,h,_,_,_,_,_,_,_=>by cases h
 |d+1,t,sh,h,D,x,y,g,hg,hx,hy=>by
  have one:∀{s:Sh} {z:List AV},Z2 [s] z->∃v,z=[v]/\s.fits v:=by
   intro s z hz
   match z,hz with
   | [v],hz=>exact⟨v,rfl,hz.1⟩
  simp only[bp]at h
  split at h
  .rename_i hu
   injection h with h;subst h
   obtain⟨v,rfl,hv⟩:=one hx;obtain⟨u,rfl,hu'⟩:=one hy;have:g=false:=by simpa[cp,hu]using hg
   subst this
   cases v<;>simp only[Sh.fits]at hv
   cases u<;>simp only[Sh.fits]at hu'
   simp only[mkV,List.map_cons,List.headD_cons,Bool.false_eq_true,if_false,AV.den,<-Nat.add_assoc];rw[run_equalIn_bool w _ _ _ _ hu];simp[eqL,eqC]
  .rename_i k hu
   injection h with h;subst h
   obtain⟨v,rfl,hv⟩:=one hx;obtain⟨u,rfl,hu'⟩:=one hy;have:g=false:=by simpa[cp,hu]using hg
   subst this
   cases v<;>simp only[Sh.fits]at hv
   cases u<;>simp only[Sh.fits]at hu'
   subst hv;subst hu';simp only[mkV,List.map_cons,List.headD_cons,Bool.false_eq_true,if_false,AV.den,<-Nat.add_assoc];rw[run_equalIn_int w _ _ _ _ _ _ hu];simp[eqL,eqC]
  .rename_i hu
   injection h with h;subst h
   obtain⟨v,rfl,hv⟩:=one hx;obtain⟨u,rfl,hu'⟩:=one hy;have:g=false:=by simpa[cp,hu]using hg
   subst this
   cases v<;>simp only[Sh.fits]at hv
   cases u<;>simp only[Sh.fits]at hu'
   rename_i s1 s2
   simp only[mkV,List.map_cons,List.headD_cons,Bool.false_eq_true,if_false,AV.den,<-Nat.add_assoc];rw[run_equalIn_string w _ _ _ _ hu];have e:(s1.toList==s2.toList)=(s1==s2):=by
    rw[Bool.eq_iff_iff,beq_iff_eq,fy,fy]
    constructor
    .intro h;rw[tH h];exact(KB _ _).2 rfl
    intro h;rw[(KB _ _).1 h]
   simp[eqL,eqC,e]
  .rename_i fs hu
   split at h
   .cases h
   rename_i hst
   have:g=true:=by simpa[cp,hu]using hg
   subst this;have hfs:P.fieldsOf t=fs:=by simp[Program.fieldsOf,hu]
   have:=oP (w:=w) (D:=D) (fun t sh h x y g hg hx hy=>mZ w d t sh h D x y g hg hx hy) fs.toList 0 sh h [] [] x y rfl rfl hx hy;simp only[mkV,if_true,<-Nat.add_assoc];rw[run_equalIn_struct w _ t _ _ (by rw[hfs];exact hu) (by simpa using hst),hfs];exact this
  .rename_i n e hu
   split at h
   .rename_i s1 hs1
    split at h
    .rename_i hc
     simp only[Bool.and_eq_true,beq_iff_eq,Bool.or_eq_true,bne_iff_ne,ne_eq]at hc;obtain⟨⟨⟨⟨c1,c2⟩,c3⟩,c4⟩,c5⟩:=hc;injection h with h;subst h
     have:g=true:=by simpa[cp,hu]using hg
     subst this;obtain⟨i,hi⟩:=Option.isSome_iff_exists.1 c2;obtain⟨g',hg'⟩:=Option.isSome_iff_exists.1 c4;have h1:g'=false->s1.length=1:=by
      intro hgf
      rcases c5 with h|h
      .rw [hg',hgf]at h;exact absurd rfl h
      exact h
     have:=sM (w:=w) (D:=D) (d:=d) hg' c3 h1 (fun x y hx hy=>mZ w d e s1 hs1 D x y g' hg' hx hy) n 0 [] [] x y (by simp) (by simp) hx hy;simp only[mkV,if_true,<-Nat.add_assoc];rw[run_equalIn_array w _ _ _ hu hi,c1,List.range_eq_range'];exact this
    cases h
   cases h
  cases h
theorem qh{K:Kn}{t:Nat}{d:Nat}{sh:List Sh}(hsh:bp P d t=some sh)(hd:d<=10000)(hg:P.eqGuardType P.depth t=false)(ha:cp P t=some true){x y:List AV}(hx:Z2 sh x)(hy:Z2 sh y):Ob.holds P K (.eql t x y):=by
 intro w o1 o2;have h:=mZ w d t sh hsh (10000-d) x y true ha hx hy;rw[show 10000-d+d=10000 by omega]at h;have hgd:∀op,(eqGuard op t o1 o2 (.agg (x.map AV.den).toArray) (.agg (y.map AV.den).toArray)).run P w = .ok () w:=by
  intro op;unfold eqGuard
  cases op<;>simp[hg]<;>rfl
 simp only[mkV,if_true]at h
 constructor
 .simp only[Sem.run_bind,hgd,Result.andThen_ok]
  rw[run_eql_struct,h];rfl
 simp only[Sem.run_bind,hgd,Result.andThen_ok];rw[run_neq_struct,h];rfl
end
end Go.Proofs.YtmbkanpapkhnaaaGreat.Sym
namespace Go.Proofs.YtmbkanpapkhnaaaGreat.Sym
open Go Go.RowKit
def i6(l:Lab):AV:=.agg [.int .i64 l.len,.int .u64 l.bits]
def ofT(s:ByteArray):Lab:=⟨s.size,(Y6 (unB s++List.replicate (64-s.size) 48):Nat)⟩
theorem cF(l k:Lab):eqL [.int .i64 l.len,.int .u64 l.bits] [.int .i64 k.len,.int .u64 k.bits]=decide (l=k):=by
 obtain⟨a,b⟩:=l;obtain⟨c,d⟩:=k;rw[Bool.eq_iff_iff];simp[eqL,eqC]
theorem yd:Tryz.prog.eqGuardType Tryz.prog.depth 24=false:=by kernel_rfl
theorem yc:bp Tryz.prog 2 24=some [.int .i64,.int .u64]:=by kernel_rfl
theorem EG:cp Tryz.prog 24=some true:=by kernel_rfl
theorem u5{Kk:Kn}(a b c d:Int):Ob.holds Tryz.prog Kk (.eql 24 [.int .i64 a,.int .u64 b] [.int .i64 c,.int .u64 d]):=qh yc (by decide) yd EG ⟨rfl,rfl,trivial⟩ ⟨rfl,rfl,trivial⟩
theorem IY(l:Lab)(hv:U64 l.bits)(h0:0<=l.len)(h1:l.len<=64):isL l=decide (ofT ((mkB (K9 64 l.bits.toNat)).extract 0 l.len.toNat)=l):=by
 have hn:l.len.toNat<=64:=by omega
 have hb:l.bits.toNat<2^64:=by have:=hv.1;have:=hv.2;omega
 have hlen:((K9 64 l.bits.toNat).take l.len.toNat).length=l.len.toNat:=by rw[List.length_take,Y9];omega
 have e:ofT ((mkB (K9 64 l.bits.toNat)).extract 0 l.len.toNat)=⟨l.len,(F5 l.bits.toNat l.len.toNat:Nat)⟩:=by
  unfold ofT;rw[bP,Y4,List.drop_zero,J5,hlen,ld hb hn]
  congr 1
  omega
 rw[e];unfold isL;rw[Bool.eq_iff_iff];obtain⟨a,b⟩:=l;simp only at *;simp[h0,h1]
theorem sN:l8 Tryz.prog 82:=fun _ _=>by kernel_rfl
theorem uz(v n:Int)(hv:U64 v)(h0:0<=n)(h1:n<=64):k9 Tryz.prog 82 [.int .u64 v,.int .i64 n] (fun _=>.int .u64 (F5 v.toNat n.toNat)):=by
 intro m w hm hargs;refine en 11 hm hargs Tryz.func82 fun B O a0 Z=>?_
 refine a6 [0,1] [] Z fun X0 Z=>?_
 refine a6 [0,5] [] Z fun X1 Z=>?_
 refine a6 [4] [] Z fun X2 Z=>?_
 refine N8 Z ?_;subst O;simp only[Bs hv h0 h1,std];rfl
theorem aL:l8 Tryz.prog 48:=fun _ _=>by kernel_rfl
theorem fZ(l:Lab)(hv:U64 l.bits):k9 Tryz.prog 48 [i6 l] (fun _=>.bool (.v (isL l))):=by
 intro m w hm hargs;simp only[i6]at hargs ⊢;have S:=fun h0 h1=>uz l.bits l.len hv h0 h1
 generalize hhd:((F5 l.bits.toNat l.len.toNat:Nat):Int)=hd at S
 refine en 21 hm hargs Tryz.func48 fun B O a0 Z=>?_
 refine a6 [1] [1] Z fun X0 Z=>?_
 refine a7 (drg O a8 [2] [] [(13,.r fun _=>.int .u64 hd)] Z (hob:=?hob) fun X1 _ _ Z=>?_)
 case hob=>
  intro X;subst O;refine⟨rfl,fun _=>rfl,fun _=>rfl,fun _=>rfl,fun h=>?_,fun _=>rfl,trivial⟩;have hl:=h _ (List.mem_singleton.2 rfl);have hl:(0:Int)<=l.len/\l.len<=64:=by simpa[std,d4,BE.den]using hl
  exact⟨sN,S hl.1 hl.2⟩
 refine N8 Z ?_;subst O;refine congrArg (fun b=>AV.bool (.v b)) ?_;simp only[std,d4,isL,BE.den,hhd]
 by_cases h1:0<=l.len<;>by_cases h2:l.len<=64<;>simp[h1,h2]
 rfl
theorem fN:l8 Tryz.prog 102:=fun _ _=>by kernel_rfl
theorem ml:k9 Tryz.prog 102 [] (fun _=>i6 F1):=by
 intro m w hm hargs;refine en 2 hm hargs Tryz.func102 fun B O a0 Z=>?_
 refine a6 [0] [0] Z fun X0 Z=>?_
 refine a6 [0] [0] Z fun X1 Z=>?_
 exact i8 ((rsp O a8 Z C5).1)
theorem yI:l8 Tryz.prog 115:=fun _ _=>by kernel_rfl
theorem qa:k9 Tryz.prog 115 [] (fun _=>i6 F1):=by
 intro m w hm hargs;refine en 2 hm hargs Tryz.func115 fun B O a0 Z=>?_
 refine a6 [0] [0] Z fun X0 Z=>?_
 refine a6 [0] [0] Z fun X1 Z=>?_
 exact i8 ((rsp O a8 Z C5).1)
theorem jN:l8 Tryz.prog 214:=fun _ _=>by kernel_rfl
theorem qV(v:Int)(hv:U64 v):k9 Tryz.prog 214 [.int .u64 v] (fun _=>.str (mkB (K9 64 v.toNat))):=by
 intro m w hm hargs;refine en 19 hm hargs Tryz.func214 fun B O a0 Z=>?_
 refine a7 (rg O a8 [0] [] [] Z fun X0 a0 w1 Z=>?_);refine a7 (rg O a8 [0,3] [] [] Z fun X1 a0 w1 Z=>?_);refine a7 (a7 (rg O a8 [0,3,4] [] [] Z fun X2 a0 w1 Z=>?_));have Z:i5 ⟨m,w,fun _=>False,[],noK⟩ ⟨19,[(0,.int .u64 v),(3,.str (mkB [])),(4,.int .i64 ((0:Nat):Int))],[],[],[]⟩ a0 w1:=Z;refine j1 (l3 (ι:=Nat×ByteArray×Int) (fun p=>[(0,.int .u64 p.2.2),(3,.str p.2.1),(4,.int .i64 (p.1:Int))]) (fun p=>[]) (fun p=>[]) (fun p=>p.1<=64/\p.2.1=mkB (K9 p.1 v.toNat)/\p.2.2=((v.toNat / 2^p.1:Nat):Int)) (fun p=>64-p.1) (0,mkB [],v) ⟨by simp,rfl,by have:=hv.1;simp only[Nat.pow_zero,Nat.div_one];omega⟩ Z ?_)
 rintro⟨i,o,x⟩ ⟨hi,ho,hx⟩ a0 w1 Z
 try dsimp only at hi
 try dsimp only at ho
 try dsimp only at hx
 refine a7 (a7 (rg O a8 [6,0,3,4] [] [] Z fun X3 a0 w1 Z=>?_));apply b7 Z rfl<;>intro hb Z
 .have hin:i<64:=by
   have:(i:Int)<64:=by subst O;simpa[std,d4]using hb
   omega
  refine f8 (a7 (j1 (a7 (a7 (rg O a8 [11,0,3,4] [] [] Z fun X5 a0 w1 Z=>?_)))));apply b7 Z rfl<;>intro hb Z
  .have hd:dig v.toNat i=49:=by
    have h1:(((v.toNat / 2^i:Nat):Int)).tmod 2=1:=by subst O;rw[hx]at hb;simpa[std,d4,jv]using hb
    have h2:v.toNat / 2^i % 2=1:=by have:(((v.toNat / 2^i % 2:Nat)):Int)=1:=h1;omega
    simp[dig,h2]
   obtain⟨c,hc⟩:∃c:UInt8,c=49:=⟨_,rfl⟩
   refine rg O a8 [0,3,4] [] [] Z (hob:=?hob) fun X6 a0 w1 Z=>?_
   case hob=>
    intro X;subst O;refine⟨?_,trivial⟩
    show(1:Nat)+o.size<=maxLen
    rw[ho,J5,Y9];simp only[maxLen];omega
   refine rg O a8 [0,3,4] [] [] Z fun X8 a0 w1 Z=>?_
   refine rg O a8 [0,3,4] [] [] Z fun X4 a0 w1 Z=>?_
   have e:B.arith .add .i64 (i:Int) 1=((i+1:Nat):Int):=by subst O;exact k4 (n:=64) (by omega) (by decide)
   refine⟨(i+1,B.cat ⟨#[c]⟩ o,B.div .quo .u64 x 2),⟨by simp only;omega,?_,?_⟩,by simp only;omega,by rw[<-e,hc];exact Z⟩
   .subst O;rw[ho];show mkB [_]++mkB (K9 i v.toNat)=mkB (K9 (i+1) v.toNat)
    rw[fE,K9,hd,hc];rfl
   subst O;rw[hx];show IntKind.u64.wrap ((((v.toNat / 2^i:Nat):Int)).tdiv 2)=_;rw[show(((v.toNat / 2^i:Nat):Int)).tdiv 2=((v.toNat / 2^i / 2:Nat):Int)from rfl,Nat.div_div_eq_div_mul,<-Nat.pow_succ];refine wrap_u64 _ ⟨Int.natCast_nonneg _,?_⟩;have h1:=Nat.div_le_self v.toNat (2^Nat.succ i);have:=hv.2;omega
  have hd:dig v.toNat i=48:=by
   have h1:¬(((v.toNat / 2^i:Nat):Int)).tmod 2=1:=by subst O;rw[hx]at hb;simpa[std,d4,jv]using hb
   have h2:¬v.toNat / 2^i % 2=1:=fun h=>h1 (by show(((v.toNat / 2^i % 2:Nat)):Int)=1;omega)
   simp[dig,h2]
  obtain⟨c,hc⟩:∃c:UInt8,c=48:=⟨_,rfl⟩
  refine rg O a8 [0,3,4] [] [] Z (hob:=?hob) fun X7 a0 w1 Z=>?_
  case hob=>
   intro X;subst O;refine⟨?_,trivial⟩
   show(1:Nat)+o.size<=maxLen
   rw[ho,J5,Y9];simp only[maxLen];omega
  refine rg O a8 [0,3,4] [] [] Z fun X8 a0 w1 Z=>?_
  refine rg O a8 [0,3,4] [] [] Z fun X4 a0 w1 Z=>?_
  have e:B.arith .add .i64 (i:Int) 1=((i+1:Nat):Int):=by subst O;exact k4 (n:=64) (by omega) (by decide)
  refine⟨(i+1,B.cat ⟨#[c]⟩ o,B.div .quo .u64 x 2),⟨by simp only;omega,?_,?_⟩,by simp only;omega,by rw[<-e,hc];exact Z⟩
  .subst O;rw[ho];show mkB [_]++mkB (K9 i v.toNat)=mkB (K9 (i+1) v.toNat)
   rw[fE,K9,hd,hc];rfl
  subst O;rw[hx];show IntKind.u64.wrap ((((v.toNat / 2^i:Nat):Int)).tdiv 2)=_;rw[show(((v.toNat / 2^i:Nat):Int)).tdiv 2=((v.toNat / 2^i / 2:Nat):Int)from rfl,Nat.div_div_eq_div_mul,<-Nat.pow_succ];refine wrap_u64 _ ⟨Int.natCast_nonneg _,?_⟩;have h1:=Nat.div_le_self v.toNat (2^Nat.succ i);have:=hv.2;omega
 have hi2:i=64:=by
  have:¬(i:Int)<64:=by subst O;simpa[std,d4]using hb
  omega
 subst hi2;refine j9 (a7 (rg O a8 [2] [] [] Z fun X9 a0 w1 Z=>?_));refine N8 Z ?_;subst O;rw[ho];rfl
theorem yC:l8 Tryz.prog 189:=fun _ _=>by kernel_rfl
theorem sd(s:ByteArray)(hs:∀c∈unB s,c=48 \/ c=49)(hl:s.size<=64):k9 Tryz.prog 189 [.str s] (fun _=>.int .u64 (Y6 (unB s):Int)):=by
 intro m w hm hargs;refine en 20 hm hargs Tryz.func189 fun B O a0 Z=>?_
 refine a7 (rg O a8 [0] [] [] Z fun X0 a0 w1 Z=>?_);refine a7 (rg O a8 [0,3] [] [] Z fun X1 a0 w1 Z=>?_);refine a7 (a7 (rg O a8 [3,4,0] [] [] Z fun X2 a0 w1 Z=>?_));have Z:i5 ⟨m,w,fun _=>False,[],noK⟩ ⟨20,[(3,.int .u64 0),(4,.int .i64 ((0:Nat):Int)),(0,.str s)],[],[],[]⟩ a0 w1:=Z;refine j1 (l3 (ι:=Nat×Int) (fun p=>[(3,.int .u64 p.2),(4,.int .i64 (p.1:Int))]) (fun p=>[]) (fun p=>[]) (fun p=>p.1<=s.size/\p.2=(Y6 ((unB s).take p.1):Int)) (fun p=>s.size-p.1) (0,0) ⟨Nat.zero_le _,rfl⟩ Z ?_)
 rintro⟨i,x⟩ ⟨hi,hx⟩ a0 w1 Z
 try dsimp only at hi
 try dsimp only at hx
 refine a7 (a7 (rg O a8 [8,0,3,4] [] [] Z fun X3 a0 w1 Z=>?_));apply b7 Z rfl<;>intro hb Z
 .have hin:i<s.size:=by
   have:(i:Int)<(s.size:Int):=by subst O;simpa[std,d4]using hb
   omega
  refine f8 (a7 (j1 (rg O a8 [0,3,4] [] [] Z (hob:=?hob) fun X5 a0 w1 Z=>?_)))
  case hob=>
   intro X;subst O;refine⟨⟨?_,?_⟩,trivial⟩
   .show (0:Int)<=(i:Int);omega
   show(i:Int)<(s.size:Int);omega
  refine rg O a8 [3,4,0] [] [] Z fun X4 a0 w1 Z=>?_
  have e:B.arith .add .i64 (i:Int) 1=((i+1:Nat):Int):=by subst O;exact k4 (n:=s.size) hin (by simp only[maxLen];omega)
  refine⟨(i+1,B.arith .add .u64 (B.arith .mul .u64 2 x) (B.conv .u64 (B.arith .sub .u8 (B.sat s (B.toNat (i:Int))) 48))),⟨by simp only;omega,?_⟩,by simp only;omega,by rw[<-e];exact Z⟩;subst O
  show std.arith .add .u64 (std.arith .mul .u64 2 x) (std.conv .u64 (std.arith .sub .u8 (std.sat s (std.toNat (i:Int))) 48))=_
  have hi2:i<(unB s).length:=by rw[az];exact hin
  have hc:=hs _ (List.getElem_mem hi2);rw[hx]
  show IntKind.u64.wrap (IntKind.u64.wrap (2*(Y6 ((unB s).take i):Int))+IntKind.u64.wrap (IntKind.u8.wrap (((s[((i:Int)).toNat]?.getD 0).toNat:Int)-48)))=_
  rw[Int.toNat_natCast,HQ,List.getElem?_eq_getElem hi2,List.take_succ_eq_append_getElem hi2,Q6];have hb1:=Em ((unB s).take i) (fun c hc=>hs c (List.mem_of_mem_take hc));rw[List.length_take,Nat.min_eq_left (by omega)]at hb1;have hb2:2^i<=2^63:=Nat.pow_le_pow_right (by decide) (by omega)
  rcases hc with hc|hc
  .rw [hc]
   rw[wrap_u64 (2*_) ⟨by omega,by omega⟩];rw[show IntKind.u64.wrap (IntKind.u8.wrap ((((some (48:UInt8)).getD 0).toNat:Int)-48))=0 from by decide,Int.add_zero,wrap_u64 _ ⟨by omega,by omega⟩];simp[Y6];omega
  rw[hc];rw[wrap_u64 (2*_) ⟨by omega,by omega⟩];rw[show IntKind.u64.wrap (IntKind.u8.wrap ((((some (49:UInt8)).getD 0).toNat:Int)-48))=1 from by decide,wrap_u64 _ ⟨by omega,by omega⟩];simp[Y6];omega
 have hi2:i=s.size:=by
  have:¬(i:Int)<(s.size:Int):=by subst O;simpa[std,d4]using hb
  omega
 subst hi2;refine j9 (a7 (rg O a8 [2] [] [] Z fun X6 a0 w1 Z=>?_));refine N8 Z ?_;subst O;rw[hx,List.take_of_length_le (by rw[az];exact Nat.le_refl _)];rfl
theorem yB:l8 Tryz.prog 190:=fun _ _=>by kernel_rfl
theorem Jp(s:ByteArray)(hl:s.size<=64):k9 Tryz.prog 190 [.str s,.str ⟨#[48]⟩] (fun _=>.str (mkB (unB s++List.replicate (64-s.size) 48))):=by
 intro m w hm hargs;refine en 12 hm hargs Tryz.func190 fun B O a0 Z=>?_
 refine a6 [0,1] [] Z fun X0 Z=>?_
 refine a7 (j1 (l3 (ι:=Nat×ByteArray) (fun p=>[(0,.str p.2)]) (fun p=>[]) (fun p=>[]) (fun p=>p.1<=64-s.size/\p.2=mkB (unB s++List.replicate p.1 48)) (fun p=>64-p.1) (0,s) ⟨Nat.zero_le _,by simp[vM]⟩ Z ?_))
 rintro⟨i,o⟩ ⟨hi,ho⟩ _ _ Z
 try dsimp only at hi
 try dsimp only at ho
 refine a7 (a6 [7,0,1] [] Z fun X1 Z=>?_);apply b7 Z rfl<;>intro hb Z
 .have hsz:o.size=s.size+i:=by rw[ho,J5];simp[az]
  have hin:o.size<64:=by
   have:(o.size:Int)<64:=by subst O;simpa[std,d4]using hb
   omega
  refine f8 (j1 (j5 [0,1] [] Z (hob:=?hob) fun X2 Z=>?_))
  case hob=>
   intro X;subst O;refine⟨?_,trivial⟩
   show o.size+1<=maxLen
   simp only[maxLen];omega
  refine⟨(i+1,B.cat o ⟨#[48]⟩),⟨?_,?_⟩,by simp only;omega,Z⟩
  .simp only;omega
  subst O;rw[ho];show mkB _++mkB [48]=_;rw[fE,List.append_assoc,<-List.replicate_succ']
 have hsz:o.size=s.size+i:=by rw[ho,J5];simp[az]
 have hi2:¬o.size<64:=by
  have:¬(o.size:Int)<64:=by subst O;simpa[std,d4]using hb
  omega
 have hi3:i=64-s.size:=by omega
 refine j9 (a6 [4] [] Z fun X3 Z=>?_);refine N8 Z ?_;subst O;rw[<-hi3,<-ho];rfl
theorem jO:l8 Tryz.prog 213:=fun _ _=>by kernel_rfl
theorem Ay(s:ByteArray)(hs:∀c∈unB s,c=48 \/ c=49)(hl:s.size<=64):k9 Tryz.prog 213 [.str s] (fun _=>i6 (ofT s)):=by
 intro m w hm hargs;have S1:=Jp s hl;have S2:=sd (mkB (unB s++List.replicate (64-s.size) 48)) (fun c hc=>by rw[Y4]at hc;rcases List.mem_append.1 hc with hc|hc;exact hs c hc;exact .inl (List.eq_of_mem_replicate hc)) (by rw[J5];simp[az];omega);rw[Y4]at S2;have e0:i6 (ofT s) = .agg [.int .i64 (s.size:Int),.int .u64 (Y6 (unB s++List.replicate (64-s.size) 48):Int)]:=rfl;rw[e0]
 generalize mkB (unB s++List.replicate (64-s.size) 48)=f at S1 S2
 generalize ((Y6 (unB s++List.replicate (64-s.size) 48):Nat):Int)=q at S2 ⊢
 refine en 9 hm hargs Tryz.func213 fun B O a0 Z=>?_
 refine a6 [0,2] [2] Z fun X0 Z=>?_
 refine i9 [2] [2] [(3,.r fun _=>.str f),(4,.r fun _=>.int .u64 q)] Z (hob:=?hob) fun X1 Z=>?_
 case hob=>
  intro X;exact⟨⟨yB,S1⟩,⟨yC,S2⟩,rfl,trivial⟩
 exact i8 ((rsp O a8 Z C5).1)
theorem bE:l8 Tryz.prog 150:=fun _ _=>by kernel_rfl
theorem gn(l:Lab)(hv:U64 l.bits):k9 Tryz.prog 150 [i6 l] (fun _=>.bool (.v (isL l))):=by
 intro m w hm hargs;simp only[i6]at hargs ⊢;have S1:=qV l.bits hv;have S2:=fun h1=>Ay ((mkB (K9 64 l.bits.toNat)).extract 0 l.len.toNat) (fun c hc=>by rw[lI,Y4]at hc;exact iK c (List.mem_of_mem_take (List.mem_of_mem_drop hc))) h1
 have hz:(mkB (K9 64 l.bits.toNat)).size=64:=by rw[J5,Y9]
 have hE:=IY l hv
 generalize mkB (K9 64 l.bits.toNat)=bs at S1 S2 hz hE
 simp only[i6]at S2
 generalize ofT (bs.extract 0 l.len.toNat)=k at S2 hE
 refine en 20 hm hargs Tryz.func150 fun B O a0 Z=>?_
 refine a6 [1] [1] Z fun X0 Z=>?_
 refine a7 (a6 [10,1] [1] Z fun X1 Z=>?_);apply b7 Z rfl<;>intro hb Z
 .have hout:l.len<0 \/ 64<l.len:=by
   subst O
   by_cases h:l.len<0
   .exact .inl h
   exact .inr (by simpa[std,d4,BE.den,h]using hb)
  refine a6 [2] [] Z fun X2 Z=>?_
  refine N8 Z ?_;have:isL l=false:=by
   unfold isL
   rcases hout with h|h
   .simp [show ¬0<=l.len by omega]
   simp[show ¬l.len<=64 by omega]
  rw[this];rfl
 have hin:0<=l.len/\l.len<=64:=by
  subst O
  by_cases h:l.len<0
  .simp [std,d4,BE.den,h]at hb
  have:l.len<=64:=by simpa[std,d4,BE.den,h]using hb
  omega
 refine f8 (a7 (drg O a8 [2] [] [(2,.r fun _=>.str bs),(6,.r fun _=>.agg [.int .i64 k.len,.int .u64 k.bits])] Z (hob:=?hob) fun X3 _ _ Z=>?_))
 case hob=>
  intro X;subst O;have hin:0<=l.len/\l.len<=64:=hin;refine⟨rfl,⟨jN,S1⟩,rfl,⟨by decide,hin.1,by show l.len<=(bs.size:Int);rw[hz];exact hin.2⟩,⟨jO,S2 (by rw[ByteArray.size_extract];omega)⟩,rfl,u5 (Kk:=noK) _ _ _ _,trivial⟩
 refine N8 Z ?_;subst O;refine congrArg (fun b=>AV.bool (.v b)) ?_;rw[hE hin.1 hin.2];exact cF _ _
theorem As{a b k:Nat}(h:a % 2^k=0)(hb:b<2^k)(hab:a+b<2^64):j0 .or .u64 (a:Int) (b:Int)=((a+b:Nat):Int):=by
 show IntKind.u64.wrap ((BitVec.ofNat 64 a ||| BitVec.ofNat 64 b).toNat:Int)=_
 have e:(BitVec.ofNat 64 a ||| BitVec.ofNat 64 b).toNat=a+b:=by
  rw[BitVec.toNat_or,BitVec.toNat_ofNat,BitVec.toNat_ofNat,Nat.mod_eq_of_lt (by omega),Nat.mod_eq_of_lt (by omega)];obtain⟨q,rfl⟩:=Nat.dvd_of_mod_eq_zero h;rw[Nat.mul_comm,<-Nat.shiftLeft_eq,<-Nat.shiftLeft_add_eq_or_of_lt hb]
 rw[e,V6,Nat.mod_eq_of_lt hab]
def itC(x:Itm):List AV:=[.int .u64 x.key,.str x.val]
def s4(A:Option Addr)(n c:Nat)(f:Nat->Itm):AV:=.sl none A n c 2 (fun i=>itC (f i))
def R3(A:Option Addr)(n c:Nat)(f:Nat->Itm)(kd:Int)(nx:Lab)(mk:Int):AV:=.agg [.int .i64 kd,s4 A n c f,.int .i64 nx.len,.int .u64 nx.bits,.int .u64 mk]
theorem V1(a b:Bool):(if a=true then true else b)=(a||b):=by cases a<;>rfl
theorem C0(a b:Bool):(if a=true then b else false)=(a&&b):=by cases a<;>rfl
theorem wC(x y:Itm):eqL (itC x) (itC y)=decide (x=y):=by
 obtain⟨a,b⟩:=x;obtain⟨c,d⟩:=y;rw[Bool.eq_iff_iff];simp[eqL,eqC,itC,KB]
theorem yi:Tryz.prog.eqGuardType Tryz.prog.depth 62=false:=by kernel_rfl
theorem yh:bp Tryz.prog 2 62=some [.int .u64,.str]:=by kernel_rfl
theorem EH:cp Tryz.prog 62=some true:=by kernel_rfl
theorem ID{Kk:Kn}(a:Int)(b:ByteArray)(c:Int)(d:ByteArray):Ob.holds Tryz.prog Kk (.eql 62 [.int .u64 a,.str b] [.int .u64 c,.str d]):=qh yh (by decide) yi EH ⟨rfl,trivial,trivial⟩ ⟨rfl,trivial,trivial⟩
def ef(n:Nat)(f:Nat->Itm)(n2:Nat)(f2:Nat->Itm):Bool:=decide (n=n2)&&(List.range n).all fun i=>decide (f i=f2 i)
theorem rL{n n2 i:Nat}{f f2:Nat->Itm}(hi:i<n)(h:¬f i=f2 i):ef n f n2 f2=false:=by
 unfold ef;have:((List.range n).all fun i=>decide (f i=f2 i))=false:=by
  rw[Bool.eq_false_iff];intro h2;exact h (of_decide_eq_true (List.all_eq_true.1 h2 i (List.mem_range.2 hi)))
 rw[this];simp
theorem jx{n n2:Nat}{f f2:Nat->Itm}(hn:n=n2)(h:∀i,i<n->f i=f2 i):ef n f n2 f2=true:=by
 unfold ef;rw[decide_eq_true hn,Bool.true_and,List.all_eq_true];intro i hi;exact decide_eq_true (h i (List.mem_range.1 hi))
def eM(kd:Int)(n:Nat)(f:Nat->Itm)(nx:Lab)(mk:Int)(kd2:Int)(n2:Nat)(f2:Nat->Itm)(nx2:Lab)(mk2:Int):Bool:=decide (kd=kd2)&&ef n f n2 f2&&decide (nx=nx2)&&decide (mk=mk2)
def HW(f:Nat->Itm):Nat->Int
 |0=>0
 |i+1=>IntKind.i64.wrap (HW f i+((f i).val.size:Int))
def kQ(n:Nat)(f:Nat->Itm):Bool:=decide (40<n)||decide (8000<HW f n)
def jX(A:Option Addr)(c:Nat)(r:Rec):AV:=R3 A r.items.length c (itF r.items) r.kind r.next r.mark
theorem jQ:l8 Tryz.prog 103:=fun _ _=>by kernel_rfl
theorem LF(A:Option Addr)(n c:Nat)(f:Nat->Itm)(hn:n<=maxLen):k9 Tryz.prog 103 [s4 A n c f] (fun _=>.bool (.v (pZ n f))):=by
 intro m w hm hargs;have hmx:maxLen=9223372036854775807:=rfl;refine en 35 hm hargs Tryz.func103 fun B O a0 Z=>?_
 refine a6 [0] [] Z fun X0 Z=>?_
 refine a7 (a6 [7,0,5,6] [] Z fun X1 Z=>?_);refine j1 (l3 (ι:=Nat) (fun p=>[(7,.int .i64 (p:Int))]) (fun p=>[]) (fun p=>[]) (fun p=>p<=n/\okF f p=true) (fun p=>n-p) 0 ⟨Nat.zero_le _,rfl⟩ Z ?_)
 rintro i ⟨hi,hok⟩ _ _ Z
 try dsimp only at hi
 try dsimp only at hok
 refine a6 [8,0,5,6,7] [] Z fun X2 Z=>?_
 refine a7 (b7 Z rfl (fun hb Z=>?_) (fun hb Z=>?_))
 .have hin:i<n:=by
   have:(i:Int)<(n:Int):=by subst O;simpa[std,d4]using hb
   omega
  have ht:=ol f i (by omega);refine f8 (a7 (j1 (a6 [0,3,4,5,6,7] [4] Z (hob:=?hob) fun X3 Z=>?_)))
  case hob=>
   intro X;subst O;exact⟨⟨show(0:Int)<=(i:Int)by omega,show(i:Int)<(n:Int)by omega⟩,rfl,trivial⟩
  refine a7 (drg O a8 [30,0,5,6,7] [] [] Z (hob:=?hob) fun X4 _ _ Z=>?_)
  case hob=>
   intro X;subst O;have hix:(0:Int)<(i:Int)->0<=IntKind.i64.wrap ((i:Int)-1)/\IntKind.i64.wrap ((i:Int)-1)<(n:Int):=fun h=>by rw[o8 (by omega) (by omega)];omega
   simp only[i7,Ob.holds,BE.den,List.mem_cons,List.not_mem_nil,or_false,forall_eq_or_imp,forall_eq]
   and_intros<;>first|trivial|(intro h;first|trivial|exact hix (of_decide_eq_true h)|exact hix (of_decide_eq_true h.1))
  apply b7 Z rfl<;>intro hb Z
  .have hat:ez f i=false:=by
    have h9:(!ez f i)=true:=by subst O;exact ht.symm.trans hb
    simpa using h9
   refine a6 [2] [] Z fun X5 Z=>?_
   refine N8 Z ?_;subst O;refine congrArg (fun b=>AV.bool (.v b)) ?_;unfold pZ;rw[oi hin hat];simp
  have hat:ez f i=true:=by
   have h9:(!ez f i)=false:=by subst O;exact ht.symm.trans hb
   simpa using h9
  refine f8 (j5 [7,0,5,6] [] Z fun X6 Z=>?_);have e:B.arith .add .i64 (i:Int) 1=((i+1:Nat):Int):=by subst O;exact k4 (n:=n) hin hn
  refine⟨i+1,⟨by omega,by rw[rY,hok,hat];rfl⟩,by omega,by rw[<-e];exact Z⟩
 have hout:i=n:=by
  have:¬(i:Int)<(n:Int):=by subst O;simpa[std,d4]using hb
  omega
 refine j9 (a6 [2] [] Z fun X7 Z=>?_);refine N8 Z ?_;subst O;refine congrArg (fun b=>AV.bool (.v b)) ?_;unfold pZ;rw[hout]at hok;rw[hok];simp[std,d4];omega
theorem bX:l8 Tryz.prog 49:=fun _ _=>by kernel_rfl
theorem mH(A:Option Addr)(n c:Nat)(f:Nat->Itm)(hn:n<=maxLen)(kd:Int)(nx:Lab)(mk:Int)(hv:U64 nx.bits):k9 Tryz.prog 49 [R3 A n c f kd nx mk] (fun _=>.bool (.v (R6 kd n f nx mk))):=by
 intro m w hm hargs;have S1:=ml;have S2:=fZ nx hv;have S3:=LF A n c f hn;simp only[i6]at S1 S2
 generalize hq:isL nx=q at S2
 generalize hr:pZ n f=r at S3
 have hnx:=cF nx F1
 generalize hd:decide (nx=F1)=d at hnx
 refine en 44 hm hargs Tryz.func49 fun B O a0 Z=>?_
 refine a6 [1] [1] Z fun X0 Z=>?_
 refine a7 (a7 (drg O a8 [12,1] [1] [(2,.r fun _=>.agg [.int .i64 (-1),.int .u64 0]),(7,.r fun _=>.bool (.v q))] Z (hob:=?hob) fun X1 _ _ Z=>?_))
 case hob=>
  intro X;subst O;exact⟨rfl,⟨fN,S1⟩,u5 (Kk:=noK) _ _ _ _,fun _=>rfl,fun _=>⟨aL,S2⟩,trivial⟩
 apply b7 Z rfl<;>intro hb Z
 .have hx:d=false/\q=false:=by
   have h9:(if(!eqL [.int .i64 nx.len,.int .u64 nx.bits] [.int .i64 (-1),.int .u64 0])=true then !q else false)=true:=by subst O;exact hb
   rw[show eqL [.int .i64 nx.len,.int .u64 nx.bits] [.int .i64 (-1),.int .u64 0]=d from hnx]at h9
   cases d<;>cases q<;>simp at h9 ⊢
  refine a6 [2] [] Z fun X2 Z=>?_
  refine N8 Z ?_;subst O;refine congrArg (fun b=>AV.bool (.v b)) ?_;unfold R6;rw[hd,hq,hr]
  first|(subst hk)|skip
  have hnx2:eqL [.int .i64 nx.len,.int .u64 nx.bits] [.int .i64 (-1),.int .u64 0]=d:=hnx
  simp_all [Q9,std,d4,BE.den]
  try(cases d<;>cases q<;>simp_all<;>(by_cases h0:mk=0<;>simp[h0]))
 have hx:d=true \/ q=true:=by
  have h9:(if(!eqL [.int .i64 nx.len,.int .u64 nx.bits] [.int .i64 (-1),.int .u64 0])=true then !q else false)=false:=by subst O;exact hb
  rw[show eqL [.int .i64 nx.len,.int .u64 nx.bits] [.int .i64 (-1),.int .u64 0]=d from hnx]at h9
  cases d<;>cases q<;>simp at h9 ⊢
 refine f8 (a7 (a6 [1,14] [1] Z fun X3 Z=>?_));refine j1 (a7 (j1 (a7 (j1 (a7 (j1 (a7 (a7 (a7 (a6 [15,1,14] [1] Z fun X4 Z=>?_))))))))));refine oa Z (fun hb Z=>?_) (fun hb Z=>?_)
 .have hk:kd=2:=by subst O;simpa[std,d4]using hb
  refine f8 (l7 Z rfl (fun Z=>?_));refine j9 (a7 (a7 (drg O a8 [2] [] [(7,.r fun _=>.agg [.int .i64 (-1),.int .u64 0])] Z (hob:=?hob) fun X9 _ _ Z=>?_)))
  case hob=>
   intro X;subst O;exact⟨rfl,fun _=>rfl,fun _=>⟨fN,S1⟩,fun _=>u5 (Kk:=noK) _ _ _ _,fun _=>rfl,trivial⟩
  refine N8 Z ?_;subst O;refine congrArg (fun b=>AV.bool (.v b)) ?_;unfold R6;rw[hd,hq,hr]
  first|(subst hk)|skip
  have hnx2:eqL [.int .i64 nx.len,.int .u64 nx.bits] [.int .i64 (-1),.int .u64 0]=d:=hnx
  simp_all [Q9,std,d4,BE.den]
  try(cases d<;>cases q<;>simp_all<;>(by_cases h0:mk=0<;>simp[h0]))
 have hk2:¬kd=2:=by subst O;simpa[std,d4]using hb
 refine j5 [15,1,14] [1] Z fun X5 Z=>?_
 apply b7 Z rfl<;>intro hb Z
 .have hk:kd=4:=by subst O;simpa[std,d4]using hb
  refine j9 (a7 (a7 (drg O a8 [2] [] [(7,.r fun _=>.agg [.int .i64 (-1),.int .u64 0])] Z (hob:=?hob) fun X9 _ _ Z=>?_)))
  case hob=>
   intro X;subst O;exact⟨rfl,fun _=>rfl,fun _=>⟨fN,S1⟩,fun _=>u5 (Kk:=noK) _ _ _ _,fun _=>rfl,trivial⟩
  refine N8 Z ?_;subst O;refine congrArg (fun b=>AV.bool (.v b)) ?_;unfold R6;rw[hd,hq,hr]
  first|(subst hk)|skip
  have hnx2:eqL [.int .i64 nx.len,.int .u64 nx.bits] [.int .i64 (-1),.int .u64 0]=d:=hnx
  simp_all [Q9,std,d4,BE.den]
  try(cases d<;>cases q<;>simp_all<;>(by_cases h0:mk=0<;>simp[h0]))
 have hk4:¬kd=4:=by subst O;simpa[std,d4]using hb
 refine f8 (a7 (a7 (a6 [18,1,14] [1] Z fun X6 Z=>?_)));refine oa Z (fun hb Z=>?_) (fun hb Z=>?_)
 .have hk:kd=1:=by subst O;simpa[std,d4]using hb
  refine f8 (l7 Z rfl (fun Z=>?_));refine j9 (a6 [40,1] [1] Z fun X10 Z=>?_);apply b7 Z rfl<;>intro hb Z
  .have hm:¬mk=0:=by subst O;simpa[std,d4]using hb
   refine a6 [2] [] Z fun X11 Z=>?_
   refine N8 Z ?_;subst O;refine congrArg (fun b=>AV.bool (.v b)) ?_;unfold R6;rw[hd,hq,hr]
   first|(subst hk)|skip
   have hnx2:eqL [.int .i64 nx.len,.int .u64 nx.bits] [.int .i64 (-1),.int .u64 0]=d:=hnx
   simp_all [Q9,std,d4,BE.den]
   try(cases d<;>cases q<;>simp_all<;>(by_cases h0:mk=0<;>simp[h0]))
  have hm:mk=0:=by subst O;simpa[std,d4]using hb
  refine f8 (a7 (i9 [2] [] [(2,.r fun _=>.bool (.v r))] Z (hob:=?hob) fun X12 Z=>?_))
  case hob=>
   intro X;subst O;exact⟨rfl,⟨jQ,S3⟩,trivial⟩
  refine N8 Z ?_;subst O;refine congrArg (fun b=>AV.bool (.v b)) ?_;unfold R6;rw[hd,hq,hr]
  first|(subst hk)|skip
  have hnx2:eqL [.int .i64 nx.len,.int .u64 nx.bits] [.int .i64 (-1),.int .u64 0]=d:=hnx
  simp_all [Q9,std,d4,BE.den]
  try(cases d<;>cases q<;>simp_all<;>(by_cases h0:mk=0<;>simp[h0]))
 have hk1:¬kd=1:=by subst O;simpa[std,d4]using hb
 refine j5 [18,1,14] [1] Z fun X7 Z=>?_
 apply b7 Z rfl<;>intro hb Z
 .have hk:kd=3:=by subst O;simpa[std,d4]using hb
  refine j9 (a6 [40,1] [1] Z fun X10 Z=>?_);apply b7 Z rfl<;>intro hb Z
  .have hm:¬mk=0:=by subst O;simpa[std,d4]using hb
   refine a6 [2] [] Z fun X11 Z=>?_
   refine N8 Z ?_;subst O;refine congrArg (fun b=>AV.bool (.v b)) ?_;unfold R6;rw[hd,hq,hr]
   first|(subst hk)|skip
   have hnx2:eqL [.int .i64 nx.len,.int .u64 nx.bits] [.int .i64 (-1),.int .u64 0]=d:=hnx
   simp_all [Q9,std,d4,BE.den]
   try(cases d<;>cases q<;>simp_all<;>(by_cases h0:mk=0<;>simp[h0]))
  have hm:mk=0:=by subst O;simpa[std,d4]using hb
  refine f8 (a7 (i9 [2] [] [(2,.r fun _=>.bool (.v r))] Z (hob:=?hob) fun X12 Z=>?_))
  case hob=>
   intro X;subst O;exact⟨rfl,⟨jQ,S3⟩,trivial⟩
  refine N8 Z ?_;subst O;refine congrArg (fun b=>AV.bool (.v b)) ?_;unfold R6;rw[hd,hq,hr]
  first|(subst hk)|skip
  have hnx2:eqL [.int .i64 nx.len,.int .u64 nx.bits] [.int .i64 (-1),.int .u64 0]=d:=hnx
  simp_all [Q9,std,d4,BE.den]
  try(cases d<;>cases q<;>simp_all<;>(by_cases h0:mk=0<;>simp[h0]))
 have hk3:¬kd=3:=by subst O;simpa[std,d4]using hb
 refine f8 (a6 [21,1] [1] Z fun X8 Z=>?_);apply b7 Z rfl<;>intro hb Z
 .have hk:kd=5:=by subst O;simpa[std,d4]using hb
  refine j9 (a7 (i9 [2] [] [(2,.r fun _=>.bool (.v r))] Z (hob:=?hob) fun X12 Z=>?_))
  case hob=>
   intro X;subst O;exact⟨rfl,⟨jQ,S3⟩,trivial⟩
  refine N8 Z ?_;subst O;refine congrArg (fun b=>AV.bool (.v b)) ?_;unfold R6;rw[hd,hq,hr]
  first|(subst hk)|skip
  have hnx2:eqL [.int .i64 nx.len,.int .u64 nx.bits] [.int .i64 (-1),.int .u64 0]=d:=hnx
  simp_all [Q9,std,d4,BE.den]
  try(cases d<;>cases q<;>simp_all<;>(by_cases h0:mk=0<;>simp[h0]))
 have hk5:¬kd=5:=by subst O;simpa[std,d4]using hb
 refine f8 (j9 (a6 [2] [] Z fun X13 Z=>?_));refine N8 Z ?_;subst O;refine congrArg (fun b=>AV.bool (.v b)) ?_;unfold R6;rw[hd,hq,hr]
 first|(subst hk)|skip
 have hnx2:eqL [.int .i64 nx.len,.int .u64 nx.bits] [.int .i64 (-1),.int .u64 0]=d:=hnx
 simp_all [Q9,std,d4,BE.den]
 try(cases d<;>cases q<;>simp_all<;>(by_cases h0:mk=0<;>simp[h0]))
theorem yA:l8 Tryz.prog 212:=fun _ _=>by kernel_rfl
theorem KF(k:Int):k9 Tryz.prog 212 [.int .i64 k] (fun _=>.bool (.v (Q9 k))):=by
 intro m w hm hargs;refine en 9 hm hargs Tryz.func212 fun B O a0 Z=>?_
 refine a6 [0] [] Z fun X0 Z=>?_
 refine a6 [2] [] Z fun X1 Z=>?_
 refine N8 Z ?_;subst O;refine congrArg (fun b=>AV.bool (.v b)) ?_;simp only[std,d4,BE.den,Q9]
 by_cases h1:k=2<;>by_cases h2:k=4<;>simp[h1,h2]
theorem bF:l8 Tryz.prog 149:=fun _ _=>by kernel_rfl
theorem qb(A:Option Addr)(n c:Nat)(f:Nat->Itm)(hn:n<=maxLen)(kd:Int)(nx:Lab)(mk:Int)(hv:U64 nx.bits):k9 Tryz.prog 149 [R3 A n c f kd nx mk] (fun _=>.bool (.v (R6 kd n f nx mk))):=by
 intro m w hm hargs;have hmx:maxLen=9223372036854775807:=rfl;have S1:=qa;have S2:=gn nx hv;have S3:=KF kd;rw[iO];simp only[i6]at S1 S2
 generalize hq:isL nx=q at S2 ⊢
 have hnx:=cF nx F1
 generalize hd:decide (nx=F1)=d at hnx ⊢
 generalize hbk:Q9 kd=bk at S3 ⊢
 have h16:decide ((16:Int)<(n:Int))=decide (16<n):=by by_cases h:16<n<;>simp[h]<;>omega
 have h00:decide ((0:Int)<(n:Int))=decide (0<n):=by by_cases h:0<n<;>simp[h]<;>omega
 refine en 91 hm hargs Tryz.func149 fun B O a0 Z=>?_
 refine a6 [1] [1] Z fun X0 Z=>?_
 refine a7 (drg O a8 [3,1] [1] [(2,.r fun _=>.agg [.int .i64 (-1),.int .u64 0])] Z (hob:=?hob) fun X1 _ _ Z=>?_)
 case hob=>
  intro X;subst O;exact⟨rfl,⟨yI,S1⟩,u5 (Kk:=noK) _ _ _ _,trivial⟩
 replace Z:=Z.head (v':=.bool (.v d)) (by subst O;exact congrArg (fun b=>AV.bool (.v b)) hnx);refine a7 (i9 [32,1,3] [1] [(20,.r fun _=>.bool (.v q))] Z (hob:=?hob) fun X2 Z=>?_)
 case hob=>
  intro X;subst O;simp only[i7,Ob.holds,BE.den,List.mem_cons,List.not_mem_nil,or_false,forall_eq_or_imp,forall_eq]
  and_intros<;>first|trivial|(intro h;first|trivial|exact⟨bE,S2⟩)
 apply b7 Z rfl<;>intro hb Z
 .have h9:(if(if(if decide (kd<1)=true then true else decide (5<kd))=true then true else decide ((16:Int)<(n:Int)))=true then true else if(!d)=true then !q else false)=true:=by subst O;exact hb
  rw[h16,V1,V1,V1,C0]at h9;refine a6 [2] [] Z fun X3 Z=>?_
  refine N8 Z ?_;subst O;refine congrArg (fun b=>AV.bool (.v b)) ?_;rw[h9];rfl
 have h9:(if(if(if decide (kd<1)=true then true else decide (5<kd))=true then true else decide ((16:Int)<(n:Int)))=true then true else if(!d)=true then !q else false)=false:=by subst O;exact hb
 rw[h16,V1,V1,V1,C0]at h9;refine f8 (a7 (i9 [55,1] [1] [(11,.r fun _=>.bool (.v bk))] Z (hob:=?hob) fun X4 Z=>?_))
 case hob=>
  intro X;subst O;simp only[i7,Ob.holds,BE.den,List.mem_cons,List.not_mem_nil,or_false,forall_eq_or_imp,forall_eq]
  and_intros<;>first|trivial|(intro h;first|trivial|exact⟨yA,S3⟩)
 apply b7 Z rfl<;>intro hb Z
 .have h5:(if(if(mk != 0)=true then(kd != 5)else false)=true then true else if bk=true then(if decide ((0:Int)<(n:Int))=true then true else !d)else false)=true:=by subst O;exact hb
  rw[h00,V1,C0,C0,V1]at h5;refine a6 [2] [] Z fun X5 Z=>?_
  refine N8 Z ?_;subst O;refine congrArg (fun b=>AV.bool (.v b)) ?_;have hmk:(mk != 0) = !decide (mk=0):=by by_cases h:mk=0<;>simp[h]
  have hkk:(kd != 5) = !decide (kd=5):=by by_cases h:kd=5<;>simp[h]
  rw[hmk,hkk]at h5;rw[h9,h5];rfl
 have h5:(if(if(mk != 0)=true then(kd != 5)else false)=true then true else if bk=true then(if decide ((0:Int)<(n:Int))=true then true else !d)else false)=false:=by subst O;exact hb
 rw[h00,V1,C0,C0,V1]at h5;refine f8 (a7 (a6 [4,1] [1] Z fun X6 Z=>?_));refine j1 (l3 (ι:=Nat) (fun p=>[(4,.int .i64 (p:Int))]) (fun p=>[]) (fun p=>[]) (fun p=>p<=n/\okF f p=true) (fun p=>n-p) 0 ⟨Nat.zero_le _,rfl⟩ Z ?_)
 rintro i ⟨hi,hok⟩ _ _ Z
 try dsimp only at hi
 try dsimp only at hok
 refine a7 (a6 [60,1,4] [1] Z (hob:=?hob) fun X7 Z=>?_)
 case hob=>
  intro X;subst O;exact⟨rfl,trivial⟩
 apply b7 Z rfl<;>intro hb Z
 .have hin:i<n:=by
   have:(i:Int)<(n:Int):=by subst O;simpa[std,d4]using hb
   omega
  have ht:=ol f i (by omega);refine f8 (a7 (j1 (a7 (drg O a8 [90,1,4] [1] [] Z (hob:=?hob) fun X9 _ _ Z=>?_))))
  case hob=>
   intro X;subst O;have hi0:(0:Int)<=(i:Int)/\(i:Int)<(n:Int):=⟨by omega,by omega⟩;have hix:(0:Int)<(i:Int)->0<=IntKind.i64.wrap ((i:Int)-1)/\IntKind.i64.wrap ((i:Int)-1)<(n:Int):=fun h=>by rw[o8 (by omega) (by omega)];omega
   simp only[i7,Ob.holds,BE.den,List.mem_cons,List.not_mem_nil,or_false,forall_eq_or_imp,forall_eq]
   and_intros<;>first|trivial|exact hi0.1|exact hi0.2|(intro h;first|trivial|exact hi0|exact hix (of_decide_eq_true h)|exact hix (of_decide_eq_true h.1))
  apply b7 Z rfl<;>intro hb Z
  .have hat:ez f i=false:=by
    have h9:(!ez f i)=true:=by subst O;exact ht.symm.trans hb
    simpa using h9
   refine a6 [2] [] Z fun X10 Z=>?_
   refine N8 Z ?_;subst O;refine congrArg (fun b=>AV.bool (.v b)) ?_;rw[oi hin hat];simp
  have hat:ez f i=true:=by
   have h9:(!ez f i)=false:=by subst O;exact ht.symm.trans hb
   simpa using h9
  refine f8 (j5 [4,1] [1] Z fun X8 Z=>?_);have e:B.arith .add .i64 (i:Int) 1=((i+1:Nat):Int):=by subst O;exact k4 (n:=n) hin hn
  refine⟨i+1,⟨by omega,by rw[rY,hok,hat];rfl⟩,by omega,by rw[<-e];exact Z⟩
 have hout:i=n:=by
  have:¬(i:Int)<(n:Int):=by subst O;simpa[std,d4]using hb
  omega
 refine j9 (a6 [2] [] Z fun X11 Z=>?_);refine N8 Z ?_;subst O;refine congrArg (fun b=>AV.bool (.v b)) ?_;have hmk:(mk != 0) = !decide (mk=0):=by by_cases h:mk=0<;>simp[h]
 have hkk:(kd != 5) = !decide (kd=5):=by by_cases h:kd=5<;>simp[h]
 rw[hmk,hkk]at h5;rw[hout]at hok;rw[h9,h5,hok];rfl
theorem yJ:l8 Tryz.prog 101:=fun _ _=>by kernel_rfl
theorem vp(A:Option Addr)(n c:Nat)(f:Nat->Itm)(hn:n<=maxLen)(A2:Option Addr)(n2 c2:Nat)(f2:Nat->Itm):k9 Tryz.prog 101 [s4 A n c f,s4 A2 n2 c2 f2] (fun _=>.bool (.v (ef n f n2 f2))):=by
 intro m w hm hargs;have hmx:maxLen=9223372036854775807:=rfl;refine en 26 hm hargs Tryz.func101 fun B O a0 Z=>?_
 refine a6 [0,1] [] Z fun X0 Z=>?_
 refine a7 (a6 [10,0,1] [] Z fun X1 Z=>?_);apply b7 Z rfl<;>intro hb Z
 .have hne:n≠n2:=by
   have:¬(n:Int)=(n2:Int):=by subst O;simpa[std,d4]using hb
   omega
  refine a6 [4] [] Z fun X2 Z=>?_
  refine N8 Z ?_;subst O;refine congrArg (fun b=>AV.bool (.v b)) ?_;unfold ef;rw[decide_eq_false hne];rfl
 have hnn:n=n2:=by
  have:(n:Int)=(n2:Int):=by subst O;simpa[std,d4]using hb
  omega
 refine f8 (a7 (a6 [5,0,1] [] Z fun X3 Z=>?_));refine j1 (l3 (ι:=Nat) (fun p=>[(5,.int .i64 (p:Int))]) (fun p=>[]) (fun p=>[]) (fun p=>p<=n/\∀i,i<p->f i=f2 i) (fun p=>n-p) 0 ⟨Nat.zero_le _,fun i hi=>absurd hi (Nat.not_lt_zero _)⟩ Z ?_)
 rintro i ⟨hi,hall⟩ _ _ Z
 try dsimp only at hi
 try dsimp only at hall
 refine a7 (a6 [14,0,1,5] [] Z fun X4 Z=>?_);apply b7 Z rfl<;>intro hb Z
 .have hin:i<n:=by
   have:(i:Int)<(n:Int):=by subst O;simpa[std,d4]using hb
   omega
  refine f8 (a7 (j1 (a7 (drg O a8 [25,0,1,5] [] [] Z (hob:=?hob) fun X6 _ _ Z=>?_))))
  case hob=>
   intro X;subst O;exact⟨⟨show(0:Int)<=(i:Int)by omega,show(i:Int)<(n:Int)by omega⟩,⟨show(0:Int)<=(i:Int)by omega,show(i:Int)<(n2:Int)by omega⟩,ID (Kk:=noK) _ _ _ _,trivial⟩
  apply b7 Z rfl<;>intro hb Z
  .have hne:¬f i=f2 i:=by
    have h9:(!eqL (itC (f i)) (itC (f2 i)))=true:=by subst O;exact hb
    rw[wC]at h9;simpa using h9
   refine a6 [4] [] Z fun X7 Z=>?_
   refine N8 Z ?_;subst O;refine congrArg (fun b=>AV.bool (.v b)) ?_;rw[rL hin hne]
  have heq:f i=f2 i:=by
   have h9:(!eqL (itC (f i)) (itC (f2 i)))=false:=by subst O;exact hb
   rw[wC]at h9;simpa using h9
  refine f8 (j5 [5,0,1] [] Z fun X5 Z=>?_);have e:B.arith .add .i64 (i:Int) 1=((i+1:Nat):Int):=by subst O;exact k4 (n:=n) hin hn
  refine⟨i+1,⟨by omega,fun j hj=>?_⟩,by omega,by rw[<-e];exact Z⟩
  by_cases hij:j=i
  .rw [hij];exact heq
  exact hall j (by omega)
 have hout:i=n:=by
  have:¬(i:Int)<(n:Int):=by subst O;simpa[std,d4]using hb
  omega
 refine j9 (a6 [4] [] Z fun X8 Z=>?_);refine N8 Z ?_;subst O;refine congrArg (fun b=>AV.bool (.v b)) ?_;rw[hout]at hall;rw[jx hnn hall]
theorem zL(A:Option Addr)(n c:Nat)(f:Nat->Itm)(hn:n<=maxLen)(kd:Int)(nx:Lab)(mk:Int)(A2:Option Addr)(n2 c2:Nat)(f2:Nat->Itm)(kd2:Int)(nx2:Lab)(mk2:Int):k9 Tryz.prog 46 [R3 A n c f kd nx mk,R3 A2 n2 c2 f2 kd2 nx2 mk2] (fun _=>.bool (.v (eM kd n f nx mk kd2 n2 f2 nx2 mk2))):=by
 intro m w hm hargs;have S:=vp A n c f hn A2 n2 c2 f2;unfold eM
 generalize ef n f n2 f2=q at S ⊢
 have hnx:=cF nx nx2
 generalize decide (nx=nx2)=d at hnx ⊢
 refine en 31 hm hargs Tryz.func46 fun B O a0 Z=>?_
 refine a6 [2,3] [2,3] Z fun X0 Z=>?_
 refine i9 [4] [] [(10,.r fun _=>.bool (.v q))] Z (hob:=?hob) fun X1 Z=>?_
 case hob=>
  intro X;subst O;simp only[i7,Ob.holds,BE.den,List.mem_cons,List.not_mem_nil,or_false,forall_eq_or_imp,forall_eq]
  and_intros<;>first|trivial|(intro h;first|trivial|exact⟨yJ,S⟩|exact u5 (Kk:=noK) _ _ _ _)
 refine N8 Z ?_;subst O;refine congrArg (fun b=>AV.bool (.v b)) ?_
 show(if(if(if(kd==kd2)=true then q else false)=true then eqL [.int .i64 nx.len,.int .u64 nx.bits] [.int .i64 nx2.len,.int .u64 nx2.bits]else false)=true then(mk==mk2)else false)=_
 rw[hnx,C0,C0,C0];have h1:(kd==kd2)=decide (kd=kd2):=by by_cases h:kd=kd2<;>simp[h]
 have h2:(mk==mk2)=decide (mk=mk2):=by by_cases h:mk=mk2<;>simp[h]
 rw[h1,h2]
theorem MB(A:Option Addr)(n c:Nat)(f:Nat->Itm)(hn:n<=maxLen)(kd:Int)(nx:Lab)(mk:Int):k9 Tryz.prog 34 [R3 A n c f kd nx mk] (fun _=>.bool (.v (kQ n f))):=by
 intro m w hm hargs;have hmx:maxLen=9223372036854775807:=rfl;refine en 35 hm hargs Tryz.func34 fun B O a0 Z=>?_
 refine a6 [1] [1] Z fun X0 Z=>?_
 refine a6 [1,3] [1] Z fun X1 Z=>?_
 refine a7 (a6 [3,4,1] [1] Z fun X2 Z=>?_);refine j1 (l3 (ι:=Nat×Int) (fun p=>[(3,.int .i64 p.2),(4,.int .i64 (p.1:Int))]) (fun p=>[]) (fun p=>[]) (fun p=>p.1<=n/\p.2=HW f p.1) (fun p=>n-p.1) (0,0) ⟨Nat.zero_le _,rfl⟩ Z ?_)
 rintro⟨i,x⟩ ⟨hi,hx⟩ _ _ Z
 try dsimp only at hi
 try dsimp only at hx
 refine a7 (a6 [15,1,3,4] [1] Z (hob:=?hob) fun X3 Z=>?_)
 case hob=>
  intro X;subst O;simp only[i7,Ob.holds,BE.den,List.mem_cons,List.not_mem_nil,or_false,forall_eq_or_imp,forall_eq]
  and_intros<;>first|trivial|(intro h;trivial)
 apply b7 Z rfl<;>intro hb Z
 .have h9:(if decide ((i:Int)<(n:Int))=true then decide ((n:Int)<=40)else false)=true:=by subst O;exact hb
  have hin:i<n:=by
   have:(i:Int)<(n:Int)/\(n:Int)<=40:=by simpa using h9
   omega
  refine f8 (a7 (j1 (j5 [1,3,4] [1] Z (hob:=?hob) fun X5 Z=>?_)))
  case hob=>
   intro X;subst O;exact⟨rfl,⟨show(0:Int)<=(i:Int)by omega,show(i:Int)<(n:Int)by omega⟩,trivial⟩
  refine j5 [3,4,1] [1] Z fun X4 Z=>?_
  have e:B.arith .add .i64 (i:Int) 1=((i+1:Nat):Int):=by subst O;exact k4 (n:=n) hin hn
  refine⟨(i+1,B.arith .add .i64 x (B.ofNat (B.slen (f (B.toNat (i:Int))).val))),⟨by simp only;omega,?_⟩,by simp only;omega,by rw[<-e];exact Z⟩;subst O;rw[hx];rfl
 have h9:(if decide ((i:Int)<(n:Int))=true then decide ((n:Int)<=40)else false)=false:=by subst O;exact hb
 have hout:n<=40->i=n:=by
  intro h40;have:(i:Int)<(n:Int)->(40:Int)<(n:Int):=by simpa using h9
  omega
 refine j9 (a6 [2] [] Z (hob:=?hob) fun X6 Z=>?_)
 case hob=>
  intro X;subst O;simp only[i7,Ob.holds,BE.den,List.mem_cons,List.not_mem_nil,or_false,forall_eq_or_imp,forall_eq]
  and_intros<;>first|trivial|(intro h;trivial)
 refine N8 Z ?_;subst O;refine congrArg (fun b=>AV.bool (.v b)) ?_
 show(if decide ((40:Int)<(n:Int))=true then true else decide (8000<x))=_
 rw[V1];unfold kQ
 by_cases h4:n<=40
 .rw [hout h4]at hx
  rw[hx,decide_eq_false (show ¬(40:Int)<(n:Int)by omega),decide_eq_false (show ¬40<n by omega)]
 rw[decide_eq_true (show(40:Int)<(n:Int)by omega),decide_eq_true (show 40<n by omega)];rfl
end Go.Proofs.YtmbkanpapkhnaaaGreat.Sym
namespace Go.Proofs.YtmbkanpapkhnaaaGreat.Sym
open Go Go.ChangeShapes Go.WideShapes Go.ChangeAt Go.RowKit Go.Deep
abbrev m0:Nat->Nat->Prop:=fun _ _=>False
theorem lJ{n:Int}(h:(Lit.int .u64 n).wf=true):U64 n:=by
 simp[Lit.wf,IntKind.min,IntKind.max,IntKind.signed,IntKind.bits]at h;exact⟨by omega,by omega⟩
def itmE(x:Itm):List Value:=[.int .u64 x.key,.string x.val]
theorem M6(x:Itm):(itmE x).length=2:=rfl
theorem kY{m:Nat->Nat->Prop}{w:World}{A:Option Addr}{k:Nat}{l:List Itm}(hl:l.length<=k)(hk:k<=maxLen)(hs:∀x∈l,x.val.size<=maxLen)
  (h:0<(l.flatMap itmE).length->∃b off,A=some ⟨b,off,none⟩/\∀j u,(l.flatMap itmE)[j]? = some u->w.cell? ⟨b,off+j,none⟩=some u/\¬m b (off+j)):Ok m w (s4 A l.length k (itF l)):=by
 have hg:∀i (hi:i<l.length),itF l i=l[i]:=fun i hi=>by simp[itF,List.getD,hi]
 have hpos:∀i,i<l.length->0<(l.flatMap itmE).length:=fun i hi=>by rw[I7 M6];omega
 refine .sl _ _ _ _ _ _ hl hk (fun i _=>rfl) (fun i hi=>?_) (fun i hi j u hu=>?_) (fun i hi v hv=>?_) (fun i hi v hv=>?_)
 .obtain ⟨b,off,hA,_⟩:=h (hpos i hi);exact⟨b,off,hA⟩
 .obtain ⟨b,off,hA,hc⟩:=h (hpos i hi)
  have hu':(itmE (itF l i))[j]? = some u:=hu;rw[hg i hi]at hu';exact⟨b,off,hA,hc _ u (iX M6 (List.getElem?_eq_getElem hi) hu')⟩
 .simp only[itC,List.mem_cons,List.not_mem_nil,or_false]at hv
  rcases hv with rfl|rfl<;>rfl
 simp only[itC,List.mem_cons,List.not_mem_nil,or_false]at hv
 rcases hv with rfl|rfl
 .exact .int _ _
 exact .str _ (by rw[hg i hi];exact hs _ (List.getElem_mem hi))
section
variable {H:Type} {enc:TypeId×Value->H} {w:World} {base:Nat} {spare:Nat->Bool} {held:Bool}
theorem Fx(n:Nat)(cs:List Value)(y:DataW H×List MemPlace)(h:DataW.trod enc Tryz.prog w base spare held n 62 cs=some y):∃x:Itm,cs=itmE x/\(x.val.size<=maxLen/\U64 x.key):=by
 obtain⟨xs,m,rfl,rfl,hlen,hxl,hf⟩:=DataW.trod_struct Tryz.underlying62 h;have hC:Tryz.prog.cellsOf 62=2:=by kernel_rfl
 have h0:DataW.trod enc Tryz.prog w base spare held m 22 ((cs.drop 0).take (Tryz.prog.cellsOf 22))=xs[0]?:=hf 0 _ rfl;have h1:DataW.trod enc Tryz.prog w base spare held m 9 ((cs.drop 1).take (Tryz.prog.cellsOf 9))=xs[1]?:=hf 1 _ rfl;rw[hC]at hlen;rw[show Tryz.prog.cellsOf 22=1 by kernel_rfl]at h0;rw[show Tryz.prog.cellsOf 9=1 by kernel_rfl]at h1
 match cs,hlen with
 | [c0,c1],_=>
  match xs,hxl with
  | [y0,y1],_=>
   obtain⟨a,e0,_,wa⟩:=DataW.trod_int Tryz.underlying22 h0;obtain⟨s,e1,_,ws⟩:=DataW.trod_string Tryz.underlying9 h1;simp at e0 e1;subst e0;subst e1;exact⟨⟨a,s⟩,rfl,ws,lJ wa⟩
variable {r:Reach} {b0:Nat} {v:Value} {d:DataW H} {p:List MemPlace}
end
end Go.Proofs.YtmbkanpapkhnaaaGreat.Sym
namespace Go.Proofs.YtmbkanpapkhnaaaGreat.Sym
open Go.RowKit
theorem i5.fresh{C:Cx}{s:St}{a:Act}{w w':World}(h:i5 C s a w)(hb:Below w.heap.size w w')(key:Nat){t:Gr}(hk:0<t.k){xs:List Value}(hO:Own w' w.heap.size t.e t.k t.v t.n xs) :
  i5 C (s.eff (.grow key t)) a w':=by
 have hcell:∀b o u,w.cell? ⟨b,o,none⟩=some u->w'.cell? ⟨b,o,none⟩=some u:=fun b o u hc=>by
  rw[hb.cell (World.block_lt_of_cell? w _ hc)];exact hc
 have hlt:∀b,B4 t.v=some b->w.heap.size<=b:=fun b hv=>(hO.lt b hv).1
 have hm:∀b o,b<w.heap.size-> ¬s.m C b o-> ¬(s.eff (.grow key t)).m C b o:=by
  intro b o hbl hn hm
  rcases hm with hm|hm|⟨k',t',ht',hv,hm⟩
  .exact hn (.inl hm)
  .exact hn (.inr (.inl hm))
  rcases o3 ht' with⟨_,rfl⟩|⟨_,ht'⟩
  .have:=hlt b hv;omega
  exact hn (.inr (.inr ⟨k',t',ht',hv,hm⟩))
 have kp:cb w (s.m C) w' ((s.eff (.grow key t)).m C):=⟨fun b o u h1 h2=>⟨hcell b o u h1,hm b o (World.block_lt_of_cell? w _ h1) h2⟩,fun b o h1 _=>(hb.block b (Array.getElem?_eq_some_iff.1 h1).1).trans h1⟩;have mono:∀v,Ok (s.m C) w v->Ok ((s.eff (.grow key t)).m C) w' v:=fun v hv=>kp.ok hv
 have hsz:=h.chg.size;refine⟨h.size,h.defers,fun t ht=>⟨(h.slot t ht).1,mono _ (h.slot t ht).2⟩,fun t p v he hk=>⟨fun hp=>⟨((h.gs t p v he hk).1 hp).1,mono _ ((h.gs t p v he hk).1 hp).2⟩,(h.gs t p v he hk).2⟩,?_,h.nodup,?_,?_,?_,?_,h.m0,C.K.st kp h.kept⟩
 .intro k e he
  obtain⟨h1,h2,h3⟩:=h.mem k e he;exact⟨(hb.block _ (F2 h1)).trans h1,fun v hv=>⟨(h2 v hv).1,mono _ (h2 v hv).2⟩,h3⟩
 .intro k t' ht'
  rcases o3 ht' with⟨_,rfl⟩|⟨hne,ht'⟩
  .exact ⟨hk,_,hO.mono hsz⟩
  obtain⟨h1,xs',h2⟩:=h.gr k t' ht';exact⟨h1,xs',h2.keep fun b hv=>hb.block b (h2.lt b hv).2⟩
 .intro k t' k' e ht' he
  rcases o3 ht' with⟨_,rfl⟩|⟨_,ht'⟩
  .intro hv
   have:=hlt _ hv;have:=F2 (h.mem k' e he).1;omega
  exact h.sepm k t' k' e ht' he
 .intro k1 t1 k2 t2 b h1 h2 hne hv hv'
  rcases o3 h1 with⟨e1,r1⟩|⟨e1,g1⟩
  .rcases o3 h2 with⟨e2,_⟩|⟨e2,g2⟩
   .exact hne (e1.trans e2.symm)
   obtain⟨_,xs',ho'⟩:=h.gr k2 t2 g2;have:=(ho'.lt _ hv').2;have:=hlt _ (r1 ▸ hv);omega
  rcases o3 h2 with⟨e2,r2⟩|⟨e2,g2⟩
  .obtain ⟨_,xs',ho'⟩:=h.gr k1 t1 g1
   have:=(ho'.lt _ hv).2;have:=hlt _ (r2 ▸ hv');omega
  exact h.sepg k1 t1 k2 t2 b g1 g2 hne hv hv'
 exact h.chg.trans (Chg.of_new (S:=fun _=>False) hb) fun k hk e=>e.elim
theorem xO{m:Nat->Nat->Prop}{w:World}{B e k:Nat}{A:Option Addr}{c:Nat}{xs:List Value}(h:Own w B e k (.slice A 0 c) 0 xs)(g:Option Nat)(f:Nat->List AV):Ok m w (.sl g A 0 c k f):=by
 obtain⟨A',c',he,h1,h2⟩:=h.isSlice;injection he with _ _ e3;subst e3
 exact .sl _ _ _ _ _ _ (Nat.zero_le _) h2 (fun i hi=>absurd hi (Nat.not_lt_zero _)) (fun i hi=>absurd hi (Nat.not_lt_zero _)) (fun i hi=>absurd hi (Nat.not_lt_zero _)) (fun i hi=>absurd hi (Nat.not_lt_zero _)) (fun i hi=>absurd hi (Nat.not_lt_zero _))
section
variable {C:Cx} {P:Program} {Q:Exit->Act->World->Prop} {ops:Array Oper}
theorem uh{s:St}{a:Act}{w:World}{L rest:List Oper}{o:Oper}{c:Call}{f:FuncId}{argv:Array Value}{d:Nat}(hL:L=o::rest)(hg:o.guard=none)(hop:o.op = .call c)(hcal:c.callee = .value (.func f))(hdst:o.dst=some d)(h:i5 C s a w)(hav:c.args.map a.eval=argv)(hen:l8 P f)(hd:d<s.nt)
  {e k:Nat} (hk:0<k) (fc:Nat->List AV) (hc:Calls P f argv w fun en w'=>∃A' c',en = .returned (.slice A' 0 c')/\Own w' w.heap.size e k (.slice A' 0 c') 0 []/\Below w.heap.size w w')
  (K:∀A' c' a' w',i5 C ((s.eff (.grow d ⟨A',0,c',k,e⟩)).put (some d) (.sl (some d) A' 0 c' k fc)) a' w'->wpList P ops Q rest a' w'):wpList P ops Q L a w:=by
 refine ap hL hg ?_;have hrun:(execOp a.eval o).run P w = .ok (.enter f argv) w:=by
  have hent:=hen argv w;have e1:=(E6 h (q:=[]) (fun _ h=>by cases h) (x:=.func f) rfl).1;have e2:a.eval (.func f) = .func (.func f) #[] #[]:=by simpa[val,AV.den,AV.denL]using e1
  simp[execOp,hop,resolve,hcal,e2,Deferred.ofValue,invoke,hav]
  simpa using hent
 unfold Oper.wp;rw[hrun];simp only[Oper.upon];refine hc.mono ?_
 rintro en w' ⟨A',c',rfl,hO,hb⟩
 have hf:=h.fresh hb d (t:=⟨A',0,c',k,e⟩) hk hO;rw[hdst];refine K A' c' _ w' (hf.put (some d) (fun t ht=>?_) (.sl (some d) A' 0 c' k fc) (fun _=>xO hO _ _) _ fun _=>rfl);injection ht with ht
 subst ht;rw[nf];exact hd
theorem Bz{s:St}{a:Act}{w:World}(h:i5 C s a w){t:Nat}{k:IntKind}{n:Int}(hv:val s [] (.tmp t) = .int k n):a.eval (.tmp t) = .int k n:=by
 have e1:=(E6 h (q:=[]) (fun _ h=>by cases h) (x:=.tmp t) (by rw[hv];rfl)).1;rw[hv]at e1;exact e1
end
section
variable {C:Cx} {P:Program} {Q:Exit->Act->World->Prop} {ops:Array Oper} {s:St} {a:Act} {w:World} {L rest:List Oper} {o:Oper}
theorem iI{d:Nat}{v:AV}(hL:L=o::rest)(hg:o.guard=none)(hdst:o.dst=some d)(h:i5 C s a w)(hd:d<s.nt)(hrun:(execOp a.eval o).run P w = .ok (.value v.den) w)(hv:Ok (s.m C) w v)
  (K:∀a',i5 C (s.put (some d) v) a' w->wpList P ops Q rest a' w):wpList P ops Q L a w:=by
 refine ap hL hg ?_;unfold Oper.wp;rw[hrun];simp only[Oper.upon];rw[hdst];exact K _ (h.put (some d) (fun t ht=>by injection ht with ht;subst ht;exact hd) v (fun _=>hv) _ fun _=>rfl)
end
section
variable {C:Cx} {s:St} {a:Act} {w:World}
theorem i5.reslot(h:i5 C s a w)(d:Nat)(v:AV)(hk:(look s.tmps d).known=true)(hd:(look s.tmps d).den=v.den)(hv:Ok (s.m C) w v):i5 C { s with tmps:=(d,v)::s.tmps } a w:=by
 refine⟨h.size,h.defers,fun t ht=>?_,h.gs,h.mem,h.nodup,h.gr,h.sepm,h.sepg,h.chg,h.m0,h.kept⟩;simp only[B6]at ht ⊢
 by_cases he:d=t
 .subst he
  rw[if_pos rfl]at ht ⊢;exact⟨by rw[(h.slot d hk).1,hd],hv⟩
 rw[if_neg he]at ht ⊢;exact h.slot t ht
end
end Go.Proofs.YtmbkanpapkhnaaaGreat.Sym
namespace Go.Proofs.YtmbkanpapkhnaaaGreat.Sym
open Go Go.RowKit
theorem aC{w:World}{b:Nat}{o:Obj}(hb:w.heap[b]? = some o):b<w.heap.size:=(Array.getElem?_eq_some_iff.1 hb).1
structure ae(bo:Option Nat)(w:World)(m:Nat->Nat->Prop)(w':World)(m':Nat->Nat->Prop):Prop where
 cell:∀b o u,w.cell? ⟨b,o,none⟩=some u-> ¬m b o->w'.cell? ⟨b,o,none⟩=some u/\¬m' b o
 obj:∀(b:Nat) (o:Obj),bo≠some b->w.heap[b]? = some o->(∀c t f,o≠Obj.cells c t f)->w'.heap[b]? = some o
theorem ae.ok{bo:Option Nat}{w w':World}{m m':Nat->Nat->Prop}(h:ae bo w m w' m'){v:AV}(hv:Ok m w v):Ok m' w' v:=hv.mono h.cell
theorem dv{w w':World}{m:Nat->Nat->Prop}{b:Nat}{o:Obj}(hb:w.heap[b]? = some o)(ho:∀c t f,o≠Obj.cells c t f)(hg:w.grownBy w' (some b)):ae (some b) w m w' m:=by
 refine⟨fun b' o' u hc hn=>⟨?_,hn⟩,fun b' o' hn h1 _=>(hg.block b' (aC h1) (fun e=>hn e.symm)).trans h1⟩;have hlt:=World.block_lt_of_cell? w _ hc;have:b'≠b:=by
  rintro rfl
  unfold World.cell? at hc;simp only[hb]at hc
  cases o with
  |cells c t f=>exact ho c t f rfl
  |_=>simp at hc
 unfold World.cell? at hc ⊢;rw[show w'.heap[b']? = w.heap[b']? from hg.block b' hlt fun e=>this (Option.some.inj e)];exact hc
section
variable {m0:Nat->Nat->Prop} {w0:World} {S:Nat->Prop} {ds:List Deferred} {K:Kn} {s:St} {a:Act} {w w':World}
theorem i5.withK(h:i5 ⟨m0,w0,S,ds,K⟩ s a w){K':Kn}(hK:K'.p (s.m ⟨m0,w0,S,ds,K⟩) w):i5 ⟨m0,w0,S,ds,K'⟩ s a w:=
 ⟨h.size,h.defers,h.slot,h.gs,h.mem,h.nodup,h.gr,h.sepm,h.sepg,h.chg,h.m0,hK⟩
theorem i5.wider(h:i5 ⟨m0,w0,S,ds,K⟩ s a w){S':Nat->Prop}(hS:∀k,S k->S' k):i5 ⟨m0,w0,S',ds,K⟩ s a w:=
 ⟨h.size,h.defers,h.slot,h.gs,fun k e he=>⟨(h.mem k e he).1,(h.mem k e he).2.1,(h.mem k e he).2.2.imp id (hS _)⟩,h.nodup,h.gr,h.sepm,h.sepg,h.chg.mono hS,h.m0,h.kept⟩
theorem i5.turn(h:i5 ⟨m0,w0,S,ds,K⟩ s a w){b:Nat}{o:Obj}(hb:w.heap[b]? = some o)(ho:∀c t f,o≠Obj.cells c t f)(hg:w.grownBy w' (some b))(hC:b<w0.heap.size->S b){K':Kn}(hK:K'.p (s.m ⟨m0,w0,S,ds,K⟩) w'):i5 ⟨m0,w0,S,ds,K'⟩ s a w':=by
 have hh:∀k,k<w.heap.size->k≠b->w'.heap[k]? = w.heap[k]?:=fun k hk hn=>hg.block k hk (fun e=>hn (Option.some.inj e))
 have hne:∀{k:Nat} {c:Array Value} {t:TypeId} {f:Nat×Nat},w.heap[k]? = some (.cells c t f)->k≠b:=by
  rintro k c t f hk rfl
  rw[hb]at hk;exact ho _ _ _ (Option.some.inj hk)
 have h':i5 ⟨m0,w0,S,ds,noK⟩ s a w:=h.withK trivial;have h'':i5 ⟨m0,w0,S,ds,K'⟩ s a w':=by
  have hcell:=(dv (m:=s.m ⟨m0,w0,S,ds,K⟩) hb ho hg).cell;have mono:∀{v:AV},Ok (s.m ⟨m0,w0,S,ds,K⟩) w v->Ok (s.m ⟨m0,w0,S,ds,K⟩) w' v:=fun hv=>hv.mono hcell
  refine⟨h.size,h.defers,fun t hk=>⟨(h.slot t hk).1,mono (h.slot t hk).2⟩,fun t p v hg hk=>⟨fun hp=>⟨((h.gs t p v hg hk).1 hp).1,mono ((h.gs t p v hg hk).1 hp).2⟩,(h.gs t p v hg hk).2⟩,fun k e he=>?_,h.nodup,fun k t hk=>?_,h.sepm,h.sepg,?_,h.m0,hK⟩
  .obtain ⟨h1,h2,h3⟩:=h.mem k e he
   exact⟨(hh _ (aC h1) (hne h1)).trans h1,fun v hv=>⟨(h2 v hv).1,mono (h2 v hv).2⟩,h3⟩
  .obtain ⟨h1,xs,h2⟩:=h.gr k t hk
   refine⟨h1,xs,h2.keep fun g hg=>?_⟩;obtain⟨c,t',f,hcl⟩:=h2.isCells hg;exact hh g (aC hcl) (hne hcl)
  exact h.chg.trans (Chg.of_grown hg) fun k hk e=>by cases e;exact hC hk
 exact h''
end
theorem dV{w w':World}(h:Below w.heap.size w w')(m:Nat->Nat->Prop):cb w m w' m:=
 ⟨fun b o u h1 h2=>⟨(h.cell (World.block_lt_of_cell? w _ h1)).trans h1,h2⟩,fun b o h1 _=>(h.block b (aC h1)).trans h1⟩
def hR(v:Value):Option (DataW Value×List MemPlace):=some (.held v,[])
abbrev Y0(P:Program)(K:TypeId)(w:World)(b n:Nat)(D:DataW Value):Prop:=w.ownsMap P K hR b n D
theorem ow{P:Program}{K:TypeId}{w w':World}{b n:Nat}{D:DataW Value}(h:Y0 P K w b n D)(e:w'.heap[b]? = w.heap[b]?):Y0 P K w' b n D:=by
 obtain⟨es,cl,hb,F,hs,hD⟩:=h;exact⟨es,cl,e.trans hb,F,hs,hD⟩
theorem sn{P:Program}{K:TypeId}{w:World}{b n:Nat}{D:DataW Value}(h:Y0 P K w b n D):∃o,w.heap[b]? = some o/\∀c t f,o≠Obj.cells c t f:=by
 obtain⟨es,cl,hb,_⟩:=h;exact⟨_,hb,fun c t f e=>by cases e⟩
theorem mu{P:Program}{K:TypeId}{w w':World}{m m':Nat->Nat->Prop}{b n:Nat}{bo:Option Nat}{D:DataW Value}(hk:ae bo w m w' m')(hne:bo≠some b)(h:Y0 P K w b n D):Y0 P K w' b n D:=by
 obtain⟨o,hb,ho⟩:=sn h;exact ow h ((hk.obj b o hne hb ho).trans hb.symm)
theorem ou{P:Program}{K:TypeId}{w w':World}{m m':Nat->Nat->Prop}{b n:Nat}{D:DataW Value}(hk:cb w m w' m')(h:Y0 P K w b n D):Y0 P K w' b n D:=
 mu (bo:=none) ⟨hk.cell,fun b o _ h1 h2=>hk.obj b o h1 h2⟩ (by simp) h
theorem eS{P:Program}{k:TypeId}{w w':World}{m m':Nat->Nat->Prop}{b r n:Nat}{D:DataW Value}{left:Lit->Bool}{cnt:Nat}(hk:cb w m w' m')(h:w.ranges P k hR b r n D left cnt):w'.ranges P k hR b r n D left cnt:=by
 obtain⟨es,clock,since,seen,c0,hb,F,hs,hD,hr,rest⟩:=h;exact⟨es,clock,since,seen,c0,hk.obj b _ hb (fun c t f e=>by cases e),F,hs,hD,hk.obj r _ hr (fun c t f e=>by cases e),rest⟩
structure ec(P:Program)(w:World)(r:Nat)(key v:Value):Prop where
 it:∃b s seen c es cl,w.heap[r]? = some (.mapIter (some b) s seen c)/\w.heap[b]? = some (.map es cl)
 run:(Instr.entry (.pointer (some ⟨r,0,none⟩))).run P w = .ok (.tuple #[key,v]) w
theorem na{P:Program}{w w':World}{m m':Nat->Nat->Prop}{r:Nat}{key v:Value}(hk:cb w m w' m')(h:ec P w r key v):ec P w' r key v:=by
 obtain⟨⟨b,s,seen,c,es,cl,hr,hb⟩,hrun⟩:=h;have hr':=hk.obj r _ hr (fun c t f e=>by cases e);have hb':=hk.obj b _ hb (fun c t f e=>by cases e);refine⟨⟨b,s,seen,c,es,cl,hr',hb'⟩,?_⟩;simp only[Instr.entry,getObj,Sem.run_bind,Sem.run,hr,Result.andThen]at hrun;simp only[Instr.entry,getObj,Sem.run_bind,Sem.run,hr',Result.andThen]
 revert hrun
 cases seen.back? with
 |none=>intro hrun;simp_all
 |some x=>
  simp only[getObj,Sem.run_bind,Sem.run,hb,hb',Result.andThen]
  by_cases hc:(cl != c)=true
  .simp only[if_pos hc]
   intro hrun
   simp_all
  simp only[if_neg hc]
  cases Array.find? (fun x_1=>x_1.born==x) es with
  |none=>intro hrun;simp_all
  |some e=>
   intro hrun
   simp_all
structure cH(bo:Option Nat)(m:Nat->Nat->Prop)(w w':World)(pre:List (Nat×Blk))(sets:List (Nat×List AV))(news:List (Nat×Blk)):Prop where
 keys:sets.map (·.1)=pre.map (·.1)
 heap:∀e∈upd pre sets++news,w'.heap[e.2.at_]? = some (.cells (e.2.cells.map AV.den).toArray e.2.ty (0,0))
 ok:∀e∈upd pre sets++news,∀v∈e.2.cells,v.one=true/\Ok (mN m news) w' v
 fresh:∀e∈news,w.heap.size<=e.2.at_
 dist:news.Pairwise fun e f=>e.2.at_≠f.2.at_
 chg:Chg (fun k=>ats pre k \/ bo=some k) w w'
def P9(P:Program)(f:FuncId)(args:List AV)(pre:List (Nat×Blk))(bo:Option Nat)(I:Kn)(res:j8->CR)(J:Nat->j8->Kn):Prop:=
 ∀(m:Nat->Nat->Prop) (w:World),(∀b o,m b o->b<w.heap.size)->(∀v∈args,Ok m w v)->R1 m w pre->I.p m w →
  Calls P f (args.map AV.den).toArray w fun e w'=>∃x,e = .returned (res x).v.den/\Ok (mN m (res x).news) w' (res x).v/\cH bo m w w' pre (res x).sets (res x).news/\(∀b,bo=some b->∃es cl es' cl',w.heap[b]? = some (.map es cl)/\w'.heap[b]? = some (.map es' cl'))/\(J w.heap.size x).p (mN m (res x).news) w'
open Go.MapKept Go.ChangeMaps in
theorem cH.mid{b:Nat}{m:Nat->Nat->Prop}{w w':World}{pre:List (Nat×Blk)}{sets:List (Nat×List AV)}{news:List (Nat×Blk)}(h:cH (some b) m w w' pre sets news){es es':Array MapEntry}{cl cl':Nat}(hb:w.heap[b]? = some (.map es cl))(hb':w'.heap[b]? = some (.map es' cl')) :
  ∃w1,w.mapTurned w1 b/\js m w1 w' pre sets news:=by
 refine⟨setBlock w b (.map es' cl'),⟨es,cl,es',cl',hb,rfl⟩,h.keys,h.heap,h.ok,fun e he=>?_,h.dist,?_⟩
 .have:=h.fresh e he
  simpa[setBlock]using this
 refine⟨h.chg.os,h.chg.tape,h.chg.output,by have:=h.chg.size;simpa[setBlock]using this,fun k hk hn=>?_⟩
 by_cases hkb:k=b
 .subst hkb;rw[hb',heap_setBlock_same hb]
 rw[heap_setBlock_other hb _ hkb];refine h.chg.block k (by simpa[setBlock]using hk) ?_
 rintro(h1|h1)
 .exact hn h1
 injection h1 with h1;exact hkb h1.symm
theorem cH.plain{m:Nat->Nat->Prop}{w w':World}{pre:List (Nat×Blk)}{sets:List (Nat×List AV)}{news:List (Nat×Blk)}(h:cH none m w w' pre sets news):js m w w' pre sets news:=
 ⟨h.keys,h.heap,h.ok,h.fresh,h.dist,h.chg.mono fun k hk=>hk.resolve_right (by simp)⟩
theorem cH.keepB{bo:Option Nat}{m:Nat->Nat->Prop}{w w':World}{pre:List (Nat×Blk)}{sets:List (Nat×List AV)}{news:List (Nat×Blk)}(h:cH bo m w w' pre sets news)(hp:R1 m w pre)(hmap:∀b,bo=some b->∃es cl,w.heap[b]? = some (.map es cl)):ae bo w m w' (mN m news):=by
 refine⟨fun b o u hc hn=>?_,fun b o hn h1 h2=>?_⟩
 .have hlt:=World.block_lt_of_cell? w _ hc
  refine⟨?_,fun hm=>?_⟩
  .have:w'.heap[b]? = w.heap[b]?:=h.chg.block b hlt (by
    rintro(⟨e,he,rfl⟩|h1)
    .exact hn (hp.free e he o)
    obtain⟨es,cl,h2⟩:=hmap b h1;unfold World.cell? at hc;simp[h2]at hc)
   unfold World.cell? at hc ⊢;rw[this];exact hc
  rcases hm with hm|⟨e,he,rfl⟩
  .exact hn hm
  exact absurd (h.fresh e he) (Nat.not_le.2 hlt)
 rw[h.chg.block b (aC h1) ?_]
 .exact h1
 rintro(⟨e,he,rfl⟩|h3)
 .rw [hp.heap e he]at h1
  exact h2 _ _ _ (Option.some.inj h1).symm
 exact hn h3
theorem tf{C:Cx}{s:St}{w':World}{pre:List (Nat×Blk)}(hp:∀e∈pre,j7 s.mem e.1=some e.2){sets:List (Nat×List AV)}{news:List (Nat×Blk)}(d:Option Nat)(v:AV):cb w' (mN (s.m C) news) w' (((s.eff (.sets (upd pre sets++news))).put d v).m C):=by
 refine⟨fun b o u h1 hn=>⟨h1,fun hm=>?_⟩,fun _ _ h _=>h⟩;have hm':(s.eff (.sets (upd pre sets++news))).m C b o:=by cases d<;>exact hm
 rcases hm' with hm|⟨k,e,he,hm⟩|hm
 .exact hn (.inl (.inl hm))
 .have he':j7 (lQ (upd pre sets++news) s.mem) k=some e:=he
  rw[cA]at he'
  cases hk:j7 (upd pre sets++news) k with
  |some e'=>
   rw[hk]at he';simp only[Option.some_or,Option.some.injEq]at he';subst he'
   rcases List.mem_append.1 (I9 hk)with he|he
   .obtain ⟨e1,g1,g2,g3,_⟩:=kS he
    simp only at g3;exact hn (.inl (.inr (.inl ⟨e1.1,e1.2,hp e1 g1,g3.trans hm⟩)))
   exact hn (.inr ⟨_,he,hm⟩)
  |none=>
   rw[hk]at he';exact hn (.inl (.inr (.inl ⟨k,e,by simpa using he',hm⟩)))
 exact hn (.inl (.inr (.inr hm)))
section
variable {m0:Nat->Nat->Prop} {w0:World} {S:Nat->Prop} {ds:List Deferred} {K:Kn} {P:Program} {Q:Exit->Act->World->Prop} {T:List (Nat×TI)} {ops:Array Oper}
theorem I8{s:St}{a:Act}{w:World}{L rest:List Oper}{o:Oper}{c:Call}{g:Operand}{f:FuncId}{l r args args':List AV}(hL:L=o::rest)(hg:o.guard=none)(hop:o.op = .call c)(hcal:c.callee = .value g)(h:i5 ⟨m0,w0,S,ds,K⟩ s a w)(hgv:val s [] g = .fn f l r)(hl:Y3 s [] c.args.toList=some args)(hen:l8 P f)
  {pre:List (Nat×Blk)} {bo:Option Nat} {I:Kn} {res:j8->CR} {J:Nat->j8->Kn} (hsp:P9 P f args' pre bo I res J) (hI:∀m w,K.p m w->I.p m w) (hC:∀b,bo=some b->b<w0.heap.size->S b) (hsim:G3 (l++args++r) args') (hpre:∀e∈pre,j7 s.mem e.1=some e.2) (hnd:dE pre=true) (hd:gK s o.dst=true)
  (K':j8->Kn) (hK':∀n x m w m' w',w0.heap.size<=n->K.p m w->ae bo w m w' m'->(J n x).p m' w'->(K' x).p m' w')
  (Kc:∀x a' w',i5 ⟨m0,w0,S,ds,K' x⟩ ((s.eff (.sets (upd pre (res x).sets++(res x).news))).put o.dst (res x).v) a' w'->wpList P ops Q rest a' w'):wpList P ops Q L a w:=by
 refine ap hL hg ?_;obtain⟨hrun,hok⟩:=jn hop hcal h hgv hl hen;have hdist:=ao h hnd hpre;unfold Oper.wp;rw[hrun];simp only[Oper.upon];have hpo:R1 (s.m ⟨m0,w0,S,ds,K⟩) w pre:=⟨fun e he=>(h.mem _ _ (hpre e he)).1,fun e he=>(h.mem _ _ (hpre e he)).2.1,fun e he o=>.inr (.inl ⟨e.1,e.2,hpre e he,rfl⟩),hdist⟩;have:=hsp (s.m ⟨m0,w0,S,ds,K⟩) w (qm h) (hsim.ok hok) hpo (hI _ _ h.kept);rw[<-hsim.map]at this;refine this.mono ?_
 rintro e w' ⟨x,rfl,g1,g2,g3,g4⟩
 have hkb:=g2.keepB hpo (fun b hb=>by obtain⟨es,cl,_,_,h1,_⟩:=g3 b hb;exact⟨es,cl,h1⟩);have hkn:=(K' x).st (tf (C:=⟨m0,w0,S,ds,K⟩) (w':=w') hpre (sets:=(res x).sets) (news:=(res x).news) o.dst (res x).v) (hK' _ x _ _ _ _ h.chg.size h.kept hkb g4);have h':i5 ⟨m0,w0,S,ds,noK⟩ s a w:=h.withK trivial;have fin:∀w1,i5 ⟨m0,w0,S,ds,noK⟩ s a w1->js (s.m ⟨m0,w0,S,ds,noK⟩) w1 w' pre (res x).sets (res x).news->wpList P ops Q rest (a.put o.dst (res x).v.den) w':=by
  intro w1 hf hl';obtain⟨f1,f2⟩:=hf.called hdist hpre hl';refine Kc x _ w' (i5.withK (K:=noK) (f1.put o.dst (fun t ht=>by rw[nf];exact iP hd t ht) (res x).v (fun _=>f2 _ g1) _ fun _=>rfl) hkn)
 cases bo with
 |none=>exact fin w h' g2.plain
 |some b=>
  obtain⟨es,cl,es',cl',h1,h2⟩:=g3 b rfl;obtain⟨w1,ht,hl'⟩:=g2.mid h1 h2;have hgr:=ht.grown;exact fin w1 (h'.turn h1 (fun c t f e=>by cases e) hgr (hC b rfl) trivial) hl'
theorem su{bo:Option Nat}{m:Nat->Nat->Prop}{w0 w:World}{pre:List (Nat×Blk)}{d:List Deferred}{s:St}{a:Act}(h:i5 ⟨m,w0,fun k=>ats pre k \/ bo=some k,d,K⟩ s a w)(hmap:∀b,bo=some b->∃es cl,w.heap[b]? = some (.map es cl)){sets:List (Nat×List AV)}{news:List (Nat×Blk)}{ks:List Nat}(hs:C2 s pre sets)(hn:K6 s pre ks news) :
  cH bo m w0 w pre sets news/\cb w (s.m ⟨m,w0,fun k=>ats pre k \/ bo=some k,d,K⟩) w (mN m news):=by
 have kp:cb w (s.m ⟨m,w0,fun k=>ats pre k \/ bo=some k,d,K⟩) w (mN m news):=⟨fun b' o u h1 h2=>⟨h1,fun hm=>by
  rcases hm with hm|⟨e,he,hat⟩
  .exact h2 (.inl hm)
  obtain⟨k,cells,_,hk,_⟩:=hn.mem e he;exact h2 (.inr (.inl ⟨k,_,hk,hat⟩))⟩,fun _ _ h _=>h⟩
 have key:∀e∈upd pre sets++news,∃k cells,j7 s.mem k=some ⟨e.2.at_,e.2.ty,cells⟩/\G3 cells e.2.cells:=by
  intro e he
  rcases List.mem_append.1 he with he|he
  .obtain ⟨cells,h1,h2⟩:=hs.mem e he;exact⟨_,cells,h1,h2⟩
  obtain⟨k,cells,_,h1,h2,_⟩:=hn.mem e he;exact⟨k,cells,h1,h2⟩
 refine⟨⟨hs.keys,fun e he=>?_,fun e he v hv=>?_,fun e he=>?_,?_,h.chg⟩,kp⟩
 .obtain ⟨k,cells,h1,h2⟩:=key e he
  have:=(h.mem _ _ h1).1;simp only at this;rw[h2.map]at this;exact this
 .obtain ⟨k,cells,h1,h2⟩:=key e he
  have h3:=(h.mem _ _ h1).2.1;exact⟨h2.one (fun v hv=>(h3 v hv).1) v hv,h2.ok (fun v hv=>kp.ok (h3 v hv).2) v hv⟩
 .obtain ⟨k,cells,_,h1,_,h2⟩:=hn.mem e he
  rcases(h.mem _ _ h1).2.2 with h3|⟨e',he',hat⟩|h3
  .exact h3
  .obtain ⟨cells',h4⟩:=hs.all e' he'
   have:=h.nodup _ _ _ _ h4 h1 (h2 e' he');exact absurd hat this
  obtain⟨es,cl,h4⟩:=hmap _ h3;have h5:=(h.mem _ _ h1).1;simp only at h5;rw[h4]at h5;cases h5
 exact hn.dist h
theorem LI(hT:o7 P T){bo:Option Nat}{m:Nat->Nat->Prop}{w0:World}{pre:List (Nat×Blk)}{s:St}{a:Act}{w:World}(h:i5 ⟨m,w0,fun k=>ats pre k \/ bo=some k,[],K⟩ s a w){fn:Func}{res:j8->CR}{J:j8->Kn}{rs:List ResultVar}(hfn:fn.results=rs.toArray){r:List AV×List Ob}(hr:T5 T s rs=some r)(ho:i7 P K r.2)
  (x:j8) (ks:List Nat) (hmap:∀b,bo=some b->(∃es cl,w0.heap[b]? = some (.map es cl))/\∀m,K.p m w->∃es cl,w.heap[b]? = some (.map es cl)) (he:Sim (can (K0 r.1)) (can (res x).v)) (hs:C2 s pre (res x).sets) (hn:K6 s pre ks (res x).news) (hJ:∀m w,K.p m w->(J x).p m w) :
  let R:=fun e w'=>∃x,e=Ending.returned (res x).v.den/\Ok (mN m (res x).news) w' (res x).v/\cH bo m w0 w' pre (res x).sets (res x).news/\(∀b,bo=some b->∃es cl es' cl',w0.heap[b]? = some (.map es cl)/\w'.heap[b]? = some (.map es' cl'))/\(J x).p (mN m (res x).news) w'
  bodyPost P fn R .ret a w/\bodyPost P fn R .normal a w:=by
 intro R;obtain⟨h1,h2⟩:=su h (fun b hb=>(hmap b hb).2 _ h.kept) hs hn;refine gq hT h rfl hfn hr ho fun hv=>⟨x,?_,(L9 _).2 (he.2.2 _ _ ((L9 _).1 (h2.ok hv))),h1,fun b hb=>?_,hJ _ _ (K.st h2 h.kept)⟩
 .rw [<-I6 (K0 r.1),he.1,I6]
 obtain⟨⟨es,cl,h3⟩,h4⟩:=hmap b hb;obtain⟨es',cl',h4⟩:=h4 _ h.kept;exact⟨_,_,_,_,h3,h4⟩
theorem Jx{bo:Option Nat}{I:Kn}{m:Nat->Nat->Prop}{w:World}{pre:List (Nat×Blk)}(hm:∀b o,m b o->b<w.heap.size)(hp:R1 m w pre)(hI:I.p m w){args:List AV}(hargs:∀v∈args,Ok m w v){f:FuncId}{fn:Func}{c:Code}{R:Ending->World->Prop}(hf:P.funcs[f]? = some fn)(hbd:fn.body=some c)(hn:args.length<=fn.ntmps)
  (h:∀a,i5 ⟨m,w,fun k=>ats pre k \/ bo=some k,[],I⟩ ⟨fn.ntmps,C8 0 args,[],pre,[]⟩ a w->c.wp P (bodyPost P fn R) a w):Calls P f (args.map AV.den).toArray w R:=
 BJ hm hp hargs hf hbd hn fun a Z=>h a ((Z.wider fun k hk=>.inl hk).withK (I.st ⟨fun b o u h1 h2=>⟨h1,fun hm'=>by
  rcases hm' with h3|⟨k,e,he,hat⟩|⟨k,e,he,_⟩
  .exact h2 h3
  .exact h2 (hat ▸ hp.free _ (I9 he) o)
  cases he⟩,fun _ _ h _=>h⟩ hI))
variable {C:Cx} {s:St} {a:Act} {w:World} {L rest:List Oper} {o:Oper}
open Go.Maps in
theorem mA{m x:Operand}{t k e:TypeId}{b n:Nat}{D:DataW Value}{vx:AV}{kl:Lit}{z:Value}(hop:o.op = .lookup t m x true)(h:i5 C s a w)(hm:val s [] m = .raw (.map (some b)))(hx:val s [] x=vx)(hxk:vx.known=true)
  (K:Keyed P k) (ht:P.underlying t=some (.map k e)) (hz:(zeroValue e).run P w = .ok z w) (hM:Y0 P k w b n D) (hkey:Go.keyOf P k vx.den=some kl) {v:AV} (hv:D.atKey kl (.held z) = .held v.den) :
  (execOp a.eval o).run P w = .ok (.value (.tuple #[v.den,.bool (Maps.has D kl)])) w:=by
 have hmv:=(E6 h (q:=[]) (fun _ h=>by cases h) (x:=m) (by rw[hm];rfl)).1;have hxv:=(E6 h (q:=[]) (fun _ h=>by cases h) (x:=x) (by rw[hx];exact hxk)).1;rw[hm]at hmv;rw[hx]at hxv;obtain⟨v',ps,hrun,hv'⟩:=hM.look_ok K ht hz (zd:=.held z) (zp:=[]) rfl hkey;have e1:v'=v.den:=by
  unfold hR at hv';injection hv' with h1
  injection h1 with h1 _
  rw[hv]at h1;injection h1
 subst e1;simp[execOp,hop,hmv,hxv,hrun,Result.andThen,AV.den]
open Go.Maps in
theorem man_lookup{m x:Operand}{t k e:TypeId}{d b n:Nat}{D:DataW Value}{vx:AV}{kl:Lit}{z:Value}(hL:L=o::rest)(hg:o.guard=none)(hop:o.op = .lookup t m x true)(hdst:o.dst=some d)(h:i5 C s a w)(hd:d<s.nt)(hm:val s [] m = .raw (.map (some b)))(hx:val s [] x=vx)(hxk:vx.known=true)
  (K:Keyed P k) (ht:P.underlying t=some (.map k e)) (hz:(zeroValue e).run P w = .ok z w) (hM:Y0 P k w b n D) (hkey:Go.keyOf P k vx.den=some kl) {v:AV} (hv:D.atKey kl (.held z) = .held v.den) (hok:Ok (s.m C) w v)
  (K':∀a',i5 C (s.put (some d) (.tup [v,.bool (.v (Maps.has D kl))])) a' w->wpList P ops Q rest a' w):wpList P ops Q L a w:=by
 refine iI hL hg hdst h hd (v:=.tup [v,.bool (.v (Maps.has D kl))]) ?_ (.tup _ fun u hu=>?_) K'
 .rw [mA hop h hm hx hxk K ht hz hM hkey hv];simp[AV.den,AV.denL,BE.den]
 simp only[List.mem_cons,List.not_mem_nil,or_false]at hu
 rcases hu with rfl|rfl
 .exact hok
 exact .bool _
theorem sq{m:Operand}{t k e:TypeId}{d b n:Nat}{D:DataW Value}{c:Call}(hL:L=o::rest)(hg:o.guard=none)(hop:o.op = .call c)(hc1:c.callee = .builtin .len)(hc2:c.args = #[m])(hc3:c.argTypes = #[t])(hdst:o.dst=some d)(h:i5 C s a w)(hd:d<s.nt)(hm:val s [] m = .raw (.map (some b)))
  (ht:P.underlying t=some (.map k e)) (hM:Y0 P k w b n D) (K':∀a',i5 C (s.put (some d) (.int .i64 (Maps.size D:Int))) a' w->wpList P ops Q rest a' w):wpList P ops Q L a w:=by
 have hmv:=(E6 h (q:=[]) (fun _ h=>by cases h) (x:=m) (by rw[hm];rfl)).1;rw[hm]at hmv;have hrun:=hM.len ht o.type;refine iI hL hg hdst h hd (v:=.int .i64 (Maps.size D:Int)) ?_ (.int _ _) K';simp[execOp,hop,hc1,hc2,hc3,resolve,invoke,builtin,hmv,hrun,Result.andThen,AV.den]
open Go.Maps in
theorem K4{m x y:Operand}{t k e:TypeId}{b n:Nat}{D:DataW Value}{vx vy:AV}{kl:Lit}(hL:L=o::rest)(hg:o.guard=none)(hop:o.op = .mapUpdate t m x y)(hdst:o.dst=none)(h:i5 ⟨m0,w0,S,ds,K⟩ s a w)(hm:val s [] m = .raw (.map (some b)))(hx:val s [] x=vx)(hxk:vx.known=true)(hy:val s [] y=vy)(hyk:vy.known=true)
  (Kd:Keyed P k) (ht:P.underlying t=some (.map k e)) (hM:Y0 P k w b n D) (hn:n<maxLen) (hkey:Go.keyOf P k vx.den=some kl) (hC:b<w0.heap.size->S b)
  (K1:Kn) (hK1:∀m w',K.p m w->ae (some b) w m w' m->Ok m w vy->Y0 P k w' b (n+1) (D.put kl (.held vy.den))->K1.p m w')
  (K':∀w',i5 ⟨m0,w0,S,ds,K1⟩ s a w'->wpList P ops Q rest a w'):wpList P ops Q L a w:=by
 have hmv:=(E6 h (q:=[]) (fun _ h=>by cases h) (x:=m) (by rw[hm];rfl)).1;have hxv:=(E6 h (q:=[]) (fun _ h=>by cases h) (x:=x) (by rw[hx];exact hxk)).1;have hyv:=E6 h (q:=[]) (fun _ h=>by cases h) (x:=y) (by rw[hy];exact hyk);rw[hm]at hmv;rw[hx]at hxv;rw[hy]at hyv;obtain⟨w',hrun,h1,h2⟩:=hM.store Kd ht hn hkey (show hR vy.den=some (.held vy.den,[])from rfl)
 obtain⟨ob,hb,hno⟩:=sn hM;refine ap hL hg ?_;refine lE (w':=w') ?_ ?_
 .simp [execOp,hop,hmv,hxv,hyv.1,hrun,Result.andThen,AV.den]
 rw[hdst];exact K' w' (h.turn hb hno h2.grown hC (hK1 _ _ h.kept (dv hb hno h2.grown) hyv.2 h1))
open Go.MapKept in
theorem eY{t k e:TypeId}{d:Nat}(hL:L=o::rest)(hg:o.guard=none)(hop:o.op = .makeMap t none)(hdst:o.dst=some d)(h:i5 ⟨m0,w0,S,ds,K⟩ s a w)(hd:d<s.nt)
  (K1:Kn) (hK1:∀m w',K.p m w->cb w m w' m->Y0 P k w' w.heap.size 0 (.map [])->K1.p m w')
  (K':∀a' w',w0.heap.size<=w.heap.size->i5 ⟨m0,w0,S,ds,K1⟩ (s.put (some d) (.raw (.map (some w.heap.size)))) a' w'->wpList P ops Q rest a' w'):wpList P ops Q L a w:=by
 refine ap hL hg ?_;unfold Oper.wp;have e1:(execOp a.eval o).run P w = .ok (.value (.map (some w.heap.size))) (w.alloc (.map #[] 0)):=by
  simp[execOp,hop,run_makeMap,Result.andThen]
 rw[e1];simp only[Oper.upon];rw[hdst];have hb:Below w.heap.size w (w.alloc (.map #[] 0)):=(Below.refl _ _).alloc (Nat.le_refl _) _;refine K' _ _ h.chg.size ?_;have h2:=((h.below hb).withK (K':=K1) (hK1 _ _ h.kept (dV hb _) (World.ownsMap_made _ _ _ _)));exact h2.put (some d) (fun t ht=>by injection ht with ht;subst ht;exact hd) (.raw (.map (some w.heap.size))) (fun _=>.raw _) _ fun _=>rfl
open Go.Maps in
theorem xV{m:Operand}{t k e:TypeId}{d b n:Nat}{D:DataW Value}(hL:L=o::rest)(hg:o.guard=none)(hop:o.op = .range t m)(hdst:o.dst=some d)(h:i5 ⟨m0,w0,S,ds,K⟩ s a w)(hd:d<s.nt)(hm:val s [] m = .raw (.map (some b)))
  (Kd:Keyed P k) (ht:P.underlying t=some (.map k e)) (hM:Y0 P k w b n D)
  (K1:Kn) (hK1:∀m w',K.p m w->cb w m w' m->w'.ranges P k hR b w.heap.size n D (Maps.has D) (Maps.size D)->K1.p m w')
  (K':∀a' w',w0.heap.size<=w.heap.size->i5 ⟨m0,w0,S,ds,K1⟩ (s.put (some d) (.raw (.pointer (some ⟨w.heap.size,0,none⟩)))) a' w'->wpList P ops Q rest a' w'):wpList P ops Q L a w:=by
 have hmv:=(E6 h (q:=[]) (fun _ h=>by cases h) (x:=m) (by rw[hm];rfl)).1;rw[hm]at hmv;obtain⟨w',hrun,r1,r2,r3⟩:=hM.range Kd ht;refine ap hL hg ?_;unfold Oper.wp;have e1:(execOp a.eval o).run P w = .ok (.value (.pointer (some ⟨w.heap.size,0,none⟩))) w':=by
  simp[execOp,hop,hmv,hrun,Result.andThen,AV.den]
 rw[e1];simp only[Oper.upon];rw[hdst];have hb:Below w.heap.size w w':=⟨r2.os,r2.tape,r2.output,r2.size,fun k hk=>r2.block k hk (by simp)⟩;refine K' _ _ h.chg.size ?_;have h2:=((h.below hb).withK (K':=K1) (hK1 _ _ h.kept (dV hb _) r1));exact h2.put (some d) (fun t ht=>by injection ht with ht;subst ht;exact hd) (.raw (.pointer (some ⟨w.heap.size,0,none⟩))) (fun _=>.raw _) _ fun _=>rfl
theorem xX{it:Operand}{d r:Nat}{vk vv:AV}(hL:L=o::rest)(hg:o.guard=none)(hop:o.op = .entry it)(hdst:o.dst=some d)(h:i5 C s a w)(hd:d<s.nt)(hit:val s [] it = .raw (.pointer (some ⟨r,0,none⟩)))
  (hE:ec P w r vk.den vv.den) (hk:Ok (s.m C) w vk) (hv:Ok (s.m C) w vv)
  (K':∀a',i5 C (s.put (some d) (.tup [vk,vv])) a' w->wpList P ops Q rest a' w):wpList P ops Q L a w:=by
 have hiv:=(E6 h (q:=[]) (fun _ h=>by cases h) (x:=it) (by rw[hit];rfl)).1;rw[hit]at hiv;refine iI hL hg hdst h hd (v:=.tup [vk,vv]) ?_ (.tup _ fun u hu=>?_) K'
 .simp [execOp,hop,hiv,hE.run,Result.andThen,AV.den,AV.denL]
 simp only[List.mem_cons,List.not_mem_nil,or_false]at hu
 rcases hu with rfl|rfl
 .exact hk
 exact hv
theorem iL{ι : Type}(I:ι->Act->World->Prop)(J:ι->Prop)(μ : ι->Nat){c:Code}{a:Act}{w:World}(p₀:ι)(h₀:J p₀)(hf:I p₀ a w)
  (round:∀p,J p->∀a w,I p a w->c.wp P (Exit.then (fun a' w'=>∃p',J p'/\μ p'<μ p/\I p' a' w') Q) a w):(Code.loop c).wp P Q a w:=by
 intro b k fs;have key:∀n p a w,μ p=n->J p->I p a w →
   ∃e a' w',Q e a' w'/\Arrives P (lone (b.at a (.code c :: .inLoop c::k)) fs w) b k fs e a' w':=by
  intro n
  induction n using Nat.strongRecOn with
  |_ n ih=>
   intro p a w hn hJ Z;obtain⟨e,a₁,w₁,hq,harr⟩:=round p hJ a w Z b (.inLoop c::k) fs
   cases e with
   |normal=>
    obtain⟨p',hJ',hlt,hF'⟩:=hq;obtain⟨e₂,a₂,w₂,hq₂,harr₂⟩:=ih (μ p') (hn ▸ hlt) p' a₁ w₁ rfl hJ' hF';exact⟨e₂,a₂,w₂,hq₂,.of_steps (Steps.trans harr (.one step_inLoop)) harr₂⟩
   |exit id=>exact⟨_,a₁,w₁,hq,.pass (x:=.inLoop c) rfl (fun _ _=>.inl (by simp)) harr⟩
   |goto l=>exact⟨_,a₁,w₁,hq,.pass (x:=.inLoop c) rfl (fun _ _=>.inl (by simp)) harr⟩
   |ret=>exact⟨_,a₁,w₁,hq,.pass (x:=.inLoop c) rfl (fun _ _=>.inl (by simp)) harr⟩
   |panic ch=>exact⟨_,a₁,w₁,hq,.pass (x:=.inLoop c) rfl (fun _ _=>.inl (by simp)) harr⟩
   |outgrown=>exact⟨_,a₁,w₁,hq,.pass (x:=.inLoop c) rfl (fun _ _=>.inl (by simp)) harr⟩
 obtain⟨e,a',w',hq,harr⟩:=key _ p₀ a w rfl h₀ hf;exact⟨e,a',w',hq,.of_steps (.one step_loop) harr⟩
theorem fF{ι : Type}(Kf:ι->Kn)(Sl:ι->List (Nat×AV))(M:ι->List (Nat×Blk))(G:ι->List (Nat×Gr))(J:ι->Prop)(μ : ι->Nat){nt:Nat}{rest:List (Nat×AV)}{restm:List (Nat×Blk)}{restg:List (Nat×Gr)}{c:Code}{a:Act}{w:World}(p₀:ι)(h₀:J p₀)
  (hf:i5 ⟨m0,w0,S,ds,Kf p₀⟩ ⟨nt,pre (Sl p₀) rest,[],pre (M p₀) restm,pre (G p₀) restg⟩ a w)
  (round:∀p,J p->∀a w,i5 ⟨m0,w0,S,ds,Kf p⟩ ⟨nt,pre (Sl p) rest,[],pre (M p) restm,pre (G p) restg⟩ a w->c.wp P (Exit.then (fun a' w'=>∃p',J p'/\μ p'<μ p/\i5 ⟨m0,w0,S,ds,Kf p'⟩ ⟨nt,pre (Sl p') rest,[],pre (M p') restm,pre (G p') restg⟩ a' w') Q) a w):(Code.loop c).wp P Q a w:=
 iL (fun p a w=>i5 ⟨m0,w0,S,ds,Kf p⟩ ⟨nt,pre (Sl p) rest,[],pre (M p) restm,pre (G p) restg⟩ a w) J μ p₀ h₀ hf round
end
section
variable {P:Program} {f:FuncId} {fn:Func} {c:Code} {R:Ending->World->Prop} {m:Nat->Nat->Prop} {w:World} {pre:List (Nat×Blk)} {args:List AV} {I:Kn} {bo:Option Nat}
theorem enM(nt:Nat)(hm:∀b o,m b o->b<w.heap.size)(hp:R1 m w pre)(hI:I.p m w)(hargs:∀v∈args,Ok m w v)(hf:P.funcs[f]? = some fn)(h:∀B,B=std->∀a,i5 ⟨m,w,fun k=>ats pre k \/ bo=some k,[],I⟩ ⟨nt,C8 0 args,[],pre,[]⟩ a w->c.wp P (bodyPost P fn R) a w)(hb:fn.body=some c:=by rfl)(hnt:fn.ntmps=nt:=by rfl)(hn:args.length<=nt:=by exact Nat.le_of_ble_eq_true rfl):Calls P f (args.map AV.den).toArray w R:=
 Jx hm hp hI hargs hf hb (hnt ▸ hn) (by rw[hnt];exact h std rfl)
end
section
variable {K:Kn} {P:Program} {T:List (Nat×TI)} {s:St} {a:Act} {w:World} {m:Nat->Nat->Prop} {w0:World} {fn:Func} {rs:List ResultVar} {r:List AV×List Ob} {pre:List (Nat×Blk)} {B:Alg} {bo:Option Nat} {res:j8->CR} {J:j8->Kn}
theorem rm(O:B=std)(hT:o7 P T)(h:i5 ⟨m,w0,fun k=>ats pre k \/ bo=some k,[],K⟩ s a w)(x:j8)(ks:List Nat)(hfn:fn.results=rs.toArray:=by rfl)(hr:T5 T s rs=some r:=by first|rfl|(conv=>lhs;cbv))(ho:i7 P K r.2:=by first|exact trivial|(subst O;simp[i7,Ob.holds]))
  (hmap:∀b,bo=some b->(∃es cl,w0.heap[b]? = some (.map es cl))/\∀m,K.p m w->∃es cl,w.heap[b]? = some (.map es cl):=by intro b hb;cases hb) (he:Sim (can (K0 r.1)) (can (res x).v):=by subst O;exact zr) (hs:C2 s pre (res x).sets:=by subst O;first|exact trivial|exact⟨rfl,⟨_,rfl,zl⟩,trivial⟩) (hn:K6 s pre ks (res x).news:=by exact trivial) (hJ:∀m w,K.p m w->(J x).p m w:=by exact fun m w h=>h) :
  let R:=fun e w'=>∃x,e=Ending.returned (res x).v.den/\Ok (mN m (res x).news) w' (res x).v/\cH bo m w0 w' pre (res x).sets (res x).news/\(∀b,bo=some b->∃es cl es' cl',w0.heap[b]? = some (.map es cl)/\w'.heap[b]? = some (.map es' cl'))/\(J x).p (mN m (res x).news) w'
  bodyPost P fn R .ret a w/\bodyPost P fn R .normal a w:=LI hT h hfn hr ho x ks hmap he hs hn hJ
end
abbrev nI:=Option (Nat×List Operand×List AV×AV)
def P2(A:Alg)(T:List (Nat×TI))(cs:List (Nat×CS))(H:nI)(x:j8)(all:List Oper)(i:Nat)(o:Oper)(s:St):Option (T2×List Ob×F7):=
 match H with
 |none=>P7 A T cs x all i o s
 |some (j,xs,args,v)=>if j==i then(match o.guard,Y3 s [] xs,gK s o.dst with
   |none,some l,true=>some (⟨.no,o.dst,.plain v⟩,[.pr (l=args)],⟨o.dst,tl xs,[],[],[],[],[]⟩)
   |_,_,_=>none)else P7 A T cs x all i o s
def cM(C:Cx)(P:Program)(all:List Oper)(H:nI):Prop:=∀i xs args v,H=some (i,xs,args,v)->∀o,all[i]? = some o->∀s a w,i5 C s a w->Y3 s [] xs=some args->(execOp a.eval o).run P w = .ok (.value v.den) w/\Ok (s.m C) w v
theorem L5{C:Cx}{P:Program}{all:List Oper}:cM C P all none:=fun _ _ _ _ h=>by cases h
def K7(A:Alg)(T:List (Nat×TI))(cs:List (Nat×CS))(H:nI)(X:Nat->j8)(all:List Oper):List (Nat×Oper)->St->Option (St×List Ob×List F7)
 | [],s=>some (s,[],[])
 |(i,o)::l,s=>match P2 A T cs H (X i) all i o s with
  |none=>none
  |some (δ,ob,f)=>match K7 A T cs H X all l (s.app δ)with
   |none=>none
   |some (s'',ob',fs)=>some (s'',ob++ob',f::fs)
section
variable {A:Alg} {T:List (Nat×TI)} {cs:List (Nat×CS)} {H:nI} {X:Nat->j8} {all:List Oper}
theorem aN{x:j8}{i:Nat}{o:Oper}{s:St}{r:T2×List Ob×F7}(h:P2 A T cs H x all i o s=some r):gY r:=by
 unfold P2 at h
 split at h
 .exact au h
 split at h
 .split at h
  .injection h with h;subst h
   exact⟨(fun q v h=>by cases h),rfl,(fun k b h=>by cases h),(fun k b h=>by cases h),(fun q v h=>by cases h)⟩
  cases h
 exact au h
theorem dT{x:j8}{i:Nat}{o:Oper}{s s':St}{r:T2×List Ob×F7}(h:P2 A T cs H x all i o s=some r)(hU:AgT s s' r.2.2.cons)(hR:AgM s s' r.2.2.rk)(hG:AgR s s' r.2.2.rg)(hn:s.nt=s'.nt):P2 A T cs H x all i o s'=some r:=by
 unfold P2 at h ⊢
 split at h
 .exact aM h hU hR hG hn
 split at h
 .rename_i hj
  rw[if_pos hj]
  split at h
  .rename_i l hg hv hi
   injection h with h;subst h
   rw[hg,<-bJ hU [] (fun t ht=>ht),hv,<-gJ hn,hi]
  cases h
 rename_i hj
 rw[if_neg hj];exact aM h hU hR hG hn
theorem gO{X:Nat->j8}{i:Nat}{o:Oper}{l:List (Nat×Oper)}{s:St}{r}(hr:K7 A T cs H X all ((i,o)::l) s=some r) :
  ∃δ ob f r',P2 A T cs H (X i) all i o s=some (δ,ob,f)/\K7 A T cs H X all l (s.app δ)=some r'/\r=(r'.1,ob++r'.2.1,f::r'.2.2):=by
 simp only[K7]at hr
 split at hr
 .cases hr
 rename_i δ ob f he
 split at hr
 .cases hr
 rename_i s'' ob' fs he'
 injection hr with hr
 exact⟨δ,ob,f,_,he,he',hr.symm⟩
theorem fk{X Y:Nat->j8}:∀(l:List (Nat×Oper)) (s:St),(∀x∈l,X x.1=Y x.1)->K7 A T cs H X all l s=K7 A T cs H Y all l s
 | [],_,_=>rfl
 |(i,o)::l,s,h=>by
  simp only[K7];rw[h (i,o) (by simp)]
  cases P2 A T cs H (Y i) all i o s with
  |none=>rfl
  |some r=>obtain⟨δ,ob,f⟩:=r;simp only;rw[fk l _ (fun x hx=>h x (by simp[hx]))]
theorem kv:∀{l:List (Nat×Oper)} {s s' τ : St} {obs:List Ob} {fs:List F7},K7 A T cs H X all l s=some (τ,obs,fs)->T4 s s'->NM s (ds fs)->Ord fs->∃τ',K7 A T cs H X all l s'=some (τ',obs,fs)/\T4 τ τ'
 | [],s,s',τ,obs,fs,h,ha,hn,hf=>by
  simp only[K7,Option.some.injEq,Prod.mk.injEq]at h;obtain⟨rfl,rfl,rfl⟩:=h;exact⟨s',rfl,ha⟩
 |(i,o)::l,s,s',τ,obs,fs,h,ha,hn,hf=>by
  obtain⟨δ,ob,f,r',h1,h2,h3⟩:=gO h;obtain⟨τ1,obs1,fs1⟩:=r';simp only[Prod.mk.injEq]at h3;obtain⟨rfl,rfl,rfl⟩:=h3;have hfo:=aN h1;have hd':=dT h1 (s':=s') (fun t _=>⟨ha.tmps t,ha.gs t⟩) (fun k _=>ha.mem k) (fun k _=>ha.gr k) ha.nt;have hf':=List.pairwise_cons.1 hf;obtain⟨n1,n2⟩:=eU hfo (gs:=fs1) hn (by simp) (fun g hg=>by simp[hg]) hf'.1;obtain⟨τ',e1,e2⟩:=kv h2 (ph hfo.wf ha n1) n2 hf'.2;exact⟨τ',by simp only[K7,hd',e1],e2⟩
theorem gF{P:Program}{K:Kn}{i:Nat}{o:Oper}{L2:List (Nat×Oper)}:∀{L1:List (Nat×Oper)} {s τ : St} {obs:List Ob} {fs1:List F7} {f:F7} {fs2:List F7},
  K7 A T cs H X all (L1++(i,o)::L2) s=some (τ,obs,fs1++f::fs2)->fs1.length=L1.length->NM s (ds (fs1++f::fs2))->Ord (fs1++f::fs2)->(∀g∈fs1,jk g f=true) →
  ∃δ ob,P2 A T cs H (X i) all i o s=some (δ,ob,f)/\∃τ' obs',K7 A T cs H X all (L1++L2) (s.app δ)=some (τ',obs',fs1++fs2)/\T4 τ' τ/\(i7 P K obs->i7 P K ob/\i7 P K obs')
 | [],s,τ,obs,fs1,f,fs2,h,hl,hn,Z,hc=>by
  have:fs1=[]:=List.eq_nil_of_length_eq_zero hl;subst this;obtain⟨δ,ob,f',r',h1,h2,h3⟩:=gO h;obtain⟨τ1,obs1,fs1⟩:=r';simp only[List.nil_append,Prod.mk.injEq,List.cons.injEq]at h3;obtain⟨rfl,rfl,rfl,rfl⟩:=h3;exact⟨δ,ob,h1,τ,obs1,h2,⟨rfl,fun _=>rfl,fun _=>rfl,fun _=>rfl,fun _=>rfl⟩,fun ha=>i7.app.1 ha⟩
 |(j,oj)::L1,s,τ,obs,fs1,f,fs2,h,hl,hn,Z,hc=>by
  cases fs1 with
  |nil=>cases hl
  |cons fj fs1=>
   obtain⟨δj,obj,fj',r',h1,h2,h3⟩:=gO h;obtain⟨τ1,obs1,fsr⟩:=r';simp only[List.cons_append,Prod.mk.injEq,List.cons.injEq]at h3;obtain⟨rfl,rfl,rfl,rfl⟩:=h3;have hfj:=aN h1;have hF':=List.pairwise_cons.1 Z;obtain⟨n1,n2⟩:=eU hfj (gs:=fs1++f::fs2) hn (by simp) (fun g hg=>by simp only[List.cons_append,List.mem_cons];exact .inr hg) hF'.1;obtain⟨δ,ob,g1,τ',obs',g2,g3,g4⟩:=gF (P:=P) (L1:=L1) h2 (by simpa using hl) n2 hF'.2 (fun g hg=>hc g (by simp[hg]));have hcm:=hc fj (by simp);simp only[jk,Bool.and_eq_true]at hcm;obtain⟨⟨⟨⟨⟨⟨⟨⟨⟨c0,c1⟩,c2⟩,c3⟩,c4⟩,c5⟩,c6⟩,c7⟩,c8⟩,c9⟩:=hcm;have hf:=aN g1;have hFf:=List.pairwise_append.1 hF'.2;have hin:∀g∈fs1++fs2,g∈fs1++f::fs2:=fun g hg=>by
    rcases List.mem_append.1 hg with hg|hg
    .exact List.mem_append_left _ hg
    exact List.mem_append_right _ (List.mem_cons_of_mem _ hg)
   have hq:∀g∈fj::(fs1++fs2),fS (dl g.d) f.qs=true:=by
    intro g hg
    rcases List.mem_cons.1 hg with rfl|hg
    .exact c0
    rcases List.mem_append.1 hg with hg|hg
    .have:=hc g (by simp[hg])
     simp only[jk,Bool.and_eq_true]at this;exact this.1.1.1.1.1.1.1.1.1
    exact(List.pairwise_cons.1 hFf.2.1).1 g hg
   -- i at s
   obtain⟨a1,a2,a3⟩:=rp hfj n1 (g:=f) (I5 c1) (I5 c4) (I5 c7);have d1:P2 A T cs H (X i) all i o s=some (δ,ob,f):=dT g1 (fun t ht=>⟨(a1 t ht).1.symm,(a1 t ht).2.symm⟩) (fun k hk=>(a2 k hk).symm) (fun k hk=>(a3 k hk).symm) gS;obtain⟨m1,m2⟩:=eU hf (gs:=fj::(fs1++fs2)) hn (by simp) (fun g hg=>by
    rcases List.mem_cons.1 hg with rfl|hg
    .simp
    simp only[List.cons_append,List.mem_cons];exact .inr (hin g hg)) hq
   -- j behind i
   obtain⟨b1,b2,b3⟩:=rp hf m1 (g:=fj) (I5 c2) (I5 c5) (I5 c8);have d2:P2 A T cs H (X j) all j oj (s.app δ)=some (δj,obj,fj):=dT h1 b1 b2 b3 gS.symm
   -- the two orders come to the same
   have sw:T4 ((s.app δj).app δ) ((s.app δ).app δj):=by
    refine tv hfj.wf hf.wf n1 m1 (n2.sub fun d hd=>jR (g:=f) (by simp) (by rw[hf.d];exact hd)) (m2.sub fun d hd=>jR (g:=fj) (by simp) (by rw[hfj.d];exact hd)) (fun t ht ht'=>?_) (fun k b b' e1 e2=>?_) (fun k b k' b' e1 e2 he=>?_)
    .exact I5 c3 t (by rw[hfj.d];simp only;rw[ht];simp[dl]) (by rw[hf.d];simp only;rw[ht'];simp[dl])
    .exact I5 c6 k (hfj.wk k b e1) (hf.wk k b' e2)
    subst he;exact I5 c9 k (hfj.wg k b e1) (hf.wg k b' e2)
   obtain⟨nn1,nn2⟩:=eU hf (gs:=fs1++fs2) n2 (by simp) hin (fun g hg=>hq g (List.mem_cons_of_mem _ hg));obtain⟨τ'',e1,e2⟩:=kv g2 sw nn2 (hF'.2.sublist (List.Sublist.append_left (List.sublist_cons_self _ _) _));refine⟨δ,ob,d1,τ'',obj++obs',?_,e2.symm.trans g3,fun ha=>?_⟩
   .simp only[List.cons_append,K7,d2,e1]
   obtain⟨p1,p2⟩:=i7.app.1 ha;obtain⟨p3,p4⟩:=g4 p2;exact⟨p3,i7.app.2 ⟨p1,p4⟩⟩
end
section
variable {C:Cx} {P:Program} {Q:Exit->Act->World->Prop} {T:List (Nat×TI)} {cs:List (Nat×CS)} {H:nI} {ops:Array Oper} {all:List Oper}
theorem oW{s:St}{a:Act}{w:World}{K:Act->World->Prop}(hT:o7 P T){i:Nat}{o:Oper}(hH:cM C P all H)(hio:all[i]? = some o)(hall:ops=all.toArray)(h:i5 C s a w)(hs:∀x,∃r,P2 std T cs H x all i o s=some r/\i7 P C.K r.2.1)
  (hK:∀x r a' w',P2 std T cs H x all i o s=some r->i5 C (s.app r.1) a' w'->K a' w'):if Region.wanted o (yielded ops a.tmps)then o.wp P a w K Q else K (a.put o.dst Go.undef) w:=by
 have plain:(∀x,P2 std T cs H x all i o s=P7 std T cs x all i o s)->if Region.wanted o (yielded ops a.tmps)then o.wp P a w K Q else K (a.put o.dst Go.undef) w:=fun e=>
  jh hT hall h (fun x=>by rw[<-e];exact hs x) fun x r a' w' hr=>hK x r a' w' (by rw[e];exact hr)
 cases hh:H with
 |none=>exact plain fun x=>by rw[hh];rfl
 |some y=>
  obtain⟨j,xs,args,v⟩:=y
  by_cases hj:(j==i)=true
  .obtain ⟨r,hr,hob⟩:=hs ⟨0,fun _=>none,fun _=>0,fun _=>.empty⟩
   have hr0:=hr;unfold P2 at hr;rw[hh]at hr;simp only at hr;rw[if_pos hj]at hr
   split at hr
   .rename_i l hg hv hi
    injection hr with hr;subst hr
    have hl:l=args:=hob.1;subst hl;have hji:j=i:=by simpa using hj
    subst hji;have hw:Region.wanted o (yielded ops a.tmps)=true:=by simp[Region.wanted,hg]
    rw[if_pos hw];obtain⟨g1,g2⟩:=hH _ _ _ _ hh o hio s a w h hv;exact o4 g1 (hK _ _ _ _ hr0 (h.put o.dst (iP hi) v (fun _=>g2) v.den fun _=>rfl))
   cases hr
  exact plain fun x=>by
   unfold P2;rw[hh];simp only;rw[if_neg hj]
theorem xa{tb:List Nat}(hT:o7 P T)(hops:ops=all.toArray)(htb:∀i j,kM tb i j=true->E4 all i j)(hH:cM C P all H){n0:Nat}{zo:List Oper}(hz1:zo.length<=1)(hz2:∀k o,ops[k]? = some o->k<n0 \/ (k=n0/\zo=[o]))(hz3:∀o,zo=[o]->ops[n0]? = some o/\(∀j,j<n0->∃e∈o.after.toList,Region.binds .any e=true/\e.on=j)/\∀e∈o.after.toList,Region.binds .any e=true->e.on<n0)(hz4:n0<=ops.size):∀(n:Nat) (L:List (Nat×Oper)) (fs:List F7) (listed:Array Bool) (s:St) (a:Act) (w:World),L.length=n->i5 C s a w->NM s (ds fs)->Ord fs->vd tb L fs->(∀k o,all[k]? = some o->listed.getD k false=true->∀e∈o.after.toList,Region.binds .any e=true->listed.getD e.on false=true) →
  L.Pairwise (fun x y=>x.1<y.1)->(∀x∈L,ops[x.1]? = some x.2/\listed.getD x.1 true=false)->(∀k o,k<n0->ops[k]? = some o->listed.getD k true=false->(k,o)∈L)->(∀o,zo=[o]->listed.getD n0 true=false)->(∀x∈L,x.1<n0)->listed.size=ops.size →
  (∀x∈L,∀e∈x.2.after.toList,Region.binds .any e=true->e.on<x.1) →
  (∀X,∃τ obs,K7 std T cs H X all L s=some (τ,obs,fs)/\i7 P C.K obs/\∀a' w',i5 C τ a' w'->wpList P ops Q zo a' w')->wpAny P .any ops Q (n+zo.length) listed a w
 |0,L,fs,listed,s,a,w,hn,h,hNM,Z,hP,hDC,hsr,hL,hA,hZ,hLn,hsz,hE,hs=>by
  have:L=[]:=List.eq_nil_of_length_eq_zero hn;subst this;have all0:∀k,k<n0->listed.getD k false=true:=by
   intro k hk
   by_cases hl:listed.getD k false=true
   .exact hl
   have:=hA k _ hk (Array.getElem?_eq_getElem (by omega)) (iR (by rw[hsz];omega) hl)
   cases this
  obtain⟨τ,obs,e1,_,e2⟩:=hs (fun _=>⟨0,fun _=>none,fun _=>0,fun _=>.empty⟩);simp only[K7,Option.some.injEq,Prod.mk.injEq]at e1;obtain⟨rfl,_⟩:=e1;have hfin:=e2 a w h
  match zo,hz1,hz2,hz3,hZ,hfin with
  | [],_,hz2,_,_,hfin=>
   refine⟨?_,hfin⟩
   cases hr:Region.ready .any ops listed with
   |nil=>rfl
   |cons i r=>
    obtain⟨h1,o,h2,_⟩:=mem_ready.1 (hr ▸ List.mem_cons_self:i∈Region.ready .any ops listed)
    rcases hz2 i o h2 with hi|⟨_,hi⟩
    .cases hA i o hi h2 h1
    cases hi
  | [o],_,hz2,hz3,hZ,hfin=>
   obtain⟨g1,g2,g3⟩:=hz3 o rfl;refine⟨fun hr=>?_,fun i hi=>?_⟩
   .exfalso
    have:n0∈Region.ready .any ops listed:=mem_ready.2 ⟨hZ o rfl,o,g1,fun e he hb=>all0 _ (g3 e (by simpa using he) hb)⟩;rw[hr]at this;cases this
   obtain⟨h1,o',h2,h3⟩:=mem_ready.1 hi
   rcases hz2 i o' h2 with hi'|⟨hi',ho'⟩
   .cases hA i o' hi' h2 h1
   injection ho' with ho' _
   subst ho';subst hi';have fin:∀a w,wpList P ops Q [] a w->wpAny P .any ops Q 0 (listed.setIfInBounds i true) a w:=by
    intro a w hq;refine⟨?_,hq⟩
    cases hr:Region.ready .any ops (listed.setIfInBounds i true)with
    |nil=>rfl
    |cons k r=>
     obtain⟨k1,ok,k2,_⟩:=mem_ready.1 (hr ▸ List.mem_cons_self:k∈Region.ready .any ops (listed.setIfInBounds i true))
     rcases hz2 k ok k2 with hk|⟨hk,_⟩
     .rw [getD_set_ne true (by omega)]at k1
      cases hA k ok hk k2 k1
     subst hk;have hlt:k<listed.size:=by rw[hsz];exact(Array.getElem?_eq_some_iff.1 h2).1
     simp[Array.getD_eq_getD_getElem?,hlt]at k1
   unfold wpOp;simp only[h2];unfold wpList at hfin
   by_cases hw:Region.wanted o (yielded ops a.tmps)=true
   .rw [if_pos hw]at hfin ⊢
    exact hfin.imp (Oper.wp_mono fin) id
   rw[if_neg hw]at hfin ⊢;exact fin _ _ hfin
  |_::_::_,hz1,_,_,_,_=>simp at hz1
 |n+1,L,fs,listed,s,a,w,hn,h,hNM,Z,hP,hDC,hsr,hL,hA,hZ,hLn,hsz,hE,hs=>by
  rw[show n+1+zo.length=(n+zo.length)+1 by omega];refine⟨fun hr=>?_,fun i hi=>?_⟩
  .-- the first one that is left may come up
   exfalso
   cases L with
   |nil=>cases hn
   |cons x L=>
    obtain⟨i0,o0⟩:=x;obtain⟨h1,h2⟩:=hL (i0,o0) (by simp);have:i0∈Region.ready .any ops listed:=mem_ready.2 ⟨h2,o0,h1,fun e he hb=>by
     have hlt:=hE (i0,o0) (by simp) e (by simpa using he) hb;simp only at hlt;have hi0:i0<ops.size:=(Array.getElem?_eq_some_iff.1 h1).1;have hon:e.on<listed.size:=by rw[hsz];omega
     by_cases hl:listed.getD e.on false=true
     .exact hl
     exfalso
     have hm:=hA e.on _ (by have:=hLn (i0,o0) (by simp);simp only at this;omega) (Array.getElem?_eq_getElem (by omega)) (iR hon hl)
     rcases List.mem_cons.1 hm with he'|hm
     .injection he' with he';omega
     have:=(List.pairwise_cons.1 hsr).1 _ hm;simp only at this;omega⟩
    rw[hr]at this
    cases this
  obtain⟨h1,o,h2,h3⟩:=mem_ready.1 hi;have hi0:i<n0:=by
   rcases hz2 i o h2 with hi0|⟨rfl,ho⟩
   .exact hi0
   exfalso
   cases L with
   |nil=>cases hn
   |cons x L=>
    obtain⟨_,g2,_⟩:=hz3 o ho;obtain⟨e,q1,q2,q3⟩:=g2 x.1 (hLn x (by simp));have q4:=h3 e (by simpa using q1) q2;have q5:=(hL x (by simp)).2;rw[q3,Z0 q5]at q4
    cases q4
  have hio:all[i]? = some o:=by rw[hops]at h2;simpa using h2
  have hin:=hA i o hi0 h2 h1;obtain⟨L1,L2,rfl⟩:=List.append_of_mem hin;obtain⟨fs1,f,fs2,hlen,rfl⟩:∃fs1 f fs2,fs1.length=L1.length/\fs=fs1++f::fs2:=by
   have hl:=hP.1;simp only[List.length_append,List.length_cons]at hl;have hlt:L1.length<fs.length:=by omega
   refine⟨fs.take L1.length,fs[L1.length],fs.drop (L1.length+1),by simp;omega,?_⟩;rw[<-List.drop_eq_getElem_cons hlt,List.take_append_drop]
  obtain⟨hP1,hcm⟩:=dD hlen hP.2;have hcomm:∀g∈fs1,jk g f=true:=by
   intro g hg;obtain⟨k,hk⟩:=List.getElem?_of_mem hg;have hkl:k<L1.length:=by rw[<-hlen];exact(List.getElem?_eq_some_iff.1 hk).1
   rcases hcm k _ g (List.getElem?_eq_getElem hkl) hk with he|he
   .exfalso
    have h5:=(hL L1[k] (List.mem_append_left _ (List.getElem_mem hkl))).2;have hr:=htb _ _ he;have dc:∀{i j:Nat},E4 all i j->(∀o e,all[i]? = some o->e∈o.after.toList->Region.binds .any e=true->listed.getD e.on false=true)->listed.getD j false=true:=by
     intro i j hr
     induction hr with
     |one h1 h2 h3 h4=>intro hi;rw[<-h4];exact hi _ _ h1 h2 h3
     |more h1 h2 h3 h4 ih=>intro hi;exact ih fun o e g1 g2 g3=>hDC _ o g1 (hi _ _ h1 h2 h3) e g2 g3
    have h4:=dc hr fun o' e g1 g2 g3=>by
     have:o'=o:=by
      have e1:ops[i]? = some o':=by rw[hops];simpa using g1
      rw[h2]at e1;injection e1 with e1;exact e1.symm
     subst this;exact h3 e (by simpa using g2) g3
    rw[Z0 h5]at h4
    cases h4
   exact he
  have mf:∀X,∃δ ob,P2 std T cs H (X i) all i o s=some (δ,ob,f)/\i7 P C.K ob/\∃τ' obs',K7 std T cs H X all (L1++L2) (s.app δ)=some (τ',obs',fs1++fs2)/\i7 P C.K obs'/\∀a' w',i5 C τ' a' w'->wpList P ops Q zo a' w':=by
   intro X;obtain⟨τ,obs,e1,e2,e3⟩:=hs X;obtain⟨δ,ob,g1,τ',obs',g2,g3,g4⟩:=gF (P:=P) e1 hlen hNM Z hcomm;exact⟨δ,ob,g1,(g4 e2).1,τ',obs',g2,(g4 e2).2,fun a' w' hf=>e3 a' w' (hf.alike g3)⟩
  have hsrt:(L1++L2).Pairwise (fun x y=>x.1<y.1):=hsr.sublist (List.Sublist.append_left (List.sublist_cons_self _ _) _);have hnot:∀x∈L1++L2,x.1≠i:=by
   intro x hx;rw[List.pairwise_append]at hsr;obtain⟨p1,p2,p3⟩:=hsr
   rcases List.mem_append.1 hx with hx|hx
   .have:=p3 x hx (i,o) (by simp);simp only at this;omega
   have:=(List.pairwise_cons.1 p2).1 x hx;simp only at this;omega
  have key:=oW (C:=C) (K:=fun a' w'=>wpAny P .any ops Q (n+zo.length) (listed.setIfInBounds i true) a' w') (Q:=Q) (cs:=cs) (i:=i) (o:=o) hT hH hio hops h (fun x=>by
   obtain⟨δ,ob,g1,g2,_⟩:=mf (fun _=>x);exact⟨_,g1,g2⟩) (fun x r a' w' hr hf=>by
   have hfo:=aN hr;obtain⟨δ,ob,f'⟩:=r;obtain⟨δ0,ob0,g0,_⟩:=mf (fun _=>x);rw[hr]at g0;injection g0 with g0;injection g0 with q1 q2;injection q2 with q2 q3
   subst q1;subst q2;subst q3;have hinF:∀g∈fs1++fs2,g∈fs1++f'::fs2:=fun g hg=>by
    rcases List.mem_append.1 hg with hg|hg
    .exact List.mem_append_left _ hg
    exact List.mem_append_right _ (List.mem_cons_of_mem _ hg)
   obtain⟨n1,n2⟩:=eU hfo (gs:=fs1++fs2) hNM (by simp) hinF (fun g hg=>by
    rcases List.mem_append.1 hg with hg|hg
    .have:=hcomm g hg
     simp only[jk,Bool.and_eq_true]at this;exact this.1.1.1.1.1.1.1.1.1
    exact(List.pairwise_cons.1 (List.pairwise_append.1 Z).2.1).1 g hg)
   refine xa hT hops htb hH hz1 hz2 hz3 hz4 n (L1++L2) (fs1++fs2) (listed.setIfInBounds i true) (s.app δ) a' w' ?_ hf n2 ?_ ?_ ?_ hsrt ?_ ?_ (fun o' ho'=>by rw[getD_set_ne true (by omega)];exact hZ o' ho') ?_ (by simpa using hsz) ?_ ?_
   .simp at hn ⊢;omega
   .exact Z.sublist (List.Sublist.append_left (List.sublist_cons_self _ _) _)
   .refine ⟨?_,hP1⟩
    have:=hP.1;simp at this ⊢;omega
   .intro k ok hk hu e he hb
    by_cases hki:k=i
    .subst hki
     have:ok=o:=by
      have e1:ops[k]? = some ok:=by rw[hops];simpa using hk
      rw[h2]at e1;injection e1 with e1;exact e1.symm
     subst this;have hl:=h3 e (by simpa using he) hb
     by_cases hei:e.on=k
     .have:=hE (k,ok) hin e he hb
      simp only at this;omega
     rw[getD_set_ne false (fun e'=>hei e'.symm)];exact hl
    rw[getD_set_ne false (fun e'=>hki e'.symm)]at hu;have hl:=hDC k ok hk hu e he hb
    by_cases hei:e.on=i
    .rw [hei]at hl
     have h5:=(hL (i,o) hin).2;simp only at h5;rw[Z0 h5]at hl;cases hl
    rw[getD_set_ne false (fun e'=>hei e'.symm)];exact hl
   .intro x' hx
    have hx':x'∈L1++(i,o)::L2:=by
     rcases List.mem_append.1 hx with hx|hx
     .exact List.mem_append_left _ hx
     exact List.mem_append_right _ (List.mem_cons_of_mem _ hx)
    obtain⟨e1,e2⟩:=hL x' hx';refine⟨e1,?_⟩;rw[getD_set_ne true (fun e=>hnot x' hx e.symm)];exact e2
   .intro k ok hkn hk hu
    by_cases hki:k=i
    .subst hki
     have hlt:k<listed.size:=by rw[hsz];exact(Array.getElem?_eq_some_iff.1 h2).1
     simp[Array.getD_eq_getD_getElem?,hlt]at hu
    rw[getD_set_ne true (fun e=>hki e.symm)]at hu;have:=hA k ok hkn hk hu
    rcases List.mem_append.1 this with hx|hx
    .exact List.mem_append_left _ hx
    rcases List.mem_cons.1 hx with hx|hx
    .injection hx with hx;exact absurd hx hki
    exact List.mem_append_right _ hx
   .intro x' hx
    refine hLn x' ?_
    rcases List.mem_append.1 hx with hx|hx
    .exact List.mem_append_left _ hx
    exact List.mem_append_right _ (List.mem_cons_of_mem _ hx)
   .intro x' hx
    refine hE x' ?_
    rcases List.mem_append.1 hx with hx|hx
    .exact List.mem_append_left _ hx
    exact List.mem_append_right _ (List.mem_cons_of_mem _ hx)
   intro X;obtain⟨Y,hY,hYX⟩:∃Y:Nat->j8,Y i=x/\∀j,j≠i->Y j=X j:=⟨fun j=>if j=i then x else X j,by simp,fun j hj=>by simp[hj]⟩
   obtain⟨δ1,ob1,g1,_,τ',obs',g2,g3,g4⟩:=mf Y;rw[hY,hr]at g1;injection g1 with g1;injection g1 with q1 _
   subst q1;rw[fk _ _ (fun x' hx=>hYX x'.1 (hnot x' hx))]at g2;exact⟨τ',obs',g2,g3,g4⟩)
  unfold wpOp;simp only[h2]
  by_cases hw:Region.wanted o (yielded ops a.tmps)=true
  .rw [if_pos hw]at key ⊢
   exact .inl key
  rw[if_neg hw]at key ⊢;exact key
def zC(all:List Oper)(n0:Nat):Bool:=Nat.ble n0 all.length&&(match all.drop n0 with
 | []=>true
 | [o]=>(List.range n0).all (fun j=>o.after.toList.any fun e=>Region.binds .any e&&e.on==j)&&o.after.toList.all (fun e=>!(Region.binds .any e)||Nat.blt e.on n0)
 |_=>false)
theorem yN{s:St}{a:Act}{w:World}{id:Nat}{all:List Oper}(n0:Nat)(H:nI)(hH:cM C P all H)(hm:P.follows .mixedOrders=true)(hT:o7 P T)(kp km:List Nat)(cs:List (Nat×CS))(h:i5 C s a w)(hgs:s.gs=[])(fs:List F7)(hD:cG (all.take n0) fs=true)(hZ:zC all n0=true)(hlen:(all.take n0).length=fs.length)
  {R:Alg->(Nat->j8)->St×List Ob}
  (hex:∀A X,(K7 A T cs H X all (o9 0 (all.take n0)) s).map (fun r=>((r.1.keep kp km,r.2.1),r.2.2))=some (R A X,fs)) (hob:∀X,i7 P C.K (R std X).2) (hQ:∀X a' w',i5 C (R std X).1 a' w'->wpList P all.toArray Q (all.drop n0) a' w'):(Code.region id all.toArray true).wp P Q a w:=by
 simp only[cG,Bool.and_eq_true]at hD;obtain⟨⟨d1,d2⟩,d3⟩:=hD;simp only[zC,Bool.and_eq_true,Nat.ble_eq]at hZ;obtain⟨hn0,hZ⟩:=hZ;refine wp_region_any hm ?_;have hf:i5 C s a { w with drawn:=w.drawn+1 }:=h.world (fun _ _ _=>rfl) (fun _ _ _ _ _=>rfl) ⟨h.chg.os,h.chg.tape,h.chg.output,h.chg.size,h.chg.block⟩ (fun _ _ _ hc _=>hc) (fun _ _ h _=>h);have hnl:∀(l:List Oper) (i:Nat),(o9 i l).length=l.length:=by
  intro l
  induction l with
  |nil=>intro i;rfl
  |cons o l ih=>intro i;simp[o9,ih]
 have htk:(all.take n0).length=n0:=by simp;omega
 have hzl:(all.drop n0).length<=1:=by
  revert hZ
  cases all.drop n0 with
  |nil=>intro _;simp
  |cons x l=>cases l with
   |nil=>intro _;simp
   |cons y l=>intro h;cases h
 have hsz:all.toArray.size=(o9 0 (all.take n0)).length+(all.drop n0).length:=by rw[hnl,htk];simp;omega
 have hgt:∀{k o},(all.take n0)[k]? = some o->all[k]? = some o/\k<n0:=by
  intro k o hk;have hlt:=(List.getElem?_eq_some_iff.1 hk).1;rw[htk]at hlt;rw[List.getElem?_take,if_pos hlt]at hk;exact⟨hk,hlt⟩
 have hlst:∀k (b:Bool),k<all.length->(Array.replicate all.toArray.size false).getD k b=false:=by
  intro k b hk;have:k<all.toArray.size:=by simpa using hk
  simp[Array.getD_eq_getD_getElem?,hk]
 have hsz0:all.toArray.size=all.length:=by simp
 have hmk:∀i j,kM (fY (all.take n0) []) i j=true->E4 all i j:=by
  intro i j hij;have:=eW (all:=all.take n0) (l:=all.take n0) (tb:=[]) rfl (fun i j h=>by simp at h) i j hij;have conv:∀{i j},E4 (all.take n0) i j->E4 all i j:=by
   intro i j hw
   induction hw with
   |one h1 h2 h3 h4=>exact .one (hgt h1).1 h2 h3 h4
   |more h1 h2 h3 h4 ih=>exact .more (hgt h1).1 h2 h3 ih
  exact conv this
 rw[hsz];refine xa (cs:=cs) (all:=all) (tb:=fY (all.take n0) []) hT rfl hmk hH (n0:=n0) (zo:=all.drop n0) hzl ?_ ?_ (by simpa using hn0) _ (o9 0 (all.take n0)) fs _ s a _ rfl hf (fun t p v hl=>by rw[hgs]at hl;cases hl) ?_ ⟨by rw[hnl];exact hlen,d1⟩ ?_ (aB _ 0) ?_ ?_ ?_ ?_ ?_ ?_ ?_
 .intro k o hk
  have hk':all[k]? = some o:=by simpa using hk
  have hlt:=(List.getElem?_eq_some_iff.1 hk').1
  by_cases hkn:k<n0
  .exact .inl hkn
  right
  have h1:(all.drop n0)[k-n0]? = some o:=by rw[List.getElem?_drop];rw[show n0+(k-n0)=k by omega];exact hk'
  have h2:=(List.getElem?_eq_some_iff.1 h1).1;have h3:k=n0:=by omega
  subst h3;refine⟨rfl,?_⟩
  revert hzl h1
  generalize all.drop k=dl
  intro hzl h1
  match dl,hzl,h1 with
  | [x],_,h1=>simp at h1;rw[h1]
  | [],_,h1=>simp at h1
  |_::_::_,hzl,_=>simp at hzl
 .intro o ho
  rw[ho]at hZ;simp only[Bool.and_eq_true]at hZ;refine⟨?_,fun j hj=>?_,fun e he hb=>?_⟩
  .have:(all.drop n0)[0]? = some o:=by rw[ho];rfl
   rw[List.getElem?_drop]at this
   simpa using this
  .have:=List.all_eq_true.1 hZ.1 j (List.mem_range.2 hj)
   obtain⟨e,he,hb⟩:=List.any_eq_true.1 this;simp only[Bool.and_eq_true,beq_iff_eq]at hb;exact⟨e,he,hb.1,hb.2⟩
  have:=List.all_eq_true.1 hZ.2 e he
  simpa[hb]using this
 .exact kZ d3
 .intro k o hk hu
  exfalso
  rw[<-hsz,hlst k false (List.getElem?_eq_some_iff.1 hk).1]at hu
  cases hu
 .intro x hx
  obtain⟨h1,h2⟩:=aj hx;rw[Nat.sub_zero]at h2;obtain⟨h3,_⟩:=hgt h2;exact⟨by simpa using h3,by rw[<-hsz];exact hlst _ _ (List.getElem?_eq_some_iff.1 h3).1⟩
 .intro k o hkn hk _
  have hk':(all.take n0)[k]? = some o:=by rw[List.getElem?_take,if_pos hkn];simpa using hk
  have:=bO (i:=0) (l:=all.take n0) (k:=k) (o:=o) hk'
  rwa[Nat.zero_add]at this
 .intro o ho
  have:(all.drop n0).length=1:=by rw[ho];rfl
  rw[<-hsz];exact hlst _ _ (by simp at this;omega)
 .intro x hx
  obtain⟨h1,h2⟩:=aj hx;rw[Nat.sub_zero]at h2;exact(hgt h2).2
 .rw [<-hsz];simp
 .have ed:∀(L:List (Nat×Oper)),dS L=true->∀x∈L,∀e∈x.2.after.toList,Region.binds .any e=true->e.on<x.1:=by
   intro L
   induction L with
   |nil=>intro _ x hx;cases hx
   |cons y L ih=>
    obtain⟨i,o⟩:=y;intro hL x hx e he hb;simp only[dS,Bool.and_eq_true]at hL
    rcases List.mem_cons.1 hx with rfl|hx
    .have:=List.all_eq_true.1 hL.1 e he
     simpa[hb]using this
    exact ih hL.2 x hx e he hb
  exact ed _ d2
 intro X;obtain⟨r,hr,e⟩:=Option.map_eq_some_iff.1 (hex std X);obtain⟨τ,obs,fs'⟩:=r;simp only[Prod.mk.injEq]at e;obtain⟨e1,rfl⟩:=e;refine⟨τ,obs,hr,?_,fun a' w' hf'=>hQ X a' w' ?_⟩
 .have:=hob X;rw[<-e1]at this;exact this
 rw[<-e1];exact hf'.keep kp km
theorem V4{s:St}{a:Act}{w:World}{id:Nat}{all:List Oper}{B:Alg}(O:B=std)(n0:Nat)(H:nI)(hH:cM C P all H)(hm:P.follows .mixedOrders=true)(hT:o7 P T)(kp km:List Nat)(cs:List (Nat×CS))(h:i5 C s a w)(hgs:s.gs=[])(fs:List F7)(hD:cG (all.take n0) fs=true)(hZ:zC all n0=true)(hlen:(all.take n0).length=fs.length)
  {R:Alg->(Nat->j8)->St×List Ob}
  (hex:∀A X,(K7 A T cs H X all (o9 0 (all.take n0)) s).map (fun r=>((r.1.keep kp km,r.2.1),r.2.2))=some (R A X,fs)) (hob:∀X,i7 P C.K (R B X).2) (hQ:∀X a' w',i5 C (R B X).1 a' w'->wpList P all.toArray Q (all.drop n0) a' w'):(Code.region id all.toArray true).wp P Q a w:=by
 subst O;exact yN n0 H hH hm hT kp km cs h hgs fs hD hZ hlen hex hob hQ
end
end Go.Proofs.YtmbkanpapkhnaaaGreat.Sym
namespace Go.Proofs.YtmbkanpapkhnaaaGreat
open Go.RowKit Sym
def app{α : Type}(l:List α):Dec (List α)->Dec (List α)
 | .error e=>.error e
 | .ok (r,s)=>.ok (l++r,s)
def Nv:Option Int->Nat->Bool
 |none,_=>false
 |some q,k=>decide ((k:Int)<=q)
def Hy:Nat->Option Int->List UInt8->Dec (List Itm)
 |0,_,s=>.ok ([],s)
 |n+1,p,s=>match yP s with
  | .error e=>.error e
  | .ok (k,r)=>if Nv p k then .error 3 else match NC r with
   | .error e=>.error e
   | .ok (t,r2)=>if 64<t.length then .error 3 else app [⟨k,mkB t⟩] (Hy n (some k) r2)
def BY(s:List UInt8):Dec (List Itm):=match yP s with
 | .error e=>.error e
 | .ok (n,r)=>if 16<n then .error 3 else Hy n none r
def Fy(s:List UInt8):Dec Lab:=match yP s with
 | .error e=>.error e
 | .ok (n,r)=>if n=0 then .ok (F1,r)else if n=1 then NE r else .error 3
def fin(r:Rec)(rest:List UInt8):Except Int Rec:=if rest=[]then .ok r else .error 3
def FA(k:Nat)(l:List Itm)(nx:Lab)(s:List UInt8):Dec Rec:=if k=5 then(match yP s with
  | .error e=>.error e
  | .ok (v,r)=>.ok (⟨k,l,nx,v⟩,r))else .ok (⟨k,l,nx,0⟩,s)
def FB(k:Nat)(s:List UInt8):Dec Rec:=match BY s with
 | .error e=>.error e
 | .ok (l,r)=>match Fy r with
  | .error e=>.error e
  | .ok (nx,r2)=>FA k l nx r2
def ND(s:List UInt8):Dec Rec:=match yP s with
 | .error e=>.error e
 | .ok (k,r)=>if k<1 \/ 5<k then .error 3 else if Q9 k then .ok (⟨k,[],F1,0⟩,r)else FB k r
def Ke(s:List UInt8):Except Int Rec:=match ND s with
 | .error e=>.error e
 | .ok (r,rest)=>fin r rest
section
variable {m k:Nat} {p:Option Int} {s r r2 t:List UInt8} {e:Int}
end
def f5(f:Nat->Itm)(i:Nat):List Itm:=(List.range i).map f
def V3(f:Nat->Itm)(i:Nat)(x:Itm):Nat->Itm:=fun t=>if t=i then x else f t
theorem Q8(f:Nat->Itm)(i:Nat)(x:Itm):f5 (V3 f i x) (i+1)=f5 f i ++ [x]:=by
 unfold f5;rw[List.range_succ,List.map_append]
 congr 1
 .apply List.map_congr_left
  intro t ht;have:=List.mem_range.1 ht;simp[V3,show ¬t=i by omega]
 simp[V3]
theorem j2(f:Nat->Itm)(i:Nat):(f5 f i).length=i:=by simp[f5]
theorem u6(f:Nat->Itm)(n:Nat):∀t,t<n->itF (f5 f n) t=f t:=by
 intro t ht;simp[itF,f5,List.getD,ht]
end Go.Proofs.YtmbkanpapkhnaaaGreat
