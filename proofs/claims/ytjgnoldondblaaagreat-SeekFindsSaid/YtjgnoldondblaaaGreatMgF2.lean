/-
  Sym8, Sym9, SymKit, SymMan, PlB, PlNum, PlWire, PlDec, PlRec, SymEq, SymLab, SymRd, SymRec1, OpenS08, SymFr, SymArr, SymFz, SymMap, SymHd, PlGet, PlShelf, SymSh, SymShM, PlBack: put together by a program of mine (a claim may have 60 files at most). Conditions: none.
-/
import Derived.WalkKit
import Derived.WalkLawsBesides
import Derived.WalkSpells
import Derived.Lib.Hide
import Derived.Deep.QuietTactic
import Derived.BigQuiet
import Derived.Deep.LoopGhost
import Derived.Deep.DeepCutAuto
import Derived.Deep.RegionLaw
import Derived.Lib.Overlaps
import Derived.Laws.CopyOwn
import Derived.IntWalk
import Derived.ProofKit
import Derived.OpenShut
import Derived.ShutString
import Derived.ChangeOld
import Derived.Deep.Slices
import Derived.Test.YtjgnoldondblaaaGreatProg
import Derived.Orders
import Derived.OrdersHeld
import Derived.Defers
import Derived.Recover
import Derived.Lib.BitFns
import Derived.ChangeKeysEq
import Derived.Test.YtjgnoldondblaaaGreatChecked
import Derived.Lib.BufferWrite
import Derived.Maps.OwnSet
import Derived.Maps.RangeWalk
import Derived.Maps.Ext
import Derived.DeepKeys4
import Derived.Test.YtjgnoldondblaaaGreatMgF1
set_option linter.unusedVariables false
set_option linter.unusedSimpArgs false
set_option maxRecDepth 100000
set_option maxHeartbeats 1600000
namespace Go.Proofs.YtjgnoldondblaaaGreat.Sym
open Go.RowKit
def AgT (s s':St) (U:List Nat):Prop:=∀ t ∈ U,look s.tmps t=look s'.tmps t ∧ lookG s.gs t=lookG s'.gs t
def AgM (s s':St) (R:List Nat):Prop:=∀ k ∈ R,lookM s.mem k=lookM s'.mem k
def AgR (s s':St) (R:List Nat):Prop:=∀ k ∈ R,lookM s.gr k=lookM s'.gr k
theorem AgT.sub {s s':St} {U V:List Nat} (h:AgT s s' U) (hs:∀ t ∈ V,t ∈ U):AgT s s' V:=fun t ht => h t (hs t ht)
theorem tl_mem {l:List Operand} {t:Nat} (h:Operand.tmp t ∈ l):t ∈ tl l:=by
 induction l with
 | nil => cases h
 | cons x l ih =>
  rcases List.mem_cons.1 h with h | h
  ·subst h; simp [tl]
  have:=ih h
  cases x<;>simp [tl,this]
section
variable {s s':St} {q:List (Nat × Bool)} {A:Alg} {T:List (Nat × TI)} {cs:List (Nat × CS)} {x:Atom} {i d ty:Nat}
theorem val_local {U:List Nat} (h:AgT s s' U) (q:List (Nat × Bool)) {y:Operand} (hy:∀ t,y = .tmp t → t ∈ U):val s q y=val s' q y:=by
 cases y with
 | tmp t =>
  obtain ⟨h1,h2⟩:=h t (hy t rfl)
  simp only [val,h1,h2]
 | _ => rfl
theorem vals_local {U:List Nat} (h:AgT s s' U) (q:List (Nat × Bool)):∀ {l:List Operand},(∀ t ∈ tl l,t ∈ U) → vals s q l=vals s' q l
 | [],_ => rfl
 | y :: l,hl => by
  have h1:val s q y=val s' q y:=val_local h q fun t ht => hl t (tl_mem (by simp [ht]))
  have h2:=vals_local h q (l:=l) (fun t ht => hl t (by cases y<;>simp [tl,ht]))
  simp only [vals,h1,h2]
theorem tl_appL {t:Nat}:∀ {l r:List Operand},t ∈ tl l → t ∈ tl (l ++ r)
 | y :: l,r,h => by
  have ih:=tl_appL (t:=t) (l:=l) (r:=r)
  cases y<;>simp [tl] at h ⊢<;>first | exact ih h | (rcases h with h | h; exact .inl h; exact .inr (ih h))
theorem tl_appR {t:Nat}:∀ {l r:List Operand},t ∈ tl r → t ∈ tl (l ++ r)
 | [],r,h => h
 | y :: l,r,h => by
  have ih:=tl_appR (t:=t) (l:=l) (r:=r) h
  cases y<;>simp [tl]<;>first | exact ih | exact .inr ih
theorem valsP_local {U:List Nat} (h:AgT s s' U) (q:List (Nat × Bool)):∀ {l:List (Nat × Operand)},(∀ t ∈ tl (l.map (·.2)),t ∈ U) → valsP s q l=valsP s' q l
 | [],_ => rfl
 | (k,y) :: l,hl => by
  have h1:val s q y=val s' q y:=val_local h q fun t ht => hl t (tl_mem (by simp [ht]))
  have h2:=valsP_local h q (l:=l) (fun t ht => hl t (by cases y<;>simp [tl,ht]))
  simp only [valsP,h1,h2]
theorem bound_local {U:List Nat} (h:AgT s s' U) (q:List (Nat × Bool)) (dd:Int) {o:Option Operand} (ho:∀ t ∈ tl o.toList,t ∈ U):bound A s q dd o=bound A s' q dd o:=by
 cases o with
 | none => rfl
 | some y =>
  have h1:val s q y=val s' q y:=val_local h q fun t ht => ho t (tl_mem (by simp [ht]))
  simp only [bound,h1]
theorem stepAppend_local {v1 v2:AV} {t1:Nat} (hR:AgR s s' (growKey v1)):stepAppend A T x s d t1 v1 v2=stepAppend A T x s' d t1 v1 v2:=by
 unfold stepAppend
 cases v1 with
 | sl g A1 n c k cells =>
  cases v2 with
  | sl g2 A2 n2 c2 k2 cells2 =>
   cases lookT T t1 with
   | none => rfl
   | some ti =>
    cases g with
    | none => rfl
    | some key =>
     have e:lookM s.gr key=lookM s'.gr key:=hR key (by simp [growKey])
     simp only [e]
  | _ => rfl
 | _ => rfl
theorem preOf_local {l:List (Nat × List AV)} {K:List Nat} (hK:AgM s s' K) (hl:∀ e ∈ l,e.1 ∈ K):preOf s l=preOf s' l:=by
 induction l with
 | nil => rfl
 | cons y l ih =>
  obtain ⟨k,c⟩:=y
  have h1:lookM s.mem k=lookM s'.mem k:=hK k (hl (k,c) (by simp))
  simp only [preOf,h1,ih fun e he => hl e (List.mem_cons_of_mem _ he)]
theorem preOf_map {l:List (Nat × List AV)} {pre:List (Nat × Blk)} (h:preOf s l=some pre):l.map (·.1)=pre.map (·.1):=by
 induction l generalizing pre with
 | nil => simp [preOf] at h; subst h; rfl
 | cons y l ih =>
  obtain ⟨k,c⟩:=y
  simp only [preOf] at h
  split at h
  ·rename_i b r hb hr
   injection h with h; subst h
   simp [ih hr]
  cases h
theorem stepCall_local {v:AV} {o:Option CS} {l:Option (List AV)} {r:AV × Eff × List Ob} (h:stepCall s x v o l=some r) (hR:AgM s s' (wkOf r.2.1 ++ rdOf r.2.1)):stepCall s' x v o l=some r:=by
 unfold stepCall at h ⊢
 split at h
 ·exact h
 ·rename_i res a
  split at h
  ·rename_i pre hp
   split at h
   ·rename_i hn
    injection h with h; subst h
    have hk:=preOf_map hp
    have:=preOf_local (l:=(res x).sets) hR (fun e he => by
     have:e.1 ∈ (res x).sets.map (·.1):=List.mem_map.2 ⟨e,he,rfl⟩
     rw [hk,← upd_keys hk] at this
     simp only [wkOf,List.map_append]
     exact List.mem_append_left _ (List.mem_append_left _ this))
    rw [← this,hp]
    simp only [hn,if_true]
   cases h
  cases h
 ·rename_i f l r' ks res a
  split at h
  ·rename_i pre hp
   split at h
   ·rename_i hn
    injection h with h; subst h
    have:=preOf_local (l:=ks.map fun k => (k,([]:List AV))) hR (fun e he => by
     obtain ⟨k,hk,rfl⟩:=List.mem_map.1 he
     exact List.mem_append_right _ hk)
    rw [← this,hp]
    simp only [hn,if_true]
   cases h
  cases h
 cases h
theorem step_local {op:Op} {r:AV × Eff × List Ob} (hr:step A T cs x i s q d ty op=some r) (hU:AgT s s' (tmpsOf op)) (hR':AgM s s' (rkOf s q op ++ (wkOf r.2.1 ++ rdOf r.2.1))) (hG:AgR s s' (rgOf s q op)):step A T cs x i s' q d ty op=some r ∧ rkOf s q op=rkOf s' q op ∧ rgOf s q op=rgOf s' q op:=by
 have hR:AgM s s' (rkOf s q op):=fun k hk => hR' k (List.mem_append_left _ hk)
 have hW:AgM s s' (wkOf r.2.1 ++ rdOf r.2.1):=fun k hk => hR' k (List.mem_append_right _ hk)
 suffices hh:(step A T cs x i s q d ty op=step A T cs x i s' q d ty op ∨ step A T cs x i s' q d ty op=some r) ∧ rkOf s q op=rkOf s' q op ∧ rgOf s q op=rgOf s' q op by
  refine ⟨?_,hh.2⟩
  rcases hh.1 with h | h
  ·rw [← h]; exact hr
  exact h
 have V:∀ q {y:Operand},(∀ t,y = .tmp t → t ∈ tmpsOf op) → val s q y=val s' q y:=fun q y hy => val_local hU q hy
 cases op with
 | move y => simp only [step,rkOf,rgOf,V q (y:=y) (fun t ht => by subst ht; simp [tmpsOf,tl])]; exact ⟨.inl trivial,trivial,trivial⟩
 | makeFunc fn first cap =>
  have h1:=vals_local hU q (l:=first.toList) (fun t ht => by simp only [tmpsOf]; exact tl_appL ht)
  have h2:=vals_local hU q (l:=cap.toList) (fun t ht => by simp only [tmpsOf]; exact tl_appR ht)
  simp only [step,rkOf,rgOf,h1,h2]; exact ⟨.inl trivial,trivial,trivial⟩
 | makeInterface t y => simp only [step,rkOf,rgOf,V q (y:=y) (fun t ht => by subst ht; simp [tmpsOf,tl])]; exact ⟨.inl trivial,trivial,trivial⟩
 | nilCheck y => simp only [step,rkOf,rgOf,V q (y:=y) (fun t ht => by subst ht; simp [tmpsOf,tl])]; exact ⟨.inl trivial,trivial,trivial⟩
 | assign y => simp only [step,rkOf,rgOf,V q (y:=y) (fun t ht => by subst ht; simp [tmpsOf,tl])]; exact ⟨.inl trivial,trivial,trivial⟩
 | box t y => simp only [step,rkOf,rgOf,V q (y:=y) (fun t ht => by subst ht; simp [tmpsOf,tl])]; exact ⟨.inl trivial,trivial,trivial⟩
 | extract y n => simp only [step,rkOf,rgOf,V q (y:=y) (fun t ht => by subst ht; simp [tmpsOf,tl])]; exact ⟨.inl trivial,trivial,trivial⟩
 | unOp o t y => simp only [step,rkOf,rgOf,V q (y:=y) (fun t ht => by subst ht; simp [tmpsOf,tl])]; exact ⟨.inl trivial,trivial,trivial⟩
 | fieldAddr t y f => simp only [step,rkOf,rgOf,V q (y:=y) (fun t ht => by subst ht; simp [tmpsOf,tl])]; exact ⟨.inl trivial,trivial,trivial⟩
 | field t y f => simp only [step,rkOf,rgOf,V q (y:=y) (fun t ht => by subst ht; simp [tmpsOf,tl])]; exact ⟨.inl trivial,trivial,trivial⟩
 | convert t t' y => simp only [step,rkOf,rgOf,V q (y:=y) (fun t ht => by subst ht; simp [tmpsOf,tl])]; exact ⟨.inl trivial,trivial,trivial⟩
 | binOp o t y z t' =>
  simp only [step,rkOf,rgOf,V q (y:=y) (fun t ht => by subst ht; simp [tmpsOf,tl]),V q (y:=z) (fun t ht => by subst ht; cases y<;>simp [tmpsOf,tl])]; exact ⟨.inl trivial,trivial,trivial⟩
 | lookup t y z ok =>
  simp only [step,rkOf,rgOf,V q (y:=y) (fun t ht => by subst ht; simp [tmpsOf,tl]),V q (y:=z) (fun t ht => by subst ht; cases y<;>simp [tmpsOf,tl])]; exact ⟨.inl trivial,trivial,trivial⟩
 | indexAddr t y z =>
  simp only [step,rkOf,rgOf,V q (y:=y) (fun t ht => by subst ht; simp [tmpsOf,tl]),V q (y:=z) (fun t ht => by subst ht; cases y<;>simp [tmpsOf,tl])]; exact ⟨.inl trivial,trivial,trivial⟩
 | index t y z =>
  simp only [step,rkOf,rgOf,V q (y:=y) (fun t ht => by subst ht; simp [tmpsOf,tl]),V q (y:=z) (fun t ht => by subst ht; cases y<;>simp [tmpsOf,tl])]; exact ⟨.inl trivial,trivial,trivial⟩
 | load t p =>
  have hp:=V q (y:=p) (fun t ht => by subst ht; simp [tmpsOf,tl])
  simp only [rkOf,hp] at hR ⊢
  refine ⟨.inl ?_,trivial,rfl⟩
  simp only [step,hp]
  cases hv:val s' q p with
  | ptr key b off =>
   have this:lookM s.mem key=lookM s'.mem key:=hR key (by rw [hv]; simp [keyOf])
   cases lookT T t with
   | none => rfl
   | some ti => simp only [this]
  | _ => cases lookT T t<;>rfl
 | store t p y =>
  have hp:=V q (y:=p) (fun t ht => by subst ht; simp [tmpsOf,tl])
  have hy:=V q (y:=y) (fun t ht => by subst ht; cases p<;>simp [tmpsOf,tl])
  simp only [rkOf,hp] at hR ⊢
  refine ⟨.inl ?_,trivial,rfl⟩
  simp only [step,hp,hy]
  cases hv:val s' q p with
  | ptr key b off =>
   have this:lookM s.mem key=lookM s'.mem key:=hR key (by rw [hv]; simp [keyOf])
   cases lookT T t with
   | none => rfl
   | some ti => simp only [this]
  | _ => cases lookT T t<;>rfl
 | pick c y z =>
  refine ⟨.inl ?_,rfl,rfl⟩
  cases c with
  | tmp c =>
   have h1:=V q (y:=.tmp c) (fun t ht => by injection ht with ht; subst ht; simp [tmpsOf,tl])
   have h2:=fun q => V q (y:=y) (fun t ht => by subst ht; simp [tmpsOf,tl])
   have h3:=fun q => V q (y:=z) (fun t ht => by subst ht; cases y<;>simp [tmpsOf,tl])
   simp only [step,h1,h2,h3]
  | _ => rfl
 | build t ps =>
  refine ⟨.inl ?_,rfl,rfl⟩
  have:=valsP_local hU q (l:=ps.toList) (fun t ht => ht)
  simp only [step,this]
 | buildSlice t n ps =>
  refine ⟨.inl ?_,rfl,rfl⟩
  have:=valsP_local hU q (l:=ps.toList) (fun t ht => ht)
  simp only [step,this]
 | slice t y lo hi mx =>
  refine ⟨.inl ?_,rfl,rfl⟩
  cases mx with
  | some m =>
   have h1:=V q (y:=y) (fun t ht => by subst ht; simp [tmpsOf,tl])
   have h2:∀ dd,bound A s q dd lo=bound A s' q dd lo:=fun dd => bound_local hU q dd (fun t ht => tl_appR (l:=[y]) (tl_appL ht))
   have h3:∀ dd,bound A s q dd hi=bound A s' q dd hi:=fun dd => bound_local hU q dd (fun t ht => tl_appR (l:=[y]) (tl_appR (tl_appL ht)))
   have h4:∀ dd,bound A s q dd (some m)=bound A s' q dd (some m):=fun dd => bound_local hU q dd (fun t ht => tl_appR (l:=[y]) (tl_appR (tl_appR ht)))
   simp only [step,h1,h2,h3,h4]
  | none =>
   have h1:=V q (y:=y) (fun t ht => by subst ht; simp [tmpsOf,tl])
   have h2:∀ dd,bound A s q dd lo=bound A s' q dd lo:=fun dd => bound_local hU q dd (fun t ht => tl_appR (l:=[y]) (tl_appL ht))
   have h3:∀ dd,bound A s q dd hi=bound A s' q dd hi:=fun dd => bound_local hU q dd (fun t ht => tl_appR (l:=[y]) (tl_appR (tl_appL ht)))
   simp only [step,h1,h2,h3]
 | call c =>
  have h1:=vals_local hU q (l:=c.args.toList) (fun t ht => by simp only [tmpsOf]; exact tl_appR ht)
  have hv:∀ y,y ∈ c.args.toList → val s q y=val s' q y:=fun y hy => V q (fun t ht => by subst ht; simp only [tmpsOf]; exact tl_appR (tl_mem hy))
  have hrg:rgOf s q (.call c)=rgOf s' q (.call c):=by
   simp only [rgOf]
   cases ha:c.args.toList with
   | nil => rfl
   | cons o r => exact congrArg growKey (hv o (by rw [ha]; simp))
  refine ⟨?_,rfl,hrg⟩
  cases hc:c.callee with
  | builtin b =>
   refine .inl ?_
   simp only [step,h1,hc]
   cases b with
   | len =>
    simp only
    split
    ·rename_i y t hy _
     rw [hv y (by rw [hy]; simp)]
    rfl
   | append =>
    simp only
    split
    ·rename_i y z t1 t2 hy _
     have e1:=hv y (by rw [hy]; simp)
     have e2:=hv z (by rw [hy]; simp)
     rw [e1,e2]
     have hG':AgR s s' (growKey (val s' q y)):=by
      have:rgOf s q (.call c)=growKey (val s q y):=by simp only [rgOf,hy]
      rw [this,e1] at hG
      exact hG
     rw [stepAppend_local hG']
    rfl
   | _ => rfl
  | value g =>
   have hg:=V q (y:=g) (fun t ht => by subst ht; simp only [tmpsOf,hc,calleeOps]; exact tl_appL (by simp [tl]))
   refine .inr ?_
   simp only [step,hc] at hr ⊢
   rw [hg,h1] at hr
   exact stepCall_local hr hW
  | invoke y m =>
   refine .inl ?_
   simp only [step,hc]
 | _ => exact ⟨.inl rfl,rfl,rfl⟩
theorem conds_local:∀ {p:List (Nat × Bool)},AgT s s' (p.map (·.1)) → conds s p=conds s' p
 | [],_ => rfl
 | (t,b) :: p,h => by
  obtain ⟨h1,h2⟩:=h t (by simp)
  have ih:=conds_local (p:=p) (h.sub fun k hk => by simp only [List.map_cons,List.mem_cons]; exact .inr hk)
  have hv:slotV s t=slotV s' t:=by simp only [slotV,h1,h2]
  simp only [conds,hv,ih]
theorem inNt_local (hn:s.nt=s'.nt) (d:Option Nat):inNt s d=inNt s' d:=by cases d<;>simp [inNt,hn]
theorem runU_local {o:Oper} {ex:List Nat} {r:Delta × List Ob × Foot} (h:runU A T cs x i o s ex=some r) (hU:AgT s s' r.2.2.cons) (hR:AgM s s' r.2.2.rk) (hG:AgR s s' r.2.2.rg) (hn:s.nt=s'.nt):runU A T cs x i o s' ex=some r:=by
 unfold runU at h ⊢
 split at h
 ·rename_i v e obs hst hnt
  injection h with h; subst h
  obtain ⟨h1,h2,h3⟩:=step_local hst (hU.sub fun t ht => List.mem_append_left _ ht) hR hG
  rw [h1,← inNt_local hn,hnt,← h2,← h3]
 cases h
theorem skipU_local {o:Oper} {ex:List Nat} (hn:s.nt=s'.nt):skipU o s ex=skipU o s' ex:=by
 unfold skipU; rw [inNt_local hn]
theorem runG_local {o:Oper} {ex:List Nat} {r:Delta × List Ob × Foot} (h:runG A T cs x i o s ex q=some r) (hU:AgT s s' r.2.2.cons) (hR:AgM s s' r.2.2.rk) (hG:AgR s s' r.2.2.rg) (hn:s.nt=s'.nt):runG A T cs x i o s' ex q=some r:=by
 unfold runG at h ⊢
 split at h
 ·cases h
 rename_i d hd
 split at h
 ·rename_i v e obs c hst hc
  split at h
  ·rename_i hb
   injection h with h; subst h
   have hqe:quiet e=true:=by simp only [Bool.and_eq_true] at hb; exact hb.1.1.1
   obtain ⟨h1,h2,h4⟩:=step_local hst (hU.sub fun t ht => List.mem_append_left _ ht) (by simpa [quiet_wk hqe] using hR) hG
   have h3:=conds_local (p:=q) (hU.sub fun t ht => List.mem_append_right _ (List.mem_append_right _ ht))
   simp only [h1,← h3,hc,← hn,← h2,← h4]
   rw [if_pos hb]
  cases h
 cases h
theorem delta_g {o:Oper} {all:List Oper} {r:Delta × List Ob × Foot} (h:delta A T cs x all i o s=some r) {j:Nat} {want:Bool} (hg:o.guard=some (j,want)) {g:Nat} (hb:(all[j]?).bind (·.dst)=some g):g ∈ r.2.2.cons:=by
 have hu:∀ {r},runU A T cs x i o s [g]=some r → g ∈ r.2.2.cons:=by
  intro r h
  unfold runU at h
  split at h
  ·injection h with h; subst h; simp
  cases h
 have hsk:∀ {r},skipU o s [g]=some r → g ∈ r.2.2.cons:=by
  intro r h
  unfold skipU at h
  split at h
  ·injection h with h; subst h; simp
  cases h
 have hr:∀ {q r},runG A T cs x i o s [g] q=some r → g ∈ r.2.2.cons:=by
  intro q r h
  unfold runG at h
  split at h
  ·cases h
  split at h
  ·split at h
   ·injection h with h; subst h; simp
   cases h
  cases h
 simp only [delta,hg,hb] at h
 split at h
 ·split at h
  ·exact hr h
  exact hsk h
 ·split at h
  ·exact hsk h
  exact hr h
 ·exact hr h
 ·cases h
 split at h
 ·split at h
  ·exact hu h
  exact hsk h
 ·split at h
  ·exact hsk h
  exact hu h
 ·exact hr h
 cases h
theorem delta_local {o:Oper} {all:List Oper} {r:Delta × List Ob × Foot} (h:delta A T cs x all i o s=some r) (hU:AgT s s' r.2.2.cons) (hR:AgM s s' r.2.2.rk) (hG:AgR s s' r.2.2.rg) (hn:s.nt=s'.nt):delta A T cs x all i o s'=some r:=by
 cases hg:o.guard with
 | none =>
  simp only [delta,hg] at h ⊢
  exact runU_local h hU hR hG hn
 | some jw =>
  obtain ⟨j,want⟩:=jw
  cases hb:(all[j]?).bind (·.dst) with
  | none => simp only [delta,hg,hb] at h; cases h
  | some g =>
   obtain ⟨e1,e2⟩:=hU g (delta_g h hg hb)
   simp only [delta,hg,hb,← e1,← e2] at h ⊢
   split at h
   ·split at h
    ·rename_i hw; rw [if_pos hw]; exact runG_local h hU hR hG hn
    rename_i hw; rw [if_neg hw,← skipU_local hn]; exact h
   ·split at h
    ·rename_i hw; rw [if_pos hw,← skipU_local hn]; exact h
    rename_i hw; rw [if_neg hw]; exact runG_local h hU hR hG hn
   ·exact runG_local h hU hR hG hn
   ·cases h
   split at h
   ·split at h
    ·rename_i hw; rw [if_pos hw]; exact runU_local h hU hR hG hn
    rename_i hw; rw [if_neg hw,← skipU_local hn]; exact h
   ·split at h
    ·rename_i hw; rw [if_pos hw,← skipU_local hn]; exact h
    rename_i hw; rw [if_neg hw]; exact runU_local h hU hR hG hn
   ·exact runG_local h hU hR hG hn
   cases h
end
def newT:Put → AV
 | .plain v => v
 | .guarded _ _ => .undef
def newG:Put → Option (List (Nat × Bool) × AV)
 | .plain _ => none
 | .guarded q v => some (q,v)
def newM:Eff → List (Nat × Blk)
 | .new k b => [(k,b)]
 | .set k b => [(k,b)]
 | .sets l => l
 | _ => []
def newR:Eff → Option (Nat × Gr)
 | .grow k t => some (k,t)
 | _ => none
def NM (s:St) (Ds:List Nat):Prop:=∀ t p v,lookG s.gs t=some (p,v) → ∀ d ∈ Ds,∀ x ∈ p,x.1 ≠ d
def Wf (δ : Delta):Prop:=∀ q v,δ.p = .guarded q v → δ.d ≠ none
def dl:Option Nat → List Nat
 | none => []
 | some d => [d]
theorem mentions_of {p:List (Nat × Bool)} {d:Nat} (h:∀ x ∈ p,x.1 ≠ d):mentions p d=false:=by
 induction p with
 | nil => rfl
 | cons y p ih =>
  obtain ⟨k,b⟩:=y
  simp only [mentions,Bool.or_eq_false_iff,beq_eq_false_iff_ne]
  exact ⟨h (k,b) (by simp),ih fun x hx => h x (by simp [hx])⟩
section
variable {s:St} {δ : Delta}
theorem eff_tmps (e:Eff):(s.eff e).tmps=s.tmps:=by cases e<;>rfl
theorem eff_gs (e:Eff):(s.eff e).gs=s.gs:=by cases e<;>rfl
theorem app_nt:(s.app δ).nt=s.nt:=by
 obtain ⟨e,d,p⟩:=δ
 cases p<;>cases d<;>simp [St.app,St.put,St.putG,eff_nt]
theorem app_tmps (hw:Wf δ) (t:Nat):look (s.app δ).tmps t=if δ.d=some t then newT δ.p else look s.tmps t:=by
 obtain ⟨e,d,p⟩:=δ
 cases p with
 | plain v => cases d<;>simp [St.app,St.put,eff_tmps,look_cons,newT]
 | guarded q v => cases d with
  | none => exact absurd rfl (hw q v rfl)
  | some d => simp [St.app,St.putG,eff_tmps,look_cons,newT]
theorem app_gs (hw:Wf δ) (hn:NM s (dl δ.d)) (t:Nat):lookG (s.app δ).gs t=if δ.d=some t then newG δ.p else lookG s.gs t:=by
 obtain ⟨e,d,p⟩:=δ
 have hk:∀ d',d=some d' → (lookG s.gs t).map (kill d')=lookG s.gs t:=by
  intro d' hd
  cases hl:lookG s.gs t with
  | none => rfl
  | some x =>
   obtain ⟨p',v'⟩:=x
   have:=mentions_of (hn t p' v' hl d' (by simp [hd,dl]))
   simp [kill,this]
 cases p with
 | plain v => cases d with
  | none => simp [St.app,St.put,eff_gs]
  | some d => simp [St.app,St.put,eff_gs,lookG_drop,newG,hk d rfl]
 | guarded q v => cases d with
  | none => exact absurd rfl (hw q v rfl)
  | some d =>
   simp only [St.app,St.putG,eff_gs,lookG_cons,lookG_drop,newG,hk d rfl,Option.some.injEq]
   split<;>rfl
theorem app_mem (hw:Wf δ) (k:Nat):lookM (s.app δ).mem k=(lookM (newM δ.e) k).or (lookM s.mem k):=by
 obtain ⟨e,d,p⟩:=δ
 have he:(s.app ⟨e,d,p⟩).mem=(s.eff e).mem:=by
  cases p with
  | plain v => cases d<;>rfl
  | guarded q v => cases d with
   | none => exact absurd rfl (hw q v rfl)
   | some d => rfl
 rw [he]
 cases e with
 | sets l => simp only [St.eff,newM,lookM_setsM]
 | new k' b => simp only [St.eff,newM,lookM_cons,lookM_del]; by_cases h:k'=k<;>simp [h,lookM]
 | set k' b => simp only [St.eff,newM,lookM_cons,lookM_del]; by_cases h:k'=k<;>simp [h,lookM]
 | _ => simp [St.eff,newM,lookM]
theorem app_gr (hw:Wf δ) (k:Nat):lookM (s.app δ).gr k=match newR δ.e with | some (k',b) => if k'=k then some b else lookM s.gr k | none => lookM s.gr k:=by
 obtain ⟨e,d,p⟩:=δ
 have he:(s.app ⟨e,d,p⟩).gr=(s.eff e).gr:=by
  cases p with
  | plain v => cases d<;>rfl
  | guarded q v => cases d with
   | none => exact absurd rfl (hw q v rfl)
   | some d => rfl
 rw [he]
 cases e<;>simp only [St.eff,newR,lookM_cons,lookM_del]<;>(repeat (first | rfl | split))<;>simp_all
theorem app_alike {s':St} (hw:Wf δ) (h:Alike s s') (hn:NM s (dl δ.d)):Alike (s.app δ) (s'.app δ):=by
 have hn':NM s' (dl δ.d):=fun t p v hl => hn t p v (by rw [h.gs]; exact hl)
 refine ⟨by rw [app_nt,app_nt]; exact h.nt,fun t => ?_,fun t => ?_,fun k => ?_,fun k => ?_⟩
 ·rw [app_tmps hw,app_tmps hw,h.tmps]
 ·rw [app_gs hw hn,app_gs hw hn',h.gs]
 ·rw [app_mem hw,app_mem hw,h.mem]
 rw [app_gr hw,app_gr hw,h.gr]
end
theorem NM.sub {s:St} {D E:List Nat} (h:NM s D) (hs:∀ d ∈ E,d ∈ D):NM s E:=fun t p v hl d hd => h t p v hl d (hs d hd)
theorem NM.app {s:St} {δ : Delta} {D:List Nat} (h:NM s D) (hw:Wf δ) (hd:NM s (dl δ.d)) (hq:∀ q v,δ.p = .guarded q v → ∀ d ∈ D,∀ x ∈ q,x.1 ≠ d):NM (s.app δ) D:=by
 intro t p v hl
 rw [app_gs hw hd] at hl
 split at hl
 ·cases hp:δ.p with
  | plain v' => rw [hp] at hl; cases hl
  | guarded q v' => rw [hp] at hl; injection hl with hl; injection hl with h1 h2; subst h1; exact hq q v' hp
 exact h t p v hl
theorem app_swap {s:St} {δ ε : Delta} (hδ : Wf δ) (hε : Wf ε) (h1:NM s (dl δ.d)) (h2:NM s (dl ε.d)) (h3:NM (s.app δ) (dl ε.d)) (h4:NM (s.app ε) (dl δ.d)) (hd:∀ t,δ.d=some t → ε.d ≠ some t)
  (hm:∀ k b b',lookM (newM δ.e) k=some b → lookM (newM ε.e) k=some b' → False) (hg:∀ k b k' b',newR δ.e=some (k,b) → newR ε.e=some (k',b') → k ≠ k'):Alike ((s.app δ).app ε) ((s.app ε).app δ):=by
 refine ⟨by simp only [app_nt],fun t => ?_,fun t => ?_,fun k => ?_,fun k => ?_⟩
 ·rw [app_tmps hε,app_tmps hδ,app_tmps hδ,app_tmps hε]
  by_cases e1:δ.d=some t
  ·rw [if_neg (hd t e1),if_pos e1,if_pos e1]
  by_cases e2:ε.d=some t<;>simp [e1,e2]
 ·rw [app_gs hε h3,app_gs hδ h1,app_gs hδ h4,app_gs hε h2]
  by_cases e1:δ.d=some t
  ·rw [if_neg (hd t e1),if_pos e1,if_pos e1]
  by_cases e2:ε.d=some t<;>simp [e1,e2]
 ·rw [app_mem hε,app_mem hδ,app_mem hδ,app_mem hε]
  cases hx:lookM (newM δ.e) k with
  | none => cases lookM (newM ε.e) k<;>rfl
  | some b =>
   cases hy:lookM (newM ε.e) k with
   | none => rfl
   | some b' => exact (hm k b b' hx hy).elim
 rw [app_gr hε,app_gr hδ,app_gr hδ,app_gr hε]
 cases hx:newR δ.e with
 | none => cases newR ε.e<;>rfl
 | some kb =>
  obtain ⟨k1,b1⟩:=kb
  cases hy:newR ε.e with
  | none => rfl
  | some kb' =>
   obtain ⟨k2,b2⟩:=kb'
   have:=hg k1 b1 k2 b2 hx hy
   simp only
   by_cases e1:k1=k
   ·subst e1; simp [fun h:k2=k1 => this h.symm]
    intro h; exact absurd h.symm this
   simp [e1]
theorem newM_wk {e:Eff} {k:Nat} {b:Blk} (h:lookM (newM e) k=some b):k ∈ wkOf e:=by
 cases e with
 | sets l => exact List.mem_map.2 ⟨_,lookM_mem h,rfl⟩
 | new k' b' => have:=lookM_mem h; simp [newM] at this; simp [wkOf,this]
 | set k' b' => have:=lookM_mem h; simp [newM] at this; simp [wkOf,this]
 | _ => cases h
structure FootOK (r:Delta × List Ob × Foot):Prop where
 wf:Wf r.1
 d:r.2.2.d=r.1.d
 wk:∀ k b,lookM (newM r.1.e) k=some b → k ∈ r.2.2.wk
 wg:∀ k b,newR r.1.e=some (k,b) → k ∈ r.2.2.wg
 qs:∀ q v,r.1.p = .guarded q v → ∀ x ∈ q,x.1 ∈ r.2.2.qs
theorem delta_foot {A:Alg} {T:List (Nat × TI)} {cs:List (Nat × CS)} {x:Atom} {all:List Oper} {i:Nat} {o:Oper} {s:St} {r:Delta × List Ob × Foot} (h:delta A T cs x all i o s=some r):FootOK r:=by
 have hu:∀ {ex r},runU A T cs x i o s ex=some r → FootOK r:=by
  intro ex r h
  unfold runU at h
  split at h
  ·rename_i v e obs _ _
   injection h with h; subst h
   refine ⟨(fun q v h => by cases h),rfl,fun k b h => ?_,fun k b h => ?_,(fun q v h => by cases h)⟩
   ·exact newM_wk h
   cases e<;>simp [newR] at h<;>simp [wgOf,h]
  cases h
 have hsk:∀ {ex r},skipU o s ex=some r → FootOK r:=by
  intro ex r h
  unfold skipU at h
  split at h
  ·injection h with h; subst h
   exact ⟨(fun q v h => by cases h),rfl,(fun k b h => by cases h),(fun k b h => by cases h),(fun q v h => by cases h)⟩
  cases h
 have hr:∀ {ex q r},runG A T cs x i o s ex q=some r → FootOK r:=by
  intro ex q r h
  unfold runG at h
  split at h
  ·cases h
  rename_i d hd
  split at h
  ·split at h
   ·injection h with h; subst h
    refine ⟨(fun q v h => by rw [hd]; simp),rfl,(fun k b h => by cases h),(fun k b h => by cases h),(fun q' v' h y hy => ?_)⟩
    injection h with h1 h2; subst h1
    exact List.mem_map.2 ⟨y,hy,rfl⟩
   cases h
  cases h
 cases hg:o.guard with
 | none => simp only [delta,hg] at h; exact hu h
 | some jw =>
  obtain ⟨j,want⟩:=jw
  simp only [delta,hg] at h
  split at h
  ·cases h
  split at h
  ·split at h
   ·exact hr h
   exact hsk h
  ·split at h
   ·exact hsk h
   exact hr h
  ·exact hr h
  ·cases h
  split at h
  ·split at h
   ·exact hu h
   exact hsk h
  ·split at h
   ·exact hsk h
   exact hu h
  ·exact hr h
  cases h
def disj (l r:List Nat):Bool:=l.all fun x => !(r.contains x)
theorem disj_ok {l r:List Nat} (h:disj l r=true):∀ x ∈ l,x ∉ r:=by
 intro x hx hr
 have:=List.all_eq_true.1 h x hx
 simp [hr] at this
def comm (f g:Foot):Bool:=disj (dl f.d) g.qs && disj (dl f.d) g.cons && disj (dl g.d) f.cons && disj (dl f.d) (dl g.d) && disj f.wk g.rk && disj g.wk f.rk && disj f.wk g.wk && disj f.wg g.rg && disj g.wg f.rg && disj f.wg g.wg
section
variable {A:Alg} {T:List (Nat × TI)} {cs:List (Nat × CS)} {X:Nat → Atom} {all:List Oper}
def ds (fs:List Foot):List Nat:=fs.flatMap fun f => dl f.d
theorem ds_mem {fs:List Foot} {g:Foot} (hg:g ∈ fs) {d:Nat} (hd:d ∈ dl g.d):d ∈ ds fs:=List.mem_flatMap.2 ⟨g,hg,hd⟩
theorem ds_of {fs:List Foot} {d:Nat} (hd:d ∈ ds fs):∃ g ∈ fs,d ∈ dl g.d:=List.mem_flatMap.1 hd
def Ord (fs:List Foot):Prop:=fs.Pairwise fun f g => disj (dl g.d) f.qs=true
theorem nm_of {r:Delta × List Ob × Foot} (hf:FootOK r) {s:St} {fs gs:List Foot} (hn:NM s (ds fs)) (hm:r.2.2 ∈ fs) (hs:∀ g ∈ gs,g ∈ fs) (hq:∀ g ∈ gs,disj (dl g.d) r.2.2.qs=true):NM s (dl r.1.d) ∧ NM (s.app r.1) (ds gs):=by
 have h1:NM s (dl r.1.d):=hn.sub fun d hd => ds_mem hm (by rw [hf.d]; exact hd)
 refine ⟨h1,NM.app (hn.sub fun d hd => ?_) hf.wf h1 fun q v hp d hd x hx e => ?_⟩
 ·obtain ⟨g,hg,hgd⟩:=ds_of hd
  exact ds_mem (hs g hg) hgd
 obtain ⟨g,hg,hgd⟩:=ds_of hd
 exact disj_ok (hq g hg) d hgd (e ▸ hf.qs q v hp x hx)
theorem exec_alike:∀ {l:List (Nat × Oper)} {s s' τ : St} {obs:List Ob} {fs:List Foot},exec A T cs X all l s=some (τ,obs,fs) → Alike s s' → NM s (ds fs) → Ord fs → ∃ τ',exec A T cs X all l s'=some (τ',obs,fs) ∧ Alike τ τ'
 | [],s,s',τ,obs,fs,h,ha,hn,hf => by
  simp only [exec,Option.some.injEq,Prod.mk.injEq] at h
  obtain ⟨rfl,rfl,rfl⟩:=h
  exact ⟨s',rfl,ha⟩
 | (i,o) :: l,s,s',τ,obs,fs,h,ha,hn,hf => by
  obtain ⟨δ,ob,f,r',h1,h2,h3⟩:=exec_cons h
  obtain ⟨τ1,obs1,fs1⟩:=r'
  simp only [Prod.mk.injEq] at h3
  obtain ⟨rfl,rfl,rfl⟩:=h3
  have hfo:=delta_foot h1
  have hd':=delta_local h1 (s':=s') (fun t _ => ⟨ha.tmps t,ha.gs t⟩) (fun k _ => ha.mem k) (fun k _ => ha.gr k) ha.nt
  have hf':=List.pairwise_cons.1 hf
  obtain ⟨n1,n2⟩:=nm_of hfo (gs:=fs1) hn (by simp) (fun g hg => by simp [hg]) hf'.1
  obtain ⟨τ',e1,e2⟩:=exec_alike h2 (app_alike hfo.wf ha n1) n2 hf'.2
  exact ⟨τ',by simp only [exec,hd',e1],e2⟩
theorem ag_app {s:St} {r:Delta × List Ob × Foot} (hf:FootOK r) (hn:NM s (dl r.1.d)) {g:Foot} (h1:∀ x ∈ dl r.2.2.d,x ∉ g.cons) (h2:∀ x ∈ r.2.2.wk,x ∉ g.rk) (h3:∀ x ∈ r.2.2.wg,x ∉ g.rg):AgT s (s.app r.1) g.cons ∧ AgM s (s.app r.1) g.rk ∧ AgR s (s.app r.1) g.rg:=by
 refine ⟨?_,?_,?_⟩
 ·intro t ht
  have hne:r.1.d ≠ some t:=fun e => h1 t (by rw [hf.d,e]; simp [dl]) ht
  exact ⟨by rw [app_tmps hf.wf,if_neg hne],by rw [app_gs hf.wf hn,if_neg hne]⟩
 ·intro k hk
  rw [app_mem hf.wf]
  cases hx:lookM (newM r.1.e) k with
  | none => rfl
  | some b => exact absurd hk (h2 k (hf.wk k b hx))
 intro k hk
 rw [app_gr hf.wf]
 cases hx:newR r.1.e with
 | none => rfl
 | some kb =>
  obtain ⟨k',b⟩:=kb
  have hne:k' ≠ k:=fun e => h3 k' (hf.wg k' b hx) (e ▸ hk)
  simp [hne]
theorem Alike.symm {s t:St} (h:Alike s t):Alike t s:=⟨h.nt.symm,fun k => (h.tmps k).symm,fun k => (h.gs k).symm,fun k => (h.mem k).symm,fun k => (h.gr k).symm⟩
theorem Alike.trans {s t u:St} (h:Alike s t) (h':Alike t u):Alike s u:=⟨h.nt.trans h'.nt,fun k => (h.tmps k).trans (h'.tmps k),fun k => (h.gs k).trans (h'.gs k),fun k => (h.mem k).trans (h'.mem k),fun k => (h.gr k).trans (h'.gr k)⟩
theorem moveFront {P:Program} {K:Kn} {i:Nat} {o:Oper} {L2:List (Nat × Oper)}:∀ {L1:List (Nat × Oper)} {s τ : St} {obs:List Ob} {fs1:List Foot} {f:Foot} {fs2:List Foot},
  exec A T cs X all (L1 ++ (i,o) :: L2) s=some (τ,obs,fs1 ++ f :: fs2) → fs1.length=L1.length → NM s (ds (fs1 ++ f :: fs2)) → Ord (fs1 ++ f :: fs2) → (∀ g ∈ fs1,comm g f=true) →
  ∃ δ ob,delta A T cs (X i) all i o s=some (δ,ob,f) ∧ ∃ τ' obs',exec A T cs X all (L1 ++ L2) (s.app δ)=some (τ',obs',fs1 ++ fs2) ∧ Alike τ' τ ∧ (AO P K obs → AO P K ob ∧ AO P K obs')
 | [],s,τ,obs,fs1,f,fs2,h,hl,hn,hF,hc => by
  have:fs1=[]:=List.eq_nil_of_length_eq_zero hl
  subst this
  obtain ⟨δ,ob,f',r',h1,h2,h3⟩:=exec_cons h
  obtain ⟨τ1,obs1,fs1⟩:=r'
  simp only [List.nil_append,Prod.mk.injEq,List.cons.injEq] at h3
  obtain ⟨rfl,rfl,rfl,rfl⟩:=h3
  exact ⟨δ,ob,h1,τ,obs1,h2,⟨rfl,fun _ => rfl,fun _ => rfl,fun _ => rfl,fun _ => rfl⟩,fun ha => AO.app.1 ha⟩
 | (j,oj) :: L1,s,τ,obs,fs1,f,fs2,h,hl,hn,hF,hc => by
  cases fs1 with
  | nil => cases hl
  | cons fj fs1 =>
   obtain ⟨δj,obj,fj',r',h1,h2,h3⟩:=exec_cons h
   obtain ⟨τ1,obs1,fsr⟩:=r'
   simp only [List.cons_append,Prod.mk.injEq,List.cons.injEq] at h3
   obtain ⟨rfl,rfl,rfl,rfl⟩:=h3
   have hfj:=delta_foot h1
   have hF':=List.pairwise_cons.1 hF
   obtain ⟨n1,n2⟩:=nm_of hfj (gs:=fs1 ++ f :: fs2) hn (by simp) (fun g hg => by simp only [List.cons_append,List.mem_cons]; exact .inr hg) hF'.1
   obtain ⟨δ,ob,g1,τ',obs',g2,g3,g4⟩:=moveFront (P:=P) (L1:=L1) h2 (by simpa using hl) n2 hF'.2 (fun g hg => hc g (by simp [hg]))
   have hcm:=hc fj (by simp)
   simp only [comm,Bool.and_eq_true] at hcm
   obtain ⟨⟨⟨⟨⟨⟨⟨⟨⟨c0,c1⟩,c2⟩,c3⟩,c4⟩,c5⟩,c6⟩,c7⟩,c8⟩,c9⟩:=hcm
   have hf:=delta_foot g1
   have hFf:=List.pairwise_append.1 hF'.2
   have hin:∀ g ∈ fs1 ++ fs2,g ∈ fs1 ++ f :: fs2:=fun g hg => by
    rcases List.mem_append.1 hg with hg | hg
    ·exact List.mem_append_left _ hg
    exact List.mem_append_right _ (List.mem_cons_of_mem _ hg)
   have hq:∀ g ∈ fj :: (fs1 ++ fs2),disj (dl g.d) f.qs=true:=by
    intro g hg
    rcases List.mem_cons.1 hg with rfl | hg
    ·exact c0
    rcases List.mem_append.1 hg with hg | hg
    ·have:=hc g (by simp [hg])
     simp only [comm,Bool.and_eq_true] at this
     exact this.1.1.1.1.1.1.1.1.1
    exact (List.pairwise_cons.1 hFf.2.1).1 g hg
   -- i at s
   obtain ⟨a1,a2,a3⟩:=ag_app hfj n1 (g:=f) (disj_ok c1) (disj_ok c4) (disj_ok c7)
   have d1:delta A T cs (X i) all i o s=some (δ,ob,f):=delta_local g1 (fun t ht => ⟨(a1 t ht).1.symm,(a1 t ht).2.symm⟩) (fun k hk => (a2 k hk).symm) (fun k hk => (a3 k hk).symm) app_nt
   obtain ⟨m1,m2⟩:=nm_of hf (gs:=fj :: (fs1 ++ fs2)) hn (by simp) (fun g hg => by
    rcases List.mem_cons.1 hg with rfl | hg
    ·simp
    simp only [List.cons_append,List.mem_cons]; exact .inr (hin g hg)) hq
   -- j behind i
   obtain ⟨b1,b2,b3⟩:=ag_app hf m1 (g:=fj) (disj_ok c2) (disj_ok c5) (disj_ok c8)
   have d2:delta A T cs (X j) all j oj (s.app δ)=some (δj,obj,fj):=delta_local h1 b1 b2 b3 app_nt.symm
   -- the two orders come to the same
   have sw:Alike ((s.app δj).app δ) ((s.app δ).app δj):=by
    refine app_swap hfj.wf hf.wf n1 m1 (n2.sub fun d hd => ds_mem (g:=f) (by simp) (by rw [hf.d]; exact hd)) (m2.sub fun d hd => ds_mem (g:=fj) (by simp) (by rw [hfj.d]; exact hd)) (fun t ht ht' => ?_) (fun k b b' e1 e2 => ?_) (fun k b k' b' e1 e2 he => ?_)
    ·exact disj_ok c3 t (by rw [hfj.d]; simp only; rw [ht]; simp [dl]) (by rw [hf.d]; simp only; rw [ht']; simp [dl])
    ·exact disj_ok c6 k (hfj.wk k b e1) (hf.wk k b' e2)
    subst he; exact disj_ok c9 k (hfj.wg k b e1) (hf.wg k b' e2)
   obtain ⟨nn1,nn2⟩:=nm_of hf (gs:=fs1 ++ fs2) n2 (by simp) hin (fun g hg => hq g (List.mem_cons_of_mem _ hg))
   obtain ⟨τ'',e1,e2⟩:=exec_alike g2 sw nn2 (hF'.2.sublist (List.Sublist.append_left (List.sublist_cons_self _ _) _))
   refine ⟨δ,ob,d1,τ'',obj ++ obs',?_,e2.symm.trans g3,fun ha => ?_⟩
   ·simp only [List.cons_append,exec,d2,e1]
   obtain ⟨p1,p2⟩:=AO.app.1 ha
   obtain ⟨p3,p4⟩:=g4 p2
   exact ⟨p3,AO.app.2 ⟨p1,p4⟩⟩
end
def waits (tb:List Nat) (m:Nat):List Edge → Nat
 | [] => m
 | e :: l => waits tb (if Region.binds .any e then (m ||| 1 <<< e.on) ||| tb.getD e.on 0 else m) l
def masks:List Oper → List Nat → List Nat
 | [],tb => tb
 | o :: l,tb => masks l (tb ++ [waits tb 0 o.after.toList])
inductive WaitsFor (all:List Oper):Nat → Nat → Prop
 | one {i j:Nat} {o:Oper} {e:Edge}:all[i]? = some o → e ∈ o.after.toList → Region.binds .any e=true → e.on=j → WaitsFor all i j
 | more {i j:Nat} {o:Oper} {e:Edge}:all[i]? = some o → e ∈ o.after.toList → Region.binds .any e=true → WaitsFor all e.on j → WaitsFor all i j
theorem waits_ok {tb:List Nat}:∀ {l:List Edge} {m j:Nat},(waits tb m l).testBit j=true → m.testBit j=true ∨ ∃ e ∈ l,Region.binds .any e=true ∧ (e.on=j ∨ (tb.getD e.on 0).testBit j=true)
 | [],m,j,h => .inl h
 | e :: l,m,j,h => by
  rcases waits_ok (l:=l) h with h | ⟨e',h1,h2⟩
  ·split at h
   ·rename_i hb
    rw [Nat.testBit_or,Nat.testBit_or,Nat.one_shiftLeft,Nat.testBit_two_pow] at h
    simp only [Bool.or_eq_true,decide_eq_true_eq] at h
    rcases h with (h | h) | h
    ·exact .inl h
    ·exact .inr ⟨e,by simp,hb,.inl h⟩
    exact .inr ⟨e,by simp,hb,.inr h⟩
   exact .inl h
  exact .inr ⟨e',by simp [h1],h2⟩
theorem masks_ok {all:List Oper}:∀ {l:List Oper} {tb:List Nat},all.drop tb.length=l → (∀ i j,(tb.getD i 0).testBit j=true → WaitsFor all i j) → ∀ i j,((masks l tb).getD i 0).testBit j=true → WaitsFor all i j
 | [],tb,_,h => h
 | o :: l,tb,hl,h => by
  have ho:all[tb.length]? = some o:=by
   have:=congrArg (fun r => r[0]?) hl
   simpa using this
  refine masks_ok (l:=l) (tb:=tb ++ [waits tb 0 o.after.toList]) ?_ fun i j hij => ?_
  ·have:=congrArg List.tail hl
   simpa [List.tail_drop] using this
  rcases Nat.lt_trichotomy i tb.length with hlt | he | hgt
  ·refine h i j ?_
   simpa [List.getD,List.getElem?_append_left hlt] using hij
  ·subst he
   have:(waits tb 0 o.after.toList).testBit j=true:=by simpa [List.getD] using hij
   rcases waits_ok this with h0 | ⟨e,h1,h2,h3⟩
   ·simp at h0
   rcases h3 with h3 | h3
   ·exact .one ho h1 h2 h3
   exact .more ho h1 h2 (h _ _ h3)
  exfalso
  have:(tb ++ [waits tb 0 o.after.toList])[i]? = none:=by rw [List.getElem?_eq_none_iff]; simp; omega
  simp [List.getD,this] at hij
def edge (tb:List Nat) (i j:Nat):Bool:=(tb.getD i 0).testBit j
def pairsB (tb:List Nat):List (Nat × Oper) → List Foot → Bool
 | (j,_) :: l,f :: fs => (l.zip fs).all (fun x => edge tb x.1.1 j || comm f x.2) && pairsB tb l fs
 | _,_ => true
def edgesB:List (Nat × Oper) → Bool
 | [] => true
 | (i,o) :: l => o.after.toList.all (fun e => !(Region.binds .any e) || Nat.blt e.on i) && edgesB l
def ordB:List Foot → Bool
 | [] => true
 | f :: fs => fs.all (fun g => disj (dl g.d) f.qs) && ordB fs
theorem ordB_ok:∀ {fs:List Foot},ordB fs=true → Ord fs
 | [],_ => .nil
 | f :: fs,h => by
  simp only [ordB,Bool.and_eq_true] at h
  exact .cons (fun g hg => List.all_eq_true.1 h.1 g hg) (ordB_ok h.2)
def drawB (l:List Oper) (fs:List Foot):Bool:=pairsB (masks l []) (number 0 l) fs && edgesB (number 0 l) && ordB fs
theorem number_get:∀ {l:List Oper} {i:Nat} {x:Nat × Oper},x ∈ number i l → i ≤ x.1 ∧ l[x.1 - i]? = some x.2
 | [],i,x,h => by cases h
 | o :: l,i,x,h => by
  rcases List.mem_cons.1 h with rfl | h
  ·simp
  obtain ⟨h1,h2⟩:=number_get h
  refine ⟨by omega,?_⟩
  rw [show x.1 - i=(x.1 - (i + 1)) + 1 by omega,List.getElem?_cons_succ]
  exact h2
theorem number_mem:∀ {l:List Oper} {i k:Nat} {o:Oper},l[k]? = some o → (i + k,o) ∈ number i l
 | [],i,k,o,h => by simp at h
 | o' :: l,i,0,o,h => by simp at h; subst h; simp [number]
 | o' :: l,i,k + 1,o,h => by
  have:=number_mem (l:=l) (i:=i + 1) (k:=k) (o:=o) (by simpa using h)
  rw [show i + (k + 1)=i + 1 + k by omega]
  exact List.mem_cons_of_mem _ this
theorem number_sorted:∀ (l:List Oper) (i:Nat),(number i l).Pairwise (fun x y => x.1 < y.1)
 | [],_ => .nil
 | o :: l,i => List.pairwise_cons.2 ⟨fun x hx => by have:=number_lt x hx; simp only; omega,number_sorted l (i + 1)⟩
def Paired (tb:List Nat) (L:List (Nat × Oper)) (fs:List Foot):Prop:=L.length=fs.length ∧ pairsB tb L fs=true
theorem pairsB_del {tb:List Nat} {i:Nat} {o:Oper}:∀ {L1 L2:List (Nat × Oper)} {fs1:List Foot} {f:Foot} {fs2:List Foot},fs1.length=L1.length → pairsB tb (L1 ++ (i,o) :: L2) (fs1 ++ f :: fs2)=true →
  pairsB tb (L1 ++ L2) (fs1 ++ fs2)=true ∧ ∀ (k:Nat) (x:Nat × Oper) (g:Foot),L1[k]? = some x → fs1[k]? = some g → edge tb i x.1=true ∨ comm g f=true
 | [],L2,fs1,f,fs2,hl,h => by
  have:fs1=[]:=List.eq_nil_of_length_eq_zero hl
  subst this
  simp only [List.nil_append,pairsB,Bool.and_eq_true] at h
  exact ⟨h.2,fun k x g hx => by simp at hx⟩
 | (j,oj) :: L1,L2,fs1,f,fs2,hl,h => by
  cases fs1 with
  | nil => cases hl
  | cons fj fs1 =>
   have hl':fs1.length=L1.length:=by simpa using hl
   simp only [List.cons_append,pairsB,Bool.and_eq_true] at h ⊢
   obtain ⟨h1,h2⟩:=h
   obtain ⟨g1,g2⟩:=pairsB_del hl' h2
   have hz:=List.all_eq_true.1 h1
   refine ⟨⟨List.all_eq_true.2 fun x hx => hz x ?_,g1⟩,fun k x g hx hg => ?_⟩
   ·rw [List.zip_append hl'.symm] at hx ⊢
    rcases List.mem_append.1 hx with hx | hx
    ·exact List.mem_append_left _ hx
    exact List.mem_append_right _ (by simp only [List.zip_cons_cons,List.mem_cons]; exact .inr hx)
   cases k with
   | zero =>
    simp at hx hg
    subst hx; subst hg
    have:=hz ((i,o),f) (by rw [List.zip_append hl'.symm]; exact List.mem_append_right _ (by simp))
    simpa using this
   | succ k => exact g2 k x g (by simpa using hx) (by simpa using hg)
section
variable {C:Cx} {P:Program} {Q:Exit → Act → World → Prop} {T:List (Nat × TI)} {cs:List (Nat × CS)} {ops:Array Oper} {all:List Oper}
theorem getD_tf {listed:Array Bool} {k:Nat} (h:listed.getD k true=false):listed.getD k false=false:=by
 simp only [Array.getD_eq_getD_getElem?] at h ⊢
 cases hk:listed[k]? with
 | none => rfl
 | some b => rw [hk] at h; simpa using h
theorem getD_ft {listed:Array Bool} {k:Nat} (hk:k < listed.size) (h:listed.getD k false ≠ true):listed.getD k true=false:=by
 simp only [Array.getD_eq_getD_getElem?,Array.getElem?_eq_getElem hk] at h ⊢
 simpa using h
theorem any_ok {tb:List Nat} (hT:TabOK P T) (hops:ops=all.toArray) (htb:∀ i j,edge tb i j=true → WaitsFor all i j):∀ (n:Nat) (L:List (Nat × Oper)) (fs:List Foot) (listed:Array Bool) (s:St) (a:Act) (w:World),L.length=n → Fits C s a w → NM s (ds fs) → Ord fs → Paired tb L fs → (∀ k o,all[k]? = some o → listed.getD k false=true → ∀ e ∈ o.after.toList,Region.binds .any e=true → listed.getD e.on false=true) →
  L.Pairwise (fun x y => x.1 < y.1) → (∀ x ∈ L,ops[x.1]? = some x.2 ∧ listed.getD x.1 true=false) → (∀ k o,ops[k]? = some o → listed.getD k true=false → (k,o) ∈ L) → listed.size=ops.size →
  (∀ x ∈ L,∀ e ∈ x.2.after.toList,Region.binds .any e=true → e.on < x.1) →
  (∀ X,∃ τ obs,exec std T cs X all L s=some (τ,obs,fs) ∧ AO P C.K obs ∧ ∀ a' w',Fits C τ a' w' → Q .normal a' w') → wpAny P .any ops Q n listed a w
 | 0,L,fs,listed,s,a,w,hn,h,hNM,hF,hP,hDC,hsr,hL,hA,hsz,hE,hs => by
  have:L=[]:=List.eq_nil_of_length_eq_zero hn
  subst this
  refine ⟨?_,?_⟩
  ·cases hr:Region.ready .any ops listed with
   | nil => rfl
   | cons i r =>
    obtain ⟨h1,o,h2,_⟩:=mem_ready.1 (hr ▸ List.mem_cons_self:i ∈ Region.ready .any ops listed)
    cases hA i o h2 h1
  obtain ⟨τ,obs,h1,_,h2⟩:=hs (fun _ => ⟨0,fun _ => none,fun _ => 0,fun _ => .empty⟩)
  simp only [exec,Option.some.injEq,Prod.mk.injEq] at h1
  obtain ⟨rfl,_⟩:=h1
  exact h2 a w h
 | n + 1,L,fs,listed,s,a,w,hn,h,hNM,hF,hP,hDC,hsr,hL,hA,hsz,hE,hs => by
  refine ⟨fun hr => ?_,fun i hi => ?_⟩
  ·-- the first one that is left may come up
   exfalso
   cases L with
   | nil => cases hn
   | cons x L =>
    obtain ⟨i0,o0⟩:=x
    obtain ⟨h1,h2⟩:=hL (i0,o0) (by simp)
    have:i0 ∈ Region.ready .any ops listed:=mem_ready.2 ⟨h2,o0,h1,fun e he hb => by
     have hlt:=hE (i0,o0) (by simp) e (by simpa using he) hb
     simp only at hlt
     have hi0:i0 < ops.size:=(Array.getElem?_eq_some_iff.1 h1).1
     have hon:e.on < listed.size:=by rw [hsz]; omega
     by_cases hl:listed.getD e.on false=true
     ·exact hl
     exfalso
     have hm:=hA e.on _ (Array.getElem?_eq_getElem (by omega)) (getD_ft hon hl)
     rcases List.mem_cons.1 hm with he' | hm
     ·injection he' with he'; omega
     have:=(List.pairwise_cons.1 hsr).1 _ hm
     simp only at this; omega⟩
    rw [hr] at this
    cases this
  obtain ⟨h1,o,h2,h3⟩:=mem_ready.1 hi
  have hin:=hA i o h2 h1
  obtain ⟨L1,L2,rfl⟩:=List.append_of_mem hin
  obtain ⟨fs1,f,fs2,hlen,rfl⟩:∃ fs1 f fs2,fs1.length=L1.length ∧ fs=fs1 ++ f :: fs2:=by
   have hl:=hP.1
   simp only [List.length_append,List.length_cons] at hl
   have hlt:L1.length < fs.length:=by omega
   refine ⟨fs.take L1.length,fs[L1.length],fs.drop (L1.length + 1),by simp; omega,?_⟩
   rw [← List.drop_eq_getElem_cons hlt,List.take_append_drop]
  obtain ⟨hP1,hcm⟩:=pairsB_del hlen hP.2
  have hcomm:∀ g ∈ fs1,comm g f=true:=by
   intro g hg
   obtain ⟨k,hk⟩:=List.getElem?_of_mem hg
   have hkl:k < L1.length:=by rw [← hlen]; exact (List.getElem?_eq_some_iff.1 hk).1
   rcases hcm k _ g (List.getElem?_eq_getElem hkl) hk with he | he
   ·exfalso
    have h5:=(hL L1[k] (List.mem_append_left _ (List.getElem_mem hkl))).2
    have hr:=htb _ _ he
    have dc:∀ {i j:Nat},WaitsFor all i j → (∀ o e,all[i]? = some o → e ∈ o.after.toList → Region.binds .any e=true → listed.getD e.on false=true) → listed.getD j false=true:=by
     intro i j hr
     induction hr with
     | one h1 h2 h3 h4 => intro hi; rw [← h4]; exact hi _ _ h1 h2 h3
     | more h1 h2 h3 h4 ih => intro hi; exact ih fun o e g1 g2 g3 => hDC _ o g1 (hi _ _ h1 h2 h3) e g2 g3
    have h4:=dc hr fun o' e g1 g2 g3 => by
     have:o'=o:=by
      have e1:ops[i]? = some o':=by rw [hops]; simpa using g1
      rw [h2] at e1; injection e1 with e1; exact e1.symm
     subst this
     exact h3 e (by simpa using g2) g3
    rw [getD_tf h5] at h4
    cases h4
   exact he
  have mf:∀ X,∃ δ ob,delta std T cs (X i) all i o s=some (δ,ob,f) ∧ AO P C.K ob ∧ ∃ τ' obs',exec std T cs X all (L1 ++ L2) (s.app δ)=some (τ',obs',fs1 ++ fs2) ∧ AO P C.K obs' ∧ ∀ a' w',Fits C τ' a' w' → Q .normal a' w':=by
   intro X
   obtain ⟨τ,obs,e1,e2,e3⟩:=hs X
   obtain ⟨δ,ob,g1,τ',obs',g2,g3,g4⟩:=moveFront (P:=P) e1 hlen hNM hF hcomm
   exact ⟨δ,ob,g1,(g4 e2).1,τ',obs',g2,(g4 e2).2,fun a' w' hf => e3 a' w' (hf.alike g3)⟩
  have hsrt:(L1 ++ L2).Pairwise (fun x y => x.1 < y.1):=hsr.sublist (List.Sublist.append_left (List.sublist_cons_self _ _) _)
  have hnot:∀ x ∈ L1 ++ L2,x.1 ≠ i:=by
   intro x hx
   rw [List.pairwise_append] at hsr
   obtain ⟨p1,p2,p3⟩:=hsr
   rcases List.mem_append.1 hx with hx | hx
   ·have:=p3 x hx (i,o) (by simp); simp only at this; omega
   have:=(List.pairwise_cons.1 p2).1 x hx; simp only at this; omega
  have key:=delta_ok (C:=C) (K:=fun a' w' => wpAny P .any ops Q n (listed.setIfInBounds i true) a' w') (Q:=Q) (cs:=cs) (i:=i) (o:=o) hT hops h (fun x => by
   obtain ⟨δ,ob,g1,g2,_⟩:=mf (fun _ => x)
   exact ⟨_,g1,g2⟩) (fun x r a' w' hr hf => by
   have hfo:=delta_foot hr
   obtain ⟨δ,ob,f'⟩:=r
   obtain ⟨δ0,ob0,g0,_⟩:=mf (fun _ => x)
   rw [hr] at g0
   injection g0 with g0; injection g0 with q1 q2; injection q2 with q2 q3
   subst q1; subst q2; subst q3
   have hinF:∀ g ∈ fs1 ++ fs2,g ∈ fs1 ++ f' :: fs2:=fun g hg => by
    rcases List.mem_append.1 hg with hg | hg
    ·exact List.mem_append_left _ hg
    exact List.mem_append_right _ (List.mem_cons_of_mem _ hg)
   obtain ⟨n1,n2⟩:=nm_of hfo (gs:=fs1 ++ fs2) hNM (by simp) hinF (fun g hg => by
    rcases List.mem_append.1 hg with hg | hg
    ·have:=hcomm g hg
     simp only [comm,Bool.and_eq_true] at this
     exact this.1.1.1.1.1.1.1.1.1
    exact (List.pairwise_cons.1 (List.pairwise_append.1 hF).2.1).1 g hg)
   refine any_ok hT hops htb n (L1 ++ L2) (fs1 ++ fs2) (listed.setIfInBounds i true) (s.app δ) a' w' ?_ hf n2 ?_ ?_ ?_ hsrt ?_ ?_ (by simpa using hsz) ?_ ?_
   ·simp at hn ⊢; omega
   ·exact hF.sublist (List.Sublist.append_left (List.sublist_cons_self _ _) _)
   ·refine ⟨?_,hP1⟩
    have:=hP.1
    simp at this ⊢; omega
   ·intro k ok hk hu e he hb
    by_cases hki:k=i
    ·subst hki
     have:ok=o:=by
      have e1:ops[k]? = some ok:=by rw [hops]; simpa using hk
      rw [h2] at e1; injection e1 with e1; exact e1.symm
     subst this
     have hl:=h3 e (by simpa using he) hb
     by_cases hei:e.on=k
     ·have:=hE (k,ok) hin e he hb
      simp only at this; omega
     rw [getD_set_ne false (fun e' => hei e'.symm)]; exact hl
    rw [getD_set_ne false (fun e' => hki e'.symm)] at hu
    have hl:=hDC k ok hk hu e he hb
    by_cases hei:e.on=i
    ·rw [hei] at hl
     have h5:=(hL (i,o) hin).2
     simp only at h5
     rw [getD_tf h5] at hl; cases hl
    rw [getD_set_ne false (fun e' => hei e'.symm)]; exact hl
   ·intro x' hx
    have hx':x' ∈ L1 ++ (i,o) :: L2:=by
     rcases List.mem_append.1 hx with hx | hx
     ·exact List.mem_append_left _ hx
     exact List.mem_append_right _ (List.mem_cons_of_mem _ hx)
    obtain ⟨e1,e2⟩:=hL x' hx'
    refine ⟨e1,?_⟩
    rw [getD_set_ne true (fun e => hnot x' hx e.symm)]
    exact e2
   ·intro k ok hk hu
    by_cases hki:k=i
    ·subst hki
     have hlt:k < listed.size:=by rw [hsz]; exact (Array.getElem?_eq_some_iff.1 h2).1
     simp [Array.getD_eq_getD_getElem?,hlt] at hu
    rw [getD_set_ne true (fun e => hki e.symm)] at hu
    have:=hA k ok hk hu
    rcases List.mem_append.1 this with hx | hx
    ·exact List.mem_append_left _ hx
    rcases List.mem_cons.1 hx with hx | hx
    ·injection hx with hx; exact absurd hx hki
    exact List.mem_append_right _ hx
   ·intro x' hx
    refine hE x' ?_
    rcases List.mem_append.1 hx with hx | hx
    ·exact List.mem_append_left _ hx
    exact List.mem_append_right _ (List.mem_cons_of_mem _ hx)
   intro X
   obtain ⟨Y,hY,hYX⟩:∃ Y:Nat → Atom,Y i=x ∧ ∀ j,j ≠ i → Y j=X j:=⟨fun j => if j=i then x else X j,by simp,fun j hj => by simp [hj]⟩
   obtain ⟨δ1,ob1,g1,_,τ',obs',g2,g3,g4⟩:=mf Y
   rw [hY,hr] at g1
   injection g1 with g1; injection g1 with q1 _
   subst q1
   rw [exec_congr _ _ (fun x' hx => hYX x'.1 (hnot x' hx))] at g2
   exact ⟨τ',obs',g2,g3,g4⟩)
  unfold wpOp
  simp only [h2]
  by_cases hw:Region.wanted o (yielded ops a.tmps)=true
  ·rw [if_pos hw] at key ⊢
   exact .inl key
  rw [if_neg hw] at key ⊢
  exact key
theorem drawn_ok {s:St} {a:Act} {w:World} {id:Nat} {l:List Oper} (hm:P.follows .mixedOrders=true) (hT:TabOK P T) (kp km:List Nat) (cs:List (Nat × CS)) (h:Fits C s a w) (hgs:s.gs=[]) (fs:List Foot) (hD:drawB l fs=true) (hlen:l.length=fs.length)
  {R:Alg → (Nat → Atom) → St × List Ob}
  (hex:∀ A X,(exec A T cs X l (number 0 l) s).map (fun r => ((r.1.keep kp km,r.2.1),r.2.2))=some (R A X,fs)) (hob:∀ X,AO P C.K (R std X).2) (hQ:∀ X a' w',Fits C (R std X).1 a' w' → Q .normal a' w'):(Code.region id l.toArray true).wp P Q a w:=by
 simp only [drawB,Bool.and_eq_true] at hD
 obtain ⟨⟨d1,d2⟩,d3⟩:=hD
 refine wp_region_any hm ?_
 have hf:Fits C s a { w with drawn:=w.drawn + 1 }:=h.world (fun _ _ _ => rfl) (fun _ _ _ _ _ => rfl) ⟨h.chg.os,h.chg.tape,h.chg.output,h.chg.size,h.chg.block⟩ (fun _ _ _ hc _ => hc) (fun _ _ h _ => h)
 have hnl:∀ (l:List Oper) (i:Nat),(number i l).length=l.length:=by
  intro l
  induction l with
  | nil => intro i; rfl
  | cons o l ih => intro i; simp [number,ih]
 have hsz:l.toArray.size=(number 0 l).length:=by simp [hnl]
 rw [hsz]
 refine any_ok (cs:=cs) (all:=l) (tb:=masks l []) hT rfl (masks_ok (l:=l) (tb:=[]) rfl (fun i j h => by simp at h)) _ (number 0 l) fs _ s a _ rfl hf (fun t p v hl => by rw [hgs] at hl; cases hl) ?_ ⟨by rw [hnl]; exact hlen,d1⟩ ?_ (number_sorted l 0) ?_ ?_ (by simp [hnl]) ?_ ?_
 ·exact ordB_ok d3
 ·intro k o hk hu
  exfalso
  by_cases hk':k < (number 0 l).length
  ·simp [Array.getD_eq_getD_getElem?,hk'] at hu
  simp [Array.getD_eq_getD_getElem?,hk'] at hu
 ·intro x hx
  obtain ⟨h1,h2⟩:=number_get hx
  rw [Nat.sub_zero] at h2
  refine ⟨by simpa using h2,?_⟩
  have hlt:=(List.getElem?_eq_some_iff.1 h2).1
  simp [Array.getD_eq_getD_getElem?,hnl,hlt]
 ·intro k o hk _
  have:=number_mem (i:=0) (l:=l) (k:=k) (o:=o) (by simpa using hk)
  rwa [Nat.zero_add] at this
 ·have ed:∀ (L:List (Nat × Oper)),edgesB L=true → ∀ x ∈ L,∀ e ∈ x.2.after.toList,Region.binds .any e=true → e.on < x.1:=by
   intro L
   induction L with
   | nil => intro _ x hx; cases hx
   | cons y L ih =>
    obtain ⟨i,o⟩:=y
    intro hL x hx e he hb
    simp only [edgesB,Bool.and_eq_true] at hL
    rcases List.mem_cons.1 hx with rfl | hx
    ·have:=List.all_eq_true.1 hL.1 e he
     simpa [hb] using this
    exact ih hL.2 x hx e he hb
  exact ed _ d2
 intro X
 obtain ⟨r,hr,e⟩:=Option.map_eq_some_iff.1 (hex std X)
 obtain ⟨τ,obs,fs'⟩:=r
 simp only [Prod.mk.injEq] at e
 obtain ⟨e1,rfl⟩:=e
 refine ⟨τ,obs,hr,?_,fun a' w' hf' => hQ X a' w' ?_⟩
 ·have:=hob X; rw [← e1] at this; exact this
 rw [← e1]; exact hf'.keep kp km
end
theorem wrap_succ {k:Nat} {n:Nat} (h:k < n) (hn:n ≤ maxLen):IntKind.i64.wrap ((k:Int) + 1)=((k + 1:Nat):Int):=by
 have:(n:Int) ≤ 9223372036854775807:=by simp only [maxLen] at hn; omega
 rw [IntKind.wrap_i64]; omega
theorem wrap_in {x:Int} (h:-9223372036854775808 ≤ x) (h':x ≤ 9223372036854775807):IntKind.i64.wrap x=x:=by rw [IntKind.wrap_i64]; omega
theorem ok_len {m:Nat → Nat → Prop} {w:World} {g:Option Nat} {A:Option Addr} {n c k:Nat} {cells:Nat → List AV} (h:Ok m w (.sl g A n c k cells)):n ≤ c ∧ c ≤ maxLen:=by
 cases h with | sl _ _ _ _ _ _ h1 h2 => exact ⟨h1,h2⟩
theorem ok_recell {m:Nat → Nat → Prop} {w:World} {g g':Option Nat} {A:Option Addr} {n c k:Nat} {f f':Nat → List AV} (h:Ok m w (.sl g A n c k f)) (he:∀ i,i < n → f i=f' i):Ok m w (.sl g' A n c k f'):=by
 cases h with
 | sl _ _ _ _ _ _ h1 h2 h3 h4 h5 h6 h7 =>
  exact .sl _ _ _ _ _ _ h1 h2 (fun i hi => by rw [← he i hi]; exact h3 i hi) h4 (fun i hi => by rw [← he i hi]; exact h5 i hi) (fun i hi => by rw [← he i hi]; exact h6 i hi) (fun i hi => by rw [← he i hi]; exact h7 i hi)
def Sim (v v':AV):Prop:=v.den=v'.den ∧ (v.one=true → v'.one=true) ∧ ∀ m w,Ok m w v → Ok m w v'
theorem Sim.refl (v:AV):Sim v v:=⟨rfl,id,fun _ _ h => h⟩
theorem Sim.recell {g g':Option Nat} {A:Option Addr} {n c k:Nat} {f f':Nat → List AV} (he:∀ i,i < n → f i=f' i):Sim (.sl g A n c k f) (.sl g' A n c k f'):=⟨rfl,fun _ => rfl,fun _ _ h => ok_recell h he⟩
theorem zq0 {g g':Option Nat} {A:Option Addr} {c k:Nat} {f f':Nat → List AV}:Sim (.sl g A 0 c k f) (.sl g' A 0 c k f'):=Sim.recell (fun i hi => absurd hi (Nat.not_lt_zero _))
theorem Sim.resl {g g':Option Nat} {A:Option Addr} {n n' c k:Nat} {f f':Nat → List AV} (hn:n=n') (he:∀ i,i < n' → f i=f' i):Sim (.sl g A n c k f) (.sl g' A n' c k f'):=by
 subst hn; exact Sim.recell he
theorem Sim.tt:Sim (.bool .tt) (.bool (.v true)):=⟨rfl,id,fun _ _ _ => .bool _⟩
theorem Sim.ff:Sim (.bool .ff) (.bool (.v false)):=⟨rfl,id,fun _ _ _ => .bool _⟩
theorem Fits.head {C:Cx} {nt d:Nat} {v v':AV} {l:List (Nat × AV)} {mem:List (Nat × Blk)} {gr:List (Nat × Gr)} {a:Act} {w:World} (h:Fits C ⟨nt,(d,v) :: l,[],mem,gr⟩ a w) (e:v=v'):Fits C ⟨nt,(d,v') :: l,[],mem,gr⟩ a w:=e ▸ h
theorem Fits.headS {C:Cx} {nt d:Nat} {v v':AV} {l:List (Nat × AV)} {mem:List (Nat × Blk)} {gr:List (Nat × Gr)} {a:Act} {w:World} (h:Fits C ⟨nt,(d,v) :: l,[],mem,gr⟩ a w) (e:Sim v v') (hk:v.known=true):Fits C ⟨nt,(d,v') :: l,[],mem,gr⟩ a w:=
 ⟨h.size,h.defers,fun t ht => by
  by_cases he:d=t
  ·subst he
   have e0:∀ v:AV,look ((d,v) :: l) d=v:=fun v => by rw [look_cons,if_pos rfl]
   have:=h.slot d (by show (look ((d,v) :: l) d).known=true; rw [e0]; exact hk)
   have this':a.tmps[d]? = some (look ((d,v) :: l) d).den ∧ Ok (St.m ⟨nt,(d,v) :: l,[],mem,gr⟩ C) w (look ((d,v) :: l) d):=this
   rw [e0] at this'
   show a.tmps[d]? = some (look ((d,v') :: l) d).den ∧ Ok _ w (look ((d,v') :: l) d)
   rw [e0,← e.1]
   exact ⟨this'.1,e.2.2 _ _ this'.2⟩
  have e1:∀ v:AV,look ((d,v) :: l) t=look l t:=fun v => by rw [look_cons,if_neg he]
  have hk':(look ((d,v') :: l) t).known=true:=ht
  rw [e1] at hk'
  have:=h.slot t (by show (look ((d,v) :: l) t).known=true; rw [e1]; exact hk')
  have this':a.tmps[t]? = some (look ((d,v) :: l) t).den ∧ Ok (St.m ⟨nt,(d,v) :: l,[],mem,gr⟩ C) w (look ((d,v) :: l) t):=this
  rw [e1] at this'
  show a.tmps[t]? = some (look ((d,v') :: l) t).den ∧ Ok _ w (look ((d,v') :: l) t)
  rw [e1]
  exact this',(fun t p v hg => by cases hg),h.mem,h.nodup,h.gr,h.sepm,h.sepg,h.chg,h.m0,h.kept⟩
theorem Fits.tail {C:Cx} {nt:Nat} {d:Nat} {v:AV} {l:List (Nat × AV)} {mem:List (Nat × Blk)} {gr:List (Nat × Gr)} {a:Act} {w:World} (h:Fits C ⟨nt,(d,v) :: l,[],mem,gr⟩ a w) (hd:(look l d).known=false):Fits C ⟨nt,l,[],mem,gr⟩ a w:=
 ⟨h.size,h.defers,fun t ht => by
  have hne:d ≠ t:=fun e => by subst e; rw [hd] at ht; cases ht
  have:=h.slot t (by show (look ((d,v) :: l) t).known=true; rw [look_cons,if_neg hne]; exact ht)
  have e:look ((d,v) :: l) t=look l t:=by rw [look_cons,if_neg hne]
  have this':a.tmps[t]? = some (look ((d,v) :: l) t).den ∧ Ok (St.m ⟨nt,(d,v) :: l,[],mem,gr⟩ C) w (look ((d,v) :: l) t):=this
  rw [e] at this'
  exact this',(fun t p v hg => by cases hg),h.mem,h.nodup,h.gr,h.sepm,h.sepg,h.chg,h.m0,h.kept⟩
section
variable {P:Program} {Q:Exit → Act → World → Prop} {C:Cx} {nt t:Nat} {b:Bool} {l:List (Nat × AV)} {mem:List (Nat × Blk)} {gr:List (Nat × Gr)} {a:Act} {w:World} {x y:Code}
theorem test_keep (h:Fits C ⟨nt,(t,.bool (.v b)) :: l,[],mem,gr⟩ a w) (h1:b=true → Fits C ⟨nt,(t,.bool .tt) :: l,[],mem,gr⟩ a w → x.wp P Q a w) (h2:b=false → Fits C ⟨nt,(t,.bool .ff) :: l,[],mem,gr⟩ a w → y.wp P Q a w):(Code.cond (.tmp t) x y).wp P Q a w:=
 cond_ok h (by show look ((t,_) :: l) t=_; rw [look_cons,if_pos rfl]) (fun hb => h1 hb (h.headS (by subst hb; exact ⟨rfl,id,fun _ _ _ => .bool _⟩) rfl)) (fun hb => h2 hb (h.headS (by subst hb; exact ⟨rfl,id,fun _ _ _ => .bool _⟩) rfl))
theorem test_ok (h:Fits C ⟨nt,(t,.bool (.v b)) :: l,[],mem,gr⟩ a w) (hd:(look l t).known=false) (h1:b=true → Fits C ⟨nt,l,[],mem,gr⟩ a w → x.wp P Q a w) (h2:b=false → Fits C ⟨nt,l,[],mem,gr⟩ a w → y.wp P Q a w):(Code.cond (.tmp t) x y).wp P Q a w:=
 cond_ok h (by show look ((t,_) :: l) t=_; rw [look_cons,if_pos rfl]) (fun hb => h1 hb (h.tail hd)) (fun hb => h2 hb (h.tail hd))
theorem test_tt (h:Fits C ⟨nt,(t,.bool .tt) :: l,[],mem,gr⟩ a w) (hd:(look l t).known=false) (h1:Fits C ⟨nt,l,[],mem,gr⟩ a w → x.wp P Q a w):(Code.cond (.tmp t) x y).wp P Q a w:=
 cond_tt h (by show look ((t,_) :: l) t=_; rw [look_cons,if_pos rfl]) (h1 (h.tail hd))
theorem test_ff (h:Fits C ⟨nt,(t,.bool .ff) :: l,[],mem,gr⟩ a w) (hd:(look l t).known=false) (h1:Fits C ⟨nt,l,[],mem,gr⟩ a w → y.wp P Q a w):(Code.cond (.tmp t) x y).wp P Q a w:=
 cond_ff h (by show look ((t,_) :: l) t=_; rw [look_cons,if_pos rfl]) (h1 (h.tail hd))
end
def canB:BE → BE
 | .tt => .v true
 | .ff => .v false
 | b => b
mutual
def can:AV → AV
 | .bool b => .bool (canB b)
 | .agg l => .agg (canL l)
 | .tup l => .tup (canL l)
 | v => v
def canL:List AV → List AV
 | [] => []
 | v :: l => can v :: canL l
end
theorem canL_map (l:List AV):canL l=l.map can:=by
 induction l with
 | nil => rfl
 | cons v l ih => simp [canL,ih]
theorem canB_den (b:BE):(canB b).den=b.den:=by cases b<;>rfl
mutual
theorem can_den:∀ v:AV,(can v).den=v.den
 | .bool b => by simp only [can,AV.den,canB_den]
 | .agg l => by simp only [can,AV.den,can_denL l]
 | .tup l => by simp only [can,AV.den,can_denL l]
 | .undef | .int .. | .str .. | .nilp | .ptr .. | .sl .. | .ep .. | .fn .. | .ifc .. | .nili | .opt .. | .raw .. => rfl
theorem can_denL:∀ l:List AV,AV.denL (canL l)=AV.denL l
 | [] => rfl
 | v :: l => by simp only [canL,AV.denL,can_den v,can_denL l]
end
theorem can_one (v:AV):(can v).one=v.one:=by cases v<;>rfl
mutual
theorem can_ok {m:Nat → Nat → Prop} {w:World}:∀ v:AV,Ok m w v ↔ Ok m w (can v)
 | .bool b => ⟨fun _ => .bool _,fun _ => .bool _⟩
 | .agg l => by
  have ih:=can_okL (m:=m) (w:=w) l
  constructor
  ·intro h
   cases h with
   | agg _ h1 h2 =>
    refine .agg _ (fun v hv => ?_) (ih.1 h2)
    rw [canL_map] at hv
    obtain ⟨y,hy,rfl⟩:=List.mem_map.1 hv
    rw [can_one]; exact h1 y hy
  intro h
  have h':Ok m w (.agg (canL l)):=h
  cases h' with
  | agg _ h1 h2 =>
   refine .agg _ (fun v hv => ?_) (ih.2 h2)
   rw [← can_one]; exact h1 _ (by rw [canL_map]; exact List.mem_map.2 ⟨v,hv,rfl⟩)
 | .tup l => by
  have ih:=can_okL (m:=m) (w:=w) l
  constructor
  ·intro h
   cases h with | tup _ h1 => exact .tup _ (ih.1 h1)
  intro h
  have h':Ok m w (.tup (canL l)):=h
  cases h' with | tup _ h1 => exact .tup _ (ih.2 h1)
 | .undef | .int .. | .str .. | .nilp | .ptr .. | .sl .. | .ep .. | .fn .. | .ifc .. | .nili | .opt .. | .raw .. => Iff.rfl
theorem can_okL {m:Nat → Nat → Prop} {w:World}:∀ l:List AV,(∀ v ∈ l,Ok m w v) ↔ ∀ v ∈ canL l,Ok m w v
 | [] => by simp [canL]
 | v :: l => by
  have h1:=can_ok (m:=m) (w:=w) v
  have h2:=can_okL (m:=m) (w:=w) l
  simp only [canL,List.mem_cons,forall_eq_or_imp]
  exact and_congr h1 h2
end
theorem can_eq {m:Nat → Nat → Prop} {w:World} {v v':AV} (h:Ok m w v) (e:can v=can v'):v.den=v'.den ∧ Ok m w v':=
 ⟨by rw [← can_den v,← can_den v',e],(can_ok v').2 (e ▸ (can_ok v).1 h)⟩
section
variable {P:Program} {T:List (Nat × TI)} {s:St} {a:Act} {w:World}
theorem ret_spec {Kk:Kn} (hT:TabOK P T) {m:Nat → Nat → Prop} {w0:World} (h:Fits ⟨m,w0,fun _ => False,[],Kk⟩ s a w) {fn:Func} {res:Atom → AV} {rs:List ResultVar} (hfn:fn.results=rs.toArray) {r:List AV × List Ob} (hr:resL T s rs=some r) (ho:AO P Kk r.2)
  (x:Atom) (he:can (resA r.1)=can (res x)):bodyPost P fn (fun e w' => ∃ x,e = .returned (res x).den ∧ Ok m w' (res x) ∧ Below w0.heap.size w0 w') .ret a w:=by
 refine (ret_ok hT h rfl hfn hr ho fun hv => ?_).1
 obtain ⟨h1,h2⟩:=done_ok h hv
 obtain ⟨h3,h4⟩:=can_eq h1 he
 exact ⟨x,by rw [h3],h4,h2⟩
end
section
variable {P:Program} {T:List (Nat × TI)} {s:St} {a:Act} {w:World}
theorem ret_spec' {Kk:Kn} (hT:TabOK P T) {m:Nat → Nat → Prop} {w0:World} (h:Fits ⟨m,w0,fun _ => False,[],Kk⟩ s a w) {fn:Func} {res:Atom → AV} {rs:List ResultVar} (hfn:fn.results=rs.toArray) {r:List AV × List Ob} (hr:resL T s rs=some r) (ho:AO P Kk r.2)
  (x:Atom) (he:can (resA r.1)=can (res x)):bodyPost P fn (fun e w' => ∃ x,e = .returned (res x).den ∧ Ok m w' (res x) ∧ Below w0.heap.size w0 w') .normal a w:=by
 refine (ret_ok hT h rfl hfn hr ho fun hv => ?_).2
 obtain ⟨h1,h2⟩:=done_ok h hv
 obtain ⟨h3,h4⟩:=can_eq h1 he
 exact ⟨x,by rw [h3],h4,h2⟩
end
def pre {α : Type}:List α → List α → List α
 | [],r => r
 | x :: l,r => x :: pre l r
theorem loop_pre {P:Program} {Q:Exit → Act → World → Prop} {C:Cx} {ι : Type} (S:ι → List (Nat × AV)) (M:ι → List (Nat × Blk)) (G:ι → List (Nat × Gr)) (J:ι → Prop) (μ : ι → Nat) {nt:Nat} {rest:List (Nat × AV)} {restm:List (Nat × Blk)} {restg:List (Nat × Gr)} {c:Code} {a:Act} {w:World} (p₀:ι) (h₀:J p₀)
  (hf:Fits C ⟨nt,pre (S p₀) rest,[],pre (M p₀) restm,pre (G p₀) restg⟩ a w)
  (round:∀ p,J p → ∀ a w,Fits C ⟨nt,pre (S p) rest,[],pre (M p) restm,pre (G p) restg⟩ a w → c.wp P (Exit.then (fun a' w' => ∃ p',J p' ∧ μ p' < μ p ∧ Fits C ⟨nt,pre (S p') rest,[],pre (M p') restm,pre (G p') restg⟩ a' w') Q) a w):(Code.loop c).wp P Q a w:=
 loop_ok (fun p => ⟨nt,pre (S p) rest,[],pre (M p) restm,pre (G p) restg⟩) J μ p₀ h₀ hf round
def SimL:List AV → List AV → Prop
 | [],[] => True
 | v :: l,v' :: l' => Sim v v' ∧ SimL l l'
 | _,_ => False
theorem SimL.den:∀ {l l':List AV},SimL l l' → AV.denL l=AV.denL l'
 | [],[],_ => rfl
 | v :: l,v' :: l',h => by simp only [AV.denL,h.1.1,SimL.den h.2]
theorem SimL.one:∀ {l l':List AV},SimL l l' → (∀ v ∈ l,v.one=true) → ∀ v ∈ l',v.one=true
 | [],[],_,_ => by simp
 | v :: l,v' :: l',h,h1 => by
  simp only [List.mem_cons,forall_eq_or_imp] at h1 ⊢
  exact ⟨h.1.2.1 h1.1,SimL.one h.2 h1.2⟩
theorem SimL.ok {m:Nat → Nat → Prop} {w:World}:∀ {l l':List AV},SimL l l' → (∀ v ∈ l,Ok m w v) → ∀ v ∈ l',Ok m w v
 | [],[],_,_ => by simp
 | v :: l,v' :: l',h,h1 => by
  simp only [List.mem_cons,forall_eq_or_imp] at h1 ⊢
  exact ⟨h.1.2.2 _ _ h1.1,SimL.ok h.2 h1.2⟩
theorem Sim.agg {l l':List AV} (h:SimL l l'):Sim (.agg l) (.agg l'):=
 ⟨by simp only [AV.den,h.den],id,fun m w ho => by cases ho with | agg _ h1 h2 => exact .agg _ (h.one h1) (h.ok h2)⟩
theorem Sim.tup {l l':List AV} (h:SimL l l'):Sim (.tup l) (.tup l'):=
 ⟨by simp only [AV.den,h.den],id,fun m w ho => by cases ho with | tup _ h1 => exact .tup _ (h.ok h1)⟩
theorem Spec.res {P:Program} {f:Nat} {args:List AV} {res res':Atom → AV} (h:Spec P f args res) (hs:∀ x,Sim (res x) (res' x)):Spec P f args res':=by
 intro m w hm ha
 refine (h m w hm ha).mono ?_
 rintro e w' ⟨x,rfl,ho,hb⟩
 exact ⟨x,by rw [(hs x).1],(hs x).2.2 _ _ ho,hb⟩
theorem Sim.bool {b b':BE} (h:b.den=b'.den):Sim (.bool b) (.bool b'):=⟨by simp only [AV.den,h],id,fun _ _ _ => .bool _⟩
theorem Spec.sim {P:Program} {f:Nat} {args args':List AV} {res:Atom → AV} (h:Spec P f args res) (hs:SimL args' args):Spec P f args' res:=by
 intro m w hm ha
 have:=h m w hm (hs.ok ha)
 have e:args'.map AV.den=args.map AV.den:=by
  clear this ha h
  induction args' generalizing args with
  | nil => cases args with
   | nil => rfl
   | cons => exact hs.elim
  | cons v l ih => cases args with
   | nil => exact hs.elim
   | cons v' l' => simp only [List.map_cons,hs.1.1,ih hs.2]
 rw [e]
 exact this
theorem cut_one {P:Program} {Q:Exit → Act → World → Prop} {C:Cx} {ι : Type} (S:ι → List (Nat × AV)) (M:ι → List (Nat × Blk)) (G:ι → List (Nat × Gr)) (J:ι → Prop) {nt:Nat} {S0 rest:List (Nat × AV)} {M0 restm:List (Nat × Blk)} {G0 restg:List (Nat × Gr)} {x:Code} {a:Act} {w:World}
  (hf:Fits C ⟨nt,pre S0 rest,[],pre M0 restm,pre G0 restg⟩ a w)
  (hx:x.wp P (Exit.then (fun a' w' => ∃ p,J p ∧ Fits C ⟨nt,pre (S p) rest,[],pre (M p) restm,pre (G p) restg⟩ a' w') Q) a w)
  (hy:∀ p,J p → ∀ a' w',Fits C ⟨nt,pre (S p) rest,[],pre (M p) restm,pre (G p) restg⟩ a' w' → Q .normal a' w'):x.wp P Q a w:=by
 refine Code.wp_mono (fun e a' w' h => ?_) hx
 cases e with
 | normal => obtain ⟨p,hp,hf'⟩:=h; exact hy p hp a' w' hf'
 | _ => exact h
theorem ret_sim {Kk:Kn} {P:Program} {T:List (Nat × TI)} {s:St} {a:Act} {w:World} (hT:TabOK P T) {m:Nat → Nat → Prop} {w0:World} (h:Fits ⟨m,w0,fun _ => False,[],Kk⟩ s a w) {fn:Func} {res:Atom → AV} {rs:List ResultVar} (hfn:fn.results=rs.toArray) {r:List AV × List Ob} (hr:resL T s rs=some r) (ho:AO P Kk r.2)
  (x:Atom) (he:Sim (can (resA r.1)) (can (res x))):bodyPost P fn (fun e w' => ∃ x,e = .returned (res x).den ∧ Ok m w' (res x) ∧ Below w0.heap.size w0 w') .ret a w:=by
 refine (ret_ok hT h rfl hfn hr ho fun hv => ?_).1
 obtain ⟨h1,h2⟩:=done_ok h hv
 exact ⟨x,by rw [← can_den (resA r.1),he.1,can_den],(can_ok _).2 (he.2.2 _ _ ((can_ok _).1 h1)),h2⟩
def nAt:Atom:=⟨0,fun _ => none,fun _ => 0,fun _ => .empty⟩
section
variable {C:Cx} {P:Program} {Q:Exit → Act → World → Prop} {T:List (Nat × TI)} {ops:Array Oper} {all:List Oper}
theorem exec_pre {cs:List (Nat × CS)} {l2:List Oper} (hT:TabOK P T) (hall:ops=all.toArray):∀ (l:List Oper) (i:Nat) (s:St) (a:Act) (w:World),Fits C s a w → (∀ X,∃ r,exec std T cs X all (number i l) s=some r ∧ AO P C.K r.2.1) →
  (∀ X r a' w',exec std T cs X all (number i l) s=some r → Fits C r.1 a' w' → wpList P ops Q l2 a' w') → wpList P ops Q (l ++ l2) a w
 | [],i,s,a,w,h,hs,hQ => hQ (fun _ => ⟨0,fun _ => none,fun _ => 0,fun _ => .empty⟩) _ a w rfl h
 | o :: l,i,s,a,w,h,hs,hQ => by
  refine wpList_step fun K hK => ?_
  refine delta_ok (cs:=cs) (i:=i) hT hall h (fun x => ?_) fun x r a' w' hr hf => hK _ _ ?_
  ·obtain ⟨r,hr,hob⟩:=hs (fun _ => x)
   obtain ⟨δ,ob,f,r',h1,h2,rfl⟩:=exec_cons hr
   exact ⟨_,h1,(AO.app.1 hob).1⟩
  have put:∀ X:Nat → Atom,∃ Y:Nat → Atom,Y i=x ∧ ∀ j,i + 1 ≤ j → Y j=X j:=fun X => ⟨fun j => if j=i then x else X j,by simp,fun j hj => by simp only; rw [if_neg (by omega)]⟩
  refine exec_pre (cs:=cs) hT hall l (i + 1) (s.app r.1) a' w' hf (fun X => ?_) fun X r' a'' w'' hr' hf' => ?_
  ·obtain ⟨Y,hY,hYX⟩:=put X
   obtain ⟨r1,h1,hob⟩:=hs Y
   obtain ⟨δ,ob,f,r2,h2,h3,rfl⟩:=exec_cons h1
   rw [hY,hr] at h2; injection h2 with h2; subst h2
   rw [exec_congr _ _ (fun x hx => hYX x.1 (number_lt x hx))] at h3
   exact ⟨r2,h3,(AO.app.1 hob).2⟩
  obtain ⟨Y,hY,hYX⟩:=put X
  obtain ⟨r1,h1,hob⟩:=hs Y
  have h1':=h1
  obtain ⟨δ,ob,f,r2,h2,h3,rfl⟩:=exec_cons h1
  rw [hY,hr] at h2; injection h2 with h2; subst h2
  rw [exec_congr _ _ (fun x hx => hYX x.1 (number_lt x hx)),hr'] at h3; injection h3 with h3; subst h3
  exact hQ Y _ a'' w'' h1' hf'
theorem list_pre {s:St} {a:Act} {w:World} {L:List Oper} (i n:Nat) (hT:TabOK P T) (kp km:List Nat) (cs:List (Nat × CS)) (h:Fits C s a w) {R:Alg → (Nat → Atom) → St × List Ob}
  (hex:∀ A X,(exec A T cs X all (number i (L.take n)) s).map (fun r => (r.1.keep kp km,r.2.1))=some (R A X)) (hob:∀ X,AO P C.K (R std X).2) (hQ:∀ X a' w',Fits C (R std X).1 a' w' → wpList P all.toArray Q (L.drop n) a' w'):wpList P all.toArray Q L a w:=by
 have e:L=L.take n ++ L.drop n:=(List.take_append_drop n L).symm
 rw [e]
 refine exec_pre (cs:=cs) hT rfl (L.take n) i s a w h (fun X => ?_) fun X r a' w' hr hf => ?_
 ·obtain ⟨r,hr,e⟩:=Option.map_eq_some_iff.1 (hex std X)
  refine ⟨r,hr,?_⟩
  have:=hob X
  rw [← e] at this
  exact this
 have e:=hex std X
 rw [hr] at e
 injection e with e
 refine hQ X a' w' ?_
 rw [← e]
 exact hf.keep kp km
theorem list_end {s:St} {a:Act} {w:World} {L:List Oper} (i:Nat) (hT:TabOK P T) (kp km:List Nat) (cs:List (Nat × CS)) (h:Fits C s a w) {R:Alg → (Nat → Atom) → St × List Ob}
  (hex:∀ A X,(exec A T cs X all (number i L) s).map (fun r => (r.1.keep kp km,r.2.1))=some (R A X)) (hob:∀ X,AO P C.K (R std X).2) (hQ:∀ X a' w',Fits C (R std X).1 a' w' → Q .normal a' w'):wpList P all.toArray Q L a w:=by
 refine exec_ok (cs:=cs) hT rfl L i s a w h (fun X => ?_) fun X r a' w' hr hf => ?_
 ·obtain ⟨r,hr,e⟩:=Option.map_eq_some_iff.1 (hex std X)
  refine ⟨r,hr,?_⟩
  have:=hob X
  rw [← e] at this
  exact this
 have e:=hex std X
 rw [hr] at e
 injection e with e
 refine hQ X a' w' ?_
 rw [← e]
 exact hf.keep kp km
theorem man_op {a:Act} {w:World} {L rest:List Oper} {o:Oper} (hL:L=o :: rest) (hg:o.guard=none) (h:o.wp P a w (wpList P ops Q rest) Q):wpList P ops Q L a w:=by
 subst hL
 unfold wpList
 have:Region.wanted o (yielded ops a.tmps)=true:=by simp [Region.wanted,hg]
 rw [if_pos this]
 exact .inl h
end
inductive Out where
 | ret (r:CR)
 | thr (v:Value) (sets:List (Nat × List AV))
def OPost1 (m:Nat → Nat → Prop) (w:World) (pre:List (Nat × Blk)) (e:Ending) (w':World):Out → Prop
 | .ret r => e = .returned r.v.den ∧ Ok (mN m r.news) w' r.v ∧ Left m w w' pre r.sets r.news
 | .thr v sets => e = .panicked [{ v,recovered:=false }] ∧ Left m w w' pre sets []
def OPost (m:Nat → Nat → Prop) (w:World) (pre:List (Nat × Blk)) (out:Atom → Out) (e:Ending) (w':World):Prop:=∃ x,OPost1 m w pre e w' (out x)
def SpecO (P:Program) (f:FuncId) (args:List AV) (pre:List (Nat × Blk)) (out:Atom → Out):Prop:=
 ∀ (m:Nat → Nat → Prop) (w:World),(∀ b o,m b o → b < w.heap.size) → (∀ v ∈ args,Ok m w v) → PreOk m w pre → Calls P f (args.map AV.den).toArray w (OPost m w pre out)
theorem SpecO.x {P:Program} {f:FuncId} {args:List AV} {pre:List (Nat × Blk)} {out:Atom → Out} {res:Atom → CR} (h:SpecO P f args pre out) (e:∀ x,out x = .ret (res x)):SpecX P f args pre res:=by
 intro m w h1 h2 h3
 refine (h m w h1 h2 h3).mono ?_
 rintro e' w' ⟨x,hx⟩
 rw [e x] at hx
 exact ⟨x,hx⟩
theorem SpecX.o {P:Program} {f:FuncId} {args:List AV} {pre:List (Nat × Blk)} {out:Atom → Out} {res:Atom → CR} (h:SpecX P f args pre res) (e:∀ x,out x = .ret (res x)):SpecO P f args pre out:=by
 intro m w h1 h2 h3
 refine (h m w h1 h2 h3).mono ?_
 rintro e' w' ⟨x,hx⟩
 exact ⟨x,by rw [e x]; exact hx⟩
theorem SpecO.res {P:Program} {f:FuncId} {args:List AV} {pre:List (Nat × Blk)} {out out':Atom → Out} (h:SpecO P f args pre out) (e:∀ x,out x=out' x):SpecO P f args pre out':=by
 have:out=out':=funext e
 exact this ▸ h
def pureR (f:Atom → AV):Atom → CR:=fun x => ⟨f x,[],[]⟩
theorem Spec.x {P:Program} {f:FuncId} {args:List AV} {res:Atom → AV} (h:Spec P f args res):SpecX P f args [] (pureR res):=by
 intro m w h1 h2 _
 refine (h m w h1 h2).mono ?_
 rintro e' w' ⟨x,rfl,hok,hb⟩
 refine ⟨x,rfl,hok.mono fun b o u h1 h2 => ⟨h1,fun h => ?_⟩,⟨rfl,fun e he => (by cases he),fun e he => (by cases he),fun e he => (by cases he),.nil,Chg.of_new hb⟩⟩
 rcases h with h | ⟨e,he,_⟩
 ·exact h2 h
 cases he
theorem SpecX.pure {P:Program} {f:FuncId} {args:List AV} {res:Atom → CR} {res':Atom → AV} (h:SpecX P f args [] res) (e:∀ x,res x=⟨res' x,[],[]⟩):Spec P f args res':=by
 intro m w h1 h2
 refine (h m w h1 h2 ⟨fun e he => (by cases he),fun e he => (by cases he),fun e he => (by cases he),.nil⟩).mono ?_
 rintro e' w' ⟨x,rfl,hok,hl⟩
 rw [e x] at hok hl ⊢
 refine ⟨x,rfl,hok.mono fun b o u h1 h2 => ⟨h1,fun h => h2 (.inl h)⟩,hl.chg.below (Nat.le_refl _) fun k ⟨e,he,_⟩ => (by cases he)⟩
section
variable {P:Program}
theorem enterFits {m:Nat → Nat → Prop} {w:World} {pre:List (Nat × Blk)} (hm:∀ b o,m b o → b < w.heap.size) (hp:PreOk m w pre) {args:List AV} (hargs:∀ v ∈ args,Ok m w v) {n:Nat} (hn:args.length ≤ n) :
  Fits ⟨m,w,ats pre,[],noK⟩ ⟨n,startT 0 args,[],pre,[]⟩ { tmps:=(args.map AV.den).toArray ++ Array.replicate (n - args.length) Go.undef,defers:=[] } w:=by
 have mono:∀ v,Ok m w v → Ok (St.m ⟨n,startT 0 args,[],pre,[]⟩ ⟨m,w,ats pre,[],noK⟩) w v:=fun v hv => hv.mono fun b' o u h1 h2 => ⟨h1,fun h => by
  rcases h with h | ⟨k,e,he,hat⟩ | ⟨k,e,he,_⟩
  ·exact h2 h
  ·exact h2 (hat ▸ hp.free _ (lookM_mem he) o)
  cases he⟩
 have h0:=start_ok hm hargs hn
 refine ⟨h0.size,rfl,fun t ht => ?_,(fun t p v he => by cases he),fun k e he => ?_,fun k k' e e' he he' hne => pairwise_ne hp.dist (lookM_mem he) (lookM_mem he') hne,(fun k t ht => by cases ht),(fun k t k' e ht => by cases ht),(fun k t k' t' b ht => by cases ht),Chg.refl _ _,hm,trivial⟩
 ·obtain ⟨h1,h2⟩:=h0.slot t ht
  exact ⟨h1,mono _ (h2.mono fun b' o u g1 g2 => ⟨g1,fun hm' => g2 (.inl hm')⟩)⟩
 have hin:=lookM_mem he
 exact ⟨hp.heap _ hin,fun v hv => ⟨(hp.ok _ hin v hv).1,mono _ (hp.ok _ hin v hv).2⟩,.inr ⟨_,hin,rfl⟩⟩
theorem enterX {m:Nat → Nat → Prop} {w:World} {pre:List (Nat × Blk)} (hm:∀ b o,m b o → b < w.heap.size) (hp:PreOk m w pre) {args:List AV} (hargs:∀ v ∈ args,Ok m w v) {f:FuncId} {fn:Func} {c:Code} {R:Ending → World → Prop} (hf:P.funcs[f]? = some fn) (hbd:fn.body=some c) (hn:args.length ≤ fn.ntmps)
  (h:∀ a,Fits ⟨m,w,ats pre,[],noK⟩ ⟨fn.ntmps,startT 0 args,[],pre,[]⟩ a w → c.wp P (bodyPost P fn R) a w):Calls P f (args.map AV.den).toArray w R:=by
 refine calls_of_wp hf hbd ?_
 have:=h _ (enterFits hm hp hargs hn)
 simpa using this
theorem enterD {m:Nat → Nat → Prop} {w:World} {pre:List (Nat × Blk)} (hm:∀ b o,m b o → b < w.heap.size) (hp:PreOk m w pre) {args:List AV} (hargs:∀ v ∈ args,Ok m w v) {f:FuncId} {fn:Func} {c:Code} {R:Ending → World → Prop} (hf:P.funcs[f]? = some fn) (hbd:fn.body=some c) (hn:args.length ≤ fn.ntmps)
  (h:∀ a,Fits ⟨m,w,ats pre,[],noK⟩ ⟨fn.ntmps,startT 0 args,[],pre,[]⟩ a w → c.wp P (bodyPostD P fn R) a w):Calls P f (args.map AV.den).toArray w R:=by
 refine calls_of_wp_defers hf hbd ?_
 have:=h _ (enterFits hm hp hargs hn)
 simpa using this
def SetsOk (s:St):List (Nat × Blk) → List (Nat × List AV) → Prop
 | [],[] => True
 | (k,b) :: l,(k',c) :: r => k'=k ∧ (∃ cells,lookM s.mem k=some ⟨b.at_,b.ty,cells⟩ ∧ SimL cells c) ∧ SetsOk s l r
 | _,_ => False
def NewsOk (s:St) (pre:List (Nat × Blk)):List Nat → List (Nat × Blk) → Prop
 | [],[] => True
 | k :: ks,(_,b) :: l => (∃ cells,lookM s.mem k=some ⟨b.at_,b.ty,cells⟩ ∧ SimL cells b.cells) ∧ (∀ e ∈ pre,e.1 ≠ k) ∧ k ∉ ks ∧ NewsOk s pre ks l
 | _,_ => False
theorem SetsOk.keys {s:St}:∀ {pre:List (Nat × Blk)} {sets:List (Nat × List AV)},SetsOk s pre sets → sets.map (·.1)=pre.map (·.1)
 | [],[],_ => rfl
 | (k,b) :: l,(k',c) :: r,h => by simp only [List.map_cons,h.1,SetsOk.keys h.2.2]
 | [],_ :: _,h => h.elim
 | _ :: _,[],h => h.elim
theorem SetsOk.mem {s:St}:∀ {pre:List (Nat × Blk)} {sets:List (Nat × List AV)},SetsOk s pre sets → ∀ e ∈ upd pre sets,∃ cells,lookM s.mem e.1=some ⟨e.2.at_,e.2.ty,cells⟩ ∧ SimL cells e.2.cells
 | [],[],_,e,he => by cases he
 | (k,b) :: l,(k',c) :: r,h,e,he => by
  simp only [upd,List.mem_cons] at he
  rcases he with rfl | he
  ·exact h.2.1
  exact SetsOk.mem h.2.2 e he
 | [],_ :: _,h,_,_ => h.elim
 | _ :: _,[],h,_,_ => h.elim
theorem SetsOk.all {s:St}:∀ {pre:List (Nat × Blk)} {sets:List (Nat × List AV)},SetsOk s pre sets → ∀ e ∈ pre,∃ cells,lookM s.mem e.1=some ⟨e.2.at_,e.2.ty,cells⟩
 | [],[],_,e,he => by cases he
 | (k,b) :: l,(k',c) :: r,h,e,he => by
  rcases List.mem_cons.1 he with rfl | he
  ·obtain ⟨cells,h1,_⟩:=h.2.1; exact ⟨cells,h1⟩
  exact SetsOk.all h.2.2 e he
 | [],_ :: _,h,_,_ => h.elim
 | _ :: _,[],h,_,_ => h.elim
theorem NewsOk.mem {s:St} {pre:List (Nat × Blk)}:∀ {ks:List Nat} {news:List (Nat × Blk)},NewsOk s pre ks news → ∀ e ∈ news,∃ k cells,k ∈ ks ∧ lookM s.mem k=some ⟨e.2.at_,e.2.ty,cells⟩ ∧ SimL cells e.2.cells ∧ ∀ e ∈ pre,e.1 ≠ k
 | [],[],_,e,he => by cases he
 | k :: ks,(_,b) :: l,h,e,he => by
  rcases List.mem_cons.1 he with rfl | he
  ·obtain ⟨cells,h1,h2⟩:=h.1; exact ⟨k,cells,by simp,h1,h2,h.2.1⟩
  obtain ⟨k',cells,h0,h1⟩:=NewsOk.mem h.2.2.2 e he
  exact ⟨k',cells,List.mem_cons_of_mem _ h0,h1⟩
 | [],_ :: _,h,_,_ => h.elim
 | _ :: _,[],h,_,_ => h.elim
theorem NewsOk.dist {s:St} {C:Cx} {a:Act} {w:World} (hF:Fits C s a w) {pre:List (Nat × Blk)}:∀ {ks:List Nat} {news:List (Nat × Blk)},NewsOk s pre ks news → news.Pairwise fun e f => e.2.at_ ≠ f.2.at_
 | [],[],_ => .nil
 | k :: ks,(_,b) :: l,h => by
  refine .cons (fun e he => ?_) (NewsOk.dist hF h.2.2.2)
  obtain ⟨k',cells,h0,h1,_⟩:=NewsOk.mem h.2.2.2 e he
  obtain ⟨cells',h2,_⟩:=h.1
  have:=hF.nodup k k' _ _ h2 h1 fun e => h.2.2.1 (e ▸ h0)
  exact this
 | [],_ :: _,h => h.elim
 | _ :: _,[],h => h.elim
theorem SimL.map:∀ {l l':List AV},SimL l l' → l.map AV.den=l'.map AV.den
 | [],[],_ => rfl
 | v :: l,v' :: l',h => by simp only [List.map_cons,h.1.1,SimL.map h.2]
 | [],_ :: _,h => h.elim
 | _ :: _,[],h => h.elim
theorem left_ok {K:Kn} {m:Nat → Nat → Prop} {w0 w:World} {pre:List (Nat × Blk)} {d:List Deferred} {s:St} {a:Act} (h:Fits ⟨m,w0,ats pre,d,K⟩ s a w) {sets:List (Nat × List AV)} {news:List (Nat × Blk)} {ks:List Nat} (hs:SetsOk s pre sets) (hn:NewsOk s pre ks news) :
  Left m w0 w pre sets news ∧ ∀ v,Ok (s.m ⟨m,w0,ats pre,d,K⟩) w v → Ok (mN m news) w v:=by
 have sub:∀ v,Ok (s.m ⟨m,w0,ats pre,d,K⟩) w v → Ok (mN m news) w v:=fun v hv => hv.mono fun b' o u h1 h2 => ⟨h1,fun hm => by
  rcases hm with hm | ⟨e,he,hat⟩
  ·exact h2 (.inl hm)
  obtain ⟨k,cells,_,hk,_⟩:=hn.mem e he
  exact h2 (.inr (.inl ⟨k,_,hk,hat⟩))⟩
 have key:∀ e ∈ upd pre sets ++ news,∃ k cells,lookM s.mem k=some ⟨e.2.at_,e.2.ty,cells⟩ ∧ SimL cells e.2.cells:=by
  intro e he
  rcases List.mem_append.1 he with he | he
  ·obtain ⟨cells,h1,h2⟩:=hs.mem e he; exact ⟨_,cells,h1,h2⟩
  obtain ⟨k,cells,_,h1,h2,_⟩:=hn.mem e he; exact ⟨k,cells,h1,h2⟩
 refine ⟨⟨hs.keys,fun e he => ?_,fun e he v hv => ?_,fun e he => ?_,hn.dist h,h.chg⟩,sub⟩
 ·obtain ⟨k,cells,h1,h2⟩:=key e he
  have:=(h.mem _ _ h1).1
  simp only at this
  rw [h2.map] at this
  exact this
 ·obtain ⟨k,cells,h1,h2⟩:=key e he
  have h3:=(h.mem _ _ h1).2.1
  exact ⟨h2.one (fun v hv => (h3 v hv).1) v hv,h2.ok (fun v hv => sub v (h3 v hv).2) v hv⟩
 obtain ⟨k,cells,_,h1,_,h2⟩:=hn.mem e he
 rcases (h.mem _ _ h1).2.2 with h3 | ⟨e',he',hat⟩
 ·exact h3
 obtain ⟨cells',h4⟩:=hs.all e' he'
 have:=h.nodup _ _ _ _ h4 h1 (h2 e' he')
 exact absurd hat this
variable {T:List (Nat × TI)} {s:St} {a:Act} {w:World}
theorem ret_out {Kk:Kn} (hT:TabOK P T) {m:Nat → Nat → Prop} {w0:World} {pre:List (Nat × Blk)} (h:Fits ⟨m,w0,ats pre,[],Kk⟩ s a w) {fn:Func} {out:Atom → Out} {rs:List ResultVar} (hfn:fn.results=rs.toArray) {r:List AV × List Ob} (hr:resL T s rs=some r) (ho:AO P Kk r.2)
  (x:Atom) {cr:CR} (hout:out x = .ret cr) (ks:List Nat) (he:Sim (can (resA r.1)) (can cr.v)) (hs:SetsOk s pre cr.sets) (hn:NewsOk s pre ks cr.news):bodyPost P fn (OPost m w0 pre out) .ret a w ∧ bodyPost P fn (OPost m w0 pre out) .normal a w:=by
 obtain ⟨h1,h2⟩:=left_ok h hs hn
 refine ret_ok hT h rfl hfn hr ho fun hv => ⟨x,?_⟩
 rw [hout]
 exact ⟨by rw [← can_den (resA r.1),he.1,can_den],(can_ok _).2 (he.2.2 _ _ ((can_ok _).1 (h2 _ hv))),h1⟩
theorem ret_x {Kk:Kn} (hT:TabOK P T) {m:Nat → Nat → Prop} {w0:World} {pre:List (Nat × Blk)} (h:Fits ⟨m,w0,ats pre,[],Kk⟩ s a w) {fn:Func} {res:Atom → CR} {rs:List ResultVar} (hfn:fn.results=rs.toArray) {r:List AV × List Ob} (hr:resL T s rs=some r) (ho:AO P Kk r.2)
  (x:Atom) (ks:List Nat) (he:Sim (can (resA r.1)) (can (res x).v)) (hs:SetsOk s pre (res x).sets) (hn:NewsOk s pre ks (res x).news):bodyPost P fn (XPost m w0 pre res) .ret a w ∧ bodyPost P fn (XPost m w0 pre res) .normal a w:=
 ret_out (out:=fun x => .ret (res x)) hT h hfn hr ho x rfl ks he hs hn
end
section
variable {C:Cx} {P:Program} {Q:Exit → Act → World → Prop} {T:List (Nat × TI)} {ops:Array Oper} {all:List Oper}
theorem call_run {s:St} {a:Act} {w:World} {o:Oper} {c:Call} {g:Operand} {f:FuncId} {l r args:List AV} (hop:o.op = .call c) (hcal:c.callee = .value g) (h:Fits C s a w) (hgv:val s [] g = .fn f l r) (hl:vals s [] c.args.toList=some args) (hen:Enters P f) :
  (execOp a.eval o).run P w = .ok (.enter f ((l ++ args ++ r).map AV.den).toArray) w ∧ ∀ v ∈ l ++ args ++ r,Ok (s.m C) w v:=by
 obtain ⟨h1,h2⟩:=vals_ok h (fun _ h => by cases h) hl
 have hg:=val_ok h (q:=[]) (fun _ h => by cases h) (x:=g) (by rw [hgv]; rfl)
 rw [hgv] at hg
 have hargs:c.args.map a.eval=(args.map AV.den).toArray:=by
  apply Array.ext'
  simpa using h1
 have e1:a.eval g = .func (.func f) (l.map AV.den).toArray (r.map AV.den).toArray:=by
  have:=hg.1
  simpa [AV.den,denL_map] using this
 have hent':=hen ((l ++ args ++ r).map AV.den).toArray w
 refine ⟨?_,fun v hv => ?_⟩
 ·simp only [List.map_append] at hent'
  simp [execOp,hop,resolve,hcal,e1,Deferred.ofValue,invoke,hargs,List.append_assoc]
  simpa [List.append_assoc] using hent'
 cases hg.2 with
 | fn _ _ _ k1 k2 =>
  rcases List.mem_append.1 hv with hv | hv
  ·rcases List.mem_append.1 hv with hv | hv
   ·exact k1 v hv
   exact h2 v hv
  exact k2 v hv
theorem man_panic {s:St} {a:Act} {w:World} {L rest:List Oper} {o:Oper} {x:Operand} {t:Nat} {v:AV} (hL:L=o :: rest) (hg:o.guard=none) (hop:o.op = .panic x) (h:Fits C s a w) (hx:val s [] x = .ifc t v) (hQ:Q (.panic [{ v:=.iface t v.den,recovered:=false }]) a w):wpList P ops Q L a w:=by
 refine man_op hL hg ?_
 have hxv:=(val_ok h (q:=[]) (fun _ h => by cases h) (x:=x) (by rw [hx]; rfl)).1
 rw [hx] at hxv
 have e1:a.eval x = .iface t v.den:=hxv
 have hrun:(execOp a.eval o).run P w = .halt (.panic (.iface t v.den)) w:=by
  simp only [execOp,hop,e1,Instr.panic,Sem.run_bind]
  rfl
 unfold Oper.wp
 rw [hrun]
 exact hQ
theorem man_defer {s:St} {a:Act} {w:World} {L rest:List Oper} {o:Oper} {c:Call} {g:Operand} {f:FuncId} {l r args:List AV} (hL:L=o :: rest) (hg:o.guard=none) (hd:o.dst=none) (hop:o.op = .defer c) (hcal:c.callee = .value g) (h:Fits C s a w) (hgv:val s [] g = .fn f l r) (hl:vals s [] c.args.toList=some args)
  (K:∀ a',Fits ⟨C.m0,C.w0,C.S,{ target:=.fn (.func f) (AV.denL r).toArray,args:=(AV.denL (l ++ args)).toArray } :: C.ds,C.K⟩ s a' w → wpList P ops Q rest a' w):wpList P ops Q L a w:=by
 refine man_op hL hg ?_
 obtain ⟨h1,h2⟩:=vals_ok h (fun _ h => by cases h) hl
 have hgo:=val_ok h (q:=[]) (fun _ h => by cases h) (x:=g) (by rw [hgv]; rfl)
 rw [hgv] at hgo
 have hargs:c.args.map a.eval=(args.map AV.den).toArray:=by
  apply Array.ext'
  simpa using h1
 have e1:a.eval g = .func (.func f) (l.map AV.den).toArray (r.map AV.den).toArray:=by
  have:=hgo.1
  simpa [AV.den,denL_map] using this
 have hrun:(execOp a.eval o).run P w = .ok (.defer { target:=.fn (.func f) (AV.denL r).toArray,args:=(AV.denL (l ++ args)).toArray }) w:=by
  simp [execOp,hop,resolve,hcal,e1,Deferred.ofValue,hargs,denL_map]
 unfold Oper.wp
 rw [hrun]
 simp only [Oper.upon,hd,Act.put]
 refine K _ ⟨h.size,?_,h.slot,h.gs,h.mem,h.nodup,h.gr,h.sepm,h.sepg,h.chg,h.m0,h.kept⟩
 simp only [h.defers]
theorem leave_step {s:St} {a:Act} {w:World} {fn:Func} {R:Ending → World → Prop} {u u1:FrameMode} {f:FuncId} {l r:List AV} {ds:List Deferred} (h:Fits ⟨C.m0,C.w0,C.S,{ target:=.fn (.func f) (AV.denL r).toArray,args:=(AV.denL l).toArray } :: ds,C.K⟩ s a w) (hu:u ≠ .run) (hen:Enters P f)
  {pre:List (Nat × Blk)} {sets:List (Nat × List AV)} (hpre:∀ e ∈ pre,lookM s.mem e.1=some e.2) (hnd:nodupB pre=true)
  (hc:PreOk (s.m C) w pre → CallsD P f ((l ++ r).map AV.den).toArray u w fun e u' w' => (∃ v,e = .returned v) ∧ u'=u1 ∧ Left (s.m C) w w' pre sets [])
  (K:∀ w',Fits ⟨C.m0,C.w0,C.S,ds,C.K⟩ (s.eff (.sets (upd pre sets))) { tmps:=a.tmps,defers:=ds } w' → Leaves P fn a.tmps R ds (settle u1) w'):Leaves P fn a.tmps R a.defers u w:=by
 rw [h.defers]
 have h0:Fits ⟨C.m0,C.w0,C.S,ds,C.K⟩ s { tmps:=a.tmps,defers:=ds } w:=⟨h.size,rfl,h.slot,h.gs,h.mem,h.nodup,h.gr,h.sepm,h.sepg,h.chg,h.m0,h.kept⟩
 have hdist:=nodup_dist h hnd hpre
 have hent:=hen ((l ++ r).map AV.den).toArray w
 refine leaves_cons hu (f:=f) (args:=((l ++ r).map AV.den).toArray) (by simpa [invoke,denL_map] using hent) ?_
 refine (hc ⟨fun e he => (h.mem _ _ (hpre e he)).1,fun e he => (h.mem _ _ (hpre e he)).2.1,fun e he o => .inr (.inl ⟨e.1,e.2,hpre e he,rfl⟩),hdist⟩).mono ?_
 rintro e u' w' ⟨⟨v,rfl⟩,rfl,hl⟩
 have f1:=(h0.called hdist hpre hl).1
 rw [List.append_nil] at f1
 exact K w' f1
theorem leave_end {Kk:Kn} {s:St} {a:Act} {w:World} {m:Nat → Nat → Prop} {w0:World} {pre:List (Nat × Blk)} (hT:TabOK P T) (h:Fits ⟨m,w0,ats pre,[],Kk⟩ s a w) {fn:Func} {out:Atom → Out} {rs:List ResultVar} (hfn:fn.results=rs.toArray) {r:List AV × List Ob} (hr:resL T s rs=some r) (ho:AO P Kk r.2)
  (x:Atom) {cr:CR} (hout:out x = .ret cr) (ks:List Nat) (he:Sim (can (resA r.1)) (can cr.v)) (hs:SetsOk s pre cr.sets) (hn:NewsOk s pre ks cr.news):Leaves P fn a.tmps (OPost m w0 pre out) [] .returning w:=by
 obtain ⟨h1,h2⟩:=left_ok h hs hn
 obtain ⟨g1,g2⟩:=results_ok hT h hfn hr ho
 refine ⟨_,g1,x,?_⟩
 rw [hout]
 exact ⟨by rw [← can_den (resA r.1),he.1,can_den],(can_ok _).2 (he.2.2 _ _ ((can_ok _).1 (h2 _ g2))),h1⟩
theorem ret_d {Kk:Kn} {s:St} {a:Act} {w:World} {m:Nat → Nat → Prop} {w0:World} {pre:List (Nat × Blk)} (hT:TabOK P T) (h:Fits ⟨m,w0,ats pre,[],Kk⟩ s a w) {fn:Func} {out:Atom → Out} {rs:List ResultVar} (hfn:fn.results=rs.toArray) {r:List AV × List Ob} (hr:resL T s rs=some r) (ho:AO P Kk r.2)
  (x:Atom) {cr:CR} (hout:out x = .ret cr) (ks:List Nat) (he:Sim (can (resA r.1)) (can cr.v)) (hs:SetsOk s pre cr.sets) (hn:NewsOk s pre ks cr.news):bodyPostD P fn (OPost m w0 pre out) .ret a w:=by
 show Leaves P fn a.tmps (OPost m w0 pre out) a.defers .returning w
 rw [h.defers]
 exact leave_end hT h hfn hr ho x hout ks he hs hn
end
theorem Sim.ptr {k k' b off:Nat}:Sim (.ptr k b off) (.ptr k' b off):=⟨rfl,fun _ => rfl,fun _ _ _ => .ptr _ _ _⟩
theorem Sim.fn {f:Nat} {l l' r r':List AV} (h:SimL l l') (h':SimL r r'):Sim (.fn f l r) (.fn f l' r'):=
 ⟨by simp only [AV.den,h.den,h'.den],fun _ => rfl,fun m w ho => by cases ho with | fn _ _ _ h1 h2 => exact .fn _ _ _ (h.ok h1) (h'.ok h2)⟩
theorem SimL.refl:∀ l:List AV,SimL l l
 | [] => trivial
 | v :: l => ⟨Sim.refl v,SimL.refl l⟩
theorem upd_snd:∀ {pre pre':List (Nat × Blk)} {r r':List (Nat × List AV)},pre'.map (·.2)=pre.map (·.2) → r'.map (·.2)=r.map (·.2) → (upd pre' r').map (·.2)=(upd pre r).map (·.2)
 | [],[],r,r',_,_ => by cases r<;>cases r'<;>rfl
 | [],_ :: _,_,_,h,_ => by cases h
 | _ :: _,[],_,_,h,_ => by cases h
 | _ :: _,_ :: _,[],[],_,_ => rfl
 | _ :: _,_ :: _,[],_ :: _,_,h => by cases h
 | _ :: _,_ :: _,_ :: _,[],_,h => by cases h
 | (k,b) :: l,(k',b') :: l',(q,c) :: r,(q',c') :: r',h,h' => by
  simp only [List.map_cons,List.cons.injEq] at h h'
  obtain ⟨rfl,h⟩:=h
  obtain ⟨rfl,h'⟩:=h'
  simp only [upd,List.map_cons,upd_snd h h']
theorem all_snd {l l':List (Nat × Blk)} {p:Blk → Prop} (h:l'.map (·.2)=l.map (·.2)) (hp:∀ e ∈ l,p e.2):∀ e ∈ l',p e.2:=by
 intro e he
 have:e.2 ∈ l.map (·.2):=by rw [← h]; exact List.mem_map.2 ⟨e,he,rfl⟩
 obtain ⟨e',h1,h2⟩:=List.mem_map.1 this
 rw [← h2]; exact hp e' h1
theorem pair_snd {l l':List (Nat × Blk)} (h:l'.map (·.2)=l.map (·.2)) (hp:l.Pairwise fun e f => e.2.at_ ≠ f.2.at_):l'.Pairwise fun e f => e.2.at_ ≠ f.2.at_:=by
 have e:∀ l:List (Nat × Blk),(l.Pairwise fun e f => e.2.at_ ≠ f.2.at_) ↔ (l.map (·.2)).Pairwise fun b c => b.at_ ≠ c.at_:=fun l => by rw [List.pairwise_map]
 rw [e,h,← e]; exact hp
theorem ats_snd {l l':List (Nat × Blk)} (h:l'.map (·.2)=l.map (·.2)) (b:Nat):ats l' b ↔ ats l b:=by
 have e:∀ l:List (Nat × Blk),ats l b ↔ ∃ x ∈ l.map (·.2),x.at_=b:=fun l => ⟨fun ⟨e,he,h⟩ => ⟨e.2,List.mem_map.2 ⟨e,he,rfl⟩,h⟩,fun ⟨x,hx,h⟩ => by obtain ⟨e,he,rfl⟩:=List.mem_map.1 hx; exact ⟨e,he,h⟩⟩
 rw [e,e,h]
theorem Left.re {m:Nat → Nat → Prop} {w w':World} {pre pre':List (Nat × Blk)} {sets sets':List (Nat × List AV)} {news news':List (Nat × Blk)} (h:Left m w w' pre sets news) (hp:pre'.map (·.2)=pre.map (·.2)) (hs:sets'.map (·.2)=sets.map (·.2)) (hk:sets'.map (·.1)=pre'.map (·.1)) (hn:news'.map (·.2)=news.map (·.2)):Left m w w' pre' sets' news':=by
 have hm:mN m news'=mN m news:=by funext b o; simp only [mN,ats_snd hn]
 have hu:(upd pre' sets' ++ news').map (·.2)=(upd pre sets ++ news).map (·.2):=by rw [List.map_append,List.map_append,upd_snd hp hs,hn]
 refine ⟨hk,all_snd (p:=fun b => w'.heap[b.at_]? = some (.cells (b.cells.map AV.den).toArray b.ty (0,0))) hu h.heap,all_snd (p:=fun b => ∀ v ∈ b.cells,v.one=true ∧ Ok (mN m news') w' v) hu (hm ▸ h.ok),all_snd (p:=fun b => w.heap.size ≤ b.at_) hn h.fresh,pair_snd hn h.dist,h.chg.mono fun k hk => (ats_snd hp k).2 hk⟩
theorem PreOk.re {m:Nat → Nat → Prop} {w:World} {pre pre':List (Nat × Blk)} (h:PreOk m w pre) (hp:pre'.map (·.2)=pre.map (·.2)):PreOk m w pre':=
 ⟨all_snd (p:=fun b => w.heap[b.at_]? = some (.cells (b.cells.map AV.den).toArray b.ty (0,0))) hp h.heap,all_snd (p:=fun b => ∀ v ∈ b.cells,v.one=true ∧ Ok m w v) hp h.ok,all_snd (p:=fun b => ∀ o,m b.at_ o) hp h.free,pair_snd hp h.dist⟩
theorem SpecX.re {P:Program} {f:FuncId} {args args':List AV} {pre pre':List (Nat × Blk)} {res res':Atom → CR} (h:SpecX P f args pre res) (ha:SimL args' args) (hp:pre'.map (·.2)=pre.map (·.2))
  (hr:∀ x,(res' x).sets.map (·.2)=(res x).sets.map (·.2) ∧ (res' x).sets.map (·.1)=pre'.map (·.1) ∧ Sim (res x).v (res' x).v ∧ (res' x).news.map (·.2)=(res x).news.map (·.2)):SpecX P f args' pre' res':=by
 intro m w h1 h2 h3
 rw [ha.map]
 refine (h m w h1 (ha.ok h2) (h3.re hp.symm)).mono ?_
 rintro e w' ⟨x,rfl,hok,hl⟩
 obtain ⟨r1,r2,r3,r4⟩:=hr x
 have hm:mN m (res' x).news=mN m (res x).news:=by funext b o; simp only [mN,ats_snd r4]
 exact ⟨x,by rw [r3.1],by rw [hm]; exact r3.2.2 _ _ hok,hl.re hp r1 r2 r4⟩
def ReOut (pre':List (Nat × Blk)):Out → Out → Prop
 | .ret r,.ret r' => r'.sets.map (·.2)=r.sets.map (·.2) ∧ r'.sets.map (·.1)=pre'.map (·.1) ∧ Sim r.v r'.v ∧ r'.news.map (·.2)=r.news.map (·.2)
 | .thr v sets,.thr v' sets' => v'=v ∧ sets'.map (·.2)=sets.map (·.2) ∧ sets'.map (·.1)=pre'.map (·.1)
 | _,_ => False
theorem SpecO.re {P:Program} {f:FuncId} {args args':List AV} {pre pre':List (Nat × Blk)} {out out':Atom → Out} (h:SpecO P f args pre out) (ha:SimL args' args) (hp:pre'.map (·.2)=pre.map (·.2)) (hr:∀ x,ReOut pre' (out x) (out' x)):SpecO P f args' pre' out':=by
 intro m w h1 h2 h3
 rw [ha.map]
 refine (h m w h1 (ha.ok h2) (h3.re hp.symm)).mono ?_
 rintro e w' ⟨x,hx⟩
 refine ⟨x,?_⟩
 have hrx:=hr x
 cases ho:out x with
 | ret r =>
  cases ho':out' x with
  | ret r' =>
   rw [ho] at hx hrx
   rw [ho'] at hrx
   obtain ⟨r1,r2,r3,r4⟩:=hrx
   obtain ⟨rfl,hok,hl⟩:=hx
   have hm:mN m r'.news=mN m r.news:=by funext b o; simp only [mN,ats_snd r4]
   exact ⟨by rw [r3.1],by rw [hm]; exact r3.2.2 _ _ hok,hl.re hp r1 r2 r4⟩
  | thr v sets => rw [ho,ho'] at hrx; exact hrx.elim
 | thr v sets =>
  cases ho':out' x with
  | ret r' => rw [ho,ho'] at hrx; exact hrx.elim
  | thr v' sets' =>
   rw [ho] at hx hrx
   rw [ho'] at hrx
   obtain ⟨rfl,r1,r2⟩:=hrx
   obtain ⟨rfl,hl⟩:=hx
   exact ⟨rfl,hl.re hp r1 r2 rfl⟩
section
variable {C:Cx} {P:Program} {Q:Exit → Act → World → Prop} {T:List (Nat × TI)} {s:St} {a:Act} {w:World}
theorem rgB {id:Nat} {l:List Oper} {B:Alg} (hB:B=std) (hT:TabOK P T) (kp km:List Nat) (cs:List (Nat × CS)) (h:Fits C s a w) {R:Alg → (Nat → Atom) → St × List Ob}
  (hex:∀ A X,(exec A T cs X l (number 0 l) s).map (fun r => (r.1.keep kp km,r.2.1))=some (R A X)) (hob:∀ X,AO P C.K (R B X).2) (hQ:∀ X a' w',Fits C (R B X).1 a' w' → Q .normal a' w'):(Code.region id l.toArray false).wp P Q a w:=by
 subst hB
 exact region_ok hT kp km cs h hex hob hQ
theorem drB {id:Nat} {l:List Oper} {B:Alg} (hB:B=std) (hm:P.follows .mixedOrders=true) (hT:TabOK P T) (kp km:List Nat) (cs:List (Nat × CS)) (h:Fits C s a w) (hgs:s.gs=[]) (fs:List Foot) (hD:drawB l fs=true) (hlen:l.length=fs.length)
  {R:Alg → (Nat → Atom) → St × List Ob}
  (hex:∀ A X,(exec A T cs X l (number 0 l) s).map (fun r => ((r.1.keep kp km,r.2.1),r.2.2))=some (R A X,fs)) (hob:∀ X,AO P C.K (R B X).2) (hQ:∀ X a' w',Fits C (R B X).1 a' w' → Q .normal a' w'):(Code.region id l.toArray true).wp P Q a w:=by
 subst hB
 exact drawn_ok hm hT kp km cs h hgs fs hD hlen hex hob hQ
theorem list_preB {all L:List Oper} (i n:Nat) {B:Alg} (hB:B=std) (hT:TabOK P T) (kp km:List Nat) (cs:List (Nat × CS)) (h:Fits C s a w) {R:Alg → (Nat → Atom) → St × List Ob}
  (hex:∀ A X,(exec A T cs X all (number i (L.take n)) s).map (fun r => (r.1.keep kp km,r.2.1))=some (R A X)) (hob:∀ X,AO P C.K (R B X).2) (hQ:∀ X a' w',Fits C (R B X).1 a' w' → wpList P all.toArray Q (L.drop n) a' w'):wpList P all.toArray Q L a w:=by
 subst hB
 exact list_pre i n hT kp km cs h hex hob hQ
theorem leB {all L:List Oper} (i:Nat) {B:Alg} (hB:B=std) (hT:TabOK P T) (kp km:List Nat) (cs:List (Nat × CS)) (h:Fits C s a w) {R:Alg → (Nat → Atom) → St × List Ob}
  (hex:∀ A X,(exec A T cs X all (number i L) s).map (fun r => (r.1.keep kp km,r.2.1))=some (R A X)) (hob:∀ X,AO P C.K (R B X).2) (hQ:∀ X a' w',Fits C (R B X).1 a' w' → Q .normal a' w'):wpList P all.toArray Q L a w:=by
 subst hB
 exact list_end i hT kp km cs h hex hob hQ
end
theorem eqv {α : Sort _} (x:α):∃ y,y=x:=⟨x,rfl⟩
theorem zr {a:AV}:Sim a a:=Sim.refl a
theorem zl {a:List AV}:SimL a a:=SimL.refl a
theorem mem1 {α : Type _} {p:α → Prop} {x:α} (h:p x):∀ e ∈ [x],p e:=fun e he => by rw [List.mem_singleton.1 he]; exact h
section
variable {C:Cx} {P:Program} {Q:Exit → Act → World → Prop} {T:List (Nat × TI)} {s:St} {a:Act} {w:World} {B:Alg}
theorem rg {id:Nat} {l:List Oper} {R:Alg → (Nat → Atom) → St × List Ob} (hB:B=std) (hT:TabOK P T) (kp km:List Nat) (cs:List (Nat × CS)) (h:Fits C s a w) (hQ:∀ X a' w',Fits C (R B X).1 a' w' → Q .normal a' w')
  (hex:∀ A X,(exec A T cs X l (number 0 l) s).map (fun r => (r.1.keep kp km,r.2.1))=some (R A X):=by intro A X; conv => lhs; cbv) (hob:∀ X,AO P C.K (R B X).2:=by
   intro X; subst hB
   first
   | exact trivial
   | (simp only [AO,Ob.holds,BE.den]<;>and_intros<;>(repeat first | trivial | rfl | exact O1 | exact O2 | exact O3 | exact (fun _ _ => by kernel_rfl) | exact O1 _ _ _ rfl | exact O2 _ _ _ rfl | refine ⟨?_,?_⟩ | intro h | decide | omega)<;>done)
   | (simp [AO,Ob.holds,BE.den,std,sC,sAr]<;>omega)):(Code.region id l.toArray false).wp P Q a w:=rgB hB hT kp km cs h hex hob hQ
theorem drg {id:Nat} {l:List Oper} {R:Alg → (Nat → Atom) → St × List Ob} {fs:List Foot} (hB:B=std) (hT:TabOK P T) (kp km:List Nat) (cs:List (Nat × CS)) (h:Fits C s a w) (hQ:∀ X a' w',Fits C (R B X).1 a' w' → Q .normal a' w')
  (hm:P.follows .mixedOrders=true:=by kernel_rfl) (hgs:s.gs=[]:=by rfl)
  (hex:∀ A X,(exec A T cs X l (number 0 l) s).map (fun r => ((r.1.keep kp km,r.2.1),r.2.2))=some (R A X,fs):=by intro A X; conv => lhs; cbv) (hD:drawB l fs=true:=by kernel_rfl) (hlen:l.length=fs.length:=by rfl) (hob:∀ X,AO P C.K (R B X).2:=by
   intro X; subst hB
   first
   | exact trivial
   | (simp only [AO,Ob.holds,BE.den]<;>and_intros<;>(repeat first | trivial | rfl | exact O1 | exact O2 | exact O3 | exact (fun _ _ => by kernel_rfl) | exact O1 _ _ _ rfl | exact O2 _ _ _ rfl | refine ⟨?_,?_⟩ | intro h | decide | omega)<;>done)
   | (simp [AO,Ob.holds,BE.den,std,sC,sAr]<;>omega)):(Code.region id l.toArray true).wp P Q a w:=drB hB hm hT kp km cs h hgs fs hD hlen hex hob hQ
theorem lpr {all L:List Oper} {R:Alg → (Nat → Atom) → St × List Ob} (i n:Nat) (hB:B=std) (hT:TabOK P T) (kp km:List Nat) (cs:List (Nat × CS)) (h:Fits C s a w) (hQ:∀ X a' w',Fits C (R B X).1 a' w' → wpList P all.toArray Q (L.drop n) a' w')
  (hex:∀ A X,(exec A T cs X all (number i (L.take n)) s).map (fun r => (r.1.keep kp km,r.2.1))=some (R A X):=by intro A X; conv => lhs; cbv) (hob:∀ X,AO P C.K (R B X).2:=by
   intro X; subst hB
   first
   | exact trivial
   | (simp only [AO,Ob.holds,BE.den]<;>and_intros<;>(repeat first | trivial | rfl | exact O1 | exact O2 | exact O3 | exact (fun _ _ => by kernel_rfl) | exact O1 _ _ _ rfl | exact O2 _ _ _ rfl | refine ⟨?_,?_⟩ | intro h | decide | omega)<;>done)
   | (simp [AO,Ob.holds,BE.den,std,sC,sAr]<;>omega)):wpList P all.toArray Q L a w:=list_preB i n hB hT kp km cs h hex hob hQ
theorem lnd {all L:List Oper} {R:Alg → (Nat → Atom) → St × List Ob} (i:Nat) (hB:B=std) (hT:TabOK P T) (kp km:List Nat) (cs:List (Nat × CS)) (h:Fits C s a w) (hQ:∀ X a' w',Fits C (R B X).1 a' w' → Q .normal a' w')
  (hex:∀ A X,(exec A T cs X all (number i L) s).map (fun r => (r.1.keep kp km,r.2.1))=some (R A X):=by intro A X; conv => lhs; cbv) (hob:∀ X,AO P C.K (R B X).2:=by
   intro X; subst hB
   first
   | exact trivial
   | (simp only [AO,Ob.holds,BE.den]<;>and_intros<;>(repeat first | trivial | rfl | exact O1 | exact O2 | exact O3 | exact (fun _ _ => by kernel_rfl) | exact O1 _ _ _ rfl | exact O2 _ _ _ rfl | refine ⟨?_,?_⟩ | intro h | decide | omega)<;>done)
   | (simp [AO,Ob.holds,BE.den,std,sC,sAr]<;>omega)):wpList P all.toArray Q L a w:=leB i hB hT kp km cs h hex hob hQ
end
section
variable {P:Program} {f:FuncId} {fn:Func} {c:Code} {R:Ending → World → Prop} {m:Nat → Nat → Prop} {w:World} {pre:List (Nat × Blk)} {args:List AV}
theorem en (nt:Nat) (hm:∀ b o,m b o → b < w.heap.size) (hargs:∀ v ∈ args,Ok m w v) (hf:P.funcs[f]? = some fn) (h:∀ B,B=std → ∀ a,Fits ⟨m,w,fun _ => False,[],noK⟩ ⟨nt,startT 0 args,[],[],[]⟩ a w → c.wp P (bodyPost P fn R) a w) (hb:fn.body=some c:=by rfl) (hnt:fn.ntmps=nt:=by rfl) (hn:args.length ≤ nt:=by exact Nat.le_of_ble_eq_true rfl):Calls P f (args.map AV.den).toArray w R:=
 enter hm hargs hf hb (hnt ▸ hn) (by rw [hnt]; exact h std rfl)
theorem enX (nt:Nat) (hm:∀ b o,m b o → b < w.heap.size) (hp:PreOk m w pre) (hargs:∀ v ∈ args,Ok m w v) (hf:P.funcs[f]? = some fn) (h:∀ B,B=std → ∀ a,Fits ⟨m,w,ats pre,[],noK⟩ ⟨nt,startT 0 args,[],pre,[]⟩ a w → c.wp P (bodyPost P fn R) a w) (hb:fn.body=some c:=by rfl) (hnt:fn.ntmps=nt:=by rfl) (hn:args.length ≤ nt:=by exact Nat.le_of_ble_eq_true rfl):Calls P f (args.map AV.den).toArray w R:=
 enterX hm hp hargs hf hb (hnt ▸ hn) (by rw [hnt]; exact h std rfl)
end
section
variable {P:Program} {T:List (Nat × TI)} {s:St} {a:Act} {w:World} {Kk:Kn} {m:Nat → Nat → Prop} {w0:World} {fn:Func} {rs:List ResultVar} {r:List AV × List Ob} {pre:List (Nat × Blk)} {B:Alg}
theorem rsp {res:Atom → AV} (hB:B=std) (hT:TabOK P T) (h:Fits ⟨m,w0,fun _ => False,[],Kk⟩ s a w) (x:Atom) (hfn:fn.results=rs.toArray:=by rfl) (hr:resL T s rs=some r:=by first | rfl | (conv => lhs; cbv)) (ho:AO P Kk r.2:=by first | exact trivial | (subst hB; simp [AO,Ob.holds]))
  (he:can (resA r.1)=can (res x):=by subst hB; rfl):bodyPost P fn (fun e w' => ∃ x,e = .returned (res x).den ∧ Ok m w' (res x) ∧ Below w0.heap.size w0 w') .ret a w ∧ bodyPost P fn (fun e w' => ∃ x,e = .returned (res x).den ∧ Ok m w' (res x) ∧ Below w0.heap.size w0 w') .normal a w:=
 ⟨ret_spec hT h hfn hr ho x he,ret_spec' hT h hfn hr ho x he⟩
theorem rsi {res:Atom → AV} (hB:B=std) (hT:TabOK P T) (h:Fits ⟨m,w0,fun _ => False,[],Kk⟩ s a w) (x:Atom) (hfn:fn.results=rs.toArray:=by rfl) (hr:resL T s rs=some r:=by first | rfl | (conv => lhs; cbv)) (ho:AO P Kk r.2:=by first | exact trivial | (subst hB; simp [AO,Ob.holds]))
  (he:Sim (can (resA r.1)) (can (res x)):=by subst hB; exact zr):bodyPost P fn (fun e w' => ∃ x,e = .returned (res x).den ∧ Ok m w' (res x) ∧ Below w0.heap.size w0 w') .ret a w:=
 ret_sim hT h hfn hr ho x he
theorem rx {res:Atom → CR} (hB:B=std) (hT:TabOK P T) (h:Fits ⟨m,w0,ats pre,[],Kk⟩ s a w) (x:Atom) (ks:List Nat) (hfn:fn.results=rs.toArray:=by rfl) (hr:resL T s rs=some r:=by first | rfl | (conv => lhs; cbv)) (ho:AO P Kk r.2:=by first | exact trivial | (subst hB; simp [AO,Ob.holds]))
  (he:Sim (can (resA r.1)) (can (res x).v):=by subst hB; exact zr) (hs:SetsOk s pre (res x).sets:=by subst hB; first | exact trivial | exact ⟨rfl,⟨_,rfl,zl⟩,trivial⟩) (hn:NewsOk s pre ks (res x).news:=by exact trivial):bodyPost P fn (XPost m w0 pre res) .ret a w ∧ bodyPost P fn (XPost m w0 pre res) .normal a w:=
 ret_x hT h hfn hr ho x ks he hs hn
end
end Go.Proofs.YtjgnoldondblaaaGreat.Sym
namespace Go.Proofs.YtjgnoldondblaaaGreat
open Go.RowKit
def mkB (l:List UInt8):ByteArray:=⟨l.toArray⟩
def unB (s:ByteArray):List UInt8:=s.data.toList
theorem mk_un (s:ByteArray):mkB (unB s)=s:=by simp [mkB,unB]
theorem un_inj {s t:ByteArray} (h:unB s=unB t):s=t:=by rw [← mk_un s,← mk_un t,h]
theorem toList_un (s:ByteArray):s.toList=unB s:=by simp [unB,ByteArray.toList_eq]
theorem beqB (s t:ByteArray):(s == t)=true ↔ s=t:=by
 cases s with | mk a => cases t with | mk b =>
 have:(ByteArray.mk a == ByteArray.mk b)=(a == b):=rfl
 rw [this]
 simp
end Go.Proofs.YtjgnoldondblaaaGreat
namespace Go.Proofs.YtjgnoldondblaaaGreat
open Go.RowKit Sym
def U64 (v:Int):Prop:=0 ≤ v ∧ v < 18446744073709551616
def headN (v n:Nat):Nat:=v / 2 ^ (64 - n) * 2 ^ (64 - n)
theorem headN_le (v n:Nat):headN v n ≤ v:=Nat.div_mul_le_self _ _
theorem testBit_head (v n i:Nat):(headN v n).testBit i=(decide (64 - n ≤ i) && v.testBit i):=by
 unfold headN
 rw [← Nat.shiftRight_eq_div_pow,← Nat.shiftLeft_eq,Nat.testBit_shiftLeft,Nat.testBit_shiftRight]
 by_cases h:64 - n ≤ i
 ·rw [show 64 - n + (i - (64 - n))=i by omega]
 simp [h]
theorem wrap_u64 (x:Int) (h:U64 x):IntKind.u64.wrap x=x:=by
 unfold U64 at h
 simp [IntKind.wrap,IntKind.signed,IntKind.bits]
 omega
theorem shr_all {n:Int} (h0:0 ≤ n) (h1:n ≤ 64):stdShift .shr .u64 18446744073709551615 n=((2 ^ (64 - n.toNat) - 1:Nat):Int):=by
 obtain ⟨k,rfl⟩:=Int.eq_ofNat_of_zero_le h0
 have hk:k ≤ 64:=by omega
 simp only [stdShift,Int.toNat_natCast,IntKind.bits]
 rw [Nat.min_eq_left hk]
 have hp:(18446744073709551615:Int)=((2 ^ 64 - 1:Nat):Int):=by decide
 have hq:(2:Int) ^ k=((2 ^ k:Nat):Int):=by simp
 rw [hp,hq,Int.fdiv_eq_ediv_of_nonneg _ (Int.natCast_nonneg _),← Int.natCast_ediv]
 have e:(2:Nat) ^ 64 - 1=(2 ^ (64 - k) - 1) * 2 ^ k + (2 ^ k - 1):=by
  have h2:(2:Nat) ^ 64=2 ^ (64 - k) * 2 ^ k:=by rw [← Nat.pow_add]; congr 1; omega
  have h3:=Nat.one_le_two_pow (n:=64 - k)
  have h4:=Nat.one_le_two_pow (n:=k)
  rw [h2,Nat.sub_mul,Nat.one_mul]
  have h5:2 ^ k ≤ 2 ^ (64 - k) * 2 ^ k:=Nat.le_mul_of_pos_left _ h3
  omega
 have hd:((2:Nat) ^ 64 - 1) / 2 ^ k=2 ^ (64 - k) - 1:=by
  rw [e,Nat.mul_comm,Nat.mul_add_div (Nat.two_pow_pos k),Nat.div_eq_of_lt (by have:=Nat.two_pow_pos k; omega),Nat.add_zero]
 rw [← hd]
theorem andNot_low {v:Int} (hv:U64 v) (k:Nat) (hk:k ≤ 64):sAr .andNot .u64 v ((2 ^ k - 1:Nat):Int)=((v.toNat / 2 ^ k * 2 ^ k:Nat):Int):=by
 obtain ⟨x,rfl⟩:=Int.eq_ofNat_of_zero_le hv.1
 have hx:x < 2 ^ 64:=by have:=hv.2; omega
 have hle:x / 2 ^ k * 2 ^ k ≤ x:=Nat.div_mul_le_self _ _
 simp only [Int.toNat_natCast]
 show IntKind.u64.wrap ((BitVec.ofInt 64 (x:Int) &&& ~~~BitVec.ofInt 64 ((2 ^ k - 1:Nat):Int)).toNat:Int)=_
 have hp:2 ^ k ≤ 2 ^ 64:=Nat.pow_le_pow_right (by decide) hk
 have key:(BitVec.ofInt 64 (x:Int) &&& ~~~BitVec.ofInt 64 ((2 ^ k - 1:Nat):Int)).toNat=x / 2 ^ k * 2 ^ k:=by
  apply Nat.eq_of_testBit_eq
  intro i
  have e1:BitVec.ofInt 64 (x:Int)=BitVec.ofNat 64 x:=rfl
  have e2:BitVec.ofInt 64 ((2 ^ k - 1:Nat):Int)=BitVec.ofNat 64 (2 ^ k - 1):=rfl
  rw [e1,e2,BitVec.testBit_toNat,BitVec.getLsbD_and,BitVec.getLsbD_not,BitVec.getLsbD_ofNat,BitVec.getLsbD_ofNat,Nat.testBit_two_pow_sub_one]
  rw [← Nat.shiftRight_eq_div_pow,← Nat.shiftLeft_eq,Nat.testBit_shiftLeft,Nat.testBit_shiftRight]
  by_cases hi:i < 64
  ·by_cases hik:k ≤ i
   ·rw [show k + (i - k)=i by omega]; simp [hi,hik,show ¬ i < k by omega]
   simp [hi,hik,show i < k by omega]
  have:x.testBit i=false:=Nat.testBit_lt_two_pow (Nat.lt_of_lt_of_le hx (Nat.pow_le_pow_right (by decide) (by omega)))
  by_cases hik:k ≤ i
  ·rw [show k + (i - k)=i by omega]; simp [hi,this]
  simp [hi,hik]
 rw [key]
 exact wrap_u64 _ ⟨by omega,by omega⟩
theorem head_std {v n:Int} (hv:U64 v) (h0:0 ≤ n) (h1:n ≤ 64):sAr .andNot .u64 v (stdShift .shr .u64 18446744073709551615 n)=(headN v.toNat n.toNat:Int):=by
 rw [shr_all h0 h1,andNot_low hv _ (by omega)]
 rfl
structure Lab where
 len:Int
 bits:Int
deriving DecidableEq
def isL (l:Lab):Bool:=decide (0 ≤ l.len) && decide (l.len ≤ 64) && decide ((headN l.bits.toNat l.len.toNat:Int)=l.bits)
def noneL:Lab:=⟨-1,0⟩
theorem shr_u64 {v:Int} (hv:U64 v) (n:Nat) (hn:n ≤ 64):stdShift .shr .u64 v (n:Int)=((v.toNat / 2 ^ n:Nat):Int):=by
 obtain ⟨x,rfl⟩:=Int.eq_ofNat_of_zero_le hv.1
 simp only [stdShift,Int.toNat_natCast,IntKind.bits,Nat.min_eq_left hn]
 have hq:(2:Int) ^ n=((2 ^ n:Nat):Int):=by simp
 rw [hq,Int.fdiv_eq_ediv_of_nonneg _ (Int.natCast_nonneg _),← Int.natCast_ediv]
theorem wrap_u64n (x:Nat):IntKind.u64.wrap (x:Int)=((x % 2 ^ 64:Nat):Int):=by
 simp [IntKind.wrap,IntKind.signed,IntKind.bits]
abbrev Dec (α : Type):=Except Int (α × List UInt8)
def Dec.err {α : Type}:Dec α → Int
 | .error e => e
 | .ok _ => 0
def Dec.val {α : Type} (d:α):Dec α → α
 | .error _ => d
 | .ok (v,_) => v
def Dec.rest {α : Type} (s:List UInt8):Dec α → List UInt8
 | .error _ => s
 | .ok (_,r) => r
theorem isL_iff (l:Lab):isL l=true ↔ (0 ≤ l.len ∧ l.len ≤ 64) ∧ (headN l.bits.toNat l.len.toNat:Int)=l.bits:=by
 simp [isL,Bool.and_eq_true]
structure Itm where
 key:Int
 val:ByteArray
deriving DecidableEq
structure Rec where
 kind:Int
 items:List Itm
 next:Lab
 mark:Int
deriving DecidableEq
def zeroItm:Itm:=⟨0,⟨#[]⟩⟩
def zeroRec:Rec:=⟨0,[],⟨0,0⟩,0⟩
def okAt (f:Nat → Itm) (i:Nat):Bool:=decide ((f i).val.size ≤ 64) && (i == 0 || decide ((f (i - 1)).key < (f i).key))
def okF (f:Nat → Itm) (n:Nat):Bool:=(List.range n).all (okAt f)
theorem okF_succ (f:Nat → Itm) (n:Nat):okF f (n + 1)=(okF f n && okAt f n):=by
 simp [okF,List.range_succ]
theorem okF_false {f:Nat → Itm} {i n:Nat} (hi:i < n) (h:okAt f i=false):okF f n=false:=by
 unfold okF
 rw [Bool.eq_false_iff]
 intro h2
 have:=List.all_eq_true.1 h2 i (List.mem_range.2 hi)
 rw [h] at this; cases this
theorem okF_at {f:Nat → Itm} {i n:Nat} (hi:i < n) (h:okF f n=true):okAt f i=true:=List.all_eq_true.1 h i (List.mem_range.2 hi)
def rowF (n:Nat) (f:Nat → Itm):Bool:=decide (n ≤ 16) && okF f n
def bareK (k:Int):Bool:=decide (k=2) || decide (k=4)
def isRF (kd:Int) (n:Nat) (f:Nat → Itm) (nx:Lab) (mk:Int):Bool:=
 (decide (nx=noneL) || isL nx) && (if bareK kd then decide (n=0) && decide (nx=noneL) && decide (mk=0) else if kd=1 ∨ kd=3 then decide (mk=0) && rowF n f else if kd=5 then rowF n f else false)
def itF (l:List Itm):Nat → Itm:=fun i => l.getD i zeroItm
def isR (r:Rec):Bool:=isRF r.kind r.items.length (itF r.items) r.next r.mark
theorem okAt_test (f:Nat → Itm) (i:Nat) (hi:i ≤ maxLen):(if decide ((64:Int) < ((f i).val.size:Int))=true then true else if decide ((0:Int) < (i:Int))=true then decide ((f i).key ≤ (f (IntKind.i64.wrap ((i:Int) - 1)).toNat).key) else false) = !okAt f i:=by
 have hm:maxLen=9223372036854775807:=rfl
 unfold okAt
 by_cases h1:(f i).val.size ≤ 64
 ·have h1':¬ (64:Int) < ((f i).val.size:Int):=by omega
  by_cases h2:i=0
  ·subst h2; simp [h1]; omega
  rw [wrap_in (by omega) (by omega),show ((i:Int) - 1).toNat=i - 1 by omega]
  have h2':(0:Int) < (i:Int):=by omega
  have h2n:0 < i:=by omega
  have h2b:(i == 0)=false:=by simp [h2]
  by_cases h3:(f (i - 1)).key < (f i).key
  ·have h3':¬ (f i).key ≤ (f (i - 1)).key:=by omega
   simp [h1,h1',h2b,h2',h2n,h3,h3']
  have h3':(f i).key ≤ (f (i - 1)).key:=by omega
  simp [h1,h1',h2b,h2',h2n,h3,h3']
 have h1':(64:Int) < ((f i).val.size:Int):=by omega
 simp [h1,h1']
theorem isRF_ref (kd:Int) (n:Nat) (f:Nat → Itm) (nx:Lab) (mk:Int):isRF kd n f nx mk =
  (!((decide (kd < 1) || decide (5 < kd)) || decide (16 < n) || (!decide (nx=noneL) && !isL nx)) && !((!decide (mk=0) && !decide (kd=5)) || (bareK kd && (decide (0 < n) || !decide (nx=noneL)))) && okF f n):=by
 unfold isRF
 by_cases hk:kd=1 ∨ kd=2 ∨ kd=3 ∨ kd=4 ∨ kd=5
 ·rcases hk with rfl | rfl | rfl | rfl | rfl
  ·unfold rowF bareK; cases hn:decide (n ≤ 16)<;>cases hm:decide (mk=0)<;>cases hx:decide (nx=noneL)<;>cases hl:isL nx<;>simp_all<;>omega
  ·cases hz:decide (n=0)
   ·have:n ≠ 0:=by simpa using hz
    cases hm:decide (mk=0)<;>cases hx:decide (nx=noneL)<;>cases hl:isL nx<;>simp_all [bareK]<;>omega
   have:n=0:=by simpa using hz
   subst this
   cases hm:decide (mk=0)<;>cases hx:decide (nx=noneL)<;>cases hl:isL nx<;>simp_all [bareK,okF]
  ·unfold rowF bareK; cases hn:decide (n ≤ 16)<;>cases hm:decide (mk=0)<;>cases hx:decide (nx=noneL)<;>cases hl:isL nx<;>simp_all<;>omega
  ·cases hz:decide (n=0)
   ·have:n ≠ 0:=by simpa using hz
    cases hm:decide (mk=0)<;>cases hx:decide (nx=noneL)<;>cases hl:isL nx<;>simp_all [bareK]<;>omega
   have:n=0:=by simpa using hz
   subst this
   cases hm:decide (mk=0)<;>cases hx:decide (nx=noneL)<;>cases hl:isL nx<;>simp_all [bareK,okF]
  unfold rowF bareK; cases hn:decide (n ≤ 16)<;>cases hm:decide (mk=0)<;>cases hx:decide (nx=noneL)<;>cases hl:isL nx<;>simp_all<;>omega
 have h1:¬ kd=1:=fun h => hk (.inl h)
 have h2:¬ kd=2:=fun h => hk (.inr (.inl h))
 have h3:¬ kd=3:=fun h => hk (.inr (.inr (.inl h)))
 have h4:¬ kd=4:=fun h => hk (.inr (.inr (.inr (.inl h))))
 have h5:¬ kd=5:=fun h => hk (.inr (.inr (.inr (.inr h))))
 have h6:kd < 1 ∨ 5 < kd:=by omega
 rcases h6 with h6 | h6<;>simp [bareK,h1,h2,h3,h4,h5,h6]
end Go.Proofs.YtjgnoldondblaaaGreat
namespace Go.Proofs.YtjgnoldondblaaaGreat.Sym
open Go.RowKit
inductive Sh where
 | int (k:IntKind)
 | bool
 | str
def Sh.fits:Sh → AV → Prop
 | .int k,.int k' _ => k=k'
 | .bool,.bool _ => True
 | .str,.str _ => True
 | _,_ => False
def fitsL:List Sh → List AV → Prop
 | [],[] => True
 | h :: l,v :: r => h.fits v ∧ fitsL l r
 | _,_ => False
def shFields (P:Program) (g:TypeId → Option (List Sh)):List Field → Nat → Option (List Sh)
 | [],_ => some []
 | f :: fs, off => if f.name == "_" || f.offset != off then none else match g f.type with
  | some sh => if sizeB P f.type == some sh.length && (aggB P f.type).isSome && (aggB P f.type != some false || sh.length == 1) then (shFields P g fs (off + sh.length)).map (sh ++ ·) else none
  | none => none
def eqShape (P:Program):Nat → TypeId → Option (List Sh)
 | 0,_ => none
 | d + 1,t => match P.underlying t with
  | some .bool => some [.bool]
  | some (.int k) => some [.int k]
  | some .string => some [.str]
  | some (.struct fs) => if P.stoodInHeld t then none else shFields P (eqShape P d) fs.toList 0
  | some (.array n e) => match eqShape P d e with
   | some sh => if P.cellsOf e == sh.length && (P.info? e).isSome && sizeB P e == some sh.length && (aggB P e).isSome && (aggB P e != some false || sh.length == 1) then some (List.replicate n sh).flatten else none
   | none => none
  | _ => none
def mkV (g:Bool) (l:List AV):Value:=if g then .agg (l.map AV.den).toArray else (l.map AV.den).headD Go.undef
theorem fitsL_len:∀ {sh:List Sh} {l:List AV},fitsL sh l → l.length=sh.length
 | [],[],_ => rfl
 | _ :: _,_ :: _,h => by simp [fitsL_len h.2]
 | [],_ :: _,h => h.elim
 | _ :: _,[],h => h.elim
theorem fitsL_split:∀ {s1 s2:List Sh} {l:List AV},fitsL (s1 ++ s2) l → ∃ a b,l=a ++ b ∧ fitsL s1 a ∧ fitsL s2 b
 | [],s2,l,h => ⟨[],l,rfl,trivial,h⟩
 | _ :: _,_,[],h => h.elim
 | s :: s1,s2,v :: l,h => by
  obtain ⟨a,b,rfl,h1,h2⟩:=fitsL_split h.2
  exact ⟨v :: a,b,rfl,⟨h.1,h1⟩,h2⟩
theorem eqL_append:∀ {a b a' b':List AV},a.length=a'.length → eqL (a ++ b) (a' ++ b')=(eqL a a' && eqL b b')
 | [],b,[],b',_ => by cases b<;>cases b'<;>simp [eqL]
 | [],_,_ :: _,_,h => by cases h
 | _ :: _,_,[],_,h => by cases h
 | v :: a,b,v' :: a',b',h => by
  have:=eqL_append (a:=a) (b:=b) (a':=a') (b':=b') (by simpa using h)
  simp only [List.cons_append,eqL,this,Bool.and_assoc]
section
variable {P:Program} {w:World}
theorem run_part {e:TypeId} {g:Bool} {sh:List Sh} {px x sx:List AV} (hg:aggB P e=some g) (hs:sizeB P e=some sh.length) (h1:g=false → sh.length=1) (hx:fitsL sh x) :
  (part e ((px ++ x ++ sx).map AV.den).toArray px.length).run P w = .ok (mkV g x) w:=by
 have hl:=fitsL_len hx
 unfold part
 simp only [Sem.run_bind,aggB_ok hg w,Result.andThen_ok]
 cases g with
 | true =>
  simp only [if_true,Sem.run_bind,sizeB_ok hs w,Result.andThen_ok,Sem.run_pure,mkV]
  congr 2
  apply Array.ext'
  rw [Array.toList_extract]
  simp only [List.extract,Nat.add_sub_cancel_left,List.map_append,← hl]
  rw [List.append_assoc,List.drop_append_of_le_length (by simp),List.drop_eq_nil_of_le (by simp),List.nil_append,List.take_append_of_le_length (by simp),List.take_of_length_le (by simp)]
 | false =>
  obtain ⟨v,rfl⟩:∃ v,x=[v]:=by
   rw [h1 rfl] at hl
   exact List.length_eq_one_iff.1 hl
  have:((px ++ [v] ++ sx).map AV.den).toArray[px.length]? = some v.den:=by simp
  rw [this]
  simp [mkV]
theorem eq_fields {d D:Nat} (IH:∀ t sh,eqShape P d t=some sh → ∀ x y g,aggB P t=some g → fitsL sh x → fitsL sh y → (Op.equalIn (D + d) t (mkV g x) (mkV g y)).run P w = .ok (eqL x y) w) :
  ∀ (fs:List Field) (off:Nat) (sh:List Sh),shFields P (eqShape P d) fs off=some sh → ∀ (px py x y:List AV),px.length=off → py.length=off → fitsL sh x → fitsL sh y →
   (Op.eqFields (D + d) ((px ++ x).map AV.den).toArray ((py ++ y).map AV.den).toArray fs).run P w = .ok (eqL x y) w
 | [],off,sh,h,px,py,x,y,hp,hq,hx,hy => by
  simp only [shFields,Option.some.injEq] at h
  subst h
  cases x with
  | cons => exact hx.elim
  | nil => cases y with
   | cons => exact hy.elim
   | nil => simp [Op.eqFields,eqL]
 | f :: fs,off,sh,h,px,py,x,y,hp,hq,hx,hy => by
  simp only [shFields] at h
  split at h
  ·cases h
  rename_i hn
  simp only [Bool.or_eq_true,beq_iff_eq,bne_iff_ne,not_or,ne_eq,Decidable.not_not] at hn
  obtain ⟨hn1,hn2⟩:=hn
  split at h
  ·rename_i s1 hs1
   split at h
   ·rename_i hc
    simp only [Bool.and_eq_true,beq_iff_eq,Bool.or_eq_true,bne_iff_ne,ne_eq] at hc
    obtain ⟨⟨hc1,hc2⟩,hc3⟩:=hc
    obtain ⟨s2,hs2,rfl⟩:=Option.map_eq_some_iff.1 h
    obtain ⟨a,b,rfl,ha,hb⟩:=fitsL_split hx
    obtain ⟨a',b',rfl,ha',hb'⟩:=fitsL_split hy
    obtain ⟨g,hg⟩:=Option.isSome_iff_exists.1 hc2
    have h1:g=false → s1.length=1:=by
     intro hgf
     rcases hc3 with h | h
     ·rw [hg,hgf] at h; exact absurd rfl h
     exact h
    have p1:=run_part (P:=P) (w:=w) (px:=px) (sx:=b) hg hc1 h1 ha
    have p2:=run_part (P:=P) (w:=w) (px:=py) (sx:=b') hg hc1 h1 ha'
    rw [hp] at p1
    rw [hq] at p2
    have la:=fitsL_len ha
    have la':=fitsL_len ha'
    have e1:=IH _ _ hs1 a a' g hg ha ha'
    have e2:=eq_fields IH fs (off + s1.length) s2 hs2 (px ++ a) (py ++ a') b b' (by simp [hp,la]) (by simp [hq,la']) hb hb'
    rw [eqL_append (la.trans la'.symm)]
    simp only [← List.append_assoc]
    unfold Op.eqFields
    simp only [hn1,ne_eq,not_false_eq_true,if_true,Sem.run_bind,hn2,p1,p2,e1,Result.andThen_ok]
    cases hE:eqL a a' with
    | true => simpa using e2
    | false => simp
   cases h
  cases h
theorem eq_items {d D:Nat} {e:TypeId} {g:Bool} {sh:List Sh} (hg:aggB P e=some g) (hs:sizeB P e=some sh.length) (h1:g=false → sh.length=1)
  (IH:∀ x y,fitsL sh x → fitsL sh y → (Op.equalIn (D + d) e (mkV g x) (mkV g y)).run P w = .ok (eqL x y) w) :
  ∀ (n i:Nat) (px py x y:List AV),px.length=i * sh.length → py.length=i * sh.length → fitsL (List.replicate n sh).flatten x → fitsL (List.replicate n sh).flatten y →
   (Op.eqItems (D + d) e sh.length ((px ++ x).map AV.den).toArray ((py ++ y).map AV.den).toArray (List.range' i n)).run P w = .ok (eqL x y) w
 | 0,i,px,py,x,y,hp,hq,hx,hy => by
  cases x with
  | cons => exact hx.elim
  | nil => cases y with
   | cons => exact hy.elim
   | nil => simp [Op.eqItems,eqL]
 | n + 1,i,px,py,x,y,hp,hq,hx,hy => by
  rw [List.replicate_succ,List.flatten_cons] at hx hy
  obtain ⟨a,b,rfl,ha,hb⟩:=fitsL_split hx
  obtain ⟨a',b',rfl,ha',hb'⟩:=fitsL_split hy
  have p1:=run_part (P:=P) (w:=w) (px:=px) (sx:=b) hg hs h1 ha
  have p2:=run_part (P:=P) (w:=w) (px:=py) (sx:=b') hg hs h1 ha'
  rw [hp] at p1
  rw [hq] at p2
  have la:=fitsL_len ha
  have la':=fitsL_len ha'
  have e1:=IH a a' ha ha'
  have e2:=eq_items hg hs h1 IH n (i + 1) (px ++ a) (py ++ a') b b' (by rw [List.length_append,hp,la,Nat.add_mul,Nat.one_mul]) (by rw [List.length_append,hq,la',Nat.add_mul,Nat.one_mul]) hb hb'
  rw [eqL_append (la.trans la'.symm)]
  simp only [← List.append_assoc]
  rw [List.range'_succ]
  unfold Op.eqItems
  simp only [Sem.run_bind,p1,p2,e1,Result.andThen_ok]
  cases hE:eqL a a' with
  | true => simpa using e2
  | false => simp
theorem eq_shape (w:World):∀ (d:Nat) (t:TypeId) (sh:List Sh),eqShape P d t=some sh → ∀ (D:Nat) (x y:List AV) (g:Bool),aggB P t=some g → fitsL sh x → fitsL sh y → (Op.equalIn (D + d) t (mkV g x) (mkV g y)).run P w = .ok (eqL x y) w
 | 0,t,sh,h,_,_,_,_,_,_,_ => by cases h
 | d + 1,t,sh,h,D,x,y,g,hg,hx,hy => by
  have one:∀ {s:Sh} {z:List AV},fitsL [s] z → ∃ v,z=[v] ∧ s.fits v:=by
   intro s z hz
   match z,hz with
   | [v],hz => exact ⟨v,rfl,hz.1⟩
  simp only [eqShape] at h
  split at h
  ·rename_i hu
   injection h with h; subst h
   obtain ⟨v,rfl,hv⟩:=one hx
   obtain ⟨u,rfl,hu'⟩:=one hy
   have:g=false:=by simpa [aggB,hu] using hg
   subst this
   cases v<;>simp only [Sh.fits] at hv
   cases u<;>simp only [Sh.fits] at hu'
   simp only [mkV,List.map_cons,List.headD_cons,Bool.false_eq_true,if_false,AV.den,← Nat.add_assoc]
   rw [run_equalIn_bool w _ _ _ _ hu]
   simp [eqL,eqC]
  ·rename_i k hu
   injection h with h; subst h
   obtain ⟨v,rfl,hv⟩:=one hx
   obtain ⟨u,rfl,hu'⟩:=one hy
   have:g=false:=by simpa [aggB,hu] using hg
   subst this
   cases v<;>simp only [Sh.fits] at hv
   cases u<;>simp only [Sh.fits] at hu'
   subst hv; subst hu'
   simp only [mkV,List.map_cons,List.headD_cons,Bool.false_eq_true,if_false,AV.den,← Nat.add_assoc]
   rw [run_equalIn_int w _ _ _ _ _ _ hu]
   simp [eqL,eqC]
  ·rename_i hu
   injection h with h; subst h
   obtain ⟨v,rfl,hv⟩:=one hx
   obtain ⟨u,rfl,hu'⟩:=one hy
   have:g=false:=by simpa [aggB,hu] using hg
   subst this
   cases v<;>simp only [Sh.fits] at hv
   cases u<;>simp only [Sh.fits] at hu'
   rename_i s1 s2
   simp only [mkV,List.map_cons,List.headD_cons,Bool.false_eq_true,if_false,AV.den,← Nat.add_assoc]
   rw [run_equalIn_string w _ _ _ _ hu]
   have e:(s1.toList == s2.toList)=(s1 == s2):=by
    rw [Bool.eq_iff_iff,beq_iff_eq,toList_un,toList_un]
    constructor
    ·intro h; rw [un_inj h]; exact (beqB _ _).2 rfl
    intro h; rw [(beqB _ _).1 h]
   simp [eqL,eqC,e]
  ·rename_i fs hu
   split at h
   ·cases h
   rename_i hst
   have:g=true:=by simpa [aggB,hu] using hg
   subst this
   have hfs:P.fieldsOf t=fs:=by simp [Program.fieldsOf,hu]
   have:=eq_fields (w:=w) (D:=D) (fun t sh h x y g hg hx hy => eq_shape w d t sh h D x y g hg hx hy) fs.toList 0 sh h [] [] x y rfl rfl hx hy
   simp only [mkV,if_true,← Nat.add_assoc]
   rw [run_equalIn_struct w _ t _ _ (by rw [hfs]; exact hu) (by simpa using hst),hfs]
   exact this
  ·rename_i n e hu
   split at h
   ·rename_i s1 hs1
    split at h
    ·rename_i hc
     simp only [Bool.and_eq_true,beq_iff_eq,Bool.or_eq_true,bne_iff_ne,ne_eq] at hc
     obtain ⟨⟨⟨⟨c1,c2⟩,c3⟩,c4⟩,c5⟩:=hc
     injection h with h; subst h
     have:g=true:=by simpa [aggB,hu] using hg
     subst this
     obtain ⟨i,hi⟩:=Option.isSome_iff_exists.1 c2
     obtain ⟨g',hg'⟩:=Option.isSome_iff_exists.1 c4
     have h1:g'=false → s1.length=1:=by
      intro hgf
      rcases c5 with h | h
      ·rw [hg',hgf] at h; exact absurd rfl h
      exact h
     have:=eq_items (w:=w) (D:=D) (d:=d) hg' c3 h1 (fun x y hx hy => eq_shape w d e s1 hs1 D x y g' hg' hx hy) n 0 [] [] x y (by simp) (by simp) hx hy
     simp only [mkV,if_true,← Nat.add_assoc]
     rw [run_equalIn_array w _ _ _ hu hi,c1,List.range_eq_range']
     exact this
    cases h
   cases h
  cases h
theorem ob_eql {K:Kn} {t:Nat} {d:Nat} {sh:List Sh} (hsh:eqShape P d t=some sh) (hd:d ≤ 10000) (hg:P.eqGuardType P.depth t=false) (ha:aggB P t=some true) {x y:List AV} (hx:fitsL sh x) (hy:fitsL sh y):Ob.holds P K (.eql t x y):=by
 intro w o1 o2
 have h:=eq_shape w d t sh hsh (10000 - d) x y true ha hx hy
 rw [show 10000 - d + d=10000 by omega] at h
 have hgd:∀ op,(eqGuard op t o1 o2 (.agg (x.map AV.den).toArray) (.agg (y.map AV.den).toArray)).run P w = .ok () w:=by
  intro op
  unfold eqGuard
  cases op<;>simp [hg]<;>rfl
 simp only [mkV,if_true] at h
 constructor
 ·simp only [Sem.run_bind,hgd,Result.andThen_ok]
  rw [run_eql_struct,h]
  rfl
 simp only [Sem.run_bind,hgd,Result.andThen_ok]
 rw [run_neq_struct,h]
 rfl
end
end Go.Proofs.YtjgnoldondblaaaGreat.Sym
namespace Go.Proofs.YtjgnoldondblaaaGreat.Sym
open Go Go.RowKit
def labAV (l:Lab):AV:=.agg [.int .i64 l.len,.int .u64 l.bits]
theorem eqL_lab (l k:Lab):eqL [.int .i64 l.len,.int .u64 l.bits] [.int .i64 k.len,.int .u64 k.bits]=decide (l=k):=by
 obtain ⟨a,b⟩:=l
 obtain ⟨c,d⟩:=k
 rw [Bool.eq_iff_iff]
 simp [eqL,eqC]
theorem lab_guard:Tryz.prog.eqGuardType Tryz.prog.depth 37=false:=by kernel_rfl
theorem lab_shape:eqShape Tryz.prog 2 37=some [.int .i64,.int .u64]:=by kernel_rfl
theorem lab_agg:aggB Tryz.prog 37=some true:=by kernel_rfl
theorem ob_lab {Kk:Kn} (a b c d:Int):Ob.holds Tryz.prog Kk (.eql 37 [.int .i64 a,.int .u64 b] [.int .i64 c,.int .u64 d]):=ob_eql lab_shape (by decide) lab_guard lab_agg ⟨rfl,rfl,trivial⟩ ⟨rfl,rfl,trivial⟩
theorem enters39:Enters Tryz.prog 39:=fun _ _ => by kernel_rfl
theorem head_s (v n:Int) (hv:U64 v) (h0:0 ≤ n) (h1:n ≤ 64):Spec Tryz.prog 39 [.int .u64 v,.int .i64 n] (fun _ => .int .u64 (headN v.toNat n.toNat)):=by
 intro m w hm hargs
 refine en 11 hm hargs Tryz.func39 fun B hB a0 hF => ?_
 refine wp_seq (rg hB TA_ok [0,1] [] [] hF fun X0 a0 w1 hF => ?_)
 refine wp_seq (rg hB TA_ok [0,5] [] [] hF fun X1 a0 w1 hF => ?_)
 refine wp_seq (rg hB TA_ok [4] [] [] hF fun X2 a0 w1 hF => ?_)
 refine wp_ret ((rsp hB TA_ok hF nAt (he:=?_)).1)
 subst hB; simp only [head_std hv h0 h1,std]; rfl
theorem enters35:Enters Tryz.prog 35:=fun _ _ => by kernel_rfl
theorem isL_s (l:Lab) (hv:U64 l.bits):Spec Tryz.prog 35 [labAV l] (fun _ => .bool (.v (isL l))):=by
 intro m w hm hargs
 simp only [labAV] at hargs ⊢
 have S:=fun h0 h1 => head_s l.bits l.len hv h0 h1
 generalize hhd:((headN l.bits.toNat l.len.toNat:Nat):Int)=hd at S
 refine en 21 hm hargs Tryz.func35 fun B hB a0 hF => ?_
 refine wp_seq (rg hB TA_ok [1] [1] [] hF fun X0 a0 w1 hF => ?_)
 refine wp_seq (drg hB TA_ok [2] [] [(13,.r fun _ => .int .u64 hd)] hF (hob:=?hob) fun X1 a0 w1 hF => ?_)
 case hob =>
  intro X
  subst hB
  refine ⟨rfl,fun _ => rfl,fun _ => rfl,fun _ => rfl,fun h => ?_,fun _ => rfl,trivial⟩
  have hl:=h _ (List.mem_singleton.2 rfl)
  have hl:(0:Int) ≤ l.len ∧ l.len ≤ 64:=by simpa [std,sC,BE.den] using hl
  exact ⟨enters39,S hl.1 hl.2⟩
 refine wp_ret ((rsp hB TA_ok hF nAt (he:=?_)).1)
 subst hB
 refine congrArg (fun b => AV.bool (.v b)) ?_
 simp only [std,sC,isL,BE.den,hhd]
 by_cases h1:0 ≤ l.len<;>by_cases h2:l.len ≤ 64<;>simp [h1,h2]
 rfl
theorem enters52:Enters Tryz.prog 52:=fun _ _ => by kernel_rfl
theorem none_s:Spec Tryz.prog 52 [] (fun _ => labAV noneL):=by
 intro m w hm hargs
 refine en 2 hm hargs Tryz.func52 fun B hB a0 hF => ?_
 refine wp_seq (rg hB TA_ok [0] [0] [] hF fun X0 a0 w1 hF => ?_)
 refine wp_seq (rg hB TA_ok [0] [0] [] hF fun X1 a0 w1 hF => ?_)
 exact wp_ret ((rsp hB TA_ok hF nAt).1)
theorem or_u64 {a b k:Nat} (h:a % 2 ^ k=0) (hb:b < 2 ^ k) (hab:a + b < 2 ^ 64):sAr .or .u64 (a:Int) (b:Int)=((a + b:Nat):Int):=by
 show IntKind.u64.wrap ((BitVec.ofNat 64 a ||| BitVec.ofNat 64 b).toNat:Int)=_
 have e:(BitVec.ofNat 64 a ||| BitVec.ofNat 64 b).toNat=a + b:=by
  rw [BitVec.toNat_or,BitVec.toNat_ofNat,BitVec.toNat_ofNat,Nat.mod_eq_of_lt (by omega),Nat.mod_eq_of_lt (by omega)]
  obtain ⟨q,rfl⟩:=Nat.dvd_of_mod_eq_zero h
  rw [Nat.mul_comm,← Nat.shiftLeft_eq,← Nat.shiftLeft_add_eq_or_of_lt hb]
 rw [e,wrap_u64n,Nat.mod_eq_of_lt hab]
def itC (x:Itm):List AV:=[.int .u64 x.key,.str x.val]
def rowI (A:Option Addr) (n c:Nat) (f:Nat → Itm):AV:=.sl none A n c 2 (fun i => itC (f i))
def recI (A:Option Addr) (n c:Nat) (f:Nat → Itm) (kd:Int) (nx:Lab) (mk:Int):AV:=.agg [.int .i64 kd,rowI A n c f,.int .i64 nx.len,.int .u64 nx.bits,.int .u64 mk]
theorem ite_or (a b:Bool):(if a=true then true else b)=(a || b):=by cases a<;>rfl
theorem ite_and (a b:Bool):(if a=true then b else false)=(a && b):=by cases a<;>rfl
theorem eqL_itm (x y:Itm):eqL (itC x) (itC y)=decide (x=y):=by
 obtain ⟨a,b⟩:=x
 obtain ⟨c,d⟩:=y
 rw [Bool.eq_iff_iff]
 simp [eqL,eqC,itC,beqB]
theorem itm_guard:Tryz.prog.eqGuardType Tryz.prog.depth 63=false:=by kernel_rfl
theorem itm_shape:eqShape Tryz.prog 2 63=some [.int .u64,.str]:=by kernel_rfl
theorem itm_agg:aggB Tryz.prog 63=some true:=by kernel_rfl
theorem ob_itm {Kk:Kn} (a:Int) (b:ByteArray) (c:Int) (d:ByteArray):Ob.holds Tryz.prog Kk (.eql 63 [.int .u64 a,.str b] [.int .u64 c,.str d]):=ob_eql itm_shape (by decide) itm_guard itm_agg ⟨rfl,trivial,trivial⟩ ⟨rfl,trivial,trivial⟩
def sameF (n:Nat) (f:Nat → Itm) (n2:Nat) (f2:Nat → Itm):Bool:=decide (n=n2) && (List.range n).all fun i => decide (f i=f2 i)
theorem sameF_no {n n2 i:Nat} {f f2:Nat → Itm} (hi:i < n) (h:¬ f i=f2 i):sameF n f n2 f2=false:=by
 unfold sameF
 have:((List.range n).all fun i => decide (f i=f2 i))=false:=by
  rw [Bool.eq_false_iff]
  intro h2
  exact h (of_decide_eq_true (List.all_eq_true.1 h2 i (List.mem_range.2 hi)))
 rw [this]; simp
theorem sameF_yes {n n2:Nat} {f f2:Nat → Itm} (hn:n=n2) (h:∀ i,i < n → f i=f2 i):sameF n f n2 f2=true:=by
 unfold sameF
 rw [decide_eq_true hn,Bool.true_and,List.all_eq_true]
 intro i hi
 exact decide_eq_true (h i (List.mem_range.1 hi))
def recAV (A:Option Addr) (c:Nat) (r:Rec):AV:=recI A r.items.length c (itF r.items) r.kind r.next r.mark
theorem enters57:Enters Tryz.prog 57:=fun _ _ => by kernel_rfl
theorem row_s (A:Option Addr) (n c:Nat) (f:Nat → Itm) (hn:n ≤ maxLen):Spec Tryz.prog 57 [rowI A n c f] (fun _ => .bool (.v (rowF n f))):=by
 intro m w hm hargs
 have hmx:maxLen=9223372036854775807:=rfl
 refine en 35 hm hargs Tryz.func57 fun B hB a0 hF => ?_
 refine wp_seq (rg hB TA_ok [0] [] [] hF fun X0 a0 w1 hF => ?_)
 refine wp_seq (wp_seq (rg hB TA_ok [7,0,5,6] [] [] hF fun X1 a0 w1 hF => ?_))
 refine wp_block (loop_pre (ι:=Nat) (fun p => [(7,.int .i64 (p:Int))]) (fun p => []) (fun p => []) (fun p => p ≤ n ∧ okF f p=true) (fun p => n - p) 0 ⟨Nat.zero_le _,rfl⟩ hF ?_)
 rintro i ⟨hi,hok⟩ a0 w1 hF
 try dsimp only at hi
 try dsimp only at hok
 refine wp_seq (rg hB TA_ok [8,0,5,6,7] [] [] hF fun X2 a0 w1 hF => ?_)
 refine wp_seq (test_ok hF rfl (fun hb hF => ?_) (fun hb hF => ?_))
 ·have hin:i < n:=by
   have:(i:Int) < (n:Int):=by subst hB; simpa [std,sC] using hb
   omega
  have ht:=okAt_test f i (by omega)
  refine wp_skip (wp_seq (wp_block (wp_seq (rg hB TA_ok [0,3,4,5,6,7] [4] [] hF (hob:=?hob) fun X3 a0 w1 hF => ?_))))
  case hob =>
   intro X
   subst hB; exact ⟨⟨show (0:Int) ≤ (i:Int) by omega,show (i:Int) < (n:Int) by omega⟩,rfl,trivial⟩
  refine wp_seq (drg hB TA_ok [30,0,5,6,7] [] [] hF (hob:=?hob) fun X4 a0 w1 hF => ?_)
  case hob =>
   intro X
   subst hB
   have hix:(0:Int) < (i:Int) → 0 ≤ IntKind.i64.wrap ((i:Int) - 1) ∧ IntKind.i64.wrap ((i:Int) - 1) < (n:Int):=fun h => by rw [wrap_in (by omega) (by omega)]; omega
   simp only [AO,Ob.holds,BE.den,List.mem_cons,List.not_mem_nil,or_false,forall_eq_or_imp,forall_eq]
   and_intros<;>first | trivial | (intro h; first | trivial | exact hix (of_decide_eq_true h) | exact hix (of_decide_eq_true h.1))
  apply test_ok hF rfl<;>intro hb hF
  ·have hat:okAt f i=false:=by
    have h9:(!okAt f i)=true:=by subst hB; exact ht.symm.trans hb
    simpa using h9
   refine wp_seq (rg hB TA_ok [2] [] [] hF fun X5 a0 w1 hF => ?_)
   refine wp_ret ((rsp hB TA_ok hF nAt (he:=?_)).1)
   subst hB
   refine congrArg (fun b => AV.bool (.v b)) ?_
   unfold rowF
   rw [okF_false hin hat]; simp
  have hat:okAt f i=true:=by
   have h9:(!okAt f i)=false:=by subst hB; exact ht.symm.trans hb
   simpa using h9
  refine wp_skip (rg hB TA_ok [7,0,5,6] [] [] hF fun X6 a0 w1 hF => ?_)
  have e:B.arith .add .i64 (i:Int) 1=((i + 1:Nat):Int):=by subst hB; exact wrap_succ (n:=n) hin hn
  refine ⟨i + 1,⟨by omega,by rw [okF_succ,hok,hat]; rfl⟩,by omega,by rw [← e]; exact hF⟩
 have hout:i=n:=by
  have:¬ (i:Int) < (n:Int):=by subst hB; simpa [std,sC] using hb
  omega
 refine wp_exit (wp_seq (rg hB TA_ok [2] [] [] hF fun X7 a0 w1 hF => ?_))
 refine wp_ret ((rsp hB TA_ok hF nAt (he:=?_)).1)
 subst hB
 refine congrArg (fun b => AV.bool (.v b)) ?_
 unfold rowF
 rw [hout] at hok
 rw [hok]
 simp [std,sC]; omega
theorem enters36:Enters Tryz.prog 36:=fun _ _ => by kernel_rfl
theorem isR_s (A:Option Addr) (n c:Nat) (f:Nat → Itm) (hn:n ≤ maxLen) (kd:Int) (nx:Lab) (mk:Int) (hv:U64 nx.bits):Spec Tryz.prog 36 [recI A n c f kd nx mk] (fun _ => .bool (.v (isRF kd n f nx mk))):=by
 intro m w hm hargs
 have S1:=none_s
 have S2:=isL_s nx hv
 have S3:=row_s A n c f hn
 simp only [labAV] at S1 S2
 generalize hq:isL nx=q at S2
 generalize hr:rowF n f=r at S3
 have hnx:=eqL_lab nx noneL
 generalize hd:decide (nx=noneL)=d at hnx
 refine en 44 hm hargs Tryz.func36 fun B hB a0 hF => ?_
 refine wp_seq (rg hB TA_ok [1] [1] [] hF fun X0 a0 w1 hF => ?_)
 refine wp_seq (wp_seq (drg hB TA_ok [12,1] [1] [(2,.r fun _ => .agg [.int .i64 (-1),.int .u64 0]),(7,.r fun _ => .bool (.v q))] hF (hob:=?hob) fun X1 a0 w1 hF => ?_))
 case hob =>
  intro X
  subst hB
  exact ⟨rfl,⟨enters52,S1⟩,ob_lab (Kk:=noK) _ _ _ _,fun _ => rfl,fun _ => ⟨enters35,S2⟩,trivial⟩
 apply test_ok hF rfl<;>intro hb hF
 ·have hx:d=false ∧ q=false:=by
   have h9:(if (!eqL [.int .i64 nx.len,.int .u64 nx.bits] [.int .i64 (-1),.int .u64 0])=true then !q else false)=true:=by subst hB; exact hb
   rw [show eqL [.int .i64 nx.len,.int .u64 nx.bits] [.int .i64 (-1),.int .u64 0]=d from hnx] at h9
   cases d<;>cases q<;>simp at h9 ⊢
  refine wp_seq (rg hB TA_ok [2] [] [] hF fun X2 a0 w1 hF => ?_)
  refine wp_ret ((rsp hB TA_ok hF nAt (he:=?_)).1)
  subst hB
  refine congrArg (fun b => AV.bool (.v b)) ?_
  unfold isRF
  rw [hd,hq,hr]
  first | (subst hk) | skip
  have hnx2:eqL [.int .i64 nx.len,.int .u64 nx.bits] [.int .i64 (-1),.int .u64 0]=d:=hnx
  simp_all [bareK,std,sC,BE.den]
  try (cases d<;>cases q<;>simp_all<;>(by_cases h0:mk=0<;>simp [h0]))
 have hx:d=true ∨ q=true:=by
  have h9:(if (!eqL [.int .i64 nx.len,.int .u64 nx.bits] [.int .i64 (-1),.int .u64 0])=true then !q else false)=false:=by subst hB; exact hb
  rw [show eqL [.int .i64 nx.len,.int .u64 nx.bits] [.int .i64 (-1),.int .u64 0]=d from hnx] at h9
  cases d<;>cases q<;>simp at h9 ⊢
 refine wp_skip (wp_seq (wp_seq (rg hB TA_ok [1,14] [1] [] hF fun X3 a0 w1 hF => ?_)))
 refine wp_block (wp_seq (wp_block (wp_seq (wp_block (wp_seq (wp_block (wp_seq (wp_seq (wp_seq (wp_seq (rg hB TA_ok [15,1,14] [1] [] hF fun X4 a0 w1 hF => ?_)))))))))))
 refine test_keep hF (fun hb hF => ?_) (fun hb hF => ?_)
 ·have hk:kd=2:=by subst hB; simpa [std,sC] using hb
  refine wp_skip (test_tt hF rfl (fun hF => ?_))
  refine wp_exit (wp_seq (wp_seq (drg hB TA_ok [2] [] [(7,.r fun _ => .agg [.int .i64 (-1),.int .u64 0])] hF (hob:=?hob) fun X9 a0 w1 hF => ?_)))
  case hob =>
   intro X
   subst hB
   exact ⟨rfl,fun _ => rfl,fun _ => ⟨enters52,S1⟩,fun _ => ob_lab (Kk:=noK) _ _ _ _,fun _ => rfl,trivial⟩
  refine wp_ret ((rsp hB TA_ok hF nAt (he:=?_)).1)
  subst hB
  refine congrArg (fun b => AV.bool (.v b)) ?_
  unfold isRF
  rw [hd,hq,hr]
  first | (subst hk) | skip
  have hnx2:eqL [.int .i64 nx.len,.int .u64 nx.bits] [.int .i64 (-1),.int .u64 0]=d:=hnx
  simp_all [bareK,std,sC,BE.den]
  try (cases d<;>cases q<;>simp_all<;>(by_cases h0:mk=0<;>simp [h0]))
 have hk2:¬ kd=2:=by subst hB; simpa [std,sC] using hb
 refine rg hB TA_ok [15,1,14] [1] [] hF fun X5 a0 w1 hF => ?_
 apply test_ok hF rfl<;>intro hb hF
 ·have hk:kd=4:=by subst hB; simpa [std,sC] using hb
  refine wp_exit (wp_seq (wp_seq (drg hB TA_ok [2] [] [(7,.r fun _ => .agg [.int .i64 (-1),.int .u64 0])] hF (hob:=?hob) fun X9 a0 w1 hF => ?_)))
  case hob =>
   intro X
   subst hB
   exact ⟨rfl,fun _ => rfl,fun _ => ⟨enters52,S1⟩,fun _ => ob_lab (Kk:=noK) _ _ _ _,fun _ => rfl,trivial⟩
  refine wp_ret ((rsp hB TA_ok hF nAt (he:=?_)).1)
  subst hB
  refine congrArg (fun b => AV.bool (.v b)) ?_
  unfold isRF
  rw [hd,hq,hr]
  first | (subst hk) | skip
  have hnx2:eqL [.int .i64 nx.len,.int .u64 nx.bits] [.int .i64 (-1),.int .u64 0]=d:=hnx
  simp_all [bareK,std,sC,BE.den]
  try (cases d<;>cases q<;>simp_all<;>(by_cases h0:mk=0<;>simp [h0]))
 have hk4:¬ kd=4:=by subst hB; simpa [std,sC] using hb
 refine wp_skip (wp_seq (wp_seq (wp_seq (rg hB TA_ok [18,1,14] [1] [] hF fun X6 a0 w1 hF => ?_))))
 refine test_keep hF (fun hb hF => ?_) (fun hb hF => ?_)
 ·have hk:kd=1:=by subst hB; simpa [std,sC] using hb
  refine wp_skip (test_tt hF rfl (fun hF => ?_))
  refine wp_exit (wp_seq (rg hB TA_ok [40,1] [1] [] hF fun X10 a0 w1 hF => ?_))
  apply test_ok hF rfl<;>intro hb hF
  ·have hm:¬ mk=0:=by subst hB; simpa [std,sC] using hb
   refine wp_seq (rg hB TA_ok [2] [] [] hF fun X11 a0 w1 hF => ?_)
   refine wp_ret ((rsp hB TA_ok hF nAt (he:=?_)).1)
   subst hB
   refine congrArg (fun b => AV.bool (.v b)) ?_
   unfold isRF
   rw [hd,hq,hr]
   first | (subst hk) | skip
   have hnx2:eqL [.int .i64 nx.len,.int .u64 nx.bits] [.int .i64 (-1),.int .u64 0]=d:=hnx
   simp_all [bareK,std,sC,BE.den]
   try (cases d<;>cases q<;>simp_all<;>(by_cases h0:mk=0<;>simp [h0]))
  have hm:mk=0:=by subst hB; simpa [std,sC] using hb
  refine wp_skip (wp_seq (wp_seq (rg hB TA_ok [2] [] [(2,.r fun _ => .bool (.v r))] hF (hob:=?hob) fun X12 a0 w1 hF => ?_)))
  case hob =>
   intro X
   subst hB
   exact ⟨rfl,⟨enters57,S3⟩,trivial⟩
  refine wp_ret ((rsp hB TA_ok hF nAt (he:=?_)).1)
  subst hB
  refine congrArg (fun b => AV.bool (.v b)) ?_
  unfold isRF
  rw [hd,hq,hr]
  first | (subst hk) | skip
  have hnx2:eqL [.int .i64 nx.len,.int .u64 nx.bits] [.int .i64 (-1),.int .u64 0]=d:=hnx
  simp_all [bareK,std,sC,BE.den]
  try (cases d<;>cases q<;>simp_all<;>(by_cases h0:mk=0<;>simp [h0]))
 have hk1:¬ kd=1:=by subst hB; simpa [std,sC] using hb
 refine rg hB TA_ok [18,1,14] [1] [] hF fun X7 a0 w1 hF => ?_
 apply test_ok hF rfl<;>intro hb hF
 ·have hk:kd=3:=by subst hB; simpa [std,sC] using hb
  refine wp_exit (wp_seq (rg hB TA_ok [40,1] [1] [] hF fun X10 a0 w1 hF => ?_))
  apply test_ok hF rfl<;>intro hb hF
  ·have hm:¬ mk=0:=by subst hB; simpa [std,sC] using hb
   refine wp_seq (rg hB TA_ok [2] [] [] hF fun X11 a0 w1 hF => ?_)
   refine wp_ret ((rsp hB TA_ok hF nAt (he:=?_)).1)
   subst hB
   refine congrArg (fun b => AV.bool (.v b)) ?_
   unfold isRF
   rw [hd,hq,hr]
   first | (subst hk) | skip
   have hnx2:eqL [.int .i64 nx.len,.int .u64 nx.bits] [.int .i64 (-1),.int .u64 0]=d:=hnx
   simp_all [bareK,std,sC,BE.den]
   try (cases d<;>cases q<;>simp_all<;>(by_cases h0:mk=0<;>simp [h0]))
  have hm:mk=0:=by subst hB; simpa [std,sC] using hb
  refine wp_skip (wp_seq (wp_seq (rg hB TA_ok [2] [] [(2,.r fun _ => .bool (.v r))] hF (hob:=?hob) fun X12 a0 w1 hF => ?_)))
  case hob =>
   intro X
   subst hB
   exact ⟨rfl,⟨enters57,S3⟩,trivial⟩
  refine wp_ret ((rsp hB TA_ok hF nAt (he:=?_)).1)
  subst hB
  refine congrArg (fun b => AV.bool (.v b)) ?_
  unfold isRF
  rw [hd,hq,hr]
  first | (subst hk) | skip
  have hnx2:eqL [.int .i64 nx.len,.int .u64 nx.bits] [.int .i64 (-1),.int .u64 0]=d:=hnx
  simp_all [bareK,std,sC,BE.den]
  try (cases d<;>cases q<;>simp_all<;>(by_cases h0:mk=0<;>simp [h0]))
 have hk3:¬ kd=3:=by subst hB; simpa [std,sC] using hb
 refine wp_skip (wp_seq (rg hB TA_ok [21,1] [1] [] hF fun X8 a0 w1 hF => ?_))
 apply test_ok hF rfl<;>intro hb hF
 ·have hk:kd=5:=by subst hB; simpa [std,sC] using hb
  refine wp_exit (wp_seq (wp_seq (rg hB TA_ok [2] [] [(2,.r fun _ => .bool (.v r))] hF (hob:=?hob) fun X12 a0 w1 hF => ?_)))
  case hob =>
   intro X
   subst hB
   exact ⟨rfl,⟨enters57,S3⟩,trivial⟩
  refine wp_ret ((rsp hB TA_ok hF nAt (he:=?_)).1)
  subst hB
  refine congrArg (fun b => AV.bool (.v b)) ?_
  unfold isRF
  rw [hd,hq,hr]
  first | (subst hk) | skip
  have hnx2:eqL [.int .i64 nx.len,.int .u64 nx.bits] [.int .i64 (-1),.int .u64 0]=d:=hnx
  simp_all [bareK,std,sC,BE.den]
  try (cases d<;>cases q<;>simp_all<;>(by_cases h0:mk=0<;>simp [h0]))
 have hk5:¬ kd=5:=by subst hB; simpa [std,sC] using hb
 refine wp_skip (wp_exit (wp_seq (rg hB TA_ok [2] [] [] hF fun X13 a0 w1 hF => ?_)))
 refine wp_ret ((rsp hB TA_ok hF nAt (he:=?_)).1)
 subst hB
 refine congrArg (fun b => AV.bool (.v b)) ?_
 unfold isRF
 rw [hd,hq,hr]
 first | (subst hk) | skip
 have hnx2:eqL [.int .i64 nx.len,.int .u64 nx.bits] [.int .i64 (-1),.int .u64 0]=d:=hnx
 simp_all [bareK,std,sC,BE.den]
 try (cases d<;>cases q<;>simp_all<;>(by_cases h0:mk=0<;>simp [h0]))
theorem same7_s (A:Option Addr) (n c:Nat) (f:Nat → Itm) (hn:n ≤ maxLen) (A2:Option Addr) (n2 c2:Nat) (f2:Nat → Itm):Spec Tryz.prog 20 [rowI A n c f,rowI A2 n2 c2 f2] (fun _ => .bool (.v (sameF n f n2 f2))):=by
 intro m w hm hargs
 have hmx:maxLen=9223372036854775807:=rfl
 refine en 26 hm hargs Tryz.func20 fun B hB a0 hF => ?_
 refine wp_seq (rg hB TA_ok [0,1] [] [] hF fun X0 a0 w1 hF => ?_)
 refine wp_seq (wp_seq (rg hB TA_ok [10,0,1] [] [] hF fun X1 a0 w1 hF => ?_))
 apply test_ok hF rfl<;>intro hb hF
 ·have hne:n ≠ n2:=by
   have:¬ (n:Int)=(n2:Int):=by subst hB; simpa [std,sC] using hb
   omega
  refine wp_seq (rg hB TA_ok [4] [] [] hF fun X2 a0 w1 hF => ?_)
  refine wp_ret ((rsp hB TA_ok hF nAt (he:=?_)).1)
  subst hB
  refine congrArg (fun b => AV.bool (.v b)) ?_
  unfold sameF
  rw [decide_eq_false hne]; rfl
 have hnn:n=n2:=by
  have:(n:Int)=(n2:Int):=by subst hB; simpa [std,sC] using hb
  omega
 refine wp_skip (wp_seq (wp_seq (rg hB TA_ok [5,0,1] [] [] hF fun X3 a0 w1 hF => ?_)))
 refine wp_block (loop_pre (ι:=Nat) (fun p => [(5,.int .i64 (p:Int))]) (fun p => []) (fun p => []) (fun p => p ≤ n ∧ ∀ i,i < p → f i=f2 i) (fun p => n - p) 0 ⟨Nat.zero_le _,fun i hi => absurd hi (Nat.not_lt_zero _)⟩ hF ?_)
 rintro i ⟨hi,hall⟩ a0 w1 hF
 try dsimp only at hi
 try dsimp only at hall
 refine wp_seq (wp_seq (rg hB TA_ok [14,0,1,5] [] [] hF fun X4 a0 w1 hF => ?_))
 apply test_ok hF rfl<;>intro hb hF
 ·have hin:i < n:=by
   have:(i:Int) < (n:Int):=by subst hB; simpa [std,sC] using hb
   omega
  refine wp_skip (wp_seq (wp_block (wp_seq (drg hB TA_ok [25,0,1,5] [] [] hF (hob:=?hob) fun X6 a0 w1 hF => ?_))))
  case hob =>
   intro X
   subst hB; exact ⟨⟨show (0:Int) ≤ (i:Int) by omega,show (i:Int) < (n:Int) by omega⟩,⟨show (0:Int) ≤ (i:Int) by omega,show (i:Int) < (n2:Int) by omega⟩,ob_itm (Kk:=noK) _ _ _ _,trivial⟩
  apply test_ok hF rfl<;>intro hb hF
  ·have hne:¬ f i=f2 i:=by
    have h9:(!eqL (itC (f i)) (itC (f2 i)))=true:=by subst hB; exact hb
    rw [eqL_itm] at h9; simpa using h9
   refine wp_seq (rg hB TA_ok [4] [] [] hF fun X7 a0 w1 hF => ?_)
   refine wp_ret ((rsp hB TA_ok hF nAt (he:=?_)).1)
   subst hB
   refine congrArg (fun b => AV.bool (.v b)) ?_
   rw [sameF_no hin hne]
  have heq:f i=f2 i:=by
   have h9:(!eqL (itC (f i)) (itC (f2 i)))=false:=by subst hB; exact hb
   rw [eqL_itm] at h9; simpa using h9
  refine wp_skip (rg hB TA_ok [5,0,1] [] [] hF fun X5 a0 w1 hF => ?_)
  have e:B.arith .add .i64 (i:Int) 1=((i + 1:Nat):Int):=by subst hB; exact wrap_succ (n:=n) hin hn
  refine ⟨i + 1,⟨by omega,fun j hj => ?_⟩,by omega,by rw [← e]; exact hF⟩
  by_cases hij:j=i
  ·rw [hij]; exact heq
  exact hall j (by omega)
 have hout:i=n:=by
  have:¬ (i:Int) < (n:Int):=by subst hB; simpa [std,sC] using hb
  omega
 refine wp_exit (wp_seq (rg hB TA_ok [4] [] [] hF fun X8 a0 w1 hF => ?_))
 refine wp_ret ((rsp hB TA_ok hF nAt (he:=?_)).1)
 subst hB
 refine congrArg (fun b => AV.bool (.v b)) ?_
 rw [hout] at hall
 rw [sameF_yes hnn hall]
end Go.Proofs.YtjgnoldondblaaaGreat.Sym
namespace Go.Proofs.YtjgnoldondblaaaGreat.Sym
open Go Go.ChangeShapes Go.WideShapes Go.ChangeAt Go.RowKit Go.Deep
abbrev m0:Nat → Nat → Prop:=fun _ _ => False
def InU (w:World) (v:Value):Prop:=∃ n:Int,v = .int .u64 n ∧ U64 n
theorem u64_wf {n:Int} (h:(Lit.int .u64 n).wf=true):U64 n:=by
 simp [Lit.wf,IntKind.min,IntKind.max,IntKind.signed,IntKind.bits] at h
 exact ⟨by omega,by omega⟩
def itmE (x:Itm):List Value:=[.int .u64 x.key,.string x.val]
theorem itmE_len (x:Itm):(itmE x).length=2:=rfl
theorem rows_ok {m:Nat → Nat → Prop} {w:World} {A:Option Addr} {k:Nat} {l:List Itm} (hl:l.length ≤ k) (hk:k ≤ maxLen) (hs:∀ x ∈ l,x.val.size ≤ maxLen)
  (h:0 < (l.flatMap itmE).length → ∃ b off,A=some ⟨b,off,none⟩ ∧ ∀ j u,(l.flatMap itmE)[j]? = some u → w.cell? ⟨b,off + j,none⟩=some u ∧ ¬ m b (off + j)):Ok m w (rowI A l.length k (itF l)):=by
 have hg:∀ i (hi:i < l.length),itF l i=l[i]:=fun i hi => by simp [itF,List.getD,hi]
 have hpos:∀ i,i < l.length → 0 < (l.flatMap itmE).length:=fun i hi => by rw [flat_length itmE_len]; omega
 refine .sl _ _ _ _ _ _ hl hk (fun i _ => rfl) (fun i hi => ?_) (fun i hi j u hu => ?_) (fun i hi v hv => ?_) (fun i hi v hv => ?_)
 ·obtain ⟨b,off,hA,_⟩:=h (hpos i hi); exact ⟨b,off,hA⟩
 ·obtain ⟨b,off,hA,hc⟩:=h (hpos i hi)
  have hu':(itmE (itF l i))[j]? = some u:=hu
  rw [hg i hi] at hu'
  exact ⟨b,off,hA,hc _ u (flat_get itmE_len (List.getElem?_eq_getElem hi) hu')⟩
 ·simp only [itC,List.mem_cons,List.not_mem_nil,or_false] at hv
  rcases hv with rfl | rfl<;>rfl
 simp only [itC,List.mem_cons,List.not_mem_nil,or_false] at hv
 rcases hv with rfl | rfl
 ·exact .int _ _
 exact .str _ (by rw [hg i hi]; exact hs _ (List.getElem_mem hi))
section
variable {H:Type} {enc:TypeId × Value → H} {w:World} {base:Nat} {spare:Nat → Bool} {held:Bool}
theorem dec_itm (n:Nat) (cs:List Value) (y:DataW H × List MemPlace) (h:DataW.trod enc Tryz.prog w base spare held n 63 cs=some y):∃ x:Itm,cs=itmE x ∧ (x.val.size ≤ maxLen ∧ U64 x.key):=by
 obtain ⟨xs,m,rfl,rfl,hlen,hxl,hf⟩:=DataW.trod_struct Tryz.underlying63 h
 have hC:Tryz.prog.cellsOf 63=2:=by kernel_rfl
 have h0:DataW.trod enc Tryz.prog w base spare held m 23 ((cs.drop 0).take (Tryz.prog.cellsOf 23))=xs[0]?:=hf 0 _ rfl
 have h1:DataW.trod enc Tryz.prog w base spare held m 9 ((cs.drop 1).take (Tryz.prog.cellsOf 9))=xs[1]?:=hf 1 _ rfl
 rw [hC] at hlen
 rw [show Tryz.prog.cellsOf 23=1 by kernel_rfl] at h0
 rw [show Tryz.prog.cellsOf 9=1 by kernel_rfl] at h1
 match cs,hlen with
 | [c0,c1],_ =>
  match xs,hxl with
  | [y0,y1],_ =>
   obtain ⟨a,e0,_,wa⟩:=DataW.trod_int Tryz.underlying23 h0
   obtain ⟨s,e1,_,ws⟩:=DataW.trod_string Tryz.underlying9 h1
   simp at e0 e1
   subst e0; subst e1
   exact ⟨⟨a,s⟩,rfl,ws,u64_wf wa⟩
variable {r:Reach} {b0:Nat} {v:Value} {d:DataW H} {p:List MemPlace}
theorem in_u (hv:Value.okWide Tryz.prog w r b0 23 v) (h:DataW.Trod enc Tryz.prog w base spare held 23 v d p):InU w v:=by
 obtain ⟨n,rfl,hw⟩:=in_int Tryz.underlying23 hv h
 exact ⟨n,rfl,u64_wf hw⟩
end
end Go.Proofs.YtjgnoldondblaaaGreat.Sym
namespace Go.Proofs.YtjgnoldondblaaaGreat.Sym
open Go.RowKit
theorem Fits.fresh {C:Cx} {s:St} {a:Act} {w w':World} (h:Fits C s a w) (hb:Below w.heap.size w w') (key:Nat) {t:Gr} (hk:0 < t.k) {xs:List Value} (hO:Own w' w.heap.size t.e t.k t.v t.n xs) :
  Fits C (s.eff (.grow key t)) a w':=by
 have hcell:∀ b o u,w.cell? ⟨b,o,none⟩=some u → w'.cell? ⟨b,o,none⟩=some u:=fun b o u hc => by
  rw [hb.cell (World.block_lt_of_cell? w _ hc)]; exact hc
 have hlt:∀ b,ownB t.v=some b → w.heap.size ≤ b:=fun b hv => (hO.lt b hv).1
 have hm:∀ b o,b < w.heap.size → ¬ s.m C b o → ¬ (s.eff (.grow key t)).m C b o:=by
  intro b o hbl hn hm
  rcases hm with hm | hm | ⟨k',t',ht',hv,hm⟩
  ·exact hn (.inl hm)
  ·exact hn (.inr (.inl hm))
  rcases lookM_eff ht' with ⟨_,rfl⟩ | ⟨_,ht'⟩
  ·have:=hlt b hv; omega
  exact hn (.inr (.inr ⟨k',t',ht',hv,hm⟩))
 have kp:Keep w (s.m C) w' ((s.eff (.grow key t)).m C):=⟨fun b o u h1 h2 => ⟨hcell b o u h1,hm b o (World.block_lt_of_cell? w _ h1) h2⟩,fun b o h1 _ => (hb.block b (Array.getElem?_eq_some_iff.1 h1).1).trans h1⟩
 have mono:∀ v,Ok (s.m C) w v → Ok ((s.eff (.grow key t)).m C) w' v:=fun v hv => kp.ok hv
 have hsz:=h.chg.size
 refine ⟨h.size,h.defers,fun t ht => ⟨(h.slot t ht).1,mono _ (h.slot t ht).2⟩,fun t p v he hk => ⟨fun hp => ⟨((h.gs t p v he hk).1 hp).1,mono _ ((h.gs t p v he hk).1 hp).2⟩,(h.gs t p v he hk).2⟩,?_,h.nodup,?_,?_,?_,?_,h.m0,C.K.st kp h.kept⟩
 ·intro k e he
  obtain ⟨h1,h2,h3⟩:=h.mem k e he
  exact ⟨(hb.block _ (lt_of_heap h1)).trans h1,fun v hv => ⟨(h2 v hv).1,mono _ (h2 v hv).2⟩,h3⟩
 ·intro k t' ht'
  rcases lookM_eff ht' with ⟨_,rfl⟩ | ⟨hne,ht'⟩
  ·exact ⟨hk,_,hO.mono hsz⟩
  obtain ⟨h1,xs',h2⟩:=h.gr k t' ht'
  exact ⟨h1,xs',h2.keep fun b hv => hb.block b (h2.lt b hv).2⟩
 ·intro k t' k' e ht' he
  rcases lookM_eff ht' with ⟨_,rfl⟩ | ⟨_,ht'⟩
  ·intro hv
   have:=hlt _ hv
   have:=lt_of_heap (h.mem k' e he).1
   omega
  exact h.sepm k t' k' e ht' he
 ·intro k1 t1 k2 t2 b h1 h2 hne hv hv'
  rcases lookM_eff h1 with ⟨e1,r1⟩ | ⟨e1,g1⟩
  ·rcases lookM_eff h2 with ⟨e2,_⟩ | ⟨e2,g2⟩
   ·exact hne (e1.trans e2.symm)
   obtain ⟨_,xs',ho'⟩:=h.gr k2 t2 g2
   have:=(ho'.lt _ hv').2
   have:=hlt _ (r1 ▸ hv)
   omega
  rcases lookM_eff h2 with ⟨e2,r2⟩ | ⟨e2,g2⟩
  ·obtain ⟨_,xs',ho'⟩:=h.gr k1 t1 g1
   have:=(ho'.lt _ hv).2
   have:=hlt _ (r2 ▸ hv')
   omega
  exact h.sepg k1 t1 k2 t2 b g1 g2 hne hv hv'
 exact h.chg.trans (Chg.of_new (S:=fun _ => False) hb) fun k hk e => e.elim
theorem own_empty {m:Nat → Nat → Prop} {w:World} {B e k:Nat} {A:Option Addr} {c:Nat} {xs:List Value} (h:Own w B e k (.slice A 0 c) 0 xs) (g:Option Nat) (f:Nat → List AV):Ok m w (.sl g A 0 c k f):=by
 obtain ⟨A',c',he,h1,h2⟩:=h.isSlice
 injection he with _ _ e3; subst e3
 exact .sl _ _ _ _ _ _ (Nat.zero_le _) h2 (fun i hi => absurd hi (Nat.not_lt_zero _)) (fun i hi => absurd hi (Nat.not_lt_zero _)) (fun i hi => absurd hi (Nat.not_lt_zero _)) (fun i hi => absurd hi (Nat.not_lt_zero _)) (fun i hi => absurd hi (Nat.not_lt_zero _))
section
variable {C:Cx} {P:Program} {Q:Exit → Act → World → Prop} {ops:Array Oper}
theorem man_fresh2 {s:St} {a:Act} {w:World} {L rest:List Oper} {o:Oper} {c:Call} {f:FuncId} {argv:Array Value} {d:Nat} (hL:L=o :: rest) (hg:o.guard=none) (hop:o.op = .call c) (hcal:c.callee = .value (.func f)) (hdst:o.dst=some d) (h:Fits C s a w) (hav:c.args.map a.eval=argv) (hen:Enters P f) (hd:d < s.nt)
  {e k:Nat} (hk:0 < k) (fc:Nat → List AV) (hc:Calls P f argv w fun en w' => ∃ A' c',en = .returned (.slice A' 0 c') ∧ Own w' w.heap.size e k (.slice A' 0 c') 0 [] ∧ Below w.heap.size w w')
  (K:∀ A' c' a' w',Fits C ((s.eff (.grow d ⟨A',0,c',k,e⟩)).put (some d) (.sl (some d) A' 0 c' k fc)) a' w' → wpList P ops Q rest a' w'):wpList P ops Q L a w:=by
 refine man_op hL hg ?_
 have hrun:(execOp a.eval o).run P w = .ok (.enter f argv) w:=by
  have hent:=hen argv w
  have e1:=(val_ok h (q:=[]) (fun _ h => by cases h) (x:=.func f) rfl).1
  have e2:a.eval (.func f) = .func (.func f) #[] #[]:=by simpa [val,AV.den,AV.denL] using e1
  simp [execOp,hop,resolve,hcal,e2,Deferred.ofValue,invoke,hav]
  simpa using hent
 unfold Oper.wp
 rw [hrun]
 simp only [Oper.upon]
 refine hc.mono ?_
 rintro en w' ⟨A',c',rfl,hO,hb⟩
 have hf:=h.fresh hb d (t:=⟨A',0,c',k,e⟩) hk hO
 rw [hdst]
 refine K A' c' _ w' (hf.put (some d) (fun t ht => ?_) (.sl (some d) A' 0 c' k fc) (fun _ => own_empty hO _ _) _ fun _ => rfl)
 injection ht with ht
 subst ht
 rw [eff_nt]
 exact hd
theorem eval_int {s:St} {a:Act} {w:World} (h:Fits C s a w) {t:Nat} {k:IntKind} {n:Int} (hv:val s [] (.tmp t) = .int k n):a.eval (.tmp t) = .int k n:=by
 have e1:=(val_ok h (q:=[]) (fun _ h => by cases h) (x:=.tmp t) (by rw [hv]; rfl)).1
 rw [hv] at e1
 exact e1
end
section
variable {C:Cx} {P:Program} {Q:Exit → Act → World → Prop} {ops:Array Oper} {s:St} {a:Act} {w:World} {L rest:List Oper} {o:Oper}
theorem man_val {d:Nat} {v:AV} (hL:L=o :: rest) (hg:o.guard=none) (hdst:o.dst=some d) (h:Fits C s a w) (hd:d < s.nt) (hrun:(execOp a.eval o).run P w = .ok (.value v.den) w) (hv:Ok (s.m C) w v)
  (K:∀ a',Fits C (s.put (some d) v) a' w → wpList P ops Q rest a' w):wpList P ops Q L a w:=by
 refine man_op hL hg ?_
 unfold Oper.wp
 rw [hrun]
 simp only [Oper.upon]
 rw [hdst]
 exact K _ (h.put (some d) (fun t ht => by injection ht with ht; subst ht; exact hd) v (fun _ => hv) _ fun _ => rfl)
end
section
variable {C:Cx} {s:St} {a:Act} {w:World}
theorem Fits.reslot (h:Fits C s a w) (d:Nat) (v:AV) (hk:(look s.tmps d).known=true) (hd:(look s.tmps d).den=v.den) (hv:Ok (s.m C) w v):Fits C { s with tmps:=(d,v) :: s.tmps } a w:=by
 refine ⟨h.size,h.defers,fun t ht => ?_,h.gs,h.mem,h.nodup,h.gr,h.sepm,h.sepg,h.chg,h.m0,h.kept⟩
 simp only [look_cons] at ht ⊢
 by_cases he:d=t
 ·subst he
  rw [if_pos rfl] at ht ⊢
  exact ⟨by rw [(h.slot d hk).1,hd],hv⟩
 rw [if_neg he] at ht ⊢
 exact h.slot t ht
end
end Go.Proofs.YtjgnoldondblaaaGreat.Sym
namespace Go.Proofs.YtjgnoldondblaaaGreat.Sym
open Go Go.RowKit
theorem lt_heap {w:World} {b:Nat} {o:Obj} (hb:w.heap[b]? = some o):b < w.heap.size:=(Array.getElem?_eq_some_iff.1 hb).1
structure KeepB (bo:Option Nat) (w:World) (m:Nat → Nat → Prop) (w':World) (m':Nat → Nat → Prop):Prop where
 cell:∀ b o u,w.cell? ⟨b,o,none⟩=some u → ¬ m b o → w'.cell? ⟨b,o,none⟩=some u ∧ ¬ m' b o
 obj:∀ (b:Nat) (o:Obj),bo ≠ some b → w.heap[b]? = some o → (∀ c t f,o ≠ Obj.cells c t f) → w'.heap[b]? = some o
theorem KeepB.ok {bo:Option Nat} {w w':World} {m m':Nat → Nat → Prop} (h:KeepB bo w m w' m') {v:AV} (hv:Ok m w v):Ok m' w' v:=hv.mono h.cell
theorem KeepB.keep {w w':World} {m m':Nat → Nat → Prop} (h:KeepB none w m w' m'):Keep w m w' m':=⟨h.cell,fun b o h1 h2 => h.obj b o (by simp) h1 h2⟩
theorem turn_keepB {w w':World} {m:Nat → Nat → Prop} {b:Nat} {o:Obj} (hb:w.heap[b]? = some o) (ho:∀ c t f,o ≠ Obj.cells c t f) (hg:w.grownBy w' (some b)):KeepB (some b) w m w' m:=by
 refine ⟨fun b' o' u hc hn => ⟨?_,hn⟩,fun b' o' hn h1 _ => (hg.block b' (lt_heap h1) (fun e => hn e.symm)).trans h1⟩
 have hlt:=World.block_lt_of_cell? w _ hc
 have:b' ≠ b:=by
  rintro rfl
  unfold World.cell? at hc
  simp only [hb] at hc
  cases o with
  | cells c t f => exact ho c t f rfl
  | _ => simp at hc
 unfold World.cell? at hc ⊢
 rw [show w'.heap[b']? = w.heap[b']? from hg.block b' hlt fun e => this (Option.some.inj e)]; exact hc
section
variable {m0:Nat → Nat → Prop} {w0:World} {S:Nat → Prop} {ds:List Deferred} {K:Kn} {s:St} {a:Act} {w w':World}
theorem Fits.withK (h:Fits ⟨m0,w0,S,ds,K⟩ s a w) {K':Kn} (hK:K'.p (s.m ⟨m0,w0,S,ds,K⟩) w):Fits ⟨m0,w0,S,ds,K'⟩ s a w:=
 ⟨h.size,h.defers,h.slot,h.gs,h.mem,h.nodup,h.gr,h.sepm,h.sepg,h.chg,h.m0,hK⟩
theorem Fits.wider (h:Fits ⟨m0,w0,S,ds,K⟩ s a w) {S':Nat → Prop} (hS:∀ k,S k → S' k):Fits ⟨m0,w0,S',ds,K⟩ s a w:=
 ⟨h.size,h.defers,h.slot,h.gs,fun k e he => ⟨(h.mem k e he).1,(h.mem k e he).2.1,(h.mem k e he).2.2.imp id (hS _)⟩,h.nodup,h.gr,h.sepm,h.sepg,h.chg.mono hS,h.m0,h.kept⟩
theorem Fits.turn (h:Fits ⟨m0,w0,S,ds,K⟩ s a w) {b:Nat} {o:Obj} (hb:w.heap[b]? = some o) (ho:∀ c t f,o ≠ Obj.cells c t f) (hg:w.grownBy w' (some b)) (hC:b < w0.heap.size → S b) {K':Kn} (hK:K'.p (s.m ⟨m0,w0,S,ds,K⟩) w'):Fits ⟨m0,w0,S,ds,K'⟩ s a w':=by
 have hh:∀ k,k < w.heap.size → k ≠ b → w'.heap[k]? = w.heap[k]?:=fun k hk hn => hg.block k hk (fun e => hn (Option.some.inj e))
 have hne:∀ {k:Nat} {c:Array Value} {t:TypeId} {f:Nat × Nat},w.heap[k]? = some (.cells c t f) → k ≠ b:=by
  rintro k c t f hk rfl
  rw [hb] at hk; exact ho _ _ _ (Option.some.inj hk)
 have h':Fits ⟨m0,w0,S,ds,noK⟩ s a w:=h.withK trivial
 have h'':Fits ⟨m0,w0,S,ds,K'⟩ s a w':=by
  have hcell:=(turn_keepB (m:=s.m ⟨m0,w0,S,ds,K⟩) hb ho hg).cell
  have mono:∀ {v:AV},Ok (s.m ⟨m0,w0,S,ds,K⟩) w v → Ok (s.m ⟨m0,w0,S,ds,K⟩) w' v:=fun hv => hv.mono hcell
  refine ⟨h.size,h.defers,fun t hk => ⟨(h.slot t hk).1,mono (h.slot t hk).2⟩,fun t p v hg hk => ⟨fun hp => ⟨((h.gs t p v hg hk).1 hp).1,mono ((h.gs t p v hg hk).1 hp).2⟩,(h.gs t p v hg hk).2⟩,fun k e he => ?_,h.nodup,fun k t hk => ?_,h.sepm,h.sepg,?_,h.m0,hK⟩
  ·obtain ⟨h1,h2,h3⟩:=h.mem k e he
   exact ⟨(hh _ (lt_heap h1) (hne h1)).trans h1,fun v hv => ⟨(h2 v hv).1,mono (h2 v hv).2⟩,h3⟩
  ·obtain ⟨h1,xs,h2⟩:=h.gr k t hk
   refine ⟨h1,xs,h2.keep fun g hg => ?_⟩
   obtain ⟨c,t',f,hcl⟩:=h2.isCells hg
   exact hh g (lt_heap hcl) (hne hcl)
  exact h.chg.trans (Chg.of_grown hg) fun k hk e => by cases e; exact hC hk
 exact h''
end
theorem below_keep {w w':World} (h:Below w.heap.size w w') (m:Nat → Nat → Prop):Keep w m w' m:=
 ⟨fun b o u h1 h2 => ⟨(h.cell (World.block_lt_of_cell? w _ h1)).trans h1,h2⟩,fun b o h1 _ => (h.block b (lt_heap h1)).trans h1⟩
def hR (v:Value):Option (DataW Value × List MemPlace):=some (.held v,[])
abbrev MapW (P:Program) (K:TypeId) (w:World) (b n:Nat) (D:DataW Value):Prop:=w.ownsMap P K hR b n D
theorem mapW_heap {P:Program} {K:TypeId} {w w':World} {b n:Nat} {D:DataW Value} (h:MapW P K w b n D) (e:w'.heap[b]? = w.heap[b]?):MapW P K w' b n D:=by
 obtain ⟨es,cl,hb,F,hs,hD⟩:=h
 exact ⟨es,cl,e.trans hb,F,hs,hD⟩
theorem mapW_obj {P:Program} {K:TypeId} {w:World} {b n:Nat} {D:DataW Value} (h:MapW P K w b n D):∃ o,w.heap[b]? = some o ∧ ∀ c t f,o ≠ Obj.cells c t f:=by
 obtain ⟨es,cl,hb,_⟩:=h
 exact ⟨_,hb,fun c t f e => by cases e⟩
theorem mapW_keepB {P:Program} {K:TypeId} {w w':World} {m m':Nat → Nat → Prop} {b n:Nat} {bo:Option Nat} {D:DataW Value} (hk:KeepB bo w m w' m') (hne:bo ≠ some b) (h:MapW P K w b n D):MapW P K w' b n D:=by
 obtain ⟨o,hb,ho⟩:=mapW_obj h
 exact mapW_heap h ((hk.obj b o hne hb ho).trans hb.symm)
theorem mapW_keep {P:Program} {K:TypeId} {w w':World} {m m':Nat → Nat → Prop} {b n:Nat} {D:DataW Value} (hk:Keep w m w' m') (h:MapW P K w b n D):MapW P K w' b n D:=
 mapW_keepB (bo:=none) ⟨hk.cell,fun b o _ h1 h2 => hk.obj b o h1 h2⟩ (by simp) h
theorem ranges_keep {P:Program} {k:TypeId} {w w':World} {m m':Nat → Nat → Prop} {b r n:Nat} {D:DataW Value} {left:Lit → Bool} {cnt:Nat} (hk:Keep w m w' m') (h:w.ranges P k hR b r n D left cnt):w'.ranges P k hR b r n D left cnt:=by
 obtain ⟨es,clock,since,seen,c0,hb,F,hs,hD,hr,rest⟩:=h
 exact ⟨es,clock,since,seen,c0,hk.obj b _ hb (fun c t f e => by cases e),F,hs,hD,hk.obj r _ hr (fun c t f e => by cases e),rest⟩
structure EntryAt (P:Program) (w:World) (r:Nat) (key v:Value):Prop where
 it:∃ b s seen c es cl,w.heap[r]? = some (.mapIter (some b) s seen c) ∧ w.heap[b]? = some (.map es cl)
 run:(Instr.entry (.pointer (some ⟨r,0,none⟩))).run P w = .ok (.tuple #[key,v]) w
theorem entry_keep {P:Program} {w w':World} {m m':Nat → Nat → Prop} {r:Nat} {key v:Value} (hk:Keep w m w' m') (h:EntryAt P w r key v):EntryAt P w' r key v:=by
 obtain ⟨⟨b,s,seen,c,es,cl,hr,hb⟩,hrun⟩:=h
 have hr':=hk.obj r _ hr (fun c t f e => by cases e)
 have hb':=hk.obj b _ hb (fun c t f e => by cases e)
 refine ⟨⟨b,s,seen,c,es,cl,hr',hb'⟩,?_⟩
 simp only [Instr.entry,getObj,Sem.run_bind,Sem.run,hr,Result.andThen] at hrun
 simp only [Instr.entry,getObj,Sem.run_bind,Sem.run,hr',Result.andThen]
 revert hrun
 cases seen.back? with
 | none => intro hrun; simp_all
 | some x =>
  simp only [getObj,Sem.run_bind,Sem.run,hb,hb',Result.andThen]
  by_cases hc:(cl != c)=true
  ·simp only [if_pos hc]
   intro hrun
   simp_all
  simp only [if_neg hc]
  cases Array.find? (fun x_1 => x_1.born == x) es with
  | none => intro hrun; simp_all
  | some e =>
   intro hrun
   simp_all
structure LeftS (bo:Option Nat) (m:Nat → Nat → Prop) (w w':World) (pre:List (Nat × Blk)) (sets:List (Nat × List AV)) (news:List (Nat × Blk)):Prop where
 keys:sets.map (·.1)=pre.map (·.1)
 heap:∀ e ∈ upd pre sets ++ news,w'.heap[e.2.at_]? = some (.cells (e.2.cells.map AV.den).toArray e.2.ty (0,0))
 ok:∀ e ∈ upd pre sets ++ news,∀ v ∈ e.2.cells,v.one=true ∧ Ok (mN m news) w' v
 fresh:∀ e ∈ news,w.heap.size ≤ e.2.at_
 dist:news.Pairwise fun e f => e.2.at_ ≠ f.2.at_
 chg:Chg (fun k => ats pre k ∨ bo=some k) w w'
def SpecM (P:Program) (f:FuncId) (args:List AV) (pre:List (Nat × Blk)) (bo:Option Nat) (I:Kn) (res:Atom → CR) (J:Nat → Atom → Kn):Prop:=
 ∀ (m:Nat → Nat → Prop) (w:World),(∀ b o,m b o → b < w.heap.size) → (∀ v ∈ args,Ok m w v) → PreOk m w pre → I.p m w →
  Calls P f (args.map AV.den).toArray w fun e w' => ∃ x,e = .returned (res x).v.den ∧ Ok (mN m (res x).news) w' (res x).v ∧ LeftS bo m w w' pre (res x).sets (res x).news ∧ (∀ b,bo=some b → ∃ es cl es' cl',w.heap[b]? = some (.map es cl) ∧ w'.heap[b]? = some (.map es' cl')) ∧ (J w.heap.size x).p (mN m (res x).news) w'
open Go.MapKept Go.ChangeMaps in
theorem LeftS.mid {b:Nat} {m:Nat → Nat → Prop} {w w':World} {pre:List (Nat × Blk)} {sets:List (Nat × List AV)} {news:List (Nat × Blk)} (h:LeftS (some b) m w w' pre sets news) {es es':Array MapEntry} {cl cl':Nat} (hb:w.heap[b]? = some (.map es cl)) (hb':w'.heap[b]? = some (.map es' cl')) :
  ∃ w1,w.mapTurned w1 b ∧ Left m w1 w' pre sets news:=by
 refine ⟨setBlock w b (.map es' cl'),⟨es,cl,es',cl',hb,rfl⟩,h.keys,h.heap,h.ok,fun e he => ?_,h.dist,?_⟩
 ·have:=h.fresh e he
  simpa [setBlock] using this
 refine ⟨h.chg.os,h.chg.tape,h.chg.output,by have:=h.chg.size; simpa [setBlock] using this,fun k hk hn => ?_⟩
 by_cases hkb:k=b
 ·subst hkb; rw [hb',heap_setBlock_same hb]
 rw [heap_setBlock_other hb _ hkb]
 refine h.chg.block k (by simpa [setBlock] using hk) ?_
 rintro (h1 | h1)
 ·exact hn h1
 injection h1 with h1; exact hkb h1.symm
theorem LeftS.plain {m:Nat → Nat → Prop} {w w':World} {pre:List (Nat × Blk)} {sets:List (Nat × List AV)} {news:List (Nat × Blk)} (h:LeftS none m w w' pre sets news):Left m w w' pre sets news:=
 ⟨h.keys,h.heap,h.ok,h.fresh,h.dist,h.chg.mono fun k hk => hk.resolve_right (by simp)⟩
theorem LeftS.keepB {bo:Option Nat} {m:Nat → Nat → Prop} {w w':World} {pre:List (Nat × Blk)} {sets:List (Nat × List AV)} {news:List (Nat × Blk)} (h:LeftS bo m w w' pre sets news) (hp:PreOk m w pre) (hmap:∀ b,bo=some b → ∃ es cl,w.heap[b]? = some (.map es cl)):KeepB bo w m w' (mN m news):=by
 refine ⟨fun b o u hc hn => ?_,fun b o hn h1 h2 => ?_⟩
 ·have hlt:=World.block_lt_of_cell? w _ hc
  refine ⟨?_,fun hm => ?_⟩
  ·have:w'.heap[b]? = w.heap[b]?:=h.chg.block b hlt (by
    rintro (⟨e,he,rfl⟩ | h1)
    ·exact hn (hp.free e he o)
    obtain ⟨es,cl,h2⟩:=hmap b h1
    unfold World.cell? at hc
    simp [h2] at hc)
   unfold World.cell? at hc ⊢
   rw [this]; exact hc
  rcases hm with hm | ⟨e,he,rfl⟩
  ·exact hn hm
  exact absurd (h.fresh e he) (Nat.not_le.2 hlt)
 rw [h.chg.block b (lt_heap h1) ?_]
 ·exact h1
 rintro (⟨e,he,rfl⟩ | h3)
 ·rw [hp.heap e he] at h1
  exact h2 _ _ _ (Option.some.inj h1).symm
 exact hn h3
theorem called_keep {C:Cx} {s:St} {w':World} {pre:List (Nat × Blk)} (hp:∀ e ∈ pre,lookM s.mem e.1=some e.2) {sets:List (Nat × List AV)} {news:List (Nat × Blk)} (d:Option Nat) (v:AV):Keep w' (mN (s.m C) news) w' (((s.eff (.sets (upd pre sets ++ news))).put d v).m C):=by
 refine ⟨fun b o u h1 hn => ⟨h1,fun hm => ?_⟩,fun _ _ h _ => h⟩
 have hm':(s.eff (.sets (upd pre sets ++ news))).m C b o:=by cases d<;>exact hm
 rcases hm' with hm | ⟨k,e,he,hm⟩ | hm
 ·exact hn (.inl (.inl hm))
 ·have he':lookM (setsM (upd pre sets ++ news) s.mem) k=some e:=he
  rw [lookM_setsM] at he'
  cases hk:lookM (upd pre sets ++ news) k with
  | some e' =>
   rw [hk] at he'
   simp only [Option.some_or,Option.some.injEq] at he'
   subst he'
   rcases List.mem_append.1 (lookM_mem hk) with he | he
   ·obtain ⟨e1,g1,g2,g3,_⟩:=upd_mem he
    simp only at g3
    exact hn (.inl (.inr (.inl ⟨e1.1,e1.2,hp e1 g1,g3.trans hm⟩)))
   exact hn (.inr ⟨_,he,hm⟩)
  | none =>
   rw [hk] at he'
   exact hn (.inl (.inr (.inl ⟨k,e,by simpa using he',hm⟩)))
 exact hn (.inl (.inr (.inr hm)))
section
variable {m0:Nat → Nat → Prop} {w0:World} {S:Nat → Prop} {ds:List Deferred} {K:Kn} {P:Program} {Q:Exit → Act → World → Prop} {T:List (Nat × TI)} {ops:Array Oper}
theorem man_callM {s:St} {a:Act} {w:World} {L rest:List Oper} {o:Oper} {c:Call} {g:Operand} {f:FuncId} {l r args args':List AV} (hL:L=o :: rest) (hg:o.guard=none) (hop:o.op = .call c) (hcal:c.callee = .value g) (h:Fits ⟨m0,w0,S,ds,K⟩ s a w) (hgv:val s [] g = .fn f l r) (hl:vals s [] c.args.toList=some args) (hen:Enters P f)
  {pre:List (Nat × Blk)} {bo:Option Nat} {I:Kn} {res:Atom → CR} {J:Nat → Atom → Kn} (hsp:SpecM P f args' pre bo I res J) (hI:∀ m w,K.p m w → I.p m w) (hC:∀ b,bo=some b → b < w0.heap.size → S b) (hsim:SimL (l ++ args ++ r) args') (hpre:∀ e ∈ pre,lookM s.mem e.1=some e.2) (hnd:nodupB pre=true) (hd:inNt s o.dst=true)
  (K':Atom → Kn) (hK':∀ n x m w m' w',w0.heap.size ≤ n → K.p m w → KeepB bo w m w' m' → (J n x).p m' w' → (K' x).p m' w')
  (Kc:∀ x a' w',Fits ⟨m0,w0,S,ds,K' x⟩ ((s.eff (.sets (upd pre (res x).sets ++ (res x).news))).put o.dst (res x).v) a' w' → wpList P ops Q rest a' w'):wpList P ops Q L a w:=by
 refine man_op hL hg ?_
 obtain ⟨hrun,hok⟩:=call_run hop hcal h hgv hl hen
 have hdist:=nodup_dist h hnd hpre
 unfold Oper.wp
 rw [hrun]
 simp only [Oper.upon]
 have hpo:PreOk (s.m ⟨m0,w0,S,ds,K⟩) w pre:=⟨fun e he => (h.mem _ _ (hpre e he)).1,fun e he => (h.mem _ _ (hpre e he)).2.1,fun e he o => .inr (.inl ⟨e.1,e.2,hpre e he,rfl⟩),hdist⟩
 have:=hsp (s.m ⟨m0,w0,S,ds,K⟩) w (m_lt h) (hsim.ok hok) hpo (hI _ _ h.kept)
 rw [← hsim.map] at this
 refine this.mono ?_
 rintro e w' ⟨x,rfl,g1,g2,g3,g4⟩
 have hkb:=g2.keepB hpo (fun b hb => by obtain ⟨es,cl,_,_,h1,_⟩:=g3 b hb; exact ⟨es,cl,h1⟩)
 have hkn:=(K' x).st (called_keep (C:=⟨m0,w0,S,ds,K⟩) (w':=w') hpre (sets:=(res x).sets) (news:=(res x).news) o.dst (res x).v) (hK' _ x _ _ _ _ h.chg.size h.kept hkb g4)
 have h':Fits ⟨m0,w0,S,ds,noK⟩ s a w:=h.withK trivial
 have fin:∀ w1,Fits ⟨m0,w0,S,ds,noK⟩ s a w1 → Left (s.m ⟨m0,w0,S,ds,noK⟩) w1 w' pre (res x).sets (res x).news → wpList P ops Q rest (a.put o.dst (res x).v.den) w':=by
  intro w1 hf hl'
  obtain ⟨f1,f2⟩:=hf.called hdist hpre hl'
  refine Kc x _ w' (Fits.withK (K:=noK) (f1.put o.dst (fun t ht => by rw [eff_nt]; exact inNt_lt hd t ht) (res x).v (fun _ => f2 _ g1) _ fun _ => rfl) hkn)
 cases bo with
 | none => exact fin w h' g2.plain
 | some b =>
  obtain ⟨es,cl,es',cl',h1,h2⟩:=g3 b rfl
  obtain ⟨w1,ht,hl'⟩:=g2.mid h1 h2
  have hgr:=ht.grown
  exact fin w1 (h'.turn h1 (fun c t f e => by cases e) hgr (hC b rfl) trivial) hl'
theorem left_okS {bo:Option Nat} {m:Nat → Nat → Prop} {w0 w:World} {pre:List (Nat × Blk)} {d:List Deferred} {s:St} {a:Act} (h:Fits ⟨m,w0,fun k => ats pre k ∨ bo=some k,d,K⟩ s a w) (hmap:∀ b,bo=some b → ∃ es cl,w.heap[b]? = some (.map es cl)) {sets:List (Nat × List AV)} {news:List (Nat × Blk)} {ks:List Nat} (hs:SetsOk s pre sets) (hn:NewsOk s pre ks news) :
  LeftS bo m w0 w pre sets news ∧ Keep w (s.m ⟨m,w0,fun k => ats pre k ∨ bo=some k,d,K⟩) w (mN m news):=by
 have kp:Keep w (s.m ⟨m,w0,fun k => ats pre k ∨ bo=some k,d,K⟩) w (mN m news):=⟨fun b' o u h1 h2 => ⟨h1,fun hm => by
  rcases hm with hm | ⟨e,he,hat⟩
  ·exact h2 (.inl hm)
  obtain ⟨k,cells,_,hk,_⟩:=hn.mem e he
  exact h2 (.inr (.inl ⟨k,_,hk,hat⟩))⟩,fun _ _ h _ => h⟩
 have key:∀ e ∈ upd pre sets ++ news,∃ k cells,lookM s.mem k=some ⟨e.2.at_,e.2.ty,cells⟩ ∧ SimL cells e.2.cells:=by
  intro e he
  rcases List.mem_append.1 he with he | he
  ·obtain ⟨cells,h1,h2⟩:=hs.mem e he; exact ⟨_,cells,h1,h2⟩
  obtain ⟨k,cells,_,h1,h2,_⟩:=hn.mem e he; exact ⟨k,cells,h1,h2⟩
 refine ⟨⟨hs.keys,fun e he => ?_,fun e he v hv => ?_,fun e he => ?_,?_,h.chg⟩,kp⟩
 ·obtain ⟨k,cells,h1,h2⟩:=key e he
  have:=(h.mem _ _ h1).1
  simp only at this
  rw [h2.map] at this
  exact this
 ·obtain ⟨k,cells,h1,h2⟩:=key e he
  have h3:=(h.mem _ _ h1).2.1
  exact ⟨h2.one (fun v hv => (h3 v hv).1) v hv,h2.ok (fun v hv => kp.ok (h3 v hv).2) v hv⟩
 ·obtain ⟨k,cells,_,h1,_,h2⟩:=hn.mem e he
  rcases (h.mem _ _ h1).2.2 with h3 | ⟨e',he',hat⟩ | h3
  ·exact h3
  ·obtain ⟨cells',h4⟩:=hs.all e' he'
   have:=h.nodup _ _ _ _ h4 h1 (h2 e' he')
   exact absurd hat this
  obtain ⟨es,cl,h4⟩:=hmap _ h3
  have h5:=(h.mem _ _ h1).1
  simp only at h5
  rw [h4] at h5; cases h5
 exact hn.dist h
theorem ret_m (hT:TabOK P T) {bo:Option Nat} {m:Nat → Nat → Prop} {w0:World} {pre:List (Nat × Blk)} {s:St} {a:Act} {w:World} (h:Fits ⟨m,w0,fun k => ats pre k ∨ bo=some k,[],K⟩ s a w) {fn:Func} {res:Atom → CR} {J:Atom → Kn} {rs:List ResultVar} (hfn:fn.results=rs.toArray) {r:List AV × List Ob} (hr:resL T s rs=some r) (ho:AO P K r.2)
  (x:Atom) (ks:List Nat) (hmap:∀ b,bo=some b → (∃ es cl,w0.heap[b]? = some (.map es cl)) ∧ ∀ m,K.p m w → ∃ es cl,w.heap[b]? = some (.map es cl)) (he:Sim (can (resA r.1)) (can (res x).v)) (hs:SetsOk s pre (res x).sets) (hn:NewsOk s pre ks (res x).news) (hJ:∀ m w,K.p m w → (J x).p m w) :
  let R:=fun e w' => ∃ x,e=Ending.returned (res x).v.den ∧ Ok (mN m (res x).news) w' (res x).v ∧ LeftS bo m w0 w' pre (res x).sets (res x).news ∧ (∀ b,bo=some b → ∃ es cl es' cl',w0.heap[b]? = some (.map es cl) ∧ w'.heap[b]? = some (.map es' cl')) ∧ (J x).p (mN m (res x).news) w'
  bodyPost P fn R .ret a w ∧ bodyPost P fn R .normal a w:=by
 intro R
 obtain ⟨h1,h2⟩:=left_okS h (fun b hb => (hmap b hb).2 _ h.kept) hs hn
 refine ret_ok hT h rfl hfn hr ho fun hv => ⟨x,?_,(can_ok _).2 (he.2.2 _ _ ((can_ok _).1 (h2.ok hv))),h1,fun b hb => ?_,hJ _ _ (K.st h2 h.kept)⟩
 ·rw [← can_den (resA r.1),he.1,can_den]
 obtain ⟨⟨es,cl,h3⟩,h4⟩:=hmap b hb
 obtain ⟨es',cl',h4⟩:=h4 _ h.kept
 exact ⟨_,_,_,_,h3,h4⟩
theorem enterM {bo:Option Nat} {I:Kn} {m:Nat → Nat → Prop} {w:World} {pre:List (Nat × Blk)} (hm:∀ b o,m b o → b < w.heap.size) (hp:PreOk m w pre) (hI:I.p m w) {args:List AV} (hargs:∀ v ∈ args,Ok m w v) {f:FuncId} {fn:Func} {c:Code} {R:Ending → World → Prop} (hf:P.funcs[f]? = some fn) (hbd:fn.body=some c) (hn:args.length ≤ fn.ntmps)
  (h:∀ a,Fits ⟨m,w,fun k => ats pre k ∨ bo=some k,[],I⟩ ⟨fn.ntmps,startT 0 args,[],pre,[]⟩ a w → c.wp P (bodyPost P fn R) a w):Calls P f (args.map AV.den).toArray w R:=
 enterX hm hp hargs hf hbd hn fun a hF => h a ((hF.wider fun k hk => .inl hk).withK (I.st ⟨fun b o u h1 h2 => ⟨h1,fun hm' => by
  rcases hm' with h3 | ⟨k,e,he,hat⟩ | ⟨k,e,he,_⟩
  ·exact h2 h3
  ·exact h2 (hat ▸ hp.free _ (lookM_mem he) o)
  cases he⟩,fun _ _ h _ => h⟩ hI))
theorem enterR {I:Kn} {m:Nat → Nat → Prop} {w:World} {pre:List (Nat × Blk)} (hm:∀ b o,m b o → b < w.heap.size) (hp:PreOk m w pre) (hI:I.p m w) {args:List AV} (hargs:∀ v ∈ args,Ok m w v) {f:FuncId} {fn:Func} {c:Code} {R:Ending → World → Prop} (hf:P.funcs[f]? = some fn) (hbd:fn.body=some c) (hn:args.length ≤ fn.ntmps)
  (h:∀ a,Fits ⟨m,w,ats pre,[],I⟩ ⟨fn.ntmps,startT 0 args,[],pre,[]⟩ a w → c.wp P (bodyPost P fn R) a w):Calls P f (args.map AV.den).toArray w R:=
 enterX hm hp hargs hf hbd hn fun a hF => h a (hF.withK (I.st ⟨fun b o u h1 h2 => ⟨h1,fun hm' => by
  rcases hm' with h3 | ⟨k,e,he,hat⟩ | ⟨k,e,he,_⟩
  ·exact h2 h3
  ·exact h2 (hat ▸ hp.free _ (lookM_mem he) o)
  cases he⟩,fun _ _ h _ => h⟩ hI))
theorem upd_self:∀ pre:List (Nat × Blk),upd pre (pre.map fun e => (e.1,e.2.cells))=pre
 | [] => rfl
 | (k,b) :: l => by simp only [List.map_cons,upd,upd_self l]
theorem SpecR.of {f:FuncId} {args:List AV} {pre:List (Nat × Blk)} {res:Atom → AV} {I:Kn} (h:∀ (m:Nat → Nat → Prop) (w:World),(∀ b o,m b o → b < w.heap.size) → (∀ v ∈ args,Ok m w v) → PreOk m w pre → I.p m w → Calls P f (args.map AV.den).toArray w (XPost m w pre fun x => ⟨res x,pre.map fun e => (e.1,e.2.cells),[]⟩)):SpecR P I f args pre res:=by
 intro m w hm ha hp hI
 refine (h m w hm ha hp hI).mono ?_
 rintro e w' ⟨x,rfl,hok,hl⟩
 refine ⟨x,rfl,hok.mono fun b o u h1 h2 => ⟨h1,fun h => h2 (.inl h)⟩,?_⟩
 refine ⟨hl.chg.os,hl.chg.tape,hl.chg.output,hl.chg.size,fun k hk => ?_⟩
 by_cases hat:ats pre k
 ·obtain ⟨e,he,rfl⟩:=hat
  rw [hp.heap e he]
  exact hl.heap e (List.mem_append_left _ (by rw [upd_self]; exact he))
 exact hl.chg.block k hk hat
variable {C:Cx} {s:St} {a:Act} {w:World} {L rest:List Oper} {o:Oper}
open Go.Maps in
theorem lookup_run {m x:Operand} {t k e:TypeId} {b n:Nat} {D:DataW Value} {vx:AV} {kl:Lit} {z:Value} (hop:o.op = .lookup t m x true) (h:Fits C s a w) (hm:val s [] m = .raw (.map (some b))) (hx:val s [] x=vx) (hxk:vx.known=true)
  (K:Keyed P k) (ht:P.underlying t=some (.map k e)) (hz:(zeroValue e).run P w = .ok z w) (hM:MapW P k w b n D) (hkey:Go.keyOf P k vx.den=some kl) {v:AV} (hv:D.atKey kl (.held z) = .held v.den) :
  (execOp a.eval o).run P w = .ok (.value (.tuple #[v.den,.bool (Maps.has D kl)])) w:=by
 have hmv:=(val_ok h (q:=[]) (fun _ h => by cases h) (x:=m) (by rw [hm]; rfl)).1
 have hxv:=(val_ok h (q:=[]) (fun _ h => by cases h) (x:=x) (by rw [hx]; exact hxk)).1
 rw [hm] at hmv
 rw [hx] at hxv
 obtain ⟨v',ps,hrun,hv'⟩:=hM.look_ok K ht hz (zd:=.held z) (zp:=[]) rfl hkey
 have e1:v'=v.den:=by
  unfold hR at hv'
  injection hv' with h1
  injection h1 with h1 _
  rw [hv] at h1
  injection h1
 subst e1
 simp [execOp,hop,hmv,hxv,hrun,Result.andThen,AV.den]
theorem man_mlen {m:Operand} {t k e:TypeId} {d b n:Nat} {D:DataW Value} {c:Call} (hL:L=o :: rest) (hg:o.guard=none) (hop:o.op = .call c) (hc1:c.callee = .builtin .len) (hc2:c.args = #[m]) (hc3:c.argTypes = #[t]) (hdst:o.dst=some d) (h:Fits C s a w) (hd:d < s.nt) (hm:val s [] m = .raw (.map (some b)))
  (ht:P.underlying t=some (.map k e)) (hM:MapW P k w b n D) (K':∀ a',Fits C (s.put (some d) (.int .i64 (Maps.size D:Int))) a' w → wpList P ops Q rest a' w):wpList P ops Q L a w:=by
 have hmv:=(val_ok h (q:=[]) (fun _ h => by cases h) (x:=m) (by rw [hm]; rfl)).1
 rw [hm] at hmv
 have hrun:=hM.len ht o.type
 refine man_val hL hg hdst h hd (v:=.int .i64 (Maps.size D:Int)) ?_ (.int _ _) K'
 simp [execOp,hop,hc1,hc2,hc3,resolve,invoke,builtin,hmv,hrun,Result.andThen,AV.den]
open Go.Maps in
theorem man_mapUpdate {m x y:Operand} {t k e:TypeId} {b n:Nat} {D:DataW Value} {vx vy:AV} {kl:Lit} (hL:L=o :: rest) (hg:o.guard=none) (hop:o.op = .mapUpdate t m x y) (hdst:o.dst=none) (h:Fits ⟨m0,w0,S,ds,K⟩ s a w) (hm:val s [] m = .raw (.map (some b))) (hx:val s [] x=vx) (hxk:vx.known=true) (hy:val s [] y=vy) (hyk:vy.known=true)
  (Kd:Keyed P k) (ht:P.underlying t=some (.map k e)) (hM:MapW P k w b n D) (hn:n < maxLen) (hkey:Go.keyOf P k vx.den=some kl) (hC:b < w0.heap.size → S b)
  (K1:Kn) (hK1:∀ m w',K.p m w → KeepB (some b) w m w' m → Ok m w vy → MapW P k w' b (n + 1) (D.put kl (.held vy.den)) → K1.p m w')
  (K':∀ w',Fits ⟨m0,w0,S,ds,K1⟩ s a w' → wpList P ops Q rest a w'):wpList P ops Q L a w:=by
 have hmv:=(val_ok h (q:=[]) (fun _ h => by cases h) (x:=m) (by rw [hm]; rfl)).1
 have hxv:=(val_ok h (q:=[]) (fun _ h => by cases h) (x:=x) (by rw [hx]; exact hxk)).1
 have hyv:=val_ok h (q:=[]) (fun _ h => by cases h) (x:=y) (by rw [hy]; exact hyk)
 rw [hm] at hmv
 rw [hx] at hxv
 rw [hy] at hyv
 obtain ⟨w',hrun,h1,h2⟩:=hM.store Kd ht hn hkey (show hR vy.den=some (.held vy.den,[]) from rfl)
 obtain ⟨ob,hb,hno⟩:=mapW_obj hM
 refine man_op hL hg ?_
 refine wp_skip' (w':=w') ?_ ?_
 ·simp [execOp,hop,hmv,hxv,hyv.1,hrun,Result.andThen,AV.den]
 rw [hdst]
 exact K' w' (h.turn hb hno h2.grown hC (hK1 _ _ h.kept (turn_keepB hb hno h2.grown) hyv.2 h1))
open Go.MapKept in
theorem man_makeMap {t k e:TypeId} {d:Nat} (hL:L=o :: rest) (hg:o.guard=none) (hop:o.op = .makeMap t none) (hdst:o.dst=some d) (h:Fits ⟨m0,w0,S,ds,K⟩ s a w) (hd:d < s.nt)
  (K1:Kn) (hK1:∀ m w',K.p m w → Keep w m w' m → MapW P k w' w.heap.size 0 (.map []) → K1.p m w')
  (K':∀ a' w',w0.heap.size ≤ w.heap.size → Fits ⟨m0,w0,S,ds,K1⟩ (s.put (some d) (.raw (.map (some w.heap.size)))) a' w' → wpList P ops Q rest a' w'):wpList P ops Q L a w:=by
 refine man_op hL hg ?_
 unfold Oper.wp
 have e1:(execOp a.eval o).run P w = .ok (.value (.map (some w.heap.size))) (w.alloc (.map #[] 0)):=by
  simp [execOp,hop,run_makeMap,Result.andThen]
 rw [e1]
 simp only [Oper.upon]
 rw [hdst]
 have hb:Below w.heap.size w (w.alloc (.map #[] 0)):=(Below.refl _ _).alloc (Nat.le_refl _) _
 refine K' _ _ h.chg.size ?_
 have h2:=((h.below hb).withK (K':=K1) (hK1 _ _ h.kept (below_keep hb _) (World.ownsMap_made _ _ _ _)))
 exact h2.put (some d) (fun t ht => by injection ht with ht; subst ht; exact hd) (.raw (.map (some w.heap.size))) (fun _ => .raw _) _ fun _ => rfl
open Go.Maps in
theorem man_range {m:Operand} {t k e:TypeId} {d b n:Nat} {D:DataW Value} (hL:L=o :: rest) (hg:o.guard=none) (hop:o.op = .range t m) (hdst:o.dst=some d) (h:Fits ⟨m0,w0,S,ds,K⟩ s a w) (hd:d < s.nt) (hm:val s [] m = .raw (.map (some b)))
  (Kd:Keyed P k) (ht:P.underlying t=some (.map k e)) (hM:MapW P k w b n D)
  (K1:Kn) (hK1:∀ m w',K.p m w → Keep w m w' m → w'.ranges P k hR b w.heap.size n D (Maps.has D) (Maps.size D) → K1.p m w')
  (K':∀ a' w',w0.heap.size ≤ w.heap.size → Fits ⟨m0,w0,S,ds,K1⟩ (s.put (some d) (.raw (.pointer (some ⟨w.heap.size,0,none⟩)))) a' w' → wpList P ops Q rest a' w'):wpList P ops Q L a w:=by
 have hmv:=(val_ok h (q:=[]) (fun _ h => by cases h) (x:=m) (by rw [hm]; rfl)).1
 rw [hm] at hmv
 obtain ⟨w',hrun,r1,r2,r3⟩:=hM.range Kd ht
 refine man_op hL hg ?_
 unfold Oper.wp
 have e1:(execOp a.eval o).run P w = .ok (.value (.pointer (some ⟨w.heap.size,0,none⟩))) w':=by
  simp [execOp,hop,hmv,hrun,Result.andThen,AV.den]
 rw [e1]
 simp only [Oper.upon]
 rw [hdst]
 have hb:Below w.heap.size w w':=⟨r2.os,r2.tape,r2.output,r2.size,fun k hk => r2.block k hk (by simp)⟩
 refine K' _ _ h.chg.size ?_
 have h2:=((h.below hb).withK (K':=K1) (hK1 _ _ h.kept (below_keep hb _) r1))
 exact h2.put (some d) (fun t ht => by injection ht with ht; subst ht; exact hd) (.raw (.pointer (some ⟨w.heap.size,0,none⟩))) (fun _ => .raw _) _ fun _ => rfl
theorem man_entry {it:Operand} {d r:Nat} {vk vv:AV} (hL:L=o :: rest) (hg:o.guard=none) (hop:o.op = .entry it) (hdst:o.dst=some d) (h:Fits C s a w) (hd:d < s.nt) (hit:val s [] it = .raw (.pointer (some ⟨r,0,none⟩)))
  (hE:EntryAt P w r vk.den vv.den) (hk:Ok (s.m C) w vk) (hv:Ok (s.m C) w vv)
  (K':∀ a',Fits C (s.put (some d) (.tup [vk,vv])) a' w → wpList P ops Q rest a' w):wpList P ops Q L a w:=by
 have hiv:=(val_ok h (q:=[]) (fun _ h => by cases h) (x:=it) (by rw [hit]; rfl)).1
 rw [hit] at hiv
 refine man_val hL hg hdst h hd (v:=.tup [vk,vv]) ?_ (.tup _ fun u hu => ?_) K'
 ·simp [execOp,hop,hiv,hE.run,Result.andThen,AV.den,AV.denL]
 simp only [List.mem_cons,List.not_mem_nil,or_false] at hu
 rcases hu with rfl | rfl
 ·exact hk
 exact hv
theorem loop_any {ι : Type} (I:ι → Act → World → Prop) (J:ι → Prop) (μ : ι → Nat) {c:Code} {a:Act} {w:World} (p₀:ι) (h₀:J p₀) (hf:I p₀ a w)
  (round:∀ p,J p → ∀ a w,I p a w → c.wp P (Exit.then (fun a' w' => ∃ p',J p' ∧ μ p' < μ p ∧ I p' a' w') Q) a w):(Code.loop c).wp P Q a w:=by
 intro b k fs
 have key:∀ n p a w,μ p=n → J p → I p a w →
   ∃ e a' w',Q e a' w' ∧ Arrives P (lone (b.at a (.code c :: .inLoop c :: k)) fs w) b k fs e a' w':=by
  intro n
  induction n using Nat.strongRecOn with
  | _ n ih =>
   intro p a w hn hJ hF
   obtain ⟨e,a₁,w₁,hq,harr⟩:=round p hJ a w hF b (.inLoop c :: k) fs
   cases e with
   | normal =>
    obtain ⟨p',hJ',hlt,hF'⟩:=hq
    obtain ⟨e₂,a₂,w₂,hq₂,harr₂⟩:=ih (μ p') (hn ▸ hlt) p' a₁ w₁ rfl hJ' hF'
    exact ⟨e₂,a₂,w₂,hq₂,.of_steps (Steps.trans harr (.one step_inLoop)) harr₂⟩
   | exit id => exact ⟨_,a₁,w₁,hq,.pass (x:=.inLoop c) rfl (fun _ _ => .inl (by simp)) harr⟩
   | goto l => exact ⟨_,a₁,w₁,hq,.pass (x:=.inLoop c) rfl (fun _ _ => .inl (by simp)) harr⟩
   | ret => exact ⟨_,a₁,w₁,hq,.pass (x:=.inLoop c) rfl (fun _ _ => .inl (by simp)) harr⟩
   | panic ch => exact ⟨_,a₁,w₁,hq,.pass (x:=.inLoop c) rfl (fun _ _ => .inl (by simp)) harr⟩
   | outgrown => exact ⟨_,a₁,w₁,hq,.pass (x:=.inLoop c) rfl (fun _ _ => .inl (by simp)) harr⟩
 obtain ⟨e,a',w',hq,harr⟩:=key _ p₀ a w rfl h₀ hf
 exact ⟨e,a',w',hq,.of_steps (.one step_loop) harr⟩
theorem loop_preK {ι : Type} (Kf:ι → Kn) (Sl:ι → List (Nat × AV)) (M:ι → List (Nat × Blk)) (G:ι → List (Nat × Gr)) (J:ι → Prop) (μ : ι → Nat) {nt:Nat} {rest:List (Nat × AV)} {restm:List (Nat × Blk)} {restg:List (Nat × Gr)} {c:Code} {a:Act} {w:World} (p₀:ι) (h₀:J p₀)
  (hf:Fits ⟨m0,w0,S,ds,Kf p₀⟩ ⟨nt,pre (Sl p₀) rest,[],pre (M p₀) restm,pre (G p₀) restg⟩ a w)
  (round:∀ p,J p → ∀ a w,Fits ⟨m0,w0,S,ds,Kf p⟩ ⟨nt,pre (Sl p) rest,[],pre (M p) restm,pre (G p) restg⟩ a w → c.wp P (Exit.then (fun a' w' => ∃ p',J p' ∧ μ p' < μ p ∧ Fits ⟨m0,w0,S,ds,Kf p'⟩ ⟨nt,pre (Sl p') rest,[],pre (M p') restm,pre (G p') restg⟩ a' w') Q) a w):(Code.loop c).wp P Q a w:=
 loop_any (fun p a w => Fits ⟨m0,w0,S,ds,Kf p⟩ ⟨nt,pre (Sl p) rest,[],pre (M p) restm,pre (G p) restg⟩ a w) J μ p₀ h₀ hf round
end
section
variable {P:Program} {f:FuncId} {fn:Func} {c:Code} {R:Ending → World → Prop} {m:Nat → Nat → Prop} {w:World} {pre:List (Nat × Blk)} {args:List AV} {I:Kn} {bo:Option Nat}
theorem enM (nt:Nat) (hm:∀ b o,m b o → b < w.heap.size) (hp:PreOk m w pre) (hI:I.p m w) (hargs:∀ v ∈ args,Ok m w v) (hf:P.funcs[f]? = some fn) (h:∀ B,B=std → ∀ a,Fits ⟨m,w,fun k => ats pre k ∨ bo=some k,[],I⟩ ⟨nt,startT 0 args,[],pre,[]⟩ a w → c.wp P (bodyPost P fn R) a w) (hb:fn.body=some c:=by rfl) (hnt:fn.ntmps=nt:=by rfl) (hn:args.length ≤ nt:=by exact Nat.le_of_ble_eq_true rfl):Calls P f (args.map AV.den).toArray w R:=
 enterM hm hp hI hargs hf hb (hnt ▸ hn) (by rw [hnt]; exact h std rfl)
theorem enR (nt:Nat) (hm:∀ b o,m b o → b < w.heap.size) (hp:PreOk m w pre) (hI:I.p m w) (hargs:∀ v ∈ args,Ok m w v) (hf:P.funcs[f]? = some fn) (h:∀ B,B=std → ∀ a,Fits ⟨m,w,ats pre,[],I⟩ ⟨nt,startT 0 args,[],pre,[]⟩ a w → c.wp P (bodyPost P fn R) a w) (hb:fn.body=some c:=by rfl) (hnt:fn.ntmps=nt:=by rfl) (hn:args.length ≤ nt:=by exact Nat.le_of_ble_eq_true rfl):Calls P f (args.map AV.den).toArray w R:=
 enterR hm hp hI hargs hf hb (hnt ▸ hn) (by rw [hnt]; exact h std rfl)
end
section
variable {K:Kn} {P:Program} {T:List (Nat × TI)} {s:St} {a:Act} {w:World} {m:Nat → Nat → Prop} {w0:World} {fn:Func} {rs:List ResultVar} {r:List AV × List Ob} {pre:List (Nat × Blk)} {B:Alg} {bo:Option Nat} {res:Atom → CR} {J:Atom → Kn}
theorem rm (hB:B=std) (hT:TabOK P T) (h:Fits ⟨m,w0,fun k => ats pre k ∨ bo=some k,[],K⟩ s a w) (x:Atom) (ks:List Nat) (hfn:fn.results=rs.toArray:=by rfl) (hr:resL T s rs=some r:=by first | rfl | (conv => lhs; cbv)) (ho:AO P K r.2:=by first | exact trivial | (subst hB; simp [AO,Ob.holds]))
  (hmap:∀ b,bo=some b → (∃ es cl,w0.heap[b]? = some (.map es cl)) ∧ ∀ m,K.p m w → ∃ es cl,w.heap[b]? = some (.map es cl):=by intro b hb; cases hb) (he:Sim (can (resA r.1)) (can (res x).v):=by subst hB; exact zr) (hs:SetsOk s pre (res x).sets:=by subst hB; first | exact trivial | exact ⟨rfl,⟨_,rfl,zl⟩,trivial⟩) (hn:NewsOk s pre ks (res x).news:=by exact trivial) (hJ:∀ m w,K.p m w → (J x).p m w:=by exact fun m w h => h) :
  let R:=fun e w' => ∃ x,e=Ending.returned (res x).v.den ∧ Ok (mN m (res x).news) w' (res x).v ∧ LeftS bo m w0 w' pre (res x).sets (res x).news ∧ (∀ b,bo=some b → ∃ es cl es' cl',w0.heap[b]? = some (.map es cl) ∧ w'.heap[b]? = some (.map es' cl')) ∧ (J x).p (mN m (res x).news) w'
  bodyPost P fn R .ret a w ∧ bodyPost P fn R .normal a w:=ret_m hT h hfn hr ho x ks hmap he hs hn hJ
end
abbrev Hand:=Option (Nat × List Operand × List AV × AV)
def delta2 (A:Alg) (T:List (Nat × TI)) (cs:List (Nat × CS)) (H:Hand) (x:Atom) (all:List Oper) (i:Nat) (o:Oper) (s:St):Option (Delta × List Ob × Foot):=
 match H with
 | none => delta A T cs x all i o s
 | some (j,xs,args,v) => if j == i then (match o.guard,vals s [] xs,inNt s o.dst with
   | none,some l,true => some (⟨.no,o.dst,.plain v⟩,[.pr (l=args)],⟨o.dst,tl xs,[],[],[],[],[]⟩)
   | _,_,_ => none) else delta A T cs x all i o s
def HandOK (C:Cx) (P:Program) (all:List Oper) (H:Hand):Prop:=∀ i xs args v,H=some (i,xs,args,v) → ∀ o,all[i]? = some o → ∀ s a w,Fits C s a w → vals s [] xs=some args → (execOp a.eval o).run P w = .ok (.value v.den) w ∧ Ok (s.m C) w v
theorem handOK_none {C:Cx} {P:Program} {all:List Oper}:HandOK C P all none:=fun _ _ _ _ h => by cases h
def exec2 (A:Alg) (T:List (Nat × TI)) (cs:List (Nat × CS)) (H:Hand) (X:Nat → Atom) (all:List Oper):List (Nat × Oper) → St → Option (St × List Ob × List Foot)
 | [],s => some (s,[],[])
 | (i,o) :: l,s => match delta2 A T cs H (X i) all i o s with
  | none => none
  | some (δ,ob,f) => match exec2 A T cs H X all l (s.app δ) with
   | none => none
   | some (s'',ob',fs) => some (s'',ob ++ ob',f :: fs)
section
variable {A:Alg} {T:List (Nat × TI)} {cs:List (Nat × CS)} {H:Hand} {X:Nat → Atom} {all:List Oper}
theorem delta2_foot {x:Atom} {i:Nat} {o:Oper} {s:St} {r:Delta × List Ob × Foot} (h:delta2 A T cs H x all i o s=some r):FootOK r:=by
 unfold delta2 at h
 split at h
 ·exact delta_foot h
 split at h
 ·split at h
  ·injection h with h; subst h
   exact ⟨(fun q v h => by cases h),rfl,(fun k b h => by cases h),(fun k b h => by cases h),(fun q v h => by cases h)⟩
  cases h
 exact delta_foot h
theorem delta2_local {x:Atom} {i:Nat} {o:Oper} {s s':St} {r:Delta × List Ob × Foot} (h:delta2 A T cs H x all i o s=some r) (hU:AgT s s' r.2.2.cons) (hR:AgM s s' r.2.2.rk) (hG:AgR s s' r.2.2.rg) (hn:s.nt=s'.nt):delta2 A T cs H x all i o s'=some r:=by
 unfold delta2 at h ⊢
 split at h
 ·exact delta_local h hU hR hG hn
 split at h
 ·rename_i hj
  rw [if_pos hj]
  split at h
  ·rename_i l hg hv hi
   injection h with h; subst h
   rw [hg,← vals_local hU [] (fun t ht => ht),hv,← inNt_local hn,hi]
  cases h
 rename_i hj
 rw [if_neg hj]
 exact delta_local h hU hR hG hn
theorem exec2_cons {X:Nat → Atom} {i:Nat} {o:Oper} {l:List (Nat × Oper)} {s:St} {r} (hr:exec2 A T cs H X all ((i,o) :: l) s=some r) :
  ∃ δ ob f r',delta2 A T cs H (X i) all i o s=some (δ,ob,f) ∧ exec2 A T cs H X all l (s.app δ)=some r' ∧ r=(r'.1,ob ++ r'.2.1,f :: r'.2.2):=by
 simp only [exec2] at hr
 split at hr
 ·cases hr
 rename_i δ ob f he
 split at hr
 ·cases hr
 rename_i s'' ob' fs he'
 injection hr with hr
 exact ⟨δ,ob,f,_,he,he',hr.symm⟩
theorem exec2_congr {X Y:Nat → Atom}:∀ (l:List (Nat × Oper)) (s:St),(∀ x ∈ l,X x.1=Y x.1) → exec2 A T cs H X all l s=exec2 A T cs H Y all l s
 | [],_,_ => rfl
 | (i,o) :: l,s,h => by
  simp only [exec2]
  rw [h (i,o) (by simp)]
  cases delta2 A T cs H (Y i) all i o s with
  | none => rfl
  | some r => obtain ⟨δ,ob,f⟩:=r; simp only; rw [exec2_congr l _ (fun x hx => h x (by simp [hx]))]
theorem exec2_alike:∀ {l:List (Nat × Oper)} {s s' τ : St} {obs:List Ob} {fs:List Foot},exec2 A T cs H X all l s=some (τ,obs,fs) → Alike s s' → NM s (ds fs) → Ord fs → ∃ τ',exec2 A T cs H X all l s'=some (τ',obs,fs) ∧ Alike τ τ'
 | [],s,s',τ,obs,fs,h,ha,hn,hf => by
  simp only [exec2,Option.some.injEq,Prod.mk.injEq] at h
  obtain ⟨rfl,rfl,rfl⟩:=h
  exact ⟨s',rfl,ha⟩
 | (i,o) :: l,s,s',τ,obs,fs,h,ha,hn,hf => by
  obtain ⟨δ,ob,f,r',h1,h2,h3⟩:=exec2_cons h
  obtain ⟨τ1,obs1,fs1⟩:=r'
  simp only [Prod.mk.injEq] at h3
  obtain ⟨rfl,rfl,rfl⟩:=h3
  have hfo:=delta2_foot h1
  have hd':=delta2_local h1 (s':=s') (fun t _ => ⟨ha.tmps t,ha.gs t⟩) (fun k _ => ha.mem k) (fun k _ => ha.gr k) ha.nt
  have hf':=List.pairwise_cons.1 hf
  obtain ⟨n1,n2⟩:=nm_of hfo (gs:=fs1) hn (by simp) (fun g hg => by simp [hg]) hf'.1
  obtain ⟨τ',e1,e2⟩:=exec2_alike h2 (app_alike hfo.wf ha n1) n2 hf'.2
  exact ⟨τ',by simp only [exec2,hd',e1],e2⟩
theorem moveFront2 {P:Program} {K:Kn} {i:Nat} {o:Oper} {L2:List (Nat × Oper)}:∀ {L1:List (Nat × Oper)} {s τ : St} {obs:List Ob} {fs1:List Foot} {f:Foot} {fs2:List Foot},
  exec2 A T cs H X all (L1 ++ (i,o) :: L2) s=some (τ,obs,fs1 ++ f :: fs2) → fs1.length=L1.length → NM s (ds (fs1 ++ f :: fs2)) → Ord (fs1 ++ f :: fs2) → (∀ g ∈ fs1,comm g f=true) →
  ∃ δ ob,delta2 A T cs H (X i) all i o s=some (δ,ob,f) ∧ ∃ τ' obs',exec2 A T cs H X all (L1 ++ L2) (s.app δ)=some (τ',obs',fs1 ++ fs2) ∧ Alike τ' τ ∧ (AO P K obs → AO P K ob ∧ AO P K obs')
 | [],s,τ,obs,fs1,f,fs2,h,hl,hn,hF,hc => by
  have:fs1=[]:=List.eq_nil_of_length_eq_zero hl
  subst this
  obtain ⟨δ,ob,f',r',h1,h2,h3⟩:=exec2_cons h
  obtain ⟨τ1,obs1,fs1⟩:=r'
  simp only [List.nil_append,Prod.mk.injEq,List.cons.injEq] at h3
  obtain ⟨rfl,rfl,rfl,rfl⟩:=h3
  exact ⟨δ,ob,h1,τ,obs1,h2,⟨rfl,fun _ => rfl,fun _ => rfl,fun _ => rfl,fun _ => rfl⟩,fun ha => AO.app.1 ha⟩
 | (j,oj) :: L1,s,τ,obs,fs1,f,fs2,h,hl,hn,hF,hc => by
  cases fs1 with
  | nil => cases hl
  | cons fj fs1 =>
   obtain ⟨δj,obj,fj',r',h1,h2,h3⟩:=exec2_cons h
   obtain ⟨τ1,obs1,fsr⟩:=r'
   simp only [List.cons_append,Prod.mk.injEq,List.cons.injEq] at h3
   obtain ⟨rfl,rfl,rfl,rfl⟩:=h3
   have hfj:=delta2_foot h1
   have hF':=List.pairwise_cons.1 hF
   obtain ⟨n1,n2⟩:=nm_of hfj (gs:=fs1 ++ f :: fs2) hn (by simp) (fun g hg => by simp only [List.cons_append,List.mem_cons]; exact .inr hg) hF'.1
   obtain ⟨δ,ob,g1,τ',obs',g2,g3,g4⟩:=moveFront2 (P:=P) (L1:=L1) h2 (by simpa using hl) n2 hF'.2 (fun g hg => hc g (by simp [hg]))
   have hcm:=hc fj (by simp)
   simp only [comm,Bool.and_eq_true] at hcm
   obtain ⟨⟨⟨⟨⟨⟨⟨⟨⟨c0,c1⟩,c2⟩,c3⟩,c4⟩,c5⟩,c6⟩,c7⟩,c8⟩,c9⟩:=hcm
   have hf:=delta2_foot g1
   have hFf:=List.pairwise_append.1 hF'.2
   have hin:∀ g ∈ fs1 ++ fs2,g ∈ fs1 ++ f :: fs2:=fun g hg => by
    rcases List.mem_append.1 hg with hg | hg
    ·exact List.mem_append_left _ hg
    exact List.mem_append_right _ (List.mem_cons_of_mem _ hg)
   have hq:∀ g ∈ fj :: (fs1 ++ fs2),disj (dl g.d) f.qs=true:=by
    intro g hg
    rcases List.mem_cons.1 hg with rfl | hg
    ·exact c0
    rcases List.mem_append.1 hg with hg | hg
    ·have:=hc g (by simp [hg])
     simp only [comm,Bool.and_eq_true] at this
     exact this.1.1.1.1.1.1.1.1.1
    exact (List.pairwise_cons.1 hFf.2.1).1 g hg
   -- i at s
   obtain ⟨a1,a2,a3⟩:=ag_app hfj n1 (g:=f) (disj_ok c1) (disj_ok c4) (disj_ok c7)
   have d1:delta2 A T cs H (X i) all i o s=some (δ,ob,f):=delta2_local g1 (fun t ht => ⟨(a1 t ht).1.symm,(a1 t ht).2.symm⟩) (fun k hk => (a2 k hk).symm) (fun k hk => (a3 k hk).symm) app_nt
   obtain ⟨m1,m2⟩:=nm_of hf (gs:=fj :: (fs1 ++ fs2)) hn (by simp) (fun g hg => by
    rcases List.mem_cons.1 hg with rfl | hg
    ·simp
    simp only [List.cons_append,List.mem_cons]; exact .inr (hin g hg)) hq
   -- j behind i
   obtain ⟨b1,b2,b3⟩:=ag_app hf m1 (g:=fj) (disj_ok c2) (disj_ok c5) (disj_ok c8)
   have d2:delta2 A T cs H (X j) all j oj (s.app δ)=some (δj,obj,fj):=delta2_local h1 b1 b2 b3 app_nt.symm
   -- the two orders come to the same
   have sw:Alike ((s.app δj).app δ) ((s.app δ).app δj):=by
    refine app_swap hfj.wf hf.wf n1 m1 (n2.sub fun d hd => ds_mem (g:=f) (by simp) (by rw [hf.d]; exact hd)) (m2.sub fun d hd => ds_mem (g:=fj) (by simp) (by rw [hfj.d]; exact hd)) (fun t ht ht' => ?_) (fun k b b' e1 e2 => ?_) (fun k b k' b' e1 e2 he => ?_)
    ·exact disj_ok c3 t (by rw [hfj.d]; simp only; rw [ht]; simp [dl]) (by rw [hf.d]; simp only; rw [ht']; simp [dl])
    ·exact disj_ok c6 k (hfj.wk k b e1) (hf.wk k b' e2)
    subst he; exact disj_ok c9 k (hfj.wg k b e1) (hf.wg k b' e2)
   obtain ⟨nn1,nn2⟩:=nm_of hf (gs:=fs1 ++ fs2) n2 (by simp) hin (fun g hg => hq g (List.mem_cons_of_mem _ hg))
   obtain ⟨τ'',e1,e2⟩:=exec2_alike g2 sw nn2 (hF'.2.sublist (List.Sublist.append_left (List.sublist_cons_self _ _) _))
   refine ⟨δ,ob,d1,τ'',obj ++ obs',?_,e2.symm.trans g3,fun ha => ?_⟩
   ·simp only [List.cons_append,exec2,d2,e1]
   obtain ⟨p1,p2⟩:=AO.app.1 ha
   obtain ⟨p3,p4⟩:=g4 p2
   exact ⟨p3,AO.app.2 ⟨p1,p4⟩⟩
end
section
variable {C:Cx} {P:Program} {Q:Exit → Act → World → Prop} {T:List (Nat × TI)} {cs:List (Nat × CS)} {H:Hand} {ops:Array Oper} {all:List Oper}
theorem delta2_ok {s:St} {a:Act} {w:World} {K:Act → World → Prop} (hT:TabOK P T) {i:Nat} {o:Oper} (hH:HandOK C P all H) (hio:all[i]? = some o) (hall:ops=all.toArray) (h:Fits C s a w) (hs:∀ x,∃ r,delta2 std T cs H x all i o s=some r ∧ AO P C.K r.2.1)
  (hK:∀ x r a' w',delta2 std T cs H x all i o s=some r → Fits C (s.app r.1) a' w' → K a' w'):if Region.wanted o (yielded ops a.tmps) then o.wp P a w K Q else K (a.put o.dst Go.undef) w:=by
 have plain:(∀ x,delta2 std T cs H x all i o s=delta std T cs x all i o s) → if Region.wanted o (yielded ops a.tmps) then o.wp P a w K Q else K (a.put o.dst Go.undef) w:=fun e =>
  delta_ok hT hall h (fun x => by rw [← e]; exact hs x) fun x r a' w' hr => hK x r a' w' (by rw [e]; exact hr)
 cases hh:H with
 | none => exact plain fun x => by rw [hh]; rfl
 | some y =>
  obtain ⟨j,xs,args,v⟩:=y
  by_cases hj:(j == i)=true
  ·obtain ⟨r,hr,hob⟩:=hs ⟨0,fun _ => none,fun _ => 0,fun _ => .empty⟩
   have hr0:=hr
   unfold delta2 at hr
   rw [hh] at hr
   simp only at hr
   rw [if_pos hj] at hr
   split at hr
   ·rename_i l hg hv hi
    injection hr with hr; subst hr
    have hl:l=args:=hob.1
    subst hl
    have hji:j=i:=by simpa using hj
    subst hji
    have hw:Region.wanted o (yielded ops a.tmps)=true:=by simp [Region.wanted,hg]
    rw [if_pos hw]
    obtain ⟨g1,g2⟩:=hH _ _ _ _ hh o hio s a w h hv
    exact wp_value g1 (hK _ _ _ _ hr0 (h.put o.dst (inNt_lt hi) v (fun _ => g2) v.den fun _ => rfl))
   cases hr
  exact plain fun x => by
   unfold delta2
   rw [hh]
   simp only
   rw [if_neg hj]
theorem any2_ok {tb:List Nat} (hT:TabOK P T) (hops:ops=all.toArray) (htb:∀ i j,edge tb i j=true → WaitsFor all i j) (hH:HandOK C P all H) {n0:Nat} {zo:List Oper} (hz1:zo.length ≤ 1) (hz2:∀ k o,ops[k]? = some o → k < n0 ∨ (k=n0 ∧ zo=[o])) (hz3:∀ o,zo=[o] → ops[n0]? = some o ∧ (∀ j,j < n0 → ∃ e ∈ o.after.toList,Region.binds .any e=true ∧ e.on=j) ∧ ∀ e ∈ o.after.toList,Region.binds .any e=true → e.on < n0) (hz4:n0 ≤ ops.size):∀ (n:Nat) (L:List (Nat × Oper)) (fs:List Foot) (listed:Array Bool) (s:St) (a:Act) (w:World),L.length=n → Fits C s a w → NM s (ds fs) → Ord fs → Paired tb L fs → (∀ k o,all[k]? = some o → listed.getD k false=true → ∀ e ∈ o.after.toList,Region.binds .any e=true → listed.getD e.on false=true) →
  L.Pairwise (fun x y => x.1 < y.1) → (∀ x ∈ L,ops[x.1]? = some x.2 ∧ listed.getD x.1 true=false) → (∀ k o,k < n0 → ops[k]? = some o → listed.getD k true=false → (k,o) ∈ L) → (∀ o,zo=[o] → listed.getD n0 true=false) → (∀ x ∈ L,x.1 < n0) → listed.size=ops.size →
  (∀ x ∈ L,∀ e ∈ x.2.after.toList,Region.binds .any e=true → e.on < x.1) →
  (∀ X,∃ τ obs,exec2 std T cs H X all L s=some (τ,obs,fs) ∧ AO P C.K obs ∧ ∀ a' w',Fits C τ a' w' → wpList P ops Q zo a' w') → wpAny P .any ops Q (n + zo.length) listed a w
 | 0,L,fs,listed,s,a,w,hn,h,hNM,hF,hP,hDC,hsr,hL,hA,hZ,hLn,hsz,hE,hs => by
  have:L=[]:=List.eq_nil_of_length_eq_zero hn
  subst this
  have all0:∀ k,k < n0 → listed.getD k false=true:=by
   intro k hk
   by_cases hl:listed.getD k false=true
   ·exact hl
   have:=hA k _ hk (Array.getElem?_eq_getElem (by omega)) (getD_ft (by rw [hsz]; omega) hl)
   cases this
  obtain ⟨τ,obs,e1,_,e2⟩:=hs (fun _ => ⟨0,fun _ => none,fun _ => 0,fun _ => .empty⟩)
  simp only [exec2,Option.some.injEq,Prod.mk.injEq] at e1
  obtain ⟨rfl,_⟩:=e1
  have hfin:=e2 a w h
  match zo,hz1,hz2,hz3,hZ,hfin with
  | [],_,hz2,_,_,hfin =>
   refine ⟨?_,hfin⟩
   cases hr:Region.ready .any ops listed with
   | nil => rfl
   | cons i r =>
    obtain ⟨h1,o,h2,_⟩:=mem_ready.1 (hr ▸ List.mem_cons_self:i ∈ Region.ready .any ops listed)
    rcases hz2 i o h2 with hi | ⟨_,hi⟩
    ·cases hA i o hi h2 h1
    cases hi
  | [o],_,hz2,hz3,hZ,hfin =>
   obtain ⟨g1,g2,g3⟩:=hz3 o rfl
   refine ⟨fun hr => ?_,fun i hi => ?_⟩
   ·exfalso
    have:n0 ∈ Region.ready .any ops listed:=mem_ready.2 ⟨hZ o rfl,o,g1,fun e he hb => all0 _ (g3 e (by simpa using he) hb)⟩
    rw [hr] at this; cases this
   obtain ⟨h1,o',h2,h3⟩:=mem_ready.1 hi
   rcases hz2 i o' h2 with hi' | ⟨hi',ho'⟩
   ·cases hA i o' hi' h2 h1
   injection ho' with ho' _
   subst ho'; subst hi'
   have fin:∀ a w,wpList P ops Q [] a w → wpAny P .any ops Q 0 (listed.setIfInBounds i true) a w:=by
    intro a w hq
    refine ⟨?_,hq⟩
    cases hr:Region.ready .any ops (listed.setIfInBounds i true) with
    | nil => rfl
    | cons k r =>
     obtain ⟨k1,ok,k2,_⟩:=mem_ready.1 (hr ▸ List.mem_cons_self:k ∈ Region.ready .any ops (listed.setIfInBounds i true))
     rcases hz2 k ok k2 with hk | ⟨hk,_⟩
     ·rw [getD_set_ne true (by omega)] at k1
      cases hA k ok hk k2 k1
     subst hk
     have hlt:k < listed.size:=by rw [hsz]; exact (Array.getElem?_eq_some_iff.1 h2).1
     simp [Array.getD_eq_getD_getElem?,hlt] at k1
   unfold wpOp
   simp only [h2]
   unfold wpList at hfin
   by_cases hw:Region.wanted o (yielded ops a.tmps)=true
   ·rw [if_pos hw] at hfin ⊢
    exact hfin.imp (Oper.wp_mono fin) id
   rw [if_neg hw] at hfin ⊢
   exact fin _ _ hfin
  | _ :: _ :: _,hz1,_,_,_,_ => simp at hz1
 | n + 1,L,fs,listed,s,a,w,hn,h,hNM,hF,hP,hDC,hsr,hL,hA,hZ,hLn,hsz,hE,hs => by
  rw [show n + 1 + zo.length=(n + zo.length) + 1 by omega]
  refine ⟨fun hr => ?_,fun i hi => ?_⟩
  ·-- the first one that is left may come up
   exfalso
   cases L with
   | nil => cases hn
   | cons x L =>
    obtain ⟨i0,o0⟩:=x
    obtain ⟨h1,h2⟩:=hL (i0,o0) (by simp)
    have:i0 ∈ Region.ready .any ops listed:=mem_ready.2 ⟨h2,o0,h1,fun e he hb => by
     have hlt:=hE (i0,o0) (by simp) e (by simpa using he) hb
     simp only at hlt
     have hi0:i0 < ops.size:=(Array.getElem?_eq_some_iff.1 h1).1
     have hon:e.on < listed.size:=by rw [hsz]; omega
     by_cases hl:listed.getD e.on false=true
     ·exact hl
     exfalso
     have hm:=hA e.on _ (by have:=hLn (i0,o0) (by simp); simp only at this; omega) (Array.getElem?_eq_getElem (by omega)) (getD_ft hon hl)
     rcases List.mem_cons.1 hm with he' | hm
     ·injection he' with he'; omega
     have:=(List.pairwise_cons.1 hsr).1 _ hm
     simp only at this; omega⟩
    rw [hr] at this
    cases this
  obtain ⟨h1,o,h2,h3⟩:=mem_ready.1 hi
  have hi0:i < n0:=by
   rcases hz2 i o h2 with hi0 | ⟨rfl,ho⟩
   ·exact hi0
   exfalso
   cases L with
   | nil => cases hn
   | cons x L =>
    obtain ⟨_,g2,_⟩:=hz3 o ho
    obtain ⟨e,q1,q2,q3⟩:=g2 x.1 (hLn x (by simp))
    have q4:=h3 e (by simpa using q1) q2
    have q5:=(hL x (by simp)).2
    rw [q3,getD_tf q5] at q4
    cases q4
  have hio:all[i]? = some o:=by rw [hops] at h2; simpa using h2
  have hin:=hA i o hi0 h2 h1
  obtain ⟨L1,L2,rfl⟩:=List.append_of_mem hin
  obtain ⟨fs1,f,fs2,hlen,rfl⟩:∃ fs1 f fs2,fs1.length=L1.length ∧ fs=fs1 ++ f :: fs2:=by
   have hl:=hP.1
   simp only [List.length_append,List.length_cons] at hl
   have hlt:L1.length < fs.length:=by omega
   refine ⟨fs.take L1.length,fs[L1.length],fs.drop (L1.length + 1),by simp; omega,?_⟩
   rw [← List.drop_eq_getElem_cons hlt,List.take_append_drop]
  obtain ⟨hP1,hcm⟩:=pairsB_del hlen hP.2
  have hcomm:∀ g ∈ fs1,comm g f=true:=by
   intro g hg
   obtain ⟨k,hk⟩:=List.getElem?_of_mem hg
   have hkl:k < L1.length:=by rw [← hlen]; exact (List.getElem?_eq_some_iff.1 hk).1
   rcases hcm k _ g (List.getElem?_eq_getElem hkl) hk with he | he
   ·exfalso
    have h5:=(hL L1[k] (List.mem_append_left _ (List.getElem_mem hkl))).2
    have hr:=htb _ _ he
    have dc:∀ {i j:Nat},WaitsFor all i j → (∀ o e,all[i]? = some o → e ∈ o.after.toList → Region.binds .any e=true → listed.getD e.on false=true) → listed.getD j false=true:=by
     intro i j hr
     induction hr with
     | one h1 h2 h3 h4 => intro hi; rw [← h4]; exact hi _ _ h1 h2 h3
     | more h1 h2 h3 h4 ih => intro hi; exact ih fun o e g1 g2 g3 => hDC _ o g1 (hi _ _ h1 h2 h3) e g2 g3
    have h4:=dc hr fun o' e g1 g2 g3 => by
     have:o'=o:=by
      have e1:ops[i]? = some o':=by rw [hops]; simpa using g1
      rw [h2] at e1; injection e1 with e1; exact e1.symm
     subst this
     exact h3 e (by simpa using g2) g3
    rw [getD_tf h5] at h4
    cases h4
   exact he
  have mf:∀ X,∃ δ ob,delta2 std T cs H (X i) all i o s=some (δ,ob,f) ∧ AO P C.K ob ∧ ∃ τ' obs',exec2 std T cs H X all (L1 ++ L2) (s.app δ)=some (τ',obs',fs1 ++ fs2) ∧ AO P C.K obs' ∧ ∀ a' w',Fits C τ' a' w' → wpList P ops Q zo a' w':=by
   intro X
   obtain ⟨τ,obs,e1,e2,e3⟩:=hs X
   obtain ⟨δ,ob,g1,τ',obs',g2,g3,g4⟩:=moveFront2 (P:=P) e1 hlen hNM hF hcomm
   exact ⟨δ,ob,g1,(g4 e2).1,τ',obs',g2,(g4 e2).2,fun a' w' hf => e3 a' w' (hf.alike g3)⟩
  have hsrt:(L1 ++ L2).Pairwise (fun x y => x.1 < y.1):=hsr.sublist (List.Sublist.append_left (List.sublist_cons_self _ _) _)
  have hnot:∀ x ∈ L1 ++ L2,x.1 ≠ i:=by
   intro x hx
   rw [List.pairwise_append] at hsr
   obtain ⟨p1,p2,p3⟩:=hsr
   rcases List.mem_append.1 hx with hx | hx
   ·have:=p3 x hx (i,o) (by simp); simp only at this; omega
   have:=(List.pairwise_cons.1 p2).1 x hx; simp only at this; omega
  have key:=delta2_ok (C:=C) (K:=fun a' w' => wpAny P .any ops Q (n + zo.length) (listed.setIfInBounds i true) a' w') (Q:=Q) (cs:=cs) (i:=i) (o:=o) hT hH hio hops h (fun x => by
   obtain ⟨δ,ob,g1,g2,_⟩:=mf (fun _ => x)
   exact ⟨_,g1,g2⟩) (fun x r a' w' hr hf => by
   have hfo:=delta2_foot hr
   obtain ⟨δ,ob,f'⟩:=r
   obtain ⟨δ0,ob0,g0,_⟩:=mf (fun _ => x)
   rw [hr] at g0
   injection g0 with g0; injection g0 with q1 q2; injection q2 with q2 q3
   subst q1; subst q2; subst q3
   have hinF:∀ g ∈ fs1 ++ fs2,g ∈ fs1 ++ f' :: fs2:=fun g hg => by
    rcases List.mem_append.1 hg with hg | hg
    ·exact List.mem_append_left _ hg
    exact List.mem_append_right _ (List.mem_cons_of_mem _ hg)
   obtain ⟨n1,n2⟩:=nm_of hfo (gs:=fs1 ++ fs2) hNM (by simp) hinF (fun g hg => by
    rcases List.mem_append.1 hg with hg | hg
    ·have:=hcomm g hg
     simp only [comm,Bool.and_eq_true] at this
     exact this.1.1.1.1.1.1.1.1.1
    exact (List.pairwise_cons.1 (List.pairwise_append.1 hF).2.1).1 g hg)
   refine any2_ok hT hops htb hH hz1 hz2 hz3 hz4 n (L1 ++ L2) (fs1 ++ fs2) (listed.setIfInBounds i true) (s.app δ) a' w' ?_ hf n2 ?_ ?_ ?_ hsrt ?_ ?_ (fun o' ho' => by rw [getD_set_ne true (by omega)]; exact hZ o' ho') ?_ (by simpa using hsz) ?_ ?_
   ·simp at hn ⊢; omega
   ·exact hF.sublist (List.Sublist.append_left (List.sublist_cons_self _ _) _)
   ·refine ⟨?_,hP1⟩
    have:=hP.1
    simp at this ⊢; omega
   ·intro k ok hk hu e he hb
    by_cases hki:k=i
    ·subst hki
     have:ok=o:=by
      have e1:ops[k]? = some ok:=by rw [hops]; simpa using hk
      rw [h2] at e1; injection e1 with e1; exact e1.symm
     subst this
     have hl:=h3 e (by simpa using he) hb
     by_cases hei:e.on=k
     ·have:=hE (k,ok) hin e he hb
      simp only at this; omega
     rw [getD_set_ne false (fun e' => hei e'.symm)]; exact hl
    rw [getD_set_ne false (fun e' => hki e'.symm)] at hu
    have hl:=hDC k ok hk hu e he hb
    by_cases hei:e.on=i
    ·rw [hei] at hl
     have h5:=(hL (i,o) hin).2
     simp only at h5
     rw [getD_tf h5] at hl; cases hl
    rw [getD_set_ne false (fun e' => hei e'.symm)]; exact hl
   ·intro x' hx
    have hx':x' ∈ L1 ++ (i,o) :: L2:=by
     rcases List.mem_append.1 hx with hx | hx
     ·exact List.mem_append_left _ hx
     exact List.mem_append_right _ (List.mem_cons_of_mem _ hx)
    obtain ⟨e1,e2⟩:=hL x' hx'
    refine ⟨e1,?_⟩
    rw [getD_set_ne true (fun e => hnot x' hx e.symm)]
    exact e2
   ·intro k ok hkn hk hu
    by_cases hki:k=i
    ·subst hki
     have hlt:k < listed.size:=by rw [hsz]; exact (Array.getElem?_eq_some_iff.1 h2).1
     simp [Array.getD_eq_getD_getElem?,hlt] at hu
    rw [getD_set_ne true (fun e => hki e.symm)] at hu
    have:=hA k ok hkn hk hu
    rcases List.mem_append.1 this with hx | hx
    ·exact List.mem_append_left _ hx
    rcases List.mem_cons.1 hx with hx | hx
    ·injection hx with hx; exact absurd hx hki
    exact List.mem_append_right _ hx
   ·intro x' hx
    refine hLn x' ?_
    rcases List.mem_append.1 hx with hx | hx
    ·exact List.mem_append_left _ hx
    exact List.mem_append_right _ (List.mem_cons_of_mem _ hx)
   ·intro x' hx
    refine hE x' ?_
    rcases List.mem_append.1 hx with hx | hx
    ·exact List.mem_append_left _ hx
    exact List.mem_append_right _ (List.mem_cons_of_mem _ hx)
   intro X
   obtain ⟨Y,hY,hYX⟩:∃ Y:Nat → Atom,Y i=x ∧ ∀ j,j ≠ i → Y j=X j:=⟨fun j => if j=i then x else X j,by simp,fun j hj => by simp [hj]⟩
   obtain ⟨δ1,ob1,g1,_,τ',obs',g2,g3,g4⟩:=mf Y
   rw [hY,hr] at g1
   injection g1 with g1; injection g1 with q1 _
   subst q1
   rw [exec2_congr _ _ (fun x' hx => hYX x'.1 (hnot x' hx))] at g2
   exact ⟨τ',obs',g2,g3,g4⟩)
  unfold wpOp
  simp only [h2]
  by_cases hw:Region.wanted o (yielded ops a.tmps)=true
  ·rw [if_pos hw] at key ⊢
   exact .inl key
  rw [if_neg hw] at key ⊢
  exact key
def tailB (all:List Oper) (n0:Nat):Bool:=Nat.ble n0 all.length && (match all.drop n0 with
 | [] => true
 | [o] => (List.range n0).all (fun j => o.after.toList.any fun e => Region.binds .any e && e.on == j) && o.after.toList.all (fun e => !(Region.binds .any e) || Nat.blt e.on n0)
 | _ => false)
theorem drawn2_ok {s:St} {a:Act} {w:World} {id:Nat} {all:List Oper} (n0:Nat) (H:Hand) (hH:HandOK C P all H) (hm:P.follows .mixedOrders=true) (hT:TabOK P T) (kp km:List Nat) (cs:List (Nat × CS)) (h:Fits C s a w) (hgs:s.gs=[]) (fs:List Foot) (hD:drawB (all.take n0) fs=true) (hZ:tailB all n0=true) (hlen:(all.take n0).length=fs.length)
  {R:Alg → (Nat → Atom) → St × List Ob}
  (hex:∀ A X,(exec2 A T cs H X all (number 0 (all.take n0)) s).map (fun r => ((r.1.keep kp km,r.2.1),r.2.2))=some (R A X,fs)) (hob:∀ X,AO P C.K (R std X).2) (hQ:∀ X a' w',Fits C (R std X).1 a' w' → wpList P all.toArray Q (all.drop n0) a' w'):(Code.region id all.toArray true).wp P Q a w:=by
 simp only [drawB,Bool.and_eq_true] at hD
 obtain ⟨⟨d1,d2⟩,d3⟩:=hD
 simp only [tailB,Bool.and_eq_true,Nat.ble_eq] at hZ
 obtain ⟨hn0,hZ⟩:=hZ
 refine wp_region_any hm ?_
 have hf:Fits C s a { w with drawn:=w.drawn + 1 }:=h.world (fun _ _ _ => rfl) (fun _ _ _ _ _ => rfl) ⟨h.chg.os,h.chg.tape,h.chg.output,h.chg.size,h.chg.block⟩ (fun _ _ _ hc _ => hc) (fun _ _ h _ => h)
 have hnl:∀ (l:List Oper) (i:Nat),(number i l).length=l.length:=by
  intro l
  induction l with
  | nil => intro i; rfl
  | cons o l ih => intro i; simp [number,ih]
 have htk:(all.take n0).length=n0:=by simp; omega
 have hzl:(all.drop n0).length ≤ 1:=by
  revert hZ
  cases all.drop n0 with
  | nil => intro _; simp
  | cons x l => cases l with
   | nil => intro _; simp
   | cons y l => intro h; cases h
 have hsz:all.toArray.size=(number 0 (all.take n0)).length + (all.drop n0).length:=by rw [hnl,htk]; simp; omega
 have hgt:∀ {k o},(all.take n0)[k]? = some o → all[k]? = some o ∧ k < n0:=by
  intro k o hk
  have hlt:=(List.getElem?_eq_some_iff.1 hk).1
  rw [htk] at hlt
  rw [List.getElem?_take,if_pos hlt] at hk
  exact ⟨hk,hlt⟩
 have hlst:∀ k (b:Bool),k < all.length → (Array.replicate all.toArray.size false).getD k b=false:=by
  intro k b hk
  have:k < all.toArray.size:=by simpa using hk
  simp [Array.getD_eq_getD_getElem?,hk]
 have hsz0:all.toArray.size=all.length:=by simp
 have hmk:∀ i j,edge (masks (all.take n0) []) i j=true → WaitsFor all i j:=by
  intro i j hij
  have:=masks_ok (all:=all.take n0) (l:=all.take n0) (tb:=[]) rfl (fun i j h => by simp at h) i j hij
  have conv:∀ {i j},WaitsFor (all.take n0) i j → WaitsFor all i j:=by
   intro i j hw
   induction hw with
   | one h1 h2 h3 h4 => exact .one (hgt h1).1 h2 h3 h4
   | more h1 h2 h3 h4 ih => exact .more (hgt h1).1 h2 h3 ih
  exact conv this
 rw [hsz]
 refine any2_ok (cs:=cs) (all:=all) (tb:=masks (all.take n0) []) hT rfl hmk hH (n0:=n0) (zo:=all.drop n0) hzl ?_ ?_ (by simpa using hn0) _ (number 0 (all.take n0)) fs _ s a _ rfl hf (fun t p v hl => by rw [hgs] at hl; cases hl) ?_ ⟨by rw [hnl]; exact hlen,d1⟩ ?_ (number_sorted _ 0) ?_ ?_ ?_ ?_ ?_ ?_ ?_
 ·intro k o hk
  have hk':all[k]? = some o:=by simpa using hk
  have hlt:=(List.getElem?_eq_some_iff.1 hk').1
  by_cases hkn:k < n0
  ·exact .inl hkn
  right
  have h1:(all.drop n0)[k - n0]? = some o:=by rw [List.getElem?_drop]; rw [show n0 + (k - n0)=k by omega]; exact hk'
  have h2:=(List.getElem?_eq_some_iff.1 h1).1
  have h3:k=n0:=by omega
  subst h3
  refine ⟨rfl,?_⟩
  revert hzl h1
  generalize all.drop k=dl
  intro hzl h1
  match dl,hzl,h1 with
  | [x],_,h1 => simp at h1; rw [h1]
  | [],_,h1 => simp at h1
  | _ :: _ :: _,hzl,_ => simp at hzl
 ·intro o ho
  rw [ho] at hZ
  simp only [Bool.and_eq_true] at hZ
  refine ⟨?_,fun j hj => ?_,fun e he hb => ?_⟩
  ·have:(all.drop n0)[0]? = some o:=by rw [ho]; rfl
   rw [List.getElem?_drop] at this
   simpa using this
  ·have:=List.all_eq_true.1 hZ.1 j (List.mem_range.2 hj)
   obtain ⟨e,he,hb⟩:=List.any_eq_true.1 this
   simp only [Bool.and_eq_true,beq_iff_eq] at hb
   exact ⟨e,he,hb.1,hb.2⟩
  have:=List.all_eq_true.1 hZ.2 e he
  simpa [hb] using this
 ·exact ordB_ok d3
 ·intro k o hk hu
  exfalso
  rw [← hsz,hlst k false (List.getElem?_eq_some_iff.1 hk).1] at hu
  cases hu
 ·intro x hx
  obtain ⟨h1,h2⟩:=number_get hx
  rw [Nat.sub_zero] at h2
  obtain ⟨h3,_⟩:=hgt h2
  exact ⟨by simpa using h3,by rw [← hsz]; exact hlst _ _ (List.getElem?_eq_some_iff.1 h3).1⟩
 ·intro k o hkn hk _
  have hk':(all.take n0)[k]? = some o:=by rw [List.getElem?_take,if_pos hkn]; simpa using hk
  have:=number_mem (i:=0) (l:=all.take n0) (k:=k) (o:=o) hk'
  rwa [Nat.zero_add] at this
 ·intro o ho
  have:(all.drop n0).length=1:=by rw [ho]; rfl
  rw [← hsz]
  exact hlst _ _ (by simp at this; omega)
 ·intro x hx
  obtain ⟨h1,h2⟩:=number_get hx
  rw [Nat.sub_zero] at h2
  exact (hgt h2).2
 ·rw [← hsz]; simp
 ·have ed:∀ (L:List (Nat × Oper)),edgesB L=true → ∀ x ∈ L,∀ e ∈ x.2.after.toList,Region.binds .any e=true → e.on < x.1:=by
   intro L
   induction L with
   | nil => intro _ x hx; cases hx
   | cons y L ih =>
    obtain ⟨i,o⟩:=y
    intro hL x hx e he hb
    simp only [edgesB,Bool.and_eq_true] at hL
    rcases List.mem_cons.1 hx with rfl | hx
    ·have:=List.all_eq_true.1 hL.1 e he
     simpa [hb] using this
    exact ih hL.2 x hx e he hb
  exact ed _ d2
 intro X
 obtain ⟨r,hr,e⟩:=Option.map_eq_some_iff.1 (hex std X)
 obtain ⟨τ,obs,fs'⟩:=r
 simp only [Prod.mk.injEq] at e
 obtain ⟨e1,rfl⟩:=e
 refine ⟨τ,obs,hr,?_,fun a' w' hf' => hQ X a' w' ?_⟩
 ·have:=hob X; rw [← e1] at this; exact this
 rw [← e1]; exact hf'.keep kp km
theorem drawn2_okB {s:St} {a:Act} {w:World} {id:Nat} {all:List Oper} {B:Alg} (hB:B=std) (n0:Nat) (H:Hand) (hH:HandOK C P all H) (hm:P.follows .mixedOrders=true) (hT:TabOK P T) (kp km:List Nat) (cs:List (Nat × CS)) (h:Fits C s a w) (hgs:s.gs=[]) (fs:List Foot) (hD:drawB (all.take n0) fs=true) (hZ:tailB all n0=true) (hlen:(all.take n0).length=fs.length)
  {R:Alg → (Nat → Atom) → St × List Ob}
  (hex:∀ A X,(exec2 A T cs H X all (number 0 (all.take n0)) s).map (fun r => ((r.1.keep kp km,r.2.1),r.2.2))=some (R A X,fs)) (hob:∀ X,AO P C.K (R B X).2) (hQ:∀ X a' w',Fits C (R B X).1 a' w' → wpList P all.toArray Q (all.drop n0) a' w'):(Code.region id all.toArray true).wp P Q a w:=by
 subst hB
 exact drawn2_ok n0 H hH hm hT kp km cs h hgs fs hD hZ hlen hex hob hQ
end
end Go.Proofs.YtjgnoldondblaaaGreat.Sym
namespace Go.Proofs.YtjgnoldondblaaaGreat
open Go.RowKit Sym
def app {α : Type} (l:List α):Dec (List α) → Dec (List α)
 | .error e => .error e
 | .ok (r,s) => .ok (l ++ r,s)
def fin (r:Rec) (rest:List UInt8):Except Int Rec:=if rest=[] then .ok r else .error 3
def Res.err {α : Type}:Except Int α → Int
 | .error e => e
 | .ok _ => 0
section
variable {m k:Nat} {p:Option Int} {s r r2 t:List UInt8} {e:Int}
end
def firsts (f:Nat → Itm) (i:Nat):List Itm:=(List.range i).map f
def fSet (f:Nat → Itm) (i:Nat) (x:Itm):Nat → Itm:=fun t => if t=i then x else f t
theorem firsts_set (f:Nat → Itm) (i:Nat) (x:Itm):firsts (fSet f i x) (i + 1)=firsts f i ++ [x]:=by
 unfold firsts
 rw [List.range_succ,List.map_append]
 congr 1
 ·apply List.map_congr_left
  intro t ht
  have:=List.mem_range.1 ht
  simp [fSet,show ¬ t=i by omega]
 simp [fSet]
theorem firsts_len (f:Nat → Itm) (i:Nat):(firsts f i).length=i:=by simp [firsts]
theorem firsts_get (f:Nat → Itm) (n:Nat):∀ t,t < n → itF (firsts f n) t=f t:=by
 intro t ht
 simp [itF,firsts,List.getD,ht]
structure RN where
 n:Nat
 f:Nat → Itm
 kd:Int
 nx:Lab
 mrk:Int
def RN.abs (r:RN):Rec:=⟨r.kd,firsts r.f r.n,r.nx,r.mrk⟩
def Rec.rn (r:Rec):RN:=⟨r.items.length,itF r.items,r.kind,r.next,r.mark⟩
theorem firsts_itF' (l:List Itm):firsts (itF l) l.length=l:=by
 apply List.ext_getElem
 ·simp [firsts]
 intro i h1 h2
 simp [firsts,itF,List.getD,h2]
theorem rn_abs (r:Rec):r.rn.abs=r:=by
 obtain ⟨k,l,nx,mk⟩:=r
 simp only [Rec.rn,RN.abs,firsts_itF']
theorem okF_congr' {f g:Nat → Itm} {n:Nat} (h:∀ t,t < n → f t=g t):okF f n=okF g n:=by
 unfold okF
 rw [Bool.eq_iff_iff,List.all_eq_true,List.all_eq_true]
 have e:∀ t,t < n → okAt f t=okAt g t:=fun t ht => by
  unfold okAt
  rw [h t ht,h (t - 1) (by omega)]
 constructor
 ·intro h1 t ht; rw [← e t (List.mem_range.1 ht)]; exact h1 t ht
 intro h1 t ht; rw [e t (List.mem_range.1 ht)]; exact h1 t ht
theorem isR_abs (r:RN):isR r.abs=isRF r.kd r.n r.f r.nx r.mrk:=by
 unfold isR RN.abs
 simp only [firsts_len]
 rw [isRF_ref,isRF_ref,okF_congr' fun t ht => firsts_get r.f r.n t ht]
structure Spo where
 ver:Int
 has:Bool
 r:Rec
deriving DecidableEq
def zeroSpo:Spo:=⟨0,false,zeroRec⟩
abbrev Shf:=List (Lab × Spo)
def lessL (a b:Lab):Bool:=decide (a.bits < b.bits) || (decide (a.bits=b.bits) && decide (a.len < b.len))
theorem lab_ext {a b:Lab} (h1:a.len=b.len) (h2:a.bits=b.bits):a=b:=by
 obtain ⟨x,y⟩:=a; obtain ⟨x',y'⟩:=b; simp only at h1 h2; rw [h1,h2]
theorem less_irr (a:Lab):lessL a a=false:=by simp [lessL]
theorem less_trans {a b c:Lab} (h1:lessL a b=true) (h2:lessL b c=true):lessL a c=true:=by
 simp only [lessL,Bool.or_eq_true,Bool.and_eq_true,decide_eq_true_eq] at *
 omega
theorem less_total (a b:Lab):lessL a b=true ∨ a=b ∨ lessL b a=true:=by
 simp only [lessL,Bool.or_eq_true,Bool.and_eq_true,decide_eq_true_eq]
 by_cases h1:a.bits < b.bits
 ·exact .inl (.inl h1)
 by_cases h2:b.bits < a.bits
 ·exact .inr (.inr (.inl h2))
 by_cases h3:a.len < b.len
 ·exact .inl (.inr ⟨by omega,h3⟩)
 by_cases h4:b.len < a.len
 ·exact .inr (.inr (.inr ⟨by omega,h4⟩))
 exact .inr (.inl (lab_ext (by omega) (by omega)))
theorem less_ne {a b:Lab} (h:lessL a b=true):a ≠ b:=by
 rintro rfl; rw [less_irr] at h; cases h
def Rises (L:Shf):Prop:=L.Pairwise fun a b => lessL a.1 b.1=true
def findL (l:Lab):Shf → Option Spo
 | [] => none
 | p :: L => if p.1=l then some p.2 else findL l L
def putL (l:Lab) (x:Spo):Shf → Shf
 | [] => [(l,x)]
 | p :: L => if lessL p.1 l then p :: putL l x L else if p.1=l then (l,x) :: L else (l,x) :: p :: L
theorem find_of_less {l:Lab}:∀ {L:Shf},(∀ p ∈ L,lessL l p.1=true) → findL l L=none
 | [],_ => rfl
 | p :: L,h => by
  unfold findL
  rw [if_neg (fun e => less_ne (h p (by simp)) e.symm)]
  exact find_of_less fun q hq => h q (by simp [hq])
theorem find_put (l:Lab) (x:Spo) (l':Lab):∀ L:Shf,findL l' (putL l x L)=if l=l' then some x else findL l' L
 | [] => by simp [putL,findL]
 | p :: L => by
  unfold putL
  split
  ·rename_i hp
   unfold findL
   rw [find_put l x l' L]
   by_cases h1:p.1=l'
   ·rw [if_pos h1,if_pos h1]
    by_cases h2:l=l'
    ·exact absurd (h1.trans h2.symm) (less_ne hp)
    rw [if_neg h2]
   rw [if_neg h1,if_neg h1]
  split
  ·rename_i _ hp
   unfold findL
   by_cases h2:l=l'
   ·rw [if_pos h2,if_pos h2]
   rw [if_neg h2,if_neg h2,if_neg (by rw [hp]; exact h2)]
  show (if l=l' then some x else findL l' (p :: L))=_
  rfl
theorem put_len (l:Lab) (x:Spo):∀ {L:Shf},Rises L → (putL l x L).length=if (findL l L).isSome then L.length else L.length + 1
 | [],_ => rfl
 | p :: L,h => by
  have h':=List.pairwise_cons.1 h
  unfold putL findL
  split
  ·rename_i hp
   rw [if_neg (less_ne hp),List.length_cons,put_len l x h'.2]
   split<;>rfl
  split
  ·rfl
  rename_i hp he
  rw [find_of_less fun q hq => ?_]
  ·rfl
  rcases less_total p.1 l with h1 | h1 | h1
  ·exact absurd h1 hp
  ·exact absurd h1 he
  exact less_trans h1 (h'.1 q hq)
theorem put_mem {l:Lab} {x:Spo}:∀ {L:Shf} {p:Lab × Spo},p ∈ putL l x L → p=(l,x) ∨ p ∈ L
 | [],p,h => by simp [putL] at h; exact .inl h
 | q :: L,p,h => by
  unfold putL at h
  split at h
  ·rcases List.mem_cons.1 h with rfl | h
   ·exact .inr (by simp)
   rcases put_mem h with h | h
   ·exact .inl h
   exact .inr (by simp [h])
  split at h
  ·rcases List.mem_cons.1 h with rfl | h
   ·exact .inl rfl
   exact .inr (by simp [h])
  rcases List.mem_cons.1 h with rfl | h
  ·exact .inl rfl
  exact .inr h
theorem put_rises {l:Lab} {x:Spo}:∀ {L:Shf},Rises L → Rises (putL l x L)
 | [],_ => List.pairwise_singleton _ _
 | p :: L,h => by
  have h':=List.pairwise_cons.1 h
  unfold putL
  split
  ·rename_i hp
   refine List.pairwise_cons.2 ⟨fun q hq => ?_,put_rises h'.2⟩
   rcases put_mem hq with rfl | hq
   ·exact hp
   exact h'.1 q hq
  rename_i hp
  split
  ·rename_i he
   exact List.pairwise_cons.2 ⟨fun q hq => by simp only; rw [← he]; exact h'.1 q hq,h'.2⟩
  rename_i he
  have hl:lessL l p.1=true:=by
   rcases less_total p.1 l with h1 | h1 | h1
   ·exact absurd h1 hp
   ·exact absurd h1 he
   exact h1
  refine List.pairwise_cons.2 ⟨fun q hq => ?_,h⟩
  rcases List.mem_cons.1 hq with rfl | hq
  ·exact hl
  exact less_trans hl (h'.1 q hq)
structure Rw where
 lab:Lab
 ver:Int
 r:Rec
deriving DecidableEq
def zeroRw:Rw:=⟨⟨0,0⟩,0,zeroRec⟩
def newL:List Rw → Shf → Option Shf
 | [],L => some L
 | w :: l,L => if (findL w.lab L).isSome || !isL w.lab || !isR w.r then none else newL l (putL w.lab ⟨w.ver,true,w.r⟩ L)
def newS (l:List Rw):Option Shf:=if 2000 < l.length then none else newL l []
structure Got where
 code:Int
 ver:Int
 has:Bool
 r:Rec
deriving DecidableEq
def zeroGot:Got:=⟨0,0,false,zeroRec⟩
structure Wnt where
 kind:Int
 lab:Lab
 ver:Int
 r:Rec
structure Did where
 L:Shf
 wrote:Bool
 got:Got
 err:Int
def inc (v:Int):Int:=IntKind.u64.wrap (v + 1)
def nextSpo (w:Wnt):Spo:=⟨inc w.ver,decide (w.kind=2),if w.kind=2 then w.r else zeroRec⟩
def spotOf (L:Shf) (l:Lab):Spo:=(findL l L).getD zeroSpo
def doL (L:Shf) (w:Wnt):Did:=
 if (w.kind=1 ∨ w.kind=2 ∨ w.kind=3) ∧ isL w.lab=true ∧ (w.kind=2 → isR w.r=true) then
  (if w.kind=1 then ⟨L,false,⟨0,(spotOf L w.lab).ver,(spotOf L w.lab).has,(spotOf L w.lab).r⟩,0⟩
  else if w.ver ≠ (spotOf L w.lab).ver then ⟨L,false,⟨8,(spotOf L w.lab).ver,false,zeroRec⟩,0⟩
  else if (findL w.lab L).isNone ∧ 2000 ≤ L.length then ⟨L,false,zeroGot,12⟩
  else ⟨putL w.lab (nextSpo w) L,true,⟨0,inc w.ver,false,zeroRec⟩,0⟩)
 else ⟨L,false,zeroGot,1⟩
def rowsL (L:Shf):List Rw:=(L.filter (fun p => p.2.has)).map fun p => ⟨p.1,p.2.ver,p.2.r⟩
end Go.Proofs.YtjgnoldondblaaaGreat
namespace Go.Proofs.YtjgnoldondblaaaGreat.Sym
open Go Go.RowKit
structure RA where
 A:Option Addr
 c:Nat
 r:RN
abbrev recC (x:RA):List AV:=[.int .i64 x.r.kd,.sl none x.A x.r.n x.c 2 (fun i => itC (x.r.f i)),.int .i64 x.r.nx.len,.int .u64 x.r.nx.bits,.int .u64 x.r.mrk]
abbrev recV (x:RA):AV:=.agg (recC x)
def zRN:RN:=⟨0,fun _ => zeroItm,0,⟨0,0⟩,0⟩
def zRA:RA:=⟨none,0,zRN⟩
structure RowA where
 lab:Lab
 ver:Int
 x:RA
abbrev rowC (w:RowA):List AV:=[.int .i64 w.lab.len,.int .u64 w.lab.bits,.int .u64 w.ver,.int .i64 w.x.r.kd,.sl none w.x.A w.x.r.n w.x.c 2 (fun i => itC (w.x.r.f i)),.int .i64 w.x.r.nx.len,.int .u64 w.x.r.nx.bits,.int .u64 w.x.r.mrk]
abbrev rowsV (A:Option Addr) (n c:Nat) (f:Nat → RowA):AV:=.sl none A n c 8 (fun i => rowC (f i))
def zRow:RowA:=⟨⟨0,0⟩,0,zRA⟩
structure SpA where
 w:RowA
 has:Bool
abbrev elC (x:SpA):List AV:=[.int .u64 x.w.ver,.bool (.v x.has),.int .i64 x.w.x.r.kd,.sl none x.w.x.A x.w.x.r.n x.w.x.c 2 (fun i => itC (x.w.x.r.f i)),.int .i64 x.w.x.r.nx.len,.int .u64 x.w.x.r.nx.bits,.int .u64 x.w.x.r.mrk]
def zSp:SpA:=⟨zRow,false⟩
structure GotA where
 code:Int
 ver:Int
 has:Bool
 x:RA
abbrev gotC (g:GotA):List AV:=[.int .i64 g.code,.int .u64 g.ver,.bool (.v g.has),.int .i64 g.x.r.kd,.sl none g.x.A g.x.r.n g.x.c 2 (fun i => itC (g.x.r.f i)),.int .i64 g.x.r.nx.len,.int .u64 g.x.r.nx.bits,.int .u64 g.x.r.mrk]
abbrev gotV (g:GotA):AV:=.agg (gotC g)
def zGot:GotA:=⟨0,0,false,zRA⟩
structure ResA where
 code:Int
 had:Bool
 val:ByteArray
 A:Option Addr
 n:Nat
 c:Nat
 f:Nat → Itm
 key:Int
 more:Bool
structure WntA where
 kind:Int
 lab:Lab
 ver:Int
 x:RA
 s:ResA
abbrev wntC (w:WntA):List AV:=[.int .i64 w.kind,.int .i64 w.lab.len,.int .u64 w.lab.bits,.int .u64 w.ver,.int .i64 w.x.r.kd,.sl none w.x.A w.x.r.n w.x.c 2 (fun i => itC (w.x.r.f i)),.int .i64 w.x.r.nx.len,.int .u64 w.x.r.nx.bits,.int .u64 w.x.r.mrk,.int .i64 w.s.code,.bool (.v w.s.had),.str w.s.val,.sl none w.s.A w.s.n w.s.c 2 (fun i => itC (w.s.f i)),.int .u64 w.s.key,.bool (.v w.s.more)]
abbrev wntV (w:WntA):AV:=.agg (wntC w)
def RowA.abs (w:RowA):Rw:=⟨w.lab,w.ver,w.x.r.abs⟩
def SpA.abs (x:SpA):Lab × Spo:=(x.w.lab,⟨x.w.ver,x.has,x.w.x.r.abs⟩)
def GotA.abs (g:GotA):Got:=⟨g.code,g.ver,g.has,g.x.r.abs⟩
def WntA.abs (w:WntA):Wnt:=⟨w.kind,w.lab,w.ver,w.x.r.abs⟩
def listA {α β : Type} (h:α → β) (g:Nat → α) (n:Nat):List β:=(List.range n).map fun i => h (g i)
theorem listA_len {α β : Type} (h:α → β) (g:Nat → α) (n:Nat):(listA h g n).length=n:=by simp [listA]
theorem listA_get {α β : Type} (h:α → β) (g:Nat → α) {n i:Nat} (hi:i < n):(listA h g n)[i]? = some (h (g i)):=by simp [listA,hi]
theorem listA_succ {α β : Type} (h:α → β) (g:Nat → α) (n:Nat):listA h g (n + 1)=listA h g n ++ [h (g n)]:=by simp [listA,List.range_succ]
abbrev rwsA (f:Nat → RowA) (n:Nat):List Rw:=listA RowA.abs f n
theorem SimL.length:∀ {l l':List AV},SimL l l' → l.length=l'.length
 | [],[],_ => rfl
 | v :: l,v' :: l',h => by simp only [List.length_cons,SimL.length h.2]
 | [],_ :: _,h => h.elim
 | _ :: _,[],h => h.elim
theorem Sim.rows {g g':Option Nat} {A:Option Addr} {n n' c k:Nat} {f f':Nat → List AV} (hn:n=n') (he:∀ i,i < n' → SimL (f i) (f' i)):Sim (.sl g A n c k f) (.sl g' A n' c k f'):=by
 subst hn
 refine ⟨rfl,fun _ => rfl,fun m w h => ?_⟩
 cases h with
 | sl _ _ _ _ _ _ h1 h2 h3 h4 h5 h6 h7 =>
  exact .sl _ _ _ _ _ _ h1 h2 (fun i hi => by rw [← (he i hi).length]; exact h3 i hi) h4 (fun i hi => by rw [← (he i hi).map]; exact h5 i hi) (fun i hi => (he i hi).one (h6 i hi)) (fun i hi => (he i hi).ok (h7 i hi))
theorem Fits.memS {C:Cx} {nt:Nat} {l:List (Nat × AV)} {mem:List (Nat × Blk)} {gr:List (Nat × Gr)} {a:Act} {w:World} {k b ty:Nat} {cells cells':List AV} (h:Fits C ⟨nt,l,[],(k,⟨b,ty,cells⟩) :: mem,gr⟩ a w) (e:SimL cells cells'):Fits C ⟨nt,l,[],(k,⟨b,ty,cells'⟩) :: mem,gr⟩ a w:=by
 have hto:∀ k' e',lookM ((k,(⟨b,ty,cells'⟩:Blk)) :: mem) k'=some e' → ∃ e0,lookM ((k,(⟨b,ty,cells⟩:Blk)) :: mem) k'=some e0 ∧ e0.at_=e'.at_ ∧ e0.ty=e'.ty ∧ SimL e0.cells e'.cells:=by
  intro k' e' he
  simp only [lookM] at he ⊢
  split at he
  ·rename_i hk; injection he with he; subst he; exact ⟨⟨b,ty,cells⟩,by rw [if_pos hk],rfl,rfl,e⟩
  rename_i hk; exact ⟨e',by rw [if_neg hk]; exact he,rfl,rfl,zl⟩
 have hfro:∀ k' e',lookM ((k,(⟨b,ty,cells⟩:Blk)) :: mem) k'=some e' → ∃ e0,lookM ((k,(⟨b,ty,cells'⟩:Blk)) :: mem) k'=some e0 ∧ e0.at_=e'.at_:=by
  intro k' e' he
  simp only [lookM] at he ⊢
  split at he
  ·rename_i hk; injection he with he; subst he; exact ⟨⟨b,ty,cells'⟩,by rw [if_pos hk],rfl⟩
  rename_i hk; exact ⟨e',by rw [if_neg hk]; exact he,rfl⟩
 have hm:St.m ⟨nt,l,[],(k,⟨b,ty,cells'⟩) :: mem,gr⟩ C=St.m ⟨nt,l,[],(k,⟨b,ty,cells⟩) :: mem,gr⟩ C:=by
  funext x o
  apply propext
  constructor
  ·rintro (h | ⟨k',e',he,hx⟩ | h)
   ·exact .inl h
   ·obtain ⟨e0,h1,h2,_⟩:=hto k' e' he
    exact .inr (.inl ⟨k',e0,h1,h2.trans hx⟩)
   exact .inr (.inr h)
  rintro (h | ⟨k',e',he,hx⟩ | h)
  ·exact .inl h
  ·obtain ⟨e0,h1,h2⟩:=hfro k' e' he
   exact .inr (.inl ⟨k',e0,h1,h2.trans hx⟩)
  exact .inr (.inr h)
 refine ⟨h.size,h.defers,fun t ht => by rw [hm]; exact h.slot t ht,fun t p v he hk => (by cases he),fun k' e' he => ?_,fun k1 k2 e1 e2 h1 h2 hne => ?_,h.gr,fun k1 t k2 e2 h1 h2 => ?_,h.sepg,h.chg,h.m0,by rw [hm]; exact h.kept⟩
 ·rw [hm]
  obtain ⟨e0,h1,h2,h3,h4⟩:=hto k' e' he
  obtain ⟨g1,g2,g3⟩:=h.mem k' e0 h1
  refine ⟨?_,fun v hv => ⟨h4.one (fun v hv => (g2 v hv).1) v hv,h4.ok (fun v hv => (g2 v hv).2) v hv⟩,by rw [← h2]; exact g3⟩
  rw [← h2,← h3,← h4.map]; exact g1
 ·obtain ⟨a1,b1,c1,_⟩:=hto k1 e1 h1
  obtain ⟨a2,b2,c2,_⟩:=hto k2 e2 h2
  rw [← c1,← c2]
  exact h.nodup k1 k2 a1 a2 b1 b2 hne
 obtain ⟨a2,b2,c2,_⟩:=hto k2 e2 h2
 rw [← c2]
 exact h.sepm k1 t k2 a2 h1 b2
theorem Fits.regr {C:Cx} {nt:Nat} {l:List (Nat × AV)} {mem:List (Nat × Blk)} {k:Nat} {A:Option Addr} {n n' c kk e:Nat} {gr:List (Nat × Gr)} {a:Act} {w:World} (h:Fits C ⟨nt,l,[],mem,(k,⟨A,n,c,kk,e⟩) :: gr⟩ a w) (hn:n=n'):Fits C ⟨nt,l,[],mem,(k,⟨A,n',c,kk,e⟩) :: gr⟩ a w:=hn ▸ h
def putG (g:Nat → SpA) (p:Nat) (x:SpA) (h:Nat):Nat → SpA:=fun i => if i < p then g i else if i=p then x else g (i - 1 + h)
theorem rn_sim (A:Option Addr) (c:Nat) {r r':RN} (h:r.abs=r'.abs):SimL (recC ⟨A,c,r⟩) (recC ⟨A,c,r'⟩):=by
 obtain ⟨n,f,kd,nx,mrk⟩:=r
 obtain ⟨n',f',kd',nx',mrk'⟩:=r'
 simp only [RN.abs,Rec.mk.injEq] at h
 obtain ⟨rfl,h2,rfl,rfl⟩:=h
 have hn:n=n':=by rw [← firsts_len f n,h2,firsts_len]
 subst hn
 refine ⟨zr,Sim.recell (fun t ht => ?_),zr,zr,zr,trivial⟩
 show itC (f t)=itC (f' t)
 rw [← firsts_get f n t ht,h2,firsts_get f' n t ht]
theorem abs_rn (r:Rec):r.rn.abs=r:=rn_abs r
def spY (A:Option Addr) (c:Nat) (g:Nat → SpA) (A1:Option Addr) (c1:Nat) (b:Nat):Atom:=⟨b,fun j => match j with | 0 => A | 1 => A1 | j + 2 => (g j).w.x.A,fun j => match j with | 0 => c | 1 => c1 | j + 2 => (g j).w.x.c,fun _ => ⟨#[]⟩⟩
def gotA (y:Atom) (g:Got):GotA:=⟨g.code,g.ver,g.has,⟨y.A 1,y.c 1,g.r.rn⟩⟩
theorem got_sim {A A1:Option Addr} {c c1 b:Nat} {g:Nat → SpA} {v:GotA} {G:Got} (h:v.abs=G) (hA:v.x.A=A1) (hc:v.x.c=c1):SimL (gotC v) (gotC (gotA (spY A c g A1 c1 b) G)):=by
 subst h; subst hA; subst hc
 have hr:=rn_sim v.x.A v.x.c (r:=v.x.r) (r':=v.x.r.abs.rn) (abs_rn _).symm
 exact ⟨zr,zr,zr,hr.1,hr.2.1,hr.2.2.1,hr.2.2.2.1,hr.2.2.2.2.1,trivial⟩
def rwAt (y:Atom) (R:List Rw) (i:Nat):RowA:=⟨(R.getD i zeroRw).lab,(R.getD i zeroRw).ver,⟨y.A (i + 2),y.c (i + 2),(R.getD i zeroRw).r.rn⟩⟩
theorem rwsA_rwAt (y:Atom) (R:List Rw):rwsA (rwAt y R) R.length=R:=by
 apply List.ext_getElem
 ·simp [listA]
 intro i h1 h2
 simp only [listA,List.getElem_map,List.getElem_range,rwAt,RowA.abs,abs_rn]
 simp [List.getD,h2]
def rwY (A:Option Addr) (c:Nat) (f:Nat → RowA) (b:Nat):Atom:=⟨b,fun j => match j with | 0 => A | 1 => none | j + 2 => (f j).x.A,fun j => match j with | 0 => c | 1 => 0 | j + 2 => (f j).x.c,fun _ => ⟨#[]⟩⟩
theorem rwsA_at {f:Nat → RowA} {n:Nat} {R:List Rw} (h:rwsA f n=R) {i:Nat} (hi:i < n):(f i).abs=R.getD i zeroRw:=by
 rw [← h]; simp [List.getD,listA_get RowA.abs f hi]
theorem rws_sim {A:Option Addr} {n c b:Nat} {f:Nat → RowA} {R:List Rw} (h:rwsA f n=R) {gg:Option Nat}:Sim (.sl gg A n c 8 (fun i => rowC (f i))) (rowsV A R.length c (rwAt (rwY A c f b) R)):=by
 have hn:n=R.length:=by rw [← h,listA_len]
 refine Sim.rows hn fun i hi => ?_
 have e:rwAt (rwY A c f b) R i=⟨(R.getD i zeroRw).lab,(R.getD i zeroRw).ver,⟨(f i).x.A,(f i).x.c,(R.getD i zeroRw).r.rn⟩⟩:=rfl
 rw [e,← rwsA_at h (show i < n by omega)]
 have hr:=rn_sim (f i).x.A (f i).x.c (r:=(f i).x.r) (r':=(f i).x.r.abs.rn) (abs_rn _).symm
 exact ⟨zr,zr,zr,hr.1,hr.2.1,hr.2.2.1,hr.2.2.2.1,hr.2.2.2.2.1,trivial⟩
theorem ok_cell {m:Nat → Nat → Prop} {w:World} {g:Option Nat} {A:Option Addr} {n c k:Nat} {cells:Nat → List AV} (h:Ok m w (.sl g A n c k cells)) {i:Nat} (hi:i < n):∀ v ∈ cells i,Ok m w v:=by
 cases h with | sl _ _ _ _ _ _ h1 h2 h3 h4 h5 h6 h7 => exact h7 i hi
theorem newL_step {f:Nat → RowA} {n i:Nat} {L:Shf} (hi:i < n):newL ((rwsA f n).drop i) L=if (findL (f i).lab L).isSome || !isL (f i).lab || !isR (f i).x.r.abs then none else newL ((rwsA f n).drop (i + 1)) (putL (f i).lab ⟨(f i).ver,true,(f i).x.r.abs⟩ L):=by
 have hl:i < (rwsA f n).length:=by rw [listA_len]; exact hi
 have e:(rwsA f n).drop i=(f i).abs :: (rwsA f n).drop (i + 1):=by
  rw [List.drop_eq_getElem_cons hl]
  congr 1
  simp [listA]
 rw [e]
 rfl
theorem lab_laid:laidOutB Tryz.prog=true:=by kernel_rfl
theorem lab_row:(37:TypeId) < Tryz.prog.types.size:=of_decide_eq_true (by kernel_rfl)
theorem lab_wide:(match Tryz.prog.underlying 37 with | some (.array _ _) | some (.struct _) => true | _ => false)=true:=by kernel_rfl
theorem lab_law:WideMaps.KeyLaw Tryz.prog 37:=deep_law_laid lab_laid (m:=2) (by omega) lab_row (by kernel_rfl) lab_wide
theorem labK:Maps.Keyed Tryz.prog 37:=Maps.Keyed.of_law lab_law
theorem map_und':Tryz.prog.underlying 88=some (.map 37 92):=by kernel_rfl
def LabOk (l:Lab):Prop:=(Lit.int .i64 l.len).wf=true ∧ (Lit.int .u64 l.bits).wf=true
def keyL (l:Lab):Lit:=.string (keyBytes [.int .i64 l.len,.int .u64 l.bits])
theorem key_lab {l:Lab} (h:LabOk l):Go.keyOf Tryz.prog 37 (labAV l).den=some (keyL l):=by
 obtain ⟨h1,h2⟩:=h
 have hu:Tryz.prog.underlying 37=some (.struct _):=Tryz.underlying37
 have hi:Tryz.prog.underlying 3=some (.int .i64):=by kernel_rfl
 have hb:Tryz.prog.underlying 23=some (.int .u64):=by kernel_rfl
 have hk:Tryz.prog.keyType 37=true:=by kernel_rfl
 have hc:Tryz.prog.cellsOf 37=2:=by kernel_rfl
 have hci:Tryz.prog.cellsOf 3=1:=by kernel_rfl
 have hcb:Tryz.prog.cellsOf 23=1:=by kernel_rfl
 obtain ⟨m,hm⟩:=Nat.exists_eq_succ_of_ne_zero (n:=Tryz.prog.types.size) (by have:=lab_row; intro h; rw [h] at this; exact absurd this (Nat.not_lt_zero _))
 simp [Go.keyOf,hu,hk,Value.formed,hc,labAV,AV.den,AV.denL,hm,Program.keyLits,Value.cells,hci,hcb,hi,hb,h1,h2,keyL]
theorem keyL_inj {l l':Lab} (h:LabOk l) (h':LabOk l') (e:keyL l=keyL l'):l=l':=by
 have:=labK.inj (key_lab h) (e ▸ key_lab h')
 simp [labAV,AV.den,AV.denL] at this
 exact lab_ext this.1 this.2
theorem mapW_fun {P:Program} {K:TypeId} {w:World} {b n n':Nat} {D D':DataW Value} (h:MapW P K w b n D) (h':MapW P K w b n' D'):D=D':=by
 obtain ⟨es,cl,hb,F,hs,hD⟩:=h
 obtain ⟨es',cl',hb',F',hs',hD'⟩:=h'
 rw [hb] at hb'
 injection hb' with hb'; injection hb' with e1 e2
 subst e1
 rw [hD,hD']
theorem mapW_size {P:Program} {K:TypeId} {w:World} {b n:Nat} {D:DataW Value} (h:MapW P K w b n D):MapW P K w b (Maps.size D) D:=by
 obtain ⟨es,cl,hb,F,hs,hD⟩:=h
 refine ⟨es,cl,hb,F,?_,hD⟩
 rw [hD]
 simp [Maps.size,length_sorted]
abbrev Adr:=Lab → Option Addr × Nat
abbrev elA (E:Adr) (l:Lab) (x:Spo):SpA:=⟨⟨l,x.ver,⟨(E l).1,(E l).2,x.r.rn⟩⟩,x.has⟩
structure ShD (D:DataW Value) (E:Adr) (b:Nat) (L:Shf) (m:Nat → Nat → Prop) (w:World):Prop where
 map:MapW Tryz.prog 37 w b L.length D
 ris:Rises L
 labs:∀ p ∈ L,LabOk p.1
 has:∀ kl,Maps.has D kl=true ↔ ∃ p ∈ L,keyL p.1=kl
 size:Maps.size D=L.length
 at_:∀ p ∈ L,∀ zd,D.atKey (keyL p.1) zd = .held (AV.agg (elC (elA E p.1 p.2))).den
 ok:∀ p ∈ L,Ok m w (.agg (elC (elA E p.1 p.2)))
theorem ShD.keepB {D:DataW Value} {E:Adr} {b:Nat} {L:Shf} {m m':Nat → Nat → Prop} {w w':World} {bo:Option Nat} (h:ShD D E b L m w) (k:KeepB bo w m w' m') (hb:bo ≠ some b):ShD D E b L m' w':=
 ⟨mapW_keepB k hb h.map,h.ris,h.labs,h.has,h.size,h.at_,fun p hp => k.ok (h.ok p hp)⟩
theorem ShD.keep {D:DataW Value} {E:Adr} {b:Nat} {L:Shf} {m m':Nat → Nat → Prop} {w w':World} (h:ShD D E b L m w) (k:Keep w m w' m'):ShD D E b L m' w':=
 ⟨mapW_keep k h.map,h.ris,h.labs,h.has,h.size,h.at_,fun p hp => k.ok (h.ok p hp)⟩
def shD (D:DataW Value) (E:Adr) (b:Nat) (L:Shf):Kn:=⟨ShD D E b L,fun k h => h.keep k⟩
def shK (b:Nat) (L:Shf):Kn:=⟨fun m w => ∃ D E,ShD D E b L m w,fun k ⟨D,E,h⟩ => ⟨D,E,h.keep k⟩⟩
def shF (N b:Nat) (L:Shf):Kn:=⟨fun m w => N ≤ b ∧ (shK b L).p m w,fun k h => ⟨h.1,(shK b L).st k h.2⟩⟩
theorem find_mem {l:Lab} {x:Spo}:∀ {L:Shf},findL l L=some x → (l,x) ∈ L
 | p :: L,h => by
  unfold findL at h
  split at h
  ·rename_i he; injection h with h; subst h; subst he; exact List.mem_cons_self ..
  exact List.mem_cons_of_mem _ (find_mem h)
theorem mem_find {p:Lab × Spo}:∀ {L:Shf},Rises L → p ∈ L → findL p.1 L=some p.2
 | q :: L,h,hp => by
  have h':=List.pairwise_cons.1 h
  unfold findL
  rcases List.mem_cons.1 hp with rfl | hp
  ·rw [if_pos rfl]
  rw [if_neg (less_ne (h'.1 p hp))]
  exact mem_find h'.2 hp
def zeroEl:Value:=.agg #[.int .u64 0,.bool false,.int .i64 0,.slice none 0 0,.int .i64 0,.int .u64 0,.int .u64 0]
theorem zeroEl_run (w:World):(zeroValue 92).run Tryz.prog w = .ok zeroEl w:=by kernel_rfl
section
variable {D:DataW Value} {E:Adr} {b:Nat} {L:Shf} {m:Nat → Nat → Prop} {w:World} {l:Lab}
theorem ShD.hasL (h:ShD D E b L m w) (hl:LabOk l):Maps.has D (keyL l)=(findL l L).isSome:=by
 cases hf:findL l L with
 | some x => exact (h.has _).2 ⟨(l,x),find_mem hf,rfl⟩
 | none =>
  rw [Option.isSome_none,Bool.eq_false_iff]
  intro hh
  obtain ⟨p,hp,he⟩:=(h.has _).1 hh
  have:p.1=l:=keyL_inj (h.labs p hp) hl he
  rw [← this,mem_find h.ris hp] at hf
  cases hf
def adr (E:Adr) (L:Shf):Adr:=fun l => if (findL l L).isSome then E l else (none,0)
theorem elA_zero (E:Adr) (hn:findL l L=none):AV.den (.agg (elC (elA (adr E L) l (spotOf L l))))=zeroEl ∧ ∀ m w,Ok m w (.agg (elC (elA (adr E L) l (spotOf L l)))):=by
 have e1:spotOf L l=zeroSpo:=by unfold spotOf; rw [hn]; rfl
 have e2:adr E L l=(none,0):=by unfold adr; rw [hn]; rfl
 unfold elA
 rw [e1,e2]
 refine ⟨rfl,fun m w => .agg _ (fun v hv => ?_) fun v hv => ?_⟩
 ·simp only [elC,List.mem_cons,List.not_mem_nil,or_false] at hv
  rcases hv with rfl | rfl | rfl | rfl | rfl | rfl | rfl<;>rfl
 simp only [elC,List.mem_cons,List.not_mem_nil,or_false] at hv
 rcases hv with rfl | rfl | rfl | rfl | rfl | rfl | rfl
 ·exact .int _ _
 ·exact .bool _
 ·exact .int _ _
 ·exact .sl _ _ _ _ _ _ (Nat.le_refl _) (Nat.zero_le _) (fun i hi => absurd hi (Nat.not_lt_zero _)) (fun i hi => absurd hi (Nat.not_lt_zero _)) (fun i hi => absurd hi (Nat.not_lt_zero _)) (fun i hi => absurd hi (Nat.not_lt_zero _)) (fun i hi => absurd hi (Nat.not_lt_zero _))
 ·exact .int _ _
 ·exact .int _ _
 exact .int _ _
theorem ShD.look (h:ShD D E b L m w) (hl:LabOk l):D.atKey (keyL l) (.held zeroEl) = .held (AV.agg (elC (elA (adr E L) l (spotOf L l)))).den ∧ Ok m w (.agg (elC (elA (adr E L) l (spotOf L l)))):=by
 cases hf:findL l L with
 | some x =>
  have hm:=find_mem hf
  have e1:spotOf L l=x:=by unfold spotOf; rw [hf]; rfl
  have e2:adr E L l=E l:=by unfold adr; rw [hf]; rfl
  have e3:elA (adr E L) l (spotOf L l)=elA E l x:=by unfold elA; rw [e1,e2]
  rw [e3]
  exact ⟨h.at_ _ hm _,h.ok _ hm⟩
 | none =>
  obtain ⟨e1,e2⟩:=elA_zero (L:=L) E hf
  refine ⟨?_,e2 _ _⟩
  rw [e1]
  exact Maps.atKey_of_not_has (by rw [h.hasL hl,hf]; rfl) _
theorem ShD.put (h:ShD D E b L m w) (hl:LabOk l) {w':World} (k:KeepB (some b) w m w' m) (v:Int) (hs:Bool) (x:RA) (hv:Ok m w (.agg (elC ⟨⟨l,v,x⟩,hs⟩))) (hM:MapW Tryz.prog 37 w' b (L.length + 1) (D.put (keyL l) (.held (AV.agg (elC ⟨⟨l,v,x⟩,hs⟩)).den))) :
  ∃ D' E',ShD D' E' b (putL l ⟨v,hs,x.r.abs⟩ L) m w':=by
 have hsim:Sim (.agg (elC ⟨⟨l,v,x⟩,hs⟩)) (.agg (elC ⟨⟨l,v,⟨x.A,x.c,x.r.abs.rn⟩⟩,hs⟩)):=by
  have hr:=rn_sim x.A x.c (r:=x.r) (r':=x.r.abs.rn) (abs_rn _).symm
  exact Sim.agg ⟨zr,zr,hr.1,hr.2.1,hr.2.2.1,hr.2.2.2.1,hr.2.2.2.2.1,trivial⟩
 have hkey:WideAt.IsKeyLit (keyL l):=labK.key (key_lab hl)
 have hmp:Maps.IsMap D:=(h.map.tidy labK).isMap
 have hsz:=mapW_size hM
 have hlen:Maps.size (D.put (keyL l) (.held (AV.agg (elC ⟨⟨l,v,x⟩,hs⟩)).den))=(putL l ⟨v,hs,x.r.abs⟩ L).length:=by
  rw [Maps.size_put (h.map.tidy labK),h.hasL hl,put_len l _ h.ris]
  rw [h.size]
 have hris:=put_rises (l:=l) (x:=⟨v,hs,x.r.abs⟩) h.ris
 have hin:∀ p,p ∈ putL l ⟨v,hs,x.r.abs⟩ L ↔ p=(l,⟨v,hs,x.r.abs⟩) ∨ (p ∈ L ∧ p.1 ≠ l):=by
  intro p
  constructor
  ·intro hp
   have h1:=mem_find hris hp
   rw [find_put] at h1
   by_cases he:l=p.1
   ·rw [if_pos he] at h1
    injection h1 with h1
    obtain ⟨p1,p2⟩:=p
    simp only at he h1
    subst he; subst h1
    exact .inl rfl
   rw [if_neg he] at h1
   exact .inr ⟨find_mem h1,fun e => he e.symm⟩
  rintro (rfl | ⟨hp,hne⟩)
  ·exact find_mem (by rw [find_put,if_pos rfl])
  exact find_mem (x:=p.2) (l:=p.1) (by rw [find_put,if_neg (fun e => hne e.symm)]; exact mem_find h.ris hp)
 have hE:∀ p:Lab × Spo,p.1 ≠ l → elA (fun k => if k=l then (x.A,x.c) else E k) p.1 p.2=elA E p.1 p.2:=fun p hne => by unfold elA; simp only [if_neg hne]
 have hE2:elA (fun k => if k=l then (x.A,x.c) else E k) l ⟨v,hs,x.r.abs⟩=⟨⟨l,v,⟨x.A,x.c,x.r.abs.rn⟩⟩,hs⟩:=by unfold elA; simp only [if_true]
 refine ⟨_,fun k => if k=l then (x.A,x.c) else E k,?_,hris,fun p hp => ?_,fun kl => ?_,hlen,fun p hp zd => ?_,fun p hp => ?_⟩
 ·rw [hlen] at hsz; exact hsz
 ·rcases (hin p).1 hp with rfl | ⟨hp,_⟩
  ·exact hl
  exact h.labs p hp
 ·by_cases he:kl=keyL l
  ·subst he
   rw [Maps.has_put_same hmp hkey]
   exact ⟨fun _ => ⟨_,(hin _).2 (.inl rfl),rfl⟩,fun _ => rfl⟩
  rw [Maps.has_put_other he,h.has]
  constructor
  ·rintro ⟨p,hp,hk⟩
   exact ⟨p,(hin p).2 (.inr ⟨hp,fun e => he (by rw [← hk,e])⟩),hk⟩
  rintro ⟨p,hp,hk⟩
  rcases (hin p).1 hp with rfl | ⟨hp,_⟩
  ·exact absurd hk.symm he
  exact ⟨p,hp,hk⟩
 ·rcases (hin p).1 hp with rfl | ⟨hp,hne⟩
  ·rw [Maps.atKey_put_same hmp hkey,hE2,hsim.1]
  rw [Maps.atKey_put_other (fun e => hne (keyL_inj (h.labs p hp) hl e)),hE p hne]
  exact h.at_ p hp zd
 rcases (hin p).1 hp with rfl | ⟨hp,hne⟩
 ·rw [hE2]; exact k.ok (hsim.2.2 _ _ hv)
 rw [hE p hne]; exact k.ok (h.ok p hp)
theorem hand_look {m0:Nat → Nat → Prop} {w0:World} {S:Nat → Prop} {ds:List Deferred} {D:DataW Value} {E:Adr} {b:Nat} {L:Shf} {l:Lab} (hl:LabOk l) {el:SpA} (hel:el=elA (adr E L) l (spotOf L l)) {hh:Bool} (hhh:hh=(findL l L).isSome) {all:List Oper} {j t1 t2:Nat} (ho:∀ o,all[j]? = some o → o.op = .lookup 88 (.tmp t1) (.tmp t2) true) :
  HandOK ⟨m0,w0,S,ds,shD D E b L⟩ Tryz.prog all (some (j,[.tmp t1,.tmp t2],[.raw (.map (some b)),labAV l],.tup [.agg (elC el),.bool (.v hh)])):=by
 intro i xs args v he o hio s a w hF hv
 simp only [Option.some.injEq,Prod.mk.injEq] at he
 obtain ⟨rfl,rfl,rfl,rfl⟩:=he
 have hop:=ho o hio
 simp only [vals] at hv
 split at hv
 ·split at hv
  ·simp only [Option.map_some,Option.some.injEq,List.cons.injEq,and_true] at hv
   obtain ⟨h1,h2⟩:=hv
   have hSh:ShD D E b L (s.m ⟨m0,w0,S,ds,shD D E b L⟩) w:=hF.kept
   obtain ⟨g1,g2⟩:=hSh.look hl
   subst hel
   have hr:=lookup_run hop hF h1 h2 rfl labK map_und' (zeroEl_run w) hSh.map (key_lab hl) g1
   refine ⟨?_,.tup _ fun u hu => ?_⟩
   ·rw [hr,hSh.hasL hl,← hhh]
    simp [AV.den,AV.denL,BE.den]
   simp only [List.mem_cons,List.not_mem_nil,or_false] at hu
   rcases hu with rfl | rfl
   ·exact g2
   exact .bool _
  simp at hv
 simp at hv
theorem shK_put {m:Nat → Nat → Prop} {w w':World} {b:Nat} {L:Shf} {l:Lab} {D:DataW Value} {n:Nat} (h0:MapW Tryz.prog 37 w b n D) (hl:LabOk l) (h:(shK b L).p m w) (k:KeepB (some b) w m w' m) {v:AV} {x:SpA} (hs:Sim v (.agg (elC x))) (hv:Ok m w v) (hM:MapW Tryz.prog 37 w' b (L.length + 1) (D.put (keyL l) (.held v.den))):(shK b (putL l ⟨x.w.ver,x.has,x.w.x.r.abs⟩ L)).p m w':=by
 obtain ⟨D1,E1,h1⟩:=h
 have:=mapW_fun h0 h1.map
 subst this
 rw [hs.1] at hM
 exact h1.put hl k x.w.ver x.has x.w.x (hs.2.2 _ _ hv) hM
theorem shK_map {m:Nat → Nat → Prop} {w:World} {b:Nat} {L:Shf} (h:(shK b L).p m w):∃ es cl,w.heap[b]? = some (.map es cl):=by
 obtain ⟨D,E,h⟩:=h
 obtain ⟨es,cl,hb,_⟩:=h.map
 exact ⟨es,cl,hb⟩
def chgL (L:Shf) (l:Lab) (v xv:Int) (kn:Bool) (z:Spo):Did:=
 if v ≠ xv then ⟨L,false,⟨8,xv,false,zeroRec⟩,0⟩
 else if kn=false ∧ 2000 ≤ L.length then ⟨L,false,zeroGot,12⟩
 else ⟨putL l z L,true,⟨0,z.ver,false,zeroRec⟩,0⟩
section
variable {P:Program} {Q:Exit → Act → World → Prop} {ops:Array Oper}
theorem unguard {a:Act} {w:World} {rest:List Oper} {o:Oper} (hw:Region.wanted o (yielded ops a.tmps)=true) (h:wpList P ops Q ({ o with guard:=none } :: rest) a w):wpList P ops Q (o :: rest) a w:=by
 unfold wpList at h ⊢
 rw [if_pos hw]
 have:Region.wanted { o with guard:=none } (yielded ops a.tmps)=true:=by simp [Region.wanted]
 rw [if_pos this] at h
 cases o
 exact h
theorem wanted_tt {C:Cx} {s:St} {a:Act} {w:World} (hF:Fits C s a w) {o:Oper} {j g:Nat} (hg:o.guard=some (j,true)) (hd:(ops[j]?).bind (·.dst)=some g) (hv:look s.tmps g = .bool .tt):Region.wanted o (yielded ops a.tmps)=true:=by
 have h:=(hF.slot g (by rw [hv]; rfl)).1
 rw [hv] at h
 simp only [Region.wanted,hg,yielded,hd,Option.bind_some,h]
 rfl
theorem LeftS.re {bo:Option Nat} {m:Nat → Nat → Prop} {w w':World} {pre pre':List (Nat × Blk)} {sets sets':List (Nat × List AV)} {news news':List (Nat × Blk)} (h:LeftS bo m w w' pre sets news) (hp:pre'.map (·.2)=pre.map (·.2)) (hs:sets'.map (·.2)=sets.map (·.2)) (hk:sets'.map (·.1)=pre'.map (·.1)) (hn:news'.map (·.2)=news.map (·.2)):LeftS bo m w w' pre' sets' news':=by
 have hm:mN m news'=mN m news:=by funext b o; simp only [mN,ats_snd hn]
 have hu:(upd pre' sets' ++ news').map (·.2)=(upd pre sets ++ news).map (·.2):=by rw [List.map_append,List.map_append,upd_snd hp hs,hn]
 refine ⟨hk,all_snd (p:=fun b => w'.heap[b.at_]? = some (.cells (b.cells.map AV.den).toArray b.ty (0,0))) hu h.heap,all_snd (p:=fun b => ∀ v ∈ b.cells,v.one=true ∧ Ok (mN m news') w' v) hu (hm ▸ h.ok),all_snd (p:=fun b => w.heap.size ≤ b.at_) hn h.fresh,pair_snd hn h.dist,h.chg.mono fun k hk => hk.imp (ats_snd hp k).2 id⟩
theorem SpecM.re {f:FuncId} {args args':List AV} {pre pre':List (Nat × Blk)} {bo:Option Nat} {I:Kn} {res res':Atom → CR} {J:Nat → Atom → Kn} (h:SpecM P f args pre bo I res J) (ha:SimL args' args) (hp:pre'.map (·.2)=pre.map (·.2))
  (hr:∀ x,(res' x).sets.map (·.2)=(res x).sets.map (·.2) ∧ (res' x).sets.map (·.1)=pre'.map (·.1) ∧ Sim (res x).v (res' x).v ∧ (res' x).news.map (·.2)=(res x).news.map (·.2)):SpecM P f args' pre' bo I res' J:=by
 intro m w h1 h2 h3 hI
 rw [ha.map]
 refine (h m w h1 (ha.ok h2) (h3.re hp.symm) hI).mono ?_
 rintro e w' ⟨x,rfl,hok,hl,hb,hJ⟩
 obtain ⟨r1,r2,r3,r4⟩:=hr x
 have hm:mN m (res' x).news=mN m (res x).news:=by funext b o; simp only [mN,ats_snd r4]
 exact ⟨x,by rw [r3.1],by rw [hm]; exact r3.2.2 _ _ hok,hl.re hp r1 r2 r4,hb,by rw [hm]; exact hJ⟩
theorem SpecM.args {f:FuncId} {args args':List AV} {pre:List (Nat × Blk)} {bo:Option Nat} {I:Kn} {res:Atom → CR} {J:Nat → Atom → Kn} (h:SpecM P f args' pre bo I res J) (hs:SimL args args'):SpecM P f args pre bo I res J:=by
 intro m w hm ha hp hI
 rw [hs.map]
 exact h m w hm (hs.ok ha) hp hI
end
theorem ShD.empty {m:Nat → Nat → Prop} {w:World} {b:Nat} (h:MapW Tryz.prog 37 w b 0 (.map [])) (E:Adr):ShD (.map []) E b [] m w:=
 ⟨h,.nil,fun p hp => (by cases hp),fun kl => ⟨fun h => (by cases h),fun ⟨p,hp,_⟩ => (by cases hp)⟩,rfl,fun p hp => (by cases hp),fun p hp => (by cases hp)⟩
end
end Go.Proofs.YtjgnoldondblaaaGreat.Sym
namespace Go.Proofs.YtjgnoldondblaaaGreat
open Go.RowKit Sym
theorem firsts_itF (l:List Itm):firsts (itF l) l.length=l:=by
 apply List.ext_getElem
 ·simp [firsts]
 intro i h1 h2
 simp [firsts,itF,List.getD,h2]
end Go.Proofs.YtjgnoldondblaaaGreat
