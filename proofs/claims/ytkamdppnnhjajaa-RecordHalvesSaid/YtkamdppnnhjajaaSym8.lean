/-
  The symbolic executor is right: a region that draws its order, whatever order is drawn. Over any program. Conditions: none.
-/
import Derived.Test.YtkamdppnnhjajaaSym7
import Derived.Orders
import Derived.OrdersHeld
namespace Go.Proofs.Ytkamdppnnhjajaa.Sym
open Go.RowKit
set_option linter.unusedVariables false
set_option linter.unusedSimpArgs false

/-! ### what an operation gives hangs on what it looks at alone -/
def AgT (s s' : St) (U : List Nat) : Prop := ∀ t ∈ U, look s.tmps t = look s'.tmps t ∧ lookG s.gs t = lookG s'.gs t
def AgM (s s' : St) (R : List Nat) : Prop := ∀ k ∈ R, lookM s.mem k = lookM s'.mem k
def AgR (s s' : St) (R : List Nat) : Prop := ∀ k ∈ R, lookM s.gr k = lookM s'.gr k
theorem AgT.sub {s s' : St} {U V : List Nat} (h : AgT s s' U) (hs : ∀ t ∈ V, t ∈ U) : AgT s s' V := fun t ht => h t (hs t ht)
theorem tl_mem {l : List Operand} {t : Nat} (h : Operand.tmp t ∈ l) : t ∈ tl l := by
  induction l with
  | nil => cases h
  | cons x l ih =>
    rcases List.mem_cons.1 h with h | h
    · subst h; simp [tl]
    · have := ih h
      cases x <;> simp [tl, this]
section
variable {s s' : St} {q : List (Nat × Bool)} {A : Alg} {T : List (Nat × TI)} {cs : List (Nat × CS)} {x : Atom} {i d ty : Nat}
theorem val_local {U : List Nat} (h : AgT s s' U) (q : List (Nat × Bool)) {y : Operand} (hy : ∀ t, y = .tmp t → t ∈ U) : val s q y = val s' q y := by
  cases y with
  | tmp t =>
    obtain ⟨h1, h2⟩ := h t (hy t rfl)
    simp only [val, h1, h2]
  | _ => rfl
theorem vals_local {U : List Nat} (h : AgT s s' U) (q : List (Nat × Bool)) : ∀ {l : List Operand}, (∀ t ∈ tl l, t ∈ U) → vals s q l = vals s' q l
  | [], _ => rfl
  | y :: l, hl => by
    have h1 : val s q y = val s' q y := val_local h q fun t ht => hl t (tl_mem (by simp [ht]))
    have h2 := vals_local h q (l := l) (fun t ht => hl t (by cases y <;> simp [tl, ht]))
    simp only [vals, h1, h2]
theorem tl_appL {t : Nat} : ∀ {l r : List Operand}, t ∈ tl l → t ∈ tl (l ++ r)
  | y :: l, r, h => by
    have ih := tl_appL (t := t) (l := l) (r := r)
    cases y <;> simp [tl] at h ⊢ <;> first | exact ih h | (rcases h with h | h; exact .inl h; exact .inr (ih h))
theorem tl_appR {t : Nat} : ∀ {l r : List Operand}, t ∈ tl r → t ∈ tl (l ++ r)
  | [], r, h => h
  | y :: l, r, h => by
    have ih := tl_appR (t := t) (l := l) (r := r) h
    cases y <;> simp [tl] <;> first | exact ih | exact .inr ih
theorem valsP_local {U : List Nat} (h : AgT s s' U) (q : List (Nat × Bool)) : ∀ {l : List (Nat × Operand)}, (∀ t ∈ tl (l.map (·.2)), t ∈ U) → valsP s q l = valsP s' q l
  | [], _ => rfl
  | (k, y) :: l, hl => by
    have h1 : val s q y = val s' q y := val_local h q fun t ht => hl t (tl_mem (by simp [ht]))
    have h2 := valsP_local h q (l := l) (fun t ht => hl t (by cases y <;> simp [tl, ht]))
    simp only [valsP, h1, h2]
theorem bound_local {U : List Nat} (h : AgT s s' U) (q : List (Nat × Bool)) (dd : Int) {o : Option Operand} (ho : ∀ t ∈ tl o.toList, t ∈ U) : bound A s q dd o = bound A s' q dd o := by
  cases o with
  | none => rfl
  | some y =>
    have h1 : val s q y = val s' q y := val_local h q fun t ht => ho t (tl_mem (by simp [ht]))
    simp only [bound, h1]
theorem stepAppend_local {v1 v2 : AV} {t1 : Nat} (hR : AgR s s' (growKey v1)) : stepAppend A T x s d t1 v1 v2 = stepAppend A T x s' d t1 v1 v2 := by
  unfold stepAppend
  cases v1 with
  | sl g A1 n c k cells =>
    cases v2 with
    | sl g2 A2 n2 c2 k2 cells2 =>
      cases lookT T t1 with
      | none => rfl
      | some ti =>
        cases g with
        | none => rfl
        | some key =>
          have e : lookM s.gr key = lookM s'.gr key := hR key (by simp [growKey])
          simp only [e]
    | _ => rfl
  | _ => rfl
theorem preOf_local {l : List (Nat × List AV)} {K : List Nat} (hK : AgM s s' K) (hl : ∀ e ∈ l, e.1 ∈ K) : preOf s l = preOf s' l := by
  induction l with
  | nil => rfl
  | cons y l ih =>
    obtain ⟨k, c⟩ := y
    have h1 : lookM s.mem k = lookM s'.mem k := hK k (hl (k, c) (by simp))
    simp only [preOf, h1, ih fun e he => hl e (List.mem_cons_of_mem _ he)]
theorem preOf_map {l : List (Nat × List AV)} {pre : List (Nat × Blk)} (h : preOf s l = some pre) : l.map (·.1) = pre.map (·.1) := by
  induction l generalizing pre with
  | nil => simp [preOf] at h; subst h; rfl
  | cons y l ih =>
    obtain ⟨k, c⟩ := y
    simp only [preOf] at h
    split at h
    · rename_i b r hb hr
      injection h with h; subst h
      simp [ih hr]
    · cases h
theorem stepCall_local {v : AV} {o : Option CS} {l : Option (List AV)} {r : AV × Eff × List Ob} (h : stepCall s x v o l = some r) (hR : AgM s s' (wkOf r.2.1)) : stepCall s' x v o l = some r := by
  unfold stepCall at h ⊢
  split at h
  · exact h
  · rename_i res a
    split at h
    · rename_i pre hp
      split at h
      · rename_i hn
        injection h with h; subst h
        have hk := preOf_map hp
        have := preOf_local (l := (res x).sets) hR (fun e he => by
          have : e.1 ∈ (res x).sets.map (·.1) := List.mem_map.2 ⟨e, he, rfl⟩
          rw [hk, ← upd_keys hk] at this
          simp only [wkOf, List.map_append]
          exact List.mem_append_left _ this)
        rw [← this, hp]
        simp only [hn, if_true]
      · cases h
    · cases h
  · cases h
theorem step_local {op : Op} {r : AV × Eff × List Ob} (hr : step A T cs x i s q d ty op = some r) (hU : AgT s s' (tmpsOf op)) (hR' : AgM s s' (rkOf s q op ++ wkOf r.2.1)) (hG : AgR s s' (rgOf s q op)) : step A T cs x i s' q d ty op = some r ∧ rkOf s q op = rkOf s' q op ∧ rgOf s q op = rgOf s' q op := by
  have hR : AgM s s' (rkOf s q op) := fun k hk => hR' k (List.mem_append_left _ hk)
  have hW : AgM s s' (wkOf r.2.1) := fun k hk => hR' k (List.mem_append_right _ hk)
  suffices hh : (step A T cs x i s q d ty op = step A T cs x i s' q d ty op ∨ step A T cs x i s' q d ty op = some r) ∧ rkOf s q op = rkOf s' q op ∧ rgOf s q op = rgOf s' q op by
    refine ⟨?_, hh.2⟩
    rcases hh.1 with h | h
    · rw [← h]; exact hr
    · exact h
  have V : ∀ q {y : Operand}, (∀ t, y = .tmp t → t ∈ tmpsOf op) → val s q y = val s' q y := fun q y hy => val_local hU q hy
  cases op with
  | move y => simp only [step, rkOf, rgOf, V q (y := y) (fun t ht => by subst ht; simp [tmpsOf, tl])]; exact ⟨.inl trivial, trivial, trivial⟩
  | makeFunc fn first cap =>
    have h1 := vals_local hU q (l := first.toList) (fun t ht => by simp only [tmpsOf]; exact tl_appL ht)
    have h2 := vals_local hU q (l := cap.toList) (fun t ht => by simp only [tmpsOf]; exact tl_appR ht)
    simp only [step, rkOf, rgOf, h1, h2]; exact ⟨.inl trivial, trivial, trivial⟩
  | makeInterface t y => simp only [step, rkOf, rgOf, V q (y := y) (fun t ht => by subst ht; simp [tmpsOf, tl])]; exact ⟨.inl trivial, trivial, trivial⟩
  | nilCheck y => simp only [step, rkOf, rgOf, V q (y := y) (fun t ht => by subst ht; simp [tmpsOf, tl])]; exact ⟨.inl trivial, trivial, trivial⟩
  | assign y => simp only [step, rkOf, rgOf, V q (y := y) (fun t ht => by subst ht; simp [tmpsOf, tl])]; exact ⟨.inl trivial, trivial, trivial⟩
  | box t y => simp only [step, rkOf, rgOf, V q (y := y) (fun t ht => by subst ht; simp [tmpsOf, tl])]; exact ⟨.inl trivial, trivial, trivial⟩
  | extract y n => simp only [step, rkOf, rgOf, V q (y := y) (fun t ht => by subst ht; simp [tmpsOf, tl])]; exact ⟨.inl trivial, trivial, trivial⟩
  | unOp o t y => simp only [step, rkOf, rgOf, V q (y := y) (fun t ht => by subst ht; simp [tmpsOf, tl])]; exact ⟨.inl trivial, trivial, trivial⟩
  | fieldAddr t y f => simp only [step, rkOf, rgOf, V q (y := y) (fun t ht => by subst ht; simp [tmpsOf, tl])]; exact ⟨.inl trivial, trivial, trivial⟩
  | field t y f => simp only [step, rkOf, rgOf, V q (y := y) (fun t ht => by subst ht; simp [tmpsOf, tl])]; exact ⟨.inl trivial, trivial, trivial⟩
  | convert t t' y => simp only [step, rkOf, rgOf, V q (y := y) (fun t ht => by subst ht; simp [tmpsOf, tl])]; exact ⟨.inl trivial, trivial, trivial⟩
  | binOp o t y z t' =>
    simp only [step, rkOf, rgOf, V q (y := y) (fun t ht => by subst ht; simp [tmpsOf, tl]), V q (y := z) (fun t ht => by subst ht; cases y <;> simp [tmpsOf, tl])]; exact ⟨.inl trivial, trivial, trivial⟩
  | indexAddr t y z =>
    simp only [step, rkOf, rgOf, V q (y := y) (fun t ht => by subst ht; simp [tmpsOf, tl]), V q (y := z) (fun t ht => by subst ht; cases y <;> simp [tmpsOf, tl])]; exact ⟨.inl trivial, trivial, trivial⟩
  | index t y z =>
    simp only [step, rkOf, rgOf, V q (y := y) (fun t ht => by subst ht; simp [tmpsOf, tl]), V q (y := z) (fun t ht => by subst ht; cases y <;> simp [tmpsOf, tl])]; exact ⟨.inl trivial, trivial, trivial⟩
  | load t p =>
    have hp := V q (y := p) (fun t ht => by subst ht; simp [tmpsOf, tl])
    simp only [rkOf, hp] at hR ⊢
    refine ⟨.inl ?_, trivial, rfl⟩
    simp only [step, hp]
    cases hv : val s' q p with
    | ptr key b off =>
      have this : lookM s.mem key = lookM s'.mem key := hR key (by rw [hv]; simp [keyOf])
      cases lookT T t with
      | none => rfl
      | some ti => simp only [this]
    | _ => cases lookT T t <;> rfl
  | store t p y =>
    have hp := V q (y := p) (fun t ht => by subst ht; simp [tmpsOf, tl])
    have hy := V q (y := y) (fun t ht => by subst ht; cases p <;> simp [tmpsOf, tl])
    simp only [rkOf, hp] at hR ⊢
    refine ⟨.inl ?_, trivial, rfl⟩
    simp only [step, hp, hy]
    cases hv : val s' q p with
    | ptr key b off =>
      have this : lookM s.mem key = lookM s'.mem key := hR key (by rw [hv]; simp [keyOf])
      cases lookT T t with
      | none => rfl
      | some ti => simp only [this]
    | _ => cases lookT T t <;> rfl
  | pick c y z =>
    refine ⟨.inl ?_, rfl, rfl⟩
    cases c with
    | tmp c =>
      have h1 := V q (y := .tmp c) (fun t ht => by injection ht with ht; subst ht; simp [tmpsOf, tl])
      have h2 := fun q => V q (y := y) (fun t ht => by subst ht; simp [tmpsOf, tl])
      have h3 := fun q => V q (y := z) (fun t ht => by subst ht; cases y <;> simp [tmpsOf, tl])
      simp only [step, h1, h2, h3]
    | _ => rfl
  | build t ps =>
    refine ⟨.inl ?_, rfl, rfl⟩
    have := valsP_local hU q (l := ps.toList) (fun t ht => ht)
    simp only [step, this]
  | buildSlice t n ps =>
    refine ⟨.inl ?_, rfl, rfl⟩
    have := valsP_local hU q (l := ps.toList) (fun t ht => ht)
    simp only [step, this]
  | slice t y lo hi mx =>
    refine ⟨.inl ?_, rfl, rfl⟩
    cases mx with
    | some m =>
      have h1 := V q (y := y) (fun t ht => by subst ht; simp [tmpsOf, tl])
      have h2 : ∀ dd, bound A s q dd lo = bound A s' q dd lo := fun dd => bound_local hU q dd (fun t ht => tl_appR (l := [y]) (tl_appL ht))
      have h3 : ∀ dd, bound A s q dd hi = bound A s' q dd hi := fun dd => bound_local hU q dd (fun t ht => tl_appR (l := [y]) (tl_appR (tl_appL ht)))
      have h4 : ∀ dd, bound A s q dd (some m) = bound A s' q dd (some m) := fun dd => bound_local hU q dd (fun t ht => tl_appR (l := [y]) (tl_appR (tl_appR ht)))
      simp only [step, h1, h2, h3, h4]
    | none =>
      have h1 := V q (y := y) (fun t ht => by subst ht; simp [tmpsOf, tl])
      have h2 : ∀ dd, bound A s q dd lo = bound A s' q dd lo := fun dd => bound_local hU q dd (fun t ht => tl_appR (l := [y]) (tl_appL ht))
      have h3 : ∀ dd, bound A s q dd hi = bound A s' q dd hi := fun dd => bound_local hU q dd (fun t ht => tl_appR (l := [y]) (tl_appR (tl_appL ht)))
      simp only [step, h1, h2, h3]
  | call c =>
    have h1 := vals_local hU q (l := c.args.toList) (fun t ht => by simp only [tmpsOf]; exact tl_appR ht)
    have hv : ∀ y, y ∈ c.args.toList → val s q y = val s' q y := fun y hy => V q (fun t ht => by subst ht; simp only [tmpsOf]; exact tl_appR (tl_mem hy))
    have hrg : rgOf s q (.call c) = rgOf s' q (.call c) := by
      simp only [rgOf]
      cases ha : c.args.toList with
      | nil => rfl
      | cons o r => exact congrArg growKey (hv o (by rw [ha]; simp))
    refine ⟨?_, rfl, hrg⟩
    cases hc : c.callee with
    | builtin b =>
      refine .inl ?_
      simp only [step, h1, hc]
      cases b with
      | len =>
        simp only
        split
        · rename_i y t hy _
          rw [hv y (by rw [hy]; simp)]
        · rfl
      | append =>
        simp only
        split
        · rename_i y z t1 t2 hy _
          have e1 := hv y (by rw [hy]; simp)
          have e2 := hv z (by rw [hy]; simp)
          rw [e1, e2]
          have hG' : AgR s s' (growKey (val s' q y)) := by
            have : rgOf s q (.call c) = growKey (val s q y) := by simp only [rgOf, hy]
            rw [this, e1] at hG
            exact hG
          rw [stepAppend_local hG']
        · rfl
      | _ => rfl
    | value g =>
      have hg := V q (y := g) (fun t ht => by subst ht; simp only [tmpsOf, hc, calleeOps]; exact tl_appL (by simp [tl]))
      refine .inr ?_
      simp only [step, hc] at hr ⊢
      rw [hg, h1] at hr
      exact stepCall_local hr hW
    | invoke y m =>
      refine .inl ?_
      simp only [step, hc]
  | _ => exact ⟨.inl rfl, rfl, rfl⟩
theorem conds_local : ∀ {p : List (Nat × Bool)}, AgT s s' (p.map (·.1)) → conds s p = conds s' p
  | [], _ => rfl
  | (t, b) :: p, h => by
    obtain ⟨h1, h2⟩ := h t (by simp)
    have ih := conds_local (p := p) (h.sub fun k hk => by simp only [List.map_cons, List.mem_cons]; exact .inr hk)
    have hv : slotV s t = slotV s' t := by simp only [slotV, h1, h2]
    simp only [conds, hv, ih]
theorem inNt_local (hn : s.nt = s'.nt) (d : Option Nat) : inNt s d = inNt s' d := by cases d <;> simp [inNt, hn]
theorem runU_local {o : Oper} {ex : List Nat} {r : Delta × List Ob × Foot} (h : runU A T cs x i o s ex = some r) (hU : AgT s s' r.2.2.cons) (hR : AgM s s' r.2.2.rk) (hG : AgR s s' r.2.2.rg) (hn : s.nt = s'.nt) : runU A T cs x i o s' ex = some r := by
  unfold runU at h ⊢
  split at h
  · rename_i v e obs hst hnt
    injection h with h; subst h
    obtain ⟨h1, h2, h3⟩ := step_local hst (hU.sub fun t ht => List.mem_append_left _ ht) hR hG
    rw [h1, ← inNt_local hn, hnt, ← h2, ← h3]
  · cases h
theorem skipU_local {o : Oper} {ex : List Nat} (hn : s.nt = s'.nt) : skipU o s ex = skipU o s' ex := by
  unfold skipU; rw [inNt_local hn]
theorem runG_local {o : Oper} {ex : List Nat} {r : Delta × List Ob × Foot} (h : runG A T cs x i o s ex q = some r) (hU : AgT s s' r.2.2.cons) (hR : AgM s s' r.2.2.rk) (hG : AgR s s' r.2.2.rg) (hn : s.nt = s'.nt) : runG A T cs x i o s' ex q = some r := by
  unfold runG at h ⊢
  split at h
  · cases h
  · rename_i d hd
    split at h
    · rename_i v obs c hst hc
      split at h
      · rename_i hb
        injection h with h; subst h
        obtain ⟨h1, h2, h4⟩ := step_local hst (hU.sub fun t ht => List.mem_append_left _ ht) (by simpa [wkOf] using hR) hG
        have h3 := conds_local (p := q) (hU.sub fun t ht => List.mem_append_right _ (List.mem_append_right _ ht))
        simp only [h1, ← h3, hc, ← hn, ← h2, ← h4]
        rw [if_pos hb]
      · cases h
    · cases h
theorem delta_g {o : Oper} {all : List Oper} {r : Delta × List Ob × Foot} (h : delta A T cs x all i o s = some r) {j : Nat} {want : Bool} (hg : o.guard = some (j, want)) {g : Nat} (hb : (all[j]?).bind (·.dst) = some g) : g ∈ r.2.2.cons := by
  have hu : ∀ {r}, runU A T cs x i o s [g] = some r → g ∈ r.2.2.cons := by
    intro r h
    unfold runU at h
    split at h
    · injection h with h; subst h; simp
    · cases h
  have hsk : ∀ {r}, skipU o s [g] = some r → g ∈ r.2.2.cons := by
    intro r h
    unfold skipU at h
    split at h
    · injection h with h; subst h; simp
    · cases h
  have hr : ∀ {q r}, runG A T cs x i o s [g] q = some r → g ∈ r.2.2.cons := by
    intro q r h
    unfold runG at h
    split at h
    · cases h
    · split at h
      · split at h
        · injection h with h; subst h; simp
        · cases h
      · cases h
  simp only [delta, hg, hb] at h
  split at h
  · split at h
    · exact hr h
    · exact hsk h
  · split at h
    · exact hsk h
    · exact hr h
  · exact hr h
  · cases h
  · split at h
    · split at h
      · exact hu h
      · exact hsk h
    · split at h
      · exact hsk h
      · exact hu h
    · exact hr h
    · cases h
theorem delta_local {o : Oper} {all : List Oper} {r : Delta × List Ob × Foot} (h : delta A T cs x all i o s = some r) (hU : AgT s s' r.2.2.cons) (hR : AgM s s' r.2.2.rk) (hG : AgR s s' r.2.2.rg) (hn : s.nt = s'.nt) : delta A T cs x all i o s' = some r := by
  cases hg : o.guard with
  | none =>
    simp only [delta, hg] at h ⊢
    exact runU_local h hU hR hG hn
  | some jw =>
    obtain ⟨j, want⟩ := jw
    cases hb : (all[j]?).bind (·.dst) with
    | none => simp only [delta, hg, hb] at h; cases h
    | some g =>
      obtain ⟨e1, e2⟩ := hU g (delta_g h hg hb)
      simp only [delta, hg, hb, ← e1, ← e2] at h ⊢
      split at h
      · split at h
        · rename_i hw; rw [if_pos hw]; exact runG_local h hU hR hG hn
        · rename_i hw; rw [if_neg hw, ← skipU_local hn]; exact h
      · split at h
        · rename_i hw; rw [if_pos hw, ← skipU_local hn]; exact h
        · rename_i hw; rw [if_neg hw]; exact runG_local h hU hR hG hn
      · exact runG_local h hU hR hG hn
      · cases h
      · split at h
        · split at h
          · rename_i hw; rw [if_pos hw]; exact runU_local h hU hR hG hn
          · rename_i hw; rw [if_neg hw, ← skipU_local hn]; exact h
        · split at h
          · rename_i hw; rw [if_pos hw, ← skipU_local hn]; exact h
          · rename_i hw; rw [if_neg hw]; exact runU_local h hU hR hG hn
        · exact runG_local h hU hR hG hn
        · cases h
end

/-! ### what an operation leaves, looked up -/
def newT : Put → AV
  | .plain v => v
  | .guarded _ _ => .undef
def newG : Put → Option (List (Nat × Bool) × AV)
  | .plain _ => none
  | .guarded q v => some (q, v)
def newM : Eff → List (Nat × Blk)
  | .new k b => [(k, b)]
  | .set k b => [(k, b)]
  | .sets l => l
  | _ => []
def newR : Eff → Option (Nat × Gr)
  | .grow k t => some (k, t)
  | _ => none
/-- no slot of Ds is mentioned -/
def NM (s : St) (Ds : List Nat) : Prop := ∀ t p v, lookG s.gs t = some (p, v) → ∀ d ∈ Ds, ∀ x ∈ p, x.1 ≠ d
def Wf (δ : Delta) : Prop := ∀ q v, δ.p = .guarded q v → δ.d ≠ none
def dl : Option Nat → List Nat
  | none => []
  | some d => [d]
theorem mentions_of {p : List (Nat × Bool)} {d : Nat} (h : ∀ x ∈ p, x.1 ≠ d) : mentions p d = false := by
  induction p with
  | nil => rfl
  | cons y p ih =>
    obtain ⟨k, b⟩ := y
    simp only [mentions, Bool.or_eq_false_iff, beq_eq_false_iff_ne]
    exact ⟨h (k, b) (by simp), ih fun x hx => h x (by simp [hx])⟩
section
variable {s : St} {δ : Delta}
theorem eff_tmps (e : Eff) : (s.eff e).tmps = s.tmps := by cases e <;> rfl
theorem eff_gs (e : Eff) : (s.eff e).gs = s.gs := by cases e <;> rfl
theorem app_nt : (s.app δ).nt = s.nt := by
  obtain ⟨e, d, p⟩ := δ
  cases p <;> cases d <;> simp [St.app, St.put, St.putG, eff_nt]
theorem app_tmps (hw : Wf δ) (t : Nat) : look (s.app δ).tmps t = if δ.d = some t then newT δ.p else look s.tmps t := by
  obtain ⟨e, d, p⟩ := δ
  cases p with
  | plain v => cases d <;> simp [St.app, St.put, eff_tmps, look_cons, newT]
  | guarded q v => cases d with
    | none => exact absurd rfl (hw q v rfl)
    | some d => simp [St.app, St.putG, eff_tmps, look_cons, newT]
theorem app_gs (hw : Wf δ) (hn : NM s (dl δ.d)) (t : Nat) : lookG (s.app δ).gs t = if δ.d = some t then newG δ.p else lookG s.gs t := by
  obtain ⟨e, d, p⟩ := δ
  have hk : ∀ d', d = some d' → (lookG s.gs t).map (kill d') = lookG s.gs t := by
    intro d' hd
    cases hl : lookG s.gs t with
    | none => rfl
    | some x =>
      obtain ⟨p', v'⟩ := x
      have := mentions_of (hn t p' v' hl d' (by simp [hd, dl]))
      simp [kill, this]
  cases p with
  | plain v => cases d with
    | none => simp [St.app, St.put, eff_gs]
    | some d => simp [St.app, St.put, eff_gs, lookG_drop, newG, hk d rfl]
  | guarded q v => cases d with
    | none => exact absurd rfl (hw q v rfl)
    | some d =>
      simp only [St.app, St.putG, eff_gs, lookG_cons, lookG_drop, newG, hk d rfl, Option.some.injEq]
      split <;> rfl
theorem app_mem (hw : Wf δ) (k : Nat) : lookM (s.app δ).mem k = (lookM (newM δ.e) k).or (lookM s.mem k) := by
  obtain ⟨e, d, p⟩ := δ
  have he : (s.app ⟨e, d, p⟩).mem = (s.eff e).mem := by
    cases p with
    | plain v => cases d <;> rfl
    | guarded q v => cases d with
      | none => exact absurd rfl (hw q v rfl)
      | some d => rfl
  rw [he]
  cases e with
  | sets l => simp only [St.eff, newM, lookM_setsM]
  | new k' b => simp only [St.eff, newM, lookM_cons, lookM_del]; by_cases h : k' = k <;> simp [h, lookM]
  | set k' b => simp only [St.eff, newM, lookM_cons, lookM_del]; by_cases h : k' = k <;> simp [h, lookM]
  | _ => simp [St.eff, newM, lookM]
theorem app_gr (hw : Wf δ) (k : Nat) : lookM (s.app δ).gr k = match newR δ.e with | some (k', b) => if k' = k then some b else lookM s.gr k | none => lookM s.gr k := by
  obtain ⟨e, d, p⟩ := δ
  have he : (s.app ⟨e, d, p⟩).gr = (s.eff e).gr := by
    cases p with
    | plain v => cases d <;> rfl
    | guarded q v => cases d with
      | none => exact absurd rfl (hw q v rfl)
      | some d => rfl
  rw [he]
  cases e <;> simp only [St.eff, newR, lookM_cons, lookM_del] <;> (repeat (first | rfl | split)) <;> simp_all
theorem app_alike {s' : St} (hw : Wf δ) (h : Alike s s') (hn : NM s (dl δ.d)) : Alike (s.app δ) (s'.app δ) := by
  have hn' : NM s' (dl δ.d) := fun t p v hl => hn t p v (by rw [h.gs]; exact hl)
  refine ⟨by rw [app_nt, app_nt]; exact h.nt, fun t => ?_, fun t => ?_, fun k => ?_, fun k => ?_⟩
  · rw [app_tmps hw, app_tmps hw, h.tmps]
  · rw [app_gs hw hn, app_gs hw hn', h.gs]
  · rw [app_mem hw, app_mem hw, h.mem]
  · rw [app_gr hw, app_gr hw, h.gr]
end
theorem NM.sub {s : St} {D E : List Nat} (h : NM s D) (hs : ∀ d ∈ E, d ∈ D) : NM s E := fun t p v hl d hd => h t p v hl d (hs d hd)
theorem NM.app {s : St} {δ : Delta} {D : List Nat} (h : NM s D) (hw : Wf δ) (hd : NM s (dl δ.d)) (hq : ∀ q v, δ.p = .guarded q v → ∀ d ∈ D, ∀ x ∈ q, x.1 ≠ d) : NM (s.app δ) D := by
  intro t p v hl
  rw [app_gs hw hd] at hl
  split at hl
  · cases hp : δ.p with
    | plain v' => rw [hp] at hl; cases hl
    | guarded q v' => rw [hp] at hl; injection hl with hl; injection hl with h1 h2; subst h1; exact hq q v' hp
  · exact h t p v hl
/-- of two that do not touch each other it plays no part which one is first -/
theorem app_swap {s : St} {δ ε : Delta} (hδ : Wf δ) (hε : Wf ε) (h1 : NM s (dl δ.d)) (h2 : NM s (dl ε.d)) (h3 : NM (s.app δ) (dl ε.d)) (h4 : NM (s.app ε) (dl δ.d)) (hd : ∀ t, δ.d = some t → ε.d ≠ some t)
    (hm : ∀ k b b', lookM (newM δ.e) k = some b → lookM (newM ε.e) k = some b' → False) (hg : ∀ k b k' b', newR δ.e = some (k, b) → newR ε.e = some (k', b') → k ≠ k') : Alike ((s.app δ).app ε) ((s.app ε).app δ) := by
  refine ⟨by simp only [app_nt], fun t => ?_, fun t => ?_, fun k => ?_, fun k => ?_⟩
  · rw [app_tmps hε, app_tmps hδ, app_tmps hδ, app_tmps hε]
    by_cases e1 : δ.d = some t
    · rw [if_neg (hd t e1), if_pos e1, if_pos e1]
    · by_cases e2 : ε.d = some t <;> simp [e1, e2]
  · rw [app_gs hε h3, app_gs hδ h1, app_gs hδ h4, app_gs hε h2]
    by_cases e1 : δ.d = some t
    · rw [if_neg (hd t e1), if_pos e1, if_pos e1]
    · by_cases e2 : ε.d = some t <;> simp [e1, e2]
  · rw [app_mem hε, app_mem hδ, app_mem hδ, app_mem hε]
    cases hx : lookM (newM δ.e) k with
    | none => cases lookM (newM ε.e) k <;> rfl
    | some b =>
      cases hy : lookM (newM ε.e) k with
      | none => rfl
      | some b' => exact (hm k b b' hx hy).elim
  · rw [app_gr hε, app_gr hδ, app_gr hδ, app_gr hε]
    cases hx : newR δ.e with
    | none => cases newR ε.e <;> rfl
    | some kb =>
      obtain ⟨k1, b1⟩ := kb
      cases hy : newR ε.e with
      | none => rfl
      | some kb' =>
        obtain ⟨k2, b2⟩ := kb'
        have := hg k1 b1 k2 b2 hx hy
        simp only
        by_cases e1 : k1 = k
        · subst e1; simp [fun h : k2 = k1 => this h.symm]
          intro h; exact absurd h.symm this
        · simp [e1]

/-! ### what a footprint tells -/
theorem newM_wk {e : Eff} {k : Nat} {b : Blk} (h : lookM (newM e) k = some b) : k ∈ wkOf e := by
  cases e with
  | sets l => exact List.mem_map.2 ⟨_, lookM_mem h, rfl⟩
  | new k' b' => have := lookM_mem h; simp [newM] at this; simp [wkOf, this]
  | set k' b' => have := lookM_mem h; simp [newM] at this; simp [wkOf, this]
  | _ => cases h
structure FootOK (r : Delta × List Ob × Foot) : Prop where
  wf : Wf r.1
  d : r.2.2.d = r.1.d
  wk : ∀ k b, lookM (newM r.1.e) k = some b → k ∈ r.2.2.wk
  wg : ∀ k b, newR r.1.e = some (k, b) → k ∈ r.2.2.wg
  qs : ∀ q v, r.1.p = .guarded q v → ∀ x ∈ q, x.1 ∈ r.2.2.qs
theorem delta_foot {A : Alg} {T : List (Nat × TI)} {cs : List (Nat × CS)} {x : Atom} {all : List Oper} {i : Nat} {o : Oper} {s : St} {r : Delta × List Ob × Foot} (h : delta A T cs x all i o s = some r) : FootOK r := by
  have hu : ∀ {ex r}, runU A T cs x i o s ex = some r → FootOK r := by
    intro ex r h
    unfold runU at h
    split at h
    · rename_i v e obs _ _
      injection h with h; subst h
      refine ⟨(fun q v h => by cases h), rfl, fun k b h => ?_, fun k b h => ?_, (fun q v h => by cases h)⟩
      · exact newM_wk h
      · cases e <;> simp [newR] at h <;> simp [wgOf, h]
    · cases h
  have hsk : ∀ {ex r}, skipU o s ex = some r → FootOK r := by
    intro ex r h
    unfold skipU at h
    split at h
    · injection h with h; subst h
      exact ⟨(fun q v h => by cases h), rfl, (fun k b h => by cases h), (fun k b h => by cases h), (fun q v h => by cases h)⟩
    · cases h
  have hr : ∀ {ex q r}, runG A T cs x i o s ex q = some r → FootOK r := by
    intro ex q r h
    unfold runG at h
    split at h
    · cases h
    · rename_i d hd
      split at h
      · split at h
        · injection h with h; subst h
          refine ⟨(fun q v h => by rw [hd]; simp), rfl, (fun k b h => by cases h), (fun k b h => by cases h), (fun q' v' h y hy => ?_)⟩
          injection h with h1 h2; subst h1
          exact List.mem_map.2 ⟨y, hy, rfl⟩
        · cases h
      · cases h
  cases hg : o.guard with
  | none => simp only [delta, hg] at h; exact hu h
  | some jw =>
    obtain ⟨j, want⟩ := jw
    simp only [delta, hg] at h
    split at h
    · cases h
    · split at h
      · split at h
        · exact hr h
        · exact hsk h
      · split at h
        · exact hsk h
        · exact hr h
      · exact hr h
      · cases h
      · split at h
        · split at h
          · exact hu h
          · exact hsk h
        · split at h
          · exact hsk h
          · exact hu h
        · exact hr h
        · cases h
end Go.Proofs.Ytkamdppnnhjajaa.Sym
