/-
  The symbolic executor is right: a region that draws its order (the end). Over any program. Conditions: none.
-/
import Derived.Test.YtkamdppnnhjajaaSym8
namespace Go.Proofs.Ytkamdppnnhjajaa.Sym
open Go.RowKit
set_option linter.unusedVariables false
set_option linter.unusedSimpArgs false

def disj (l r : List Nat) : Bool := l.all fun x => !(r.contains x)
theorem disj_ok {l r : List Nat} (h : disj l r = true) : ∀ x ∈ l, x ∉ r := by
  intro x hx hr
  have := List.all_eq_true.1 h x hx
  simp [hr] at this
/-- may two operations change places? -/
def comm (f g : Foot) : Bool := disj (dl f.d) g.qs && disj (dl f.d) g.cons && disj (dl g.d) f.cons && disj (dl f.d) (dl g.d) && disj f.wk g.rk && disj g.wk f.rk && disj f.wk g.wk && disj f.wg g.rg && disj g.wg f.rg && disj f.wg g.wg
section
variable {A : Alg} {T : List (Nat × TI)} {cs : List (Nat × CS)} {X : Nat → Atom} {all : List Oper}
/-- the slots that are still to be written -/
def ds (fs : List Foot) : List Nat := fs.flatMap fun f => dl f.d
theorem ds_mem {fs : List Foot} {g : Foot} (hg : g ∈ fs) {d : Nat} (hd : d ∈ dl g.d) : d ∈ ds fs := List.mem_flatMap.2 ⟨g, hg, hd⟩
theorem ds_of {fs : List Foot} {d : Nat} (hd : d ∈ ds fs) : ∃ g ∈ fs, d ∈ dl g.d := List.mem_flatMap.1 hd
/-- no operation is guarded by a slot that a later one writes -/
def Ord (fs : List Foot) : Prop := fs.Pairwise fun f g => disj (dl g.d) f.qs = true
theorem nm_of {r : Delta × List Ob × Foot} (hf : FootOK r) {s : St} {fs gs : List Foot} (hn : NM s (ds fs)) (hm : r.2.2 ∈ fs) (hs : ∀ g ∈ gs, g ∈ fs) (hq : ∀ g ∈ gs, disj (dl g.d) r.2.2.qs = true) : NM s (dl r.1.d) ∧ NM (s.app r.1) (ds gs) := by
  have h1 : NM s (dl r.1.d) := hn.sub fun d hd => ds_mem hm (by rw [hf.d]; exact hd)
  refine ⟨h1, NM.app (hn.sub fun d hd => ?_) hf.wf h1 fun q v hp d hd x hx e => ?_⟩
  · obtain ⟨g, hg, hgd⟩ := ds_of hd
    exact ds_mem (hs g hg) hgd
  · obtain ⟨g, hg, hgd⟩ := ds_of hd
    exact disj_ok (hq g hg) d hgd (e ▸ hf.qs q v hp x hx)
theorem exec_alike : ∀ {l : List (Nat × Oper)} {s s' τ : St} {obs : List Ob} {fs : List Foot}, exec A T cs X all l s = some (τ, obs, fs) → Alike s s' → NM s (ds fs) → Ord fs → ∃ τ', exec A T cs X all l s' = some (τ', obs, fs) ∧ Alike τ τ'
  | [], s, s', τ, obs, fs, h, ha, hn, hf => by
    simp only [exec, Option.some.injEq, Prod.mk.injEq] at h
    obtain ⟨rfl, rfl, rfl⟩ := h
    exact ⟨s', rfl, ha⟩
  | (i, o) :: l, s, s', τ, obs, fs, h, ha, hn, hf => by
    obtain ⟨δ, ob, f, r', h1, h2, h3⟩ := exec_cons h
    obtain ⟨τ1, obs1, fs1⟩ := r'
    simp only [Prod.mk.injEq] at h3
    obtain ⟨rfl, rfl, rfl⟩ := h3
    have hfo := delta_foot h1
    have hd' := delta_local h1 (s' := s') (fun t _ => ⟨ha.tmps t, ha.gs t⟩) (fun k _ => ha.mem k) (fun k _ => ha.gr k) ha.nt
    have hf' := List.pairwise_cons.1 hf
    obtain ⟨n1, n2⟩ := nm_of hfo (gs := fs1) hn (by simp) (fun g hg => by simp [hg]) hf'.1
    obtain ⟨τ', e1, e2⟩ := exec_alike h2 (app_alike hfo.wf ha n1) n2 hf'.2
    exact ⟨τ', by simp only [exec, hd', e1], e2⟩
theorem ag_app {s : St} {r : Delta × List Ob × Foot} (hf : FootOK r) (hn : NM s (dl r.1.d)) {g : Foot} (h1 : ∀ x ∈ dl r.2.2.d, x ∉ g.cons) (h2 : ∀ x ∈ r.2.2.wk, x ∉ g.rk) (h3 : ∀ x ∈ r.2.2.wg, x ∉ g.rg) : AgT s (s.app r.1) g.cons ∧ AgM s (s.app r.1) g.rk ∧ AgR s (s.app r.1) g.rg := by
  refine ⟨?_, ?_, ?_⟩
  · intro t ht
    have hne : r.1.d ≠ some t := fun e => h1 t (by rw [hf.d, e]; simp [dl]) ht
    exact ⟨by rw [app_tmps hf.wf, if_neg hne], by rw [app_gs hf.wf hn, if_neg hne]⟩
  · intro k hk
    rw [app_mem hf.wf]
    cases hx : lookM (newM r.1.e) k with
    | none => rfl
    | some b => exact absurd hk (h2 k (hf.wk k b hx))
  · intro k hk
    rw [app_gr hf.wf]
    cases hx : newR r.1.e with
    | none => rfl
    | some kb =>
      obtain ⟨k', b⟩ := kb
      have hne : k' ≠ k := fun e => h3 k' (hf.wg k' b hx) (e ▸ hk)
      simp [hne]
theorem Alike.symm {s t : St} (h : Alike s t) : Alike t s := ⟨h.nt.symm, fun k => (h.tmps k).symm, fun k => (h.gs k).symm, fun k => (h.mem k).symm, fun k => (h.gr k).symm⟩
theorem Alike.trans {s t u : St} (h : Alike s t) (h' : Alike t u) : Alike s u := ⟨h.nt.trans h'.nt, fun k => (h.tmps k).trans (h'.tmps k), fun k => (h.gs k).trans (h'.gs k), fun k => (h.mem k).trans (h'.mem k), fun k => (h.gr k).trans (h'.gr k)⟩
theorem moveFront {P : Program} {i : Nat} {o : Oper} {L2 : List (Nat × Oper)} : ∀ {L1 : List (Nat × Oper)} {s τ : St} {obs : List Ob} {fs1 : List Foot} {f : Foot} {fs2 : List Foot},
    exec A T cs X all (L1 ++ (i, o) :: L2) s = some (τ, obs, fs1 ++ f :: fs2) → fs1.length = L1.length → NM s (ds (fs1 ++ f :: fs2)) → Ord (fs1 ++ f :: fs2) → (∀ g ∈ fs1, comm g f = true) →
    ∃ δ ob, delta A T cs (X i) all i o s = some (δ, ob, f) ∧ ∃ τ' obs', exec A T cs X all (L1 ++ L2) (s.app δ) = some (τ', obs', fs1 ++ fs2) ∧ Alike τ' τ ∧ (AllOb P obs → AllOb P ob ∧ AllOb P obs')
  | [], s, τ, obs, fs1, f, fs2, h, hl, hn, hF, hc => by
    have : fs1 = [] := List.eq_nil_of_length_eq_zero hl
    subst this
    obtain ⟨δ, ob, f', r', h1, h2, h3⟩ := exec_cons h
    obtain ⟨τ1, obs1, fs1⟩ := r'
    simp only [List.nil_append, Prod.mk.injEq, List.cons.injEq] at h3
    obtain ⟨rfl, rfl, rfl, rfl⟩ := h3
    exact ⟨δ, ob, h1, τ, obs1, h2, ⟨rfl, fun _ => rfl, fun _ => rfl, fun _ => rfl, fun _ => rfl⟩, fun ha => AllOb.app.1 ha⟩
  | (j, oj) :: L1, s, τ, obs, fs1, f, fs2, h, hl, hn, hF, hc => by
    cases fs1 with
    | nil => cases hl
    | cons fj fs1 =>
      obtain ⟨δj, obj, fj', r', h1, h2, h3⟩ := exec_cons h
      obtain ⟨τ1, obs1, fsr⟩ := r'
      simp only [List.cons_append, Prod.mk.injEq, List.cons.injEq] at h3
      obtain ⟨rfl, rfl, rfl, rfl⟩ := h3
      have hfj := delta_foot h1
      have hF' := List.pairwise_cons.1 hF
      obtain ⟨n1, n2⟩ := nm_of hfj (gs := fs1 ++ f :: fs2) hn (by simp) (fun g hg => by simp only [List.cons_append, List.mem_cons]; exact .inr hg) hF'.1
      obtain ⟨δ, ob, g1, τ', obs', g2, g3, g4⟩ := moveFront (P := P) (L1 := L1) h2 (by simpa using hl) n2 hF'.2 (fun g hg => hc g (by simp [hg]))
      have hcm := hc fj (by simp)
      simp only [comm, Bool.and_eq_true] at hcm
      obtain ⟨⟨⟨⟨⟨⟨⟨⟨⟨c0, c1⟩, c2⟩, c3⟩, c4⟩, c5⟩, c6⟩, c7⟩, c8⟩, c9⟩ := hcm
      have hf := delta_foot g1
      have hFf := List.pairwise_append.1 hF'.2
      have hin : ∀ g ∈ fs1 ++ fs2, g ∈ fs1 ++ f :: fs2 := fun g hg => by
        rcases List.mem_append.1 hg with hg | hg
        · exact List.mem_append_left _ hg
        · exact List.mem_append_right _ (List.mem_cons_of_mem _ hg)
      have hq : ∀ g ∈ fj :: (fs1 ++ fs2), disj (dl g.d) f.qs = true := by
        intro g hg
        rcases List.mem_cons.1 hg with rfl | hg
        · exact c0
        · rcases List.mem_append.1 hg with hg | hg
          · have := hc g (by simp [hg])
            simp only [comm, Bool.and_eq_true] at this
            exact this.1.1.1.1.1.1.1.1.1
          · exact (List.pairwise_cons.1 hFf.2.1).1 g hg
      -- i at s
      obtain ⟨a1, a2, a3⟩ := ag_app hfj n1 (g := f) (disj_ok c1) (disj_ok c4) (disj_ok c7)
      have d1 : delta A T cs (X i) all i o s = some (δ, ob, f) := delta_local g1 (fun t ht => ⟨(a1 t ht).1.symm, (a1 t ht).2.symm⟩) (fun k hk => (a2 k hk).symm) (fun k hk => (a3 k hk).symm) app_nt
      obtain ⟨m1, m2⟩ := nm_of hf (gs := fj :: (fs1 ++ fs2)) hn (by simp) (fun g hg => by
        rcases List.mem_cons.1 hg with rfl | hg
        · simp
        · simp only [List.cons_append, List.mem_cons]; exact .inr (hin g hg)) hq
      -- j behind i
      obtain ⟨b1, b2, b3⟩ := ag_app hf m1 (g := fj) (disj_ok c2) (disj_ok c5) (disj_ok c8)
      have d2 : delta A T cs (X j) all j oj (s.app δ) = some (δj, obj, fj) := delta_local h1 b1 b2 b3 app_nt.symm
      -- the two orders come to the same
      have sw : Alike ((s.app δj).app δ) ((s.app δ).app δj) := by
        refine app_swap hfj.wf hf.wf n1 m1 (n2.sub fun d hd => ds_mem (g := f) (by simp) (by rw [hf.d]; exact hd)) (m2.sub fun d hd => ds_mem (g := fj) (by simp) (by rw [hfj.d]; exact hd)) (fun t ht ht' => ?_) (fun k b b' e1 e2 => ?_) (fun k b k' b' e1 e2 he => ?_)
        · exact disj_ok c3 t (by rw [hfj.d]; simp only; rw [ht]; simp [dl]) (by rw [hf.d]; simp only; rw [ht']; simp [dl])
        · exact disj_ok c6 k (hfj.wk k b e1) (hf.wk k b' e2)
        · subst he; exact disj_ok c9 k (hfj.wg k b e1) (hf.wg k b' e2)
      obtain ⟨nn1, nn2⟩ := nm_of hf (gs := fs1 ++ fs2) n2 (by simp) hin (fun g hg => hq g (List.mem_cons_of_mem _ hg))
      obtain ⟨τ'', e1, e2⟩ := exec_alike g2 sw nn2 (hF'.2.sublist (List.Sublist.append_left (List.sublist_cons_self _ _) _))
      refine ⟨δ, ob, d1, τ'', obj ++ obs', ?_, e2.symm.trans g3, fun ha => ?_⟩
      · simp only [List.cons_append, exec, d2, e1]
      · obtain ⟨p1, p2⟩ := AllOb.app.1 ha
        obtain ⟨p3, p4⟩ := g4 p2
        exact ⟨p3, AllOb.app.2 ⟨p1, p4⟩⟩
end

/-! ### whatever order is drawn -/
/-- whom does an operation wait for, in the end? (bits) -/
def waits (tb : List Nat) (m : Nat) : List Edge → Nat
  | [] => m
  | e :: l => waits tb (if Region.binds .any e then (m ||| 1 <<< e.on) ||| tb.getD e.on 0 else m) l
def masks : List Oper → List Nat → List Nat
  | [], tb => tb
  | o :: l, tb => masks l (tb ++ [waits tb 0 o.after.toList])
/-- it waits for it, or for one that waits for it -/
inductive WaitsFor (all : List Oper) : Nat → Nat → Prop
  | one {i j : Nat} {o : Oper} {e : Edge} : all[i]? = some o → e ∈ o.after.toList → Region.binds .any e = true → e.on = j → WaitsFor all i j
  | more {i j : Nat} {o : Oper} {e : Edge} : all[i]? = some o → e ∈ o.after.toList → Region.binds .any e = true → WaitsFor all e.on j → WaitsFor all i j
theorem waits_ok {tb : List Nat} : ∀ {l : List Edge} {m j : Nat}, (waits tb m l).testBit j = true → m.testBit j = true ∨ ∃ e ∈ l, Region.binds .any e = true ∧ (e.on = j ∨ (tb.getD e.on 0).testBit j = true)
  | [], m, j, h => .inl h
  | e :: l, m, j, h => by
    rcases waits_ok (l := l) h with h | ⟨e', h1, h2⟩
    · split at h
      · rename_i hb
        rw [Nat.testBit_or, Nat.testBit_or, Nat.one_shiftLeft, Nat.testBit_two_pow] at h
        simp only [Bool.or_eq_true, decide_eq_true_eq] at h
        rcases h with (h | h) | h
        · exact .inl h
        · exact .inr ⟨e, by simp, hb, .inl h⟩
        · exact .inr ⟨e, by simp, hb, .inr h⟩
      · exact .inl h
    · exact .inr ⟨e', by simp [h1], h2⟩
theorem masks_ok {all : List Oper} : ∀ {l : List Oper} {tb : List Nat}, all.drop tb.length = l → (∀ i j, (tb.getD i 0).testBit j = true → WaitsFor all i j) → ∀ i j, ((masks l tb).getD i 0).testBit j = true → WaitsFor all i j
  | [], tb, _, h => h
  | o :: l, tb, hl, h => by
    have ho : all[tb.length]? = some o := by
      have := congrArg (fun r => r[0]?) hl
      simpa using this
    refine masks_ok (l := l) (tb := tb ++ [waits tb 0 o.after.toList]) ?_ fun i j hij => ?_
    · have := congrArg List.tail hl
      simpa [List.tail_drop] using this
    · rcases Nat.lt_trichotomy i tb.length with hlt | he | hgt
      · refine h i j ?_
        simpa [List.getD, List.getElem?_append_left hlt] using hij
      · subst he
        have : (waits tb 0 o.after.toList).testBit j = true := by simpa [List.getD] using hij
        rcases waits_ok this with h0 | ⟨e, h1, h2, h3⟩
        · simp at h0
        · rcases h3 with h3 | h3
          · exact .one ho h1 h2 h3
          · exact .more ho h1 h2 (h _ _ h3)
      · exfalso
        have : (tb ++ [waits tb 0 o.after.toList])[i]? = none := by rw [List.getElem?_eq_none_iff]; simp; omega
        simp [List.getD, this] at hij
def edge (tb : List Nat) (i j : Nat) : Bool := (tb.getD i 0).testBit j
/-- of each two, that do not wait for each other, may they change places? and nobody waits for a later one -/
def pairsB (tb : List Nat) : List (Nat × Oper) → List Foot → Bool
  | (j, _) :: l, f :: fs => (l.zip fs).all (fun x => edge tb x.1.1 j || comm f x.2) && pairsB tb l fs
  | _, _ => true
def edgesB : List (Nat × Oper) → Bool
  | [] => true
  | (i, o) :: l => o.after.toList.all (fun e => !(Region.binds .any e) || Nat.blt e.on i) && edgesB l
def ordB : List Foot → Bool
  | [] => true
  | f :: fs => fs.all (fun g => disj (dl g.d) f.qs) && ordB fs
theorem ordB_ok : ∀ {fs : List Foot}, ordB fs = true → Ord fs
  | [], _ => .nil
  | f :: fs, h => by
    simp only [ordB, Bool.and_eq_true] at h
    exact .cons (fun g hg => List.all_eq_true.1 h.1 g hg) (ordB_ok h.2)
def drawB (l : List Oper) (fs : List Foot) : Bool := pairsB (masks l []) (number 0 l) fs && edgesB (number 0 l) && ordB fs
theorem number_get : ∀ {l : List Oper} {i : Nat} {x : Nat × Oper}, x ∈ number i l → i ≤ x.1 ∧ l[x.1 - i]? = some x.2
  | [], i, x, h => by cases h
  | o :: l, i, x, h => by
    rcases List.mem_cons.1 h with rfl | h
    · simp
    · obtain ⟨h1, h2⟩ := number_get h
      refine ⟨by omega, ?_⟩
      rw [show x.1 - i = (x.1 - (i + 1)) + 1 by omega, List.getElem?_cons_succ]
      exact h2
theorem number_mem : ∀ {l : List Oper} {i k : Nat} {o : Oper}, l[k]? = some o → (i + k, o) ∈ number i l
  | [], i, k, o, h => by simp at h
  | o' :: l, i, 0, o, h => by simp at h; subst h; simp [number]
  | o' :: l, i, k + 1, o, h => by
    have := number_mem (l := l) (i := i + 1) (k := k) (o := o) (by simpa using h)
    rw [show i + (k + 1) = i + 1 + k by omega]
    exact List.mem_cons_of_mem _ this
theorem number_sorted : ∀ (l : List Oper) (i : Nat), (number i l).Pairwise (fun x y => x.1 < y.1)
  | [], _ => .nil
  | o :: l, i => List.pairwise_cons.2 ⟨fun x hx => by have := number_lt x hx; simp only; omega, number_sorted l (i + 1)⟩
/-- the foots of the operations that are left -/
def Paired (tb : List Nat) (L : List (Nat × Oper)) (fs : List Foot) : Prop := L.length = fs.length ∧ pairsB tb L fs = true
theorem pairsB_del {tb : List Nat} {i : Nat} {o : Oper} : ∀ {L1 L2 : List (Nat × Oper)} {fs1 : List Foot} {f : Foot} {fs2 : List Foot}, fs1.length = L1.length → pairsB tb (L1 ++ (i, o) :: L2) (fs1 ++ f :: fs2) = true →
    pairsB tb (L1 ++ L2) (fs1 ++ fs2) = true ∧ ∀ (k : Nat) (x : Nat × Oper) (g : Foot), L1[k]? = some x → fs1[k]? = some g → edge tb i x.1 = true ∨ comm g f = true
  | [], L2, fs1, f, fs2, hl, h => by
    have : fs1 = [] := List.eq_nil_of_length_eq_zero hl
    subst this
    simp only [List.nil_append, pairsB, Bool.and_eq_true] at h
    exact ⟨h.2, fun k x g hx => by simp at hx⟩
  | (j, oj) :: L1, L2, fs1, f, fs2, hl, h => by
    cases fs1 with
    | nil => cases hl
    | cons fj fs1 =>
      have hl' : fs1.length = L1.length := by simpa using hl
      simp only [List.cons_append, pairsB, Bool.and_eq_true] at h ⊢
      obtain ⟨h1, h2⟩ := h
      obtain ⟨g1, g2⟩ := pairsB_del hl' h2
      have hz := List.all_eq_true.1 h1
      refine ⟨⟨List.all_eq_true.2 fun x hx => hz x ?_, g1⟩, fun k x g hx hg => ?_⟩
      · rw [List.zip_append hl'.symm] at hx ⊢
        rcases List.mem_append.1 hx with hx | hx
        · exact List.mem_append_left _ hx
        · exact List.mem_append_right _ (by simp only [List.zip_cons_cons, List.mem_cons]; exact .inr hx)
      · cases k with
        | zero =>
          simp at hx hg
          subst hx; subst hg
          have := hz ((i, o), f) (by rw [List.zip_append hl'.symm]; exact List.mem_append_right _ (by simp))
          simpa using this
        | succ k => exact g2 k x g (by simpa using hx) (by simpa using hg)
section
variable {C : Cx} {P : Program} {Q : Exit → Act → World → Prop} {T : List (Nat × TI)} {cs : List (Nat × CS)} {ops : Array Oper} {all : List Oper}
theorem getD_tf {listed : Array Bool} {k : Nat} (h : listed.getD k true = false) : listed.getD k false = false := by
  simp only [Array.getD_eq_getD_getElem?] at h ⊢
  cases hk : listed[k]? with
  | none => rfl
  | some b => rw [hk] at h; simpa using h
theorem getD_ft {listed : Array Bool} {k : Nat} (hk : k < listed.size) (h : listed.getD k false ≠ true) : listed.getD k true = false := by
  simp only [Array.getD_eq_getD_getElem?, Array.getElem?_eq_getElem hk] at h ⊢
  simpa using h
theorem any_ok {tb : List Nat} (hT : TabOK P T) (hops : ops = all.toArray) (htb : ∀ i j, edge tb i j = true → WaitsFor all i j) : ∀ (n : Nat) (L : List (Nat × Oper)) (fs : List Foot) (listed : Array Bool) (s : St) (a : Act) (w : World), L.length = n → Fits C s a w → NM s (ds fs) → Ord fs → Paired tb L fs → (∀ k o, all[k]? = some o → listed.getD k false = true → ∀ e ∈ o.after.toList, Region.binds .any e = true → listed.getD e.on false = true) →
    L.Pairwise (fun x y => x.1 < y.1) → (∀ x ∈ L, ops[x.1]? = some x.2 ∧ listed.getD x.1 true = false) → (∀ k o, ops[k]? = some o → listed.getD k true = false → (k, o) ∈ L) → listed.size = ops.size →
    (∀ x ∈ L, ∀ e ∈ x.2.after.toList, Region.binds .any e = true → e.on < x.1) →
    (∀ X, ∃ τ obs, exec std T cs X all L s = some (τ, obs, fs) ∧ AllOb P obs ∧ ∀ a' w', Fits C τ a' w' → Q .normal a' w') → wpAny P .any ops Q n listed a w
  | 0, L, fs, listed, s, a, w, hn, h, hNM, hF, hP, hDC, hsr, hL, hA, hsz, hE, hs => by
    have : L = [] := List.eq_nil_of_length_eq_zero hn
    subst this
    refine ⟨?_, ?_⟩
    · cases hr : Region.ready .any ops listed with
      | nil => rfl
      | cons i r =>
        obtain ⟨h1, o, h2, _⟩ := mem_ready.1 (hr ▸ List.mem_cons_self : i ∈ Region.ready .any ops listed)
        cases hA i o h2 h1
    · obtain ⟨τ, obs, h1, _, h2⟩ := hs (fun _ => ⟨0, fun _ => none, fun _ => 0, fun _ => .empty⟩)
      simp only [exec, Option.some.injEq, Prod.mk.injEq] at h1
      obtain ⟨rfl, _⟩ := h1
      exact h2 a w h
  | n + 1, L, fs, listed, s, a, w, hn, h, hNM, hF, hP, hDC, hsr, hL, hA, hsz, hE, hs => by
    refine ⟨fun hr => ?_, fun i hi => ?_⟩
    · -- the first one that is left may come up
      exfalso
      cases L with
      | nil => cases hn
      | cons x L =>
        obtain ⟨i0, o0⟩ := x
        obtain ⟨h1, h2⟩ := hL (i0, o0) (by simp)
        have : i0 ∈ Region.ready .any ops listed := mem_ready.2 ⟨h2, o0, h1, fun e he hb => by
          have hlt := hE (i0, o0) (by simp) e (by simpa using he) hb
          simp only at hlt
          have hi0 : i0 < ops.size := (Array.getElem?_eq_some_iff.1 h1).1
          have hon : e.on < listed.size := by rw [hsz]; omega
          by_cases hl : listed.getD e.on false = true
          · exact hl
          · exfalso
            have hm := hA e.on _ (Array.getElem?_eq_getElem (by omega)) (getD_ft hon hl)
            rcases List.mem_cons.1 hm with he' | hm
            · injection he' with he'; omega
            · have := (List.pairwise_cons.1 hsr).1 _ hm
              simp only at this; omega⟩
        rw [hr] at this
        cases this
    · obtain ⟨h1, o, h2, h3⟩ := mem_ready.1 hi
      have hin := hA i o h2 h1
      obtain ⟨L1, L2, rfl⟩ := List.append_of_mem hin
      obtain ⟨fs1, f, fs2, hlen, rfl⟩ : ∃ fs1 f fs2, fs1.length = L1.length ∧ fs = fs1 ++ f :: fs2 := by
        have hl := hP.1
        simp only [List.length_append, List.length_cons] at hl
        have hlt : L1.length < fs.length := by omega
        refine ⟨fs.take L1.length, fs[L1.length], fs.drop (L1.length + 1), by simp; omega, ?_⟩
        rw [← List.drop_eq_getElem_cons hlt, List.take_append_drop]
      obtain ⟨hP1, hcm⟩ := pairsB_del hlen hP.2
      have hcomm : ∀ g ∈ fs1, comm g f = true := by
        intro g hg
        obtain ⟨k, hk⟩ := List.getElem?_of_mem hg
        have hkl : k < L1.length := by rw [← hlen]; exact (List.getElem?_eq_some_iff.1 hk).1
        rcases hcm k _ g (List.getElem?_eq_getElem hkl) hk with he | he
        · exfalso
          have h5 := (hL L1[k] (List.mem_append_left _ (List.getElem_mem hkl))).2
          have hr := htb _ _ he
          have dc : ∀ {i j : Nat}, WaitsFor all i j → (∀ o e, all[i]? = some o → e ∈ o.after.toList → Region.binds .any e = true → listed.getD e.on false = true) → listed.getD j false = true := by
            intro i j hr
            induction hr with
            | one h1 h2 h3 h4 => intro hi; rw [← h4]; exact hi _ _ h1 h2 h3
            | more h1 h2 h3 h4 ih => intro hi; exact ih fun o e g1 g2 g3 => hDC _ o g1 (hi _ _ h1 h2 h3) e g2 g3
          have h4 := dc hr fun o' e g1 g2 g3 => by
            have : o' = o := by
              have e1 : ops[i]? = some o' := by rw [hops]; simpa using g1
              rw [h2] at e1; injection e1 with e1; exact e1.symm
            subst this
            exact h3 e (by simpa using g2) g3
          rw [getD_tf h5] at h4
          cases h4
        · exact he
      have mf : ∀ X, ∃ δ ob, delta std T cs (X i) all i o s = some (δ, ob, f) ∧ AllOb P ob ∧ ∃ τ' obs', exec std T cs X all (L1 ++ L2) (s.app δ) = some (τ', obs', fs1 ++ fs2) ∧ AllOb P obs' ∧ ∀ a' w', Fits C τ' a' w' → Q .normal a' w' := by
        intro X
        obtain ⟨τ, obs, e1, e2, e3⟩ := hs X
        obtain ⟨δ, ob, g1, τ', obs', g2, g3, g4⟩ := moveFront (P := P) e1 hlen hNM hF hcomm
        exact ⟨δ, ob, g1, (g4 e2).1, τ', obs', g2, (g4 e2).2, fun a' w' hf => e3 a' w' (hf.alike g3)⟩
      have hsrt : (L1 ++ L2).Pairwise (fun x y => x.1 < y.1) := hsr.sublist (List.Sublist.append_left (List.sublist_cons_self _ _) _)
      have hnot : ∀ x ∈ L1 ++ L2, x.1 ≠ i := by
        intro x hx
        rw [List.pairwise_append] at hsr
        obtain ⟨p1, p2, p3⟩ := hsr
        rcases List.mem_append.1 hx with hx | hx
        · have := p3 x hx (i, o) (by simp); simp only at this; omega
        · have := (List.pairwise_cons.1 p2).1 x hx; simp only at this; omega
      have key := delta_ok (C := C) (K := fun a' w' => wpAny P .any ops Q n (listed.setIfInBounds i true) a' w') (Q := Q) (cs := cs) (i := i) (o := o) hT hops h (fun x => by
        obtain ⟨δ, ob, g1, g2, _⟩ := mf (fun _ => x)
        exact ⟨_, g1, g2⟩) (fun x r a' w' hr hf => by
        have hfo := delta_foot hr
        obtain ⟨δ, ob, f'⟩ := r
        obtain ⟨δ0, ob0, g0, _⟩ := mf (fun _ => x)
        rw [hr] at g0
        injection g0 with g0; injection g0 with q1 q2; injection q2 with q2 q3
        subst q1; subst q2; subst q3
        have hinF : ∀ g ∈ fs1 ++ fs2, g ∈ fs1 ++ f' :: fs2 := fun g hg => by
          rcases List.mem_append.1 hg with hg | hg
          · exact List.mem_append_left _ hg
          · exact List.mem_append_right _ (List.mem_cons_of_mem _ hg)
        obtain ⟨n1, n2⟩ := nm_of hfo (gs := fs1 ++ fs2) hNM (by simp) hinF (fun g hg => by
          rcases List.mem_append.1 hg with hg | hg
          · have := hcomm g hg
            simp only [comm, Bool.and_eq_true] at this
            exact this.1.1.1.1.1.1.1.1.1
          · exact (List.pairwise_cons.1 (List.pairwise_append.1 hF).2.1).1 g hg)
        refine any_ok hT hops htb n (L1 ++ L2) (fs1 ++ fs2) (listed.setIfInBounds i true) (s.app δ) a' w' ?_ hf n2 ?_ ?_ ?_ hsrt ?_ ?_ (by simpa using hsz) ?_ ?_
        · simp at hn ⊢; omega
        · exact hF.sublist (List.Sublist.append_left (List.sublist_cons_self _ _) _)
        · refine ⟨?_, hP1⟩
          have := hP.1
          simp at this ⊢; omega
        · intro k ok hk hu e he hb
          by_cases hki : k = i
          · subst hki
            have : ok = o := by
              have e1 : ops[k]? = some ok := by rw [hops]; simpa using hk
              rw [h2] at e1; injection e1 with e1; exact e1.symm
            subst this
            have hl := h3 e (by simpa using he) hb
            by_cases hei : e.on = k
            · have := hE (k, ok) hin e he hb
              simp only at this; omega
            · rw [getD_set_ne false (fun e' => hei e'.symm)]; exact hl
          · rw [getD_set_ne false (fun e' => hki e'.symm)] at hu
            have hl := hDC k ok hk hu e he hb
            by_cases hei : e.on = i
            · rw [hei] at hl
              have h5 := (hL (i, o) hin).2
              simp only at h5
              rw [getD_tf h5] at hl; cases hl
            · rw [getD_set_ne false (fun e' => hei e'.symm)]; exact hl
        · intro x' hx
          have hx' : x' ∈ L1 ++ (i, o) :: L2 := by
            rcases List.mem_append.1 hx with hx | hx
            · exact List.mem_append_left _ hx
            · exact List.mem_append_right _ (List.mem_cons_of_mem _ hx)
          obtain ⟨e1, e2⟩ := hL x' hx'
          refine ⟨e1, ?_⟩
          rw [getD_set_ne true (fun e => hnot x' hx e.symm)]
          exact e2
        · intro k ok hk hu
          by_cases hki : k = i
          · subst hki
            have hlt : k < listed.size := by rw [hsz]; exact (Array.getElem?_eq_some_iff.1 h2).1
            simp [Array.getD_eq_getD_getElem?, hlt] at hu
          · rw [getD_set_ne true (fun e => hki e.symm)] at hu
            have := hA k ok hk hu
            rcases List.mem_append.1 this with hx | hx
            · exact List.mem_append_left _ hx
            · rcases List.mem_cons.1 hx with hx | hx
              · injection hx with hx; exact absurd hx hki
              · exact List.mem_append_right _ hx
        · intro x' hx
          refine hE x' ?_
          rcases List.mem_append.1 hx with hx | hx
          · exact List.mem_append_left _ hx
          · exact List.mem_append_right _ (List.mem_cons_of_mem _ hx)
        · intro X
          obtain ⟨Y, hY, hYX⟩ : ∃ Y : Nat → Atom, Y i = x ∧ ∀ j, j ≠ i → Y j = X j := ⟨fun j => if j = i then x else X j, by simp, fun j hj => by simp [hj]⟩
          obtain ⟨δ1, ob1, g1, _, τ', obs', g2, g3, g4⟩ := mf Y
          rw [hY, hr] at g1
          injection g1 with g1; injection g1 with q1 _
          subst q1
          rw [exec_congr _ _ (fun x' hx => hYX x'.1 (hnot x' hx))] at g2
          exact ⟨τ', obs', g2, g3, g4⟩)
      unfold wpOp
      simp only [h2]
      by_cases hw : Region.wanted o (yielded ops a.tmps) = true
      · rw [if_pos hw] at key ⊢
        exact .inl key
      · rw [if_neg hw] at key ⊢
        exact key
/-- a region that draws its order -/
theorem drawn_ok {s : St} {a : Act} {w : World} {id : Nat} {l : List Oper} (hm : P.follows .mixedOrders = true) (hT : TabOK P T) (kp km : List Nat) (cs : List (Nat × CS)) (h : Fits C s a w) (hgs : s.gs = []) (fs : List Foot) (hD : drawB l fs = true) (hlen : l.length = fs.length)
    {R : Alg → (Nat → Atom) → St × List Ob}
    (hex : ∀ A X, (exec A T cs X l (number 0 l) s).map (fun r => ((r.1.keep kp km, r.2.1), r.2.2)) = some (R A X, fs)) (hob : ∀ X, AllOb P (R std X).2) (hQ : ∀ X a' w', Fits C (R std X).1 a' w' → Q .normal a' w') : (Code.region id l.toArray true).wp P Q a w := by
  simp only [drawB, Bool.and_eq_true] at hD
  obtain ⟨⟨d1, d2⟩, d3⟩ := hD
  refine wp_region_any hm ?_
  have hf : Fits C s a { w with drawn := w.drawn + 1 } := h.world (fun _ _ _ => rfl) (fun _ _ _ _ _ => rfl) ⟨h.chg.os, h.chg.tape, h.chg.output, h.chg.size, h.chg.block⟩ (fun _ _ _ hc _ => hc)
  have hnl : ∀ (l : List Oper) (i : Nat), (number i l).length = l.length := by
    intro l
    induction l with
    | nil => intro i; rfl
    | cons o l ih => intro i; simp [number, ih]
  have hsz : l.toArray.size = (number 0 l).length := by simp [hnl]
  rw [hsz]
  refine any_ok (cs := cs) (all := l) (tb := masks l []) hT rfl (masks_ok (l := l) (tb := []) rfl (fun i j h => by simp at h)) _ (number 0 l) fs _ s a _ rfl hf (fun t p v hl => by rw [hgs] at hl; cases hl) ?_ ⟨by rw [hnl]; exact hlen, d1⟩ ?_ (number_sorted l 0) ?_ ?_ (by simp [hnl]) ?_ ?_
  · exact ordB_ok d3
  · intro k o hk hu
    exfalso
    by_cases hk' : k < (number 0 l).length
    · simp [Array.getD_eq_getD_getElem?, hk'] at hu
    · simp [Array.getD_eq_getD_getElem?, hk'] at hu
  · intro x hx
    obtain ⟨h1, h2⟩ := number_get hx
    rw [Nat.sub_zero] at h2
    refine ⟨by simpa using h2, ?_⟩
    have hlt := (List.getElem?_eq_some_iff.1 h2).1
    simp [Array.getD_eq_getD_getElem?, hnl, hlt]
  · intro k o hk _
    have := number_mem (i := 0) (l := l) (k := k) (o := o) (by simpa using hk)
    rwa [Nat.zero_add] at this
  · have ed : ∀ (L : List (Nat × Oper)), edgesB L = true → ∀ x ∈ L, ∀ e ∈ x.2.after.toList, Region.binds .any e = true → e.on < x.1 := by
      intro L
      induction L with
      | nil => intro _ x hx; cases hx
      | cons y L ih =>
        obtain ⟨i, o⟩ := y
        intro hL x hx e he hb
        simp only [edgesB, Bool.and_eq_true] at hL
        rcases List.mem_cons.1 hx with rfl | hx
        · have := List.all_eq_true.1 hL.1 e he
          simpa [hb] using this
        · exact ih hL.2 x hx e he hb
    exact ed _ d2
  · intro X
    obtain ⟨r, hr, e⟩ := Option.map_eq_some_iff.1 (hex std X)
    obtain ⟨τ, obs, fs'⟩ := r
    simp only [Prod.mk.injEq] at e
    obtain ⟨e1, rfl⟩ := e
    refine ⟨τ, obs, hr, ?_, fun a' w' hf' => hQ X a' w' ?_⟩
    · have := hob X; rw [← e1] at this; exact this
    · rw [← e1]; exact hf'.keep kp km
end
end Go.Proofs.Ytkamdppnnhjajaa.Sym
