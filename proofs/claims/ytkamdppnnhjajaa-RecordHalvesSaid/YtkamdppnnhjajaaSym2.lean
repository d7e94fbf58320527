/-
  The symbolic executor's states under what an operation does to memory: a new block, a new row, a store, a call. No program in sight. Conditions: none.
-/
import Derived.Test.YtkamdppnnhjajaaSym1
namespace Go.Proofs.Ytkamdppnnhjajaa.Sym
open Go.RowKit
set_option linter.unusedVariables false
set_option linter.unusedSimpArgs false

/-- what an operation does to memory -/
inductive Eff where
  | no
  | new (key : Nat) (b : Blk)
  | set (key : Nat) (b : Blk)
  | grow (key : Nat) (t : Gr)
  | sets (l : List (Nat × Blk))
def setsM : List (Nat × Blk) → List (Nat × Blk) → List (Nat × Blk)
  | [], M => M
  | (k, b) :: l, M => (k, b) :: delM (setsM l M) k
def St.eff (s : St) : Eff → St
  | .no => s
  | .new key b => { s with mem := (key, b) :: delM s.mem key }
  | .set key b => { s with mem := (key, b) :: delM s.mem key }
  | .grow key t => { s with gr := (key, t) :: delM s.gr key }
  | .sets l => { s with mem := setsM l s.mem }
theorem lookM_setsM (M : List (Nat × Blk)) (k : Nat) : ∀ l : List (Nat × Blk), lookM (setsM l M) k = (lookM l k).or (lookM M k)
  | [] => by simp [setsM, lookM]
  | (k', b) :: l => by
    simp only [setsM, lookM_cons, lookM_del, lookM_setsM M k l]
    by_cases h : k' = k <;> simp [h]
theorem lookM_mem {α : Type} {l : List (Nat × α)} {k : Nat} {e : α} (h : lookM l k = some e) : (k, e) ∈ l := by
  induction l with
  | nil => cases h
  | cons x l ih =>
    obtain ⟨k', e'⟩ := x
    rw [lookM_cons] at h
    split at h
    · rename_i hk; injection h with h; subst hk; subst h; simp
    · exact List.mem_cons_of_mem _ (ih h)
/-- the slot d gets v -/
def St.put (s : St) (d : Option Nat) (v : AV) : St :=
  match d with
  | none => s
  | some d => { s with tmps := (d, v) :: s.tmps, gs := dropG s.gs d }
/-- the slot d gets v, if p holds -/
def St.putG (s : St) (d : Nat) (p : List (Nat × Bool)) (v : AV) : St := { s with tmps := (d, .undef) :: s.tmps, gs := (d, p, v) :: dropG s.gs d }

theorem path_put {a : Act} {d : Nat} {u : Value} {p : List (Nat × Bool)} (h : ∀ x ∈ p, x.1 ≠ d) : Path (a.put (some d) u) p ↔ Path a p := by
  constructor
  · intro h' x hx
    have := h' x hx
    simp only [Act.put] at this
    rwa [Array.getElem?_setIfInBounds_ne (fun e => h x hx e.symm)] at this
  · intro h' x hx
    simp only [Act.put]
    rw [Array.getElem?_setIfInBounds_ne (fun e => h x hx e.symm)]
    exact h' x hx

section
variable {C : Cx} {s : St} {a : Act} {w w' : World}
theorem Fits.put (h : Fits C s a w) (d : Option Nat) (hd : ∀ t, d = some t → t < s.nt) (v : AV) (hv : v.known = true → Ok (s.m C) w v) (u : Value) (hu : v.known = true → u = v.den) : Fits C (s.put d v) (a.put d u) w := by
  cases d with
  | none => exact h
  | some d =>
    refine ⟨by simpa [Act.put, St.put] using h.size, h.defers, ?_, ?_, h.mem, h.nodup, h.gr, h.sepm, h.sepg, h.chg, h.m0⟩
    · intro t ht
      simp only [St.put, look_cons] at ht ⊢
      by_cases he : d = t
      · subst he
        rw [if_pos rfl] at ht ⊢
        refine ⟨?_, hv ht⟩
        simp only [Act.put]
        rw [Array.getElem?_setIfInBounds_self_of_lt (by rw [h.size]; exact hd d rfl), hu ht]
      · rw [if_neg he] at ht ⊢
        have := h.slot t ht
        refine ⟨?_, this.2⟩
        simp only [Act.put]
        rw [Array.getElem?_setIfInBounds_ne he]
        exact this.1
    · intro t p v' hg hk
      simp only [St.put, lookG_drop] at hg
      split at hg
      · cases hg
      · rename_i hne
        obtain ⟨x, hx, he⟩ := Option.map_eq_some_iff.1 hg
        unfold kill at he
        split at he
        · injection he with h1 h2; subst h2; cases hk
        · rename_i hm
          subst he
          have h4 := h.gs t p v' hx hk
          rw [path_put (not_mentions hm)]
          simp only [Act.put]
          rw [Array.getElem?_setIfInBounds_ne hne]
          exact h4
theorem Fits.putG (h : Fits C s a w) (d : Nat) (hd : d < s.nt) (p : List (Nat × Bool)) (hp : ∀ x ∈ p, x.1 ≠ d) (v : AV) (u : Value)
    (hu : (Path a p → u = v.den ∧ Ok (s.m C) w v) ∧ (¬ Path a p → u = Go.undef)) : Fits C (s.putG d p v) (a.put (some d) u) w := by
  have h0 := h.put (some d) (fun t ht => by injection ht with ht; omega) .undef (fun hk => by cases hk) u (fun hk => by cases hk)
  refine ⟨h0.size, h0.defers, h0.slot, ?_, h0.mem, h0.nodup, h0.gr, h0.sepm, h0.sepg, h0.chg, h0.m0⟩
  intro t p' v' hg hk
  have hg' : lookG ((d, p, v) :: dropG s.gs d) t = some (p', v') := hg
  rw [lookG_cons] at hg'
  split at hg'
  · rename_i he
    subst he
    injection hg' with hg'; injection hg' with e1 e2; subst e1; subst e2
    have hs : ∀ x : Value, (a.put (some d) x).tmps[d]? = some x := fun x => by
      simp only [Act.put]
      rw [Array.getElem?_setIfInBounds_self_of_lt (by rw [h.size]; exact hd)]
    rw [path_put hp, hs u]
    exact ⟨fun hh => by rw [(hu.1 hh).1]; exact ⟨rfl, (hu.1 hh).2⟩, fun hh => by rw [hu.2 hh]⟩
  · exact h0.gs t p' v' hg' hk
theorem Fits.world (h : Fits C s a w) (hm : ∀ k e, lookM s.mem k = some e → w'.heap[e.at_]? = w.heap[e.at_]?) (hg : ∀ k t b, lookM s.gr k = some t → ownB t.v = some b → w'.heap[b]? = w.heap[b]?) (hc : Chg C.S C.w0 w')
    (hcell : ∀ b o u, w.cell? ⟨b, o, none⟩ = some u → ¬ s.m C b o → w'.cell? ⟨b, o, none⟩ = some u) : Fits C s a w' := by
  have mono : ∀ {v}, Ok (s.m C) w v → Ok (s.m C) w' v := fun hv => hv.mono fun b o u h1 h2 => ⟨hcell b o u h1 h2, h2⟩
  refine ⟨h.size, h.defers, fun t ht => ⟨(h.slot t ht).1, mono (h.slot t ht).2⟩, fun t p v he hk => ⟨fun hp => ⟨((h.gs t p v he hk).1 hp).1, mono ((h.gs t p v he hk).1 hp).2⟩, (h.gs t p v he hk).2⟩, fun k e he => ?_, h.nodup, fun k t ht => ?_, h.sepm, h.sepg, hc, h.m0⟩
  · obtain ⟨h1, h2, h3⟩ := h.mem k e he
    exact ⟨(hm k e he).trans h1, fun v hv => ⟨(h2 v hv).1, mono (h2 v hv).2⟩, h3⟩
  · obtain ⟨h1, xs, h2⟩ := h.gr k t ht
    exact ⟨h1, xs, h2.keep fun g hv => hg k t g ht hv⟩
theorem Fits.below (h : Fits C s a w) (hb : Below w.heap.size w w') : Fits C s a w' :=
  h.world (fun k e he => hb.block _ (lt_of_heap (h.mem k e he).1)) (fun k t b ht hv => by obtain ⟨_, xs, ho⟩ := h.gr k t ht; exact hb.block _ (ho.lt b hv).2) (h.chg.trans (Chg.of_new (S := fun _ => False) hb) fun _ _ x => x.elim) fun b o u h1 _ => (hb.cell (World.block_lt_of_cell? w _ h1)).trans h1
theorem below_alloc (w : World) (o : Obj) : Below w.heap.size w (w.alloc o) := (Below.refl _ _).alloc (Nat.le_refl _) _
theorem lookM_eff {α : Type} {l : List (Nat × α)} {key : Nat} {b : α} {k : Nat} {e : α} (h : lookM ((key, b) :: delM l key) k = some e) : (k = key ∧ e = b) ∨ (k ≠ key ∧ lookM l k = some e) := by
  rw [lookM_cons, lookM_del] at h
  split at h
  · rename_i he; injection h with h; exact .inl ⟨he.symm, h.symm⟩
  · rename_i he; exact .inr ⟨fun x => he x.symm, h⟩
theorem Fits.new (h : Fits C s a w) (key : Nat) (ty : TypeId) (cells : List AV) (hc : ∀ v ∈ cells, v.one = true ∧ Ok (s.m C) w v) :
    Fits C (s.eff (.new key ⟨w.heap.size, ty, cells⟩)) a (w.alloc (.cells (cells.map AV.den).toArray ty)) ∧ (∀ v, Ok (s.m C) w v → Ok ((s.eff (.new key ⟨w.heap.size, ty, cells⟩)).m C) (w.alloc (.cells (cells.map AV.den).toArray ty)) v) := by
  have hb := below_alloc w (.cells (cells.map AV.den).toArray ty)
  have h1 := h.below hb
  have hm : ∀ b o, b < w.heap.size → ¬ s.m C b o → ¬ (s.eff (.new key ⟨w.heap.size, ty, cells⟩)).m C b o := by
    intro b o hlt hn hm
    rcases hm with hm | ⟨k, e, he, hm⟩ | hm
    · exact hn (.inl hm)
    · rcases lookM_eff he with ⟨_, rfl⟩ | ⟨_, he⟩
      · simp only at hm; omega
      · exact hn (.inr (.inl ⟨k, e, he, hm⟩))
    · exact hn (.inr (.inr hm))
  have mono : ∀ v, Ok (s.m C) w v → Ok ((s.eff (.new key ⟨w.heap.size, ty, cells⟩)).m C) (w.alloc (.cells (cells.map AV.den).toArray ty)) v := fun v hv => hv.mono fun b o u h2 h3 =>
    have hl := World.block_lt_of_cell? w _ h2
    ⟨(hb.cell hl).trans h2, hm b o hl h3⟩
  refine ⟨⟨h.size, h.defers, fun t ht => ⟨(h.slot t ht).1, mono _ (h.slot t ht).2⟩, fun t p v he hk => ⟨fun hp => ⟨((h.gs t p v he hk).1 hp).1, mono _ ((h.gs t p v he hk).1 hp).2⟩, (h.gs t p v he hk).2⟩, ?_, ?_, h1.gr, ?_, h.sepg, h1.chg, h.m0⟩, mono⟩
  · intro k e he
    rcases lookM_eff he with ⟨_, rfl⟩ | ⟨_, he⟩
    · exact ⟨heap_alloc_new w _, fun v hv => ⟨(hc v hv).1, mono _ (hc v hv).2⟩, .inl h.chg.size⟩
    · obtain ⟨h2, h3, h4⟩ := h.mem k e he
      exact ⟨(hb.block _ (lt_of_heap h2)).trans h2, fun v hv => ⟨(h3 v hv).1, mono _ (h3 v hv).2⟩, h4⟩
  · intro k k' e e' he he' hne
    rcases lookM_eff he with ⟨h2, rfl⟩ | ⟨h2, he⟩
    · rcases lookM_eff he' with ⟨h3, _⟩ | ⟨h3, he'⟩
      · exact absurd (h2.trans h3.symm) hne
      · have := lt_of_heap (h.mem k' e' he').1
        simp only; omega
    · rcases lookM_eff he' with ⟨h3, rfl⟩ | ⟨h3, he'⟩
      · have := lt_of_heap (h.mem k e he).1
        simp only; omega
      · exact h.nodup k k' e e' he he' hne
  · intro k t k' e ht he hv
    rcases lookM_eff he with ⟨_, rfl⟩ | ⟨_, he⟩
    · obtain ⟨_, xs, ho⟩ := h.gr k t ht
      have := (ho.lt _ hv).2
      simp only at this; omega
    · exact h.sepm k t k' e ht he hv
theorem Fits.set (h : Fits C s a w) {key : Nat} {b : Blk} (hin : lookM s.mem key = some b) (cells : List AV) (hc : ∀ v ∈ cells, v.one = true ∧ Ok (s.m C) w v) :
    Fits C (s.eff (.set key ⟨b.at_, b.ty, cells⟩)) a (w.setRow b.at_ (cells.map AV.den).toArray) := by
  obtain ⟨hh, _, hs⟩ := h.mem _ _ hin
  have hother : ∀ k, k ≠ b.at_ → (w.setRow b.at_ (cells.map AV.den).toArray).heap[k]? = w.heap[k]? := fun k hne => setRow_other w b.at_ k _ (fun e => hne e)
  have hself := setRow_heap w b.at_ _ (cells.map AV.den).toArray b.ty (0, 0) hh
  have hm : ∀ b' o, ¬ s.m C b' o → ¬ (s.eff (.set key ⟨b.at_, b.ty, cells⟩)).m C b' o := by
    intro b' o hn hm
    rcases hm with hm | ⟨k, e, he, hm⟩ | hm
    · exact hn (.inl hm)
    · rcases lookM_eff he with ⟨_, rfl⟩ | ⟨_, he⟩
      · exact hn (.inr (.inl ⟨_, _, hin, hm⟩))
      · exact hn (.inr (.inl ⟨k, e, he, hm⟩))
    · exact hn (.inr (.inr hm))
  have mono : ∀ {v}, Ok (s.m C) w v → Ok ((s.eff (.set key ⟨b.at_, b.ty, cells⟩)).m C) (w.setRow b.at_ (cells.map AV.den).toArray) v := fun hv => hv.mono fun b' o u h2 h3 => by
    have hne : b' ≠ b.at_ := fun e => h3 (.inr (.inl ⟨_, _, hin, e.symm⟩))
    refine ⟨?_, hm _ _ h3⟩
    unfold World.cell? at h2 ⊢
    rw [hother _ hne]; exact h2
  refine ⟨h.size, h.defers, fun t ht => ⟨(h.slot t ht).1, mono (h.slot t ht).2⟩, fun t p v he hk => ⟨fun hp => ⟨((h.gs t p v he hk).1 hp).1, mono ((h.gs t p v he hk).1 hp).2⟩, (h.gs t p v he hk).2⟩, ?_, ?_, ?_, ?_, h.sepg, ?_, h.m0⟩
  · intro k e he
    rcases lookM_eff he with ⟨_, rfl⟩ | ⟨hne, he⟩
    · exact ⟨hself, fun v hv => ⟨(hc v hv).1, mono (hc v hv).2⟩, hs⟩
    · obtain ⟨h3, h4, h5⟩ := h.mem k e he
      exact ⟨(hother _ (h.nodup k key e b he hin hne)).trans h3, fun v hv => ⟨(h4 v hv).1, mono (h4 v hv).2⟩, h5⟩
  · intro k k' e e' he he' hne
    rcases lookM_eff he with ⟨h2, rfl⟩ | ⟨h2, he⟩
    · rcases lookM_eff he' with ⟨h3, _⟩ | ⟨h3, he'⟩
      · exact absurd (h2.trans h3.symm) hne
      · exact h.nodup key k' b e' hin he' (fun x => h3 x.symm)
    · rcases lookM_eff he' with ⟨h3, rfl⟩ | ⟨h3, he'⟩
      · exact h.nodup k key e b he hin h2
      · exact h.nodup k k' e e' he he' hne
  · intro k t ht
    obtain ⟨h1, xs, h2⟩ := h.gr k t ht
    exact ⟨h1, xs, h2.keep fun g hv => hother g fun e => h.sepm k t key b ht hin (e ▸ hv)⟩
  · intro k t k' e ht he hv
    rcases lookM_eff he with ⟨_, rfl⟩ | ⟨_, he⟩
    · exact h.sepm k t key b ht hin hv
    · exact h.sepm k t k' e ht he hv
  · refine h.chg.trans (S' := fun k => k = b.at_) ⟨rfl, rfl, rfl, by simp [World.setRow], fun k _ hn => hother k hn⟩ fun k hk e => ?_
    subst e
    rcases hs with hs | hs
    · omega
    · exact hs
/-- a row that may grow, of nothing -/
theorem Fits.nilTok (h : Fits C s a w) (key : Nat) (k : Nat) (e : TypeId) (hk : 0 < k) : Fits C (s.eff (.grow key ⟨none, 0, 0, k, e⟩)) a w ∧ ∀ v, Ok (s.m C) w v → Ok ((s.eff (.grow key ⟨none, 0, 0, k, e⟩)).m C) w v := by
  have hm : ∀ b o, ¬ s.m C b o → ¬ (s.eff (.grow key ⟨none, 0, 0, k, e⟩)).m C b o := by
    intro b o hn hm
    rcases hm with hm | hm | ⟨k', t, ht, hv, hm⟩
    · exact hn (.inl hm)
    · exact hn (.inr (.inl hm))
    · rcases lookM_eff ht with ⟨_, rfl⟩ | ⟨_, ht⟩
      · simp [Gr.v, ownB] at hv
      · exact hn (.inr (.inr ⟨k', t, ht, hv, hm⟩))
  have mono : ∀ v, Ok (s.m C) w v → Ok ((s.eff (.grow key ⟨none, 0, 0, k, e⟩)).m C) w v := fun v hv => hv.mono fun b o u h1 h2 => ⟨h1, hm b o h2⟩
  refine ⟨⟨h.size, h.defers, fun t ht => ⟨(h.slot t ht).1, mono _ (h.slot t ht).2⟩, fun t p v he hk => ⟨fun hp => ⟨((h.gs t p v he hk).1 hp).1, mono _ ((h.gs t p v he hk).1 hp).2⟩, (h.gs t p v he hk).2⟩, ?_, h.nodup, ?_, ?_, ?_, h.chg, h.m0⟩, mono⟩
  · intro k e he
    obtain ⟨h1, h2, h3⟩ := h.mem k e he
    exact ⟨h1, fun v hv => ⟨(h2 v hv).1, mono _ (h2 v hv).2⟩, h3⟩
  · intro k' t ht
    rcases lookM_eff ht with ⟨_, rfl⟩ | ⟨_, ht⟩
    · exact ⟨hk, [], Own.nil w _ e k none⟩
    · exact h.gr k' t ht
  · intro k' t k2 b ht hb
    rcases lookM_eff ht with ⟨_, rfl⟩ | ⟨_, ht⟩
    · simp [Gr.v, ownB]
    · exact h.sepm k' t k2 b ht hb
  · intro k1 t1 k2 t2 b h1 h2 hne hv
    rcases lookM_eff h1 with ⟨_, rfl⟩ | ⟨_, h1⟩
    · simp [Gr.v, ownB] at hv
    · rcases lookM_eff h2 with ⟨_, rfl⟩ | ⟨_, h2⟩
      · simp [Gr.v, ownB]
      · exact h.sepg k1 t1 k2 t2 b h1 h2 hne hv
end
section
variable {C : Cx} {s : St} {a : Act} {w : World}
/-- a row of its own is looked after from here on -/
theorem Fits.addRow (h : Fits C s a w) (key : Nat) (t : Gr) (hk : 0 < t.k) {xs : List Value} (ho : Own w C.w0.heap.size t.e t.k t.v t.n xs)
    (hb : ∀ b, ownB t.v = some b → (∀ k e, lookM s.mem k = some e → e.at_ ≠ b) ∧ (∀ k t', lookM s.gr k = some t' → ownB t'.v ≠ some b) ∧ ∀ o u, w.cell? ⟨b, o, none⟩ = some u → o < t.n * t.k) :
    Fits C (s.eff (.grow key t)) a w ∧ ∀ v, Ok (s.m C) w v → Ok ((s.eff (.grow key t)).m C) w v := by
  have mono : ∀ v, Ok (s.m C) w v → Ok ((s.eff (.grow key t)).m C) w v := fun v hv => hv.mono fun b o u h1 h2 => ⟨h1, fun hm => by
    rcases hm with hm | hm | ⟨k', t', ht, hv', hm⟩
    · exact h2 (.inl hm)
    · exact h2 (.inr (.inl hm))
    · rcases lookM_eff ht with ⟨_, rfl⟩ | ⟨_, ht⟩
      · have := (hb b hv').2.2 o u h1; omega
      · exact h2 (.inr (.inr ⟨k', t', ht, hv', hm⟩))⟩
  refine ⟨⟨h.size, h.defers, fun t ht => ⟨(h.slot t ht).1, mono _ (h.slot t ht).2⟩, fun t p v he hk => ⟨fun hp => ⟨((h.gs t p v he hk).1 hp).1, mono _ ((h.gs t p v he hk).1 hp).2⟩, (h.gs t p v he hk).2⟩, ?_, h.nodup, ?_, ?_, ?_, h.chg, h.m0⟩, mono⟩
  · intro k e he
    obtain ⟨h1, h2, h3⟩ := h.mem k e he
    exact ⟨h1, fun v hv => ⟨(h2 v hv).1, mono _ (h2 v hv).2⟩, h3⟩
  · intro k' t' ht
    rcases lookM_eff ht with ⟨_, rfl⟩ | ⟨_, ht⟩
    · exact ⟨hk, xs, ho⟩
    · exact h.gr k' t' ht
  · intro k' t' k2 b ht hm hv
    rcases lookM_eff ht with ⟨_, rfl⟩ | ⟨_, ht⟩
    · exact (hb _ hv).1 k2 b hm rfl
    · exact h.sepm k' t' k2 b ht hm hv
  · intro k1 t1 k2 t2 b h1 h2 hne hv
    rcases lookM_eff h1 with ⟨e1, rfl⟩ | ⟨_, g1⟩
    · rcases lookM_eff h2 with ⟨e2, rfl⟩ | ⟨_, h2⟩
      · exact absurd (e1.trans e2.symm) hne
      · exact (hb b hv).2.1 k2 t2 h2
    · rcases lookM_eff h2 with ⟨_, rfl⟩ | ⟨_, h2⟩
      · intro hv2; exact (hb b hv2).2.1 k1 t1 g1 hv
      · exact h.sepg k1 t1 k2 t2 b g1 h2 hne hv
end

/-! ### a call that changes blocks that are looked after, and makes new ones -/
/-- the blocks that a callee may change hold this -/
structure PreOk (m : Nat → Nat → Prop) (w : World) (pre : List (Nat × Blk)) : Prop where
  heap : ∀ e ∈ pre, w.heap[e.2.at_]? = some (.cells (e.2.cells.map AV.den).toArray e.2.ty (0, 0))
  ok : ∀ e ∈ pre, ∀ v ∈ e.2.cells, v.one = true ∧ Ok m w v
  free : ∀ e ∈ pre, ∀ o, m e.2.at_ o
  dist : pre.Pairwise fun e f => e.2.at_ ≠ f.2.at_
def ats (pre : List (Nat × Blk)) (b : Nat) : Prop := ∃ e ∈ pre, e.2.at_ = b
def mN (m : Nat → Nat → Prop) (news : List (Nat × Blk)) : Nat → Nat → Prop := fun b o => m b o ∨ ats news b
/-- the blocks, with new cells -/
def upd : List (Nat × Blk) → List (Nat × List AV) → List (Nat × Blk)
  | (k, b) :: l, (_, c) :: r => (k, ⟨b.at_, b.ty, c⟩) :: upd l r
  | _, _ => []
theorem upd_mem : ∀ {pre : List (Nat × Blk)} {r : List (Nat × List AV)} {e : Nat × Blk}, e ∈ upd pre r → ∃ e' ∈ pre, e'.1 = e.1 ∧ e'.2.at_ = e.2.at_ ∧ e'.2.ty = e.2.ty
  | [], r, e, h => by cases r <;> cases h
  | _ :: _, [], e, h => by cases h
  | (k, b) :: l, (k', c) :: r, e, h => by
    simp only [upd, List.mem_cons] at h
    rcases h with rfl | h
    · exact ⟨(k, b), by simp, rfl, rfl, rfl⟩
    · obtain ⟨e', h1, h2⟩ := upd_mem h
      exact ⟨e', List.mem_cons_of_mem _ h1, h2⟩
theorem upd_keys : ∀ {pre : List (Nat × Blk)} {r : List (Nat × List AV)}, r.map (·.1) = pre.map (·.1) → (upd pre r).map (·.1) = pre.map (·.1)
  | [], r, h => by cases r <;> rfl
  | _ :: _, [], h => by cases h
  | (k, b) :: l, (k', c) :: r, h => by
    simp only [List.map_cons, List.cons.injEq] at h
    simp only [upd, List.map_cons, upd_keys h.2]
theorem upd_dist : ∀ {pre : List (Nat × Blk)} {r : List (Nat × List AV)}, (pre.Pairwise fun e f => e.2.at_ ≠ f.2.at_) → ((upd pre r).Pairwise fun e f => e.2.at_ ≠ f.2.at_)
  | [], r, h => by cases r <;> exact .nil
  | _ :: _, [], h => .nil
  | (k, b) :: l, (k', c) :: r, h => by
    obtain ⟨h1, h2⟩ := List.pairwise_cons.1 h
    refine .cons (fun e he => ?_) (upd_dist h2)
    obtain ⟨e', g1, _, g2, _⟩ := upd_mem he
    rw [← g2]
    exact h1 e' g1
/-- what a callee left -/
structure Left (m : Nat → Nat → Prop) (w w' : World) (pre : List (Nat × Blk)) (sets : List (Nat × List AV)) (news : List (Nat × Blk)) : Prop where
  keys : sets.map (·.1) = pre.map (·.1)
  heap : ∀ e ∈ upd pre sets ++ news, w'.heap[e.2.at_]? = some (.cells (e.2.cells.map AV.den).toArray e.2.ty (0, 0))
  ok : ∀ e ∈ upd pre sets ++ news, ∀ v ∈ e.2.cells, v.one = true ∧ Ok (mN m news) w' v
  fresh : ∀ e ∈ news, w.heap.size ≤ e.2.at_
  dist : news.Pairwise fun e f => e.2.at_ ≠ f.2.at_
  chg : Chg (ats pre) w w'
theorem pairwise_ne {l : List (Nat × Blk)} (h : l.Pairwise fun e f => e.2.at_ ≠ f.2.at_) {e f : Nat × Blk} (he : e ∈ l) (hf : f ∈ l) (hne : e.1 ≠ f.1) : e.2.at_ ≠ f.2.at_ := by
  induction l with
  | nil => cases he
  | cons x l ih =>
    obtain ⟨h1, h2⟩ := List.pairwise_cons.1 h
    rcases List.mem_cons.1 he with he' | he'
    · rcases List.mem_cons.1 hf with hf' | hf'
      · subst he'; subst hf'; exact absurd rfl hne
      · subst he'; exact h1 _ hf'
    · rcases List.mem_cons.1 hf with hf' | hf'
      · subst hf'; exact (h1 _ he').symm
      · exact ih h2 he' hf'
section
variable {C : Cx} {s : St} {a : Act} {w w' : World}
theorem Fits.called (h : Fits C s a w) {pre : List (Nat × Blk)} (hdist : pre.Pairwise fun e f => e.2.at_ ≠ f.2.at_) (hp : ∀ e ∈ pre, lookM s.mem e.1 = some e.2) {sets : List (Nat × List AV)} {news : List (Nat × Blk)} (hl : Left (s.m C) w w' pre sets news) :
    Fits C (s.eff (.sets (upd pre sets ++ news))) a w' ∧ ∀ v, Ok (mN (s.m C) news) w' v → Ok ((s.eff (.sets (upd pre sets ++ news))).m C) w' v := by
  have tr : ∀ e ∈ pre, ∀ o, s.m C e.2.at_ o := fun e he o => .inr (.inl ⟨e.1, e.2, hp e he, rfl⟩)
  have hpre : ∀ {e}, e ∈ upd pre sets → ∃ e' ∈ pre, e'.1 = e.1 ∧ e'.2.at_ = e.2.at_ ∧ e'.2.ty = e.2.ty := fun h => upd_mem h
  -- what is looked up now
  have look : ∀ {k e}, lookM (setsM (upd pre sets ++ news) s.mem) k = some e → ((k, e) ∈ upd pre sets ∨ (k, e) ∈ news) ∨ (lookM (upd pre sets ++ news) k = none ∧ lookM s.mem k = some e) := by
    intro k e he
    rw [lookM_setsM] at he
    cases hk : lookM (upd pre sets ++ news) k with
    | some e' =>
      rw [hk] at he
      simp only [Option.some_or, Option.some.injEq] at he
      subst he
      exact .inl (List.mem_append.1 (lookM_mem hk))
    | none =>
      rw [hk] at he
      exact .inr ⟨rfl, by simpa using he⟩
  have other : ∀ {k e}, lookM (upd pre sets ++ news) k = none → lookM s.mem k = some e → ∀ e' ∈ pre, e'.2.at_ ≠ e.at_ := by
    intro k e hn he e' he'
    have hne : e'.1 ≠ k := by
      intro hk
      have hmem : k ∈ (upd pre sets ++ news).map (·.1) := by
        rw [List.map_append, upd_keys hl.keys]
        exact List.mem_append_left _ (List.mem_map.2 ⟨e', he', hk⟩)
      obtain ⟨x, hx, rfl⟩ := List.mem_map.1 hmem
      clear look
      have : ∀ (l : List (Nat × Blk)), x ∈ l → lookM l x.1 ≠ none := by
        intro l
        induction l with
        | nil => intro h; cases h
        | cons y l ih =>
          obtain ⟨ky, ey⟩ := y
          intro h
          rw [lookM_cons]
          split
          · simp
          · rename_i hne
            rcases List.mem_cons.1 h with h | h
            · subst h; exact absurd rfl hne
            · exact ih h
      exact this _ hx hn
    exact h.nodup _ _ _ _ (hp e' he') he hne
  have keepb : ∀ b, b < w.heap.size → ¬ ats pre b → w'.heap[b]? = w.heap[b]? := fun b hb hn => hl.chg.block b hb hn
  have hm : ∀ b o, b < w.heap.size → ¬ s.m C b o → ¬ (s.eff (.sets (upd pre sets ++ news))).m C b o := by
    intro b o hlt hn hm
    rcases hm with hm | ⟨k, e, he, hm⟩ | hm
    · exact hn (.inl hm)
    · rcases look he with (he | he) | ⟨_, he⟩
      · obtain ⟨e', h1, _, h2, _⟩ := hpre he
        exact hn (hm ▸ h2 ▸ tr e' h1 o)
      · have := hl.fresh _ he
        simp only at this hm
        omega
      · exact hn (.inr (.inl ⟨k, e, he, hm⟩))
    · exact hn (.inr (.inr hm))
  have hm' : ∀ b o, ¬ mN (s.m C) news b o → ¬ (s.eff (.sets (upd pre sets ++ news))).m C b o := by
    intro b o hn hm
    rcases hm with hm | ⟨k, e, he, hm⟩ | hm
    · exact hn (.inl (.inl hm))
    · rcases look he with (he | he) | ⟨_, he⟩
      · obtain ⟨e', h1, _, h2, _⟩ := hpre he
        exact hn (.inl (hm ▸ h2 ▸ tr e' h1 o))
      · exact hn (.inr ⟨_, he, hm⟩)
      · exact hn (.inl (.inr (.inl ⟨k, e, he, hm⟩)))
    · exact hn (.inl (.inr (.inr hm)))
  have mono0 : ∀ v, Ok (mN (s.m C) news) w' v → Ok ((s.eff (.sets (upd pre sets ++ news))).m C) w' v := fun v hv => hv.mono fun b o u h2 h3 => ⟨h2, hm' _ _ h3⟩
  have mono : ∀ {v}, Ok (s.m C) w v → Ok ((s.eff (.sets (upd pre sets ++ news))).m C) w' v := fun hv => hv.mono fun b o u h2 h3 => by
    have hlt := World.block_lt_of_cell? w _ h2
    refine ⟨?_, hm _ _ hlt h3⟩
    have hb := keepb b hlt fun ⟨e, he, hat⟩ => h3 (hat ▸ tr e he o)
    unfold World.cell? at h2 ⊢
    simp only at h2 ⊢
    rw [hb]; exact h2
  refine ⟨⟨h.size, h.defers, fun t ht => ⟨(h.slot t ht).1, mono (h.slot t ht).2⟩, fun t p v he hk => ⟨fun hp => ⟨((h.gs t p v he hk).1 hp).1, mono ((h.gs t p v he hk).1 hp).2⟩, (h.gs t p v he hk).2⟩, ?_, ?_, ?_, ?_, h.sepg, ?_, h.m0⟩, mono0⟩
  · intro k e he
    rcases look he with he | ⟨hn, he⟩
    · have hin := List.mem_append.2 he
      refine ⟨hl.heap _ hin, fun v hv => ⟨(hl.ok _ hin v hv).1, mono0 _ (hl.ok _ hin v hv).2⟩, ?_⟩
      rcases he with he | he
      · obtain ⟨e', h1, _, h2, _⟩ := hpre he
        have := (h.mem _ _ (hp e' h1)).2.2
        rw [h2] at this
        exact this
      · exact .inl (Nat.le_trans h.chg.size (hl.fresh _ he))
    · obtain ⟨h3, h4, h5⟩ := h.mem k e he
      refine ⟨(keepb _ (lt_of_heap h3) fun ⟨e', h1, h2⟩ => other hn he e' h1 h2).trans h3, fun v hv => ⟨(h4 v hv).1, mono (h4 v hv).2⟩, h5⟩
  · intro k k' e e' he he' hne
    have lt : ∀ {k e}, lookM s.mem k = some e → e.at_ < w.heap.size := fun he => lt_of_heap (h.mem _ _ he).1
    have ltu : ∀ {x}, x ∈ upd pre sets → x.2.at_ < w.heap.size := fun hx => by
      obtain ⟨x', h1, _, h2, _⟩ := hpre hx
      rw [← h2]; exact lt (hp _ h1)
    rcases look he with (he | he) | ⟨hn, he⟩
    · rcases look he' with (he' | he') | ⟨hn', he'⟩
      · exact pairwise_ne (upd_dist hdist) he he' hne
      · have h1 := ltu he; have h2 := hl.fresh _ he'; simp only at h1 h2; omega
      · obtain ⟨x', h1, _, h2, _⟩ := hpre he
        have := other hn' he' x' h1
        rw [h2] at this
        exact this
    · rcases look he' with (he' | he') | ⟨hn', he'⟩
      · have h1 := ltu he'; have h2 := hl.fresh _ he; simp only at h1 h2; omega
      · exact pairwise_ne hl.dist he he' hne
      · have h1 := lt he'; have h2 := hl.fresh _ he; simp only at h2; omega
    · rcases look he' with (he' | he') | ⟨hn', he'⟩
      · obtain ⟨x', h1, _, h2, _⟩ := hpre he'
        have := other hn he x' h1
        rw [h2] at this
        exact this.symm
      · have h1 := lt he; have h2 := hl.fresh _ he'; simp only at h2; omega
      · exact h.nodup k k' e e' he he' hne
  · intro k t ht
    obtain ⟨h1, xs, h2⟩ := h.gr k t ht
    exact ⟨h1, xs, h2.keep fun g hv => keepb g (h2.lt g hv).2 fun ⟨e, he, hat⟩ => h.sepm k t e.1 e.2 ht (hp e he) (hat ▸ hv)⟩
  · intro k t k' e ht he hv
    rcases look he with (he | he) | ⟨_, he⟩
    · obtain ⟨x', h1, _, h2, _⟩ := hpre he
      exact h.sepm k t x'.1 x'.2 ht (hp _ h1) (by rw [h2]; exact hv)
    · obtain ⟨_, xs, ho⟩ := h.gr k t ht
      have h1 := (ho.lt _ hv).2; have h2 := hl.fresh _ he
      simp only at h2; omega
    · exact h.sepm k t k' e ht he hv
  · refine h.chg.trans hl.chg fun k hk ⟨e, he, hat⟩ => ?_
    subst hat
    rcases (h.mem _ _ (hp e he)).2.2 with hs | hs
    · omega
    · exact hs
end
end Go.Proofs.Ytkamdppnnhjajaa.Sym
