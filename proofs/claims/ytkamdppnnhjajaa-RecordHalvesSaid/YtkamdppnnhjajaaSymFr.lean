/-
  A call by hand whose result is a row that the caller owns. Over any program. Conditions: none.
-/
import Derived.Test.YtkamdppnnhjajaaSymDf
namespace Go.Proofs.Ytkamdppnnhjajaa.Sym
open Go.RowKit
set_option linter.unusedVariables false
set_option linter.unusedSimpArgs false

theorem Fits.fresh {C : Cx} {s : St} {a : Act} {w w' : World} (h : Fits C s a w) (hb : Below w.heap.size w w') (key : Nat) {t : Gr} (hk : 0 < t.k) {xs : List Value} (hO : Own w' w.heap.size t.e t.k t.v t.n xs) :
    Fits C (s.eff (.grow key t)) a w' := by
  have hcell : ∀ b o u, w.cell? ⟨b, o, none⟩ = some u → w'.cell? ⟨b, o, none⟩ = some u := fun b o u hc => by
    rw [hb.cell (World.block_lt_of_cell? w _ hc)]; exact hc
  have hlt : ∀ b, ownB t.v = some b → w.heap.size ≤ b := fun b hv => (hO.lt b hv).1
  have hm : ∀ b o, b < w.heap.size → ¬ s.m C b o → ¬ (s.eff (.grow key t)).m C b o := by
    intro b o hbl hn hm
    rcases hm with hm | hm | ⟨k', t', ht', hv, hm⟩
    · exact hn (.inl hm)
    · exact hn (.inr (.inl hm))
    · rcases lookM_eff ht' with ⟨_, rfl⟩ | ⟨_, ht'⟩
      · have := hlt b hv; omega
      · exact hn (.inr (.inr ⟨k', t', ht', hv, hm⟩))
  have mono : ∀ v, Ok (s.m C) w v → Ok ((s.eff (.grow key t)).m C) w' v := fun v hv => hv.mono fun b o u h1 h2 => ⟨hcell b o u h1, hm b o (World.block_lt_of_cell? w _ h1) h2⟩
  have hsz := h.chg.size
  refine ⟨h.size, h.defers, fun t ht => ⟨(h.slot t ht).1, mono _ (h.slot t ht).2⟩, fun t p v he hk => ⟨fun hp => ⟨((h.gs t p v he hk).1 hp).1, mono _ ((h.gs t p v he hk).1 hp).2⟩, (h.gs t p v he hk).2⟩, ?_, h.nodup, ?_, ?_, ?_, ?_, h.m0⟩
  · intro k e he
    obtain ⟨h1, h2, h3⟩ := h.mem k e he
    exact ⟨(hb.block _ (lt_of_heap h1)).trans h1, fun v hv => ⟨(h2 v hv).1, mono _ (h2 v hv).2⟩, h3⟩
  · intro k t' ht'
    rcases lookM_eff ht' with ⟨_, rfl⟩ | ⟨hne, ht'⟩
    · exact ⟨hk, _, hO.mono hsz⟩
    · obtain ⟨h1, xs', h2⟩ := h.gr k t' ht'
      exact ⟨h1, xs', h2.keep fun b hv => hb.block b (h2.lt b hv).2⟩
  · intro k t' k' e ht' he
    rcases lookM_eff ht' with ⟨_, rfl⟩ | ⟨_, ht'⟩
    · intro hv
      have := hlt _ hv
      have := lt_of_heap (h.mem k' e he).1
      omega
    · exact h.sepm k t' k' e ht' he
  · intro k1 t1 k2 t2 b h1 h2 hne hv hv'
    rcases lookM_eff h1 with ⟨e1, r1⟩ | ⟨e1, g1⟩
    · rcases lookM_eff h2 with ⟨e2, _⟩ | ⟨e2, g2⟩
      · exact hne (e1.trans e2.symm)
      · obtain ⟨_, xs', ho'⟩ := h.gr k2 t2 g2
        have := (ho'.lt _ hv').2
        have := hlt _ (r1 ▸ hv)
        omega
    · rcases lookM_eff h2 with ⟨e2, r2⟩ | ⟨e2, g2⟩
      · obtain ⟨_, xs', ho'⟩ := h.gr k1 t1 g1
        have := (ho'.lt _ hv).2
        have := hlt _ (r2 ▸ hv')
        omega
      · exact h.sepg k1 t1 k2 t2 b g1 g2 hne hv hv'
  · exact h.chg.trans (Chg.of_new (S := fun _ => False) hb) fun k hk e => e.elim
/-- an owned row that is empty is known -/
theorem own_empty {m : Nat → Nat → Prop} {w : World} {B e k : Nat} {A : Option Addr} {c : Nat} {xs : List Value} (h : Own w B e k (.slice A 0 c) 0 xs) (g : Option Nat) (f : Nat → List AV) : Ok m w (.sl g A 0 c k f) := by
  obtain ⟨A', c', he, h1, h2⟩ := h.isSlice
  injection he with _ _ e3; subst e3
  exact .sl _ _ _ _ _ _ (Nat.zero_le _) h2 (fun i hi => absurd hi (Nat.not_lt_zero _)) (fun i hi => absurd hi (Nat.not_lt_zero _)) (fun i hi => absurd hi (Nat.not_lt_zero _)) (fun i hi => absurd hi (Nat.not_lt_zero _)) (fun i hi => absurd hi (Nat.not_lt_zero _))
section
variable {C : Cx} {P : Program} {Q : Exit → Act → World → Prop} {ops : Array Oper}
/-- a call by hand that yields an empty row of the caller's own -/
theorem man_fresh {s : St} {a : Act} {w : World} {L rest : List Oper} {o : Oper} {c : Call} {g : Operand} {f : FuncId} {l r args : List AV} {d : Nat} (hL : L = o :: rest) (hg : o.guard = none) (hop : o.op = .call c) (hcal : c.callee = .value g) (hdst : o.dst = some d) (h : Fits C s a w) (hgv : val s [] g = .fn f l r) (hl : vals s [] c.args.toList = some args) (hen : Enters P f) (hd : d < s.nt)
    {e k : Nat} (hk : 0 < k) (fc : Nat → List AV) (hc : Calls P f ((l ++ args ++ r).map AV.den).toArray w fun en w' => ∃ A' c', en = .returned (.slice A' 0 c') ∧ Own w' w.heap.size e k (.slice A' 0 c') 0 [] ∧ Below w.heap.size w w')
    (K : ∀ A' c' a' w', Fits C ((s.eff (.grow d ⟨A', 0, c', k, e⟩)).put (some d) (.sl (some d) A' 0 c' k fc)) a' w' → wpList P ops Q rest a' w') : wpList P ops Q L a w := by
  refine man_op hL hg ?_
  obtain ⟨hrun, hok⟩ := call_run hop hcal h hgv hl hen
  unfold Oper.wp
  rw [hrun]
  simp only [Oper.upon]
  refine hc.mono ?_
  rintro en w' ⟨A', c', rfl, hO, hb⟩
  have hf := h.fresh hb d (t := ⟨A', 0, c', k, e⟩) hk hO
  rw [hdst]
  refine K A' c' _ w' (hf.put (some d) (fun t ht => ?_) (.sl (some d) A' 0 c' k fc) (fun _ => own_empty hO _ _) _ fun _ => rfl)
  injection ht with ht
  subst ht
  rw [eff_nt]
  exact hd
/-- the same, where the arguments are told as they lie -/
theorem man_fresh2 {s : St} {a : Act} {w : World} {L rest : List Oper} {o : Oper} {c : Call} {f : FuncId} {argv : Array Value} {d : Nat} (hL : L = o :: rest) (hg : o.guard = none) (hop : o.op = .call c) (hcal : c.callee = .value (.func f)) (hdst : o.dst = some d) (h : Fits C s a w) (hav : c.args.map a.eval = argv) (hen : Enters P f) (hd : d < s.nt)
    {e k : Nat} (hk : 0 < k) (fc : Nat → List AV) (hc : Calls P f argv w fun en w' => ∃ A' c', en = .returned (.slice A' 0 c') ∧ Own w' w.heap.size e k (.slice A' 0 c') 0 [] ∧ Below w.heap.size w w')
    (K : ∀ A' c' a' w', Fits C ((s.eff (.grow d ⟨A', 0, c', k, e⟩)).put (some d) (.sl (some d) A' 0 c' k fc)) a' w' → wpList P ops Q rest a' w') : wpList P ops Q L a w := by
  refine man_op hL hg ?_
  have hrun : (execOp a.eval o).run P w = .ok (.enter f argv) w := by
    have hent := hen argv w
    have e1 := (val_ok h (q := []) (fun _ h => by cases h) (x := .func f) rfl).1
    have e2 : a.eval (.func f) = .func (.func f) #[] #[] := by simpa [val, AV.den, AV.denL] using e1
    simp [execOp, hop, resolve, hcal, e2, Deferred.ofValue, invoke, hav]
    simpa using hent
  unfold Oper.wp
  rw [hrun]
  simp only [Oper.upon]
  refine hc.mono ?_
  rintro en w' ⟨A', c', rfl, hO, hb⟩
  have hf := h.fresh hb d (t := ⟨A', 0, c', k, e⟩) hk hO
  rw [hdst]
  refine K A' c' _ w' (hf.put (some d) (fun t ht => ?_) (.sl (some d) A' 0 c' k fc) (fun _ => own_empty hO _ _) _ fun _ => rfl)
  injection ht with ht
  subst ht
  rw [eff_nt]
  exact hd
/-- an integer slot, evaluated -/
theorem eval_int {s : St} {a : Act} {w : World} (h : Fits C s a w) {t : Nat} {k : IntKind} {n : Int} (hv : val s [] (.tmp t) = .int k n) : a.eval (.tmp t) = .int k n := by
  have e1 := (val_ok h (q := []) (fun _ h => by cases h) (x := .tmp t) (by rw [hv]; rfl)).1
  rw [hv] at e1
  exact e1
end
end Go.Proofs.Ytkamdppnnhjajaa.Sym
