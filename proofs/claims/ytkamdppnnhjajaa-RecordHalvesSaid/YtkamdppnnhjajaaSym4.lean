/-
  The symbolic executor is right: one operation. Over any program. Conditions: none.
-/
import Derived.Test.YtkamdppnnhjajaaSym3
namespace Go.Proofs.Ytkamdppnnhjajaa.Sym
open Go.RowKit
set_option linter.unusedVariables false
set_option linter.unusedSimpArgs false

section
variable {C : Cx} {s : St} {a : Act} {w : World} {P : Program}
theorem ofVal_den (v : Value) (h : (ofVal v).known = true) : (ofVal v).den = v ∧ ∀ m w, Ok m w (ofVal v) := by
  unfold ofVal at h ⊢
  split
  · exact ⟨rfl, fun m w => .int _ _⟩
  · exact ⟨rfl, fun m w => .bool _⟩
  · exact ⟨rfl, fun m w => .bool _⟩
  · split
    · rename_i hs; exact ⟨rfl, fun m w => .str _ (by simp only [maxLen]; omega)⟩
    · rename_i hs; simp [hs, AV.known] at h
  · exact ⟨rfl, fun m w => .nilp⟩
  · exact ⟨rfl, fun m w => .nili⟩
  · exact ⟨rfl, fun m w => .sl _ _ _ _ _ _ (Nat.le_refl _) (by simp) (fun i hi => by omega) (fun i hi => by omega) (fun i hi => by omega) (fun i hi => by omega) (fun i hi => by omega)⟩
  · exact ⟨rfl, fun m w => .raw _⟩
theorem val_ok (h : Fits C s a w) {q : List (Nat × Bool)} (hq : Path a q) {x : Operand} (hk : (val s q x).known = true) : a.eval x = (val s q x).den ∧ Ok (s.m C) w (val s q x) := by
  cases x with
  | tmp t =>
    simp only [val] at hk ⊢
    cases hg : lookG s.gs t with
    | none =>
      simp only [hg] at hk ⊢
      have := h.slot t hk
      refine ⟨?_, this.2⟩
      simp [Act.eval, this.1]
    | some e =>
      obtain ⟨p, v⟩ := e
      simp only [hg] at hk ⊢
      split at hk
      · rename_i hs
        rw [if_pos hs]
        have := (h.gs _ _ _ hg hk).1 (subP_path hs hq)
        refine ⟨?_, this.2⟩
        simp [Act.eval, this.1]
      · cases hk
  | const v =>
    simp only [val] at hk ⊢
    have := ofVal_den v hk
    exact ⟨this.1.symm, this.2 _ _⟩
  | func f => exact ⟨rfl, .fn _ _ _ (fun _ h => by cases h) (fun _ h => by cases h)⟩
  | global g => cases hk
theorem vals_ok (h : Fits C s a w) {q : List (Nat × Bool)} (hq : Path a q) : ∀ {l : List Operand} {r : List AV}, vals s q l = some r → l.map a.eval = r.map AV.den ∧ ∀ v ∈ r, Ok (s.m C) w v
  | [], r, hr => by simp [vals] at hr; subst hr; simp
  | x :: l, r, hr => by
    simp only [vals] at hr
    split at hr
    · rename_i hk
      obtain ⟨r', hr', rfl⟩ := Option.map_eq_some_iff.1 hr
      obtain ⟨h1, h2⟩ := vals_ok h hq hr'
      obtain ⟨h3, h4⟩ := val_ok h hq hk
      refine ⟨by simp [h1, h3], fun v hv => ?_⟩
      rcases List.mem_cons.1 hv with rfl | hv
      · exact h4
      · exact h2 v hv
    · cases hr
theorem valsP_ok (h : Fits C s a w) {q : List (Nat × Bool)} (hq : Path a q) : ∀ {l : List (Nat × Operand)} {r : List (Nat × AV)}, valsP s q l = some r → l.map (fun y => (y.1, a.eval y.2)) = r.map (fun y => (y.1, y.2.den)) ∧ ∀ v ∈ r, Ok (s.m C) w v.2
  | [], r, hr => by simp [valsP] at hr; subst hr; simp
  | (i, x) :: l, r, hr => by
    simp only [valsP] at hr
    split at hr
    · rename_i hk
      obtain ⟨r', hr', rfl⟩ := Option.map_eq_some_iff.1 hr
      obtain ⟨h1, h2⟩ := valsP_ok h hq hr'
      obtain ⟨h3, h4⟩ := val_ok h hq hk
      refine ⟨by simp [h1, h3], fun v hv => ?_⟩
      rcases List.mem_cons.1 hv with rfl | hv
      · exact h4
      · exact h2 v hv
    · cases hr
theorem cut_ok {m : Nat → Nat → Prop} {cells : List AV} {off n : Nat} {agg : Bool} {v : AV} (h : cut cells off n agg = some v) (h1 : ∀ v ∈ cells, v.one = true ∧ Ok m w v) :
    Ok m w v ∧ (if agg then off + n ≤ cells.length ∧ v = .agg ((cells.drop off).take n) else cells[off]? = some v) := by
  unfold cut at h
  split at h
  · rename_i ha
    split at h
    · rename_i hl
      injection h with h; subst h
      have hin : ∀ v ∈ (cells.drop off).take n, v ∈ cells := fun v hv => List.mem_of_mem_drop (List.mem_of_mem_take hv)
      refine ⟨.agg _ (fun v hv => (h1 v (hin v hv)).1) (fun v hv => (h1 v (hin v hv)).2), ?_⟩
      rw [if_pos ha]; exact ⟨hl, rfl⟩
    · cases h
  · rename_i ha
    rw [if_neg ha]
    exact ⟨(h1 v (List.mem_of_getElem? h)).2, h⟩
/-- cells that lie in a row, loaded -/
theorem run_load {t : Nat} {ti : TI} (ht : TyOK P t ti) {b base off : Nat} {cells : List AV} {v : AV} (hc : ∀ j u, (cells.map AV.den)[j]? = some u → w.cell? ⟨b, base + j, none⟩ = some u)
    (hv : if ti.agg then off + ti.size ≤ cells.length ∧ v = .agg ((cells.drop off).take ti.size) else cells[off]? = some v) : (Instr.loadAt t (.pointer (some ⟨b, base + off, none⟩))).run P w = .ok v.den w := by
  have hsz := ht.size w
  have hag := ht.agg w
  cases ha : ti.agg with
  | true =>
    rw [ha, if_pos rfl] at hv
    obtain ⟨hl, rfl⟩ := hv
    have hl' : (((cells.drop off).take ti.size).map AV.den).length = ti.size := by simp; omega
    have := run_loadCells_list (P := P) w ⟨b, base + off, none⟩ (((cells.drop off).take ti.size).map AV.den) (fun j u hu => by
      rw [Addr.add_lit]
      have hj : j < ti.size := by rw [← hl']; exact (List.getElem?_eq_some_iff.1 hu).1
      have := hc (off + j) u (by
        rw [List.map_take, List.map_drop, List.getElem?_take_of_lt hj, List.getElem?_drop] at hu
        exact hu)
      rwa [Nat.add_assoc])
    rw [hl'] at this
    rw [ha] at hag
    simp [Instr.loadAt, Instr.sureAddr, loadVar, hag, hsz, this, AV.den, denL_map]
  | false =>
    rw [ha, if_neg (by simp)] at hv
    have := hc off v.den (by simp [hv])
    rw [ha] at hag
    simp [Instr.loadAt, Instr.sureAddr, loadVar, hag, this]
theorem one_or {v : AV} (h : (v.one || isAggV v) = true) : v.one = true ∨ ∃ l, v = .agg l := by
  simp only [Bool.or_eq_true] at h
  rcases h with h | h
  · exact .inl h
  · cases v <;> simp_all [isAggV]
theorem fillAV_ok (fields : List (Nat × Nat × Bool)) (place : Nat → Option (Nat × Nat)) (hp : ∀ f x, fields[f]? = some x → place f = some (x.1, x.2.1)) (m : Nat → Nat → Prop) (w : World) : ∀ (l : List (Nat × AV)) (cells r : List AV),
    (∀ v ∈ cells, v.one = true ∧ Ok m w v) → (∀ v ∈ l, Ok m w v.2) → fillAV fields cells l = some r →
    Instr.fill place (cells.map AV.den).toArray (l.map fun y => (y.1, y.2.den)) = some (r.map AV.den).toArray ∧ (∀ v ∈ r, v.one = true ∧ Ok m w v)
  | [], cells, r, h1, _, hr => by simp [fillAV] at hr; subst hr; exact ⟨rfl, h1⟩
  | (f, v) :: l, cells, r, h1, h2, hr => by
    simp only [fillAV] at hr
    split at hr
    · cases hr
    · rename_i off n g hf
      split at hr
      · rename_i hc
        obtain ⟨hc1, hc2, hc3⟩ := hc
        have hone : v.one = true ∨ ∃ l, v = .agg l := by
          exact one_or hc3
        have hcells : ∀ x ∈ v.cells, x.one = true ∧ Ok m w x := by
          have hv := h2 (f, v) (by simp)
          intro x hx
          refine ⟨?_, hv.cells x hx⟩
          rcases hone with h | ⟨l', rfl⟩
          · cases v <;> simp_all [AV.cells, AV.one]
          · cases hv with
            | agg _ ho _ => exact ho x hx
        have ih := fillAV_ok fields place hp m w l (cells.take off ++ v.cells ++ cells.drop (off + n)) r (by
          intro x hx
          rcases List.mem_append.1 hx with hx | hx
          · rcases List.mem_append.1 hx with hx | hx
            · exact h1 x (List.mem_of_mem_take hx)
            · exact hcells x hx
          · exact h1 x (List.mem_of_mem_drop hx)) (fun y hy => h2 y (by simp [hy])) hr
        refine ⟨?_, ih.2⟩
        rw [← ih.1]
        have hpl := hp f _ hf
        simp only at hpl
        have hdc := den_cells hone
        simp only [List.map_cons, Instr.fill, hpl, hdc, List.size_toArray, List.length_map]
        rw [if_neg (by simp only [Bool.or_eq_true, decide_eq_true_eq]; omega)]
        congr 1
        -- writing the cells one by one is writing them at once
        have key : ∀ (vs : List Value) (k : Nat) (cs : Array Value), off + k + vs.length ≤ cs.size →
            (vs.zipIdx k).foldl (fun cs (x : Value × Nat) => cs.setIfInBounds (off + x.2) x.1) cs = (cs.toList.take (off + k) ++ vs ++ cs.toList.drop (off + k + vs.length)).toArray := by
          intro vs
          induction vs with
          | nil => intro k cs _; simp
          | cons u vs ih =>
            intro k cs hl
            simp only [List.length_cons] at hl
            have h3 := ih (k + 1) (cs.setIfInBounds (off + k) u) (by simp; omega)
            rw [List.zipIdx_cons, List.foldl_cons, h3]
            congr 1
            have hk : off + k < cs.toList.length := by simp; omega
            simp only [Array.toList_setIfInBounds]
            rw [show off + (k + 1) = off + k + 1 by omega, List.take_succ_eq_append_getElem (by simpa using hk)]
            simp only [List.getElem_set_self, List.append_assoc, List.cons_append, List.nil_append, List.length_cons]
            rw [List.take_set_of_le (Nat.le_refl _), List.drop_set_of_lt (show off + k < off + k + 1 + vs.length by omega)]
            congr 3
            congr 1
            omega
        have := key (v.cells.map AV.den) 0 (cells.map AV.den).toArray (by simp; omega)
        simp only [Nat.add_zero, List.length_map, hc1] at this
        rw [Array.zipIdx_toArray, List.foldl_toArray, this]
        simp [List.map_take, List.map_drop]
      · cases hr
theorem fillAV_len {fields : List (Nat × Nat × Bool)} : ∀ {l : List (Nat × AV)} {cells r : List AV}, fillAV fields cells l = some r → r.length = cells.length
  | [], cells, r, h => by simp [fillAV] at h; rw [h]
  | (f, v) :: l, cells, r, h => by
    simp only [fillAV] at h
    split at h
    · cases h
    · split at h
      · rename_i hc
        rw [fillAV_len h]
        simp
        omega
      · cases h
theorem places_get (k : Nat) : ∀ (n off f : Nat) (x : Nat × Nat × Bool), (places k off n)[f]? = some x → x.1 = off + f * k ∧ x.2.1 = k
  | 0, off, f, x, h => by simp [places] at h
  | n + 1, off, 0, x, h => by simp [places] at h; subst h; simp
  | n + 1, off, f + 1, x, h => by
    have := places_get k n (off + k) f x (by simpa [places] using h)
    refine ⟨by rw [this.1, Nat.add_mul, Nat.one_mul]; omega, this.2⟩
theorem replL_len (z : List AV) : ∀ n, (replL z n).length = n * z.length
  | 0 => by simp [replL]
  | n + 1 => by simp [replL, replL_len z n, Nat.add_mul, Nat.add_comm]
theorem replL_get (z : List AV) : ∀ (n j : Nat), j < n * z.length → (replL z n)[j]? = z[j % z.length]?
  | 0, j, h => by simp at h
  | n + 1, j, h => by
    simp only [replL]
    by_cases hj : j < z.length
    · rw [List.getElem?_append_left hj, Nat.mod_eq_of_lt hj]
    · have h' : (n + 1) * z.length = n * z.length + z.length := by rw [Nat.add_mul, Nat.one_mul]
      rw [List.getElem?_append_right (by omega), replL_get z n _ (by omega)]
      congr 1
      exact (Nat.mod_eq_sub_mod (show z.length ≤ j by omega)).symm
theorem replL_mem {z : List AV} : ∀ {n : Nat} {v : AV}, v ∈ replL z n → v ∈ z
  | 0, v, h => by cases h
  | n + 1, v, h => by
    simp only [replL] at h
    rcases List.mem_append.1 h with h | h
    · exact h
    · exact replL_mem h
theorem bound_ok {q : List (Nat × Bool)} (h : Fits C s a w) (hq : Path a q) {A : Alg} {o : Operand} {d j : Int} (hb : bound A s q d (some o) = some j) : ∃ k, a.eval o = .int k j := by
  simp only [bound] at hb
  split at hb
  · rename_i k j' hv
    injection hb with hb; subst hb
    have := (val_ok h hq (x := o) (by rw [hv]; rfl)).1
    rw [hv] at this
    exact ⟨k, this⟩
  · cases hb
end
end Go.Proofs.Ytkamdppnnhjajaa.Sym
