/-
  Records put and read again: plain Lean. No program in sight. Conditions: none.
-/
import Derived.Test.YtkamdppnnhjajaaPlGet
namespace Go.Proofs.Ytkamdppnnhjajaa
open Go.RowKit Sym
set_option linter.unusedVariables false
set_option linter.unusedSimpArgs false

theorem firsts_itF (l : List Itm) : firsts (itF l) l.length = l := by
  apply List.ext_getElem
  · simp [firsts]
  · intro i h1 h2
    simp [firsts, itF, List.getD, h2]
theorem itsL_firsts (f : Nat → Itm) (n : Nat) : itsL f n = (firsts f n).flatMap itL := by
  unfold itsL firsts
  rw [List.flatMap_map]
theorem itsL_itF (l : List Itm) : itsL (itF l) l.length = l.flatMap itL := by rw [itsL_firsts, firsts_itF]
/-- items that may follow the key p -/
def okL : Option Int → List Itm → Prop
  | _, [] => True
  | p, x :: l => x.val.size ≤ 64 ∧ (∀ q, p = some q → q < x.key) ∧ U64 x.key ∧ okL (some x.key) l
theorem okL_get : ∀ {l : List Itm} {p : Option Int}, okL p l → ∀ i, i < l.length → (itF l i).val.size ≤ 64 ∧ U64 (itF l i).key ∧ (i = 0 → ∀ q, p = some q → q < (itF l 0).key) ∧ (0 < i → (itF l (i - 1)).key < (itF l i).key)
  | [], _, _, i, hi => absurd hi (Nat.not_lt_zero _)
  | x :: l, p, h, 0, _ => ⟨h.1, h.2.2.1, fun _ => h.2.1, fun h => absurd h (Nat.lt_irrefl _)⟩
  | x :: l, p, h, i + 1, hi => by
    obtain ⟨h1, h2, h3, h4⟩ := okL_get h.2.2.2 i (by simpa using hi)
    refine ⟨h1, h2, fun h => (by omega), fun _ => ?_⟩
    cases i with
    | zero => exact h3 rfl _ rfl
    | succ i => exact h4 (by omega)
theorem okL_okF {l : List Itm} (h : okL none l) : okF (itF l) l.length = true := by
  unfold okF
  rw [List.all_eq_true]
  intro i hi
  obtain ⟨h1, _, _, h4⟩ := okL_get h i (List.mem_range.1 hi)
  unfold okAt
  cases i with
  | zero => simpa using h1
  | succ i => simp; exact ⟨h1, h4 (by omega)⟩
theorem okF_okL {f : Nat → Itm} {n : Nat} (h : okF f n = true) (hk : ∀ i, i < n → U64 (f i).key) : ∀ m i, i + m = n → okL (lastK f i) ((List.range m).map fun j => f (i + j))
  | 0, _, _ => trivial
  | m + 1, i, hm => by
    have hi := okF_at (f := f) (i := i) (by omega) h
    unfold okAt at hi
    simp only [Bool.and_eq_true, decide_eq_true_eq, Bool.or_eq_true, beq_iff_eq] at hi
    rw [List.range_succ_eq_map, List.map_cons, List.map_map]
    refine ⟨hi.1, fun q hq => ?_, hk _ (by omega), ?_⟩
    · unfold lastK at hq
      split at hq
      · cases hq
      · injection hq with hq
        rcases hi.2 with h0 | h0
        · omega
        · rw [← hq]; exact h0
    · have := okF_okL h hk m (i + 1) (by omega)
      have e : (fun j => f (i + 1 + j)) = ((fun j => f (i + j)) ∘ Nat.succ) := by
        funext j
        simp only [Function.comp, Nat.succ_eq_add_one]
        congr 1
        omega
      rw [e] at this
      have e2 : lastK f (i + 1) = some (f (i + 0)).key := by simp [lastK]
      rw [e2] at this
      exact this
theorem firsts_okL {f : Nat → Itm} {n : Nat} (h : okF f n = true) (hk : ∀ i, i < n → U64 (f i).key) : okL none (firsts f n) := by
  have := okF_okL h hk n 0 (by omega)
  simpa [firsts, lastK] using this

/-! ### what is put is read -/
theorem decIt_put : ∀ (l : List Itm) (p : Option Int), okL p l → ∀ r, decIt l.length p (l.flatMap itL ++ r) = .ok (l, r)
  | [], _, _, r => rfl
  | x :: l, p, h, r => by
    obtain ⟨h1, h2, h3, h4⟩ := h
    have hk := h3.1
    have hk2 := h3.2
    have e : (x :: l).flatMap itL ++ r = numL x.key.toNat ++ (textL (unB x.val) ++ (l.flatMap itL ++ r)) := by
      simp [itL]
    have hl : late p x.key.toNat = false := by
      cases p with
      | none => rfl
      | some q => have := h2 q rfl; simp [late]; omega
    have hv : (unB x.val).length ≤ 64 := by rw [un_size]; exact h1
    rw [List.length_cons, it_ok (k := x.key.toNat) (r := textL (unB x.val) ++ (l.flatMap itL ++ r)) (t := unB x.val) (r2 := l.flatMap itL ++ r) (by rw [e]; exact decN_put (by omega) _) hl (decT_put (by omega) _) (by omega)]
    have e2 : ((x.key.toNat : Nat) : Int) = x.key := by omega
    rw [e2, decIt_put l _ h4 r, mk_un]
    rfl
theorem decItems_put {l : List Itm} (h : okL none l) (hn : l.length ≤ 16) (r : List UInt8) : decItems (numL l.length ++ (l.flatMap itL ++ r)) = .ok (l, r) := by
  unfold decItems
  rw [decN_put (by omega)]
  simp only
  rw [if_neg (by omega), decIt_put l _ h]
theorem decNext_put {nx : Lab} (h : nx = noneL ∨ isL nx = true) (hb : U64 nx.bits) (r : List UInt8) : decNext (nextL nx ++ r) = .ok (nx, r) := by
  unfold decNext nextL
  by_cases he : nx = noneL
  · rw [if_pos he, decN_put (v := 0) (by decide)]
    simp [he]
  · rw [if_neg he, List.append_assoc, decN_put (v := 1) (by decide)]
    simp only
    rw [if_neg (by decide), if_pos trivial, decL_put (h.resolve_left he) hb]
theorem decM_put {kd : Int} {n : Nat} {f : Nat → Itm} {nx : Lab} {mk : Int} (h : isRF kd n f nx mk = true) (hb : U64 nx.bits) (hm : U64 mk) (hk : ∀ i, i < n → U64 (f i).key) (r : List UInt8) :
    decM (putF kd n f nx mk ++ r) = .ok (⟨kd, firsts f n, nx, mk⟩, r) := by
  have h0 := h
  rw [isRF_ref] at h
  simp only [Bool.and_eq_true, Bool.not_eq_true', Bool.or_eq_false_iff, decide_eq_false_iff_not] at h
  obtain ⟨⟨⟨⟨⟨h1, h2⟩, h3⟩, h4⟩, h6, h7⟩, h5⟩ := h
  have hnx : nx = noneL ∨ isL nx = true := by
    by_cases hd : nx = noneL
    · exact .inl hd
    · right
      cases hl : isL nx with
      | true => rfl
      | false => simp [hd, hl] at h4
  have hkd : ((kd.toNat : Nat) : Int) = kd := by omega
  unfold putF decM
  by_cases hbare : bareK kd = true
  · rw [if_pos hbare, decN_put (by omega)]
    simp only
    rw [if_neg (by omega), hkd, if_pos hbare]
    simp [hbare] at h7
    obtain ⟨hn, hx⟩ := h7
    subst hn
    have hk5 : kd ≠ 5 := by
      unfold bareK at hbare; simp at hbare; omega
    simp [hk5] at h6
    rw [hx, h6]
    rfl
  · rw [if_neg hbare]
    have ea : numL kd.toNat ++ numL n ++ itsL f n ++ nextL nx ++ (if kd = 5 then numL mk.toNat else []) ++ r = numL kd.toNat ++ (numL (firsts f n).length ++ ((firsts f n).flatMap itL ++ (nextL nx ++ ((if kd = 5 then numL mk.toNat else []) ++ r)))) := by
      rw [firsts_len, itsL_firsts]
      simp only [List.append_assoc]
    rw [ea, decN_put (by omega)]
    simp only
    rw [if_neg (by omega), hkd, if_neg hbare, decBody, decItems_put (firsts_okL h5 hk) (by rw [firsts_len]; omega)]
    simp only
    rw [decNext_put hnx hb]
    simp only [decMark]
    have := hm.1
    have := hm.2
    by_cases h5k : kd = 5
    · rw [if_pos (by omega), if_pos h5k, decN_put (by omega)]
      simp only
      rw [hkd]
      congr 3
      omega
    · rw [if_neg (by omega), if_neg h5k, hkd]
      simp [h5k] at h6
      rw [h6]
      rfl
theorem decRec_put {kd : Int} {n : Nat} {f : Nat → Itm} {nx : Lab} {mk : Int} (h : isRF kd n f nx mk = true) (hb : U64 nx.bits) (hm : U64 mk) (hk : ∀ i, i < n → U64 (f i).key) :
    decRec (putF kd n f nx mk) = .ok ⟨kd, firsts f n, nx, mk⟩ := by
  have := decM_put h hb hm hk []
  rw [List.append_nil] at this
  unfold decRec
  rw [this]
  rfl

/-! ### what is read is put -/
theorem decIt_ok : ∀ {m : Nat} {p : Option Int} {s r : List UInt8} {l : List Itm}, decIt m p s = .ok (l, r) → s = l.flatMap itL ++ r ∧ l.length = m ∧ okL p l
  | 0, p, s, r, l, h => by
    simp only [decIt] at h
    injection h with h; injection h with h1 h2; subst h1; subst h2
    exact ⟨rfl, rfl, trivial⟩
  | m + 1, p, s, r, l, h => by
    simp only [decIt] at h
    split at h
    · cases h
    · rename_i k r1 h1
      split at h
      · cases h
      · rename_i hl
        split at h
        · cases h
        · rename_i t r2 h2
          split at h
          · cases h
          · rename_i h64
            cases hd : decIt m (some (k : Int)) r2 with
            | error e => rw [hd] at h; cases h
            | ok x =>
              obtain ⟨l', r'⟩ := x
              rw [hd] at h
              injection h with h; injection h with e1 e2; subst e2
              obtain ⟨g1, g2, g3⟩ := decIt_ok hd
              obtain ⟨a1, a2⟩ := decN_ok h1
              obtain ⟨b1, b2⟩ := decT_ok h2
              subst e1
              refine ⟨?_, ?_, ?_, ?_, ?_, g3⟩
              · rw [a1, b1, g1]
                simp [itL, un_mk]
              · simp [g2]
              · show (mkB t).size ≤ 64
                rw [mk_size]; omega
              · intro q hq
                subst hq
                simp [late] at hl
                exact hl
              · exact ⟨by simp only; omega, by simp only; omega⟩
theorem decItems_ok {s r : List UInt8} {l : List Itm} (h : decItems s = .ok (l, r)) : s = numL l.length ++ (l.flatMap itL ++ r) ∧ l.length ≤ 16 ∧ okL none l := by
  unfold decItems at h
  split at h
  · cases h
  · rename_i n r1 h1
    split at h
    · cases h
    · rename_i hn
      obtain ⟨g1, g2, g3⟩ := decIt_ok h
      exact ⟨by rw [(decN_ok h1).1, g1, g2], by omega, g3⟩
theorem decNext_ok {s r : List UInt8} {nx : Lab} (h : decNext s = .ok (nx, r)) : s = nextL nx ++ r ∧ (nx = noneL ∨ isL nx = true) ∧ U64 nx.bits := by
  unfold decNext at h
  split at h
  · cases h
  · rename_i n r1 h1
    have h1' := (decN_ok h1).1
    split at h
    · rename_i hn
      injection h with h; injection h with e1 e2; subst e1; subst e2
      exact ⟨by rw [h1', hn]; rfl, .inl rfl, by decide, by decide⟩
    · split at h
      · rename_i hn
        obtain ⟨g1, g2, g3⟩ := decL_ok h
        have hne : ¬ nx = noneL := by
          intro he
          rw [he] at g2
          revert g2
          decide
        exact ⟨by rw [h1', hn, g1, nextL, if_neg hne, List.append_assoc], .inr g2, g3⟩
      · cases h
theorem isRF_full {kd : Int} {l : List Itm} {nx : Lab} {mk : Int} (h1 : 1 ≤ kd) (h5 : kd ≤ 5) (hb : ¬ bareK kd = true) (hl : okL none l) (hn : l.length ≤ 16) (hx : nx = noneL ∨ isL nx = true) (hm : kd = 5 ∨ mk = 0) : isRF kd l.length (itF l) nx mk = true := by
  have hrow : rowF l.length (itF l) = true := by
    unfold rowF
    rw [okL_okF hl]
    simpa using hn
  have hx' : (decide (nx = noneL) || isL nx) = true := by
    rcases hx with h | h <;> simp [h]
  unfold isRF
  rw [hx', if_neg hb, Bool.true_and, hrow]
  have hb2 : ¬ kd = 2 ∧ ¬ kd = 4 := by
    unfold bareK at hb
    simpa using hb
  by_cases h : kd = 5
  · rw [if_neg (by omega), if_pos h]
  · rw [if_pos (by omega)]
    simp [hm.resolve_left h]
/-- the ranges of what stands in a record -/
def InR (r : Rec) : Prop := U64 r.next.bits ∧ U64 r.mark ∧ ∀ i, i < r.items.length → U64 (itF r.items i).key
theorem decM_ok {s rest : List UInt8} {r : Rec} (h : decM s = .ok (r, rest)) : s = putR r ++ rest ∧ isR r = true ∧ InR r := by
  unfold decM at h
  split at h
  · cases h
  · rename_i k r1 h1
    obtain ⟨a1, a2⟩ := decN_ok h1
    split at h
    · cases h
    · rename_i hk
      split at h
      · rename_i hb
        injection h with h; injection h with e1 e2; subst e1; subst e2
        refine ⟨?_, ?_, show U64 0 from ⟨by decide, by decide⟩, show U64 0 from ⟨by decide, by decide⟩, fun i hi => absurd hi (Nat.not_lt_zero _)⟩
        · rw [a1]
          simp [putR, putF, hb]
        · unfold isR isRF
          simp only [hb, if_true]
          rfl
      · rename_i hb
        unfold decBody at h
        split at h
        · cases h
        · rename_i l r2 h2
          split at h
          · cases h
          · rename_i nx r3 h3
            obtain ⟨b1, b2, b3⟩ := decItems_ok h2
            obtain ⟨c1, c2, c3⟩ := decNext_ok h3
            have hU : ∀ i, i < l.length → U64 (itF l i).key := fun i hi => (okL_get b3 i hi).2.1
            unfold decMark at h
            split at h
            · rename_i h5
              split at h
              · cases h
              · rename_i v r4 h4
                obtain ⟨d1, d2⟩ := decN_ok h4
                injection h with h; injection h with e1 e2; subst e1; subst e2
                refine ⟨?_, isRF_full (show (1 : Int) ≤ (k : Int) by omega) (show (k : Int) ≤ 5 by omega) hb b3 b2 c2 (.inl (show (k : Int) = 5 by omega)), c3, ⟨by simp only; omega, by simp only; omega⟩, hU⟩
                rw [a1, b1, c1, d1]
                simp only [putR, putF]
                rw [if_neg hb, if_pos (by omega), itsL_itF]
                simp
            · rename_i h5
              injection h with h; injection h with e1 e2; subst e1; subst e2
              refine ⟨?_, isRF_full (show (1 : Int) ≤ (k : Int) by omega) (show (k : Int) ≤ 5 by omega) hb b3 b2 c2 (.inr rfl), c3, show U64 0 from ⟨by decide, by decide⟩, hU⟩
              rw [a1, b1, c1]
              simp only [putR, putF]
              rw [if_neg hb, if_neg (by omega), itsL_itF]
              simp
theorem decRec_ok {s : List UInt8} {r : Rec} (h : decRec s = .ok r) : s = putR r ∧ isR r = true ∧ InR r := by
  unfold decRec at h
  split at h
  · cases h
  · rename_i r' rest h1
    unfold fin at h
    split at h
    · rename_i hr
      injection h with h; subst h
      obtain ⟨g1, g2, g3⟩ := decM_ok h1
      rw [hr, List.append_nil] at g1
      exact ⟨g1, g2, g3⟩
    · cases h

/-! ### what is refused -/
theorem decIt_err : ∀ {m : Nat} {p : Option Int} {s : List UInt8} {e : Int}, decIt m p s = .error e → e = 3 ∨ e = 4
  | 0, p, s, e, h => by simp only [decIt] at h; cases h
  | m + 1, p, s, e, h => by
    cases h1 : decN s with
    | error e' => rw [it_e1 h1] at h; injection h with h; subst h; exact decN_err h1
    | ok x =>
      obtain ⟨k, r⟩ := x
      cases hl : late p k with
      | true => rw [it_e2 h1 hl] at h; injection h with h; exact .inl h.symm
      | false =>
        cases h2 : decT r with
        | error e' => rw [it_e3 h1 hl h2] at h; injection h with h; subst h; exact decT_err h2
        | ok y =>
          obtain ⟨t, r2⟩ := y
          by_cases h64 : 64 < t.length
          · rw [it_e4 h1 hl h2 h64] at h; injection h with h; exact .inl h.symm
          · rw [it_ok h1 hl h2 h64] at h
            cases hd : decIt m (some (k : Int)) r2 with
            | error e' => rw [hd] at h; injection h with h; subst h; exact decIt_err hd
            | ok x => obtain ⟨l, r⟩ := x; rw [hd] at h; cases h
theorem decItems_err {s : List UInt8} {e : Int} (h : decItems s = .error e) : e = 3 ∨ e = 4 := by
  unfold decItems at h
  split at h
  · rename_i h1; injection h with h; subst h; exact decN_err h1
  · split at h
    · injection h with h; exact .inl h.symm
    · exact decIt_err h
theorem decNext_err {s : List UInt8} {e : Int} (h : decNext s = .error e) : e = 3 ∨ e = 4 := by
  unfold decNext at h
  split at h
  · rename_i h1; injection h with h; subst h; exact decN_err h1
  · split at h
    · cases h
    · split at h
      · exact decL_err h
      · injection h with h; exact .inl h.symm
theorem decM_err {s : List UInt8} {e : Int} (h : decM s = .error e) : e = 3 ∨ e = 4 := by
  unfold decM at h
  split at h
  · rename_i h1; injection h with h; subst h; exact decN_err h1
  · split at h
    · injection h with h; exact .inl h.symm
    · split at h
      · cases h
      · unfold decBody at h
        split at h
        · rename_i h1; injection h with h; subst h; exact decItems_err h1
        · split at h
          · rename_i h1; injection h with h; subst h; exact decNext_err h1
          · unfold decMark at h
            split at h
            · split at h
              · rename_i h1; injection h with h; subst h; exact decN_err h1
              · cases h
            · cases h
theorem decRec_err {s : List UInt8} {e : Int} (h : decRec s = .error e) : e = 3 ∨ e = 4 := by
  unfold decRec at h
  split at h
  · rename_i h1; injection h with h; subst h; exact decM_err h1
  · unfold fin at h
    split at h
    · cases h
    · injection h with h; exact .inl h.symm
/-- what is got of bytes -/
def gotR (s : ByteArray) : Rec := match decRec (unB s) with
  | .error _ => zeroRec
  | .ok r => r
def gotE (s : ByteArray) : Int := Res.err (decRec (unB s))
def restB {α : Type} (d : Dec α) (t : ByteArray) : ByteArray := match d with
  | .error _ => t
  | .ok (_, r) => mkB r
/-- no longer than before -/
theorem decN_len {s r : List UInt8} {v : Nat} (h : decN s = .ok (v, r)) : r.length ≤ s.length := by
  rw [(decN_ok h).1, List.length_append]; omega
theorem decT_len {s r t : List UInt8} (h : decT s = .ok (t, r)) : r.length ≤ s.length := by
  rw [(decT_ok h).1, List.length_append]; omega
theorem decL_len {s r : List UInt8} {l : Lab} (h : decL s = .ok (l, r)) : r.length ≤ s.length := by
  rw [(decL_ok h).1, List.length_append]; omega
theorem decItems_len {s r : List UInt8} {l : List Itm} (h : decItems s = .ok (l, r)) : r.length ≤ s.length := by
  rw [(decItems_ok h).1, List.length_append, List.length_append]; omega
theorem decNext_len {s r : List UInt8} {l : Lab} (h : decNext s = .ok (l, r)) : r.length ≤ s.length := by
  rw [(decNext_ok h).1, List.length_append]; omega
end Go.Proofs.Ytkamdppnnhjajaa
