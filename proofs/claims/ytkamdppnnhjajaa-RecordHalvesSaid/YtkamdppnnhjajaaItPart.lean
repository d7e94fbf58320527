/-
  Halves and their union: what the laws ask; plain Lean. Conditions: none.
-/
import Derived.Test.YtkamdppnnhjajaaSymUni
namespace Go.Proofs.Ytkamdppnnhjajaa.Sym
open Go Go.RowKit
set_option linter.unusedVariables false
set_option linter.unusedSimpArgs false

theorem big_n {n : Nat} {f : Nat → Itm} (h : bigF n f = false) : n ≤ 40 := by
  unfold bigF at h
  simp at h
  exact h.1
theorem halves_s (A : Option Addr) (n c : Nat) (f : Nat → Itm) (hn : n ≤ 1000000) (kd : Int) (nx : Lab) (mk : Int) (hv : U64 nx.bits) (hki : ∀ i, i < n → U64 (f i).key) (l : Lab) (hb0 : U64 l.bits) :
    Spec Try.prog 25 [recI A n c f kd nx mk, labAV l] (fun x => .tup [recAV (x.A 0) (x.c 0) (halvR kd n f nx mk l).1, recAV (x.A 1) (x.c 1) (halvR kd n f nx mk l).2.1, .int .i64 (halvR kd n f nx mk l).2.2]) := by
  cases h : isRF kd n f nx mk && isL l with
  | true => exact halves_yes A n c f hn kd nx mk hv hki l hb0 h
  | false => exact halves_no A n c f hn kd nx mk hv hki l hb0 h
theorem okF_congr {f g : Nat → Itm} {n : Nat} (h : ∀ t, t < n → f t = g t) : okF f n = okF g n := by
  unfold okF
  rw [Bool.eq_iff_iff, List.all_eq_true, List.all_eq_true]
  have e : ∀ t, t < n → okAt f t = okAt g t := fun t ht => by
    unfold okAt
    rw [h t ht, h (t - 1) (by omega)]
  constructor
  · intro h1 t ht; rw [← e t (List.mem_range.1 ht)]; exact h1 t ht
  · intro h1 t ht; rw [e t (List.mem_range.1 ht)]; exact h1 t ht
theorem okF_pre {f : Nat → Itm} {n p : Nat} (h : okF f n = true) (hp : p ≤ n) : okF f p = true := by
  unfold okF
  rw [List.all_eq_true]
  intro t ht
  exact okF_at (by have := List.mem_range.1 ht; omega) h
theorem okF_suf {f : Nat → Itm} {n p : Nat} (h : okF f n = true) (hp : p ≤ n) : okF (fun j => f (p + j)) (n - p) = true := by
  unfold okF
  rw [List.all_eq_true]
  intro t ht
  have ht := List.mem_range.1 ht
  have h1 := okF_at (f := f) (i := p + t) (by omega) h
  unfold okAt at h1 ⊢
  simp only [Bool.and_eq_true, decide_eq_true_eq, Bool.or_eq_true, beq_iff_eq] at h1 ⊢
  refine ⟨h1.1, ?_⟩
  by_cases h0 : t = 0
  · exact .inl h0
  · right
    rcases h1.2 with h2 | h2
    · omega
    · rw [show p + (t - 1) = p + t - 1 by omega]; exact h2
theorem isRF_leafF {f : Nat → Itm} {n : Nat} {nx : Lab} (hok : okF f n = true) (hn : n ≤ 16) (hx : nx = noneL ∨ isL nx = true) : isRF 1 n f nx 0 = true := by
  have hx' : (decide (nx = noneL) || isL nx) = true := by rcases hx with h | h <;> simp [h]
  unfold isRF rowF
  rw [hx', if_neg (by decide : ¬ bareK 1 = true), if_pos (.inl rfl), hok]
  simp [hn]
theorem halvR_len (kd : Int) (n : Nat) (f : Nat → Itm) (nx : Lab) (mk : Int) (l : Lab) : (halvR kd n f nx mk l).1.items.length ≤ n ∧ (halvR kd n f nx mk l).2.1.items.length ≤ n := by
  have h : ∀ l : Lab, (covL l (firsts f n)).length ≤ n := fun l => by
    have := List.length_filter_le (fun x : Itm => coverB l x.key) (firsts f n)
    rw [firsts_len] at this
    exact this
  unfold halvR
  repeat' split
  all_goals first | exact ⟨Nat.zero_le _, Nat.zero_le _⟩ | exact ⟨h _, h _⟩
theorem uniR_len (kd : Int) (n : Nat) (f : Nat → Itm) (nx : Lab) (mk : Int) (kd2 : Int) (n2 : Nat) (f2 : Nat → Itm) (nx2 : Lab) (mk2 : Int) : (uniR kd n f nx mk kd2 n2 f2 nx2 mk2).1.items.length ≤ n + n2 := by
  unfold uniR
  repeat' split
  all_goals first | exact Nat.zero_le _ | (simp only [List.length_append, firsts_len]; exact Nat.le_refl _)
theorem firsts_itF' (l : List Itm) (n : Nat) (h : l.length = n) : firsts (itF l) n = l := by rw [← h]; exact firsts_itF l
/-- halves of a record: all that the law asks -/
theorem halfR {kd : Int} {n : Nat} {f : Nat → Itm} {nx : Lab} {mk : Int} {l : Lab} (hb0 : U64 l.bits) (hki : ∀ i, i < n → U64 (f i).key) {H1 H2 : Rec} {he : Int} (h : halvR kd n f nx mk l = (H1, H2, he)) :
    (he ≠ 0 ∧ H1.items.length = 0 ∧ H2.items.length = 0) ∨ (he = 0 ∧ isL l = true ∧ l.len ≠ 64 ∧ isRF H1.kind H1.items.length (itF H1.items) H1.next H1.mark = true ∧ isRF H2.kind H2.items.length (itF H2.items) H2.next H2.mark = true ∧ H1.next = childL l 1 ∧ H2.next = nx ∧
      (∀ i, i < H1.items.length → coverB (childL l 0) (itF H1.items i).key = true ∧ U64 (itF H1.items i).key) ∧ (∀ i, i < H2.items.length → coverB (childL l 1) (itF H2.items i).key = true ∧ U64 (itF H2.items i).key) ∧
      uniR H1.kind H1.items.length (itF H1.items) H1.next H1.mark H2.kind H2.items.length (itF H2.items) H2.next H2.mark = (⟨1, H1.items ++ H2.items, nx, 0⟩, 0) ∧ H1.items ++ H2.items = firsts f n) := by
  unfold halvR at h
  cases hc : isRF kd n f nx mk && isL l && decide ((covL l (firsts f n)).length = n) with
  | false => rw [hc, if_pos rfl] at h; injection h with h1 h; injection h with h2 h3; subst h1; subst h2; subst h3; exact .inl ⟨by decide, rfl, rfl⟩
  | true =>
    rw [hc, if_neg (by decide)] at h
    by_cases hk : kd ≠ 1 ∧ kd ≠ 3
    · rw [if_pos hk] at h; injection h with h1 h; injection h with h2 h3; subst h1; subst h2; subst h3; exact .inl ⟨by decide, rfl, rfl⟩
    · rw [if_neg hk] at h
      by_cases h64 : l.len = 64
      · rw [if_pos h64] at h; injection h with h1 h; injection h with h2 h3; subst h1; subst h2; subst h3; exact .inl ⟨by decide, rfl, rfl⟩
      · rw [if_neg h64] at h; injection h with h1 h; injection h with h2 h3; subst h1; subst h2; subst h3
        right
        simp only [Bool.and_eq_true, decide_eq_true_eq] at hc
        obtain ⟨⟨hi, hl⟩, hcn⟩ := hc
        obtain ⟨_, _, hn16, hnl, hok⟩ := isRF_kind hi
        obtain ⟨p, hp⟩ : ∃ p, p = bsF f (childL l 1).bits 0 n := ⟨_, rfl⟩
        obtain ⟨hpn, c0, c1⟩ := half_lists hok hki hl hb0 h64 (cov_firsts.1 hcn) hp
        have m0 : ∀ t, t < p → itF (firsts f p) t = f t := fun t ht => firsts_get f p t ht
        have m1 : ∀ t, t < n - p → itF (firsts (fun j => f (p + j)) (n - p)) t = f (p + t) := fun t ht => firsts_get _ _ t ht
        have o0 : okF (itF (firsts f p)) p = true := by rw [okF_congr m0]; exact okF_pre hok hpn
        have o1 : okF (itF (firsts (fun j => f (p + j)) (n - p))) (n - p) = true := by rw [okF_congr (g := fun j => f (p + j)) m1]; exact okF_suf hok hpn
        have i0 : isRF 1 p (itF (firsts f p)) (childL l 1) 0 = true := isRF_leafF o0 (by omega) (.inr (child_isL hl hb0 h64 1))
        have i1 : isRF 1 (n - p) (itF (firsts (fun j => f (p + j)) (n - p))) nx 0 = true := isRF_leafF o1 (by omega) hnl
        have hcat : firsts f p ++ firsts (fun j => f (p + j)) (n - p) = firsts f n := by
          have := firsts_add f p (n - p)
          rw [show p + (n - p) = n by omega] at this
          exact this.symm
        simp only [c0, c1, firsts_len]
        refine ⟨trivial, hl, h64, i0, i1, trivial, trivial, fun i hi => ?_, fun i hi => ?_, ?_, hcat⟩
        · refine ⟨?_, by rw [m0 i hi]; exact hki i (by omega)⟩
          have : itF (firsts f p) i ∈ covL (childL l 0) (firsts f n) := by
            rw [c0, m0 i hi]
            exact List.mem_map.2 ⟨i, List.mem_range.2 hi, rfl⟩
          unfold covL at this
          exact (List.mem_filter.1 this).2
        · refine ⟨?_, by rw [m1 i hi]; exact hki _ (by omega)⟩
          have : itF (firsts (fun j => f (p + j)) (n - p)) i ∈ covL (childL l 1) (firsts f n) := by
            rw [c1, m1 i hi]
            exact List.mem_map.2 ⟨i, List.mem_range.2 hi, rfl⟩
          unfold covL at this
          exact (List.mem_filter.1 this).2
        · have hov : ovl p (itF (firsts f p)) (n - p) (itF (firsts (fun j => f (p + j)) (n - p))) = false := by
            unfold ovl
            by_cases h1 : 0 < p
            · by_cases h2 : 0 < n - p
              · rw [m0 (p - 1) (by omega), m1 0 h2, Nat.add_zero]
                have := okF_srt hok (p - 1) p (by omega) (by omega)
                simp; omega
              · simp [h2]
            · simp [h1]
          unfold uniR
          rw [i0, i1, hov, firsts_itF' (firsts f p) p (firsts_len f p), firsts_itF' (firsts (fun j => f (p + j)) (n - p)) (n - p) (firsts_len _ _)]
          rw [if_neg (by decide), if_neg (by decide), if_neg (by omega), if_neg (by omega)]
end Go.Proofs.Ytkamdppnnhjajaa.Sym
