/-
  A row cut by a key: plain Lean. Conditions: none.
-/
import Derived.Test.YtkamdppnnhjajaaPlMap
import Derived.Test.YtkamdppnnhjajaaSymCov
namespace Go.Proofs.Ytkamdppnnhjajaa.Sym
open Go Go.RowKit
set_option linter.unusedVariables false
set_option linter.unusedSimpArgs false

theorem bsF_cut' {f : Nat → Itm} {n : Nat} {key : Int} (hs : ∀ i j, i < j → j < n → (f i).key < (f j).key) : ∀ k lo hi, hi - lo ≤ k → lo ≤ hi → hi ≤ n → (∀ t, t < lo → (f t).key < key) → (∀ t, hi ≤ t → t < n → key ≤ (f t).key) →
    lo ≤ bsF f key lo hi ∧ bsF f key lo hi ≤ hi ∧ (∀ t, t < bsF f key lo hi → (f t).key < key) ∧ ∀ t, bsF f key lo hi ≤ t → t < n → key ≤ (f t).key
  | 0, lo, hi, hk, h1, h2, h3, h4 => by
    rw [bsF_end (by omega)]
    exact ⟨Nat.le_refl _, h1, h3, fun t ht => h4 t (by omega)⟩
  | k + 1, lo, hi, hk, h1, h2, h3, h4 => by
    by_cases hlt : lo < hi
    · obtain ⟨m, hm⟩ : ∃ m, m = (lo + hi) / 2 := ⟨_, rfl⟩
      by_cases hkm : (f m).key < key
      · rw [bsF_up hlt hm hkm]
        obtain ⟨a, b, c, d⟩ := bsF_cut' hs k (m + 1) hi (by omega) (by omega) h2 (fun t ht => by
          by_cases h : t = m
          · rw [h]; exact hkm
          · have := hs t m (by omega) (by omega); omega) h4
        exact ⟨by omega, b, c, d⟩
      · rw [bsF_dn hlt hm hkm]
        obtain ⟨a, b, c, d⟩ := bsF_cut' hs k lo m (by omega) (by omega) (by omega) h3 (fun t ht htn => by
          by_cases h : t = m
          · rw [h]; omega
          · have := hs m t (by omega) htn; omega)
        exact ⟨a, by omega, c, d⟩
    · rw [bsF_end hlt]
      exact ⟨Nat.le_refl _, h1, h3, fun t ht => h4 t (by omega)⟩
theorem bsF_le' (f : Nat → Itm) (key : Int) : ∀ k lo hi, hi - lo ≤ k → lo ≤ hi → bsF f key lo hi ≤ hi
  | 0, lo, hi, hk, h1 => by rw [bsF_end (by omega)]; exact h1
  | k + 1, lo, hi, hk, h1 => by
    by_cases hlt : lo < hi
    · obtain ⟨m, hm⟩ : ∃ m, m = (lo + hi) / 2 := ⟨_, rfl⟩
      by_cases hkm : (f m).key < key
      · rw [bsF_up hlt hm hkm]; exact bsF_le' f key k (m + 1) hi (by omega) (by omega)
      · rw [bsF_dn hlt hm hkm]; have := bsF_le' f key k lo m (by omega) (by omega); omega
    · rw [bsF_end hlt]; exact h1
theorem firsts_add (f : Nat → Itm) (p m : Nat) : firsts f (p + m) = firsts f p ++ firsts (fun j => f (p + j)) m := by
  unfold firsts
  rw [List.range_add, List.map_append, List.map_map]
  rfl
theorem cov_step (l : Lab) (f : Nat → Itm) (i : Nat) : covL l (firsts f (i + 1)) = covL l (firsts f i) ++ if coverB l (f i).key = true then [f i] else [] := by
  have : firsts f (i + 1) = firsts f i ++ [f i] := by simp [firsts, List.range_succ]
  rw [this]
  unfold covL
  rw [List.filter_append]
  congr 1
  cases h : coverB l (f i).key <;> simp [h]
/-- the halves of a row that a label covers -/
theorem half_lists {f : Nat → Itm} {n : Nat} {l : Lab} (hok : okF f n = true) (hki : ∀ i, i < n → U64 (f i).key) (hl : isL l = true) (hb : U64 l.bits) (h64 : l.len ≠ 64) (hc : ∀ i, i < n → coverB l (f i).key = true) {p : Nat} (hp : p = bsF f (childL l 1).bits 0 n) :
    p ≤ n ∧ covL (childL l 0) (firsts f n) = firsts f p ∧ covL (childL l 1) (firsts f n) = firsts (fun j => f (p + j)) (n - p) := by
  obtain ⟨_, h1, h2, h3⟩ := bsF_cut' (f := f) (n := n) (key := (childL l 1).bits) (okF_srt hok) n 0 n (by omega) (Nat.zero_le _) (Nat.le_refl _) (fun t ht => absurd ht (Nat.not_lt_zero _)) (fun t h1 h2 => absurd h2 (by omega))
  rw [← hp] at h1 h2 h3
  have hsp := firsts_add f p (n - p)
  rw [show p + (n - p) = n by omega] at hsp
  have cc := fun i hi => child_cov hl hb h64 (hki i hi) (hc i hi)
  refine ⟨h1, ?_, ?_⟩
  · rw [hsp]
    unfold covL
    rw [List.filter_append, List.filter_eq_self.2 (fun x hx => by
      obtain ⟨t, ht, rfl⟩ := firsts_mem hx
      rw [(cc t (by omega)).1]
      exact decide_eq_true (h2 t ht)), List.filter_eq_nil_iff.2 (fun x hx => by
      obtain ⟨t, ht, rfl⟩ := firsts_mem hx
      rw [(cc (p + t) (by omega)).1]
      have := h3 (p + t) (by omega) (by omega)
      simp; omega), List.append_nil]
  · rw [hsp]
    unfold covL
    rw [List.filter_append, List.filter_eq_nil_iff.2 (fun x hx => by
      obtain ⟨t, ht, rfl⟩ := firsts_mem hx
      rw [(cc t (by omega)).2]
      have := h2 t ht
      simp; omega), List.filter_eq_self.2 (fun x hx => by
      obtain ⟨t, ht, rfl⟩ := firsts_mem hx
      rw [(cc (p + t) (by omega)).2]
      exact decide_eq_true (h3 (p + t) (by omega) (by omega))), List.nil_append]
theorem cov_firsts {l : Lab} {f : Nat → Itm} {n : Nat} : (covL l (firsts f n)).length = n ↔ ∀ i, i < n → coverB l (f i).key = true := by
  have := cov_all (l := l) (its := firsts f n)
  rw [firsts_len] at this
  rw [this]
  constructor
  · intro h i hi
    exact h (f i) (List.mem_map.2 ⟨i, List.mem_range.2 hi, rfl⟩)
  · intro h x hx
    obtain ⟨t, ht, rfl⟩ := firsts_mem hx
    exact h t ht
end Go.Proofs.Ytkamdppnnhjajaa.Sym
