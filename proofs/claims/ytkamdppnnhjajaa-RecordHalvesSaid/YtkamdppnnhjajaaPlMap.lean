/-
  Items found, put and dropped in a row: plain Lean. No program in sight. Conditions: none.
-/
import Derived.Test.YtkamdppnnhjajaaPlBack
namespace Go.Proofs.Ytkamdppnnhjajaa
open Go.RowKit Sym
set_option linter.unusedVariables false
set_option linter.unusedSimpArgs false

/-! ### found -/
def isK (key : Int) (x : Itm) : Bool := decide (x.key = key)
def findS (l : List Itm) (key : Int) : ByteArray := match l.find? (isK key) with
  | some x => x.val
  | none => ⟨#[]⟩
def findB (l : List Itm) (key : Int) : Bool := (l.find? (isK key)).isSome
theorem firsts_split (f : Nat → Itm) (n i : Nat) (h : i < n) : firsts f n = firsts f i ++ f i :: (List.range (n - i - 1)).map fun j => f (i + 1 + j) := by
  apply List.ext_getElem
  · simp [firsts]; omega
  · intro t h1 h2
    have ht : t < n := by simpa [firsts] using h1
    simp only [firsts, List.getElem_map, List.getElem_range]
    by_cases hi : t < i
    · rw [List.getElem_append_left (by simpa using hi)]
      simp
    · rw [List.getElem_append_right (by simp; omega)]
      obtain ⟨q, rfl⟩ : ∃ q, t = i + q := ⟨t - i, by omega⟩
      cases q with
      | zero => simp
      | succ q =>
        simp only [List.length_map, List.length_range, show i + (q + 1) - i = q + 1 by omega, List.getElem_cons_succ, List.getElem_map, List.getElem_range]
        congr 1
        omega
theorem firsts_mem {f : Nat → Itm} {n : Nat} {x : Itm} (h : x ∈ firsts f n) : ∃ t, t < n ∧ x = f t := by
  unfold firsts at h
  obtain ⟨t, ht, rfl⟩ := List.mem_map.1 h
  exact ⟨t, List.mem_range.1 ht, rfl⟩
theorem find_hit {f : Nat → Itm} {n i : Nat} {key : Int} (hi : i < n) (hm : ∀ t, t < i → (f t).key ≠ key) (h : (f i).key = key) : (firsts f n).find? (isK key) = some (f i) := by
  rw [List.find?_eq_some_iff_append]
  refine ⟨by simp [isK, h], firsts f i, _, firsts_split f n i hi, fun a ha => ?_⟩
  obtain ⟨t, ht, rfl⟩ := firsts_mem ha
  simp [isK, hm t ht]
theorem find_miss {f : Nat → Itm} {n : Nat} {key : Int} (hm : ∀ t, t < n → (f t).key ≠ key) : (firsts f n).find? (isK key) = none := by
  rw [List.find?_eq_none]
  intro a ha
  obtain ⟨t, ht, rfl⟩ := firsts_mem ha
  simp [isK, hm t ht]
/-- the first place at which p is so, or -1 -/
def idxF (p : Nat → Bool) (n : Nat) : Int := match (List.range n).find? p with
  | some i => (i : Int)
  | none => -1
theorem idx_hit {p : Nat → Bool} {n i : Nat} (hi : i < n) (hm : ∀ t, t < i → p t = false) (h : p i = true) : idxF p n = (i : Int) := by
  have : (List.range n).find? p = some i := by
    rw [List.find?_eq_some_iff_append]
    refine ⟨h, List.range i, (List.range (n - i - 1)).map fun j => i + 1 + j, ?_, fun a ha => by rw [hm a (List.mem_range.1 ha)]; rfl⟩
    apply List.ext_getElem
    · simp; omega
    · intro t h1 h2
      have ht : t < n := by simpa using h1
      simp only [List.getElem_range]
      by_cases hti : t < i
      · rw [List.getElem_append_left (by simpa using hti)]; simp
      · rw [List.getElem_append_right (by simp; omega)]
        obtain ⟨q, rfl⟩ : ∃ q, t = i + q := ⟨t - i, by omega⟩
        cases q with
        | zero => simp
        | succ q => simp [show i + (q + 1) - i = q + 1 by omega]; omega
  simp [idxF, this]
theorem idx_miss {p : Nat → Bool} {n : Nat} (hm : ∀ t, t < n → p t = false) : idxF p n = -1 := by
  have : (List.range n).find? p = none := by
    rw [List.find?_eq_none]
    intro a ha
    rw [hm a (List.mem_range.1 ha)]
    decide
  simp [idxF, this]
theorem idx_cases (p : Nat → Bool) (n : Nat) : (∃ i, i < n ∧ idxF p n = (i : Int) ∧ p i = true ∧ ∀ t, t < i → p t = false) ∨ (idxF p n = -1 ∧ ∀ t, t < n → p t = false) := by
  induction n with
  | zero => exact .inr ⟨rfl, fun t ht => absurd ht (Nat.not_lt_zero _)⟩
  | succ n ih =>
    rcases ih with ⟨i, h1, h2, h3, h4⟩ | ⟨h1, h2⟩
    · exact .inl ⟨i, by omega, idx_hit (by omega) h4 h3, h3, h4⟩
    · cases hp : p n with
      | true => exact .inl ⟨n, by omega, idx_hit (by omega) h2 hp, hp, h2⟩
      | false =>
        have : ∀ t, t < n + 1 → p t = false := fun t ht => by
          by_cases h : t = n
          · rw [h]; exact hp
          · exact h2 t (by omega)
        exact .inr ⟨idx_miss this, this⟩

/-! ### put and dropped -/
def dropL (l : List Itm) (key : Int) : List Itm := l.filter fun x => !isK key x
def lowL (l : List Itm) (key : Int) : List Itm := l.takeWhile fun x => decide (x.key < key)
def putL (l : List Itm) (key : Int) (val : ByteArray) : List Itm := lowL (dropL l key) key ++ ⟨key, val⟩ :: (dropL l key).drop (lowL (dropL l key) key).length
/-- a Map's Put -/
def putM (l : List Itm) (key : Int) (val : ByteArray) : List Itm := if 64 < val.size then l else putL l key val
def ofL (l : List Itm) : List Itm := l.foldl (fun m x => putM m x.key x.val) []
def Srt (l : List Itm) : Prop := l.Pairwise fun x y => x.key < y.key
theorem okF_srt {f : Nat → Itm} {n : Nat} (h : okF f n = true) : ∀ i j, i < j → j < n → (f i).key < (f j).key := by
  intro i j hij
  induction j with
  | zero => omega
  | succ j ih =>
    intro hj
    have hk := okF_at (f := f) (i := j + 1) hj h
    unfold okAt at hk
    simp only [Bool.and_eq_true, decide_eq_true_eq, Bool.or_eq_true, beq_iff_eq] at hk
    have h2 : (f j).key < (f (j + 1)).key := by
      rcases hk.2 with h0 | h0
      · omega
      · simpa using h0
    by_cases he : i = j
    · rw [he]; exact h2
    · have := ih (by omega) (by omega)
      omega
theorem okF_Srt {f : Nat → Itm} {n : Nat} (h : okF f n = true) : Srt (firsts f n) := by
  unfold Srt firsts
  rw [List.pairwise_map]
  refine List.Pairwise.imp_of_mem ?_ (List.pairwise_lt_range (n := n))
  intro a b ha hb hab
  exact okF_srt h a b hab (List.mem_range.1 hb)
theorem dropL_id {l : List Itm} {key : Int} (h : ∀ x ∈ l, x.key ≠ key) : dropL l key = l := by
  unfold dropL
  rw [List.filter_eq_self]
  intro x hx
  simp [isK, h x hx]
theorem lowL_app {a b : List Itm} {key : Int} (ha : ∀ x ∈ a, x.key < key) (hb : ∀ x ∈ b, key < x.key) : lowL (a ++ b) key = a := by
  unfold lowL
  rw [List.takeWhile_append_of_pos (by intro x hx; simpa using ha x hx)]
  cases b with
  | nil => simp
  | cons y b =>
    have := hb y (by simp)
    rw [List.takeWhile_cons_of_neg (by simp; omega)]
    simp
/-- put where the row is split by the key -/
theorem putL_split {a b : List Itm} {m : List Itm} {key : Int} {val : ByteArray} (ha : ∀ x ∈ a, x.key < key) (hb : ∀ x ∈ b, key < x.key) (hm : ∀ x ∈ m, x.key = key) : putL (a ++ m ++ b) key val = a ++ ⟨key, val⟩ :: b := by
  have hd : dropL (a ++ m ++ b) key = a ++ b := by
    unfold dropL
    rw [List.filter_append, List.filter_append]
    rw [List.filter_eq_self.2 (fun x hx => by have := ha x hx; simp [isK]; omega), List.filter_eq_nil_iff.2 (fun x hx => by simp [isK, hm x hx]), List.filter_eq_self.2 (fun x hx => by have := hb x hx; simp [isK]; omega)]
    simp
  unfold putL
  rw [hd, lowL_app ha hb, List.drop_left]
theorem ofL_firsts_succ (f : Nat → Itm) (i : Nat) : ofL (firsts f (i + 1)) = putM (ofL (firsts f i)) (f i).key (f i).val := by
  unfold ofL firsts
  rw [List.range_succ, List.map_append, List.foldl_append]
  rfl
theorem ofL_srt {f : Nat → Itm} {n : Nat} (h : okF f n = true) : ∀ i, i ≤ n → ofL (firsts f i) = firsts f i
  | 0, _ => rfl
  | i + 1, hi => by
    rw [ofL_firsts_succ, ofL_srt h i (by omega)]
    have hv : (f i).val.size ≤ 64 := by
      have hk := okF_at (f := f) (i := i) (by omega) h
      unfold okAt at hk
      simp only [Bool.and_eq_true, decide_eq_true_eq] at hk
      exact hk.1
    unfold putM
    rw [if_neg (by omega)]
    have := putL_split (a := firsts f i) (b := []) (m := []) (key := (f i).key) (val := (f i).val) (fun x hx => by
      obtain ⟨t, ht, rfl⟩ := firsts_mem hx
      exact okF_srt h t i ht (by omega)) (by simp) (by simp)
    rw [List.append_nil, List.append_nil] at this
    rw [this]
    simp [firsts, List.range_succ]
/-! ### the binary search -/
section
variable {l : List Itm} {key : Int} {p : Nat}
structure Cut (l : List Itm) (key : Int) (p : Nat) : Prop where
  le : p ≤ l.length
  lo : ∀ x ∈ l.take p, x.key < key
  hi : ∀ x ∈ l.drop p, key ≤ x.key
theorem Cut.hit (h : Cut l key p) (hs : Srt l) {x : Itm} (hp : l[p]? = some x) (hx : x.key = key) : (∀ y ∈ l.drop (p + 1), key < y.key) ∧ l = l.take p ++ [x] ++ l.drop (p + 1) := by
  have hlt := (List.getElem?_eq_some_iff.1 hp).1
  have hd : l.drop p = x :: l.drop (p + 1) := by rw [List.drop_eq_getElem_cons hlt, (List.getElem?_eq_some_iff.1 hp).2]
  have hsp : l = l.take p ++ [x] ++ l.drop (p + 1) := by
    conv => lhs; rw [← List.take_append_drop p l, hd]
    simp
  refine ⟨fun y hy => ?_, hsp⟩
  unfold Srt at hs
  rw [hsp, List.append_assoc] at hs
  have h2 := (List.pairwise_append.1 hs).2.1
  rw [List.singleton_append] at h2
  have := (List.pairwise_cons.1 h2).1 y hy
  omega
theorem Cut.miss (h : Cut l key p) (hp : ∀ x, l[p]? = some x → x.key ≠ key) (hs : Srt l) : ∀ y ∈ l.drop p, key < y.key := by
  intro y hy
  cases hd : l.drop p with
  | nil => rw [hd] at hy; cases hy
  | cons x r =>
    have hlt : p < l.length := by
      have := congrArg List.length hd
      simp at this; omega
    have hx : l[p]? = some x := by
      have h2 := List.drop_eq_getElem_cons hlt
      rw [hd] at h2
      injection h2 with h2 _
      rw [List.getElem?_eq_getElem hlt, ← h2]
    have h1 := h.hi x (by rw [hd]; simp)
    have h2 := hp x hx
    rw [hd] at hy
    rcases List.mem_cons.1 hy with rfl | hy
    · omega
    · unfold Srt at hs
      rw [← List.take_append_drop p l, hd] at hs
      have h3 := (List.pairwise_append.1 hs).2.1
      have := (List.pairwise_cons.1 h3).1 y hy
      omega
theorem put_hit (h : Cut l key p) (hs : Srt l) {x : Itm} (hp : l[p]? = some x) (hx : x.key = key) (val : ByteArray) : putL l key val = l.set p ⟨x.key, val⟩ ∧ dropL l key = l.take p ++ l.drop (p + 1) ∧ l.find? (isK key) = some x := by
  obtain ⟨h1, h2⟩ := h.hit hs hp hx
  have hlt := (List.getElem?_eq_some_iff.1 hp).1
  refine ⟨?_, ?_, ?_⟩
  · have h3 : l.set p ⟨x.key, val⟩ = l.take p ++ ⟨key, val⟩ :: l.drop (p + 1) := by rw [List.set_eq_take_append_cons_drop, if_pos hlt, hx]
    rw [h3]
    conv => lhs; rw [h2]
    exact putL_split h.lo h1 (fun y hy => by rw [List.mem_singleton.1 hy]; exact hx)
  · conv => lhs; rw [h2]
    have f1 : dropL (l.take p) key = l.take p := dropL_id fun y hy => by have := h.lo y hy; omega
    have f3 : dropL (l.drop (p + 1)) key = l.drop (p + 1) := dropL_id fun y hy => by have := h1 y hy; omega
    unfold dropL at f1 f3 ⊢
    rw [List.filter_append, List.filter_append, f1, f3]
    simp [isK, hx]
  · rw [List.find?_eq_some_iff_append]
    refine ⟨by simp [isK, hx], l.take p, l.drop (p + 1), by conv => lhs; rw [h2]
                                                            simp, fun a ha => ?_⟩
    have := h.lo a ha
    simp [isK]; omega
theorem put_miss (h : Cut l key p) (hs : Srt l) (hp : ∀ x, l[p]? = some x → x.key ≠ key) (val : ByteArray) : putL l key val = l.take p ++ [⟨key, val⟩] ++ l.drop p ∧ l.find? (isK key) = none := by
  have h1 := h.miss hp hs
  refine ⟨?_, ?_⟩
  · have := putL_split (a := l.take p) (b := l.drop p) (m := []) (key := key) (val := val) h.lo h1 (by simp)
    rw [List.append_nil, List.take_append_drop] at this
    rw [this]; simp
  · rw [List.find?_eq_none]
    intro a ha
    rw [← List.take_append_drop p l] at ha
    rcases List.mem_append.1 ha with ha | ha
    · have := h.lo a ha; simp [isK]; omega
    · have := h1 a ha; simp [isK]; omega
end
end Go.Proofs.Ytkamdppnnhjajaa
