/-
  What Put and Drop keep, on lists. No program in sight.
-/
import Derived.Test.YtfddpcmlmcohjaaM07b
namespace Go.Proofs.Ytfddpcmlmcohjaa

theorem get_filter {l : List Item} {k : Int} {q : Item → Bool} (h : ∀ x ∈ l, x.key = k → q x = true) : get (l.filter q) k = get l k := by
  unfold get
  congr 1
  induction l with
  | nil => rfl
  | cons x l ih =>
    have ih' := ih fun y hy => h y (by simp [hy])
    by_cases hx : x.key = k
    · rw [List.filter_cons_of_pos (h x (by simp) hx), List.find?_cons_of_pos (by simp [hx]), List.find?_cons_of_pos (by simp [hx])]
    · rw [List.find?_cons_of_neg (by simp [hx])]
      by_cases hq : q x = true
      · rw [List.filter_cons_of_pos hq, List.find?_cons_of_neg (by simp [hx])]; exact ih'
      · rw [List.filter_cons_of_neg hq]; exact ih'
theorem get_none {l : List Item} {k : Int} (h : ∀ x ∈ l, x.key ≠ k) : get l k = none := by
  unfold get
  rw [Option.map_eq_none_iff, List.find?_eq_none]
  intro x hx
  simpa using h x hx
theorem get_append {l m : List Item} {k : Int} : get (l ++ m) k = (get l k).or (get m k) := by
  unfold get
  rw [List.find?_append]
  cases l.find? fun x => x.key == k <;> simp
theorem get_cons {x : Item} {l : List Item} {k : Int} : get (x :: l) k = if x.key = k then some x.val else get l k := by
  unfold get
  by_cases h : x.key = k
  · rw [List.find?_cons_of_pos (by simp [h]), if_pos h]; rfl
  · rw [List.find?_cons_of_neg (by simp [h]), if_neg h]
theorem get_put (l : List Item) (k o : Int) (v : ByteArray) : get (putL l k v) o = if k = o then some v else get l o := by
  unfold putL
  rw [get_append, get_cons]
  by_cases h : k = o
  · subst h
    rw [if_pos rfl, if_pos rfl, get_none (by intro x hx; simp only [List.mem_filter, decide_eq_true_eq] at hx; omega)]
    rfl
  · rw [if_neg h, if_neg h]
    by_cases ho : o < k
    · rw [get_filter (by intro x _ hx; simp; omega), get_none (l := l.filter _) (by intro x hx; simp only [List.mem_filter, decide_eq_true_eq] at hx; omega)]
      cases get l o <;> rfl
    · rw [get_none (l := l.filter _) (by intro x hx; simp only [List.mem_filter, decide_eq_true_eq] at hx; omega), get_filter (by intro x _ hx; simp; omega)]
      rfl
theorem get_drop (l : List Item) (k o : Int) : get (dropL l k) o = if k = o then none else get l o := by
  unfold dropL
  by_cases h : k = o
  · subst h
    rw [if_pos rfl, get_none (by intro x hx; simp only [List.mem_filter, decide_eq_true_eq] at hx; exact hx.2)]
  · rw [if_neg h, get_filter (by intro x _ hx; simp; omega)]

theorem rank_filter_lt (l : List Item) (k : Int) : rank (l.filter (fun x => decide (x.key < k))) k = rank l k := by
  unfold rank
  rw [List.countP_filter]
  congr 1
  funext x
  simp
theorem rank_zero {l : List Item} {k : Int} (h : ∀ x ∈ l, ¬ x.key < k) : rank l k = 0 := by
  unfold rank
  rw [List.countP_eq_zero]
  simpa using h
theorem rank_put (l : List Item) (k : Int) (v : ByteArray) : rank (putL l k v) k = rank l k := by
  have h1 := rank_filter_lt l k
  have h2 : rank (l.filter (fun x => decide (k < x.key))) k = 0 := rank_zero (by intro x hx; simp only [List.mem_filter, decide_eq_true_eq] at hx; omega)
  unfold putL rank at *
  rw [List.countP_append, List.countP_cons_of_neg (by simp), h1, h2, Nat.add_zero]
theorem rank_drop (l : List Item) (k : Int) : rank (dropL l k) k = rank l k := by
  unfold dropL rank
  rw [List.countP_filter]
  congr 1
  funext x
  by_cases h : x.key < k
  · have : x.key ≠ k := by omega
    simp [h, this]
  · simp [h]
theorem rank_lt (l : List Item) (k : Int) : (l.filter (fun x => decide (x.key < k))).length = rank l k := by
  unfold rank; rw [List.countP_eq_length_filter]
theorem put_at (l : List Item) (k : Int) (v : ByteArray) : (putL l k v)[rank l k]? = some ⟨k, v⟩ := by
  unfold putL
  rw [List.getElem?_append_right (by rw [rank_lt]; exact Nat.le_refl _), rank_lt]
  simp
theorem at_ofSrt {l : List Item} (h : Srt l) (k : Int) : At l k (rank l k) := by
  have hl : ∀ i, i ≤ l.length → (∀ x ∈ l.take i, x.key < k) → (∀ x ∈ l.drop i, ¬ x.key < k) → At l k (rank l k) := fun i h1 h2 h3 => by
    have hA : At l k i := ⟨h, h1, h2, h3⟩
    rw [← hA.rank]; exact hA
  induction l with
  | nil => exact hl 0 (by simp) (by simp) (by simp)
  | cons y r ih =>
    have hp := List.pairwise_cons.1 h
    by_cases hy : y.key < k
    · have ih' := ih hp.2 fun i h1 h2 h3 => by
        have hA : At r k i := ⟨hp.2, h1, h2, h3⟩
        rw [← hA.rank]; exact hA
      refine hl (rank r k + 1) (by have := ih'.le; simp; omega) ?_ ?_
      · intro x hx
        rw [List.take_succ_cons] at hx
        rcases List.mem_cons.1 hx with rfl | hx
        · exact hy
        · exact ih'.lo x hx
      · intro x hx
        rw [List.drop_succ_cons] at hx
        exact ih'.hi x hx
    · refine hl 0 (by simp) (by simp) ?_
      intro x hx
      rcases List.mem_cons.1 hx with rfl | hx
      · exact hy
      · have := hp.1 x hx; omega
theorem put_size {l : List Item} (h : Srt l) (k : Int) (v : ByteArray) : (putL l k v).length = if has l k then l.length else l.length + 1 := by
  have hA := at_ofSrt h k
  by_cases hh : has l k = true
  · rw [hA.put_old hh, if_pos hh, List.length_set]
  · have hh' : has l k = false := by simpa using hh
    rw [hA.put_new hh', if_neg hh]
    have := hA.le
    simp; omega
theorem drop_size {l : List Item} (h : Srt l) {k : Int} (hh : has l k = true) : (dropL l k).length = l.length - 1 := by
  have hA := at_ofSrt h k
  obtain ⟨hi, _, _⟩ := hA.found hh
  rw [hA.drop_old hh]
  simp; omega
theorem range_split {l : List Item} (h : Srt l) {lo mid hi : Int} (h1 : lo ≤ mid) (h2 : mid < hi) : rangeL l lo hi = rangeL l lo mid ++ rangeL l (mid + 1) hi := by
  unfold rangeL
  induction l with
  | nil => rfl
  | cons x l ih =>
    have hp := List.pairwise_cons.1 h
    have ih' := ih hp.2
    by_cases ha : lo ≤ x.key ∧ x.key ≤ mid
    · rw [List.filter_cons_of_pos (by simp; omega), List.filter_cons_of_pos (by simp; omega), List.filter_cons_of_neg (by simp; omega), ih']; rfl
    · by_cases hb : mid + 1 ≤ x.key ∧ x.key ≤ hi
      · have hn : l.filter (fun x => decide (lo ≤ x.key ∧ x.key ≤ mid)) = [] := by
          rw [List.filter_eq_nil_iff]
          intro y hy
          have := hp.1 y hy
          simp; omega
        rw [List.filter_cons_of_pos (by simp; omega), List.filter_cons_of_neg (by simp; omega), List.filter_cons_of_pos (by simp; omega), ih', hn]; rfl
      · rw [List.filter_cons_of_neg (by simp; omega), List.filter_cons_of_neg (by simp; omega), List.filter_cons_of_neg (by simp; omega), ih']
theorem range_count (l : List Item) {lo mid : Int} (h1 : lo ≤ mid) : rank l (mid + 1) = rank l lo + (rangeL l lo mid).length := by
  unfold rank rangeL
  rw [← List.countP_eq_length_filter]
  induction l with
  | nil => rfl
  | cons x l ih =>
    by_cases ha : x.key < lo
    · rw [List.countP_cons_of_pos (by simp; omega), List.countP_cons_of_pos (by simp; omega), List.countP_cons_of_neg (by simp; omega), ih]; omega
    · by_cases hb : x.key ≤ mid
      · rw [List.countP_cons_of_pos (by simp; omega), List.countP_cons_of_neg (by simp; omega), List.countP_cons_of_pos (by simp; omega), ih]; omega
      · rw [List.countP_cons_of_neg (by simp; omega), List.countP_cons_of_neg (by simp; omega), List.countP_cons_of_neg (by simp; omega), ih]
theorem get_at {l : List Item} {key : Int} {k : Nat} (hlt : k < l.length) (hno : ∀ x ∈ l.take k, x.key ≠ key) (he : l[k].key = key) : get l key = some l[k].val := by
  have hd : l.drop k = l[k] :: l.drop (k + 1) := List.drop_eq_getElem_cons hlt
  conv => lhs; rw [← List.take_append_drop k l]
  rw [get_append, get_none hno, hd, get_cons, if_pos he]; rfl
/-- a row that was gone through up to k, the right ones taken, till enough were -/
theorem filter_done {l : List Item} {q : Item → Bool} {i most : Nat} (hi : i ≤ l.length) (hm : ((l.take i).filter q).length ≤ most) (hend : i = l.length ∨ ((l.take i).filter q).length = most) :
    (l.take i).filter q = (l.filter q).take most := by
  have hs : l.filter q = (l.take i).filter q ++ (l.drop i).filter q := by
    conv => lhs; rw [← List.take_append_drop i l]
    rw [List.filter_append]
  rw [hs]
  obtain ⟨F, hF⟩ : ∃ F, F = (l.take i).filter q := ⟨_, rfl⟩
  rw [← hF] at hm hend ⊢
  rcases hend with rfl | h
  · rw [List.drop_length, List.filter_nil, List.append_nil, List.take_of_length_le hm]
  · rw [List.take_append_of_le_length (by omega), List.take_of_length_le (by omega : F.length ≤ most)]
theorem filter_step {l : List Item} {q : Item → Bool} {i : Nat} (hlt : i < l.length) : (l.take (i + 1)).filter q = (l.take i).filter q ++ if q l[i] then [l[i]] else [] := by
  rw [List.take_succ_eq_append_getElem hlt, List.filter_append]
  by_cases h : q l[i] = true
  · simp [h]
  · simp [h]
end Go.Proofs.Ytfddpcmlmcohjaa
