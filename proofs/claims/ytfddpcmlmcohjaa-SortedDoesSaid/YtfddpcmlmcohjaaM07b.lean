/-
  What is in a map that was filled. No program in sight.
-/
import Derived.Test.YtfddpcmlmcohjaaM07
namespace Go.Proofs.Ytfddpcmlmcohjaa

def put1 (m : List Item) (x : Item) : List Item := if x.val.size ≤ 64 then putL m x.key x.val else m
def fillL (l : List Item) : List Item := l.foldl put1 []

theorem fill_length (l : List Item) : ∀ m : List Item, (l.foldl put1 m).length ≤ m.length + l.length := by
  induction l with
  | nil => intro m; simp
  | cons x l ih =>
    intro m
    have := ih (put1 m x)
    have h2 : (put1 m x).length ≤ m.length + 1 := by
      unfold put1; split
      · exact putL_length _ _ _
      · omega
    simp only [List.foldl_cons, List.length_cons]; omega
theorem fillL_length (l : List Item) : (fillL l).length ≤ l.length := by
  have := fill_length l []
  simpa [fillL] using this

theorem putL_mem {l : List Item} {k : Int} {v : ByteArray} {x : Item} (h : x ∈ putL l k v) : x ∈ l ∨ x = ⟨k, v⟩ := by
  unfold putL at h
  rcases List.mem_append.1 h with h | h
  · exact .inl ((List.mem_filter.1 h).1)
  · rcases List.mem_cons.1 h with h | h
    · exact .inr h
    · exact .inl ((List.mem_filter.1 h).1)
theorem fill_mem (l : List Item) (Q : Item → Prop) : ∀ m : List Item, (∀ x ∈ m, Q x) → (∀ x ∈ l, x.val.size ≤ 64 → Q x) → ∀ x ∈ l.foldl put1 m, Q x := by
  induction l with
  | nil => intro m hm _ x hx; exact hm x hx
  | cons y l ih =>
    intro m hm hl x hx
    refine ih (put1 m y) ?_ (fun z hz => hl z (by simp [hz])) x hx
    intro z hz
    unfold put1 at hz
    split at hz
    · rename_i hs
      rcases putL_mem hz with hz | rfl
      · exact hm z hz
      · exact hl y (by simp) hs
    · exact hm z hz
theorem fillL_mem {l : List Item} {Q : Item → Prop} (h : ∀ x ∈ l, x.val.size ≤ 64 → Q x) : ∀ x ∈ fillL l, Q x := fill_mem l Q [] (by simp) h
theorem range_all {l : List Item} {lo hi : Int} (h : ∀ x ∈ l, lo ≤ x.key ∧ x.key ≤ hi) : rangeL l lo hi = l := by
  unfold rangeL
  rw [List.filter_eq_self]
  simpa using h
end Go.Proofs.Ytfddpcmlmcohjaa
