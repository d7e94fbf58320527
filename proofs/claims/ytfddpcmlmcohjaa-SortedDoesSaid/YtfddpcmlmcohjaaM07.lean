/-
  Items: a key, and a value; what a sorted map does, on lists. No program in sight.
-/
import Derived.Test.YtfddpcmlmcohjaaLst
namespace Go.Proofs.Ytfddpcmlmcohjaa
open Go.RowKit
set_option linter.unusedVariables false
set_option linter.unusedSimpArgs false

structure Item where
  key : Int
  val : ByteArray
  deriving DecidableEq

def Item.enc (x : Item) : List Value := [.int .u64 x.key, .string x.val]
theorem Item.enc_len (x : Item) : x.enc.length = 2 := rfl
theorem Item.enc_one (x : Item) : ∀ v ∈ x.enc, v.oneCell' = true := by
  intro v hv; simp [Item.enc] at hv; rcases hv with rfl | rfl <;> rfl
instance : Inhabited Item := ⟨⟨0, ByteArray.empty⟩⟩

def cmp3 (x y : Int) : Int := if x < y then -1 else if y < x then 1 else 0
theorem cmp3_neg {x y : Int} : cmp3 x y < 0 ↔ x < y := by unfold cmp3; repeat' split <;> omega
theorem cmp3_zero {x y : Int} : cmp3 x y = 0 ↔ x = y := by unfold cmp3; repeat' split <;> omega

def Srt (l : List Item) : Prop := l.Pairwise (fun x y => x.key < y.key)
def rank (l : List Item) (k : Int) : Nat := l.countP (fun x => decide (x.key < k))
def get (l : List Item) (k : Int) : Option ByteArray := (l.find? (fun x => x.key == k)).map (·.val)
def has (l : List Item) (k : Int) : Bool := (get l k).isSome
def got (l : List Item) (k : Int) : ByteArray := (get l k).getD ByteArray.empty
def putL (l : List Item) (k : Int) (v : ByteArray) : List Item := l.filter (fun x => decide (x.key < k)) ++ ⟨k, v⟩ :: l.filter (fun x => decide (k < x.key))
def dropL (l : List Item) (k : Int) : List Item := l.filter (fun x => decide (x.key ≠ k))
def rangeL (l : List Item) (lo hi : Int) : List Item := l.filter (fun x => decide (lo ≤ x.key ∧ x.key ≤ hi))

theorem Srt.bs {l : List Item} (h : Srt l) (k : Int) : l.Pairwise (fun x y => cmp3 y.key k < 0 → cmp3 x.key k < 0) :=
  h.imp fun {x y} hxy hy => by rw [cmp3_neg] at hy ⊢; omega

/-- a place in a sorted row: all ahead of it are less than k, all from it on are not -/
structure At (l : List Item) (k : Int) (i : Nat) : Prop where
  srt : Srt l
  le : i ≤ l.length
  lo : ∀ x ∈ l.take i, x.key < k
  hi : ∀ x ∈ l.drop i, ¬ x.key < k

section
variable {l : List Item} {k : Int} {i : Nat}
theorem At.take (h : At l k i) : l.filter (fun x => decide (x.key < k)) = l.take i := by
  conv => lhs; rw [← List.take_append_drop i l]
  rw [List.filter_append, List.filter_eq_self.2 (by simpa using h.lo), List.filter_eq_nil_iff.2 (by simpa using h.hi), List.append_nil]
theorem At.rank (h : At l k i) : i = rank l k := by
  unfold Proofs.Ytfddpcmlmcohjaa.rank
  rw [List.countP_eq_length_filter, h.take, List.length_take, Nat.min_eq_left h.le]
theorem At.absent (h : At l k i) (hn : ∀ x, l[i]? = some x → x.key ≠ k) : l.filter (fun x => decide (k < x.key)) = l.drop i ∧ get l k = none := by
  have hs := h.srt
  have hall : ∀ x ∈ l.drop i, k < x.key := by
    intro x hx
    obtain ⟨j, hj, rfl⟩ := List.mem_drop_iff_getElem.1 hx
    have h0 : ¬ l[i].key < k := h.hi _ (List.mem_drop_iff_getElem.2 ⟨0, by omega, by simp⟩)
    have h1 := hn l[i] (by simp)
    by_cases e : j = 0
    · subst e; simp only [Nat.add_zero]; omega
    · have := List.pairwise_iff_getElem.1 hs i (i + j) (by omega) (by omega) (by omega)
      omega
  constructor
  · conv => lhs; rw [← List.take_append_drop i l]
    rw [List.filter_append, List.filter_eq_nil_iff.2 (by simpa using fun x hx => Int.le_of_lt (h.lo x hx)), List.nil_append, List.filter_eq_self.2 (by simpa using hall)]
  · unfold get
    rw [Option.map_eq_none_iff, List.find?_eq_none]
    intro x hx
    rw [← List.take_append_drop i l, List.mem_append] at hx
    rcases hx with hx | hx
    · have := h.lo x hx; simp; omega
    · have := hall x hx; simp; omega
theorem At.present (h : At l k i) {x : Item} (hx : l[i]? = some x) (hk : x.key = k) : l.filter (fun x => decide (k < x.key)) = l.drop (i + 1) ∧ get l k = some x.val := by
  have hs := h.srt
  have hil : i < l.length := (List.getElem?_eq_some_iff.1 hx).1
  have hxe : l[i] = x := (List.getElem?_eq_some_iff.1 hx).2
  have hall : ∀ y ∈ l.drop (i + 1), k < y.key := by
    intro y hy
    obtain ⟨j, hj, rfl⟩ := List.mem_drop_iff_getElem.1 hy
    have := List.pairwise_iff_getElem.1 hs i (i + 1 + j) (by omega) (by omega) (by omega)
    rw [hxe, hk] at this
    exact this
  have hd : l.drop i = x :: l.drop (i + 1) := by rw [List.drop_eq_getElem_cons hil, hxe]
  constructor
  · conv => lhs; rw [← List.take_append_drop i l]
    rw [List.filter_append, List.filter_eq_nil_iff.2 (by simpa using fun x hx => Int.le_of_lt (h.lo x hx)), List.nil_append, hd, List.filter_cons_of_neg (by simp [hk]), List.filter_eq_self.2 (by simpa using hall)]
  · unfold get
    have : l.find? (fun x => x.key == k) = some x := by
      rw [← List.take_append_drop i l, List.find?_append, List.find?_eq_none.2 (by
        intro y hy; have := h.lo y hy; simp; omega), hd, List.find?_cons_of_pos (by simp [hk])]
      rfl
    rw [this]; rfl
end

theorem At.found {l : List Item} {k : Int} {i : Nat} (h : At l k i) (hh : has l k = true) : ∃ hi : i < l.length, l[i].key = k ∧ got l k = l[i].val := by
  by_cases hx : ∃ x, l[i]? = some x ∧ x.key = k
  · obtain ⟨x, hx, hk⟩ := hx
    obtain ⟨hi, he⟩ := List.getElem?_eq_some_iff.1 hx
    subst he
    refine ⟨hi, hk, ?_⟩
    unfold got
    rw [(h.present hx hk).2]; rfl
  · have := (h.absent fun x hx' hk => hx ⟨x, hx', hk⟩).2
    unfold has at hh
    rw [this] at hh
    cases hh
theorem At.missing {l : List Item} {k : Int} {i : Nat} (h : At l k i) (hh : has l k = false) : got l k = ByteArray.empty ∧ l.filter (fun x => decide (k < x.key)) = l.drop i := by
  by_cases hx : ∃ x, l[i]? = some x ∧ x.key = k
  · obtain ⟨x, hx, hk⟩ := hx
    have := (h.present hx hk).2
    unfold has at hh
    rw [this] at hh
    cases hh
  · have := h.absent fun x hx' hk => hx ⟨x, hx', hk⟩
    refine ⟨?_, this.1⟩
    unfold got
    rw [this.2]; rfl
theorem has_iff {l : List Item} {k : Int} : has l k = true ↔ ∃ x ∈ l, x.key = k := by
  unfold has get
  rw [Option.isSome_map, List.find?_isSome]
  simp
theorem At.put_new {l : List Item} {k : Int} {i : Nat} (h : At l k i) (hh : has l k = false) (v : ByteArray) : putL l k v = l.take i ++ [⟨k, v⟩] ++ l.drop i := by
  unfold putL
  rw [h.take, (h.missing hh).2]; simp
theorem At.put_old {l : List Item} {k : Int} {i : Nat} (h : At l k i) (hh : has l k = true) (v : ByteArray) : putL l k v = l.set i ⟨k, v⟩ := by
  obtain ⟨hi, hk, _⟩ := h.found hh
  unfold putL
  rw [h.take, (h.present (List.getElem?_eq_getElem hi) hk).1, List.set_eq_take_append_cons_drop, if_pos hi]
theorem At.drop_old {l : List Item} {k : Int} {i : Nat} (h : At l k i) (hh : has l k = true) : dropL l k = l.take i ++ l.drop (i + 1) := by
  obtain ⟨hi, hk, _⟩ := h.found hh
  have hs := h.srt
  unfold dropL
  have hd : l.drop i = l[i] :: l.drop (i + 1) := List.drop_eq_getElem_cons hi
  conv => lhs; rw [← List.take_append_drop i l, hd]
  rw [List.filter_append, List.filter_cons_of_neg (by simp [hk])]
  congr 1
  · rw [List.filter_eq_self]
    intro x hx; have := h.lo x hx; simp; omega
  · rw [List.filter_eq_self]
    intro x hx
    obtain ⟨j, hj, rfl⟩ := List.mem_drop_iff_getElem.1 hx
    have := List.pairwise_iff_getElem.1 hs i (i + 1 + j) (by omega) (by omega) (by omega)
    simp; omega
theorem drop_none {l : List Item} {k : Int} (hh : has l k = false) : dropL l k = l := by
  unfold dropL
  rw [List.filter_eq_self]
  intro x hx
  simp only [decide_eq_true_eq]
  intro hk
  rw [has_iff.2 ⟨x, hx, hk⟩] at hh
  cases hh

theorem take_done {D : List Item} {hi : Int} {k most : Nat} (hsd : Srt D) (hk : k ≤ D.length) (hle : ∀ x ∈ D.take k, x.key ≤ hi) (hm : k ≤ most)
    (hend : k = D.length ∨ (∃ x, D[k]? = some x ∧ hi < x.key) ∨ k = most) : D.take k = (D.filter (fun x => decide (x.key ≤ hi))).take most := by
  have hD : D.filter (fun x => decide (x.key ≤ hi)) = D.take k ++ (D.drop k).filter (fun x => decide (x.key ≤ hi)) := by
    conv => lhs; rw [← List.take_append_drop k D]
    rw [List.filter_append, List.filter_eq_self.2 (by simpa using hle)]
  have hlen : (D.take k).length = k := by rw [List.length_take]; omega
  rw [hD]
  rcases hend with he | ⟨x, hx, hlt⟩ | rfl
  · have : D.drop k = [] := List.drop_of_length_le (by omega)
    rw [this, List.filter_nil, List.append_nil, List.take_of_length_le (by omega : (D.take k).length ≤ most)]
  · have hkl := (List.getElem?_eq_some_iff.1 hx).1
    have hxe := (List.getElem?_eq_some_iff.1 hx).2
    have : (D.drop k).filter (fun x => decide (x.key ≤ hi)) = [] := by
      rw [List.filter_eq_nil_iff]
      intro y hy
      obtain ⟨j, hj, rfl⟩ := List.mem_drop_iff_getElem.1 hy
      by_cases e : j = 0
      · subst e; simp only [Nat.add_zero, hxe]; simp; omega
      · have := List.pairwise_iff_getElem.1 hsd k (k + j) hkl (by omega) (by omega)
        rw [hxe] at this
        simp; omega
    rw [this, List.append_nil, List.take_of_length_le (by omega : (D.take k).length ≤ most)]
  · rw [List.take_append_of_le_length (by omega), List.take_of_length_le (by omega : (D.take k).length ≤ k)]

theorem range_drop {l : List Item} {lo : Int} {i : Nat} (h : At l lo i) (hi : Int) : rangeL l lo hi = (l.drop i).filter (fun x => decide (x.key ≤ hi)) := by
  unfold rangeL
  conv => lhs; rw [← List.take_append_drop i l]
  rw [List.filter_append, List.filter_eq_nil_iff.2 (by intro x hx; have := h.lo x hx; simp; omega), List.nil_append]
  apply List.filter_congr
  intro x hx
  have := h.hi x hx
  have : lo ≤ x.key := by omega
  simp [this]

theorem Srt.put {l : List Item} (h : Srt l) (k : Int) (v : ByteArray) : Srt (putL l k v) := by
  unfold putL Srt
  rw [List.pairwise_append]
  refine ⟨List.Pairwise.filter _ h, List.pairwise_cons.2 ⟨by simp, List.Pairwise.filter _ h⟩, ?_⟩
  intro a ha b hb
  simp only [List.mem_filter, decide_eq_true_eq] at ha
  rcases List.mem_cons.1 hb with rfl | hb
  · exact ha.2
  · simp only [List.mem_filter, decide_eq_true_eq] at hb; omega
theorem Srt.dropL {l : List Item} (h : Srt l) (k : Int) : Srt (dropL l k) := List.Pairwise.filter _ h
theorem putL_length (l : List Item) (k : Int) (v : ByteArray) : (putL l k v).length ≤ l.length + 1 := by
  unfold putL
  have h : ∀ l : List Item, (l.filter (fun x => decide (x.key < k))).length + (l.filter (fun x => decide (k < x.key))).length ≤ l.length := by
    intro l
    induction l with
    | nil => simp
    | cons x l ih =>
      simp only [List.filter_cons, List.length_cons]
      by_cases h1 : x.key < k
      · have h2 : ¬ k < x.key := by omega
        simp [h1, h2]; omega
      · by_cases h2 : k < x.key
        · simp [h1, h2]; omega
        · simp [h1, h2]; omega
  have := h l
  simp; omega
theorem dropL_length (l : List Item) (k : Int) : (dropL l k).length ≤ l.length := List.length_filter_le _ _
end Go.Proofs.Ytfddpcmlmcohjaa
