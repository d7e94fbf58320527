/-
  Records: what is right, and their bytes; plain Lean. No program in sight. Conditions: none.
-/
import Derived.Test.YtkamdppnnhjajaaPlDec
namespace Go.Proofs.Ytkamdppnnhjajaa
open Go.RowKit Sym
set_option linter.unusedVariables false
set_option linter.unusedSimpArgs false

structure Itm where
  key : Int
  val : ByteArray
deriving DecidableEq
structure Rec where
  kind : Int
  items : List Itm
  next : Lab
  mark : Int
deriving DecidableEq
def zeroItm : Itm := ⟨0, ⟨#[]⟩⟩
def zeroRec : Rec := ⟨0, [], ⟨0, 0⟩, 0⟩
/-- place i of a row: is its text short, and its key greater than that ahead? -/
def okAt (f : Nat → Itm) (i : Nat) : Bool := decide ((f i).val.size ≤ 64) && (i == 0 || decide ((f (i - 1)).key < (f i).key))
def okF (f : Nat → Itm) (n : Nat) : Bool := (List.range n).all (okAt f)
theorem okF_succ (f : Nat → Itm) (n : Nat) : okF f (n + 1) = (okF f n && okAt f n) := by
  simp [okF, List.range_succ]
theorem okF_false {f : Nat → Itm} {i n : Nat} (hi : i < n) (h : okAt f i = false) : okF f n = false := by
  unfold okF
  rw [Bool.eq_false_iff]
  intro h2
  have := List.all_eq_true.1 h2 i (List.mem_range.2 hi)
  rw [h] at this; cases this
theorem okF_at {f : Nat → Itm} {i n : Nat} (hi : i < n) (h : okF f n = true) : okAt f i = true := List.all_eq_true.1 h i (List.mem_range.2 hi)
def rowF (n : Nat) (f : Nat → Itm) : Bool := decide (n ≤ 16) && okF f n
def bareK (k : Int) : Bool := decide (k = 2) || decide (k = 4)
def isRF (kd : Int) (n : Nat) (f : Nat → Itm) (nx : Lab) (mk : Int) : Bool :=
  (decide (nx = noneL) || isL nx) && (if bareK kd then decide (n = 0) && decide (nx = noneL) && decide (mk = 0) else if kd = 1 ∨ kd = 3 then decide (mk = 0) && rowF n f else if kd = 5 then rowF n f else false)
def itF (l : List Itm) : Nat → Itm := fun i => l.getD i zeroItm
def isR (r : Rec) : Bool := isRF r.kind r.items.length (itF r.items) r.next r.mark
/-- the test of one place, as the code says it -/
theorem okAt_test (f : Nat → Itm) (i : Nat) (hi : i ≤ maxLen) : (if decide ((64 : Int) < ((f i).val.size : Int)) = true then true else if decide ((0 : Int) < (i : Int)) = true then decide ((f i).key ≤ (f (IntKind.i64.wrap ((i : Int) - 1)).toNat).key) else false) = !okAt f i := by
  have hm : maxLen = 9223372036854775807 := rfl
  unfold okAt
  by_cases h1 : (f i).val.size ≤ 64
  · have h1' : ¬ (64 : Int) < ((f i).val.size : Int) := by omega
    by_cases h2 : i = 0
    · subst h2; simp [h1]; omega
    · rw [wrap_in (by omega) (by omega), show ((i : Int) - 1).toNat = i - 1 by omega]
      have h2' : (0 : Int) < (i : Int) := by omega
      have h2n : 0 < i := by omega
      have h2b : (i == 0) = false := by simp [h2]
      by_cases h3 : (f (i - 1)).key < (f i).key
      · have h3' : ¬ (f i).key ≤ (f (i - 1)).key := by omega
        simp [h1, h1', h2b, h2', h2n, h3, h3']
      · have h3' : (f i).key ≤ (f (i - 1)).key := by omega
        simp [h1, h1', h2b, h2', h2n, h3, h3']
  · have h1' : (64 : Int) < ((f i).val.size : Int) := by omega
    simp [h1, h1']
theorem isRF_ref (kd : Int) (n : Nat) (f : Nat → Itm) (nx : Lab) (mk : Int) : isRF kd n f nx mk =
    (!((decide (kd < 1) || decide (5 < kd)) || decide (16 < n) || (!decide (nx = noneL) && !isL nx)) && !((!decide (mk = 0) && !decide (kd = 5)) || (bareK kd && (decide (0 < n) || !decide (nx = noneL)))) && okF f n) := by
  unfold isRF
  by_cases hk : kd = 1 ∨ kd = 2 ∨ kd = 3 ∨ kd = 4 ∨ kd = 5
  · rcases hk with rfl | rfl | rfl | rfl | rfl
    · unfold rowF bareK; cases hn : decide (n ≤ 16) <;> cases hm : decide (mk = 0) <;> cases hx : decide (nx = noneL) <;> cases hl : isL nx <;> simp_all <;> omega
    · cases hz : decide (n = 0)
      · have : n ≠ 0 := by simpa using hz
        cases hm : decide (mk = 0) <;> cases hx : decide (nx = noneL) <;> cases hl : isL nx <;> simp_all [bareK] <;> omega
      · have : n = 0 := by simpa using hz
        subst this
        cases hm : decide (mk = 0) <;> cases hx : decide (nx = noneL) <;> cases hl : isL nx <;> simp_all [bareK, okF]
    · unfold rowF bareK; cases hn : decide (n ≤ 16) <;> cases hm : decide (mk = 0) <;> cases hx : decide (nx = noneL) <;> cases hl : isL nx <;> simp_all <;> omega
    · cases hz : decide (n = 0)
      · have : n ≠ 0 := by simpa using hz
        cases hm : decide (mk = 0) <;> cases hx : decide (nx = noneL) <;> cases hl : isL nx <;> simp_all [bareK] <;> omega
      · have : n = 0 := by simpa using hz
        subst this
        cases hm : decide (mk = 0) <;> cases hx : decide (nx = noneL) <;> cases hl : isL nx <;> simp_all [bareK, okF]
    · unfold rowF bareK; cases hn : decide (n ≤ 16) <;> cases hm : decide (mk = 0) <;> cases hx : decide (nx = noneL) <;> cases hl : isL nx <;> simp_all <;> omega
  · have h1 : ¬ kd = 1 := fun h => hk (.inl h)
    have h2 : ¬ kd = 2 := fun h => hk (.inr (.inl h))
    have h3 : ¬ kd = 3 := fun h => hk (.inr (.inr (.inl h)))
    have h4 : ¬ kd = 4 := fun h => hk (.inr (.inr (.inr (.inl h))))
    have h5 : ¬ kd = 5 := fun h => hk (.inr (.inr (.inr (.inr h))))
    have h6 : kd < 1 ∨ 5 < kd := by omega
    rcases h6 with h6 | h6 <;> simp [bareK, h1, h2, h3, h4, h5, h6]

/-! ### bytes -/
def itL (x : Itm) : List UInt8 := numL x.key.toNat ++ textL (unB x.val)
/-- the first k items -/
def itsL (f : Nat → Itm) (k : Nat) : List UInt8 := (List.range k).flatMap fun i => itL (f i)
theorem itsL_succ (f : Nat → Itm) (k : Nat) : itsL f (k + 1) = itsL f k ++ itL (f k) := by simp [itsL, List.range_succ]
def nextL (nx : Lab) : List UInt8 := if nx = noneL then numL 0 else numL 1 ++ labL nx
def putF (kd : Int) (n : Nat) (f : Nat → Itm) (nx : Lab) (mk : Int) : List UInt8 :=
  if bareK kd then numL kd.toNat else numL kd.toNat ++ numL n ++ itsL f n ++ nextL nx ++ (if kd = 5 then numL mk.toNat else [])
def putR (r : Rec) : List UInt8 := putF r.kind r.items.length (itF r.items) r.next r.mark
theorem num_short (v : Nat) : (numL v).length ≤ 10 := by
  by_cases hv : v < 2 ^ 64
  · rw [numL_len]; have := len8_le hv; omega
  · rw [numL_len]
    have := Lib.bitLenAux_le 64 v (64 + v) (Nat.lt_of_lt_of_le (Nat.lt_two_pow_self) (Nat.pow_le_pow_right (by decide) (by omega)))
    unfold len8
    have h2 : ∀ f x, Lib.bitLenAux f x ≤ f := by
      intro f
      induction f with
      | zero => intro x; simp [Lib.bitLenAux]
      | succ f ih => intro x; simp only [Lib.bitLenAux]; split
                     · omega
                     · have := ih (x / 2); omega
    have := h2 64 v
    unfold Lib.bitLen
    omega
theorem itL_short {f : Nat → Itm} {i : Nat} (h : okAt f i = true) : (itL (f i)).length ≤ 100 := by
  have h1 : (f i).val.size ≤ 64 := by
    unfold okAt at h
    simp only [Bool.and_eq_true, decide_eq_true_eq] at h
    exact h.1
  have h2 := num_short (f i).key.toNat
  have h3 := num_short (unB (f i).val).length
  unfold itL textL
  rw [List.length_append, List.length_append, un_size]
  rw [un_size] at h3
  omega
theorem itsL_short {f : Nat → Itm} {n : Nat} (h : okF f n = true) : ∀ k, k ≤ n → (itsL f k).length ≤ 100 * k
  | 0, _ => by simp [itsL]
  | k + 1, hk => by
    rw [itsL_succ, List.length_append]
    have := itsL_short h k (by omega)
    have := itL_short (okF_at (f := f) (i := k) (by omega) h)
    omega
end Go.Proofs.Ytkamdppnnhjajaa
