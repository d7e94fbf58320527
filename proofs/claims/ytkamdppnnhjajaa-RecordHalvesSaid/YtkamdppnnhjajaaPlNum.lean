/-
  Numbers and their bits, labels: plain Lean. No program in sight. Conditions: none.
-/
import Derived.Test.YtkamdppnnhjajaaPlB
namespace Go.Proofs.Ytkamdppnnhjajaa
open Go.RowKit Sym
set_option linter.unusedVariables false
set_option linter.unusedSimpArgs false

def U64 (v : Int) : Prop := 0 ≤ v ∧ v < 18446744073709551616
/-- the n highest bits of v, the others 0 -/
def headN (v n : Nat) : Nat := v / 2 ^ (64 - n) * 2 ^ (64 - n)
theorem headN_le (v n : Nat) : headN v n ≤ v := Nat.div_mul_le_self _ _
theorem testBit_head (v n i : Nat) : (headN v n).testBit i = (decide (64 - n ≤ i) && v.testBit i) := by
  unfold headN
  rw [← Nat.shiftRight_eq_div_pow, ← Nat.shiftLeft_eq, Nat.testBit_shiftLeft, Nat.testBit_shiftRight]
  by_cases h : 64 - n ≤ i
  · rw [show 64 - n + (i - (64 - n)) = i by omega]
  · simp [h]
theorem wrap_u64 (x : Int) (h : U64 x) : IntKind.u64.wrap x = x := by
  unfold U64 at h
  simp [IntKind.wrap, IntKind.signed, IntKind.bits]
  omega
theorem shr_all {n : Int} (h0 : 0 ≤ n) (h1 : n ≤ 64) : stdShift .shr .u64 18446744073709551615 n = ((2 ^ (64 - n.toNat) - 1 : Nat) : Int) := by
  obtain ⟨k, rfl⟩ := Int.eq_ofNat_of_zero_le h0
  have hk : k ≤ 64 := by omega
  simp only [stdShift, Int.toNat_natCast, IntKind.bits]
  rw [Nat.min_eq_left hk]
  have hp : (18446744073709551615 : Int) = ((2 ^ 64 - 1 : Nat) : Int) := by decide
  have hq : (2 : Int) ^ k = ((2 ^ k : Nat) : Int) := by simp
  rw [hp, hq, Int.fdiv_eq_ediv_of_nonneg _ (Int.natCast_nonneg _), ← Int.natCast_ediv]
  have e : (2 : Nat) ^ 64 - 1 = (2 ^ (64 - k) - 1) * 2 ^ k + (2 ^ k - 1) := by
    have h2 : (2 : Nat) ^ 64 = 2 ^ (64 - k) * 2 ^ k := by rw [← Nat.pow_add]; congr 1; omega
    have h3 := Nat.one_le_two_pow (n := 64 - k)
    have h4 := Nat.one_le_two_pow (n := k)
    rw [h2, Nat.sub_mul, Nat.one_mul]
    have h5 : 2 ^ k ≤ 2 ^ (64 - k) * 2 ^ k := Nat.le_mul_of_pos_left _ h3
    omega
  have hd : ((2 : Nat) ^ 64 - 1) / 2 ^ k = 2 ^ (64 - k) - 1 := by
    rw [e, Nat.mul_comm, Nat.mul_add_div (Nat.two_pow_pos k), Nat.div_eq_of_lt (by have := Nat.two_pow_pos k; omega), Nat.add_zero]
  rw [← hd]
theorem andNot_low {v : Int} (hv : U64 v) (k : Nat) (hk : k ≤ 64) : stdArith .andNot .u64 v ((2 ^ k - 1 : Nat) : Int) = ((v.toNat / 2 ^ k * 2 ^ k : Nat) : Int) := by
  obtain ⟨x, rfl⟩ := Int.eq_ofNat_of_zero_le hv.1
  have hx : x < 2 ^ 64 := by have := hv.2; omega
  have hle : x / 2 ^ k * 2 ^ k ≤ x := Nat.div_mul_le_self _ _
  simp only [Int.toNat_natCast]
  show IntKind.u64.wrap ((BitVec.ofInt 64 (x : Int) &&& ~~~BitVec.ofInt 64 ((2 ^ k - 1 : Nat) : Int)).toNat : Int) = _
  have hp : 2 ^ k ≤ 2 ^ 64 := Nat.pow_le_pow_right (by decide) hk
  have key : (BitVec.ofInt 64 (x : Int) &&& ~~~BitVec.ofInt 64 ((2 ^ k - 1 : Nat) : Int)).toNat = x / 2 ^ k * 2 ^ k := by
    apply Nat.eq_of_testBit_eq
    intro i
    have e1 : BitVec.ofInt 64 (x : Int) = BitVec.ofNat 64 x := rfl
    have e2 : BitVec.ofInt 64 ((2 ^ k - 1 : Nat) : Int) = BitVec.ofNat 64 (2 ^ k - 1) := rfl
    rw [e1, e2, BitVec.testBit_toNat, BitVec.getLsbD_and, BitVec.getLsbD_not, BitVec.getLsbD_ofNat, BitVec.getLsbD_ofNat, Nat.testBit_two_pow_sub_one]
    rw [← Nat.shiftRight_eq_div_pow, ← Nat.shiftLeft_eq, Nat.testBit_shiftLeft, Nat.testBit_shiftRight]
    by_cases hi : i < 64
    · by_cases hik : k ≤ i
      · rw [show k + (i - k) = i by omega]; simp [hi, hik, show ¬ i < k by omega]
      · simp [hi, hik, show i < k by omega]
    · have : x.testBit i = false := Nat.testBit_lt_two_pow (Nat.lt_of_lt_of_le hx (Nat.pow_le_pow_right (by decide) (by omega)))
      by_cases hik : k ≤ i
      · rw [show k + (i - k) = i by omega]; simp [hi, this]
      · simp [hi, hik]
  rw [key]
  exact wrap_u64 _ ⟨by omega, by omega⟩
theorem head_std {v n : Int} (hv : U64 v) (h0 : 0 ≤ n) (h1 : n ≤ 64) : stdArith .andNot .u64 v (stdShift .shr .u64 18446744073709551615 n) = (headN v.toNat n.toNat : Int) := by
  rw [shr_all h0 h1, andNot_low hv _ (by omega)]
  rfl

/-! ### labels -/
structure Lab where
  len : Int
  bits : Int
deriving DecidableEq
/-- is it right? -/
def isL (l : Lab) : Bool := decide (0 ≤ l.len) && decide (l.len ≤ 64) && decide ((headN l.bits.toNat l.len.toNat : Int) = l.bits)
def noneL : Lab := ⟨-1, 0⟩

/-! ### bits as texts -/
def dig (v k : Nat) : UInt8 := if v / 2 ^ k % 2 = 1 then 49 else 48
/-- the k lowest bits of v, the highest one first -/
def lowB : Nat → Nat → List UInt8
  | 0, _ => []
  | k + 1, v => dig v k :: lowB k v
theorem lowB_len (k v : Nat) : (lowB k v).length = k := by induction k with | zero => rfl | succ k ih => simp [lowB, ih]
def numB : List UInt8 → Nat := List.foldl (fun a c => 2 * a + (c.toNat - 48)) 0
theorem numB_foldl (l : List UInt8) (a : Nat) : l.foldl (fun a c => 2 * a + (c.toNat - 48)) a = a * 2 ^ l.length + numB l := by
  induction l generalizing a with
  | nil => simp [numB]
  | cons c l ih =>
    unfold numB
    rw [List.foldl_cons, ih, List.foldl_cons, ih (2 * 0 + (c.toNat - 48)), List.length_cons, Nat.pow_succ, Nat.add_mul, Nat.mul_zero, Nat.zero_add, Nat.add_assoc]
    congr 1
    rw [Nat.mul_comm 2 a, Nat.mul_assoc, Nat.mul_comm 2]
theorem numB_append (l r : List UInt8) : numB (l ++ r) = numB l * 2 ^ r.length + numB r := by
  unfold numB
  rw [List.foldl_append, numB_foldl]
  rfl
theorem dig_val (v k : Nat) : (dig v k).toNat - 48 = v / 2 ^ k % 2 := by
  unfold dig
  rcases Nat.mod_two_eq_zero_or_one (v / 2 ^ k) with h | h
  · simp [h]
  · simp [h]
theorem numB_cons (c : UInt8) (l : List UInt8) : numB (c :: l) = (c.toNat - 48) * 2 ^ l.length + numB l := by
  have : numB (c :: l) = l.foldl (fun a c => 2 * a + (c.toNat - 48)) (2 * 0 + (c.toNat - 48)) := rfl
  rw [this, numB_foldl, Nat.mul_zero, Nat.zero_add]
theorem numB_low (k v : Nat) : numB (lowB k v) = v % 2 ^ k := by
  induction k with
  | zero => simp [lowB, numB, Nat.mod_one]
  | succ k ih =>
    have : numB (lowB (k + 1) v) = ((dig v k).toNat - 48) * 2 ^ k + numB (lowB k v) := by
      rw [lowB, numB_cons, lowB_len]
    rw [this, dig_val, ih, Nat.pow_succ, Nat.mod_mul]
    rw [Nat.add_comm, Nat.mul_comm (2 ^ k)]
theorem numB_zeros (n : Nat) : numB (List.replicate n 48) = 0 := by
  induction n with
  | zero => rfl
  | succ n ih => rw [List.replicate_succ', numB_append, ih]; rfl
theorem low_take (n v : Nat) (hn : n ≤ 64) : (lowB 64 v).take n = lowB n (v / 2 ^ (64 - n)) := by
  have key : ∀ k m, m ≤ k → (lowB k v).take m = lowB m (v / 2 ^ (k - m)) := by
    intro k
    induction k with
    | zero => intro m hm; have : m = 0 := by omega
              subst this; rfl
    | succ k ih =>
      intro m hm
      cases m with
      | zero => rfl
      | succ m =>
        simp only [lowB, List.take_succ_cons]
        rw [ih m (by omega)]
        rw [show k + 1 - (m + 1) = k - m by omega]
        congr 1
        unfold dig
        rw [Nat.div_div_eq_div_mul, ← Nat.pow_add, show k - m + m = k by omega]
  exact key 64 n hn
theorem of_head {v n : Nat} (hv : v < 2 ^ 64) (hn : n ≤ 64) : numB ((lowB 64 v).take n ++ List.replicate (64 - n) 48) = headN v n := by
  rw [numB_append, numB_zeros, List.length_replicate, low_take n v hn, numB_low, Nat.add_zero]
  unfold headN
  congr 1
  apply Nat.mod_eq_of_lt
  rw [Nat.div_lt_iff_lt_mul (Nat.two_pow_pos _), ← Nat.pow_add, show n + (64 - n) = 64 by omega]
  exact hv
theorem numB_lt (l : List UInt8) (h : ∀ c ∈ l, c = 48 ∨ c = 49) : numB l < 2 ^ l.length := by
  induction l with
  | nil => decide
  | cons c l ih =>
    have e := numB_cons c l
    have := ih fun x hx => h x (List.mem_cons_of_mem _ hx)
    rw [e, List.length_cons, Nat.pow_succ]
    rcases h c (by simp) with rfl | rfl
    · simp; omega
    · simp; omega
theorem lowB_mem {k v : Nat} : ∀ c ∈ lowB k v, c = 48 ∨ c = 49 := by
  induction k with
  | zero => intro c h; cases h
  | succ k ih =>
    intro c h
    rcases List.mem_cons.1 h with rfl | h
    · unfold dig; split
      · exact .inr rfl
      · exact .inl rfl
    · exact ih c h
end Go.Proofs.Ytkamdppnnhjajaa
