/-
  Labels that cover keys, and their children; records halved and joined: plain Lean. No program in sight. Conditions: none.
-/
import Derived.Test.YtkamdppnnhjajaaPlBack
namespace Go.Proofs.Ytkamdppnnhjajaa
open Go.RowKit Sym
set_option linter.unusedVariables false
set_option linter.unusedSimpArgs false

def coverB (l : Lab) (key : Int) : Bool := isL l && decide ((headN key.toNat l.len.toNat : Int) = l.bits)
def childL (l : Lab) (b : Int) : Lab := ⟨l.len + 1, if b = 1 then l.bits + (2 ^ (63 - l.len.toNat) : Nat) else l.bits⟩
/-- the first n digits -/
def digs (v : Int) (n : Nat) : List UInt8 := (lowB 64 v.toNat).take n
theorem digs_len (v : Int) {n : Nat} (hn : n ≤ 64) : (digs v n).length = n := by unfold digs; rw [List.length_take, lowB_len]; omega
theorem digs_mem {v : Int} {n : Nat} : ∀ c ∈ digs v n, c = 48 ∨ c = 49 := fun c hc => lowB_mem c (List.mem_of_mem_take hc)
theorem u64_lt {v : Int} (h : U64 v) : v.toNat < 2 ^ 64 := by have := h.1; have := h.2; omega
theorem lowB_inj {n a b : Nat} (ha : a < 2 ^ n) (hb : b < 2 ^ n) (h : lowB n a = lowB n b) : a = b := by
  have := congrArg numB h
  rw [numB_low, numB_low, Nat.mod_eq_of_lt ha, Nat.mod_eq_of_lt hb] at this
  exact this
theorem div_lt {v n : Nat} (hv : v < 2 ^ 64) (hn : n ≤ 64) : v / 2 ^ (64 - n) < 2 ^ n := by
  rw [Nat.div_lt_iff_lt_mul (Nat.pow_pos (by decide)), ← Nat.pow_add, show n + (64 - n) = 64 by omega]
  exact hv
theorem lab_parts {l : Lab} (h : isL l = true) : 0 ≤ l.len ∧ l.len ≤ 64 ∧ (headN l.bits.toNat l.len.toNat : Int) = l.bits := by
  unfold isL at h
  simp only [Bool.and_eq_true, decide_eq_true_eq] at h
  exact ⟨h.1.1, h.1.2, h.2⟩
/-- to cover a key is to have its first digits -/
theorem cov_text {l : Lab} (hl : isL l = true) (hb : U64 l.bits) {key : Int} (hk : U64 key) : decide (digs l.bits l.len.toNat = digs key l.len.toNat) = coverB l key := by
  obtain ⟨h0, h1, h2⟩ := lab_parts hl
  have hn : l.len.toNat ≤ 64 := by omega
  unfold coverB
  rw [hl, Bool.true_and]
  rw [Bool.eq_iff_iff, decide_eq_true_eq, decide_eq_true_eq]
  unfold digs
  rw [low_take _ _ hn, low_take _ _ hn]
  constructor
  · intro h
    have := lowB_inj (div_lt (u64_lt hb) hn) (div_lt (u64_lt hk) hn) h
    rw [← h2]
    unfold headN
    rw [this]
  · intro h
    have e : headN key.toNat l.len.toNat = l.bits.toNat := by omega
    unfold headN at e
    rw [← e, Nat.mul_div_cancel _ (Nat.pow_pos (by decide))]
theorem half_pow {n : Nat} (h : n < 64) : 2 ^ (64 - n) = 2 * 2 ^ (63 - n) := by
  have h9 : 64 - n = (63 - n) + 1 := by omega
  rw [h9, Nat.pow_succ, Nat.mul_comm]
/-- a right label's bits are a multiple -/
theorem lab_mul {l : Lab} (hl : isL l = true) (hb : U64 l.bits) (h64 : l.len ≠ 64) : ∃ q, l.bits = ((q * (2 * 2 ^ (63 - l.len.toNat)) : Nat) : Int) ∧ q * (2 * 2 ^ (63 - l.len.toNat)) + 2 * 2 ^ (63 - l.len.toNat) ≤ 2 ^ 64 := by
  obtain ⟨h0, h1, h2⟩ := lab_parts hl
  have hn : l.len.toNat < 64 := by omega
  refine ⟨l.bits.toNat / 2 ^ (64 - l.len.toNat), ?_, ?_⟩
  · rw [← h2]
    unfold headN
    rw [half_pow hn]
    congr 1
    have : (((l.bits.toNat / (2 * 2 ^ (63 - l.len.toNat)) * (2 * 2 ^ (63 - l.len.toNat)) : Nat) : Int).toNat) = l.bits.toNat / (2 * 2 ^ (63 - l.len.toNat)) * (2 * 2 ^ (63 - l.len.toNat)) := Int.toNat_natCast _
    have hpos : 0 < 2 * 2 ^ (63 - l.len.toNat) := Nat.mul_pos (by decide) (Nat.pow_pos (by decide))
    rw [this, Nat.mul_div_cancel _ hpos]
  · have h3 := div_lt (u64_lt hb) (show l.len.toNat ≤ 64 by omega)
    rw [← half_pow hn]
    have := Nat.mul_le_mul_right (2 ^ (64 - l.len.toNat)) (Nat.succ_le_of_lt h3)
    rw [← Nat.pow_add, show l.len.toNat + (64 - l.len.toNat) = 64 by omega, Nat.succ_mul] at this
    exact this
theorem child_u {l : Lab} (hl : isL l = true) (hb : U64 l.bits) (h64 : l.len ≠ 64) (b : Int) : U64 (childL l b).bits := by
  obtain ⟨q, h1, h2⟩ := lab_mul hl hb h64
  unfold childL
  simp only
  split
  · rw [h1]; constructor
    · omega
    · have : 0 < 2 ^ (63 - l.len.toNat) := Nat.pow_pos (by decide)
      omega
  · exact hb
theorem child_isL {l : Lab} (hl : isL l = true) (hb : U64 l.bits) (h64 : l.len ≠ 64) (b : Int) : isL (childL l b) = true := by
  obtain ⟨q, h1, h2⟩ := lab_mul hl hb h64
  obtain ⟨h3, h4, h5⟩ := lab_parts hl
  have hlen : (l.len + 1).toNat = l.len.toNat + 1 := by omega
  have hpow : 64 - (l.len.toNat + 1) = 63 - l.len.toNat := by omega
  unfold isL childL
  simp only [Bool.and_eq_true, decide_eq_true_eq]
  refine ⟨⟨by omega, by omega⟩, ?_⟩
  unfold headN
  rw [hlen, hpow]
  have hp : 0 < 2 ^ (63 - l.len.toNat) := Nat.pow_pos (by decide)
  split
  · have e : (l.bits + ((2 ^ (63 - l.len.toNat) : Nat) : Int)).toNat = (q * 2 + 1) * 2 ^ (63 - l.len.toNat) := by
      rw [h1, Nat.add_mul, Nat.one_mul, Nat.mul_assoc]; omega
    rw [e, Nat.mul_div_cancel _ hp, h1, Nat.add_mul, Nat.one_mul, Nat.mul_assoc]
    omega
  · have e : l.bits.toNat = (q * 2) * 2 ^ (63 - l.len.toNat) := by rw [h1, Nat.mul_assoc]; omega
    rw [e, Nat.mul_div_cancel _ hp, h1, Nat.mul_assoc]
/-- a key that a label covers is covered by one of its halves -/
theorem child_cov {l : Lab} (hl : isL l = true) (hb : U64 l.bits) (h64 : l.len ≠ 64) {key : Int} (hk : U64 key) (hc : coverB l key = true) :
    coverB (childL l 0) key = decide (key < (childL l 1).bits) ∧ coverB (childL l 1) key = decide ((childL l 1).bits ≤ key) := by
  obtain ⟨q, h1, h2⟩ := lab_mul hl hb h64
  obtain ⟨h3, h4, h5⟩ := lab_parts hl
  have hlen : (l.len + 1).toNat = l.len.toNat + 1 := by omega
  have hpow : 64 - (l.len.toNat + 1) = 63 - l.len.toNat := by omega
  have hn : l.len.toNat < 64 := by omega
  obtain ⟨M, hM⟩ : ∃ M, M = 2 ^ (63 - l.len.toNat) := ⟨_, rfl⟩
  have hp : 0 < M := by rw [hM]; exact Nat.pow_pos (by decide)
  have hh : (headN key.toNat l.len.toNat : Int) = l.bits := by
    unfold coverB at hc
    simp only [Bool.and_eq_true, decide_eq_true_eq] at hc
    exact hc.2
  rw [← hM] at h1
  have hq : key.toNat / (2 * M) = q := by
    unfold headN at hh
    rw [half_pow hn, ← hM, h1] at hh
    have : key.toNat / (2 * M) * (2 * M) = q * (2 * M) := by omega
    exact Nat.eq_of_mul_eq_mul_right (by omega) this
  have hkey : key.toNat = q * (2 * M) + key.toNat % (2 * M) := by
    have := Nat.div_add_mod key.toNat (2 * M)
    rw [hq, Nat.mul_comm] at this
    omega
  have hr := Nat.mod_lt key.toNat (show 0 < 2 * M by omega)
  have hdiv : key.toNat / M = q * 2 + key.toNat % (2 * M) / M := by
    conv => lhs; rw [hkey]
    rw [← Nat.mul_assoc, Nat.mul_comm, Nat.mul_add_div hp]
  have hk0 := hk.1
  unfold coverB
  rw [child_isL hl hb h64 0, child_isL hl hb h64 1, Bool.true_and, Bool.true_and]
  unfold childL headN
  simp only [hlen, hpow, ← hM, if_true, show ¬ ((0 : Int) = 1) by decide, if_false, hdiv, h1]
  by_cases hlt : key.toNat % (2 * M) < M
  · rw [Nat.div_eq_of_lt hlt, Nat.add_zero, Nat.mul_assoc]
    constructor
    · rw [decide_eq_true rfl, eq_comm, decide_eq_true_eq]; omega
    · rw [Bool.eq_iff_iff, decide_eq_true_eq, decide_eq_true_eq]; omega
  · have h9 : key.toNat % (2 * M) / M = 1 := by
      have h10 := Nat.div_lt_of_lt_mul (m := key.toNat % (2 * M)) (n := M) (k := 2) (by omega)
      have h11 := (Nat.le_div_iff_mul_le hp (x := 1) (y := key.toNat % (2 * M))).2 (by omega)
      omega
    rw [h9, Nat.add_mul, Nat.one_mul, Nat.mul_assoc]
    constructor
    · rw [Bool.eq_iff_iff, decide_eq_true_eq, decide_eq_true_eq]; omega
    · rw [Bool.eq_iff_iff, decide_eq_true_eq, decide_eq_true_eq]; omega
/-- the texts of children -/
theorem child_text {l : Lab} (hl : isL l = true) (hb : U64 l.bits) (h64 : l.len ≠ 64) (b : Int) (hb01 : b = 0 ∨ b = 1) :
    numB (digs l.bits l.len.toNat ++ [if b = 1 then 49 else 48] ++ List.replicate (64 - (l.len.toNat + 1)) 48) = (childL l b).bits.toNat := by
  obtain ⟨h3, h4, h5⟩ := lab_parts hl
  have hn : l.len.toNat < 64 := by omega
  have hh := of_head (u64_lt hb) (show l.len.toNat ≤ 64 by omega)
  rw [numB_append, numB_zeros, List.length_replicate, Nat.add_zero, half_pow hn] at hh
  have hpow : 64 - (l.len.toNat + 1) = 63 - l.len.toNat := by omega
  have h0 := hb.1
  rw [List.append_assoc, List.singleton_append, numB_append, numB_cons, numB_zeros, List.length_cons, List.length_replicate, hpow, Nat.pow_succ, Nat.mul_comm (2 ^ (63 - l.len.toNat)) 2]
  unfold digs
  rw [hh]
  unfold childL
  clear hh
  generalize headN l.bits.toNat l.len.toNat = H at h5 ⊢
  generalize 2 ^ (63 - l.len.toNat) = M
  rcases hb01 with rfl | rfl
  · simp only [show ¬ ((0 : Int) = 1) by decide, if_false]
    have : ((48 : UInt8).toNat - 48) = 0 := by decide
    rw [this]
    omega
  · simp only [if_true]
    have : ((49 : UInt8).toNat - 48) = 1 := by decide
    rw [this, Nat.one_mul]
    omega

/-! ### halves -/
def covL (l : Lab) (its : List Itm) : List Itm := its.filter fun x => coverB l x.key
def halvR (kd : Int) (n : Nat) (f : Nat → Itm) (nx : Lab) (mk : Int) (l : Lab) : Rec × Rec × Int :=
  if (isRF kd n f nx mk && isL l && decide ((covL l (firsts f n)).length = n)) = false then (zeroRec, zeroRec, 1)
  else if kd ≠ 1 ∧ kd ≠ 3 then (zeroRec, zeroRec, 13) else if l.len = 64 then (zeroRec, zeroRec, 5)
  else (⟨1, covL (childL l 0) (firsts f n), childL l 1, 0⟩, ⟨1, covL (childL l 1) (firsts f n), nx, 0⟩, 0)
theorem cov_all {l : Lab} {its : List Itm} : (covL l its).length = its.length ↔ ∀ x ∈ its, coverB l x.key = true := by
  unfold covL
  exact List.length_filter_eq_length_iff
/-- overlapping: the last one's key is not less than the first one's behind -/
def ovl (n : Nat) (f : Nat → Itm) (n2 : Nat) (f2 : Nat → Itm) : Bool := decide (0 < n) && (decide (0 < n2) && decide ((f2 0).key ≤ (f (n - 1)).key))
def uniR (kd : Int) (n : Nat) (f : Nat → Itm) (nx : Lab) (mk : Int) (kd2 : Int) (n2 : Nat) (f2 : Nat → Itm) (nx2 : Lab) (mk2 : Int) : Rec × Int :=
  if (isRF kd n f nx mk && isRF kd2 n2 f2 nx2 mk2) = false then (zeroRec, 1) else if ovl n f n2 f2 = true then (zeroRec, 1)
  else if ¬ (kd = 1 ∨ kd = 5) ∨ ¬ (kd2 = 1 ∨ kd2 = 5) then (zeroRec, 13) else if 16 < n + n2 then (zeroRec, 12) else (⟨1, firsts f n ++ firsts f2 n2, nx2, 0⟩, 0)
end Go.Proofs.Ytkamdppnnhjajaa
