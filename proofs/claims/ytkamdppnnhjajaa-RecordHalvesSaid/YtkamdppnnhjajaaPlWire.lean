/-
  Numbers, texts and labels as bytes: plain Lean. No program in sight. Conditions: none.
-/
import Derived.Test.YtkamdppnnhjajaaPlNum
import Derived.Lib.BitFns
namespace Go.Proofs.Ytkamdppnnhjajaa
open Go.RowKit Sym
set_option linter.unusedVariables false
set_option linter.unusedSimpArgs false

def byN (v k : Nat) : UInt8 := UInt8.ofNat (v / 256 ^ k % 256)
/-- the k lowest bytes of v, the highest one first -/
def bytesN : Nat → Nat → List UInt8
  | 0, _ => []
  | k + 1, v => byN v k :: bytesN k v
theorem bytesN_len (k v : Nat) : (bytesN k v).length = k := by induction k with | zero => rfl | succ k ih => simp [bytesN, ih]
theorem bytesN_get (v : Nat) : ∀ (k t : Nat), t < k → (bytesN k v)[t]? = some (byN v (k - 1 - t))
  | 0, t, h => by omega
  | k + 1, 0, h => by simp [bytesN]
  | k + 1, t + 1, h => by
    rw [bytesN, List.getElem?_cons_succ, bytesN_get v k t (by omega)]
    rw [show k - 1 - t = k + 1 - 1 - (t + 1) by omega]
theorem byN_toNat (v k : Nat) : (byN v k).toNat = v / 256 ^ k % 256 := by
  unfold byN
  rw [UInt8.toNat_ofNat']
  omega
/-- how many bytes a number has -/
def len8 (v : Nat) : Nat := (Lib.bitLen v + 7) / 8
theorem bitLen_lt : ∀ (k v : Nat), v < 2 ^ 64 → Lib.bitLen v ≤ k → v < 2 ^ k
  | 0, v, hv, h => by
    rcases Nat.eq_zero_or_pos v with h0 | h0
    · subst h0; simp
    · rw [Lib.bitLen_half v (by omega) hv] at h; omega
  | k + 1, v, hv, h => by
    rcases Nat.eq_zero_or_pos v with h0 | h0
    · subst h0; exact Nat.two_pow_pos _
    · rw [Lib.bitLen_half v (by omega) hv] at h
      have := bitLen_lt k (v / 2) (by omega) (by omega)
      rw [Nat.pow_succ]; omega
theorem len8_iff {v : Nat} (hv : v < 2 ^ 64) (j : Nat) : len8 v ≤ j ↔ v < 256 ^ j := by
  have e : (256 : Nat) ^ j = 2 ^ (8 * j) := by rw [Nat.pow_mul]
  rw [e]
  unfold len8
  constructor
  · intro h
    exact bitLen_lt _ v hv (by omega)
  · intro h
    by_cases hj : 8 * j ≤ 64
    · have := Lib.bitLen_le v (8 * j) hj h; omega
    · have := Lib.bitLen_le v 64 (by omega) hv; omega
theorem len8_le {v : Nat} (hv : v < 2 ^ 64) : len8 v ≤ 8 := (len8_iff hv 8).2 (by simpa using hv)
def numL (v : Nat) : List UInt8 := UInt8.ofNat (len8 v) :: bytesN (len8 v) v
theorem numL_len (v : Nat) : (numL v).length = len8 v + 1 := by simp [numL, bytesN_len]
def textL (s : List UInt8) : List UInt8 := numL s.length ++ s
def labL (l : Lab) : List UInt8 := UInt8.ofNat l.len.toNat :: (bytesN 8 l.bits.toNat).take ((l.len.toNat + 7) / 8)
/-- the cells of bytes -/
def bytesC (l : List UInt8) : Nat → List AV := fun i => [.int .u8 ((l[i]?.getD 0).toNat : Int)]
theorem byteAt_C (l : List UInt8) (i : Nat) : byteAt (bytesC l i) = l[i]?.getD 0 := by
  simp [byteAt, bytesC]
theorem rowStr_C (l : List UInt8) : ∀ n, n ≤ l.length → rowStr n (bytesC l) = mkB (l.take n)
  | 0, _ => rfl
  | n + 1, h => by
    rw [rowStr_succ, rowStr_C l n (by omega), byteAt_C, mk_push, List.take_succ_eq_append_getElem (by omega)]
    simp [List.getElem?_eq_getElem (show n < l.length by omega)]
theorem rowStr_congr {n : Nat} {f g : Nat → List AV} (h : ∀ i, i < n → f i = g i) : rowStr n f = rowStr n g := by
  induction n with
  | zero => rfl
  | succ n ih => rw [rowStr_succ, rowStr_succ, ih fun i hi => h i (by omega), h n (by omega)]
theorem shr_u64 {v : Int} (hv : U64 v) (n : Nat) (hn : n ≤ 64) : stdShift .shr .u64 v (n : Int) = ((v.toNat / 2 ^ n : Nat) : Int) := by
  obtain ⟨x, rfl⟩ := Int.eq_ofNat_of_zero_le hv.1
  simp only [stdShift, Int.toNat_natCast, IntKind.bits, Nat.min_eq_left hn]
  have hq : (2 : Int) ^ n = ((2 ^ n : Nat) : Int) := by simp
  rw [hq, Int.fdiv_eq_ediv_of_nonneg _ (Int.natCast_nonneg _), ← Int.natCast_ediv]
theorem wrap_u8 (x : Nat) : IntKind.u8.wrap (x : Int) = ((x % 256 : Nat) : Int) := by
  simp [IntKind.wrap, IntKind.signed, IntKind.bits]
theorem wrap_u64n (x : Nat) : IntKind.u64.wrap (x : Int) = ((x % 2 ^ 64 : Nat) : Int) := by
  simp [IntKind.wrap, IntKind.signed, IntKind.bits]
theorem pow256 (k : Nat) : (2 : Nat) ^ (8 * k) = 256 ^ k := by rw [Nat.pow_mul]
/-- the byte k of a number, as the code says it -/
theorem byte_of {v : Int} (hv : U64 v) (k : Nat) (hk : k ≤ 8) : IntKind.u8.wrap (stdShift .shr .u64 v ((8 * k : Nat) : Int)) = ((byN v.toNat k).toNat : Int) := by
  rw [shr_u64 hv _ (by omega), wrap_u8, byN_toNat, pow256]
theorem len8_byte {v : Nat} (hv : v < 2 ^ 64) : IntKind.u8.wrap (len8 v : Int) = ((UInt8.ofNat (len8 v)).toNat : Int) := by
  rw [wrap_u8]
  have := len8_le hv
  rw [UInt8.toNat_ofNat', Nat.mod_eq_of_lt (by omega)]
theorem wrap_i64n (x : Nat) (h : x < 2 ^ 63) : IntKind.i64.wrap (x : Int) = (x : Int) := by rw [IntKind.wrap_i64]; omega
/-- the table of bits.Len64 -/
def lenTab : ByteArray := ⟨#[0, 1, 2, 2, 3, 3, 3, 3, 4, 4, 4, 4, 4, 4, 4, 4, 5, 5, 5, 5, 5, 5, 5, 5, 5, 5, 5, 5, 5, 5, 5, 5, 6, 6, 6, 6, 6, 6, 6, 6, 6, 6, 6, 6, 6, 6, 6, 6, 6, 6, 6, 6, 6, 6, 6, 6, 6, 6, 6, 6, 6, 6, 6, 6, 7, 7, 7, 7, 7, 7, 7, 7, 7, 7, 7, 7, 7, 7, 7, 7, 7, 7, 7, 7, 7, 7, 7, 7, 7, 7, 7, 7, 7, 7, 7, 7, 7, 7, 7, 7, 7, 7, 7, 7, 7, 7, 7, 7, 7, 7, 7, 7, 7, 7, 7, 7, 7, 7, 7, 7, 7, 7, 7, 7, 7, 7, 7, 7, 8, 8, 8, 8, 8, 8, 8, 8, 8, 8, 8, 8, 8, 8, 8, 8, 8, 8, 8, 8, 8, 8, 8, 8, 8, 8, 8, 8, 8, 8, 8, 8, 8, 8, 8, 8, 8, 8, 8, 8, 8, 8, 8, 8, 8, 8, 8, 8, 8, 8, 8, 8, 8, 8, 8, 8, 8, 8, 8, 8, 8, 8, 8, 8, 8, 8, 8, 8, 8, 8, 8, 8, 8, 8, 8, 8, 8, 8, 8, 8, 8, 8, 8, 8, 8, 8, 8, 8, 8, 8, 8, 8, 8, 8, 8, 8, 8, 8, 8, 8, 8, 8, 8, 8, 8, 8, 8, 8, 8, 8, 8, 8, 8, 8, 8, 8, 8, 8, 8, 8, 8, 8, 8, 8, 8, 8, 8, 8]⟩
theorem lenTab_ok : ∀ n : Fin 256, ((lenTab[n.val]?.getD 0).toNat : Nat) = Lib.bitLen n.val := by decide +kernel
theorem lenTab_size : lenTab.size = 256 := by decide +kernel
end Go.Proofs.Ytkamdppnnhjajaa
