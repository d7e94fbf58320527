/-
  Numbers, texts and labels read from bytes: plain Lean. No program in sight. Conditions: none.
-/
import Derived.Test.YtkamdppnnhjajaaPlWire
namespace Go.Proofs.Ytkamdppnnhjajaa
open Go.RowKit Sym
set_option linter.unusedVariables false
set_option linter.unusedSimpArgs false

def valB : List UInt8 → Nat := List.foldl (fun a c => a * 256 + c.toNat) 0
theorem valB_foldl (l : List UInt8) (a : Nat) : l.foldl (fun a c => a * 256 + c.toNat) a = a * 256 ^ l.length + valB l := by
  induction l generalizing a with
  | nil => simp [valB]
  | cons c l ih =>
    unfold valB
    rw [List.foldl_cons, ih, List.foldl_cons, ih (0 * 256 + c.toNat), List.length_cons, Nat.pow_succ, Nat.zero_mul, Nat.zero_add, Nat.add_mul, Nat.add_assoc]
    congr 1
    rw [Nat.mul_assoc, Nat.mul_comm 256]
theorem valB_cons (c : UInt8) (l : List UInt8) : valB (c :: l) = c.toNat * 256 ^ l.length + valB l := by
  have : valB (c :: l) = l.foldl (fun a c => a * 256 + c.toNat) (0 * 256 + c.toNat) := rfl
  rw [this, valB_foldl, Nat.zero_mul, Nat.zero_add]
theorem valB_snoc (l : List UInt8) (c : UInt8) : valB (l ++ [c]) = valB l * 256 + c.toNat := by
  unfold valB; rw [List.foldl_append]; rfl
theorem valB_lt (l : List UInt8) : valB l < 256 ^ l.length := by
  induction l with
  | nil => decide
  | cons c l ih =>
    rw [valB_cons, List.length_cons, Nat.pow_succ]
    have := c.toNat_lt
    have h2 : c.toNat * 256 ^ l.length ≤ 255 * 256 ^ l.length := Nat.mul_le_mul_right _ (by omega)
    omega
theorem bytesN_val (l : List UInt8) : bytesN l.length (valB l) = l := by
  have low : ∀ (k v w : Nat), bytesN k (w * 256 ^ k + v) = bytesN k v := by
    intro k
    induction k with
    | zero => intro v w; rfl
    | succ k ih =>
      intro v w
      simp only [bytesN]
      have e : w * 256 ^ (k + 1) + v = (w * 256) * 256 ^ k + v := by rw [Nat.pow_succ, Nat.mul_assoc, Nat.mul_comm 256]
      rw [e, ih]
      congr 1
      apply UInt8.toNat_inj.1
      rw [byN_toNat, byN_toNat, Nat.mul_comm (w * 256), Nat.mul_add_div (Nat.pow_pos (by decide)), Nat.add_comm, Nat.mul_comm w, Nat.add_mul_mod_self_left]
  induction l with
  | nil => rfl
  | cons c l ih =>
    rw [List.length_cons, bytesN, valB_cons, low, ih]
    congr 1
    apply UInt8.toNat_inj.1
    rw [byN_toNat, Nat.mul_comm, Nat.mul_add_div (Nat.pow_pos (by decide)), Nat.div_eq_of_lt (valB_lt l), Nat.add_zero, Nat.mod_eq_of_lt c.toNat_lt]
theorem valB_bytes {k v : Nat} (h : v < 256 ^ k) : valB (bytesN k v) = v := by
  induction k generalizing v with
  | zero => simp at h; subst h; rfl
  | succ k ih =>
    have e : bytesN k v = bytesN k (v % 256 ^ k) := by
      have low : ∀ (j v w : Nat), j ≤ k → bytesN j (w * 256 ^ k + v) = bytesN j v := by
        intro j
        induction j with
        | zero => intro v w _; rfl
        | succ j ihj =>
          intro v w hj
          simp only [bytesN]
          rw [ihj _ _ (by omega)]
          congr 1
          apply UInt8.toNat_inj.1
          rw [byN_toNat, byN_toNat]
          have e : w * 256 ^ k = 256 ^ j * (w * 256 ^ (k - j - 1) * 256) := by
            rw [Nat.mul_assoc, ← Nat.pow_succ, Nat.mul_left_comm, ← Nat.pow_add, show j + (k - j - 1).succ = k by omega]
          rw [e, Nat.mul_add_div (Nat.pow_pos (by decide)), Nat.add_comm, Nat.mul_comm _ 256, Nat.add_mul_mod_self_left]
      have := low k (v % 256 ^ k) (v / 256 ^ k) (Nat.le_refl _)
      rw [Nat.mul_comm, Nat.div_add_mod] at this
      exact this
    rw [bytesN, valB_cons, bytesN_len, e, ih (Nat.mod_lt _ (Nat.pow_pos (by decide))), byN_toNat, Nat.mod_eq_of_lt (a := v / 256 ^ k) ((Nat.div_lt_iff_lt_mul (Nat.pow_pos (by decide))).2 (by rw [Nat.mul_comm, ← Nat.pow_succ]; exact h)), Nat.mul_comm, Nat.div_add_mod]
theorem len8_val {l : List UInt8} (h8 : l.length ≤ 8) : len8 (valB l) = l.length ↔ l.head? ≠ some 0 := by
  have hlt := valB_lt l
  have h64 : valB l < 2 ^ 64 := Nat.lt_of_lt_of_le hlt (by rw [show (2 : Nat) ^ 64 = 256 ^ 8 from rfl]; exact Nat.pow_le_pow_right (by decide) h8)
  cases l with
  | nil => simp [valB, len8, Lib.bitLen, Lib.bitLenAux]
  | cons c r =>
    simp only [List.head?_cons, ne_eq, Option.some.injEq]
    have hle := (len8_iff h64 (c :: r).length).2 hlt
    constructor
    · intro h hc
      subst hc
      have : valB (0 :: r) < 256 ^ r.length := by rw [valB_cons]; simpa using valB_lt r
      have := (len8_iff h64 r.length).2 this
      rw [h, List.length_cons] at this; omega
    · intro hc
      refine Nat.le_antisymm hle (Nat.le_of_not_lt fun hn => ?_)
      have h1 := (len8_iff h64 r.length).1 (by simp only [List.length_cons] at hn; omega)
      rw [valB_cons] at h1
      have : 1 ≤ c.toNat := by
        rcases Nat.eq_zero_or_pos c.toNat with h | h
        · exact absurd (UInt8.toNat_inj.1 (by simpa using h)) hc
        · exact h
      have := Nat.mul_le_mul_right (256 ^ r.length) this
      omega
/-- the bytes of a number are these, if the first one is not 0 -/
theorem numL_val {l : List UInt8} (h8 : l.length ≤ 8) : numL (valB l) = UInt8.ofNat l.length :: l ↔ l.head? ≠ some 0 := by
  rw [← len8_val h8]
  constructor
  · intro h
    have := congrArg List.length h
    rw [numL_len] at this
    simpa using this
  · intro h
    unfold numL
    rw [h, bytesN_val]

/-! ### reading -/
abbrev Dec (α : Type) := Except Int (α × List UInt8)
def decN : List UInt8 → Dec Nat
  | [] => .error 4
  | n :: r => if 8 < n.toNat then .error 3 else if r.length < n.toNat then .error 4 else if (r.take n.toNat).head? = some 0 then .error 3 else .ok (valB (r.take n.toNat), r.drop n.toNat)
def decT (s : List UInt8) : Dec (List UInt8) := match decN s with
  | .error e => .error e
  | .ok (n, r) => if 4096 < n then .error 3 else if r.length < n then .error 4 else .ok (r.take n, r.drop n)
def labOf (n : UInt8) (d : List UInt8) : Lab := ⟨n.toNat, (valB d * 256 ^ (8 - d.length) : Nat)⟩
def decL : List UInt8 → Dec Lab
  | [] => .error 4
  | n :: r => if 64 < n.toNat then .error 3 else if r.length < (n.toNat + 7) / 8 then .error 4 else if isL (labOf n (r.take ((n.toNat + 7) / 8))) then .ok (labOf n (r.take ((n.toNat + 7) / 8)), r.drop ((n.toNat + 7) / 8)) else .error 3
def Dec.err {α : Type} : Dec α → Int
  | .error e => e
  | .ok _ => 0
def Dec.val {α : Type} (d : α) : Dec α → α
  | .error _ => d
  | .ok (v, _) => v
def Dec.rest {α : Type} (s : List UInt8) : Dec α → List UInt8
  | .error _ => s
  | .ok (_, r) => r
theorem decN_err {s : List UInt8} {e : Int} (h : decN s = .error e) : e = 3 ∨ e = 4 := by
  unfold decN at h
  split at h
  · injection h with h; exact .inr h.symm
  · split at h
    · injection h with h; exact .inl h.symm
    · split at h
      · injection h with h; exact .inr h.symm
      · split at h
        · injection h with h; exact .inl h.symm
        · cases h
theorem decT_err {s : List UInt8} {e : Int} (h : decT s = .error e) : e = 3 ∨ e = 4 := by
  unfold decT at h
  split at h
  · rename_i h1; injection h with h; subst h; exact decN_err h1
  · split at h
    · injection h with h; exact .inl h.symm
    · split at h
      · injection h with h; exact .inr h.symm
      · cases h
theorem decL_err {s : List UInt8} {e : Int} (h : decL s = .error e) : e = 3 ∨ e = 4 := by
  unfold decL at h
  split at h
  · injection h with h; exact .inr h.symm
  · split at h
    · injection h with h; exact .inl h.symm
    · split at h
      · injection h with h; exact .inr h.symm
      · split at h
        · cases h
        · injection h with h; exact .inl h.symm
theorem decN_put {v : Nat} (hv : v < 2 ^ 64) (r : List UInt8) : decN (numL v ++ r) = .ok (v, r) := by
  have h8 := len8_le hv
  have hn : (UInt8.ofNat (len8 v)).toNat = len8 v := by rw [UInt8.toNat_ofNat', Nat.mod_eq_of_lt (by omega)]
  have hb := bytesN_len (len8 v) v
  have hval := valB_bytes ((len8_iff hv _).1 (Nat.le_refl _))
  have hh : (bytesN (len8 v) v).head? ≠ some 0 := by
    rw [← len8_val (by omega), hval, hb]
  simp only [numL, List.cons_append, decN, hn]
  rw [if_neg (by omega), if_neg (by rw [List.length_append]; omega), List.take_left' hb, List.drop_left' hb, if_neg hh, hval]
theorem decN_ok {s : List UInt8} {v : Nat} {r : List UInt8} (h : decN s = .ok (v, r)) : s = numL v ++ r ∧ v < 2 ^ 64 := by
  unfold decN at h
  split at h
  · cases h
  · rename_i n t
    split at h
    · cases h
    · rename_i h8
      split at h
      · cases h
      · rename_i hl
        split at h
        · cases h
        · rename_i hh
          injection h with h; injection h with h1 h2; subst h1; subst h2
          have hlen : (t.take n.toNat).length = n.toNat := by rw [List.length_take]; omega
          have := (numL_val (l := t.take n.toNat) (by omega)).2 hh
          refine ⟨?_, ?_⟩
          · rw [this, hlen]
            simp
          · refine Nat.lt_of_lt_of_le (valB_lt _) ?_
            rw [hlen, show (2 : Nat) ^ 64 = 256 ^ 8 from rfl]
            exact Nat.pow_le_pow_right (by decide) (by omega)
theorem decT_put {t : List UInt8} (ht : t.length ≤ 4096) (r : List UInt8) : decT (textL t ++ r) = .ok (t, r) := by
  unfold decT textL
  rw [List.append_assoc, decN_put (by omega)]
  simp only
  rw [if_neg (by omega), if_neg (by rw [List.length_append]; omega), List.take_left, List.drop_left]
theorem decT_ok {s t r : List UInt8} (h : decT s = .ok (t, r)) : s = textL t ++ r ∧ t.length ≤ 4096 := by
  unfold decT at h
  split at h
  · cases h
  · rename_i n q hq
    obtain ⟨h1, _⟩ := decN_ok hq
    split at h
    · cases h
    · split at h
      · cases h
      · injection h with h; injection h with e1 e2; subst e1; subst e2
        have hlen : (q.take n).length = n := by rw [List.length_take]; omega
        refine ⟨?_, by omega⟩
        rw [textL, hlen, List.append_assoc, List.take_append_drop]
        exact h1
theorem bytes_zero {v k j : Nat} (h : v % 256 ^ k = 0) (hj : j < k) : byN v j = 0 := by
  apply UInt8.toNat_inj.1
  rw [byN_toNat]
  obtain ⟨q, rfl⟩ := Nat.dvd_of_mod_eq_zero h
  have e : 256 ^ k * q = 256 ^ j * (256 ^ (k - j - 1) * q * 256) := by
    rw [Nat.mul_assoc, Nat.mul_comm q, ← Nat.mul_assoc (256 ^ (k - j - 1)), ← Nat.pow_succ, ← Nat.mul_assoc, ← Nat.pow_add, show j + (k - j - 1).succ = k by omega]
  rw [e, Nat.mul_div_cancel_left _ (Nat.pow_pos (by decide))]
  simp
/-- the first bytes of a right label, and nothing behind them -/
theorem lab_split {b n k : Nat} (hb : b < 2 ^ 64) (hn : n ≤ 64) (hk : k = (n + 7) / 8) (hh : headN b n = b) : valB ((bytesN 8 b).take k) * 256 ^ (8 - k) = b := by
  have hk8 : k ≤ 8 := by omega
  have hsp : bytesN 8 b = (bytesN 8 b).take k ++ (bytesN 8 b).drop k := (List.take_append_drop _ _).symm
  have hv := valB_bytes (k := 8) (v := b) hb
  have hlen : ((bytesN 8 b).drop k).length = 8 - k := by rw [List.length_drop, bytesN_len]
  have happ : ∀ l r : List UInt8, valB (l ++ r) = valB l * 256 ^ r.length + valB r := by
    intro l r
    unfold valB
    rw [List.foldl_append, valB_foldl]
    rfl
  rw [hsp, happ, hlen] at hv
  have hz : valB ((bytesN 8 b).drop k) = 0 := by
    have hmod : b % 256 ^ (8 - k) = 0 := by
      unfold headN at hh
      rw [← pow256]
      have hd : 2 ^ (8 * (8 - k)) ∣ 2 ^ (64 - n) := Nat.pow_dvd_pow 2 (by omega)
      have : 2 ^ (64 - n) ∣ b := ⟨b / 2 ^ (64 - n), by rw [Nat.mul_comm]; exact hh.symm⟩
      exact Nat.mod_eq_zero_of_dvd (Nat.dvd_trans hd this)
    have hall : ∀ c ∈ (bytesN 8 b).drop k, c = 0 := by
      intro c hc
      obtain ⟨i, hi⟩ := List.getElem?_of_mem hc
      rw [List.getElem?_drop] at hi
      have hlt : k + i < 8 := by
        have := (List.getElem?_eq_some_iff.1 hi).1
        rwa [bytesN_len] at this
      rw [bytesN_get _ _ _ hlt] at hi
      injection hi with hi
      rw [← hi]
      exact bytes_zero hmod (by omega)
    have zero : ∀ l : List UInt8, (∀ c ∈ l, c = 0) → valB l = 0 := by
      intro l
      induction l with
      | nil => intro _; rfl
      | cons c l ih =>
        intro h
        rw [valB_cons, h c (by simp), ih fun x hx => h x (List.mem_cons_of_mem _ hx)]
        simp
    exact zero _ hall
  rw [hz, Nat.add_zero] at hv
  exact hv
theorem isL_iff (l : Lab) : isL l = true ↔ (0 ≤ l.len ∧ l.len ≤ 64) ∧ (headN l.bits.toNat l.len.toNat : Int) = l.bits := by
  simp [isL, Bool.and_eq_true]
theorem decL_put {l : Lab} (hl : isL l = true) (hb : U64 l.bits) (r : List UInt8) : decL (labL l ++ r) = .ok (l, r) := by
  obtain ⟨⟨h0, h1⟩, h2⟩ := (isL_iff l).1 hl
  have hn : (UInt8.ofNat l.len.toNat).toNat = l.len.toNat := by rw [UInt8.toNat_ofNat', Nat.mod_eq_of_lt (by omega)]
  have hk : ((bytesN 8 l.bits.toNat).take ((l.len.toNat + 7) / 8)).length = (l.len.toNat + 7) / 8 := by rw [List.length_take, bytesN_len]; omega
  have hsp := lab_split (b := l.bits.toNat) (n := l.len.toNat) (by have := hb.1; have := hb.2; omega) (by omega) rfl (by omega)
  have hlab : labOf (UInt8.ofNat l.len.toNat) ((bytesN 8 l.bits.toNat).take ((l.len.toNat + 7) / 8)) = l := by
    obtain ⟨a, b⟩ := l
    unfold labOf
    simp only at *
    rw [hk, hn, hsp]
    congr 1
    · omega
    · have := hb.1; omega
  simp only [labL, List.cons_append, decL, hn]
  rw [if_neg (by omega), if_neg (by rw [List.length_append]; omega), List.take_left' hk, List.drop_left' hk, hlab, hl]
  rfl
theorem bytesN_shift (d : List UInt8) (j : Nat) : (bytesN (d.length + j) (valB d * 256 ^ j)).take d.length = d := by
  have : bytesN (d.length + j) (valB d * 256 ^ j) = d ++ List.replicate j 0 := by
    have e : valB (d ++ List.replicate j 0) = valB d * 256 ^ j := by
      have hz : ∀ j, valB (List.replicate j (0 : UInt8)) = 0 := by
        intro j
        induction j with
        | zero => rfl
        | succ j ih => rw [List.replicate_succ, valB_cons, ih]; simp
      unfold valB
      rw [List.foldl_append, valB_foldl, hz, List.length_replicate]
      rfl
    rw [← e]
    have := bytesN_val (d ++ List.replicate j 0)
    simpa using this
  rw [this, List.take_left]
theorem decL_ok {s : List UInt8} {l : Lab} {r : List UInt8} (h : decL s = .ok (l, r)) : s = labL l ++ r ∧ isL l = true ∧ U64 l.bits := by
  unfold decL at h
  split at h
  · cases h
  · rename_i n t
    split at h
    · cases h
    · rename_i hn
      split at h
      · cases h
      · rename_i hl
        split at h
        · rename_i hi
          injection h with h; injection h with h1 h2; subst h1; subst h2
          have hlen : (t.take ((n.toNat + 7) / 8)).length = (n.toNat + 7) / 8 := by rw [List.length_take]; omega
          refine ⟨?_, hi, ?_⟩
          · have := bytesN_shift (t.take ((n.toNat + 7) / 8)) (8 - (n.toNat + 7) / 8)
            rw [hlen, show (n.toNat + 7) / 8 + (8 - (n.toNat + 7) / 8) = 8 by omega] at this
            unfold labL labOf
            simp only [Int.toNat_natCast, hlen]
            rw [this, List.cons_append, List.take_append_drop]
            simp
          · unfold labOf U64
            simp only [hlen]
            have h1 := valB_lt (t.take ((n.toNat + 7) / 8))
            rw [hlen] at h1
            have h2 := Nat.mul_lt_mul_of_pos_right h1 (Nat.pow_pos (n := 8 - (n.toNat + 7) / 8) (by decide : 0 < 256))
            rw [← Nat.pow_add, show (n.toNat + 7) / 8 + (8 - (n.toNat + 7) / 8) = 8 by omega] at h2
            constructor
            · omega
            · have : (256 : Nat) ^ 8 = 18446744073709551616 := by decide
              omega
        · cases h
end Go.Proofs.Ytkamdppnnhjajaa
