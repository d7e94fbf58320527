/-
  SymNum, SymRd, SymRRd, SymRec1, SymDf, SymFr, SymArr, SymFz, SymMap, SymHd, PlGet, PlShelf, SymSh, SymShM, ItClone, SymShP: put together by a program of mine (a claim may have 60 files at most). Conditions: none.
-/
import Derived.Lib.BufferWrite
import Derived.Maps.OwnSet
import Derived.Maps.RangeWalk
import Derived.Maps.Ext
import Derived.DeepKeys4
import Derived.Test.YthpbihppfijegaaMgA1
import Derived.Test.YthpbihppfijegaaMgA2
namespace Go.Proofs.Ythpbihppfijegaa.Sym
open Go Go.RowKit
set_option maxRecDepth 100000
set_option maxHeartbeats 1600000
set_option linter.unusedVariables false
set_option linter.unusedSimpArgs false
theorem isL_len {l : Lab} (h : isL l = true) : 0 ≤ l.len ∧ l.len ≤ 64 := by
  simp only [isL, Bool.and_eq_true, decide_eq_true_eq] at h
  exact h.1
theorem labL_len {l : Lab} (h : isL l = true) : (labL l).length = (l.len.toNat + 7) / 8 + 1 := by
  have := isL_len h
  simp [labL, bytesN_len]
  omega
theorem labL_get (l : Lab) : ∀ t, t < (l.len.toNat + 7) / 8 → t < 8 → (labL l)[t + 1]? = some (byN l.bits.toNat (7 - t)) := fun t ht h8 => by
  unfold labL
  rw [List.getElem?_cons_succ, List.getElem?_take_of_lt ht, bytesN_get _ _ _ h8]
theorem top_byte (b j : Nat) (hj : j < 8) : byN b (7 - j) = UInt8.ofNat (b * 256 ^ j % 2 ^ 64 / 2 ^ 56) := by
  apply UInt8.toNat_inj.1
  rw [byN_toNat, UInt8.toNat_ofNat', show (2 : Nat) ^ 64 = 2 ^ 56 * 256 from rfl, Nat.mod_mul_right_div_self, Nat.mod_mod]
  congr 1
  rw [show (2 : Nat) ^ 56 = 256 ^ 7 from rfl, show (256 : Nat) ^ 7 = 256 ^ (7 - j) * 256 ^ j by rw [← Nat.pow_add, show 7 - j + j = 7 by omega], Nat.mul_div_mul_right _ _ (Nat.pow_pos (by decide))]
theorem shl8 (b j : Nat) : std.shift .shl .u64 ((b * 256 ^ j % 2 ^ 64 : Nat) : Int) 8 = ((b * 256 ^ (j + 1) % 2 ^ 64 : Nat) : Int) := by
  show IntKind.u64.wrap (((b * 256 ^ j % 2 ^ 64 : Nat) : Int) * ((256 : Nat) : Int)) = _
  rw [← Int.natCast_mul, wrap_u64n, Nat.mod_mul_mod, Nat.mul_assoc, ← Nat.pow_succ]
end Go.Proofs.Ythpbihppfijegaa.Sym

namespace Go.Proofs.Ythpbihppfijegaa.Sym
open Go Go.RowKit
set_option maxRecDepth 100000
set_option maxHeartbeats 1600000
set_option linter.unusedVariables false
set_option linter.unusedSimpArgs false
/-- what take gives: the bytes, the error, what is left -/
def takeS (s : ByteArray) (n : Int) : ByteArray := if (s.size : Int) < n then ⟨#[]⟩ else s.extract 0 n.toNat
def takeE (s : ByteArray) (n : Int) : Int := if (s.size : Int) < n then 4 else 0
def takeR (s : ByteArray) (n : Int) : ByteArray := if (s.size : Int) < n then s else s.extract n.toNat s.size
theorem take_cases (s : ByteArray) (n : Int) (hn : 0 ≤ n) : ((s.size : Int) < n ∧ takeS s n = mkB [] ∧ takeE s n = 4 ∧ takeR s n = s) ∨ (n ≤ (s.size : Int) ∧ takeS s n = mkB ((unB s).take n.toNat) ∧ takeE s n = 0 ∧ takeR s n = mkB ((unB s).drop n.toNat)) := by
  unfold takeS takeE takeR
  by_cases h : (s.size : Int) < n
  · left; simp only [h, if_true]; exact ⟨trivial, rfl, trivial, trivial⟩
  · right
    simp only [h, if_false]
    refine ⟨by omega, un_inj ?_, trivial, un_inj ?_⟩
    · rw [un_extract, un_mk, List.drop_zero]
    · rw [un_extract, un_mk, List.take_of_length_le (by rw [un_size]; exact Nat.le_refl _)]
/-- what number gives -/
def numV (s : ByteArray) : Int := ((decN (unB s)).val 0 : Nat)
def numE (s : ByteArray) : Int := (decN (unB s)).err
def numQ (s : ByteArray) : ByteArray := mkB (match unB s with | [] => [] | n :: r => if 8 < n.toNat then r else if r.length < n.toNat then r else r.drop n.toNat)
theorem or_u64 {a b k : Nat} (h : a % 2 ^ k = 0) (hb : b < 2 ^ k) (hab : a + b < 2 ^ 64) : stdArith .or .u64 (a : Int) (b : Int) = ((a + b : Nat) : Int) := by
  show IntKind.u64.wrap ((BitVec.ofNat 64 a ||| BitVec.ofNat 64 b).toNat : Int) = _
  have e : (BitVec.ofNat 64 a ||| BitVec.ofNat 64 b).toNat = a + b := by
    rw [BitVec.toNat_or, BitVec.toNat_ofNat, BitVec.toNat_ofNat, Nat.mod_eq_of_lt (by omega), Nat.mod_eq_of_lt (by omega)]
    obtain ⟨q, rfl⟩ := Nat.dvd_of_mod_eq_zero h
    rw [Nat.mul_comm, ← Nat.shiftLeft_eq, ← Nat.shiftLeft_add_eq_or_of_lt hb]
  rw [e, wrap_u64n, Nat.mod_eq_of_lt hab]
theorem or_step (x : Nat) (c : UInt8) (hx : x < 2 ^ 56) : stdArith .or .u64 (stdShift .shl .u64 (x : Int) 8) (IntKind.u64.wrap (((some c).getD 0).toNat : Int)) = ((x * 256 + c.toNat : Nat) : Int) := by
  have hc := c.toNat_lt
  have e1 : stdShift .shl .u64 (x : Int) 8 = ((x * 256 : Nat) : Int) := by
    show IntKind.u64.wrap ((x : Int) * ((256 : Nat) : Int)) = _
    rw [← Int.natCast_mul, wrap_u64n, Nat.mod_eq_of_lt (by omega)]
  have e2 : IntKind.u64.wrap (((some c).getD 0).toNat : Int) = (c.toNat : Int) := by
    show IntKind.u64.wrap (c.toNat : Int) = _
    rw [wrap_u64n, Nat.mod_eq_of_lt (by omega)]
  rw [e1, e2]
  exact or_u64 (k := 8) (by omega) (by omega) (by omega)
theorem head0 (s : ByteArray) : (if (!(s.toList == (ByteArray.mk #[]).toList)) = true then (((s[(0 : Int).toNat]?.getD 0).toNat : Int) == 0) else false) = true ↔ (unB s).head? = some 0 := by
  rw [toList_un, toList_un, un_get, show unB (ByteArray.mk #[]) = [] from rfl]
  cases h : unB s with
  | nil => simp
  | cons c l =>
    have : (c.toNat : Int) = 0 ↔ c = 0 := by
      rw [← UInt8.toNat_inj]
      simp
    have t0 : c.toNat = 0 ↔ c = 0 := by rw [← UInt8.toNat_inj]; rfl
    simp [t0]
theorem numV_u64 (s : ByteArray) : 0 ≤ numV s ∧ numV s < 18446744073709551616 := by
  unfold numV
  cases h : decN (unB s) with
  | error e =>
    show 0 ≤ ((0 : Nat) : Int) ∧ ((0 : Nat) : Int) < 18446744073709551616
    decide
  | ok x =>
    obtain ⟨n, r⟩ := x
    have := (decN_ok h).2
    show 0 ≤ (n : Int) ∧ (n : Int) < _
    omega
theorem numQ_ok {s : ByteArray} {n : Nat} {r : List UInt8} (h : decN (unB s) = .ok (n, r)) : numQ s = mkB r := by
  unfold numQ
  unfold decN at h
  split at h
  · cases h
  · rename_i c t hs
    rw [hs]
    split at h
    · cases h
    · rename_i h1
      split at h
      · cases h
      · rename_i h2
        split at h
        · cases h
        · injection h with h; injection h with e1 e2
          simp only [h1, h2, if_false, e2]
theorem num_cases (s : ByteArray) : (numE s ≠ 0 ∧ decN (unB s) = .error (numE s) ∧ numV s = 0) ∨ (numE s = 0 ∧ ∃ n r, decN (unB s) = .ok (n, r) ∧ numV s = (n : Int) ∧ numQ s = mkB r) := by
  cases h : decN (unB s) with
  | error e =>
    left
    have he : numE s = e := by simp only [numE, h]; rfl
    rw [he]
    refine ⟨?_, rfl, by simp only [numV, h]; rfl⟩
    rcases decN_err h with rfl | rfl <;> decide
  | ok x =>
    obtain ⟨n, r⟩ := x
    right
    exact ⟨by simp only [numE, h]; rfl, n, r, rfl, by simp only [numV, h]; rfl, numQ_ok h⟩
/-- what the number's reader leaves -/
def numR (s : ByteArray) : ByteArray := mkB ((decN (unB s)).rest (unB s))
theorem num_rest (s : ByteArray) : (numE s = 0 → numQ s = numR s) ∧ (numE s ≠ 0 → numV s = 0 ∧ numR s = s) := by
  rcases num_cases s with ⟨h1, h2, h3⟩ | ⟨h1, n, r, h2, h3, h4⟩
  · exact ⟨fun h => absurd h h1, fun _ => ⟨h3, by simp only [numR, h2]; exact mk_un s⟩⟩
  · exact ⟨fun _ => by rw [h4]; simp only [numR, h2]; rfl, fun h => absurd h1 h⟩
def txtV (s : ByteArray) : ByteArray := mkB ((decT (unB s)).val [])
def txtE (s : ByteArray) : Int := (decT (unB s)).err
def txtQ (s : ByteArray) : ByteArray := match decN (unB s) with
  | .error _ => numQ s
  | .ok (n, r) => if 4096 < n then mkB r else if r.length < n then mkB r else mkB (r.drop n)
def txtR (s : ByteArray) : ByteArray := mkB ((decT (unB s)).rest (unB s))
theorem txt_rest (s : ByteArray) : (txtE s = 0 → txtQ s = txtR s) ∧ (txtE s ≠ 0 → txtV s = ⟨#[]⟩ ∧ txtR s = s) := by
  cases h : decT (unB s) with
  | error e =>
    have he : txtE s = e := by simp only [txtE, h]; rfl
    rw [he]
    refine ⟨fun h0 => ?_, fun _ => ⟨by simp only [txtV, h]; rfl, by simp only [txtR, h]; exact mk_un s⟩⟩
    rcases decT_err h with rfl | rfl <;> exact absurd h0 (by decide)
  | ok x =>
    obtain ⟨t, r⟩ := x
    refine ⟨fun _ => ?_, fun h0 => absurd (by simp only [txtE, h]; rfl) h0⟩
    simp only [txtR, h, txtQ]
    unfold decT at h
    split at h
    · cases h
    · rename_i n q hq
      rw [hq]
      split at h
      · cases h
      · rename_i h1
        split at h
        · cases h
        · rename_i h2
          injection h with h; injection h with e1 e2
          simp only [h1, h2, if_false, ← e2]
          rfl
def labV (s : ByteArray) : Lab := (decL (unB s)).val ⟨0, 0⟩
def labE (s : ByteArray) : Int := (decL (unB s)).err
def labQ (s : ByteArray) : ByteArray := mkB (match unB s with | [] => [] | n :: r => if 64 < n.toNat then r else if r.length < (n.toNat + 7) / 8 then r else r.drop ((n.toNat + 7) / 8))
def labR (s : ByteArray) : ByteArray := mkB ((decL (unB s)).rest (unB s))
theorem lab_rest (s : ByteArray) : (labE s = 0 → labQ s = labR s) ∧ (labE s ≠ 0 → labV s = ⟨0, 0⟩ ∧ labR s = s) := by
  cases h : decL (unB s) with
  | error e =>
    have he : labE s = e := by simp only [labE, h]; rfl
    rw [he]
    refine ⟨fun h0 => ?_, fun _ => ⟨by simp only [labV, h]; rfl, by simp only [labR, h]; exact mk_un s⟩⟩
    rcases decL_err h with rfl | rfl <;> exact absurd h0 (by decide)
  | ok x =>
    obtain ⟨t, r⟩ := x
    refine ⟨fun _ => ?_, fun h0 => absurd (by simp only [labE, h]; rfl) h0⟩
    simp only [labR, h, labQ]
    unfold decL at h
    split at h
    · cases h
    · rename_i n q hs
      rw [hs]
      split at h
      · cases h
      · rename_i h1
        split at h
        · cases h
        · rename_i h2
          split at h
          · injection h with h; injection h with e1 e2
            simp only [h1, h2, if_false, ← e2]
            rfl
          · cases h
theorem or_lab (v : Nat) (c : UInt8) {i : Nat} (hv : v < 256 ^ i) (hi : i < 8) : stdArith .or .u64 ((v * 256 ^ (8 - i) : Nat) : Int) (stdShift .shl .u64 (IntKind.u64.wrap (((some c).getD 0).toNat : Int)) (56 - 8 * (i : Int))) = (((v * 256 + c.toNat) * 256 ^ (8 - (i + 1)) : Nat) : Int) := by
  have hc := c.toNat_lt
  have e2 : IntKind.u64.wrap (((some c).getD 0).toNat : Int) = (c.toNat : Int) := by
    show IntKind.u64.wrap (c.toNat : Int) = _
    rw [wrap_u64n, Nat.mod_eq_of_lt (by omega)]
  have hp : 256 ^ (8 - i) = 256 * 256 ^ (7 - i) := by
    have h9 : 8 - i = (7 - i) + 1 := by omega
    rw [h9, Nat.pow_succ, Nat.mul_comm]
  have hpp := Nat.pow_pos (n := 7 - i) (by decide : 0 < 256)
  have hc2 : c.toNat * 256 ^ (7 - i) < 256 ^ (8 - i) := by rw [hp]; exact Nat.mul_lt_mul_of_pos_right hc hpp
  have htot : 256 ^ i * 256 ^ (8 - i) = 2 ^ 64 := by rw [← Nat.pow_add, show i + (8 - i) = 8 by omega]
  have hv2 : (v + 1) * 256 ^ (8 - i) ≤ 2 ^ 64 := by rw [← htot]; exact Nat.mul_le_mul_right _ hv
  rw [Nat.add_mul, Nat.one_mul] at hv2
  have e1 : stdShift .shl .u64 (c.toNat : Int) (56 - 8 * (i : Int)) = ((c.toNat * 256 ^ (7 - i) : Nat) : Int) := by
    rw [show (56 : Int) - 8 * (i : Int) = ((8 * (7 - i) : Nat) : Int) by omega]
    show IntKind.u64.wrap ((c.toNat : Int) * (2 : Int) ^ (min ((8 * (7 - i) : Nat) : Int).toNat 64)) = _
    rw [Int.toNat_natCast, Nat.min_eq_left (by omega), show (2 : Int) ^ (8 * (7 - i)) = ((2 ^ (8 * (7 - i)) : Nat) : Int) by simp, pow256, ← Int.natCast_mul, wrap_u64n, Nat.mod_eq_of_lt (by omega)]
  rw [e2, e1, show 8 - (i + 1) = 7 - i by omega]
  have := or_u64 (a := v * 256 ^ (8 - i)) (b := c.toNat * 256 ^ (7 - i)) (k := 8 * (8 - i)) (by rw [pow256]; exact Nat.mul_mod_left _ _) (by rw [pow256]; exact hc2) (by omega)
  rw [this, hp, Nat.add_mul, Nat.mul_assoc]
end Go.Proofs.Ythpbihppfijegaa.Sym

namespace Go.Proofs.Ythpbihppfijegaa.Sym
open Go Go.RowKit
set_option maxRecDepth 100000
set_option maxHeartbeats 1600000
set_option linter.unusedVariables false
set_option linter.unusedSimpArgs false
/-- how many bytes a number has taken -/
def numN (s : ByteArray) : Int := ((unB s).length - ((decN (unB s)).rest (unB s)).length : Nat)
theorem numN_ok (s : ByteArray) : 0 ≤ numN s ∧ numN s ≤ (s.size : Int) ∧ s.extract (numN s).toNat s.size = numR s := by
  unfold numN numR
  refine ⟨Int.natCast_nonneg _, by rw [un_size]; omega, ?_⟩
  rw [Int.toNat_natCast]
  apply un_inj
  rw [un_extract, List.take_of_length_le (by rw [un_size]; exact Nat.le_refl _), un_mk]
  cases h : decN (unB s) with
  | error e => simp [Dec.rest]
  | ok x =>
    obtain ⟨n, r⟩ := x
    have := (decN_ok h).1
    simp only [Dec.rest]
    rw [this]
    simp
theorem mul_step (x : Nat) (c : UInt8) (hx : x < 2 ^ 56) : stdArith .add .u64 (stdArith .mul .u64 256 (x : Int)) (IntKind.u64.wrap (((some c).getD 0).toNat : Int)) = ((x * 256 + c.toNat : Nat) : Int) := by
  have hc := c.toNat_lt
  have e1 : stdArith .mul .u64 256 (x : Int) = ((x * 256 : Nat) : Int) := by
    show IntKind.u64.wrap (((256 : Nat) : Int) * (x : Int)) = _
    rw [← Int.natCast_mul, wrap_u64n, Nat.mul_comm, Nat.mod_eq_of_lt (by omega)]
  have e2 : IntKind.u64.wrap (((some c).getD 0).toNat : Int) = (c.toNat : Int) := by
    show IntKind.u64.wrap (c.toNat : Int) = _
    rw [wrap_u64n, Nat.mod_eq_of_lt (by omega)]
  rw [e1, e2]
  show IntKind.u64.wrap (((x * 256 : Nat) : Int) + (c.toNat : Int)) = _
  rw [← Int.natCast_add, wrap_u64n, Nat.mod_eq_of_lt (by omega)]
theorem cut_mid (l r : List UInt8) (n m : Nat) (h : l.length = n) : r.take m = ((l ++ r).take (n + m)).drop n := by
  subst h
  rw [List.take_length_add_append, List.drop_left]
theorem cut_end (l r : List UInt8) (n m : Nat) (h : l.length = n) : r.drop m = (l ++ r).drop (n + m) := by
  subst h
  rw [List.drop_length_add_append]
end Go.Proofs.Ythpbihppfijegaa.Sym

namespace Go.Proofs.Ythpbihppfijegaa.Sym
open Go Go.RowKit
set_option maxRecDepth 100000
set_option maxHeartbeats 1600000
set_option linter.unusedVariables false
set_option linter.unusedSimpArgs false
def itC (x : Itm) : List AV := [.int .u64 x.key, .str x.val]
/-- a row of items -/
def rowI (A : Option Addr) (n c : Nat) (f : Nat → Itm) : AV := .sl none A n c 2 (fun i => itC (f i))
def recI (A : Option Addr) (n c : Nat) (f : Nat → Itm) (kd : Int) (nx : Lab) (mk : Int) : AV := .agg [.int .i64 kd, rowI A n c f, .int .i64 nx.len, .int .u64 nx.bits, .int .u64 mk]
theorem ite_or (a b : Bool) : (if a = true then true else b) = (a || b) := by cases a <;> rfl
theorem ite_and (a b : Bool) : (if a = true then b else false) = (a && b) := by cases a <;> rfl
theorem eqL_itm (x y : Itm) : eqL (itC x) (itC y) = decide (x = y) := by
  obtain ⟨a, b⟩ := x
  obtain ⟨c, d⟩ := y
  rw [Bool.eq_iff_iff]
  simp [eqL, eqC, itC, beqB]
theorem itm_guard : Try.prog.eqGuardType Try.prog.depth 87 = false := by kernel_rfl
theorem itm_shape : eqShape Try.prog 2 87 = some [.int .u64, .str] := by kernel_rfl
theorem itm_agg : aggB Try.prog 87 = some true := by kernel_rfl
theorem ob_itm {Kk : Kn} (a : Int) (b : ByteArray) (c : Int) (d : ByteArray) : Ob.holds Try.prog Kk (.eql 87 [.int .u64 a, .str b] [.int .u64 c, .str d]) := ob_eql itm_shape (by decide) itm_guard itm_agg ⟨rfl, trivial, trivial⟩ ⟨rfl, trivial, trivial⟩
def sameF (n : Nat) (f : Nat → Itm) (n2 : Nat) (f2 : Nat → Itm) : Bool := decide (n = n2) && (List.range n).all fun i => decide (f i = f2 i)
theorem sameF_no {n n2 i : Nat} {f f2 : Nat → Itm} (hi : i < n) (h : ¬ f i = f2 i) : sameF n f n2 f2 = false := by
  unfold sameF
  have : ((List.range n).all fun i => decide (f i = f2 i)) = false := by
    rw [Bool.eq_false_iff]
    intro h2
    exact h (of_decide_eq_true (List.all_eq_true.1 h2 i (List.mem_range.2 hi)))
  rw [this]; simp
theorem sameF_yes {n n2 : Nat} {f f2 : Nat → Itm} (hn : n = n2) (h : ∀ i, i < n → f i = f2 i) : sameF n f n2 f2 = true := by
  unfold sameF
  rw [decide_eq_true hn, Bool.true_and, List.all_eq_true]
  intro i hi
  exact decide_eq_true (h i (List.mem_range.1 hi))
def sameRF (kd : Int) (n : Nat) (f : Nat → Itm) (nx : Lab) (mk : Int) (kd2 : Int) (n2 : Nat) (f2 : Nat → Itm) (nx2 : Lab) (mk2 : Int) : Bool := decide (kd = kd2) && sameF n f n2 f2 && decide (nx = nx2) && decide (mk = mk2)
def sumF (f : Nat → Itm) : Nat → Int
  | 0 => 0
  | i + 1 => IntKind.i64.wrap (sumF f i + ((f i).val.size : Int))
def bigF (n : Nat) (f : Nat → Itm) : Bool := decide (40 < n) || decide (8000 < sumF f n)
def recAV (A : Option Addr) (c : Nat) (r : Rec) : AV := recI A r.items.length c (itF r.items) r.kind r.next r.mark
def T42 : List (Nat × TI) := [(3, ti3), (4, ti4), (9, ti9), (33, ti33), (34, ti34), (87, ti87)]
theorem T42_ok : TabOK Try.prog T42 := .cons t3 (.cons t4 (.cons t9 (.cons t33 (.cons t34 (.cons t87 (.nil))))))
theorem enters42 : Enters Try.prog 42 := fun _ _ => by kernel_rfl
theorem row_s (A : Option Addr) (n c : Nat) (f : Nat → Itm) (hn : n ≤ maxLen) : Spec Try.prog 42 [rowI A n c f] (fun _ => .bool (.v (rowF n f))) := by
  intro m w hm hargs
  have hmx : maxLen = 9223372036854775807 := rfl
  refine enter hm hargs Try.func42 rfl (by simp [Try.ntmps42]) fun a0 hF => ?_
  simp only [Try.ntmps42, startT] at hF
  obtain ⟨B, hB⟩ : ∃ B, B = std := ⟨_, rfl⟩
  refine wp_seq ?_
  apply region_okB hB T42_ok [0] [] [] hF
  case hex => intro A X; conv => lhs; cbv
  case hob =>
    intro X
    subst hB
    simp [AllOb, Ob.holds, BE.den, std, stdCmp, stdArith] <;> omega
  case hQ =>
  intro X0 a0 w1 hF
  refine wp_seq ?_
  refine wp_seq ?_
  apply region_okB hB T42_ok [7, 0, 5, 6] [] [] hF
  case hex => intro A X; conv => lhs; cbv
  case hob =>
    intro X
    subst hB
    simp [AllOb, Ob.holds, BE.den, std, stdCmp, stdArith] <;> omega
  case hQ =>
  intro X1 a0 w1 hF
  refine wp_block ?_
  refine loop_pre (ι := Nat) (fun p => [(7, .int .i64 (p : Int))]) (fun p => []) (fun p => []) (fun p => p ≤ n ∧ okF f p = true) (fun p => n - p) 0 ⟨Nat.zero_le _, rfl⟩ hF ?_
  rintro i ⟨hi, hok⟩ a0 w1 hF
  try dsimp only at hi
  try dsimp only at hok
  refine wp_seq ?_
  apply region_okB hB T42_ok [8, 0, 5, 6, 7] [] [] hF
  case hex => intro A X; conv => lhs; cbv
  case hob =>
    intro X
    subst hB
    simp [AllOb, Ob.holds, BE.den, std, stdCmp, stdArith] <;> omega
  case hQ =>
  intro X2 a0 w1 hF
  refine wp_seq ?_
  refine test_ok hF rfl (fun hb hF => ?_) (fun hb hF => ?_)
  · skip
    have hin : i < n := by
      have : (i : Int) < (n : Int) := by subst hB; simpa [std, stdCmp] using hb
      omega
    have ht := okAt_test f i (by omega)
    refine wp_skip ?_
    refine wp_seq ?_
    refine wp_block ?_
    refine wp_seq ?_
    apply region_okB hB T42_ok [0, 3, 4, 5, 6, 7] [4] [] hF
    case hex => intro A X; conv => lhs; cbv
    case hob =>
      intro X
      subst hB; exact ⟨⟨show (0 : Int) ≤ (i : Int) by omega, show (i : Int) < (n : Int) by omega⟩, rfl, trivial⟩
    case hQ =>
    intro X3 a0 w1 hF
    refine wp_seq ?_
    apply drawn_okB hB (by kernel_rfl) T42_ok [30, 0, 5, 6, 7] [] [] hF rfl
    case hex => intro A X; conv => lhs; cbv
    case hD => kernel_rfl
    case hlen => rfl
    case hob =>
      intro X
      subst hB
      have hix : (0 : Int) < (i : Int) → 0 ≤ IntKind.i64.wrap ((i : Int) - 1) ∧ IntKind.i64.wrap ((i : Int) - 1) < (n : Int) := fun h => by rw [wrap_in (by omega) (by omega)]; omega
      simp only [AllOb, Ob.holds, BE.den, List.mem_cons, List.not_mem_nil, or_false, forall_eq_or_imp, forall_eq]
      and_intros <;> first | trivial | (intro h; first | trivial | exact hix (of_decide_eq_true h) | exact hix (of_decide_eq_true h.1))
    case hQ =>
    intro X4 a0 w1 hF
    refine test_ok hF rfl (fun hb hF => ?_) (fun hb hF => ?_)
    · skip
      have hat : okAt f i = false := by
        have h9 : (!okAt f i) = true := by subst hB; exact ht.symm.trans hb
        simpa using h9
      refine wp_seq ?_
      apply region_okB hB T42_ok [2] [] [] hF
      case hex => intro A X; conv => lhs; cbv
      case hob =>
        intro X
        subst hB
        simp [AllOb, Ob.holds, BE.den, std, stdCmp, stdArith] <;> omega
      case hQ =>
      intro X5 a0 w1 hF
      refine wp_ret ?_
      refine ret_spec (fn := Try.f42) T42_ok hF (rs := [.tmp 2]) rfl (rfl) ?_ noAtom ?_
      · subst hB; simp [AllOb, Ob.holds]
      · subst hB
        refine congrArg (fun b => AV.bool (.v b)) ?_
        unfold rowF
        rw [okF_false hin hat]; simp
    · skip
      have hat : okAt f i = true := by
        have h9 : (!okAt f i) = false := by subst hB; exact ht.symm.trans hb
        simpa using h9
      refine wp_skip ?_
      apply region_okB hB T42_ok [7, 0, 5, 6] [] [] hF
      case hex => intro A X; conv => lhs; cbv
      case hob =>
        intro X
        subst hB
        simp [AllOb, Ob.holds, BE.den, std, stdCmp, stdArith] <;> omega
      case hQ =>
      intro X6 a0 w1 hF
      have e : B.arith .add .i64 (i : Int) 1 = ((i + 1 : Nat) : Int) := by subst hB; exact wrap_succ (n := n) hin hn
      refine ⟨i + 1, ⟨by omega, by rw [okF_succ, hok, hat]; rfl⟩, by omega, by rw [← e]; exact hF⟩
  · skip
    have hout : i = n := by
      have : ¬ (i : Int) < (n : Int) := by subst hB; simpa [std, stdCmp] using hb
      omega
    refine wp_exit ?_
    refine wp_seq ?_
    apply region_okB hB T42_ok [2] [] [] hF
    case hex => intro A X; conv => lhs; cbv
    case hob =>
      intro X
      subst hB
      simp [AllOb, Ob.holds, BE.den, std, stdCmp, stdArith] <;> omega
    case hQ =>
    intro X7 a0 w1 hF
    refine wp_ret ?_
    refine ret_spec (fn := Try.f42) T42_ok hF (rs := [.tmp 2]) rfl (rfl) ?_ noAtom ?_
    · subst hB; simp [AllOb, Ob.holds]
    · subst hB
      refine congrArg (fun b => AV.bool (.v b)) ?_
      unfold rowF
      rw [hout] at hok
      rw [hok]
      simp [std, stdCmp]; omega
def T25 : List (Nat × TI) := [(3, ti3), (4, ti4), (33, ti33), (34, ti34), (36, ti36), (38, ti38)]
theorem T25_ok : TabOK Try.prog T25 := .cons t3 (.cons t4 (.cons t33 (.cons t34 (.cons t36 (.cons t38 (.nil))))))
theorem enters25 : Enters Try.prog 25 := fun _ _ => by kernel_rfl
theorem isR_s (A : Option Addr) (n c : Nat) (f : Nat → Itm) (hn : n ≤ maxLen) (kd : Int) (nx : Lab) (mk : Int) (hv : U64 nx.bits) : Spec Try.prog 25 [recI A n c f kd nx mk] (fun _ => .bool (.v (isRF kd n f nx mk))) := by
  intro m w hm hargs
  have S1 := none_s
  have S2 := isL_s nx hv
  have S3 := row_s A n c f hn
  simp only [labAV] at S1 S2
  generalize hq : isL nx = q at S2
  generalize hr : rowF n f = r at S3
  have hnx := eqL_lab nx noneL
  generalize hd : decide (nx = noneL) = d at hnx
  refine enter hm hargs Try.func25 rfl (by simp [Try.ntmps25]) fun a0 hF => ?_
  simp only [Try.ntmps25, startT] at hF
  obtain ⟨B, hB⟩ : ∃ B, B = std := ⟨_, rfl⟩
  refine wp_seq ?_
  apply region_okB hB T25_ok [1] [1] [] hF
  case hex => intro A X; conv => lhs; cbv
  case hob =>
    intro X
    subst hB
    simp [AllOb, Ob.holds, BE.den, std, stdCmp, stdArith] <;> omega
  case hQ =>
  intro X0 a0 w1 hF
  refine wp_seq ?_
  refine wp_seq ?_
  apply drawn_okB hB (by kernel_rfl) T25_ok [12, 1] [1] [(2, .r fun _ => .agg [.int .i64 (-1), .int .u64 0]), (7, .r fun _ => .bool (.v q))] hF rfl
  case hex => intro A X; conv => lhs; cbv
  case hD => kernel_rfl
  case hlen => rfl
  case hob =>
    intro X
    subst hB
    exact ⟨rfl, ⟨enters41, S1⟩, ob_lab (Kk := noK) _ _ _ _, fun _ => rfl, fun _ => ⟨enters24, S2⟩, trivial⟩
  case hQ =>
  intro X1 a0 w1 hF
  refine test_ok hF rfl (fun hb hF => ?_) (fun hb hF => ?_)
  · skip
    have hx : d = false ∧ q = false := by
      have h9 : (if (!eqL [.int .i64 nx.len, .int .u64 nx.bits] [.int .i64 (-1), .int .u64 0]) = true then !q else false) = true := by subst hB; exact hb
      rw [show eqL [.int .i64 nx.len, .int .u64 nx.bits] [.int .i64 (-1), .int .u64 0] = d from hnx] at h9
      cases d <;> cases q <;> simp at h9 ⊢
    refine wp_seq ?_
    apply region_okB hB T25_ok [2] [] [] hF
    case hex => intro A X; conv => lhs; cbv
    case hob =>
      intro X
      subst hB
      simp [AllOb, Ob.holds, BE.den, std, stdCmp, stdArith] <;> omega
    case hQ =>
    intro X2 a0 w1 hF
    refine wp_ret ?_
    refine ret_spec (fn := Try.f25) T25_ok hF (rs := [.tmp 2]) rfl (rfl) ?_ noAtom ?_
    · subst hB; simp [AllOb, Ob.holds]
    · subst hB
      refine congrArg (fun b => AV.bool (.v b)) ?_
      unfold isRF
      rw [hd, hq, hr]
      first | (subst hk) | skip
      have hnx2 : eqL [.int .i64 nx.len, .int .u64 nx.bits] [.int .i64 (-1), .int .u64 0] = d := hnx
      simp_all [bareK, std, stdCmp, BE.den]
      try (cases d <;> cases q <;> simp_all <;> (by_cases h0 : mk = 0 <;> simp [h0]))
  · skip
    have hx : d = true ∨ q = true := by
      have h9 : (if (!eqL [.int .i64 nx.len, .int .u64 nx.bits] [.int .i64 (-1), .int .u64 0]) = true then !q else false) = false := by subst hB; exact hb
      rw [show eqL [.int .i64 nx.len, .int .u64 nx.bits] [.int .i64 (-1), .int .u64 0] = d from hnx] at h9
      cases d <;> cases q <;> simp at h9 ⊢
    refine wp_skip ?_
    refine wp_seq ?_
    refine wp_seq ?_
    apply region_okB hB T25_ok [1, 14] [1] [] hF
    case hex => intro A X; conv => lhs; cbv
    case hob =>
      intro X
      subst hB
      simp [AllOb, Ob.holds, BE.den, std, stdCmp, stdArith] <;> omega
    case hQ =>
    intro X3 a0 w1 hF
    refine wp_block ?_
    refine wp_seq ?_
    refine wp_block ?_
    refine wp_seq ?_
    refine wp_block ?_
    refine wp_seq ?_
    refine wp_block ?_
    refine wp_seq ?_
    refine wp_seq ?_
    refine wp_seq ?_
    refine wp_seq ?_
    apply region_okB hB T25_ok [15, 1, 14] [1] [] hF
    case hex => intro A X; conv => lhs; cbv
    case hob =>
      intro X
      subst hB
      simp [AllOb, Ob.holds, BE.den, std, stdCmp, stdArith] <;> omega
    case hQ =>
    intro X4 a0 w1 hF
    refine test_keep hF (fun hb hF => ?_) (fun hb hF => ?_)
    · skip
      have hk : kd = 2 := by subst hB; simpa [std, stdCmp] using hb
      refine wp_skip ?_
      refine test_tt hF rfl (fun hF => ?_)
      refine wp_exit ?_
      refine wp_seq ?_
      refine wp_seq ?_
      apply drawn_okB hB (by kernel_rfl) T25_ok [2] [] [(7, .r fun _ => .agg [.int .i64 (-1), .int .u64 0])] hF rfl
      case hex => intro A X; conv => lhs; cbv
      case hD => kernel_rfl
      case hlen => rfl
      case hob =>
        intro X
        subst hB
        exact ⟨rfl, fun _ => rfl, fun _ => ⟨enters41, S1⟩, fun _ => ob_lab (Kk := noK) _ _ _ _, fun _ => rfl, trivial⟩
      case hQ =>
      intro X9 a0 w1 hF
      refine wp_ret ?_
      refine ret_spec (fn := Try.f25) T25_ok hF (rs := [.tmp 2]) rfl (rfl) ?_ noAtom ?_
      · subst hB; simp [AllOb, Ob.holds]
      · subst hB
        refine congrArg (fun b => AV.bool (.v b)) ?_
        unfold isRF
        rw [hd, hq, hr]
        first | (subst hk) | skip
        have hnx2 : eqL [.int .i64 nx.len, .int .u64 nx.bits] [.int .i64 (-1), .int .u64 0] = d := hnx
        simp_all [bareK, std, stdCmp, BE.den]
        try (cases d <;> cases q <;> simp_all <;> (by_cases h0 : mk = 0 <;> simp [h0]))
    · skip
      have hk2 : ¬ kd = 2 := by subst hB; simpa [std, stdCmp] using hb
      apply region_okB hB T25_ok [15, 1, 14] [1] [] hF
      case hex => intro A X; conv => lhs; cbv
      case hob =>
        intro X
        subst hB
        simp [AllOb, Ob.holds, BE.den, std, stdCmp, stdArith] <;> omega
      case hQ =>
      intro X5 a0 w1 hF
      refine test_ok hF rfl (fun hb hF => ?_) (fun hb hF => ?_)
      · skip
        have hk : kd = 4 := by subst hB; simpa [std, stdCmp] using hb
        refine wp_exit ?_
        refine wp_seq ?_
        refine wp_seq ?_
        apply drawn_okB hB (by kernel_rfl) T25_ok [2] [] [(7, .r fun _ => .agg [.int .i64 (-1), .int .u64 0])] hF rfl
        case hex => intro A X; conv => lhs; cbv
        case hD => kernel_rfl
        case hlen => rfl
        case hob =>
          intro X
          subst hB
          exact ⟨rfl, fun _ => rfl, fun _ => ⟨enters41, S1⟩, fun _ => ob_lab (Kk := noK) _ _ _ _, fun _ => rfl, trivial⟩
        case hQ =>
        intro X9 a0 w1 hF
        refine wp_ret ?_
        refine ret_spec (fn := Try.f25) T25_ok hF (rs := [.tmp 2]) rfl (rfl) ?_ noAtom ?_
        · subst hB; simp [AllOb, Ob.holds]
        · subst hB
          refine congrArg (fun b => AV.bool (.v b)) ?_
          unfold isRF
          rw [hd, hq, hr]
          first | (subst hk) | skip
          have hnx2 : eqL [.int .i64 nx.len, .int .u64 nx.bits] [.int .i64 (-1), .int .u64 0] = d := hnx
          simp_all [bareK, std, stdCmp, BE.den]
          try (cases d <;> cases q <;> simp_all <;> (by_cases h0 : mk = 0 <;> simp [h0]))
      · skip
        have hk4 : ¬ kd = 4 := by subst hB; simpa [std, stdCmp] using hb
        refine wp_skip ?_
        refine wp_seq ?_
        refine wp_seq ?_
        refine wp_seq ?_
        apply region_okB hB T25_ok [18, 1, 14] [1] [] hF
        case hex => intro A X; conv => lhs; cbv
        case hob =>
          intro X
          subst hB
          simp [AllOb, Ob.holds, BE.den, std, stdCmp, stdArith] <;> omega
        case hQ =>
        intro X6 a0 w1 hF
        refine test_keep hF (fun hb hF => ?_) (fun hb hF => ?_)
        · skip
          have hk : kd = 1 := by subst hB; simpa [std, stdCmp] using hb
          refine wp_skip ?_
          refine test_tt hF rfl (fun hF => ?_)
          refine wp_exit ?_
          refine wp_seq ?_
          apply region_okB hB T25_ok [40, 1] [1] [] hF
          case hex => intro A X; conv => lhs; cbv
          case hob =>
            intro X
            subst hB
            simp [AllOb, Ob.holds, BE.den, std, stdCmp, stdArith] <;> omega
          case hQ =>
          intro X10 a0 w1 hF
          refine test_ok hF rfl (fun hb hF => ?_) (fun hb hF => ?_)
          · skip
            have hm : ¬ mk = 0 := by subst hB; simpa [std, stdCmp] using hb
            refine wp_seq ?_
            apply region_okB hB T25_ok [2] [] [] hF
            case hex => intro A X; conv => lhs; cbv
            case hob =>
              intro X
              subst hB
              simp [AllOb, Ob.holds, BE.den, std, stdCmp, stdArith] <;> omega
            case hQ =>
            intro X11 a0 w1 hF
            refine wp_ret ?_
            refine ret_spec (fn := Try.f25) T25_ok hF (rs := [.tmp 2]) rfl (rfl) ?_ noAtom ?_
            · subst hB; simp [AllOb, Ob.holds]
            · subst hB
              refine congrArg (fun b => AV.bool (.v b)) ?_
              unfold isRF
              rw [hd, hq, hr]
              first | (subst hk) | skip
              have hnx2 : eqL [.int .i64 nx.len, .int .u64 nx.bits] [.int .i64 (-1), .int .u64 0] = d := hnx
              simp_all [bareK, std, stdCmp, BE.den]
              try (cases d <;> cases q <;> simp_all <;> (by_cases h0 : mk = 0 <;> simp [h0]))
          · skip
            have hm : mk = 0 := by subst hB; simpa [std, stdCmp] using hb
            refine wp_skip ?_
            refine wp_seq ?_
            refine wp_seq ?_
            apply region_okB hB T25_ok [2] [] [(2, .r fun _ => .bool (.v r))] hF
            case hex => intro A X; conv => lhs; cbv
            case hob =>
              intro X
              subst hB
              exact ⟨rfl, ⟨enters42, S3⟩, trivial⟩
            case hQ =>
            intro X12 a0 w1 hF
            refine wp_ret ?_
            refine ret_spec (fn := Try.f25) T25_ok hF (rs := [.tmp 2]) rfl (rfl) ?_ noAtom ?_
            · subst hB; simp [AllOb, Ob.holds]
            · subst hB
              refine congrArg (fun b => AV.bool (.v b)) ?_
              unfold isRF
              rw [hd, hq, hr]
              first | (subst hk) | skip
              have hnx2 : eqL [.int .i64 nx.len, .int .u64 nx.bits] [.int .i64 (-1), .int .u64 0] = d := hnx
              simp_all [bareK, std, stdCmp, BE.den]
              try (cases d <;> cases q <;> simp_all <;> (by_cases h0 : mk = 0 <;> simp [h0]))
        · skip
          have hk1 : ¬ kd = 1 := by subst hB; simpa [std, stdCmp] using hb
          apply region_okB hB T25_ok [18, 1, 14] [1] [] hF
          case hex => intro A X; conv => lhs; cbv
          case hob =>
            intro X
            subst hB
            simp [AllOb, Ob.holds, BE.den, std, stdCmp, stdArith] <;> omega
          case hQ =>
          intro X7 a0 w1 hF
          refine test_ok hF rfl (fun hb hF => ?_) (fun hb hF => ?_)
          · skip
            have hk : kd = 3 := by subst hB; simpa [std, stdCmp] using hb
            refine wp_exit ?_
            refine wp_seq ?_
            apply region_okB hB T25_ok [40, 1] [1] [] hF
            case hex => intro A X; conv => lhs; cbv
            case hob =>
              intro X
              subst hB
              simp [AllOb, Ob.holds, BE.den, std, stdCmp, stdArith] <;> omega
            case hQ =>
            intro X10 a0 w1 hF
            refine test_ok hF rfl (fun hb hF => ?_) (fun hb hF => ?_)
            · skip
              have hm : ¬ mk = 0 := by subst hB; simpa [std, stdCmp] using hb
              refine wp_seq ?_
              apply region_okB hB T25_ok [2] [] [] hF
              case hex => intro A X; conv => lhs; cbv
              case hob =>
                intro X
                subst hB
                simp [AllOb, Ob.holds, BE.den, std, stdCmp, stdArith] <;> omega
              case hQ =>
              intro X11 a0 w1 hF
              refine wp_ret ?_
              refine ret_spec (fn := Try.f25) T25_ok hF (rs := [.tmp 2]) rfl (rfl) ?_ noAtom ?_
              · subst hB; simp [AllOb, Ob.holds]
              · subst hB
                refine congrArg (fun b => AV.bool (.v b)) ?_
                unfold isRF
                rw [hd, hq, hr]
                first | (subst hk) | skip
                have hnx2 : eqL [.int .i64 nx.len, .int .u64 nx.bits] [.int .i64 (-1), .int .u64 0] = d := hnx
                simp_all [bareK, std, stdCmp, BE.den]
                try (cases d <;> cases q <;> simp_all <;> (by_cases h0 : mk = 0 <;> simp [h0]))
            · skip
              have hm : mk = 0 := by subst hB; simpa [std, stdCmp] using hb
              refine wp_skip ?_
              refine wp_seq ?_
              refine wp_seq ?_
              apply region_okB hB T25_ok [2] [] [(2, .r fun _ => .bool (.v r))] hF
              case hex => intro A X; conv => lhs; cbv
              case hob =>
                intro X
                subst hB
                exact ⟨rfl, ⟨enters42, S3⟩, trivial⟩
              case hQ =>
              intro X12 a0 w1 hF
              refine wp_ret ?_
              refine ret_spec (fn := Try.f25) T25_ok hF (rs := [.tmp 2]) rfl (rfl) ?_ noAtom ?_
              · subst hB; simp [AllOb, Ob.holds]
              · subst hB
                refine congrArg (fun b => AV.bool (.v b)) ?_
                unfold isRF
                rw [hd, hq, hr]
                first | (subst hk) | skip
                have hnx2 : eqL [.int .i64 nx.len, .int .u64 nx.bits] [.int .i64 (-1), .int .u64 0] = d := hnx
                simp_all [bareK, std, stdCmp, BE.den]
                try (cases d <;> cases q <;> simp_all <;> (by_cases h0 : mk = 0 <;> simp [h0]))
          · skip
            have hk3 : ¬ kd = 3 := by subst hB; simpa [std, stdCmp] using hb
            refine wp_skip ?_
            refine wp_seq ?_
            apply region_okB hB T25_ok [21, 1] [1] [] hF
            case hex => intro A X; conv => lhs; cbv
            case hob =>
              intro X
              subst hB
              simp [AllOb, Ob.holds, BE.den, std, stdCmp, stdArith] <;> omega
            case hQ =>
            intro X8 a0 w1 hF
            refine test_ok hF rfl (fun hb hF => ?_) (fun hb hF => ?_)
            · skip
              have hk : kd = 5 := by subst hB; simpa [std, stdCmp] using hb
              refine wp_exit ?_
              refine wp_seq ?_
              refine wp_seq ?_
              apply region_okB hB T25_ok [2] [] [(2, .r fun _ => .bool (.v r))] hF
              case hex => intro A X; conv => lhs; cbv
              case hob =>
                intro X
                subst hB
                exact ⟨rfl, ⟨enters42, S3⟩, trivial⟩
              case hQ =>
              intro X12 a0 w1 hF
              refine wp_ret ?_
              refine ret_spec (fn := Try.f25) T25_ok hF (rs := [.tmp 2]) rfl (rfl) ?_ noAtom ?_
              · subst hB; simp [AllOb, Ob.holds]
              · subst hB
                refine congrArg (fun b => AV.bool (.v b)) ?_
                unfold isRF
                rw [hd, hq, hr]
                first | (subst hk) | skip
                have hnx2 : eqL [.int .i64 nx.len, .int .u64 nx.bits] [.int .i64 (-1), .int .u64 0] = d := hnx
                simp_all [bareK, std, stdCmp, BE.den]
                try (cases d <;> cases q <;> simp_all <;> (by_cases h0 : mk = 0 <;> simp [h0]))
            · skip
              have hk5 : ¬ kd = 5 := by subst hB; simpa [std, stdCmp] using hb
              refine wp_skip ?_
              refine wp_exit ?_
              refine wp_seq ?_
              apply region_okB hB T25_ok [2] [] [] hF
              case hex => intro A X; conv => lhs; cbv
              case hob =>
                intro X
                subst hB
                simp [AllOb, Ob.holds, BE.den, std, stdCmp, stdArith] <;> omega
              case hQ =>
              intro X13 a0 w1 hF
              refine wp_ret ?_
              refine ret_spec (fn := Try.f25) T25_ok hF (rs := [.tmp 2]) rfl (rfl) ?_ noAtom ?_
              · subst hB; simp [AllOb, Ob.holds]
              · subst hB
                refine congrArg (fun b => AV.bool (.v b)) ?_
                unfold isRF
                rw [hd, hq, hr]
                first | (subst hk) | skip
                have hnx2 : eqL [.int .i64 nx.len, .int .u64 nx.bits] [.int .i64 (-1), .int .u64 0] = d := hnx
                simp_all [bareK, std, stdCmp, BE.den]
                try (cases d <;> cases q <;> simp_all <;> (by_cases h0 : mk = 0 <;> simp [h0]))
def T46 : List (Nat × TI) := [(3, ti3), (4, ti4)]
theorem T46_ok : TabOK Try.prog T46 := .cons t3 (.cons t4 (.nil))
theorem enters46 : Enters Try.prog 46 := fun _ _ => by kernel_rfl
theorem bare_s (k : Int) : Spec Try.prog 46 [.int .i64 k] (fun _ => .bool (.v (bareK k))) := by
  intro m w hm hargs
  refine enter hm hargs Try.func46 rfl (by simp [Try.ntmps46]) fun a0 hF => ?_
  simp only [Try.ntmps46, startT] at hF
  obtain ⟨B, hB⟩ : ∃ B, B = std := ⟨_, rfl⟩
  refine wp_seq ?_
  apply region_okB hB T46_ok [0] [] [] hF
  case hex => intro A X; conv => lhs; cbv
  case hob =>
    intro X
    subst hB
    simp [AllOb, Ob.holds, BE.den, std, stdCmp, stdArith] <;> omega
  case hQ =>
  intro X0 a0 w1 hF
  refine wp_seq ?_
  apply region_okB hB T46_ok [2] [] [] hF
  case hex => intro A X; conv => lhs; cbv
  case hob =>
    intro X
    subst hB
    simp [AllOb, Ob.holds, BE.den, std, stdCmp, stdArith] <;> omega
  case hQ =>
  intro X1 a0 w1 hF
  refine wp_ret ?_
  refine ret_spec (fn := Try.f46) T46_ok hF (rs := [.tmp 2]) rfl (rfl) ?_ noAtom ?_
  · subst hB; simp [AllOb, Ob.holds]
  · subst hB
    refine congrArg (fun b => AV.bool (.v b)) ?_
    simp only [std, stdCmp, BE.den, bareK]
    by_cases h1 : k = 2 <;> by_cases h2 : k = 4 <;> simp [h1, h2]
def T29 : List (Nat × TI) := [(3, ti3), (4, ti4), (9, ti9), (33, ti33), (34, ti34), (36, ti36), (38, ti38), (87, ti87)]
theorem T29_ok : TabOK Try.prog T29 := .cons t3 (.cons t4 (.cons t9 (.cons t33 (.cons t34 (.cons t36 (.cons t38 (.cons t87 (.nil))))))))
theorem enters29 : Enters Try.prog 29 := fun _ _ => by kernel_rfl
theorem risR_s (A : Option Addr) (n c : Nat) (f : Nat → Itm) (hn : n ≤ maxLen) (kd : Int) (nx : Lab) (mk : Int) (hv : U64 nx.bits) : Spec Try.prog 29 [recI A n c f kd nx mk] (fun _ => .bool (.v (isRF kd n f nx mk))) := by
  intro m w hm hargs
  have hmx : maxLen = 9223372036854775807 := rfl
  have S1 := rnone_s
  have S2 := risL_s nx hv
  have S3 := bare_s kd
  rw [isRF_ref]
  simp only [labAV] at S1 S2
  generalize hq : isL nx = q at S2 ⊢
  have hnx := eqL_lab nx noneL
  generalize hd : decide (nx = noneL) = d at hnx ⊢
  generalize hbk : bareK kd = bk at S3 ⊢
  have h16 : decide ((16 : Int) < (n : Int)) = decide (16 < n) := by by_cases h : 16 < n <;> simp [h] <;> omega
  have h00 : decide ((0 : Int) < (n : Int)) = decide (0 < n) := by by_cases h : 0 < n <;> simp [h] <;> omega
  refine enter hm hargs Try.func29 rfl (by simp [Try.ntmps29]) fun a0 hF => ?_
  simp only [Try.ntmps29, startT] at hF
  obtain ⟨B, hB⟩ : ∃ B, B = std := ⟨_, rfl⟩
  refine wp_seq ?_
  apply region_okB hB T29_ok [1] [1] [] hF
  case hex => intro A X; conv => lhs; cbv
  case hob =>
    intro X
    subst hB
    simp [AllOb, Ob.holds, BE.den, std, stdCmp, stdArith] <;> omega
  case hQ =>
  intro X0 a0 w1 hF
  refine wp_seq ?_
  apply drawn_okB hB (by kernel_rfl) T29_ok [3, 1] [1] [(2, .r fun _ => .agg [.int .i64 (-1), .int .u64 0])] hF rfl
  case hex => intro A X; conv => lhs; cbv
  case hD => kernel_rfl
  case hlen => rfl
  case hob =>
    intro X
    subst hB
    exact ⟨rfl, ⟨enters33, S1⟩, ob_lab (Kk := noK) _ _ _ _, trivial⟩
  case hQ =>
  intro X1 a0 w1 hF
  replace hF := hF.head (v' := .bool (.v d)) (by subst hB; exact congrArg (fun b => AV.bool (.v b)) hnx)
  refine wp_seq ?_
  refine wp_seq ?_
  apply region_okB hB T29_ok [32, 1, 3] [1] [(20, .r fun _ => .bool (.v q))] hF
  case hex => intro A X; conv => lhs; cbv
  case hob =>
    intro X
    subst hB
    simp only [AllOb, Ob.holds, BE.den, List.mem_cons, List.not_mem_nil, or_false, forall_eq_or_imp, forall_eq]
    and_intros <;> first | trivial | (intro h; first | trivial | exact ⟨enters28, S2⟩)
  case hQ =>
  intro X2 a0 w1 hF
  refine test_ok hF rfl (fun hb hF => ?_) (fun hb hF => ?_)
  · skip
    have h9 : (if (if (if decide (kd < 1) = true then true else decide (5 < kd)) = true then true else decide ((16 : Int) < (n : Int))) = true then true else if (!d) = true then !q else false) = true := by subst hB; exact hb
    rw [h16, ite_or, ite_or, ite_or, ite_and] at h9
    refine wp_seq ?_
    apply region_okB hB T29_ok [2] [] [] hF
    case hex => intro A X; conv => lhs; cbv
    case hob =>
      intro X
      subst hB
      simp [AllOb, Ob.holds, BE.den, std, stdCmp, stdArith] <;> omega
    case hQ =>
    intro X3 a0 w1 hF
    refine wp_ret ?_
    refine ret_spec (fn := Try.f29) T29_ok hF (rs := [.tmp 2]) rfl (rfl) ?_ noAtom ?_
    · subst hB; simp [AllOb, Ob.holds]
    · subst hB
      refine congrArg (fun b => AV.bool (.v b)) ?_
      rw [h9]; rfl
  · skip
    have h9 : (if (if (if decide (kd < 1) = true then true else decide (5 < kd)) = true then true else decide ((16 : Int) < (n : Int))) = true then true else if (!d) = true then !q else false) = false := by subst hB; exact hb
    rw [h16, ite_or, ite_or, ite_or, ite_and] at h9
    refine wp_skip ?_
    refine wp_seq ?_
    refine wp_seq ?_
    apply region_okB hB T29_ok [55, 1] [1] [(11, .r fun _ => .bool (.v bk))] hF
    case hex => intro A X; conv => lhs; cbv
    case hob =>
      intro X
      subst hB
      simp only [AllOb, Ob.holds, BE.den, List.mem_cons, List.not_mem_nil, or_false, forall_eq_or_imp, forall_eq]
      and_intros <;> first | trivial | (intro h; first | trivial | exact ⟨enters46, S3⟩)
    case hQ =>
    intro X4 a0 w1 hF
    refine test_ok hF rfl (fun hb hF => ?_) (fun hb hF => ?_)
    · skip
      have h5 : (if (if (mk != 0) = true then (kd != 5) else false) = true then true else if bk = true then (if decide ((0 : Int) < (n : Int)) = true then true else !d) else false) = true := by subst hB; exact hb
      rw [h00, ite_or, ite_and, ite_and, ite_or] at h5
      refine wp_seq ?_
      apply region_okB hB T29_ok [2] [] [] hF
      case hex => intro A X; conv => lhs; cbv
      case hob =>
        intro X
        subst hB
        simp [AllOb, Ob.holds, BE.den, std, stdCmp, stdArith] <;> omega
      case hQ =>
      intro X5 a0 w1 hF
      refine wp_ret ?_
      refine ret_spec (fn := Try.f29) T29_ok hF (rs := [.tmp 2]) rfl (rfl) ?_ noAtom ?_
      · subst hB; simp [AllOb, Ob.holds]
      · subst hB
        refine congrArg (fun b => AV.bool (.v b)) ?_
        have hmk : (mk != 0) = !decide (mk = 0) := by by_cases h : mk = 0 <;> simp [h]
        have hkk : (kd != 5) = !decide (kd = 5) := by by_cases h : kd = 5 <;> simp [h]
        rw [hmk, hkk] at h5
        rw [h9, h5]; rfl
    · skip
      have h5 : (if (if (mk != 0) = true then (kd != 5) else false) = true then true else if bk = true then (if decide ((0 : Int) < (n : Int)) = true then true else !d) else false) = false := by subst hB; exact hb
      rw [h00, ite_or, ite_and, ite_and, ite_or] at h5
      refine wp_skip ?_
      refine wp_seq ?_
      refine wp_seq ?_
      apply region_okB hB T29_ok [4, 1] [1] [] hF
      case hex => intro A X; conv => lhs; cbv
      case hob =>
        intro X
        subst hB
        simp [AllOb, Ob.holds, BE.den, std, stdCmp, stdArith] <;> omega
      case hQ =>
      intro X6 a0 w1 hF
      refine wp_block ?_
      refine loop_pre (ι := Nat) (fun p => [(4, .int .i64 (p : Int))]) (fun p => []) (fun p => []) (fun p => p ≤ n ∧ okF f p = true) (fun p => n - p) 0 ⟨Nat.zero_le _, rfl⟩ hF ?_
      rintro i ⟨hi, hok⟩ a0 w1 hF
      try dsimp only at hi
      try dsimp only at hok
      refine wp_seq ?_
      refine wp_seq ?_
      apply region_okB hB T29_ok [60, 1, 4] [1] [] hF
      case hex => intro A X; conv => lhs; cbv
      case hob =>
        intro X
        subst hB; exact ⟨rfl, trivial⟩
      case hQ =>
      intro X7 a0 w1 hF
      refine test_ok hF rfl (fun hb hF => ?_) (fun hb hF => ?_)
      · skip
        have hin : i < n := by
          have : (i : Int) < (n : Int) := by subst hB; simpa [std, stdCmp] using hb
          omega
        have ht := okAt_test f i (by omega)
        refine wp_skip ?_
        refine wp_seq ?_
        refine wp_block ?_
        refine wp_seq ?_
        apply drawn_okB hB (by kernel_rfl) T29_ok [90, 1, 4] [1] [] hF rfl
        case hex => intro A X; conv => lhs; cbv
        case hD => kernel_rfl
        case hlen => rfl
        case hob =>
          intro X
          subst hB
          have hi0 : (0 : Int) ≤ (i : Int) ∧ (i : Int) < (n : Int) := ⟨by omega, by omega⟩
          have hix : (0 : Int) < (i : Int) → 0 ≤ IntKind.i64.wrap ((i : Int) - 1) ∧ IntKind.i64.wrap ((i : Int) - 1) < (n : Int) := fun h => by rw [wrap_in (by omega) (by omega)]; omega
          simp only [AllOb, Ob.holds, BE.den, List.mem_cons, List.not_mem_nil, or_false, forall_eq_or_imp, forall_eq]
          and_intros <;> first | trivial | exact hi0.1 | exact hi0.2 | (intro h; first | trivial | exact hi0 | exact hix (of_decide_eq_true h) | exact hix (of_decide_eq_true h.1))
        case hQ =>
        intro X9 a0 w1 hF
        refine test_ok hF rfl (fun hb hF => ?_) (fun hb hF => ?_)
        · skip
          have hat : okAt f i = false := by
            have h9 : (!okAt f i) = true := by subst hB; exact ht.symm.trans hb
            simpa using h9
          refine wp_seq ?_
          apply region_okB hB T29_ok [2] [] [] hF
          case hex => intro A X; conv => lhs; cbv
          case hob =>
            intro X
            subst hB
            simp [AllOb, Ob.holds, BE.den, std, stdCmp, stdArith] <;> omega
          case hQ =>
          intro X10 a0 w1 hF
          refine wp_ret ?_
          refine ret_spec (fn := Try.f29) T29_ok hF (rs := [.tmp 2]) rfl (rfl) ?_ noAtom ?_
          · subst hB; simp [AllOb, Ob.holds]
          · subst hB
            refine congrArg (fun b => AV.bool (.v b)) ?_
            rw [okF_false hin hat]; simp
        · skip
          have hat : okAt f i = true := by
            have h9 : (!okAt f i) = false := by subst hB; exact ht.symm.trans hb
            simpa using h9
          refine wp_skip ?_
          apply region_okB hB T29_ok [4, 1] [1] [] hF
          case hex => intro A X; conv => lhs; cbv
          case hob =>
            intro X
            subst hB
            simp [AllOb, Ob.holds, BE.den, std, stdCmp, stdArith] <;> omega
          case hQ =>
          intro X8 a0 w1 hF
          have e : B.arith .add .i64 (i : Int) 1 = ((i + 1 : Nat) : Int) := by subst hB; exact wrap_succ (n := n) hin hn
          refine ⟨i + 1, ⟨by omega, by rw [okF_succ, hok, hat]; rfl⟩, by omega, by rw [← e]; exact hF⟩
      · skip
        have hout : i = n := by
          have : ¬ (i : Int) < (n : Int) := by subst hB; simpa [std, stdCmp] using hb
          omega
        refine wp_exit ?_
        refine wp_seq ?_
        apply region_okB hB T29_ok [2] [] [] hF
        case hex => intro A X; conv => lhs; cbv
        case hob =>
          intro X
          subst hB
          simp [AllOb, Ob.holds, BE.den, std, stdCmp, stdArith] <;> omega
        case hQ =>
        intro X11 a0 w1 hF
        refine wp_ret ?_
        refine ret_spec (fn := Try.f29) T29_ok hF (rs := [.tmp 2]) rfl (rfl) ?_ noAtom ?_
        · subst hB; simp [AllOb, Ob.holds]
        · subst hB
          refine congrArg (fun b => AV.bool (.v b)) ?_
          have hmk : (mk != 0) = !decide (mk = 0) := by by_cases h : mk = 0 <;> simp [h]
          have hkk : (kd != 5) = !decide (kd = 5) := by by_cases h : kd = 5 <;> simp [h]
          rw [hmk, hkk] at h5
          rw [hout] at hok
          rw [h9, h5, hok]; rfl
def T39 : List (Nat × TI) := [(3, ti3), (4, ti4), (34, ti34), (87, ti87)]
theorem T39_ok : TabOK Try.prog T39 := .cons t3 (.cons t4 (.cons t34 (.cons t87 (.nil))))
theorem enters39 : Enters Try.prog 39 := fun _ _ => by kernel_rfl
theorem same7_s (A : Option Addr) (n c : Nat) (f : Nat → Itm) (hn : n ≤ maxLen) (A2 : Option Addr) (n2 c2 : Nat) (f2 : Nat → Itm) : Spec Try.prog 39 [rowI A n c f, rowI A2 n2 c2 f2] (fun _ => .bool (.v (sameF n f n2 f2))) := by
  intro m w hm hargs
  have hmx : maxLen = 9223372036854775807 := rfl
  refine enter hm hargs Try.func39 rfl (by simp [Try.ntmps39]) fun a0 hF => ?_
  simp only [Try.ntmps39, startT] at hF
  obtain ⟨B, hB⟩ : ∃ B, B = std := ⟨_, rfl⟩
  refine wp_seq ?_
  apply region_okB hB T39_ok [0, 1] [] [] hF
  case hex => intro A X; conv => lhs; cbv
  case hob =>
    intro X
    subst hB
    simp [AllOb, Ob.holds, BE.den, std, stdCmp, stdArith] <;> omega
  case hQ =>
  intro X0 a0 w1 hF
  refine wp_seq ?_
  refine wp_seq ?_
  apply region_okB hB T39_ok [10, 0, 1] [] [] hF
  case hex => intro A X; conv => lhs; cbv
  case hob =>
    intro X
    subst hB
    simp [AllOb, Ob.holds, BE.den, std, stdCmp, stdArith] <;> omega
  case hQ =>
  intro X1 a0 w1 hF
  refine test_ok hF rfl (fun hb hF => ?_) (fun hb hF => ?_)
  · skip
    have hne : n ≠ n2 := by
      have : ¬ (n : Int) = (n2 : Int) := by subst hB; simpa [std, stdCmp] using hb
      omega
    refine wp_seq ?_
    apply region_okB hB T39_ok [4] [] [] hF
    case hex => intro A X; conv => lhs; cbv
    case hob =>
      intro X
      subst hB
      simp [AllOb, Ob.holds, BE.den, std, stdCmp, stdArith] <;> omega
    case hQ =>
    intro X2 a0 w1 hF
    refine wp_ret ?_
    refine ret_spec (fn := Try.f39) T39_ok hF (rs := [.tmp 4]) rfl (rfl) ?_ noAtom ?_
    · subst hB; simp [AllOb, Ob.holds]
    · subst hB
      refine congrArg (fun b => AV.bool (.v b)) ?_
      unfold sameF
      rw [decide_eq_false hne]; rfl
  · skip
    have hnn : n = n2 := by
      have : (n : Int) = (n2 : Int) := by subst hB; simpa [std, stdCmp] using hb
      omega
    refine wp_skip ?_
    refine wp_seq ?_
    refine wp_seq ?_
    apply region_okB hB T39_ok [5, 0, 1] [] [] hF
    case hex => intro A X; conv => lhs; cbv
    case hob =>
      intro X
      subst hB
      simp [AllOb, Ob.holds, BE.den, std, stdCmp, stdArith] <;> omega
    case hQ =>
    intro X3 a0 w1 hF
    refine wp_block ?_
    refine loop_pre (ι := Nat) (fun p => [(5, .int .i64 (p : Int))]) (fun p => []) (fun p => []) (fun p => p ≤ n ∧ ∀ i, i < p → f i = f2 i) (fun p => n - p) 0 ⟨Nat.zero_le _, fun i hi => absurd hi (Nat.not_lt_zero _)⟩ hF ?_
    rintro i ⟨hi, hall⟩ a0 w1 hF
    try dsimp only at hi
    try dsimp only at hall
    refine wp_seq ?_
    refine wp_seq ?_
    apply region_okB hB T39_ok [14, 0, 1, 5] [] [] hF
    case hex => intro A X; conv => lhs; cbv
    case hob =>
      intro X
      subst hB
      simp [AllOb, Ob.holds, BE.den, std, stdCmp, stdArith] <;> omega
    case hQ =>
    intro X4 a0 w1 hF
    refine test_ok hF rfl (fun hb hF => ?_) (fun hb hF => ?_)
    · skip
      have hin : i < n := by
        have : (i : Int) < (n : Int) := by subst hB; simpa [std, stdCmp] using hb
        omega
      refine wp_skip ?_
      refine wp_seq ?_
      refine wp_block ?_
      refine wp_seq ?_
      apply drawn_okB hB (by kernel_rfl) T39_ok [25, 0, 1, 5] [] [] hF rfl
      case hex => intro A X; conv => lhs; cbv
      case hD => kernel_rfl
      case hlen => rfl
      case hob =>
        intro X
        subst hB; exact ⟨⟨show (0 : Int) ≤ (i : Int) by omega, show (i : Int) < (n : Int) by omega⟩, ⟨show (0 : Int) ≤ (i : Int) by omega, show (i : Int) < (n2 : Int) by omega⟩, ob_itm (Kk := noK) _ _ _ _, trivial⟩
      case hQ =>
      intro X6 a0 w1 hF
      refine test_ok hF rfl (fun hb hF => ?_) (fun hb hF => ?_)
      · skip
        have hne : ¬ f i = f2 i := by
          have h9 : (!eqL (itC (f i)) (itC (f2 i))) = true := by subst hB; exact hb
          rw [eqL_itm] at h9; simpa using h9
        refine wp_seq ?_
        apply region_okB hB T39_ok [4] [] [] hF
        case hex => intro A X; conv => lhs; cbv
        case hob =>
          intro X
          subst hB
          simp [AllOb, Ob.holds, BE.den, std, stdCmp, stdArith] <;> omega
        case hQ =>
        intro X7 a0 w1 hF
        refine wp_ret ?_
        refine ret_spec (fn := Try.f39) T39_ok hF (rs := [.tmp 4]) rfl (rfl) ?_ noAtom ?_
        · subst hB; simp [AllOb, Ob.holds]
        · subst hB
          refine congrArg (fun b => AV.bool (.v b)) ?_
          rw [sameF_no hin hne]
      · skip
        have heq : f i = f2 i := by
          have h9 : (!eqL (itC (f i)) (itC (f2 i))) = false := by subst hB; exact hb
          rw [eqL_itm] at h9; simpa using h9
        refine wp_skip ?_
        apply region_okB hB T39_ok [5, 0, 1] [] [] hF
        case hex => intro A X; conv => lhs; cbv
        case hob =>
          intro X
          subst hB
          simp [AllOb, Ob.holds, BE.den, std, stdCmp, stdArith] <;> omega
        case hQ =>
        intro X5 a0 w1 hF
        have e : B.arith .add .i64 (i : Int) 1 = ((i + 1 : Nat) : Int) := by subst hB; exact wrap_succ (n := n) hin hn
        refine ⟨i + 1, ⟨by omega, fun j hj => ?_⟩, by omega, by rw [← e]; exact hF⟩
        by_cases hij : j = i
        · rw [hij]; exact heq
        · exact hall j (by omega)
    · skip
      have hout : i = n := by
        have : ¬ (i : Int) < (n : Int) := by subst hB; simpa [std, stdCmp] using hb
        omega
      refine wp_exit ?_
      refine wp_seq ?_
      apply region_okB hB T39_ok [4] [] [] hF
      case hex => intro A X; conv => lhs; cbv
      case hob =>
        intro X
        subst hB
        simp [AllOb, Ob.holds, BE.den, std, stdCmp, stdArith] <;> omega
      case hQ =>
      intro X8 a0 w1 hF
      refine wp_ret ?_
      refine ret_spec (fn := Try.f39) T39_ok hF (rs := [.tmp 4]) rfl (rfl) ?_ noAtom ?_
      · subst hB; simp [AllOb, Ob.holds]
      · subst hB
        refine congrArg (fun b => AV.bool (.v b)) ?_
        rw [hout] at hall
        rw [sameF_yes hnn hall]
def T21 : List (Nat × TI) := [(3, ti3), (4, ti4), (33, ti33), (34, ti34), (36, ti36), (38, ti38)]
theorem T21_ok : TabOK Try.prog T21 := .cons t3 (.cons t4 (.cons t33 (.cons t34 (.cons t36 (.cons t38 (.nil))))))
theorem enters21 : Enters Try.prog 21 := fun _ _ => by kernel_rfl
theorem same_s (A : Option Addr) (n c : Nat) (f : Nat → Itm) (hn : n ≤ maxLen) (kd : Int) (nx : Lab) (mk : Int) (A2 : Option Addr) (n2 c2 : Nat) (f2 : Nat → Itm) (kd2 : Int) (nx2 : Lab) (mk2 : Int) : Spec Try.prog 21 [recI A n c f kd nx mk, recI A2 n2 c2 f2 kd2 nx2 mk2] (fun _ => .bool (.v (sameRF kd n f nx mk kd2 n2 f2 nx2 mk2))) := by
  intro m w hm hargs
  have S := same7_s A n c f hn A2 n2 c2 f2
  unfold sameRF
  generalize sameF n f n2 f2 = q at S ⊢
  have hnx := eqL_lab nx nx2
  generalize decide (nx = nx2) = d at hnx ⊢
  refine enter hm hargs Try.func21 rfl (by simp [Try.ntmps21]) fun a0 hF => ?_
  simp only [Try.ntmps21, startT] at hF
  obtain ⟨B, hB⟩ : ∃ B, B = std := ⟨_, rfl⟩
  refine wp_seq ?_
  apply region_okB hB T21_ok [2, 3] [2, 3] [] hF
  case hex => intro A X; conv => lhs; cbv
  case hob =>
    intro X
    subst hB
    simp [AllOb, Ob.holds, BE.den, std, stdCmp, stdArith] <;> omega
  case hQ =>
  intro X0 a0 w1 hF
  refine wp_seq ?_
  apply region_okB hB T21_ok [4] [] [(10, .r fun _ => .bool (.v q))] hF
  case hex => intro A X; conv => lhs; cbv
  case hob =>
    intro X
    subst hB
    simp only [AllOb, Ob.holds, BE.den, List.mem_cons, List.not_mem_nil, or_false, forall_eq_or_imp, forall_eq]
    and_intros <;> first | trivial | (intro h; first | trivial | exact ⟨enters39, S⟩ | exact ob_lab (Kk := noK) _ _ _ _)
  case hQ =>
  intro X1 a0 w1 hF
  refine wp_ret ?_
  refine ret_spec (fn := Try.f21) T21_ok hF (rs := [.tmp 4]) rfl (rfl) ?_ noAtom ?_
  · subst hB; simp [AllOb, Ob.holds]
  · subst hB
    refine congrArg (fun b => AV.bool (.v b)) ?_
    show (if (if (if (kd == kd2) = true then q else false) = true then eqL [.int .i64 nx.len, .int .u64 nx.bits] [.int .i64 nx2.len, .int .u64 nx2.bits] else false) = true then (mk == mk2) else false) = _
    rw [hnx, ite_and, ite_and, ite_and]
    have h1 : (kd == kd2) = decide (kd = kd2) := by by_cases h : kd = kd2 <;> simp [h]
    have h2 : (mk == mk2) = decide (mk = mk2) := by by_cases h : mk = mk2 <;> simp [h]
    rw [h1, h2]
def T20 : List (Nat × TI) := [(3, ti3), (4, ti4), (9, ti9), (34, ti34), (38, ti38), (87, ti87)]
theorem T20_ok : TabOK Try.prog T20 := .cons t3 (.cons t4 (.cons t9 (.cons t34 (.cons t38 (.cons t87 (.nil))))))
theorem enters20 : Enters Try.prog 20 := fun _ _ => by kernel_rfl
theorem big_s (A : Option Addr) (n c : Nat) (f : Nat → Itm) (hn : n ≤ maxLen) (kd : Int) (nx : Lab) (mk : Int) : Spec Try.prog 20 [recI A n c f kd nx mk] (fun _ => .bool (.v (bigF n f))) := by
  intro m w hm hargs
  have hmx : maxLen = 9223372036854775807 := rfl
  refine enter hm hargs Try.func20 rfl (by simp [Try.ntmps20]) fun a0 hF => ?_
  simp only [Try.ntmps20, startT] at hF
  obtain ⟨B, hB⟩ : ∃ B, B = std := ⟨_, rfl⟩
  refine wp_seq ?_
  apply region_okB hB T20_ok [1] [1] [] hF
  case hex => intro A X; conv => lhs; cbv
  case hob =>
    intro X
    subst hB
    simp [AllOb, Ob.holds, BE.den, std, stdCmp, stdArith] <;> omega
  case hQ =>
  intro X0 a0 w1 hF
  refine wp_seq ?_
  apply region_okB hB T20_ok [1, 3] [1] [] hF
  case hex => intro A X; conv => lhs; cbv
  case hob =>
    intro X
    subst hB
    simp [AllOb, Ob.holds, BE.den, std, stdCmp, stdArith] <;> omega
  case hQ =>
  intro X1 a0 w1 hF
  refine wp_seq ?_
  refine wp_seq ?_
  apply region_okB hB T20_ok [3, 4, 1] [1] [] hF
  case hex => intro A X; conv => lhs; cbv
  case hob =>
    intro X
    subst hB
    simp [AllOb, Ob.holds, BE.den, std, stdCmp, stdArith] <;> omega
  case hQ =>
  intro X2 a0 w1 hF
  refine wp_block ?_
  refine loop_pre (ι := Nat × Int) (fun p => [(3, .int .i64 p.2), (4, .int .i64 (p.1 : Int))]) (fun p => []) (fun p => []) (fun p => p.1 ≤ n ∧ p.2 = sumF f p.1) (fun p => n - p.1) (0, 0) ⟨Nat.zero_le _, rfl⟩ hF ?_
  rintro ⟨i, x⟩ ⟨hi, hx⟩ a0 w1 hF
  try dsimp only at hi
  try dsimp only at hx
  refine wp_seq ?_
  refine wp_seq ?_
  apply region_okB hB T20_ok [15, 1, 3, 4] [1] [] hF
  case hex => intro A X; conv => lhs; cbv
  case hob =>
    intro X
    subst hB
    simp only [AllOb, Ob.holds, BE.den, List.mem_cons, List.not_mem_nil, or_false, forall_eq_or_imp, forall_eq]
    and_intros <;> first | trivial | (intro h; trivial)
  case hQ =>
  intro X3 a0 w1 hF
  refine test_ok hF rfl (fun hb hF => ?_) (fun hb hF => ?_)
  · skip
    have h9 : (if decide ((i : Int) < (n : Int)) = true then decide ((n : Int) ≤ 40) else false) = true := by subst hB; exact hb
    have hin : i < n := by
      have : (i : Int) < (n : Int) ∧ (n : Int) ≤ 40 := by simpa using h9
      omega
    refine wp_skip ?_
    refine wp_seq ?_
    refine wp_block ?_
    apply region_okB hB T20_ok [1, 3, 4] [1] [] hF
    case hex => intro A X; conv => lhs; cbv
    case hob =>
      intro X
      subst hB; exact ⟨rfl, ⟨show (0 : Int) ≤ (i : Int) by omega, show (i : Int) < (n : Int) by omega⟩, trivial⟩
    case hQ =>
    intro X5 a0 w1 hF
    apply region_okB hB T20_ok [3, 4, 1] [1] [] hF
    case hex => intro A X; conv => lhs; cbv
    case hob =>
      intro X
      subst hB
      simp [AllOb, Ob.holds, BE.den, std, stdCmp, stdArith] <;> omega
    case hQ =>
    intro X4 a0 w1 hF
    have e : B.arith .add .i64 (i : Int) 1 = ((i + 1 : Nat) : Int) := by subst hB; exact wrap_succ (n := n) hin hn
    refine ⟨(i + 1, B.arith .add .i64 x (B.ofNat (B.slen (f (B.toNat (i : Int))).val))), ⟨by simp only; omega, ?_⟩, by simp only; omega, by rw [← e]; exact hF⟩
    subst hB; rw [hx]; rfl
  · skip
    have h9 : (if decide ((i : Int) < (n : Int)) = true then decide ((n : Int) ≤ 40) else false) = false := by subst hB; exact hb
    have hout : n ≤ 40 → i = n := by
      intro h40
      have : (i : Int) < (n : Int) → (40 : Int) < (n : Int) := by simpa using h9
      omega
    refine wp_exit ?_
    refine wp_seq ?_
    apply region_okB hB T20_ok [2] [] [] hF
    case hex => intro A X; conv => lhs; cbv
    case hob =>
      intro X
      subst hB
      simp only [AllOb, Ob.holds, BE.den, List.mem_cons, List.not_mem_nil, or_false, forall_eq_or_imp, forall_eq]
      and_intros <;> first | trivial | (intro h; trivial)
    case hQ =>
    intro X6 a0 w1 hF
    refine wp_ret ?_
    refine ret_spec (fn := Try.f20) T20_ok hF (rs := [.tmp 2]) rfl (rfl) ?_ noAtom ?_
    · subst hB; simp [AllOb, Ob.holds]
    · subst hB
      refine congrArg (fun b => AV.bool (.v b)) ?_
      show (if decide ((40 : Int) < (n : Int)) = true then true else decide (8000 < x)) = _
      rw [ite_or]
      unfold bigF
      by_cases h4 : n ≤ 40
      · rw [hout h4] at hx
        rw [hx, decide_eq_false (show ¬ (40 : Int) < (n : Int) by omega), decide_eq_false (show ¬ 40 < n by omega)]
      · rw [decide_eq_true (show (40 : Int) < (n : Int) by omega), decide_eq_true (show 40 < n by omega)]; rfl
end Go.Proofs.Ythpbihppfijegaa.Sym

namespace Go.Proofs.Ythpbihppfijegaa.Sym
open Go.RowKit
set_option linter.unusedVariables false
set_option linter.unusedSimpArgs false

/-- a contract of a function that is deferred -/
def SpecD (P : Program) (f : FuncId) (args : List AV) (pre : List (Nat × Blk)) (res : Atom → CR) : Prop :=
  ∀ (u : FrameMode) (m : Nat → Nat → Prop) (w : World), (∀ b o, m b o → b < w.heap.size) → (∀ v ∈ args, Ok m w v) → PreOk m w pre → CallsD P f (args.map AV.den).toArray u w fun e u' w' => u' = u ∧ XPost m w pre res e w'
section
variable {P : Program}
theorem enterXD {u : FrameMode} {m : Nat → Nat → Prop} {w : World} {pre : List (Nat × Blk)} (hm : ∀ b o, m b o → b < w.heap.size) (hp : PreOk m w pre) {args : List AV} (hargs : ∀ v ∈ args, Ok m w v) {f : FuncId} {fn : Func} {c : Code} {R : Ending → World → Prop} (hf : P.funcs[f]? = some fn) (hbd : fn.body = some c) (hn : args.length ≤ fn.ntmps)
    (h : ∀ a, Fits ⟨m, w, ats pre, [], noK⟩ ⟨fn.ntmps, startT 0 args, [], pre, []⟩ a w → c.wp P (bodyPost P fn R) a w) : CallsD P f (args.map AV.den).toArray u w fun e u' w' => u' = u ∧ R e w' := by
  refine callsD_of_wp hf hbd ?_
  have := h _ (enterFits hm hp hargs hn)
  simpa using this
variable {C : Cx}
/-- a deferred call is carried out: its contract is known -/
theorem leave_d {s : St} {a : Act} {w : World} {fn : Func} {R : Ending → World → Prop} {u : FrameMode} {f : FuncId} {l r : List AV} {ds : List Deferred} (h : Fits ⟨C.m0, C.w0, C.S, { target := .fn (.func f) (AV.denL r).toArray, args := (AV.denL l).toArray } :: ds, C.K⟩ s a w) (hu : u ≠ .run) (hen : Enters P f)
    {pre : List (Nat × Blk)} {sets : List (Nat × List AV)} {v : AV} (hsp : SpecD P f (l ++ r) pre (fun _ => ⟨v, sets, []⟩)) (hok : ∀ w, ∀ v ∈ l ++ r, Ok (s.m C) w v) (hpre : ∀ e ∈ pre, lookM s.mem e.1 = some e.2) (hnd : nodupB pre = true)
    (K : ∀ w', Fits ⟨C.m0, C.w0, C.S, ds, C.K⟩ (s.eff (.sets (upd pre sets))) { tmps := a.tmps, defers := ds } w' → Leaves P fn a.tmps R ds (settle u) w') : Leaves P fn a.tmps R a.defers u w := by
  have hlt : ∀ b o, s.m C b o → b < w.heap.size := m_lt (C := ⟨C.m0, C.w0, C.S, { target := .fn (.func f) (AV.denL r).toArray, args := (AV.denL l).toArray } :: ds, C.K⟩) h
  refine leave_step h hu hen hpre hnd (fun hp => (hsp u (s.m C) w hlt (hok w) hp).mono ?_) K
  rintro e u' w' ⟨rfl, x, rfl, _, hl⟩
  exact ⟨⟨_, rfl⟩, rfl, hl⟩
/-- a block of one cell is set -/
theorem left_set {m : Nat → Nat → Prop} {w : World} {k b ty : Nat} {v v' : AV} (hp : PreOk m w [(k, ⟨b, ty, [v]⟩)]) (h1 : v'.one = true) (hok : ∀ w, Ok m w v') : Left m w (w.setRow b #[v'.den]) [(k, ⟨b, ty, [v]⟩)] [(k, [v'])] [] := by
  have hh := hp.heap _ (List.mem_singleton.2 rfl)
  refine ⟨rfl, fun e he => ?_, fun e he u hu => ?_, fun e he => (by cases he), .nil, ?_⟩
  · simp only [upd, List.append_nil, List.mem_singleton] at he
    subst he
    exact setRow_heap w b _ #[v'.den] ty (0, 0) hh
  · simp only [upd, List.append_nil, List.mem_singleton] at he
    subst he
    simp only [List.mem_singleton] at hu
    subst hu
    exact ⟨h1, (hok _).mono fun b' o u h1 h2 => ⟨h1, fun h => h2 (h.resolve_right fun ⟨e, he, _⟩ => by cases he)⟩⟩
  · exact ⟨rfl, rfl, rfl, by simp [World.setRow], fun k' _ hn => setRow_other w b k' _ (fun e => hn ⟨_, List.mem_singleton.2 rfl, e.symm⟩)⟩
end
theorem left_id {m : Nat → Nat → Prop} {w : World} : Left m w w [] [] [] := ⟨rfl, fun e he => (by cases he), fun e he => (by cases he), fun e he => (by cases he), .nil, Chg.refl _ _⟩
end Go.Proofs.Ythpbihppfijegaa.Sym

namespace Go.Proofs.Ythpbihppfijegaa.Sym
open Go.RowKit
set_option linter.unusedVariables false
set_option linter.unusedSimpArgs false

theorem Fits.fresh {C : Cx} {s : St} {a : Act} {w w' : World} (h : Fits C s a w) (hb : Below w.heap.size w w') (key : Nat) {t : Gr} (hk : 0 < t.k) {xs : List Value} (hO : Own w' w.heap.size t.e t.k t.v t.n xs) :
    Fits C (s.eff (.grow key t)) a w' := by
  have hcell : ∀ b o u, w.cell? ⟨b, o, none⟩ = some u → w'.cell? ⟨b, o, none⟩ = some u := fun b o u hc => by
    rw [hb.cell (World.block_lt_of_cell? w _ hc)]; exact hc
  have hlt : ∀ b, ownB t.v = some b → w.heap.size ≤ b := fun b hv => (hO.lt b hv).1
  have hm : ∀ b o, b < w.heap.size → ¬ s.m C b o → ¬ (s.eff (.grow key t)).m C b o := by
    intro b o hbl hn hm
    rcases hm with hm | hm | ⟨k', t', ht', hv, hm⟩
    · exact hn (.inl hm)
    · exact hn (.inr (.inl hm))
    · rcases lookM_eff ht' with ⟨_, rfl⟩ | ⟨_, ht'⟩
      · have := hlt b hv; omega
      · exact hn (.inr (.inr ⟨k', t', ht', hv, hm⟩))
  have kp : Keep w (s.m C) w' ((s.eff (.grow key t)).m C) := ⟨fun b o u h1 h2 => ⟨hcell b o u h1, hm b o (World.block_lt_of_cell? w _ h1) h2⟩, fun b o h1 _ => (hb.block b (Array.getElem?_eq_some_iff.1 h1).1).trans h1⟩
  have mono : ∀ v, Ok (s.m C) w v → Ok ((s.eff (.grow key t)).m C) w' v := fun v hv => kp.ok hv
  have hsz := h.chg.size
  refine ⟨h.size, h.defers, fun t ht => ⟨(h.slot t ht).1, mono _ (h.slot t ht).2⟩, fun t p v he hk => ⟨fun hp => ⟨((h.gs t p v he hk).1 hp).1, mono _ ((h.gs t p v he hk).1 hp).2⟩, (h.gs t p v he hk).2⟩, ?_, h.nodup, ?_, ?_, ?_, ?_, h.m0, C.K.st kp h.kept⟩
  · intro k e he
    obtain ⟨h1, h2, h3⟩ := h.mem k e he
    exact ⟨(hb.block _ (lt_of_heap h1)).trans h1, fun v hv => ⟨(h2 v hv).1, mono _ (h2 v hv).2⟩, h3⟩
  · intro k t' ht'
    rcases lookM_eff ht' with ⟨_, rfl⟩ | ⟨hne, ht'⟩
    · exact ⟨hk, _, hO.mono hsz⟩
    · obtain ⟨h1, xs', h2⟩ := h.gr k t' ht'
      exact ⟨h1, xs', h2.keep fun b hv => hb.block b (h2.lt b hv).2⟩
  · intro k t' k' e ht' he
    rcases lookM_eff ht' with ⟨_, rfl⟩ | ⟨_, ht'⟩
    · intro hv
      have := hlt _ hv
      have := lt_of_heap (h.mem k' e he).1
      omega
    · exact h.sepm k t' k' e ht' he
  · intro k1 t1 k2 t2 b h1 h2 hne hv hv'
    rcases lookM_eff h1 with ⟨e1, r1⟩ | ⟨e1, g1⟩
    · rcases lookM_eff h2 with ⟨e2, _⟩ | ⟨e2, g2⟩
      · exact hne (e1.trans e2.symm)
      · obtain ⟨_, xs', ho'⟩ := h.gr k2 t2 g2
        have := (ho'.lt _ hv').2
        have := hlt _ (r1 ▸ hv)
        omega
    · rcases lookM_eff h2 with ⟨e2, r2⟩ | ⟨e2, g2⟩
      · obtain ⟨_, xs', ho'⟩ := h.gr k1 t1 g1
        have := (ho'.lt _ hv).2
        have := hlt _ (r2 ▸ hv')
        omega
      · exact h.sepg k1 t1 k2 t2 b g1 g2 hne hv hv'
  · exact h.chg.trans (Chg.of_new (S := fun _ => False) hb) fun k hk e => e.elim
/-- an owned row that is empty is known -/
theorem own_empty {m : Nat → Nat → Prop} {w : World} {B e k : Nat} {A : Option Addr} {c : Nat} {xs : List Value} (h : Own w B e k (.slice A 0 c) 0 xs) (g : Option Nat) (f : Nat → List AV) : Ok m w (.sl g A 0 c k f) := by
  obtain ⟨A', c', he, h1, h2⟩ := h.isSlice
  injection he with _ _ e3; subst e3
  exact .sl _ _ _ _ _ _ (Nat.zero_le _) h2 (fun i hi => absurd hi (Nat.not_lt_zero _)) (fun i hi => absurd hi (Nat.not_lt_zero _)) (fun i hi => absurd hi (Nat.not_lt_zero _)) (fun i hi => absurd hi (Nat.not_lt_zero _)) (fun i hi => absurd hi (Nat.not_lt_zero _))
section
variable {C : Cx} {P : Program} {Q : Exit → Act → World → Prop} {ops : Array Oper}
/-- a call by hand that yields an empty row of the caller's own -/
theorem man_fresh {s : St} {a : Act} {w : World} {L rest : List Oper} {o : Oper} {c : Call} {g : Operand} {f : FuncId} {l r args : List AV} {d : Nat} (hL : L = o :: rest) (hg : o.guard = none) (hop : o.op = .call c) (hcal : c.callee = .value g) (hdst : o.dst = some d) (h : Fits C s a w) (hgv : val s [] g = .fn f l r) (hl : vals s [] c.args.toList = some args) (hen : Enters P f) (hd : d < s.nt)
    {e k : Nat} (hk : 0 < k) (fc : Nat → List AV) (hc : Calls P f ((l ++ args ++ r).map AV.den).toArray w fun en w' => ∃ A' c', en = .returned (.slice A' 0 c') ∧ Own w' w.heap.size e k (.slice A' 0 c') 0 [] ∧ Below w.heap.size w w')
    (K : ∀ A' c' a' w', Fits C ((s.eff (.grow d ⟨A', 0, c', k, e⟩)).put (some d) (.sl (some d) A' 0 c' k fc)) a' w' → wpList P ops Q rest a' w') : wpList P ops Q L a w := by
  refine man_op hL hg ?_
  obtain ⟨hrun, hok⟩ := call_run hop hcal h hgv hl hen
  unfold Oper.wp
  rw [hrun]
  simp only [Oper.upon]
  refine hc.mono ?_
  rintro en w' ⟨A', c', rfl, hO, hb⟩
  have hf := h.fresh hb d (t := ⟨A', 0, c', k, e⟩) hk hO
  rw [hdst]
  refine K A' c' _ w' (hf.put (some d) (fun t ht => ?_) (.sl (some d) A' 0 c' k fc) (fun _ => own_empty hO _ _) _ fun _ => rfl)
  injection ht with ht
  subst ht
  rw [eff_nt]
  exact hd
/-- the same, where the arguments are told as they lie -/
theorem man_fresh2 {s : St} {a : Act} {w : World} {L rest : List Oper} {o : Oper} {c : Call} {f : FuncId} {argv : Array Value} {d : Nat} (hL : L = o :: rest) (hg : o.guard = none) (hop : o.op = .call c) (hcal : c.callee = .value (.func f)) (hdst : o.dst = some d) (h : Fits C s a w) (hav : c.args.map a.eval = argv) (hen : Enters P f) (hd : d < s.nt)
    {e k : Nat} (hk : 0 < k) (fc : Nat → List AV) (hc : Calls P f argv w fun en w' => ∃ A' c', en = .returned (.slice A' 0 c') ∧ Own w' w.heap.size e k (.slice A' 0 c') 0 [] ∧ Below w.heap.size w w')
    (K : ∀ A' c' a' w', Fits C ((s.eff (.grow d ⟨A', 0, c', k, e⟩)).put (some d) (.sl (some d) A' 0 c' k fc)) a' w' → wpList P ops Q rest a' w') : wpList P ops Q L a w := by
  refine man_op hL hg ?_
  have hrun : (execOp a.eval o).run P w = .ok (.enter f argv) w := by
    have hent := hen argv w
    have e1 := (val_ok h (q := []) (fun _ h => by cases h) (x := .func f) rfl).1
    have e2 : a.eval (.func f) = .func (.func f) #[] #[] := by simpa [val, AV.den, AV.denL] using e1
    simp [execOp, hop, resolve, hcal, e2, Deferred.ofValue, invoke, hav]
    simpa using hent
  unfold Oper.wp
  rw [hrun]
  simp only [Oper.upon]
  refine hc.mono ?_
  rintro en w' ⟨A', c', rfl, hO, hb⟩
  have hf := h.fresh hb d (t := ⟨A', 0, c', k, e⟩) hk hO
  rw [hdst]
  refine K A' c' _ w' (hf.put (some d) (fun t ht => ?_) (.sl (some d) A' 0 c' k fc) (fun _ => own_empty hO _ _) _ fun _ => rfl)
  injection ht with ht
  subst ht
  rw [eff_nt]
  exact hd
/-- an integer slot, evaluated -/
theorem eval_int {s : St} {a : Act} {w : World} (h : Fits C s a w) {t : Nat} {k : IntKind} {n : Int} (hv : val s [] (.tmp t) = .int k n) : a.eval (.tmp t) = .int k n := by
  have e1 := (val_ok h (q := []) (fun _ h => by cases h) (x := .tmp t) (by rw [hv]; rfl)).1
  rw [hv] at e1
  exact e1
end
end Go.Proofs.Ythpbihppfijegaa.Sym

namespace Go.Proofs.Ythpbihppfijegaa.Sym
open Go.RowKit
set_option linter.unusedVariables false
set_option linter.unusedSimpArgs false

section
variable {C : Cx} {P : Program} {Q : Exit → Act → World → Prop} {ops : Array Oper} {s : St} {a : Act} {w : World} {L rest : List Oper} {o : Oper}
theorem man_val {d : Nat} {v : AV} (hL : L = o :: rest) (hg : o.guard = none) (hdst : o.dst = some d) (h : Fits C s a w) (hd : d < s.nt) (hrun : (execOp a.eval o).run P w = .ok (.value v.den) w) (hv : Ok (s.m C) w v)
    (K : ∀ a', Fits C (s.put (some d) v) a' w → wpList P ops Q rest a' w) : wpList P ops Q L a w := by
  refine man_op hL hg ?_
  unfold Oper.wp
  rw [hrun]
  simp only [Oper.upon]
  rw [hdst]
  exact K _ (h.put (some d) (fun t ht => by injection ht with ht; subst ht; exact hd) v (fun _ => hv) _ fun _ => rfl)
/-- &p[i] -/
theorem man_iaddr {t e : TypeId} {p ix : Operand} {n d key b off : Nat} {kk : IntKind} {j : Int} (hL : L = o :: rest) (hg : o.guard = none) (hop : o.op = .indexAddr t p ix) (hdst : o.dst = some d) (h : Fits C s a w) (hd : d < s.nt)
    (hp : val s [] p = .ptr key b off) (hix : val s [] ix = .int kk j) (hu : P.underlying t = some (.array n e)) (hsz : ∀ w, (sizeOf e).run P w = .ok 1 w) (hj : 0 ≤ j ∧ j < (n : Int))
    (K : ∀ a', Fits C (s.put (some d) (.ptr key b (off + j.toNat))) a' w → wpList P ops Q rest a' w) : wpList P ops Q L a w := by
  have hpv := (val_ok h (q := []) (fun _ h => by cases h) (x := p) (by rw [hp]; rfl)).1
  have hiv := (val_ok h (q := []) (fun _ h => by cases h) (x := ix) (by rw [hix]; rfl)).1
  rw [hp] at hpv
  rw [hix] at hiv
  refine man_val hL hg hdst h hd (v := .ptr key b (off + j.toNat)) ?_ (.ptr _ _ _) K
  simp [execOp, hop, hpv, hiv, AV.den, Instr.indexAt, asIntOf, run_underlying hu, hj.1, hj.2, hsz w, Instr.sureAddr, Addr.add_lit]
/-- p[i], read -/
theorem man_aload {T : List (Nat × TI)} {t : TypeId} {p : Operand} {d key b off : Nat} {ti : TI} {blk : Blk} {v : AV} (hL : L = o :: rest) (hg : o.guard = none) (hop : o.op = .load t p) (hdst : o.dst = some d) (h : Fits C s a w) (hd : d < s.nt)
    (hp : val s [] p = .ptr key b off) (hT : TyOK P t ti) (hag : ti.agg = false) (hb : lookM s.mem key = some blk) (hat : blk.at_ = b) (hv : blk.cells[off]? = some v)
    (K : ∀ a', Fits C (s.put (some d) v) a' w → wpList P ops Q rest a' w) : wpList P ops Q L a w := by
  obtain ⟨h1, h2, _⟩ := h.mem _ _ hb
  have hpv := (val_ok h (q := []) (fun _ h => by cases h) (x := p) (by rw [hp]; rfl)).1
  rw [hp] at hpv
  have hr := run_load (P := P) (w := w) (b := blk.at_) (base := 0) (off := off) (cells := blk.cells) (v := v) hT (fun j u hu => by
    rw [cell_of_row w _ _ _ _ _ h1]; simpa using hu) (by rw [hag]; simpa using hv)
  rw [hat, Nat.zero_add] at hr
  refine man_val hL hg hdst h hd (v := v) ?_ (h2 v (List.mem_of_getElem? hv)).2 K
  simp [execOp, hop, hpv, AV.den, hr]
/-- p[i] = x -/
theorem man_astore {T : List (Nat × TI)} {t : TypeId} {p x : Operand} {key b off : Nat} {ti : TI} {blk : Blk} {v : AV} (hL : L = o :: rest) (hg : o.guard = none) (hop : o.op = .store t p x) (hdst : o.dst = none) (h : Fits C s a w)
    (hp : val s [] p = .ptr key b off) (hx : val s [] x = v) (hT : TyOK P t ti) (hsz : ti.size = 1) (hb : lookM s.mem key = some blk) (hat : blk.at_ = b) (ho : off < blk.cells.length) (hv : v.one = true) (hk : v.known = true) {cells' : List AV} (hc' : blk.cells.set off v = cells')
    (K : ∀ a' w', Fits C (s.eff (.set key ⟨blk.at_, blk.ty, cells'⟩)) a' w' → wpList P ops Q rest a' w') : wpList P ops Q L a w := by
  obtain ⟨h1, h2, _⟩ := h.mem _ _ hb
  have hpv := (val_ok h (q := []) (fun _ h => by cases h) (x := p) (by rw [hp]; rfl)).1
  rw [hp] at hpv
  have hxv := val_ok h (q := []) (fun _ h => by cases h) (x := x) (by rw [hx]; exact hk)
  rw [hx] at hxv
  have hset := h.set hb (blk.cells.set off v) (fun y hy => by
    rcases List.mem_or_eq_of_mem_set hy with hy | rfl
    · exact h2 y hy
    · exact ⟨hv, hxv.2⟩)
  have hst := run_storeCells_at P blk.at_ off blk.ty [v.den] 0 (blk.cells.map AV.den).toArray w h1 (by simp; omega) (by
    intro y hy
    rw [List.mem_singleton] at hy
    subst hy
    exact one_of hv)
  have hdc : v.den.cells = #[v.den] := by
    have := den_cells (.inl hv)
    rw [this]
    cases v <;> first | rfl | cases hv
  have e1 : (blk.cells.set off v).map AV.den = (blk.cells.map AV.den).take off ++ [v.den] ++ (blk.cells.map AV.den).drop (off + 1) := by
    rw [List.set_eq_take_append_cons_drop, if_pos ho]
    simp [List.map_take, List.map_drop]
  refine man_op hL hg ?_
  have hsw := hT.size w
  rw [hsz] at hsw
  have hst' : (storeCells ⟨b, off, none⟩ [v.den]).run P w = .ok () (w.setRow blk.at_ ((blk.cells.set off v).map AV.den).toArray) := by
    rw [e1, ← hat]
    simpa using hst
  have hrun : (execOp a.eval o).run P w = .ok .skip (w.setRow blk.at_ ((blk.cells.set off v).map AV.den).toArray) := by
    simp [execOp, hop, hpv, hxv.1, AV.den, Instr.storeAt, Instr.sureAddr, storeVar, hdc, hsw, hst']
  unfold Oper.wp
  rw [hrun]
  simp only [Oper.upon]
  rw [hdst]
  exact K _ _ (hc' ▸ hset)
/-- p[:], of an array that is not written any more: it leaves the tracked blocks, and is read -/
theorem man_aslice {t e : TypeId} {p : Operand} {n d key b : Nat} {blk : Blk} (hL : L = o :: rest) (hg : o.guard = none) (hop : o.op = .slice t p none none none) (hdst : o.dst = some d) (h : Fits C s a w) (hd : d < s.nt) (hgs : s.gs = []) (kp km : List Nat)
    (hp : val s [] p = .ptr key b 0) (hu : P.underlying t = some (.array n e)) (hsz : ∀ w, (sizeOf e).run P w = .ok 1 w) (hb : lookM s.mem key = some blk) (hat : blk.at_ = b) (hn : blk.cells.length = n) (hmx : n ≤ maxLen) (hkm : ∀ k bk, lookM (keepM s.mem km) k = some bk → bk.at_ ≠ b) (hm0 : ∀ o, ¬ C.m0 b o) (hgr : s.gr = []) (f : Nat → List AV) (hf : ∀ i, i < n → f i = [blk.cells.getD i .undef])
    (K : ∀ a', Fits C ((s.keep kp km).put (some d) (.sl none (some ⟨b, 0, none⟩) n n 1 f)) a' w → wpList P ops Q rest a' w) : wpList P ops Q L a w := by
  obtain ⟨h1, h2, _⟩ := h.mem _ _ hb
  have hpv := (val_ok h (q := []) (fun _ h => by cases h) (x := p) (by rw [hp]; rfl)).1
  rw [hp] at hpv
  have h' := h.keep kp km
  have hnm : ∀ o, ¬ (s.keep kp km).m C b o := by
    intro o hm
    rcases hm with hm | ⟨k, bk, hk, rfl⟩ | ⟨k, tt, hk, _⟩
    · exact hm0 o hm
    · exact hkm k bk hk rfl
    · simp only [St.keep, hgr] at hk
      have := keepM_look _ _ hk
      cases this
  have hle : ∀ b o, (s.keep kp km).m C b o → s.m C b o := by
    intro b o hm
    rcases hm with hm | ⟨k, bk, hk, rfl⟩ | ⟨k, tt, hk, h3⟩
    · exact .inl hm
    · exact .inr (.inl ⟨k, bk, keepM_look _ _ hk, rfl⟩)
    · exact .inr (.inr ⟨k, tt, keepM_look _ _ hk, h3⟩)
  have hget : ∀ i, i < n → blk.cells[i]? = some (blk.cells.getD i .undef) := fun i hi => by
    rw [List.getD_eq_getElem?_getD, List.getElem?_eq_getElem (by omega)]; rfl
  have hin : ∀ i, i < n → (blk.cells.getD i .undef) ∈ blk.cells := fun i hi => List.mem_of_getElem? (hget i hi)
  refine man_val hL hg hdst h' hd (v := .sl none (some ⟨b, 0, none⟩) n n 1 f) ?_ ?_ K
  · simp [execOp, hop, hpv, AV.den, Instr.sliceAt, run_underlying hu, Instr.sureAddr, Instr.sliceBounds, sliced, hsz w, Addr.add_lit]
  · refine .sl _ _ _ _ _ _ (Nat.le_refl _) hmx (fun i hi => by rw [hf i hi]; rfl) (fun _ _ => ⟨_, _, rfl⟩) (fun i hi => ?_) (fun i hi v hv => ?_) (fun i hi v hv => ?_)
    · rw [hf i hi]
      intro j u hj
      cases j with
      | succ j => simp at hj
      | zero =>
        simp only [List.map_cons, List.map_nil, List.getElem?_cons_zero, Option.some.injEq] at hj
        subst hj
        refine ⟨b, 0, rfl, ?_, hnm _⟩
        rw [← hat, cell_of_row w _ _ _ _ _ h1, List.getElem?_toArray, List.getElem?_map, show 0 + (i * 1 + 0) = i by omega, hget i hi]
        rfl
    · rw [hf i hi, List.mem_singleton] at hv; subst hv; exact (h2 _ (hin i hi)).1
    · rw [hf i hi, List.mem_singleton] at hv; subst hv
      exact ((h2 _ (hin i hi)).2).mono fun b o u g1 g2 => ⟨g1, fun hm => g2 (hle b o hm)⟩
/-- p[:], of an array that is written next -/
theorem man_aview {t e : TypeId} {p : Operand} {n d key b : Nat} (hL : L = o :: rest) (hg : o.guard = none) (hop : o.op = .slice t p none none none) (hdst : o.dst = some d) (h : Fits C s a w) (hd : d < s.nt)
    (hp : val s [] p = .ptr key b 0) (hu : P.underlying t = some (.array n e)) (hsz : ∀ w, (sizeOf e).run P w = .ok 1 w)
    (K : ∀ a', Fits C (s.put (some d) (.raw (.slice (some ⟨b, 0, none⟩) n n))) a' w → wpList P ops Q rest a' w) : wpList P ops Q L a w := by
  have hpv := (val_ok h (q := []) (fun _ h => by cases h) (x := p) (by rw [hp]; rfl)).1
  rw [hp] at hpv
  refine man_val hL hg hdst h hd (v := .raw (.slice (some ⟨b, 0, none⟩) n n)) ?_ (.raw _) K
  simp [execOp, hop, hpv, AV.den, Instr.sliceAt, run_underlying hu, Instr.sureAddr, Instr.sliceBounds, sliced, hsz w, Addr.add_lit]
def bytesAV (l : List UInt8) : List AV := l.map fun c => .int .u8 (c.toNat : Int)
theorem bytesAV_den (l : List UInt8) : (bytesAV l).map AV.den = Lib.byteCells l := by simp [bytesAV, Lib.byteCells, AV.den]
/-- copy(p[:], s) -/
theorem man_acopy {t sT e : TypeId} {x y : Operand} {n d key b : Nat} {blk : Blk} {str : ByteArray} {c : Call} (hL : L = o :: rest) (hg : o.guard = none) (hop : o.op = .call c) (hc1 : c.callee = .builtin .copy) (hc2 : c.args = #[x, y]) (hc3 : c.argTypes = #[t, sT]) (hdst : o.dst = some d) (h : Fits C s a w) (hd : d < s.nt)
    (hx : val s [] x = .raw (.slice (some ⟨b, 0, none⟩) n n)) (hy : val s [] y = .str str) (hu : P.underlying t = some (.slice e)) (hi : (P.info? e).map (·.size) = some 1) (hb : lookM s.mem key = some blk) (hat : blk.at_ = b) (hn : blk.cells.length = n) (hle : str.size ≤ n) {cells' : List AV} (hc' : bytesAV str.data.toList ++ blk.cells.drop str.size = cells')
    (K : ∀ a' w', Fits C ((s.eff (.set key ⟨blk.at_, blk.ty, cells'⟩)).put (some d) (.int .i64 str.size)) a' w' → wpList P ops Q rest a' w') : wpList P ops Q L a w := by
  obtain ⟨h1, h2, _⟩ := h.mem _ _ hb
  have hxv := (val_ok h (q := []) (fun _ h => by cases h) (x := x) (by rw [hx]; rfl)).1
  rw [hx] at hxv
  have hyv := (val_ok h (q := []) (fun _ h => by cases h) (x := y) (by rw [hy]; rfl)).1
  rw [hy] at hyv
  have hset := h.set hb (bytesAV str.data.toList ++ blk.cells.drop str.size) (fun v hv => by
    rcases List.mem_append.1 hv with hv | hv
    · obtain ⟨c, _, rfl⟩ := List.mem_map.1 hv
      exact ⟨rfl, .int _ _⟩
    · exact h2 v (List.mem_of_mem_drop hv))
  have hcp := Lib.run_copy_row_string (P := P) w t sT o.type e b 0 n n str _ _ hu hi (hat ▸ h1) hle (by simp; omega)
  have e1 : ((blk.cells.map AV.den).toArray.toList.take 0 ++ Lib.byteCells str.data.toList ++ (blk.cells.map AV.den).toArray.toList.drop (0 + str.size)) = (bytesAV str.data.toList ++ blk.cells.drop str.size).map AV.den := by
    simp [bytesAV_den, List.map_drop]
  rw [e1] at hcp
  refine man_op hL hg ?_
  have hrun : (execOp a.eval o).run P w = .ok (.value (.int .i64 str.size)) (w.setRow blk.at_ ((bytesAV str.data.toList ++ blk.cells.drop str.size).map AV.den).toArray) := by
    rw [← hat] at hcp hxv
    simp [execOp, hop, resolve, invoke, builtin, hc1, hc2, hc3, hxv, hyv, AV.den, hcp, goInt]
  unfold Oper.wp
  rw [hrun]
  simp only [Oper.upon]
  rw [hdst]
  subst hc'
  refine K _ _ (hset.put (some d) (fun t ht => ?_) (.int .i64 str.size) (fun _ => .int _ _) _ fun _ => rfl)
  injection ht with ht
  subst ht
  rw [eff_nt]
  exact hd
end
/-! ### places: twenty bytes -/
def keyC (K : Nat → Int) : List AV := [.int .u8 (K 0), .int .u8 (K 1), .int .u8 (K 2), .int .u8 (K 3), .int .u8 (K 4), .int .u8 (K 5), .int .u8 (K 6), .int .u8 (K 7), .int .u8 (K 8), .int .u8 (K 9), .int .u8 (K 10), .int .u8 (K 11), .int .u8 (K 12), .int .u8 (K 13), .int .u8 (K 14), .int .u8 (K 15), .int .u8 (K 16), .int .u8 (K 17), .int .u8 (K 18), .int .u8 (K 19)]
def kI (l : List UInt8) : Nat → Int := fun i => ((l[i]?.getD 0).toNat : Int)
theorem keyC_eq (K : Nat → Int) : keyC K = (List.range 20).map fun i => .int .u8 (K i) := rfl
theorem keyC_get (K : Nat → Int) {i : Nat} (hi : i < 20) : (keyC K)[i]? = some (.int .u8 (K i)) := by
  rw [keyC_eq, List.getElem?_map, List.getElem?_range hi]; rfl
theorem keyC_getD (K : Nat → Int) {i : Nat} (hi : i < 20) : (keyC K).getD i .undef = .int .u8 (K i) := by
  rw [List.getD_eq_getElem?_getD, keyC_get K hi]; rfl
theorem keyC_set (K : Nat → Int) (i : Nat) (x : Int) : (keyC K).set i (.int .u8 x) = keyC (fun j => if j = i then x else K j) := by
  rw [keyC_eq, keyC_eq]
  apply List.ext_getElem?
  intro j
  rw [List.getElem?_set, List.getElem?_map, List.getElem?_map]
  by_cases hj : j < 20
  · rw [List.getElem?_range hj]
    by_cases h : i = j
    · subst h; simp [hj]
    · rw [if_neg h]; simp [Ne.symm h]
  · have h0 : (List.range 20)[j]? = none := List.getElem?_eq_none (by simp; omega)
    rw [h0]
    by_cases h : i = j
    · subst h; simp; omega
    · rw [if_neg h]; rfl
theorem bytes_key {l : List UInt8} (hl : l.length = 20) : bytesAV l = keyC (kI l) := by
  rw [keyC_eq]
  apply List.ext_getElem?
  intro j
  simp only [bytesAV, List.getElem?_map]
  by_cases hj : j < 20
  · rw [List.getElem?_range hj, List.getElem?_eq_getElem (by omega)]
    simp only [Option.map_some, kI]
    rw [List.getElem?_eq_getElem (by omega)]; rfl
  · have h0 : (List.range 20)[j]? = none := List.getElem?_eq_none (by rw [List.length_range]; omega)
    rw [h0, List.getElem?_eq_none (by omega)]
    rfl
theorem kI_zero : kI (List.replicate 20 0) = fun _ => 0 := by
  funext i
  unfold kI
  rw [List.getElem?_replicate]
  split <;> rfl
/-- what Place gives -/
def plcV (s : ByteArray) : List UInt8 := if 20 ≤ s.size then (unB s).take 20 else List.replicate 20 0
def plcE (s : ByteArray) : Int := if 20 ≤ s.size then 0 else 4
def plcR (s : ByteArray) : ByteArray := if 20 ≤ s.size then mkB ((unB s).drop 20) else s
theorem plcV_len (s : ByteArray) : (plcV s).length = 20 := by
  unfold plcV
  split
  · rw [List.length_take, un_size]; omega
  · simp
end Go.Proofs.Ythpbihppfijegaa.Sym

namespace Go.Proofs.Ythpbihppfijegaa.Sym
open Go.RowKit
set_option linter.unusedVariables false
set_option linter.unusedSimpArgs false

section
variable {C : Cx} {s : St} {a : Act} {w : World}
theorem fresh_of {m : Nat → Nat → Prop} {w0 : World} {pre : List (Nat × Blk)} {ds : List Deferred} (h : Fits ⟨m, w0, ats pre, ds, noK⟩ s a w) {key : Nat} {blk : Blk} (hb : lookM s.mem key = some blk) (hne : ∀ e ∈ pre, e.2.at_ ≠ blk.at_) : ∀ o, ¬ m blk.at_ o := by
  intro o hm
  rcases (h.mem key _ hb).2.2 with h1 | ⟨e, he, h1⟩
  · exact Nat.lt_irrefl _ (Nat.lt_of_lt_of_le (h.m0 _ _ hm) h1)
  · exact hne e he h1
theorem frozen (h : Fits C s a w) {key : Nat} {blk : Blk} (hb : lookM s.mem key = some blk) (kp km : List Nat) (hgr : s.gr = []) (hkm : ∀ k bk, lookM (keepM s.mem km) k = some bk → bk.at_ ≠ blk.at_) (hm0 : ∀ o, ¬ C.m0 blk.at_ o) (n : Nat) :
    Ok ((s.keep kp km).m C) w (.ep (some ⟨blk.at_, 0, none⟩) 0 n 0 blk.cells) := by
  obtain ⟨h1, h2, _⟩ := h.mem _ _ hb
  have hnm : ∀ o, ¬ (s.keep kp km).m C blk.at_ o := by
    intro o hm
    rcases hm with hm | ⟨k, bk, hk, he⟩ | ⟨k, tt, hk, _⟩
    · exact hm0 o hm
    · exact hkm k bk hk he
    · simp only [St.keep, hgr] at hk
      have := keepM_look _ _ hk
      cases this
  have hle : ∀ b o, (s.keep kp km).m C b o → s.m C b o := by
    intro b o hm
    rcases hm with hm | ⟨k, bk, hk, rfl⟩ | ⟨k, tt, hk, h3⟩
    · exact .inl hm
    · exact .inr (.inl ⟨k, bk, keepM_look _ _ hk, rfl⟩)
    · exact .inr (.inr ⟨k, tt, keepM_look _ _ hk, h3⟩)
  refine .ep _ _ _ _ _ ⟨_, _, rfl⟩ (fun j u hj => ⟨blk.at_, 0, rfl, ?_, hnm _⟩) (fun v hv => (h2 v hv).1) (fun v hv => ((h2 v hv).2).mono fun b o u g1 g2 => ⟨g1, fun hm => g2 (hle b o hm)⟩)
  rw [cell_of_row w _ _ _ _ _ h1, List.getElem?_toArray, Nat.zero_mul, Nat.zero_add, Nat.zero_add]
  exact hj
/-- a slot that is told in other words -/
theorem Fits.reslot (h : Fits C s a w) (d : Nat) (v : AV) (hk : (look s.tmps d).known = true) (hd : (look s.tmps d).den = v.den) (hv : Ok (s.m C) w v) : Fits C { s with tmps := (d, v) :: s.tmps } a w := by
  refine ⟨h.size, h.defers, fun t ht => ?_, h.gs, h.mem, h.nodup, h.gr, h.sepm, h.sepg, h.chg, h.m0, h.kept⟩
  simp only [look_cons] at ht ⊢
  by_cases he : d = t
  · subst he
    rw [if_pos rfl] at ht ⊢
    exact ⟨by rw [(h.slot d hk).1, hd], hv⟩
  · rw [if_neg he] at ht ⊢
    exact h.slot t ht
/-- a block's cells that are told in other words -/
theorem Fits.recells (h : Fits C s a w) (k0 : Nat) {blk : Blk} (hb : lookM s.mem k0 = some blk) (cells : List AV) (hd : cells.map AV.den = blk.cells.map AV.den) (hv : ∀ v ∈ cells, v.one = true ∧ Ok (s.m C) w v) : Fits C { s with mem := (k0, ⟨blk.at_, blk.ty, cells⟩) :: delM s.mem k0 } a w := by
  have hlk : ∀ k bk, lookM ((k0, (⟨blk.at_, blk.ty, cells⟩ : Blk)) :: delM s.mem k0) k = some bk → ∃ b', lookM s.mem k = some b' ∧ b'.at_ = bk.at_ ∧ b'.ty = bk.ty ∧ b'.cells.map AV.den = bk.cells.map AV.den ∧ ((k = k0 ∧ bk.cells = cells) ∨ b' = bk) := by
    intro k bk hk
    rcases lookM_eff hk with ⟨rfl, rfl⟩ | ⟨_, hk⟩
    · exact ⟨blk, hb, rfl, rfl, hd.symm, .inl ⟨rfl, rfl⟩⟩
    · exact ⟨bk, hk, rfl, rfl, rfl, .inr rfl⟩
  have hm : ({ s with mem := (k0, ⟨blk.at_, blk.ty, cells⟩) :: delM s.mem k0 } : St).m C = s.m C := by
    funext b o
    apply propext
    constructor
    · rintro (h1 | ⟨k, bk, hk, rfl⟩ | h1)
      · exact .inl h1
      · obtain ⟨b', h2, h3, _⟩ := hlk k bk hk
        exact .inr (.inl ⟨k, b', h2, h3⟩)
      · exact .inr (.inr h1)
    · rintro (h1 | ⟨k, bk, hk, rfl⟩ | h1)
      · exact .inl h1
      · by_cases hkk : k = k0
        · subst hkk
          rw [hb] at hk; injection hk with hk; subst hk
          exact .inr (.inl ⟨k, ⟨blk.at_, blk.ty, cells⟩, by rw [lookM_cons, if_pos rfl], rfl⟩)
        · exact .inr (.inl ⟨k, bk, by rw [lookM_cons, if_neg (Ne.symm hkk), lookM_del, if_neg (Ne.symm hkk)]; exact hk, rfl⟩)
      · exact .inr (.inr h1)
  refine ⟨h.size, h.defers, fun t ht => ⟨(h.slot t ht).1, by rw [hm]; exact (h.slot t ht).2⟩, fun t p v he hk => ⟨fun hp => ⟨((h.gs t p v he hk).1 hp).1, by rw [hm]; exact ((h.gs t p v he hk).1 hp).2⟩, (h.gs t p v he hk).2⟩, fun k bk hk => ?_, fun k k' e e' h1 h2 hne => ?_, h.gr, fun k t k' e ht he => ?_, h.sepg, h.chg, h.m0, by rw [hm]; exact h.kept⟩
  · obtain ⟨b', g1, g2, g3, g4, g5⟩ := hlk k bk hk
    obtain ⟨h1, h2, h3⟩ := h.mem k b' g1
    refine ⟨by rw [← g2, ← g3, ← g4]; exact h1, fun v hvm => ?_, by rw [← g2]; exact h3⟩
    rw [hm]
    rcases g5 with ⟨_, g5⟩ | g5
    · rw [g5] at hvm; exact hv v hvm
    · subst g5; exact h2 v hvm
  · obtain ⟨b1, g1, g2, _⟩ := hlk k e h1
    obtain ⟨b2, g3, g4, _⟩ := hlk k' e' h2
    rw [← g2, ← g4]
    exact h.nodup k k' b1 b2 g1 g3 hne
  · obtain ⟨b', g1, g2, _⟩ := hlk k' e he
    rw [← g2]
    exact h.sepm k t k' b' ht g1
end
end Go.Proofs.Ythpbihppfijegaa.Sym

namespace Go.Proofs.Ythpbihppfijegaa.Sym
open Go Go.RowKit
set_option linter.unusedVariables false
set_option linter.unusedSimpArgs false

theorem lt_heap {w : World} {b : Nat} {o : Obj} (hb : w.heap[b]? = some o) : b < w.heap.size := (Array.getElem?_eq_some_iff.1 hb).1
/-- as Keep, but for the block bo -/
structure KeepB (bo : Option Nat) (w : World) (m : Nat → Nat → Prop) (w' : World) (m' : Nat → Nat → Prop) : Prop where
  cell : ∀ b o u, w.cell? ⟨b, o, none⟩ = some u → ¬ m b o → w'.cell? ⟨b, o, none⟩ = some u ∧ ¬ m' b o
  obj : ∀ (b : Nat) (o : Obj), bo ≠ some b → w.heap[b]? = some o → (∀ c t f, o ≠ Obj.cells c t f) → w'.heap[b]? = some o
theorem KeepB.ok {bo : Option Nat} {w w' : World} {m m' : Nat → Nat → Prop} (h : KeepB bo w m w' m') {v : AV} (hv : Ok m w v) : Ok m' w' v := hv.mono h.cell
theorem KeepB.keep {w w' : World} {m m' : Nat → Nat → Prop} (h : KeepB none w m w' m') : Keep w m w' m' := ⟨h.cell, fun b o h1 h2 => h.obj b o (by simp) h1 h2⟩
theorem turn_keepB {w w' : World} {m : Nat → Nat → Prop} {b : Nat} {o : Obj} (hb : w.heap[b]? = some o) (ho : ∀ c t f, o ≠ Obj.cells c t f) (hg : w.grownBy w' (some b)) : KeepB (some b) w m w' m := by
  refine ⟨fun b' o' u hc hn => ⟨?_, hn⟩, fun b' o' hn h1 _ => (hg.block b' (lt_heap h1) (fun e => hn e.symm)).trans h1⟩
  have hlt := World.block_lt_of_cell? w _ hc
  have : b' ≠ b := by
    rintro rfl
    unfold World.cell? at hc
    simp only [hb] at hc
    cases o with
    | cells c t f => exact ho c t f rfl
    | _ => simp at hc
  unfold World.cell? at hc ⊢
  rw [show w'.heap[b']? = w.heap[b']? from hg.block b' hlt fun e => this (Option.some.inj e)]; exact hc
section
variable {m0 : Nat → Nat → Prop} {w0 : World} {S : Nat → Prop} {ds : List Deferred} {K : Kn} {s : St} {a : Act} {w w' : World}
theorem Fits.withK (h : Fits ⟨m0, w0, S, ds, K⟩ s a w) {K' : Kn} (hK : K'.p (s.m ⟨m0, w0, S, ds, K⟩) w) : Fits ⟨m0, w0, S, ds, K'⟩ s a w :=
  ⟨h.size, h.defers, h.slot, h.gs, h.mem, h.nodup, h.gr, h.sepm, h.sepg, h.chg, h.m0, hK⟩
theorem Fits.wider (h : Fits ⟨m0, w0, S, ds, K⟩ s a w) {S' : Nat → Prop} (hS : ∀ k, S k → S' k) : Fits ⟨m0, w0, S', ds, K⟩ s a w :=
  ⟨h.size, h.defers, h.slot, h.gs, fun k e he => ⟨(h.mem k e he).1, (h.mem k e he).2.1, (h.mem k e he).2.2.imp id (hS _)⟩, h.nodup, h.gr, h.sepm, h.sepg, h.chg.mono hS, h.m0, h.kept⟩
/-- a block that is no row of cells turns -/
theorem Fits.turn (h : Fits ⟨m0, w0, S, ds, K⟩ s a w) {b : Nat} {o : Obj} (hb : w.heap[b]? = some o) (ho : ∀ c t f, o ≠ Obj.cells c t f) (hg : w.grownBy w' (some b)) (hC : b < w0.heap.size → S b) {K' : Kn} (hK : K'.p (s.m ⟨m0, w0, S, ds, K⟩) w') : Fits ⟨m0, w0, S, ds, K'⟩ s a w' := by
  have hh : ∀ k, k < w.heap.size → k ≠ b → w'.heap[k]? = w.heap[k]? := fun k hk hn => hg.block k hk (fun e => hn (Option.some.inj e))
  have hne : ∀ {k : Nat} {c : Array Value} {t : TypeId} {f : Nat × Nat}, w.heap[k]? = some (.cells c t f) → k ≠ b := by
    rintro k c t f hk rfl
    rw [hb] at hk; exact ho _ _ _ (Option.some.inj hk)
  have h' : Fits ⟨m0, w0, S, ds, noK⟩ s a w := h.withK trivial
  have h'' : Fits ⟨m0, w0, S, ds, K'⟩ s a w' := by
    have hcell := (turn_keepB (m := s.m ⟨m0, w0, S, ds, K⟩) hb ho hg).cell
    have mono : ∀ {v : AV}, Ok (s.m ⟨m0, w0, S, ds, K⟩) w v → Ok (s.m ⟨m0, w0, S, ds, K⟩) w' v := fun hv => hv.mono hcell
    refine ⟨h.size, h.defers, fun t hk => ⟨(h.slot t hk).1, mono (h.slot t hk).2⟩, fun t p v hg hk => ⟨fun hp => ⟨((h.gs t p v hg hk).1 hp).1, mono ((h.gs t p v hg hk).1 hp).2⟩, (h.gs t p v hg hk).2⟩, fun k e he => ?_, h.nodup, fun k t hk => ?_, h.sepm, h.sepg, ?_, h.m0, hK⟩
    · obtain ⟨h1, h2, h3⟩ := h.mem k e he
      exact ⟨(hh _ (lt_heap h1) (hne h1)).trans h1, fun v hv => ⟨(h2 v hv).1, mono (h2 v hv).2⟩, h3⟩
    · obtain ⟨h1, xs, h2⟩ := h.gr k t hk
      refine ⟨h1, xs, h2.keep fun g hg => ?_⟩
      obtain ⟨c, t', f, hcl⟩ := h2.isCells hg
      exact hh g (lt_heap hcl) (hne hcl)
    · exact h.chg.trans (Chg.of_grown hg) fun k hk e => by cases e; exact hC hk
  exact h''
end
theorem below_keep {w w' : World} (h : Below w.heap.size w w') (m : Nat → Nat → Prop) : Keep w m w' m :=
  ⟨fun b o u h1 h2 => ⟨(h.cell (World.block_lt_of_cell? w _ h1)).trans h1, h2⟩, fun b o h1 _ => (h.block b (lt_heap h1)).trans h1⟩
/-! ### maps whose elements are held as they are -/
/-- an element reads as itself -/
def hR (v : Value) : Option (DataW Value × List MemPlace) := some (.held v, [])
abbrev MapW (P : Program) (K : TypeId) (w : World) (b n : Nat) (D : DataW Value) : Prop := w.ownsMap P K hR b n D
theorem mapW_heap {P : Program} {K : TypeId} {w w' : World} {b n : Nat} {D : DataW Value} (h : MapW P K w b n D) (e : w'.heap[b]? = w.heap[b]?) : MapW P K w' b n D := by
  obtain ⟨es, cl, hb, F, hs, hD⟩ := h
  exact ⟨es, cl, e.trans hb, F, hs, hD⟩
theorem mapW_obj {P : Program} {K : TypeId} {w : World} {b n : Nat} {D : DataW Value} (h : MapW P K w b n D) : ∃ o, w.heap[b]? = some o ∧ ∀ c t f, o ≠ Obj.cells c t f := by
  obtain ⟨es, cl, hb, _⟩ := h
  exact ⟨_, hb, fun c t f e => by cases e⟩
theorem mapW_keepB {P : Program} {K : TypeId} {w w' : World} {m m' : Nat → Nat → Prop} {b n : Nat} {bo : Option Nat} {D : DataW Value} (hk : KeepB bo w m w' m') (hne : bo ≠ some b) (h : MapW P K w b n D) : MapW P K w' b n D := by
  obtain ⟨o, hb, ho⟩ := mapW_obj h
  exact mapW_heap h ((hk.obj b o hne hb ho).trans hb.symm)
theorem mapW_keep {P : Program} {K : TypeId} {w w' : World} {m m' : Nat → Nat → Prop} {b n : Nat} {D : DataW Value} (hk : Keep w m w' m') (h : MapW P K w b n D) : MapW P K w' b n D :=
  mapW_keepB (bo := none) ⟨hk.cell, fun b o _ h1 h2 => hk.obj b o h1 h2⟩ (by simp) h
theorem ranges_keep {P : Program} {k : TypeId} {w w' : World} {m m' : Nat → Nat → Prop} {b r n : Nat} {D : DataW Value} {left : Lit → Bool} {cnt : Nat} (hk : Keep w m w' m') (h : w.ranges P k hR b r n D left cnt) : w'.ranges P k hR b r n D left cnt := by
  obtain ⟨es, clock, since, seen, c0, hb, F, hs, hD, hr, rest⟩ := h
  exact ⟨es, clock, since, seen, c0, hk.obj b _ hb (fun c t f e => by cases e), F, hs, hD, hk.obj r _ hr (fun c t f e => by cases e), rest⟩
/-- the round's entry, read behind the step -/
structure EntryAt (P : Program) (w : World) (r : Nat) (key v : Value) : Prop where
  it : ∃ b s seen c es cl, w.heap[r]? = some (.mapIter (some b) s seen c) ∧ w.heap[b]? = some (.map es cl)
  run : (Instr.entry (.pointer (some ⟨r, 0, none⟩))).run P w = .ok (.tuple #[key, v]) w
theorem entry_keep {P : Program} {w w' : World} {m m' : Nat → Nat → Prop} {r : Nat} {key v : Value} (hk : Keep w m w' m') (h : EntryAt P w r key v) : EntryAt P w' r key v := by
  obtain ⟨⟨b, s, seen, c, es, cl, hr, hb⟩, hrun⟩ := h
  have hr' := hk.obj r _ hr (fun c t f e => by cases e)
  have hb' := hk.obj b _ hb (fun c t f e => by cases e)
  refine ⟨⟨b, s, seen, c, es, cl, hr', hb'⟩, ?_⟩
  simp only [Instr.entry, getObj, Sem.run_bind, Sem.run, hr, Result.andThen] at hrun
  simp only [Instr.entry, getObj, Sem.run_bind, Sem.run, hr', Result.andThen]
  revert hrun
  cases seen.back? with
  | none => intro hrun; simp_all
  | some x =>
    simp only [getObj, Sem.run_bind, Sem.run, hb, hb', Result.andThen]
    by_cases hc : (cl != c) = true
    · simp only [if_pos hc]
      intro hrun
      simp_all
    · simp only [if_neg hc]
      cases Array.find? (fun x_1 => x_1.born == x) es with
      | none => intro hrun; simp_all
      | some e =>
        intro hrun
        simp_all
/-! ### contracts of functions that lend a map -/
structure LeftS (bo : Option Nat) (m : Nat → Nat → Prop) (w w' : World) (pre : List (Nat × Blk)) (sets : List (Nat × List AV)) (news : List (Nat × Blk)) : Prop where
  keys : sets.map (·.1) = pre.map (·.1)
  heap : ∀ e ∈ upd pre sets ++ news, w'.heap[e.2.at_]? = some (.cells (e.2.cells.map AV.den).toArray e.2.ty (0, 0))
  ok : ∀ e ∈ upd pre sets ++ news, ∀ v ∈ e.2.cells, v.one = true ∧ Ok (mN m news) w' v
  fresh : ∀ e ∈ news, w.heap.size ≤ e.2.at_
  dist : news.Pairwise fun e f => e.2.at_ ≠ f.2.at_
  chg : Chg (fun k => ats pre k ∨ bo = some k) w w'
/-- I: what is known of the map ahead; J: behind -/
def SpecM (P : Program) (f : FuncId) (args : List AV) (pre : List (Nat × Blk)) (bo : Option Nat) (I : Kn) (res : Atom → CR) (J : Nat → Atom → Kn) : Prop :=
  ∀ (m : Nat → Nat → Prop) (w : World), (∀ b o, m b o → b < w.heap.size) → (∀ v ∈ args, Ok m w v) → PreOk m w pre → I.p m w →
    Calls P f (args.map AV.den).toArray w fun e w' => ∃ x, e = .returned (res x).v.den ∧ Ok (mN m (res x).news) w' (res x).v ∧ LeftS bo m w w' pre (res x).sets (res x).news ∧ (∀ b, bo = some b → ∃ es cl es' cl', w.heap[b]? = some (.map es cl) ∧ w'.heap[b]? = some (.map es' cl')) ∧ (J w.heap.size x).p (mN m (res x).news) w'
open Go.MapKept Go.ChangeMaps in
theorem LeftS.mid {b : Nat} {m : Nat → Nat → Prop} {w w' : World} {pre : List (Nat × Blk)} {sets : List (Nat × List AV)} {news : List (Nat × Blk)} (h : LeftS (some b) m w w' pre sets news) {es es' : Array MapEntry} {cl cl' : Nat} (hb : w.heap[b]? = some (.map es cl)) (hb' : w'.heap[b]? = some (.map es' cl')) :
    ∃ w1, w.mapTurned w1 b ∧ Left m w1 w' pre sets news := by
  refine ⟨setBlock w b (.map es' cl'), ⟨es, cl, es', cl', hb, rfl⟩, h.keys, h.heap, h.ok, fun e he => ?_, h.dist, ?_⟩
  · have := h.fresh e he
    simpa [setBlock] using this
  · refine ⟨h.chg.os, h.chg.tape, h.chg.output, by have := h.chg.size; simpa [setBlock] using this, fun k hk hn => ?_⟩
    by_cases hkb : k = b
    · subst hkb; rw [hb', heap_setBlock_same hb]
    · rw [heap_setBlock_other hb _ hkb]
      refine h.chg.block k (by simpa [setBlock] using hk) ?_
      rintro (h1 | h1)
      · exact hn h1
      · injection h1 with h1; exact hkb h1.symm
theorem LeftS.plain {m : Nat → Nat → Prop} {w w' : World} {pre : List (Nat × Blk)} {sets : List (Nat × List AV)} {news : List (Nat × Blk)} (h : LeftS none m w w' pre sets news) : Left m w w' pre sets news :=
  ⟨h.keys, h.heap, h.ok, h.fresh, h.dist, h.chg.mono fun k hk => hk.resolve_right (by simp)⟩
theorem LeftS.keepB {bo : Option Nat} {m : Nat → Nat → Prop} {w w' : World} {pre : List (Nat × Blk)} {sets : List (Nat × List AV)} {news : List (Nat × Blk)} (h : LeftS bo m w w' pre sets news) (hp : PreOk m w pre) (hmap : ∀ b, bo = some b → ∃ es cl, w.heap[b]? = some (.map es cl)) : KeepB bo w m w' (mN m news) := by
  refine ⟨fun b o u hc hn => ?_, fun b o hn h1 h2 => ?_⟩
  · have hlt := World.block_lt_of_cell? w _ hc
    refine ⟨?_, fun hm => ?_⟩
    · have : w'.heap[b]? = w.heap[b]? := h.chg.block b hlt (by
        rintro (⟨e, he, rfl⟩ | h1)
        · exact hn (hp.free e he o)
        · obtain ⟨es, cl, h2⟩ := hmap b h1
          unfold World.cell? at hc
          simp [h2] at hc)
      unfold World.cell? at hc ⊢
      rw [this]; exact hc
    · rcases hm with hm | ⟨e, he, rfl⟩
      · exact hn hm
      · exact absurd (h.fresh e he) (Nat.not_le.2 hlt)
  · rw [h.chg.block b (lt_heap h1) ?_]
    · exact h1
    · rintro (⟨e, he, rfl⟩ | h3)
      · rw [hp.heap e he] at h1
        exact h2 _ _ _ (Option.some.inj h1).symm
      · exact hn h3
theorem called_keep {C : Cx} {s : St} {w' : World} {pre : List (Nat × Blk)} (hp : ∀ e ∈ pre, lookM s.mem e.1 = some e.2) {sets : List (Nat × List AV)} {news : List (Nat × Blk)} (d : Option Nat) (v : AV) : Keep w' (mN (s.m C) news) w' (((s.eff (.sets (upd pre sets ++ news))).put d v).m C) := by
  refine ⟨fun b o u h1 hn => ⟨h1, fun hm => ?_⟩, fun _ _ h _ => h⟩
  have hm' : (s.eff (.sets (upd pre sets ++ news))).m C b o := by cases d <;> exact hm
  rcases hm' with hm | ⟨k, e, he, hm⟩ | hm
  · exact hn (.inl (.inl hm))
  · have he' : lookM (setsM (upd pre sets ++ news) s.mem) k = some e := he
    rw [lookM_setsM] at he'
    cases hk : lookM (upd pre sets ++ news) k with
    | some e' =>
      rw [hk] at he'
      simp only [Option.some_or, Option.some.injEq] at he'
      subst he'
      rcases List.mem_append.1 (lookM_mem hk) with he | he
      · obtain ⟨e1, g1, g2, g3, _⟩ := upd_mem he
        simp only at g3
        exact hn (.inl (.inr (.inl ⟨e1.1, e1.2, hp e1 g1, g3.trans hm⟩)))
      · exact hn (.inr ⟨_, he, hm⟩)
    | none =>
      rw [hk] at he'
      exact hn (.inl (.inr (.inl ⟨k, e, by simpa using he', hm⟩)))
  · exact hn (.inl (.inr (.inr hm)))
section
variable {m0 : Nat → Nat → Prop} {w0 : World} {S : Nat → Prop} {ds : List Deferred} {K : Kn} {P : Program} {Q : Exit → Act → World → Prop} {T : List (Nat × TI)} {ops : Array Oper}
/-- a call by hand of such a function -/
theorem man_callM {s : St} {a : Act} {w : World} {L rest : List Oper} {o : Oper} {c : Call} {g : Operand} {f : FuncId} {l r args args' : List AV} (hL : L = o :: rest) (hg : o.guard = none) (hop : o.op = .call c) (hcal : c.callee = .value g) (h : Fits ⟨m0, w0, S, ds, K⟩ s a w) (hgv : val s [] g = .fn f l r) (hl : vals s [] c.args.toList = some args) (hen : Enters P f)
    {pre : List (Nat × Blk)} {bo : Option Nat} {I : Kn} {res : Atom → CR} {J : Nat → Atom → Kn} (hsp : SpecM P f args' pre bo I res J) (hI : ∀ m w, K.p m w → I.p m w) (hC : ∀ b, bo = some b → b < w0.heap.size → S b) (hsim : SimL (l ++ args ++ r) args') (hpre : ∀ e ∈ pre, lookM s.mem e.1 = some e.2) (hnd : nodupB pre = true) (hd : inNt s o.dst = true)
    (K' : Atom → Kn) (hK' : ∀ n x m w m' w', w0.heap.size ≤ n → K.p m w → KeepB bo w m w' m' → (J n x).p m' w' → (K' x).p m' w')
    (Kc : ∀ x a' w', Fits ⟨m0, w0, S, ds, K' x⟩ ((s.eff (.sets (upd pre (res x).sets ++ (res x).news))).put o.dst (res x).v) a' w' → wpList P ops Q rest a' w') : wpList P ops Q L a w := by
  refine man_op hL hg ?_
  obtain ⟨hrun, hok⟩ := call_run hop hcal h hgv hl hen
  have hdist := nodup_dist h hnd hpre
  unfold Oper.wp
  rw [hrun]
  simp only [Oper.upon]
  have hpo : PreOk (s.m ⟨m0, w0, S, ds, K⟩) w pre := ⟨fun e he => (h.mem _ _ (hpre e he)).1, fun e he => (h.mem _ _ (hpre e he)).2.1, fun e he o => .inr (.inl ⟨e.1, e.2, hpre e he, rfl⟩), hdist⟩
  have := hsp (s.m ⟨m0, w0, S, ds, K⟩) w (m_lt h) (hsim.ok hok) hpo (hI _ _ h.kept)
  rw [← hsim.map] at this
  refine this.mono ?_
  rintro e w' ⟨x, rfl, g1, g2, g3, g4⟩
  have hkb := g2.keepB hpo (fun b hb => by obtain ⟨es, cl, _, _, h1, _⟩ := g3 b hb; exact ⟨es, cl, h1⟩)
  have hkn := (K' x).st (called_keep (C := ⟨m0, w0, S, ds, K⟩) (w' := w') hpre (sets := (res x).sets) (news := (res x).news) o.dst (res x).v) (hK' _ x _ _ _ _ h.chg.size h.kept hkb g4)
  have h' : Fits ⟨m0, w0, S, ds, noK⟩ s a w := h.withK trivial
  have fin : ∀ w1, Fits ⟨m0, w0, S, ds, noK⟩ s a w1 → Left (s.m ⟨m0, w0, S, ds, noK⟩) w1 w' pre (res x).sets (res x).news → wpList P ops Q rest (a.put o.dst (res x).v.den) w' := by
    intro w1 hf hl'
    obtain ⟨f1, f2⟩ := hf.called hdist hpre hl'
    refine Kc x _ w' (Fits.withK (K := noK) (f1.put o.dst (fun t ht => by rw [eff_nt]; exact inNt_lt hd t ht) (res x).v (fun _ => f2 _ g1) _ fun _ => rfl) hkn)
  cases bo with
  | none => exact fin w h' g2.plain
  | some b =>
    obtain ⟨es, cl, es', cl', h1, h2⟩ := g3 b rfl
    obtain ⟨w1, ht, hl'⟩ := g2.mid h1 h2
    have hgr := ht.grown
    exact fin w1 (h'.turn h1 (fun c t f e => by cases e) hgr (hC b rfl) trivial) hl'
theorem left_okS {bo : Option Nat} {m : Nat → Nat → Prop} {w0 w : World} {pre : List (Nat × Blk)} {d : List Deferred} {s : St} {a : Act} (h : Fits ⟨m, w0, fun k => ats pre k ∨ bo = some k, d, K⟩ s a w) (hmap : ∀ b, bo = some b → ∃ es cl, w.heap[b]? = some (.map es cl)) {sets : List (Nat × List AV)} {news : List (Nat × Blk)} {ks : List Nat} (hs : SetsOk s pre sets) (hn : NewsOk s pre ks news) :
    LeftS bo m w0 w pre sets news ∧ Keep w (s.m ⟨m, w0, fun k => ats pre k ∨ bo = some k, d, K⟩) w (mN m news) := by
  have kp : Keep w (s.m ⟨m, w0, fun k => ats pre k ∨ bo = some k, d, K⟩) w (mN m news) := ⟨fun b' o u h1 h2 => ⟨h1, fun hm => by
    rcases hm with hm | ⟨e, he, hat⟩
    · exact h2 (.inl hm)
    · obtain ⟨k, cells, _, hk, _⟩ := hn.mem e he
      exact h2 (.inr (.inl ⟨k, _, hk, hat⟩))⟩, fun _ _ h _ => h⟩
  have key : ∀ e ∈ upd pre sets ++ news, ∃ k cells, lookM s.mem k = some ⟨e.2.at_, e.2.ty, cells⟩ ∧ SimL cells e.2.cells := by
    intro e he
    rcases List.mem_append.1 he with he | he
    · obtain ⟨cells, h1, h2⟩ := hs.mem e he; exact ⟨_, cells, h1, h2⟩
    · obtain ⟨k, cells, _, h1, h2, _⟩ := hn.mem e he; exact ⟨k, cells, h1, h2⟩
  refine ⟨⟨hs.keys, fun e he => ?_, fun e he v hv => ?_, fun e he => ?_, ?_, h.chg⟩, kp⟩
  · obtain ⟨k, cells, h1, h2⟩ := key e he
    have := (h.mem _ _ h1).1
    simp only at this
    rw [h2.map] at this
    exact this
  · obtain ⟨k, cells, h1, h2⟩ := key e he
    have h3 := (h.mem _ _ h1).2.1
    exact ⟨h2.one (fun v hv => (h3 v hv).1) v hv, h2.ok (fun v hv => kp.ok (h3 v hv).2) v hv⟩
  · obtain ⟨k, cells, _, h1, _, h2⟩ := hn.mem e he
    rcases (h.mem _ _ h1).2.2 with h3 | ⟨e', he', hat⟩ | h3
    · exact h3
    · obtain ⟨cells', h4⟩ := hs.all e' he'
      have := h.nodup _ _ _ _ h4 h1 (h2 e' he')
      exact absurd hat this
    · obtain ⟨es, cl, h4⟩ := hmap _ h3
      have h5 := (h.mem _ _ h1).1
      simp only at h5
      rw [h4] at h5; cases h5
  · exact hn.dist h
/-- the end of such a function's walk -/
theorem ret_m (hT : TabOK P T) {bo : Option Nat} {m : Nat → Nat → Prop} {w0 : World} {pre : List (Nat × Blk)} {s : St} {a : Act} {w : World} (h : Fits ⟨m, w0, fun k => ats pre k ∨ bo = some k, [], K⟩ s a w) {fn : Func} {res : Atom → CR} {J : Atom → Kn} {rs : List ResultVar} (hfn : fn.results = rs.toArray) {r : List AV × List Ob} (hr : resL T s rs = some r) (ho : AllOb P K r.2)
    (x : Atom) (ks : List Nat) (hmap : ∀ b, bo = some b → (∃ es cl, w0.heap[b]? = some (.map es cl)) ∧ ∀ m, K.p m w → ∃ es cl, w.heap[b]? = some (.map es cl)) (he : Sim (can (resA r.1)) (can (res x).v)) (hs : SetsOk s pre (res x).sets) (hn : NewsOk s pre ks (res x).news) (hJ : ∀ m w, K.p m w → (J x).p m w) :
    let R := fun e w' => ∃ x, e = Ending.returned (res x).v.den ∧ Ok (mN m (res x).news) w' (res x).v ∧ LeftS bo m w0 w' pre (res x).sets (res x).news ∧ (∀ b, bo = some b → ∃ es cl es' cl', w0.heap[b]? = some (.map es cl) ∧ w'.heap[b]? = some (.map es' cl')) ∧ (J x).p (mN m (res x).news) w'
    bodyPost P fn R .ret a w ∧ bodyPost P fn R .normal a w := by
  intro R
  obtain ⟨h1, h2⟩ := left_okS h (fun b hb => (hmap b hb).2 _ h.kept) hs hn
  refine ret_ok hT h rfl hfn hr ho fun hv => ⟨x, ?_, (can_ok _).2 (he.2.2 _ _ ((can_ok _).1 (h2.ok hv))), h1, fun b hb => ?_, hJ _ _ (K.st h2 h.kept)⟩
  · rw [← can_den (resA r.1), he.1, can_den]
  · obtain ⟨⟨es, cl, h3⟩, h4⟩ := hmap b hb
    obtain ⟨es', cl', h4⟩ := h4 _ h.kept
    exact ⟨_, _, _, _, h3, h4⟩
theorem enterM {bo : Option Nat} {I : Kn} {m : Nat → Nat → Prop} {w : World} {pre : List (Nat × Blk)} (hm : ∀ b o, m b o → b < w.heap.size) (hp : PreOk m w pre) (hI : I.p m w) {args : List AV} (hargs : ∀ v ∈ args, Ok m w v) {f : FuncId} {fn : Func} {c : Code} {R : Ending → World → Prop} (hf : P.funcs[f]? = some fn) (hbd : fn.body = some c) (hn : args.length ≤ fn.ntmps)
    (h : ∀ a, Fits ⟨m, w, fun k => ats pre k ∨ bo = some k, [], I⟩ ⟨fn.ntmps, startT 0 args, [], pre, []⟩ a w → c.wp P (bodyPost P fn R) a w) : Calls P f (args.map AV.den).toArray w R :=
  enterX hm hp hargs hf hbd hn fun a hF => h a ((hF.wider fun k hk => .inl hk).withK (I.st ⟨fun b o u h1 h2 => ⟨h1, fun hm' => by
    rcases hm' with h3 | ⟨k, e, he, hat⟩ | ⟨k, e, he, _⟩
    · exact h2 h3
    · exact h2 (hat ▸ hp.free _ (lookM_mem he) o)
    · cases he⟩, fun _ _ h _ => h⟩ hI))
/-- a reader's walk -/
theorem enterR {I : Kn} {m : Nat → Nat → Prop} {w : World} {pre : List (Nat × Blk)} (hm : ∀ b o, m b o → b < w.heap.size) (hp : PreOk m w pre) (hI : I.p m w) {args : List AV} (hargs : ∀ v ∈ args, Ok m w v) {f : FuncId} {fn : Func} {c : Code} {R : Ending → World → Prop} (hf : P.funcs[f]? = some fn) (hbd : fn.body = some c) (hn : args.length ≤ fn.ntmps)
    (h : ∀ a, Fits ⟨m, w, ats pre, [], I⟩ ⟨fn.ntmps, startT 0 args, [], pre, []⟩ a w → c.wp P (bodyPost P fn R) a w) : Calls P f (args.map AV.den).toArray w R :=
  enterX hm hp hargs hf hbd hn fun a hF => h a (hF.withK (I.st ⟨fun b o u h1 h2 => ⟨h1, fun hm' => by
    rcases hm' with h3 | ⟨k, e, he, hat⟩ | ⟨k, e, he, _⟩
    · exact h2 h3
    · exact h2 (hat ▸ hp.free _ (lookM_mem he) o)
    · cases he⟩, fun _ _ h _ => h⟩ hI))
theorem upd_self : ∀ pre : List (Nat × Blk), upd pre (pre.map fun e => (e.1, e.2.cells)) = pre
  | [] => rfl
  | (k, b) :: l => by simp only [List.map_cons, upd, upd_self l]
/-- a reader is one that sets its blocks to what they were -/
theorem SpecR.of {f : FuncId} {args : List AV} {pre : List (Nat × Blk)} {res : Atom → AV} {I : Kn} (h : ∀ (m : Nat → Nat → Prop) (w : World), (∀ b o, m b o → b < w.heap.size) → (∀ v ∈ args, Ok m w v) → PreOk m w pre → I.p m w → Calls P f (args.map AV.den).toArray w (XPost m w pre fun x => ⟨res x, pre.map fun e => (e.1, e.2.cells), []⟩)) : SpecR P I f args pre res := by
  intro m w hm ha hp hI
  refine (h m w hm ha hp hI).mono ?_
  rintro e w' ⟨x, rfl, hok, hl⟩
  refine ⟨x, rfl, hok.mono fun b o u h1 h2 => ⟨h1, fun h => h2 (.inl h)⟩, ?_⟩
  refine ⟨hl.chg.os, hl.chg.tape, hl.chg.output, hl.chg.size, fun k hk => ?_⟩
  by_cases hat : ats pre k
  · obtain ⟨e, he, rfl⟩ := hat
    rw [hp.heap e he]
    exact hl.heap e (List.mem_append_left _ (by rw [upd_self]; exact he))
  · exact hl.chg.block k hk hat
/-! ### operations on maps by hand -/
variable {C : Cx} {s : St} {a : Act} {w : World} {L rest : List Oper} {o : Oper}
open Go.Maps in
theorem lookup_run {m x : Operand} {t k e : TypeId} {b n : Nat} {D : DataW Value} {vx : AV} {kl : Lit} {z : Value} (hop : o.op = .lookup t m x true) (h : Fits C s a w) (hm : val s [] m = .raw (.map (some b))) (hx : val s [] x = vx) (hxk : vx.known = true)
    (K : Keyed P k) (ht : P.underlying t = some (.map k e)) (hz : (zeroValue e).run P w = .ok z w) (hM : MapW P k w b n D) (hkey : Go.keyOf P k vx.den = some kl) {v : AV} (hv : D.atKey kl (.held z) = .held v.den) :
    (execOp a.eval o).run P w = .ok (.value (.tuple #[v.den, .bool (Maps.has D kl)])) w := by
  have hmv := (val_ok h (q := []) (fun _ h => by cases h) (x := m) (by rw [hm]; rfl)).1
  have hxv := (val_ok h (q := []) (fun _ h => by cases h) (x := x) (by rw [hx]; exact hxk)).1
  rw [hm] at hmv
  rw [hx] at hxv
  obtain ⟨v', ps, hrun, hv'⟩ := hM.look_ok K ht hz (zd := .held z) (zp := []) rfl hkey
  have e1 : v' = v.den := by
    unfold hR at hv'
    injection hv' with h1
    injection h1 with h1 _
    rw [hv] at h1
    injection h1
  subst e1
  simp [execOp, hop, hmv, hxv, hrun, Result.andThen, AV.den]
open Go.Maps in
theorem man_lookup {m x : Operand} {t k e : TypeId} {d b n : Nat} {D : DataW Value} {vx : AV} {kl : Lit} {z : Value} (hL : L = o :: rest) (hg : o.guard = none) (hop : o.op = .lookup t m x true) (hdst : o.dst = some d) (h : Fits C s a w) (hd : d < s.nt) (hm : val s [] m = .raw (.map (some b))) (hx : val s [] x = vx) (hxk : vx.known = true)
    (K : Keyed P k) (ht : P.underlying t = some (.map k e)) (hz : (zeroValue e).run P w = .ok z w) (hM : MapW P k w b n D) (hkey : Go.keyOf P k vx.den = some kl) {v : AV} (hv : D.atKey kl (.held z) = .held v.den) (hok : Ok (s.m C) w v)
    (K' : ∀ a', Fits C (s.put (some d) (.tup [v, .bool (.v (Maps.has D kl))])) a' w → wpList P ops Q rest a' w) : wpList P ops Q L a w := by
  refine man_val hL hg hdst h hd (v := .tup [v, .bool (.v (Maps.has D kl))]) ?_ (.tup _ fun u hu => ?_) K'
  · rw [lookup_run hop h hm hx hxk K ht hz hM hkey hv]; simp [AV.den, AV.denL, BE.den]
  · simp only [List.mem_cons, List.not_mem_nil, or_false] at hu
    rcases hu with rfl | rfl
    · exact hok
    · exact .bool _
theorem man_mlen {m : Operand} {t k e : TypeId} {d b n : Nat} {D : DataW Value} {c : Call} (hL : L = o :: rest) (hg : o.guard = none) (hop : o.op = .call c) (hc1 : c.callee = .builtin .len) (hc2 : c.args = #[m]) (hc3 : c.argTypes = #[t]) (hdst : o.dst = some d) (h : Fits C s a w) (hd : d < s.nt) (hm : val s [] m = .raw (.map (some b)))
    (ht : P.underlying t = some (.map k e)) (hM : MapW P k w b n D) (K' : ∀ a', Fits C (s.put (some d) (.int .i64 (Maps.size D : Int))) a' w → wpList P ops Q rest a' w) : wpList P ops Q L a w := by
  have hmv := (val_ok h (q := []) (fun _ h => by cases h) (x := m) (by rw [hm]; rfl)).1
  rw [hm] at hmv
  have hrun := hM.len ht o.type
  refine man_val hL hg hdst h hd (v := .int .i64 (Maps.size D : Int)) ?_ (.int _ _) K'
  simp [execOp, hop, hc1, hc2, hc3, resolve, invoke, builtin, hmv, hrun, Result.andThen, AV.den]
open Go.Maps in
theorem man_mapUpdate {m x y : Operand} {t k e : TypeId} {b n : Nat} {D : DataW Value} {vx vy : AV} {kl : Lit} (hL : L = o :: rest) (hg : o.guard = none) (hop : o.op = .mapUpdate t m x y) (hdst : o.dst = none) (h : Fits ⟨m0, w0, S, ds, K⟩ s a w) (hm : val s [] m = .raw (.map (some b))) (hx : val s [] x = vx) (hxk : vx.known = true) (hy : val s [] y = vy) (hyk : vy.known = true)
    (Kd : Keyed P k) (ht : P.underlying t = some (.map k e)) (hM : MapW P k w b n D) (hn : n < maxLen) (hkey : Go.keyOf P k vx.den = some kl) (hC : b < w0.heap.size → S b)
    (K1 : Kn) (hK1 : ∀ m w', K.p m w → KeepB (some b) w m w' m → Ok m w vy → MapW P k w' b (n + 1) (D.put kl (.held vy.den)) → K1.p m w')
    (K' : ∀ w', Fits ⟨m0, w0, S, ds, K1⟩ s a w' → wpList P ops Q rest a w') : wpList P ops Q L a w := by
  have hmv := (val_ok h (q := []) (fun _ h => by cases h) (x := m) (by rw [hm]; rfl)).1
  have hxv := (val_ok h (q := []) (fun _ h => by cases h) (x := x) (by rw [hx]; exact hxk)).1
  have hyv := val_ok h (q := []) (fun _ h => by cases h) (x := y) (by rw [hy]; exact hyk)
  rw [hm] at hmv
  rw [hx] at hxv
  rw [hy] at hyv
  obtain ⟨w', hrun, h1, h2⟩ := hM.store Kd ht hn hkey (show hR vy.den = some (.held vy.den, []) from rfl)
  obtain ⟨ob, hb, hno⟩ := mapW_obj hM
  refine man_op hL hg ?_
  refine wp_skip' (w' := w') ?_ ?_
  · simp [execOp, hop, hmv, hxv, hyv.1, hrun, Result.andThen, AV.den]
  · rw [hdst]
    exact K' w' (h.turn hb hno h2.grown hC (hK1 _ _ h.kept (turn_keepB hb hno h2.grown) hyv.2 h1))
open Go.MapKept in
theorem man_makeMap {t k e : TypeId} {d : Nat} (hL : L = o :: rest) (hg : o.guard = none) (hop : o.op = .makeMap t none) (hdst : o.dst = some d) (h : Fits ⟨m0, w0, S, ds, K⟩ s a w) (hd : d < s.nt)
    (K1 : Kn) (hK1 : ∀ m w', K.p m w → Keep w m w' m → MapW P k w' w.heap.size 0 (.map []) → K1.p m w')
    (K' : ∀ a' w', w0.heap.size ≤ w.heap.size → Fits ⟨m0, w0, S, ds, K1⟩ (s.put (some d) (.raw (.map (some w.heap.size)))) a' w' → wpList P ops Q rest a' w') : wpList P ops Q L a w := by
  refine man_op hL hg ?_
  unfold Oper.wp
  have e1 : (execOp a.eval o).run P w = .ok (.value (.map (some w.heap.size))) (w.alloc (.map #[] 0)) := by
    simp [execOp, hop, run_makeMap, Result.andThen]
  rw [e1]
  simp only [Oper.upon]
  rw [hdst]
  have hb : Below w.heap.size w (w.alloc (.map #[] 0)) := (Below.refl _ _).alloc (Nat.le_refl _) _
  refine K' _ _ h.chg.size ?_
  have h2 := ((h.below hb).withK (K' := K1) (hK1 _ _ h.kept (below_keep hb _) (World.ownsMap_made _ _ _ _)))
  exact h2.put (some d) (fun t ht => by injection ht with ht; subst ht; exact hd) (.raw (.map (some w.heap.size))) (fun _ => .raw _) _ fun _ => rfl
open Go.Maps in
theorem man_range {m : Operand} {t k e : TypeId} {d b n : Nat} {D : DataW Value} (hL : L = o :: rest) (hg : o.guard = none) (hop : o.op = .range t m) (hdst : o.dst = some d) (h : Fits ⟨m0, w0, S, ds, K⟩ s a w) (hd : d < s.nt) (hm : val s [] m = .raw (.map (some b)))
    (Kd : Keyed P k) (ht : P.underlying t = some (.map k e)) (hM : MapW P k w b n D)
    (K1 : Kn) (hK1 : ∀ m w', K.p m w → Keep w m w' m → w'.ranges P k hR b w.heap.size n D (Maps.has D) (Maps.size D) → K1.p m w')
    (K' : ∀ a' w', w0.heap.size ≤ w.heap.size → Fits ⟨m0, w0, S, ds, K1⟩ (s.put (some d) (.raw (.pointer (some ⟨w.heap.size, 0, none⟩)))) a' w' → wpList P ops Q rest a' w') : wpList P ops Q L a w := by
  have hmv := (val_ok h (q := []) (fun _ h => by cases h) (x := m) (by rw [hm]; rfl)).1
  rw [hm] at hmv
  obtain ⟨w', hrun, r1, r2, r3⟩ := hM.range Kd ht
  refine man_op hL hg ?_
  unfold Oper.wp
  have e1 : (execOp a.eval o).run P w = .ok (.value (.pointer (some ⟨w.heap.size, 0, none⟩))) w' := by
    simp [execOp, hop, hmv, hrun, Result.andThen, AV.den]
  rw [e1]
  simp only [Oper.upon]
  rw [hdst]
  have hb : Below w.heap.size w w' := ⟨r2.os, r2.tape, r2.output, r2.size, fun k hk => r2.block k hk (by simp)⟩
  refine K' _ _ h.chg.size ?_
  have h2 := ((h.below hb).withK (K' := K1) (hK1 _ _ h.kept (below_keep hb _) r1))
  exact h2.put (some d) (fun t ht => by injection ht with ht; subst ht; exact hd) (.raw (.pointer (some ⟨w.heap.size, 0, none⟩))) (fun _ => .raw _) _ fun _ => rfl
open Go.Maps in
/-- a range's step: nothing is left, or an entry has come -/
theorem man_next {it : Operand} {k : TypeId} {d b r n cnt : Nat} {D : DataW Value} {left : Lit → Bool} (hL : L = o :: rest) (hg : o.guard = none) (hop : o.op = .next it false) (hdst : o.dst = some d) (h : Fits ⟨m0, w0, S, ds, K⟩ s a w) (hd : d < s.nt) (hit : val s [] it = .raw (.pointer (some ⟨r, 0, none⟩)))
    (Kd : Keyed P k) (hM : w.ranges P k hR b r n D left cnt) (hC : r < w0.heap.size → S r)
    (K1 : Value → Value → Lit → Nat → Kn) (hK1 : ∀ key v kl cnt' m w', K.p m w → KeepB (some r) w m w' m → Go.keyOf P k key = some kl → left kl = true → (∀ zd, D.atKey kl zd = .held v) → w'.ranges P k hR b r n D (fun x => left x && !x.sameKey kl) cnt' → EntryAt P w' r key v → cnt' < cnt → (K1 key v kl cnt').p m w')
    (Kd0 : ∀ a', (∀ kl, left kl = false) → Fits ⟨m0, w0, S, ds, K⟩ (s.put (some d) (.tup [.bool .ff])) a' w → wpList P ops Q rest a' w)
    (Km : ∀ a' w' key v kl cnt', Go.keyOf P k key = some kl → left kl = true → (∀ zd, D.atKey kl zd = .held v) → cnt' < cnt → Fits ⟨m0, w0, S, ds, K1 key v kl cnt'⟩ (s.put (some d) (.tup [.bool .tt, .raw key, .raw v])) a' w' → wpList P ops Q rest a' w') : wpList P ops Q L a w := by
  have hiv := (val_ok h (q := []) (fun _ h => by cases h) (x := it) (by rw [hit]; rfl)).1
  rw [hit] at hiv
  have hr0 : ∃ o', w.heap[r]? = some o' ∧ ∀ c t f, o' ≠ Obj.cells c t f := by
    obtain ⟨es, clock, since, seen, c0, _, _, _, _, hr, _⟩ := hM
    exact ⟨_, hr, fun c t f e => by cases e⟩
  obtain ⟨o', hr, hro⟩ := hr0
  refine man_op hL hg ?_
  unfold Oper.wp
  rcases hM.next Kd o.type with ⟨h0, hl, hrun⟩ | ⟨key, v, kl, y, w', cnt', hkey, hlk, hv, hat, hrun, hrg, hlt, hgr, hsz, hen⟩
  · have e1 : (execOp a.eval o).run P w = .ok (.value (.tuple #[.bool false])) w := by simp [execOp, hop, hiv, hrun, Result.andThen, AV.den]
    rw [e1]
    simp only [Oper.upon]
    rw [hdst]
    exact Kd0 _ hl (h.put (some d) (fun t ht => by injection ht with ht; subst ht; exact hd) (.tup [.bool .ff]) (fun _ => .tup _ fun u hu => by simp at hu; subst hu; exact .bool _) _ fun _ => rfl)
  · have e1 : (execOp a.eval o).run P w = .ok (.value (.tuple #[.bool true, key, v])) w' := by simp [execOp, hop, hiv, hrun, Result.andThen, AV.den]
    rw [e1]
    simp only [Oper.upon]
    rw [hdst]
    have hv' : y.1 = .held v := by unfold hR at hv; injection hv with hv; rw [← hv]
    have hea : EntryAt P w' r key v := by
      obtain ⟨es, clock, since, seen, c0, hb', _, _, _, hr', _⟩ := hrg
      exact ⟨⟨_, _, _, _, _, _, hr', hb'⟩, hen⟩
    have h2 := h.turn hr hro hgr hC (hK1 key v kl cnt' _ _ h.kept (turn_keepB hr hro hgr) hkey hlk (fun zd => (hat zd).trans hv') hrg hea hlt)
    refine Km _ _ key v kl cnt' hkey hlk (fun zd => (hat zd).trans hv') hlt (h2.put (some d) (fun t ht => by injection ht with ht; subst ht; exact hd) (.tup [.bool .tt, .raw key, .raw v]) (fun _ => .tup _ fun u hu => ?_) _ fun _ => rfl)
    simp only [List.mem_cons, List.not_mem_nil, or_false] at hu
    rcases hu with rfl | rfl | rfl
    · exact .bool _
    · exact .raw _
    · exact .raw _
/-- the round's key and element -/
theorem man_entry {it : Operand} {d r : Nat} {vk vv : AV} (hL : L = o :: rest) (hg : o.guard = none) (hop : o.op = .entry it) (hdst : o.dst = some d) (h : Fits C s a w) (hd : d < s.nt) (hit : val s [] it = .raw (.pointer (some ⟨r, 0, none⟩)))
    (hE : EntryAt P w r vk.den vv.den) (hk : Ok (s.m C) w vk) (hv : Ok (s.m C) w vv)
    (K' : ∀ a', Fits C (s.put (some d) (.tup [vk, vv])) a' w → wpList P ops Q rest a' w) : wpList P ops Q L a w := by
  have hiv := (val_ok h (q := []) (fun _ h => by cases h) (x := it) (by rw [hit]; rfl)).1
  rw [hit] at hiv
  refine man_val hL hg hdst h hd (v := .tup [vk, vv]) ?_ (.tup _ fun u hu => ?_) K'
  · simp [execOp, hop, hiv, hE.run, Result.andThen, AV.den, AV.denL]
  · simp only [List.mem_cons, List.not_mem_nil, or_false] at hu
    rcases hu with rfl | rfl
    · exact hk
    · exact hv
theorem loop_any {ι : Type} (I : ι → Act → World → Prop) (J : ι → Prop) (μ : ι → Nat) {c : Code} {a : Act} {w : World} (p₀ : ι) (h₀ : J p₀) (hf : I p₀ a w)
    (round : ∀ p, J p → ∀ a w, I p a w → c.wp P (Exit.then (fun a' w' => ∃ p', J p' ∧ μ p' < μ p ∧ I p' a' w') Q) a w) : (Code.loop c).wp P Q a w := by
  intro b k fs
  have key : ∀ n p a w, μ p = n → J p → I p a w →
      ∃ e a' w', Q e a' w' ∧ Arrives P (lone (b.at a (.code c :: .inLoop c :: k)) fs w) b k fs e a' w' := by
    intro n
    induction n using Nat.strongRecOn with
    | _ n ih =>
      intro p a w hn hJ hF
      obtain ⟨e, a₁, w₁, hq, harr⟩ := round p hJ a w hF b (.inLoop c :: k) fs
      cases e with
      | normal =>
        obtain ⟨p', hJ', hlt, hF'⟩ := hq
        obtain ⟨e₂, a₂, w₂, hq₂, harr₂⟩ := ih (μ p') (hn ▸ hlt) p' a₁ w₁ rfl hJ' hF'
        exact ⟨e₂, a₂, w₂, hq₂, .of_steps (Steps.trans harr (.one step_inLoop)) harr₂⟩
      | exit id => exact ⟨_, a₁, w₁, hq, .pass (x := .inLoop c) rfl (fun _ _ => .inl (by simp)) harr⟩
      | goto l => exact ⟨_, a₁, w₁, hq, .pass (x := .inLoop c) rfl (fun _ _ => .inl (by simp)) harr⟩
      | ret => exact ⟨_, a₁, w₁, hq, .pass (x := .inLoop c) rfl (fun _ _ => .inl (by simp)) harr⟩
      | panic ch => exact ⟨_, a₁, w₁, hq, .pass (x := .inLoop c) rfl (fun _ _ => .inl (by simp)) harr⟩
      | outgrown => exact ⟨_, a₁, w₁, hq, .pass (x := .inLoop c) rfl (fun _ _ => .inl (by simp)) harr⟩
  obtain ⟨e, a', w', hq, harr⟩ := key _ p₀ a w rfl h₀ hf
  exact ⟨e, a', w', hq, .of_steps (.one step_loop) harr⟩
/-- a loop whose rounds know other things beside -/
theorem loop_preK {ι : Type} (Kf : ι → Kn) (Sl : ι → List (Nat × AV)) (M : ι → List (Nat × Blk)) (G : ι → List (Nat × Gr)) (J : ι → Prop) (μ : ι → Nat) {nt : Nat} {rest : List (Nat × AV)} {restm : List (Nat × Blk)} {restg : List (Nat × Gr)} {c : Code} {a : Act} {w : World} (p₀ : ι) (h₀ : J p₀)
    (hf : Fits ⟨m0, w0, S, ds, Kf p₀⟩ ⟨nt, pre (Sl p₀) rest, [], pre (M p₀) restm, pre (G p₀) restg⟩ a w)
    (round : ∀ p, J p → ∀ a w, Fits ⟨m0, w0, S, ds, Kf p⟩ ⟨nt, pre (Sl p) rest, [], pre (M p) restm, pre (G p) restg⟩ a w → c.wp P (Exit.then (fun a' w' => ∃ p', J p' ∧ μ p' < μ p ∧ Fits ⟨m0, w0, S, ds, Kf p'⟩ ⟨nt, pre (Sl p') rest, [], pre (M p') restm, pre (G p') restg⟩ a' w') Q) a w) : (Code.loop c).wp P Q a w :=
  loop_any (fun p a w => Fits ⟨m0, w0, S, ds, Kf p⟩ ⟨nt, pre (Sl p) rest, [], pre (M p) restm, pre (G p) restg⟩ a w) J μ p₀ h₀ hf round
end
end Go.Proofs.Ythpbihppfijegaa.Sym

namespace Go.Proofs.Ythpbihppfijegaa.Sym
open Go Go.RowKit
set_option linter.unusedVariables false
set_option linter.unusedSimpArgs false

/-- by hand: the operation's number, its operands, what they are, what comes of it -/
abbrev Hand := Option (Nat × List Operand × List AV × AV)
def delta2 (A : Alg) (T : List (Nat × TI)) (cs : List (Nat × CS)) (H : Hand) (x : Atom) (all : List Oper) (i : Nat) (o : Oper) (s : St) : Option (Delta × List Ob × Foot) :=
  match H with
  | none => delta A T cs x all i o s
  | some (j, xs, args, v) => if j == i then (match o.guard, vals s [] xs, inNt s o.dst with
      | none, some l, true => some (⟨.no, o.dst, .plain v⟩, [.pr (l = args)], ⟨o.dst, tl xs, [], [], [], [], []⟩)
      | _, _, _ => none) else delta A T cs x all i o s
def HandOK (C : Cx) (P : Program) (all : List Oper) (H : Hand) : Prop := ∀ i xs args v, H = some (i, xs, args, v) → ∀ o, all[i]? = some o → ∀ s a w, Fits C s a w → vals s [] xs = some args → (execOp a.eval o).run P w = .ok (.value v.den) w ∧ Ok (s.m C) w v
theorem handOK_none {C : Cx} {P : Program} {all : List Oper} : HandOK C P all none := fun _ _ _ _ h => by cases h
def exec2 (A : Alg) (T : List (Nat × TI)) (cs : List (Nat × CS)) (H : Hand) (X : Nat → Atom) (all : List Oper) : List (Nat × Oper) → St → Option (St × List Ob × List Foot)
  | [], s => some (s, [], [])
  | (i, o) :: l, s => match delta2 A T cs H (X i) all i o s with
    | none => none
    | some (δ, ob, f) => match exec2 A T cs H X all l (s.app δ) with
      | none => none
      | some (s'', ob', fs) => some (s'', ob ++ ob', f :: fs)
section
variable {A : Alg} {T : List (Nat × TI)} {cs : List (Nat × CS)} {H : Hand} {X : Nat → Atom} {all : List Oper}
theorem delta2_foot {x : Atom} {i : Nat} {o : Oper} {s : St} {r : Delta × List Ob × Foot} (h : delta2 A T cs H x all i o s = some r) : FootOK r := by
  unfold delta2 at h
  split at h
  · exact delta_foot h
  · split at h
    · split at h
      · injection h with h; subst h
        exact ⟨(fun q v h => by cases h), rfl, (fun k b h => by cases h), (fun k b h => by cases h), (fun q v h => by cases h)⟩
      · cases h
    · exact delta_foot h
theorem delta2_local {x : Atom} {i : Nat} {o : Oper} {s s' : St} {r : Delta × List Ob × Foot} (h : delta2 A T cs H x all i o s = some r) (hU : AgT s s' r.2.2.cons) (hR : AgM s s' r.2.2.rk) (hG : AgR s s' r.2.2.rg) (hn : s.nt = s'.nt) : delta2 A T cs H x all i o s' = some r := by
  unfold delta2 at h ⊢
  split at h
  · exact delta_local h hU hR hG hn
  · split at h
    · rename_i hj
      rw [if_pos hj]
      split at h
      · rename_i l hg hv hi
        injection h with h; subst h
        rw [hg, ← vals_local hU [] (fun t ht => ht), hv, ← inNt_local hn, hi]
      · cases h
    · rename_i hj
      rw [if_neg hj]
      exact delta_local h hU hR hG hn
theorem exec2_cons {X : Nat → Atom} {i : Nat} {o : Oper} {l : List (Nat × Oper)} {s : St} {r} (hr : exec2 A T cs H X all ((i, o) :: l) s = some r) :
    ∃ δ ob f r', delta2 A T cs H (X i) all i o s = some (δ, ob, f) ∧ exec2 A T cs H X all l (s.app δ) = some r' ∧ r = (r'.1, ob ++ r'.2.1, f :: r'.2.2) := by
  simp only [exec2] at hr
  split at hr
  · cases hr
  · rename_i δ ob f he
    split at hr
    · cases hr
    · rename_i s'' ob' fs he'
      injection hr with hr
      exact ⟨δ, ob, f, _, he, he', hr.symm⟩
theorem exec2_congr {X Y : Nat → Atom} : ∀ (l : List (Nat × Oper)) (s : St), (∀ x ∈ l, X x.1 = Y x.1) → exec2 A T cs H X all l s = exec2 A T cs H Y all l s
  | [], _, _ => rfl
  | (i, o) :: l, s, h => by
    simp only [exec2]
    rw [h (i, o) (by simp)]
    cases delta2 A T cs H (Y i) all i o s with
    | none => rfl
    | some r => obtain ⟨δ, ob, f⟩ := r; simp only; rw [exec2_congr l _ (fun x hx => h x (by simp [hx]))]
theorem exec2_alike : ∀ {l : List (Nat × Oper)} {s s' τ : St} {obs : List Ob} {fs : List Foot}, exec2 A T cs H X all l s = some (τ, obs, fs) → Alike s s' → NM s (ds fs) → Ord fs → ∃ τ', exec2 A T cs H X all l s' = some (τ', obs, fs) ∧ Alike τ τ'
  | [], s, s', τ, obs, fs, h, ha, hn, hf => by
    simp only [exec2, Option.some.injEq, Prod.mk.injEq] at h
    obtain ⟨rfl, rfl, rfl⟩ := h
    exact ⟨s', rfl, ha⟩
  | (i, o) :: l, s, s', τ, obs, fs, h, ha, hn, hf => by
    obtain ⟨δ, ob, f, r', h1, h2, h3⟩ := exec2_cons h
    obtain ⟨τ1, obs1, fs1⟩ := r'
    simp only [Prod.mk.injEq] at h3
    obtain ⟨rfl, rfl, rfl⟩ := h3
    have hfo := delta2_foot h1
    have hd' := delta2_local h1 (s' := s') (fun t _ => ⟨ha.tmps t, ha.gs t⟩) (fun k _ => ha.mem k) (fun k _ => ha.gr k) ha.nt
    have hf' := List.pairwise_cons.1 hf
    obtain ⟨n1, n2⟩ := nm_of hfo (gs := fs1) hn (by simp) (fun g hg => by simp [hg]) hf'.1
    obtain ⟨τ', e1, e2⟩ := exec2_alike h2 (app_alike hfo.wf ha n1) n2 hf'.2
    exact ⟨τ', by simp only [exec2, hd', e1], e2⟩
theorem moveFront2 {P : Program} {K : Kn} {i : Nat} {o : Oper} {L2 : List (Nat × Oper)} : ∀ {L1 : List (Nat × Oper)} {s τ : St} {obs : List Ob} {fs1 : List Foot} {f : Foot} {fs2 : List Foot},
    exec2 A T cs H X all (L1 ++ (i, o) :: L2) s = some (τ, obs, fs1 ++ f :: fs2) → fs1.length = L1.length → NM s (ds (fs1 ++ f :: fs2)) → Ord (fs1 ++ f :: fs2) → (∀ g ∈ fs1, comm g f = true) →
    ∃ δ ob, delta2 A T cs H (X i) all i o s = some (δ, ob, f) ∧ ∃ τ' obs', exec2 A T cs H X all (L1 ++ L2) (s.app δ) = some (τ', obs', fs1 ++ fs2) ∧ Alike τ' τ ∧ (AllOb P K obs → AllOb P K ob ∧ AllOb P K obs')
  | [], s, τ, obs, fs1, f, fs2, h, hl, hn, hF, hc => by
    have : fs1 = [] := List.eq_nil_of_length_eq_zero hl
    subst this
    obtain ⟨δ, ob, f', r', h1, h2, h3⟩ := exec2_cons h
    obtain ⟨τ1, obs1, fs1⟩ := r'
    simp only [List.nil_append, Prod.mk.injEq, List.cons.injEq] at h3
    obtain ⟨rfl, rfl, rfl, rfl⟩ := h3
    exact ⟨δ, ob, h1, τ, obs1, h2, ⟨rfl, fun _ => rfl, fun _ => rfl, fun _ => rfl, fun _ => rfl⟩, fun ha => AllOb.app.1 ha⟩
  | (j, oj) :: L1, s, τ, obs, fs1, f, fs2, h, hl, hn, hF, hc => by
    cases fs1 with
    | nil => cases hl
    | cons fj fs1 =>
      obtain ⟨δj, obj, fj', r', h1, h2, h3⟩ := exec2_cons h
      obtain ⟨τ1, obs1, fsr⟩ := r'
      simp only [List.cons_append, Prod.mk.injEq, List.cons.injEq] at h3
      obtain ⟨rfl, rfl, rfl, rfl⟩ := h3
      have hfj := delta2_foot h1
      have hF' := List.pairwise_cons.1 hF
      obtain ⟨n1, n2⟩ := nm_of hfj (gs := fs1 ++ f :: fs2) hn (by simp) (fun g hg => by simp only [List.cons_append, List.mem_cons]; exact .inr hg) hF'.1
      obtain ⟨δ, ob, g1, τ', obs', g2, g3, g4⟩ := moveFront2 (P := P) (L1 := L1) h2 (by simpa using hl) n2 hF'.2 (fun g hg => hc g (by simp [hg]))
      have hcm := hc fj (by simp)
      simp only [comm, Bool.and_eq_true] at hcm
      obtain ⟨⟨⟨⟨⟨⟨⟨⟨⟨c0, c1⟩, c2⟩, c3⟩, c4⟩, c5⟩, c6⟩, c7⟩, c8⟩, c9⟩ := hcm
      have hf := delta2_foot g1
      have hFf := List.pairwise_append.1 hF'.2
      have hin : ∀ g ∈ fs1 ++ fs2, g ∈ fs1 ++ f :: fs2 := fun g hg => by
        rcases List.mem_append.1 hg with hg | hg
        · exact List.mem_append_left _ hg
        · exact List.mem_append_right _ (List.mem_cons_of_mem _ hg)
      have hq : ∀ g ∈ fj :: (fs1 ++ fs2), disj (dl g.d) f.qs = true := by
        intro g hg
        rcases List.mem_cons.1 hg with rfl | hg
        · exact c0
        · rcases List.mem_append.1 hg with hg | hg
          · have := hc g (by simp [hg])
            simp only [comm, Bool.and_eq_true] at this
            exact this.1.1.1.1.1.1.1.1.1
          · exact (List.pairwise_cons.1 hFf.2.1).1 g hg
      -- i at s
      obtain ⟨a1, a2, a3⟩ := ag_app hfj n1 (g := f) (disj_ok c1) (disj_ok c4) (disj_ok c7)
      have d1 : delta2 A T cs H (X i) all i o s = some (δ, ob, f) := delta2_local g1 (fun t ht => ⟨(a1 t ht).1.symm, (a1 t ht).2.symm⟩) (fun k hk => (a2 k hk).symm) (fun k hk => (a3 k hk).symm) app_nt
      obtain ⟨m1, m2⟩ := nm_of hf (gs := fj :: (fs1 ++ fs2)) hn (by simp) (fun g hg => by
        rcases List.mem_cons.1 hg with rfl | hg
        · simp
        · simp only [List.cons_append, List.mem_cons]; exact .inr (hin g hg)) hq
      -- j behind i
      obtain ⟨b1, b2, b3⟩ := ag_app hf m1 (g := fj) (disj_ok c2) (disj_ok c5) (disj_ok c8)
      have d2 : delta2 A T cs H (X j) all j oj (s.app δ) = some (δj, obj, fj) := delta2_local h1 b1 b2 b3 app_nt.symm
      -- the two orders come to the same
      have sw : Alike ((s.app δj).app δ) ((s.app δ).app δj) := by
        refine app_swap hfj.wf hf.wf n1 m1 (n2.sub fun d hd => ds_mem (g := f) (by simp) (by rw [hf.d]; exact hd)) (m2.sub fun d hd => ds_mem (g := fj) (by simp) (by rw [hfj.d]; exact hd)) (fun t ht ht' => ?_) (fun k b b' e1 e2 => ?_) (fun k b k' b' e1 e2 he => ?_)
        · exact disj_ok c3 t (by rw [hfj.d]; simp only; rw [ht]; simp [dl]) (by rw [hf.d]; simp only; rw [ht']; simp [dl])
        · exact disj_ok c6 k (hfj.wk k b e1) (hf.wk k b' e2)
        · subst he; exact disj_ok c9 k (hfj.wg k b e1) (hf.wg k b' e2)
      obtain ⟨nn1, nn2⟩ := nm_of hf (gs := fs1 ++ fs2) n2 (by simp) hin (fun g hg => hq g (List.mem_cons_of_mem _ hg))
      obtain ⟨τ'', e1, e2⟩ := exec2_alike g2 sw nn2 (hF'.2.sublist (List.Sublist.append_left (List.sublist_cons_self _ _) _))
      refine ⟨δ, ob, d1, τ'', obj ++ obs', ?_, e2.symm.trans g3, fun ha => ?_⟩
      · simp only [List.cons_append, exec2, d2, e1]
      · obtain ⟨p1, p2⟩ := AllOb.app.1 ha
        obtain ⟨p3, p4⟩ := g4 p2
        exact ⟨p3, AllOb.app.2 ⟨p1, p4⟩⟩
end
section
variable {C : Cx} {P : Program} {Q : Exit → Act → World → Prop} {T : List (Nat × TI)} {cs : List (Nat × CS)} {H : Hand} {ops : Array Oper} {all : List Oper}
theorem delta2_ok {s : St} {a : Act} {w : World} {K : Act → World → Prop} (hT : TabOK P T) {i : Nat} {o : Oper} (hH : HandOK C P all H) (hio : all[i]? = some o) (hall : ops = all.toArray) (h : Fits C s a w) (hs : ∀ x, ∃ r, delta2 std T cs H x all i o s = some r ∧ AllOb P C.K r.2.1)
    (hK : ∀ x r a' w', delta2 std T cs H x all i o s = some r → Fits C (s.app r.1) a' w' → K a' w') : if Region.wanted o (yielded ops a.tmps) then o.wp P a w K Q else K (a.put o.dst Go.undef) w := by
  have plain : (∀ x, delta2 std T cs H x all i o s = delta std T cs x all i o s) → if Region.wanted o (yielded ops a.tmps) then o.wp P a w K Q else K (a.put o.dst Go.undef) w := fun e =>
    delta_ok hT hall h (fun x => by rw [← e]; exact hs x) fun x r a' w' hr => hK x r a' w' (by rw [e]; exact hr)
  cases hh : H with
  | none => exact plain fun x => by rw [hh]; rfl
  | some y =>
    obtain ⟨j, xs, args, v⟩ := y
    by_cases hj : (j == i) = true
    · obtain ⟨r, hr, hob⟩ := hs ⟨0, fun _ => none, fun _ => 0, fun _ => .empty⟩
      have hr0 := hr
      unfold delta2 at hr
      rw [hh] at hr
      simp only at hr
      rw [if_pos hj] at hr
      split at hr
      · rename_i l hg hv hi
        injection hr with hr; subst hr
        have hl : l = args := hob.1
        subst hl
        have hji : j = i := by simpa using hj
        subst hji
        have hw : Region.wanted o (yielded ops a.tmps) = true := by simp [Region.wanted, hg]
        rw [if_pos hw]
        obtain ⟨g1, g2⟩ := hH _ _ _ _ hh o hio s a w h hv
        exact wp_value g1 (hK _ _ _ _ hr0 (h.put o.dst (inNt_lt hi) v (fun _ => g2) v.den fun _ => rfl))
      · cases hr
    · exact plain fun x => by
        unfold delta2
        rw [hh]
        simp only
        rw [if_neg hj]
theorem any2_ok {tb : List Nat} (hT : TabOK P T) (hops : ops = all.toArray) (htb : ∀ i j, edge tb i j = true → WaitsFor all i j) (hH : HandOK C P all H) {n0 : Nat} {zo : List Oper} (hz1 : zo.length ≤ 1) (hz2 : ∀ k o, ops[k]? = some o → k < n0 ∨ (k = n0 ∧ zo = [o])) (hz3 : ∀ o, zo = [o] → ops[n0]? = some o ∧ (∀ j, j < n0 → ∃ e ∈ o.after.toList, Region.binds .any e = true ∧ e.on = j) ∧ ∀ e ∈ o.after.toList, Region.binds .any e = true → e.on < n0) (hz4 : n0 ≤ ops.size) : ∀ (n : Nat) (L : List (Nat × Oper)) (fs : List Foot) (listed : Array Bool) (s : St) (a : Act) (w : World), L.length = n → Fits C s a w → NM s (ds fs) → Ord fs → Paired tb L fs → (∀ k o, all[k]? = some o → listed.getD k false = true → ∀ e ∈ o.after.toList, Region.binds .any e = true → listed.getD e.on false = true) →
    L.Pairwise (fun x y => x.1 < y.1) → (∀ x ∈ L, ops[x.1]? = some x.2 ∧ listed.getD x.1 true = false) → (∀ k o, k < n0 → ops[k]? = some o → listed.getD k true = false → (k, o) ∈ L) → (∀ o, zo = [o] → listed.getD n0 true = false) → (∀ x ∈ L, x.1 < n0) → listed.size = ops.size →
    (∀ x ∈ L, ∀ e ∈ x.2.after.toList, Region.binds .any e = true → e.on < x.1) →
    (∀ X, ∃ τ obs, exec2 std T cs H X all L s = some (τ, obs, fs) ∧ AllOb P C.K obs ∧ ∀ a' w', Fits C τ a' w' → wpList P ops Q zo a' w') → wpAny P .any ops Q (n + zo.length) listed a w
  | 0, L, fs, listed, s, a, w, hn, h, hNM, hF, hP, hDC, hsr, hL, hA, hZ, hLn, hsz, hE, hs => by
    have : L = [] := List.eq_nil_of_length_eq_zero hn
    subst this
    have all0 : ∀ k, k < n0 → listed.getD k false = true := by
      intro k hk
      by_cases hl : listed.getD k false = true
      · exact hl
      · have := hA k _ hk (Array.getElem?_eq_getElem (by omega)) (getD_ft (by rw [hsz]; omega) hl)
        cases this
    obtain ⟨τ, obs, e1, _, e2⟩ := hs (fun _ => ⟨0, fun _ => none, fun _ => 0, fun _ => .empty⟩)
    simp only [exec2, Option.some.injEq, Prod.mk.injEq] at e1
    obtain ⟨rfl, _⟩ := e1
    have hfin := e2 a w h
    match zo, hz1, hz2, hz3, hZ, hfin with
    | [], _, hz2, _, _, hfin =>
      refine ⟨?_, hfin⟩
      cases hr : Region.ready .any ops listed with
      | nil => rfl
      | cons i r =>
        obtain ⟨h1, o, h2, _⟩ := mem_ready.1 (hr ▸ List.mem_cons_self : i ∈ Region.ready .any ops listed)
        rcases hz2 i o h2 with hi | ⟨_, hi⟩
        · cases hA i o hi h2 h1
        · cases hi
    | [o], _, hz2, hz3, hZ, hfin =>
      obtain ⟨g1, g2, g3⟩ := hz3 o rfl
      refine ⟨fun hr => ?_, fun i hi => ?_⟩
      · exfalso
        have : n0 ∈ Region.ready .any ops listed := mem_ready.2 ⟨hZ o rfl, o, g1, fun e he hb => all0 _ (g3 e (by simpa using he) hb)⟩
        rw [hr] at this; cases this
      · obtain ⟨h1, o', h2, h3⟩ := mem_ready.1 hi
        rcases hz2 i o' h2 with hi' | ⟨hi', ho'⟩
        · cases hA i o' hi' h2 h1
        · injection ho' with ho' _
          subst ho'; subst hi'
          have fin : ∀ a w, wpList P ops Q [] a w → wpAny P .any ops Q 0 (listed.setIfInBounds i true) a w := by
            intro a w hq
            refine ⟨?_, hq⟩
            cases hr : Region.ready .any ops (listed.setIfInBounds i true) with
            | nil => rfl
            | cons k r =>
              obtain ⟨k1, ok, k2, _⟩ := mem_ready.1 (hr ▸ List.mem_cons_self : k ∈ Region.ready .any ops (listed.setIfInBounds i true))
              rcases hz2 k ok k2 with hk | ⟨hk, _⟩
              · rw [getD_set_ne true (by omega)] at k1
                cases hA k ok hk k2 k1
              · subst hk
                have hlt : k < listed.size := by rw [hsz]; exact (Array.getElem?_eq_some_iff.1 h2).1
                simp [Array.getD_eq_getD_getElem?, hlt] at k1
          unfold wpOp
          simp only [h2]
          unfold wpList at hfin
          by_cases hw : Region.wanted o (yielded ops a.tmps) = true
          · rw [if_pos hw] at hfin ⊢
            exact hfin.imp (Oper.wp_mono fin) id
          · rw [if_neg hw] at hfin ⊢
            exact fin _ _ hfin
    | _ :: _ :: _, hz1, _, _, _, _ => simp at hz1
  | n + 1, L, fs, listed, s, a, w, hn, h, hNM, hF, hP, hDC, hsr, hL, hA, hZ, hLn, hsz, hE, hs => by
    rw [show n + 1 + zo.length = (n + zo.length) + 1 by omega]
    refine ⟨fun hr => ?_, fun i hi => ?_⟩
    · -- the first one that is left may come up
      exfalso
      cases L with
      | nil => cases hn
      | cons x L =>
        obtain ⟨i0, o0⟩ := x
        obtain ⟨h1, h2⟩ := hL (i0, o0) (by simp)
        have : i0 ∈ Region.ready .any ops listed := mem_ready.2 ⟨h2, o0, h1, fun e he hb => by
          have hlt := hE (i0, o0) (by simp) e (by simpa using he) hb
          simp only at hlt
          have hi0 : i0 < ops.size := (Array.getElem?_eq_some_iff.1 h1).1
          have hon : e.on < listed.size := by rw [hsz]; omega
          by_cases hl : listed.getD e.on false = true
          · exact hl
          · exfalso
            have hm := hA e.on _ (by have := hLn (i0, o0) (by simp); simp only at this; omega) (Array.getElem?_eq_getElem (by omega)) (getD_ft hon hl)
            rcases List.mem_cons.1 hm with he' | hm
            · injection he' with he'; omega
            · have := (List.pairwise_cons.1 hsr).1 _ hm
              simp only at this; omega⟩
        rw [hr] at this
        cases this
    · obtain ⟨h1, o, h2, h3⟩ := mem_ready.1 hi
      have hi0 : i < n0 := by
        rcases hz2 i o h2 with hi0 | ⟨rfl, ho⟩
        · exact hi0
        · exfalso
          cases L with
          | nil => cases hn
          | cons x L =>
            obtain ⟨_, g2, _⟩ := hz3 o ho
            obtain ⟨e, q1, q2, q3⟩ := g2 x.1 (hLn x (by simp))
            have q4 := h3 e (by simpa using q1) q2
            have q5 := (hL x (by simp)).2
            rw [q3, getD_tf q5] at q4
            cases q4
      have hio : all[i]? = some o := by rw [hops] at h2; simpa using h2
      have hin := hA i o hi0 h2 h1
      obtain ⟨L1, L2, rfl⟩ := List.append_of_mem hin
      obtain ⟨fs1, f, fs2, hlen, rfl⟩ : ∃ fs1 f fs2, fs1.length = L1.length ∧ fs = fs1 ++ f :: fs2 := by
        have hl := hP.1
        simp only [List.length_append, List.length_cons] at hl
        have hlt : L1.length < fs.length := by omega
        refine ⟨fs.take L1.length, fs[L1.length], fs.drop (L1.length + 1), by simp; omega, ?_⟩
        rw [← List.drop_eq_getElem_cons hlt, List.take_append_drop]
      obtain ⟨hP1, hcm⟩ := pairsB_del hlen hP.2
      have hcomm : ∀ g ∈ fs1, comm g f = true := by
        intro g hg
        obtain ⟨k, hk⟩ := List.getElem?_of_mem hg
        have hkl : k < L1.length := by rw [← hlen]; exact (List.getElem?_eq_some_iff.1 hk).1
        rcases hcm k _ g (List.getElem?_eq_getElem hkl) hk with he | he
        · exfalso
          have h5 := (hL L1[k] (List.mem_append_left _ (List.getElem_mem hkl))).2
          have hr := htb _ _ he
          have dc : ∀ {i j : Nat}, WaitsFor all i j → (∀ o e, all[i]? = some o → e ∈ o.after.toList → Region.binds .any e = true → listed.getD e.on false = true) → listed.getD j false = true := by
            intro i j hr
            induction hr with
            | one h1 h2 h3 h4 => intro hi; rw [← h4]; exact hi _ _ h1 h2 h3
            | more h1 h2 h3 h4 ih => intro hi; exact ih fun o e g1 g2 g3 => hDC _ o g1 (hi _ _ h1 h2 h3) e g2 g3
          have h4 := dc hr fun o' e g1 g2 g3 => by
            have : o' = o := by
              have e1 : ops[i]? = some o' := by rw [hops]; simpa using g1
              rw [h2] at e1; injection e1 with e1; exact e1.symm
            subst this
            exact h3 e (by simpa using g2) g3
          rw [getD_tf h5] at h4
          cases h4
        · exact he
      have mf : ∀ X, ∃ δ ob, delta2 std T cs H (X i) all i o s = some (δ, ob, f) ∧ AllOb P C.K ob ∧ ∃ τ' obs', exec2 std T cs H X all (L1 ++ L2) (s.app δ) = some (τ', obs', fs1 ++ fs2) ∧ AllOb P C.K obs' ∧ ∀ a' w', Fits C τ' a' w' → wpList P ops Q zo a' w' := by
        intro X
        obtain ⟨τ, obs, e1, e2, e3⟩ := hs X
        obtain ⟨δ, ob, g1, τ', obs', g2, g3, g4⟩ := moveFront2 (P := P) e1 hlen hNM hF hcomm
        exact ⟨δ, ob, g1, (g4 e2).1, τ', obs', g2, (g4 e2).2, fun a' w' hf => e3 a' w' (hf.alike g3)⟩
      have hsrt : (L1 ++ L2).Pairwise (fun x y => x.1 < y.1) := hsr.sublist (List.Sublist.append_left (List.sublist_cons_self _ _) _)
      have hnot : ∀ x ∈ L1 ++ L2, x.1 ≠ i := by
        intro x hx
        rw [List.pairwise_append] at hsr
        obtain ⟨p1, p2, p3⟩ := hsr
        rcases List.mem_append.1 hx with hx | hx
        · have := p3 x hx (i, o) (by simp); simp only at this; omega
        · have := (List.pairwise_cons.1 p2).1 x hx; simp only at this; omega
      have key := delta2_ok (C := C) (K := fun a' w' => wpAny P .any ops Q (n + zo.length) (listed.setIfInBounds i true) a' w') (Q := Q) (cs := cs) (i := i) (o := o) hT hH hio hops h (fun x => by
        obtain ⟨δ, ob, g1, g2, _⟩ := mf (fun _ => x)
        exact ⟨_, g1, g2⟩) (fun x r a' w' hr hf => by
        have hfo := delta2_foot hr
        obtain ⟨δ, ob, f'⟩ := r
        obtain ⟨δ0, ob0, g0, _⟩ := mf (fun _ => x)
        rw [hr] at g0
        injection g0 with g0; injection g0 with q1 q2; injection q2 with q2 q3
        subst q1; subst q2; subst q3
        have hinF : ∀ g ∈ fs1 ++ fs2, g ∈ fs1 ++ f' :: fs2 := fun g hg => by
          rcases List.mem_append.1 hg with hg | hg
          · exact List.mem_append_left _ hg
          · exact List.mem_append_right _ (List.mem_cons_of_mem _ hg)
        obtain ⟨n1, n2⟩ := nm_of hfo (gs := fs1 ++ fs2) hNM (by simp) hinF (fun g hg => by
          rcases List.mem_append.1 hg with hg | hg
          · have := hcomm g hg
            simp only [comm, Bool.and_eq_true] at this
            exact this.1.1.1.1.1.1.1.1.1
          · exact (List.pairwise_cons.1 (List.pairwise_append.1 hF).2.1).1 g hg)
        refine any2_ok hT hops htb hH hz1 hz2 hz3 hz4 n (L1 ++ L2) (fs1 ++ fs2) (listed.setIfInBounds i true) (s.app δ) a' w' ?_ hf n2 ?_ ?_ ?_ hsrt ?_ ?_ (fun o' ho' => by rw [getD_set_ne true (by omega)]; exact hZ o' ho') ?_ (by simpa using hsz) ?_ ?_
        · simp at hn ⊢; omega
        · exact hF.sublist (List.Sublist.append_left (List.sublist_cons_self _ _) _)
        · refine ⟨?_, hP1⟩
          have := hP.1
          simp at this ⊢; omega
        · intro k ok hk hu e he hb
          by_cases hki : k = i
          · subst hki
            have : ok = o := by
              have e1 : ops[k]? = some ok := by rw [hops]; simpa using hk
              rw [h2] at e1; injection e1 with e1; exact e1.symm
            subst this
            have hl := h3 e (by simpa using he) hb
            by_cases hei : e.on = k
            · have := hE (k, ok) hin e he hb
              simp only at this; omega
            · rw [getD_set_ne false (fun e' => hei e'.symm)]; exact hl
          · rw [getD_set_ne false (fun e' => hki e'.symm)] at hu
            have hl := hDC k ok hk hu e he hb
            by_cases hei : e.on = i
            · rw [hei] at hl
              have h5 := (hL (i, o) hin).2
              simp only at h5
              rw [getD_tf h5] at hl; cases hl
            · rw [getD_set_ne false (fun e' => hei e'.symm)]; exact hl
        · intro x' hx
          have hx' : x' ∈ L1 ++ (i, o) :: L2 := by
            rcases List.mem_append.1 hx with hx | hx
            · exact List.mem_append_left _ hx
            · exact List.mem_append_right _ (List.mem_cons_of_mem _ hx)
          obtain ⟨e1, e2⟩ := hL x' hx'
          refine ⟨e1, ?_⟩
          rw [getD_set_ne true (fun e => hnot x' hx e.symm)]
          exact e2
        · intro k ok hkn hk hu
          by_cases hki : k = i
          · subst hki
            have hlt : k < listed.size := by rw [hsz]; exact (Array.getElem?_eq_some_iff.1 h2).1
            simp [Array.getD_eq_getD_getElem?, hlt] at hu
          · rw [getD_set_ne true (fun e => hki e.symm)] at hu
            have := hA k ok hkn hk hu
            rcases List.mem_append.1 this with hx | hx
            · exact List.mem_append_left _ hx
            · rcases List.mem_cons.1 hx with hx | hx
              · injection hx with hx; exact absurd hx hki
              · exact List.mem_append_right _ hx
        · intro x' hx
          refine hLn x' ?_
          rcases List.mem_append.1 hx with hx | hx
          · exact List.mem_append_left _ hx
          · exact List.mem_append_right _ (List.mem_cons_of_mem _ hx)
        · intro x' hx
          refine hE x' ?_
          rcases List.mem_append.1 hx with hx | hx
          · exact List.mem_append_left _ hx
          · exact List.mem_append_right _ (List.mem_cons_of_mem _ hx)
        · intro X
          obtain ⟨Y, hY, hYX⟩ : ∃ Y : Nat → Atom, Y i = x ∧ ∀ j, j ≠ i → Y j = X j := ⟨fun j => if j = i then x else X j, by simp, fun j hj => by simp [hj]⟩
          obtain ⟨δ1, ob1, g1, _, τ', obs', g2, g3, g4⟩ := mf Y
          rw [hY, hr] at g1
          injection g1 with g1; injection g1 with q1 _
          subst q1
          rw [exec2_congr _ _ (fun x' hx => hYX x'.1 (hnot x' hx))] at g2
          exact ⟨τ', obs', g2, g3, g4⟩)
      unfold wpOp
      simp only [h2]
      by_cases hw : Region.wanted o (yielded ops a.tmps) = true
      · rw [if_pos hw] at key ⊢
        exact .inl key
      · rw [if_neg hw] at key ⊢
        exact key
/-- the operations ahead of the last one, if that waits for all -/
def tailB (all : List Oper) (n0 : Nat) : Bool := Nat.ble n0 all.length && (match all.drop n0 with
  | [] => true
  | [o] => (List.range n0).all (fun j => o.after.toList.any fun e => Region.binds .any e && e.on == j) && o.after.toList.all (fun e => !(Region.binds .any e) || Nat.blt e.on n0)
  | _ => false)
/-- a region that draws its order: one operation by hand, a last one left over -/
theorem drawn2_ok {s : St} {a : Act} {w : World} {id : Nat} {all : List Oper} (n0 : Nat) (H : Hand) (hH : HandOK C P all H) (hm : P.follows .mixedOrders = true) (hT : TabOK P T) (kp km : List Nat) (cs : List (Nat × CS)) (h : Fits C s a w) (hgs : s.gs = []) (fs : List Foot) (hD : drawB (all.take n0) fs = true) (hZ : tailB all n0 = true) (hlen : (all.take n0).length = fs.length)
    {R : Alg → (Nat → Atom) → St × List Ob}
    (hex : ∀ A X, (exec2 A T cs H X all (number 0 (all.take n0)) s).map (fun r => ((r.1.keep kp km, r.2.1), r.2.2)) = some (R A X, fs)) (hob : ∀ X, AllOb P C.K (R std X).2) (hQ : ∀ X a' w', Fits C (R std X).1 a' w' → wpList P all.toArray Q (all.drop n0) a' w') : (Code.region id all.toArray true).wp P Q a w := by
  simp only [drawB, Bool.and_eq_true] at hD
  obtain ⟨⟨d1, d2⟩, d3⟩ := hD
  simp only [tailB, Bool.and_eq_true, Nat.ble_eq] at hZ
  obtain ⟨hn0, hZ⟩ := hZ
  refine wp_region_any hm ?_
  have hf : Fits C s a { w with drawn := w.drawn + 1 } := h.world (fun _ _ _ => rfl) (fun _ _ _ _ _ => rfl) ⟨h.chg.os, h.chg.tape, h.chg.output, h.chg.size, h.chg.block⟩ (fun _ _ _ hc _ => hc) (fun _ _ h _ => h)
  have hnl : ∀ (l : List Oper) (i : Nat), (number i l).length = l.length := by
    intro l
    induction l with
    | nil => intro i; rfl
    | cons o l ih => intro i; simp [number, ih]
  have htk : (all.take n0).length = n0 := by simp; omega
  have hzl : (all.drop n0).length ≤ 1 := by
    revert hZ
    cases all.drop n0 with
    | nil => intro _; simp
    | cons x l => cases l with
      | nil => intro _; simp
      | cons y l => intro h; cases h
  have hsz : all.toArray.size = (number 0 (all.take n0)).length + (all.drop n0).length := by rw [hnl, htk]; simp; omega
  have hgt : ∀ {k o}, (all.take n0)[k]? = some o → all[k]? = some o ∧ k < n0 := by
    intro k o hk
    have hlt := (List.getElem?_eq_some_iff.1 hk).1
    rw [htk] at hlt
    rw [List.getElem?_take, if_pos hlt] at hk
    exact ⟨hk, hlt⟩
  have hlst : ∀ k (b : Bool), k < all.length → (Array.replicate all.toArray.size false).getD k b = false := by
    intro k b hk
    have : k < all.toArray.size := by simpa using hk
    simp [Array.getD_eq_getD_getElem?, hk]
  have hsz0 : all.toArray.size = all.length := by simp
  have hmk : ∀ i j, edge (masks (all.take n0) []) i j = true → WaitsFor all i j := by
    intro i j hij
    have := masks_ok (all := all.take n0) (l := all.take n0) (tb := []) rfl (fun i j h => by simp at h) i j hij
    have conv : ∀ {i j}, WaitsFor (all.take n0) i j → WaitsFor all i j := by
      intro i j hw
      induction hw with
      | one h1 h2 h3 h4 => exact .one (hgt h1).1 h2 h3 h4
      | more h1 h2 h3 h4 ih => exact .more (hgt h1).1 h2 h3 ih
    exact conv this
  rw [hsz]
  refine any2_ok (cs := cs) (all := all) (tb := masks (all.take n0) []) hT rfl hmk hH (n0 := n0) (zo := all.drop n0) hzl ?_ ?_ (by simpa using hn0) _ (number 0 (all.take n0)) fs _ s a _ rfl hf (fun t p v hl => by rw [hgs] at hl; cases hl) ?_ ⟨by rw [hnl]; exact hlen, d1⟩ ?_ (number_sorted _ 0) ?_ ?_ ?_ ?_ ?_ ?_ ?_
  · intro k o hk
    have hk' : all[k]? = some o := by simpa using hk
    have hlt := (List.getElem?_eq_some_iff.1 hk').1
    by_cases hkn : k < n0
    · exact .inl hkn
    · right
      have h1 : (all.drop n0)[k - n0]? = some o := by rw [List.getElem?_drop]; rw [show n0 + (k - n0) = k by omega]; exact hk'
      have h2 := (List.getElem?_eq_some_iff.1 h1).1
      have h3 : k = n0 := by omega
      subst h3
      refine ⟨rfl, ?_⟩
      revert hzl h1
      generalize all.drop k = dl
      intro hzl h1
      match dl, hzl, h1 with
      | [x], _, h1 => simp at h1; rw [h1]
      | [], _, h1 => simp at h1
      | _ :: _ :: _, hzl, _ => simp at hzl
  · intro o ho
    rw [ho] at hZ
    simp only [Bool.and_eq_true] at hZ
    refine ⟨?_, fun j hj => ?_, fun e he hb => ?_⟩
    · have : (all.drop n0)[0]? = some o := by rw [ho]; rfl
      rw [List.getElem?_drop] at this
      simpa using this
    · have := List.all_eq_true.1 hZ.1 j (List.mem_range.2 hj)
      obtain ⟨e, he, hb⟩ := List.any_eq_true.1 this
      simp only [Bool.and_eq_true, beq_iff_eq] at hb
      exact ⟨e, he, hb.1, hb.2⟩
    · have := List.all_eq_true.1 hZ.2 e he
      simpa [hb] using this
  · exact ordB_ok d3
  · intro k o hk hu
    exfalso
    rw [← hsz, hlst k false (List.getElem?_eq_some_iff.1 hk).1] at hu
    cases hu
  · intro x hx
    obtain ⟨h1, h2⟩ := number_get hx
    rw [Nat.sub_zero] at h2
    obtain ⟨h3, _⟩ := hgt h2
    exact ⟨by simpa using h3, by rw [← hsz]; exact hlst _ _ (List.getElem?_eq_some_iff.1 h3).1⟩
  · intro k o hkn hk _
    have hk' : (all.take n0)[k]? = some o := by rw [List.getElem?_take, if_pos hkn]; simpa using hk
    have := number_mem (i := 0) (l := all.take n0) (k := k) (o := o) hk'
    rwa [Nat.zero_add] at this
  · intro o ho
    have : (all.drop n0).length = 1 := by rw [ho]; rfl
    rw [← hsz]
    exact hlst _ _ (by simp at this; omega)
  · intro x hx
    obtain ⟨h1, h2⟩ := number_get hx
    rw [Nat.sub_zero] at h2
    exact (hgt h2).2
  · rw [← hsz]; simp
  · have ed : ∀ (L : List (Nat × Oper)), edgesB L = true → ∀ x ∈ L, ∀ e ∈ x.2.after.toList, Region.binds .any e = true → e.on < x.1 := by
      intro L
      induction L with
      | nil => intro _ x hx; cases hx
      | cons y L ih =>
        obtain ⟨i, o⟩ := y
        intro hL x hx e he hb
        simp only [edgesB, Bool.and_eq_true] at hL
        rcases List.mem_cons.1 hx with rfl | hx
        · have := List.all_eq_true.1 hL.1 e he
          simpa [hb] using this
        · exact ih hL.2 x hx e he hb
    exact ed _ d2
  · intro X
    obtain ⟨r, hr, e⟩ := Option.map_eq_some_iff.1 (hex std X)
    obtain ⟨τ, obs, fs'⟩ := r
    simp only [Prod.mk.injEq] at e
    obtain ⟨e1, rfl⟩ := e
    refine ⟨τ, obs, hr, ?_, fun a' w' hf' => hQ X a' w' ?_⟩
    · have := hob X; rw [← e1] at this; exact this
    · rw [← e1]; exact hf'.keep kp km
theorem drawn2_okB {s : St} {a : Act} {w : World} {id : Nat} {all : List Oper} {B : Alg} (hB : B = std) (n0 : Nat) (H : Hand) (hH : HandOK C P all H) (hm : P.follows .mixedOrders = true) (hT : TabOK P T) (kp km : List Nat) (cs : List (Nat × CS)) (h : Fits C s a w) (hgs : s.gs = []) (fs : List Foot) (hD : drawB (all.take n0) fs = true) (hZ : tailB all n0 = true) (hlen : (all.take n0).length = fs.length)
    {R : Alg → (Nat → Atom) → St × List Ob}
    (hex : ∀ A X, (exec2 A T cs H X all (number 0 (all.take n0)) s).map (fun r => ((r.1.keep kp km, r.2.1), r.2.2)) = some (R A X, fs)) (hob : ∀ X, AllOb P C.K (R B X).2) (hQ : ∀ X a' w', Fits C (R B X).1 a' w' → wpList P all.toArray Q (all.drop n0) a' w') : (Code.region id all.toArray true).wp P Q a w := by
  subst hB
  exact drawn2_ok n0 H hH hm hT kp km cs h hgs fs hD hZ hlen hex hob hQ
end
end Go.Proofs.Ythpbihppfijegaa.Sym

namespace Go.Proofs.Ythpbihppfijegaa
open Go.RowKit Sym
set_option linter.unusedVariables false
set_option linter.unusedSimpArgs false

def app {α : Type} (l : List α) : Dec (List α) → Dec (List α)
  | .error e => .error e
  | .ok (r, s) => .ok (l ++ r, s)
theorem app_app {α : Type} (l r : List α) (d : Dec (List α)) : app l (app r d) = app (l ++ r) d := by
  cases d with
  | error e => rfl
  | ok x => obtain ⟨y, s⟩ := x; simp [app]
theorem app_nil {α : Type} (d : Dec (List α)) : app [] d = d := by
  cases d with
  | error e => rfl
  | ok x => obtain ⟨y, s⟩ := x; rfl
def late : Option Int → Nat → Bool
  | none, _ => false
  | some q, k => decide ((k : Int) ≤ q)
def decIt : Nat → Option Int → List UInt8 → Dec (List Itm)
  | 0, _, s => .ok ([], s)
  | n + 1, p, s => match decN s with
    | .error e => .error e
    | .ok (k, r) => if late p k then .error 3 else match decT r with
      | .error e => .error e
      | .ok (t, r2) => if 64 < t.length then .error 3 else app [⟨k, mkB t⟩] (decIt n (some k) r2)
def decItems (s : List UInt8) : Dec (List Itm) := match decN s with
  | .error e => .error e
  | .ok (n, r) => if 16 < n then .error 3 else decIt n none r
def decNext (s : List UInt8) : Dec Lab := match decN s with
  | .error e => .error e
  | .ok (n, r) => if n = 0 then .ok (noneL, r) else if n = 1 then decL r else .error 3
def fin (r : Rec) (rest : List UInt8) : Except Int Rec := if rest = [] then .ok r else .error 3
/-- behind the items and the next label -/
def decMark (k : Nat) (l : List Itm) (nx : Lab) (s : List UInt8) : Dec Rec := if k = 5 then (match decN s with
    | .error e => .error e
    | .ok (v, r) => .ok (⟨k, l, nx, v⟩, r)) else .ok (⟨k, l, nx, 0⟩, s)
def decBody (k : Nat) (s : List UInt8) : Dec Rec := match decItems s with
  | .error e => .error e
  | .ok (l, r) => match decNext r with
    | .error e => .error e
    | .ok (nx, r2) => decMark k l nx r2
def decM (s : List UInt8) : Dec Rec := match decN s with
  | .error e => .error e
  | .ok (k, r) => if k < 1 ∨ 5 < k then .error 3 else if bareK k then .ok (⟨k, [], noneL, 0⟩, r) else decBody k r
def decRec (s : List UInt8) : Except Int Rec := match decM s with
  | .error e => .error e
  | .ok (r, rest) => fin r rest
def Res.err {α : Type} : Except Int α → Int
  | .error e => e
  | .ok _ => 0

section
variable {m k : Nat} {p : Option Int} {s r r2 t : List UInt8} {e : Int}
theorem it_e1 (h : decN s = .error e) : decIt (m + 1) p s = .error e := by simp only [decIt, h]
theorem it_e2 (h : decN s = .ok (k, r)) (hl : late p k = true) : decIt (m + 1) p s = .error 3 := by simp only [decIt, h, hl, if_true]
theorem it_e3 (h : decN s = .ok (k, r)) (hl : late p k = false) (ht : decT r = .error e) : decIt (m + 1) p s = .error e := by simp [decIt, h, hl, ht]
theorem it_e4 (h : decN s = .ok (k, r)) (hl : late p k = false) (ht : decT r = .ok (t, r2)) (h64 : 64 < t.length) : decIt (m + 1) p s = .error 3 := by simp [decIt, h, hl, ht, h64]
theorem it_ok (h : decN s = .ok (k, r)) (hl : late p k = false) (ht : decT r = .ok (t, r2)) (h64 : ¬ 64 < t.length) : decIt (m + 1) p s = app [⟨k, mkB t⟩] (decIt m (some k) r2) := by simp [decIt, h, hl, ht, h64]
end
theorem app_err {α : Type} {l : List α} {d : Dec (List α)} {e : Int} (h : d = .error e) : app l d = .error e := by rw [h]; rfl
/-- the last key of the first i -/
def lastK (f : Nat → Itm) (i : Nat) : Option Int := if i = 0 then none else some (f (i - 1)).key
def firsts (f : Nat → Itm) (i : Nat) : List Itm := (List.range i).map f
def fSet (f : Nat → Itm) (i : Nat) (x : Itm) : Nat → Itm := fun t => if t = i then x else f t
theorem firsts_set (f : Nat → Itm) (i : Nat) (x : Itm) : firsts (fSet f i x) (i + 1) = firsts f i ++ [x] := by
  unfold firsts
  rw [List.range_succ, List.map_append]
  congr 1
  · apply List.map_congr_left
    intro t ht
    have := List.mem_range.1 ht
    simp [fSet, show ¬ t = i by omega]
  · simp [fSet]
theorem lastK_set (f : Nat → Itm) (i : Nat) (x : Itm) : lastK (fSet f i x) (i + 1) = some x.key := by
  simp [lastK, fSet]
theorem firsts_len (f : Nat → Itm) (i : Nat) : (firsts f i).length = i := by simp [firsts]
theorem firsts_get (f : Nat → Itm) (n : Nat) : ∀ t, t < n → itF (firsts f n) t = f t := by
  intro t ht
  simp [itF, firsts, List.getD, ht]
end Go.Proofs.Ythpbihppfijegaa

namespace Go.Proofs.Ythpbihppfijegaa
open Go.RowKit Sym
set_option linter.unusedVariables false
set_option linter.unusedSimpArgs false

/-- a record, its items as a function -/
structure RN where
  n : Nat
  f : Nat → Itm
  kd : Int
  nx : Lab
  mrk : Int
def RN.abs (r : RN) : Rec := ⟨r.kd, firsts r.f r.n, r.nx, r.mrk⟩
def Rec.rn (r : Rec) : RN := ⟨r.items.length, itF r.items, r.kind, r.next, r.mark⟩
theorem firsts_itF' (l : List Itm) : firsts (itF l) l.length = l := by
  apply List.ext_getElem
  · simp [firsts]
  · intro i h1 h2
    simp [firsts, itF, List.getD, h2]
theorem rn_abs (r : Rec) : r.rn.abs = r := by
  obtain ⟨k, l, nx, mk⟩ := r
  simp only [Rec.rn, RN.abs, firsts_itF']
theorem okF_congr' {f g : Nat → Itm} {n : Nat} (h : ∀ t, t < n → f t = g t) : okF f n = okF g n := by
  unfold okF
  rw [Bool.eq_iff_iff, List.all_eq_true, List.all_eq_true]
  have e : ∀ t, t < n → okAt f t = okAt g t := fun t ht => by
    unfold okAt
    rw [h t ht, h (t - 1) (by omega)]
  constructor
  · intro h1 t ht; rw [← e t (List.mem_range.1 ht)]; exact h1 t ht
  · intro h1 t ht; rw [e t (List.mem_range.1 ht)]; exact h1 t ht
theorem isR_abs (r : RN) : isR r.abs = isRF r.kd r.n r.f r.nx r.mrk := by
  unfold isR RN.abs
  simp only [firsts_len]
  rw [isRF_ref, isRF_ref, okF_congr' fun t ht => firsts_get r.f r.n t ht]
/-- a record at a label, or none, and its version -/
structure Spo where
  ver : Int
  has : Bool
  r : Rec
deriving DecidableEq
def zeroSpo : Spo := ⟨0, false, zeroRec⟩
abbrev Shf := List (Lab × Spo)
def lessL (a b : Lab) : Bool := decide (a.bits < b.bits) || (decide (a.bits = b.bits) && decide (a.len < b.len))
theorem lab_ext {a b : Lab} (h1 : a.len = b.len) (h2 : a.bits = b.bits) : a = b := by
  obtain ⟨x, y⟩ := a; obtain ⟨x', y'⟩ := b; simp only at h1 h2; rw [h1, h2]
theorem less_irr (a : Lab) : lessL a a = false := by simp [lessL]
theorem less_trans {a b c : Lab} (h1 : lessL a b = true) (h2 : lessL b c = true) : lessL a c = true := by
  simp only [lessL, Bool.or_eq_true, Bool.and_eq_true, decide_eq_true_eq] at *
  omega
theorem less_total (a b : Lab) : lessL a b = true ∨ a = b ∨ lessL b a = true := by
  simp only [lessL, Bool.or_eq_true, Bool.and_eq_true, decide_eq_true_eq]
  by_cases h1 : a.bits < b.bits
  · exact .inl (.inl h1)
  · by_cases h2 : b.bits < a.bits
    · exact .inr (.inr (.inl h2))
    · by_cases h3 : a.len < b.len
      · exact .inl (.inr ⟨by omega, h3⟩)
      · by_cases h4 : b.len < a.len
        · exact .inr (.inr (.inr ⟨by omega, h4⟩))
        · exact .inr (.inl (lab_ext (by omega) (by omega)))
theorem less_ne {a b : Lab} (h : lessL a b = true) : a ≠ b := by
  rintro rfl; rw [less_irr] at h; cases h
def Rises (L : Shf) : Prop := L.Pairwise fun a b => lessL a.1 b.1 = true
/-- the place of a label -/
def posL (l : Lab) : Shf → Nat
  | [] => 0
  | p :: L => if lessL p.1 l then posL l L + 1 else 0
def findL (l : Lab) : Shf → Option Spo
  | [] => none
  | p :: L => if p.1 = l then some p.2 else findL l L
/-- a label's spot is set -/
def putL (l : Lab) (x : Spo) : Shf → Shf
  | [] => [(l, x)]
  | p :: L => if lessL p.1 l then p :: putL l x L else if p.1 = l then (l, x) :: L else (l, x) :: p :: L
theorem posL_le (l : Lab) : ∀ L : Shf, posL l L ≤ L.length
  | [] => Nat.le_refl _
  | p :: L => by
    unfold posL
    split
    · have := posL_le l L; simp; omega
    · simp
theorem find_of_less {l : Lab} : ∀ {L : Shf}, (∀ p ∈ L, lessL l p.1 = true) → findL l L = none
  | [], _ => rfl
  | p :: L, h => by
    unfold findL
    rw [if_neg (fun e => less_ne (h p (by simp)) e.symm)]
    exact find_of_less fun q hq => h q (by simp [hq])
/-- at its place a label is found, or nowhere -/
theorem pos_hit {l : Lab} : ∀ {L : Shf}, Rises L → (∀ p, L[posL l L]? = some p → (if p.1 = l then findL l L = some p.2 else findL l L = none)) ∧ (L[posL l L]? = none → findL l L = none)
  | [], _ => ⟨fun p h => by simp at h, fun _ => rfl⟩
  | p :: L, h => by
    have h' := List.pairwise_cons.1 h
    unfold posL
    by_cases hp : lessL p.1 l = true
    · rw [if_pos hp]
      obtain ⟨g1, g2⟩ := pos_hit (l := l) h'.2
      simp only [List.getElem?_cons_succ]
      unfold findL
      rw [if_neg (less_ne hp)]
      exact ⟨g1, g2⟩
    · rw [if_neg hp]
      simp only [List.getElem?_cons_zero, Option.some.injEq]
      refine ⟨?_, fun h => by cases h⟩
      rintro q rfl
      unfold findL
      by_cases he : p.1 = l
      · rw [if_pos he, if_pos he]
      · rw [if_neg he, if_neg he]
        refine find_of_less fun q hq => ?_
        rcases less_total p.1 l with h1 | h1 | h1
        · exact absurd h1 hp
        · exact absurd h1 he
        · exact less_trans h1 (h'.1 q hq)
theorem find_put (l : Lab) (x : Spo) (l' : Lab) : ∀ L : Shf, findL l' (putL l x L) = if l = l' then some x else findL l' L
  | [] => by simp [putL, findL]
  | p :: L => by
    unfold putL
    split
    · rename_i hp
      unfold findL
      rw [find_put l x l' L]
      by_cases h1 : p.1 = l'
      · rw [if_pos h1, if_pos h1]
        by_cases h2 : l = l'
        · exact absurd (h1.trans h2.symm) (less_ne hp)
        · rw [if_neg h2]
      · rw [if_neg h1, if_neg h1]
    · split
      · rename_i _ hp
        unfold findL
        by_cases h2 : l = l'
        · rw [if_pos h2, if_pos h2]
        · rw [if_neg h2, if_neg h2, if_neg (by rw [hp]; exact h2)]
      · show (if l = l' then some x else findL l' (p :: L)) = _
        rfl
theorem put_len (l : Lab) (x : Spo) : ∀ {L : Shf}, Rises L → (putL l x L).length = if (findL l L).isSome then L.length else L.length + 1
  | [], _ => rfl
  | p :: L, h => by
    have h' := List.pairwise_cons.1 h
    unfold putL findL
    split
    · rename_i hp
      rw [if_neg (less_ne hp), List.length_cons, put_len l x h'.2]
      split <;> rfl
    · split
      · rfl
      · rename_i hp he
        rw [find_of_less fun q hq => ?_]
        · rfl
        · rcases less_total p.1 l with h1 | h1 | h1
          · exact absurd h1 hp
          · exact absurd h1 he
          · exact less_trans h1 (h'.1 q hq)
theorem put_mem {l : Lab} {x : Spo} : ∀ {L : Shf} {p : Lab × Spo}, p ∈ putL l x L → p = (l, x) ∨ p ∈ L
  | [], p, h => by simp [putL] at h; exact .inl h
  | q :: L, p, h => by
    unfold putL at h
    split at h
    · rcases List.mem_cons.1 h with rfl | h
      · exact .inr (by simp)
      · rcases put_mem h with h | h
        · exact .inl h
        · exact .inr (by simp [h])
    · split at h
      · rcases List.mem_cons.1 h with rfl | h
        · exact .inl rfl
        · exact .inr (by simp [h])
      · rcases List.mem_cons.1 h with rfl | h
        · exact .inl rfl
        · exact .inr h
theorem put_rises {l : Lab} {x : Spo} : ∀ {L : Shf}, Rises L → Rises (putL l x L)
  | [], _ => List.pairwise_singleton _ _
  | p :: L, h => by
    have h' := List.pairwise_cons.1 h
    unfold putL
    split
    · rename_i hp
      refine List.pairwise_cons.2 ⟨fun q hq => ?_, put_rises h'.2⟩
      rcases put_mem hq with rfl | hq
      · exact hp
      · exact h'.1 q hq
    · rename_i hp
      split
      · rename_i he
        exact List.pairwise_cons.2 ⟨fun q hq => by simp only; rw [← he]; exact h'.1 q hq, h'.2⟩
      · rename_i he
        have hl : lessL l p.1 = true := by
          rcases less_total p.1 l with h1 | h1 | h1
          · exact absurd h1 hp
          · exact absurd h1 he
          · exact h1
        refine List.pairwise_cons.2 ⟨fun q hq => ?_, h⟩
        rcases List.mem_cons.1 hq with rfl | hq
        · exact hl
        · exact less_trans hl (h'.1 q hq)
/-- putting, as it is written: what is ahead, the spot, what is behind -/
theorem put_split (l : Lab) (x : Spo) : ∀ L : Shf, putL l x L = L.take (posL l L) ++ (l, x) :: L.drop (if (L[posL l L]?).any (fun p => decide (p.1 = l)) then posL l L + 1 else posL l L)
  | [] => rfl
  | p :: L => by
    unfold putL posL
    by_cases hp : lessL p.1 l = true
    · rw [if_pos hp, if_pos hp, put_split l x L]
      simp only [List.getElem?_cons_succ, List.take_succ_cons, List.cons_append]
      congr 2
      congr 1
      split <;> simp
    · rw [if_neg hp, if_neg hp]
      by_cases he : p.1 = l
      · simp [he]
      · simp [he]
/-! ### rows, wants, answers -/
structure Rw where
  lab : Lab
  ver : Int
  r : Rec
deriving DecidableEq
def zeroRw : Rw := ⟨⟨0, 0⟩, 0, zeroRec⟩
/-- a shelf of rows, behind what was put ahead -/
def newL : List Rw → Shf → Option Shf
  | [], L => some L
  | w :: l, L => if (findL w.lab L).isSome || !isL w.lab || !isR w.r then none else newL l (putL w.lab ⟨w.ver, true, w.r⟩ L)
def newS (l : List Rw) : Option Shf := if 2000 < l.length then none else newL l []
structure Got where
  code : Int
  ver : Int
  has : Bool
  r : Rec
deriving DecidableEq
def zeroGot : Got := ⟨0, 0, false, zeroRec⟩
structure Wnt where
  kind : Int
  lab : Lab
  ver : Int
  r : Rec
structure Did where
  L : Shf
  wrote : Bool
  got : Got
  err : Int
def inc (v : Int) : Int := IntKind.u64.wrap (v + 1)
def nextSpo (w : Wnt) : Spo := ⟨inc w.ver, decide (w.kind = 2), if w.kind = 2 then w.r else zeroRec⟩
def spotOf (L : Shf) (l : Lab) : Spo := (findL l L).getD zeroSpo
def doL (L : Shf) (w : Wnt) : Did :=
  if (w.kind = 1 ∨ w.kind = 2 ∨ w.kind = 3) ∧ isL w.lab = true ∧ (w.kind = 2 → isR w.r = true) then
    (if w.kind = 1 then ⟨L, false, ⟨0, (spotOf L w.lab).ver, (spotOf L w.lab).has, (spotOf L w.lab).r⟩, 0⟩
    else if w.ver ≠ (spotOf L w.lab).ver then ⟨L, false, ⟨8, (spotOf L w.lab).ver, false, zeroRec⟩, 0⟩
    else if (findL w.lab L).isNone ∧ 2000 ≤ L.length then ⟨L, false, zeroGot, 12⟩
    else ⟨putL w.lab (nextSpo w) L, true, ⟨0, inc w.ver, false, zeroRec⟩, 0⟩)
  else ⟨L, false, zeroGot, 1⟩
def rowsL (L : Shf) : List Rw := (L.filter (fun p => p.2.has)).map fun p => ⟨p.1, p.2.ver, p.2.r⟩
end Go.Proofs.Ythpbihppfijegaa

namespace Go.Proofs.Ythpbihppfijegaa.Sym
open Go Go.RowKit
set_option linter.unusedVariables false
set_option linter.unusedSimpArgs false
set_option maxRecDepth 100000

/-- a record and where its items lie -/
structure RA where
  A : Option Addr
  c : Nat
  r : RN
abbrev recC (x : RA) : List AV := [.int .i64 x.r.kd, .sl none x.A x.r.n x.c 2 (fun i => itC (x.r.f i)), .int .i64 x.r.nx.len, .int .u64 x.r.nx.bits, .int .u64 x.r.mrk]
abbrev recV (x : RA) : AV := .agg (recC x)
def zRN : RN := ⟨0, fun _ => zeroItm, 0, ⟨0, 0⟩, 0⟩
def zRA : RA := ⟨none, 0, zRN⟩
structure RowA where
  lab : Lab
  ver : Int
  x : RA
abbrev rowC (w : RowA) : List AV := [.int .i64 w.lab.len, .int .u64 w.lab.bits, .int .u64 w.ver, .int .i64 w.x.r.kd, .sl none w.x.A w.x.r.n w.x.c 2 (fun i => itC (w.x.r.f i)), .int .i64 w.x.r.nx.len, .int .u64 w.x.r.nx.bits, .int .u64 w.x.r.mrk]
abbrev rowsV (A : Option Addr) (n c : Nat) (f : Nat → RowA) : AV := .sl none A n c 8 (fun i => rowC (f i))
def zRow : RowA := ⟨⟨0, 0⟩, 0, zRA⟩
structure SpA where
  w : RowA
  has : Bool
/-- the document's spot -/
abbrev spC (x : SpA) : List AV := [.int .i64 x.w.lab.len, .int .u64 x.w.lab.bits, .int .u64 x.w.ver, .int .i64 x.w.x.r.kd, .sl none x.w.x.A x.w.x.r.n x.w.x.c 2 (fun i => itC (x.w.x.r.f i)), .int .i64 x.w.x.r.nx.len, .int .u64 x.w.x.r.nx.bits, .int .u64 x.w.x.r.mrk, .bool (.v x.has)]
abbrev spsV (A : Option Addr) (n c : Nat) (g : Nat → SpA) : AV := .sl none A n c 9 (fun i => spC (g i))
/-- the program's spot -/
abbrev elC (x : SpA) : List AV := [.int .u64 x.w.ver, .bool (.v x.has), .int .i64 x.w.x.r.kd, .sl none x.w.x.A x.w.x.r.n x.w.x.c 2 (fun i => itC (x.w.x.r.f i)), .int .i64 x.w.x.r.nx.len, .int .u64 x.w.x.r.nx.bits, .int .u64 x.w.x.r.mrk]
def zSp : SpA := ⟨zRow, false⟩
structure GotA where
  code : Int
  ver : Int
  has : Bool
  x : RA
abbrev gotC (g : GotA) : List AV := [.int .i64 g.code, .int .u64 g.ver, .bool (.v g.has), .int .i64 g.x.r.kd, .sl none g.x.A g.x.r.n g.x.c 2 (fun i => itC (g.x.r.f i)), .int .i64 g.x.r.nx.len, .int .u64 g.x.r.nx.bits, .int .u64 g.x.r.mrk]
abbrev gotV (g : GotA) : AV := .agg (gotC g)
def zGot : GotA := ⟨0, 0, false, zRA⟩
structure ResA where
  code : Int
  had : Bool
  val : ByteArray
  A : Option Addr
  n : Nat
  c : Nat
  f : Nat → Itm
  key : Int
  more : Bool
structure WntA where
  kind : Int
  lab : Lab
  ver : Int
  x : RA
  s : ResA
abbrev wntC (w : WntA) : List AV := [.int .i64 w.kind, .int .i64 w.lab.len, .int .u64 w.lab.bits, .int .u64 w.ver, .int .i64 w.x.r.kd, .sl none w.x.A w.x.r.n w.x.c 2 (fun i => itC (w.x.r.f i)), .int .i64 w.x.r.nx.len, .int .u64 w.x.r.nx.bits, .int .u64 w.x.r.mrk, .int .i64 w.s.code, .bool (.v w.s.had), .str w.s.val, .sl none w.s.A w.s.n w.s.c 2 (fun i => itC (w.s.f i)), .int .u64 w.s.key, .bool (.v w.s.more)]
abbrev wntV (w : WntA) : AV := .agg (wntC w)
/-! ### what they say -/
def RowA.abs (w : RowA) : Rw := ⟨w.lab, w.ver, w.x.r.abs⟩
def SpA.abs (x : SpA) : Lab × Spo := (x.w.lab, ⟨x.w.ver, x.has, x.w.x.r.abs⟩)
def GotA.abs (g : GotA) : Got := ⟨g.code, g.ver, g.has, g.x.r.abs⟩
def WntA.abs (w : WntA) : Wnt := ⟨w.kind, w.lab, w.ver, w.x.r.abs⟩
def listA {α β : Type} (h : α → β) (g : Nat → α) (n : Nat) : List β := (List.range n).map fun i => h (g i)
theorem listA_len {α β : Type} (h : α → β) (g : Nat → α) (n : Nat) : (listA h g n).length = n := by simp [listA]
theorem listA_get {α β : Type} (h : α → β) (g : Nat → α) {n i : Nat} (hi : i < n) : (listA h g n)[i]? = some (h (g i)) := by simp [listA, hi]
theorem listA_succ {α β : Type} (h : α → β) (g : Nat → α) (n : Nat) : listA h g (n + 1) = listA h g n ++ [h (g n)] := by simp [listA, List.range_succ]
abbrev shfA (g : Nat → SpA) (n : Nat) : Shf := listA SpA.abs g n
abbrev rwsA (f : Nat → RowA) (n : Nat) : List Rw := listA RowA.abs f n
theorem SimL.length : ∀ {l l' : List AV}, SimL l l' → l.length = l'.length
  | [], [], _ => rfl
  | v :: l, v' :: l', h => by simp only [List.length_cons, SimL.length h.2]
  | [], _ :: _, h => h.elim
  | _ :: _, [], h => h.elim
/-- a row whose elements are told in other words -/
theorem Sim.rows {g g' : Option Nat} {A : Option Addr} {n n' c k : Nat} {f f' : Nat → List AV} (hn : n = n') (he : ∀ i, i < n' → SimL (f i) (f' i)) : Sim (.sl g A n c k f) (.sl g' A n' c k f') := by
  subst hn
  refine ⟨rfl, fun _ => rfl, fun m w h => ?_⟩
  cases h with
  | sl _ _ _ _ _ _ h1 h2 h3 h4 h5 h6 h7 =>
    exact .sl _ _ _ _ _ _ h1 h2 (fun i hi => by rw [← (he i hi).length]; exact h3 i hi) h4 (fun i hi => by rw [← (he i hi).map]; exact h5 i hi) (fun i hi => (he i hi).one (h6 i hi)) (fun i hi => (he i hi).ok (h7 i hi))
/-- the first block in other words -/
theorem Fits.memS {C : Cx} {nt : Nat} {l : List (Nat × AV)} {mem : List (Nat × Blk)} {gr : List (Nat × Gr)} {a : Act} {w : World} {k b ty : Nat} {cells cells' : List AV} (h : Fits C ⟨nt, l, [], (k, ⟨b, ty, cells⟩) :: mem, gr⟩ a w) (e : SimL cells cells') : Fits C ⟨nt, l, [], (k, ⟨b, ty, cells'⟩) :: mem, gr⟩ a w := by
  have hto : ∀ k' e', lookM ((k, (⟨b, ty, cells'⟩ : Blk)) :: mem) k' = some e' → ∃ e0, lookM ((k, (⟨b, ty, cells⟩ : Blk)) :: mem) k' = some e0 ∧ e0.at_ = e'.at_ ∧ e0.ty = e'.ty ∧ SimL e0.cells e'.cells := by
    intro k' e' he
    simp only [lookM] at he ⊢
    split at he
    · rename_i hk; injection he with he; subst he; exact ⟨⟨b, ty, cells⟩, by rw [if_pos hk], rfl, rfl, e⟩
    · rename_i hk; exact ⟨e', by rw [if_neg hk]; exact he, rfl, rfl, SimL.refl _⟩
  have hfro : ∀ k' e', lookM ((k, (⟨b, ty, cells⟩ : Blk)) :: mem) k' = some e' → ∃ e0, lookM ((k, (⟨b, ty, cells'⟩ : Blk)) :: mem) k' = some e0 ∧ e0.at_ = e'.at_ := by
    intro k' e' he
    simp only [lookM] at he ⊢
    split at he
    · rename_i hk; injection he with he; subst he; exact ⟨⟨b, ty, cells'⟩, by rw [if_pos hk], rfl⟩
    · rename_i hk; exact ⟨e', by rw [if_neg hk]; exact he, rfl⟩
  have hm : St.m ⟨nt, l, [], (k, ⟨b, ty, cells'⟩) :: mem, gr⟩ C = St.m ⟨nt, l, [], (k, ⟨b, ty, cells⟩) :: mem, gr⟩ C := by
    funext x o
    apply propext
    constructor
    · rintro (h | ⟨k', e', he, hx⟩ | h)
      · exact .inl h
      · obtain ⟨e0, h1, h2, _⟩ := hto k' e' he
        exact .inr (.inl ⟨k', e0, h1, h2.trans hx⟩)
      · exact .inr (.inr h)
    · rintro (h | ⟨k', e', he, hx⟩ | h)
      · exact .inl h
      · obtain ⟨e0, h1, h2⟩ := hfro k' e' he
        exact .inr (.inl ⟨k', e0, h1, h2.trans hx⟩)
      · exact .inr (.inr h)
  refine ⟨h.size, h.defers, fun t ht => by rw [hm]; exact h.slot t ht, fun t p v he hk => (by cases he), fun k' e' he => ?_, fun k1 k2 e1 e2 h1 h2 hne => ?_, h.gr, fun k1 t k2 e2 h1 h2 => ?_, h.sepg, h.chg, h.m0, by rw [hm]; exact h.kept⟩
  · rw [hm]
    obtain ⟨e0, h1, h2, h3, h4⟩ := hto k' e' he
    obtain ⟨g1, g2, g3⟩ := h.mem k' e0 h1
    refine ⟨?_, fun v hv => ⟨h4.one (fun v hv => (g2 v hv).1) v hv, h4.ok (fun v hv => (g2 v hv).2) v hv⟩, by rw [← h2]; exact g3⟩
    rw [← h2, ← h3, ← h4.map]; exact g1
  · obtain ⟨a1, b1, c1, _⟩ := hto k1 e1 h1
    obtain ⟨a2, b2, c2, _⟩ := hto k2 e2 h2
    rw [← c1, ← c2]
    exact h.nodup k1 k2 a1 a2 b1 b2 hne
  · obtain ⟨a2, b2, c2, _⟩ := hto k2 e2 h2
    rw [← c2]
    exact h.sepm k1 t k2 a2 h1 b2
/-- a growing row's length in other words -/
theorem Fits.regr {C : Cx} {nt : Nat} {l : List (Nat × AV)} {mem : List (Nat × Blk)} {k : Nat} {A : Option Addr} {n n' c kk e : Nat} {gr : List (Nat × Gr)} {a : Act} {w : World} (h : Fits C ⟨nt, l, [], mem, (k, ⟨A, n, c, kk, e⟩) :: gr⟩ a w) (hn : n = n') : Fits C ⟨nt, l, [], mem, (k, ⟨A, n', c, kk, e⟩) :: gr⟩ a w := hn ▸ h
/-- the place of a label, by what lies ahead of it -/
theorem posL_of {l : Lab} : ∀ {L : Shf} {p : Nat}, p ≤ L.length → (∀ i q, i < p → L[i]? = some q → lessL q.1 l = true) → (∀ q, L[p]? = some q → lessL q.1 l = false) → posL l L = p
  | [], p, h, _, _ => by simp at h; subst h; rfl
  | q :: L, 0, _, _, h2 => by
    unfold posL
    rw [h2 q rfl]; rfl
  | q :: L, p + 1, h, h1, h2 => by
    unfold posL
    rw [h1 0 q (by omega) rfl]
    simp only [if_true]
    rw [posL_of (p := p) (by simpa using h) (fun i q hi hq => h1 (i + 1) q (by omega) (by simpa using hq)) (fun q hq => h2 q (by simpa using hq))]
/-- is a label at its place? -/
def hitL (l : Lab) (L : Shf) : Bool := (L[posL l L]?).any fun p => decide (p.1 = l)
theorem hit_find {l : Lab} {L : Shf} (h : Rises L) : hitL l L = (findL l L).isSome := by
  obtain ⟨h1, h2⟩ := pos_hit (l := l) h
  unfold hitL
  cases hg : L[posL l L]? with
  | none => rw [h2 hg]; rfl
  | some p =>
    have := h1 p hg
    simp only [Option.any_some]
    by_cases he : p.1 = l
    · rw [if_pos he] at this; rw [this]; simp [he]
    · rw [if_neg he] at this; rw [this]; simp [he]
/-- a row with a spot set -/
def putG (g : Nat → SpA) (p : Nat) (x : SpA) (h : Nat) : Nat → SpA := fun i => if i < p then g i else if i = p then x else g (i - 1 + h)
theorem putG_list {g : Nat → SpA} {n p h : Nat} (x : SpA) (hp : p + h ≤ n) (hh : h ≤ 1) : shfA (putG g p x h) (n + 1 - h) = (shfA g n).take p ++ x.abs :: (shfA g n).drop (p + h) := by
  apply List.ext_getElem?
  intro i
  by_cases hi : i < n + 1 - h
  · rw [listA_get _ _ hi]
    have hlt : ((shfA g n).take p).length = p := by rw [List.length_take, listA_len]; omega
    by_cases h1 : i < p
    · rw [List.getElem?_append_left (by rw [hlt]; exact h1), List.getElem?_take, if_pos h1, listA_get _ _ (by omega)]
      simp [putG, h1]
    · rw [List.getElem?_append_right (by rw [hlt]; omega), hlt]
      by_cases h2 : i = p
      · subst h2; simp [putG]
      · rw [show i - p = (i - p - 1) + 1 by omega, List.getElem?_cons_succ, List.getElem?_drop, listA_get _ _ (by omega)]
        simp only [putG, h1, h2, if_false]
        rw [show p + h + (i - p - 1) = i - 1 + h by omega]
  · have hl : ((shfA g n).take p ++ x.abs :: (shfA g n).drop (p + h)).length = n + 1 - h := by
      simp only [List.length_append, List.length_take, List.length_cons, List.length_drop, listA_len]; omega
    rw [List.getElem?_eq_none (by rw [listA_len]; omega), List.getElem?_eq_none (by rw [hl]; omega)]
theorem putG_put {g : Nat → SpA} {n : Nat} (x : SpA) {L : Shf} (hL : L = shfA g n) : shfA (putG g (posL x.w.lab L) x (if hitL x.w.lab L then 1 else 0)) (n + 1 - (if hitL x.w.lab L then 1 else 0)) = putL x.w.lab ⟨x.w.ver, x.has, x.w.x.r.abs⟩ L := by
  have hle : posL x.w.lab L ≤ n := by have := posL_le x.w.lab L; rw [hL, listA_len] at this; rw [hL]; exact this
  have hlt : hitL x.w.lab L = true → posL x.w.lab L < n := by
    intro h
    unfold hitL at h
    cases hg : L[posL x.w.lab L]? with
    | none => rw [hg] at h; cases h
    | some p => have := (List.getElem?_eq_some_iff.1 hg).1; rw [hL, listA_len] at this; rw [hL]; exact this
  rw [putG_list x (by split <;> rename_i hh; have := hlt hh; omega; omega) (by split <;> omega), put_split, ← hL]
  unfold hitL
  cases ((L[posL x.w.lab L]?).any fun p => decide (p.1 = x.w.lab)) <;> rfl
/-! ### one form for what is known but for its place -/
theorem rn_sim (A : Option Addr) (c : Nat) {r r' : RN} (h : r.abs = r'.abs) : SimL (recC ⟨A, c, r⟩) (recC ⟨A, c, r'⟩) := by
  obtain ⟨n, f, kd, nx, mrk⟩ := r
  obtain ⟨n', f', kd', nx', mrk'⟩ := r'
  simp only [RN.abs, Rec.mk.injEq] at h
  obtain ⟨rfl, h2, rfl, rfl⟩ := h
  have hn : n = n' := by rw [← firsts_len f n, h2, firsts_len]
  subst hn
  refine ⟨Sim.refl _, Sim.recell (fun t ht => ?_), Sim.refl _, Sim.refl _, Sim.refl _, trivial⟩
  show itC (f t) = itC (f' t)
  rw [← firsts_get f n t ht, h2, firsts_get f' n t ht]
theorem abs_rn (r : Rec) : r.rn.abs = r := rn_abs r
def spoA (y : Atom) (i : Nat) (p : Lab × Spo) : SpA := ⟨⟨p.1, p.2.ver, ⟨y.A i, y.c i, p.2.r.rn⟩⟩, p.2.has⟩
theorem spoA_abs (y : Atom) (i : Nat) (p : Lab × Spo) : (spoA y i p).abs = p := by
  obtain ⟨l, v, h, r⟩ := p
  simp only [spoA, SpA.abs, abs_rn]
def spAt (y : Atom) (L : Shf) (i : Nat) : SpA := spoA y (i + 2) (L.getD i (⟨0, 0⟩, zeroSpo))
theorem shfA_spAt (y : Atom) (L : Shf) : shfA (spAt y L) L.length = L := by
  apply List.ext_getElem
  · simp [listA]
  · intro i h1 h2
    simp only [listA, List.getElem_map, List.getElem_range, spAt, spoA_abs]
    simp [List.getD, h2]
theorem shfA_at {g : Nat → SpA} {n : Nat} {L : Shf} (h : shfA g n = L) {i : Nat} (hi : i < n) : (g i).abs = L.getD i (⟨0, 0⟩, zeroSpo) := by
  rw [← h]; simp [List.getD, listA_get SpA.abs g hi]
def spY (A : Option Addr) (c : Nat) (g : Nat → SpA) (A1 : Option Addr) (c1 : Nat) (b : Nat) : Atom := ⟨b, fun j => match j with | 0 => A | 1 => A1 | j + 2 => (g j).w.x.A, fun j => match j with | 0 => c | 1 => c1 | j + 2 => (g j).w.x.c, fun _ => ⟨#[]⟩⟩
/-- a row of spots in the one form -/
theorem sps_sim {A A1 : Option Addr} {n c c1 b : Nat} {g : Nat → SpA} {L : Shf} (h : shfA g n = L) {gg : Option Nat} : Sim (.sl gg A n c 9 (fun i => spC (g i))) (spsV A L.length c (spAt (spY A c g A1 c1 b) L)) := by
  have hn : n = L.length := by rw [← h, listA_len]
  refine Sim.rows hn fun i hi => ?_
  have e : spAt (spY A c g A1 c1 b) L i = spoA (spY A c g A1 c1 b) (i + 2) (L.getD i (⟨0, 0⟩, zeroSpo)) := rfl
  rw [e, ← shfA_at h (show i < n by omega)]
  have hr := rn_sim (g i).w.x.A (g i).w.x.c (r := (g i).w.x.r) (r' := (g i).w.x.r.abs.rn) (abs_rn _).symm
  exact ⟨Sim.refl _, Sim.refl _, Sim.refl _, hr.1, hr.2.1, hr.2.2.1, hr.2.2.2.1, hr.2.2.2.2.1, Sim.refl _, trivial⟩
def gotA (y : Atom) (g : Got) : GotA := ⟨g.code, g.ver, g.has, ⟨y.A 1, y.c 1, g.r.rn⟩⟩
theorem got_sim {A A1 : Option Addr} {c c1 b : Nat} {g : Nat → SpA} {v : GotA} {G : Got} (h : v.abs = G) (hA : v.x.A = A1) (hc : v.x.c = c1) : SimL (gotC v) (gotC (gotA (spY A c g A1 c1 b) G)) := by
  subst h; subst hA; subst hc
  have hr := rn_sim v.x.A v.x.c (r := v.x.r) (r' := v.x.r.abs.rn) (abs_rn _).symm
  exact ⟨Sim.refl _, Sim.refl _, Sim.refl _, hr.1, hr.2.1, hr.2.2.1, hr.2.2.2.1, hr.2.2.2.2.1, trivial⟩
def rwAt (y : Atom) (R : List Rw) (i : Nat) : RowA := ⟨(R.getD i zeroRw).lab, (R.getD i zeroRw).ver, ⟨y.A (i + 2), y.c (i + 2), (R.getD i zeroRw).r.rn⟩⟩
theorem rwsA_rwAt (y : Atom) (R : List Rw) : rwsA (rwAt y R) R.length = R := by
  apply List.ext_getElem
  · simp [listA]
  · intro i h1 h2
    simp only [listA, List.getElem_map, List.getElem_range, rwAt, RowA.abs, abs_rn]
    simp [List.getD, h2]
def rwY (A : Option Addr) (c : Nat) (f : Nat → RowA) (b : Nat) : Atom := ⟨b, fun j => match j with | 0 => A | 1 => none | j + 2 => (f j).x.A, fun j => match j with | 0 => c | 1 => 0 | j + 2 => (f j).x.c, fun _ => ⟨#[]⟩⟩
theorem rwsA_at {f : Nat → RowA} {n : Nat} {R : List Rw} (h : rwsA f n = R) {i : Nat} (hi : i < n) : (f i).abs = R.getD i zeroRw := by
  rw [← h]; simp [List.getD, listA_get RowA.abs f hi]
theorem rws_sim {A : Option Addr} {n c b : Nat} {f : Nat → RowA} {R : List Rw} (h : rwsA f n = R) {gg : Option Nat} : Sim (.sl gg A n c 8 (fun i => rowC (f i))) (rowsV A R.length c (rwAt (rwY A c f b) R)) := by
  have hn : n = R.length := by rw [← h, listA_len]
  refine Sim.rows hn fun i hi => ?_
  have e : rwAt (rwY A c f b) R i = ⟨(R.getD i zeroRw).lab, (R.getD i zeroRw).ver, ⟨(f i).x.A, (f i).x.c, (R.getD i zeroRw).r.rn⟩⟩ := rfl
  rw [e, ← rwsA_at h (show i < n by omega)]
  have hr := rn_sim (f i).x.A (f i).x.c (r := (f i).x.r) (r' := (f i).x.r.abs.rn) (abs_rn _).symm
  exact ⟨Sim.refl _, Sim.refl _, Sim.refl _, hr.1, hr.2.1, hr.2.2.1, hr.2.2.2.1, hr.2.2.2.2.1, trivial⟩
theorem ok_cell {m : Nat → Nat → Prop} {w : World} {g : Option Nat} {A : Option Addr} {n c k : Nat} {cells : Nat → List AV} (h : Ok m w (.sl g A n c k cells)) {i : Nat} (hi : i < n) : ∀ v ∈ cells i, Ok m w v := by
  cases h with | sl _ _ _ _ _ _ h1 h2 h3 h4 h5 h6 h7 => exact h7 i hi
theorem rows_len {m : Nat → Nat → Prop} {w : World} {g : Option Nat} {A : Option Addr} {n c : Nat} {f : Nat → RowA} (h : Ok m w (.sl g A n c 8 (fun i => rowC (f i)))) : ∀ i, i < n → (f i).x.r.n ≤ maxLen := by
  intro i hi
  have := ok_len (ok_cell h hi (.sl none (f i).x.A (f i).x.r.n (f i).x.c 2 (fun t => itC ((f i).x.r.f t))) (by simp))
  omega
theorem rowsL_succ (g : Nat → SpA) (i : Nat) : rowsL (shfA g (i + 1)) = rowsL (shfA g i) ++ if (g i).has = true then [(g i).w.abs] else [] := by
  rw [show shfA g (i + 1) = shfA g i ++ [(g i).abs] from listA_succ _ _ _]
  unfold rowsL
  rw [List.filter_append, List.map_append]
  congr 1
  simp only [List.filter_cons, List.filter_nil]
  show List.map _ (if (g i).has = true then _ else _) = _
  split <;> rfl
/-- the same records, as the code tells it -/
theorem sameF_abs (n : Nat) (f : Nat → Itm) (n2 : Nat) (f2 : Nat → Itm) : sameF n f n2 f2 = decide (firsts f n = firsts f2 n2) := by
  by_cases h : firsts f n = firsts f2 n2
  · have hn : n = n2 := by rw [← firsts_len f n, h, firsts_len]
    rw [decide_eq_true h, sameF_yes hn]
    intro i hi
    rw [← firsts_get f n i hi, h, firsts_get f2 n2 i (by omega)]
  · rw [decide_eq_false h]
    by_cases hn : n = n2
    · subst hn
      by_cases he : ∀ i, i < n → f i = f2 i
      · exfalso; apply h; unfold firsts; exact List.map_congr_left fun t ht => he t (List.mem_range.1 ht)
      · obtain ⟨i, hi⟩ := Classical.not_forall.1 he
        obtain ⟨hi, hne⟩ := Classical.not_imp.1 hi
        exact sameF_no hi hne
    · unfold sameF; rw [decide_eq_false hn]; rfl
theorem sameR_abs (r r2 : RN) : sameRF r.kd r.n r.f r.nx r.mrk r2.kd r2.n r2.f r2.nx r2.mrk = decide (r.abs = r2.abs) := by
  unfold sameRF
  rw [sameF_abs]
  unfold RN.abs
  simp only [Rec.mk.injEq]
  by_cases h1 : r.kd = r2.kd <;> by_cases h2 : firsts r.f r.n = firsts r2.f r2.n <;> by_cases h3 : r.nx = r2.nx <;> by_cases h4 : r.mrk = r2.mrk <;> simp [h1, h2, h3, h4]
/-! ### too big -/
def sumW (f : Nat → RowA) : Nat → Int
  | 0 => 0
  | i + 1 => IntKind.i64.wrap (sumW f i + ((f i).x.r.n : Int))
def anyB (f : Nat → RowA) (n : Nat) : Bool := (List.range n).any fun i => bigF (f i).x.r.n (f i).x.r.f
def bigS (n : Nat) (f : Nat → RowA) : Bool := decide (300 < n) || anyB f n || decide (3000 < sumW f n)
theorem anyB_false {f : Nat → RowA} {n : Nat} (h : anyB f n = false) : ∀ i, i < n → bigF (f i).x.r.n (f i).x.r.f = false := by
  intro i hi
  unfold anyB at h
  rw [List.any_eq_false] at h
  simpa using h i (List.mem_range.2 hi)
theorem anyB_true {f : Nat → RowA} {n i : Nat} (hi : i < n) (h : bigF (f i).x.r.n (f i).x.r.f = true) : anyB f n = true := List.any_eq_true.2 ⟨i, List.mem_range.2 hi, h⟩
theorem anyB_none {f : Nat → RowA} {n : Nat} (h : ∀ i, i < n → bigF (f i).x.r.n (f i).x.r.f = false) : anyB f n = false := by
  unfold anyB
  rw [List.any_eq_false]
  intro i hi
  simp [h i (List.mem_range.1 hi)]
theorem bigF_len {n : Nat} {f : Nat → Itm} (h : bigF n f = false) : n ≤ 40 := by
  unfold bigF at h
  simp only [Bool.or_eq_false_iff, decide_eq_false_iff_not] at h
  omega
theorem newL_step {f : Nat → RowA} {n i : Nat} {L : Shf} (hi : i < n) : newL ((rwsA f n).drop i) L = if (findL (f i).lab L).isSome || !isL (f i).lab || !isR (f i).x.r.abs then none else newL ((rwsA f n).drop (i + 1)) (putL (f i).lab ⟨(f i).ver, true, (f i).x.r.abs⟩ L) := by
  have hl : i < (rwsA f n).length := by rw [listA_len]; exact hi
  have e : (rwsA f n).drop i = (f i).abs :: (rwsA f n).drop (i + 1) := by
    rw [List.drop_eq_getElem_cons hl]
    congr 1
    simp [listA]
  rw [e]
  rfl
theorem zRA_zero : zRN.abs = zeroRec := rfl
end Go.Proofs.Ythpbihppfijegaa.Sym

namespace Go.Proofs.Ythpbihppfijegaa.Sym
open Go Go.RowKit
set_option linter.unusedVariables false
set_option linter.unusedSimpArgs false
set_option maxRecDepth 100000

/-! ### labels as keys -/
theorem lab_laid : laidOutB Try.prog = true := by kernel_rfl
theorem lab_row : (36 : TypeId) < Try.prog.types.size := of_decide_eq_true (by kernel_rfl)
theorem lab_wide : (match Try.prog.underlying 36 with | some (.array _ _) | some (.struct _) => true | _ => false) = true := by kernel_rfl
theorem lab_law : WideMaps.KeyLaw Try.prog 36 := deep_law_laid lab_laid (m := 2) (by omega) lab_row (by kernel_rfl) lab_wide
theorem labK : Maps.Keyed Try.prog 36 := Maps.Keyed.of_law lab_law
theorem map_und : ∃ e, e = 70 ∧ Try.prog.underlying 66 = some (.map 36 e) := ⟨_, rfl, by kernel_rfl⟩
theorem map_und' : Try.prog.underlying 66 = some (.map 36 70) := by kernel_rfl
def I64 (x : Int) : Prop := -9223372036854775808 ≤ x ∧ x ≤ 9223372036854775807
def LabOk (l : Lab) : Prop := (Lit.int .i64 l.len).wf = true ∧ (Lit.int .u64 l.bits).wf = true
def keyL (l : Lab) : Lit := .string (keyBytes [.int .i64 l.len, .int .u64 l.bits])
theorem key_lab {l : Lab} (h : LabOk l) : Go.keyOf Try.prog 36 (labAV l).den = some (keyL l) := by
  obtain ⟨h1, h2⟩ := h
  have hu : Try.prog.underlying 36 = some (.struct _) := Try.underlying36
  have hi : Try.prog.underlying 3 = some (.int .i64) := by kernel_rfl
  have hb : Try.prog.underlying 33 = some (.int .u64) := by kernel_rfl
  have hk : Try.prog.keyType 36 = true := by kernel_rfl
  have hc : Try.prog.cellsOf 36 = 2 := by kernel_rfl
  have hci : Try.prog.cellsOf 3 = 1 := by kernel_rfl
  have hcb : Try.prog.cellsOf 33 = 1 := by kernel_rfl
  obtain ⟨m, hm⟩ := Nat.exists_eq_succ_of_ne_zero (n := Try.prog.types.size) (by have := lab_row; intro h; rw [h] at this; exact absurd this (Nat.not_lt_zero _))
  simp [Go.keyOf, hu, hk, Value.formed, hc, labAV, AV.den, AV.denL, hm, Program.keyLits, Value.cells, hci, hcb, hi, hb, h1, h2, keyL]
theorem keyL_inj {l l' : Lab} (h : LabOk l) (h' : LabOk l') (e : keyL l = keyL l') : l = l' := by
  have := labK.inj (key_lab h) (e ▸ key_lab h')
  simp [labAV, AV.den, AV.denL] at this
  exact lab_ext this.1 this.2
/-! ### maps -/
theorem mapW_fun {P : Program} {K : TypeId} {w : World} {b n n' : Nat} {D D' : DataW Value} (h : MapW P K w b n D) (h' : MapW P K w b n' D') : D = D' := by
  obtain ⟨es, cl, hb, F, hs, hD⟩ := h
  obtain ⟨es', cl', hb', F', hs', hD'⟩ := h'
  rw [hb] at hb'
  injection hb' with hb'; injection hb' with e1 e2
  subst e1
  rw [hD, hD']
theorem mapW_size {P : Program} {K : TypeId} {w : World} {b n : Nat} {D : DataW Value} (h : MapW P K w b n D) : MapW P K w b (Maps.size D) D := by
  obtain ⟨es, cl, hb, F, hs, hD⟩ := h
  refine ⟨es, cl, hb, F, ?_, hD⟩
  rw [hD]
  simp [Maps.size, length_sorted]
abbrev Adr := Lab → Option Addr × Nat
abbrev elA (E : Adr) (l : Lab) (x : Spo) : SpA := ⟨⟨l, x.ver, ⟨(E l).1, (E l).2, x.r.rn⟩⟩, x.has⟩
/-- block b is a map that holds the shelf L -/
structure ShD (D : DataW Value) (E : Adr) (b : Nat) (L : Shf) (m : Nat → Nat → Prop) (w : World) : Prop where
  map : MapW Try.prog 36 w b L.length D
  ris : Rises L
  labs : ∀ p ∈ L, LabOk p.1
  has : ∀ kl, Maps.has D kl = true ↔ ∃ p ∈ L, keyL p.1 = kl
  size : Maps.size D = L.length
  at_ : ∀ p ∈ L, ∀ zd, D.atKey (keyL p.1) zd = .held (AV.agg (elC (elA E p.1 p.2))).den
  ok : ∀ p ∈ L, Ok m w (.agg (elC (elA E p.1 p.2)))
theorem ShD.keepB {D : DataW Value} {E : Adr} {b : Nat} {L : Shf} {m m' : Nat → Nat → Prop} {w w' : World} {bo : Option Nat} (h : ShD D E b L m w) (k : KeepB bo w m w' m') (hb : bo ≠ some b) : ShD D E b L m' w' :=
  ⟨mapW_keepB k hb h.map, h.ris, h.labs, h.has, h.size, h.at_, fun p hp => k.ok (h.ok p hp)⟩
theorem ShD.keep {D : DataW Value} {E : Adr} {b : Nat} {L : Shf} {m m' : Nat → Nat → Prop} {w w' : World} (h : ShD D E b L m w) (k : Keep w m w' m') : ShD D E b L m' w' :=
  ⟨mapW_keep k h.map, h.ris, h.labs, h.has, h.size, h.at_, fun p hp => k.ok (h.ok p hp)⟩
def shD (D : DataW Value) (E : Adr) (b : Nat) (L : Shf) : Kn := ⟨ShD D E b L, fun k h => h.keep k⟩
def shK (b : Nat) (L : Shf) : Kn := ⟨fun m w => ∃ D E, ShD D E b L m w, fun k ⟨D, E, h⟩ => ⟨D, E, h.keep k⟩⟩
def shF (N b : Nat) (L : Shf) : Kn := ⟨fun m w => N ≤ b ∧ (shK b L).p m w, fun k h => ⟨h.1, (shK b L).st k h.2⟩⟩
theorem find_mem {l : Lab} {x : Spo} : ∀ {L : Shf}, findL l L = some x → (l, x) ∈ L
  | p :: L, h => by
    unfold findL at h
    split at h
    · rename_i he; injection h with h; subst h; subst he; exact List.mem_cons_self ..
    · exact List.mem_cons_of_mem _ (find_mem h)
theorem mem_find {p : Lab × Spo} : ∀ {L : Shf}, Rises L → p ∈ L → findL p.1 L = some p.2
  | q :: L, h, hp => by
    have h' := List.pairwise_cons.1 h
    unfold findL
    rcases List.mem_cons.1 hp with rfl | hp
    · rw [if_pos rfl]
    · rw [if_neg (less_ne (h'.1 p hp))]
      exact mem_find h'.2 hp
def zeroEl : Value := .agg #[.int .u64 0, .bool false, .int .i64 0, .slice none 0 0, .int .i64 0, .int .u64 0, .int .u64 0]
theorem zeroEl_run (w : World) : (zeroValue 70).run Try.prog w = .ok zeroEl w := by kernel_rfl
section
variable {D : DataW Value} {E : Adr} {b : Nat} {L : Shf} {m : Nat → Nat → Prop} {w : World} {l : Lab}
theorem ShD.hasL (h : ShD D E b L m w) (hl : LabOk l) : Maps.has D (keyL l) = (findL l L).isSome := by
  cases hf : findL l L with
  | some x => exact (h.has _).2 ⟨(l, x), find_mem hf, rfl⟩
  | none =>
    rw [Option.isSome_none, Bool.eq_false_iff]
    intro hh
    obtain ⟨p, hp, he⟩ := (h.has _).1 hh
    have : p.1 = l := keyL_inj (h.labs p hp) hl he
    rw [← this, mem_find h.ris hp] at hf
    cases hf
/-- where a label is not there -/
def adr (E : Adr) (L : Shf) : Adr := fun l => if (findL l L).isSome then E l else (none, 0)
theorem elA_zero (E : Adr) (hn : findL l L = none) : AV.den (.agg (elC (elA (adr E L) l (spotOf L l)))) = zeroEl ∧ ∀ m w, Ok m w (.agg (elC (elA (adr E L) l (spotOf L l)))) := by
  have e1 : spotOf L l = zeroSpo := by unfold spotOf; rw [hn]; rfl
  have e2 : adr E L l = (none, 0) := by unfold adr; rw [hn]; rfl
  unfold elA
  rw [e1, e2]
  refine ⟨rfl, fun m w => .agg _ (fun v hv => ?_) fun v hv => ?_⟩
  · simp only [elC, List.mem_cons, List.not_mem_nil, or_false] at hv
    rcases hv with rfl | rfl | rfl | rfl | rfl | rfl | rfl <;> rfl
  · simp only [elC, List.mem_cons, List.not_mem_nil, or_false] at hv
    rcases hv with rfl | rfl | rfl | rfl | rfl | rfl | rfl
    · exact .int _ _
    · exact .bool _
    · exact .int _ _
    · exact .sl _ _ _ _ _ _ (Nat.le_refl _) (Nat.zero_le _) (fun i hi => absurd hi (Nat.not_lt_zero _)) (fun i hi => absurd hi (Nat.not_lt_zero _)) (fun i hi => absurd hi (Nat.not_lt_zero _)) (fun i hi => absurd hi (Nat.not_lt_zero _)) (fun i hi => absurd hi (Nat.not_lt_zero _))
    · exact .int _ _
    · exact .int _ _
    · exact .int _ _
/-- what is looked up -/
theorem ShD.look (h : ShD D E b L m w) (hl : LabOk l) : D.atKey (keyL l) (.held zeroEl) = .held (AV.agg (elC (elA (adr E L) l (spotOf L l)))).den ∧ Ok m w (.agg (elC (elA (adr E L) l (spotOf L l)))) := by
  cases hf : findL l L with
  | some x =>
    have hm := find_mem hf
    have e1 : spotOf L l = x := by unfold spotOf; rw [hf]; rfl
    have e2 : adr E L l = E l := by unfold adr; rw [hf]; rfl
    have e3 : elA (adr E L) l (spotOf L l) = elA E l x := by unfold elA; rw [e1, e2]
    rw [e3]
    exact ⟨h.at_ _ hm _, h.ok _ hm⟩
  | none =>
    obtain ⟨e1, e2⟩ := elA_zero (L := L) E hf
    refine ⟨?_, e2 _ _⟩
    rw [e1]
    exact Maps.atKey_of_not_has (by rw [h.hasL hl, hf]; rfl) _
/-- a label is set -/
theorem ShD.put (h : ShD D E b L m w) (hl : LabOk l) {w' : World} (k : KeepB (some b) w m w' m) (v : Int) (hs : Bool) (x : RA) (hv : Ok m w (.agg (elC ⟨⟨l, v, x⟩, hs⟩))) (hM : MapW Try.prog 36 w' b (L.length + 1) (D.put (keyL l) (.held (AV.agg (elC ⟨⟨l, v, x⟩, hs⟩)).den))) :
    ∃ D' E', ShD D' E' b (putL l ⟨v, hs, x.r.abs⟩ L) m w' := by
  have hsim : Sim (.agg (elC ⟨⟨l, v, x⟩, hs⟩)) (.agg (elC ⟨⟨l, v, ⟨x.A, x.c, x.r.abs.rn⟩⟩, hs⟩)) := by
    have hr := rn_sim x.A x.c (r := x.r) (r' := x.r.abs.rn) (abs_rn _).symm
    exact Sim.agg ⟨Sim.refl _, Sim.refl _, hr.1, hr.2.1, hr.2.2.1, hr.2.2.2.1, hr.2.2.2.2.1, trivial⟩
  have hkey : WideAt.IsKeyLit (keyL l) := labK.key (key_lab hl)
  have hmp : Maps.IsMap D := (h.map.tidy labK).isMap
  have hsz := mapW_size hM
  have hlen : Maps.size (D.put (keyL l) (.held (AV.agg (elC ⟨⟨l, v, x⟩, hs⟩)).den)) = (putL l ⟨v, hs, x.r.abs⟩ L).length := by
    rw [Maps.size_put (h.map.tidy labK), h.hasL hl, put_len l _ h.ris]
    rw [h.size]
  have hris := put_rises (l := l) (x := ⟨v, hs, x.r.abs⟩) h.ris
  have hin : ∀ p, p ∈ putL l ⟨v, hs, x.r.abs⟩ L ↔ p = (l, ⟨v, hs, x.r.abs⟩) ∨ (p ∈ L ∧ p.1 ≠ l) := by
    intro p
    constructor
    · intro hp
      have h1 := mem_find hris hp
      rw [find_put] at h1
      by_cases he : l = p.1
      · rw [if_pos he] at h1
        injection h1 with h1
        obtain ⟨p1, p2⟩ := p
        simp only at he h1
        subst he; subst h1
        exact .inl rfl
      · rw [if_neg he] at h1
        exact .inr ⟨find_mem h1, fun e => he e.symm⟩
    · rintro (rfl | ⟨hp, hne⟩)
      · exact find_mem (by rw [find_put, if_pos rfl])
      · exact find_mem (x := p.2) (l := p.1) (by rw [find_put, if_neg (fun e => hne e.symm)]; exact mem_find h.ris hp)
  have hE : ∀ p : Lab × Spo, p.1 ≠ l → elA (fun k => if k = l then (x.A, x.c) else E k) p.1 p.2 = elA E p.1 p.2 := fun p hne => by unfold elA; simp only [if_neg hne]
  have hE2 : elA (fun k => if k = l then (x.A, x.c) else E k) l ⟨v, hs, x.r.abs⟩ = ⟨⟨l, v, ⟨x.A, x.c, x.r.abs.rn⟩⟩, hs⟩ := by unfold elA; simp only [if_true]
  refine ⟨_, fun k => if k = l then (x.A, x.c) else E k, ?_, hris, fun p hp => ?_, fun kl => ?_, hlen, fun p hp zd => ?_, fun p hp => ?_⟩
  · rw [hlen] at hsz; exact hsz
  · rcases (hin p).1 hp with rfl | ⟨hp, _⟩
    · exact hl
    · exact h.labs p hp
  · by_cases he : kl = keyL l
    · subst he
      rw [Maps.has_put_same hmp hkey]
      exact ⟨fun _ => ⟨_, (hin _).2 (.inl rfl), rfl⟩, fun _ => rfl⟩
    · rw [Maps.has_put_other he, h.has]
      constructor
      · rintro ⟨p, hp, hk⟩
        exact ⟨p, (hin p).2 (.inr ⟨hp, fun e => he (by rw [← hk, e])⟩), hk⟩
      · rintro ⟨p, hp, hk⟩
        rcases (hin p).1 hp with rfl | ⟨hp, _⟩
        · exact absurd hk.symm he
        · exact ⟨p, hp, hk⟩
  · rcases (hin p).1 hp with rfl | ⟨hp, hne⟩
    · rw [Maps.atKey_put_same hmp hkey, hE2, hsim.1]
    · rw [Maps.atKey_put_other (fun e => hne (keyL_inj (h.labs p hp) hl e)), hE p hne]
      exact h.at_ p hp zd
  · rcases (hin p).1 hp with rfl | ⟨hp, hne⟩
    · rw [hE2]; exact k.ok (hsim.2.2 _ _ hv)
    · rw [hE p hne]; exact k.ok (h.ok p hp)
/-- the map's element at a label, by hand, in a region that draws its order -/
theorem hand_look {m0 : Nat → Nat → Prop} {w0 : World} {S : Nat → Prop} {ds : List Deferred} {D : DataW Value} {E : Adr} {b : Nat} {L : Shf} {l : Lab} (hl : LabOk l) {el : SpA} (hel : el = elA (adr E L) l (spotOf L l)) {hh : Bool} (hhh : hh = (findL l L).isSome) {all : List Oper} {j t1 t2 : Nat} (ho : ∀ o, all[j]? = some o → o.op = .lookup 66 (.tmp t1) (.tmp t2) true) :
    HandOK ⟨m0, w0, S, ds, shD D E b L⟩ Try.prog all (some (j, [.tmp t1, .tmp t2], [.raw (.map (some b)), labAV l], .tup [.agg (elC el), .bool (.v hh)])) := by
  intro i xs args v he o hio s a w hF hv
  simp only [Option.some.injEq, Prod.mk.injEq] at he
  obtain ⟨rfl, rfl, rfl, rfl⟩ := he
  have hop := ho o hio
  simp only [vals] at hv
  split at hv
  · split at hv
    · simp only [Option.map_some, Option.some.injEq, List.cons.injEq, and_true] at hv
      obtain ⟨h1, h2⟩ := hv
      have hSh : ShD D E b L (s.m ⟨m0, w0, S, ds, shD D E b L⟩) w := hF.kept
      obtain ⟨g1, g2⟩ := hSh.look hl
      subst hel
      have hr := lookup_run hop hF h1 h2 rfl labK map_und' (zeroEl_run w) hSh.map (key_lab hl) g1
      refine ⟨?_, .tup _ fun u hu => ?_⟩
      · rw [hr, hSh.hasL hl, ← hhh]
        simp [AV.den, AV.denL, BE.den]
      · simp only [List.mem_cons, List.not_mem_nil, or_false] at hu
        rcases hu with rfl | rfl
        · exact g2
        · exact .bool _
    · simp at hv
  · simp at hv
/-- a spot that is set -/
theorem shK_put {m : Nat → Nat → Prop} {w w' : World} {b : Nat} {L : Shf} {l : Lab} {D : DataW Value} {n : Nat} (h0 : MapW Try.prog 36 w b n D) (hl : LabOk l) (h : (shK b L).p m w) (k : KeepB (some b) w m w' m) {v : AV} {x : SpA} (hs : Sim v (.agg (elC x))) (hv : Ok m w v) (hM : MapW Try.prog 36 w' b (L.length + 1) (D.put (keyL l) (.held v.den))) : (shK b (putL l ⟨x.w.ver, x.has, x.w.x.r.abs⟩ L)).p m w' := by
  obtain ⟨D1, E1, h1⟩ := h
  have := mapW_fun h0 h1.map
  subst this
  rw [hs.1] at hM
  exact h1.put hl k x.w.ver x.has x.w.x (hs.2.2 _ _ hv) hM
theorem shK_map {m : Nat → Nat → Prop} {w : World} {b : Nat} {L : Shf} (h : (shK b L).p m w) : ∃ es cl, w.heap[b]? = some (.map es cl) := by
  obtain ⟨D, E, h⟩ := h
  obtain ⟨es, cl, hb, _⟩ := h.map
  exact ⟨es, cl, hb⟩
/-- what changing a label's record comes to -/
def chgL (L : Shf) (l : Lab) (v xv : Int) (kn : Bool) (z : Spo) : Did :=
  if v ≠ xv then ⟨L, false, ⟨8, xv, false, zeroRec⟩, 0⟩
  else if kn = false ∧ 2000 ≤ L.length then ⟨L, false, zeroGot, 12⟩
  else ⟨putL l z L, true, ⟨0, z.ver, false, zeroRec⟩, 0⟩
section
variable {P : Program} {Q : Exit → Act → World → Prop} {ops : Array Oper}
/-- a guarded operation that is carried out -/
theorem unguard {a : Act} {w : World} {rest : List Oper} {o : Oper} (hw : Region.wanted o (yielded ops a.tmps) = true) (h : wpList P ops Q ({ o with guard := none } :: rest) a w) : wpList P ops Q (o :: rest) a w := by
  unfold wpList at h ⊢
  rw [if_pos hw]
  have : Region.wanted { o with guard := none } (yielded ops a.tmps) = true := by simp [Region.wanted]
  rw [if_pos this] at h
  cases o
  exact h
theorem wanted_tt {C : Cx} {s : St} {a : Act} {w : World} (hF : Fits C s a w) {o : Oper} {j g : Nat} (hg : o.guard = some (j, true)) (hd : (ops[j]?).bind (·.dst) = some g) (hv : look s.tmps g = .bool .tt) : Region.wanted o (yielded ops a.tmps) = true := by
  have h := (hF.slot g (by rw [hv]; rfl)).1
  rw [hv] at h
  simp only [Region.wanted, hg, yielded, hd, Option.bind_some, h]
  rfl
theorem LeftS.re {bo : Option Nat} {m : Nat → Nat → Prop} {w w' : World} {pre pre' : List (Nat × Blk)} {sets sets' : List (Nat × List AV)} {news news' : List (Nat × Blk)} (h : LeftS bo m w w' pre sets news) (hp : pre'.map (·.2) = pre.map (·.2)) (hs : sets'.map (·.2) = sets.map (·.2)) (hk : sets'.map (·.1) = pre'.map (·.1)) (hn : news'.map (·.2) = news.map (·.2)) : LeftS bo m w w' pre' sets' news' := by
  have hm : mN m news' = mN m news := by funext b o; simp only [mN, ats_snd hn]
  have hu : (upd pre' sets' ++ news').map (·.2) = (upd pre sets ++ news).map (·.2) := by rw [List.map_append, List.map_append, upd_snd hp hs, hn]
  refine ⟨hk, all_snd (p := fun b => w'.heap[b.at_]? = some (.cells (b.cells.map AV.den).toArray b.ty (0, 0))) hu h.heap, all_snd (p := fun b => ∀ v ∈ b.cells, v.one = true ∧ Ok (mN m news') w' v) hu (hm ▸ h.ok), all_snd (p := fun b => w.heap.size ≤ b.at_) hn h.fresh, pair_snd hn h.dist, h.chg.mono fun k hk => hk.imp (ats_snd hp k).2 id⟩
theorem SpecM.re {f : FuncId} {args args' : List AV} {pre pre' : List (Nat × Blk)} {bo : Option Nat} {I : Kn} {res res' : Atom → CR} {J : Nat → Atom → Kn} (h : SpecM P f args pre bo I res J) (ha : SimL args' args) (hp : pre'.map (·.2) = pre.map (·.2))
    (hr : ∀ x, (res' x).sets.map (·.2) = (res x).sets.map (·.2) ∧ (res' x).sets.map (·.1) = pre'.map (·.1) ∧ Sim (res x).v (res' x).v ∧ (res' x).news.map (·.2) = (res x).news.map (·.2)) : SpecM P f args' pre' bo I res' J := by
  intro m w h1 h2 h3 hI
  rw [ha.map]
  refine (h m w h1 (ha.ok h2) (h3.re hp.symm) hI).mono ?_
  rintro e w' ⟨x, rfl, hok, hl, hb, hJ⟩
  obtain ⟨r1, r2, r3, r4⟩ := hr x
  have hm : mN m (res' x).news = mN m (res x).news := by funext b o; simp only [mN, ats_snd r4]
  exact ⟨x, by rw [r3.1], by rw [hm]; exact r3.2.2 _ _ hok, hl.re hp r1 r2 r4, hb, by rw [hm]; exact hJ⟩
theorem SpecM.args {f : FuncId} {args args' : List AV} {pre : List (Nat × Blk)} {bo : Option Nat} {I : Kn} {res : Atom → CR} {J : Nat → Atom → Kn} (h : SpecM P f args' pre bo I res J) (hs : SimL args args') : SpecM P f args pre bo I res J := by
  intro m w hm ha hp hI
  rw [hs.map]
  exact h m w hm (hs.ok ha) hp hI
end
theorem ShD.empty {m : Nat → Nat → Prop} {w : World} {b : Nat} (h : MapW Try.prog 36 w b 0 (.map [])) (E : Adr) : ShD (.map []) E b [] m w :=
  ⟨h, .nil, fun p hp => (by cases hp), fun kl => ⟨fun h => (by cases h), fun ⟨p, hp, _⟩ => (by cases hp)⟩, rfl, fun p hp => (by cases hp), fun p hp => (by cases hp)⟩
end
end Go.Proofs.Ythpbihppfijegaa.Sym

namespace Go.Proofs.Ythpbihppfijegaa.Sym
open Go Go.RowKit
set_option linter.unusedVariables false
set_option linter.unusedSimpArgs false
set_option maxHeartbeats 1000000
set_option maxRecDepth 100000

theorem etyI : ElemTy Try.prog 34 87 2 24 (.agg #[.int .u64 0, .string ⟨#[]⟩]) := ⟨by kernel_rfl, by kernel_rfl, rfl, by decide⟩
def itmE (x : Itm) : List Value := [.int .u64 x.key, .string x.val]
theorem itmE_len (x : Itm) : (itmE x).length = 2 := rfl
theorem rows_ok {m : Nat → Nat → Prop} {w : World} {A : Option Addr} {k : Nat} {l : List Itm} (hl : l.length ≤ k) (hk : k ≤ maxLen) (hs : ∀ x ∈ l, x.val.size ≤ maxLen)
    (h : 0 < (l.flatMap itmE).length → ∃ b off, A = some ⟨b, off, none⟩ ∧ ∀ j u, (l.flatMap itmE)[j]? = some u → w.cell? ⟨b, off + j, none⟩ = some u ∧ ¬ m b (off + j)) : Ok m w (rowI A l.length k (itF l)) := by
  have hg : ∀ i (hi : i < l.length), itF l i = l[i] := fun i hi => by simp [itF, List.getD, hi]
  have hpos : ∀ i, i < l.length → 0 < (l.flatMap itmE).length := fun i hi => by rw [flat_length itmE_len]; omega
  refine .sl _ _ _ _ _ _ hl hk (fun i _ => rfl) (fun i hi => ?_) (fun i hi j u hu => ?_) (fun i hi v hv => ?_) (fun i hi v hv => ?_)
  · obtain ⟨b, off, hA, _⟩ := h (hpos i hi); exact ⟨b, off, hA⟩
  · obtain ⟨b, off, hA, hc⟩ := h (hpos i hi)
    have hu' : (itmE (itF l i))[j]? = some u := hu
    rw [hg i hi] at hu'
    exact ⟨b, off, hA, hc _ u (flat_get itmE_len (List.getElem?_eq_getElem hi) hu')⟩
  · simp only [itC, List.mem_cons, List.not_mem_nil, or_false] at hv
    rcases hv with rfl | rfl <;> rfl
  · simp only [itC, List.mem_cons, List.not_mem_nil, or_false] at hv
    rcases hv with rfl | rfl
    · exact .int _ _
    · exact .str _ (by rw [hg i hi]; exact hs _ (List.getElem_mem hi))
variable {H : Type} {enc : TypeId × Value → H} {w : World} {base : Nat} {spare : Nat → Bool} {held : Bool}
theorem itmE_one (x : Itm) : ∀ v ∈ itmE x, v.oneCell' = true := by
  intro v hv
  simp only [itmE, List.mem_cons, List.not_mem_nil, or_false] at hv
  rcases hv with rfl | rfl <;> rfl
theorem rowFlat_its (l : List Itm) : rowFlat (fun i => itC (itF l i)) l.length = l.flatMap itmE := by
  have key : ∀ n, n ≤ l.length → rowFlat (fun i => itC (itF l i)) n = (l.take n).flatMap itmE := by
    intro n
    induction n with
    | zero => intro _; simp [rowFlat]
    | succ n ih =>
      intro h
      rw [rowFlat_succ, ih (by omega), List.take_succ_eq_append_getElem (by omega), List.flatMap_append]
      simp [itF, List.getD, List.getElem?_eq_getElem (show n < l.length by omega)]
      rfl
  have := key l.length (Nat.le_refl _)
  rwa [List.take_length] at this
theorem its_reads {m : Nat → Nat → Prop} {w : World} {A : Option Addr} {c : Nat} {l : List Itm} (h : Ok m w (rowI A l.length c (itF l))) : ReadsL itmE w w.heap.size A l := by
  have := row_of_ok h
  rw [rowFlat_its] at this
  exact this
theorem its_vals {m : Nat → Nat → Prop} {w : World} {A : Option Addr} {c : Nat} {l : List Itm} (h : Ok m w (rowI A l.length c (itF l))) : ∀ x ∈ l, x.val.size ≤ maxLen := by
  intro x hx
  obtain ⟨i, hi, rfl⟩ := List.mem_iff_getElem.1 hx
  cases h with
  | sl _ _ _ _ _ _ h1 h2 h3 h4 h5 h6 h7 =>
    have := h7 i hi (.str (itF l i).val) (by simp [itC])
    cases this with | str _ h => simpa [itF, List.getD, hi] using h
theorem own_its {m : Nat → Nat → Prop} {w : World} {B : Nat} {e : TypeId} {A : Option Addr} {n c : Nat} {l : List Itm} (h : OwnL itmE 2 w B e (.slice A n c) l) (hm : ∀ b o, m b o → b < B) (hs : ∀ x ∈ l, x.val.size ≤ maxLen) : Ok m w (rowI A l.length c (itF l)) := by
  obtain ⟨A', c', he, h1, h2⟩ := Own.isSlice h
  injection he with e1 e2 e3; subst e3; subst e2
  refine rows_ok h1 h2 hs fun hp => ?_
  rw [flat_length itmE_len] at hp
  obtain ⟨b, hA, hb⟩ := own_head h (by omega)
  refine ⟨b, 0, hA, fun j u hu => ⟨by rw [Nat.zero_add]; exact own_cells h hb j u hu, fun hmm => ?_⟩⟩
  have := (Own.lt h b hb).1
  have := hm _ _ hmm
  omega
theorem clone_c (w : World) (A : Option Addr) (k : Nat) (l : List Itm) (hr : ReadsL itmE w w.heap.size A l) (hl : l.length < 2147483000) :
    Calls Try.prog 43 #[.slice A l.length k] w fun e w' => ∃ v', e = .returned v' ∧ OwnL itmE 2 w' w.heap.size 87 v' l ∧ Below w.heap.size w w' := by
  have hq : ∀ (A : Option Addr) (n k : Nat) (w : World), (binOp .eql 34 (.slice A n k) (.slice none 0 0)).run Try.prog w = .ok (.bool A.isNone) w := fun A n k w => Go.Lib.run_eql_slice_nil w _ _ A n k 0 0 Try.underlying34
  cases A with
  | none =>
    obtain rfl : l = [] := by
      refine List.eq_nil_of_length_eq_zero (Nat.eq_zero_of_not_pos fun h => ?_)
      obtain ⟨b, off, he, _⟩ := hr.at_ (k := 2) itmE_len (by decide) h
      cases he
    clear hr
    go_enter Try.func43, Try.ntmps43
    go_wp2_with fail
    go_ret
    exact ⟨_, rfl, Own.nil _ _ _ _ _, Below.refl _ _⟩
  | some a =>
    obtain ⟨W1, hW1⟩ : ∃ W1, W1 = w.alloc (.cells #[] 87) := ⟨_, rfl⟩
    have hb1 : Below w.heap.size w W1 := by rw [hW1]; exact (Below.refl _ _).alloc (Nat.le_refl _) _
    obtain ⟨v', w', hr', hO, hG, hv⟩ := run_append_Own (P := Try.prog) etyI 34 (Own.nil W1 w.heap.size 87 2 (some ⟨w.heap.size, 0, none⟩)) (some a) l.length k (l.flatMap itmE) (flat_length itmE_len l) (hr.below hb1) (flat_one itmE_one l) (by simp only [maxLen]; omega) (by omega) hb1.size
    rw [Nat.zero_add, List.nil_append] at hO
    have HO : Hid (OwnL itmE 2 w' w.heap.size 87 v' l ∧ Below w.heap.size w w') := ⟨hO, hb1.grown hG hb1.size fun g hg => by simp [ownB] at hg⟩
    rw [hW1] at hr'
    clear hO hG hv hb1 hW1
    go_enter Try.func43, Try.ntmps43
    go_wp2_with (at_builtin; refine wpList_append_run hr' rfl (.tmp 5) (.tmp 6) rfl rfl rfl rfl ?_)
    go_ret
    exact ⟨_, rfl, HO.out⟩
theorem clone_s (A : Option Addr) (c : Nat) (l : List Itm) (hs : l.length < 2147483000) : Spec Try.prog 43 [rowI A l.length c (itF l)] (fun y => rowI (y.A 0) l.length (y.c 0) (itF l)) := by
  intro m w hm ha
  have h1 := ha (rowI A l.length c (itF l)) (by simp)
  refine (clone_c w A c l (its_reads h1) hs).mono ?_
  rintro e w' ⟨v', rfl, ho, hb⟩
  obtain ⟨A', c', rfl, _, _⟩ := Own.isSlice ho
  exact ⟨⟨0, fun _ => A', fun _ => c', fun _ => ⟨#[]⟩⟩, rfl, own_its ho hm (its_vals h1), hb⟩
/-- the same, of a row of so many -/
theorem clone_sf (A : Option Addr) (n c : Nat) (f : Nat → Itm) (hs : n < 2147483000) : Spec Try.prog 43 [rowI A n c f] (fun y => rowI (y.A 0) n (y.c 0) f) := by
  have h := clone_s A c (firsts f n) (by rw [firsts_len]; exact hs)
  have e : ∀ A c, Sim (rowI A (firsts f n).length c (itF (firsts f n))) (rowI A n c f) := fun A c => Sim.resl (firsts_len f n) fun t ht => by rw [firsts_get f n t ht]
  have e' : ∀ A c, Sim (rowI A n c f) (rowI A (firsts f n).length c (itF (firsts f n))) := fun A c => Sim.resl (firsts_len f n).symm fun t ht => by rw [firsts_len] at ht; rw [firsts_get f n t ht]
  intro m w hm ha
  have h2 : Spec Try.prog 43 [rowI A n c f] (fun y => rowI (y.A 0) (firsts f n).length (y.c 0) (itF (firsts f n))) := h.sim ⟨e' A c, trivial⟩
  refine (h2 m w hm ha).mono ?_
  rintro en w' ⟨x, rfl, hok, hb⟩
  exact ⟨x, by rw [(e (x.A 0) (x.c 0)).1], (e (x.A 0) (x.c 0)).2.2 _ _ hok, hb⟩
end Go.Proofs.Ythpbihppfijegaa.Sym

namespace Go.Proofs.Ythpbihppfijegaa.Sym
open Go Go.RowKit
set_option maxRecDepth 100000
set_option maxHeartbeats 1600000
set_option linter.unusedVariables false
set_option linter.unusedSimpArgs false
theorem enters43 : Enters Try.prog 43 := fun _ _ => by kernel_rfl
def T26 : List (Nat × TI) := [(34, ti34), (38, ti38)]
theorem T26_ok : TabOK Try.prog T26 := .cons t34 (.cons t38 (.nil))
theorem enters26 : Enters Try.prog 26 := fun _ _ => by kernel_rfl
theorem own_s (x : RA) (hn : x.r.n ≤ 1000000) : Spec Try.prog 26 [recV x] (fun y => recV ⟨y.A 0, y.c 0, x.r⟩) := by
  intro m w hm hargs
  have S := clone_sf x.A x.r.n x.c x.r.f (by omega)
  simp only [rowI] at S
  refine enter hm hargs Try.func26 rfl (by simp [Try.ntmps26]) fun a0 hF => ?_
  simp only [Try.ntmps26, startT] at hF
  obtain ⟨B, hB⟩ : ∃ B, B = std := ⟨_, rfl⟩
  refine wp_seq ?_
  apply region_okB hB T26_ok [1, 2] [1, 2] [] hF
  case hex => intro A X; conv => lhs; cbv
  case hob =>
    intro X
    subst hB
    simp [AllOb, Ob.holds, BE.den, std, stdCmp, stdArith] <;> omega
  case hQ =>
  intro X0 a0 w1 hF
  refine wp_seq ?_
  apply region_okB hB T26_ok [1, 2] [1, 2] [(2, .r fun y => .sl none (y.A 0) x.r.n (y.c 0) 2 (fun t => itC (x.r.f t)))] hF
  case hex => intro A X; conv => lhs; cbv
  case hob =>
    intro X
    subst hB
    simp only [AllOb, Ob.holds, BE.den, List.mem_cons, List.not_mem_nil, or_false, forall_eq_or_imp, forall_eq] <;> (and_intros <;> first | trivial | rfl | exact enters43 | exact S | exact ⟨enters43, S⟩ | (intro h; first | trivial | rfl | exact enters43 | exact S | exact ⟨enters43, S⟩))
  case hQ =>
  intro X1 a0 w1 hF
  refine wp_seq ?_
  apply region_okB hB T26_ok [2] [2] [] hF
  case hex => intro A X; conv => lhs; cbv
  case hob =>
    intro X
    subst hB
    simp only [AllOb, Ob.holds, BE.den, List.mem_cons, List.not_mem_nil, or_false, forall_eq_or_imp, forall_eq] <;> (and_intros <;> first | trivial | rfl | (intro h; first | trivial | rfl))
  case hQ =>
  intro X2 a0 w1 hF
  refine wp_ret ?_
  refine ret_sim (fn := Try.f26) T26_ok hF (rs := [.cell 2 38]) rfl (by conv => lhs; cbv) ?_ (⟨0, fun _ => (X1 2).A 0, fun _ => (X1 2).c 0, fun _ => ⟨#[]⟩⟩) ?_
  · simp [AllOb, Ob.holds]
  · subst hB
    exact Sim.refl _
def T15 : List (Nat × TI) := [(3, ti3), (26, ti26), (68, ti68)]
theorem T15_ok : TabOK Try.prog T15 := .cons t3 (.cons t26 (.cons t68 (.nil)))
theorem enters15 : Enters Try.prog 15 := fun _ _ => by kernel_rfl
theorem writes_x0 (b bM : Nat) (k : Int) : SpecX Try.prog 15 [.ptr 0 b 0] [(0, ⟨b, 68, [.raw (.map (some bM)), .int .i64 k]⟩)] (fun _ => ⟨.int .i64 k, [(0, [.raw (.map (some bM)), .int .i64 k])], []⟩) := by
  intro m w hm hargs hpre
  refine enterX hm hpre hargs Try.func15 rfl (by simp [Try.ntmps15]) fun a0 hF => ?_
  simp only [Try.ntmps15, startT] at hF
  obtain ⟨B, hB⟩ : ∃ B, B = std := ⟨_, rfl⟩
  refine wp_seq ?_
  apply region_okB hB T15_ok [0] [0] [] hF
  case hex => intro A X; conv => lhs; cbv
  case hob =>
    intro X
    subst hB
    simp only [AllOb, Ob.holds, BE.den, List.mem_cons, List.not_mem_nil, or_false, forall_eq_or_imp, forall_eq] <;> (and_intros <;> first | trivial | rfl | (intro h; first | trivial | rfl))
  case hQ =>
  intro X0 a0 w1 hF
  refine wp_seq ?_
  refine wp_seq ?_
  apply region_okB hB T15_ok [4, 0] [0] [] hF
  case hex => intro A X; conv => lhs; cbv
  case hob =>
    intro X
    subst hB
    simp only [AllOb, Ob.holds, BE.den, List.mem_cons, List.not_mem_nil, or_false, forall_eq_or_imp, forall_eq] <;> (and_intros <;> first | trivial | rfl | (intro h; first | trivial | rfl))
  case hQ =>
  intro X1 a0 w1 hF
  refine test_ff hF rfl (fun hF => ?_)
  refine wp_skip ?_
  refine wp_seq ?_
  apply region_okB hB T15_ok [2] [0] [] hF
  case hex => intro A X; conv => lhs; cbv
  case hob =>
    intro X
    subst hB
    simp only [AllOb, Ob.holds, BE.den, List.mem_cons, List.not_mem_nil, or_false, forall_eq_or_imp, forall_eq] <;> (and_intros <;> first | trivial | rfl | (intro h; first | trivial | rfl))
  case hQ =>
  intro X3 a0 w1 hF
  refine wp_ret ?_
  refine (ret_x (fn := Try.f15) T15_ok hF (rs := [.tmp 2]) rfl (rfl) ?_ noAtom [] ?_ ?_ ?_).1
  · subst hB; simp [AllOb, Ob.holds]
  · subst hB; exact Sim.refl _
  · subst hB; first | exact trivial | exact ⟨rfl, ⟨_, rfl, SimL.refl _⟩, trivial⟩
  · exact trivial
theorem writes_x (k0 : Nat) (b bM : Nat) (k : Int) : SpecX Try.prog 15 [.ptr k0 b 0] [(k0, ⟨b, 68, [.raw (.map (some bM)), .int .i64 k]⟩)] (fun _ => ⟨.int .i64 k, [(k0, [.raw (.map (some bM)), .int .i64 k])], []⟩) :=
  (writes_x0 b bM k).re (by repeat (first | exact trivial | refine ⟨Sim.ptr, ?_⟩ | refine ⟨Sim.fn ⟨Sim.ptr, trivial⟩ trivial, ?_⟩ | refine ⟨Sim.fn trivial ⟨Sim.ptr, trivial⟩, ?_⟩ | refine ⟨Sim.refl _, ?_⟩)) rfl (fun x => ⟨rfl, rfl, Sim.refl _, rfl⟩)
def T10 : List (Nat × TI) := [(3, ti3), (4, ti4), (22, ti22), (26, ti26), (27, ti27), (33, ti33), (36, ti36), (38, ti38), (61, ti61), (66, ti66), (68, ti68), (70, ti70)]
theorem T10_ok : TabOK Try.prog T10 := .cons t3 (.cons t4 (.cons t22 (.cons t26 (.cons t27 (.cons t33 (.cons t36 (.cons t38 (.cons t61 (.cons t66 (.cons t68 (.cons t70 (.nil))))))))))))
theorem enters10 : Enters Try.prog 10 := fun _ _ => by kernel_rfl
theorem new_m (A : Option Addr) (n c : Nat) (f : Nat → RowA) (hn : n ≤ maxLen) (hN : ∀ i, i < n → (f i).x.r.n ≤ 1000000 ∧ LabOk (f i).lab ∧ U64 (f i).lab.bits ∧ U64 (f i).x.r.nx.bits) : SpecM Try.prog 10 [rowsV A n c f] [] none noK (fun y => (match newS (rwsA f n) with | none => ⟨.tup [.nilp, .int .i64 1], [], []⟩ | some L => ⟨.tup [.ptr 14 y.b 0, .int .i64 0], [], [(14, ⟨y.b, 68, [.raw (.map (some (y.c 0))), .int .i64 0]⟩)]⟩)) (fun N y => (match newS (rwsA f n) with | none => noK | some L => shF N (y.c 0) L)) := by
  intro m w hm hargs hpre hI
  have hmx : maxLen = 9223372036854775807 := rfl
  refine enterM (bo := none) hm hpre hI hargs Try.func10 rfl (by simp [Try.ntmps10]) fun a0 hF => ?_
  simp only [Try.ntmps10, startT] at hF
  obtain ⟨B, hB⟩ : ∃ B, B = std := ⟨_, rfl⟩
  refine wp_seq ?_
  apply region_okB hB T10_ok [0] [] [] hF
  case hex => intro A X; conv => lhs; cbv
  case hob =>
    intro X
    subst hB
    simp [AllOb, Ob.holds, BE.den, std, stdCmp, stdArith] <;> omega
  case hQ =>
  intro X0 a0 w1 hF
  refine wp_seq ?_
  refine wp_seq ?_
  apply region_okB hB T10_ok [11, 0] [] [] hF
  case hex => intro A X; conv => lhs; cbv
  case hob =>
    intro X
    subst hB
    simp [AllOb, Ob.holds, BE.den, std, stdCmp, stdArith] <;> omega
  case hQ =>
  intro X1 a0 w1 hF
  refine test_ok hF rfl (fun hb hF => ?_) (fun hb hF => ?_)
  · skip
    have hbig : 2000 < n := by
      have : (2000 : Int) < (n : Int) := by subst hB; simpa [std, stdCmp] using hb
      omega
    have hW : newS (rwsA f n) = none := by unfold newS; rw [if_pos (by rw [listA_len]; exact hbig)]
    refine wp_seq ?_
    apply region_okB hB T10_ok [2, 3] [14] [] hF
    case hex => intro A X; conv => lhs; cbv
    case hob =>
      intro X
      subst hB
      simp [AllOb, Ob.holds, BE.den, std, stdCmp, stdArith] <;> omega
    case hQ =>
    intro X2 a0 w1 hF
    refine wp_ret ?_
    refine (ret_m (fn := Try.f10) T10_ok hF (rs := [.tmp 2, .tmp 3]) rfl (rfl) ?_ (⟨0, fun _ => none, fun _ => 0, fun _ => ⟨#[]⟩⟩) [] ?_ ?_ ?_ ?_ ?_).1
    · subst hB; simp [AllOb, Ob.holds]
    · intro b hb; cases hb
    · subst hB; simp only [hW]; exact Sim.refl _
    · simp only [hW]; exact trivial
    · simp only [hW]; exact trivial
    · simp only [hW]; exact fun _ _ _ => trivial
  · skip
    have hbig : n ≤ 2000 := by
      have : ¬ (2000 : Int) < (n : Int) := by subst hB; simpa [std, stdCmp] using hb
      omega
    have hS : newS (rwsA f n) = newL (rwsA f n) [] := by unfold newS; rw [if_neg (by rw [listA_len]; omega)]
    refine wp_skip ?_
    refine wp_seq ?_
    refine wp_region_lit ?_
    refine man_makeMap (k := 36) (e := 0) rfl rfl rfl rfl hF (Nat.le_of_ble_eq_true rfl) (shK w1.heap.size []) (fun m w' _ _ hM => ⟨_, fun _ => (none, 0), ShD.empty hM _⟩) ?_
    obtain ⟨bM, hbM⟩ : ∃ b, b = w1.heap.size := ⟨_, rfl⟩
    rw [← hbM]
    intro a0 w1 hfresh hF
    have hbfr : w.heap.size ≤ bM := hfresh
    apply list_endB 1 hB T10_ok [4, 0] [14] [] hF
    case hex => intro A X; conv => lhs; cbv
    case hob =>
      intro X
      subst hB
      simp only [AllOb, Ob.holds, BE.den, List.mem_cons, List.not_mem_nil, or_false, forall_eq_or_imp, forall_eq] <;> (and_intros <;> first | trivial | rfl | (intro h; first | trivial | rfl))
    case hQ =>
    intro X3 a0 w1 hF
    refine wp_seq ?_
    refine wp_seq ?_
    apply region_okB hB T10_ok [17, 16, 15, 4] [14] [] hF
    case hex => intro A X; conv => lhs; cbv
    case hob =>
      intro X
      subst hB
      simp [AllOb, Ob.holds, BE.den, std, stdCmp, stdArith] <;> omega
    case hQ =>
    intro X4 a0 w1 hF
    refine wp_block ?_
    refine loop_preK (ι := Nat × Shf) (fun p => shK bM p.2) (fun p => [(17, .int .i64 (p.1 : Int))]) (fun p => []) (fun p => []) (fun p => p.1 ≤ n ∧ p.2.length ≤ p.1 ∧ newL (rwsA f n) [] = newL ((rwsA f n).drop p.1) p.2) (fun p => n - p.1) (0, []) ⟨Nat.zero_le _, Nat.le_refl _, rfl⟩ hF ?_
    rintro ⟨i, L⟩ ⟨hi, hk, hnew⟩ a0 w1 hF
    try dsimp only at hi
    try dsimp only at hk
    try dsimp only at hnew
    replace hF := hF.withK (K' := shK bM L) hF.kept
    refine wp_seq ?_
    apply region_okB hB T10_ok [18, 17, 16, 15, 4] [14] [] hF
    case hex => intro A X; conv => lhs; cbv
    case hob =>
      intro X
      subst hB
      simp [AllOb, Ob.holds, BE.den, std, stdCmp, stdArith] <;> omega
    case hQ =>
    intro X5 a0 w1 hF
    refine wp_seq ?_
    refine test_ok hF rfl (fun hb hF => ?_) (fun hb hF => ?_)
    · skip
      have hin : i < n := by
        have : (i : Int) < (n : Int) := by subst hB; simpa [std, stdCmp] using hb
        omega
      obtain ⟨hN1, hN2, hN3, hN4⟩ := hN i hin
      have S2 := isL_s (f i).lab hN3
      have S3 := isR_s (f i).x.A (f i).x.r.n (f i).x.c (f i).x.r.f (by omega) (f i).x.r.kd (f i).x.r.nx (f i).x.r.mrk hN4
      rw [← isR_abs] at S3
      simp only [labAV, recI, rowI] at S2 S3
      obtain ⟨il, hil⟩ : ∃ x, x = isL (f i).lab := ⟨_, rfl⟩
      obtain ⟨ir, hir⟩ : ∃ x, x = isR (f i).x.r.abs := ⟨_, rfl⟩
      rw [← hil] at S2
      rw [← hir] at S3
      have hstep := newL_step (f := f) (L := L) hin
      rw [← hil, ← hir] at hstep
      refine wp_skip ?_
      refine wp_seq ?_
      refine wp_block ?_
      refine wp_seq ?_
      apply region_okB hB T10_ok [6, 17, 16, 15, 4] [6, 14] [] hF
      case hex => intro A X; conv => lhs; cbv
      case hob =>
        intro X
        subst hB
        simp only [AllOb, Ob.holds, BE.den, List.mem_cons, List.not_mem_nil, or_false, forall_eq_or_imp, forall_eq] <;> (and_intros <;> first | trivial | rfl | exact (show (0 : Int) ≤ (i : Int) by omega) | exact (show (i : Int) < (n : Int) by omega) | (intro h; first | trivial | rfl | exact (show (0 : Int) ≤ (i : Int) by omega) | exact (show (i : Int) < (n : Int) by omega)))
      case hQ =>
      intro X6 a0 w1 hF
      replace hF := hF.memS (cells' := rowC (f i)) (by subst hB; exact SimL.refl _)
      refine wp_seq ?_
      refine wp_seq ?_
      obtain ⟨D, E, hSh⟩ := hF.kept
      replace hF := hF.withK (K' := shD D E bM L) hSh
      have hlab : LabOk (f i).lab := hN2
      obtain ⟨el, hel⟩ : ∃ x, x = elA (adr E L) (f i).lab (spotOf L (f i).lab) := ⟨_, rfl⟩
      obtain ⟨hh, hhh⟩ : ∃ h, h = (findL (f i).lab L).isSome := ⟨_, rfl⟩
      apply drawn2_okB hB 13 (some (6, [.tmp 25, .tmp 27], [.raw (.map (some bM)), .agg [.int .i64 (f i).lab.len, .int .u64 (f i).lab.bits]], .tup [.agg [.int .u64 el.w.ver, .bool (.v el.has), .int .i64 el.w.x.r.kd, .sl none el.w.x.A el.w.x.r.n el.w.x.c 2 (fun i => itC (el.w.x.r.f i)), .int .i64 el.w.x.r.nx.len, .int .u64 el.w.x.r.nx.bits, .int .u64 el.w.x.r.mrk], .bool (.v hh)])) ?hH (by kernel_rfl) T10_ok [8, 6, 17, 16, 15, 4] [6, 14] [] hF rfl
      case hH => exact hand_look hlab hel hhh (fun o h => by cases h; rfl)
      case hex => intro A X; conv => lhs; cbv
      case hD => kernel_rfl
      case hZ => kernel_rfl
      case hlen => rfl
      case hob =>
        intro X
        subst hB
        simp only [AllOb, Ob.holds, BE.den, List.mem_cons, List.not_mem_nil, or_false, forall_eq_or_imp, forall_eq] <;> (and_intros <;> first | trivial | rfl | (intro h; first | trivial | rfl))
      case hQ =>
      intro X7 a0 w1 hF
      refine wpList_nil ?_
      replace hF := hF.withK (K' := shK bM L) ⟨D, E, hF.kept⟩
      refine wp_seq ?_
      apply region_okB hB T10_ok [43, 6, 17, 16, 15, 4] [6, 14] [(4, .r fun _ => .bool (.v il)), (10, .r fun _ => .bool (.v ir))] hF
      case hex => intro A X; conv => lhs; cbv
      case hob =>
        intro X
        subst hB
        simp only [AllOb, Ob.holds, BE.den, List.mem_cons, List.not_mem_nil, or_false, forall_eq_or_imp, forall_eq] <;> (and_intros <;> first | trivial | rfl | (intro h; first | trivial | rfl | exact ⟨enters24, S2⟩ | exact ⟨enters25, S3⟩))
      case hQ =>
      intro X8 a0 w1 hF
      refine test_ok hF rfl (fun hb hF => ?_) (fun hb hF => ?_)
      · skip
        have h9 : (if (if hh = true then true else !il) = true then true else !ir) = true := by subst hB; exact hb
        have hW : newS (rwsA f n) = none := by
          rw [hS, hnew, hstep, ← hhh]
          cases hh <;> cases il <;> cases ir <;> first | rfl | (simp at h9)
        refine wp_seq ?_
        apply region_okB hB T10_ok [2, 3] [14] [] hF
        case hex => intro A X; conv => lhs; cbv
        case hob =>
          intro X
          subst hB
          simp [AllOb, Ob.holds, BE.den, std, stdCmp, stdArith] <;> omega
        case hQ =>
        intro X9 a0 w1 hF
        refine wp_ret ?_
        refine (ret_m (fn := Try.f10) T10_ok hF (rs := [.tmp 2, .tmp 3]) rfl (rfl) ?_ (⟨0, fun _ => none, fun _ => 0, fun _ => ⟨#[]⟩⟩) [] ?_ ?_ ?_ ?_ ?_).1
        · subst hB; simp [AllOb, Ob.holds]
        · intro b hb; cases hb
        · subst hB; simp only [hW]; exact Sim.refl _
        · simp only [hW]; exact trivial
        · simp only [hW]; exact trivial
        · simp only [hW]; exact fun _ _ _ => trivial
      · skip
        have h9 : (if (if hh = true then true else !il) = true then true else !ir) = false := by subst hB; exact hb
        have h10 : (hh || !il || !ir) = false := by cases hh <;> cases il <;> cases ir <;> first | rfl | (simp at h9)
        rw [← hhh, h10] at hstep
        obtain ⟨L2, hL2⟩ : ∃ L2, L2 = putL (f i).lab ⟨(f i).ver, true, (f i).x.r.abs⟩ L := ⟨_, rfl⟩
        have hstep : newL ((rwsA f n).drop i) L = newL ((rwsA f n).drop (i + 1)) L2 := by rw [hL2]; exact hstep
        have SO := own_s (f i).x hN1
        have hL2n : L2.length ≤ i + 1 := by rw [hL2, put_len _ _ hSh.ris]; split <;> omega
        refine wp_skip ?_
        apply drawn2_okB hB 12 none ?hH (by kernel_rfl) T10_ok [47, 49, 55, 17, 16, 15, 4] [14] [(10, .r fun y => .agg [.int .i64 (f i).x.r.kd, .sl none (y.A 0) (f i).x.r.n (y.c 0) 2 (fun t => itC ((f i).x.r.f t)), .int .i64 (f i).x.r.nx.len, .int .u64 (f i).x.r.nx.bits, .int .u64 (f i).x.r.mrk])] hF rfl
        case hH => exact handOK_none
        case hex => intro A X; conv => lhs; cbv
        case hD => kernel_rfl
        case hZ => kernel_rfl
        case hlen => rfl
        case hob =>
          intro X
          subst hB
          simp only [AllOb, Ob.holds, BE.den, List.mem_cons, List.not_mem_nil, or_false, forall_eq_or_imp, forall_eq] <;> (and_intros <;> first | trivial | rfl | exact enters26 | exact SO | exact ⟨enters26, SO⟩ | (intro h; first | trivial | rfl | exact enters26 | exact SO | exact ⟨enters26, SO⟩))
        case hQ =>
        intro X10 a0 w1 hF
        obtain ⟨D2, E2, hSh2⟩ := hF.kept
        refine man_mapUpdate (k := 36) (e := 70) rfl rfl rfl rfl hF rfl rfl rfl rfl rfl labK map_und' hSh2.map (by omega) (key_lab hlab) (fun h => absurd h (by omega)) (shK bM L2) (fun m w' hk hkb hv hM => ?_) ?_
        · rw [hL2]
          refine shK_put hSh2.map hlab hk hkb (x := ⟨⟨(f i).lab, (f i).ver, ⟨(X10 10).A 0, (X10 10).c 0, (f i).x.r⟩⟩, true⟩) ?_ hv hM
          exact Sim.agg ⟨Sim.refl _, Sim.tt, Sim.refl _, Sim.refl _, Sim.refl _, Sim.refl _, Sim.refl _, trivial⟩
        intro w1 hF
        refine wpList_nil ?_
        replace hF := hF.keep [17,16,15,4] [14]
        apply region_okB hB T10_ok [17, 16, 15, 4] [14] [] hF
        case hex => intro A X; conv => lhs; cbv
        case hob =>
          intro X
          subst hB
          simp [AllOb, Ob.holds, BE.den, std, stdCmp, stdArith] <;> omega
        case hQ =>
        intro X11 a0 w1 hF
        have e : B.arith .add .i64 (i : Int) 1 = ((i + 1 : Nat) : Int) := by subst hB; exact wrap_succ (n := n) hin (by omega)
        refine ⟨(i + 1, L2), ⟨by simp only; omega, hL2n, hnew.trans hstep⟩, by simp only; omega, by rw [← e]; exact hF⟩
    · skip
      have hout : i = n := by
        have : ¬ (i : Int) < (n : Int) := by subst hB; simpa [std, stdCmp] using hb
        omega
      have hW : newS (rwsA f n) = some L := by rw [hS, hnew, List.drop_eq_nil_of_le (by rw [listA_len]; omega)]; rfl
      refine wp_exit ?_
      refine wp_seq ?_
      apply region_okB hB T10_ok [2, 3] [14] [] hF
      case hex => intro A X; conv => lhs; cbv
      case hob =>
        intro X
        subst hB
        simp [AllOb, Ob.holds, BE.den, std, stdCmp, stdArith] <;> omega
      case hQ =>
      intro X12 a0 w1 hF
      refine wp_ret ?_
      refine (ret_m (fn := Try.f10) T10_ok hF (rs := [.tmp 2, .tmp 3]) rfl (rfl) ?_ (⟨(X3 2).b, fun _ => none, fun _ => bM, fun _ => ⟨#[]⟩⟩) [14] ?_ ?_ ?_ ?_ ?_).1
      · subst hB; simp [AllOb, Ob.holds]
      · intro b hb; cases hb
      · subst hB; simp only [hW]; exact Sim.refl _
      · simp only [hW]; exact trivial
      · simp only [hW]
        exact ⟨⟨_, rfl, SimL.refl _⟩, fun e he => (by cases he), (by simp), trivial⟩
      · simp only [hW]; exact fun _ _ h => ⟨hbfr, h⟩
end Go.Proofs.Ythpbihppfijegaa.Sym
