/-
  The reader of the program (printed by a program of mine). Conditions: none.
-/
import Derived.Test.YtkamdppnnhjajaaPlDec
import Derived.Test.YtkamdppnnhjajaaSymNum
namespace Go.Proofs.Ytkamdppnnhjajaa.Sym
open Go Go.RowKit
set_option maxRecDepth 100000
set_option linter.unusedVariables false
set_option linter.unusedSimpArgs false
/-- what take gives: the bytes, the error, what is left -/
def takeS (s : ByteArray) (n : Int) : ByteArray := if (s.size : Int) < n then ⟨#[]⟩ else s.extract 0 n.toNat
def takeE (s : ByteArray) (n : Int) : Int := if (s.size : Int) < n then 4 else 0
def takeR (s : ByteArray) (n : Int) : ByteArray := if (s.size : Int) < n then s else s.extract n.toNat s.size
theorem take_cases (s : ByteArray) (n : Int) (hn : 0 ≤ n) : ((s.size : Int) < n ∧ takeS s n = mkB [] ∧ takeE s n = 4 ∧ takeR s n = s) ∨ (n ≤ (s.size : Int) ∧ takeS s n = mkB ((unB s).take n.toNat) ∧ takeE s n = 0 ∧ takeR s n = mkB ((unB s).drop n.toNat)) := by
  unfold takeS takeE takeR
  by_cases h : (s.size : Int) < n
  · left; simp only [h, if_true]; exact ⟨trivial, rfl, trivial, trivial⟩
  · right
    simp only [h, if_false]
    refine ⟨by omega, un_inj ?_, trivial, un_inj ?_⟩
    · rw [un_extract, un_mk, List.drop_zero]
    · rw [un_extract, un_mk, List.take_of_length_le (by rw [un_size]; exact Nat.le_refl _)]
/-- what number gives -/
def numV (s : ByteArray) : Int := ((decN (unB s)).val 0 : Nat)
def numE (s : ByteArray) : Int := (decN (unB s)).err
def numQ (s : ByteArray) : ByteArray := mkB (match unB s with | [] => [] | n :: r => if 8 < n.toNat then r else if r.length < n.toNat then r else r.drop n.toNat)
theorem or_u64 {a b k : Nat} (h : a % 2 ^ k = 0) (hb : b < 2 ^ k) (hab : a + b < 2 ^ 64) : stdArith .or .u64 (a : Int) (b : Int) = ((a + b : Nat) : Int) := by
  show IntKind.u64.wrap ((BitVec.ofNat 64 a ||| BitVec.ofNat 64 b).toNat : Int) = _
  have e : (BitVec.ofNat 64 a ||| BitVec.ofNat 64 b).toNat = a + b := by
    rw [BitVec.toNat_or, BitVec.toNat_ofNat, BitVec.toNat_ofNat, Nat.mod_eq_of_lt (by omega), Nat.mod_eq_of_lt (by omega)]
    obtain ⟨q, rfl⟩ := Nat.dvd_of_mod_eq_zero h
    rw [Nat.mul_comm, ← Nat.shiftLeft_eq, ← Nat.shiftLeft_add_eq_or_of_lt hb]
  rw [e, wrap_u64n, Nat.mod_eq_of_lt hab]
theorem or_step (x : Nat) (c : UInt8) (hx : x < 2 ^ 56) : stdArith .or .u64 (stdShift .shl .u64 (x : Int) 8) (IntKind.u64.wrap (((some c).getD 0).toNat : Int)) = ((x * 256 + c.toNat : Nat) : Int) := by
  have hc := c.toNat_lt
  have e1 : stdShift .shl .u64 (x : Int) 8 = ((x * 256 : Nat) : Int) := by
    show IntKind.u64.wrap ((x : Int) * ((256 : Nat) : Int)) = _
    rw [← Int.natCast_mul, wrap_u64n, Nat.mod_eq_of_lt (by omega)]
  have e2 : IntKind.u64.wrap (((some c).getD 0).toNat : Int) = (c.toNat : Int) := by
    show IntKind.u64.wrap (c.toNat : Int) = _
    rw [wrap_u64n, Nat.mod_eq_of_lt (by omega)]
  rw [e1, e2]
  exact or_u64 (k := 8) (by omega) (by omega) (by omega)
theorem head0 (s : ByteArray) : (if (!(s.toList == (ByteArray.mk #[]).toList)) = true then (((s[(0 : Int).toNat]?.getD 0).toNat : Int) == 0) else false) = true ↔ (unB s).head? = some 0 := by
  rw [toList_un, toList_un, un_get, show unB (ByteArray.mk #[]) = [] from rfl]
  cases h : unB s with
  | nil => simp
  | cons c l =>
    have : (c.toNat : Int) = 0 ↔ c = 0 := by
      rw [← UInt8.toNat_inj]
      simp
    have t0 : c.toNat = 0 ↔ c = 0 := by rw [← UInt8.toNat_inj]; rfl
    simp [t0]
theorem numV_u64 (s : ByteArray) : 0 ≤ numV s ∧ numV s < 18446744073709551616 := by
  unfold numV
  cases h : decN (unB s) with
  | error e =>
    show 0 ≤ ((0 : Nat) : Int) ∧ ((0 : Nat) : Int) < 18446744073709551616
    decide
  | ok x =>
    obtain ⟨n, r⟩ := x
    have := (decN_ok h).2
    show 0 ≤ (n : Int) ∧ (n : Int) < _
    omega
theorem numQ_ok {s : ByteArray} {n : Nat} {r : List UInt8} (h : decN (unB s) = .ok (n, r)) : numQ s = mkB r := by
  unfold numQ
  unfold decN at h
  split at h
  · cases h
  · rename_i c t hs
    rw [hs]
    split at h
    · cases h
    · rename_i h1
      split at h
      · cases h
      · rename_i h2
        split at h
        · cases h
        · injection h with h; injection h with e1 e2
          simp only [h1, h2, if_false, e2]
theorem num_cases (s : ByteArray) : (numE s ≠ 0 ∧ decN (unB s) = .error (numE s) ∧ numV s = 0) ∨ (numE s = 0 ∧ ∃ n r, decN (unB s) = .ok (n, r) ∧ numV s = (n : Int) ∧ numQ s = mkB r) := by
  cases h : decN (unB s) with
  | error e =>
    left
    have he : numE s = e := by simp only [numE, h]; rfl
    rw [he]
    refine ⟨?_, rfl, by simp only [numV, h]; rfl⟩
    rcases decN_err h with rfl | rfl <;> decide
  | ok x =>
    obtain ⟨n, r⟩ := x
    right
    exact ⟨by simp only [numE, h]; rfl, n, r, rfl, by simp only [numV, h]; rfl, numQ_ok h⟩
/-- what the number's reader leaves -/
def numR (s : ByteArray) : ByteArray := mkB ((decN (unB s)).rest (unB s))
theorem num_rest (s : ByteArray) : (numE s = 0 → numQ s = numR s) ∧ (numE s ≠ 0 → numV s = 0 ∧ numR s = s) := by
  rcases num_cases s with ⟨h1, h2, h3⟩ | ⟨h1, n, r, h2, h3, h4⟩
  · exact ⟨fun h => absurd h h1, fun _ => ⟨h3, by simp only [numR, h2]; exact mk_un s⟩⟩
  · exact ⟨fun _ => by rw [h4]; simp only [numR, h2]; rfl, fun h => absurd h1 h⟩
def txtV (s : ByteArray) : ByteArray := mkB ((decT (unB s)).val [])
def txtE (s : ByteArray) : Int := (decT (unB s)).err
def txtQ (s : ByteArray) : ByteArray := match decN (unB s) with
  | .error _ => numQ s
  | .ok (n, r) => if 4096 < n then mkB r else if r.length < n then mkB r else mkB (r.drop n)
def txtR (s : ByteArray) : ByteArray := mkB ((decT (unB s)).rest (unB s))
theorem txt_rest (s : ByteArray) : (txtE s = 0 → txtQ s = txtR s) ∧ (txtE s ≠ 0 → txtV s = ⟨#[]⟩ ∧ txtR s = s) := by
  cases h : decT (unB s) with
  | error e =>
    have he : txtE s = e := by simp only [txtE, h]; rfl
    rw [he]
    refine ⟨fun h0 => ?_, fun _ => ⟨by simp only [txtV, h]; rfl, by simp only [txtR, h]; exact mk_un s⟩⟩
    rcases decT_err h with rfl | rfl <;> exact absurd h0 (by decide)
  | ok x =>
    obtain ⟨t, r⟩ := x
    refine ⟨fun _ => ?_, fun h0 => absurd (by simp only [txtE, h]; rfl) h0⟩
    simp only [txtR, h, txtQ]
    unfold decT at h
    split at h
    · cases h
    · rename_i n q hq
      rw [hq]
      split at h
      · cases h
      · rename_i h1
        split at h
        · cases h
        · rename_i h2
          injection h with h; injection h with e1 e2
          simp only [h1, h2, if_false, ← e2]
          rfl
def labV (s : ByteArray) : Lab := (decL (unB s)).val ⟨0, 0⟩
def labE (s : ByteArray) : Int := (decL (unB s)).err
def labQ (s : ByteArray) : ByteArray := mkB (match unB s with | [] => [] | n :: r => if 64 < n.toNat then r else if r.length < (n.toNat + 7) / 8 then r else r.drop ((n.toNat + 7) / 8))
def labR (s : ByteArray) : ByteArray := mkB ((decL (unB s)).rest (unB s))
theorem lab_rest (s : ByteArray) : (labE s = 0 → labQ s = labR s) ∧ (labE s ≠ 0 → labV s = ⟨0, 0⟩ ∧ labR s = s) := by
  cases h : decL (unB s) with
  | error e =>
    have he : labE s = e := by simp only [labE, h]; rfl
    rw [he]
    refine ⟨fun h0 => ?_, fun _ => ⟨by simp only [labV, h]; rfl, by simp only [labR, h]; exact mk_un s⟩⟩
    rcases decL_err h with rfl | rfl <;> exact absurd h0 (by decide)
  | ok x =>
    obtain ⟨t, r⟩ := x
    refine ⟨fun _ => ?_, fun h0 => absurd (by simp only [labE, h]; rfl) h0⟩
    simp only [labR, h, labQ]
    unfold decL at h
    split at h
    · cases h
    · rename_i n q hs
      rw [hs]
      split at h
      · cases h
      · rename_i h1
        split at h
        · cases h
        · rename_i h2
          split at h
          · injection h with h; injection h with e1 e2
            simp only [h1, h2, if_false, ← e2]
            rfl
          · cases h
theorem or_lab (v : Nat) (c : UInt8) {i : Nat} (hv : v < 256 ^ i) (hi : i < 8) : stdArith .or .u64 ((v * 256 ^ (8 - i) : Nat) : Int) (stdShift .shl .u64 (IntKind.u64.wrap (((some c).getD 0).toNat : Int)) (56 - 8 * (i : Int))) = (((v * 256 + c.toNat) * 256 ^ (8 - (i + 1)) : Nat) : Int) := by
  have hc := c.toNat_lt
  have e2 : IntKind.u64.wrap (((some c).getD 0).toNat : Int) = (c.toNat : Int) := by
    show IntKind.u64.wrap (c.toNat : Int) = _
    rw [wrap_u64n, Nat.mod_eq_of_lt (by omega)]
  have hp : 256 ^ (8 - i) = 256 * 256 ^ (7 - i) := by
    have h9 : 8 - i = (7 - i) + 1 := by omega
    rw [h9, Nat.pow_succ, Nat.mul_comm]
  have hpp := Nat.pow_pos (n := 7 - i) (by decide : 0 < 256)
  have hc2 : c.toNat * 256 ^ (7 - i) < 256 ^ (8 - i) := by rw [hp]; exact Nat.mul_lt_mul_of_pos_right hc hpp
  have htot : 256 ^ i * 256 ^ (8 - i) = 2 ^ 64 := by rw [← Nat.pow_add, show i + (8 - i) = 8 by omega]
  have hv2 : (v + 1) * 256 ^ (8 - i) ≤ 2 ^ 64 := by rw [← htot]; exact Nat.mul_le_mul_right _ hv
  rw [Nat.add_mul, Nat.one_mul] at hv2
  have e1 : stdShift .shl .u64 (c.toNat : Int) (56 - 8 * (i : Int)) = ((c.toNat * 256 ^ (7 - i) : Nat) : Int) := by
    rw [show (56 : Int) - 8 * (i : Int) = ((8 * (7 - i) : Nat) : Int) by omega]
    show IntKind.u64.wrap ((c.toNat : Int) * (2 : Int) ^ (min ((8 * (7 - i) : Nat) : Int).toNat 64)) = _
    rw [Int.toNat_natCast, Nat.min_eq_left (by omega), show (2 : Int) ^ (8 * (7 - i)) = ((2 ^ (8 * (7 - i)) : Nat) : Int) by simp, pow256, ← Int.natCast_mul, wrap_u64n, Nat.mod_eq_of_lt (by omega)]
  rw [e2, e1, show 8 - (i + 1) = 7 - i by omega]
  have := or_u64 (a := v * 256 ^ (8 - i)) (b := c.toNat * 256 ^ (7 - i)) (k := 8 * (8 - i)) (by rw [pow256]; exact Nat.mul_mod_left _ _) (by rw [pow256]; exact hc2) (by omega)
  rw [this, hp, Nat.add_mul, Nat.mul_assoc]
def T44 : List (Nat × TI) := [(67, ti67), (105, ti105)]
theorem T44_ok : TabOK Try.prog T44 := .cons t67 (.cons t105 (.nil))
theorem enters44 : Enters Try.prog 44 := fun _ _ => by kernel_rfl
theorem new_s (s : ByteArray) : SpecX Try.prog 44 [.str s] [] (fun x => ⟨.ptr 5 x.b 0, [], [(5, ⟨x.b, 105, [.str s]⟩)]⟩) := by
  intro m w hm hargs hpre
  refine enterX hm hpre hargs Try.func44 rfl (by simp [Try.ntmps44]) fun a0 hF => ?_
  simp only [Try.ntmps44, startT] at hF
  obtain ⟨B, hB⟩ : ∃ B, B = std := ⟨_, rfl⟩
  refine wp_seq ?_
  apply region_okB hB T44_ok [0] [] [] hF
  case hex => intro A X; conv => lhs; cbv
  case hob =>
    intro X
    subst hB
    simp [AllOb, Ob.holds, BE.den, std, stdCmp, stdArith] <;> omega
  case hQ =>
  intro X0 a0 w1 hF
  refine wp_seq ?_
  apply region_okB hB T44_ok [2] [5] [] hF
  case hex => intro A X; conv => lhs; cbv
  case hob =>
    intro X
    subst hB
    simp [AllOb, Ob.holds, BE.den, std, stdCmp, stdArith] <;> omega
  case hQ =>
  intro X1 a0 w1 hF
  refine wp_ret ?_
  refine (ret_x (fn := Try.f44) T44_ok hF (rs := [.tmp 2]) rfl (rfl) ?_ (X1 2) [5] ?_ ?_ ?_).1
  · subst hB; simp [AllOb, Ob.holds]
  · exact Sim.refl _
  · exact trivial
  · exact ⟨⟨_, rfl, SimL.refl _⟩, fun e he => (by cases he), (by simp), trivial⟩
def T50 : List (Nat × TI) := [(3, ti3), (9, ti9), (67, ti67), (105, ti105)]
theorem T50_ok : TabOK Try.prog T50 := .cons t3 (.cons t9 (.cons t67 (.cons t105 (.nil))))
theorem enters50 : Enters Try.prog 50 := fun _ _ => by kernel_rfl
theorem left_m0 (b : Nat) (s : ByteArray) : SpecX Try.prog 50 [.ptr 0 b 0] [(0, ⟨b, 105, [.str s]⟩)] (fun _ => ⟨.int .i64 (s.size : Int), [(0, [.str s])], []⟩) := by
  intro m w hm hargs hpre
  refine enterX hm hpre hargs Try.func50 rfl (by simp [Try.ntmps50]) fun a0 hF => ?_
  simp only [Try.ntmps50, startT] at hF
  obtain ⟨B, hB⟩ : ∃ B, B = std := ⟨_, rfl⟩
  refine wp_seq ?_
  apply region_okB hB T50_ok [0] [0] [] hF
  case hex => intro A X; conv => lhs; cbv
  case hob =>
    intro X
    subst hB
    simp [AllOb, Ob.holds, BE.den, std, stdCmp, stdArith] <;> omega
  case hQ =>
  intro X0 a0 w1 hF
  refine wp_seq ?_
  refine wp_seq ?_
  apply region_okB hB T50_ok [4, 0] [0] [] hF
  case hex => intro A X; conv => lhs; cbv
  case hob =>
    intro X
    subst hB
    simp [AllOb, Ob.holds, BE.den, std, stdCmp, stdArith] <;> omega
  case hQ =>
  intro X1 a0 w1 hF
  refine test_ff hF rfl (fun hF => ?_)
  refine wp_skip ?_
  refine wp_seq ?_
  apply region_okB hB T50_ok [2] [0] [] hF
  case hex => intro A X; conv => lhs; cbv
  case hob =>
    intro X
    subst hB; exact ⟨rfl, trivial⟩
  case hQ =>
  intro X3 a0 w1 hF
  refine wp_ret ?_
  refine (ret_x (fn := Try.f50) T50_ok hF (rs := [.tmp 2]) rfl (rfl) ?_ noAtom [] ?_ ?_ ?_).1
  · subst hB; simp [AllOb, Ob.holds]
  · subst hB; exact Sim.refl _
  · subst hB; first | exact trivial | exact ⟨rfl, ⟨_, rfl, SimL.refl _⟩, trivial⟩
  · exact trivial
theorem left_m (k0 : Nat) (b : Nat) (s : ByteArray) : SpecX Try.prog 50 [.ptr k0 b 0] [(k0, ⟨b, 105, [.str s]⟩)] (fun _ => ⟨.int .i64 (s.size : Int), [(k0, [.str s])], []⟩) :=
  (left_m0 b s).re (by repeat (first | exact trivial | refine ⟨Sim.ptr, ?_⟩ | refine ⟨Sim.fn ⟨Sim.ptr, trivial⟩ trivial, ?_⟩ | refine ⟨Sim.refl _, ?_⟩)) rfl (fun x => ⟨rfl, rfl, Sim.refl _, rfl⟩)
def T95 : List (Nat × TI) := [(3, ti3), (9, ti9), (29, ti29), (105, ti105)]
theorem T95_ok : TabOK Try.prog T95 := .cons t3 (.cons t9 (.cons t29 (.cons t105 (.nil))))
theorem enters95 : Enters Try.prog 95 := fun _ _ => by kernel_rfl
theorem take_m0 (b : Nat) (s : ByteArray) (n : Int) (hn : 0 ≤ n) : SpecX Try.prog 95 [.ptr 0 b 0, .int .i64 n] [(0, ⟨b, 105, [.str s]⟩)] (fun _ => ⟨.tup [.str (takeS s n), .int .i64 (takeE s n)], [(0, [.str (takeR s n)])], []⟩) := by
  intro m w hm hargs hpre
  refine enterX hm hpre hargs Try.func95 rfl (by simp [Try.ntmps95]) fun a0 hF => ?_
  simp only [Try.ntmps95, startT] at hF
  obtain ⟨B, hB⟩ : ∃ B, B = std := ⟨_, rfl⟩
  refine wp_seq ?_
  apply region_okB hB T95_ok [0, 1] [0] [] hF
  case hex => intro A X; conv => lhs; cbv
  case hob =>
    intro X
    subst hB
    simp [AllOb, Ob.holds, BE.den, std, stdCmp, stdArith] <;> omega
  case hQ =>
  intro X0 a0 w1 hF
  refine wp_seq ?_
  refine wp_seq ?_
  apply region_okB hB T95_ok [13, 0, 1] [0] [] hF
  case hex => intro A X; conv => lhs; cbv
  case hob =>
    intro X
    subst hB; exact ⟨rfl, trivial⟩
  case hQ =>
  intro X1 a0 w1 hF
  refine test_ok hF rfl (fun hb hF => ?_) (fun hb hF => ?_)
  · skip
    have hlt : (s.size : Int) < n := by subst hB; simpa [std, stdCmp] using hb
    simp only [takeS, takeE, takeR, hlt, if_true]
    refine wp_seq ?_
    apply region_okB hB T95_ok [4, 5] [0] [] hF
    case hex => intro A X; conv => lhs; cbv
    case hob =>
      intro X
      subst hB
      simp [AllOb, Ob.holds, BE.den, std, stdCmp, stdArith] <;> omega
    case hQ =>
    intro X2 a0 w1 hF
    refine wp_ret ?_
    refine (ret_x (fn := Try.f95) T95_ok hF (rs := [.tmp 4, .tmp 5]) rfl (rfl) ?_ noAtom [] ?_ ?_ ?_).1
    · subst hB; simp [AllOb, Ob.holds]
    · subst hB; exact Sim.refl _
    · subst hB; first | exact trivial | exact ⟨rfl, ⟨_, rfl, SimL.refl _⟩, trivial⟩
    · exact trivial
  · skip
    have hlt : ¬ (s.size : Int) < n := by subst hB; simpa [std, stdCmp] using hb
    simp only [takeS, takeE, takeR, hlt, if_false]
    refine wp_skip ?_
    refine wp_seq ?_
    apply region_okB hB T95_ok [0, 1, 6] [0] [] hF
    case hex => intro A X; conv => lhs; cbv
    case hob =>
      intro X
      subst hB
      exact ⟨rfl, ⟨by decide, hn, by show n ≤ (s.size : Int); omega⟩, trivial⟩
    case hQ =>
    intro X3 a0 w1 hF
    refine wp_seq ?_
    apply region_okB hB T95_ok [6] [0] [] hF
    case hex => intro A X; conv => lhs; cbv
    case hob =>
      intro X
      subst hB
      exact ⟨rfl, ⟨hn, by show n ≤ (s.size : Int); omega, Int.le_refl _⟩, rfl, trivial⟩
    case hQ =>
    intro X4 a0 w1 hF
    refine wp_seq ?_
    apply region_okB hB T95_ok [4, 5] [0] [] hF
    case hex => intro A X; conv => lhs; cbv
    case hob =>
      intro X
      subst hB
      simp [AllOb, Ob.holds, BE.den, std, stdCmp, stdArith] <;> omega
    case hQ =>
    intro X5 a0 w1 hF
    refine wp_ret ?_
    refine (ret_x (fn := Try.f95) T95_ok hF (rs := [.tmp 4, .tmp 5]) rfl (rfl) ?_ noAtom [] ?_ ?_ ?_).1
    · subst hB; simp [AllOb, Ob.holds]
    · subst hB; exact Sim.refl _
    · subst hB; first | exact trivial | exact ⟨rfl, ⟨_, rfl, SimL.refl _⟩, trivial⟩
    · exact trivial
theorem take_m (k0 : Nat) (b : Nat) (s : ByteArray) (n : Int) (hn : 0 ≤ n) : SpecX Try.prog 95 [.ptr k0 b 0, .int .i64 n] [(k0, ⟨b, 105, [.str s]⟩)] (fun _ => ⟨.tup [.str (takeS s n), .int .i64 (takeE s n)], [(k0, [.str (takeR s n)])], []⟩) :=
  (take_m0 b s n hn).re (by repeat (first | exact trivial | refine ⟨Sim.ptr, ?_⟩ | refine ⟨Sim.fn ⟨Sim.ptr, trivial⟩ trivial, ?_⟩ | refine ⟨Sim.refl _, ?_⟩)) rfl (fun x => ⟨rfl, rfl, Sim.refl _, rfl⟩)
def T75 : List (Nat × TI) := [(3, ti3), (5, ti5), (9, ti9), (23, ti23), (29, ti29), (67, ti67)]
theorem T75_ok : TabOK Try.prog T75 := .cons t3 (.cons t5 (.cons t9 (.cons t23 (.cons t29 (.cons t67 (.nil))))))
theorem enters75 : Enters Try.prog 75 := fun _ _ => by kernel_rfl
theorem number_m0 (b : Nat) (s : ByteArray) : SpecX Try.prog 75 [.ptr 0 b 0] [(0, ⟨b, 105, [.str s]⟩)] (fun _ => ⟨.tup [.int .u64 (numV s), .int .i64 (numE s)], [(0, [.str (numQ s)])], []⟩) := by
  intro m w hm hargs hpre
  have S1 := take_m0 b s 1 (by decide)
  have C1 := take_cases s 1 (by decide)
  generalize takeS s 1 = s1 at S1 C1
  generalize takeE s 1 = e1 at S1 C1
  generalize takeR s 1 = r1 at S1 C1
  refine enterX hm hpre hargs Try.func75 rfl (by simp [Try.ntmps75]) fun a0 hF => ?_
  simp only [Try.ntmps75, startT] at hF
  obtain ⟨B, hB⟩ : ∃ B, B = std := ⟨_, rfl⟩
  refine wp_seq ?_
  apply region_okB hB T75_ok [0] [0] [] hF
  case hex => intro A X; conv => lhs; cbv
  case hob =>
    intro X
    subst hB
    simp [AllOb, Ob.holds, BE.den, std, stdCmp, stdArith] <;> omega
  case hQ =>
  intro X0 a0 w1 hF
  refine wp_seq ?_
  apply region_okB hB T75_ok [0, 4, 5] [0] [(1, .x fun _ => ⟨.tup [.str s1, .int .i64 e1], [(0, [.str r1])], []⟩)] hF
  case hex => intro A X; conv => lhs; cbv
  case hob =>
    intro X
    subst hB; exact ⟨⟨enters95, S1⟩, trivial⟩
  case hQ =>
  intro X1 a0 w1 hF
  refine wp_seq ?_
  refine wp_seq ?_
  apply region_okB hB T75_ok [14, 0, 4, 5] [0] [] hF
  case hex => intro A X; conv => lhs; cbv
  case hob =>
    intro X
    subst hB
    simp [AllOb, Ob.holds, BE.den, std, stdCmp, stdArith] <;> omega
  case hQ =>
  intro X2 a0 w1 hF
  refine test_ok hF rfl (fun hb hF => ?_) (fun hb hF => ?_)
  · skip
    have hs : unB s = [] ∧ e1 = 4 ∧ r1 = s := by
      rcases C1 with ⟨h1, h2, h3, h4⟩ | ⟨h1, h2, h3, h4⟩
      · exact ⟨List.eq_nil_of_length_eq_zero (by rw [un_size]; omega), h3, h4⟩
      · subst hB; rw [h3] at hb; cases hb
    obtain ⟨hs, he1, hr1⟩ := hs
    have hV : numV s = 0 := by simp only [numV, hs]; rfl
    have hE : numE s = e1 := by simp only [numE, hs, he1]; rfl
    have hQ : numQ s = r1 := by rw [hr1]; simp only [numQ, hs]; rw [← mk_un s, hs]
    refine wp_seq ?_
    apply region_okB hB T75_ok [2, 3] [0] [] hF
    case hex => intro A X; conv => lhs; cbv
    case hob =>
      intro X
      subst hB
      simp [AllOb, Ob.holds, BE.den, std, stdCmp, stdArith] <;> omega
    case hQ =>
    intro X3 a0 w1 hF
    refine wp_ret ?_
    refine (ret_x (fn := Try.f75) T75_ok hF (rs := [.tmp 2, .tmp 3]) rfl (rfl) ?_ noAtom [] ?_ ?_ ?_).1
    · subst hB; simp [AllOb, Ob.holds]
    · subst hB; rw [hV, hE]; exact Sim.refl _
    · subst hB; rw [hQ]; exact ⟨rfl, ⟨_, rfl, SimL.refl _⟩, trivial⟩
    · exact trivial
  · skip
    have hs : ∃ n r, unB s = n :: r ∧ s1 = mkB [n] ∧ r1 = mkB r := by
      rcases C1 with ⟨h1, h2, h3, h4⟩ | ⟨h1, h2, h3, h4⟩
      · subst hB; rw [h3] at hb; cases hb
      · cases hu : unB s with
        | nil => have := un_size s; rw [hu] at this; simp at this; omega
        | cons n r => rw [hu] at h2 h4; exact ⟨n, r, rfl, h2, h4⟩
    obtain ⟨n, r, hs, hs1, hr1⟩ := hs
    refine wp_skip ?_
    refine wp_seq ?_
    refine wp_seq ?_
    apply region_okB hB T75_ok [18, 0, 4] [0] [] hF
    case hex => intro A X; conv => lhs; cbv
    case hob =>
      intro X
      subst hB
      exact ⟨⟨by decide, by show (0 : Int) < (s1.size : Int); rw [hs1, mk_size]; simp⟩, trivial⟩
    case hQ =>
    intro X4 a0 w1 hF
    refine test_ok hF rfl (fun hb hF => ?_) (fun hb hF => ?_)
    · skip
      have hn8 : 8 < n.toNat := by
        have h1 : (8 : Int) < ((s1[(0 : Int).toNat]?.getD 0).toNat : Int) := by subst hB; simpa [std, stdCmp] using hb
        rw [hs1] at h1
        have h2 : (8 : Int) < (n.toNat : Int) := h1
        omega
      have hV : numV s = 0 := by simp only [numV, hs, decN, hn8, if_true]; rfl
      have hE : numE s = 3 := by simp only [numE, hs, decN, hn8, if_true]; rfl
      have hQ : numQ s = r1 := by rw [hr1]; simp only [numQ, hs, hn8, if_true]
      refine wp_seq ?_
      apply region_okB hB T75_ok [2, 3] [0] [] hF
      case hex => intro A X; conv => lhs; cbv
      case hob =>
        intro X
        subst hB
        simp [AllOb, Ob.holds, BE.den, std, stdCmp, stdArith] <;> omega
      case hQ =>
      intro X5 a0 w1 hF
      refine wp_ret ?_
      refine (ret_x (fn := Try.f75) T75_ok hF (rs := [.tmp 2, .tmp 3]) rfl (rfl) ?_ noAtom [] ?_ ?_ ?_).1
      · subst hB; simp [AllOb, Ob.holds]
      · subst hB; rw [hV, hE]; exact Sim.refl _
      · subst hB; rw [hQ]; exact ⟨rfl, ⟨_, rfl, SimL.refl _⟩, trivial⟩
      · exact trivial
    · skip
      have hn8 : ¬ 8 < n.toNat := by
        have h1 : ¬ (8 : Int) < ((s1[(0 : Int).toNat]?.getD 0).toNat : Int) := by subst hB; simpa [std, stdCmp] using hb
        rw [hs1] at h1
        have h2 : ¬ (8 : Int) < (n.toNat : Int) := h1
        omega
      have S2 := take_m0 b r1 (n.toNat : Int) (by omega)
      have C2 := take_cases r1 (n.toNat : Int) (by omega)
      generalize takeS r1 (n.toNat : Int) = s2 at S2 C2
      generalize takeE r1 (n.toNat : Int) = e2 at S2 C2
      generalize takeR r1 (n.toNat : Int) = r2 at S2 C2
      refine wp_skip ?_
      refine wp_seq ?_
      refine wp_seq ?_
      apply region_okB hB T75_ok [4, 5] [0] [(4, .x fun _ => ⟨.tup [.str s2, .int .i64 e2], [(0, [.str r2])], []⟩)] hF
      case hex => intro A X; conv => lhs; cbv
      case hob =>
        intro X
        subst hB
        refine ⟨⟨by decide, by show (0 : Int) < (s1.size : Int); rw [hs1, mk_size]; simp⟩, ⟨enters95, ?_⟩, trivial⟩
        show SpecX _ _ [.ptr 0 b 0, .int .i64 (IntKind.i64.wrap ((s1[(0 : Int).toNat]?.getD 0).toNat : Int))] _ _
        rw [hs1, show ((mkB [n])[(0 : Int).toNat]?.getD 0) = n from rfl, wrap_i64n _ (by omega)]
        exact S2
      case hQ =>
      intro X6 a0 w1 hF
      refine wp_seq ?_
      apply region_okB hB T75_ok [28, 4, 5] [0] [] hF
      case hex => intro A X; conv => lhs; cbv
      case hob =>
        intro X
        subst hB
        simp [AllOb, Ob.holds, BE.den, std, stdCmp, stdArith] <;> omega
      case hQ =>
      intro X7 a0 w1 hF
      refine test_ok hF rfl (fun hb hF => ?_) (fun hb hF => ?_)
      · skip
        have hr : r.length < n.toNat ∧ e2 = 4 ∧ r2 = r1 := by
          rcases C2 with ⟨h1, h2, h3, h4⟩ | ⟨h1, h2, h3, h4⟩
          · rw [hr1, mk_size] at h1; exact ⟨by omega, h3, h4⟩
          · subst hB; rw [h3] at hb; cases hb
        obtain ⟨hr, he2, hr2⟩ := hr
        have hV : numV s = 0 := by simp only [numV, hs, decN, hn8, hr, if_true, if_false]; rfl
        have hE : numE s = e2 := by simp only [numE, hs, decN, hn8, hr, he2, if_true, if_false]; rfl
        have hQ : numQ s = r2 := by rw [hr2, hr1]; simp only [numQ, hs, hn8, hr, if_true, if_false]
        refine wp_seq ?_
        apply region_okB hB T75_ok [2, 3] [0] [] hF
        case hex => intro A X; conv => lhs; cbv
        case hob =>
          intro X
          subst hB
          simp [AllOb, Ob.holds, BE.den, std, stdCmp, stdArith] <;> omega
        case hQ =>
        intro X8 a0 w1 hF
        refine wp_ret ?_
        refine (ret_x (fn := Try.f75) T75_ok hF (rs := [.tmp 2, .tmp 3]) rfl (rfl) ?_ noAtom [] ?_ ?_ ?_).1
        · subst hB; simp [AllOb, Ob.holds]
        · subst hB; rw [hV, hE]; exact Sim.refl _
        · subst hB; rw [hQ]; exact ⟨rfl, ⟨_, rfl, SimL.refl _⟩, trivial⟩
        · exact trivial
      · skip
        have hr : ¬ r.length < n.toNat ∧ s2 = mkB (r.take n.toNat) ∧ r2 = mkB (r.drop n.toNat) := by
          rcases C2 with ⟨h1, h2, h3, h4⟩ | ⟨h1, h2, h3, h4⟩
          · subst hB; rw [h3] at hb; cases hb
          · rw [hr1] at h1 h2 h4; rw [un_mk] at h2 h4; rw [mk_size] at h1; exact ⟨by omega, h2, h4⟩
        obtain ⟨hr, hs2, hr2⟩ := hr
        have hu2 : unB s2 = r.take n.toNat := by rw [hs2, un_mk]
        have hsz : s2.size = n.toNat := by rw [← un_size, hu2, List.length_take]; omega
        refine wp_skip ?_
        refine wp_seq ?_
        apply region_okB hB T75_ok [4, 6] [0] [] hF
        case hex => intro A X; conv => lhs; cbv
        case hob =>
          intro X
          subst hB
          simp [AllOb, Ob.holds, BE.den, std, stdCmp, stdArith] <;> omega
        case hQ =>
        intro X9 a0 w1 hF
        refine wp_seq ?_
        refine wp_seq ?_
        apply region_okB hB T75_ok [6, 32, 4, 31] [0] [] hF
        case hex => intro A X; conv => lhs; cbv
        case hob =>
          intro X
          subst hB
          simp [AllOb, Ob.holds, BE.den, std, stdCmp, stdArith] <;> omega
        case hQ =>
        intro X10 a0 w1 hF
        refine wp_block ?_
        refine loop_pre (ι := Nat × Int) (fun p => [(6, .int .u64 p.2), (32, .int .i64 (p.1 : Int))]) (fun p => []) (fun p => []) (fun p => p.1 ≤ s2.size ∧ p.2 = (valB ((unB s2).take p.1) : Int)) (fun p => s2.size - p.1) (0, 0) ⟨Nat.zero_le _, rfl⟩ hF ?_
        rintro ⟨i, x⟩ ⟨hi, hx⟩ a0 w1 hF
        try dsimp only at hi
        try dsimp only at hx
        refine wp_seq ?_
        apply region_okB hB T75_ok [33, 4, 6, 31, 32] [0] [] hF
        case hex => intro A X; conv => lhs; cbv
        case hob =>
          intro X
          subst hB
          simp [AllOb, Ob.holds, BE.den, std, stdCmp, stdArith] <;> omega
        case hQ =>
        intro X11 a0 w1 hF
        refine wp_seq ?_
        refine test_ok hF rfl (fun hb hF => ?_) (fun hb hF => ?_)
        · skip
          have hin : i < s2.size := by
            have : (i : Int) < (s2.size : Int) := by subst hB; simpa [std, stdCmp] using hb
            omega
          refine wp_skip ?_
          refine wp_seq ?_
          refine wp_block ?_
          refine wp_seq ?_
          apply region_okB hB T75_ok [4, 6, 7, 31, 32] [0] [] hF
          case hex => intro A X; conv => lhs; cbv
          case hob =>
            intro X
            subst hB
            simp [AllOb, Ob.holds, BE.den, std, stdCmp, stdArith] <;> omega
          case hQ =>
          intro X12 a0 w1 hF
          apply region_okB hB T75_ok [4, 6, 31, 32] [0] [] hF
          case hex => intro A X; conv => lhs; cbv
          case hob =>
            intro X
            subst hB
            refine ⟨show (0 : Int) ≤ 8 by decide, ⟨?_, ?_⟩, trivial⟩
            · show (0 : Int) ≤ (i : Int); omega
            · show (i : Int) < (s2.size : Int); omega
          case hQ =>
          intro X13 a0 w1 hF
          apply region_okB hB T75_ok [6, 32, 4, 31] [0] [] hF
          case hex => intro A X; conv => lhs; cbv
          case hob =>
            intro X
            subst hB
            simp [AllOb, Ob.holds, BE.den, std, stdCmp, stdArith] <;> omega
          case hQ =>
          intro X14 a0 w1 hF
          have e : B.arith .add .i64 (i : Int) 1 = ((i + 1 : Nat) : Int) := by subst hB; exact wrap_succ (n := s2.size) hin (by simp only [maxLen]; omega)
          refine ⟨(i + 1, B.arith .or .u64 (B.shift .shl .u64 x 8) (B.conv .u64 (B.sat s2 (B.toNat (i : Int))))), ⟨by simp only; omega, ?_⟩, by simp only; omega, by rw [← e]; exact hF⟩
          subst hB
          show stdArith .or .u64 (stdShift .shl .u64 x 8) (IntKind.u64.wrap ((s2[((i : Int)).toNat]?.getD 0).toNat : Int)) = _
          have hi2 : i < (unB s2).length := by rw [un_size]; exact hin
          rw [hx, Int.toNat_natCast, un_get, List.getElem?_eq_getElem hi2, List.take_succ_eq_append_getElem hi2, valB_snoc]
          have hb1 := valB_lt ((unB s2).take i)
          rw [List.length_take, Nat.min_eq_left (by omega)] at hb1
          have hb2 : 256 ^ i ≤ 256 ^ 7 := Nat.pow_le_pow_right (by decide) (by omega)
          have hb3 : (256 : Nat) ^ 7 = 2 ^ 56 := by decide
          exact or_step _ _ (by omega)
        · skip
          have hout : i = s2.size := by
            have : ¬ (i : Int) < (s2.size : Int) := by subst hB; simpa [std, stdCmp] using hb
            omega
          rw [hout, List.take_of_length_le (by rw [un_size]; exact Nat.le_refl _)] at hx
          refine wp_exit ?_
          refine wp_seq ?_
          refine wp_seq ?_
          apply region_okB hB T75_ok [49, 6] [0] [] hF
          case hex => intro A X; conv => lhs; cbv
          case hob =>
            intro X
            subst hB
            refine ⟨fun h => ?_, trivial⟩
            have h1 := h _ (List.mem_singleton.2 rfl)
            have h2 : unB s2 ≠ [] := by
              have : (!(s2.toList == (ByteArray.mk #[]).toList)) = true := h1
              rw [toList_un, toList_un] at this
              have h5 : unB s2 ≠ unB (ByteArray.mk #[]) := by simpa using this
              exact h5
            have h3 : 0 < s2.size := by rw [← un_size]; exact List.length_pos_iff.2 h2
            exact ⟨by decide, by show (0 : Int) < (s2.size : Int); omega⟩
          case hQ =>
          intro X15 a0 w1 hF
          refine test_ok hF rfl (fun hb hF => ?_) (fun hb hF => ?_)
          · skip
            have hh : (unB s2).head? = some 0 := by subst hB; exact (head0 s2).1 hb
            rw [hu2] at hh
            have hV : numV s = 0 := by simp only [numV, hs, decN, hn8, hr, hh, if_true, if_false]; rfl
            have hE : numE s = 3 := by simp only [numE, hs, decN, hn8, hr, hh, if_true, if_false]; rfl
            have hQ : numQ s = r2 := by rw [hr2]; simp only [numQ, hs, hn8, hr, if_false]
            refine wp_seq ?_
            apply region_okB hB T75_ok [2, 3] [0] [] hF
            case hex => intro A X; conv => lhs; cbv
            case hob =>
              intro X
              subst hB
              simp [AllOb, Ob.holds, BE.den, std, stdCmp, stdArith] <;> omega
            case hQ =>
            intro X16 a0 w1 hF
            refine wp_ret ?_
            refine (ret_x (fn := Try.f75) T75_ok hF (rs := [.tmp 2, .tmp 3]) rfl (rfl) ?_ noAtom [] ?_ ?_ ?_).1
            · subst hB; simp [AllOb, Ob.holds]
            · subst hB; rw [hV, hE]; exact Sim.refl _
            · subst hB; rw [hQ]; exact ⟨rfl, ⟨_, rfl, SimL.refl _⟩, trivial⟩
            · exact trivial
          · skip
            have hh : ¬ (unB s2).head? = some 0 := by
              intro h; have h5 := (head0 s2).2 h; subst hB; exact Bool.false_ne_true (hb.symm.trans h5)
            rw [hu2] at hh
            have hV : numV s = x := by rw [hx, hu2]; simp only [numV, hs, decN, hn8, hr, hh, if_false]; rfl
            have hE : numE s = 0 := by simp only [numE, hs, decN, hn8, hr, hh, if_false]; rfl
            have hQ : numQ s = r2 := by rw [hr2]; simp only [numQ, hs, hn8, hr, if_false]
            refine wp_skip ?_
            refine wp_seq ?_
            apply region_okB hB T75_ok [2, 3] [0] [] hF
            case hex => intro A X; conv => lhs; cbv
            case hob =>
              intro X
              subst hB
              simp [AllOb, Ob.holds, BE.den, std, stdCmp, stdArith] <;> omega
            case hQ =>
            intro X17 a0 w1 hF
            refine wp_ret ?_
            refine (ret_x (fn := Try.f75) T75_ok hF (rs := [.tmp 2, .tmp 3]) rfl (rfl) ?_ noAtom [] ?_ ?_ ?_).1
            · subst hB; simp [AllOb, Ob.holds]
            · subst hB; rw [hV, hE]; exact Sim.refl _
            · subst hB; rw [hQ]; exact ⟨rfl, ⟨_, rfl, SimL.refl _⟩, trivial⟩
            · exact trivial
theorem number_m (k0 : Nat) (b : Nat) (s : ByteArray) : SpecX Try.prog 75 [.ptr k0 b 0] [(k0, ⟨b, 105, [.str s]⟩)] (fun _ => ⟨.tup [.int .u64 (numV s), .int .i64 (numE s)], [(k0, [.str (numQ s)])], []⟩) :=
  (number_m0 b s).re (by repeat (first | exact trivial | refine ⟨Sim.ptr, ?_⟩ | refine ⟨Sim.fn ⟨Sim.ptr, trivial⟩ trivial, ?_⟩ | refine ⟨Sim.refl _, ?_⟩)) rfl (fun x => ⟨rfl, rfl, Sim.refl _, rfl⟩)
def T97 : List (Nat × TI) := [(3, ti3), (9, ti9), (23, ti23), (29, ti29), (67, ti67)]
theorem T97_ok : TabOK Try.prog T97 := .cons t3 (.cons t9 (.cons t23 (.cons t29 (.cons t67 (.nil)))))
theorem enters97 : Enters Try.prog 97 := fun _ _ => by kernel_rfl
theorem text_m0 (b : Nat) (s : ByteArray) : SpecX Try.prog 97 [.ptr 0 b 0] [(0, ⟨b, 105, [.str s]⟩)] (fun _ => ⟨.tup [.str (txtV s), .int .i64 (txtE s)], [(0, [.str (txtQ s)])], []⟩) := by
  intro m w hm hargs hpre
  have S1 := number_m0 b s
  obtain ⟨hnv0, hnv1⟩ := numV_u64 s
  have C1 := num_cases s
  generalize numV s = v at S1 C1 hnv0 hnv1
  generalize numE s = e at S1 C1
  generalize hq : numQ s = q at S1 C1
  refine enterX hm hpre hargs Try.func97 rfl (by simp [Try.ntmps97]) fun a0 hF => ?_
  simp only [Try.ntmps97, startT] at hF
  obtain ⟨B, hB⟩ : ∃ B, B = std := ⟨_, rfl⟩
  refine wp_seq ?_
  apply region_okB hB T97_ok [0] [0] [] hF
  case hex => intro A X; conv => lhs; cbv
  case hob =>
    intro X
    subst hB
    simp [AllOb, Ob.holds, BE.den, std, stdCmp, stdArith] <;> omega
  case hQ =>
  intro X0 a0 w1 hF
  refine wp_seq ?_
  apply region_okB hB T97_ok [0, 4, 5] [0] [(1, .x fun _ => ⟨.tup [.int .u64 v, .int .i64 e], [(0, [.str q])], []⟩)] hF
  case hex => intro A X; conv => lhs; cbv
  case hob =>
    intro X
    subst hB; exact ⟨⟨enters75, S1⟩, trivial⟩
  case hQ =>
  intro X1 a0 w1 hF
  refine wp_seq ?_
  refine wp_seq ?_
  apply region_okB hB T97_ok [12, 0, 4, 5] [0] [] hF
  case hex => intro A X; conv => lhs; cbv
  case hob =>
    intro X
    subst hB
    simp [AllOb, Ob.holds, BE.den, std, stdCmp, stdArith] <;> omega
  case hQ =>
  intro X2 a0 w1 hF
  refine test_ok hF rfl (fun hb hF => ?_) (fun hb hF => ?_)
  · skip
    have hd : decN (unB s) = .error e := by
      rcases C1 with ⟨h1, h2, h3⟩ | ⟨h1, n, r, h2, h3, h4⟩
      · exact h2
      · subst hB; rw [h1] at hb; cases hb
    have hV : txtV s = mkB [] := by simp only [txtV, decT, hd]; rfl
    have hE : txtE s = e := by simp only [txtE, decT, hd]; rfl
    have hQ : txtQ s = q := by simp only [txtQ, hd]; exact hq
    refine wp_seq ?_
    apply region_okB hB T97_ok [2, 3] [0] [] hF
    case hex => intro A X; conv => lhs; cbv
    case hob =>
      intro X
      subst hB
      simp [AllOb, Ob.holds, BE.den, std, stdCmp, stdArith] <;> omega
    case hQ =>
    intro X3 a0 w1 hF
    refine wp_ret ?_
    refine (ret_x (fn := Try.f97) T97_ok hF (rs := [.tmp 2, .tmp 3]) rfl (rfl) ?_ noAtom [] ?_ ?_ ?_).1
    · subst hB; simp [AllOb, Ob.holds]
    · subst hB; rw [hV, hE]; exact Sim.refl _
    · subst hB; rw [hQ]; exact ⟨rfl, ⟨_, rfl, SimL.refl _⟩, trivial⟩
    · exact trivial
  · skip
    have hd : ∃ n r, decN (unB s) = .ok (n, r) ∧ v = (n : Int) ∧ q = mkB r := by
      rcases C1 with ⟨h1, h2, h3⟩ | ⟨h1, h2⟩
      · subst hB; exact absurd (show e = 0 by simpa [std, stdCmp] using hb) h1
      · exact h2
    obtain ⟨n, r, hd, hvn, hqr⟩ := hd
    refine wp_skip ?_
    refine wp_seq ?_
    refine wp_seq ?_
    apply region_okB hB T97_ok [15, 0, 4] [0] [] hF
    case hex => intro A X; conv => lhs; cbv
    case hob =>
      intro X
      subst hB
      simp [AllOb, Ob.holds, BE.den, std, stdCmp, stdArith] <;> omega
    case hQ =>
    intro X4 a0 w1 hF
    refine test_ok hF rfl (fun hb hF => ?_) (fun hb hF => ?_)
    · skip
      have hn : 4096 < n := by
        have : (4096 : Int) < v := by subst hB; simpa [std, stdCmp] using hb
        omega
      have hV : txtV s = mkB [] := by simp only [txtV, decT, hd, hn, if_true]; rfl
      have hE : txtE s = 3 := by simp only [txtE, decT, hd, hn, if_true]; rfl
      have hQ : txtQ s = q := by rw [hqr]; simp only [txtQ, hd, hn, if_true]
      refine wp_seq ?_
      apply region_okB hB T97_ok [2, 3] [0] [] hF
      case hex => intro A X; conv => lhs; cbv
      case hob =>
        intro X
        subst hB
        simp [AllOb, Ob.holds, BE.den, std, stdCmp, stdArith] <;> omega
      case hQ =>
      intro X5 a0 w1 hF
      refine wp_ret ?_
      refine (ret_x (fn := Try.f97) T97_ok hF (rs := [.tmp 2, .tmp 3]) rfl (rfl) ?_ noAtom [] ?_ ?_ ?_).1
      · subst hB; simp [AllOb, Ob.holds]
      · subst hB; rw [hV, hE]; exact Sim.refl _
      · subst hB; rw [hQ]; exact ⟨rfl, ⟨_, rfl, SimL.refl _⟩, trivial⟩
      · exact trivial
    · skip
      have hn : ¬ 4096 < n := by
        have : ¬ (4096 : Int) < v := by subst hB; simpa [std, stdCmp] using hb
        omega
      have S2 := take_m0 b q v hnv0
      have C2 := take_cases q v hnv0
      generalize takeS q v = s2 at S2 C2
      generalize takeE q v = e2 at S2 C2
      generalize takeR q v = r2 at S2 C2
      have hall : txtV s = s2 ∧ txtE s = e2 ∧ txtQ s = r2 := by
        rw [hvn, hqr] at C2
        rw [mk_size, un_mk, Int.toNat_natCast] at C2
        rcases C2 with ⟨h1, h2, h3, h4⟩ | ⟨h1, h2, h3, h4⟩
        · have hr : r.length < n := by omega
          refine ⟨?_, ?_, ?_⟩
          · rw [h2]; simp only [txtV, decT, hd, hn, hr, if_true, if_false]; rfl
          · rw [h3]; simp only [txtE, decT, hd, hn, hr, if_true, if_false]; rfl
          · rw [h4]; simp only [txtQ, hd, hn, hr, if_true, if_false]
        · have hr : ¬ r.length < n := by omega
          refine ⟨?_, ?_, ?_⟩
          · rw [h2]; simp only [txtV, decT, hd, hn, hr, if_false]; rfl
          · rw [h3]; simp only [txtE, decT, hd, hn, hr, if_false]; rfl
          · rw [h4]; simp only [txtQ, hd, hn, hr, if_false]
      obtain ⟨hV, hE, hQ⟩ := hall
      refine wp_skip ?_
      refine wp_seq ?_
      apply region_okB hB T97_ok [2, 3] [0] [(3, .x fun _ => ⟨.tup [.str s2, .int .i64 e2], [(0, [.str r2])], []⟩)] hF
      case hex => intro A X; conv => lhs; cbv
      case hob =>
        intro X
        subst hB
        refine ⟨⟨enters95, ?_⟩, trivial⟩
        show SpecX _ _ [.ptr 0 b 0, .int .i64 (IntKind.i64.wrap v)] _ _
        rw [wrap_in (by omega) (by omega)]
        exact S2
      case hQ =>
      intro X6 a0 w1 hF
      refine wp_ret ?_
      refine (ret_x (fn := Try.f97) T97_ok hF (rs := [.tmp 2, .tmp 3]) rfl (rfl) ?_ noAtom [] ?_ ?_ ?_).1
      · subst hB; simp [AllOb, Ob.holds]
      · subst hB; rw [hV, hE]; exact Sim.refl _
      · subst hB; rw [hQ]; exact ⟨rfl, ⟨_, rfl, SimL.refl _⟩, trivial⟩
      · exact trivial
theorem text_m (k0 : Nat) (b : Nat) (s : ByteArray) : SpecX Try.prog 97 [.ptr k0 b 0] [(k0, ⟨b, 105, [.str s]⟩)] (fun _ => ⟨.tup [.str (txtV s), .int .i64 (txtE s)], [(k0, [.str (txtQ s)])], []⟩) :=
  (text_m0 b s).re (by repeat (first | exact trivial | refine ⟨Sim.ptr, ?_⟩ | refine ⟨Sim.fn ⟨Sim.ptr, trivial⟩ trivial, ?_⟩ | refine ⟨Sim.refl _, ?_⟩)) rfl (fun x => ⟨rfl, rfl, Sim.refl _, rfl⟩)
def T99 : List (Nat × TI) := [(3, ti3), (5, ti5), (9, ti9), (23, ti23), (25, ti25), (29, ti29), (67, ti67)]
theorem T99_ok : TabOK Try.prog T99 := .cons t3 (.cons t5 (.cons t9 (.cons t23 (.cons t25 (.cons t29 (.cons t67 (.nil)))))))
theorem enters99 : Enters Try.prog 99 := fun _ _ => by kernel_rfl
theorem label_m0 (b : Nat) (s : ByteArray) : SpecX Try.prog 99 [.ptr 0 b 0] [(0, ⟨b, 105, [.str s]⟩)] (fun _ => ⟨.tup [labAV (labV s), .int .i64 (labE s)], [(0, [.str (labQ s)])], []⟩) := by
  intro m w hm hargs hpre
  have S1 := take_m0 b s 1 (by decide)
  have C1 := take_cases s 1 (by decide)
  generalize takeS s 1 = s1 at S1 C1
  generalize takeE s 1 = e1 at S1 C1
  generalize takeR s 1 = r1 at S1 C1
  rw [show labAV (labV s) = .agg [.int .i64 (labV s).len, .int .u64 (labV s).bits] from rfl]
  refine enterX hm hpre hargs Try.func99 rfl (by simp [Try.ntmps99]) fun a0 hF => ?_
  simp only [Try.ntmps99, startT] at hF
  obtain ⟨B, hB⟩ : ∃ B, B = std := ⟨_, rfl⟩
  refine wp_seq ?_
  apply region_okB hB T99_ok [0, 2] [0, 2] [] hF
  case hex => intro A X; conv => lhs; cbv
  case hob =>
    intro X
    subst hB
    simp [AllOb, Ob.holds, BE.den, std, stdCmp, stdArith] <;> omega
  case hQ =>
  intro X0 a0 w1 hF
  refine wp_seq ?_
  apply region_okB hB T99_ok [0, 2, 4, 5] [0, 2] [(1, .x fun _ => ⟨.tup [.str s1, .int .i64 e1], [(0, [.str r1])], []⟩)] hF
  case hex => intro A X; conv => lhs; cbv
  case hob =>
    intro X
    subst hB; exact ⟨⟨enters95, S1⟩, trivial⟩
  case hQ =>
  intro X1 a0 w1 hF
  refine wp_seq ?_
  refine wp_seq ?_
  apply region_okB hB T99_ok [14, 0, 2, 4, 5] [0, 2] [] hF
  case hex => intro A X; conv => lhs; cbv
  case hob =>
    intro X
    subst hB
    simp [AllOb, Ob.holds, BE.den, std, stdCmp, stdArith] <;> omega
  case hQ =>
  intro X2 a0 w1 hF
  refine test_ok hF rfl (fun hb hF => ?_) (fun hb hF => ?_)
  · skip
    have hs : unB s = [] ∧ e1 = 4 ∧ r1 = s := by
      rcases C1 with ⟨h1, h2, h3, h4⟩ | ⟨h1, h2, h3, h4⟩
      · exact ⟨List.eq_nil_of_length_eq_zero (by rw [un_size]; omega), h3, h4⟩
      · subst hB; rw [h3] at hb; cases hb
    obtain ⟨hs, he1, hr1⟩ := hs
    have hV : labV s = ⟨0, 0⟩ := by simp only [labV, hs]; rfl
    have hE : labE s = e1 := by simp only [labE, hs, he1]; rfl
    have hQ : labQ s = r1 := by rw [hr1]; simp only [labQ, hs]; rw [← mk_un s, hs]
    refine wp_seq ?_
    apply region_okB hB T99_ok [2, 3] [0, 2] [] hF
    case hex => intro A X; conv => lhs; cbv
    case hob =>
      intro X
      subst hB
      simp [AllOb, Ob.holds, BE.den, std, stdCmp, stdArith] <;> omega
    case hQ =>
    intro X3 a0 w1 hF
    refine wp_ret ?_
    refine (ret_x (fn := Try.f99) T99_ok hF (rs := [.cell 2 25, .tmp 3]) rfl (by conv => lhs; cbv) ?_ noAtom [] ?_ ?_ ?_).1
    · subst hB; simp [AllOb, Ob.holds]
    · subst hB; rw [hV, hE]; exact Sim.refl _
    · subst hB; rw [hQ]; exact ⟨rfl, ⟨_, rfl, SimL.refl _⟩, trivial⟩
    · exact trivial
  · skip
    have hs : ∃ n r, unB s = n :: r ∧ s1 = mkB [n] ∧ r1 = mkB r := by
      rcases C1 with ⟨h1, h2, h3, h4⟩ | ⟨h1, h2, h3, h4⟩
      · subst hB; rw [h3] at hb; cases hb
      · cases hu : unB s with
        | nil => have := un_size s; rw [hu] at this; simp at this; omega
        | cons n r => rw [hu] at h2 h4; exact ⟨n, r, rfl, h2, h4⟩
    obtain ⟨n, r, hs, hs1, hr1⟩ := hs
    have hn256 := n.toNat_lt
    refine wp_skip ?_
    refine wp_seq ?_
    apply region_okB hB T99_ok [0, 2, 6] [0, 2, 6] [] hF
    case hex => intro A X; conv => lhs; cbv
    case hob =>
      intro X
      subst hB
      exact ⟨⟨by decide, by show (0 : Int) < (s1.size : Int); rw [hs1, mk_size]; simp⟩, rfl, trivial⟩
    case hQ =>
    intro X4 a0 w1 hF
    have hl0 : B.conv .i64 (B.sat s1 (B.toNat 0)) = (n.toNat : Int) := by
      subst hB
      show IntKind.i64.wrap ((s1[(0 : Int).toNat]?.getD 0).toNat : Int) = _
      rw [hs1]
      exact wrap_i64n n.toNat (by omega)
    refine wp_seq ?_
    refine wp_seq ?_
    apply region_okB hB T99_ok [23, 0, 2, 6] [0, 2, 6] [] hF
    case hex => intro A X; conv => lhs; cbv
    case hob =>
      intro X
      subst hB; exact ⟨rfl, trivial⟩
    case hQ =>
    intro X5 a0 w1 hF
    refine test_ok hF rfl (fun hb hF => ?_) (fun hb hF => ?_)
    · skip
      have hn8 : 64 < n.toNat := by
        have h1 : (64 : Int) < B.conv .i64 (B.sat s1 (B.toNat 0)) := by subst hB; simpa [std, stdCmp] using hb
        rw [hl0] at h1
        omega
      have hV : labV s = ⟨0, 0⟩ := by simp only [labV, hs, decL, hn8, if_true]; rfl
      have hE : labE s = 3 := by simp only [labE, hs, decL, hn8, if_true]; rfl
      have hQ : labQ s = r1 := by rw [hr1]; simp only [labQ, hs, hn8, if_true]
      refine wp_seq ?_
      apply region_okB hB T99_ok [2, 3] [0, 2] [] hF
      case hex => intro A X; conv => lhs; cbv
      case hob =>
        intro X
        subst hB
        simp [AllOb, Ob.holds, BE.den, std, stdCmp, stdArith] <;> omega
      case hQ =>
      intro X6 a0 w1 hF
      refine wp_ret ?_
      refine (ret_x (fn := Try.f99) T99_ok hF (rs := [.cell 2 25, .tmp 3]) rfl (by conv => lhs; cbv) ?_ noAtom [] ?_ ?_ ?_).1
      · subst hB; simp [AllOb, Ob.holds]
      · subst hB; rw [hV, hE]; exact Sim.refl _
      · subst hB; rw [hQ]; exact ⟨rfl, ⟨_, rfl, SimL.refl _⟩, trivial⟩
      · exact trivial
    · skip
      have hn8 : ¬ 64 < n.toNat := by
        have h1 : ¬ (64 : Int) < B.conv .i64 (B.sat s1 (B.toNat 0)) := by subst hB; simpa [std, stdCmp] using hb
        rw [hl0] at h1
        omega
      have S2 := take_m0 b r1 (((n.toNat + 7) / 8 : Nat) : Int) (by omega)
      have C2 := take_cases r1 (((n.toNat + 7) / 8 : Nat) : Int) (by omega)
      generalize takeS r1 (((n.toNat + 7) / 8 : Nat) : Int) = s2 at S2 C2
      generalize takeE r1 (((n.toNat + 7) / 8 : Nat) : Int) = e2 at S2 C2
      generalize takeR r1 (((n.toNat + 7) / 8 : Nat) : Int) = r2 at S2 C2
      refine wp_skip ?_
      refine wp_seq ?_
      refine wp_seq ?_
      apply region_okB hB T99_ok [2, 4, 5, 6] [0, 2, 6] [(6, .x fun _ => ⟨.tup [.str s2, .int .i64 e2], [(0, [.str r2])], []⟩)] hF
      case hex => intro A X; conv => lhs; cbv
      case hob =>
        intro X
        subst hB
        refine ⟨rfl, show (8 : Int) ≠ 0 by decide, ⟨enters95, ?_⟩, trivial⟩
        show SpecX _ _ [.ptr 0 b 0, .int .i64 (IntKind.i64.wrap ((IntKind.i64.wrap (IntKind.i64.wrap (std.conv .i64 (std.sat s1 (std.toNat 0)) + 8) - 1)).tdiv 8))] _ _
        rw [hl0, wrap_in (x := (n.toNat : Int) + 8) (by omega) (by omega), wrap_in (x := (n.toNat : Int) + 8 - 1) (by omega) (by omega), show (n.toNat : Int) + 8 - 1 = ((n.toNat + 7 : Nat) : Int) by omega]
        show SpecX _ _ [.ptr 0 b 0, .int .i64 (IntKind.i64.wrap (((n.toNat + 7) / 8 : Nat) : Int))] _ _
        rw [wrap_i64n _ (by omega)]
        exact S2
      case hQ =>
      intro X7 a0 w1 hF
      refine wp_seq ?_
      apply region_okB hB T99_ok [36, 2, 4, 5, 6] [0, 2, 6] [] hF
      case hex => intro A X; conv => lhs; cbv
      case hob =>
        intro X
        subst hB
        simp [AllOb, Ob.holds, BE.den, std, stdCmp, stdArith] <;> omega
      case hQ =>
      intro X8 a0 w1 hF
      refine test_ok hF rfl (fun hb hF => ?_) (fun hb hF => ?_)
      · skip
        have hr : r.length < (n.toNat + 7) / 8 ∧ e2 = 4 ∧ r2 = r1 := by
          rcases C2 with ⟨h1, h2, h3, h4⟩ | ⟨h1, h2, h3, h4⟩
          · rw [hr1, mk_size] at h1; exact ⟨by omega, h3, h4⟩
          · subst hB; rw [h3] at hb; cases hb
        obtain ⟨hr, he2, hr2⟩ := hr
        have hV : labV s = ⟨0, 0⟩ := by simp only [labV, hs, decL, hn8, hr, if_true, if_false]; rfl
        have hE : labE s = e2 := by simp only [labE, hs, decL, hn8, hr, he2, if_true, if_false]; rfl
        have hQ : labQ s = r2 := by rw [hr2, hr1]; simp only [labQ, hs, hn8, hr, if_true, if_false]
        refine wp_seq ?_
        apply region_okB hB T99_ok [2, 3] [0, 2] [] hF
        case hex => intro A X; conv => lhs; cbv
        case hob =>
          intro X
          subst hB
          simp [AllOb, Ob.holds, BE.den, std, stdCmp, stdArith] <;> omega
        case hQ =>
        intro X9 a0 w1 hF
        refine wp_ret ?_
        refine (ret_x (fn := Try.f99) T99_ok hF (rs := [.cell 2 25, .tmp 3]) rfl (by conv => lhs; cbv) ?_ noAtom [] ?_ ?_ ?_).1
        · subst hB; simp [AllOb, Ob.holds]
        · subst hB; rw [hV, hE]; exact Sim.refl _
        · subst hB; rw [hQ]; exact ⟨rfl, ⟨_, rfl, SimL.refl _⟩, trivial⟩
        · exact trivial
      · skip
        have hr : ¬ r.length < (n.toNat + 7) / 8 ∧ s2 = mkB (r.take ((n.toNat + 7) / 8)) ∧ r2 = mkB (r.drop ((n.toNat + 7) / 8)) := by
          rcases C2 with ⟨h1, h2, h3, h4⟩ | ⟨h1, h2, h3, h4⟩
          · subst hB; rw [h3] at hb; cases hb
          · rw [hr1] at h1 h2 h4; rw [un_mk] at h2 h4; rw [mk_size] at h1; exact ⟨by omega, h2, h4⟩
        obtain ⟨hr, hs2, hr2⟩ := hr
        have hu2 : unB s2 = r.take ((n.toNat + 7) / 8) := by rw [hs2, un_mk]
        have hsz : s2.size = (n.toNat + 7) / 8 := by rw [← un_size, hu2, List.length_take]; omega
        refine wp_skip ?_
        refine wp_seq ?_
        refine wp_seq ?_
        apply region_okB hB T99_ok [41, 2, 4, 6, 40] [6, 0, 2] [] hF
        case hex => intro A X; conv => lhs; cbv
        case hob =>
          intro X
          subst hB
          simp [AllOb, Ob.holds, BE.den, std, stdCmp, stdArith] <;> omega
        case hQ =>
        intro X10 a0 w1 hF
        refine wp_block ?_
        refine loop_pre (ι := Nat × Int) (fun p => [(41, .int .i64 (p.1 : Int))]) (fun p => [(6, ⟨(X4 4).b, 25, [.int .i64 (B.conv .i64 (B.sat s1 (B.toNat 0))), .int .u64 p.2]⟩)]) (fun p => []) (fun p => p.1 ≤ s2.size ∧ p.2 = (valB ((unB s2).take p.1) * 256 ^ (8 - p.1) : Nat)) (fun p => s2.size - p.1) (0, 0) ⟨Nat.zero_le _, by simp [valB]⟩ hF ?_
        rintro ⟨i, x⟩ ⟨hi, hx⟩ a0 w1 hF
        try dsimp only at hi
        try dsimp only at hx
        refine wp_seq ?_
        apply region_okB hB T99_ok [42, 2, 4, 6, 40, 41] [6, 0, 2] [] hF
        case hex => intro A X; conv => lhs; cbv
        case hob =>
          intro X
          subst hB
          simp [AllOb, Ob.holds, BE.den, std, stdCmp, stdArith] <;> omega
        case hQ =>
        intro X11 a0 w1 hF
        refine wp_seq ?_
        refine test_ok hF rfl (fun hb hF => ?_) (fun hb hF => ?_)
        · skip
          have hin : i < s2.size := by
            have : (i : Int) < (s2.size : Int) := by subst hB; simpa [std, stdCmp] using hb
            omega
          refine wp_skip ?_
          refine wp_seq ?_
          refine wp_block ?_
          refine wp_seq ?_
          apply region_okB hB T99_ok [2, 4, 6, 7, 40, 41] [6, 0, 2] [] hF
          case hex => intro A X; conv => lhs; cbv
          case hob =>
            intro X
            subst hB
            simp [AllOb, Ob.holds, BE.den, std, stdCmp, stdArith] <;> omega
          case hQ =>
          intro X12 a0 w1 hF
          apply drawn_okB hB (by kernel_rfl) T99_ok [2, 4, 6, 40, 41] [6, 0, 2] [] hF rfl
          case hex => intro A X; conv => lhs; cbv
          case hD => kernel_rfl
          case hlen => rfl
          case hob =>
            intro X
            subst hB
            refine ⟨rfl, ⟨?_, ?_⟩, ?_, rfl, trivial⟩
            · show (0 : Int) ≤ (i : Int); omega
            · show (i : Int) < (s2.size : Int); omega
            · show 0 ≤ IntKind.i64.wrap (56 - IntKind.i64.wrap (8 * (i : Int)))
              rw [wrap_in (x := 8 * (i : Int)) (by omega) (by omega), wrap_in (by omega) (by omega)]; omega
          case hQ =>
          intro X13 a0 w1 hF
          apply region_okB hB T99_ok [41, 2, 4, 6, 40] [6, 0, 2] [] hF
          case hex => intro A X; conv => lhs; cbv
          case hob =>
            intro X
            subst hB
            simp [AllOb, Ob.holds, BE.den, std, stdCmp, stdArith] <;> omega
          case hQ =>
          intro X14 a0 w1 hF
          have e : B.arith .add .i64 (i : Int) 1 = ((i + 1 : Nat) : Int) := by subst hB; exact wrap_succ (n := s2.size) hin (by simp only [maxLen]; omega)
          refine ⟨(i + 1, B.arith .or .u64 x (B.shift .shl .u64 (B.conv .u64 (B.sat s2 (B.toNat (i : Int)))) (B.arith .sub .i64 56 (B.arith .mul .i64 8 (i : Int))))), ⟨by simp only; omega, ?_⟩, by simp only; omega, by rw [← e]; exact hF⟩
          subst hB
          show stdArith .or .u64 x (stdShift .shl .u64 (IntKind.u64.wrap ((s2[((i : Int)).toNat]?.getD 0).toNat : Int)) (IntKind.i64.wrap (56 - IntKind.i64.wrap (8 * (i : Int))))) = _
          have hi2 : i < (unB s2).length := by rw [un_size]; exact hin
          rw [hx, wrap_in (x := 8 * (i : Int)) (by omega) (by omega), wrap_in (x := 56 - 8 * (i : Int)) (by omega) (by omega), Int.toNat_natCast, un_get, List.getElem?_eq_getElem hi2, List.take_succ_eq_append_getElem hi2, valB_snoc]
          have hb1 := valB_lt ((unB s2).take i)
          rw [List.length_take, Nat.min_eq_left (by omega)] at hb1
          exact or_lab _ _ hb1 (by omega)
        · skip
          have hout : i = s2.size := by
            have : ¬ (i : Int) < (s2.size : Int) := by subst hB; simpa [std, stdCmp] using hb
            omega
          rw [hout, List.take_of_length_le (by rw [un_size]; exact Nat.le_refl _)] at hx
          have hlab : labOf n (r.take ((n.toNat + 7) / 8)) = ⟨n.toNat, x⟩ := by
            unfold labOf
            rw [hx, hu2, hsz, ← hu2, un_size, hsz]
          have hxU : U64 x := by
            rw [hx]
            have h1 := valB_lt (unB s2)
            rw [un_size] at h1
            have h2 := Nat.mul_lt_mul_of_pos_right h1 (Nat.pow_pos (n := 8 - s2.size) (by decide : 0 < 256))
            rw [← Nat.pow_add, show s2.size + (8 - s2.size) = 8 by omega] at h2
            have h3 : (256 : Nat) ^ 8 = 18446744073709551616 := by decide
            constructor
            · omega
            · omega
          have S3 := isL_s ⟨n.toNat, x⟩ hxU
          simp only [labAV] at S3
          generalize hlb : isL ⟨n.toNat, x⟩ = lb at S3
          refine wp_exit ?_
          refine wp_seq ?_
          refine wp_seq ?_
          apply region_okB hB T99_ok [59, 2, 6] [6, 0, 2] [(1, .r fun _ => .bool (.v lb))] hF
          case hex => intro A X; conv => lhs; cbv
          case hob =>
            intro X
            subst hB
            refine ⟨rfl, ⟨enters52, ?_⟩, trivial⟩
            show Spec _ _ [.agg [.int .i64 (std.conv .i64 (std.sat s1 (std.toNat 0))), .int .u64 x]] _
            rw [hl0]
            exact S3
          case hQ =>
          intro X15 a0 w1 hF
          refine test_ok hF rfl (fun hb hF => ?_) (fun hb hF => ?_)
          · skip
            have hlf : lb = false := by subst hB; cases lb <;> first | rfl | (simp [std] at hb)
            have hV : labV s = ⟨0, 0⟩ := by simp only [labV, hs, decL, hn8, hr, hlab, hlb, hlf, if_false]; rfl
            have hE : labE s = 3 := by simp only [labE, hs, decL, hn8, hr, hlab, hlb, hlf, if_false]; rfl
            have hQ : labQ s = r2 := by rw [hr2]; simp only [labQ, hs, hn8, hr, if_false]
            refine wp_seq ?_
            apply region_okB hB T99_ok [2, 3] [0, 2] [] hF
            case hex => intro A X; conv => lhs; cbv
            case hob =>
              intro X
              subst hB
              simp [AllOb, Ob.holds, BE.den, std, stdCmp, stdArith] <;> omega
            case hQ =>
            intro X16 a0 w1 hF
            refine wp_ret ?_
            refine (ret_x (fn := Try.f99) T99_ok hF (rs := [.cell 2 25, .tmp 3]) rfl (by conv => lhs; cbv) ?_ noAtom [] ?_ ?_ ?_).1
            · subst hB; simp [AllOb, Ob.holds]
            · subst hB; rw [hV, hE]; exact Sim.refl _
            · subst hB; rw [hQ]; exact ⟨rfl, ⟨_, rfl, SimL.refl _⟩, trivial⟩
            · exact trivial
          · skip
            have hlf : lb = true := by subst hB; cases lb <;> first | rfl | (simp [std] at hb)
            have hV : labV s = ⟨n.toNat, x⟩ := by simp only [labV, hs, decL, hn8, hr, hlab, hlb, hlf, if_true, if_false]; rfl
            have hE : labE s = 0 := by simp only [labE, hs, decL, hn8, hr, hlab, hlb, hlf, if_true, if_false]; rfl
            have hQ : labQ s = r2 := by rw [hr2]; simp only [labQ, hs, hn8, hr, if_false]
            refine wp_skip ?_
            refine wp_seq ?_
            apply region_okB hB T99_ok [2, 3] [0, 2] [] hF
            case hex => intro A X; conv => lhs; cbv
            case hob =>
              intro X
              subst hB; exact ⟨rfl, rfl, trivial⟩
            case hQ =>
            intro X17 a0 w1 hF
            refine wp_ret ?_
            refine (ret_x (fn := Try.f99) T99_ok hF (rs := [.cell 2 25, .tmp 3]) rfl (by conv => lhs; cbv) ?_ noAtom [] ?_ ?_ ?_).1
            · subst hB; simp [AllOb, Ob.holds]
            · subst hB
              rw [hV, hE, ← hl0]
              exact Sim.refl _
            · subst hB; rw [hQ]; exact ⟨rfl, ⟨_, rfl, SimL.refl _⟩, trivial⟩
            · exact trivial
theorem label_m (k0 : Nat) (b : Nat) (s : ByteArray) : SpecX Try.prog 99 [.ptr k0 b 0] [(k0, ⟨b, 105, [.str s]⟩)] (fun _ => ⟨.tup [labAV (labV s), .int .i64 (labE s)], [(k0, [.str (labQ s)])], []⟩) :=
  (label_m0 b s).re (by repeat (first | exact trivial | refine ⟨Sim.ptr, ?_⟩ | refine ⟨Sim.fn ⟨Sim.ptr, trivial⟩ trivial, ?_⟩ | refine ⟨Sim.refl _, ?_⟩)) rfl (fun x => ⟨rfl, rfl, Sim.refl _, rfl⟩)
def T74 : List (Nat × TI) := [(9, ti9), (23, ti23), (29, ti29), (67, ti67), (105, ti105)]
theorem T74_ok : TabOK Try.prog T74 := .cons t9 (.cons t23 (.cons t29 (.cons t67 (.cons t105 (.nil)))))
theorem enters74 : Enters Try.prog 74 := fun _ _ => by kernel_rfl
theorem read_num0 (b : Nat) (s : ByteArray) : SpecX Try.prog 74 [.ptr 0 b 0, .fn 75 [.ptr 0 b 0] []] [(0, ⟨b, 105, [.str s]⟩)] (fun _ => ⟨.tup [.int .u64 (numV s), .int .i64 (numE s)], [(0, [.str (numR s)])], []⟩) := by
  intro m w hm hargs hpre
  have S1 := number_m0 b s
  obtain ⟨C0, C1⟩ := num_rest s
  generalize numV s = v at S1 C0 C1 ⊢
  generalize numE s = e at S1 C0 C1 ⊢
  generalize numQ s = q at S1 C0 C1
  generalize numR s = r at C0 C1 ⊢
  refine enterX hm hpre hargs Try.func74 rfl (by simp [Try.ntmps74]) fun a0 hF => ?_
  simp only [Try.ntmps74, startT] at hF
  obtain ⟨B, hB⟩ : ∃ B, B = std := ⟨_, rfl⟩
  refine wp_seq ?_
  apply region_okB hB T74_ok [0, 1] [0] [] hF
  case hex => intro A X; conv => lhs; cbv
  case hob =>
    intro X
    subst hB
    simp [AllOb, Ob.holds, BE.den, std, stdCmp, stdArith] <;> omega
  case hQ =>
  intro X0 a0 w1 hF
  refine wp_seq ?_
  apply region_okB hB T74_ok [0, 1, 6] [0] [] hF
  case hex => intro A X; conv => lhs; cbv
  case hob =>
    intro X
    subst hB
    simp [AllOb, Ob.holds, BE.den, std, stdCmp, stdArith] <;> omega
  case hQ =>
  intro X1 a0 w1 hF
  refine wp_seq ?_
  refine wp_seq ?_
  apply region_okB hB T74_ok [11, 0, 1, 6] [0] [] hF
  case hex => intro A X; conv => lhs; cbv
  case hob =>
    intro X
    subst hB
    simp [AllOb, Ob.holds, BE.den, std, stdCmp, stdArith] <;> omega
  case hQ =>
  intro X2 a0 w1 hF
  refine test_ff hF rfl (fun hF => ?_)
  refine wp_skip ?_
  refine wp_seq ?_
  apply region_okB hB T74_ok [0, 1, 6, 7] [0] [] hF
  case hex => intro A X; conv => lhs; cbv
  case hob =>
    intro X
    subst hB; exact ⟨rfl, trivial⟩
  case hQ =>
  intro X4 a0 w1 hF
  refine wp_seq ?_
  apply region_okB hB T74_ok [0, 6, 7, 8, 9] [0] [(1, .x fun _ => ⟨.tup [.int .u64 v, .int .i64 e], [(0, [.str q])], []⟩)] hF
  case hex => intro A X; conv => lhs; cbv
  case hob =>
    intro X
    subst hB; exact ⟨⟨enters75, S1⟩, trivial⟩
  case hQ =>
  intro X5 a0 w1 hF
  refine wp_seq ?_
  refine wp_seq ?_
  apply region_okB hB T74_ok [23, 0, 6, 7, 8, 9] [0] [] hF
  case hex => intro A X; conv => lhs; cbv
  case hob =>
    intro X
    subst hB
    simp [AllOb, Ob.holds, BE.den, std, stdCmp, stdArith] <;> omega
  case hQ =>
  intro X6 a0 w1 hF
  refine test_ok hF rfl (fun hb hF => ?_) (fun hb hF => ?_)
  · skip
    have he : e ≠ 0 := by subst hB; simpa [std, stdCmp] using hb
    obtain ⟨hv, hr⟩ := C1 he
    subst hv; subst hr
    refine wp_seq ?_
    apply region_okB hB T74_ok [6, 9] [0] [] hF
    case hex => intro A X; conv => lhs; cbv
    case hob =>
      intro X
      subst hB; exact ⟨rfl, trivial⟩
    case hQ =>
    intro X7 a0 w1 hF
    refine wp_seq ?_
    apply region_okB hB T74_ok [4, 5] [0] [] hF
    case hex => intro A X; conv => lhs; cbv
    case hob =>
      intro X
      subst hB
      simp [AllOb, Ob.holds, BE.den, std, stdCmp, stdArith] <;> omega
    case hQ =>
    intro X8 a0 w1 hF
    refine wp_ret ?_
    refine (ret_x (fn := Try.f74) T74_ok hF (rs := [.tmp 4, .tmp 5]) rfl (rfl) ?_ noAtom [] ?_ ?_ ?_).1
    · subst hB; simp [AllOb, Ob.holds]
    · subst hB; exact Sim.refl _
    · subst hB; first | exact trivial | exact ⟨rfl, ⟨_, rfl, SimL.refl _⟩, trivial⟩
    · exact trivial
  · skip
    have he : e = 0 := by subst hB; simpa [std, stdCmp] using hb
    have hr := C0 he
    subst hr; subst he
    refine wp_skip ?_
    refine wp_seq ?_
    apply region_okB hB T74_ok [4, 5] [0] [] hF
    case hex => intro A X; conv => lhs; cbv
    case hob =>
      intro X
      subst hB
      simp [AllOb, Ob.holds, BE.den, std, stdCmp, stdArith] <;> omega
    case hQ =>
    intro X9 a0 w1 hF
    refine wp_ret ?_
    refine (ret_x (fn := Try.f74) T74_ok hF (rs := [.tmp 4, .tmp 5]) rfl (rfl) ?_ noAtom [] ?_ ?_ ?_).1
    · subst hB; simp [AllOb, Ob.holds]
    · subst hB; exact Sim.refl _
    · subst hB; first | exact trivial | exact ⟨rfl, ⟨_, rfl, SimL.refl _⟩, trivial⟩
    · exact trivial
theorem read_num (k0 : Nat) (b : Nat) (s : ByteArray) : SpecX Try.prog 74 [.ptr k0 b 0, .fn 75 [.ptr k0 b 0] []] [(k0, ⟨b, 105, [.str s]⟩)] (fun _ => ⟨.tup [.int .u64 (numV s), .int .i64 (numE s)], [(k0, [.str (numR s)])], []⟩) :=
  (read_num0 b s).re (by repeat (first | exact trivial | refine ⟨Sim.ptr, ?_⟩ | refine ⟨Sim.fn ⟨Sim.ptr, trivial⟩ trivial, ?_⟩ | refine ⟨Sim.refl _, ?_⟩)) rfl (fun x => ⟨rfl, rfl, Sim.refl _, rfl⟩)
def T46 : List (Nat × TI) := [(23, ti23), (29, ti29), (67, ti67), (71, ti71)]
theorem T46_ok : TabOK Try.prog T46 := .cons t23 (.cons t29 (.cons t67 (.cons t71 (.nil))))
theorem enters46 : Enters Try.prog 46 := fun _ _ => by kernel_rfl
theorem Number_m0 (b : Nat) (s : ByteArray) : SpecX Try.prog 46 [.ptr 0 b 0] [(0, ⟨b, 105, [.str s]⟩)] (fun _ => ⟨.tup [.int .u64 (numV s), .int .i64 (numE s)], [(0, [.str (numR s)])], []⟩) := by
  intro m w hm hargs hpre
  have S1 := read_num0 b s
  generalize numV s = v at S1 ⊢
  generalize numE s = e at S1 ⊢
  generalize numR s = r at S1 ⊢
  refine enterX hm hpre hargs Try.func46 rfl (by simp [Try.ntmps46]) fun a0 hF => ?_
  simp only [Try.ntmps46, startT] at hF
  obtain ⟨B, hB⟩ : ∃ B, B = std := ⟨_, rfl⟩
  refine wp_seq ?_
  apply region_okB hB T46_ok [0] [0] [] hF
  case hex => intro A X; conv => lhs; cbv
  case hob =>
    intro X
    subst hB
    simp [AllOb, Ob.holds, BE.den, std, stdCmp, stdArith] <;> omega
  case hQ =>
  intro X0 a0 w1 hF
  refine wp_seq ?_
  apply region_okB hB T46_ok [2, 3] [0] [(3, .x fun _ => ⟨.tup [.int .u64 v, .int .i64 e], [(0, [.str r])], []⟩)] hF
  case hex => intro A X; conv => lhs; cbv
  case hob =>
    intro X
    subst hB; exact ⟨⟨enters74, S1⟩, trivial⟩
  case hQ =>
  intro X1 a0 w1 hF
  refine wp_ret ?_
  refine (ret_x (fn := Try.f46) T46_ok hF (rs := [.tmp 2, .tmp 3]) rfl (rfl) ?_ noAtom [] ?_ ?_ ?_).1
  · subst hB; simp [AllOb, Ob.holds]
  · subst hB; exact Sim.refl _
  · subst hB; first | exact trivial | exact ⟨rfl, ⟨_, rfl, SimL.refl _⟩, trivial⟩
  · exact trivial
theorem Number_m (k0 : Nat) (b : Nat) (s : ByteArray) : SpecX Try.prog 46 [.ptr k0 b 0] [(k0, ⟨b, 105, [.str s]⟩)] (fun _ => ⟨.tup [.int .u64 (numV s), .int .i64 (numE s)], [(k0, [.str (numR s)])], []⟩) :=
  (Number_m0 b s).re (by repeat (first | exact trivial | refine ⟨Sim.ptr, ?_⟩ | refine ⟨Sim.fn ⟨Sim.ptr, trivial⟩ trivial, ?_⟩ | refine ⟨Sim.refl _, ?_⟩)) rfl (fun x => ⟨rfl, rfl, Sim.refl _, rfl⟩)
def T96 : List (Nat × TI) := [(9, ti9), (29, ti29), (67, ti67), (105, ti105)]
theorem T96_ok : TabOK Try.prog T96 := .cons t9 (.cons t29 (.cons t67 (.cons t105 (.nil))))
theorem enters96 : Enters Try.prog 96 := fun _ _ => by kernel_rfl
theorem read_txt0 (b : Nat) (s : ByteArray) : SpecX Try.prog 96 [.ptr 0 b 0, .fn 97 [.ptr 0 b 0] []] [(0, ⟨b, 105, [.str s]⟩)] (fun _ => ⟨.tup [.str (txtV s), .int .i64 (txtE s)], [(0, [.str (txtR s)])], []⟩) := by
  intro m w hm hargs hpre
  have S1 := text_m0 b s
  obtain ⟨C0, C1⟩ := txt_rest s
  generalize txtV s = v at S1 C0 C1 ⊢
  generalize txtE s = e at S1 C0 C1 ⊢
  generalize txtQ s = q at S1 C0 C1
  generalize txtR s = r at C0 C1 ⊢
  refine enterX hm hpre hargs Try.func96 rfl (by simp [Try.ntmps96]) fun a0 hF => ?_
  simp only [Try.ntmps96, startT] at hF
  obtain ⟨B, hB⟩ : ∃ B, B = std := ⟨_, rfl⟩
  refine wp_seq ?_
  apply region_okB hB T96_ok [0, 1] [0] [] hF
  case hex => intro A X; conv => lhs; cbv
  case hob =>
    intro X
    subst hB
    simp [AllOb, Ob.holds, BE.den, std, stdCmp, stdArith] <;> omega
  case hQ =>
  intro X0 a0 w1 hF
  refine wp_seq ?_
  apply region_okB hB T96_ok [0, 1, 6] [0] [] hF
  case hex => intro A X; conv => lhs; cbv
  case hob =>
    intro X
    subst hB
    simp [AllOb, Ob.holds, BE.den, std, stdCmp, stdArith] <;> omega
  case hQ =>
  intro X1 a0 w1 hF
  refine wp_seq ?_
  refine wp_seq ?_
  apply region_okB hB T96_ok [11, 0, 1, 6] [0] [] hF
  case hex => intro A X; conv => lhs; cbv
  case hob =>
    intro X
    subst hB
    simp [AllOb, Ob.holds, BE.den, std, stdCmp, stdArith] <;> omega
  case hQ =>
  intro X2 a0 w1 hF
  refine test_ff hF rfl (fun hF => ?_)
  refine wp_skip ?_
  refine wp_seq ?_
  apply region_okB hB T96_ok [0, 1, 6, 7] [0] [] hF
  case hex => intro A X; conv => lhs; cbv
  case hob =>
    intro X
    subst hB; exact ⟨rfl, trivial⟩
  case hQ =>
  intro X4 a0 w1 hF
  refine wp_seq ?_
  apply region_okB hB T96_ok [0, 6, 7, 8, 9] [0] [(1, .x fun _ => ⟨.tup [.str v, .int .i64 e], [(0, [.str q])], []⟩)] hF
  case hex => intro A X; conv => lhs; cbv
  case hob =>
    intro X
    subst hB; exact ⟨⟨enters97, S1⟩, trivial⟩
  case hQ =>
  intro X5 a0 w1 hF
  refine wp_seq ?_
  refine wp_seq ?_
  apply region_okB hB T96_ok [23, 0, 6, 7, 8, 9] [0] [] hF
  case hex => intro A X; conv => lhs; cbv
  case hob =>
    intro X
    subst hB
    simp [AllOb, Ob.holds, BE.den, std, stdCmp, stdArith] <;> omega
  case hQ =>
  intro X6 a0 w1 hF
  refine test_ok hF rfl (fun hb hF => ?_) (fun hb hF => ?_)
  · skip
    have he : e ≠ 0 := by subst hB; simpa [std, stdCmp] using hb
    obtain ⟨hv, hr⟩ := C1 he
    subst hv; subst hr
    refine wp_seq ?_
    apply region_okB hB T96_ok [6, 9] [0] [] hF
    case hex => intro A X; conv => lhs; cbv
    case hob =>
      intro X
      subst hB; exact ⟨rfl, trivial⟩
    case hQ =>
    intro X7 a0 w1 hF
    refine wp_seq ?_
    apply region_okB hB T96_ok [4, 5] [0] [] hF
    case hex => intro A X; conv => lhs; cbv
    case hob =>
      intro X
      subst hB
      simp [AllOb, Ob.holds, BE.den, std, stdCmp, stdArith] <;> omega
    case hQ =>
    intro X8 a0 w1 hF
    refine wp_ret ?_
    refine (ret_x (fn := Try.f96) T96_ok hF (rs := [.tmp 4, .tmp 5]) rfl (rfl) ?_ noAtom [] ?_ ?_ ?_).1
    · subst hB; simp [AllOb, Ob.holds]
    · subst hB; exact Sim.refl _
    · subst hB; first | exact trivial | exact ⟨rfl, ⟨_, rfl, SimL.refl _⟩, trivial⟩
    · exact trivial
  · skip
    have he : e = 0 := by subst hB; simpa [std, stdCmp] using hb
    have hr := C0 he
    subst hr; subst he
    refine wp_skip ?_
    refine wp_seq ?_
    apply region_okB hB T96_ok [4, 5] [0] [] hF
    case hex => intro A X; conv => lhs; cbv
    case hob =>
      intro X
      subst hB
      simp [AllOb, Ob.holds, BE.den, std, stdCmp, stdArith] <;> omega
    case hQ =>
    intro X9 a0 w1 hF
    refine wp_ret ?_
    refine (ret_x (fn := Try.f96) T96_ok hF (rs := [.tmp 4, .tmp 5]) rfl (rfl) ?_ noAtom [] ?_ ?_ ?_).1
    · subst hB; simp [AllOb, Ob.holds]
    · subst hB; exact Sim.refl _
    · subst hB; first | exact trivial | exact ⟨rfl, ⟨_, rfl, SimL.refl _⟩, trivial⟩
    · exact trivial
theorem read_txt (k0 : Nat) (b : Nat) (s : ByteArray) : SpecX Try.prog 96 [.ptr k0 b 0, .fn 97 [.ptr k0 b 0] []] [(k0, ⟨b, 105, [.str s]⟩)] (fun _ => ⟨.tup [.str (txtV s), .int .i64 (txtE s)], [(k0, [.str (txtR s)])], []⟩) :=
  (read_txt0 b s).re (by repeat (first | exact trivial | refine ⟨Sim.ptr, ?_⟩ | refine ⟨Sim.fn ⟨Sim.ptr, trivial⟩ trivial, ?_⟩ | refine ⟨Sim.refl _, ?_⟩)) rfl (fun x => ⟨rfl, rfl, Sim.refl _, rfl⟩)
def T76 : List (Nat × TI) := [(9, ti9), (29, ti29), (67, ti67), (107, ti107)]
theorem T76_ok : TabOK Try.prog T76 := .cons t9 (.cons t29 (.cons t67 (.cons t107 (.nil))))
theorem enters76 : Enters Try.prog 76 := fun _ _ => by kernel_rfl
theorem Text_m0 (b : Nat) (s : ByteArray) : SpecX Try.prog 76 [.ptr 0 b 0] [(0, ⟨b, 105, [.str s]⟩)] (fun _ => ⟨.tup [.str (txtV s), .int .i64 (txtE s)], [(0, [.str (txtR s)])], []⟩) := by
  intro m w hm hargs hpre
  have S1 := read_txt0 b s
  generalize txtV s = v at S1 ⊢
  generalize txtE s = e at S1 ⊢
  generalize txtR s = r at S1 ⊢
  refine enterX hm hpre hargs Try.func76 rfl (by simp [Try.ntmps76]) fun a0 hF => ?_
  simp only [Try.ntmps76, startT] at hF
  obtain ⟨B, hB⟩ : ∃ B, B = std := ⟨_, rfl⟩
  refine wp_seq ?_
  apply region_okB hB T76_ok [0] [0] [] hF
  case hex => intro A X; conv => lhs; cbv
  case hob =>
    intro X
    subst hB
    simp [AllOb, Ob.holds, BE.den, std, stdCmp, stdArith] <;> omega
  case hQ =>
  intro X0 a0 w1 hF
  refine wp_seq ?_
  apply region_okB hB T76_ok [2, 3] [0] [(3, .x fun _ => ⟨.tup [.str v, .int .i64 e], [(0, [.str r])], []⟩)] hF
  case hex => intro A X; conv => lhs; cbv
  case hob =>
    intro X
    subst hB; exact ⟨⟨enters96, S1⟩, trivial⟩
  case hQ =>
  intro X1 a0 w1 hF
  refine wp_ret ?_
  refine (ret_x (fn := Try.f76) T76_ok hF (rs := [.tmp 2, .tmp 3]) rfl (rfl) ?_ noAtom [] ?_ ?_ ?_).1
  · subst hB; simp [AllOb, Ob.holds]
  · subst hB; exact Sim.refl _
  · subst hB; first | exact trivial | exact ⟨rfl, ⟨_, rfl, SimL.refl _⟩, trivial⟩
  · exact trivial
theorem Text_m (k0 : Nat) (b : Nat) (s : ByteArray) : SpecX Try.prog 76 [.ptr k0 b 0] [(k0, ⟨b, 105, [.str s]⟩)] (fun _ => ⟨.tup [.str (txtV s), .int .i64 (txtE s)], [(k0, [.str (txtR s)])], []⟩) :=
  (Text_m0 b s).re (by repeat (first | exact trivial | refine ⟨Sim.ptr, ?_⟩ | refine ⟨Sim.fn ⟨Sim.ptr, trivial⟩ trivial, ?_⟩ | refine ⟨Sim.refl _, ?_⟩)) rfl (fun x => ⟨rfl, rfl, Sim.refl _, rfl⟩)
def T98 : List (Nat × TI) := [(9, ti9), (25, ti25), (29, ti29), (67, ti67), (105, ti105)]
theorem T98_ok : TabOK Try.prog T98 := .cons t9 (.cons t25 (.cons t29 (.cons t67 (.cons t105 (.nil)))))
theorem enters98 : Enters Try.prog 98 := fun _ _ => by kernel_rfl
theorem read_lab0 (b : Nat) (s : ByteArray) : SpecX Try.prog 98 [.ptr 0 b 0, .fn 99 [.ptr 0 b 0] []] [(0, ⟨b, 105, [.str s]⟩)] (fun _ => ⟨.tup [labAV (labV s), .int .i64 (labE s)], [(0, [.str (labR s)])], []⟩) := by
  intro m w hm hargs hpre
  have S1 := label_m0 b s
  obtain ⟨C0, C1⟩ := lab_rest s
  simp only [labAV] at S1 ⊢
  generalize labV s = v at S1 C0 C1 ⊢
  generalize labE s = e at S1 C0 C1 ⊢
  generalize labQ s = q at S1 C0 C1
  generalize labR s = r at C0 C1 ⊢
  refine enterX hm hpre hargs Try.func98 rfl (by simp [Try.ntmps98]) fun a0 hF => ?_
  simp only [Try.ntmps98, startT] at hF
  obtain ⟨B, hB⟩ : ∃ B, B = std := ⟨_, rfl⟩
  refine wp_seq ?_
  apply region_okB hB T98_ok [0, 1, 4] [0, 4] [] hF
  case hex => intro A X; conv => lhs; cbv
  case hob =>
    intro X
    subst hB
    simp [AllOb, Ob.holds, BE.den, std, stdCmp, stdArith] <;> omega
  case hQ =>
  intro X0 a0 w1 hF
  refine wp_seq ?_
  apply region_okB hB T98_ok [0, 1, 4, 6] [0, 4, 6] [] hF
  case hex => intro A X; conv => lhs; cbv
  case hob =>
    intro X
    subst hB
    simp [AllOb, Ob.holds, BE.den, std, stdCmp, stdArith] <;> omega
  case hQ =>
  intro X1 a0 w1 hF
  refine wp_seq ?_
  refine wp_seq ?_
  apply region_okB hB T98_ok [11, 0, 1, 4, 6] [0, 4, 6] [] hF
  case hex => intro A X; conv => lhs; cbv
  case hob =>
    intro X
    subst hB
    simp [AllOb, Ob.holds, BE.den, std, stdCmp, stdArith] <;> omega
  case hQ =>
  intro X2 a0 w1 hF
  refine test_ff hF rfl (fun hF => ?_)
  refine wp_skip ?_
  refine wp_seq ?_
  apply region_okB hB T98_ok [0, 1, 4, 6, 7] [0, 4, 6] [] hF
  case hex => intro A X; conv => lhs; cbv
  case hob =>
    intro X
    subst hB; exact ⟨rfl, trivial⟩
  case hQ =>
  intro X4 a0 w1 hF
  refine wp_seq ?_
  apply region_okB hB T98_ok [0, 4, 6, 7, 8, 9] [0, 4, 6, 8] [(1, .x fun _ => ⟨.tup [.agg [.int .i64 v.len, .int .u64 v.bits], .int .i64 e], [(0, [.str q])], []⟩)] hF
  case hex => intro A X; conv => lhs; cbv
  case hob =>
    intro X
    subst hB; exact ⟨⟨enters99, S1⟩, rfl, trivial⟩
  case hQ =>
  intro X5 a0 w1 hF
  refine wp_seq ?_
  refine wp_seq ?_
  apply region_okB hB T98_ok [23, 0, 4, 6, 7, 8, 9] [0, 4, 6, 8] [] hF
  case hex => intro A X; conv => lhs; cbv
  case hob =>
    intro X
    subst hB
    simp [AllOb, Ob.holds, BE.den, std, stdCmp, stdArith] <;> omega
  case hQ =>
  intro X6 a0 w1 hF
  refine test_ok hF rfl (fun hb hF => ?_) (fun hb hF => ?_)
  · skip
    have he : e ≠ 0 := by subst hB; simpa [std, stdCmp] using hb
    obtain ⟨hv, hr⟩ := C1 he
    subst hv; subst hr
    refine wp_seq ?_
    apply region_okB hB T98_ok [4, 6, 9] [0, 4, 6] [] hF
    case hex => intro A X; conv => lhs; cbv
    case hob =>
      intro X
      subst hB; exact ⟨rfl, trivial⟩
    case hQ =>
    intro X7 a0 w1 hF
    refine wp_seq ?_
    apply region_okB hB T98_ok [4, 5] [0, 4] [] hF
    case hex => intro A X; conv => lhs; cbv
    case hob =>
      intro X
      subst hB; exact ⟨rfl, rfl, trivial⟩
    case hQ =>
    intro X8 a0 w1 hF
    refine wp_ret ?_
    refine (ret_x (fn := Try.f98) T98_ok hF (rs := [.cell 4 25, .tmp 5]) rfl (by conv => lhs; cbv) ?_ noAtom [] ?_ ?_ ?_).1
    · subst hB; simp [AllOb, Ob.holds]
    · subst hB; exact Sim.refl _
    · subst hB; first | exact trivial | exact ⟨rfl, ⟨_, rfl, SimL.refl _⟩, trivial⟩
    · exact trivial
  · skip
    have he : e = 0 := by subst hB; simpa [std, stdCmp] using hb
    have hr := C0 he
    subst hr; subst he
    refine wp_skip ?_
    refine wp_seq ?_
    apply region_okB hB T98_ok [4, 5] [0, 4] [] hF
    case hex => intro A X; conv => lhs; cbv
    case hob =>
      intro X
      subst hB; exact ⟨rfl, rfl, trivial⟩
    case hQ =>
    intro X9 a0 w1 hF
    refine wp_ret ?_
    refine (ret_x (fn := Try.f98) T98_ok hF (rs := [.cell 4 25, .tmp 5]) rfl (by conv => lhs; cbv) ?_ noAtom [] ?_ ?_ ?_).1
    · subst hB; simp [AllOb, Ob.holds]
    · subst hB; exact Sim.refl _
    · subst hB; first | exact trivial | exact ⟨rfl, ⟨_, rfl, SimL.refl _⟩, trivial⟩
    · exact trivial
theorem read_lab (k0 : Nat) (b : Nat) (s : ByteArray) : SpecX Try.prog 98 [.ptr k0 b 0, .fn 99 [.ptr k0 b 0] []] [(k0, ⟨b, 105, [.str s]⟩)] (fun _ => ⟨.tup [labAV (labV s), .int .i64 (labE s)], [(k0, [.str (labR s)])], []⟩) :=
  (read_lab0 b s).re (by repeat (first | exact trivial | refine ⟨Sim.ptr, ?_⟩ | refine ⟨Sim.fn ⟨Sim.ptr, trivial⟩ trivial, ?_⟩ | refine ⟨Sim.refl _, ?_⟩)) rfl (fun x => ⟨rfl, rfl, Sim.refl _, rfl⟩)
def T78 : List (Nat × TI) := [(25, ti25), (29, ti29), (67, ti67), (109, ti109)]
theorem T78_ok : TabOK Try.prog T78 := .cons t25 (.cons t29 (.cons t67 (.cons t109 (.nil))))
theorem enters78 : Enters Try.prog 78 := fun _ _ => by kernel_rfl
theorem Label_m0 (b : Nat) (s : ByteArray) : SpecX Try.prog 78 [.ptr 0 b 0] [(0, ⟨b, 105, [.str s]⟩)] (fun _ => ⟨.tup [labAV (labV s), .int .i64 (labE s)], [(0, [.str (labR s)])], []⟩) := by
  intro m w hm hargs hpre
  have S1 := read_lab0 b s
  simp only [labAV] at S1 ⊢
  generalize labV s = v at S1 ⊢
  generalize labE s = e at S1 ⊢
  generalize labR s = r at S1 ⊢
  refine enterX hm hpre hargs Try.func78 rfl (by simp [Try.ntmps78]) fun a0 hF => ?_
  simp only [Try.ntmps78, startT] at hF
  obtain ⟨B, hB⟩ : ∃ B, B = std := ⟨_, rfl⟩
  refine wp_seq ?_
  apply region_okB hB T78_ok [0, 2] [0, 2] [] hF
  case hex => intro A X; conv => lhs; cbv
  case hob =>
    intro X
    subst hB
    simp [AllOb, Ob.holds, BE.den, std, stdCmp, stdArith] <;> omega
  case hQ =>
  intro X0 a0 w1 hF
  refine wp_seq ?_
  apply region_okB hB T78_ok [2, 3] [0, 2] [(3, .x fun _ => ⟨.tup [.agg [.int .i64 v.len, .int .u64 v.bits], .int .i64 e], [(0, [.str r])], []⟩)] hF
  case hex => intro A X; conv => lhs; cbv
  case hob =>
    intro X
    subst hB; exact ⟨⟨enters98, S1⟩, rfl, trivial⟩
  case hQ =>
  intro X1 a0 w1 hF
  refine wp_ret ?_
  refine (ret_x (fn := Try.f78) T78_ok hF (rs := [.cell 2 25, .tmp 3]) rfl (by conv => lhs; cbv) ?_ noAtom [] ?_ ?_ ?_).1
  · subst hB; simp [AllOb, Ob.holds]
  · subst hB; exact Sim.refl _
  · subst hB; first | exact trivial | exact ⟨rfl, ⟨_, rfl, SimL.refl _⟩, trivial⟩
  · exact trivial
theorem Label_m (k0 : Nat) (b : Nat) (s : ByteArray) : SpecX Try.prog 78 [.ptr k0 b 0] [(k0, ⟨b, 105, [.str s]⟩)] (fun _ => ⟨.tup [labAV (labV s), .int .i64 (labE s)], [(k0, [.str (labR s)])], []⟩) :=
  (Label_m0 b s).re (by repeat (first | exact trivial | refine ⟨Sim.ptr, ?_⟩ | refine ⟨Sim.fn ⟨Sim.ptr, trivial⟩ trivial, ?_⟩ | refine ⟨Sim.refl _, ?_⟩)) rfl (fun x => ⟨rfl, rfl, Sim.refl _, rfl⟩)
end Go.Proofs.Ytkamdppnnhjajaa.Sym
