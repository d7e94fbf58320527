/-
  IsOp, by the program and by the document. Conditions: none.
-/
import Derived.Test.YtfddpcmlmcohjaaCell2
namespace Go.Proofs.Ytfddpcmlmcohjaa
open Go.RowKit
set_option linter.unusedVariables false
set_option linter.unusedSimpArgs false
set_option maxHeartbeats 1000000
set_option maxRecDepth 100000

def OprV (o : Opr) : Value := .agg #[.int .i64 o.client, .int .u64 o.req, .int .i64 o.kind, .int .u64 o.version, .string o.val]
/-- what IsOp looks at, told one by one -/
structure Looks (o : Opr) (c0 c1 k1 k2 k3 k4 v0 e0 z0 : Bool) : Prop where
  c0 : decide (o.client < 0) = c0
  c1 : decide (63 < o.client) = c1
  k1 : (o.kind == 1) = k1
  k2 : (o.kind == 2) = k2
  k3 : (o.kind == 3) = k3
  k4 : (o.kind == 4) = k4
  v0 : (o.version == 0) = v0
  e0 : o.val.toList.isEmpty = e0
  z0 : decide (2048 < (o.val.size : Int)) = z0
theorem isO_false1 {o : Opr} (h : decide (o.client < 0) = true) : decide (IsO o) = false := by
  refine decide_eq_false fun hh => ?_
  have := hh.1; have := of_decide_eq_true h; omega
theorem isO_false2 {o : Opr} (h : decide (63 < o.client) = true) : decide (IsO o) = false := by
  refine decide_eq_false fun hh => ?_
  have := hh.2.1; have := of_decide_eq_true h; omega
theorem isO_false3 {o : Opr} (h1 : (o.kind == 1) = false) (h2 : (o.kind == 2) = false) (h3 : (o.kind == 3) = false) (h4 : (o.kind == 4) = false) : decide (IsO o) = false := by
  refine decide_eq_false fun hh => ?_
  have := hh.2.2.1; have := hh.2.2.2.1
  have h1 := beq_eq_false_iff_ne.1 h1; have h2 := beq_eq_false_iff_ne.1 h2; have h3 := beq_eq_false_iff_ne.1 h3; have h4 := beq_eq_false_iff_ne.1 h4
  omega
theorem beqDec (a : Int) : (a == 0) = decide (a = 0) := by rw [Bool.eq_iff_iff]; simp
theorem bneDec (a : Int) : (a != 0) = !decide (a = 0) := by rw [Bool.eq_iff_iff]; simp
theorem leDec (n : Nat) : decide ((n : Int) ≤ 2048) = decide (n ≤ 2048) := by rw [Bool.eq_iff_iff]; simp; omega
theorem ltDec (n : Nat) : decide (2048 < (n : Int)) = !decide (n ≤ 2048) := by rw [Bool.eq_iff_iff]; simp; omega
theorem isO_c (o : Opr) (w : World) (hs : o.val.size ≤ maxLen) : Calls Try.prog 28 #[OprV o] w fun e w' => e = .returned (.bool (decide (IsO o))) ∧ Below w.heap.size w w' := by
  obtain ⟨r, hr⟩ : ∃ r, r = decide (IsO o) := ⟨_, rfl⟩
  rw [← hr]
  by_cases h1 : o.client < 0
  · have hd1 : decide (o.client < 0) = true := by simp [h1]
    obtain rfl : r = false := by rw [hr]; exact isO_false1 hd1
    clear hr
    obtain ⟨client, req, kind, version, val⟩ := o
    unfold OprV
    go_enter Try.func28, Try.ntmps28
    go_wp2_with fail
    go_ret
    exact ⟨rfl, (Below.refl _ _).alloc (Nat.le_refl _) _⟩
  have hd1 : decide (o.client < 0) = false := by simp [h1]
  by_cases h2 : 63 < o.client
  · have hd2 : decide (63 < o.client) = true := by simp [h2]
    obtain rfl : r = false := by rw [hr]; exact isO_false2 hd2
    clear hr h1
    obtain ⟨client, req, kind, version, val⟩ := o
    unfold OprV
    go_enter Try.func28, Try.ntmps28
    go_wp2_with fail
    go_ret
    exact ⟨rfl, (Below.refl _ _).alloc (Nat.le_refl _) _⟩
  have hd2 : decide (63 < o.client) = false := by simp [h2]
  have hE := emptyB o.val
  unfold maxLen at hs
  by_cases hk : (o.kind == 1) = false ∧ (o.kind == 2) = false ∧ (o.kind == 3) = false ∧ (o.kind == 4) = false
  · obtain ⟨k1, k2, k3, k4⟩ := hk
    obtain rfl : r = false := by rw [hr]; exact isO_false3 k1 k2 k3 k4
    clear hr h1 h2
    have kk : decide (o.kind < 1) = true ∨ decide (o.kind < 1) = false ∧ decide (4 < o.kind) = true := by
      have h1 := beq_eq_false_iff_ne.1 k1; have h2 := beq_eq_false_iff_ne.1 k2; have h3 := beq_eq_false_iff_ne.1 k3; have h4 := beq_eq_false_iff_ne.1 k4
      simp; omega
    obtain ⟨client, req, kind, version, val⟩ := o
    unfold OprV
    rcases kk with kk | ⟨kk, kk'⟩
    all_goals
      go_enter Try.func28, Try.ntmps28
      go_wp2_with fail
      go_ret
      exact ⟨rfl, (Below.refl _ _).alloc (Nat.le_refl _) _⟩
  have hk' : o.kind = 1 ∨ o.kind = 2 ∨ o.kind = 3 ∨ o.kind = 4 := by
    simp only [beq_eq_false_iff_ne] at hk; omega
  by_cases hv : o.version = 0
  all_goals by_cases he : o.val = ByteArray.empty
  all_goals by_cases hz : o.val.size ≤ 2048
  all_goals rcases hk' with hk' | hk' | hk' | hk'
  all_goals have hc0 : 0 ≤ o.client := by omega
  all_goals have hc1 : o.client ≤ 63 := by omega
  all_goals clear h1 h2 hk hs
  all_goals obtain ⟨client, req, kind, version, val⟩ := o
  all_goals first
    | (exfalso; simp only at hz he; rw [he] at hz; exact hz (by decide))
    | skip
  all_goals simp only at *
  all_goals
    unfold IsO at hr
    unfold OprV
    subst hk'
    simp [hv, he, hz, hc0, hc1] at hr
    subst hr
    have hv' := beqDec version
    have hv'' := bneDec version
    have hz1 := leDec val.size
    have hz2 := ltDec val.size
    first | rw [decide_eq_true hv] at hv' hv'' | rw [decide_eq_false hv] at hv' hv''
    first | rw [decide_eq_true he] at hE | rw [decide_eq_false he] at hE
    first | rw [decide_eq_true hz] at hz1 hz2 | rw [decide_eq_false hz] at hz1 hz2
    simp only [Bool.not_true, Bool.not_false] at hv'' hz2
    clear he hz hv hc0 hc1
    go_enter Try.func28, Try.ntmps28
    go_wp2_with fail
    go_ret
    exact ⟨rfl, (Below.refl _ _).alloc (Nat.le_refl _) _⟩
theorem risO_c (o : Opr) (w : World) (hs : o.val.size ≤ maxLen) : Calls Try.prog 29 #[OprV o] w fun e w' => e = .returned (.bool (decide (IsO o))) ∧ Below w.heap.size w w' := by
  obtain ⟨r, hr⟩ : ∃ r, r = decide (IsO o) := ⟨_, rfl⟩
  rw [← hr]
  by_cases h1 : o.client < 0
  · have hd1 : decide (o.client < 0) = true := by simp [h1]
    obtain rfl : r = false := by rw [hr]; exact isO_false1 hd1
    clear hr
    obtain ⟨client, req, kind, version, val⟩ := o
    unfold OprV
    go_enter Try.func29, Try.ntmps29
    go_wp2_with fail
    go_ret
    exact ⟨rfl, (Below.refl _ _).alloc (Nat.le_refl _) _⟩
  have hd1 : decide (o.client < 0) = false := by simp [h1]
  by_cases h2 : 63 < o.client
  · have hd2 : decide (63 < o.client) = true := by simp [h2]
    obtain rfl : r = false := by rw [hr]; exact isO_false2 hd2
    clear hr h1
    obtain ⟨client, req, kind, version, val⟩ := o
    unfold OprV
    go_enter Try.func29, Try.ntmps29
    go_wp2_with fail
    go_ret
    exact ⟨rfl, (Below.refl _ _).alloc (Nat.le_refl _) _⟩
  have hd2 : decide (63 < o.client) = false := by simp [h2]
  have hE := emptyB o.val
  unfold maxLen at hs
  by_cases hk : (o.kind == 1) = false ∧ (o.kind == 2) = false ∧ (o.kind == 3) = false ∧ (o.kind == 4) = false
  · obtain ⟨k1, k2, k3, k4⟩ := hk
    obtain rfl : r = false := by rw [hr]; exact isO_false3 k1 k2 k3 k4
    clear hr h1 h2
    have kk : decide (o.kind < 1) = true ∨ decide (o.kind < 1) = false ∧ decide (4 < o.kind) = true := by
      have h1 := beq_eq_false_iff_ne.1 k1; have h2 := beq_eq_false_iff_ne.1 k2; have h3 := beq_eq_false_iff_ne.1 k3; have h4 := beq_eq_false_iff_ne.1 k4
      simp; omega
    obtain ⟨client, req, kind, version, val⟩ := o
    unfold OprV
    rcases kk with kk | ⟨kk, kk'⟩
    all_goals
      go_enter Try.func29, Try.ntmps29
      go_wp2_with fail
      go_ret
      exact ⟨rfl, (Below.refl _ _).alloc (Nat.le_refl _) _⟩
  have hk' : o.kind = 1 ∨ o.kind = 2 ∨ o.kind = 3 ∨ o.kind = 4 := by
    simp only [beq_eq_false_iff_ne] at hk; omega
  by_cases hv : o.version = 0
  all_goals by_cases he : o.val = ByteArray.empty
  all_goals by_cases hz : o.val.size ≤ 2048
  all_goals rcases hk' with hk' | hk' | hk' | hk'
  all_goals have hc0 : 0 ≤ o.client := by omega
  all_goals have hc1 : o.client ≤ 63 := by omega
  all_goals clear h1 h2 hk hs
  all_goals obtain ⟨client, req, kind, version, val⟩ := o
  all_goals first
    | (exfalso; simp only at hz he; rw [he] at hz; exact hz (by decide))
    | skip
  all_goals simp only at *
  all_goals
    unfold IsO at hr
    unfold OprV
    subst hk'
    simp [hv, he, hz, hc0, hc1] at hr
    subst hr
    have hv' := beqDec version
    have hv'' := bneDec version
    have hz1 := leDec val.size
    have hz2 := ltDec val.size
    first | rw [decide_eq_true hv] at hv' hv'' | rw [decide_eq_false hv] at hv' hv''
    first | rw [decide_eq_true he] at hE | rw [decide_eq_false he] at hE
    first | rw [decide_eq_true hz] at hz1 hz2 | rw [decide_eq_false hz] at hz1 hz2
    simp only [Bool.not_true, Bool.not_false] at hv'' hz2
    clear he hz hv hc0 hc1
    go_enter Try.func29, Try.ntmps29
    go_wp2_with fail
    go_ret
    exact ⟨rfl, (Below.refl _ _).alloc (Nat.le_refl _) _⟩
end Go.Proofs.Ytfddpcmlmcohjaa
