/-
  Chapter 17's own example (celled), and the contracts in the form in which a statement's walk meets them. Conditions: fewer marks than 2^31.
-/
import Derived.Test.YtfddpcmlmcohjaaCellMerC
import Derived.Test.YtfddpcmlmcohjaaOpen17
namespace Go.Proofs.Ytfddpcmlmcohjaa
open Go.RowKit
set_option linter.unusedVariables false
set_option linter.unusedSimpArgs false
set_option maxHeartbeats 2000000
set_option maxRecDepth 100000

/-- what a call of Do gives, in plain cells -/
def DoQ (w : World) (r : Cel × Ans × Bool × Int) (e : Ending) (w' : World) : Prop :=
  ∃ A k, e = .returned (.tuple #[.agg #[.int .u64 r.1.version, .bool r.1.has, .string r.1.val, .slice A r.1.marks.length k], .agg #[.int .i64 r.2.1.code, .int .u64 r.2.1.version, .bool r.2.1.has, .string r.2.1.val], .bool r.2.2.1, .int .i64 r.2.2.2]) ∧ CelR w' A k r.1 ∧ Below w.heap.size w w'
theorem do_f (w : World) (A : Option Addr) (k : Nat) (c : Cel) (o : Opr) (h : CelR w A k c) (ho : o.val.size ≤ maxLen) :
    Calls Try.prog 23 #[.agg #[.int .u64 c.version, .bool c.has, .string c.val, .slice A c.marks.length k], .agg #[.int .i64 o.client, .int .u64 o.req, .int .i64 o.kind, .int .u64 o.version, .string o.val]] w (DoQ w (doC c o)) := do_c w A k c o h ho
theorem is_f (w : World) (A : Option Addr) (k : Nat) (c : Cel) (h : CelR w A k c) :
    Calls Try.prog 26 #[.agg #[.int .u64 c.version, .bool c.has, .string c.val, .slice A c.marks.length k]] w fun e w' => e = .returned (.bool (decide (IsC c))) ∧ Below w.heap.size w w' := isC_c w A k c h
theorem iso_f (w : World) (o : Opr) (ho : o.val.size ≤ maxLen) :
    Calls Try.prog 28 #[.agg #[.int .i64 o.client, .int .u64 o.req, .int .i64 o.kind, .int .u64 o.version, .string o.val]] w fun e w' => e = .returned (.bool (decide (IsO o))) ∧ Below w.heap.size w w' := isO_c o w ho
theorem same_f (w : World) (A1 A2 : Option Addr) (k1 k2 : Nat) (c1 c2 : Cel) (h1 : CelR w A1 k1 c1) (h2 : CelR w A2 k2 c2) :
    Calls Try.prog 30 #[.agg #[.int .u64 c1.version, .bool c1.has, .string c1.val, .slice A1 c1.marks.length k1], .agg #[.int .u64 c2.version, .bool c2.has, .string c2.val, .slice A2 c2.marks.length k2]] w fun e w' => e = .returned (.bool (decide (c1 = c2))) ∧ Below w.heap.size w w' := same17_c w A1 A2 k1 k2 c1 c2 h1 h2
theorem big_f (w : World) (A : Option Addr) (k : Nat) (c : Cel) (hr : ReadsL Mark.enc w w.heap.size A c.marks) (hl : c.marks.length ≤ k) (hk : k ≤ maxLen) (hv : c.val.size ≤ maxLen) :
    Calls Try.prog 21 #[.agg #[.int .u64 c.version, .bool c.has, .string c.val, .slice A c.marks.length k]] w fun e w' => (e = .returned (.bool true) ∨ (e = .returned (.bool false) ∧ c.marks.length ≤ 80)) ∧ Below w.heap.size w w' := big17_c w A k c hr hl hk hv
theorem eqAns_t (a b c : Value) (x y : Ans) (w : World) (h : x = y) : (binOp .eql 47 (.agg #[.int .i64 x.code, .int .u64 x.version, .bool x.has, .string x.val]) (.agg #[.int .i64 y.code, .int .u64 y.version, .bool y.has, .string y.val])).run Try.prog w = .ok (.bool true) w := by
  rw [eqlAns, h]; simp

/-- two blocks of four cells, made just ahead of a call, behind it -/
theorem two_new {w1 w2 : World} {a0 a1 a2 a3 b0 b1 b2 b3 : Value} {t u : TypeId} (hb : Below ((w1.alloc (.cells #[a0, a1, a2, a3] t)).alloc (.cells #[b0, b1, b2, b3] u)).heap.size ((w1.alloc (.cells #[a0, a1, a2, a3] t)).alloc (.cells #[b0, b1, b2, b3] u)) w2) :
    Below w1.heap.size w1 w2 ∧ w2.heap[w1.heap.size]? = some (.cells #[a0, a1, a2, a3] t (0, 0)) ∧ w2.heap[w1.heap.size + 1]? = some (.cells #[b0, b1, b2, b3] u (0, 0)) := by
  have h1 : Below w1.heap.size w1 ((w1.alloc (.cells #[a0, a1, a2, a3] t)).alloc (.cells #[b0, b1, b2, b3] u)) := ((Below.refl _ _).alloc (Nat.le_refl _) _).alloc (by simp) _
  have x1 : ((w1.alloc (.cells #[a0, a1, a2, a3] t)).alloc (.cells #[b0, b1, b2, b3] u)).heap[w1.heap.size]? = some (.cells #[a0, a1, a2, a3] t (0, 0)) := by
    rw [Below.heap_alloc _ _ _ (by simp)]; exact heap_alloc_new w1 _
  have x2 : ((w1.alloc (.cells #[a0, a1, a2, a3] t)).alloc (.cells #[b0, b1, b2, b3] u)).heap[w1.heap.size + 1]? = some (.cells #[b0, b1, b2, b3] u (0, 0)) := by
    have := heap_alloc_new (w1.alloc (.cells #[a0, a1, a2, a3] t)) (.cells #[b0, b1, b2, b3] u)
    have e : (w1.alloc (.cells #[a0, a1, a2, a3] t)).heap.size = w1.heap.size + 1 := by simp
    rw [e] at this; exact this
  exact ⟨h1.trans (hb.mono h1.size), (hb.block _ (lt_of_heap x1)).trans x1, (hb.block _ (lt_of_heap x2)).trans x2⟩
theorem row_keep {w w' : World} {i : Nat} {o : Obj} (h : w.heap[i]? = some o) (hb : Below w.heap.size w w') : w'.heap[i]? = some o := (hb.block _ (lt_of_heap h)).trans h
theorem cells4 {w : World} {i : Nat} {a0 a1 a2 a3 : Value} {t : TypeId} (h : w.heap[i]? = some (.cells #[a0, a1, a2, a3] t (0, 0))) :
    w.cell? ⟨i, 0, none⟩ = some a0 ∧ w.cell? ⟨i, 1, none⟩ = some a1 ∧ w.cell? ⟨i, 2, none⟩ = some a2 ∧ w.cell? ⟨i, 3, none⟩ = some a3 ∧ i < w.heap.size :=
  ⟨cell_of_row w _ 0 _ _ _ h, cell_of_row w _ 1 _ _ _ h, cell_of_row w _ 2 _ _ _ h, cell_of_row w _ 3 _ _ _ h, lt_of_heap h⟩
theorem celled_c (w : World) : Calls Try.prog 25 #[] w fun e w' => e = .returned (.bool true) ∧ Below w.heap.size w w' := by
  have hd1 : doC ⟨4, true, ⟨#[97]⟩, []⟩ ⟨1, 1, 2, 0, ⟨#[98]⟩⟩ = (⟨5, true, ⟨#[98]⟩, [⟨1, 1, ⟨0, 5, true, ⟨#[]⟩⟩⟩]⟩, ⟨0, 5, true, ⟨#[]⟩⟩, true, 0) := by decide +kernel
  have hd2 : doC ⟨4, true, ⟨#[97]⟩, []⟩ ⟨1, 1, 3, 3, ⟨#[98]⟩⟩ = (⟨4, true, ⟨#[97]⟩, [⟨1, 1, ⟨8, 4, true, ⟨#[]⟩⟩⟩]⟩, ⟨8, 4, true, ⟨#[]⟩⟩, false, 0) := by decide +kernel
  have hR : ∀ w, CelR w none 0 ⟨4, true, ⟨#[97]⟩, []⟩ := fun w => ⟨ReadsL.nil, Nat.le_refl _, by decide, by decide, by decide⟩
  have D1 := fun w => do_f w none 0 ⟨4, true, ⟨#[97]⟩, []⟩ ⟨1, 1, 2, 0, ⟨#[98]⟩⟩ (hR w) (by decide)
  have D2 := fun w => do_f w none 0 ⟨4, true, ⟨#[97]⟩, []⟩ ⟨1, 1, 3, 3, ⟨#[98]⟩⟩ (hR w) (by decide)
  have I1 := fun w => is_f w none 0 ⟨4, true, ⟨#[97]⟩, []⟩ (hR w)
  have I2 := fun w => iso_f w ⟨0, 0, 0, 0, ⟨#[]⟩⟩ (by decide)
  rw [show decide (IsC ⟨4, true, ⟨#[97]⟩, []⟩) = true by decide +kernel] at I1
  rw [show decide (IsO ⟨0, 0, 0, 0, ⟨#[]⟩⟩) = false by decide +kernel] at I2
  rw [hd1] at D1
  rw [hd2] at D2
  have e1 := fun w => (eqlAns ⟨0, 5, true, ⟨#[]⟩⟩ ⟨0, 5, true, ⟨#[]⟩⟩ w).trans (by rw [decide_eq_true rfl])
  have e2 := fun w => (eqlAns ⟨8, 4, true, ⟨#[]⟩⟩ ⟨8, 4, true, ⟨#[]⟩⟩ w).trans (by rw [decide_eq_true rfl])
  have hgd := guardAns
  simp only at D1 D2 I1 I2 e1 e2
  clear hd1 hd2 hR
  go_enter Try.func25, Try.ntmps25
  go_wp2_with fail
  refine (D1 _).mono ?_
  rintro e w1 ⟨A1, k1, rfl, _, hb1⟩
  have hx1 := (hb1.block _ (lt_of_heap (heap_alloc_new w _))).trans (heap_alloc_new w (.cells #[.int .u64 4, .bool true, .string ⟨#[97]⟩, .slice none 0 0] 41))
  have hB1 : Below w.heap.size w w1 := Below.keepb ((Below.refl w.heap.size w).alloc (Nat.le_refl _) _) (Below.size ((Below.refl w.heap.size w).alloc (Nat.le_refl _) _)) hb1
  have c0 : w1.cell? ⟨w.heap.size, 0, none⟩ = some (.int .u64 4) := cell_of_row w1 _ 0 _ _ _ hx1
  have c1 : w1.cell? ⟨w.heap.size, 1, none⟩ = some (.bool true) := cell_of_row w1 _ 1 _ _ _ hx1
  have c2 : w1.cell? ⟨w.heap.size, 2, none⟩ = some (.string ⟨#[97]⟩) := cell_of_row w1 _ 2 _ _ _ hx1
  have c3 : w1.cell? ⟨w.heap.size, 3, none⟩ = some (.slice none 0 0) := cell_of_row w1 _ 3 _ _ _ hx1
  have hz := lt_of_heap hx1
  clear hb1 D1
  have HB1 := Lib.hid (And.intro hB1 hx1)
  clear hB1 hx1
  go_wp2_with fail
  refine (D2 _).mono ?_
  rintro e w2 ⟨A2, k2, rfl, _, hb2⟩
  obtain ⟨hB2, hx2, hx3⟩ := two_new hb2
  have hx1 := row_keep HB1.out.2 hB2
  have HB2 := Lib.hid (Below.keepb HB1.out.1 HB1.out.1.size hB2)
  clear hb2 D2 c0 c1 c2 c3 hz HB1 hB2
  obtain ⟨c0, c1, c2, c3, hz⟩ := cells4 hx1
  obtain ⟨d0, d1, d2, d3, hz2⟩ := cells4 hx2
  obtain ⟨f0, f1, f2, f3, hz3⟩ := cells4 hx3
  clear hx1 hx2 hx3
  go_wp2_with fail
  refine (I1 _).mono ?_
  rintro e w3 ⟨rfl, hb3⟩
  obtain ⟨hB3, _, _⟩ := two_new hb3
  have HB3 := Lib.hid (Below.keepb HB2.out HB2.out.size hB3)
  clear hb3 I1 hB3 HB2
  go_wp2_with fail
  refine (I2 _).mono ?_
  rintro e w4 ⟨rfl, hb4⟩
  have HB4 := Lib.hid (Below.keepb HB3.out HB3.out.size hb4)
  clear hb4 I2 HB3
  go_wp2_with fail
  go_ret
  exact ⟨rfl, HB4.out⟩
end Go.Proofs.Ytfddpcmlmcohjaa
