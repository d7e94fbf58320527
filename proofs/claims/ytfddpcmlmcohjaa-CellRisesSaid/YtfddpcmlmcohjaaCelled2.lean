/-
  Rows of memory behind calls, for the walks of chapter 17's statements. Conditions: none.
-/
import Derived.Test.YtfddpcmlmcohjaaCelled
import Derived.Test.YtfddpcmlmcohjaaLaw17
namespace Go.Proofs.Ytfddpcmlmcohjaa
open Go.RowKit
set_option linter.unusedVariables false
set_option linter.unusedSimpArgs false

theorem own_f (w : World) (A : Option Addr) (k : Nat) (c : Cel) (h : CelR w A k c) :
    Calls Try.prog 22 #[.agg #[.int .u64 c.version, .bool c.has, .string c.val, .slice A c.marks.length k]] w fun e w' => ∃ A' k', e = .returned (.agg #[.int .u64 c.version, .bool c.has, .string c.val, .slice A' c.marks.length k']) ∧ CelR w' A' k' c ∧ Below w.heap.size w w' := rown_c w A k c h
theorem cells5 {w : World} {i : Nat} {a0 a1 a2 a3 a4 : Value} {t : TypeId} (h : w.heap[i]? = some (.cells #[a0, a1, a2, a3, a4] t (0, 0))) :
    w.cell? ⟨i, 0, none⟩ = some a0 ∧ w.cell? ⟨i, 1, none⟩ = some a1 ∧ w.cell? ⟨i, 2, none⟩ = some a2 ∧ w.cell? ⟨i, 3, none⟩ = some a3 ∧ w.cell? ⟨i, 4, none⟩ = some a4 ∧ i < w.heap.size :=
  ⟨cell_of_row w _ 0 _ _ _ h, cell_of_row w _ 1 _ _ _ h, cell_of_row w _ 2 _ _ _ h, cell_of_row w _ 3 _ _ _ h, cell_of_row w _ 4 _ _ _ h, lt_of_heap h⟩
theorem coStart (w : World) (A : Option Addr) (k : Nat) (c : Cel) (o : Opr) : ∃ W1, (w.alloc (.cells #[.int .u64 c.version, .bool c.has, .string c.val, .slice A c.marks.length k] 41)).alloc (.cells #[.int .i64 o.client, .int .u64 o.req, .int .i64 o.kind, .int .u64 o.version, .string o.val] 43) = W1 ∧ Below w.heap.size w W1 ∧
    W1.heap[w.heap.size]? = some (.cells #[.int .u64 c.version, .bool c.has, .string c.val, .slice A c.marks.length k] 41 (0, 0)) ∧ W1.heap[w.heap.size + 1]? = some (.cells #[.int .i64 o.client, .int .u64 o.req, .int .i64 o.kind, .int .u64 o.version, .string o.val] 43 (0, 0)) := by
  refine ⟨_, rfl, ((Below.refl _ _).alloc (Nat.le_refl _) _).alloc (by simp) _, ?_, ?_⟩
  · rw [Below.heap_alloc _ _ _ (by simp)]; exact heap_alloc_new w _
  · have := heap_alloc_new (w.alloc (.cells #[.int .u64 c.version, .bool c.has, .string c.val, .slice A c.marks.length k] 41)) (.cells #[.int .i64 o.client, .int .u64 o.req, .int .i64 o.kind, .int .u64 o.version, .string o.val] 43)
    simpa using this
theorem one_new {w1 w2 : World} {a0 a1 a2 a3 : Value} {t : TypeId} (hb : Below (w1.alloc (.cells #[a0, a1, a2, a3] t)).heap.size (w1.alloc (.cells #[a0, a1, a2, a3] t)) w2) :
    Below w1.heap.size w1 w2 ∧ w2.heap[w1.heap.size]? = some (.cells #[a0, a1, a2, a3] t (0, 0)) := by
  have h1 : Below w1.heap.size w1 (w1.alloc (.cells #[a0, a1, a2, a3] t)) := (Below.refl _ _).alloc (Nat.le_refl _) _
  have x1 := heap_alloc_new w1 (.cells #[a0, a1, a2, a3] t)
  exact ⟨h1.trans (hb.mono h1.size), (hb.block _ (lt_of_heap x1)).trans x1⟩
theorem one_new5 {w1 w2 : World} {a0 a1 a2 a3 a4 : Value} {t : TypeId} (hb : Below (w1.alloc (.cells #[a0, a1, a2, a3, a4] t)).heap.size (w1.alloc (.cells #[a0, a1, a2, a3, a4] t)) w2) :
    Below w1.heap.size w1 w2 ∧ w2.heap[w1.heap.size]? = some (.cells #[a0, a1, a2, a3, a4] t (0, 0)) := by
  have h1 : Below w1.heap.size w1 (w1.alloc (.cells #[a0, a1, a2, a3, a4] t)) := (Below.refl _ _).alloc (Nat.le_refl _) _
  have x1 := heap_alloc_new w1 (.cells #[a0, a1, a2, a3, a4] t)
  exact ⟨h1.trans (hb.mono h1.size), (hb.block _ (lt_of_heap x1)).trans x1⟩
theorem two_eq {w1 W6 : World} {a0 a1 a2 a3 b0 b1 b2 b3 : Value} {t u : TypeId} (h : (w1.alloc (.cells #[a0, a1, a2, a3] t)).alloc (.cells #[b0, b1, b2, b3] u) = W6) :
    Below w1.heap.size w1 W6 ∧ W6.heap[w1.heap.size]? = some (.cells #[a0, a1, a2, a3] t (0, 0)) ∧ W6.heap[w1.heap.size + 1]? = some (.cells #[b0, b1, b2, b3] u (0, 0)) := by
  subst h
  exact two_new (Below.refl _ _)
theorem new4 {w : World} {i : Nat} {a0 a1 a2 a3 : Value} {t : TypeId} (h : w.heap[i]? = some (.cells #[a0, a1, a2, a3] t (0, 0))) :
    (∀ x : NewW w, x.val.cell? ⟨i, 0, none⟩ = some a0) ∧ (∀ x : NewW w, x.val.cell? ⟨i, 1, none⟩ = some a1) ∧ (∀ x : NewW w, x.val.cell? ⟨i, 2, none⟩ = some a2) ∧ (∀ x : NewW w, x.val.cell? ⟨i, 3, none⟩ = some a3) := by
  obtain ⟨h0, h1, h2, h3, _⟩ := cells4 h
  exact ⟨new_cell h0, new_cell h1, new_cell h2, new_cell h3⟩
theorem new5 {w : World} {i : Nat} {a0 a1 a2 a3 a4 : Value} {t : TypeId} (h : w.heap[i]? = some (.cells #[a0, a1, a2, a3, a4] t (0, 0))) :
    (∀ x : NewW w, x.val.cell? ⟨i, 0, none⟩ = some a0) ∧ (∀ x : NewW w, x.val.cell? ⟨i, 1, none⟩ = some a1) ∧ (∀ x : NewW w, x.val.cell? ⟨i, 2, none⟩ = some a2) ∧ (∀ x : NewW w, x.val.cell? ⟨i, 3, none⟩ = some a3) ∧ (∀ x : NewW w, x.val.cell? ⟨i, 4, none⟩ = some a4) := by
  obtain ⟨h0, h1, h2, h3, h4, _⟩ := cells5 h
  exact ⟨new_cell h0, new_cell h1, new_cell h2, new_cell h3, new_cell h4⟩

end Go.Proofs.Ytfddpcmlmcohjaa
