/-
  Appending to an owned list of things: one thing, or a list that is read. Conditions: the theorems' own.
-/
import Derived.Test.YtfddpcmlmcohjaaLst
namespace Go.Proofs.Ytfddpcmlmcohjaa
open Go.RowKit
set_option linter.unusedVariables false

theorem Below.keepc {w w' : World} {p : Addr} {v : Value} (hb : Below w.heap.size w w') (h : w.cell? p = some v) : w'.cell? p = some v := (hb.cell (World.block_lt_of_cell? _ _ h)).trans h
theorem Below.keepb {a b w w' : World} (h : Below a.heap.size b w) (hs : a.heap.size ≤ w.heap.size) (hb : Below w.heap.size w w') : Below a.heap.size b w' := h.trans (hb.mono hs)
theorem Below.keept {a w w' : World} (h : Below a.heap.size a w) (hb : Below w.heap.size w w') : Below a.heap.size a w' := h.trans (hb.mono h.size)

theorem alloc_swap {w : World} {o1 o2 : Obj} {p : Addr} {v : Value} (h : (w.alloc o1).cell? p = some v) (hp : p.block < w.heap.size) : (w.alloc o2).cell? p = some v := by
  rw [Below.cell (Below.alloc (Below.refl w.heap.size w) (Nat.le_refl _) _) hp] at h ⊢
  exact h

theorem cell_set4 {w : World} {p : Addr} {v a0 a1 a2 a3 : Value} {b : Nat} (h : w.cell? p = some v) (hne : p.block ≠ b) :
    ((((w.setCell ⟨b, 0, none⟩ a0).setCell ⟨b, 1, none⟩ a1).setCell ⟨b, 2, none⟩ a2).setCell ⟨b, 3, none⟩ a3).cell? p = some v := by
  have e : ∀ j, (⟨b, j, none⟩ : Addr) ≠ p := fun j he => hne (by rw [← he])
  rw [World.cell?_setCell_other (h := e 3), World.cell?_setCell_other (h := e 2), World.cell?_setCell_other (h := e 1), World.cell?_setCell_other (h := e 0), h]
theorem Below.set4 {B : Nat} {a w : World} {a0 a1 a2 a3 : Value} {b : Nat} (h : Below B a w) (hb : B ≤ b) :
    Below B a ((((w.setCell ⟨b, 0, none⟩ a0).setCell ⟨b, 1, none⟩ a1).setCell ⟨b, 2, none⟩ a2).setCell ⟨b, 3, none⟩ a3) := by
  refine Below.setCell (Below.setCell (Below.setCell (Below.setCell h ?_ _) ?_ _) ?_ _) ?_ _ <;> exact hb

section
variable {α : Type} {enc : α → List Value} {P : Program} {t e k bytes : Nat} {z : Value}
/-- append(v, x): x lies in a block of its own, made just ahead -/
theorem OwnL.app1 (E : ElemTy P t e k bytes z) (ty : TypeId) (hk : ∀ x, (enc x).length = k) (h1 : ∀ x, ∀ v ∈ enc x, v.oneCell' = true) {w0 w : World} {B : Nat} {v : Value} {l : List α} (hO : OwnL enc k w B e v l)
    (hB0 : w0.heap.size ≤ B) (hb : Below w0.heap.size w0 w) (hB : B ≤ w.heap.size) (x : α) (h63 : l.length + 1 ≤ maxLen) (hbytes : (l.length + 1) * bytes ≤ 140737488355328) :
    ∃ v' w', (Builtin.append_ #[t, t] ty #[v, .slice (some ⟨w.heap.size, 0, none⟩) 1 1]).run P (w.alloc (.cells (enc x).toArray e)) = .ok v' w' ∧ OwnL enc k w' B e v' (l ++ [x]) ∧ Below w0.heap.size w0 w' := by
  obtain ⟨W, hW⟩ : ∃ W, W = w.alloc (.cells (enc x).toArray e) := ⟨_, rfl⟩
  have hOW := Own.alloc hO (.cells (enc x).toArray e)
  rw [← hW] at hOW
  have hbW : Below w.heap.size w W := by rw [hW]; exact (Below.refl _ _).alloc (Nat.le_refl _) _
  have hrow : RowAt W W.heap.size (some ⟨w.heap.size, 0, none⟩) (enc x) := fun _ => ⟨_, _, rfl, by rw [hW]; simp, fun j u hu => by
    have hg : W.heap[w.heap.size]? = some (.cells (enc x).toArray e (0, 0)) := by rw [hW]; exact heap_alloc_new w _
    rw [Nat.zero_add, cell_of_row W _ j _ _ (0, 0) hg]; simpa using hu⟩
  obtain ⟨v', w', hr, hO', hG, _⟩ := run_append_Own (P := P) E ty hOW (some ⟨w.heap.size, 0, none⟩) 1 1 (enc x) (by simp [hk]) hrow (h1 x) h63 hbytes (Nat.le_trans hB hbW.size)
  rw [hW] at hr
  refine ⟨v', w', hr, ?_, (hb.trans (hbW.mono hb.size)).grown hG (Nat.le_trans hb.size hbW.size) fun g hg => Nat.le_trans hB0 (Own.lt hOW g hg).1⟩
  unfold OwnL
  simpa [List.flatMap_append] using hO'
/-- append(v, s..): s reads as a list -/
theorem OwnL.appL (E : ElemTy P t e k bytes z) (ty : TypeId) (hk : ∀ x, (enc x).length = k) (h1 : ∀ x, ∀ v ∈ enc x, v.oneCell' = true) {w0 w : World} {B C : Nat} {v : Value} {l : List α} (hO : OwnL enc k w B e v l)
    (hB0 : w0.heap.size ≤ B) (hb : Below w0.heap.size w0 w) (hB : B ≤ w.heap.size) {A : Option Addr} {l2 : List α} (c : Nat) (hr : ReadsL enc w C A l2) (h63 : l.length + l2.length ≤ maxLen) (hbytes : (l.length + l2.length) * bytes ≤ 140737488355328) :
    ∃ v' w', (Builtin.append_ #[t, t] ty #[v, .slice A l2.length c]).run P w = .ok v' w' ∧ OwnL enc k w' B e v' (l ++ l2) ∧ Below w0.heap.size w0 w' := by
  obtain ⟨v', w', hr, hO', hG, _⟩ := run_append_Own (P := P) E ty hO A l2.length c (l2.flatMap enc) (flat_length hk l2) hr (flat_one h1 l2) h63 hbytes hB
  refine ⟨v', w', hr, ?_, hb.grown hG hb.size fun g hg => Nat.le_trans hB0 (Own.lt hO g hg).1⟩
  unfold OwnL
  simpa [List.flatMap_append] using hO'
theorem OwnL.nilAt (w : World) (B : Nat) (A : Option Addr) : OwnL enc k w B e (.slice A 0 0) [] := Own.nil w B e k A
end
end Go.Proofs.Ytfddpcmlmcohjaa
