/-
  What comes in, read as lists of things, where the slice is a field. Conditions: the theorems' own.
-/
import Derived.Test.YtkamdppnnhjajaaOpenBase
namespace Go.Proofs.Ytkamdppnnhjajaa
open Go.ChangeShapes Go.WideShapes Go.ChangeAt Go.RowKit Go.Deep
set_option linter.unusedVariables false
set_option linter.unusedSimpArgs false

section
variable {H : Type} {enc : TypeId × Value → H} {P : Program} {w : World} {base : Nat} {spare : Nat → Bool} {held : Bool}
theorem trod_list {α : Type} {en : α → List Value} {wf : α → Prop} {k t e fuel : Nat} {cs : List Value} {y : DataW H × List MemPlace} (ht : P.underlying t = some (.slice e)) (hC : P.cellsOf e = k) (hk : ∀ x, (en x).length = k) (hp : 0 < k)
    (dec : ∀ n cs y, DataW.trod enc P w base spare held n e cs = some y → ∃ x, cs = en x ∧ wf x) (h : DataW.trod enc P w base spare held fuel t cs = some y) :
    ∃ (A : Option Addr) (c : Nat) (l : List α), cs = [.slice A l.length c] ∧ ReadsL en w w.heap.size A l ∧ l.length ≤ c ∧ c ≤ maxLen ∧ ∀ x ∈ l, wf x := by
  rcases DataW.trod_slice ht h with ⟨rfl, _⟩ | ⟨a, len, cap, elems, rest, n, _, rfl, _, hb, hl, hm, hel, hi, _⟩
  · exact ⟨none, 0, [], rfl, ReadsL.nil, Nat.le_refl _, by simp, by simp⟩
  · have key : ∀ q, q ≤ len → ∃ l : List α, l.length = q ∧ (∀ x ∈ l, wf x) ∧ ∀ j u, (l.flatMap en)[j]? = some u → w.cell? (a.add j) = some u := by
      intro q
      induction q with
      | zero => exact fun _ => ⟨[], rfl, by simp, by simp⟩
      | succ q ih =>
        intro hq
        obtain ⟨l, hll, hwf, hc⟩ := ih (by omega)
        have h1 := hi q (by omega)
        rw [List.getElem?_eq_getElem (show q < elems.length by omega)] at h1
        obtain ⟨cs', hcs', ht'⟩ := Option.bind_eq_some_iff.1 h1
        obtain ⟨x, rfl, hw⟩ := dec _ _ _ ht'
        obtain ⟨_, _, hat⟩ := World.cells?_some hcs'
        refine ⟨l ++ [x], by simp [hll], by
          intro y hy
          rcases List.mem_append.1 hy with hy | hy
          · exact hwf y hy
          · simp at hy; subst hy; exact hw, fun j u hu => ?_⟩
        rw [List.flatMap_append] at hu
        simp only [List.flatMap_cons, List.flatMap_nil, List.append_nil] at hu
        have hfl : (l.flatMap en).length = q * k := by rw [flat_length hk, hll]
        by_cases hj : j < q * k
        · rw [List.getElem?_append_left (by omega)] at hu
          exact hc j u hu
        · rw [List.getElem?_append_right (by omega), hfl] at hu
          have hjk : j - q * k < P.cellsOf e := by
            have := (List.getElem?_eq_some_iff.1 hu).1
            rw [hk] at this; omega
          have h1 := hat _ hjk
          rw [Go.Deep.add_add, hC, show q * k + (j - q * k) = j from by omega] at h1
          rw [h1, hu]
    obtain ⟨l, rfl, hwf, hc⟩ := key len (Nat.le_refl _)
    refine ⟨some a, cap, l, rfl, fun hpos => ?_, hl, hm, hwf⟩
    obtain ⟨u, hu⟩ : ∃ u, (l.flatMap en)[0]? = some u := ⟨_, List.getElem?_eq_getElem hpos⟩
    have h0 := hc 0 u hu
    rw [show a.add 0 = a from rfl] at h0
    obtain ⟨b, off, spot⟩ := a
    obtain rfl : spot = none := World.cell?_spot h0
    exact ⟨b, off, rfl, World.block_lt_of_cell? w _ h0, fun j u hu => by
      have := hc j u hu
      rwa [Addr.add_lit] at this⟩
end
end Go.Proofs.Ytkamdppnnhjajaa
