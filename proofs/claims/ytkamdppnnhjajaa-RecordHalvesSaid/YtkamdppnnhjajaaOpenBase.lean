/-
  What comes in, read as lists of things: over any program. Conditions: none beyond the theorems' own.
-/
import Derived.Test.YtkamdppnnhjajaaLst
import Derived.ProofKit
import Derived.OpenShut
import Derived.ShutString
import Derived.ChangeOld
import Derived.Deep.Slices
namespace Go.Proofs.Ytkamdppnnhjajaa
open Go.ChangeShapes Go.WideShapes Go.ChangeAt Go.RowKit Go.Deep
set_option linter.unusedVariables false
set_option linter.unusedSimpArgs false

section
variable {H : Type} {enc : TypeId × Value → H} {P : Program} {w : World} {base : Nat} {spare : Nat → Bool} {held : Bool}

/-- a slice that came in reads as a list, if each of its elements reads as a thing -/
theorem open_list {α : Type} {en : α → List Value} {wf : α → Prop} {k t e : Nat} {r : Reach} {b0 : Nat} {v : Value} {d : DataW H} {p : List MemPlace} (ht : P.underlying t = some (.slice e)) (hC : P.cellsOf e = k) (hk : ∀ x, (en x).length = k) (hp : 0 < k)
    (dec : ∀ n cs y, DataW.trod enc P w base spare held n e cs = some y → ∃ x, cs = en x ∧ wf x) (hv : Value.okWide P w r b0 t v) (h : DataW.Trod enc P w base spare held t v d p) :
    ∃ (A : Option Addr) (c : Nat) (l : List α), v = .slice A l.length c ∧ ReadsL en w w.heap.size A l ∧ l.length ≤ c ∧ c ≤ maxLen ∧ ∀ x ∈ l, wf x := by
  obtain ⟨a0, len, cap, rfl⟩ := okWide_slice ht hv
  obtain ⟨fuel, hf⟩ := h
  rcases open_slice ht hf with ⟨hcs, _⟩ | ⟨a, len', cap', m, n, D, Pl, hcs, hb, hl, hm, hmm, hx, hi⟩
  · simp [Value.cells] at hcs
    obtain ⟨rfl, rfl, rfl⟩ := hcs
    exact ⟨none, 0, [], rfl, ReadsL.nil, Nat.le_refl _, by simp, by simp⟩
  · simp [Value.cells] at hcs
    obtain ⟨rfl, rfl, rfl⟩ := hcs
    have hlm : len ≤ m := by rw [hmm]; split <;> omega
    have key : ∀ q, q ≤ len → ∃ l : List α, l.length = q ∧ (∀ x ∈ l, wf x) ∧ ∀ j u, (l.flatMap en)[j]? = some u → w.cell? (a.add j) = some u := by
      intro q
      induction q with
      | zero => exact fun _ => ⟨[], rfl, by simp, by simp⟩
      | succ q ih =>
        intro hq
        obtain ⟨l, hll, hwf, hc⟩ := ih (by omega)
        obtain ⟨cs', hcs', ht'⟩ := hi q (by omega)
        obtain ⟨x, rfl, hw⟩ := dec _ _ _ ht'
        obtain ⟨_, _, hat⟩ := World.cells?_some hcs'
        refine ⟨l ++ [x], by simp [hll], by
          intro y hy
          rcases List.mem_append.1 hy with hy | hy
          · exact hwf y hy
          · simp at hy; subst hy; exact hw, fun j u hu => ?_⟩
        rw [List.flatMap_append] at hu
        simp only [List.flatMap_cons, List.flatMap_nil, List.append_nil] at hu
        have hfl : (l.flatMap en).length = q * k := by rw [flat_length hk, hll]
        by_cases hj : j < q * k
        · rw [List.getElem?_append_left (by omega)] at hu
          exact hc j u hu
        · rw [List.getElem?_append_right (by omega), hfl] at hu
          have hjk : j - q * k < P.cellsOf e := by
            have := (List.getElem?_eq_some_iff.1 hu).1
            rw [hk] at this; omega
          have h1 := hat _ hjk
          rw [Go.Deep.add_add, hC, show q * k + (j - q * k) = j from by omega] at h1
          rw [h1, hu]
    obtain ⟨l, rfl, hwf, hc⟩ := key len (Nat.le_refl _)
    refine ⟨some a, cap, l, rfl, fun hpos => ?_, hl, hm, hwf⟩
    obtain ⟨u, hu⟩ : ∃ u, (l.flatMap en)[0]? = some u := ⟨_, List.getElem?_eq_getElem hpos⟩
    have h0 := hc 0 u hu
    rw [show a.add 0 = a from rfl] at h0
    obtain ⟨b, off, spot⟩ := a
    obtain rfl : spot = none := World.cell?_spot h0
    exact ⟨b, off, rfl, World.block_lt_of_cell? w _ h0, fun j u hu => by
      have := hc j u hu
      rwa [Addr.add_lit] at this⟩

theorem in_int {t : TypeId} {k : IntKind} {r : Reach} {b0 : Nat} {v : Value} {d : DataW H} {p : List MemPlace} (ht : P.underlying t = some (.int k)) (hv : Value.okWide P w r b0 t v) (h : DataW.Trod enc P w base spare held t v d p) :
    ∃ n, v = .int k n ∧ (Lit.int k n).wf = true := by
  obtain ⟨x, rfl, _, _, wx⟩ := open_int ht hv h
  exact ⟨x, rfl, wx⟩
theorem in_string {t : TypeId} {r : Reach} {b0 : Nat} {v : Value} {d : DataW H} {p : List MemPlace} (ht : P.underlying t = some .string) (hv : Value.okWide P w r b0 t v) (h : DataW.Trod enc P w base spare held t v d p) :
    ∃ s, v = .string s ∧ s.size ≤ maxLen := by
  obtain ⟨x, rfl, _, _, wx⟩ := Go.ChangeMaps.open_string ht hv h
  exact ⟨x, rfl, wx⟩
theorem in_bool {t : TypeId} {r : Reach} {b0 : Nat} {v : Value} {d : DataW H} {p : List MemPlace} (ht : P.underlying t = some .bool) (hv : Value.okWide P w r b0 t v) (h : DataW.Trod enc P w base spare held t v d p) :
    ∃ b, v = .bool b := by
  obtain ⟨x, rfl, _, _⟩ := open_bool ht hv h
  exact ⟨x, rfl⟩
end
theorem u64_range {n : Int} (h : (Lit.int .u64 n).wf = true) : 0 ≤ n ∧ n < 18446744073709551616 := by
  have := bounds_u64 h
  omega
theorem i64_range {n : Int} (h : (Lit.int .i64 n).wf = true) : -9223372036854775808 ≤ n ∧ n ≤ 9223372036854775807 := by
  have := bounds_i64 h
  omega
end Go.Proofs.Ytkamdppnnhjajaa
