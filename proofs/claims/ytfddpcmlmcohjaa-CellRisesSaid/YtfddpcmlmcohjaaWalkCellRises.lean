/-
  The statement CellRises returns true for each input. Conditions: none.
-/
import Derived.Test.YtfddpcmlmcohjaaOpenS17
import Derived.Test.YtfddpcmlmcohjaaSymLR17
namespace Go.Proofs.Ytfddpcmlmcohjaa
open Go Go.RowKit
set_option linter.unusedVariables false

theorem walkCellRises (W : World) (v0 v1 : Value) (i0 : Sym.InCel W v0) (i1 : Sym.InOpr W v1) : Calls Try.prog 7 #[v0, v1] W fun e w' => e = .returned (.bool true) ∧ Below W.heap.size W w' := by
  obtain ⟨A, k, c, rfl, h0⟩ := i0
  obtain ⟨o, rfl, h1⟩ := i1
  refine (Sym.lawRises_s A k c o (fun _ _ => False) W (fun _ _ h => h.elim) (fun v hv => ?_)).mono ?_
  · simp only [List.mem_cons, List.not_mem_nil, or_false] at hv
    rcases hv with rfl | rfl
    · exact h0
    · exact h1
  · rintro e w' ⟨x, rfl, _, hb⟩
    exact ⟨rfl, hb⟩
end Go.Proofs.Ytfddpcmlmcohjaa
