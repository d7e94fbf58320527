/-
  The statement RecordBack returns true for each input. Conditions: none.
-/
import Derived.Test.YtkamdppnnhjajaaOpenS08
import Derived.Test.YtkamdppnnhjajaaSymLaw8
namespace Go.Proofs.Ytkamdppnnhjajaa
open Go Go.RowKit
set_option linter.unusedVariables false

theorem walkRecordBack (W : World) (v0 v1 : Value) (i0 : Sym.InRec W v0) (i1 : Sym.InS W v1) : Calls Try.prog 4 #[v0, v1] W fun e w' => e = .returned (.bool true) ∧ Below W.heap.size W w' := by
  obtain ⟨A, n, c, f, kd, nx, mk, rfl, h0, hn, hv, hmk, hk⟩ := i0
  obtain ⟨s, rfl, hs⟩ := i1
  refine (Sym.lawBack_s A n c f hn kd nx mk hv hmk hk s (fun _ _ => False) W (fun _ _ h => h.elim) (fun v hv => ?_)).mono ?_
  · simp only [List.mem_cons, List.not_mem_nil, or_false] at hv
    rcases hv with rfl | rfl
    · exact h0
    · exact .str _ hs
  · rintro e w' ⟨x, rfl, _, hb⟩
    exact ⟨rfl, hb⟩
end Go.Proofs.Ytkamdppnnhjajaa
