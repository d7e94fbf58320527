/-
  The statement RecordTurns returns true for each input. Conditions: none.
-/
import Derived.Test.YtkamdppnnhjajaaOpenS08
import Derived.Test.YtkamdppnnhjajaaSymLaw8b
namespace Go.Proofs.Ytkamdppnnhjajaa
open Go Go.RowKit
set_option linter.unusedVariables false

theorem walkRecordTurns (W : World) (v0 v1 v2 : Value) (i0 : Sym.InRec W v0) (i1 : Sym.InU W v1) (i2 : Sym.InS W v2) : Calls Try.prog 5 #[v0, v1, v2] W fun e w' => e = .returned (.bool true) ∧ Below W.heap.size W w' := by
  obtain ⟨A, n, c, f, kd, nx, mk, rfl, h0, hn, hv, hmk, hk⟩ := i0
  obtain ⟨key, rfl, hkey⟩ := i1
  obtain ⟨s, rfl, hs⟩ := i2
  refine (Sym.lawTurns_s A n c f hn kd nx mk hv key s (fun _ _ => False) W (fun _ _ h => h.elim) (fun v hv => ?_)).mono ?_
  · simp only [List.mem_cons, List.not_mem_nil, or_false] at hv
    rcases hv with rfl | rfl | rfl
    · exact h0
    · exact .int _ _
    · exact .str _ hs
  · rintro e w' ⟨x, rfl, _, hb⟩
    exact ⟨rfl, hb⟩
end Go.Proofs.Ytkamdppnnhjajaa
