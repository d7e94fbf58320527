/-
  The statement RecordHalves returns true for each input. Conditions: none.
-/
import Derived.Test.YtkamdppnnhjajaaOpenS08
import Derived.Test.YtkamdppnnhjajaaSymLaw8c
namespace Go.Proofs.Ytkamdppnnhjajaa
open Go Go.RowKit
set_option linter.unusedVariables false

theorem walkRecordHalves (W : World) (v0 v1 : Value) (i0 : Sym.InRec W v0) (i1 : Sym.InLab W v1) : Calls Try.prog 8 #[v0, v1] W fun e w' => e = .returned (.bool true) ∧ Below W.heap.size W w' := by
  obtain ⟨A, n, c, f, kd, nx, mk, rfl, h0, hn, hv, hmk, hk⟩ := i0
  obtain ⟨l, rfl, h2, hb⟩ := i1
  refine (Sym.lawHalves_s A n c f hn kd nx mk hv hk l hb (fun _ _ => False) W (fun _ _ h => h.elim) (fun v hv => ?_)).mono ?_
  · simp only [List.mem_cons, List.not_mem_nil, or_false] at hv
    rcases hv with rfl | rfl
    · exact h0
    · exact h2
  · rintro e w' ⟨x, rfl, _, hb⟩
    exact ⟨rfl, hb⟩
end Go.Proofs.Ytkamdppnnhjajaa
