/-
  The statement RecordKeeps returns true for each input. Conditions: none.
-/
import Derived.Test.YtkamdppnnhjajaaOpenS08
import Derived.Test.YtkamdppnnhjajaaSymLaw8b
namespace Go.Proofs.Ytkamdppnnhjajaa
open Go Go.RowKit
set_option linter.unusedVariables false

theorem walkRecordKeeps (W : World) (v0 v1 v2 v3 : Value) (i0 : Sym.InRec W v0) (i1 : Sym.InU W v1) (i2 : Sym.InU W v2) (i3 : Sym.InS W v3) : Calls Try.prog 6 #[v0, v1, v2, v3] W fun e w' => e = .returned (.bool true) ∧ Below W.heap.size W w' := by
  obtain ⟨A, n, c, f, kd, nx, mk, rfl, h0, hn, hv, hmk, hk⟩ := i0
  obtain ⟨key, rfl, hkey⟩ := i1
  obtain ⟨other, rfl, hother⟩ := i2
  obtain ⟨s, rfl, hs⟩ := i3
  refine (Sym.lawKeeps_s A n c f hn kd nx mk hv key other s (fun _ _ => False) W (fun _ _ h => h.elim) (fun v hv => ?_)).mono ?_
  · simp only [List.mem_cons, List.not_mem_nil, or_false] at hv
    rcases hv with rfl | rfl | rfl | rfl
    · exact h0
    · exact .int _ _
    · exact .int _ _
    · exact .str _ hs
  · rintro e w' ⟨x, rfl, _, hb⟩
    exact ⟨rfl, hb⟩
end Go.Proofs.Ytkamdppnnhjajaa
