/-
  The statement RecordParts returns true for each input. Conditions: none.
-/
import Derived.Test.YtkamdppnnhjajaaOpenS08
import Derived.Test.YtkamdppnnhjajaaSymLaw8c
namespace Go.Proofs.Ytkamdppnnhjajaa
open Go Go.RowKit
set_option linter.unusedVariables false

theorem walkRecordParts (W : World) (v0 v1 v2 : Value) (i0 : Sym.InRec W v0) (i1 : Sym.InRec W v1) (i2 : Sym.InLab W v2) : Calls Try.prog 7 #[v0, v1, v2] W fun e w' => e = .returned (.bool true) ∧ Below W.heap.size W w' := by
  obtain ⟨A, n, c, f, kd, nx, mk, rfl, h0, hn, hv, hmk, hk⟩ := i0
  obtain ⟨A2, n2, c2, f2, kd2, nx2, mk2, rfl, h1, hn2, hv2, hmk2, hk2⟩ := i1
  obtain ⟨l, rfl, h2, hb⟩ := i2
  refine (Sym.lawParts_s A n c f hn kd nx mk hv hk A2 n2 c2 f2 hn2 kd2 nx2 mk2 hv2 l hb (fun _ _ => False) W (fun _ _ h => h.elim) (fun v hv => ?_)).mono ?_
  · simp only [List.mem_cons, List.not_mem_nil, or_false] at hv
    rcases hv with rfl | rfl | rfl
    · exact h0
    · exact h1
    · exact h2
  · rintro e w' ⟨x, rfl, _, hb⟩
    exact ⟨rfl, hb⟩
end Go.Proofs.Ytkamdppnnhjajaa
