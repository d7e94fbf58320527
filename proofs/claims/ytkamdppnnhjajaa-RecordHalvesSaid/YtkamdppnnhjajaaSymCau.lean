/-
  The deferred function 'caught' of the package record: of a call that returns, and of one that panics. Conditions: none.
-/
import Derived.Test.YtkamdppnnhjajaaSymRec1
import Derived.Tactics
import Derived.Tactics2
import Derived.Laws.Pointers
namespace Go.Proofs.Ytkamdppnnhjajaa
open Go Go.RowKit Sym
set_option linter.unusedVariables false
set_option linter.unusedSimpArgs false

theorem caught_idle (p : Addr) (w : World) :
    CallsD Try.prog 32 #[.pointer (some p)] .returning w fun e u' w' => e = .returned (.tuple #[]) ∧ u' = .returning ∧ w' = w := by
  refine callsD_of_wpS Try.func32 rfl fun c₀ cs hu => ?_
  apply wpS_seq
  apply wpS_region
  simp [wpOpsS, go_sem, recoverD, hu, Try.ntmps32, Exit.thenS]
  apply wpS_seq
  apply wpS_region
  simp [wpOpsS, go_sem, Exit.thenS]
  refine wpS_cond (t := false) (by simp [Act.eval, Array.replicate]) ?_
  simp only [Bool.false_eq_true, if_false]
  refine wpS_of_wp (wp_skip ?_)
  cases c₀
  simp_all [bodyPostS, results, Try.results32]
theorem caught_pan (b : Nat) (x c : Int) (w : World) (hh : w.heap[b]? = some (.cells #[.int .i64 x] 29 (0, 0))) :
    CallsD Try.prog 32 #[.pointer (some ⟨b, 0, none⟩)] (.panicking [{ v := .iface 29 (.int .i64 c), recovered := false }]) w fun e u' w' => e = .returned (.tuple #[]) ∧ u' = .panicking [{ v := .iface 29 (.int .i64 c), recovered := true }] ∧ w' = w.setRow b #[.int .i64 c] := by
  have hc0 : w.cell? ⟨b, 0, none⟩ = some (.int .i64 x) := by rw [cell_of_row w b 0 _ _ _ hh]; rfl
  have hfz : w.frozen? ⟨b, 0, none⟩ = false := by simp [World.frozen?, hh]
  have hset : w.setCell ⟨b, 0, none⟩ (.int .i64 c) = w.setRow b #[.int .i64 c] := by
    have := setCell_eq_setRow w b 0 #[.int .i64 x] 29 (0, 0) (.int .i64 c) hh
    simpa using this
  have hu29 : Try.prog.underlying 29 = some (.int .i64) := by kernel_rfl
  have hta : (Instr.typeAssert (.iface 29 (.int .i64 c)) 20 29 false).run Try.prog w = .ok (.int .i64 c) w := by
    simp [Instr.typeAssert, run_underlying hu29]
  refine callsD_of_wpS Try.func32 rfl fun c₀ cs hu => ?_
  apply wpS_seq
  apply wpS_region
  simp [wpOpsS, go_sem, recoverD, hu, Try.ntmps32, Exit.thenS]
  apply wpS_seq
  apply wpS_region
  simp [wpOpsS, go_sem, Exit.thenS]
  refine wpS_cond (t := true) (by simp [Act.eval, Array.replicate]) ?_
  simp only [if_true]
  apply wpS_region
  simp [wpOpsS, go_sem, bodyPostS, results, Try.results32, hta, hc0, hfz, hset]
end Go.Proofs.Ytkamdppnnhjajaa
