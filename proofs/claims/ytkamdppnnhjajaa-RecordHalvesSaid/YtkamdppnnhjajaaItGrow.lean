/-
  slices.Grow of no row, at the element type api.Item. Conditions: fewer elements than 2^31.
-/
import Derived.Test.YtkamdppnnhjajaaItOwn
namespace Go.Proofs.Ytkamdppnnhjajaa.Sym
open Go Go.RowKit
set_option linter.unusedVariables false
set_option linter.unusedSimpArgs false
set_option maxHeartbeats 1000000
set_option maxRecDepth 100000

theorem grow_c (w : World) (n : Nat) (hn : n ≤ 1000000) : Calls Try.prog 93 #[.slice none 0 0, .int .i64 n] w fun e w' =>
    ∃ A' c', e = .returned (.slice A' 0 c') ∧ Own w' w.heap.size 53 2 (.slice A' 0 c') 0 [] ∧ Below w.heap.size w w' := by
  have hneg : ¬ (n : Int) < 0 := by omega
  have hw : IntKind.i64.wrap (n : Int) = (n : Int) := wrap_in (by omega) (by omega)
  have hw0 : IntKind.i64.wrap 0 = 0 := by decide
  by_cases h0 : n = 0
  · subst h0
    go_enter Try.func93, Try.ntmps93
    go_wp2_with fail
    go_ret
    exact ⟨none, 0, rfl, Own.nil _ _ _ _ _, Below.refl _ _⟩
  · have hpos : (0 : Int) < (n : Int) := by omega
    have HA := run_append_zeros_Own (P := Try.prog) (w := w) (kq := .i64) etyI (Try.underlying3) 22 (A := none) (n := 0) (c := 0) (xs := []) (by simp) (RowAt.nil (B := 0)) n (by omega) (by omega) (by simp only [maxLen]; omega) (by omega)
    obtain ⟨_, cap2, cur2, hr, rfl, hge2, hcm2, hcs2, ht2⟩ := HA
    rw [Nat.zero_add] at hr hge2
    obtain ⟨w1, hw1⟩ : ∃ w1, w1 = w.drew.alloc (.cells cur2 53) := ⟨_, rfl⟩
    rw [← hw1] at hr
    have HF : Hid (Own w1 w.heap.size 53 2 (.slice (some ⟨w.heap.size, 0, none⟩) 0 cap2) 0 [] ∧ Below w.heap.size w w1) := by
      refine ⟨⟨by simp, .inr ⟨w.heap.size, cap2, cur2, rfl, Nat.le_refl _, by rw [hw1]; exact heap_alloc_new w.drew _, Nat.zero_le _, by omega, hcm2, hcs2, by simp⟩⟩, ?_⟩
      rw [hw1]
      exact (Below.refl _ _).drew.alloc (by simp) _
    clear hw1 ht2 hcs2 hge2
    go_enter Try.func93, Try.ntmps93
    go_wp2_with (at_builtin; refine wpList_append_run hr rfl (.tmp 20) (.tmp 21) rfl rfl rfl rfl ?_)
    go_ret
    exact ⟨_, _, rfl, HF.out⟩
end Go.Proofs.Ytkamdppnnhjajaa.Sym
