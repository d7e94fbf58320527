/-
  slices.Delete of one element at the element type api.Item: what it makes of a row that the call owns. Conditions: fewer elements than 2^31.
-/
import Derived.Test.YtkamdppnnhjajaaInsertI
namespace Go.Proofs.Ytkamdppnnhjajaa
open Go.RowKit
set_option linter.unusedVariables false
set_option linter.unusedSimpArgs false
set_option maxHeartbeats 400000
set_option maxRecDepth 100000

theorem deleteI (w : World) (B : Nat) (v : Value) (n i : Nat) (xs : List Value) (hown : Own w B 53 2 v n xs) (hi : i < n) (hn : n < 2147483648) (h1x : ∀ u ∈ xs, u.oneCell' = true) :
    Calls Try.prog 60 #[v, .int .i64 i, .int .i64 ((i : Int) + 1)] w fun e w' =>
      ∃ v', e = .returned v' ∧ Own w' B 53 2 v' (n - 1) (xs.take (i * 2) ++ xs.drop ((i + 1) * 2)) ∧ w.grownBy w' (ownB v) ∧ ownB v' = ownB v := by
  rcases hown.2 with ⟨rfl, _⟩ | ⟨g, c, cur, rfl, hBg, hg, hnc, hc0, hcm, hcs, htake⟩
  · omega
  have hcm' := hcm
  unfold maxLen at hcm'
  have hgv : ownB (Value.slice (some ⟨g, 0, none⟩) n c) = some g := by simp [ownB]; omega
  have hxl := hown.1
  have hsz : n * 2 ≤ cur.size := by rw [hcs]; exact Nat.mul_le_mul_right _ hnc
  obtain ⟨A, hA⟩ : ∃ A, A = (if c = i + 1 then some (⟨g, 0, none⟩ : Addr) else some ⟨g, (i + 1) * 2, none⟩) := ⟨_, rfl⟩
  have hrow : RowAt w.drew w.heap.size A (xs.drop ((i + 1) * 2)) := fun hp => ⟨g, (i + 1) * 2, by
      rw [hA, if_neg]; simp at hp; omega, lt_of_heap hg, fun j u hu => by
    rw [cell_of_row w.drew g _ cur _ (0, 0) hg]
    rw [List.getElem?_drop, ← htake, List.getElem?_take] at hu
    split at hu
    · simpa using hu
    · cases hu⟩
  have hr := run_append_room_in (P := Try.prog) (w := w.drew) etyI 22 (n := i) (m := n - (i + 1)) (c := c - (i + 1)) hg hcs (by omega) (by rw [List.length_drop, hxl, ← Nat.sub_mul]) hrow (fun v hv => h1x v (List.mem_of_mem_drop hv))
  rw [show i + (n - (i + 1)) = n - 1 from by omega] at hr
  obtain ⟨cur3, hcur3⟩ : ∃ c3, c3 = (cur.toList.take (i * 2) ++ xs.drop ((i + 1) * 2) ++ cur.toList.drop (i * 2 + (xs.drop ((i + 1) * 2)).length)) := ⟨_, rfl⟩
  rw [← hcur3] at hr
  obtain ⟨w2, hw2⟩ : ∃ w2, w2 = w.drew.setRow g cur3.toArray := ⟨_, rfl⟩
  rw [← hw2] at hr
  have hl3 : cur3.length = cur.size := by rw [hcur3]; simp; omega
  have hg2 : w2.heap[g]? = some (.cells cur3.toArray 53 (0, 0)) := by rw [hw2]; exact setRow_heap w.drew g cur _ _ _ hg
  have hC2 : Chg (fun k => k = g) w w2 := by rw [hw2]; exact ⟨rfl, rfl, rfl, by simp [World.setRow], fun k _ hn => setRow_other w.drew g k _ hn⟩
  have hc := run_clear_in (P := Try.prog) (w := w2) etyI 0 (o := (n - 1) * 2) (len := n - (n - 1)) (cap := c - (n - 1)) hg2 (by simp; omega) (by intro v hv; revert v; simp [Value.cells, Value.oneCell'])
  obtain ⟨w3, hw3⟩ : ∃ w3, w3 = w2.setRow g (cur3.toArray.toList.take ((n - 1) * 2) ++ (Builtin.zeroCells (.agg #[.int .u64 0, .string ⟨#[]⟩] : Value).cells (n - (n - 1))).toList ++ cur3.toArray.toList.drop ((n - 1) * 2 + (n - (n - 1)) * 2)).toArray := ⟨_, rfl⟩
  rw [← hw3] at hc
  have hfin : ∃ v'', Ending.returned (.slice (some ⟨g, 0, none⟩) (n - 1) c) = .returned v'' ∧ Own w3 B 53 2 v'' (n - 1) (xs.take (i * 2) ++ xs.drop ((i + 1) * 2)) ∧ w.grownBy w3 (ownB (.slice (some ⟨g, 0, none⟩) n c)) ∧ ownB v'' = ownB (.slice (some ⟨g, 0, none⟩) n c) := by
    refine ⟨_, rfl, ⟨?_, .inr ⟨g, c, _, rfl, hBg, by rw [hw3]; exact setRow_heap w2 g _ _ _ _ hg2, by omega, hc0, hcm, ?_, ?_⟩⟩, ?_, by simp [ownB]⟩
    · simp; omega
    · simp [Builtin.zeroCells, Value.cells]; omega
    · rw [List.append_assoc, List.take_append_of_le_length (by simp; omega), List.take_take, Nat.min_self, hcur3, List.take_append_of_le_length (by simp; omega), List.take_of_length_le (by simp; omega), ← htake, List.take_take, Nat.min_eq_left (by omega)]
    · rw [hgv]
      have hC3 : Chg (fun k => k = g) w w3 := by rw [hw3]; exact hC2.trans (S' := fun k => k = g) ⟨rfl, rfl, rfl, by simp [World.setRow], fun k _ hn => setRow_other w2 g k _ hn⟩ fun _ _ h => h
      exact ⟨hC3.os, hC3.tape, hC3.output, hC3.size, fun k hk hn => hC3.block k hk fun e => hn (by rw [e])⟩
  clear hw3 hw2 hcur3 hg2 hg hown hrow hl3 htake hcs hxl hgv
  have hA' : (if c = i + 1 then some (⟨g, 0, none⟩ : Addr) else some ⟨g, (i + 1) * 2, none⟩) = A := hA.symm
  clear hA
  have HC2 := Lib.hid hC2
  clear hC2
  have hq : ((i : Int) == (i : Int) + 1) = false := by simp; omega
  have hw0 : (0 : Int) ≤ (i : Int) + 1 := by omega
  have hwt : ((i : Int) + 1).toNat = i + 1 := by omega
  have hwn : (i : Int) + 1 ≤ (n : Int) := by omega
  have hwi : (i : Int) ≤ (i : Int) + 1 := by omega
  have hn1 : ((n - 1 : Nat) : Int) = (n : Int) - 1 := by omega
  have hwic : (i : Int) ≤ (c : Int) := by omega
  go_enter Try.func60, Try.ntmps60
  go_wp2

  go_region_law (refine step_append_run hr rfl (.tmp 22) (.tmp 25) rfl rfl (by simp [Act.eval, Act.put]) (by simp [Act.eval, Act.put]) ?_)
  go_wp2_with (with_reducible refine wpList_clear_run hc rfl (.tmp 31) rfl rfl rfl ?_)
  go_ret
  exact hfin
end Go.Proofs.Ytkamdppnnhjajaa
