/-
  slices.Insert of one value, and slices.Delete of one, at the element type api.Item: what they make of a row that the call owns. Conditions: fewer elements than 2^31.
-/
import Derived.Test.YtkamdppnnhjajaaChecked
import Derived.Test.YtkamdppnnhjajaaBase
namespace Go.Proofs.Ytkamdppnnhjajaa
open Go.RowKit
set_option linter.unusedVariables false
set_option linter.unusedSimpArgs false
set_option maxHeartbeats 400000
set_option maxRecDepth 100000
theorem etyI : ElemTy Try.prog 22 53 2 24 (.agg #[.int .u64 0, .string ⟨#[]⟩]) := ⟨by kernel_rfl, by kernel_rfl, rfl, by decide⟩

theorem insertI (w : World) (B : Nat) (v : Value) (n i vb vc : Nat) (xs : List Value) (vals : List Value) (hown : Own w B 53 2 v n xs) (hi : i ≤ n) (hn : n < 2147483648)
    (hv : w.heap[vb]? = some (.cells vals.toArray 53 (0, 0))) (hvl : vals.length = 2) (hne : ownB v ≠ some vb) (h1 : ∀ u ∈ vals, u.oneCell' = true) (h1x : ∀ u ∈ xs, u.oneCell' = true) (hB : B ≤ w.heap.size) :
    Calls Try.prog 57 #[v, .int .i64 i, .slice (some ⟨vb, 0, none⟩) 1 vc] w fun e w' =>
      ∃ v', e = .returned v' ∧ Own w' B 53 2 v' (n + 1) (xs.take (i * 2) ++ vals ++ xs.drop (i * 2)) ∧ w.grownBy w' (ownB v) ∧ (ownB v' = ownB v ∨ ∃ g, ownB v' = some g ∧ w.heap.size ≤ g) := by
  have hrow : RowAt w w.heap.size (some ⟨vb, 0, none⟩) vals := fun _ => ⟨vb, 0, rfl, lt_of_heap hv, fun j u hu => by
    rw [Nat.zero_add, cell_of_row w vb j _ _ (0, 0) hv]; simpa using hu⟩
  obtain ⟨A, c, rfl, hnc, hcm⟩ := hown.isSlice
  unfold maxLen at hcm
  by_cases hin : i = n
  · subst hin
    obtain ⟨v', w', hr, hO, hG, hb⟩ := run_append_Own etyI 22 hown (some ⟨vb, 0, none⟩) 1 vc vals (by simpa using hvl) hrow h1 (by simp only [maxLen]; omega) (by omega) hB
    have hfin : ∃ v'', Ending.returned v' = .returned v'' ∧ Own w' B 53 2 v'' (i + 1) (xs.take (i * 2) ++ vals ++ xs.drop (i * 2)) ∧ w.grownBy w' (ownB (.slice A i c)) ∧ (ownB v'' = ownB (.slice A i c) ∨ ∃ g, ownB v'' = some g ∧ w.heap.size ≤ g) := by
      refine ⟨v', rfl, ?_, hG, ?_⟩
      · have hx := hown.1
        rw [List.take_of_length_le (by omega), List.drop_of_length_le (by omega), List.append_nil]
        exact hO
      · rcases hb with h | h
        · exact .inl h
        · exact .inr ⟨_, h, Nat.le_refl _⟩
    clear hb hG hO
    by_cases hci : c = i
    · subst hci
      have hq : ((c : Int) == (c : Int)) = true := by simp
      go_enter Try.func57, Try.ntmps57
      go_wp2_with (at_builtin; refine wpList_append_run hr rfl (.tmp 23) (.tmp 24) rfl rfl rfl rfl ?_)
      go_ret
      exact hfin
    · have hq : ((i : Int) == (i : Int)) = true := by simp
      go_enter Try.func57, Try.ntmps57
      go_wp2_with (at_builtin; refine wpList_append_run hr rfl (.tmp 23) (.tmp 24) rfl rfl rfl rfl ?_)
      go_ret
      exact hfin
  · have hlt : i < n := by omega
    clear hin
    rcases hown.2 with ⟨rfl, _⟩ | ⟨g, cap, cur, hve, hBg, hg, hnc', hc0, hcm', hcs, htake⟩
    · omega
    injection hve with hA _ hc
    subst hA; subst hc
    have hq : ((i : Int) == (n : Int)) = false := by simp; omega
    have hgv : ownB (Value.slice (some ⟨g, 0, none⟩) n c) = some g := by simp [ownB]; omega
    have hxl := hown.1
    by_cases hroom : n + 1 ≤ c
    · -- room: in place
      have hvb : vb ≠ g := fun e => hne (by rw [hgv, e])
      have hsa : w.shape? vb = some (53, vals.length) := by simp [World.shape?, hv]
      have hsb : w.shape? g = some (53, cur.size) := by simp [World.shape?, hg]
      have hov : ∀ lb cb, (callFunc 87 #[.slice (some ⟨vb, 0, none⟩) 1 vc, .slice (some ⟨g, (i + 1) * 2, none⟩) lb cb]).run Try.prog w = .ok (.value (.bool false)) w := fun lb cb => by
        rw [run_callFunc_extern Try.func87 (by kernel_rfl) (by kernel_rfl) (by kernel_rfl) (e := Extern.SlicesOverlaps.overlaps #[22, 22] #[4]) (by kernel_rfl),
          Lib.run_overlaps_apart w 22 4 53 Try.underlying22 2 Try.sizeOf53 ⟨vb, 0, none⟩ ⟨g, (i + 1) * 2, none⟩ 1 vc lb cb hvb _ _ _ _ hsa hsb (by omega) (by simp [World.frozen?, hv]) (by simp [World.frozen?, hv])]
        rfl
      have hsz : (n + 1) * 2 ≤ cur.size := by rw [hcs]; exact Nat.mul_le_mul_right _ hroom
      have hrow1 : RowAt w.drew w.heap.size (some ⟨g, i * 2, none⟩) (xs.drop (i * 2)) := fun _ => ⟨g, i * 2, rfl, lt_of_heap hg, fun j u hu => by
        rw [cell_of_row w.drew g _ cur _ (0, 0) hg]
        rw [List.getElem?_drop, ← htake, List.getElem?_take] at hu
        split at hu
        · simpa using hu
        · cases hu⟩
      have hc1 := run_copy_in (P := Try.prog) (w := w.drew) etyI 3 (g := g) (o := (i + 1) * 2) (dLen := n - i) (dCap := c - (i + 1)) (sLen := n + 1 - i) (sCap := c - i) hg hrow1 (n - i) (by omega) (by rw [List.length_drop, hxl, ← Nat.sub_mul]) (by rw [List.length_drop, hxl]; omega) (fun v hv => h1x v (List.mem_of_mem_drop hv))
      obtain ⟨cur3, hcur3⟩ : ∃ c3, c3 = (cur.toList.take ((i + 1) * 2) ++ xs.drop (i * 2) ++ cur.toList.drop ((i + 1) * 2 + (xs.drop (i * 2)).length)) := ⟨_, rfl⟩
      rw [← hcur3] at hc1
      obtain ⟨w2, hw2⟩ : ∃ w2, w2 = w.drew.setRow g cur3.toArray := ⟨_, rfl⟩
      rw [← hw2] at hc1
      have hl3 : cur3.length = cur.size := by rw [hcur3]; simp; omega
      have hg2 : w2.heap[g]? = some (.cells cur3.toArray 53 (0, 0)) := by rw [hw2]; exact setRow_heap w.drew g cur _ _ _ hg
      have hC2 : Chg (fun k => k = g) w w2 := by rw [hw2]; exact ⟨rfl, rfl, rfl, by simp [World.setRow], fun k _ hn => setRow_other w.drew g k _ hn⟩
      have hrow2 : RowAt w2 w.heap.size (some ⟨vb, 0, none⟩) vals := fun _ => ⟨vb, 0, rfl, lt_of_heap hv, fun j u hu => by
        have hvv : w2.heap[vb]? = some (.cells vals.toArray 53 (0, 0)) := (hC2.block vb (lt_of_heap hv) hvb).trans hv
        rw [Nat.zero_add, cell_of_row w2 vb j _ _ (0, 0) hvv]; simpa using hu⟩
      have hc2 := run_copy_in (P := Try.prog) (w := w2) etyI 3 (g := g) (o := i * 2) (dLen := n + 1 - i) (dCap := c - i) (sLen := 1) (sCap := vc) hg2 hrow2 1 (by omega) (by omega) (by simp; omega) h1
      obtain ⟨w3, hw3⟩ : ∃ w3, w3 = w2.setRow g (cur3.toArray.toList.take (i * 2) ++ vals ++ cur3.toArray.toList.drop (i * 2 + vals.length)).toArray := ⟨_, rfl⟩
      rw [← hw3] at hc2
      have hfin : ∃ v'', Ending.returned (.slice (some ⟨g, 0, none⟩) (n + 1) c) = .returned v'' ∧ Own w3 B 53 2 v'' (n + 1) (xs.take (i * 2) ++ vals ++ xs.drop (i * 2)) ∧ w.grownBy w3 (ownB (.slice (some ⟨g, 0, none⟩) n c)) ∧ (ownB v'' = ownB (.slice (some ⟨g, 0, none⟩) n c) ∨ ∃ g, ownB v'' = some g ∧ w.heap.size ≤ g) := by
        refine ⟨_, rfl, ⟨?_, .inr ⟨g, c, _, rfl, hBg, by rw [hw3]; exact setRow_heap w2 g _ _ _ _ hg2, hroom, hc0, hcm', ?_, ?_⟩⟩, ?_, .inl (by simp [ownB])⟩
        · simp; omega
        · simp; omega
        · have ht3 : cur3.take (i * 2) = xs.take (i * 2) := by
            rw [hcur3, List.append_assoc, List.take_append_of_le_length (by simp; omega), List.take_take, Nat.min_eq_left (by omega), ← htake, List.take_take, Nat.min_eq_left (by omega)]
          have hd3 : cur3.drop (i * 2 + vals.length) = xs.drop (i * 2) ++ cur.toList.drop ((i + 1) * 2 + (xs.drop (i * 2)).length) := by
            rw [hcur3, List.append_assoc, List.drop_append]
            have e1 : (List.take ((i + 1) * 2) cur.toList).length = i * 2 + vals.length := by simp; omega
            rw [List.drop_of_length_le (by omega), e1]; simp
          rw [ht3, hd3, ← List.append_assoc, List.take_append_of_le_length (by simp; omega), List.take_of_length_le (by simp; omega)]
        · rw [hgv]
          have hC3 : Chg (fun k => k = g) w w3 := by rw [hw3]; exact hC2.trans (S' := fun k => k = g) ⟨rfl, rfl, rfl, by simp [World.setRow], fun k _ hn => setRow_other w2 g k _ hn⟩ fun _ _ h => h
          exact ⟨hC3.os, hC3.tape, hC3.output, hC3.size, fun k hk hn => hC3.block k hk fun e => hn (by rw [e])⟩
      clear hw3 hw2 hcur3 hg2 hg hown hne hv hrow hrow1 hrow2 hl3 htake hcs hxl hgv hsa hsb
      have HC2 := Lib.hid hC2
      clear hC2
      go_enter Try.func57, Try.ntmps57
      go_wp2_with (first | (simp only [hov]))
      have hwr : IntKind.i64.wrap ((i : Int) + 1) = (i : Int) + 1 := IntWalk.i64_in _ (by omega)
      have hw0 : (0 : Int) ≤ (i : Int) + 1 := by omega
      have hwn : (i : Int) + 1 ≤ (n : Int) + 1 := by omega
      have hwt : ((i : Int) + 1).toNat = i + 1 := by omega
      have hwc : ¬ c = i + 1 := by omega
      have hwi : ¬ c = i := by omega
      have hw1 : (i : Int) ≤ (n : Int) + 1 := by omega
      go_region_law (refine step_copy_run hc1 rfl (.tmp 73) (.tmp 76) rfl rfl (by simp [Act.eval, Act.put]) (by simp [Act.eval, Act.put]) ?_)
      go_wp2_with (with_reducible refine wpList_copy_run hc2 rfl (.tmp 80) (.tmp 81) rfl rfl rfl rfl ?_)
      go_ret
      exact hfin
    · -- no room: a new row
      have HA := run_append_zeros_Own (P := Try.prog) (w := w) (kq := .i64) etyI (Try.underlying3) 22 (A := some ⟨g, 0, none⟩) (n := i) (c := c) (xs := xs.take (i * 2)) (by rw [List.length_take]; omega) ((hown.row _ _ _ rfl).take _) (n + 1 - i) (by omega) (by omega) (by simp only [maxLen]; omega) (by omega)
      obtain ⟨_, cap2, cur2, hr, rfl, hge2, hcm2, hcs2, ht2⟩ := HA
      rw [show ((n + 1 - i : Nat) : Int) = (n : Int) + 1 - (i : Int) from by omega, show i + (n + 1 - i) = n + 1 from by omega] at hr
      have hge3 : n + 1 ≤ cap2 := by omega
      clear hge2
      obtain ⟨w1, hw1⟩ : ∃ w1, w1 = w.drew.alloc (.cells cur2 53) := ⟨_, rfl⟩
      have HW1 := Lib.hid hw1
      rw [← hw1] at hr
      clear hw1
      have hg1 : w1.heap[w.heap.size]? = some (.cells cur2 53 (0, 0)) := by rw [HW1.out]; exact heap_alloc_new w.drew _
      have hb1 : Below w.heap.size w w1 := by rw [HW1.out]; exact (Below.refl _ _).drew.alloc (by simp) _
      have hrow1 : RowAt w1 w.heap.size (some ⟨vb, 0, none⟩) vals := hrow.below hb1
      have hs1 : (n + 1) * 2 ≤ cur2.size := by rw [hcs2]; exact Nat.mul_le_mul_right _ hge3
      have hc1 := run_copy_in (P := Try.prog) etyI 3 (o := i * 2) (dLen := n + 1 - i) (dCap := cap2 - i) (sLen := 1) (sCap := vc) hg1 hrow1 1 (by omega) (by omega) (by omega) h1
      obtain ⟨cur3, hcur3⟩ : ∃ c3, c3 = (cur2.toList.take (i * 2) ++ vals ++ cur2.toList.drop (i * 2 + vals.length)) := ⟨_, rfl⟩
      rw [← hcur3] at hc1
      obtain ⟨w2, hw2⟩ : ∃ w2, w2 = w1.setRow w.heap.size cur3.toArray := ⟨_, rfl⟩
      rw [← hw2] at hc1
      have hl3 : cur3.length = cur2.size := by rw [hcur3]; simp; omega
      have hg2 : w2.heap[w.heap.size]? = some (.cells cur3.toArray 53 (0, 0)) := by rw [hw2]; exact setRow_heap w1 w.heap.size cur2 _ _ _ hg1
      have hb2 : Below w.heap.size w w2 := by rw [hw2]; exact below_setRow hb1 (Nat.le_refl _) _
      have hrow2 : RowAt w2.drew w.heap.size (some ⟨g, i * 2, none⟩) (xs.drop (i * 2)) := fun _ => ⟨g, i * 2, rfl, lt_of_heap hg, fun j u hu => by
        have hgg : w2.drew.heap[g]? = some (.cells cur 53 (0, 0)) := (hb2.drew.block g (lt_of_heap hg)).trans hg
        rw [cell_of_row w2.drew g _ cur _ (0, 0) hgg]
        rw [List.getElem?_drop, ← htake, List.getElem?_take] at hu
        split at hu
        · simpa using hu
        · cases hu⟩
      have hc2 := run_copy_in (P := Try.prog) (w := w2.drew) etyI 3 (o := (i + 1) * 2) (dLen := n - i) (dCap := cap2 - (i + 1)) (sLen := n - i) (sCap := c - i) hg2 hrow2 (n - i) (by omega) (by rw [List.length_drop, hxl, ← Nat.sub_mul]) (by rw [List.length_drop, hxl]; simp; omega) (fun v hv => h1x v (List.mem_of_mem_drop hv))
      obtain ⟨w3, hw3⟩ : ∃ w3, w3 = w2.drew.setRow w.heap.size (cur3.toArray.toList.take ((i + 1) * 2) ++ xs.drop (i * 2) ++ cur3.toArray.toList.drop ((i + 1) * 2 + (xs.drop (i * 2)).length)).toArray := ⟨_, rfl⟩
      rw [← hw3] at hc2
      have hfin : ∃ v'', Ending.returned (.slice (some ⟨w.heap.size, 0, none⟩) (n + 1) cap2) = .returned v'' ∧ Own w3 B 53 2 v'' (n + 1) (xs.take (i * 2) ++ vals ++ xs.drop (i * 2)) ∧ w.grownBy w3 (ownB (.slice (some ⟨g, 0, none⟩) n c)) ∧ (ownB v'' = ownB (.slice (some ⟨g, 0, none⟩) n c) ∨ ∃ g, ownB v'' = some g ∧ w.heap.size ≤ g) := by
        refine ⟨_, rfl, ⟨?_, .inr ⟨w.heap.size, cap2, _, rfl, hB, by rw [hw3]; exact setRow_heap w2.drew w.heap.size _ _ _ _ hg2, hge3, by omega, hcm2, ?_, ?_⟩⟩, ?_, .inr ⟨w.heap.size, by simp [ownB]; omega, Nat.le_refl _⟩⟩
        · simp; omega
        · simp; omega
        · rw [List.take_append_of_le_length (by simp; omega), List.take_of_length_le (by simp; omega)]
          congr 1
          rw [hcur3, List.append_assoc, ← List.append_assoc, List.take_append_of_le_length (by simp; omega), List.take_of_length_le (by simp; omega), ht2]
        · have hb3 : Below w.heap.size w w3 := by rw [hw3]; exact below_setRow hb2.drew (Nat.le_refl _) _
          exact ⟨hb3.os, hb3.tape, hb3.output, hb3.size, fun k hk _ => hb3.block k hk⟩
      clear hw3 hw2 hcur3 hg2 hg1 hg hown hne hv hrow hrow1 hrow2 hl3 htake hcs2 hcs ht2 hxl
      have HB1 := Lib.hid hb1
      have HB2 := Lib.hid hb2
      clear hb1 hb2
      go_enter Try.func57, Try.ntmps57
      go_wp2_with (first | (at_builtin; refine wpList_append_run hr rfl (.tmp 34) (.tmp 39) rfl rfl rfl rfl ?_) | (with_reducible refine wpList_copy_run hc1 rfl (.tmp 43) (.tmp 44) rfl rfl rfl rfl ?_))
      have hwr : IntKind.i64.wrap ((i : Int) + 1) = (i : Int) + 1 := IntWalk.i64_in _ (by omega)
      have hw0 : (0 : Int) ≤ (i : Int) + 1 := by omega
      have hwn : (i : Int) + 1 ≤ (n : Int) + 1 := by omega
      have hwt : ((i : Int) + 1).toNat = i + 1 := by omega
      have hwc : ¬ cap2 = i + 1 := by omega
      have hwi : ¬ c = i := by omega
      go_region_law (refine step_copy_run hc2 rfl (.tmp 50) (.tmp 53) rfl rfl (by simp [Act.eval, Act.put]) (by simp [Act.eval, Act.put]) ?_)
      go_wp2
      go_ret
      exact hfin
end Go.Proofs.Ytkamdppnnhjajaa
