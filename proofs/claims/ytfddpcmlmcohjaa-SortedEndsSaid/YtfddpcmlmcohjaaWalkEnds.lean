/-
  The walk of SortedEnds.
-/
import Derived.Test.YtfddpcmlmcohjaaLaw07b
import Derived.Test.YtfddpcmlmcohjaaOpen07
import Derived.Deep.RegionHeld3
namespace Go.Proofs.Ytfddpcmlmcohjaa
open Go.RowKit
set_option linter.unusedVariables false
set_option linter.unusedSimpArgs false
set_option maxHeartbeats 1000000
set_option maxRecDepth 100000
theorem walkSortedEnds (W : World) (v0 : Value) (i0 : InItems W v0) : Calls Try.prog 4 #[v0] W fun e w' => e = .returned (.bool true) ∧ Below W.heap.size W w' := by
  obtain ⟨A, c, l, rfl, hr, hlc, hcm, hwf⟩ := i0
  unfold maxLen at hcm
  by_cases h60 : l.length ≤ 60
  · have hfl := fillL_length l
    have hkeys : ∀ x ∈ fillL l, 0 ≤ x.key ∧ x.key ≤ 18446744073709551615 := fillL_mem fun x hx _ => by
      have := hwf x hx; exact ⟨this.1, by have := this.2.1; omega⟩
    have HK := Lib.hid (range_all hkeys)
    obtain ⟨L, hL⟩ : ∃ L, L = fillL l := ⟨_, rfl⟩
    have hLl : L.length ≤ 60 := by rw [hL]; omega
    rw [← hL] at HK
    have HF := filled_c W A c l hr h60
    rw [← hL] at HF
    clear hL hkeys hwf hfl hr
    have hge := guardItem
    have hb0 := buildItem0
    go_enter Try.func4, Try.ntmps4
    go_wp2_with fail
    refine HF.mono ?_
    rintro e w1 ⟨p, v, rfl, hm, hb1⟩
    clear HF
    have H2 := range_c w1 W.heap.size p v L 0 18446744073709551615 1000 hm (by decide) (by decide)
    go_wp2_with fail
    refine H2.mono ?_
    rintro e w2 ⟨v2, rfl, hO, hb2⟩
    clear H2
    have hm2 := hm.below hb2
    rw [HK.out, List.take_of_length_le (by omega)] at hO
    obtain ⟨A2, c2, rfl, hn2, hc2⟩ := Own.isSlice hO
    unfold maxLen at hc2
    have H3 := min_c w2 W.heap.size p v L hm2
    go_wp2_with fail
    refine H3.mono ?_
    rintro e w3 ⟨rfl, hb3⟩
    clear H3
    have hm3 := hm2.below hb3
    go_wp2_with fail
    have H4 := max_c _ W.heap.size p v L (hm3.below ((Below.refl _ _).alloc (Nat.le_refl _) (.cells #[.int .u64 (first L).key, .string (first L).val] 31)))
    refine H4.mono ?_
    rintro e w4 ⟨rfl, hb4⟩
    clear H4
    have hm4 := (hm3.below ((Below.refl _ _).alloc (Nat.le_refl _) (.cells #[.int .u64 (first L).key, .string (first L).val] 31))).below hb4
    have ga : (w4.alloc (.cells #[.int .u64 (last L).key, .string (last L).val] 31)).heap[w3.heap.size]? = some (.cells #[.int .u64 (first L).key, .string (first L).val] 31 (0, 0)) := by
      have h1 := heap_alloc_new w3 (.cells #[.int .u64 (first L).key, .string (first L).val] 31)
      have h2 := hb4.block w3.heap.size (by simp)
      have h3 := hb4.size
      rw [Below.heap_alloc _ _ _ (by simp at h3; omega), h2, h1]
    have gb := heap_alloc_new w4 (.cells #[.int .u64 (last L).key, .string (last L).val] 31)
    have hb5 : Below w4.heap.size w4 (w4.alloc (.cells #[.int .u64 (last L).key, .string (last L).val] 31)) := (Below.refl _ _).alloc (Nat.le_refl _) _
    obtain ⟨W5, hW5⟩ : ∃ W5, W5 = w4.alloc (.cells #[.int .u64 (last L).key, .string (last L).val] 31) := ⟨_, rfl⟩
    go_wp2_with fail
    rw [← hW5] at ga gb hb5 ⊢
    clear hW5
    have hs4 := hb4.size
    simp only [World.size_alloc] at hs4
    have hB5 : Below W.heap.size W W5 := hb1.trans ((hb2.mono hb1.size).trans ((hb3.mono (Nat.le_trans hb1.size hb2.size)).trans ((((Below.refl _ _).alloc (Nat.le_trans hb1.size (Nat.le_trans hb2.size hb3.size)) _).trans (hb4.mono (by simp; have := hb1.size; have := hb2.size; have := hb3.size; omega))).trans (hb5.mono (by have := hb1.size; have := hb2.size; have := hb3.size; omega)))))
    have hm5 := hm4.below hb5
    have hO5 : OwnL Item.enc 2 W5 w1.heap.size 31 (.slice A2 L.length c2) L :=
      Own.below (Own.below (Own.below hO hb3) (((Below.refl _ _).alloc (Nat.le_refl _) _).trans (hb4.mono (by simp)))) (hb5.mono (Nat.le_refl _))
    have H5 := size_c W5 W.heap.size p v L hm5
    have HO := ordered_c W5
    have Hread := Lib.hid (OwnL.reads hO5)
    clear hm hm2 hm3 hm4 hm5 hO hO5 hb1 hb2 hb3 hb4 hb5
    have hq : ((L.length : Int) != (L.length : Int)) = false := by simp
    by_cases hn : 0 < L.length
    · have e1 := (first_of hn).1
      have e2 := (first_of hn).2
      have e3 := (last_of hn).1
      rw [e1] at ga
      rw [e3] at gb
      rw [e1, e2, e3]
      have hn0 : ((L.length : Int) == 0) = false := beq_eq_false_iff_ne.2 (by omega)
      have hd : decide (0 < L.length) = true := by simp [hn]
      have hi1 : ((L.length : Int) - 1).toNat = L.length - 1 := by omega
      have hB : Hid (Below W.heap.size W W5) := hB5
      have q1 := fun w => eqlItem L[0] L[0] w
      have q2 := fun w => eqlItem L[L.length - 1] L[L.length - 1] w
      simp only [decide_true] at q1 q2
      clear hB5 e1 e2 e3
      refine H5.mono ?_
      rintro e w5' ⟨rfl, rfl⟩
      go_wp2_with fail
      obtain ⟨bk, off, rfl, hbk, hx⟩ := Hread.out.at_ (k := 2) Item.enc_len (by decide) hn
      obtain ⟨bk', off', he', _, hy⟩ := Hread.out.at_ (k := 2) Item.enc_len (by decide) (show L.length - 1 < L.length from by omega)
      obtain ⟨rfl, rfl⟩ : bk = bk' ∧ off = off' := by injection he' with he'; injection he' with h1 h2; exact ⟨h1, h2⟩
      have k0 := hx 0 _ rfl
      have k1 := hx 1 _ rfl
      have k2 := hy 0 _ rfl
      have k3 := hy 1 _ rfl
      simp only [Nat.add_zero, Nat.zero_mul, Nat.zero_add] at k0 k1 k2
      have n0 := new_cell k0
      have n1 := new_cell k1
      have n2 := new_cell k2
      have n3 := new_cell k3
      have n4 := new_cell (v := .int .u64 L[0].key) (cell_of_row w5' _ 0 _ _ _ ga)
      have n5 := new_cell (v := .string L[0].val) (cell_of_row w5' _ 1 _ _ _ ga)
      have n6 := new_cell (v := .int .u64 L[L.length - 1].key) (cell_of_row w5' _ 0 _ _ _ gb)
      have n7 := new_cell (v := .string L[L.length - 1].val) (cell_of_row w5' _ 1 _ _ _ gb)
      have hw1 : IntKind.i64.wrap ((L.length : Int) - 1) = (L.length : Int) - 1 := IntWalk.i64_in _ (by omega)
      have hw2 : (0 : Int) ≤ (L.length : Int) - 1 := by omega
      have hw2' : (1 : Int) ≤ (L.length : Int) := by omega
      have hw3 : (L.length : Int) - 1 < (L.length : Int) := by omega
      clear k0 k1 k2 k3 hx hy ga gb H5 HO
      refine wp_region_new (by kernel_rfl) (by kernel_rfl) ?_
      repeat (go_big_quiet_step ((go_at_call 15; exact Calls.new_of (ordered_c _))))
      refine wpQuiet_nil ?_
      rintro _ ⟨⟨w6, hb6⟩, rfl⟩
      go_wp2_with fail
      go_ret
      exact ⟨rfl, hB.out.trans (hb6.mono hB.out.size)⟩
    · obtain rfl : L = [] := List.eq_nil_of_length_eq_zero (by omega)
      have ga' : W5.heap[w3.heap.size]? = some (.cells #[.int .u64 0, .string ⟨#[]⟩] 31 (0, 0)) := ga
      have gb' : W5.heap[w4.heap.size]? = some (.cells #[.int .u64 0, .string ⟨#[]⟩] 31 (0, 0)) := gb
      have n4 := new_cell (v := .int .u64 0) (cell_of_row W5 _ 0 _ _ _ ga')
      have n5 := new_cell (v := .string ⟨#[]⟩) (cell_of_row W5 _ 1 _ _ _ ga')
      have n6 := new_cell (v := .int .u64 0) (cell_of_row W5 _ 0 _ _ _ gb')
      have n7 := new_cell (v := .string ⟨#[]⟩) (cell_of_row W5 _ 1 _ _ _ gb')
      have hB : Hid (Below W.heap.size W W5) := hB5
      have q1 := fun w => eqlItem ⟨0, ⟨#[]⟩⟩ ⟨0, ⟨#[]⟩⟩ w
      simp only [decide_true] at q1
      have hsome : some_ [] = false := rfl
      clear ga gb ga' gb' hB5
      refine H5.mono ?_
      rintro e w5' ⟨rfl, rfl⟩
      go_wp2_with fail
      refine wp_region_new (by kernel_rfl) (by kernel_rfl) ?_
      repeat (go_big_quiet_step ((go_at_call 15; exact Calls.new_of (ordered_c _))))
      refine wpQuiet_nil ?_
      rintro _ ⟨⟨w6, hb6⟩, rfl⟩
      go_wp2_with fail
      go_ret
      exact ⟨rfl, hB.out.trans (hb6.mono hB.out.size)⟩
  · go_enter Try.func4, Try.ntmps4
    go_wp2_with fail
    go_ret
    exact ⟨rfl, Below.refl _ _⟩
end Go.Proofs.Ytfddpcmlmcohjaa
