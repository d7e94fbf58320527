/-
  espalierlaw07.ordered: the document's rows hold. Conditions: none.
-/
import Derived.Test.YtfddpcmlmcohjaaLaw07a
namespace Go.Proofs.Ytfddpcmlmcohjaa
open Go.RowKit
set_option linter.unusedVariables false
set_option linter.unusedSimpArgs false
set_option maxHeartbeats 1000000
set_option maxRecDepth 100000

def sA : ByteArray := ⟨#[97]⟩
def sB : ByteArray := ⟨#[98]⟩
def sC : ByteArray := ⟨#[99]⟩
def o1 : List Item := [⟨5, sA⟩]
def o2 : List Item := [⟨3, sB⟩, ⟨5, sA⟩]
def o3 : List Item := [⟨3, sB⟩, ⟨5, sC⟩]

theorem Wrote.below {w w' : World} {B p : Nat} {v : Value} {l l' : List Item} (h : MapP w B p v l) (hw : Wrote w B p v l' w') (hB : B ≤ w.heap.size) : (∃ v', MapP w' B p v' l') ∧ Below B w w' := by
  obtain ⟨v', hm, hC, _⟩ := hw
  refine ⟨⟨v', hm⟩, hC.below hB ?_⟩
  rintro k (rfl | hk)
  · exact h.base
  · exact (Own.lt h.own k hk).1

theorem ordered_c (w : World) : Calls Try.prog 15 #[] w fun e w' => e = .returned (.bool true) ∧ Below w.heap.size w w' := by
  have bI := buildItem
  have hnq := fun x y w => eqlItem x y w
  have hgd := guardItem
  have HN := new_c w
  go_enter Try.func15, Try.ntmps15
  go_wp2_with fail
  refine HN.mono ?_
  rintro e w0 ⟨rfl, rfl⟩
  clear HN
  obtain ⟨W0, hW0⟩ : ∃ W0, W0 = w.alloc (.cells #[.slice none 0 0] 79) := ⟨_, rfl⟩
  have hm0 : MapP W0 w.heap.size w.heap.size (.slice none 0 0) [] := by rw [hW0]; exact new_map w w.heap.size (Nat.le_refl _)
  have hb0 : Below w.heap.size w W0 := by rw [hW0]; exact (Below.refl _ _).alloc (Nat.le_refl _) _
  rw [← hW0]
  clear hW0
  have H1 : Calls Try.prog 34 #[.pointer (some ⟨w.heap.size, 0, none⟩), .int .u64 5, .string ⟨#[97]⟩] W0 fun e w' => e = .returned (.tuple #[.string ⟨#[]⟩, .bool false, .int .i64 0]) ∧ Wrote W0 w.heap.size w.heap.size (.slice none 0 0) o1 w' :=
    put_c W0 w.heap.size w.heap.size _ [] 5 sA hm0 (by decide) hb0.size (by decide)
  go_wp2_with fail
  refine H1.mono ?_
  rintro e w1 ⟨rfl, hw1⟩
  obtain ⟨⟨v1, hm1⟩, hb1⟩ := Wrote.below hm0 hw1 hb0.size
  clear H1 hw1 hm0
  have H2 : Calls Try.prog 34 #[.pointer (some ⟨w.heap.size, 0, none⟩), .int .u64 3, .string ⟨#[98]⟩] w1 fun e w' => e = .returned (.tuple #[.string ⟨#[]⟩, .bool false, .int .i64 0]) ∧ Wrote w1 w.heap.size w.heap.size v1 o2 w' :=
    put_c w1 w.heap.size w.heap.size _ o1 3 sB hm1 (by decide) (Nat.le_trans hb0.size hb1.size) (by decide)
  go_wp2_with fail
  refine H2.mono ?_
  rintro e w2 ⟨rfl, hw2⟩
  obtain ⟨⟨v2, hm2⟩, hb2⟩ := Wrote.below hm1 hw2 (Nat.le_trans hb0.size hb1.size)
  clear H2 hw2 hm1
  have H3 : Calls Try.prog 34 #[.pointer (some ⟨w.heap.size, 0, none⟩), .int .u64 5, .string ⟨#[99]⟩] w2 fun e w' => e = .returned (.tuple #[.string ⟨#[97]⟩, .bool true, .int .i64 0]) ∧ Wrote w2 w.heap.size w.heap.size v2 o3 w' :=
    put_c w2 w.heap.size w.heap.size _ o2 5 sC hm2 (by decide) (Nat.le_trans hb0.size (Nat.le_trans hb1.size hb2.size)) (by decide)
  go_wp2_with fail
  refine H3.mono ?_
  rintro e w3 ⟨rfl, hw3⟩
  obtain ⟨⟨v3, hm3⟩, hb3⟩ := Wrote.below hm2 hw3 (Nat.le_trans hb0.size (Nat.le_trans hb1.size hb2.size))
  clear H3 hw3 hm2
  have hbw3 : Below w.heap.size w w3 := hb0.trans (hb1.trans (hb2.trans hb3))
  clear hb0 hb1 hb2 hb3
  have H4 := range_c w3 w.heap.size w.heap.size v3 o3 4 9 7 hm3 (by decide) (by decide)
  go_wp2_with fail
  refine H4.mono ?_
  rintro e w4 ⟨v4, rfl, hO4, hb4⟩
  have hm4 := hm3.below hb4
  have hO4' : OwnL Item.enc 2 w4 w3.heap.size 31 v4 [⟨5, sC⟩] := hO4
  clear hO4 H4
  obtain ⟨A4, c4, rfl, _, _⟩ := Own.isSlice hO4'
  have H5 : Calls Try.prog 18 #[.pointer (some ⟨w.heap.size, 0, none⟩)] w4 (AtP w4 ⟨3, sB⟩ true) := min_c w4 w.heap.size w.heap.size v3 o3 hm4
  go_wp2_with fail
  refine H5.mono ?_
  rintro e w5 ⟨rfl, hb5⟩
  have hm5 := hm4.below hb5
  clear H5
  go_wp2_with fail
  have hb6 : Below w5.heap.size w5 ((w5.alloc (.cells #[.int .u64 3, .string sB] 31)).alloc (.cells #[.int .u64 5, .string ⟨#[99]⟩] 31)) := ((Below.refl _ _).alloc (Nat.le_refl _) _).alloc (by simp) _
  have hc0 : ((w5.alloc (.cells #[.int .u64 3, .string sB] 31)).alloc (.cells #[.int .u64 5, .string ⟨#[99]⟩] 31)).heap[w5.heap.size]? = some (.cells #[.int .u64 3, .string sB] 31 (0, 0)) := by
    rw [Below.heap_alloc _ _ _ (by simp)]; exact heap_alloc_new w5 _
  have hc1 : ((w5.alloc (.cells #[.int .u64 3, .string sB] 31)).alloc (.cells #[.int .u64 5, .string ⟨#[99]⟩] 31)).heap[w5.heap.size + 1]? = some (.cells (Item.enc ⟨5, sC⟩).toArray 31 (0, 0)) := by
    have := heap_alloc_new (w5.alloc (.cells #[.int .u64 3, .string sB] 31)) (.cells #[.int .u64 5, .string ⟨#[99]⟩] 31)
    rw [World.size_alloc] at this; exact this
  obtain ⟨W6, hW6⟩ : ∃ W6, W6 = (w5.alloc (.cells #[.int .u64 3, .string sB] 31)).alloc (.cells #[.int .u64 5, .string ⟨#[99]⟩] 31) := ⟨_, rfl⟩
  rw [← hW6] at hb6 hc0 hc1 ⊢
  clear hW6
  have hO6 : OwnL Item.enc 2 W6 w3.heap.size 31 (.slice A4 1 c4) [⟨5, sC⟩] := Own.below (Own.below hO4' hb5) (hb6.mono (Nat.le_refl _))
  have hr2 : ReadsL Item.enc W6 W6.heap.size (some ⟨w5.heap.size + 1, 0, none⟩) [⟨5, sC⟩] := fun _ => ⟨_, _, rfl, lt_of_heap hc1, fun j u hu => by
    rw [Nat.zero_add, cell_of_row W6 _ j _ _ (0, 0) hc1]; simpa using hu⟩
  have H6 : Calls Try.prog 16 #[.slice A4 1 c4, .slice (some ⟨w5.heap.size + 1, 0, none⟩) 1 1] W6 fun e w' => e = .returned (.bool true) ∧ ∃ n, w' = W6.drewN n :=
    same_c A4 _ c4 1 _ _ [⟨5, sC⟩] [⟨5, sC⟩] W6 (OwnL.reads hO6) hr2 (by decide) (by decide)
  refine H6.mono ?_
  rintro e w7 ⟨rfl, n7, rfl⟩
  clear H6 hr2 hO6 hO4'
  have hm7 : MapP (W6.drewN n7) w.heap.size w.heap.size v3 o3 := (hm5.below hb6).below (below_drewN (Below.refl _ _) n7)
  have H7 : Calls Try.prog 17 #[.pointer (some ⟨w.heap.size, 0, none⟩), .int .u64 4] (W6.drewN n7) fun e w' => e = .returned (.int .i64 1) ∧ Below (W6.drewN n7).heap.size (W6.drewN n7) w' := rank_c (W6.drewN n7) w.heap.size w.heap.size v3 o3 4 hm7
  go_wp2_with fail
  refine H7.mono ?_
  rintro e w8 ⟨rfl, hb8⟩
  have hm8 := hm7.below hb8
  have hc0' : w8.heap[w5.heap.size]? = some (.cells #[.int .u64 3, .string sB] 31 (0, 0)) := (hb8.block _ (lt_of_heap hc0)).trans hc0
  have g0 : w8.cell? ⟨w5.heap.size, 0, none⟩ = some (.int .u64 3) := cell_of_row w8 _ 0 _ _ _ hc0'
  have g1 : w8.cell? ⟨w5.heap.size, 1, none⟩ = some (.string sB) := cell_of_row w8 _ 1 _ _ _ hc0'
  have H8 : Calls Try.prog 20 #[.pointer (some ⟨w.heap.size, 0, none⟩)] w8 fun e w' => e = .returned (.int .i64 2) ∧ w' = w8 := size_c w8 w.heap.size w.heap.size v3 o3 hm8
  have hq : ∀ w, (binOp .eql 31 (.agg #[.int .u64 3, .string sB]) (.agg #[.int .u64 3, .string ⟨#[98]⟩])).run Try.prog w = .ok (.bool true) w := fun w => eqlItem ⟨3, sB⟩ ⟨3, sB⟩ w
  have HB : Hid (Below w.heap.size w w8) := hbw3.trans ((hb4.mono hbw3.size).trans ((hb5.mono (Nat.le_trans hbw3.size hb4.size)).trans ((hb6.mono (Nat.le_trans hbw3.size (Nat.le_trans hb4.size hb5.size))).trans ((below_drewN (Below.refl _ _) n7).trans (hb8.mono (Nat.le_trans hbw3.size (Nat.le_trans hb4.size (Nat.le_trans hb5.size hb6.size))))))))
  clear hnq H7 hb8 hc0' hc0 hc1 hb6 hb5 hb4 hbw3
  go_wp2_with fail
  refine H8.mono ?_
  rintro e w9 ⟨rfl, rfl⟩
  go_wp2_with fail
  go_ret
  exact ⟨rfl, HB.out⟩
end Go.Proofs.Ytfddpcmlmcohjaa
