/-
  espalierlaw07.step: by the program and by the document one answers the same. Conditions: fewer than 2^31 items.
-/
import Derived.Test.YtfddpcmlmcohjaaRef07c
import Derived.Test.YtfddpcmlmcohjaaLaw07b
import Derived.Test.YtfddpcmlmcohjaaOpen07
namespace Go.Proofs.Ytfddpcmlmcohjaa
open Go.RowKit
set_option linter.unusedVariables false
set_option linter.unusedSimpArgs false
set_option maxHeartbeats 1000000
set_option maxRecDepth 100000

structure Step where
  kind : Int
  key : Int
  val : ByteArray
  hi : Int
  most : Int
def Step.enc (x : Step) : List Value := [.int .i64 x.kind, .int .u64 x.key, .string x.val, .int .u64 x.hi, .int .i64 x.most]
theorem Step.enc_len (x : Step) : x.enc.length = 5 := rfl

theorem RMap.chgM {w w' : World} {B p q : Nat} {v u : Value} {l l0 : List Item} (hr : RMap w B q u l) (hm : MapP w B p v l0) (hc : Chg (fun k => k = p ∨ ownB v = some k) w w') : RMap w' B q u l := by
  refine hr.keep fun k hk => ?_
  have hpq : q ≠ p := by
    rintro rfl
    have := hr.hdr.symm.trans hm.hdr
    injection this with h; injection h with _ h; exact absurd h (by decide)
  rcases hk with rfl | hk
  · refine hc.block k hr.lt ?_
    rintro (rfl | hv)
    · exact hpq rfl
    · exact Own.ne_of_elem hm.own hr.hdr (by decide) hv
  · refine hc.block k (Own.lt hr.own k hk).2 ?_
    rintro (rfl | hv)
    · exact Own.ne_of_elem hr.own hm.hdr (by decide) hk
    · obtain ⟨c1, h1⟩ := Own.elem hr.own k hk
      exact Own.ne_of_elem hm.own h1 (by decide) hv
theorem MapP.chgR {w w' : World} {B p q : Nat} {v u : Value} {l l0 : List Item} (hm : MapP w B p v l0) (hr : RMap w B q u l) (hc : Chg (fun k => k = q) w w') : MapP w' B p v l0 := by
  refine hm.keep fun k hk => ?_
  rcases hk with rfl | hk
  · refine hc.block k hm.lt ?_
    rintro rfl
    have := hr.hdr.symm.trans hm.hdr
    injection this with h; injection h with _ h; exact absurd h (by decide)
  · refine hc.block k (Own.lt hm.own k hk).2 ?_
    rintro rfl
    exact Own.ne_of_elem hm.own hr.hdr (by decide) hk

/-- both maps hold the items l -/
def Both (w : World) (B p q : Nat) (l : List Item) : Prop := (∃ v, MapP w B p v l) ∧ ∃ u, RMap w B q u l
def StepP (B p q : Nat) (l : List Item) (w : World) (e : Ending) (w' : World) : Prop :=
  e = .returned (.bool true) ∧ ∃ l', Both w' B p q l' ∧ l'.length ≤ l.length + 1 ∧ Below B w w'

section
variable {w w' : World} {B p q : Nat} {l l' : List Item}
/-- behind a writing method of the program's map: the two, and a block beside them -/
theorem Both.afterM {v u : Value} {bx : Nat} {o : Obj} (hm : MapP w B p v l) (hr : RMap w B q u l) (hbx : w.heap[bx]? = some o) (hx : bx ≠ p ∧ ownB v ≠ some bx) (hw : Wrote w B p v l' w') (hB : B ≤ w.heap.size) :
    (∃ v', MapP w' B p v' l') ∧ RMap w' B q u l ∧ w'.heap[bx]? = some o ∧ Below B w w' := by
  obtain ⟨v', hm', hC, _⟩ := hw
  refine ⟨⟨v', hm'⟩, hr.chgM hm hC, (hC.block bx (lt_of_heap hbx) ?_).trans hbx, hC.below hB ?_⟩
  · rintro (h | h)
    · exact hx.1 h
    · exact hx.2 h
  · rintro k (rfl | hk)
    · exact hm.base
    · exact (Own.lt hm.own k hk).1
theorem Both.afterR {v u : Value} {l0 : List Item} (hm : MapP w B p v l0) (hr : RMap w B q u l) (hw : RWrote w B q l' w') (hB : B ≤ w.heap.size) :
    MapP w' B p v l0 ∧ (∃ u', RMap w' B q u' l') ∧ Below B w w' := by
  obtain ⟨u', hr', hC⟩ := hw
  exact ⟨hm.chgR hr hC, ⟨u', hr'⟩, hC.below hB (by rintro k rfl; exact hr.base)⟩
end

theorem step0_c (w : World) (B p q : Nat) (l : List Item) (key : Int) (val : ByteArray) (hi most : Int) (h : Both w B p q l) (hB : B ≤ w.heap.size) (hl : l.length < 2147483000) (hs : val.size ≤ 64) :
    Calls Try.prog 38 #[.pointer (some ⟨p, 0, none⟩), .pointer (some ⟨q, 0, none⟩), .agg #[.int .i64 0, .int .u64 key, .string val, .int .u64 hi, .int .i64 most]] w (StepP B p q l w) := by
  obtain ⟨⟨v, hm⟩, u, hr⟩ := h
  obtain ⟨W1, hW1⟩ : ∃ W1, W1 = w.alloc (.cells #[.int .i64 0, .int .u64 key, .string val, .int .u64 hi, .int .i64 most] 71) := ⟨_, rfl⟩
  have hb1 : Below w.heap.size w W1 := by rw [hW1]; exact (Below.refl _ _).alloc (Nat.le_refl _) _
  have hx1 : W1.heap[w.heap.size]? = some (.cells #[.int .i64 0, .int .u64 key, .string val, .int .u64 hi, .int .i64 most] 71 (0, 0)) := by rw [hW1]; exact heap_alloc_new w _
  have hm1 := hm.below hb1
  have hr1 := hr.below hb1
  have hxx : w.heap.size ≠ p ∧ ownB v ≠ some w.heap.size := ⟨by have := hm.lt; omega, fun he => by have := (Own.lt hm.own _ he).2; omega⟩
  have hB1 : B ≤ W1.heap.size := Nat.le_trans hB hb1.size
  have HB1 : Below B w W1 := hb1.mono hB
  have H1 := put_c W1 B p v l key val hm1 hs hB1 hl
  rw [hW1] at H1
  go_enter Try.func38, Try.ntmps38
  go_wp2_with fail
  refine H1.mono ?_
  rw [← hW1]
  rintro e w2 ⟨rfl, hw2⟩
  obtain ⟨⟨v2, hm2⟩, hr2, hx2, hb2⟩ := Both.afterM hm1 hr1 hx1 hxx hw2 hB1
  have g21 : w2.cell? ⟨w.heap.size, 1, none⟩ = some (.int .u64 key) := cell_of_row w2 _ 1 _ _ _ hx2
  have g22 : w2.cell? ⟨w.heap.size, 2, none⟩ = some (.string val) := cell_of_row w2 _ 2 _ _ _ hx2
  have H2 := rput_c w2 B q u l key val hr2 hs (Nat.le_trans hB1 hb2.size) hl
  clear H1 hw2 hm1 hr1 hx1
  go_wp2_with fail
  refine H2.mono ?_
  rintro e w3 ⟨rfl, hw3⟩
  obtain ⟨hm3, hr3, hb3⟩ := Both.afterR hm2 hr2 hw3 (Nat.le_trans hB1 hb2.size)
  have HF : Hid (∃ l', Both w3 B p q l' ∧ l'.length ≤ l.length + 1 ∧ Below B w w3) := ⟨_, ⟨⟨v2, hm3⟩, hr3⟩, putL_length _ _ _, HB1.trans (hb2.trans hb3)⟩
  clear H2 hw3 hm2 hr2 hm3 hr3 hb3 hb2 hx2
  go_wp2_with fail
  go_ret
  exact ⟨rfl, HF.out⟩

theorem step0_lim (w : World) (B p q : Nat) (l : List Item) (key : Int) (val : ByteArray) (hi most : Int) (h : Both w B p q l) (hB : B ≤ w.heap.size) (hl : l.length < 2147483000) (hs : 64 < val.size) :
    Calls Try.prog 38 #[.pointer (some ⟨p, 0, none⟩), .pointer (some ⟨q, 0, none⟩), .agg #[.int .i64 0, .int .u64 key, .string val, .int .u64 hi, .int .i64 most]] w (StepP B p q l w) := by
  obtain ⟨⟨v, hm⟩, u, hr⟩ := h
  obtain ⟨W1, hW1⟩ : ∃ W1, W1 = w.alloc (.cells #[.int .i64 0, .int .u64 key, .string val, .int .u64 hi, .int .i64 most] 71) := ⟨_, rfl⟩
  have hb1 : Below w.heap.size w W1 := by rw [hW1]; exact (Below.refl _ _).alloc (Nat.le_refl _) _
  have hx1 : W1.heap[w.heap.size]? = some (.cells #[.int .i64 0, .int .u64 key, .string val, .int .u64 hi, .int .i64 most] 71 (0, 0)) := by rw [hW1]; exact heap_alloc_new w _
  have hm1 := hm.below hb1
  have hr1 := hr.below hb1
  have hxx : w.heap.size ≠ p ∧ ownB v ≠ some w.heap.size := ⟨by have := hm.lt; omega, fun he => by have := (Own.lt hm.own _ he).2; omega⟩
  have hB1 : B ≤ W1.heap.size := Nat.le_trans hB hb1.size
  have HB1 : Below B w W1 := hb1.mono hB
  have H1 := put_limit W1 B p v l key val hm1 hs
  rw [hW1] at H1
  go_enter Try.func38, Try.ntmps38
  go_wp2_with fail
  refine H1.mono ?_
  rw [← hW1]
  rintro e w2 ⟨rfl, hw2⟩
  have hx2 := hx1
  have hm2 := hm1
  have hr2 := hr1
  have HB2 := HB1
  rw [← hw2] at hx2 hm2 hr2 HB2
  clear hw2
  have g21 : w2.cell? ⟨w.heap.size, 1, none⟩ = some (.int .u64 key) := cell_of_row w2 _ 1 _ _ _ hx2
  have g22 : w2.cell? ⟨w.heap.size, 2, none⟩ = some (.string val) := cell_of_row w2 _ 2 _ _ _ hx2
  have H2 := rput_limit w2 q key val hs
  go_wp2_with fail
  refine H2.mono ?_
  rintro e w3 ⟨rfl, rfl⟩
  have HF : Hid (∃ l', Both w3 B p q l' ∧ l'.length ≤ l.length + 1 ∧ Below B w w3) := ⟨_, ⟨⟨v, hm2⟩, ⟨u, hr2⟩⟩, Nat.le_succ _, HB2⟩
  clear H2 H1 hm1 hr1 hx2 hx1 hm2 hr2 HB2
  go_wp2_with fail
  go_ret
  exact ⟨rfl, HF.out⟩

theorem step1_c (w : World) (B p q : Nat) (l : List Item) (key : Int) (val : ByteArray) (hi most : Int) (h : Both w B p q l) (hB : B ≤ w.heap.size) (hl : l.length < 2147483000) :
    Calls Try.prog 38 #[.pointer (some ⟨p, 0, none⟩), .pointer (some ⟨q, 0, none⟩), .agg #[.int .i64 1, .int .u64 key, .string val, .int .u64 hi, .int .i64 most]] w (StepP B p q l w) := by
  obtain ⟨⟨v, hm⟩, u, hr⟩ := h
  obtain ⟨W1, hW1⟩ : ∃ W1, W1 = w.alloc (.cells #[.int .i64 1, .int .u64 key, .string val, .int .u64 hi, .int .i64 most] 71) := ⟨_, rfl⟩
  have hb1 : Below w.heap.size w W1 := by rw [hW1]; exact (Below.refl _ _).alloc (Nat.le_refl _) _
  have hx1 : W1.heap[w.heap.size]? = some (.cells #[.int .i64 1, .int .u64 key, .string val, .int .u64 hi, .int .i64 most] 71 (0, 0)) := by rw [hW1]; exact heap_alloc_new w _
  have hm1 := hm.below hb1
  have hr1 := hr.below hb1
  have hxx : w.heap.size ≠ p ∧ ownB v ≠ some w.heap.size := ⟨by have := hm.lt; omega, fun he => by have := (Own.lt hm.own _ he).2; omega⟩
  have hB1 : B ≤ W1.heap.size := Nat.le_trans hB hb1.size
  have HB1 : Below B w W1 := hb1.mono hB
  have H1 := drop_c W1 B p v l key hm1
  rw [hW1] at H1
  go_enter Try.func38, Try.ntmps38
  go_wp2_with fail
  refine H1.mono ?_
  rw [← hW1]
  rintro e w2 ⟨rfl, hw2⟩
  obtain ⟨⟨v2, hm2⟩, hr2, hx2, hb2⟩ := Both.afterM hm1 hr1 hx1 hxx hw2 hB1
  have g21 : w2.cell? ⟨w.heap.size, 1, none⟩ = some (.int .u64 key) := cell_of_row w2 _ 1 _ _ _ hx2
  have H2 := rdrop_c w2 B q u l key hr2 (Nat.le_trans hB1 hb2.size)
  clear H1 hw2 hm1 hr1 hx1
  go_wp2_with fail
  refine H2.mono ?_
  rintro e w3 ⟨rfl, hw3⟩
  obtain ⟨hm3, hr3, hb3⟩ := Both.afterR hm2 hr2 hw3 (Nat.le_trans hB1 hb2.size)
  have HF : Hid (∃ l', Both w3 B p q l' ∧ l'.length ≤ l.length + 1 ∧ Below B w w3) := ⟨_, ⟨⟨v2, hm3⟩, hr3⟩, Nat.le_succ_of_le (dropL_length _ _), HB1.trans (hb2.trans hb3)⟩
  clear H2 hw3 hm2 hr2 hm3 hr3 hb3 hb2 hx2
  go_wp2_with fail
  go_ret
  exact ⟨rfl, HF.out⟩

theorem step2_c (w : World) (B p q : Nat) (l : List Item) (key : Int) (val : ByteArray) (hi most : Int) (h : Both w B p q l) (hB : B ≤ w.heap.size) (hl : l.length < 2147483000) :
    Calls Try.prog 38 #[.pointer (some ⟨p, 0, none⟩), .pointer (some ⟨q, 0, none⟩), .agg #[.int .i64 2, .int .u64 key, .string val, .int .u64 hi, .int .i64 most]] w (StepP B p q l w) := by
  obtain ⟨⟨v, hm⟩, u, hr⟩ := h
  obtain ⟨W1, hW1⟩ : ∃ W1, W1 = w.alloc (.cells #[.int .i64 2, .int .u64 key, .string val, .int .u64 hi, .int .i64 most] 71) := ⟨_, rfl⟩
  have hb1 : Below w.heap.size w W1 := by rw [hW1]; exact (Below.refl _ _).alloc (Nat.le_refl _) _
  have hx1 : W1.heap[w.heap.size]? = some (.cells #[.int .i64 2, .int .u64 key, .string val, .int .u64 hi, .int .i64 most] 71 (0, 0)) := by rw [hW1]; exact heap_alloc_new w _
  have hm1 := hm.below hb1
  have hr1 := hr.below hb1
  have hxx : w.heap.size ≠ p ∧ ownB v ≠ some w.heap.size := ⟨by have := hm.lt; omega, fun he => by have := (Own.lt hm.own _ he).2; omega⟩
  have hB1 : B ≤ W1.heap.size := Nat.le_trans hB hb1.size
  have HB1 : Below B w W1 := hb1.mono hB
  have H1 := get_c W1 B p v l key hm1
  rw [hW1] at H1
  go_enter Try.func38, Try.ntmps38
  go_wp2_with fail
  refine H1.mono ?_
  rw [← hW1]
  rintro e w2 ⟨rfl, hb2⟩
  have hm2 := hm1.below hb2
  have hr2 := hr1.below hb2
  have hx2 := (hb2.block _ (lt_of_heap hx1)).trans hx1
  have g21 : w2.cell? ⟨w.heap.size, 1, none⟩ = some (.int .u64 key) := cell_of_row w2 _ 1 _ _ _ hx2
  have H2 := rget_c w2 B q u l key hr2
  clear H1 hm1 hr1 hx1
  go_wp2_with fail
  refine H2.mono ?_
  rintro e w3 ⟨rfl, rfl⟩
  have n1 := new_cell g21
  have hrr : ((rank l key : Int) == (rank l key : Int)) = true := by simp
  go_wp2_with fail
  refine wp_region_new (by kernel_rfl) (by kernel_rfl) ?_
  repeat (go_big_quiet_step (first | (go_at_call 17; exact Calls.new_of (rank_c _ B p v l key (hm2.below (NewW.below _)))) | (go_at_call 55; exact Calls.new_same (rrank_c _ B q u l key (hr2.below (NewW.below _))))))
  refine wpQuiet_nil ?_
  rintro w6 ⟨⟨_, hb6⟩, rfl⟩
  have HF : Hid (∃ l', Both w6 B p q l' ∧ l'.length ≤ l.length + 1 ∧ Below B w w6) := ⟨_, ⟨⟨v, hm2.below hb6⟩, ⟨u, hr2.below hb6⟩⟩, Nat.le_succ _, HB1.trans ((hb2.mono hB1).trans (hb6.mono (Nat.le_trans hB1 hb2.size)))⟩
  clear H2 hm2 hr2 hx2 hb2 hb6
  go_wp2_with fail
  go_ret
  exact ⟨rfl, HF.out⟩

/-- what Range answers -/
def rres (l : List Item) (lo hi most : Int) : List Item × Int := if hi < lo then ([], 5) else if most < 0 then ([], 1) else ((rangeL l lo hi).take most.toNat, 0)
def RangeA (w : World) (l : List Item) (lo hi most : Int) (e : Ending) (w' : World) : Prop :=
  ∃ (A : Option Addr) (c : Nat), e = .returned (.tuple #[.slice A (rres l lo hi most).1.length c, .int .i64 (rres l lo hi most).2]) ∧ ReadsL Item.enc w' w'.heap.size A (rres l lo hi most).1 ∧ Below w.heap.size w w'
theorem range_A (w : World) (B p : Nat) (v : Value) (l : List Item) (lo hi most : Int) (h : MapP w B p v l) (hm : most ≤ 9223372036854775807) :
    Calls Try.prog 14 #[.pointer (some ⟨p, 0, none⟩), .int .u64 lo, .int .u64 hi, .int .i64 most] w (RangeA w l lo hi most) := by
  unfold RangeA rres
  by_cases h1 : hi < lo
  · rw [if_pos h1]
    refine (range_bad w B p v l lo hi most h h1).mono ?_
    rintro e w' ⟨rfl, rfl⟩
    exact ⟨none, 0, rfl, ReadsL.nil, Below.refl _ _⟩
  · rw [if_neg h1]
    by_cases h2 : most < 0
    · rw [if_pos h2]
      refine (range_arg w B p v l lo hi most h (by omega) h2).mono ?_
      rintro e w' ⟨rfl, rfl⟩
      exact ⟨none, 0, rfl, ReadsL.nil, Below.refl _ _⟩
    · rw [if_neg h2]
      obtain ⟨n, rfl⟩ := Int.eq_ofNat_of_zero_le (show 0 ≤ most from by omega)
      refine (range_c w B p v l lo hi n h (by omega) (by omega)).mono ?_
      rintro e w' ⟨v', rfl, hO, hb⟩
      obtain ⟨A, c, rfl, _, _⟩ := Own.isSlice hO
      exact ⟨A, c, rfl, OwnL.reads hO, hb⟩
theorem rrange_A (w : World) (B p : Nat) (v : Value) (l : List Item) (lo hi most : Int) (h : RMap w B p v l) (hm : most ≤ 9223372036854775807) :
    Calls Try.prog 56 #[.pointer (some ⟨p, 0, none⟩), .int .u64 lo, .int .u64 hi, .int .i64 most] w (RangeA w l lo hi most) := by
  unfold RangeA rres
  by_cases h1 : hi < lo
  · rw [if_pos h1]
    refine (rrange_bad w p lo hi most h1).mono ?_
    rintro e w' ⟨rfl, rfl⟩
    exact ⟨none, 0, rfl, ReadsL.nil, Below.refl _ _⟩
  · rw [if_neg h1]
    by_cases h2 : most < 0
    · rw [if_pos h2]
      refine (rrange_arg w p lo hi most (by omega) h2).mono ?_
      rintro e w' ⟨rfl, rfl⟩
      exact ⟨none, 0, rfl, ReadsL.nil, Below.refl _ _⟩
    · rw [if_neg h2]
      obtain ⟨n, rfl⟩ := Int.eq_ofNat_of_zero_le (show 0 ≤ most from by omega)
      refine (rrange_c w B p v l lo hi n h (by omega) (by omega)).mono ?_
      rintro e w' ⟨v', rfl, hO, hb⟩
      obtain ⟨A, c, rfl, _, _⟩ := Own.isSlice hO
      exact ⟨A, c, rfl, OwnL.reads hO, hb⟩
theorem rres_length (l : List Item) (lo hi most : Int) : (rres l lo hi most).1.length ≤ l.length := by
  unfold rres
  split
  · simp
  · split
    · simp
    · exact Nat.le_trans (List.length_take_le' _ _) (List.length_filter_le _ _)

theorem step3_c (w : World) (B p q : Nat) (l : List Item) (key : Int) (val : ByteArray) (hi most : Int) (h : Both w B p q l) (hB : B ≤ w.heap.size) (hl : l.length < 2147483000) (hmost : most ≤ 9223372036854775807) :
    Calls Try.prog 38 #[.pointer (some ⟨p, 0, none⟩), .pointer (some ⟨q, 0, none⟩), .agg #[.int .i64 3, .int .u64 key, .string val, .int .u64 hi, .int .i64 most]] w (StepP B p q l w) := by
  obtain ⟨⟨v, hm⟩, u, hr⟩ := h
  obtain ⟨W1, hW1⟩ : ∃ W1, W1 = w.alloc (.cells #[.int .i64 3, .int .u64 key, .string val, .int .u64 hi, .int .i64 most] 71) := ⟨_, rfl⟩
  have hb1 : Below w.heap.size w W1 := by rw [hW1]; exact (Below.refl _ _).alloc (Nat.le_refl _) _
  have hx1 : W1.heap[w.heap.size]? = some (.cells #[.int .i64 3, .int .u64 key, .string val, .int .u64 hi, .int .i64 most] 71 (0, 0)) := by rw [hW1]; exact heap_alloc_new w _
  have hm1 := hm.below hb1
  have hr1 := hr.below hb1
  have hB1 : B ≤ W1.heap.size := Nat.le_trans hB hb1.size
  have HB1 : Below B w W1 := hb1.mono hB
  have H1 := range_A W1 B p v l key hi most hm1 hmost
  rw [hW1] at H1
  have hrl := rres_length l key hi most
  obtain ⟨R, hR⟩ : ∃ R, R = rres l key hi most := ⟨_, rfl⟩
  unfold RangeA at H1
  rw [← hR] at H1 hrl
  go_enter Try.func38, Try.ntmps38
  go_wp2_with fail
  refine H1.mono ?_
  rw [← hW1]
  rintro e w2 ⟨A2, c2, rfl, hR2, hb2⟩
  have hm2 := hm1.below hb2
  have hr2 := hr1.below hb2
  have hx2 := (hb2.block _ (lt_of_heap hx1)).trans hx1
  have g21 : w2.cell? ⟨w.heap.size, 1, none⟩ = some (.int .u64 key) := cell_of_row w2 _ 1 _ _ _ hx2
  have g23 : w2.cell? ⟨w.heap.size, 3, none⟩ = some (.int .u64 hi) := cell_of_row w2 _ 3 _ _ _ hx2
  have g24 : w2.cell? ⟨w.heap.size, 4, none⟩ = some (.int .i64 most) := cell_of_row w2 _ 4 _ _ _ hx2
  have HB2 := HB1.trans (hb2.mono hB1)
  have H2 := rrange_A w2 B q u l key hi most hr2 hmost
  unfold RangeA at H2
  rw [← hR] at H2
  clear H1 hm1 hr1 hx1 hW1 hb1 HB1 hR
  go_wp2_with fail
  refine H2.mono ?_
  rintro e w3 ⟨A3, c3, rfl, hR3, hb3⟩
  have hm3 := hm2.below hb3
  have hr3 := hr2.below hb3
  have HB3 := HB2.trans (hb3.mono (Nat.le_trans hB1 hb2.size))
  have hR23 := (ReadsL.below hR2 hb3)
  have H3 := same_c A2 A3 c2 c3 _ _ R.1 R.1 w3 hR23 hR3 (by omega) (by omega)
  simp only [decide_true] at H3
  clear H2 hm2 hr2 hx2 hR2 hb3 hb2 HB2
  go_wp2_with fail
  refine H3.mono ?_
  rintro e w4 ⟨rfl, n, rfl⟩
  have HF : Hid (∃ l', Both (w3.drewN n) B p q l' ∧ l'.length ≤ l.length + 1 ∧ Below B w (w3.drewN n)) := ⟨_, ⟨⟨v, hm3.below (below_drewN (Below.refl _ _) n)⟩, ⟨u, hr3.below (below_drewN (Below.refl _ _) n)⟩⟩, Nat.le_succ _, below_drewN HB3 n⟩
  clear H3 hm3 hr3 HB3 hR23 hR3
  go_wp2_with fail
  go_ret
  exact ⟨rfl, HF.out⟩

theorem step4_c (w : World) (B p q : Nat) (l : List Item) (kind key : Int) (val : ByteArray) (hi most : Int) (h : Both w B p q l) (hB : B ≤ w.heap.size) (hl : l.length < 2147483000) (hk : kind < 0 ∨ 3 < kind) :
    Calls Try.prog 38 #[.pointer (some ⟨p, 0, none⟩), .pointer (some ⟨q, 0, none⟩), .agg #[.int .i64 kind, .int .u64 key, .string val, .int .u64 hi, .int .i64 most]] w (StepP B p q l w) := by
  obtain ⟨⟨v, hm⟩, u, hr⟩ := h
  obtain ⟨W1, hW1⟩ : ∃ W1, W1 = w.alloc (.cells #[.int .i64 kind, .int .u64 key, .string val, .int .u64 hi, .int .i64 most] 71) := ⟨_, rfl⟩
  have hb1 : Below w.heap.size w W1 := by rw [hW1]; exact (Below.refl _ _).alloc (Nat.le_refl _) _
  have hm1 := hm.below hb1
  have hr1 := hr.below hb1
  have hB1 : B ≤ W1.heap.size := Nat.le_trans hB hb1.size
  have HB1 : Below B w W1 := hb1.mono hB
  have k0 : (kind == 0) = false := beq_eq_false_iff_ne.2 (by omega)
  have k1 : (kind == 1) = false := beq_eq_false_iff_ne.2 (by omega)
  have k2 : (kind == 2) = false := beq_eq_false_iff_ne.2 (by omega)
  have k3 : (kind == 3) = false := beq_eq_false_iff_ne.2 (by omega)
  have H1 := min_c W1 B p v l hm1
  rw [hW1] at H1
  have hgd := guardItem
  have q1 := fun w => eqlItem (first l) (first l) w
  have q2 := fun w => eqlItem (last l) (last l) w
  simp only [decide_true] at q1 q2
  obtain ⟨x, hx⟩ : ∃ x, x = first l := ⟨_, rfl⟩
  obtain ⟨y, hy⟩ : ∃ y, y = last l := ⟨_, rfl⟩
  obtain ⟨b, hbb⟩ : ∃ b, b = some_ l := ⟨_, rfl⟩
  unfold AtP at H1
  rw [← hx, ← hbb] at H1
  rw [← hx] at q1
  rw [← hy] at q2
  have HX := Lib.hid hx
  have HY := Lib.hid hy
  have HBB := Lib.hid hbb
  clear hx hy hbb
  clear hk
  go_enter Try.func38, Try.ntmps38
  go_wp2_with fail
  refine H1.mono ?_
  rw [← hW1]
  rintro e w2 ⟨rfl, hb2⟩
  have hm2 := hm1.below hb2
  have hr2 := hr1.below hb2
  have HB2 := HB1.trans (hb2.mono hB1)
  clear H1 hm1 hr1 HB1 hW1 hb1
  have hB2 : B ≤ w2.heap.size := Nat.le_trans hB1 hb2.size
  clear hb2 hB1
  go_wp2_with fail
  obtain ⟨W3, hW3⟩ : ∃ W3, W3 = w2.alloc (.cells #[.int .u64 x.key, .string x.val] 31) := ⟨_, rfl⟩
  have hb3 : Below w2.heap.size w2 W3 := by rw [hW3]; exact (Below.refl _ _).alloc (Nat.le_refl _) _
  have ha3 : W3.heap[w2.heap.size]? = some (.cells #[.int .u64 x.key, .string x.val] 31 (0, 0)) := by rw [hW3]; exact heap_alloc_new w2 _
  have hm3 := hm2.below hb3
  have hr3 := hr2.below hb3
  have HB3 := HB2.trans (hb3.mono hB2)
  have hB3 : B ≤ W3.heap.size := Nat.le_trans hB2 hb3.size
  have H2 := rmin_c W3 B q u l hr3
  unfold AtP at H2
  rw [← HX.out, ← HBB.out] at H2
  rw [← hW3]
  clear hW3 hb3 hm2 hr2 HB2 hB2
  refine H2.mono ?_
  rintro e w4 ⟨rfl, hb4⟩
  have ha4 := (hb4.block _ (lt_of_heap ha3)).trans ha3
  have hm4 := hm3.below hb4
  have hr4 := hr3.below hb4
  have HB4 := HB3.trans (hb4.mono hB3)
  have hB4 : B ≤ w4.heap.size := Nat.le_trans hB3 hb4.size
  clear H2 ha3 hb4 hm3 hr3 HB3 hB3
  go_wp2_with fail
  obtain ⟨W5, hW5⟩ : ∃ W5, W5 = w4.alloc (.cells #[.int .u64 x.key, .string x.val] 31) := ⟨_, rfl⟩
  have hb5 : Below w4.heap.size w4 W5 := by rw [hW5]; exact (Below.refl _ _).alloc (Nat.le_refl _) _
  have ha5 := (hb5.block _ (lt_of_heap ha4)).trans ha4
  have hc5 : W5.heap[w4.heap.size]? = some (.cells #[.int .u64 x.key, .string x.val] 31 (0, 0)) := by rw [hW5]; exact heap_alloc_new w4 _
  have hm5 := hm4.below hb5
  have hr5 := hr4.below hb5
  have HB5 := HB4.trans (hb5.mono hB4)
  have hB5 : B ≤ W5.heap.size := Nat.le_trans hB4 hb5.size
  have H3 := max_c W5 B p v l hm5
  unfold AtP at H3
  rw [← HY.out, ← HBB.out] at H3
  rw [← hW5]
  clear hW5 hb5 ha4 hm4 hr4 HB4 hB4
  refine H3.mono ?_
  rintro e w6 ⟨rfl, hb6⟩
  have ha6 := (hb6.block _ (lt_of_heap ha5)).trans ha5
  have hc6 := (hb6.block _ (lt_of_heap hc5)).trans hc5
  have hm6 := hm5.below hb6
  have hr6 := hr5.below hb6
  have HB6 := HB5.trans (hb6.mono hB5)
  have hB6 : B ≤ w6.heap.size := Nat.le_trans hB5 hb6.size
  clear H3 ha5 hc5 hb6 hm5 hr5 HB5 hB5
  go_wp2_with fail
  obtain ⟨W7, hW7⟩ : ∃ W7, W7 = w6.alloc (.cells #[.int .u64 y.key, .string y.val] 31) := ⟨_, rfl⟩
  have hb7 : Below w6.heap.size w6 W7 := by rw [hW7]; exact (Below.refl _ _).alloc (Nat.le_refl _) _
  have ha7 := (hb7.block _ (lt_of_heap ha6)).trans ha6
  have hc7 := (hb7.block _ (lt_of_heap hc6)).trans hc6
  have hd7 : W7.heap[w6.heap.size]? = some (.cells #[.int .u64 y.key, .string y.val] 31 (0, 0)) := by rw [hW7]; exact heap_alloc_new w6 _
  have hm7 := hm6.below hb7
  have hr7 := hr6.below hb7
  have HB7 := HB6.trans (hb7.mono hB6)
  have hB7 : B ≤ W7.heap.size := Nat.le_trans hB6 hb7.size
  have H4 := rmax_c W7 B q u l hr7
  unfold AtP at H4
  rw [← HY.out, ← HBB.out] at H4
  rw [← hW7]
  clear hW7 hb7 ha6 hc6 hm6 hr6 HB6 hB6
  refine H4.mono ?_
  rintro e w8 ⟨rfl, hb8⟩
  have ha8 := (hb8.block _ (lt_of_heap ha7)).trans ha7
  have hc8 := (hb8.block _ (lt_of_heap hc7)).trans hc7
  have hd8 := (hb8.block _ (lt_of_heap hd7)).trans hd7
  have hm8 := hm7.below hb8
  have hr8 := hr7.below hb8
  have HB8 := HB7.trans (hb8.mono hB7)
  have hB8 : B ≤ w8.heap.size := Nat.le_trans hB7 hb8.size
  clear H4 ha7 hc7 hd7 hb8 hm7 hr7 HB7 hB7
  have a0 : w8.cell? ⟨w2.heap.size, 0, none⟩ = some (.int .u64 x.key) := cell_of_row w8 _ 0 _ _ _ ha8
  have a1 : w8.cell? ⟨w2.heap.size, 1, none⟩ = some (.string x.val) := cell_of_row w8 _ 1 _ _ _ ha8
  have c0 : w8.cell? ⟨w4.heap.size, 0, none⟩ = some (.int .u64 x.key) := cell_of_row w8 _ 0 _ _ _ hc8
  have c1 : w8.cell? ⟨w4.heap.size, 1, none⟩ = some (.string x.val) := cell_of_row w8 _ 1 _ _ _ hc8
  have d0 : w8.cell? ⟨w6.heap.size, 0, none⟩ = some (.int .u64 y.key) := cell_of_row w8 _ 0 _ _ _ hd8
  have d1 : w8.cell? ⟨w6.heap.size, 1, none⟩ = some (.string y.val) := cell_of_row w8 _ 1 _ _ _ hd8
  have hla := lt_of_heap ha8
  have hlc := lt_of_heap hc8
  have hld := lt_of_heap hd8
  have hbe : (b == b) = true := by simp
  have HF : Hid (∀ o, ∃ l', Both (w8.alloc o) B p q l' ∧ l'.length ≤ l.length + 1 ∧ Below B w (w8.alloc o)) := fun o => ⟨_, ⟨⟨v, hm8.below ((Below.refl _ _).alloc (Nat.le_refl _) o)⟩, ⟨u, hr8.below ((Below.refl _ _).alloc (Nat.le_refl _) o)⟩⟩, Nat.le_succ _, HB8.alloc hB8 o⟩
  clear ha8 hc8 hd8 hm8 hr8 HB8 HX HY HBB
  go_wp2_with fail
  go_ret
  exact ⟨rfl, HF.out _⟩
end Go.Proofs.Ytfddpcmlmcohjaa
