/-
  espalierref07.Map: Min, Max. Conditions: fewer items than 2^31.
-/
import Derived.Test.YtfddpcmlmcohjaaRef07b
import Derived.Test.YtfddpcmlmcohjaaSorted5
import Derived.StillTailTactics
namespace Go.Proofs.Ytfddpcmlmcohjaa
open Go.RowKit
set_option linter.unusedVariables false
set_option linter.unusedSimpArgs false
set_option maxHeartbeats 400000
set_option maxRecDepth 100000

theorem rmin_c (w : World) (B p : Nat) (v : Value) (l : List Item) (h : RMap w B p v l) :
    Calls Try.prog 57 #[.pointer (some ⟨p, 0, none⟩)] w (AtP w (first l) (some_ l)) := by
  have bI := buildItemR0
  obtain ⟨A, c, rfl, hn, hc⟩ := Own.isSlice h.own
  have hcell := h.cell
  have hread := OwnL.reads h.own
  have hlt := h.lt
  by_cases hp : 0 < l.length
  · obtain ⟨b, off, rfl, hbk, hx⟩ := hread.at_ (k := 2) Item.enc_len (by decide) hp
    have g0 := hx 0 _ rfl
    have g1 := hx 1 _ rfl
    simp only [Nat.add_zero, Nat.zero_mul] at g0 g1
    rw [(first_of hp).1, (first_of hp).2]
    have hq : ((l.length : Int) == 0) = false := beq_eq_false_iff_ne.2 (by omega)
    clear h hx
    go_enter Try.func57, Try.ntmps57
    go_wp2
    exact bodyPost_ret (v := .tuple #[.agg #[.int .u64 l[0].key, .string l[0].val], .bool true]) (by simp [results, Try.results57, go_sem]) rfl ⟨rfl, (Below.refl _ _).alloc (Nat.le_refl _) _⟩
  · obtain rfl : l = [] := List.eq_nil_of_length_eq_zero (by omega)
    have hq : ((([] : List Item).length : Int) == 0) = true := rfl
    clear h
    go_enter Try.func57, Try.ntmps57
    go_wp2
    exact bodyPost_ret (v := .tuple #[.agg #[.int .u64 0, .string ⟨#[]⟩], .bool false]) (by simp [results, Try.results57, go_sem]) rfl ⟨rfl, (Below.refl _ _).alloc (Nat.le_refl _) _⟩

theorem rmax_c (w : World) (B p : Nat) (v : Value) (l : List Item) (h : RMap w B p v l) :
    Calls Try.prog 58 #[.pointer (some ⟨p, 0, none⟩)] w (AtP w (last l) (some_ l)) := by
  have bI := buildItemR0
  obtain ⟨A, c, rfl, hn, hc⟩ := Own.isSlice h.own
  have hcell := h.cell
  have hread := OwnL.reads h.own
  have hlt := h.lt
  have hsm := h.small
  by_cases hp : 0 < l.length
  · obtain ⟨b, off, rfl, hbk, hx⟩ := hread.at_ (k := 2) Item.enc_len (by decide) (show l.length - 1 < l.length from by omega)
    have g0 := hx 0 _ rfl
    have g1 := hx 1 _ rfl
    simp only [Nat.add_zero] at g0
    rw [(last_of hp).1, (last_of hp).2]
    have hq : ((l.length : Int) == 0) = false := beq_eq_false_iff_ne.2 (by omega)
    have hw1 : IntKind.i64.wrap ((l.length : Int) - 1) = (l.length : Int) - 1 := IntWalk.i64_in _ (by omega)
    have hw2 : (0 : Int) ≤ (l.length : Int) - 1 := by omega
    have hw2' : (1 : Int) ≤ (l.length : Int) := by omega
    have hw3 : (l.length : Int) - 1 < (l.length : Int) := by omega
    have hi1 : ((l.length : Int) - 1).toNat = l.length - 1 := by omega
    clear h hx
    obtain ⟨W1, hW1⟩ : ∃ W1, W1 = w.alloc (.cells #[.int .u64 0, .string ⟨#[]⟩] 31) := ⟨_, rfl⟩
    have hb1 : Below w.heap.size w W1 := by rw [hW1]; exact (Below.refl _ _).alloc (Nat.le_refl _) _
    have hg1 : W1.heap[w.heap.size]? = some (.cells #[.int .u64 0, .string ⟨#[]⟩] 31 (0, 0)) := by rw [hW1]; exact heap_alloc_new w _
    have a0 := (hb1.cell (p := ⟨p, 0, none⟩) hlt).trans hcell
    have a1 := (hb1.cell (p := ⟨b, off + (l.length - 1) * 2, none⟩) hbk).trans g0
    have a2 := (hb1.cell (p := ⟨b, off + (l.length - 1) * 2 + 1, none⟩) hbk).trans g1
    have a3 : W1.cell? ⟨w.heap.size, 0, none⟩ = some (.int .u64 0) := cell_of_row W1 _ 0 _ _ _ hg1
    have a4 : W1.cell? ⟨w.heap.size, 1, none⟩ = some (.string ⟨#[]⟩) := cell_of_row W1 _ 1 _ _ _ hg1
    have a5 : W1.frozen? ⟨w.heap.size, 0, none⟩ = false := by simp [World.frozen?, hg1]
    have a6 : W1.frozen? ⟨w.heap.size, 1, none⟩ = false := by simp [World.frozen?, hg1]
    go_enter Try.func58, Try.ntmps58
    go_wp2
    rw [← hW1]
    have HB := Lib.hid hb1
    clear hW1 hg1 hb1
    go_still_tail 12, (by kernel_rfl)
    go_wp2
    exact bodyPost_ret (v := .tuple #[.agg #[.int .u64 l[l.length - 1].key, .string l[l.length - 1].val], .bool true]) (by simp [results, Try.results58, go_sem, a3, a4, a5, a6]) rfl
      ⟨rfl, (HB.out.drew.setCell (Nat.le_refl _) _).setCell (Nat.le_refl _) _⟩
  · obtain rfl : l = [] := List.eq_nil_of_length_eq_zero (by omega)
    have hq : ((([] : List Item).length : Int) == 0) = true := rfl
    clear h
    go_enter Try.func58, Try.ntmps58
    go_wp2
    exact bodyPost_ret (v := .tuple #[.agg #[.int .u64 0, .string ⟨#[]⟩], .bool false]) (by simp [results, Try.results58, go_sem]) rfl ⟨rfl, (Below.refl _ _).alloc (Nat.le_refl _) _⟩
end Go.Proofs.Ytfddpcmlmcohjaa
