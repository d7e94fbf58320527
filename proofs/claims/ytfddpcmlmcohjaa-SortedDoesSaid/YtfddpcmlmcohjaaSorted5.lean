/-
  The program's package sorted: Min, Max, what is refused, and a nil map. Conditions: fewer items than 2^31.
-/
import Derived.Test.YtfddpcmlmcohjaaSorted4
namespace Go.Proofs.Ytfddpcmlmcohjaa
open Go.RowKit
set_option linter.unusedVariables false
set_option linter.unusedSimpArgs false
set_option maxHeartbeats 400000
set_option maxRecDepth 100000

theorem range_bad (w : World) (B p : Nat) (v : Value) (l : List Item) (lo hi most : Int) (h : MapP w B p v l) (hlh : hi < lo) :
    Calls Try.prog 14 #[.pointer (some ⟨p, 0, none⟩), .int .u64 lo, .int .u64 hi, .int .i64 most] w fun e w' => e = .returned (.tuple #[.slice none 0 0, .int .i64 5]) ∧ w' = w := by
  clear h
  go_enter Try.func14, Try.ntmps14
  go_wp2_with fail
  go_ret2
  exact ⟨rfl, rfl⟩
theorem range_arg (w : World) (B p : Nat) (v : Value) (l : List Item) (lo hi most : Int) (h : MapP w B p v l) (hlh : lo ≤ hi) (hm : most < 0) :
    Calls Try.prog 14 #[.pointer (some ⟨p, 0, none⟩), .int .u64 lo, .int .u64 hi, .int .i64 most] w fun e w' => e = .returned (.tuple #[.slice none 0 0, .int .i64 1]) ∧ w' = w := by
  clear h
  go_enter Try.func14, Try.ntmps14
  go_wp2_with fail
  go_ret2
  exact ⟨rfl, rfl⟩

def AtP (w : World) (x : Item) (b : Bool) (e : Ending) (w' : World) : Prop := e = .returned (.tuple #[.agg #[.int .u64 x.key, .string x.val], .bool b]) ∧ Below w.heap.size w w'

theorem at_none (w : World) (B p : Nat) (v : Value) (l : List Item) (i : Int) (h : MapP w B p v l) (hi : i < 0 ∨ (l.length : Int) ≤ i) :
    Calls Try.prog 40 #[.pointer (some ⟨p, 0, none⟩), .int .i64 i] w (AtP w ⟨0, ByteArray.empty⟩ false) := by
  have bI := buildItem0
  by_cases hn : i < 0
  · go_enter Try.func40, Try.ntmps40
    go_wp2_with fail
    exact bodyPost_ret (v := .tuple #[.agg #[.int .u64 0, .string ⟨#[]⟩], .bool false]) (by simp [results, Try.results40, go_sem]) rfl ⟨rfl, (Below.refl _ _).alloc (Nat.le_refl _) _⟩
  · have hge : (l.length : Int) ≤ i := by omega
    have HS := size_c (w.alloc (.cells #[.int .u64 0, .string ⟨#[]⟩] 31)) B p v l (h.below ((Below.refl _ _).alloc (Nat.le_refl _) _))
    clear hi
    go_enter Try.func40, Try.ntmps40
    go_wp2_with (go_at_call 20; refine HS.mono ?_; rintro e w1 ⟨rfl, rfl⟩)
    exact bodyPost_ret (v := .tuple #[.agg #[.int .u64 0, .string ⟨#[]⟩], .bool false]) (by simp [results, Try.results40, go_sem]) rfl ⟨rfl, (Below.refl _ _).alloc (Nat.le_refl _) _⟩

theorem at_some (w : World) (B p : Nat) (v : Value) (l : List Item) (i : Nat) (h : MapP w B p v l) (hi : i < l.length) :
    Calls Try.prog 40 #[.pointer (some ⟨p, 0, none⟩), .int .i64 i] w (AtP w l[i] true) := by
  have h1 := h.below ((Below.refl _ _).alloc (Nat.le_refl _) (.cells #[.int .u64 0, .string ⟨#[]⟩] 31))
  have HS := size_c (w.alloc (.cells #[.int .u64 0, .string ⟨#[]⟩] 31)) B p v l h1
  obtain ⟨A, c, rfl, hn, hc⟩ := Own.isSlice h.own
  have hcell := h.cell
  obtain ⟨b, off, rfl, hbk, hx⟩ := (OwnL.reads h.own).at_ (k := 2) Item.enc_len (by decide) hi
  have g0 := hx 0 _ rfl
  have g1 := hx 1 _ rfl
  simp only [Nat.add_zero] at g0
  have hpb := h.lt
  go_enter Try.func40, Try.ntmps40
  go_wp2_with (go_at_call 20; refine HS.mono ?_; rintro e w1 ⟨rfl, rfl⟩)
  exact bodyPost_ret (v := .tuple #[.agg #[.int .u64 l[i].key, .string l[i].val], .bool true]) (by simp [results, Try.results40, go_sem]) rfl ⟨rfl, (Below.refl _ _).alloc (Nat.le_refl _) _⟩

def first (l : List Item) : Item := l.head?.getD ⟨0, ByteArray.empty⟩
def last (l : List Item) : Item := l.getLast?.getD ⟨0, ByteArray.empty⟩
def some_ (l : List Item) : Bool := decide (0 < l.length)

theorem first_of {l : List Item} (hp : 0 < l.length) : first l = l[0] ∧ some_ l = true := by
  unfold first some_
  rw [List.head?_eq_getElem?, List.getElem?_eq_getElem hp]
  exact ⟨rfl, by simp [hp]⟩
theorem last_of {l : List Item} (hp : 0 < l.length) : last l = l[l.length - 1] ∧ some_ l = true := by
  unfold last some_
  rw [List.getLast?_eq_getElem?, List.getElem?_eq_getElem (by omega)]
  exact ⟨rfl, by simp [hp]⟩

theorem AtP.from {w w1 : World} {x : Item} {b : Bool} {e : Ending} {w' : World} (hb : Below w.heap.size w w1) (h : AtP w1 x b e w') : AtP w x b e w' :=
  ⟨h.1, hb.trans (h.2.mono hb.size)⟩

theorem min_c (w : World) (B p : Nat) (v : Value) (l : List Item) (h : MapP w B p v l) :
    Calls Try.prog 18 #[.pointer (some ⟨p, 0, none⟩)] w (AtP w (first l) (some_ l)) := by
  have hb1 : Below w.heap.size w (w.alloc (.cells #[.int .u64 0, .string ⟨#[]⟩] 31)) := (Below.refl _ _).alloc (Nat.le_refl _) _
  have h1 := h.below hb1
  have HA : Calls Try.prog 40 #[.pointer (some ⟨p, 0, none⟩), .int .i64 0] (w.alloc (.cells #[.int .u64 0, .string ⟨#[]⟩] 31)) (AtP (w.alloc (.cells #[.int .u64 0, .string ⟨#[]⟩] 31)) (first l) (some_ l)) := by
    by_cases hp : 0 < l.length
    · have := at_some _ B p v l 0 h1 hp
      rw [(first_of hp).1, (first_of hp).2]; exact this
    · have := at_none _ B p v l 0 h1 (.inr (by omega))
      obtain rfl : l = [] := List.eq_nil_of_length_eq_zero (by omega)
      exact this
  have Hb := Lib.hid hb1
  clear h h1 hb1
  go_enter Try.func18, Try.ntmps18
  go_wp2_with fail
  refine HA.mono ?_
  rintro e w1 ⟨rfl, hb⟩
  have hc0 := hb.cell (p := ⟨w.heap.size, 0, none⟩) (by simp)
  have hc1 := hb.cell (p := ⟨w.heap.size, 1, none⟩) (by simp)
  have hf0 := hb.frozen (p := ⟨w.heap.size, 0, none⟩) (by simp)
  have hf1 := hb.frozen (p := ⟨w.heap.size, 1, none⟩) (by simp)
  have hs1 := hb.size
  simp at hc0 hc1 hf0 hf1 hs1
  go_wp2_with fail
  exact bodyPost_ret (v := .tuple #[.agg #[.int .u64 (first l).key, .string (first l).val], .bool (some_ l)]) (by simp [results, Try.results18, go_sem, hc0, hc1]) rfl
    ⟨rfl, ((Hb.out.trans (hb.mono (by simp))).setCell (Nat.le_refl _) _).setCell (Nat.le_refl _) _⟩

theorem max_c (w : World) (B p : Nat) (v : Value) (l : List Item) (h : MapP w B p v l) :
    Calls Try.prog 19 #[.pointer (some ⟨p, 0, none⟩)] w (AtP w (last l) (some_ l)) := by
  have hb1 : Below w.heap.size w (w.alloc (.cells #[.int .u64 0, .string ⟨#[]⟩] 31)) := (Below.refl _ _).alloc (Nat.le_refl _) _
  have h1 := h.below hb1
  have hsm := h.small
  have HS := size_c _ B p v l h1
  have HA : Calls Try.prog 40 #[.pointer (some ⟨p, 0, none⟩), .int .i64 ((l.length : Int) - 1)] (w.alloc (.cells #[.int .u64 0, .string ⟨#[]⟩] 31)) (AtP (w.alloc (.cells #[.int .u64 0, .string ⟨#[]⟩] 31)) (last l) (some_ l)) := by
    by_cases hp : 0 < l.length
    · have := at_some _ B p v l (l.length - 1) h1 (by omega)
      rw [(last_of hp).1, (last_of hp).2, show ((l.length : Int) - 1) = ((l.length - 1 : Nat) : Int) from by omega]; exact this
    · have := at_none _ B p v l ((l.length : Int) - 1) h1 (.inl (by omega))
      obtain rfl : l = [] := List.eq_nil_of_length_eq_zero (by omega)
      exact this
  have Hb := Lib.hid hb1
  clear h h1 hb1
  go_enter Try.func19, Try.ntmps19
  go_wp2_with fail
  refine HS.mono ?_
  rintro e w1 ⟨rfl, rfl⟩
  go_wp2_with fail
  refine HA.mono ?_
  rintro e w1 ⟨rfl, hb⟩
  have hc0 := hb.cell (p := ⟨w.heap.size, 0, none⟩) (by simp)
  have hc1 := hb.cell (p := ⟨w.heap.size, 1, none⟩) (by simp)
  have hf0 := hb.frozen (p := ⟨w.heap.size, 0, none⟩) (by simp)
  have hf1 := hb.frozen (p := ⟨w.heap.size, 1, none⟩) (by simp)
  have hs1 := hb.size
  simp at hc0 hc1 hf0 hf1 hs1
  go_wp2_with fail
  exact bodyPost_ret (v := .tuple #[.agg #[.int .u64 (last l).key, .string (last l).val], .bool (some_ l)]) (by simp [results, Try.results19, go_sem, hc0, hc1]) rfl
    ⟨rfl, ((Hb.out.trans (hb.mono (by simp))).setCell (Nat.le_refl _) _).setCell (Nat.le_refl _) _⟩
end Go.Proofs.Ytfddpcmlmcohjaa
