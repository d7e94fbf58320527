/-
  The program's package sorted, function by function: a map that the call owns holds a sorted row of items. Conditions: fewer items than 2^31.
-/
import Derived.Test.YtfddpcmlmcohjaaBsearchE
import Derived.Test.YtfddpcmlmcohjaaDeleteE
namespace Go.Proofs.Ytfddpcmlmcohjaa
open Go.RowKit
set_option linter.unusedVariables false
set_option linter.unusedSimpArgs false
set_option maxHeartbeats 400000
set_option maxRecDepth 100000

theorem isnan_c (x : Int) (w : World) : Calls Try.prog 72 #[.int .u64 x] w fun e w' => e = .returned (.bool false) ∧ w = w' := by
  go_enter Try.func72, Try.ntmps72
  go_wp2
  go_ret
  exact ⟨by simp, rfl⟩
theorem compare_c (x y : Int) (w : World) : Calls Try.prog 67 #[.int .u64 x, .int .u64 y] w fun e w' => e = .returned (.int .i64 (cmp3 x y)) ∧ w = w' := by
  have hx : cmp3 x y = if x < y then -1 else if y < x then 1 else 0 := rfl
  by_cases h1 : x < y
  · have hc : cmp3 x y = -1 := by rw [hx, if_pos h1]
    have HC := Lib.hid hc; clear hc hx
    go_enter Try.func67, Try.ntmps67
    go_wp2_with (go_at_call 72; refine (isnan_c _ _).mono ?_; rintro e w' ⟨rfl, rfl⟩)
    go_ret
    exact ⟨by rw [HC.out]; rfl, rfl⟩
  · by_cases h2 : y < x
    · have hc : cmp3 x y = 1 := by rw [hx, if_neg h1, if_pos h2]
      have HC := Lib.hid hc; clear hc hx
      go_enter Try.func67, Try.ntmps67
      go_wp2_with (go_at_call 72; refine (isnan_c _ _).mono ?_; rintro e w' ⟨rfl, rfl⟩)
      go_ret
      exact ⟨by rw [HC.out]; rfl, rfl⟩
    · have hc : cmp3 x y = 0 := by rw [hx, if_neg h1, if_neg h2]
      have HC := Lib.hid hc; clear hc hx
      go_enter Try.func67, Try.ntmps67
      go_wp2_with (go_at_call 72; refine (isnan_c _ _).mono ?_; rintro e w' ⟨rfl, rfl⟩)
      go_ret
      exact ⟨by rw [HC.out]; rfl, rfl⟩
theorem than_c (x : Item) (key : Int) (w : World) : Calls Try.prog 60 #[.agg #[.int .u64 x.key, .string x.val], .int .u64 key] w fun e w' => e = .returned (.int .i64 (cmp3 x.key key)) ∧ Below w.heap.size w w' := by
  go_enter Try.func60, Try.ntmps60
  go_wp2_with (go_at_call 67; refine (compare_c _ _ _).mono ?_; rintro e w' ⟨rfl, rfl⟩)
  go_ret
  exact ⟨rfl, (Below.refl _ _).alloc (Nat.le_refl _) _⟩

/-- the map at block p, whose field holds the slice v, has the items l -/
structure MapP (w : World) (B p : Nat) (v : Value) (l : List Item) : Prop where
  hdr : w.heap[p]? = some (.cells #[v] 79 (0, 0))
  base : B ≤ p
  own : OwnL Item.enc 2 w B 81 v l
  srt : Srt l
  small : l.length < 2147483640

section
variable {w w' : World} {B p : Nat} {v : Value} {l : List Item}
theorem MapP.cell (h : MapP w B p v l) : w.cell? ⟨p, 0, none⟩ = some v := by rw [cell_of_row w p 0 _ _ _ h.hdr]; rfl
theorem MapP.free (h : MapP w B p v l) : w.frozen? ⟨p, 0, none⟩ = false := by simp [World.frozen?, h.hdr]
theorem MapP.lt (h : MapP w B p v l) : p < w.heap.size := lt_of_heap h.hdr
theorem MapP.ne (h : MapP w B p v l) : ownB v ≠ some p := Own.ne_of_elem h.own h.hdr (by decide)
theorem MapP.keep (h : MapP w B p v l) (hk : ∀ k, k = p ∨ ownB v = some k → w'.heap[k]? = w.heap[k]?) : MapP w' B p v l :=
  ⟨(hk p (.inl rfl)).trans h.hdr, h.base, Own.keep h.own fun g hg => hk g (.inr hg), h.srt, h.small⟩
theorem MapP.below (h : MapP w B p v l) (hb : Below w.heap.size w w') : MapP w' B p v l :=
  h.keep fun k hk => hb.block k (by
    rcases hk with rfl | hk
    · exact h.lt
    · exact (Own.lt h.own k hk).2)
end

theorem find_c (w : World) (B p : Nat) (v : Value) (l : List Item) (key : Int) (h : MapP w B p v l) :
    Calls Try.prog 39 #[.pointer (some ⟨p, 0, none⟩), .int .u64 key] w fun e w' => (e = .returned (.tuple #[.int .i64 (rank l key), .bool (has l key)]) ∧ At l key (rank l key)) ∧ Below w.heap.size w w' := by
  obtain ⟨A, c, rfl, hn, hc⟩ := Own.isSlice h.own
  have hcell := h.cell
  have hsm := h.small
  have HB := bsearchE w A c l (.int .u64 key) (fun x => cmp3 x.key key) (OwnL.reads h.own) (by omega) (fun x _ w1 _ => than_c x key w1)
  have hs := h.srt
  clear h
  go_enter Try.func39, Try.ntmps39
  go_wp2_with (go_at_call 59; refine HB.mono ?_; rintro e w' ⟨i, b, rfl, hi, hb, hsrt, hbel⟩)
  go_ret2
  have hA := hsrt (hs.bs key)
  have hAt : At l key i := ⟨hs, hi, fun x hx => cmp3_neg.1 (hA.1 x hx), fun x hx hlt => by have h1 := hA.2 x hx; have h2 := cmp3_neg.2 hlt; omega⟩
  have hr := hAt.rank
  have hbb : b = has l key := by
    unfold has
    cases hb' : b with
    | true =>
      obtain ⟨x, hx, hz⟩ := hb.1 hb'
      rw [(hAt.present hx (cmp3_zero.1 hz)).2]; rfl
    | false =>
      rw [(hAt.absent fun x hx hz => by rw [hb.2 ⟨x, hx, cmp3_zero.2 hz⟩] at hb'; cases hb').2]; rfl
  subst hbb
  rw [← hr]
  exact ⟨⟨rfl, hAt⟩, hbel⟩
theorem new_c (w : World) : Calls Try.prog 37 #[] w fun e w' => e = .returned (.pointer (some ⟨w.heap.size, 0, none⟩)) ∧ w' = w.alloc (.cells #[.slice none 0 0] 79) := by
  go_enter Try.func37, Try.ntmps37
  go_wp2
  go_ret
  exact ⟨rfl, rfl⟩
theorem new_map (w : World) (B : Nat) (hB : B ≤ w.heap.size) : MapP (w.alloc (.cells #[.slice none 0 0] 79)) B w.heap.size (.slice none 0 0) [] :=
  ⟨heap_alloc_new w _, hB, Own.nil _ _ _ _ _, List.Pairwise.nil, by decide⟩

theorem size_c (w : World) (B p : Nat) (v : Value) (l : List Item) (h : MapP w B p v l) :
    Calls Try.prog 20 #[.pointer (some ⟨p, 0, none⟩)] w fun e w' => e = .returned (.int .i64 l.length) ∧ w' = w := by
  obtain ⟨A, c, rfl, hn, hc⟩ := Own.isSlice h.own
  have hcell := h.cell
  clear h
  go_enter Try.func20, Try.ntmps20
  go_wp2
  go_ret
  exact ⟨rfl, rfl⟩

theorem rank_c (w : World) (B p : Nat) (v : Value) (l : List Item) (key : Int) (h : MapP w B p v l) :
    Calls Try.prog 17 #[.pointer (some ⟨p, 0, none⟩), .int .u64 key] w fun e w' => e = .returned (.int .i64 (rank l key)) ∧ Below w.heap.size w w' := by
  have HF := find_c w B p v l key h
  clear h
  go_enter Try.func17, Try.ntmps17
  go_wp2_with (go_at_call 39; refine HF.mono ?_; rintro e w' ⟨⟨rfl, _⟩, hb⟩)
  go_ret
  exact ⟨rfl, hb⟩

theorem get_c (w : World) (B p : Nat) (v : Value) (l : List Item) (key : Int) (h : MapP w B p v l) :
    Calls Try.prog 33 #[.pointer (some ⟨p, 0, none⟩), .int .u64 key] w fun e w' => e = .returned (.tuple #[.string (got l key), .bool (has l key)]) ∧ Below w.heap.size w w' := by
  have HF := find_c w B p v l key h
  have h0 := h
  obtain ⟨A, c, rfl, hn, hc⟩ := Own.isSlice h.own
  have hsm := h.small
  cases hh : has l key with
  | false =>
    rw [hh] at HF
    have hg : got l key = ByteArray.empty := by
      unfold has at hh; unfold got; cases hq : get l key with
      | none => rfl
      | some x => rw [hq] at hh; cases hh
    have HG := Lib.hid hg
    clear hh hg h0 h
    go_enter Try.func33, Try.ntmps33
    go_wp2_with (go_at_call 39; refine HF.mono ?_; rintro e w' ⟨⟨rfl, _⟩, hb⟩)
    go_ret2
    exact ⟨by rw [HG.out]; rfl, hb⟩
  | true =>
    rw [hh] at HF
    have Hh := Lib.hid hh
    clear hh
    go_enter Try.func33, Try.ntmps33
    go_wp2_with fail
    refine HF.mono ?_
    rintro e w1 ⟨⟨rfl, hAt⟩, hb⟩
    obtain ⟨hi, _, hv⟩ := hAt.found Hh.out
    have hcell := (h.below hb).cell
    obtain ⟨b, off, rfl, _, hx⟩ := (OwnL.reads (h.below hb).own).at_ (k := 2) Item.enc_len (by decide) hi
    have g1 := hx 1 _ rfl
    have HV := Lib.hid hv
    clear hx hAt hv HF h0
    go_wp2
    go_ret2
    exact ⟨by rw [HV.out]; rfl, hb⟩
end Go.Proofs.Ytfddpcmlmcohjaa
