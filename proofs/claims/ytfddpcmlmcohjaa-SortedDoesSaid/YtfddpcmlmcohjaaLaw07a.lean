/-
  espalierlaw07: a map that is filled, and the document's rows. Conditions: at most 60 items.
-/
import Derived.Test.YtfddpcmlmcohjaaSorted5
import Derived.Test.YtfddpcmlmcohjaaSame07
import Derived.Test.YtfddpcmlmcohjaaM07b
import Derived.StillTailTactics
namespace Go.Proofs.Ytfddpcmlmcohjaa
open Go.RowKit
set_option linter.unusedVariables false
set_option linter.unusedSimpArgs false
set_option maxHeartbeats 400000
set_option maxRecDepth 100000

/-- Put, whatever the value's length: the map is as put1 says -/
theorem put_any (w : World) (B p : Nat) (v : Value) (l : List Item) (x : Item) (h : MapP w B p v l) (hB : B ≤ w.heap.size) (hl : l.length < 2147483000) :
    Calls Try.prog 34 #[.pointer (some ⟨p, 0, none⟩), .int .u64 x.key, .string x.val] w fun e w' =>
      (∃ r, e = .returned r) ∧ Wrote w B p v (put1 l x) w' := by
  by_cases hs : x.val.size ≤ 64
  · refine (put_c w B p v l x.key x.val h hs hB hl).mono ?_
    rintro e w' ⟨rfl, hw⟩
    refine ⟨⟨_, rfl⟩, ?_⟩
    unfold put1
    rw [if_pos hs]; exact hw
  · refine (put_limit w B p v l x.key x.val h (by omega)).mono ?_
    rintro e w' ⟨rfl, rfl⟩
    refine ⟨⟨_, rfl⟩, ?_⟩
    unfold put1
    rw [if_neg hs]; exact Wrote.same h (Below.refl _ _)

theorem filled_c (w : World) (A : Option Addr) (c : Nat) (l : List Item) (hr : ReadsL Item.enc w w.heap.size A l) (hl : l.length ≤ 60) :
    Calls Try.prog 13 #[.slice A l.length c] w fun e w' => ∃ p v, e = .returned (.pointer (some ⟨p, 0, none⟩)) ∧ MapP w' w.heap.size p v (fillL l) ∧ Below w.heap.size w w' := by
  have HN := new_c w
  go_enter Try.func13, Try.ntmps13
  go_wp2_with fail
  refine HN.mono ?_
  rintro e w0 ⟨rfl, rfl⟩
  clear HN
  have hm0 := new_map w w.heap.size (Nat.le_refl _)
  have hb0 : Below w.heap.size w (w.alloc (.cells #[.slice none 0 0] 79)) := (Below.refl _ _).alloc (Nat.le_refl _) _
  have H0 := Lib.hid (And.intro hm0 hb0)
  clear hm0 hb0
  go_wp2_with fail
  go_loopw [4] (fun i wr => ∃ k : Nat, i = .int .i64 k ∧ k ≤ l.length ∧ (∃ v, MapP wr w.heap.size w.heap.size v (fillL (l.take k))) ∧ Below w.heap.size w wr) (fun i _ => l.length - (intOf i).toNat)
  case atStart => exact ⟨0, rfl, Nat.zero_le _, ⟨_, H0.out.1⟩, H0.out.2⟩
  case round =>
    rename_i wr _
    obtain ⟨k, rfl, hk, ⟨v, hm⟩, hb⟩ := hrel
    by_cases hlt : k < l.length
    · obtain ⟨b, off, rfl, hbk, hx⟩ := (ReadsL.below hr hb).at_ (k := 2) Item.enc_len (by decide) hlt
      have g0 := hx 0 _ rfl
      have g1 := hx 1 _ rfl
      simp only [Nat.add_zero] at g0
      clear hx
      go_wp2
      go_still_tail 11, (by kernel_rfl)
      have hmd : MapP wr.drew w.heap.size w.heap.size v (fillL (l.take k)) := hm.below (Below.refl _ _).drew
      have hfl : (fillL (l.take k)).length ≤ 60 := by
        have := fill_length (l.take k) []
        simp only [List.length_nil, List.length_take] at this
        unfold fillL; omega
      have HP := put_any wr.drew w.heap.size w.heap.size v _ l[k] hmd hb.size (by omega)
      have hfk : put1 (fillL (l.take k)) l[k] = fillL (l.take (k + 1)) := by
        unfold fillL
        rw [List.take_succ_eq_append_getElem hlt, List.foldl_append]; rfl
      have HFK := Lib.hid hfk
      clear hfk
      go_wp2_with fail
      refine HP.mono ?_
      rintro e w2 ⟨⟨r, rfl⟩, v2, hm2, hC, _⟩
      rw [HFK.out] at hm2
      have hb2 : Below w.heap.size w w2 := hb.trans ((Below.refl _ _).drew.trans (hC.below hb.size (by
        rintro k (rfl | hk)
        · exact Nat.le_refl _
        · exact (Own.lt hmd.own k hk).1)))
      clear HP hC
      go_wp2
      exact ⟨⟨k + 1, by go_num, by omega, ⟨_, hm2⟩, hb2⟩, by simp [intOf]; omega⟩
    · obtain rfl : k = l.length := by omega
      rw [List.take_length] at hm
      go_wp2
      go_ret
      exact ⟨_, _, rfl, hm, hb⟩
end Go.Proofs.Ytfddpcmlmcohjaa
