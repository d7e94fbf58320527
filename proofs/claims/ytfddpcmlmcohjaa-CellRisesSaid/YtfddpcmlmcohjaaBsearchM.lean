/-
  slices.BinarySearchFunc at the element type api.Mark: the place it comes to, whatever the order of the row; in a row on which the comparison rises, the place of the target. Conditions: fewer elements than 2^31.
-/
import Derived.Test.YtfddpcmlmcohjaaChecked
import Derived.Test.YtfddpcmlmcohjaaM17
namespace Go.Proofs.Ytfddpcmlmcohjaa
open Go.RowKit
set_option linter.unusedVariables false
set_option linter.unusedSimpArgs false
set_option maxHeartbeats 400000
set_option maxRecDepth 100000

def BInvM (l : List Mark) (cf : Mark → Int) (a b : Nat) : Prop :=
  a ≤ b ∧ b ≤ l.length ∧ (l.Pairwise (fun x y => cf y < 0 → cf x < 0) → (∀ x ∈ l.take a, cf x < 0) ∧ ∀ x ∈ l.drop b, ¬ cf x < 0)

theorem binv_lowM {l : List Mark} {cf : Mark → Int} {a b h : Nat} (H : BInvM l cf a b) (_h2 : h < b) (hh : h < l.length) (hc : cf l[h] < 0) : BInvM l cf (h + 1) b := by
  refine ⟨by omega, H.2.1, fun hs => ⟨fun x hx => ?_, (H.2.2 hs).2⟩⟩
  obtain ⟨i, hi, rfl⟩ := List.mem_take_iff_getElem.1 hx
  by_cases e : i = h
  · subst e; exact hc
  · exact List.pairwise_iff_getElem.1 hs i h (by omega) hh (by omega) hc
theorem binv_highM {l : List Mark} {cf : Mark → Int} {a b h : Nat} (H : BInvM l cf a b) (h1 : a ≤ h) (h2 : h < b) (hh : h < l.length) (hc : ¬ cf l[h] < 0) : BInvM l cf a h := by
  refine ⟨h1, by omega, fun hs => ⟨(H.2.2 hs).1, fun x hx => ?_⟩⟩
  obtain ⟨i, hi, rfl⟩ := List.mem_drop_iff_getElem.1 hx
  by_cases e : i = 0
  · subst e; exact hc
  · exact fun hn => hc (List.pairwise_iff_getElem.1 hs h (h + i) hh (by omega) (by omega) hn)

def BPostM (l : List Mark) (cf : Mark → Int) (B : Nat) (w : World) (e : Ending) (w' : World) : Prop :=
  ∃ (i : Nat) (b : Bool), e = .returned (.tuple #[.int .i64 i, .bool b]) ∧ i ≤ l.length ∧ (b = true ↔ ∃ x, l[i]? = some x ∧ cf x = 0) ∧
    (l.Pairwise (fun x y => cf y < 0 → cf x < 0) → (∀ x ∈ l.take i, cf x < 0) ∧ ∀ x ∈ l.drop i, ¬ cf x < 0) ∧ Below B w w'

theorem bsearchM (w : World) (A : Option Addr) (c : Nat) (l : List Mark) (tv : Value) (cf : Mark → Int) (hr : ReadsL Mark.enc w w.heap.size A l) (hl : l.length < 2147483648)
    (hcmp : ∀ x ∈ l, ∀ w1 : World, w.heap.size ≤ w1.heap.size → Calls Try.prog 62 #[.agg #[.int .i64 x.client, .int .u64 x.req, .int .i64 x.ans.code, .int .u64 x.ans.version, .bool x.ans.has, .string x.ans.val], tv] w1 fun e w' => e = .returned (.int .i64 (cf x)) ∧ Below w1.heap.size w1 w') :
    Calls Try.prog 61 #[.slice A l.length c, tv, .func (.func 62) #[] #[]] w (BPostM l cf w.heap.size w) := by
  have HC := Lib.hid hcmp
  clear hcmp
  go_enter Try.func61, Try.ntmps61
  go_wp2
  go_loopw [9, 10, 11] (fun i j _ wr => ∃ a b : Nat, i = .int .i64 a ∧ j = .int .i64 b ∧ BInvM l cf a b ∧ Below w.heap.size w wr) (fun i j _ _ => (intOf j).toNat - (intOf i).toNat)
  case atStart => exact ⟨0, l.length, rfl, rfl, ⟨Nat.zero_le _, Nat.le_refl _, fun _ => by simp⟩, Below.refl _ _⟩
  case round =>
    rename_i wr _
    obtain ⟨a, b, rfl, rfl, hI, hb⟩ := hrel
    have ha := hI.1
    have hbl := hI.2.1
    by_cases hlt : a < b
    · have hm : (a + b) / 2 < l.length := by omega
      obtain ⟨bk, off, rfl, hbk, hc⟩ := (ReadsL.below hr hb).at_ (k := 6) Mark.enc_len (by decide) hm
      have g0 := hc 0 _ rfl
      have g1 := hc 1 _ rfl
      have g2 := hc 2 _ rfl
      have g3 := hc 3 _ rfl
      have g4 := hc 4 _ rfl
      have g5 := hc 5 _ rfl
      simp only [Nat.add_zero] at g0
      clear hc
      have hmem := List.getElem_mem hm
      have hs := hb.size
      go_wp2_with (go_at_call 62; refine (HC.out _ hmem _ hs).mono ?_; rintro e w' ⟨rfl, hb'⟩)
      · have hneg : cf l[(a + b) / 2] < 0 := by assumption
        refine ⟨⟨(a + b) / 2 + 1, b, by go_num, rfl, binv_lowM hI (by omega) hm hneg, hb.trans (hb'.mono hs)⟩, by simp [intOf]; omega⟩
      · have hpos : ¬ cf l[(a + b) / 2] < 0 := by omega
        refine ⟨⟨a, (a + b) / 2, rfl, by go_num, binv_highM hI (by omega) (by omega) hm hpos, hb.trans (hb'.mono hs)⟩, by simp [intOf]; omega⟩
    · obtain rfl : a = b := by omega
      by_cases hn : a < l.length
      · obtain ⟨bk, off, rfl, hbk, hc⟩ := (ReadsL.below hr hb).at_ (k := 6) Mark.enc_len (by decide) hn
        have g0 := hc 0 _ rfl
        have g1 := hc 1 _ rfl
        have g2 := hc 2 _ rfl
        have g3 := hc 3 _ rfl
        have g4 := hc 4 _ rfl
        have g5 := hc 5 _ rfl
        simp only [Nat.add_zero] at g0
        clear hc
        have hmem := List.getElem_mem hn
        have hs := hb.size
        by_cases hz : cf l[a] = 0
        · have hz' : (cf l[a] == 0) = true := by simp [hz]
          have HZ := Lib.hid hz
          clear hz
          go_wp2_with (go_at_call 62; refine (HC.out _ hmem _ hs).mono ?_; rintro e w' ⟨rfl, hb'⟩)
          go_ret2
          exact ⟨a, true, rfl, by omega, by simp [List.getElem?_eq_getElem hn, HZ.out], hI.2.2, hb.trans (hb'.mono hs)⟩
        · have hz' : (cf l[a] == 0) = false := by simp [hz]
          have HZ := Lib.hid hz
          clear hz
          go_wp2_with (go_at_call 62; refine (HC.out _ hmem _ hs).mono ?_; rintro e w' ⟨rfl, hb'⟩)
          go_ret2
          exact ⟨a, false, rfl, by omega, by simp [List.getElem?_eq_getElem hn, HZ.out], hI.2.2, hb.trans (hb'.mono hs)⟩
      · go_wp2
        go_ret2
        exact ⟨a, false, rfl, by omega, by simp [List.getElem?_eq_none (Nat.le_of_not_lt hn)], hI.2.2, hb⟩
end Go.Proofs.Ytfddpcmlmcohjaa
