/-
  The program's package cell, and the document's one: val, Is, IsOp. Conditions: fewer marks than 2^31.
-/
import Derived.Test.YtfddpcmlmcohjaaBsearchM
namespace Go.Proofs.Ytfddpcmlmcohjaa
open Go.RowKit
set_option linter.unusedVariables false
set_option linter.unusedSimpArgs false
set_option maxHeartbeats 1000000
set_option maxRecDepth 100000

theorem emptyB (s : ByteArray) : s.toList.isEmpty = decide (s = ByteArray.empty) := by
  rw [Bool.eq_iff_iff, List.isEmpty_iff, decide_eq_true_eq]
  constructor
  · intro h
    rw [ByteArray.toList_eq] at h
    cases s; simp at h; rw [h]; rfl
  · rintro rfl
    rw [ByteArray.toList_eq]; rfl

theorem val_c (s : ByteArray) (has : Bool) (w : World) (hs : s.size ≤ maxLen) : Calls Try.prog 46 #[.string s, .bool has] w fun e w' => e = .returned (.bool (decide (valOk s has))) ∧ w' = w := by
  unfold maxLen at hs
  unfold valOk
  have HE := Lib.hid (emptyB s)
  cases has
  all_goals by_cases h1 : s.size ≤ 2048
  all_goals
    go_enter Try.func46, Try.ntmps46
    go_wp2
    go_ret
    simp [HE.out, h1]
theorem rval_c (s : ByteArray) (has : Bool) (w : World) (hs : s.size ≤ maxLen) : Calls Try.prog 47 #[.string s, .bool has] w fun e w' => e = .returned (.bool (decide (valOk s has))) ∧ w' = w := by
  unfold maxLen at hs
  unfold valOk
  have HE := Lib.hid (emptyB s)
  cases has
  all_goals by_cases h1 : s.size ≤ 2048
  all_goals
    go_enter Try.func47, Try.ntmps47
    go_wp2
    go_ret
    simp [HE.out, h1]
theorem isAnswer_c (a : Ans) (w : World) : Calls Try.prog 48 #[.agg #[.int .i64 a.code, .int .u64 a.version, .bool a.has, .string a.val]] w fun e w' => e = .returned (.bool (decide (ansOk a))) ∧ Below w.heap.size w w' := by
  unfold ansOk
  have HE := emptyB a.val
  by_cases h1 : a.val = ByteArray.empty
  · rw [decide_eq_true h1] at HE
    by_cases h2 : a.code = 0
    · go_enter Try.func48, Try.ntmps48
      go_wp2
      go_ret
      exact ⟨by simp [h1, h2], (Below.refl _ _).alloc (Nat.le_refl _) _⟩
    · have h2' : (a.code == 0) = false := by simp [h2]
      go_enter Try.func48, Try.ntmps48
      go_wp2
      go_ret
      exact ⟨by simp [h1, h2]; rfl, (Below.refl _ _).alloc (Nat.le_refl _) _⟩
  · rw [decide_eq_false h1] at HE
    go_enter Try.func48, Try.ntmps48
    go_wp2
    go_ret
    exact ⟨by simp [h1], (Below.refl _ _).alloc (Nat.le_refl _) _⟩

def CelV (c : Cel) (A : Option Addr) (k : Nat) : Value := .agg #[.int .u64 c.version, .bool c.has, .string c.val, .slice A c.marks.length k]
/-- what came in as a cell -/
structure CelR (w : World) (A : Option Addr) (k : Nat) (c : Cel) : Prop where
  reads : ReadsL Mark.enc w w.heap.size A c.marks
  le : c.marks.length ≤ k
  cap : k ≤ maxLen
  small : c.marks.length < 2147483000
  vs : c.val.size ≤ maxLen
theorem CelR.below {w w' : World} {A : Option Addr} {k : Nat} {c : Cel} (h : CelR w A k c) (hb : Below w.heap.size w w') : CelR w' A k c := ⟨(h.reads.below hb).more hb.size, h.le, h.cap, h.small, h.vs⟩

theorem ansOk_cases (a : Ans) : (ansOk a ∧ a.val.toList.isEmpty = true ∧ (a.code != 0) = false) ∨ (ansOk a ∧ a.val.toList.isEmpty = true ∧ (a.code != 0) = true ∧ (a.code != 8) = false) ∨ (¬ ansOk a ∧ a.val.toList.isEmpty = false) ∨ (¬ ansOk a ∧ a.val.toList.isEmpty = true ∧ (a.code != 0) = true ∧ (a.code != 8) = true) := by
  unfold ansOk
  rw [emptyB]
  by_cases h1 : a.val = ByteArray.empty <;> by_cases h2 : a.code = 0 <;> by_cases h3 : a.code = 8 <;> simp [h1, h2, h3]
theorem bnot_true {b : Bool} (h : b = true) : (!b) = false := by rw [h]; rfl

theorem isC_c (w : World) (A : Option Addr) (k : Nat) (c : Cel) (h : CelR w A k c) :
    Calls Try.prog 26 #[CelV c A k] w fun e w' => e = .returned (.bool (decide (IsC c))) ∧ Below w.heap.size w w' := by
  obtain ⟨ver, has, val, l⟩ := c
  obtain ⟨hr, hle, hcap, hsm, hvs⟩ := h
  simp only [CelV] at *
  unfold IsC
  simp only
  have HV := fun w => val_c val has w hvs
  obtain ⟨W1, hW1⟩ : ∃ W1, W1 = w.alloc (.cells #[.int .u64 ver, .bool has, .string val, .slice A l.length k] 41) := ⟨_, rfl⟩
  have hb1 : Below w.heap.size w W1 := by rw [hW1]; exact (Below.refl _ _).alloc (Nat.le_refl _) _
  have hx1 : W1.heap[w.heap.size]? = some (.cells #[.int .u64 ver, .bool has, .string val, .slice A l.length k] 41 (0, 0)) := by rw [hW1]; exact heap_alloc_new w _
  unfold maxLen at hcap hvs
  go_enter Try.func26, Try.ntmps26
  go_wp2_with fail
  rw [← hW1]
  go_loopw [3, 10] (fun la i wr => ∃ j : Nat, i = .int .i64 j ∧ la = .int .i64 (lastC l j) ∧ j ≤ l.length ∧ Good (l.take j) ∧ Below W1.heap.size W1 wr) (fun _ i _ => l.length - (intOf i).toNat)
  case atStart => exact ⟨0, rfl, by rw [lastC_zero], Nat.zero_le _, good_zero l, Below.refl _ _⟩
  case round =>
    rename_i wr _
    obtain ⟨j, rfl, rfl, hj, hg, hb⟩ := hrel
    have hbw : Below w.heap.size w wr := hb1.trans (hb.mono hb1.size)
    have hxr := (hb.block _ (lt_of_heap hx1)).trans hx1
    by_cases hlt : j < l.length
    · have HGS := Lib.hid (good_succ hlt hg)
      have HLS := Lib.hid (lastC_succ hlt)
      obtain ⟨b, off, rfl, hbk, hx⟩ := (hr.below hbw).at_ (k := 6) Mark.enc_len (by decide) hlt
      have g0 := hx 0 _ rfl
      have g1 := hx 1 _ rfl
      have g2 := hx 2 _ rfl
      have g3 := hx 3 _ rfl
      have g4 := hx 4 _ rfl
      have g5 := hx 5 _ rfl
      simp only [Nat.add_zero] at g0
      obtain ⟨la, hla⟩ : ∃ la, la = lastC l j := ⟨_, rfl⟩
      rw [← hla] at HGS ⊢
      have HB := Lib.hid hbw
      have HBr := Lib.hid hb
      have HX := Lib.hid hxr
      have HG := Lib.hid hg
      clear hx hla hbw hb hxr hg hx1
      have Hn : Hid (∀ {P : Prop} [Decidable P], ¬ (la < l[j].client ∧ l[j].client ≤ 63 ∧ ansOk l[j].ans) → decide ((Good l) ∧ P) = false) := fun hn => by
        refine decide_eq_false fun h => hn (HGS.out.1 (good_take _ h.1))
      have HC : Hid (la < l[j].client ∧ l[j].client ≤ 63 ∨ ¬ (la < l[j].client ∧ l[j].client ≤ 63)) := Decidable.em _
      have h0 := lastC_ge HG.out
      obtain ⟨d1, hd1⟩ : ∃ d, decide (l[j].client ≤ la) = d := ⟨_, rfl⟩
      obtain ⟨d2, hd2⟩ : ∃ d, decide (63 < l[j].client) = d := ⟨_, rfl⟩
      have HD1 := Lib.hid hd1
      have HD2 := Lib.hid hd2
      cases d1
      all_goals cases d2
      all_goals rcases ansOk_cases l[j].ans with ⟨ha, hv, hc⟩ | ⟨ha, hv, hc, hc8⟩ | ⟨ha, hv⟩ | ⟨ha, hv, hc, hc8⟩
      all_goals
        have HA := Lib.hid ha
        clear ha
        go_wp2_with fail
        first
        | (have e1 := of_decide_eq_false HD1.out
           have e2 := of_decide_eq_false HD2.out
           refine ⟨⟨j + 1, by go_num, by rw [HLS.out], by omega, HGS.out.2 ⟨by omega, by omega, HA.out⟩, ?_⟩, by simp [intOf]; omega⟩
           exact (HBr.out.alloc HBr.out.size _).alloc (by simp; have := HBr.out.size; omega) _)
        | (go_ret
           refine ⟨?_, (HB.out.alloc HB.out.size _).alloc (by simp; have := HB.out.size; omega) _⟩
           have hd1 := HD1.out
           have hd2 := HD2.out
           have ha := HA.out
           simp only [decide_eq_true_eq, decide_eq_false_iff_not] at hd1 hd2
           rw [Hn.out (by rintro ⟨q1, q2, q3⟩; first | omega | exact ha q3)]; rfl)
    · obtain rfl : j = l.length := by omega
      rw [List.take_length] at hg
      have HD : Hid (decide (Good l ∧ valOk val has) = decide (valOk val has)) := by simp [Hid, hg]
      have g1 : wr.cell? ⟨w.heap.size, 1, none⟩ = some (.bool has) := cell_of_row wr _ 1 _ _ _ hxr
      have g2 : wr.cell? ⟨w.heap.size, 2, none⟩ = some (.string val) := cell_of_row wr _ 2 _ _ _ hxr
      have HB := Lib.hid hbw
      clear hg hbw hb hxr hx1
      go_wp2_with fail
      refine (HV _).mono ?_
      rintro e w' ⟨rfl, rfl⟩
      go_wp2_with fail
      go_ret
      exact ⟨by rw [HD.out]; rfl, HB.out⟩
end Go.Proofs.Ytfddpcmlmcohjaa
