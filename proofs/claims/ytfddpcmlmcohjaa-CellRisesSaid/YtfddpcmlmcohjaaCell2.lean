/-
  The document's package 17: Is. Conditions: fewer marks than 2^31.
-/
import Derived.Test.YtfddpcmlmcohjaaCell1
namespace Go.Proofs.Ytfddpcmlmcohjaa
open Go.RowKit
set_option linter.unusedVariables false
set_option linter.unusedSimpArgs false
set_option maxHeartbeats 1000000
set_option maxRecDepth 100000

theorem lastC_prev {l : List Mark} {j : Nat} (h : j < l.length) (h0 : 0 < j) : lastC l j = l[j - 1].client := by
  obtain ⟨i, rfl⟩ : ∃ i, j = i + 1 := ⟨j - 1, by omega⟩
  exact lastC_succ (by omega)
theorem fiveWays (d1 d2 d3 d4 : Bool) : d1 = true ∨ (d1 = false ∧ d2 = true) ∨ (d1 = false ∧ d2 = false ∧ d3 = true) ∨ (d1 = false ∧ d2 = false ∧ d3 = false ∧ d4 = false) ∨ (d1 = false ∧ d2 = false ∧ d3 = false ∧ d4 = true) := by
  cases d1 <;> cases d2 <;> cases d3 <;> cases d4 <;> simp
theorem risC_c (w : World) (A : Option Addr) (k : Nat) (c : Cel) (h : CelR w A k c) :
    Calls Try.prog 27 #[CelV c A k] w fun e w' => e = .returned (.bool (decide (IsC c))) ∧ Below w.heap.size w w' := by
  obtain ⟨ver, has, val, l⟩ := c
  obtain ⟨hr, hle, hcap, hsm, hvs⟩ := h
  simp only [CelV] at *
  unfold IsC
  simp only
  have HV := fun w => rval_c val has w hvs
  obtain ⟨W1, hW1⟩ : ∃ W1, W1 = w.alloc (.cells #[.int .u64 ver, .bool has, .string val, .slice A l.length k] 41) := ⟨_, rfl⟩
  have hb1 : Below w.heap.size w W1 := by rw [hW1]; exact (Below.refl _ _).alloc (Nat.le_refl _) _
  have hx1 : W1.heap[w.heap.size]? = some (.cells #[.int .u64 ver, .bool has, .string val, .slice A l.length k] 41 (0, 0)) := by rw [hW1]; exact heap_alloc_new w _
  unfold maxLen at hcap hvs
  obtain ⟨vo, hvo⟩ : ∃ b, b = decide (valOk val has) := ⟨_, rfl⟩
  rw [← hvo] at HV
  have HVO := Lib.hid hvo
  clear hvo
  go_enter Try.func27, Try.ntmps27
  go_wp2_with fail
  rw [← hW1]
  clear hW1
  refine (HV _).mono ?_
  rintro e w1 ⟨rfl, rfl⟩
  cases vo with
  | false =>
    have HB := Lib.hid hb1
    go_wp2_with fail
    go_ret
    have := HVO.out
    simp only [Bool.false_eq, decide_eq_false_iff_not] at this
    exact ⟨by simp [this], HB.out⟩
  | true =>
  go_wp2_with fail
  go_loopw [3] (fun i wr => ∃ j : Nat, i = .int .i64 j ∧ j ≤ l.length ∧ Good (l.take j) ∧ Below w1.heap.size w1 wr) (fun i _ => l.length - (intOf i).toNat)
  case atStart => exact ⟨0, rfl, Nat.zero_le _, good_zero l, Below.refl _ _⟩
  case round =>
    rename_i wr _
    obtain ⟨j, rfl, hj, hg, hb⟩ := hrel
    have hbw : Below w.heap.size w wr := hb1.trans (hb.mono hb1.size)
    have hxr := (hb.block _ (lt_of_heap hx1)).trans hx1
    have g13 : wr.cell? ⟨w.heap.size, 3, none⟩ = some (.slice A l.length k) := cell_of_row wr _ 3 _ _ _ hxr
    by_cases hlt : j < l.length
    · have HGS := Lib.hid (good_succ hlt hg)
      have hlp := fun h0 => lastC_prev (j := j) hlt h0
      obtain ⟨b, off, rfl, hbk, hx⟩ := (hr.below hbw).at_ (k := 6) Mark.enc_len (by decide) hlt
      have g0 := hx 0 _ rfl
      have g1 := hx 1 _ rfl
      have g2 := hx 2 _ rfl
      have g3 := hx 3 _ rfl
      have g4 := hx 4 _ rfl
      have g5 := hx 5 _ rfl
      simp only [Nat.add_zero] at g0
      have hz : lastC l 0 = -1 := lastC_zero l
      obtain ⟨la, hla⟩ : ∃ la, la = lastC l j := ⟨_, rfl⟩
      rw [← hla] at HGS
      have Hn : Hid (∀ {P : Prop} [Decidable P], ¬ (la < l[j].client ∧ l[j].client ≤ 63 ∧ ansOk l[j].ans) → decide ((Good l) ∧ P) = false) := fun hn => by
        refine decide_eq_false fun h => hn (HGS.out.1 (good_take _ h.1))
      have hlm := lt_of_heap hxr
      by_cases hj0 : 0 < j
      · obtain ⟨b', off', he', _, hy⟩ := (hr.below hbw).at_ (k := 6) Mark.enc_len (by decide) (show j - 1 < l.length from by omega)
        obtain ⟨rfl, rfl⟩ : b = b' ∧ off = off' := by injection he' with he'; injection he' with h1 h2; exact ⟨h1, h2⟩
        have p0 := hy 0 _ rfl
        simp only [Nat.add_zero, ← hlp hj0] at p0
        rw [← hla] at p0
        have h0 := lastC_ge hg
        rw [← hla] at h0
        have HLA := Lib.hid h0
        have HA := isAnswer_c l[j].ans
        obtain ⟨dA, hA⟩ : ∃ d, decide (ansOk l[j].ans) = d := ⟨_, rfl⟩
        rw [hA] at HA
        have HDA := Lib.hid hA
        have hB2 := hbw.alloc hbw.size (.cells (Mark.enc l[j]).toArray 55)
        have hB3 := hb.alloc hb.size (.cells (Mark.enc l[j]).toArray 55)
        have HB2 := Lib.hid hB2
        have HB3 := Lib.hid hB3
        have HG := Lib.hid hg
        have hnew := heap_alloc_new wr (.cells (Mark.enc l[j]).toArray 55)
        have hold := Below.heap_alloc wr (.cells (Mark.enc l[j]).toArray 55) _ hlm
        obtain ⟨W2, hW2⟩ : ∃ W2, W2 = wr.alloc (.cells (Mark.enc l[j]).toArray 55) := ⟨_, rfl⟩
        have hW2' : wr.alloc (.cells #[.int .i64 l[j].client, .int .u64 l[j].req, .int .i64 l[j].ans.code, .int .u64 l[j].ans.version, .bool l[j].ans.has, .string l[j].ans.val] 55) = W2 := hW2.symm
        have hp0 : W2.cell? ⟨b, off + (j - 1) * 6, none⟩ = some (.int .i64 la) := by
          rw [hW2, Below.cell (Below.alloc (Below.refl wr.heap.size wr) (Nat.le_refl _) _) (show b < wr.heap.size from by omega)]; exact p0
        rw [← hW2] at hnew hold HB2 HB3
        have m0 := new_cell (v := .int .i64 l[j].client) (cell_of_row W2 _ 0 _ _ _ hnew)
        have m1 := new_cell (v := .int .u64 l[j].req) (cell_of_row W2 _ 1 _ _ _ hnew)
        have m2 := new_cell (v := .int .i64 l[j].ans.code) (cell_of_row W2 _ 2 _ _ _ hnew)
        have m3 := new_cell (v := .int .u64 l[j].ans.version) (cell_of_row W2 _ 3 _ _ _ hnew)
        have m4 := new_cell (v := .bool l[j].ans.has) (cell_of_row W2 _ 4 _ _ _ hnew)
        have m5 := new_cell (v := .string l[j].ans.val) (cell_of_row W2 _ 5 _ _ _ hnew)
        have m6 := new_cell hp0
        have m7 := new_cell (v := .slice (some ⟨b, off, none⟩) l.length k) (cell_of_row W2 _ 3 _ _ _ (hold.trans hxr))
        have hw1 : IntKind.i64.wrap ((j : Int) - 1) = (j : Int) - 1 := IntWalk.i64_in _ (by omega)
        have hw2 : (0 : Int) ≤ (j : Int) - 1 := by omega
        have hw3 : (j : Int) - 1 < (l.length : Int) := by omega
        have hw4 : ((j : Int) - 1).toNat = j - 1 := by omega
        have hw5 : (0 : Int) < (j : Int) := by omega
        clear he' hy hx hlp hz hold hnew hxr hb hbw hb1 hx1 hW2 hA hB2 hB3 h0 hla
        obtain ⟨d1, hd1⟩ : ∃ d, decide (l[j].client < 0) = d := ⟨_, rfl⟩
        obtain ⟨d2, hd2⟩ : ∃ d, decide (63 < l[j].client) = d := ⟨_, rfl⟩
        obtain ⟨d3, hd3⟩ : ∃ d, decide (l[j].client ≤ la) = d := ⟨_, rfl⟩
        have HD1 := Lib.hid hd1
        have HD2 := Lib.hid hd2
        have HD3 := Lib.hid hd3
        rcases fiveWays d1 d2 d3 dA with rfl | ⟨rfl, rfl⟩ | ⟨rfl, rfl, rfl⟩ | ⟨rfl, rfl, rfl, rfl⟩ | ⟨rfl, rfl, rfl, rfl⟩
        all_goals
          go_wp2_with fail
          refine wp_region_new (by kernel_rfl) (by kernel_rfl) ?_
          repeat (go_big_quiet_step ((go_at_call 48; exact Calls.new_of (HA _))))
          refine wpQuiet_nil ?_
          rintro w6 ⟨⟨_, hb6⟩, rfl⟩
          clear hw1 hw2 hw3 hw4 hw5
          go_wp2_with fail
          first
          | (have e1 := of_decide_eq_false HD1.out
             have e2 := of_decide_eq_false HD2.out
             have e3 := of_decide_eq_false HD3.out
             have e4 := of_decide_eq_true HDA.out
             refine ⟨⟨j + 1, by go_num, by omega, HGS.out.2 ⟨by omega, by omega, e4⟩, HB3.out.trans (hb6.mono HB3.out.size)⟩, by simp [intOf]; omega⟩)
          | (go_ret
             refine ⟨?_, HB2.out.trans (hb6.mono HB2.out.size)⟩
             have hd1 := HD1.out
             have hd2 := HD2.out
             have hd3 := HD3.out
             have ha := HDA.out
             have hla := HLA.out
             simp only [decide_eq_true_eq, decide_eq_false_iff_not] at hd1 hd2 hd3 ha
             rw [Hn.out (by rintro ⟨q1, q2, q3⟩; first | omega | exact ha q3)]; rfl)
      · obtain rfl : j = 0 := by omega
        rw [show ((0 : Nat) : Int) = 0 from rfl]
        have hgz : decide ((0 : Int) < 0) = false := rfl
        simp only [Nat.zero_mul, Nat.add_zero] at g0 g1 g2 g3 g4 g5
        clear hx hlp
        obtain ⟨x0, hx0⟩ : ∃ x, x = l[0] := ⟨_, rfl⟩
        rw [← hx0] at g0 g1 g2 g3 g4 g5 HGS
        simp only [← hx0] at Hn
        clear hx0
        have h0 := lastC_ge hg
        rw [← hla] at h0
        have hl1 : la = -1 := by rw [hla]; exact hz
        have HL1 := Lib.hid hl1
        clear hl1
        have HLA := Lib.hid h0
        have HA := isAnswer_c x0.ans
        obtain ⟨dA, hA⟩ : ∃ d, decide (ansOk x0.ans) = d := ⟨_, rfl⟩
        rw [hA] at HA
        have HDA := Lib.hid hA
        have hB2 := hbw.alloc hbw.size (.cells (Mark.enc x0).toArray 55)
        have hB3 := hb.alloc hb.size (.cells (Mark.enc x0).toArray 55)
        have HB2 := Lib.hid hB2
        have HB3 := Lib.hid hB3
        have HG := Lib.hid hg
        have hnew := heap_alloc_new wr (.cells (Mark.enc x0).toArray 55)
        have hold := Below.heap_alloc wr (.cells (Mark.enc x0).toArray 55) _ hlm
        obtain ⟨W2, hW2⟩ : ∃ W2, W2 = wr.alloc (.cells (Mark.enc x0).toArray 55) := ⟨_, rfl⟩
        have hW2' : wr.alloc (.cells #[.int .i64 x0.client, .int .u64 x0.req, .int .i64 x0.ans.code, .int .u64 x0.ans.version, .bool x0.ans.has, .string x0.ans.val] 55) = W2 := hW2.symm
        rw [← hW2] at hnew hold HB2 HB3
        have m0 := new_cell (v := .int .i64 x0.client) (cell_of_row W2 _ 0 _ _ _ hnew)
        have m1 := new_cell (v := .int .u64 x0.req) (cell_of_row W2 _ 1 _ _ _ hnew)
        have m2 := new_cell (v := .int .i64 x0.ans.code) (cell_of_row W2 _ 2 _ _ _ hnew)
        have m3 := new_cell (v := .int .u64 x0.ans.version) (cell_of_row W2 _ 3 _ _ _ hnew)
        have m4 := new_cell (v := .bool x0.ans.has) (cell_of_row W2 _ 4 _ _ _ hnew)
        have m5 := new_cell (v := .string x0.ans.val) (cell_of_row W2 _ 5 _ _ _ hnew)
        have m7 := new_cell (v := .slice (some ⟨b, off, none⟩) l.length k) (cell_of_row W2 _ 3 _ _ _ (hold.trans hxr))
        clear hold hnew hxr hb hbw hb1 hx1 hW2 hA hB2 hB3 h0 hla hz
        obtain ⟨d1, hd1⟩ : ∃ d, decide (x0.client < 0) = d := ⟨_, rfl⟩
        obtain ⟨d2, hd2⟩ : ∃ d, decide (63 < x0.client) = d := ⟨_, rfl⟩
        obtain ⟨d3, hd3⟩ : ∃ d, decide (x0.client ≤ la) = d := ⟨_, rfl⟩
        have HD1 := Lib.hid hd1
        have HD2 := Lib.hid hd2
        have HD3 := Lib.hid hd3
        rcases fiveWays d1 d2 d3 dA with rfl | ⟨rfl, rfl⟩ | ⟨rfl, rfl, rfl⟩ | ⟨rfl, rfl, rfl, rfl⟩ | ⟨rfl, rfl, rfl, rfl⟩
        case inr.inr.inl =>
          exfalso
          have e1 := of_decide_eq_false HD1.out
          have e3 := of_decide_eq_true HD3.out
          have e4 := HL1.out
          omega
        all_goals
          go_wp2_with fail
          refine wp_region_new (by kernel_rfl) (by kernel_rfl) ?_
          repeat (go_big_quiet_step ((go_at_call 48; exact Calls.new_of (HA _))))
          refine wpQuiet_nil ?_
          rintro w6 ⟨⟨_, hb6⟩, rfl⟩
          go_wp2_with fail
          first
          | (have e1 := of_decide_eq_false HD1.out
             have e2 := of_decide_eq_false HD2.out
             have e3 := of_decide_eq_false HD3.out
             have e4 := of_decide_eq_true HDA.out
             refine ⟨⟨0 + 1, by go_num, by omega, HGS.out.2 ⟨by omega, by omega, e4⟩, HB3.out.trans (hb6.mono HB3.out.size)⟩, by simp [intOf]; omega⟩)
          | (go_ret
             refine ⟨?_, HB2.out.trans (hb6.mono HB2.out.size)⟩
             have hd1 := HD1.out
             have hd2 := HD2.out
             have hd3 := HD3.out
             have ha := HDA.out
             have hla := HLA.out
             simp only [decide_eq_true_eq, decide_eq_false_iff_not] at hd1 hd2 hd3 ha
             rw [Hn.out (by rintro ⟨q1, q2, q3⟩; first | omega | exact ha q3)]; rfl)
    · obtain rfl : j = l.length := by omega
      rw [List.take_length] at hg
      have hvo := HVO.out
      have HD : Hid (decide (Good l ∧ valOk val has) = true) := by
        simp only [true_eq_decide_iff] at hvo
        simp [Hid, hg, hvo]
      have HB := Lib.hid hbw
      clear hg hbw hb hxr hx1 hvo
      go_wp2_with fail
      go_ret
      exact ⟨by rw [HD.out]; rfl, HB.out⟩
end Go.Proofs.Ytfddpcmlmcohjaa
