/-
  espalierref17: Same, Big; comparisons of two marks, of two answers. Conditions: fewer marks than 2^31.
-/
import Derived.Test.YtfddpcmlmcohjaaRefC2
namespace Go.Proofs.Ytfddpcmlmcohjaa
open Go.RowKit
set_option linter.unusedVariables false
set_option linter.unusedSimpArgs false
set_option maxHeartbeats 1000000
set_option maxRecDepth 100000

theorem toListB (s t : ByteArray) : (s.toList == t.toList) = decide (s = t) := by
  rw [Bool.eq_iff_iff]
  simp only [beq_iff_eq, decide_eq_true_eq]
  constructor
  · intro h
    rw [ByteArray.toList_eq, ByteArray.toList_eq] at h
    cases s; cases t
    simp at h
    simp [h]
  · rintro rfl; rfl
theorem eqAnsB (x y : Ans) : decide (x = y) = (x.code == y.code && (x.version == y.version && (x.has == y.has && decide (x.val = y.val)))) := by
  cases x; cases y; rw [Bool.eq_iff_iff]; simp
theorem equalAns (x y : Ans) (w : World) (n : Nat) : (Op.equalIn (n + 3) 47 (AnsV x) (AnsV y)).run Try.prog w = .ok (decide (x = y)) w := by
  unfold AnsV
  rw [run_equalIn_agg w (n + 2) 47 _ _ (by kernel_rfl) (by kernel_rfl)]
  simp only [Program.fieldsOf, Try.underlying47]
  rw [eqAnsB, ← toListB]
  simp [Op.eqFields, part, go_sem]
  by_cases h1 : x.code = y.code <;> by_cases h2 : x.version = y.version <;> by_cases h3 : x.has = y.has <;> by_cases h4 : x.val.toList = y.val.toList <;> simp [h1, h2, h3, h4]
theorem neqAns (x y : Ans) (w : World) : (binOp .neq 47 (.agg #[.int .i64 x.code, .int .u64 x.version, .bool x.has, .string x.val]) (.agg #[.int .i64 y.code, .int .u64 y.version, .bool y.has, .string y.val])).run Try.prog w = .ok (.bool (!decide (x = y))) w := by
  have := equalAns x y w 9997
  unfold AnsV at this
  rw [run_neq_struct, this]; rfl
theorem eqlAns (x y : Ans) (w : World) : (binOp .eql 47 (.agg #[.int .i64 x.code, .int .u64 x.version, .bool x.has, .string x.val]) (.agg #[.int .i64 y.code, .int .u64 y.version, .bool y.has, .string y.val])).run Try.prog w = .ok (.bool (decide (x = y))) w := by
  have := equalAns x y w 9997
  unfold AnsV at this
  rw [run_eql_struct, this]; rfl
theorem guardAns : Try.prog.eqGuardType Try.prog.depth 47 = false := by kernel_rfl
theorem eqMarkB (x y : Mark) : decide (x = y) = (x.client == y.client && (x.req == y.req && decide (x.ans = y.ans))) := by
  cases x; cases y; rw [Bool.eq_iff_iff]; simp
theorem equalMark (x y : Mark) (w : World) : (Op.equalIn 10000 55 (.agg #[.int .i64 x.client, .int .u64 x.req, .int .i64 x.ans.code, .int .u64 x.ans.version, .bool x.ans.has, .string x.ans.val]) (.agg #[.int .i64 y.client, .int .u64 y.req, .int .i64 y.ans.code, .int .u64 y.ans.version, .bool y.ans.has, .string y.ans.val])).run Try.prog w = .ok (decide (x = y)) w := by
  rw [run_equalIn_agg w 9999 55 _ _ (by kernel_rfl) (by kernel_rfl)]
  have hA := equalAns x.ans y.ans w 9996
  unfold AnsV at hA
  have hC : Try.prog.cellsOf 47 = 4 := by kernel_rfl
  simp only [Program.fieldsOf, Try.underlying55]
  rw [eqMarkB]
  simp [Op.eqFields, part, go_sem, hC, hA]
  by_cases h1 : x.client = y.client <;> by_cases h2 : x.req = y.req <;> by_cases h3 : x.ans = y.ans <;> simp [h1, h2, h3]
  intro e1 e2 e3 e4
  apply h3
  have h := eqAnsB x.ans y.ans
  rw [← toListB] at h
  simpa [e1, e2, e3, e4] using h
theorem neqMark (x y : Mark) (w : World) : (binOp .neq 55 (.agg #[.int .i64 x.client, .int .u64 x.req, .int .i64 x.ans.code, .int .u64 x.ans.version, .bool x.ans.has, .string x.ans.val]) (.agg #[.int .i64 y.client, .int .u64 y.req, .int .i64 y.ans.code, .int .u64 y.ans.version, .bool y.ans.has, .string y.ans.val])).run Try.prog w = .ok (.bool (!decide (x = y))) w := by
  rw [run_neq_struct, equalMark]; rfl
theorem guardMark : Try.prog.eqGuardType Try.prog.depth 55 = false := by kernel_rfl
theorem takeM_eq {α : Type} {l1 l2 : List α} {k : Nat} (h : l1.take k = l2.take k) (h1 : k < l1.length) (h2 : k < l2.length) (he : l1[k] = l2[k]) : l1.take (k + 1) = l2.take (k + 1) := by
  rw [List.take_succ_eq_append_getElem h1, List.take_succ_eq_append_getElem h2, h, he]

/-- the two blocks of two cells that were passed -/
theorem two_boxes (w : World) (a0 a1 a2 a3 b0 b1 b2 b3 : Value) (t : TypeId) : ∃ W1, (w.alloc (.cells #[a0, a1, a2, a3] t)).alloc (.cells #[b0, b1, b2, b3] t) = W1 ∧ Below w.heap.size w W1 ∧ W1.heap.size = w.heap.size + 2 ∧
    W1.heap[w.heap.size]? = some (.cells #[a0, a1, a2, a3] t (0, 0)) ∧ W1.heap[w.heap.size + 1]? = some (.cells #[b0, b1, b2, b3] t (0, 0)) := by
  refine ⟨_, rfl, ((Below.refl _ _).alloc (Nat.le_refl _) _).alloc (by simp) _, by simp, ?_, ?_⟩
  · rw [Below.heap_alloc _ _ _ (by simp)]; exact heap_alloc_new w _
  · have := heap_alloc_new (w.alloc (.cells #[a0, a1, a2, a3] t)) (.cells #[b0, b1, b2, b3] t)
    simpa using this

theorem same17_c (w : World) (A1 A2 : Option Addr) (k1 k2 : Nat) (c1 c2 : Cel) (h1 : CelR w A1 k1 c1) (h2 : CelR w A2 k2 c2) :
    Calls Try.prog 30 #[CelV c1 A1 k1, CelV c2 A2 k2] w fun e w' => e = .returned (.bool (decide (c1 = c2))) ∧ Below w.heap.size w w' := by
  obtain ⟨v1, x1, s1, l1⟩ := c1
  obtain ⟨v2, x2, s2, l2⟩ := c2
  unfold CelV
  simp only
  obtain ⟨W1, hW1, hb1, hsz, hx1, hx2⟩ := two_boxes w (.int .u64 v1) (.bool x1) (.string s1) (.slice A1 l1.length k1) (.int .u64 v2) (.bool x2) (.string s2) (.slice A2 l2.length k2) 41
  have p0 : W1.cell? ⟨w.heap.size, 0, none⟩ = some (.int .u64 v1) := cell_of_row W1 _ 0 _ _ _ hx1
  have p1 : W1.cell? ⟨w.heap.size, 1, none⟩ = some (.bool x1) := cell_of_row W1 _ 1 _ _ _ hx1
  have p2 : W1.cell? ⟨w.heap.size, 2, none⟩ = some (.string s1) := cell_of_row W1 _ 2 _ _ _ hx1
  have p3 : W1.cell? ⟨w.heap.size, 3, none⟩ = some (.slice A1 l1.length k1) := cell_of_row W1 _ 3 _ _ _ hx1
  have q0 : W1.cell? ⟨w.heap.size + 1, 0, none⟩ = some (.int .u64 v2) := cell_of_row W1 _ 0 _ _ _ hx2
  have q1 : W1.cell? ⟨w.heap.size + 1, 1, none⟩ = some (.bool x2) := cell_of_row W1 _ 1 _ _ _ hx2
  have q2 : W1.cell? ⟨w.heap.size + 1, 2, none⟩ = some (.string s2) := cell_of_row W1 _ 2 _ _ _ hx2
  have q3 : W1.cell? ⟨w.heap.size + 1, 3, none⟩ = some (.slice A2 l2.length k2) := cell_of_row W1 _ 3 _ _ _ hx2
  have hr1 := (h1.below hb1).reads
  have hr2 := (h2.below hb1).reads
  have hsm1 : l1.length < 2147483000 := h1.small
  have hsm2 : l2.length < 2147483000 := h2.small
  have HB := Lib.hid hb1
  have hts := toListB s1 s2
  clear hx1 hx2 hb1 hsz h1 h2
  by_cases hv : v1 = v2
  · by_cases hx : x1 = x2
    · subst hx
      by_cases hs : s1 = s2
      · by_cases hn : l1.length = l2.length
        · have e1 : (v1 != v2) = false := by simp [hv]
          have e3 : (s1.toList == s2.toList) = true := by rw [hts]; simp [hs]
          have e4 : ((l1.length : Int) != (l2.length : Int)) = false := by simp [hn]
          have e5 : (s1.toList != s2.toList) = false := by simp [bne, e3]
          have HQ : Hid (v1 = v2 ∧ x1 = x1 ∧ s1 = s2 ∧ l1.length = l2.length) := ⟨hv, rfl, hs, hn⟩
          have hnq := fun x y w => neqMark x y w
          have hgd := guardMark
          clear hv hs hn hts
          go_enter Try.func30, Try.ntmps30
          go_wp2
          go_loopw [5] (fun i wr => ∃ k : Nat, k ≤ l1.length ∧ i = .int .i64 k ∧ l1.take k = l2.take k ∧ ∃ n, wr = W1.drewN n) (fun i _ => l1.length - (intOf i).toNat)
          case atStart => exact ⟨0, by simp, rfl, rfl, 0, rfl⟩
          case round =>
            obtain ⟨k, hk, rfl, ht, n, rfl⟩ := hrel
            have HT := Lib.hid ht; clear ht
            by_cases hlt : k < l1.length
            · have hlt2 : k < l2.length := by have := HQ.out.2.2.2; omega
              obtain ⟨b1, o1, rfl, hb1, hc1⟩ := hr1.at_ (k := 6) Mark.enc_len (by decide) hlt
              obtain ⟨b2, o2, rfl, hb2, hc2⟩ := hr2.at_ (k := 6) Mark.enc_len (by decide) hlt2
              have g10 := hc1 0 _ rfl
              have g11 := hc1 1 _ rfl
              have g12 := hc1 2 _ rfl
              have g13 := hc1 3 _ rfl
              have g14 := hc1 4 _ rfl
              have g15 := hc1 5 _ rfl
              have g20 := hc2 0 _ rfl
              have g21 := hc2 1 _ rfl
              have g22 := hc2 2 _ rfl
              have g23 := hc2 3 _ rfl
              have g24 := hc2 4 _ rfl
              have g25 := hc2 5 _ rfl
              simp only [Nat.add_zero] at g10 g20
              clear hc1 hc2
              by_cases he : l1[k] = l2[k]
              · have hd : decide (l1[k] = l2[k]) = true := by simp [he]
                have HE := Lib.hid (takeM_eq HT.out hlt hlt2 he)
                clear he
                go_wp2
                go_quiet (fail)
                go_wp2
                exact ⟨⟨k + 1, by omega, by go_num, HE.out, _, rfl⟩, by simp [intOf]; omega⟩
              · have hd : decide (l1[k] = l2[k]) = false := by simp [he]
                have HE : Hid (l1 ≠ l2) := fun e => he (by simp [e])
                clear he
                go_wp2
                go_quiet (fail)
                go_wp2
                go_ret
                refine ⟨by simp [HE.out], ?_⟩
                (repeat (first | with_reducible exact HB.out | with_reducible refine Below.drew ?_ | with_reducible refine below_drewN ?_ _ | with_reducible refine Below.setCell ?_ (by first | (show _ ≤ _; omega) | (simp; omega) | exact Nat.le_refl _ | simp) _ | with_reducible refine Below.alloc ?_ (by first | (show _ ≤ _; omega) | (simp; omega) | simp) _)); done
            · have HE : Hid (l1 = l2) := by
                have e1 : k = l1.length := by omega
                have := HT.out
                rw [List.take_of_length_le (by omega), List.take_of_length_le (by have := HQ.out.2.2.2; omega)] at this
                exact this
              go_wp2
              go_ret
              refine ⟨by obtain ⟨z1, z2, z3, z4⟩ := HQ.out; simp [HE.out, z1, z2, z3], ?_⟩
              (repeat (first | with_reducible exact HB.out | with_reducible refine Below.drew ?_ | with_reducible refine below_drewN ?_ _ | with_reducible refine Below.setCell ?_ (by first | (show _ ≤ _; omega) | (simp; omega) | exact Nat.le_refl _ | simp) _ | with_reducible refine Below.alloc ?_ (by first | (show _ ≤ _; omega) | (simp; omega) | simp) _)); done
        · have e1 : (v1 != v2) = false := by simp [hv]
          have e3 : (s1.toList == s2.toList) = true := by rw [hts]; simp [hs]
          have e4 : ((l1.length : Int) != (l2.length : Int)) = true := by simp; omega
          have e5 : (s1.toList != s2.toList) = false := by simp [bne, e3]
          have HE : Hid (l1 ≠ l2) := fun e => hn (by rw [e])
          clear hv hs hn hts
          go_enter Try.func30, Try.ntmps30
          go_wp2
          go_ret
          refine ⟨by simp [HE.out], ?_⟩
          (repeat (first | with_reducible exact HB.out | with_reducible refine Below.drew ?_ | with_reducible refine below_drewN ?_ _ | with_reducible refine Below.setCell ?_ (by first | (show _ ≤ _; omega) | (simp; omega) | exact Nat.le_refl _ | simp) _ | with_reducible refine Below.alloc ?_ (by first | (show _ ≤ _; omega) | (simp; omega) | simp) _)); done
      · have e1 : (v1 != v2) = false := by simp [hv]
        have e3 : (s1.toList == s2.toList) = false := by rw [hts]; simp [hs]
        have e5 : (s1.toList != s2.toList) = true := by simp [bne, e3]
        have HE : Hid (s1 ≠ s2) := hs
        clear hv hs hts
        go_enter Try.func30, Try.ntmps30
        go_wp2
        go_ret
        refine ⟨by simp [HE.out], ?_⟩
        (repeat (first | with_reducible exact HB.out | with_reducible refine Below.drew ?_ | with_reducible refine below_drewN ?_ _ | with_reducible refine Below.setCell ?_ (by first | (show _ ≤ _; omega) | (simp; omega) | exact Nat.le_refl _ | simp) _ | with_reducible refine Below.alloc ?_ (by first | (show _ ≤ _; omega) | (simp; omega) | simp) _)); done
    · have e1 : (v1 != v2) = false := by simp [hv]
      clear hv hts
      cases x1 <;> cases x2
      · exact absurd rfl hx
      all_goals try exact absurd rfl hx
      all_goals
        go_enter Try.func30, Try.ntmps30
        go_wp2
        go_ret
        refine ⟨by simp, ?_⟩
        (repeat (first | with_reducible exact HB.out | with_reducible refine Below.drew ?_ | with_reducible refine below_drewN ?_ _ | with_reducible refine Below.setCell ?_ (by first | (show _ ≤ _; omega) | (simp; omega) | exact Nat.le_refl _ | simp) _ | with_reducible refine Below.alloc ?_ (by first | (show _ ≤ _; omega) | (simp; omega) | simp) _)); done
  · have e1 : (v1 != v2) = true := by simp [hv]
    have HE : Hid (v1 ≠ v2) := hv
    clear hv hts
    go_enter Try.func30, Try.ntmps30
    go_wp2
    go_ret
    refine ⟨by simp [HE.out], ?_⟩
    (repeat (first | with_reducible exact HB.out | with_reducible refine Below.drew ?_ | with_reducible refine below_drewN ?_ _ | with_reducible refine Below.setCell ?_ (by first | (show _ ≤ _; omega) | (simp; omega) | exact Nat.le_refl _ | simp) _ | with_reducible refine Below.alloc ?_ (by first | (show _ ≤ _; omega) | (simp; omega) | simp) _)); done

theorem big17_c (w : World) (A : Option Addr) (k : Nat) (c : Cel) (hr : ReadsL Mark.enc w w.heap.size A c.marks) (hl : c.marks.length ≤ k) (hk : k ≤ maxLen) (hv : c.val.size ≤ maxLen) :
    Calls Try.prog 21 #[CelV c A k] w fun e w' => (e = .returned (.bool true) ∨ (e = .returned (.bool false) ∧ c.marks.length ≤ 80)) ∧ Below w.heap.size w w' := by
  obtain ⟨v, x, s, l⟩ := c
  unfold CelV
  simp only at *
  obtain ⟨W1, hW1⟩ : ∃ W1, W1 = w.alloc (.cells #[.int .u64 v, .bool x, .string s, .slice A l.length k] 41) := ⟨_, rfl⟩
  have hb1 : Below w.heap.size w W1 := by rw [hW1]; exact (Below.refl _ _).alloc (Nat.le_refl _) _
  have hx1 : W1.heap[w.heap.size]? = some (.cells #[.int .u64 v, .bool x, .string s, .slice A l.length k] 41 (0, 0)) := by rw [hW1]; exact heap_alloc_new w _
  have hW1' := hW1.symm
  have p2 : W1.cell? ⟨w.heap.size, 2, none⟩ = some (.string s) := cell_of_row W1 _ 2 _ _ _ hx1
  have p3 : W1.cell? ⟨w.heap.size, 3, none⟩ = some (.slice A l.length k) := cell_of_row W1 _ 3 _ _ _ hx1
  have hr1 := hr.below hb1
  have HB := Lib.hid hb1
  unfold maxLen at hk hv
  clear hr hx1 hb1 hW1
  go_enter Try.func21, Try.ntmps21
  go_wp2
  go_loop [3, 4] (fun n i => ∃ (j : Nat) (m : Int), i = .int .i64 j ∧ n = .int .i64 m ∧ j ≤ l.length) (fun _ i => l.length - (intOf i).toNat)
  case atStart => exact ⟨0, _, rfl, rfl, Nat.zero_le _⟩
  case round =>
    obtain ⟨j, m, rfl, rfl, hj⟩ := hrel
    by_cases h80 : l.length ≤ 80
    · by_cases hlt : j < l.length
      · obtain ⟨b, off, rfl, hbk, hx⟩ := hr1.at_ (k := 6) Mark.enc_len (by decide) hlt
        have g5 := hx 5 _ rfl
        clear hx
        go_wp2
        exact ⟨⟨j + 1, _, by go_num, rfl, by omega⟩, by simp [intOf]; omega⟩
      · have hd : decide (80 < l.length) = false := by simp; omega
        obtain ⟨d, hd2⟩ : ∃ d, decide (20000 < m) = d := ⟨_, rfl⟩
        have HH := Lib.hid h80
        cases d
        · go_wp2
          go_ret
          refine ⟨by first | rfl | exact .inl rfl | exact .inr ⟨rfl, HH.out⟩ | (simp [hd, hd2, HH.out]; done) | (simp [hd, hd2]; omega), ?_⟩
          (repeat (first | with_reducible exact HB.out | with_reducible refine Below.drew ?_ | with_reducible refine below_drewN ?_ _ | with_reducible refine Below.setCell ?_ (by first | (show _ ≤ _; omega) | (simp; omega) | exact Nat.le_refl _ | simp) _ | with_reducible refine Below.alloc ?_ (by first | (show _ ≤ _; omega) | (simp; omega) | simp) _)); done
        · go_wp2
          go_ret
          refine ⟨by first | rfl | exact .inl rfl | exact .inr ⟨rfl, HH.out⟩ | (simp [hd, hd2, HH.out]; done) | (simp [hd, hd2]; omega), ?_⟩
          (repeat (first | with_reducible exact HB.out | with_reducible refine Below.drew ?_ | with_reducible refine below_drewN ?_ _ | with_reducible refine Below.setCell ?_ (by first | (show _ ≤ _; omega) | (simp; omega) | exact Nat.le_refl _ | simp) _ | with_reducible refine Below.alloc ?_ (by first | (show _ ≤ _; omega) | (simp; omega) | simp) _)); done
    · have hd1 : decide (80 < l.length) = true := by simp; omega
      by_cases hlt : j < l.length
      · go_wp2
        go_ret
        refine ⟨by first | rfl | exact .inl rfl | simp, ?_⟩
        (repeat (first | with_reducible exact HB.out | with_reducible refine Below.drew ?_ | with_reducible refine below_drewN ?_ _ | with_reducible refine Below.setCell ?_ (by first | (show _ ≤ _; omega) | (simp; omega) | exact Nat.le_refl _ | simp) _ | with_reducible refine Below.alloc ?_ (by first | (show _ ≤ _; omega) | (simp; omega) | simp) _)); done
      · go_wp2
        go_ret
        refine ⟨by first | rfl | exact .inl rfl | simp, ?_⟩
        (repeat (first | with_reducible exact HB.out | with_reducible refine Below.drew ?_ | with_reducible refine below_drewN ?_ _ | with_reducible refine Below.setCell ?_ (by first | (show _ ≤ _; omega) | (simp; omega) | exact Nat.le_refl _ | simp) _ | with_reducible refine Below.alloc ?_ (by first | (show _ ≤ _; omega) | (simp; omega) | simp) _)); done
end Go.Proofs.Ytfddpcmlmcohjaa
