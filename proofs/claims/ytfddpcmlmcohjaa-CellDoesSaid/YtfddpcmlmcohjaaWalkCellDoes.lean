/-
  The statement CellDoes returns true for each input. Conditions: none.
-/
import Derived.Test.YtfddpcmlmcohjaaCelled
import Derived.Test.YtfddpcmlmcohjaaRDoC
namespace Go.Proofs.Ytfddpcmlmcohjaa
open Go.RowKit
set_option linter.unusedVariables false
set_option linter.unusedSimpArgs false
set_option maxHeartbeats 4000000
set_option maxRecDepth 100000

theorem rdo_f (w : World) (A : Option Addr) (k : Nat) (c : Cel) (o : Opr) (h : CelR w A k c) (ho : o.val.size ≤ maxLen) :
    Calls Try.prog 24 #[.agg #[.int .u64 c.version, .bool c.has, .string c.val, .slice A c.marks.length k], .agg #[.int .i64 o.client, .int .u64 o.req, .int .i64 o.kind, .int .u64 o.version, .string o.val]] w (DoQ w (doC c o)) := rdo_c w A k c o h ho
theorem ris_f (w : World) (A : Option Addr) (k : Nat) (c : Cel) (h : CelR w A k c) :
    Calls Try.prog 27 #[.agg #[.int .u64 c.version, .bool c.has, .string c.val, .slice A c.marks.length k]] w fun e w' => e = .returned (.bool (decide (IsC c))) ∧ Below w.heap.size w w' := risC_c w A k c h
theorem riso_f (w : World) (o : Opr) (ho : o.val.size ≤ maxLen) :
    Calls Try.prog 29 #[.agg #[.int .i64 o.client, .int .u64 o.req, .int .i64 o.kind, .int .u64 o.version, .string o.val]] w fun e w' => e = .returned (.bool (decide (IsO o))) ∧ Below w.heap.size w w' := risO_c o w ho
theorem own_f (w : World) (A : Option Addr) (k : Nat) (c : Cel) (h : CelR w A k c) :
    Calls Try.prog 22 #[.agg #[.int .u64 c.version, .bool c.has, .string c.val, .slice A c.marks.length k]] w fun e w' => ∃ A' k', e = .returned (.agg #[.int .u64 c.version, .bool c.has, .string c.val, .slice A' c.marks.length k']) ∧ CelR w' A' k' c ∧ Below w.heap.size w w' := rown_c w A k c h
theorem cells5 {w : World} {i : Nat} {a0 a1 a2 a3 a4 : Value} {t : TypeId} (h : w.heap[i]? = some (.cells #[a0, a1, a2, a3, a4] t (0, 0))) :
    w.cell? ⟨i, 0, none⟩ = some a0 ∧ w.cell? ⟨i, 1, none⟩ = some a1 ∧ w.cell? ⟨i, 2, none⟩ = some a2 ∧ w.cell? ⟨i, 3, none⟩ = some a3 ∧ w.cell? ⟨i, 4, none⟩ = some a4 ∧ i < w.heap.size :=
  ⟨cell_of_row w _ 0 _ _ _ h, cell_of_row w _ 1 _ _ _ h, cell_of_row w _ 2 _ _ _ h, cell_of_row w _ 3 _ _ _ h, cell_of_row w _ 4 _ _ _ h, lt_of_heap h⟩
theorem coStart (w : World) (A : Option Addr) (k : Nat) (c : Cel) (o : Opr) : ∃ W1, (w.alloc (.cells #[.int .u64 c.version, .bool c.has, .string c.val, .slice A c.marks.length k] 41)).alloc (.cells #[.int .i64 o.client, .int .u64 o.req, .int .i64 o.kind, .int .u64 o.version, .string o.val] 43) = W1 ∧ Below w.heap.size w W1 ∧
    W1.heap[w.heap.size]? = some (.cells #[.int .u64 c.version, .bool c.has, .string c.val, .slice A c.marks.length k] 41 (0, 0)) ∧ W1.heap[w.heap.size + 1]? = some (.cells #[.int .i64 o.client, .int .u64 o.req, .int .i64 o.kind, .int .u64 o.version, .string o.val] 43 (0, 0)) := by
  refine ⟨_, rfl, ((Below.refl _ _).alloc (Nat.le_refl _) _).alloc (by simp) _, ?_, ?_⟩
  · rw [Below.heap_alloc _ _ _ (by simp)]; exact heap_alloc_new w _
  · have := heap_alloc_new (w.alloc (.cells #[.int .u64 c.version, .bool c.has, .string c.val, .slice A c.marks.length k] 41)) (.cells #[.int .i64 o.client, .int .u64 o.req, .int .i64 o.kind, .int .u64 o.version, .string o.val] 43)
    simpa using this
theorem one_new {w1 w2 : World} {a0 a1 a2 a3 : Value} {t : TypeId} (hb : Below (w1.alloc (.cells #[a0, a1, a2, a3] t)).heap.size (w1.alloc (.cells #[a0, a1, a2, a3] t)) w2) :
    Below w1.heap.size w1 w2 ∧ w2.heap[w1.heap.size]? = some (.cells #[a0, a1, a2, a3] t (0, 0)) := by
  have h1 : Below w1.heap.size w1 (w1.alloc (.cells #[a0, a1, a2, a3] t)) := (Below.refl _ _).alloc (Nat.le_refl _) _
  have x1 := heap_alloc_new w1 (.cells #[a0, a1, a2, a3] t)
  exact ⟨h1.trans (hb.mono h1.size), (hb.block _ (lt_of_heap x1)).trans x1⟩
theorem two_eq {w1 W6 : World} {a0 a1 a2 a3 b0 b1 b2 b3 : Value} {t u : TypeId} (h : (w1.alloc (.cells #[a0, a1, a2, a3] t)).alloc (.cells #[b0, b1, b2, b3] u) = W6) :
    Below w1.heap.size w1 W6 ∧ W6.heap[w1.heap.size]? = some (.cells #[a0, a1, a2, a3] t (0, 0)) ∧ W6.heap[w1.heap.size + 1]? = some (.cells #[b0, b1, b2, b3] u (0, 0)) := by
  subst h
  exact two_new (Below.refl _ _)
theorem new4 {w : World} {i : Nat} {a0 a1 a2 a3 : Value} {t : TypeId} (h : w.heap[i]? = some (.cells #[a0, a1, a2, a3] t (0, 0))) :
    (∀ x : NewW w, x.val.cell? ⟨i, 0, none⟩ = some a0) ∧ (∀ x : NewW w, x.val.cell? ⟨i, 1, none⟩ = some a1) ∧ (∀ x : NewW w, x.val.cell? ⟨i, 2, none⟩ = some a2) ∧ (∀ x : NewW w, x.val.cell? ⟨i, 3, none⟩ = some a3) := by
  obtain ⟨h0, h1, h2, h3, _⟩ := cells4 h
  exact ⟨new_cell h0, new_cell h1, new_cell h2, new_cell h3⟩
theorem new5 {w : World} {i : Nat} {a0 a1 a2 a3 a4 : Value} {t : TypeId} (h : w.heap[i]? = some (.cells #[a0, a1, a2, a3, a4] t (0, 0))) :
    (∀ x : NewW w, x.val.cell? ⟨i, 0, none⟩ = some a0) ∧ (∀ x : NewW w, x.val.cell? ⟨i, 1, none⟩ = some a1) ∧ (∀ x : NewW w, x.val.cell? ⟨i, 2, none⟩ = some a2) ∧ (∀ x : NewW w, x.val.cell? ⟨i, 3, none⟩ = some a3) ∧ (∀ x : NewW w, x.val.cell? ⟨i, 4, none⟩ = some a4) := by
  obtain ⟨h0, h1, h2, h3, h4, _⟩ := cells5 h
  exact ⟨new_cell h0, new_cell h1, new_cell h2, new_cell h3, new_cell h4⟩

theorem walkCellDoes (W : World) (v0 v1 : Value) (i0 : InCel W v0) (i1 : InOpr v1) : Calls Try.prog 5 #[v0, v1] W fun e w' => e = .returned (.bool true) ∧ Below W.heap.size W w' := by
  obtain ⟨A, k, c, rfl, hr, hle, hcap, hvs⟩ := i0
  obtain ⟨o, rfl, ho⟩ := i1
  obtain ⟨W1, hW1, hb1, hc1, ho1⟩ := coStart W A k c o
  have HBG := big_f W1 A k c ((hr.below hb1).more hb1.size) hle hcap hvs
  have HIN : Hid (ReadsL Mark.enc W W.heap.size A c.marks ∧ c.marks.length ≤ k ∧ k ≤ maxLen ∧ c.val.size ≤ maxLen ∧ o.val.size ≤ maxLen) := ⟨hr, hle, hcap, hvs, ho⟩
  obtain ⟨c0, c1, c2, c3, hz0⟩ := cells4 hc1
  have HR := Lib.hid (And.intro hb1 (And.intro hc1 ho1))
  clear hr hle hcap hvs ho hb1 hc1 ho1
  unfold CelV OprV
  go_enter Try.func5, Try.ntmps5
  go_wp2_with fail
  refine HBG.mono ?_
  rintro e w2 ⟨hor, hb2⟩
  obtain ⟨hb1, hc1, ho1⟩ := HR.out
  have hc2 := row_keep hc1 hb2
  have ho2 := row_keep ho1 hb2
  have hB2 := Below.keepb hb1 hb1.size hb2
  clear HR hb1 hc1 ho1 hb2 c0 c1 c2 c3 hz0 HBG hW1
  have HR := Lib.hid (And.intro hB2 (And.intro hc2 ho2))
  obtain ⟨c0, c1, c2, c3, hz0⟩ := cells4 hc2
  obtain ⟨o0, o1, o2, o3, o4, hz1⟩ := cells5 ho2
  clear hc2 ho2 hB2
  rcases hor with rfl | ⟨rfl, h80⟩
  · go_wp2_with fail
    go_ret
    exact ⟨rfl, HR.out.1⟩
  · by_cases h5 : 5000 < o.val.size
    · have hd : decide (5000 < (o.val.size : Int)) = true := by simp; omega
      go_wp2_with fail
      go_ret
      exact ⟨rfl, HR.out.1⟩
    · have hd : decide (5000 < (o.val.size : Int)) = false := by simp; omega
      have HC : Hid (CelR W A k c) := ⟨HIN.out.1, HIN.out.2.1, HIN.out.2.2.1, by omega, HIN.out.2.2.2.1⟩
      have HO := own_f w2 A k c (HC.out.below HR.out.1)
      clear h80 h5
      go_wp2_with fail
      refine HO.mono ?_
      rintro e w3 ⟨A3, k3, rfl, hR3, hb3⟩
      obtain ⟨hB2, hc2, ho2⟩ := HR.out
      have hc3 := row_keep hc2 hb3
      have ho3 := row_keep ho2 hb3
      have hB3 := Below.keepb hB2 hB2.size hb3
      clear HR hB2 hc2 ho2 hb3 c0 c1 c2 c3 hz0 o0 o1 o2 o3 o4 hz1 HO hd
      have HR := Lib.hid (And.intro hB3 (And.intro hc3 (And.intro ho3 hR3)))
      obtain ⟨c0, c1, c2, c3, hz0⟩ := cells4 hc3
      obtain ⟨o0, o1, o2, o3, o4, hz1⟩ := cells5 ho3
      clear hc3 ho3 hB3 hR3
      have HD := fun w h => do_f w A k c o (HC.out.below h) HIN.out.2.2.2.2
      have HE := fun w h => rdo_f w A3 k3 c o h HIN.out.2.2.2.2
      obtain ⟨⟨dc, dx, dp, de⟩, hdo⟩ : ∃ r, doC c o = r := ⟨_, rfl⟩
      rw [hdo] at HD HE
      clear hdo
      go_wp2_with fail
      refine (HD _ (Below.alloc HR.out.1 HR.out.1.size _)).mono ?_
      rintro e w4 ⟨A4, k4, rfl, hR4, hb4⟩
      obtain ⟨hB3, hc3, ho3, hR3⟩ := HR.out
      obtain ⟨hb4, hw4⟩ := one_new hb4
      have hc4 := row_keep hc3 hb4
      have ho4 := row_keep ho3 hb4
      have hB4 := Below.keepb hB3 hB3.size hb4
      have hR3 := hR3.below hb4
      clear HR hB3 hc3 ho3 hb4 c0 c1 c2 c3 hz0 o0 o1 o2 o3 o4 hz1 HD
      have HR := Lib.hid (And.intro hB4 (And.intro hc4 (And.intro ho4 (And.intro hw4 (And.intro hR3 hR4)))))
      obtain ⟨c0, c1, c2, c3, hz0⟩ := cells4 hc4
      obtain ⟨o0, o1, o2, o3, o4, hz1⟩ := cells5 ho4
      obtain ⟨w0, w1, w2', w3', hz2⟩ := cells4 hw4
      clear hc4 ho4 hB4 hR3 hR4 hw4
      go_wp2_with fail
      refine (HE _ (HR.out.2.2.2.2.1.below (Below.alloc ((Below.refl w4.heap.size w4).alloc (Nat.le_refl _) _) (by simp) _))).mono ?_
      rintro e w5 ⟨A5, k5, rfl, hR5, hb5⟩
      obtain ⟨hB4, hc4, ho4, hw4, hR3, hR4⟩ := HR.out
      obtain ⟨hb5, ha5, hx5⟩ := two_new hb5
      have hc5 := row_keep hc4 hb5
      have ho5 := row_keep ho4 hb5
      have hw5 := row_keep hw4 hb5
      have hB5 := Below.keepb hB4 hB4.size hb5
      have hR3 := hR3.below hb5
      have hR4 := hR4.below hb5
      clear HR hB4 hc4 ho4 hw4 hb5 c0 c1 c2 c3 hz0 o0 o1 o2 o3 o4 hz1 w0 w1 w2' w3' hz2 HE
      have HR := Lib.hid (And.intro hB5 (And.intro hc5 (And.intro ho5 (And.intro hw5 (And.intro ha5 (And.intro hx5 (And.intro hR3 (And.intro hR4 hR5))))))))
      clear hB5 hc5 ho5 hw5 ha5 hx5 hR3 hR4 hR5
      go_wp2_with fail
      generalize hW6 : (w5.alloc (.cells #[_, _, _, _] _)).alloc (.cells #[_, _, _, _] _) = W6
      obtain ⟨hb6, hq6, hy6⟩ := two_eq hW6
      obtain ⟨hB5, hc5, ho5, hw5, ha5, hx5, hR3, hR4, hR5⟩ := HR.out
      have hB6 := Below.keepb hB5 hB5.size hb6
      obtain ⟨c0, c1, c2, c3⟩ := new4 (row_keep hc5 hb6)
      obtain ⟨o0, o1, o2, o3, o4⟩ := new5 (row_keep ho5 hb6)
      obtain ⟨w0, w1, w2', w3'⟩ := new4 (row_keep hw5 hb6)
      obtain ⟨a0, a1, a2, a3⟩ := new4 (row_keep ha5 hb6)
      obtain ⟨x0, x1, x2, x3⟩ := new4 (row_keep hx5 hb6)
      obtain ⟨q0, q1, q2, q3⟩ := new4 hq6
      obtain ⟨y0, y1, y2, y3⟩ := new4 hy6
      have hR3 := hR3.below hb6
      have hR4 := hR4.below hb6
      have hR5 := hR5.below hb6
      have hRc := HC.out.below hB6
      obtain ⟨ic, hic⟩ : ∃ d, decide (IsC c) = d := ⟨_, rfl⟩
      obtain ⟨io, hio⟩ : ∃ d, decide (IsO o) = d := ⟨_, rfl⟩
      have K1 : ∀ x : NewW W6, Calls Try.prog 25 #[] x.val _ := fun x => Calls.new_of (celled_c x.val)
      have K2 : ∀ x : NewW W6, _ := fun x => Calls.new_of (is_f x.val A k c (hRc.below x.below))
      have K3 : ∀ x : NewW W6, _ := fun x => Calls.new_of (ris_f x.val A k c (hRc.below x.below))
      have K4 : ∀ x : NewW W6, _ := fun x => Calls.new_of (iso_f x.val o HIN.out.2.2.2.2)
      have K5 : ∀ x : NewW W6, _ := fun x => Calls.new_of (riso_f x.val o HIN.out.2.2.2.2)
      have K6 : ∀ x : NewW W6, _ := fun x => Calls.new_of (same_f x.val A4 A5 k4 k5 dc dc (hR4.below x.below) (hR5.below x.below))
      have K7 : ∀ x : NewW W6, _ := fun x => Calls.new_of (same_f x.val A A3 k k3 c c (hRc.below x.below) (hR3.below x.below))
      rw [hic] at K2 K3
      rw [hio] at K4 K5
      rw [decide_eq_true rfl] at K6 K7
      have e1 := fun w => (eqlAns dx dx w).trans (by rw [decide_eq_true rfl])
      have hgd := guardAns
      have HB := Lib.hid hB6
      clear hW6 hb6 hq6 hy6 hB5 hc5 ho5 hw5 ha5 hx5 hR3 hR4 hR5 hRc hB6 HR HC HIN hic hio
      refine wp_region_new (by kernel_rfl) (by kernel_rfl) ?_
      repeat (go_big_quiet_step (first | (go_at_call 25; with_reducible exact K1 _) | (go_at_call 26; with_reducible exact K2 _) | (go_at_call 27; with_reducible exact K3 _) | (go_at_call 28; with_reducible exact K4 _) | (go_at_call 29; with_reducible exact K5 _) | (go_at_call 30; with_reducible exact K6 _) | (go_at_call 30; with_reducible exact K7 _)))
      refine wpQuiet_nil ?_
      rintro _ ⟨⟨w7, hb7⟩, rfl⟩
      have HB7 := Lib.hid (Below.keepb HB.out HB.out.size hb7)
      clear hb7 HB
      go_wp2_with fail
      go_ret
      exact ⟨by simp, HB7.out⟩
end Go.Proofs.Ytfddpcmlmcohjaa
