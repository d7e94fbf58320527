/-
  espalierref17.Do: refusals, a get, an operation that was done before. Conditions: fewer marks than 2^31.
-/
import Derived.Test.YtfddpcmlmcohjaaRefC3
namespace Go.Proofs.Ytfddpcmlmcohjaa
open Go.RowKit
set_option linter.unusedVariables false
set_option linter.unusedSimpArgs false
set_option maxHeartbeats 2000000
set_option maxRecDepth 100000

theorem DoF.keep {w w' : World} {n : Nat} {A : Option Addr} {k : Nat} {c : Cel} {o : Opr} (h : DoF w n A k c o) (hk : ∀ i, i < 4 → w'.heap[n + i]? = w.heap[n + i]?) : DoF w' n A k c o :=
  ⟨(hk 0 (by decide)).trans h.b0, (hk 1 (by decide)).trans h.b1, (hk 2 (by decide)).trans h.b2, (hk 3 (by decide)).trans h.b3⟩
theorem DoF.alloc {w : World} {n : Nat} {A : Option Addr} {k : Nat} {c : Cel} {o : Opr} (h : DoF w n A k c o) (x : Obj) : DoF (w.alloc x) n A k c o :=
  h.keep fun i hi => Below.heap_alloc _ _ _ (by have := lt_of_heap h.b3; omega)
/-- four cells of another block, stored -/
theorem DoF.set4 {w : World} {n : Nat} {A : Option Addr} {k : Nat} {c : Cel} {o : Opr} (h : DoF w n A k c o) {b : Nat} (hb : n + 3 < b) (v0 v1 v2 v3 : Value) :
    DoF ((((w.setCell ⟨b, 0, none⟩ v0).setCell ⟨b, 1, none⟩ v1).setCell ⟨b, 2, none⟩ v2).setCell ⟨b, 3, none⟩ v3) n A k c o :=
  h.keep fun i hi => by rw [heap_set_other _ _ _ _ _ (by omega), heap_set_other _ _ _ _ _ (by omega), heap_set_other _ _ _ _ _ (by omega), heap_set_other _ _ _ _ _ (by omega)]
theorem heap_set4 (w : World) (b : Nat) (a0 a1 a2 a3 v0 v1 v2 v3 : Value) (t : TypeId) (m : Nat × Nat) (h : w.heap[b]? = some (.cells #[a0, a1, a2, a3] t m)) :
    ((((w.setCell ⟨b, 0, none⟩ v0).setCell ⟨b, 1, none⟩ v1).setCell ⟨b, 2, none⟩ v2).setCell ⟨b, 3, none⟩ v3).heap[b]? = some (.cells #[v0, v1, v2, v3] t m) := by
  have h1 := heap_set_row w b 0 _ v0 _ _ h
  have h2 := heap_set_row _ b 1 _ v1 _ _ h1
  have h3 := heap_set_row _ b 2 _ v2 _ _ h2
  exact heap_set_row _ b 3 _ v3 _ _ h3
theorem RdoHat {w : World} {A : Option Addr} {k : Nat} {c : Cel} (h : CelR w A k c) (cl : Int) : ∀ w4, Below w.heap.size w w4 → Calls Try.prog 44 #[.slice A c.marks.length k, .int .i64 cl] w4 fun e w' => e = .returned (OfV (ofM c.marks cl)) ∧ Below w4.heap.size w4 w' :=
  fun w4 hb => rof_c w4 A k c.marks cl (h.below hb).reads h.small


theorem rdo_bad1 (w : World) (A : Option Addr) (k : Nat) (c : Cel) (o : Opr) (h : CelR w A k c) (ho : o.val.size ≤ maxLen) (hx : ¬ IsC c) :
    Calls Try.prog 24 #[CelV c A k, OprV o] w (DoP w (zeroCel, zeroAns, false, 1)) := by
  have hf1 := doStart_frame w A k c o
  have hb1 := doStart_below w A k c o
  obtain ⟨W1, hW1⟩ : ∃ W1, W1 = doStart w A k c o := ⟨_, rfl⟩
  rw [← hW1] at hf1 hb1
  have HI := risC_c W1 A k c (h.below hb1)
  rw [decide_eq_false hx] at HI
  unfold CelV at HI
  unfold doStart at hW1
  clear h hx
  unfold CelV OprV
  go_enter Try.func24, Try.ntmps24
  go_wp2_with fail
  rw [← hW1]
  refine HI.mono ?_
  rintro e w2 ⟨rfl, hb2⟩
  have hf2 := hf1.below hb2
  have hB2 := hb1.trans (hb2.mono hb1.size)
  have HF := Lib.hid (And.intro hf2 hB2)
  have hr0 := hf2.r0; have hr1 := hf2.r1; have hr2 := hf2.r2; have hr3 := hf2.r3
  have hs0 := hf2.s0; have hs1 := hf2.s1; have hs2 := hf2.s2; have hs3 := hf2.s3
  have hg2 := hf2.f2
  have hg3 := hf2.f3
  clear HI hf1 hb1 hW1 hf2 hB2 hb2
  go_wp2_with fail
  refine bodyPost_ret (v := .tuple #[CelV zeroCel none 0, AnsV zeroAns, .bool false, .int .i64 1]) ?_ rfl ⟨none, 0, rfl, ⟨ReadsL.nil, Nat.le_refl _, by decide, by decide, by decide⟩, ?_⟩
  · simp [results, Try.results24, go_sem, hr0, hr1, hr2, hr3, hs0, hs1, hs2, hs3]
    exact ⟨rfl, rfl⟩
  · (repeat (first | with_reducible exact HF.out.2 | with_reducible refine Below.drew ?_ | with_reducible refine below_drewN ?_ _ | with_reducible refine Below.setCell ?_ (by first | (show _ ≤ _; omega) | (simp; omega) | exact Nat.le_refl _ | simp) _ | with_reducible refine Below.alloc ?_ (by first | (show _ ≤ _; omega) | (simp; omega) | simp) _)); done
theorem rdo_bad2 (w : World) (A : Option Addr) (k : Nat) (c : Cel) (o : Opr) (h : CelR w A k c) (ho : o.val.size ≤ maxLen) (hc : IsC c) (hx : ¬ IsO o) :
    Calls Try.prog 24 #[CelV c A k, OprV o] w (DoP w (zeroCel, zeroAns, false, 1)) := by
  have hf1 := doStart_frame w A k c o
  have hb1 := doStart_below w A k c o
  obtain ⟨W1, hW1⟩ : ∃ W1, W1 = doStart w A k c o := ⟨_, rfl⟩
  rw [← hW1] at hf1 hb1
  have HI := risC_c W1 A k c (h.below hb1)
  rw [decide_eq_true hc] at HI
  have HJ := fun w => risO_c o w ho
  rw [decide_eq_false hx] at HJ
  unfold OprV at HJ
  unfold CelV at HI
  unfold doStart at hW1
  clear h hx hc
  unfold CelV OprV
  go_enter Try.func24, Try.ntmps24
  go_wp2_with fail
  rw [← hW1]
  refine HI.mono ?_
  rintro e w2 ⟨rfl, hb2⟩
  have hf2 := hf1.below hb2
  have hB2 := hb1.trans (hb2.mono hb1.size)
  have HF := Lib.hid (And.intro hf2 hB2)
  have hr0 := hf2.r0; have hr1 := hf2.r1; have hr2 := hf2.r2; have hr3 := hf2.r3
  have hs0 := hf2.s0; have hs1 := hf2.s1; have hs2 := hf2.s2; have hs3 := hf2.s3
  have hg2 := hf2.f2
  have hg3 := hf2.f3
  have ho0 := hf2.o0; have ho1 := hf2.o1; have ho2 := hf2.o2; have ho3 := hf2.o3; have ho4 := hf2.o4
  clear HI hf1 hb1 hW1 hf2 hB2 hb2
  clear hr0 hr1 hr2 hr3 hs0 hs1 hs2 hs3 hg2 hg3
  go_wp2_with fail
  refine (HJ _).mono ?_
  rintro e w3 ⟨rfl, hb3⟩
  have hf3 := HF.out.1.below hb3
  have hB3 := HF.out.2.trans (hb3.mono HF.out.2.size)
  clear HF
  have HF := Lib.hid (And.intro hf3 hB3)
  have hr0 := hf3.r0; have hr1 := hf3.r1; have hr2 := hf3.r2; have hr3 := hf3.r3
  have hs0 := hf3.s0; have hs1 := hf3.s1; have hs2 := hf3.s2; have hs3 := hf3.s3
  have hg2 := hf3.f2
  have hg3 := hf3.f3
  clear ho0 ho1 ho2 ho3 ho4 hf3 hB3 hb3 HJ
  go_wp2_with fail
  refine bodyPost_ret (v := .tuple #[CelV zeroCel none 0, AnsV zeroAns, .bool false, .int .i64 1]) ?_ rfl ⟨none, 0, rfl, ⟨ReadsL.nil, Nat.le_refl _, by decide, by decide, by decide⟩, ?_⟩
  · simp [results, Try.results24, go_sem, hr0, hr1, hr2, hr3, hs0, hs1, hs2, hs3]
    exact ⟨rfl, rfl⟩
  · (repeat (first | with_reducible exact HF.out.2 | with_reducible refine Below.drew ?_ | with_reducible refine below_drewN ?_ _ | with_reducible refine Below.setCell ?_ (by first | (show _ ≤ _; omega) | (simp; omega) | exact Nat.le_refl _ | simp) _ | with_reducible refine Below.alloc ?_ (by first | (show _ ≤ _; omega) | (simp; omega) | simp) _)); done

theorem rdo_get (w : World) (A : Option Addr) (k : Nat) (c : Cel) (o : Opr) (h : CelR w A k c) (ho : o.val.size ≤ maxLen) (hc : IsC c) (hx : IsO o) (hk : o.kind = 1) :
    Calls Try.prog 24 #[CelV c A k, OprV o] w (DoP w (c, ⟨0, c.version, c.has, c.val⟩, false, 0)) := by
  have hf1 := doStart_frame w A k c o
  have hb1 := doStart_below w A k c o
  obtain ⟨W1, hW1⟩ : ∃ W1, W1 = doStart w A k c o := ⟨_, rfl⟩
  rw [← hW1] at hf1 hb1
  have HI := risC_c W1 A k c (h.below hb1)
  rw [decide_eq_true hc] at HI
  have HJ := fun w => risO_c o w ho
  rw [decide_eq_true hx] at HJ
  unfold OprV at HJ
  unfold CelV at HI
  unfold doStart at hW1
  have hk1 : (o.kind == 1) = true := by simp [hk]
  clear hk
  have HR := Lib.hid h
  have HC := Lib.hid hc
  have HX := Lib.hid hx
  clear h hx hc
  unfold CelV OprV
  go_enter Try.func24, Try.ntmps24
  go_wp2_with fail
  rw [← hW1]
  refine HI.mono ?_
  rintro e w2 ⟨rfl, hb2⟩
  have hf2 := hf1.below hb2
  have hB2 := hb1.trans (hb2.mono hb1.size)
  have HF := Lib.hid (And.intro hf2 hB2)
  have ho0 := hf2.o0; have ho1 := hf2.o1; have ho2 := hf2.o2; have ho3 := hf2.o3; have ho4 := hf2.o4
  clear HI hf1 hb1 hW1 hf2 hB2 hb2
  go_wp2_with fail
  refine (HJ _).mono ?_
  rintro e w3 ⟨rfl, hb3⟩
  have hf3 := HF.out.1.below hb3
  have hB3 := HF.out.2.trans (hb3.mono HF.out.2.size)
  clear HF
  have HF := Lib.hid (And.intro hf3 hB3)
  have hc0 := hf3.c0; have hc1 := hf3.c1; have hc2 := hf3.c2; have hc3 := hf3.c3
  have ho0' := hf3.o0; have ho1' := hf3.o1; have ho2' := hf3.o2; have ho3' := hf3.o3; have ho4' := hf3.o4
  clear ho0 ho1 ho2 ho3 ho4 hf3 hB3 hb3 HJ
  have hf3 := HF.out.1
  have hz0 := lt_of_heap hf3.b0
  have hz1 := lt_of_heap hf3.b1
  have hz2 : w.heap.size + 1 + 1 < w3.heap.size := lt_of_heap hf3.b2
  have hz3 : w.heap.size + 1 + 1 + 1 < w3.heap.size := lt_of_heap hf3.b3
  have hr0 := hf3.r0; have hr1 := hf3.r1; have hr2 := hf3.r2; have hr3 := hf3.r3
  have hs0 := hf3.s0; have hs1 := hf3.s1; have hs2 := hf3.s2; have hs3 := hf3.s3
  have hg2 := hf3.f2
  have hg3 := hf3.f3
  clear hf3
  go_wp2_with fail
  go_region
  go_wp2_with fail
  refine bodyPost_ret (v := .tuple #[CelV c A k, AnsV (Ans.mk 0 c.version c.has c.val), .bool false, .int .i64 0]) ?_ rfl ⟨A, k, rfl, HR.out.below ?_, ?_⟩
  · simp [results, Try.results24, go_sem, hr0, hr1, hr2, hr3, hs0, hs1, hs2, hs3, hz0, hz1, hz2, hz3, hg2, hg3]
    exact ⟨rfl, rfl⟩
  · (repeat (first | with_reducible exact HF.out.2 | with_reducible refine Below.drew ?_ | with_reducible refine below_drewN ?_ _ | with_reducible refine Below.setCell ?_ (by first | (show _ ≤ _; omega) | (simp; omega) | exact Nat.le_refl _ | simp) _ | with_reducible refine Below.alloc ?_ (by first | (show _ ≤ _; omega) | (simp; omega) | simp) _)); done
  · (repeat (first | with_reducible exact HF.out.2 | with_reducible refine Below.drew ?_ | with_reducible refine below_drewN ?_ _ | with_reducible refine Below.setCell ?_ (by first | (show _ ≤ _; omega) | (simp; omega) | exact Nat.le_refl _ | simp) _ | with_reducible refine Below.alloc ?_ (by first | (show _ ≤ _; omega) | (simp; omega) | simp) _)); done

theorem rdo_mark_eq (w : World) (A : Option Addr) (k : Nat) (c : Cel) (o : Opr) (h : CelR w A k c) (ho : o.val.size ≤ maxLen) (hc : IsC c) (hx : IsO o) (hk : o.kind ≠ 1) (m : Mark) (hm : ofM c.marks o.client = some m) (hq : m.req = o.req) :
    Calls Try.prog 24 #[CelV c A k, OprV o] w (DoP w (c, m.ans, false, 0)) := by
  have hf1 := doStart_frame w A k c o
  have hb1 := doStart_below w A k c o
  obtain ⟨W1, hW1⟩ : ∃ W1, W1 = doStart w A k c o := ⟨_, rfl⟩
  rw [← hW1] at hf1 hb1
  have HI := risC_c W1 A k c (h.below hb1)
  rw [decide_eq_true hc] at HI
  have HJ := fun w => risO_c o w ho
  rw [decide_eq_true hx] at HJ
  unfold OprV at HJ
  unfold CelV at HI
  unfold doStart at hW1
  have hk1 : (o.kind == 1) = false := by simp [hk]
  have HOF := RdoHat h o.client
  rw [hm] at HOF
  unfold OfV MarkV at HOF
  have hq1 : (m.req == o.req) = true := by simp [hq]
  clear hq
  clear hk hm
  have HR := Lib.hid h
  have HC := Lib.hid hc
  have HX := Lib.hid hx
  clear h hx hc
  unfold CelV OprV
  go_enter Try.func24, Try.ntmps24
  go_wp2_with fail
  rw [← hW1]
  refine HI.mono ?_
  rintro e w2 ⟨rfl, hb2⟩
  have hf2 := hf1.below hb2
  have hB2 := hb1.trans (hb2.mono hb1.size)
  have HF := Lib.hid (And.intro hf2 hB2)
  have ho0 := hf2.o0; have ho1 := hf2.o1; have ho2 := hf2.o2; have ho3 := hf2.o3; have ho4 := hf2.o4
  clear HI hf1 hb1 hW1 hf2 hB2 hb2
  go_wp2_with fail
  refine (HJ _).mono ?_
  rintro e w3 ⟨rfl, hb3⟩
  have hf3 := HF.out.1.below hb3
  have hB3 := HF.out.2.trans (hb3.mono HF.out.2.size)
  clear HF
  have HF := Lib.hid (And.intro hf3 hB3)
  have hc0 := hf3.c0; have hc1 := hf3.c1; have hc2 := hf3.c2; have hc3 := hf3.c3
  have ho0' := hf3.o0; have ho1' := hf3.o1; have ho2' := hf3.o2; have ho3' := hf3.o3; have ho4' := hf3.o4
  clear ho0 ho1 ho2 ho3 ho4 hf3 hB3 hb3 HJ
  have hB3 := HF.out.2
  have hy0 := lt_of_heap HF.out.1.b0
  have hy1 := lt_of_heap HF.out.1.b1
  go_wp2_with fail
  refine (HOF _ ?_).mono ?_
  · (repeat (first | with_reducible exact hB3 | with_reducible refine Below.drew ?_ | with_reducible refine below_drewN ?_ _ | with_reducible refine Below.setCell ?_ (by first | (show _ ≤ _; omega) | (simp; omega) | exact Nat.le_refl _ | simp) _ | with_reducible refine Below.alloc ?_ (by first | (show _ ≤ _; omega) | (simp; omega) | simp) _)); done
  rintro e w4 ⟨rfl, hb4⟩
  obtain ⟨hf4, hB4, hx4⟩ := DoF.put HF.out hb4
  have hq3 : w.heap.size + 3 < w3.heap.size := lt_of_heap HF.out.1.b3
  have hq4 : w3.heap.size < w4.heap.size := lt_of_heap hx4
  clear hy0 hy1 HF hb4 hB3 hc0 hc1 hc2 hc3 ho0' ho1' ho2' ho3' ho4'
  have HF := Lib.hid (And.intro hf4 (And.intro hB4 hx4))
  have hc0 := hf4.c0; have hc1 := hf4.c1; have hc2 := hf4.c2; have hc3 := hf4.c3
  have ho0' := hf4.o0; have ho1' := hf4.o1; have ho2' := hf4.o2; have ho3' := hf4.o3; have ho4' := hf4.o4
  have a0 : w4.cell? ⟨w3.heap.size, 0, none⟩ = _ := cell_of_row w4 _ 0 _ _ _ hx4
  have a1 : w4.cell? ⟨w3.heap.size, 1, none⟩ = _ := cell_of_row w4 _ 1 _ _ _ hx4
  have a2 : w4.cell? ⟨w3.heap.size, 2, none⟩ = _ := cell_of_row w4 _ 2 _ _ _ hx4
  have a3 : w4.cell? ⟨w3.heap.size, 3, none⟩ = _ := cell_of_row w4 _ 3 _ _ _ hx4
  have fa : ∀ j, w4.frozen? ⟨w3.heap.size, j, none⟩ = false := fun j => by simp [World.frozen?, hx4]
  have hz0 := lt_of_heap hf4.b0
  have hz1 := lt_of_heap hf4.b1
  have hz2 : w.heap.size + 1 + 1 < w4.heap.size := lt_of_heap hf4.b2
  have hz3 : w.heap.size + 1 + 1 + 1 < w4.heap.size := lt_of_heap hf4.b3
  have hr0 := hf4.r0; have hr1 := hf4.r1; have hr2 := hf4.r2; have hr3 := hf4.r3
  have hs0 := hf4.s0; have hs1 := hf4.s1; have hs2 := hf4.s2; have hs3 := hf4.s3
  have hg2 := hf4.f2
  have hg3 := hf4.f3
  clear hf4 hB4 hx4 HOF
  go_wp2_with fail
  go_region
  go_wp2_with fail
  refine bodyPost_ret (v := .tuple #[CelV c A k, AnsV m.ans, .bool false, .int .i64 0]) ?_ rfl ⟨_, k, rfl, HR.out.below ?_, ?_⟩
  · simp [results, Try.results24, go_sem, hr0, hr1, hr2, hr3, hs0, hs1, hs2, hs3, hz0, hz1, hz2, hz3, hg2, hg3, hc0, hc1, hc2, hc3, hq3, hq4]
    exact ⟨rfl, rfl⟩
  · (repeat (first | with_reducible exact HF.out.2.1 | with_reducible refine Below.drew ?_ | with_reducible refine below_drewN ?_ _ | with_reducible refine Below.setCell ?_ (by first | (show _ ≤ _; omega) | (simp; omega) | exact Nat.le_refl _ | simp) _ | with_reducible refine Below.alloc ?_ (by first | (show _ ≤ _; omega) | (simp; omega) | simp) _)); done
  · (repeat (first | with_reducible exact HF.out.2.1 | with_reducible refine Below.drew ?_ | with_reducible refine below_drewN ?_ _ | with_reducible refine Below.setCell ?_ (by first | (show _ ≤ _; omega) | (simp; omega) | exact Nat.le_refl _ | simp) _ | with_reducible refine Below.alloc ?_ (by first | (show _ ≤ _; omega) | (simp; omega) | simp) _)); done

theorem rdo_mark_gt (w : World) (A : Option Addr) (k : Nat) (c : Cel) (o : Opr) (h : CelR w A k c) (ho : o.val.size ≤ maxLen) (hc : IsC c) (hx : IsO o) (hk : o.kind ≠ 1) (m : Mark) (hm : ofM c.marks o.client = some m) (hq : o.req < m.req) :
    Calls Try.prog 24 #[CelV c A k, OprV o] w (DoP w (c, ⟨9, 0, false, ByteArray.empty⟩, false, 0)) := by
  have hf1 := doStart_frame w A k c o
  have hb1 := doStart_below w A k c o
  obtain ⟨W1, hW1⟩ : ∃ W1, W1 = doStart w A k c o := ⟨_, rfl⟩
  rw [← hW1] at hf1 hb1
  have HI := risC_c W1 A k c (h.below hb1)
  rw [decide_eq_true hc] at HI
  have HJ := fun w => risO_c o w ho
  rw [decide_eq_true hx] at HJ
  unfold OprV at HJ
  unfold CelV at HI
  unfold doStart at hW1
  have hk1 : (o.kind == 1) = false := by simp [hk]
  have HOF := RdoHat h o.client
  rw [hm] at HOF
  unfold OfV MarkV at HOF
  have hq1 : (m.req == o.req) = false := by simp; omega
  have hq2 : decide (o.req < m.req) = true := by simp [hq]
  clear hq
  clear hk hm
  have HR := Lib.hid h
  have HC := Lib.hid hc
  have HX := Lib.hid hx
  clear h hx hc
  unfold CelV OprV
  go_enter Try.func24, Try.ntmps24
  go_wp2_with fail
  rw [← hW1]
  refine HI.mono ?_
  rintro e w2 ⟨rfl, hb2⟩
  have hf2 := hf1.below hb2
  have hB2 := hb1.trans (hb2.mono hb1.size)
  have HF := Lib.hid (And.intro hf2 hB2)
  have ho0 := hf2.o0; have ho1 := hf2.o1; have ho2 := hf2.o2; have ho3 := hf2.o3; have ho4 := hf2.o4
  clear HI hf1 hb1 hW1 hf2 hB2 hb2
  go_wp2_with fail
  refine (HJ _).mono ?_
  rintro e w3 ⟨rfl, hb3⟩
  have hf3 := HF.out.1.below hb3
  have hB3 := HF.out.2.trans (hb3.mono HF.out.2.size)
  clear HF
  have HF := Lib.hid (And.intro hf3 hB3)
  have hc0 := hf3.c0; have hc1 := hf3.c1; have hc2 := hf3.c2; have hc3 := hf3.c3
  have ho0' := hf3.o0; have ho1' := hf3.o1; have ho2' := hf3.o2; have ho3' := hf3.o3; have ho4' := hf3.o4
  clear ho0 ho1 ho2 ho3 ho4 hf3 hB3 hb3 HJ
  have hB3 := HF.out.2
  have hy0 := lt_of_heap HF.out.1.b0
  have hy1 := lt_of_heap HF.out.1.b1
  go_wp2_with fail
  refine (HOF _ ?_).mono ?_
  · (repeat (first | with_reducible exact hB3 | with_reducible refine Below.drew ?_ | with_reducible refine below_drewN ?_ _ | with_reducible refine Below.setCell ?_ (by first | (show _ ≤ _; omega) | (simp; omega) | exact Nat.le_refl _ | simp) _ | with_reducible refine Below.alloc ?_ (by first | (show _ ≤ _; omega) | (simp; omega) | simp) _)); done
  rintro e w4 ⟨rfl, hb4⟩
  obtain ⟨hf4, hB4, hx4⟩ := DoF.put HF.out hb4
  have hq3 : w.heap.size + 3 < w3.heap.size := lt_of_heap HF.out.1.b3
  have hq4 : w3.heap.size < w4.heap.size := lt_of_heap hx4
  clear hy0 hy1 HF hb4 hB3 hc0 hc1 hc2 hc3 ho0' ho1' ho2' ho3' ho4'
  have HF := Lib.hid (And.intro hf4 (And.intro hB4 hx4))
  have hc0 := hf4.c0; have hc1 := hf4.c1; have hc2 := hf4.c2; have hc3 := hf4.c3
  have ho0' := hf4.o0; have ho1' := hf4.o1; have ho2' := hf4.o2; have ho3' := hf4.o3; have ho4' := hf4.o4
  have a0 : w4.cell? ⟨w3.heap.size, 0, none⟩ = _ := cell_of_row w4 _ 0 _ _ _ hx4
  have a1 : w4.cell? ⟨w3.heap.size, 1, none⟩ = _ := cell_of_row w4 _ 1 _ _ _ hx4
  have a2 : w4.cell? ⟨w3.heap.size, 2, none⟩ = _ := cell_of_row w4 _ 2 _ _ _ hx4
  have a3 : w4.cell? ⟨w3.heap.size, 3, none⟩ = _ := cell_of_row w4 _ 3 _ _ _ hx4
  have fa : ∀ j, w4.frozen? ⟨w3.heap.size, j, none⟩ = false := fun j => by simp [World.frozen?, hx4]
  have hz0 := lt_of_heap hf4.b0
  have hz1 := lt_of_heap hf4.b1
  have hz2 : w.heap.size + 1 + 1 < w4.heap.size := lt_of_heap hf4.b2
  have hz3 : w.heap.size + 1 + 1 + 1 < w4.heap.size := lt_of_heap hf4.b3
  have hr0 := hf4.r0; have hr1 := hf4.r1; have hr2 := hf4.r2; have hr3 := hf4.r3
  have hs0 := hf4.s0; have hs1 := hf4.s1; have hs2 := hf4.s2; have hs3 := hf4.s3
  have hg2 := hf4.f2
  have hg3 := hf4.f3
  clear hf4 hB4 hx4 HOF
  go_wp2_with fail
  refine bodyPost_ret (v := .tuple #[CelV c A k, AnsV (Ans.mk 9 0 false ByteArray.empty), .bool false, .int .i64 0]) ?_ rfl ⟨_, k, rfl, HR.out.below ?_, ?_⟩
  · simp [results, Try.results24, go_sem, hr0, hr1, hr2, hr3, hs0, hs1, hs2, hs3, hz0, hz1, hz2, hz3, hg2, hg3, hc0, hc1, hc2, hc3, hq3, hq4]
    exact ⟨rfl, rfl⟩
  · (repeat (first | with_reducible exact HF.out.2.1 | with_reducible refine Below.drew ?_ | with_reducible refine below_drewN ?_ _ | with_reducible refine Below.setCell ?_ (by first | (show _ ≤ _; omega) | (simp; omega) | exact Nat.le_refl _ | simp) _ | with_reducible refine Below.alloc ?_ (by first | (show _ ≤ _; omega) | (simp; omega) | simp) _)); done
  · (repeat (first | with_reducible exact HF.out.2.1 | with_reducible refine Below.drew ?_ | with_reducible refine below_drewN ?_ _ | with_reducible refine Below.setCell ?_ (by first | (show _ ≤ _; omega) | (simp; omega) | exact Nat.le_refl _ | simp) _ | with_reducible refine Below.alloc ?_ (by first | (show _ ≤ _; omega) | (simp; omega) | simp) _)); done
end Go.Proofs.Ytfddpcmlmcohjaa
