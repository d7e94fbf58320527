/-
  The program's cell.Do: an operation that writes. Conditions: fewer marks than 2^31.
-/
import Derived.Test.YtfddpcmlmcohjaaCellDo4
namespace Go.Proofs.Ytfddpcmlmcohjaa
open Go.RowKit
set_option linter.unusedVariables false
set_option linter.unusedSimpArgs false
set_option maxHeartbeats 1000000
set_option maxRecDepth 100000

theorem do_ok3 (w : World) (A : Option Addr) (k : Nat) (c : Cel) (o : Opr) (h : CelR w A k c) (ho : o.val.size ≤ maxLen) (hc : IsC c) (hx : IsO o) (hm : ∀ m, ofM c.marks o.client = some m → m.req < o.req) (hk : o.kind = 3) (hv : o.version = c.version) :
    Calls Try.prog 23 #[CelV c A k, OprV o] w (DoP w (⟨up c.version, true, o.val, putM c.marks ⟨o.client, o.req, ⟨0, up c.version, true, ByteArray.empty⟩⟩⟩, ⟨0, up c.version, true, ByteArray.empty⟩, true, 0)) := by
  have hf1 := doStart_frame w A k c o
  have hb1 := doStart_below w A k c o
  obtain ⟨W1, hW1⟩ : ∃ W1, W1 = doStart w A k c o := ⟨_, rfl⟩
  rw [← hW1] at hf1 hb1
  have HI := isC_c W1 A k c (h.below hb1)
  rw [decide_eq_true hc] at HI
  have HJ := fun w => isO_c o w ho
  rw [decide_eq_true hx] at HJ
  unfold OprV at HJ
  unfold CelV at HI
  unfold doStart at hW1
  have HFI : ∀ w4, Below w.heap.size w w4 → Calls Try.prog 42 #[.slice A c.marks.length k, .int .i64 o.client] w4 (FindP w4 c.marks o.client) := fun w4 hb => findM_c w4 A k c.marks o.client (h.below hb).reads h.small hc.1.1 (fun m hm => ⟨(hc.1.2 m hm).1, (hc.1.2 m hm).2.1⟩) ⟨hx.1, hx.2.1⟩
  have HPU : ∀ (a : Ans) w4, Below w.heap.size w w4 → Calls Try.prog 43 #[.slice A c.marks.length k, .agg #[.int .i64 o.client, .int .u64 o.req, .int .i64 a.code, .int .u64 a.version, .bool a.has, .string a.val]] w4 (fun e w' => ∃ v', e = .returned v' ∧ OwnL Mark.enc 6 w' w4.heap.size 55 v' (putM c.marks ⟨o.client, o.req, a⟩) ∧ Below w4.heap.size w4 w') := fun a w4 hb => put17_c w4 A k c.marks ⟨o.client, o.req, a⟩ (h.below hb).reads h.small hc.1.1 (fun m hm => ⟨(hc.1.2 m hm).1, (hc.1.2 m hm).2.1⟩) ⟨hx.1, hx.2.1⟩
  have hk1 : (o.kind == 1) = false := by simp [hk]
  have hk3 : (o.kind == 3) = true := by simp [hk]
  have hk4 : (o.kind == 4) = false := by simp [hk]
  have hk4n : (o.kind != 4) = true := by simp [hk]
  have hv1 : (o.version != c.version) = false := by simp [hv]
  clear hv
  have HN := fun w => now_c w A k ⟨up c.version, true, o.val, c.marks⟩ 0
  unfold CelV at HN
  unfold up at *
  simp only at HN
  clear hk
  have HR := Lib.hid h
  have HC := Lib.hid hc
  have HX := Lib.hid hx
  clear h hx hc
  unfold CelV OprV
  go_enter Try.func23, Try.ntmps23
  go_wp2_with fail
  rw [← hW1]
  refine HI.mono ?_
  rintro e w2 ⟨rfl, hb2⟩
  have hf2 := hf1.below hb2
  have hB2 := hb1.trans (hb2.mono hb1.size)
  have HF := Lib.hid (And.intro hf2 hB2)
  have ho0 := hf2.o0; have ho1 := hf2.o1; have ho2 := hf2.o2; have ho3 := hf2.o3; have ho4 := hf2.o4
  clear HI hf1 hb1 hW1 hf2 hB2 hb2
  go_wp2_with fail
  refine (HJ _).mono ?_
  rintro e w3 ⟨rfl, hb3⟩
  have hf3 := HF.out.1.below hb3
  have hB3 := HF.out.2.trans (hb3.mono HF.out.2.size)
  clear HF
  have HF := Lib.hid (And.intro hf3 hB3)
  have hc0 := hf3.c0; have hc1 := hf3.c1; have hc2 := hf3.c2; have hc3 := hf3.c3
  have ho0' := hf3.o0; have ho1' := hf3.o1; have ho2' := hf3.o2; have ho3' := hf3.o3; have ho4' := hf3.o4
  clear ho0 ho1 ho2 ho3 ho4 hf3 hB3 hb3 HJ
  have hB3 := HF.out.2
  go_wp2_with fail
  refine (HFI _ hB3).mono ?_
  rintro e w4 ⟨i, b, rfl, hat, hbx, hb4⟩
  have hf4 := HF.out.1.below hb4
  have hB4 := HF.out.2.trans (hb4.mono HF.out.2.size)
  have HF := Lib.hid (And.intro hf4 hB4)
  clear hB3 HFI hc0 hc1 hc2 hc3 ho0' ho1' ho2' ho3' ho4'
  have hc0 := hf4.c0; have hc1 := hf4.c1; have hc2 := hf4.c2; have hc3 := hf4.c3
  have ho0' := hf4.o0; have ho1' := hf4.o1; have ho2' := hf4.o2; have ho3' := hf4.o3; have ho4' := hf4.o4
  have hg0 := hf4.f0
  cases b with
  | false =>
    clear hf4 hB4 hb4 hat hbx
    go_wp2_with fail
    go_quiet (fail)
    go_wp2_with fail
    go_region
    go_wp2_with fail
    refine (HN _).mono ?_
    rintro e w5 ⟨rfl, hb5⟩
    obtain ⟨hf5, hB5⟩ := DoF.setB HF.out hb5
    clear HF hb5 hc0 hc1 hc2 hc3 ho0' ho1' ho2' ho3' ho4' hg0
    have HF := Lib.hid (And.intro hf5 hB5)
    have hc0 := hf5.c0; have hc1 := hf5.c1; have hc2 := hf5.c2; have hc3 := hf5.c3
    have ho0' := hf5.o0; have ho1' := hf5.o1
    have hz0 := lt_of_heap hf5.b0
    have hz1 := lt_of_heap hf5.b1
    have hl5 := hB5.size
    go_wp2_with fail
    refine (HPU ⟨0, up c.version, true, ByteArray.empty⟩ _ ((Below.alloc hB5 hl5 _))).mono ?_
    rintro e w6 ⟨v', rfl, hO6, hb6⟩
    obtain ⟨hf6, hB6, hx6⟩ := DoF.put HF.out hb6
    obtain ⟨A6, k6, rfl, hn6, hk6⟩ := Own.isSlice hO6
    have hq6 : w.heap.size + 3 < w5.heap.size := lt_of_heap hf5.b3
    have hq7 : w5.heap.size < w6.heap.size := lt_of_heap hx6
    clear HF hb6 hc0 hc1 hc2 hc3 ho0' ho1' hz0 hz1 hf5 hB5 hl5
    have HF := Lib.hid (And.intro (Own.mono (B' := w5.heap.size) hO6 (by simp)) (And.intro hB6 (And.intro hn6 hk6)))
    have hc0 := hf6.c0; have hc1 := hf6.c1; have hc2 := hf6.c2; have hc3 := hf6.c3
    have hr0 := hf6.r0; have hr1 := hf6.r1; have hr2 := hf6.r2; have hr3 := hf6.r3
    have hs0 := hf6.s0; have hs1 := hf6.s1; have hs2 := hf6.s2; have hs3 := hf6.s3
    have hg0 := hf6.f0; have hg2 := hf6.f2; have hg3 := hf6.f3
    have p0 : w6.cell? ⟨w5.heap.size, 0, none⟩ = _ := cell_of_row w6 _ 0 _ _ _ hx6
    have p1 : w6.cell? ⟨w5.heap.size, 1, none⟩ = _ := cell_of_row w6 _ 1 _ _ _ hx6
    have p2 : w6.cell? ⟨w5.heap.size, 2, none⟩ = _ := cell_of_row w6 _ 2 _ _ _ hx6
    have p3 : w6.cell? ⟨w5.heap.size, 3, none⟩ = _ := cell_of_row w6 _ 3 _ _ _ hx6
    have hn0 : w5.heap.size ≠ w.heap.size := by omega
    have hn2 : w5.heap.size ≠ w.heap.size + 1 + 1 := by omega
    have hn3 : w5.heap.size ≠ w.heap.size + 1 + 1 + 1 := by omega
    have hm0 : w.heap.size ≠ w5.heap.size := by omega
    have hm2 : w.heap.size + 1 + 1 ≠ w5.heap.size := by omega
    have hm3 : w.heap.size + 1 + 1 + 1 ≠ w5.heap.size := by omega
    clear hf6 hB6 hx6 hO6 hn6 hk6 HPU HN
    go_wp2_with fail
    go_region
    go_wp2_with fail
    refine bodyPost_ret (v := .tuple #[CelV ⟨up c.version, true, o.val, putM c.marks ⟨o.client, o.req, ⟨0, up c.version, true, ByteArray.empty⟩⟩⟩ A6 k6, AnsV ⟨0, up c.version, true, ByteArray.empty⟩, .bool true, .int .i64 0]) ?_ rfl ⟨A6, k6, rfl, ⟨?_, HF.out.2.2.1, HF.out.2.2.2, ?_, ?_⟩, ?_⟩
    · simp [results, Try.results23, go_sem, hc0, hc1, hc2, hr0, hr1, hr2, hr3, hs0, hs1, hs2, hs3, hg0, hg2, hg3]
      exact ⟨rfl, rfl⟩
    · refine OwnL.reads (k := 6) (e := 55) (n := (putM c.marks ⟨o.client, o.req, ⟨0, up c.version, true, ByteArray.empty⟩⟩).length) (c := k6) (B := w5.heap.size) ?_
      unfold OwnL
      have HF1 := HF.out.1
      unfold OwnL at HF1
      show Own _ _ _ _ _ (putM c.marks ⟨o.client, o.req, ⟨0, up c.version, true, ByteArray.empty⟩⟩).length ((putM c.marks ⟨o.client, o.req, ⟨0, up c.version, true, ByteArray.empty⟩⟩).flatMap Mark.enc)
      (repeat (first | with_reducible exact HF1 | with_reducible refine Own.drew ?_ | with_reducible refine Own.setlow ?_ (by omega) _))
      done
    · have := good_length (putM_good (m := ⟨o.client, o.req, ⟨0, up c.version, true, ByteArray.empty⟩⟩) HC.out.1 ⟨HX.out.1, HX.out.2.1, rfl, .inl rfl⟩)
      show (putM c.marks ⟨o.client, o.req, ⟨0, up c.version, true, ByteArray.empty⟩⟩).length < 2147483000
      omega
    · exact ho
    · (repeat (first | with_reducible exact HF.out.2.1 | with_reducible refine Below.drew ?_ | with_reducible refine below_drewN ?_ _ | with_reducible refine Below.setCell ?_ (by first | (show _ ≤ _; omega) | (simp; omega) | exact Nat.le_refl _ | simp) _ | with_reducible refine Below.alloc ?_ (by first | (show _ ≤ _; omega) | (simp; omega) | simp) _)); done
  | true =>
    obtain ⟨x, hxi, hxc⟩ := hbx.1 rfl
    have hm := hm x (ofM_hit hat x hxi hxc)
    have hq1 : decide (o.req ≤ x.req) = false := by simp; omega
    clear hbx hat
    obtain ⟨hi, him⟩ := List.getElem?_eq_some_iff.1 hxi
    obtain ⟨b, off, hAB, _, hx⟩ := ((HR.out.below hB4).reads).at_ (k := 6) Mark.enc_len (by decide) hi
    rw [him] at hx
    have g1 := hx 1 _ rfl
    clear hf4 hB4 hb4 hxi hx him hm
    subst hAB
    go_wp2_with fail
    go_quiet (fail)
    go_wp2_with fail
    go_region
    go_wp2_with fail
    refine (HN _).mono ?_
    rintro e w5 ⟨rfl, hb5⟩
    obtain ⟨hf5, hB5⟩ := DoF.setB HF.out hb5
    clear HF hb5 hc0 hc1 hc2 hc3 ho0' ho1' ho2' ho3' ho4' hg0
    have HF := Lib.hid (And.intro hf5 hB5)
    have hc0 := hf5.c0; have hc1 := hf5.c1; have hc2 := hf5.c2; have hc3 := hf5.c3
    have ho0' := hf5.o0; have ho1' := hf5.o1
    have hz0 := lt_of_heap hf5.b0
    have hz1 := lt_of_heap hf5.b1
    have hl5 := hB5.size
    go_wp2_with fail
    refine (HPU ⟨0, up c.version, true, ByteArray.empty⟩ _ ((Below.alloc hB5 hl5 _))).mono ?_
    rintro e w6 ⟨v', rfl, hO6, hb6⟩
    obtain ⟨hf6, hB6, hx6⟩ := DoF.put HF.out hb6
    obtain ⟨A6, k6, rfl, hn6, hk6⟩ := Own.isSlice hO6
    have hq6 : w.heap.size + 3 < w5.heap.size := lt_of_heap hf5.b3
    have hq7 : w5.heap.size < w6.heap.size := lt_of_heap hx6
    clear HF hb6 hc0 hc1 hc2 hc3 ho0' ho1' hz0 hz1 hf5 hB5 hl5
    have HF := Lib.hid (And.intro (Own.mono (B' := w5.heap.size) hO6 (by simp)) (And.intro hB6 (And.intro hn6 hk6)))
    have hc0 := hf6.c0; have hc1 := hf6.c1; have hc2 := hf6.c2; have hc3 := hf6.c3
    have hr0 := hf6.r0; have hr1 := hf6.r1; have hr2 := hf6.r2; have hr3 := hf6.r3
    have hs0 := hf6.s0; have hs1 := hf6.s1; have hs2 := hf6.s2; have hs3 := hf6.s3
    have hg0 := hf6.f0; have hg2 := hf6.f2; have hg3 := hf6.f3
    have p0 : w6.cell? ⟨w5.heap.size, 0, none⟩ = _ := cell_of_row w6 _ 0 _ _ _ hx6
    have p1 : w6.cell? ⟨w5.heap.size, 1, none⟩ = _ := cell_of_row w6 _ 1 _ _ _ hx6
    have p2 : w6.cell? ⟨w5.heap.size, 2, none⟩ = _ := cell_of_row w6 _ 2 _ _ _ hx6
    have p3 : w6.cell? ⟨w5.heap.size, 3, none⟩ = _ := cell_of_row w6 _ 3 _ _ _ hx6
    have hn0 : w5.heap.size ≠ w.heap.size := by omega
    have hn2 : w5.heap.size ≠ w.heap.size + 1 + 1 := by omega
    have hn3 : w5.heap.size ≠ w.heap.size + 1 + 1 + 1 := by omega
    have hm0 : w.heap.size ≠ w5.heap.size := by omega
    have hm2 : w.heap.size + 1 + 1 ≠ w5.heap.size := by omega
    have hm3 : w.heap.size + 1 + 1 + 1 ≠ w5.heap.size := by omega
    clear hf6 hB6 hx6 hO6 hn6 hk6 HPU HN
    go_wp2_with fail
    go_region
    go_wp2_with fail
    refine bodyPost_ret (v := .tuple #[CelV ⟨up c.version, true, o.val, putM c.marks ⟨o.client, o.req, ⟨0, up c.version, true, ByteArray.empty⟩⟩⟩ A6 k6, AnsV ⟨0, up c.version, true, ByteArray.empty⟩, .bool true, .int .i64 0]) ?_ rfl ⟨A6, k6, rfl, ⟨?_, HF.out.2.2.1, HF.out.2.2.2, ?_, ?_⟩, ?_⟩
    · simp [results, Try.results23, go_sem, hc0, hc1, hc2, hr0, hr1, hr2, hr3, hs0, hs1, hs2, hs3, hg0, hg2, hg3]
      exact ⟨rfl, rfl⟩
    · refine OwnL.reads (k := 6) (e := 55) (n := (putM c.marks ⟨o.client, o.req, ⟨0, up c.version, true, ByteArray.empty⟩⟩).length) (c := k6) (B := w5.heap.size) ?_
      unfold OwnL
      have HF1 := HF.out.1
      unfold OwnL at HF1
      show Own _ _ _ _ _ (putM c.marks ⟨o.client, o.req, ⟨0, up c.version, true, ByteArray.empty⟩⟩).length ((putM c.marks ⟨o.client, o.req, ⟨0, up c.version, true, ByteArray.empty⟩⟩).flatMap Mark.enc)
      (repeat (first | with_reducible exact HF1 | with_reducible refine Own.drew ?_ | with_reducible refine Own.setlow ?_ (by omega) _))
      done
    · have := good_length (putM_good (m := ⟨o.client, o.req, ⟨0, up c.version, true, ByteArray.empty⟩⟩) HC.out.1 ⟨HX.out.1, HX.out.2.1, rfl, .inl rfl⟩)
      show (putM c.marks ⟨o.client, o.req, ⟨0, up c.version, true, ByteArray.empty⟩⟩).length < 2147483000
      omega
    · exact ho
    · (repeat (first | with_reducible exact HF.out.2.1 | with_reducible refine Below.drew ?_ | with_reducible refine below_drewN ?_ _ | with_reducible refine Below.setCell ?_ (by first | (show _ ≤ _; omega) | (simp; omega) | exact Nat.le_refl _ | simp) _ | with_reducible refine Below.alloc ?_ (by first | (show _ ≤ _; omega) | (simp; omega) | simp) _)); done

theorem do_ok4 (w : World) (A : Option Addr) (k : Nat) (c : Cel) (o : Opr) (h : CelR w A k c) (ho : o.val.size ≤ maxLen) (hc : IsC c) (hx : IsO o) (hm : ∀ m, ofM c.marks o.client = some m → m.req < o.req) (hk : o.kind = 4) (hv : o.version = c.version) :
    Calls Try.prog 23 #[CelV c A k, OprV o] w (DoP w (⟨up c.version, false, o.val, putM c.marks ⟨o.client, o.req, ⟨0, up c.version, false, ByteArray.empty⟩⟩⟩, ⟨0, up c.version, false, ByteArray.empty⟩, true, 0)) := by
  have hf1 := doStart_frame w A k c o
  have hb1 := doStart_below w A k c o
  obtain ⟨W1, hW1⟩ : ∃ W1, W1 = doStart w A k c o := ⟨_, rfl⟩
  rw [← hW1] at hf1 hb1
  have HI := isC_c W1 A k c (h.below hb1)
  rw [decide_eq_true hc] at HI
  have HJ := fun w => isO_c o w ho
  rw [decide_eq_true hx] at HJ
  unfold OprV at HJ
  unfold CelV at HI
  unfold doStart at hW1
  have HFI : ∀ w4, Below w.heap.size w w4 → Calls Try.prog 42 #[.slice A c.marks.length k, .int .i64 o.client] w4 (FindP w4 c.marks o.client) := fun w4 hb => findM_c w4 A k c.marks o.client (h.below hb).reads h.small hc.1.1 (fun m hm => ⟨(hc.1.2 m hm).1, (hc.1.2 m hm).2.1⟩) ⟨hx.1, hx.2.1⟩
  have HPU : ∀ (a : Ans) w4, Below w.heap.size w w4 → Calls Try.prog 43 #[.slice A c.marks.length k, .agg #[.int .i64 o.client, .int .u64 o.req, .int .i64 a.code, .int .u64 a.version, .bool a.has, .string a.val]] w4 (fun e w' => ∃ v', e = .returned v' ∧ OwnL Mark.enc 6 w' w4.heap.size 55 v' (putM c.marks ⟨o.client, o.req, a⟩) ∧ Below w4.heap.size w4 w') := fun a w4 hb => put17_c w4 A k c.marks ⟨o.client, o.req, a⟩ (h.below hb).reads h.small hc.1.1 (fun m hm => ⟨(hc.1.2 m hm).1, (hc.1.2 m hm).2.1⟩) ⟨hx.1, hx.2.1⟩
  have hk1 : (o.kind == 1) = false := by simp [hk]
  have hk3 : (o.kind == 3) = false := by simp [hk]
  have hk4 : (o.kind == 4) = true := by simp [hk]
  have hk4n : (o.kind != 4) = false := by simp [hk]
  have hv1 : (o.version != c.version) = false := by simp [hv]
  clear hv
  have HN := fun w => now_c w A k ⟨up c.version, false, o.val, c.marks⟩ 0
  unfold CelV at HN
  unfold up at *
  simp only at HN
  clear hk
  have HR := Lib.hid h
  have HC := Lib.hid hc
  have HX := Lib.hid hx
  clear h hx hc
  unfold CelV OprV
  go_enter Try.func23, Try.ntmps23
  go_wp2_with fail
  rw [← hW1]
  refine HI.mono ?_
  rintro e w2 ⟨rfl, hb2⟩
  have hf2 := hf1.below hb2
  have hB2 := hb1.trans (hb2.mono hb1.size)
  have HF := Lib.hid (And.intro hf2 hB2)
  have ho0 := hf2.o0; have ho1 := hf2.o1; have ho2 := hf2.o2; have ho3 := hf2.o3; have ho4 := hf2.o4
  clear HI hf1 hb1 hW1 hf2 hB2 hb2
  go_wp2_with fail
  refine (HJ _).mono ?_
  rintro e w3 ⟨rfl, hb3⟩
  have hf3 := HF.out.1.below hb3
  have hB3 := HF.out.2.trans (hb3.mono HF.out.2.size)
  clear HF
  have HF := Lib.hid (And.intro hf3 hB3)
  have hc0 := hf3.c0; have hc1 := hf3.c1; have hc2 := hf3.c2; have hc3 := hf3.c3
  have ho0' := hf3.o0; have ho1' := hf3.o1; have ho2' := hf3.o2; have ho3' := hf3.o3; have ho4' := hf3.o4
  clear ho0 ho1 ho2 ho3 ho4 hf3 hB3 hb3 HJ
  have hB3 := HF.out.2
  go_wp2_with fail
  refine (HFI _ hB3).mono ?_
  rintro e w4 ⟨i, b, rfl, hat, hbx, hb4⟩
  have hf4 := HF.out.1.below hb4
  have hB4 := HF.out.2.trans (hb4.mono HF.out.2.size)
  have HF := Lib.hid (And.intro hf4 hB4)
  clear hB3 HFI hc0 hc1 hc2 hc3 ho0' ho1' ho2' ho3' ho4'
  have hc0 := hf4.c0; have hc1 := hf4.c1; have hc2 := hf4.c2; have hc3 := hf4.c3
  have ho0' := hf4.o0; have ho1' := hf4.o1; have ho2' := hf4.o2; have ho3' := hf4.o3; have ho4' := hf4.o4
  have hg0 := hf4.f0
  cases b with
  | false =>
    clear hf4 hB4 hb4 hat hbx
    go_wp2_with fail
    go_quiet (fail)
    go_wp2_with fail
    go_region
    go_wp2_with fail
    refine (HN _).mono ?_
    rintro e w5 ⟨rfl, hb5⟩
    obtain ⟨hf5, hB5⟩ := DoF.setB HF.out hb5
    clear HF hb5 hc0 hc1 hc2 hc3 ho0' ho1' ho2' ho3' ho4' hg0
    have HF := Lib.hid (And.intro hf5 hB5)
    have hc0 := hf5.c0; have hc1 := hf5.c1; have hc2 := hf5.c2; have hc3 := hf5.c3
    have ho0' := hf5.o0; have ho1' := hf5.o1
    have hz0 := lt_of_heap hf5.b0
    have hz1 := lt_of_heap hf5.b1
    have hl5 := hB5.size
    go_wp2_with fail
    refine (HPU ⟨0, up c.version, false, ByteArray.empty⟩ _ ((Below.alloc hB5 hl5 _))).mono ?_
    rintro e w6 ⟨v', rfl, hO6, hb6⟩
    obtain ⟨hf6, hB6, hx6⟩ := DoF.put HF.out hb6
    obtain ⟨A6, k6, rfl, hn6, hk6⟩ := Own.isSlice hO6
    have hq6 : w.heap.size + 3 < w5.heap.size := lt_of_heap hf5.b3
    have hq7 : w5.heap.size < w6.heap.size := lt_of_heap hx6
    clear HF hb6 hc0 hc1 hc2 hc3 ho0' ho1' hz0 hz1 hf5 hB5 hl5
    have HF := Lib.hid (And.intro (Own.mono (B' := w5.heap.size) hO6 (by simp)) (And.intro hB6 (And.intro hn6 hk6)))
    have hc0 := hf6.c0; have hc1 := hf6.c1; have hc2 := hf6.c2; have hc3 := hf6.c3
    have hr0 := hf6.r0; have hr1 := hf6.r1; have hr2 := hf6.r2; have hr3 := hf6.r3
    have hs0 := hf6.s0; have hs1 := hf6.s1; have hs2 := hf6.s2; have hs3 := hf6.s3
    have hg0 := hf6.f0; have hg2 := hf6.f2; have hg3 := hf6.f3
    have p0 : w6.cell? ⟨w5.heap.size, 0, none⟩ = _ := cell_of_row w6 _ 0 _ _ _ hx6
    have p1 : w6.cell? ⟨w5.heap.size, 1, none⟩ = _ := cell_of_row w6 _ 1 _ _ _ hx6
    have p2 : w6.cell? ⟨w5.heap.size, 2, none⟩ = _ := cell_of_row w6 _ 2 _ _ _ hx6
    have p3 : w6.cell? ⟨w5.heap.size, 3, none⟩ = _ := cell_of_row w6 _ 3 _ _ _ hx6
    have hn0 : w5.heap.size ≠ w.heap.size := by omega
    have hn2 : w5.heap.size ≠ w.heap.size + 1 + 1 := by omega
    have hn3 : w5.heap.size ≠ w.heap.size + 1 + 1 + 1 := by omega
    have hm0 : w.heap.size ≠ w5.heap.size := by omega
    have hm2 : w.heap.size + 1 + 1 ≠ w5.heap.size := by omega
    have hm3 : w.heap.size + 1 + 1 + 1 ≠ w5.heap.size := by omega
    clear hf6 hB6 hx6 hO6 hn6 hk6 HPU HN
    go_wp2_with fail
    go_region
    go_wp2_with fail
    refine bodyPost_ret (v := .tuple #[CelV ⟨up c.version, false, o.val, putM c.marks ⟨o.client, o.req, ⟨0, up c.version, false, ByteArray.empty⟩⟩⟩ A6 k6, AnsV ⟨0, up c.version, false, ByteArray.empty⟩, .bool true, .int .i64 0]) ?_ rfl ⟨A6, k6, rfl, ⟨?_, HF.out.2.2.1, HF.out.2.2.2, ?_, ?_⟩, ?_⟩
    · simp [results, Try.results23, go_sem, hc0, hc1, hc2, hr0, hr1, hr2, hr3, hs0, hs1, hs2, hs3, hg0, hg2, hg3]
      exact ⟨rfl, rfl⟩
    · refine OwnL.reads (k := 6) (e := 55) (n := (putM c.marks ⟨o.client, o.req, ⟨0, up c.version, false, ByteArray.empty⟩⟩).length) (c := k6) (B := w5.heap.size) ?_
      unfold OwnL
      have HF1 := HF.out.1
      unfold OwnL at HF1
      show Own _ _ _ _ _ (putM c.marks ⟨o.client, o.req, ⟨0, up c.version, false, ByteArray.empty⟩⟩).length ((putM c.marks ⟨o.client, o.req, ⟨0, up c.version, false, ByteArray.empty⟩⟩).flatMap Mark.enc)
      (repeat (first | with_reducible exact HF1 | with_reducible refine Own.drew ?_ | with_reducible refine Own.setlow ?_ (by omega) _))
      done
    · have := good_length (putM_good (m := ⟨o.client, o.req, ⟨0, up c.version, false, ByteArray.empty⟩⟩) HC.out.1 ⟨HX.out.1, HX.out.2.1, rfl, .inl rfl⟩)
      show (putM c.marks ⟨o.client, o.req, ⟨0, up c.version, false, ByteArray.empty⟩⟩).length < 2147483000
      omega
    · exact ho
    · (repeat (first | with_reducible exact HF.out.2.1 | with_reducible refine Below.drew ?_ | with_reducible refine below_drewN ?_ _ | with_reducible refine Below.setCell ?_ (by first | (show _ ≤ _; omega) | (simp; omega) | exact Nat.le_refl _ | simp) _ | with_reducible refine Below.alloc ?_ (by first | (show _ ≤ _; omega) | (simp; omega) | simp) _)); done
  | true =>
    obtain ⟨x, hxi, hxc⟩ := hbx.1 rfl
    have hm := hm x (ofM_hit hat x hxi hxc)
    have hq1 : decide (o.req ≤ x.req) = false := by simp; omega
    clear hbx hat
    obtain ⟨hi, him⟩ := List.getElem?_eq_some_iff.1 hxi
    obtain ⟨b, off, hAB, _, hx⟩ := ((HR.out.below hB4).reads).at_ (k := 6) Mark.enc_len (by decide) hi
    rw [him] at hx
    have g1 := hx 1 _ rfl
    clear hf4 hB4 hb4 hxi hx him hm
    subst hAB
    go_wp2_with fail
    go_quiet (fail)
    go_wp2_with fail
    go_region
    go_wp2_with fail
    refine (HN _).mono ?_
    rintro e w5 ⟨rfl, hb5⟩
    obtain ⟨hf5, hB5⟩ := DoF.setB HF.out hb5
    clear HF hb5 hc0 hc1 hc2 hc3 ho0' ho1' ho2' ho3' ho4' hg0
    have HF := Lib.hid (And.intro hf5 hB5)
    have hc0 := hf5.c0; have hc1 := hf5.c1; have hc2 := hf5.c2; have hc3 := hf5.c3
    have ho0' := hf5.o0; have ho1' := hf5.o1
    have hz0 := lt_of_heap hf5.b0
    have hz1 := lt_of_heap hf5.b1
    have hl5 := hB5.size
    go_wp2_with fail
    refine (HPU ⟨0, up c.version, false, ByteArray.empty⟩ _ ((Below.alloc hB5 hl5 _))).mono ?_
    rintro e w6 ⟨v', rfl, hO6, hb6⟩
    obtain ⟨hf6, hB6, hx6⟩ := DoF.put HF.out hb6
    obtain ⟨A6, k6, rfl, hn6, hk6⟩ := Own.isSlice hO6
    have hq6 : w.heap.size + 3 < w5.heap.size := lt_of_heap hf5.b3
    have hq7 : w5.heap.size < w6.heap.size := lt_of_heap hx6
    clear HF hb6 hc0 hc1 hc2 hc3 ho0' ho1' hz0 hz1 hf5 hB5 hl5
    have HF := Lib.hid (And.intro (Own.mono (B' := w5.heap.size) hO6 (by simp)) (And.intro hB6 (And.intro hn6 hk6)))
    have hc0 := hf6.c0; have hc1 := hf6.c1; have hc2 := hf6.c2; have hc3 := hf6.c3
    have hr0 := hf6.r0; have hr1 := hf6.r1; have hr2 := hf6.r2; have hr3 := hf6.r3
    have hs0 := hf6.s0; have hs1 := hf6.s1; have hs2 := hf6.s2; have hs3 := hf6.s3
    have hg0 := hf6.f0; have hg2 := hf6.f2; have hg3 := hf6.f3
    have p0 : w6.cell? ⟨w5.heap.size, 0, none⟩ = _ := cell_of_row w6 _ 0 _ _ _ hx6
    have p1 : w6.cell? ⟨w5.heap.size, 1, none⟩ = _ := cell_of_row w6 _ 1 _ _ _ hx6
    have p2 : w6.cell? ⟨w5.heap.size, 2, none⟩ = _ := cell_of_row w6 _ 2 _ _ _ hx6
    have p3 : w6.cell? ⟨w5.heap.size, 3, none⟩ = _ := cell_of_row w6 _ 3 _ _ _ hx6
    have hn0 : w5.heap.size ≠ w.heap.size := by omega
    have hn2 : w5.heap.size ≠ w.heap.size + 1 + 1 := by omega
    have hn3 : w5.heap.size ≠ w.heap.size + 1 + 1 + 1 := by omega
    have hm0 : w.heap.size ≠ w5.heap.size := by omega
    have hm2 : w.heap.size + 1 + 1 ≠ w5.heap.size := by omega
    have hm3 : w.heap.size + 1 + 1 + 1 ≠ w5.heap.size := by omega
    clear hf6 hB6 hx6 hO6 hn6 hk6 HPU HN
    go_wp2_with fail
    go_region
    go_wp2_with fail
    refine bodyPost_ret (v := .tuple #[CelV ⟨up c.version, false, o.val, putM c.marks ⟨o.client, o.req, ⟨0, up c.version, false, ByteArray.empty⟩⟩⟩ A6 k6, AnsV ⟨0, up c.version, false, ByteArray.empty⟩, .bool true, .int .i64 0]) ?_ rfl ⟨A6, k6, rfl, ⟨?_, HF.out.2.2.1, HF.out.2.2.2, ?_, ?_⟩, ?_⟩
    · simp [results, Try.results23, go_sem, hc0, hc1, hc2, hr0, hr1, hr2, hr3, hs0, hs1, hs2, hs3, hg0, hg2, hg3]
      exact ⟨rfl, rfl⟩
    · refine OwnL.reads (k := 6) (e := 55) (n := (putM c.marks ⟨o.client, o.req, ⟨0, up c.version, false, ByteArray.empty⟩⟩).length) (c := k6) (B := w5.heap.size) ?_
      unfold OwnL
      have HF1 := HF.out.1
      unfold OwnL at HF1
      show Own _ _ _ _ _ (putM c.marks ⟨o.client, o.req, ⟨0, up c.version, false, ByteArray.empty⟩⟩).length ((putM c.marks ⟨o.client, o.req, ⟨0, up c.version, false, ByteArray.empty⟩⟩).flatMap Mark.enc)
      (repeat (first | with_reducible exact HF1 | with_reducible refine Own.drew ?_ | with_reducible refine Own.setlow ?_ (by omega) _))
      done
    · have := good_length (putM_good (m := ⟨o.client, o.req, ⟨0, up c.version, false, ByteArray.empty⟩⟩) HC.out.1 ⟨HX.out.1, HX.out.2.1, rfl, .inl rfl⟩)
      show (putM c.marks ⟨o.client, o.req, ⟨0, up c.version, false, ByteArray.empty⟩⟩).length < 2147483000
      omega
    · exact ho
    · (repeat (first | with_reducible exact HF.out.2.1 | with_reducible refine Below.drew ?_ | with_reducible refine below_drewN ?_ _ | with_reducible refine Below.setCell ?_ (by first | (show _ ≤ _; omega) | (simp; omega) | exact Nat.le_refl _ | simp) _ | with_reducible refine Below.alloc ?_ (by first | (show _ ≤ _; omega) | (simp; omega) | simp) _)); done
end Go.Proofs.Ytfddpcmlmcohjaa
