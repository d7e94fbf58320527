/-
  espalierref17.Do: a swap or a delete that is done. Conditions: fewer marks than 2^31.
-/
import Derived.Test.YtfddpcmlmcohjaaRDo2
namespace Go.Proofs.Ytfddpcmlmcohjaa
open Go.RowKit
set_option linter.unusedVariables false
set_option linter.unusedSimpArgs false
set_option maxHeartbeats 4000000
set_option maxRecDepth 100000

theorem rdo_okv (w : World) (A : Option Addr) (k : Nat) (c : Cel) (o : Opr) (h : CelR w A k c) (ho : o.val.size ≤ maxLen) (hc : IsC c) (hx : IsO o) (hm : ∀ m, ofM c.marks o.client = some m → m.req < o.req) (hk : o.kind ≠ 1) (hk2 : o.kind ≠ 2) (hs : Bool) (hk4n : (o.kind != 4) = hs) (hv : o.version = c.version) :
    Calls Try.prog 24 #[CelV c A k, OprV o] w (DoP w (⟨up c.version, hs, o.val, putM c.marks ⟨o.client, o.req, ⟨0, up c.version, hs, ByteArray.empty⟩⟩⟩, ⟨0, up c.version, hs, ByteArray.empty⟩, true, 0)) := by
  have hf1 := doStart_frame w A k c o
  have hb1 := doStart_below w A k c o
  obtain ⟨W1, hW1⟩ : ∃ W1, W1 = doStart w A k c o := ⟨_, rfl⟩
  rw [← hW1] at hf1 hb1
  have HI := risC_c W1 A k c (h.below hb1)
  rw [decide_eq_true hc] at HI
  have HJ := fun w => risO_c o w ho
  rw [decide_eq_true hx] at HJ
  unfold OprV at HJ
  unfold CelV at HI
  unfold doStart at hW1
  have HOF := RdoHat h o.client
  have HPU : ∀ (a : Ans) w4, Below w.heap.size w w4 → Calls Try.prog 45 #[.slice A c.marks.length k, .agg #[.int .i64 o.client, .int .u64 o.req, .int .i64 a.code, .int .u64 a.version, .bool a.has, .string a.val]] w4 (fun e w' => ∃ v', e = .returned v' ∧ OwnL Mark.enc 6 w' w4.heap.size 55 v' (putM c.marks ⟨o.client, o.req, a⟩) ∧ Below w4.heap.size w4 w') := fun a w4 hb => rmark_c w4 A k c.marks ⟨o.client, o.req, a⟩ (h.below hb).reads h.small h.le h.cap
  unfold up at *
  have hk1 : (o.kind == 1) = false := by simp [hk]
  have HK : Hid ((o.kind != 2) = true ∧ (o.version != c.version) = false) := ⟨by simp [hk2], by simp [hv]⟩
  clear hv hk2
  obtain ⟨m, b, hmb, hm⟩ : ∃ m b, OfV (ofM c.marks o.client) = .tuple #[MarkV m, .bool b] ∧ (b = true → m.req < o.req) := by
    cases he : ofM c.marks o.client with
    | none => exact ⟨zeroMark, false, rfl, fun h => by cases h⟩
    | some m => exact ⟨m, true, rfl, fun _ => hm m he⟩
  rw [hmb] at HOF
  unfold MarkV at HOF
  clear hmb
  clear hk
  have HR := Lib.hid h
  have HC := Lib.hid hc
  have HX := Lib.hid hx
  clear h hx hc
  unfold CelV OprV
  go_enter Try.func24, Try.ntmps24
  go_wp2_with fail
  rw [← hW1]
  refine HI.mono ?_
  rintro e w2 ⟨rfl, hb2⟩
  have hf2 := hf1.below hb2
  have hB2 := hb1.trans (hb2.mono hb1.size)
  have HF := Lib.hid (And.intro hf2 hB2)
  have ho0 := hf2.o0; have ho1 := hf2.o1; have ho2 := hf2.o2; have ho3 := hf2.o3; have ho4 := hf2.o4
  clear HI hf1 hb1 hW1 hf2 hB2 hb2
  go_wp2_with fail
  refine (HJ _).mono ?_
  rintro e w3 ⟨rfl, hb3⟩
  have hf3 := HF.out.1.below hb3
  have hB3 := HF.out.2.trans (hb3.mono HF.out.2.size)
  clear HF
  have HF := Lib.hid (And.intro hf3 hB3)
  have hc0 := hf3.c0; have hc1 := hf3.c1; have hc2 := hf3.c2; have hc3 := hf3.c3
  have ho0' := hf3.o0; have ho1' := hf3.o1; have ho2' := hf3.o2; have ho3' := hf3.o3; have ho4' := hf3.o4
  clear ho0 ho1 ho2 ho3 ho4 hf3 hB3 hb3 HJ
  have hB3 := HF.out.2
  have hy0 := lt_of_heap HF.out.1.b0
  have hy1 := lt_of_heap HF.out.1.b1
  go_wp2_with fail
  refine (HOF _ ?_).mono ?_
  · (repeat (first | with_reducible exact hB3 | with_reducible refine Below.drew ?_ | with_reducible refine below_drewN ?_ _ | with_reducible refine Below.setCell ?_ (by first | (show _ ≤ _; omega) | (simp; omega) | exact Nat.le_refl _ | simp) _ | with_reducible refine Below.alloc ?_ (by first | (show _ ≤ _; omega) | (simp; omega) | simp) _)); done
  rintro e w4 ⟨rfl, hb4⟩
  obtain ⟨hf4, hB4, hx4⟩ := DoF.put HF.out hb4
  have hq3 : w.heap.size + 3 < w3.heap.size := lt_of_heap HF.out.1.b3
  have hq4 : w3.heap.size < w4.heap.size := lt_of_heap hx4
  clear hy0 hy1 HF hb4 hB3 hc0 hc1 hc2 hc3 ho0' ho1' ho2' ho3' ho4'
  have HF := Lib.hid (And.intro hf4 (And.intro hB4 hx4))
  have hc0 := hf4.c0; have hc1 := hf4.c1; have hc2 := hf4.c2; have hc3 := hf4.c3
  have ho0' := hf4.o0; have ho1' := hf4.o1; have ho2' := hf4.o2; have ho3' := hf4.o3; have ho4' := hf4.o4
  have a0 : w4.cell? ⟨w3.heap.size, 0, none⟩ = _ := cell_of_row w4 _ 0 _ _ _ hx4
  have a1 : w4.cell? ⟨w3.heap.size, 1, none⟩ = _ := cell_of_row w4 _ 1 _ _ _ hx4
  have a2 : w4.cell? ⟨w3.heap.size, 2, none⟩ = _ := cell_of_row w4 _ 2 _ _ _ hx4
  have a3 : w4.cell? ⟨w3.heap.size, 3, none⟩ = _ := cell_of_row w4 _ 3 _ _ _ hx4
  have fa : ∀ j, w4.frozen? ⟨w3.heap.size, j, none⟩ = false := fun j => by simp [World.frozen?, hx4]
  have hz0 := lt_of_heap hf4.b0
  have hz1 := lt_of_heap hf4.b1
  have hz2 : w.heap.size + 1 + 1 < w4.heap.size := lt_of_heap hf4.b2
  have hz3 : w.heap.size + 1 + 1 + 1 < w4.heap.size := lt_of_heap hf4.b3
  have hr0 := hf4.r0; have hr1 := hf4.r1; have hr2 := hf4.r2; have hr3 := hf4.r3
  have hs0 := hf4.s0; have hs1 := hf4.s1; have hs2 := hf4.s2; have hs3 := hf4.s3
  have hg2 := hf4.f2
  have hg3 := hf4.f3
  clear hf4 hB4 hx4 HOF
  go_upto_region 7 with fail
  go_cut [51] (fun s51 wx => s51 = .bool false ∧ wx = w4.alloc (.cells #[.int .i64 m.client, .int .u64 m.req, .int .i64 m.ans.code, .int .u64 m.ans.version, .bool m.ans.has, .string m.ans.val] 55))
  case first =>
    cases b
    · go_wp2_with fail
      go_meet
      exact ⟨rfl, rfl⟩
    · have hq1 : (m.req == o.req) = false := by have := hm rfl; simp; omega
      go_wp2_with fail
      go_meet
      exact ⟨rfl, rfl⟩
  case rest =>
  obtain ⟨rfl, rfl⟩ := hcut
  go_upto_region 9 with fail
  go_cut [62] (fun s62 wx => s62 = .bool false ∧ wx = w4.alloc (.cells #[.int .i64 m.client, .int .u64 m.req, .int .i64 m.ans.code, .int .u64 m.ans.version, .bool m.ans.has, .string m.ans.val] 55))
  case first =>
    cases b
    · go_wp2_with fail
      go_meet
      exact ⟨rfl, rfl⟩
    · have hq2 : decide (o.req < m.req) = false := by have := hm rfl; simp; omega
      go_wp2_with fail
      go_meet
      exact ⟨rfl, rfl⟩
  case rest =>
  obtain ⟨rfl, rfl⟩ := hcut
  have hk2 := HK.out.1
  have hv1 := HK.out.2
  go_wp2_with fail
  obtain ⟨W5, hW5, hf5, hB5, hx5⟩ := DoF.ok5 HF.out #[.int .i64 m.client, .int .u64 m.req, .int .i64 m.ans.code, .int .u64 m.ans.version, .bool m.ans.has, .string m.ans.val] (.int .i64 0) (.int .u64 (IntKind.u64.wrap (c.version + 1))) (.bool hs) (.string ⟨#[]⟩)
  rw [hW5]
  have HW := Lib.hid (And.intro hf5 (And.intro hB5 (And.intro hx5 (And.intro hq3 hq4))))
  clear HF hc0 hc1 hc2 hc3 ho0' ho1' ho2' ho3' ho4' a0 a1 a2 a3 fa hz0 hz1 hz2 hz3 hr0 hr1 hr2 hr3 hs0 hs1 hs2 hs3 hg2 hg3 hk1 hk4n hk2 hv1 hm hq3 hq4 hW5
  have ho4' := hf5.o4
  have hc3 := hf5.c3
  have ho0' := hf5.o0; have ho1' := hf5.o1
  have p0 : W5.cell? ⟨w4.heap.size + 1, 0, none⟩ = some (.int .i64 0) := cell_of_row W5 _ 0 _ _ _ hx5
  have p1 : W5.cell? ⟨w4.heap.size + 1, 1, none⟩ = some (.int .u64 (IntKind.u64.wrap (c.version + 1))) := cell_of_row W5 _ 1 _ _ _ hx5
  have p2 : W5.cell? ⟨w4.heap.size + 1, 2, none⟩ = some (.bool hs) := cell_of_row W5 _ 2 _ _ _ hx5
  have p3 : W5.cell? ⟨w4.heap.size + 1, 3, none⟩ = some (.string ⟨#[]⟩) := cell_of_row W5 _ 3 _ _ _ hx5
  have hZ0 : w.heap.size < W5.drew.heap.size := World.block_lt_of_cell? _ _ hc3
  have hZ1 : w.heap.size + 1 < W5.drew.heap.size := World.block_lt_of_cell? _ _ ho0'
  have hZ2 : w4.heap.size + 1 < W5.drew.heap.size := World.block_lt_of_cell? _ _ p0
  have hd0 : w.heap.size ≠ W5.heap.size := Nat.ne_of_lt hZ0
  have hd1 : w.heap.size + 1 ≠ W5.heap.size := Nat.ne_of_lt hZ1
  have hd2 : w4.heap.size + 1 ≠ W5.heap.size := Nat.ne_of_lt hZ2
  have hBa : ∀ o, Below W5.heap.size W5 (W5.alloc o).drew := fun o => ((Below.refl _ _).alloc (Nat.le_refl _) _).drew
  have hBd : Below W5.heap.size W5 W5.drew := (Below.refl _ _).drew
  clear hf5 hB5 hx5
  show Code.wp Try.prog (Code.region _ _ _) _ _ _
  go_region_held3 (fun w' => w'.cell? ⟨w.heap.size, 3, none⟩ = some (.slice A c.marks.length k) ∧ w'.cell? ⟨w.heap.size + 1, 0, none⟩ = some (.int .i64 o.client) ∧ w'.cell? ⟨w.heap.size + 1, 1, none⟩ = some (.int .u64 o.req) ∧ w'.cell? ⟨w.heap.size + 1, 4, none⟩ = some (.string o.val) ∧
    w'.cell? ⟨w4.heap.size + 1, 0, none⟩ = some (.int .i64 0) ∧ w'.cell? ⟨w4.heap.size + 1, 1, none⟩ = some (.int .u64 (IntKind.u64.wrap (c.version + 1))) ∧ w'.cell? ⟨w4.heap.size + 1, 2, none⟩ = some (.bool hs) ∧ w'.cell? ⟨w4.heap.size + 1, 3, none⟩ = some (.string ⟨#[]⟩) ∧ Below W5.heap.size W5 w')
    ((go_split_ands; (repeat' apply And.intro) <;> first | with_reducible assumption | with_reducible exact hBa _ | with_reducible exact Below.keepc hb6 (by assumption) | with_reducible exact Below.keept (by assumption) hb6 | with_reducible exact Below.keepc ((Below.refl _ _).alloc (Nat.le_refl _) _) (by assumption) | (with_reducible refine Below.alloc ?_ (Below.size (by assumption)) _; with_reducible assumption) | (with_reducible refine Below.drew (Below.alloc ?_ (Below.size (by assumption)) _); with_reducible assumption) | with_reducible exact alloc_swap (by assumption) (Nat.lt_of_lt_of_le hZ0 hb6.size) | with_reducible exact alloc_swap (by assumption) (Nat.lt_of_lt_of_le hZ1 hb6.size) | with_reducible exact alloc_swap (by assumption) (Nat.lt_of_lt_of_le hZ2 hb6.size) | with_reducible exact cell_set4 (by assumption) hd0 | with_reducible exact cell_set4 (by assumption) hd1 | with_reducible exact cell_set4 (by assumption) hd2 | with_reducible exact Below.set4 (by assumption) (Nat.le_refl _) | with_reducible exact (Below.keept hBd hb6).alloc (Below.size (Below.keept hBd hb6)) _ | go_keep))
    (first | (go_at_call 45; refine (HPU ⟨0, up c.version, hs, ByteArray.empty⟩ _ ?_).mono ?_; (case refine_1 => (go_split_ands; exact Below.keept HW.out.2.1 (by assumption))); rintro e w6 ⟨v', rfl, hO6, hb6⟩; obtain ⟨A6, k6, rfl, hn6, hk6⟩ := Own.isSlice hO6; try (have z6 : w6.heap[W5.heap.size]? = some (.cells #[.int .u64 0, .bool false, .string ⟨#[]⟩, .slice none 0 0] 41 (0, 0)) := (hb6.block _ (lt_of_heap (heap_alloc_new W5 _))).trans (heap_alloc_new W5 _); have z0 : w6.cell? ⟨W5.heap.size, 0, none⟩ = some (.int .u64 0) := cell_of_row w6 _ 0 _ _ _ z6; have z1 : w6.cell? ⟨W5.heap.size, 1, none⟩ = some (.bool false) := cell_of_row w6 _ 1 _ _ _ z6; have z2 : w6.cell? ⟨W5.heap.size, 2, none⟩ = some (.string ⟨#[]⟩) := cell_of_row w6 _ 2 _ _ _ z6; have z3 : w6.cell? ⟨W5.heap.size, 3, none⟩ = some (.slice none 0 0) := cell_of_row w6 _ 3 _ _ _ z6; have zf : ∀ j, w6.frozen? ⟨W5.heap.size, j, none⟩ = false := fun j => by simp [World.frozen?, z6])))
  all_goals first
    | (have hz6 := z6
       generalize hX : ((((w6.setCell ⟨W5.heap.size, 0, none⟩ _).setCell ⟨W5.heap.size, 1, none⟩ _).setCell ⟨W5.heap.size, 2, none⟩ _).setCell ⟨W5.heap.size, 3, none⟩ _) = X
       obtain ⟨g, hg⟩ : ∃ g, W5.heap.size = g := ⟨_, rfl⟩
       have hfin := fin2 hz6 hb6 hO6 hX hg
       clear hX hz6
       rw [hg])
    | (generalize hX : w6.alloc (.cells _ _) = X
       obtain ⟨g, hg⟩ : ∃ g, w6.heap.size = g := ⟨_, rfl⟩
       have hfin := fin1 hb6 hO6 hX hg
       clear hX
       rw [hg])
  all_goals
    rename_i hh
    clear hh
    obtain ⟨hbX, hxg, hOX, hgW⟩ := hfin
    have hf6 := HW.out.1.below hbX
    have hB6 := Below.keept HW.out.2.1 hbX
    have hx6 := (hbX.block _ (lt_of_heap HW.out.2.2.1)).trans HW.out.2.2.1
    have hq3 := HW.out.2.2.2.1
    have hq4 := HW.out.2.2.2.2
    have hq5 := lt_of_heap HW.out.1.b3
    have HO := Lib.hid (And.intro hOX (And.intro hB6 (And.intro hn6 hk6)))
    have u0 : X.cell? ⟨g, 0, none⟩ = _ := cell_of_row X _ 0 _ _ _ hxg
    have u1 : X.cell? ⟨g, 1, none⟩ = _ := cell_of_row X _ 1 _ _ _ hxg
    have u2 : X.cell? ⟨g, 2, none⟩ = _ := cell_of_row X _ 2 _ _ _ hxg
    have u3 : X.cell? ⟨g, 3, none⟩ = _ := cell_of_row X _ 3 _ _ _ hxg
    clear HW hb6 hbX p0 p1 p2 p3 hc3 ho0' ho1' hZ0 hZ1 hZ2 hd0 hd1 hd2 hBa hBd HPU hOX hB6 hn6 hk6 hxg
    have p0 : X.cell? ⟨w4.heap.size + 1, 0, none⟩ = _ := cell_of_row X _ 0 _ _ _ hx6
    have p1 : X.cell? ⟨w4.heap.size + 1, 1, none⟩ = _ := cell_of_row X _ 1 _ _ _ hx6
    have p2 : X.cell? ⟨w4.heap.size + 1, 2, none⟩ = _ := cell_of_row X _ 2 _ _ _ hx6
    have p3 : X.cell? ⟨w4.heap.size + 1, 3, none⟩ = _ := cell_of_row X _ 3 _ _ _ hx6
    have hr0 := hf6.r0; have hr1 := hf6.r1; have hr2 := hf6.r2; have hr3 := hf6.r3
    have hs0 := hf6.s0; have hs1 := hf6.s1; have hs2 := hf6.s2; have hs3 := hf6.s3
    have hg2 := hf6.f2; have hg3 := hf6.f3
    have HQ := Lib.hid (And.intro hq5 hgW)
    have y1 : g ≠ w.heap.size + 1 + 1 := by omega
    have y2 : g ≠ w.heap.size + 1 + 1 + 1 := by omega
    have y3 : w4.heap.size + 1 ≠ w.heap.size + 1 + 1 := by omega
    have y4 : w4.heap.size + 1 ≠ w.heap.size + 1 + 1 + 1 := by omega
    have x1 := y1.symm; have x2 := y2.symm; have x3 := y3.symm; have x4 := y4.symm
    clear hf6 hx6 hq3 hq4 hq5 hgW hO6
    go_wp2_with fail
    go_region
    go_wp2_with fail
    refine bodyPost_ret (v := .tuple #[CelV ⟨up c.version, hs, o.val, putM c.marks ⟨o.client, o.req, ⟨0, up c.version, hs, ByteArray.empty⟩⟩⟩ A6 k6, AnsV ⟨0, up c.version, hs, ByteArray.empty⟩, .bool true, .int .i64 0]) ?_ rfl ⟨A6, k6, rfl, ⟨?_, HO.out.2.2.1, HO.out.2.2.2, ?_, ?_⟩, ?_⟩
    · simp [results, Try.results24, go_sem, u0, u1, u2, u3, p0, p1, p2, p3, hr0, hr1, hr2, hr3, hs0, hs1, hs2, hs3, hg2, hg3]
      exact ⟨rfl, rfl⟩
    · refine OwnL.reads (k := 6) (e := 55) (n := (putM c.marks ⟨o.client, o.req, ⟨0, up c.version, hs, ByteArray.empty⟩⟩).length) (c := k6) (B := W5.heap.size) ?_
      have HF1 := HO.out.1
      have hq5 := HQ.out.1
      show Own _ _ _ _ _ (putM c.marks ⟨o.client, o.req, ⟨0, up c.version, hs, ByteArray.empty⟩⟩).length ((putM c.marks ⟨o.client, o.req, ⟨0, up c.version, hs, ByteArray.empty⟩⟩).flatMap Mark.enc)
      (repeat (first | with_reducible exact HF1 | with_reducible refine Own.drew ?_ | with_reducible refine Own.setlow ?_ (by omega) _))
      done
    · have := good_length (putM_good (m := ⟨o.client, o.req, ⟨0, up c.version, hs, ByteArray.empty⟩⟩) HC.out.1 ⟨HX.out.1, HX.out.2.1, rfl, .inl rfl⟩)
      show (putM c.marks ⟨o.client, o.req, ⟨0, up c.version, hs, ByteArray.empty⟩⟩).length < 2147483000
      omega
    · exact ho
    · (repeat (first | with_reducible exact HO.out.2.1 | with_reducible refine Below.drew ?_ | with_reducible refine below_drewN ?_ _ | with_reducible refine Below.setCell ?_ (by first | (show _ ≤ _; omega) | (simp; omega) | exact Nat.le_refl _ | simp) _ | with_reducible refine Below.alloc ?_ (by first | (show _ ≤ _; omega) | (simp; omega) | simp) _)); done
end Go.Proofs.Ytfddpcmlmcohjaa
