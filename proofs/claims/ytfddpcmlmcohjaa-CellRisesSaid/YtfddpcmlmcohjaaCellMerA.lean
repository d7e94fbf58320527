/-
  The program's cell.Merge of two right cells. Conditions: fewer marks than 2^31.
-/
import Derived.Test.YtfddpcmlmcohjaaCellMer
namespace Go.Proofs.Ytfddpcmlmcohjaa
open Go.RowKit
set_option linter.unusedVariables false
set_option linter.unusedSimpArgs false
set_option maxHeartbeats 2000000
set_option maxRecDepth 100000

theorem mer_oka (w : World) (A1 A2 : Option Addr) (k1 k2 : Nat) (a b : Cel) (ha : CelR w A1 k1 a) (hb : CelR w A2 k2 b) (hx0 : IsC a) (hx : IsC b) (hv : ¬ a.version < b.version) :
    Calls Try.prog 31 #[CelV a A1 k1, CelV b A2 k2] w (MerP w (⟨a.version, a.has, a.val, mergeM a.marks b.marks⟩, 0)) := by
  obtain ⟨W1, hW1, hf1, hb1⟩ := meStart w A1 A2 k1 k2 a b
  have HI := isC_c W1 A1 k1 a (ha.below hb1)
  rw [decide_eq_true hx0] at HI
  have HJ := fun w' (h : Below w.heap.size w w') => isC_c w' A2 k2 b (hb.below h)
  rw [decide_eq_true hx] at HJ
  have HCL := fun w' (h : Below w.heap.size w w') => clone_c w' A1 k1 a.marks (ha.below h).reads ha.small
  have HFI := fun w' c (h : Below w.heap.size w w') (hc : 0 ≤ c ∧ c ≤ 63) => findM_c w' A1 k1 a.marks c (ha.below h).reads ha.small hx0.1.1 (fun m hm => ⟨(hx0.1.2 m hm).1, (hx0.1.2 m hm).2.1⟩) hc
  have HP : Hid (CelR w A1 k1 a ∧ CelR w A2 k2 b ∧ IsC a ∧ IsC b) := ⟨ha, hb, hx0, hx⟩
  have hd : decide (a.version < b.version) = false := by simp; omega
  have hsb := hb.small
  unfold CelV at *
  have a0 := hf1.a0; have a1 := hf1.a1; have a2 := hf1.a2; have a3 := hf1.a3
  clear hx ha hb hx0 hv
  go_enter Try.func31, Try.ntmps31
  go_wp2_with fail
  refine HI.mono ?_
  rintro e w2 ⟨rfl, hb2⟩
  have hf2 := hf1.below hb2
  have HF := Lib.hid (And.intro hf2 (hb1.trans (hb2.mono hb1.size)))
  have c0 := hf2.c0; have c1 := hf2.c1; have c2 := hf2.c2; have c3 := hf2.c3
  clear hf2 hb2 hb1 hf1 HI a0 a1 a2 a3
  go_wp2_with fail
  refine (HJ _ HF.out.2).mono ?_
  rintro e w3 ⟨rfl, hb3⟩
  have hf3 := HF.out.1.below hb3
  have hB3 := HF.out.2.trans (hb3.mono HF.out.2.size)
  have HF2 := Lib.hid (And.intro hf3 hB3)
  have a0 := hf3.a0; have a1 := hf3.a1; have a2 := hf3.a2; have a3 := hf3.a3
  clear hb3 HF HJ c0 c1 c2 c3
  have c0 := hf3.c0; have c1 := hf3.c1; have c2 := hf3.c2; have c3 := hf3.c3
  have hz0 := lt_of_heap hf3.b0
  have hz1 := lt_of_heap hf3.b1
  clear hf3
  go_wp2_with fail
  refine (HCL _ (Below.alloc hB3 hB3.size _)).mono ?_
  rintro e w5 ⟨v5, rfl, hO5, hb5⟩
  have hO5' : OwnL Mark.enc 6 w5 (w3.heap.size + 1) 55 v5 a.marks := Own.mono hO5 (by simp)
  have hML := MeL.store (MeF.alloc HF2.out.1 HF2.out.2 (.int .u64 a.version) (.bool a.has) (.string a.val) (.slice A1 a.marks.length k1)) hb5 (Nat.lt_succ_self _) hO5' HP.out.2.2.1.1
  have hx5 := (hb5.block _ (lt_of_heap (heap_alloc_new w3 _))).trans (heap_alloc_new w3 (.cells #[.int .u64 a.version, .bool a.has, .string a.val, .slice A1 a.marks.length k1] 41))
  have d3 : w5.cell? ⟨w3.heap.size, 3, none⟩ = some (.slice A1 a.marks.length k1) := cell_of_row w5 _ 3 _ _ _ hx5
  have df : ∀ j, w5.frozen? ⟨w3.heap.size, j, none⟩ = false := fun j => by simp [World.frozen?, hx5]
  have hz3 : w.heap.size + 2 < w3.heap.size := lt_of_heap HF2.out.1.b2
  have c3' : w5.cell? ⟨w.heap.size + 1, 3, none⟩ = some (.slice A2 b.marks.length k2) := by
    have h := (HF2.out.1.below ((Below.refl _ _).alloc (Nat.le_refl _) (.cells #[.int .u64 a.version, .bool a.has, .string a.val, .slice A1 a.marks.length k1] 41))).below hb5
    exact h.c3
  have hn1 : w3.heap.size ≠ w.heap.size + 1 := by omega
  have hn2 := hn1.symm
  clear hO5 hO5' hb5 hx5 hB3 hz0 hz1 a0 a1 a2 a3 c0 c1 c2 c3 hd HCL
  obtain ⟨A5, k5, rfl, _, _⟩ := Own.isSlice hML.own.choose_spec.2
  go_wp2_with fail
  go_loopw [34] (fun i wr => ∃ (j : Nat) (v : Value), i = .int .i64 j ∧ j ≤ b.marks.length ∧ MeL w wr A1 k1 a A2 k2 b w3.heap.size (.int .u64 a.version) (.bool a.has) (.string a.val) v ((b.marks.take j).foldl (stepM a.marks) a.marks)) (fun i _ => b.marks.length - (intOf i).toNat)
  case atStart => exact ⟨0, _, rfl, Nat.zero_le _, hML⟩
  case round =>
    rename_i wr _
    obtain ⟨j, v, rfl, hj, hM⟩ := hrel
    clear hML d3 df c3'
    obtain ⟨B, hB, hO⟩ := hM.own
    obtain ⟨A', k', rfl, hn', hk'⟩ := Own.isSlice hO
    have hx := hM.blk
    by_cases hlt : j < b.marks.length
    · obtain ⟨m, hm⟩ : ∃ m, m = b.marks[j] := ⟨_, rfl⟩
      have hmk : markOk m := HP.out.2.2.2.1.2 m (by rw [hm]; exact List.getElem_mem hlt)
      have hfold : (b.marks.take (j + 1)).foldl (stepM a.marks) a.marks = stepM a.marks ((b.marks.take j).foldl (stepM a.marks) a.marks) m := by
        rw [List.take_succ_eq_append_getElem hlt, List.foldl_append, hm]; rfl
      obtain ⟨bb, ob, rfl, _, hg⟩ := (HP.out.2.1.below hM.below).reads.at_ (k := 6) Mark.enc_len (by decide) hlt
      rw [← hm] at hg
      have g0 := hg 0 _ rfl
      have g1 := hg 1 _ rfl
      have g2 := hg 2 _ rfl
      have g3 := hg 3 _ rfl
      have g4 := hg 4 _ rfl
      have g5 := hg 5 _ rfl
      simp only [Nat.add_zero] at g0
      have hbm : Below wr.heap.size wr (wr.alloc (.cells m.enc.toArray 55)) := (Below.refl _ _).alloc (Nat.le_refl _) _
      have hxm := heap_alloc_new wr (.cells m.enc.toArray 55)
      have hM6 := hM.more hbm
      have hF := HFI _ m.client hM6.below ⟨hmk.1, hmk.2.1⟩
      have a3 := hM.me.a3
      have hz0 := lt_of_heap hM.me.b0
      have HM6 := Lib.hid hM6
      have HG := Lib.hid hM.good
      have HMK := Lib.hid hmk
      have HFO := Lib.hid hfold
      have HO := Lib.hid hO
      clear hg hm hM6 hfold hmk hM hO hx
      go_wp2_with fail
      refine hF.mono ?_
      rintro e w7 ⟨i, fd, rfl, hat, hbx, hb7⟩
      have hM7 := HM6.out.more hb7
      have hO7 := Own.below (Own.below HO.out hbm) hb7
      have hx7 := (hb7.block _ (lt_of_heap hxm)).trans hxm
      have m0 : w7.cell? ⟨wr.heap.size, 0, none⟩ = some (.int .i64 m.client) := cell_of_row w7 _ 0 _ _ _ hx7
      have m1 : w7.cell? ⟨wr.heap.size, 1, none⟩ = some (.int .u64 m.req) := cell_of_row w7 _ 1 _ _ _ hx7
      have m2 : w7.cell? ⟨wr.heap.size, 2, none⟩ = some (.int .i64 m.ans.code) := cell_of_row w7 _ 2 _ _ _ hx7
      have m3 : w7.cell? ⟨wr.heap.size, 3, none⟩ = some (.int .u64 m.ans.version) := cell_of_row w7 _ 3 _ _ _ hx7
      have m4 : w7.cell? ⟨wr.heap.size, 4, none⟩ = some (.bool m.ans.has) := cell_of_row w7 _ 4 _ _ _ hx7
      have m5 : w7.cell? ⟨wr.heap.size, 5, none⟩ = some (.string m.ans.val) := cell_of_row w7 _ 5 _ _ _ hx7
      have a3' := hM7.me.a3
      have d3' : w7.cell? ⟨w3.heap.size, 3, none⟩ = _ := cell_of_row w7 _ 3 _ _ _ hM7.blk
      clear hF hxm hx7 hb7 hbm a3 hz0 g0 g1 g2 g3 g4 g5
      cases fd with
      | false =>
        have hno : ofM a.marks m.client = none := ofM_miss HP.out.2.2.1.1.1 hat (fun x hx hc => by have := hbx.2 ⟨x, hx, hc⟩; cases this)
        have HS : Hid ((b.marks.take (j + 1)).foldl (stepM a.marks) a.marks = putM ((b.marks.take j).foldl (stepM a.marks) a.marks) m) := by
          show _ = _
          rw [HFO.out]; unfold stepM; rw [hno]
        clear hat hbx hno
        go_wp2_with fail
        go_quiet (fail)
        have HPU := put17_c (w7.drewN nq) A' k' ((b.marks.take j).foldl (stepM a.marks) a.marks) m (OwnL.reads hO7) (by have := good_length HG.out; omega) HG.out.1 (fun m hm => ⟨(HG.out.2 m hm).1, (HG.out.2 m hm).2.1⟩) ⟨HMK.out.1, HMK.out.2.1⟩
        clear hO7
        go_wp2_with fail
        refine HPU.mono ?_
        rintro e w8 ⟨v8, rfl, hO8, hb8⟩
        obtain ⟨A8, k8, rfl, _, _⟩ := Own.isSlice hO8
        have hML := MeL.store (hM7.drewN nq).four hb8 (B := w7.heap.size) (Nat.lt_of_lt_of_le (lt_of_heap hM7.blk) (Nat.le_refl _)) hO8 (putM_good HG.out HMK.out)
        have hx8 := (hb8.block _ (lt_of_heap hM7.blk)).trans hM7.blk
        have d3 : w8.cell? ⟨w3.heap.size, 3, none⟩ = _ := cell_of_row w8 _ 3 _ _ _ hx8
        have df : ∀ j, w8.frozen? ⟨w3.heap.size, j, none⟩ = false := fun j => by simp [World.frozen?, hx8]
        have HML := Lib.hid hML
        clear hML hx8 hb8 hO8 HPU
        go_wp2_with fail
        exact ⟨⟨j + 1, _, by go_num, by omega, by rw [HS.out]; exact HML.out⟩, by simp [intOf]; omega⟩
      | true =>
        obtain ⟨x, hxi, hxc⟩ := hbx.1 rfl
        have hof := ofM_hit hat x hxi hxc
        obtain ⟨hi, him⟩ := List.getElem?_eq_some_iff.1 hxi
        obtain ⟨ba, oa, rfl, _, hg⟩ := (HP.out.1.below hM7.below).reads.at_ (k := 6) Mark.enc_len (by decide) hi
        rw [him] at hg
        have x0 := hg 0 _ rfl
        have x1 := hg 1 _ rfl
        have x2 := hg 2 _ rfl
        have x3 := hg 3 _ rfl
        have x4 := hg 4 _ rfl
        have x5 := hg 5 _ rfl
        simp only [Nat.add_zero] at x0
        have hnq := fun x y w => neqMark x y w
        have hgd := guardMark
        have HSt : Hid ((b.marks.take (j + 1)).foldl (stepM a.marks) a.marks = if x.req < m.req then putM ((b.marks.take j).foldl (stepM a.marks) a.marks) m else (b.marks.take j).foldl (stepM a.marks) a.marks) := by
          show _ = _
          rw [HFO.out]; unfold stepM; rw [hof]
        clear hat hbx hof hxi hxc him hg
        by_cases hlq : x.req < m.req
        · have HS : Hid ((b.marks.take (j + 1)).foldl (stepM a.marks) a.marks = putM ((b.marks.take j).foldl (stepM a.marks) a.marks) m) := by
            show _ = _
            rw [HSt.out, if_pos hlq]
          have he : decide (x = m) = false := by simp; intro h; subst h; omega
          have hl : decide (x.req < m.req) = true := by simp [hlq]
          clear hlq
          go_wp2_with fail
          go_quiet (fail)
          have HPU := put17_c (w7.drewN nq) A' k' ((b.marks.take j).foldl (stepM a.marks) a.marks) m (OwnL.reads hO7) (by have := good_length HG.out; omega) HG.out.1 (fun m hm => ⟨(HG.out.2 m hm).1, (HG.out.2 m hm).2.1⟩) ⟨HMK.out.1, HMK.out.2.1⟩
          clear hO7
          go_wp2_with fail
          refine HPU.mono ?_
          rintro e w8 ⟨v8, rfl, hO8, hb8⟩
          obtain ⟨A8, k8, rfl, _, _⟩ := Own.isSlice hO8
          have hML := MeL.store (hM7.drewN nq).four hb8 (B := w7.heap.size) (Nat.lt_of_lt_of_le (lt_of_heap hM7.blk) (Nat.le_refl _)) hO8 (putM_good HG.out HMK.out)
          have hx8 := (hb8.block _ (lt_of_heap hM7.blk)).trans hM7.blk
          have d3 : w8.cell? ⟨w3.heap.size, 3, none⟩ = _ := cell_of_row w8 _ 3 _ _ _ hx8
          have df : ∀ j, w8.frozen? ⟨w3.heap.size, j, none⟩ = false := fun j => by simp [World.frozen?, hx8]
          have HML := Lib.hid hML
          clear hML hx8 hb8 hO8 HPU
          go_wp2_with fail
          exact ⟨⟨j + 1, _, by go_num, by omega, by rw [HS.out]; exact HML.out⟩, by simp [intOf]; omega⟩
        · have HS : Hid ((b.marks.take (j + 1)).foldl (stepM a.marks) a.marks = (b.marks.take j).foldl (stepM a.marks) a.marks) := by
            show _ = _
            rw [HSt.out, if_neg hlq]
          have hl : decide (x.req < m.req) = false := by simp; omega
          clear hlq
          by_cases he : x = m
          · have he : decide (x = m) = true := by simp [he]
            go_wp2_with fail
            go_quiet (fail)
            have hML := hM7.drewN nq
            have HML := Lib.hid hML
            clear hML hO7
            go_wp2_with fail
            exact ⟨⟨j + 1, _, by go_num, by omega, by rw [HS.out]; exact HML.out⟩, by simp [intOf]; omega⟩
          · have he : decide (x = m) = false := by simp [he]
            go_wp2_with fail
            go_quiet (fail)
            have hML := hM7.drewN nq
            have HML := Lib.hid hML
            clear hML hO7
            go_wp2_with fail
            exact ⟨⟨j + 1, _, by go_num, by omega, by rw [HS.out]; exact HML.out⟩, by simp [intOf]; omega⟩
    · obtain rfl : j = b.marks.length := by omega
      have q0 : wr.cell? ⟨w3.heap.size, 0, none⟩ = _ := cell_of_row wr _ 0 _ _ _ hx
      have q1 : wr.cell? ⟨w3.heap.size, 1, none⟩ = _ := cell_of_row wr _ 1 _ _ _ hx
      have q2 : wr.cell? ⟨w3.heap.size, 2, none⟩ = _ := cell_of_row wr _ 2 _ _ _ hx
      have q3 : wr.cell? ⟨w3.heap.size, 3, none⟩ = _ := cell_of_row wr _ 3 _ _ _ hx
      have hr0 := hM.me.r0; have hr1 := hM.me.r1; have hr2 := hM.me.r2; have hr3 := hM.me.r3
      have hg2 := hM.me.f2
      have hg := hM.good
      have hbw := hM.below
      have hw2 : w.heap.size + 1 + 1 < B := by omega
      rw [List.take_length] at hO hn' hg
      have HE := Lib.hid (And.intro hO (And.intro hn' (And.intro hk' (And.intro hg (And.intro hbw hw2)))))
      clear hM hO hx hn' hk' hg hbw hw2 HFI hB
      go_wp2_with fail
      refine bodyPost_ret (v := .tuple #[CelV ⟨a.version, a.has, a.val, mergeM a.marks b.marks⟩ A' k', .int .i64 0]) ?_ rfl ⟨A', k', rfl, ⟨?_, HE.out.2.1, HE.out.2.2.1, ?_, HP.out.1.vs⟩, ?_⟩
      · simp [results, Try.results31, go_sem, q0, q1, q2, q3, hr0, hr1, hr2, hr3, hg2]
        first | rfl | exact ⟨rfl, rfl⟩
      · refine OwnL.reads (k := 6) (e := 55) (n := (mergeM a.marks b.marks).length) (c := k') (B := B) ?_
        have HF1 := HE.out.1
        have hw2 := HE.out.2.2.2.2.2
        unfold mergeM
        show Own _ _ _ _ _ (b.marks.foldl (stepM a.marks) a.marks).length ((b.marks.foldl (stepM a.marks) a.marks).flatMap Mark.enc)
        unfold OwnL at HF1
        (repeat (first | with_reducible exact HF1 | with_reducible refine Own.drew ?_ | with_reducible refine Own.setlow ?_ (by omega) _))
        done
      · have := good_length HE.out.2.2.2.1
        show (b.marks.foldl (stepM a.marks) a.marks).length < 2147483000
        omega
      · have HB := HE.out.2.2.2.2.1
        (repeat (first | with_reducible exact HB | with_reducible refine Below.drew ?_ | with_reducible refine below_drewN ?_ _ | with_reducible refine Below.setCell ?_ (by first | (show _ ≤ _; omega) | (simp; omega) | exact Nat.le_refl _ | simp) _ | with_reducible refine Below.alloc ?_ (by first | (show _ ≤ _; omega) | (simp; omega) | simp) _)); done
end Go.Proofs.Ytfddpcmlmcohjaa
