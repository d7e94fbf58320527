/-
  The program's cell.Do: a get, and an operation that was done before. Conditions: fewer marks than 2^31.
-/
import Derived.Test.YtfddpcmlmcohjaaCellDo1
namespace Go.Proofs.Ytfddpcmlmcohjaa
open Go.RowKit
set_option linter.unusedVariables false
set_option linter.unusedSimpArgs false
set_option maxHeartbeats 1000000
set_option maxRecDepth 100000

theorem do_get (w : World) (A : Option Addr) (k : Nat) (c : Cel) (o : Opr) (h : CelR w A k c) (ho : o.val.size ≤ maxLen) (hc : IsC c) (hx : IsO o) (hk : o.kind = 1) :
    Calls Try.prog 23 #[CelV c A k, OprV o] w (DoP w (c, ⟨0, c.version, c.has, c.val⟩, false, 0)) := by
  have hf1 := doStart_frame w A k c o
  have hb1 := doStart_below w A k c o
  obtain ⟨W1, hW1⟩ : ∃ W1, W1 = doStart w A k c o := ⟨_, rfl⟩
  rw [← hW1] at hf1 hb1
  have HI := isC_c W1 A k c (h.below hb1)
  rw [decide_eq_true hc] at HI
  have HJ := fun w => isO_c o w ho
  rw [decide_eq_true hx] at HJ
  unfold OprV at HJ
  unfold CelV at HI
  unfold doStart at hW1
  have hk1 : (o.kind == 1) = true := by simp [hk]
  have HN := fun w => now_c w A k c 0
  unfold CelV at HN
  clear hk
  have HR := Lib.hid h
  have HC := Lib.hid hc
  have HX := Lib.hid hx
  clear h hx hc
  unfold CelV OprV
  go_enter Try.func23, Try.ntmps23
  go_wp2_with fail
  rw [← hW1]
  refine HI.mono ?_
  rintro e w2 ⟨rfl, hb2⟩
  have hf2 := hf1.below hb2
  have hB2 := hb1.trans (hb2.mono hb1.size)
  have HF := Lib.hid (And.intro hf2 hB2)
  have ho0 := hf2.o0; have ho1 := hf2.o1; have ho2 := hf2.o2; have ho3 := hf2.o3; have ho4 := hf2.o4
  clear HI hf1 hb1 hW1 hf2 hB2 hb2
  go_wp2_with fail
  refine (HJ _).mono ?_
  rintro e w3 ⟨rfl, hb3⟩
  have hf3 := HF.out.1.below hb3
  have hB3 := HF.out.2.trans (hb3.mono HF.out.2.size)
  clear HF
  have HF := Lib.hid (And.intro hf3 hB3)
  have hc0 := hf3.c0; have hc1 := hf3.c1; have hc2 := hf3.c2; have hc3 := hf3.c3
  have ho0' := hf3.o0; have ho1' := hf3.o1; have ho2' := hf3.o2; have ho3' := hf3.o3; have ho4' := hf3.o4
  clear ho0 ho1 ho2 ho3 ho4 hf3 hB3 hb3 HJ
  go_wp2_with fail
  refine (HN _).mono ?_
  rintro e w4 ⟨rfl, hb4⟩
  have hf4 := HF.out.1.below hb4
  have hB4 := HF.out.2.trans (hb4.mono HF.out.2.size)
  clear HF
  have hz0 := lt_of_heap hf4.b0
  have hz1 := lt_of_heap hf4.b1
  have hz2 : w.heap.size + 1 + 1 < w4.heap.size := lt_of_heap hf4.b2
  have hz3 : w.heap.size + 1 + 1 + 1 < w4.heap.size := lt_of_heap hf4.b3
  have HF := Lib.hid (And.intro hf4 hB4)
  have hc0' := hf4.c0; have hc1' := hf4.c1; have hc2' := hf4.c2; have hc3' := hf4.c3
  have hr0 := hf4.r0; have hr1 := hf4.r1; have hr2 := hf4.r2; have hr3 := hf4.r3
  have hs0 := hf4.s0; have hs1 := hf4.s1; have hs2 := hf4.s2; have hs3 := hf4.s3
  have hg2 := hf4.f2
  have hg3 := hf4.f3
  clear hc0 hc1 hc2 hc3 ho0' ho1' ho2' ho3' ho4' hf4 hB4 hb4 HN
  go_wp2_with fail
  go_region
  go_wp2_with fail
  refine bodyPost_ret (v := .tuple #[CelV c A k, AnsV (Ans.mk 0 c.version c.has c.val), .bool false, .int .i64 0]) ?_ rfl ⟨A, k, rfl, HR.out.below ?_, ?_⟩
  · simp [results, Try.results23, go_sem, hr0, hr1, hr2, hr3, hs0, hs1, hs2, hs3, hz0, hz1, hz2, hz3, hg2, hg3]
    exact ⟨rfl, rfl⟩
  · (repeat (first | with_reducible exact HF.out.2 | with_reducible refine Below.drew ?_ | with_reducible refine below_drewN ?_ _ | with_reducible refine Below.setCell ?_ (by first | (show _ ≤ _; omega) | (simp; omega) | exact Nat.le_refl _ | simp) _ | with_reducible refine Below.alloc ?_ (by first | (show _ ≤ _; omega) | (simp; omega) | simp) _)); done
  · (repeat (first | with_reducible exact HF.out.2 | with_reducible refine Below.drew ?_ | with_reducible refine below_drewN ?_ _ | with_reducible refine Below.setCell ?_ (by first | (show _ ≤ _; omega) | (simp; omega) | exact Nat.le_refl _ | simp) _ | with_reducible refine Below.alloc ?_ (by first | (show _ ≤ _; omega) | (simp; omega) | simp) _)); done
end Go.Proofs.Ytfddpcmlmcohjaa
