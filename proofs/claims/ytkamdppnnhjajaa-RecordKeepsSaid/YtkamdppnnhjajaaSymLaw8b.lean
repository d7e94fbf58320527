/-
  The laws RecordTurns and RecordKeeps (printed by a program of mine). Conditions: none.
-/
import Derived.Test.YtkamdppnnhjajaaItKeep
namespace Go.Proofs.Ytkamdppnnhjajaa.Sym
open Go Go.RowKit
set_option maxRecDepth 100000
set_option linter.unusedVariables false
set_option linter.unusedSimpArgs false
def T5 : List (Nat × TI) := [(3, ti3), (4, ti4), (9, ti9), (23, ti23), (27, ti27), (29, ti29)]
theorem T5_ok : TabOK Try.prog T5 := .cons t3 (.cons t4 (.cons t9 (.cons t23 (.cons t27 (.cons t29 (.nil))))))
theorem enters5 : Enters Try.prog 5 := fun _ _ => by kernel_rfl
theorem lawTurns_s (A : Option Addr) (n c : Nat) (f : Nat → Itm) (hn : n ≤ maxLen) (kd : Int) (nx : Lab) (mk : Int) (hv : U64 nx.bits) (key : Int) (val : ByteArray) : Spec Try.prog 5 [recI A n c f kd nx mk, .int .u64 key, .str val] (fun _ => .bool .tt) := by
  intro m w hm hargs
  have hmx : maxLen = 9223372036854775807 := rfl
  have SB := big_s A n c f hn kd nx mk
  have SR := recorded_s
  unfold recI rowI at SB hargs
  generalize hbg : bigF n f = bg at SB
  refine enter hm hargs Try.func5 rfl (by simp [Try.ntmps5]) fun a0 hF => ?_
  simp only [Try.ntmps5, startT] at hF
  obtain ⟨B, hB⟩ : ∃ B, B = std := ⟨_, rfl⟩
  refine wp_seq ?_
  apply region_okB hB T5_ok [1, 2, 3] [3] [] hF
  case hex => intro A X; conv => lhs; cbv
  case hob =>
    intro X
    subst hB
    simp [AllOb, Ob.holds, BE.den, std, stdCmp, stdArith] <;> omega
  case hQ =>
  intro X0 a0 w1 hF
  refine wp_seq ?_
  refine wp_seq ?_
  apply region_okB hB T5_ok [26, 1, 2, 3] [3] [(1, .r fun _ => .bool (.v bg))] hF
  case hex => intro A X; conv => lhs; cbv
  case hob =>
    intro X
    subst hB
    repeat (first | exact trivial | refine ⟨rfl, ?_⟩ | refine ⟨fun _ => rfl, ?_⟩ | refine ⟨ob_lab _ _ _ _, ?_⟩ | refine ⟨fun _ => ob_lab _ _ _ _, ?_⟩ | refine ⟨⟨enters9, SB⟩, ?_⟩ | refine ⟨fun _ => ⟨enters9, SB⟩, ?_⟩)
  case hQ =>
  intro X1 a0 w1 hF
  refine test_ok hF rfl (fun hb hF => ?_) (fun hb hF => ?_)
  · skip
    refine wp_seq ?_
    apply region_okB hB T5_ok [6] [] [] hF
    case hex => intro A X; conv => lhs; cbv
    case hob =>
      intro X
      subst hB
      simp [AllOb, Ob.holds, BE.den, std, stdCmp, stdArith] <;> omega
    case hQ =>
    intro X2 a0 w1 hF
    refine wp_ret ?_
    refine ret_spec (fn := Try.f5) T5_ok hF (rs := [.tmp 6]) rfl (rfl) ?_ noAtom ?_
    · subst hB; simp [AllOb, Ob.holds]
    · rfl
  · skip
    have h9 : (if bg = true then true else decide ((val.size : Int) > 500)) = false := by subst hB; exact hb
    rw [ite_or, Bool.or_eq_false_iff] at h9
    have hn40 : n ≤ 40 := big_n (by rw [hbg]; exact h9.1)
    have hs2 := wR_len kd n f nx mk key val
    have hs3 := oR_len kd n f nx mk key
    have SW := with_s A n c f (by omega) kd nx mk hv key val
    have SO := wout_s A n c f (by omega) kd nx mk hv key
    have SF := find_s A n c f (by omega) kd nx mk key
    have SRW := fun A c => rwith_s A n c f (by omega) kd nx mk hv key val
    have SRO := fun A c => rwout_s A n c f (by omega) kd nx mk hv key
    have SRF := fun A c => rfind_s A n c f (by omega) kd nx mk key
    have SOW := own_s A n c f (by omega) kd nx mk
    obtain ⟨R, hR⟩ : ∃ r, r = (wR kd n f nx mk key val).1 := ⟨_, rfl⟩
    obtain ⟨we, hwe⟩ : ∃ r, r = (wR kd n f nx mk key val).2 := ⟨_, rfl⟩
    obtain ⟨O, hO⟩ : ∃ r, r = (oR kd n f nx mk key).1 := ⟨_, rfl⟩
    obtain ⟨ob, hob⟩ : ∃ r, r = (oR kd n f nx mk key).2 := ⟨_, rfl⟩
    rw [← hR] at hs2
    rw [← hO] at hs3
    simp only [recAV, ← hR, ← hwe] at SW SRW
    simp only [recAV, ← hO, ← hob] at SO SRO
    obtain ⟨n2, hn2⟩ : ∃ n, n = R.items.length := ⟨_, rfl⟩
    obtain ⟨f2, hf2⟩ : ∃ f, f = itF R.items := ⟨_, rfl⟩
    obtain ⟨n3, hn3⟩ : ∃ n, n = O.items.length := ⟨_, rfl⟩
    obtain ⟨f3, hf3⟩ : ∃ f, f = itF O.items := ⟨_, rfl⟩
    simp only [← hn2, ← hf2] at SW SRW
    simp only [← hn3, ← hf3] at SO SRO
    rw [← hn2] at hs2
    rw [← hn3] at hs3
    generalize findS (firsts f n) key = fs at SF SRF
    generalize findB (firsts f n) key = fb at SF SRF
    have S1 := fun A c A2 c2 => same_s A n2 c f2 (by omega) R.kind R.next R.mark A2 n2 c2 f2 R.kind R.next R.mark
    rw [show sameRF R.kind n2 f2 R.next R.mark R.kind n2 f2 R.next R.mark = true by simp [sameRF, sameF_refl]] at S1
    have S2 := fun A c A2 c2 => same_s A n3 c f3 (by omega) O.kind O.next O.mark A2 n3 c2 f3 O.kind O.next O.mark
    rw [show sameRF O.kind n3 f3 O.next O.mark O.kind n3 f3 O.next O.mark = true by simp [sameRF, sameF_refl]] at S2
    have S3 := fun A c A2 c2 => same_s A n c f (by omega) kd nx mk A2 n c2 f kd nx mk
    rw [show sameRF kd n f nx mk kd n f nx mk = true by simp [sameRF, sameF_refl]] at S3
    simp only [recI, rowI] at SW SRW SO SRO SF SRF SOW S1 S2 S3
    refine wp_skip ?_
    refine wp_seq ?_
    apply region_okB hB T5_ok [1, 2, 3, 7] [3, 7] [(1, .r fun x => .agg [.int .i64 kd, .sl none (x.A 0) n (x.c 0) 2 (fun i => itC (f i)), .int .i64 nx.len, .int .u64 nx.bits, .int .u64 mk])] hF
    case hex => intro A X; conv => lhs; cbv
    case hob =>
      intro X
      subst hB
      repeat (first | exact trivial | refine ⟨rfl, ?_⟩ | refine ⟨fun _ => rfl, ?_⟩ | refine ⟨ob_lab _ _ _ _, ?_⟩ | refine ⟨fun _ => ob_lab _ _ _ _, ?_⟩ | refine ⟨⟨enters18, SOW⟩, ?_⟩ | refine ⟨fun _ => ⟨enters18, SOW⟩, ?_⟩)
    case hQ =>
    intro X3 a0 w1 hF
    refine wp_seq ?_
    apply region_okB hB T5_ok [1, 2, 3, 7, 8, 9] [3, 7, 8] [(3, .r fun x => .tup [.agg [.int .i64 R.kind, .sl none (x.A 0) n2 (x.c 0) 2 (fun i => itC (f2 i)), .int .i64 R.next.len, .int .u64 R.next.bits, .int .u64 R.mark], .int .i64 we])] hF
    case hex => intro A X; conv => lhs; cbv
    case hob =>
      intro X
      subst hB
      repeat (first | exact trivial | refine ⟨rfl, ?_⟩ | refine ⟨fun _ => rfl, ?_⟩ | refine ⟨ob_lab _ _ _ _, ?_⟩ | refine ⟨fun _ => ob_lab _ _ _ _, ?_⟩ | refine ⟨⟨enters19, SW⟩, ?_⟩ | refine ⟨fun _ => ⟨enters19, SW⟩, ?_⟩)
    case hQ =>
    intro X4 a0 w1 hF
    refine wp_seq ?_
    apply region_okB hB T5_ok [1, 3, 7, 8, 9, 10, 11] [3, 7, 8, 10] [(3, .r fun x => .tup [.agg [.int .i64 R.kind, .sl none (x.A 0) n2 (x.c 0) 2 (fun i => itC (f2 i)), .int .i64 R.next.len, .int .u64 R.next.bits, .int .u64 R.mark], .int .i64 we])] hF
    case hex => intro A X; conv => lhs; cbv
    case hob =>
      intro X
      subst hB
      repeat (first | exact trivial | refine ⟨rfl, ?_⟩ | refine ⟨fun _ => rfl, ?_⟩ | refine ⟨ob_lab _ _ _ _, ?_⟩ | refine ⟨fun _ => ob_lab _ _ _ _, ?_⟩ | refine ⟨⟨enters20, SRW _ _⟩, ?_⟩ | refine ⟨fun _ => ⟨enters20, SRW _ _⟩, ?_⟩)
    case hQ =>
    intro X5 a0 w1 hF
    refine wp_seq ?_
    apply region_okB hB T5_ok [1, 3, 7, 8, 9, 10, 11, 12, 13] [3, 7, 8, 10, 12] [(2, .r fun x => .tup [.agg [.int .i64 O.kind, .sl none (x.A 0) n3 (x.c 0) 2 (fun i => itC (f3 i)), .int .i64 O.next.len, .int .u64 O.next.bits, .int .u64 O.mark], .bool (.v ob)])] hF
    case hex => intro A X; conv => lhs; cbv
    case hob =>
      intro X
      subst hB
      repeat (first | exact trivial | refine ⟨rfl, ?_⟩ | refine ⟨fun _ => rfl, ?_⟩ | refine ⟨ob_lab _ _ _ _, ?_⟩ | refine ⟨fun _ => ob_lab _ _ _ _, ?_⟩ | refine ⟨⟨enters21, SO⟩, ?_⟩ | refine ⟨fun _ => ⟨enters21, SO⟩, ?_⟩)
    case hQ =>
    intro X6 a0 w1 hF
    refine wp_seq ?_
    apply region_okB hB T5_ok [1, 3, 7, 8, 9, 10, 11, 12, 13, 14, 15] [3, 7, 8, 10, 12, 14] [(2, .r fun x => .tup [.agg [.int .i64 O.kind, .sl none (x.A 0) n3 (x.c 0) 2 (fun i => itC (f3 i)), .int .i64 O.next.len, .int .u64 O.next.bits, .int .u64 O.mark], .bool (.v ob)])] hF
    case hex => intro A X; conv => lhs; cbv
    case hob =>
      intro X
      subst hB
      repeat (first | exact trivial | refine ⟨rfl, ?_⟩ | refine ⟨fun _ => rfl, ?_⟩ | refine ⟨ob_lab _ _ _ _, ?_⟩ | refine ⟨fun _ => ob_lab _ _ _ _, ?_⟩ | refine ⟨⟨enters22, SRO _ _⟩, ?_⟩ | refine ⟨fun _ => ⟨enters22, SRO _ _⟩, ?_⟩)
    case hQ =>
    intro X7 a0 w1 hF
    refine wp_seq ?_
    apply region_okB hB T5_ok [1, 3, 7, 8, 9, 10, 11, 12, 13, 14, 15, 16, 17] [3, 7, 8, 10, 12, 14] [(2, .r fun x => .tup [.str fs, .bool (.v fb)])] hF
    case hex => intro A X; conv => lhs; cbv
    case hob =>
      intro X
      subst hB
      repeat (first | exact trivial | refine ⟨rfl, ?_⟩ | refine ⟨fun _ => rfl, ?_⟩ | refine ⟨ob_lab _ _ _ _, ?_⟩ | refine ⟨fun _ => ob_lab _ _ _ _, ?_⟩ | refine ⟨⟨enters23, SF⟩, ?_⟩ | refine ⟨fun _ => ⟨enters23, SF⟩, ?_⟩)
    case hQ =>
    intro X8 a0 w1 hF
    refine wp_seq ?_
    apply region_okB hB T5_ok [3, 7, 8, 9, 10, 11, 12, 13, 14, 15, 16, 17, 18, 19] [3, 7, 8, 10, 12, 14] [(2, .r fun x => .tup [.str fs, .bool (.v fb)])] hF
    case hex => intro A X; conv => lhs; cbv
    case hob =>
      intro X
      subst hB
      repeat (first | exact trivial | refine ⟨rfl, ?_⟩ | refine ⟨fun _ => rfl, ?_⟩ | refine ⟨ob_lab _ _ _ _, ?_⟩ | refine ⟨fun _ => ob_lab _ _ _ _, ?_⟩ | refine ⟨⟨enters24, SRF _ _⟩, ?_⟩ | refine ⟨fun _ => ⟨enters24, SRF _ _⟩, ?_⟩)
    case hQ =>
    intro X9 a0 w1 hF
    refine wp_seq ?_
    apply region_okB hB T5_ok [6] [] [(0, .r fun _ => .bool .tt), (4, .r fun _ => .bool (.v true)), (14, .r fun _ => .bool (.v true)), (34, .r fun _ => .bool (.v true))] hF
    case hex => intro A X; conv => lhs; cbv
    case hob =>
      intro X
      subst hB
      repeat (first | exact trivial | refine ⟨rfl, ?_⟩ | refine ⟨fun _ => rfl, ?_⟩ | refine ⟨ob_lab _ _ _ _, ?_⟩ | refine ⟨fun _ => ob_lab _ _ _ _, ?_⟩ | refine ⟨⟨enters14, SR⟩, ?_⟩ | refine ⟨fun _ => ⟨enters14, SR⟩, ?_⟩ | refine ⟨⟨enters17, S1 _ _ _ _⟩, ?_⟩ | refine ⟨fun _ => ⟨enters17, S1 _ _ _ _⟩, ?_⟩ | refine ⟨⟨enters17, S2 _ _ _ _⟩, ?_⟩ | refine ⟨fun _ => ⟨enters17, S2 _ _ _ _⟩, ?_⟩ | refine ⟨⟨enters17, S3 _ _ _ _⟩, ?_⟩ | refine ⟨fun _ => ⟨enters17, S3 _ _ _ _⟩, ?_⟩)
    case hQ =>
    intro X10 a0 w1 hF
    refine wp_ret ?_
    refine ret_sim (fn := Try.f5) T5_ok hF (rs := [.tmp 6]) rfl (rfl) ?_ noAtom ?_
    · simp [AllOb, Ob.holds]
    · subst hB
      exact Sim.bool (by simp [BE.den, std, stdCmp, stdScmp]; rfl)
def T6 : List (Nat × TI) := [(3, ti3), (4, ti4), (9, ti9), (22, ti22), (23, ti23), (25, ti25), (27, ti27), (29, ti29)]
theorem T6_ok : TabOK Try.prog T6 := .cons t3 (.cons t4 (.cons t9 (.cons t22 (.cons t23 (.cons t25 (.cons t27 (.cons t29 (.nil))))))))
theorem enters6 : Enters Try.prog 6 := fun _ _ => by kernel_rfl
theorem lawKeeps_s (A : Option Addr) (n c : Nat) (f : Nat → Itm) (hn : n ≤ maxLen) (kd : Int) (nx : Lab) (mk : Int) (hv : U64 nx.bits) (key other : Int) (val : ByteArray) : Spec Try.prog 6 [recI A n c f kd nx mk, .int .u64 key, .int .u64 other, .str val] (fun _ => .bool .tt) := by
  intro m w hm hargs
  have hmx : maxLen = 9223372036854775807 := rfl
  have SB := big_s A n c f hn kd nx mk
  have SR := recorded_s
  unfold recI rowI at SB hargs
  generalize hbg : bigF n f = bg at SB
  refine enter hm hargs Try.func6 rfl (by simp [Try.ntmps6]) fun a0 hF => ?_
  simp only [Try.ntmps6, startT] at hF
  obtain ⟨B, hB⟩ : ∃ B, B = std := ⟨_, rfl⟩
  refine wp_seq ?_
  apply region_okB hB T6_ok [1, 2, 3, 4] [4] [] hF
  case hex => intro A X; conv => lhs; cbv
  case hob =>
    intro X
    subst hB
    simp [AllOb, Ob.holds, BE.den, std, stdCmp, stdArith] <;> omega
  case hQ =>
  intro X0 a0 w1 hF
  refine wp_seq ?_
  refine wp_seq ?_
  apply region_okB hB T6_ok [29, 1, 2, 3, 4] [4] [(1, .r fun _ => .bool (.v bg))] hF
  case hex => intro A X; conv => lhs; cbv
  case hob =>
    intro X
    subst hB
    repeat (first | exact trivial | refine ⟨rfl, ?_⟩ | refine ⟨fun _ => rfl, ?_⟩ | refine ⟨ob_lab _ _ _ _, ?_⟩ | refine ⟨fun _ => ob_lab _ _ _ _, ?_⟩ | refine ⟨⟨enters9, SB⟩, ?_⟩ | refine ⟨fun _ => ⟨enters9, SB⟩, ?_⟩)
  case hQ =>
  intro X1 a0 w1 hF
  refine test_ok hF rfl (fun hb hF => ?_) (fun hb hF => ?_)
  · skip
    refine wp_seq ?_
    apply region_okB hB T6_ok [8] [] [] hF
    case hex => intro A X; conv => lhs; cbv
    case hob =>
      intro X
      subst hB
      simp [AllOb, Ob.holds, BE.den, std, stdCmp, stdArith] <;> omega
    case hQ =>
    intro X2 a0 w1 hF
    refine wp_ret ?_
    refine ret_spec (fn := Try.f6) T6_ok hF (rs := [.tmp 8]) rfl (rfl) ?_ noAtom ?_
    · subst hB; simp [AllOb, Ob.holds]
    · rfl
  · skip
    have h9 : (if bg = true then true else decide ((val.size : Int) > 500)) = false := by subst hB; exact hb
    rw [ite_or, Bool.or_eq_false_iff] at h9
    have hn40 : n ≤ 40 := big_n (by rw [hbg]; exact h9.1)
    have hs2 := wR_len kd n f nx mk key val
    have SW := with_s A n c f (by omega) kd nx mk hv key val
    have SF2 := find_s A n c f (by omega) kd nx mk other
    have SF4 := find_s A n c f (by omega) kd nx mk key
    obtain ⟨R, hR⟩ : ∃ r, r = (wR kd n f nx mk key val).1 := ⟨_, rfl⟩
    obtain ⟨we, hwe⟩ : ∃ r, r = (wR kd n f nx mk key val).2 := ⟨_, rfl⟩
    have HK := keepsR (kd := kd) (n := n) (f := f) (nx := nx) (mk := mk) (key := key) (val := val) (W := R) (we := we) (by rw [hR, hwe])
    rw [← hR] at hs2
    simp only [recAV, ← hR, ← hwe] at SW
    obtain ⟨n2, hn2⟩ : ∃ n, n = R.items.length := ⟨_, rfl⟩
    obtain ⟨f2, hf2⟩ : ∃ f, f = itF R.items := ⟨_, rfl⟩
    simp only [← hn2, ← hf2] at SW
    rw [← hn2] at hs2
    simp only [recI, rowI] at SW SF2 SF4
    generalize h2s : findS (firsts f n) other = s2 at SF2
    generalize h2b : findB (firsts f n) other = b2 at SF2
    generalize h4s : findS (firsts f n) key = s4 at SF4
    generalize h4b : findB (firsts f n) key = b4 at SF4
    refine wp_skip ?_
    refine wp_seq ?_
    apply region_okB hB T6_ok [1, 2, 3, 4, 9, 10] [4, 9] [(3, .r fun x => .tup [.agg [.int .i64 R.kind, .sl none (x.A 0) n2 (x.c 0) 2 (fun i => itC (f2 i)), .int .i64 R.next.len, .int .u64 R.next.bits, .int .u64 R.mark], .int .i64 we])] hF
    case hex => intro A X; conv => lhs; cbv
    case hob =>
      intro X
      subst hB
      repeat (first | exact trivial | refine ⟨rfl, ?_⟩ | refine ⟨fun _ => rfl, ?_⟩ | refine ⟨ob_lab _ _ _ _, ?_⟩ | refine ⟨fun _ => ob_lab _ _ _ _, ?_⟩ | refine ⟨⟨enters19, SW⟩, ?_⟩ | refine ⟨fun _ => ⟨enters19, SW⟩, ?_⟩)
    case hQ =>
    intro X3 a0 w1 hF
    refine wp_seq ?_
    refine wp_seq ?_
    apply region_okB hB T6_ok [38, 1, 2, 3, 4, 9] [4, 9] [] hF
    case hex => intro A X; conv => lhs; cbv
    case hob =>
      intro X
      subst hB
      simp [AllOb, Ob.holds, BE.den, std, stdCmp, stdArith] <;> omega
    case hQ =>
    intro X4 a0 w1 hF
    refine test_ok hF rfl (fun hb hF => ?_) (fun hb hF => ?_)
    · skip
      have hwz : we ≠ 0 := by subst hB; simpa [std, stdCmp] using hb
      obtain ⟨hk0, hl0⟩ : R.kind = 0 ∧ R.items.length = 0 := by
        rcases HK with ⟨_, h1, h2⟩ | ⟨h0, _⟩
        · exact ⟨h1, h2⟩
        · exact absurd h0 hwz
      refine wp_seq ?_
      apply region_okB hB T6_ok [8] [] [(0, .r fun _ => .bool .tt)] hF
      case hex => intro A X; conv => lhs; cbv
      case hob =>
        intro X
        subst hB
        repeat (first | exact trivial | refine ⟨rfl, ?_⟩ | refine ⟨fun _ => rfl, ?_⟩ | refine ⟨ob_lab _ _ _ _, ?_⟩ | refine ⟨fun _ => ob_lab _ _ _ _, ?_⟩ | refine ⟨⟨enters14, SR⟩, ?_⟩ | refine ⟨fun _ => ⟨enters14, SR⟩, ?_⟩)
      case hQ =>
      intro X5 a0 w1 hF
      refine wp_ret ?_
      refine ret_sim (fn := Try.f6) T6_ok hF (rs := [.tmp 8]) rfl (rfl) ?_ noAtom ?_
      · simp [AllOb, Ob.holds]
      · subst hB
        rw [← hn2] at hl0
        exact Sim.bool (by simp [BE.den, std, stdCmp, hk0, hl0]; rfl)
    · skip
      have hwz : we = 0 := by subst hB; simpa [std, stdCmp] using hb
      rcases HK with ⟨h0, _⟩ | ⟨_, K1, K2, K3, K4, K5, O, K6, K7, K8, K9⟩
      · exact absurd hwz h0
      have hfl : firsts f2 n2 = R.items := by rw [hf2, hn2]; exact firsts_itF _
      rw [← hn2, ← hf2] at K3 K6
      have hs3 := oR_len R.kind n2 f2 R.next R.mark key
      rw [K6] at hs3
      have SF1 := fun A c => find_s A n2 c f2 (by omega) R.kind R.next R.mark key
      have SF3 := fun A c => find_s A n2 c f2 (by omega) R.kind R.next R.mark other
      have SIS := fun A c => isR_s A n2 c f2 (by omega) R.kind R.next R.mark (by rw [K4]; exact hv)
      have SO := fun A c => wout_s A n2 c f2 (by omega) R.kind R.next R.mark (by rw [K4]; exact hv) key
      rw [K3] at SIS
      rw [K6] at SO
      simp only [recAV] at SO
      obtain ⟨n3, hn3⟩ : ∃ n, n = O.items.length := ⟨_, rfl⟩
      obtain ⟨f3, hf3⟩ : ∃ f, f = itF O.items := ⟨_, rfl⟩
      simp only [← hn3, ← hf3] at SO K8
      rw [← hn3] at hs3
      have hfo : firsts f3 n3 = O.items := by rw [hf3, hn3]; exact firsts_itF _
      have SF5 := fun A c => find_s A n3 c f3 (by omega) O.kind O.next O.mark key
      have SS := fun A1 c1 => same_s A1 n3 c1 f3 (by omega) O.kind O.next O.mark A n c f kd nx mk
      rw [hfl] at SF1 SF3
      rw [hfo] at SF5
      simp only [recI, rowI] at SF1 SF3 SIS SO SF5 SS
      rw [K1, K2] at SF1
      generalize h3s : findS R.items other = s3 at SF3
      generalize h3b : findB R.items other = b3 at SF3
      generalize h5s : findS O.items key = s5 at SF5
      rw [K7] at SF5
      generalize sameRF O.kind n3 f3 O.next O.mark kd n f nx mk = sm at SS K8
      rw [h4b] at K8 K9
      have K5o : key ≠ other → s3 = s2 ∧ b3 = b2 := fun hne => by
        have := K5 other hne
        rw [h2s, h2b, h3s, h3b] at this
        exact this
      have hnxl := eqL_lab R.next nx
      rw [K4] at hnxl
      refine wp_skip ?_
      refine wp_seq ?_
      apply region_okB hB T6_ok [1, 2, 3, 4, 9, 11, 12] [4, 9] [(2, .r fun x => .tup [.str val, .bool (.v true)])] hF
      case hex => intro A X; conv => lhs; cbv
      case hob =>
        intro X
        subst hB
        repeat (first | exact trivial | refine ⟨rfl, ?_⟩ | refine ⟨fun _ => rfl, ?_⟩ | refine ⟨ob_lab _ _ _ _, ?_⟩ | refine ⟨fun _ => ob_lab _ _ _ _, ?_⟩ | refine ⟨⟨enters23, SF1 _ _⟩, ?_⟩ | refine ⟨fun _ => ⟨enters23, SF1 _ _⟩, ?_⟩)
      case hQ =>
      intro X6 a0 w1 hF
      refine wp_seq ?_
      apply region_okB hB T6_ok [1, 2, 3, 4, 9, 11, 12, 13, 14] [4, 9] [(2, .r fun x => .tup [.str s2, .bool (.v b2)])] hF
      case hex => intro A X; conv => lhs; cbv
      case hob =>
        intro X
        subst hB
        repeat (first | exact trivial | refine ⟨rfl, ?_⟩ | refine ⟨fun _ => rfl, ?_⟩ | refine ⟨ob_lab _ _ _ _, ?_⟩ | refine ⟨fun _ => ob_lab _ _ _ _, ?_⟩ | refine ⟨⟨enters23, SF2⟩, ?_⟩ | refine ⟨fun _ => ⟨enters23, SF2⟩, ?_⟩)
      case hQ =>
      intro X7 a0 w1 hF
      refine wp_seq ?_
      apply region_okB hB T6_ok [1, 2, 3, 4, 9, 11, 12, 13, 14, 15, 16] [4, 9] [(2, .r fun x => .tup [.str s3, .bool (.v b3)])] hF
      case hex => intro A X; conv => lhs; cbv
      case hob =>
        intro X
        subst hB
        repeat (first | exact trivial | refine ⟨rfl, ?_⟩ | refine ⟨fun _ => rfl, ?_⟩ | refine ⟨ob_lab _ _ _ _, ?_⟩ | refine ⟨fun _ => ob_lab _ _ _ _, ?_⟩ | refine ⟨⟨enters23, SF3 _ _⟩, ?_⟩ | refine ⟨fun _ => ⟨enters23, SF3 _ _⟩, ?_⟩)
      case hQ =>
      intro X8 a0 w1 hF
      refine wp_seq ?_
      refine wp_seq ?_
      apply region_okB hB T6_ok [102, 1, 4, 9] [4, 9] [(9, .r fun _ => .bool (.v true))] hF
      case hex => intro A X; conv => lhs; cbv
      case hob =>
        intro X
        subst hB
        repeat (first | exact trivial | refine ⟨rfl, ?_⟩ | refine ⟨fun _ => rfl, ?_⟩ | refine ⟨ob_lab _ _ _ _, ?_⟩ | refine ⟨fun _ => ob_lab _ _ _ _, ?_⟩ | refine ⟨⟨enters15, SIS _ _⟩, ?_⟩ | refine ⟨fun _ => ⟨enters15, SIS _ _⟩, ?_⟩)
      case hQ =>
      intro X9 a0 w1 hF
      refine test_ok hF rfl (fun hb hF => ?_) (fun hb hF => ?_)
      · exfalso
        by_cases hne : key = other
        · subst hne
          subst hB
          simp [BE.den, std, stdCmp, stdScmp, K4] at hb
          exact absurd (hnxl.symm.trans hb) (by simp)
        · obtain ⟨rfl, rfl⟩ := K5o hne
          subst hB
          simp [BE.den, std, stdCmp, stdScmp, K4] at hb
          exact absurd (hnxl.symm.trans hb) (by simp)
      · skip
        skip
        refine wp_skip ?_
        refine wp_seq ?_
        apply region_okB hB T6_ok [1, 4, 9, 18] [4, 9] [(2, .r fun x => .tup [.str s4, .bool (.v b4)])] hF
        case hex => intro A X; conv => lhs; cbv
        case hob =>
          intro X
          subst hB
          repeat (first | exact trivial | refine ⟨rfl, ?_⟩ | refine ⟨fun _ => rfl, ?_⟩ | refine ⟨ob_lab _ _ _ _, ?_⟩ | refine ⟨fun _ => ob_lab _ _ _ _, ?_⟩ | refine ⟨⟨enters23, SF4⟩, ?_⟩ | refine ⟨fun _ => ⟨enters23, SF4⟩, ?_⟩)
        case hQ =>
        intro X11 a0 w1 hF
        refine wp_seq ?_
        apply region_okB hB T6_ok [1, 4, 9, 18, 19, 20] [4, 9, 19] [(2, .r fun x => .tup [.agg [.int .i64 O.kind, .sl none (x.A 0) n3 (x.c 0) 2 (fun i => itC (f3 i)), .int .i64 O.next.len, .int .u64 O.next.bits, .int .u64 O.mark], .bool (.v true)])] hF
        case hex => intro A X; conv => lhs; cbv
        case hob =>
          intro X
          subst hB
          repeat (first | exact trivial | refine ⟨rfl, ?_⟩ | refine ⟨fun _ => rfl, ?_⟩ | refine ⟨ob_lab _ _ _ _, ?_⟩ | refine ⟨fun _ => ob_lab _ _ _ _, ?_⟩ | refine ⟨⟨enters21, SO _ _⟩, ?_⟩ | refine ⟨fun _ => ⟨enters21, SO _ _⟩, ?_⟩)
        case hQ =>
        intro X12 a0 w1 hF
        refine wp_seq ?_
        apply region_okB hB T6_ok [4, 9, 18, 19, 20, 22] [4, 9, 19] [(2, .r fun x => .tup [.str s5, .bool (.v false)])] hF
        case hex => intro A X; conv => lhs; cbv
        case hob =>
          intro X
          subst hB
          repeat (first | exact trivial | refine ⟨rfl, ?_⟩ | refine ⟨fun _ => rfl, ?_⟩ | refine ⟨ob_lab _ _ _ _, ?_⟩ | refine ⟨fun _ => ob_lab _ _ _ _, ?_⟩ | refine ⟨⟨enters23, SF5 _ _⟩, ?_⟩ | refine ⟨fun _ => ⟨enters23, SF5 _ _⟩, ?_⟩)
        case hQ =>
        intro X13 a0 w1 hF
        refine wp_seq ?_
        apply region_okB hB T6_ok [8] [] [(0, .r fun _ => .bool .tt), (13, .r fun _ => .bool (.v sm))] hF
        case hex => intro A X; conv => lhs; cbv
        case hob =>
          intro X
          subst hB
          repeat (first | exact trivial | refine ⟨rfl, ?_⟩ | refine ⟨fun _ => rfl, ?_⟩ | refine ⟨ob_lab _ _ _ _, ?_⟩ | refine ⟨fun _ => ob_lab _ _ _ _, ?_⟩ | refine ⟨⟨enters14, SR⟩, ?_⟩ | refine ⟨fun _ => ⟨enters14, SR⟩, ?_⟩ | refine ⟨⟨enters17, SS _ _⟩, ?_⟩ | refine ⟨fun _ => ⟨enters17, SS _ _⟩, ?_⟩)
        case hQ =>
        intro X14 a0 w1 hF
        refine wp_ret ?_
        refine ret_sim (fn := Try.f6) T6_ok hF (rs := [.tmp 8]) rfl (rfl) ?_ noAtom ?_
        · simp [AllOb, Ob.holds]
        · subst hB
          refine Sim.bool ?_
          cases b4 with
          | true =>
            have h1 : ((n2 : Int) == (n : Int)) = true := by rw [hn2, K9.2 rfl]; simp
            simp [BE.den, std, stdCmp, h1]; rfl
          | false =>
            have h1 := K8 rfl
            have h2 : n2 ≠ n := fun h => by have := K9.1 (by rw [← hn2]; exact h); cases this
            have h3 : ((n2 : Int) == (n : Int)) = false := by simp; omega
            simp [BE.den, std, stdCmp, h1, h3]; rfl
end Go.Proofs.Ytkamdppnnhjajaa.Sym
