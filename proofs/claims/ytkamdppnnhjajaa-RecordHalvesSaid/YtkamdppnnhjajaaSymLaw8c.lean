/-
  The laws RecordParts and RecordHalves (printed by a program of mine). Conditions: none.
-/
import Derived.Test.YtkamdppnnhjajaaItPart
namespace Go.Proofs.Ytkamdppnnhjajaa.Sym
open Go Go.RowKit
set_option maxRecDepth 100000
set_option linter.unusedVariables false
set_option linter.unusedSimpArgs false
def T18 : List (Nat × TI) := [(22, ti22), (27, ti27)]
theorem T18_ok : TabOK Try.prog T18 := .cons t22 (.cons t27 (.nil))
theorem enters18 : Enters Try.prog 18 := fun _ _ => by kernel_rfl
theorem own_s (A : Option Addr) (n c : Nat) (f : Nat → Itm) (hn : n ≤ 1000000) (kd : Int) (nx : Lab) (mk : Int) : Spec Try.prog 18 [recI A n c f kd nx mk] (fun x => recI (x.A 0) n (x.c 0) f kd nx mk) := by
  intro m w hm hargs
  have hmx : maxLen = 9223372036854775807 := rfl
  unfold recI rowI at hargs
  refine enter hm hargs Try.func18 rfl (by simp [Try.ntmps18]) fun a0 hF => ?_
  simp only [Try.ntmps18, startT] at hF
  obtain ⟨B, hB⟩ : ∃ B, B = std := ⟨_, rfl⟩
  refine wp_seq ?_
  apply region_okB hB T18_ok [1, 2] [1, 2] [] hF
  case hex => intro A X; conv => lhs; cbv
  case hob =>
    intro X
    subst hB
    simp [AllOb, Ob.holds, BE.den, std, stdCmp, stdArith] <;> omega
  case hQ =>
  intro X0 a0 w1 hF
  refine wp_seq ?_
  apply region_okB hB T18_ok [3, 1, 2] [1, 2, 3, 7] [] hF
  case hex => intro A X; conv => lhs; cbv
  case hob =>
    intro X
    subst hB
    simp [AllOb, Ob.holds, BE.den, std, stdCmp, stdArith] <;> omega
  case hQ =>
  intro X1 a0 w1 hF
  refine wp_seq ?_
  apply region_okB hB T18_ok [3, 1, 2] [1, 2, 3, 7] [] hF
  case hex => intro A X; conv => lhs; cbv
  case hob =>
    intro X
    subst hB
    repeat (first | exact trivial | refine ⟨⟨rfl, rfl, rfl⟩, ?_⟩ | refine ⟨rfl, ?_⟩ | refine ⟨⟨show 0 + n ≤ maxLen by omega, show (0 + n) * _ ≤ _ by omega⟩, ?_⟩)
  case hQ =>
  intro X2 a0 w1 hF
  refine wp_seq ?_
  apply region_okB hB T18_ok [1, 2] [1, 2] [] hF
  case hex => intro A X; conv => lhs; cbv
  case hob =>
    intro X
    subst hB
    repeat (first | exact trivial | refine ⟨rfl, ?_⟩)
  case hQ =>
  intro X3 a0 w1 hF
  refine wp_seq ?_
  apply region_okB hB T18_ok [2] [2] [] hF
  case hex => intro A X; conv => lhs; cbv
  case hob =>
    intro X
    subst hB
    repeat (first | exact trivial | refine ⟨rfl, ?_⟩)
  case hQ =>
  intro X4 a0 w1 hF
  refine wp_ret ?_
  refine ret_sim (fn := Try.f18) T18_ok hF (rs := [.cell 2 27]) rfl (by conv => lhs; cbv) ?_ (⟨0, fun _ => (X2 3).A 0, fun _ => (X2 3).c 0, fun _ => ⟨#[]⟩⟩) ?_
  · simp [AllOb, Ob.holds]
  · subst hB
    exact Sim.agg ⟨Sim.refl _, Sim.resl (Nat.zero_add n) (fun t ht => by show appC 0 _ (fun t => itC (f t)) t = _; unfold appC; rw [if_neg (Nat.not_lt_zero _)]; rfl), Sim.refl _, Sim.refl _, Sim.refl _, trivial⟩
def T7 : List (Nat × TI) := [(4, ti4), (25, ti25), (27, ti27), (29, ti29)]
theorem T7_ok : TabOK Try.prog T7 := .cons t4 (.cons t25 (.cons t27 (.cons t29 (.nil))))
theorem enters7 : Enters Try.prog 7 := fun _ _ => by kernel_rfl
theorem lawParts_s (A : Option Addr) (n c : Nat) (f : Nat → Itm) (hn : n ≤ maxLen) (kd : Int) (nx : Lab) (mk : Int) (hv : U64 nx.bits) (hki : ∀ i, i < n → U64 (f i).key) (A2 : Option Addr) (n2 c2 : Nat) (f2 : Nat → Itm) (hn2 : n2 ≤ maxLen) (kd2 : Int) (nx2 : Lab) (mk2 : Int) (hv2 : U64 nx2.bits) (l : Lab) (hb0 : U64 l.bits) : Spec Try.prog 7 [recI A n c f kd nx mk, recI A2 n2 c2 f2 kd2 nx2 mk2, labAV l] (fun _ => .bool .tt) := by
  intro m w hm hargs
  have hmx : maxLen = 9223372036854775807 := rfl
  have SB := big_s A n c f hn kd nx mk
  have SB2 := big_s A2 n2 c2 f2 hn2 kd2 nx2 mk2
  have SR := recorded_s
  unfold recI rowI at SB SB2 hargs
  simp only [labAV] at hargs
  generalize hbg : bigF n f = bg at SB
  generalize hbg2 : bigF n2 f2 = bg2 at SB2
  refine enter hm hargs Try.func7 rfl (by simp [Try.ntmps7]) fun a0 hF => ?_
  simp only [Try.ntmps7, startT] at hF
  obtain ⟨B, hB⟩ : ∃ B, B = std := ⟨_, rfl⟩
  refine wp_seq ?_
  apply region_okB hB T7_ok [3, 4, 5] [3, 4, 5] [] hF
  case hex => intro A X; conv => lhs; cbv
  case hob =>
    intro X
    subst hB
    simp [AllOb, Ob.holds, BE.den, std, stdCmp, stdArith] <;> omega
  case hQ =>
  intro X0 a0 w1 hF
  refine wp_seq ?_
  refine wp_seq ?_
  apply region_okB hB T7_ok [23, 3, 4, 5] [3, 4, 5] [(1, .r fun _ => .bool (.v bg)), (4, .r fun _ => .bool (.v bg2))] hF
  case hex => intro A X; conv => lhs; cbv
  case hob =>
    intro X
    subst hB
    repeat (first | exact trivial | refine ⟨rfl, ?_⟩ | refine ⟨fun _ => rfl, ?_⟩ | refine ⟨ob_lab _ _ _ _, ?_⟩ | refine ⟨fun _ => ob_lab _ _ _ _, ?_⟩ | refine ⟨⟨enters9, SB⟩, ?_⟩ | refine ⟨fun _ => ⟨enters9, SB⟩, ?_⟩ | refine ⟨⟨enters9, SB2⟩, ?_⟩ | refine ⟨fun _ => ⟨enters9, SB2⟩, ?_⟩)
  case hQ =>
  intro X1 a0 w1 hF
  refine test_ok hF rfl (fun hb hF => ?_) (fun hb hF => ?_)
  · skip
    refine wp_seq ?_
    apply region_okB hB T7_ok [6] [] [] hF
    case hex => intro A X; conv => lhs; cbv
    case hob =>
      intro X
      subst hB
      simp [AllOb, Ob.holds, BE.den, std, stdCmp, stdArith] <;> omega
    case hQ =>
    intro X2 a0 w1 hF
    refine wp_ret ?_
    refine ret_spec (fn := Try.f7) T7_ok hF (rs := [.tmp 6]) rfl (rfl) ?_ noAtom ?_
    · subst hB; simp [AllOb, Ob.holds]
    · rfl
  · skip
    have h9 : (if bg = true then true else bg2) = false := by subst hB; exact hb
    rw [ite_or, Bool.or_eq_false_iff] at h9
    have hn40 : n ≤ 40 := big_n (by rw [hbg]; exact h9.1)
    have hn42 : n2 ≤ 40 := big_n (by rw [hbg2]; exact h9.2)
    have SH := halves_s A n c f (by omega) kd nx mk hv hki l hb0
    have SRH := fun A c => rhalves_s A n c f (by omega) kd nx mk hv hki l hb0
    have SU := union_s A n c f (by omega) kd nx mk hv A2 n2 c2 f2 (by omega) kd2 nx2 mk2 hv2
    have SRU := fun A c => runion_s A n c f (by omega) kd nx mk hv A2 n2 c2 f2 (by omega) kd2 nx2 mk2 hv2
    have SOW := own_s A n c f (by omega) kd nx mk
    have hl1 := (halvR_len kd n f nx mk l).1
    have hl2 := (halvR_len kd n f nx mk l).2
    have hl3 := uniR_len kd n f nx mk kd2 n2 f2 nx2 mk2
    obtain ⟨H, hH⟩ : ∃ r, r = (halvR kd n f nx mk l).1 := ⟨_, rfl⟩
    obtain ⟨K, hK⟩ : ∃ r, r = (halvR kd n f nx mk l).2.1 := ⟨_, rfl⟩
    obtain ⟨he, hhe⟩ : ∃ r, r = (halvR kd n f nx mk l).2.2 := ⟨_, rfl⟩
    obtain ⟨U, hU⟩ : ∃ r, r = (uniR kd n f nx mk kd2 n2 f2 nx2 mk2).1 := ⟨_, rfl⟩
    obtain ⟨ue, hue⟩ : ∃ r, r = (uniR kd n f nx mk kd2 n2 f2 nx2 mk2).2 := ⟨_, rfl⟩
    rw [← hH] at hl1
    rw [← hK] at hl2
    rw [← hU] at hl3
    simp only [recAV, ← hH, ← hK, ← hhe] at SH SRH
    simp only [recAV, ← hU, ← hue] at SU SRU
    obtain ⟨m1, hm1⟩ : ∃ n, n = H.items.length := ⟨_, rfl⟩
    obtain ⟨g1, hg1⟩ : ∃ f, f = itF H.items := ⟨_, rfl⟩
    obtain ⟨m2, hm2⟩ : ∃ n, n = K.items.length := ⟨_, rfl⟩
    obtain ⟨g2, hg2⟩ : ∃ f, f = itF K.items := ⟨_, rfl⟩
    obtain ⟨m3, hm3⟩ : ∃ n, n = U.items.length := ⟨_, rfl⟩
    obtain ⟨g3, hg3⟩ : ∃ f, f = itF U.items := ⟨_, rfl⟩
    simp only [← hm1, ← hg1, ← hm2, ← hg2] at SH SRH
    simp only [← hm3, ← hg3] at SU SRU
    rw [← hm1] at hl1
    rw [← hm2] at hl2
    rw [← hm3] at hl3
    have S1 := fun A c A2 c2 => same_s A m1 c g1 (by omega) H.kind H.next H.mark A2 m1 c2 g1 H.kind H.next H.mark
    rw [show sameRF H.kind m1 g1 H.next H.mark H.kind m1 g1 H.next H.mark = true by simp [sameRF, sameF_refl]] at S1
    have S2 := fun A c A2 c2 => same_s A m2 c g2 (by omega) K.kind K.next K.mark A2 m2 c2 g2 K.kind K.next K.mark
    rw [show sameRF K.kind m2 g2 K.next K.mark K.kind m2 g2 K.next K.mark = true by simp [sameRF, sameF_refl]] at S2
    have S3 := fun A c A2 c2 => same_s A m3 c g3 (by omega) U.kind U.next U.mark A2 m3 c2 g3 U.kind U.next U.mark
    rw [show sameRF U.kind m3 g3 U.next U.mark U.kind m3 g3 U.next U.mark = true by simp [sameRF, sameF_refl]] at S3
    have S4 := fun A c A2 c2 => same_s A n c f (by omega) kd nx mk A2 n c2 f kd nx mk
    rw [show sameRF kd n f nx mk kd n f nx mk = true by simp [sameRF, sameF_refl]] at S4
    simp only [recI, rowI, labAV] at SH SRH SU SRU SOW S1 S2 S3 S4
    refine wp_skip ?_
    refine wp_seq ?_
    apply region_okB hB T7_ok [3, 4, 5, 7] [3, 4, 5, 7] [(1, .r fun x => .agg [.int .i64 kd, .sl none (x.A 0) n (x.c 0) 2 (fun i => itC (f i)), .int .i64 nx.len, .int .u64 nx.bits, .int .u64 mk])] hF
    case hex => intro A X; conv => lhs; cbv
    case hob =>
      intro X
      subst hB
      repeat (first | exact trivial | refine ⟨rfl, ?_⟩ | refine ⟨fun _ => rfl, ?_⟩ | refine ⟨ob_lab _ _ _ _, ?_⟩ | refine ⟨fun _ => ob_lab _ _ _ _, ?_⟩ | refine ⟨⟨enters18, SOW⟩, ?_⟩ | refine ⟨fun _ => ⟨enters18, SOW⟩, ?_⟩)
    case hQ =>
    intro X3 a0 w1 hF
    refine wp_seq ?_
    apply region_okB hB T7_ok [3, 4, 5, 7, 8, 9, 10] [3, 4, 5, 7, 8, 9] [(2, .r fun x => .tup [.agg [.int .i64 H.kind, .sl none (x.A 0) m1 (x.c 0) 2 (fun i => itC (g1 i)), .int .i64 H.next.len, .int .u64 H.next.bits, .int .u64 H.mark], .agg [.int .i64 K.kind, .sl none (x.A 1) m2 (x.c 1) 2 (fun i => itC (g2 i)), .int .i64 K.next.len, .int .u64 K.next.bits, .int .u64 K.mark], .int .i64 he])] hF
    case hex => intro A X; conv => lhs; cbv
    case hob =>
      intro X
      subst hB
      repeat (first | exact trivial | refine ⟨rfl, ?_⟩ | refine ⟨fun _ => rfl, ?_⟩ | refine ⟨ob_lab _ _ _ _, ?_⟩ | refine ⟨fun _ => ob_lab _ _ _ _, ?_⟩ | refine ⟨⟨enters25, SH⟩, ?_⟩ | refine ⟨fun _ => ⟨enters25, SH⟩, ?_⟩)
    case hQ =>
    intro X4 a0 w1 hF
    refine wp_seq ?_
    apply region_okB hB T7_ok [3, 4, 7, 8, 9, 10, 11, 12, 13] [3, 4, 7, 8, 9, 11, 12] [(2, .r fun x => .tup [.agg [.int .i64 H.kind, .sl none (x.A 0) m1 (x.c 0) 2 (fun i => itC (g1 i)), .int .i64 H.next.len, .int .u64 H.next.bits, .int .u64 H.mark], .agg [.int .i64 K.kind, .sl none (x.A 1) m2 (x.c 1) 2 (fun i => itC (g2 i)), .int .i64 K.next.len, .int .u64 K.next.bits, .int .u64 K.mark], .int .i64 he])] hF
    case hex => intro A X; conv => lhs; cbv
    case hob =>
      intro X
      subst hB
      repeat (first | exact trivial | refine ⟨rfl, ?_⟩ | refine ⟨fun _ => rfl, ?_⟩ | refine ⟨ob_lab _ _ _ _, ?_⟩ | refine ⟨fun _ => ob_lab _ _ _ _, ?_⟩ | refine ⟨⟨enters26, SRH _ _⟩, ?_⟩ | refine ⟨fun _ => ⟨enters26, SRH _ _⟩, ?_⟩)
    case hQ =>
    intro X5 a0 w1 hF
    refine wp_seq ?_
    apply region_okB hB T7_ok [3, 4, 7, 8, 9, 10, 11, 12, 13, 14, 15] [3, 4, 7, 8, 9, 11, 12, 14] [(2, .r fun x => .tup [.agg [.int .i64 U.kind, .sl none (x.A 0) m3 (x.c 0) 2 (fun i => itC (g3 i)), .int .i64 U.next.len, .int .u64 U.next.bits, .int .u64 U.mark], .int .i64 ue])] hF
    case hex => intro A X; conv => lhs; cbv
    case hob =>
      intro X
      subst hB
      repeat (first | exact trivial | refine ⟨rfl, ?_⟩ | refine ⟨fun _ => rfl, ?_⟩ | refine ⟨ob_lab _ _ _ _, ?_⟩ | refine ⟨fun _ => ob_lab _ _ _ _, ?_⟩ | refine ⟨⟨enters27, SU⟩, ?_⟩ | refine ⟨fun _ => ⟨enters27, SU⟩, ?_⟩)
    case hQ =>
    intro X6 a0 w1 hF
    refine wp_seq ?_
    apply region_okB hB T7_ok [3, 7, 8, 9, 10, 11, 12, 13, 14, 15, 16, 17] [3, 7, 8, 9, 11, 12, 14, 16] [(2, .r fun x => .tup [.agg [.int .i64 U.kind, .sl none (x.A 0) m3 (x.c 0) 2 (fun i => itC (g3 i)), .int .i64 U.next.len, .int .u64 U.next.bits, .int .u64 U.mark], .int .i64 ue])] hF
    case hex => intro A X; conv => lhs; cbv
    case hob =>
      intro X
      subst hB
      repeat (first | exact trivial | refine ⟨rfl, ?_⟩ | refine ⟨fun _ => rfl, ?_⟩ | refine ⟨ob_lab _ _ _ _, ?_⟩ | refine ⟨fun _ => ob_lab _ _ _ _, ?_⟩ | refine ⟨⟨enters28, SRU _ _⟩, ?_⟩ | refine ⟨fun _ => ⟨enters28, SRU _ _⟩, ?_⟩)
    case hQ =>
    intro X7 a0 w1 hF
    refine wp_seq ?_
    apply region_okB hB T7_ok [6] [] [(0, .r fun _ => .bool .tt), (4, .r fun _ => .bool (.v true)), (9, .r fun _ => .bool (.v true)), (19, .r fun _ => .bool (.v true)), (29, .r fun _ => .bool (.v true))] hF
    case hex => intro A X; conv => lhs; cbv
    case hob =>
      intro X
      subst hB
      repeat (first | exact trivial | refine ⟨rfl, ?_⟩ | refine ⟨fun _ => rfl, ?_⟩ | refine ⟨ob_lab _ _ _ _, ?_⟩ | refine ⟨fun _ => ob_lab _ _ _ _, ?_⟩ | refine ⟨⟨enters14, SR⟩, ?_⟩ | refine ⟨fun _ => ⟨enters14, SR⟩, ?_⟩ | refine ⟨⟨enters17, S1 _ _ _ _⟩, ?_⟩ | refine ⟨fun _ => ⟨enters17, S1 _ _ _ _⟩, ?_⟩ | refine ⟨⟨enters17, S2 _ _ _ _⟩, ?_⟩ | refine ⟨fun _ => ⟨enters17, S2 _ _ _ _⟩, ?_⟩ | refine ⟨⟨enters17, S3 _ _ _ _⟩, ?_⟩ | refine ⟨fun _ => ⟨enters17, S3 _ _ _ _⟩, ?_⟩ | refine ⟨⟨enters17, S4 _ _ _ _⟩, ?_⟩ | refine ⟨fun _ => ⟨enters17, S4 _ _ _ _⟩, ?_⟩)
    case hQ =>
    intro X8 a0 w1 hF
    refine wp_ret ?_
    refine ret_sim (fn := Try.f7) T7_ok hF (rs := [.tmp 6]) rfl (rfl) ?_ noAtom ?_
    · simp [AllOb, Ob.holds]
    · subst hB
      exact Sim.bool (by simp [BE.den, std, stdCmp]; rfl)
def T8 : List (Nat × TI) := [(3, ti3), (4, ti4), (22, ti22), (23, ti23), (25, ti25), (27, ti27), (29, ti29), (53, ti53)]
theorem T8_ok : TabOK Try.prog T8 := .cons t3 (.cons t4 (.cons t22 (.cons t23 (.cons t25 (.cons t27 (.cons t29 (.cons t53 (.nil))))))))
theorem enters8 : Enters Try.prog 8 := fun _ _ => by kernel_rfl
theorem lawHalves_s (A : Option Addr) (n c : Nat) (f : Nat → Itm) (hn : n ≤ maxLen) (kd : Int) (nx : Lab) (mk : Int) (hv : U64 nx.bits) (hki : ∀ i, i < n → U64 (f i).key) (l : Lab) (hb0 : U64 l.bits) : Spec Try.prog 8 [recI A n c f kd nx mk, labAV l] (fun _ => .bool .tt) := by
  intro m w hm hargs
  have hmx : maxLen = 9223372036854775807 := rfl
  have SB := big_s A n c f hn kd nx mk
  have SR := recorded_s
  unfold recI rowI at SB hargs
  simp only [labAV] at hargs
  generalize hbg : bigF n f = bg at SB
  refine enter hm hargs Try.func8 rfl (by simp [Try.ntmps8]) fun a0 hF => ?_
  simp only [Try.ntmps8, startT] at hF
  obtain ⟨B, hB⟩ : ∃ B, B = std := ⟨_, rfl⟩
  refine wp_seq ?_
  apply region_okB hB T8_ok [2, 3] [2, 3] [] hF
  case hex => intro A X; conv => lhs; cbv
  case hob =>
    intro X
    subst hB
    simp [AllOb, Ob.holds, BE.den, std, stdCmp, stdArith] <;> omega
  case hQ =>
  intro X0 a0 w1 hF
  refine wp_seq ?_
  refine wp_seq ?_
  apply region_okB hB T8_ok [17, 2, 3] [2, 3] [(1, .r fun _ => .bool (.v bg))] hF
  case hex => intro A X; conv => lhs; cbv
  case hob =>
    intro X
    subst hB
    repeat (first | exact trivial | refine ⟨rfl, ?_⟩ | refine ⟨fun _ => rfl, ?_⟩ | refine ⟨ob_lab _ _ _ _, ?_⟩ | refine ⟨fun _ => ob_lab _ _ _ _, ?_⟩ | refine ⟨⟨enters9, SB⟩, ?_⟩ | refine ⟨fun _ => ⟨enters9, SB⟩, ?_⟩)
  case hQ =>
  intro X1 a0 w1 hF
  refine test_ok hF rfl (fun hb hF => ?_) (fun hb hF => ?_)
  · skip
    refine wp_seq ?_
    apply region_okB hB T8_ok [4] [] [] hF
    case hex => intro A X; conv => lhs; cbv
    case hob =>
      intro X
      subst hB
      simp [AllOb, Ob.holds, BE.den, std, stdCmp, stdArith] <;> omega
    case hQ =>
    intro X2 a0 w1 hF
    refine wp_ret ?_
    refine ret_spec (fn := Try.f8) T8_ok hF (rs := [.tmp 4]) rfl (rfl) ?_ noAtom ?_
    · subst hB; simp [AllOb, Ob.holds]
    · rfl
  · skip
    have h9 : bg = false := hb
    have hn40 : n ≤ 40 := big_n (by rw [hbg]; exact h9)
    have SH := halves_s A n c f (by omega) kd nx mk hv hki l hb0
    have hl1 := (halvR_len kd n f nx mk l).1
    have hl2 := (halvR_len kd n f nx mk l).2
    obtain ⟨H, hH⟩ : ∃ r, r = (halvR kd n f nx mk l).1 := ⟨_, rfl⟩
    obtain ⟨K, hK⟩ : ∃ r, r = (halvR kd n f nx mk l).2.1 := ⟨_, rfl⟩
    obtain ⟨he, hhe⟩ : ∃ r, r = (halvR kd n f nx mk l).2.2 := ⟨_, rfl⟩
    have HK := halfR (kd := kd) (f := f) (nx := nx) (mk := mk) hb0 hki (H1 := H) (H2 := K) (he := he) (by rw [hH, hK, hhe])
    rw [← hH] at hl1
    rw [← hK] at hl2
    simp only [recAV, ← hH, ← hK, ← hhe] at SH
    obtain ⟨m1, hm1⟩ : ∃ n, n = H.items.length := ⟨_, rfl⟩
    obtain ⟨g1, hg1⟩ : ∃ f, f = itF H.items := ⟨_, rfl⟩
    obtain ⟨m2, hm2⟩ : ∃ n, n = K.items.length := ⟨_, rfl⟩
    obtain ⟨g2, hg2⟩ : ∃ f, f = itF K.items := ⟨_, rfl⟩
    simp only [← hm1, ← hg1, ← hm2, ← hg2] at SH HK
    rw [← hm1] at hl1
    rw [← hm2] at hl2
    simp only [recI, rowI, labAV] at SH
    refine wp_skip ?_
    refine wp_seq ?_
    apply region_okB hB T8_ok [7, 2, 3, 5, 6] [2, 3, 5, 6] [(2, .r fun x => .tup [.agg [.int .i64 H.kind, .sl none (x.A 0) m1 (x.c 0) 2 (fun i => itC (g1 i)), .int .i64 H.next.len, .int .u64 H.next.bits, .int .u64 H.mark], .agg [.int .i64 K.kind, .sl none (x.A 1) m2 (x.c 1) 2 (fun i => itC (g2 i)), .int .i64 K.next.len, .int .u64 K.next.bits, .int .u64 K.mark], .int .i64 he])] hF
    case hex => intro A X; conv => lhs; cbv
    case hob =>
      intro X
      subst hB
      repeat (first | exact trivial | refine ⟨rfl, ?_⟩ | refine ⟨fun _ => rfl, ?_⟩ | refine ⟨ob_lab _ _ _ _, ?_⟩ | refine ⟨fun _ => ob_lab _ _ _ _, ?_⟩ | refine ⟨⟨enters25, SH⟩, ?_⟩ | refine ⟨fun _ => ⟨enters25, SH⟩, ?_⟩)
    case hQ =>
    intro X3 a0 w1 hF
    refine wp_seq ?_
    refine wp_seq ?_
    apply region_okB hB T8_ok [26, 2, 3, 5, 6] [2, 3, 5, 6] [] hF
    case hex => intro A X; conv => lhs; cbv
    case hob =>
      intro X
      subst hB
      simp [AllOb, Ob.holds, BE.den, std, stdCmp, stdArith] <;> omega
    case hQ =>
    intro X4 a0 w1 hF
    refine test_ok hF rfl (fun hb hF => ?_) (fun hb hF => ?_)
    · skip
      have hez : he ≠ 0 := by subst hB; simpa [std, stdCmp] using hb
      obtain ⟨hz1, hz2⟩ : m1 = 0 ∧ m2 = 0 := by
        rcases HK with ⟨_, h1, h2⟩ | ⟨h0, _⟩
        · exact ⟨h1, h2⟩
        · exact absurd h0 hez
      refine wp_seq ?_
      apply region_okB hB T8_ok [4] [] [(0, .r fun _ => .bool .tt)] hF
      case hex => intro A X; conv => lhs; cbv
      case hob =>
        intro X
        subst hB
        repeat (first | exact trivial | refine ⟨rfl, ?_⟩ | refine ⟨fun _ => rfl, ?_⟩ | refine ⟨ob_lab _ _ _ _, ?_⟩ | refine ⟨fun _ => ob_lab _ _ _ _, ?_⟩ | refine ⟨⟨enters14, SR⟩, ?_⟩ | refine ⟨fun _ => ⟨enters14, SR⟩, ?_⟩)
      case hQ =>
      intro X5 a0 w1 hF
      refine wp_ret ?_
      refine ret_sim (fn := Try.f8) T8_ok hF (rs := [.tmp 4]) rfl (rfl) ?_ noAtom ?_
      · simp [AllOb, Ob.holds]
      · subst hB
        subst hz1 hz2
        exact Sim.bool (by kernel_rfl)
    · skip
      have hez : he = 0 := by subst hB; simpa [std, stdCmp] using hb
      rcases HK with ⟨h0, _⟩ | ⟨_, hLt, h64, i0, i1, hN1, hN2, hC1, hC2, hUn, hcat⟩
      · exact absurd hez h0
      have SCH0 := child_s l hb0 0 (by decide)
      rw [(ch_ok (b := 0) hLt h64).1, (ch_ok (b := 0) hLt h64).2] at SCH0
      have hcu0 := child_u hLt hb0 h64 0
      obtain ⟨k0, hk0⟩ : ∃ x, x = childL l 0 := ⟨_, rfl⟩
      rw [← hk0] at SCH0 hcu0
      simp only [labAV] at SCH0
      have SCH1 := child_s l hb0 1 (by decide)
      rw [(ch_ok (b := 1) hLt h64).1, (ch_ok (b := 1) hLt h64).2] at SCH1
      have hcu1 := child_u hLt hb0 h64 1
      obtain ⟨k1, hk1⟩ : ∃ x, x = childL l 1 := ⟨_, rfl⟩
      rw [← hk1] at SCH1 hcu1
      simp only [labAV] at SCH1
      rw [← hk1] at hN1 hC2
      rw [← hk0] at hC1
      have SI0 := fun A c => isR_s A m1 c g1 (by omega) H.kind H.next H.mark (by rw [hN1]; exact hcu1)
      have SI1 := fun A c => isR_s A m2 c g2 (by omega) K.kind K.next K.mark (by rw [hN2]; exact hv)
      rw [i0] at SI0
      rw [i1] at SI1
      have SU := fun A c A2 c2 => union_s A m1 c g1 (by omega) H.kind H.next H.mark (by rw [hN1]; exact hcu1) A2 m2 c2 g2 (by omega) K.kind K.next K.mark (by rw [hN2]; exact hv)
      rw [hUn] at SU
      simp only [recAV] at SU
      obtain ⟨m3, hm3⟩ : ∃ n, n = (H.items ++ K.items).length := ⟨_, rfl⟩
      obtain ⟨g3, hg3⟩ : ∃ f, f = itF (H.items ++ K.items) := ⟨_, rfl⟩
      rw [← hm3, ← hg3] at SU
      have hm3n : m3 = n := by rw [hm3, hcat, firsts_len]
      have S7 := fun A1 c1 => same7_s A1 m3 c1 g3 (by omega) A n c f
      rw [show sameF m3 g3 n f = true from sameF_yes hm3n (fun i hi => by rw [hg3, hcat]; exact firsts_get f n i (by omega))] at S7
      simp only [recI, rowI] at SI0 SI1 SU S7
      have hnx0 := eqL_lab k1 k1
      have hnx1 := eqL_lab nx nx
      rw [decide_eq_true rfl] at hnx0 hnx1
      refine wp_skip ?_
      refine wp_seq ?_
      apply region_okB hB T8_ok [9, 2, 3, 5, 6, 8] [2, 3, 5, 6, 8] [(1, .r fun _ => .tup [.agg [.int .i64 k0.len, .int .u64 k0.bits], .int .i64 0])] hF
      case hex => intro A X; conv => lhs; cbv
      case hob =>
        intro X
        subst hB
        repeat (first | exact trivial | refine ⟨rfl, ?_⟩ | refine ⟨fun _ => rfl, ?_⟩ | refine ⟨ob_lab _ _ _ _, ?_⟩ | refine ⟨fun _ => ob_lab _ _ _ _, ?_⟩ | refine ⟨⟨enters29, SCH0⟩, ?_⟩ | refine ⟨fun _ => ⟨enters29, SCH0⟩, ?_⟩)
      case hQ =>
      intro X6 a0 w1 hF
      refine wp_seq ?_
      apply region_okB hB T8_ok [9, 11, 2, 5, 6, 8, 10] [2, 5, 6, 8, 10] [(1, .r fun _ => .tup [.agg [.int .i64 k1.len, .int .u64 k1.bits], .int .i64 0])] hF
      case hex => intro A X; conv => lhs; cbv
      case hob =>
        intro X
        subst hB
        repeat (first | exact trivial | refine ⟨rfl, ?_⟩ | refine ⟨fun _ => rfl, ?_⟩ | refine ⟨ob_lab _ _ _ _, ?_⟩ | refine ⟨fun _ => ob_lab _ _ _ _, ?_⟩ | refine ⟨⟨enters29, SCH1⟩, ?_⟩ | refine ⟨fun _ => ⟨enters29, SCH1⟩, ?_⟩)
      case hQ =>
      intro X7 a0 w1 hF
      refine wp_seq ?_
      refine wp_seq ?_
      apply region_okB hB T8_ok [76, 2, 5, 6, 8, 10] [2, 5, 6, 8, 10] [(8, .r fun _ => .bool (.v true)), (13, .r fun _ => .bool (.v true))] hF
      case hex => intro A X; conv => lhs; cbv
      case hob =>
        intro X
        subst hB
        repeat (first | exact trivial | refine ⟨rfl, ?_⟩ | refine ⟨fun _ => rfl, ?_⟩ | refine ⟨ob_lab _ _ _ _, ?_⟩ | refine ⟨fun _ => ob_lab _ _ _ _, ?_⟩ | refine ⟨⟨enters15, SI0 _ _⟩, ?_⟩ | refine ⟨fun _ => ⟨enters15, SI0 _ _⟩, ?_⟩ | refine ⟨⟨enters15, SI1 _ _⟩, ?_⟩ | refine ⟨fun _ => ⟨enters15, SI1 _ _⟩, ?_⟩)
      case hQ =>
      intro X8 a0 w1 hF
      refine test_ok hF rfl (fun hb hF => ?_) (fun hb hF => ?_)
      · exfalso
        subst hB
        simp [BE.den, std, stdCmp, hN1, hN2] at hb
        rcases hb with hb | hb
        · exact absurd (hnx0.symm.trans hb) (by decide)
        · exact absurd (hnx1.symm.trans hb) (by decide)
      · skip
        skip
        refine wp_skip ?_
        refine wp_seq ?_
        refine wp_seq ?_
        apply region_okB hB T8_ok [12, 2, 5, 6, 8, 10] [2, 5, 6, 8, 10] [] hF
        case hex => intro A X; conv => lhs; cbv
        case hob =>
          intro X
          subst hB
          simp [AllOb, Ob.holds, BE.den, std, stdCmp, stdArith] <;> omega
        case hQ =>
        intro X10 a0 w1 hF
        refine wp_block ?_
        refine loop_pre (ι := Nat) (fun p => [(12, .int .i64 (p : Int))]) (fun p => []) (fun p => []) (fun p => p ≤ m1) (fun p => m1 - p) 0 (Nat.zero_le _) hF ?_
        rintro i hi a0 w1 hF
        try dsimp only at hi
        refine wp_seq ?_
        refine wp_seq ?_
        apply region_okB hB T8_ok [81, 12, 2, 5, 6, 8, 10] [2, 5, 6, 8, 10] [] hF
        case hex => intro A X; conv => lhs; cbv
        case hob =>
          intro X
          subst hB
          repeat (first | exact trivial | refine ⟨rfl, ?_⟩ | refine ⟨fun _ => rfl, ?_⟩ | refine ⟨ob_lab _ _ _ _, ?_⟩ | refine ⟨fun _ => ob_lab _ _ _ _, ?_⟩)
        case hQ =>
        intro X11 a0 w1 hF
        refine test_ok hF rfl (fun hb hF => ?_) (fun hb hF => ?_)
        · skip
          have hin : i < m1 := by
            have : (i : Int) < (m1 : Int) := by subst hB; simpa [std, stdCmp] using hb
            omega
          have S := cov_s k0 hcu0 (g1 i).key (hC1 i hin).2
          simp only [labAV] at S
          obtain ⟨cq, hcq⟩ : ∃ x, x = coverB k0 (g1 i).key := ⟨_, rfl⟩
          rw [← hcq] at S
          have hct : cq = true := by rw [hcq]; exact (hC1 i hin).1
          refine wp_skip ?_
          refine wp_seq ?_
          refine wp_block ?_
          refine wp_seq ?_
          apply drawn_okB hB (by kernel_rfl) T8_ok [92, 12, 2, 5, 6, 8, 10] [2, 5, 6, 8, 10] [(7, .r fun _ => .bool (.v cq))] hF rfl
          case hex => intro A X; conv => lhs; cbv
          case hD => kernel_rfl
          case hlen => rfl
          case hob =>
            intro X
            subst hB
            repeat (first | exact trivial | refine ⟨rfl, ?_⟩ | refine ⟨⟨show (0 : Int) ≤ (i : Int) by omega, show (i : Int) < (m1 : Int) by omega⟩, ?_⟩ | refine ⟨⟨enters30, S⟩, ?_⟩)
          case hQ =>
          intro X13 a0 w1 hF
          refine test_ok hF rfl (fun hb hF => ?_) (fun hb hF => ?_)
          · exfalso
            have h8 : (!cq) = true := by subst hB; exact hb
            rw [hct] at h8
            cases h8
          · skip
            skip
            refine wp_skip ?_
            apply region_okB hB T8_ok [12, 2, 5, 6, 8, 10] [2, 5, 6, 8, 10] [] hF
            case hex => intro A X; conv => lhs; cbv
            case hob =>
              intro X
              subst hB
              simp [AllOb, Ob.holds, BE.den, std, stdCmp, stdArith] <;> omega
            case hQ =>
            intro X12 a0 w1 hF
            have e : B.arith .add .i64 (i : Int) 1 = ((i + 1 : Nat) : Int) := by subst hB; exact wrap_succ (n := m1) hin (by omega)
            exact ⟨i + 1, by omega, by omega, by rw [← e]; exact hF⟩
        · skip
          skip
          refine wp_exit ?_
          refine wp_seq ?_
          refine wp_seq ?_
          apply region_okB hB T8_ok [13, 2, 5, 6, 10] [2, 5, 6, 10] [] hF
          case hex => intro A X; conv => lhs; cbv
          case hob =>
            intro X
            subst hB
            simp [AllOb, Ob.holds, BE.den, std, stdCmp, stdArith] <;> omega
          case hQ =>
          intro X15 a0 w1 hF
          refine wp_block ?_
          refine loop_pre (ι := Nat) (fun p => [(13, .int .i64 (p : Int))]) (fun p => []) (fun p => []) (fun p => p ≤ m2) (fun p => m2 - p) 0 (Nat.zero_le _) hF ?_
          rintro i hi a0 w1 hF
          try dsimp only at hi
          refine wp_seq ?_
          refine wp_seq ?_
          apply region_okB hB T8_ok [97, 13, 2, 5, 6, 10] [2, 5, 6, 10] [] hF
          case hex => intro A X; conv => lhs; cbv
          case hob =>
            intro X
            subst hB
            repeat (first | exact trivial | refine ⟨rfl, ?_⟩ | refine ⟨fun _ => rfl, ?_⟩ | refine ⟨ob_lab _ _ _ _, ?_⟩ | refine ⟨fun _ => ob_lab _ _ _ _, ?_⟩)
          case hQ =>
          intro X16 a0 w1 hF
          refine test_ok hF rfl (fun hb hF => ?_) (fun hb hF => ?_)
          · skip
            have hin : i < m2 := by
              have : (i : Int) < (m2 : Int) := by subst hB; simpa [std, stdCmp] using hb
              omega
            have S := cov_s k1 hcu1 (g2 i).key (hC2 i hin).2
            simp only [labAV] at S
            obtain ⟨cq, hcq⟩ : ∃ x, x = coverB k1 (g2 i).key := ⟨_, rfl⟩
            rw [← hcq] at S
            have hct : cq = true := by rw [hcq]; exact (hC2 i hin).1
            refine wp_skip ?_
            refine wp_seq ?_
            refine wp_block ?_
            refine wp_seq ?_
            apply drawn_okB hB (by kernel_rfl) T8_ok [108, 13, 2, 5, 6, 10] [2, 5, 6, 10] [(7, .r fun _ => .bool (.v cq))] hF rfl
            case hex => intro A X; conv => lhs; cbv
            case hD => kernel_rfl
            case hlen => rfl
            case hob =>
              intro X
              subst hB
              repeat (first | exact trivial | refine ⟨rfl, ?_⟩ | refine ⟨⟨show (0 : Int) ≤ (i : Int) by omega, show (i : Int) < (m2 : Int) by omega⟩, ?_⟩ | refine ⟨⟨enters30, S⟩, ?_⟩)
            case hQ =>
            intro X18 a0 w1 hF
            refine test_ok hF rfl (fun hb hF => ?_) (fun hb hF => ?_)
            · exfalso
              have h8 : (!cq) = true := by subst hB; exact hb
              rw [hct] at h8
              cases h8
            · skip
              skip
              refine wp_skip ?_
              apply region_okB hB T8_ok [13, 2, 5, 6, 10] [2, 5, 6, 10] [] hF
              case hex => intro A X; conv => lhs; cbv
              case hob =>
                intro X
                subst hB
                simp [AllOb, Ob.holds, BE.den, std, stdCmp, stdArith] <;> omega
              case hQ =>
              intro X17 a0 w1 hF
              have e : B.arith .add .i64 (i : Int) 1 = ((i + 1 : Nat) : Int) := by subst hB; exact wrap_succ (n := m2) hin (by omega)
              exact ⟨i + 1, by omega, by omega, by rw [← e]; exact hF⟩
          · skip
            skip
            refine wp_exit ?_
            refine wp_seq ?_
            apply region_okB hB T8_ok [15, 2, 14] [2, 14] [(2, .r fun x => .tup [.agg [.int .i64 1, .sl none (x.A 0) m3 (x.c 0) 2 (fun i => itC (g3 i)), .int .i64 nx.len, .int .u64 nx.bits, .int .u64 0], .int .i64 0])] hF
            case hex => intro A X; conv => lhs; cbv
            case hob =>
              intro X
              subst hB
              repeat (first | exact trivial | refine ⟨rfl, ?_⟩ | refine ⟨fun _ => rfl, ?_⟩ | refine ⟨ob_lab _ _ _ _, ?_⟩ | refine ⟨fun _ => ob_lab _ _ _ _, ?_⟩ | refine ⟨⟨enters27, SU _ _ _ _⟩, ?_⟩ | refine ⟨fun _ => ⟨enters27, SU _ _ _ _⟩, ?_⟩)
            case hQ =>
            intro X20 a0 w1 hF
            refine wp_seq ?_
            apply region_okB hB T8_ok [4] [] [(0, .r fun _ => .bool .tt), (15, .r fun _ => .bool (.v true))] hF
            case hex => intro A X; conv => lhs; cbv
            case hob =>
              intro X
              subst hB
              repeat (first | exact trivial | refine ⟨rfl, ?_⟩ | refine ⟨fun _ => rfl, ?_⟩ | refine ⟨ob_lab _ _ _ _, ?_⟩ | refine ⟨fun _ => ob_lab _ _ _ _, ?_⟩ | refine ⟨⟨enters14, SR⟩, ?_⟩ | refine ⟨fun _ => ⟨enters14, SR⟩, ?_⟩ | refine ⟨⟨enters31, S7 _ _⟩, ?_⟩ | refine ⟨fun _ => ⟨enters31, S7 _ _⟩, ?_⟩)
            case hQ =>
            intro X21 a0 w1 hF
            refine wp_ret ?_
            refine ret_sim (fn := Try.f8) T8_ok hF (rs := [.tmp 4]) rfl (rfl) ?_ noAtom ?_
            · simp [AllOb, Ob.holds]
            · subst hB
              exact Sim.bool (by simp [BE.den, std, stdCmp, hnx1]; rfl)
end Go.Proofs.Ytkamdppnnhjajaa.Sym
