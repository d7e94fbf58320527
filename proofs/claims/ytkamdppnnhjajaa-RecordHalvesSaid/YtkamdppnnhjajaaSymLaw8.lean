/-
  Records: recorded, and the laws of bytes (printed by a program of mine). Conditions: none.
-/
import Derived.Test.YtkamdppnnhjajaaSymAt
namespace Go.Proofs.Ytkamdppnnhjajaa.Sym
open Go Go.RowKit
set_option maxRecDepth 100000
set_option linter.unusedVariables false
set_option linter.unusedSimpArgs false
def f0 : Nat → Itm := fun _ => zeroItm
def f1 : Nat → Itm := fun _ => ⟨5, ⟨#[97]⟩⟩
theorem one_row : ∀ i, i < 1 → chunk 2 [.int .u64 5, .str ⟨#[97]⟩] i = itC (f1 i) := by
  intro i hi
  have h0 : i = 0 := by omega
  subst h0
  rfl
theorem got_zero : InR zeroRec := ⟨⟨by decide, by decide⟩, ⟨by decide, by decide⟩, fun i hi => absurd hi (Nat.not_lt_zero _)⟩
theorem got_in (s : ByteArray) : InR (gotR s) ∧ (gotR s).items.length ≤ 16 := by
  unfold gotR
  cases h : decRec (unB s) with
  | error e => exact ⟨got_zero, Nat.zero_le _⟩
  | ok r =>
    obtain ⟨h1, h2, h3⟩ := decRec_ok h
    exact ⟨h3, (isRF_kind h2).2.2.1⟩
theorem sameF_refl (n : Nat) (f : Nat → Itm) : sameF n f n f = true := sameF_yes rfl fun _ _ => rfl
theorem back_put {A : Option Addr} {n c : Nat} {f : Nat → Itm} {kd : Int} {nx : Lab} {mk : Int} (hv : U64 nx.bits) (hmk : U64 mk) (hk : ∀ i, i < n → U64 (f i).key) :
    (isRF kd n f nx mk = false ∧ putE kd n f nx mk = 1) ∨ (isRF kd n f nx mk = true ∧ putE kd n f nx mk = 0 ∧ gotE (putS kd n f nx mk) = 0 ∧ sameRF (gotR (putS kd n f nx mk)).kind (gotR (putS kd n f nx mk)).items.length (itF (gotR (putS kd n f nx mk)).items) (gotR (putS kd n f nx mk)).next (gotR (putS kd n f nx mk)).mark kd n f nx mk = true) := by
  cases h : isRF kd n f nx mk with
  | false => exact .inl ⟨rfl, putE_no h⟩
  | true =>
    right
    have hd := decRec_put h hv hmk hk
    have hu : unB (putS kd n f nx mk) = putF kd n f nx mk := by rw [putS_yes h, un_mk]
    have hr : gotR (putS kd n f nx mk) = ⟨kd, firsts f n, nx, mk⟩ := by simp only [gotR, hu, hd]
    have he : gotE (putS kd n f nx mk) = 0 := by simp only [gotE, hu, hd]; rfl
    refine ⟨rfl, putE_yes h, he, ?_⟩
    rw [hr]
    have hs : sameF (firsts f n).length (itF (firsts f n)) n f = true := sameF_yes (firsts_len f n) fun i hi => firsts_get f n i (by rwa [firsts_len] at hi)
    simp [sameRF, hs]
theorem back_got (s : ByteArray) : (gotE s = 0 ∧ putE (gotR s).kind (gotR s).items.length (itF (gotR s).items) (gotR s).next (gotR s).mark = 0 ∧ putS (gotR s).kind (gotR s).items.length (itF (gotR s).items) (gotR s).next (gotR s).mark = s ∧ isRF (gotR s).kind (gotR s).items.length (itF (gotR s).items) (gotR s).next (gotR s).mark = true) ∨
    ((gotE s = 3 ∨ gotE s = 4) ∧ (gotR s).kind = 0 ∧ (gotR s).items.length = 0) := by
  cases h : decRec (unB s) with
  | error e =>
    right
    have hr : gotR s = zeroRec := by simp only [gotR, h]
    have he : gotE s = e := by simp only [gotE, h]; rfl
    rw [hr, he]
    exact ⟨decRec_err h, rfl, rfl⟩
  | ok r =>
    left
    have hr : gotR s = r := by simp only [gotR, h]
    have he : gotE s = 0 := by simp only [gotE, h]; rfl
    obtain ⟨h1, h2, h3⟩ := decRec_ok h
    rw [hr, he]
    have h2' : isRF r.kind r.items.length (itF r.items) r.next r.mark = true := h2
    refine ⟨rfl, putE_yes h2', ?_, h2'⟩
    rw [putS_yes h2', ← mk_un s, h1]
    rfl
def T19 : List (Nat × TI) := [(3, ti3), (4, ti4), (9, ti9), (22, ti22), (23, ti23), (27, ti27), (29, ti29), (53, ti53)]
theorem T19_ok : TabOK Try.prog T19 := .cons t3 (.cons t4 (.cons t9 (.cons t22 (.cons t23 (.cons t27 (.cons t29 (.cons t53 (.nil))))))))
theorem enters19 : Enters Try.prog 19 := fun _ _ => by kernel_rfl
theorem with_no (A : Option Addr) (n c : Nat) (f : Nat → Itm) (hn : n ≤ 1000000) (kd : Int) (nx : Lab) (mk : Int) (hv : U64 nx.bits) (hk : kd ≠ 1) (key : Int) (val : ByteArray) : Spec Try.prog 19 [recI A n c f kd nx mk, .int .u64 key, .str val] (fun _ => .tup [recAV none 0 zeroRec, .int .i64 (if isRF kd n f nx mk then 13 else 1)]) := by
  intro m w hm hargs
  have hmx : maxLen = 9223372036854775807 := rfl
  have SA := at_s A n c f hn key
  have SI := isR_s A n c f (by omega) kd nx mk hv
  unfold recI rowI at SI hargs
  unfold rowI at SA
  generalize hitF f key n (bsF f key 0 n) = hh at SA
  generalize bsF f key 0 n = p at SA
  generalize hir : isRF kd n f nx mk = ir at SI
  refine enter hm hargs Try.func19 rfl (by simp [Try.ntmps19]) fun a0 hF => ?_
  simp only [Try.ntmps19, startT] at hF
  obtain ⟨B, hB⟩ : ∃ B, B = std := ⟨_, rfl⟩
  refine wp_seq ?_
  apply region_okB hB T19_ok [1, 2, 3, 6] [3, 6] [] hF
  case hex => intro A X; conv => lhs; cbv
  case hob =>
    intro X
    subst hB
    simp [AllOb, Ob.holds, BE.den, std, stdCmp, stdArith] <;> omega
  case hQ =>
  intro X0 a0 w1 hF
  refine wp_seq ?_
  apply region_okB hB T19_ok [1, 2, 3, 6, 8, 9] [3, 6] [(3, .r fun _ => .tup [.int .i64 (p : Int), .bool (.v hh)])] hF
  case hex => intro A X; conv => lhs; cbv
  case hob =>
    intro X
    subst hB
    repeat (first | exact trivial | refine ⟨rfl, ?_⟩ | refine ⟨fun _ => rfl, ?_⟩ | refine ⟨ob_lab _ _ _ _, ?_⟩ | refine ⟨fun _ => ob_lab _ _ _ _, ?_⟩ | refine ⟨⟨enters55, SA⟩, ?_⟩ | refine ⟨fun _ => ⟨enters55, SA⟩, ?_⟩)
  case hQ =>
  intro X1 a0 w1 hF
  refine wp_seq ?_
  refine wp_block ?_
  refine wp_seq ?_
  apply region_okB hB T19_ok [17, 6, 3] [3, 6] [(1, .r fun _ => .bool (.v ir))] hF
  case hex => intro A X; conv => lhs; cbv
  case hob =>
    intro X
    subst hB
    repeat (first | exact trivial | refine ⟨rfl, ?_⟩ | refine ⟨fun _ => rfl, ?_⟩ | refine ⟨ob_lab _ _ _ _, ?_⟩ | refine ⟨fun _ => ob_lab _ _ _ _, ?_⟩ | refine ⟨⟨enters15, SI⟩, ?_⟩ | refine ⟨fun _ => ⟨enters15, SI⟩, ?_⟩)
  case hQ =>
  intro X2 a0 w1 hF
  refine test_ok hF rfl (fun hb hF => ?_) (fun hb hF => ?_)
  · skip
    have hb2 : B.not ir = true := hb
    have hirf : ir = false := by subst hB; cases ir <;> first | rfl | (simp [std] at hb2)
    rw [hirf]
    refine wp_seq ?_
    apply region_okB hB T19_ok [6, 7] [6] [] hF
    case hex => intro A X; conv => lhs; cbv
    case hob =>
      intro X
      subst hB
      repeat (first | exact trivial | refine ⟨rfl, ?_⟩ | refine ⟨fun _ => rfl, ?_⟩ | refine ⟨ob_lab _ _ _ _, ?_⟩ | refine ⟨fun _ => ob_lab _ _ _ _, ?_⟩)
    case hQ =>
    intro X3 a0 w1 hF
    refine wp_ret ?_
    refine ret_sim (fn := Try.f19) T19_ok hF (rs := [.cell 6 27, .tmp 7]) rfl (by conv => lhs; cbv) ?_ noAtom ?_
    · simp [AllOb, Ob.holds]
    · subst hB
      exact Sim.tup ⟨Sim.agg ⟨Sim.refl _, Sim.recell (fun i hi => absurd hi (Nat.not_lt_zero _)), Sim.refl _, Sim.refl _, Sim.refl _, trivial⟩, Sim.refl _, trivial⟩
  · skip
    have hb2 : B.not ir = false := hb
    have hirt : ir = true := by subst hB; cases ir <;> first | rfl | (simp [std] at hb2)
    rw [hirt]
    refine wp_seq ?_
    apply region_okB hB T19_ok [22, 6, 3] [3, 6] [] hF
    case hex => intro A X; conv => lhs; cbv
    case hob =>
      intro X
      subst hB
      repeat (first | exact trivial | refine ⟨rfl, ?_⟩ | refine ⟨fun _ => rfl, ?_⟩ | refine ⟨ob_lab _ _ _ _, ?_⟩ | refine ⟨fun _ => ob_lab _ _ _ _, ?_⟩)
    case hQ =>
    intro X4 a0 w1 hF
    refine test_ok hF rfl (fun hb hF => ?_) (fun hb hF => ?_)
    · skip
      skip
      refine wp_seq ?_
      apply region_okB hB T19_ok [6, 7] [6] [] hF
      case hex => intro A X; conv => lhs; cbv
      case hob =>
        intro X
        subst hB
        repeat (first | exact trivial | refine ⟨rfl, ?_⟩ | refine ⟨fun _ => rfl, ?_⟩ | refine ⟨ob_lab _ _ _ _, ?_⟩ | refine ⟨fun _ => ob_lab _ _ _ _, ?_⟩)
      case hQ =>
      intro X5 a0 w1 hF
      refine wp_ret ?_
      refine ret_sim (fn := Try.f19) T19_ok hF (rs := [.cell 6 27, .tmp 7]) rfl (by conv => lhs; cbv) ?_ noAtom ?_
      · simp [AllOb, Ob.holds]
      · subst hB
        exact Sim.tup ⟨Sim.agg ⟨Sim.refl _, Sim.recell (fun i hi => absurd hi (Nat.not_lt_zero _)), Sim.refl _, Sim.refl _, Sim.refl _, trivial⟩, Sim.refl _, trivial⟩
    · exfalso
      have : ¬ kd ≠ 1 := by subst hB; simpa [std, stdCmp] using hb
      exact this hk
def T14 : List (Nat × TI) := [(4, ti4), (9, ti9), (22, ti22), (23, ti23), (25, ti25), (27, ti27), (29, ti29), (53, ti53)]
theorem T14_ok : TabOK Try.prog T14 := .cons t4 (.cons t9 (.cons t22 (.cons t23 (.cons t25 (.cons t27 (.cons t29 (.cons t53 (.nil))))))))
theorem enters14 : Enters Try.prog 14 := fun _ _ => by kernel_rfl
theorem recorded_s : Spec Try.prog 14 [] (fun _ => .bool .tt) := by
  intro m w hm hargs
  have SN := rnone_s
  have SM := none_s
  simp only [labAV, noneL] at SN SM
  have S1 := put_s none 0 0 f0 (Nat.zero_le _) 2 noneL 0 (show U64 0 from ⟨by decide, by decide⟩) ⟨by decide, by decide⟩ (fun i hi => absurd hi (Nat.not_lt_zero _))
  rw [show putS 2 0 f0 noneL 0 = ⟨#[1, 2]⟩ from by kernel_rfl, show putE 2 0 f0 noneL 0 = 0 from by kernel_rfl] at S1
  have S3 := get_s ⟨#[1, 1, 1, 1, 1, 5, 1, 1, 97, 0]⟩
  rw [show gotR ⟨#[1, 1, 1, 1, 1, 5, 1, 1, 97, 0]⟩ = ⟨1, [⟨5, ⟨#[97]⟩⟩], noneL, 0⟩ from by kernel_rfl, show gotE ⟨#[1, 1, 1, 1, 1, 5, 1, 1, 97, 0]⟩ = 0 from by kernel_rfl] at S3
  simp only [recAV, recI, rowI, noneL, List.length_cons, List.length_nil, Nat.zero_add] at S3
  obtain ⟨g, hg⟩ : ∃ g, g = itF [⟨5, ⟨#[97]⟩⟩] := ⟨_, rfl⟩
  rw [← hg] at S3
  have S4 := with_no none 0 0 f0 (Nat.zero_le _) 2 noneL 0 (show U64 0 from ⟨by decide, by decide⟩) (by decide) 1 ⟨#[]⟩
  rw [show (if isRF 2 0 f0 noneL 0 then (13 : Int) else 1) = 13 from by kernel_rfl] at S4
  simp only [recAV, recI, rowI, zeroRec, List.length_nil] at S4
  obtain ⟨z, hz⟩ : ∃ z, z = itF [] := ⟨_, rfl⟩
  rw [← hz] at S4
  refine enter hm hargs Try.func14 rfl (by simp [Try.ntmps14]) fun a0 hF => ?_
  simp only [Try.ntmps14, startT] at hF
  obtain ⟨B, hB⟩ : ∃ B, B = std := ⟨_, rfl⟩
  refine wp_seq ?_
  apply region_okB hB T14_ok [] [] [] hF
  case hex => intro A X; conv => lhs; cbv
  case hob =>
    intro X
    subst hB
    simp [AllOb, Ob.holds, BE.den, std, stdCmp, stdArith] <;> omega
  case hQ =>
  intro X0 a0 w1 hF
  refine wp_seq ?_
  apply region_okB hB T14_ok [1] [1] [(0, .r fun _ => .agg [.int .i64 (-1), .int .u64 0])] hF
  case hex => intro A X; conv => lhs; cbv
  case hob =>
    intro X
    subst hB
    repeat (first | exact trivial | refine ⟨rfl, ?_⟩ | refine ⟨fun _ => rfl, ?_⟩ | refine ⟨ob_lab _ _ _ _, ?_⟩ | refine ⟨fun _ => ob_lab _ _ _ _, ?_⟩ | refine ⟨⟨enters41, SN⟩, ?_⟩ | refine ⟨fun _ => ⟨enters41, SN⟩, ?_⟩)
  case hQ =>
  intro X1 a0 w1 hF
  refine wp_seq ?_
  apply region_okB hB T14_ok [1, 2, 3] [1] [(2, .r fun _ => .tup [.str ⟨#[1, 2]⟩, .int .i64 0])] hF
  case hex => intro A X; conv => lhs; cbv
  case hob =>
    intro X
    subst hB
    repeat (first | exact trivial | refine ⟨rfl, ?_⟩ | refine ⟨fun _ => rfl, ?_⟩ | refine ⟨ob_lab _ _ _ _, ?_⟩ | refine ⟨fun _ => ob_lab _ _ _ _, ?_⟩ | refine ⟨⟨enters10, S1.sim ⟨Sim.agg ⟨Sim.refl _, Sim.recell (fun i hi => absurd hi (Nat.not_lt_zero _)), Sim.refl _, Sim.refl _, Sim.refl _, trivial⟩, trivial⟩⟩, ?_⟩ | refine ⟨fun _ => ⟨enters10, S1.sim ⟨Sim.agg ⟨Sim.refl _, Sim.recell (fun i hi => absurd hi (Nat.not_lt_zero _)), Sim.refl _, Sim.refl _, Sim.refl _, trivial⟩, trivial⟩⟩, ?_⟩)
  case hQ =>
  intro X2 a0 w1 hF
  refine wp_seq ?_
  apply region_okB hB T14_ok [1, 2, 3, 4] [1, 4] [] hF
  case hex => intro A X; conv => lhs; cbv
  case hob =>
    intro X
    subst hB
    repeat (first | exact trivial | refine ⟨rfl, ?_⟩ | refine ⟨fun _ => rfl, ?_⟩ | refine ⟨ob_lab _ _ _ _, ?_⟩ | refine ⟨fun _ => ob_lab _ _ _ _, ?_⟩)
  case hQ =>
  intro X3 a0 w1 hF
  have S2 := put_s (some ⟨(X3 1).b, 0, none⟩) 1 1 f1 (by decide) 1 noneL 0 (show U64 noneL.bits from ⟨by decide, by decide⟩) (show U64 0 from ⟨by decide, by decide⟩) (fun i hi => show U64 5 from ⟨by decide, by decide⟩)
  rw [show putS 1 1 f1 noneL 0 = ⟨#[1, 1, 1, 1, 1, 5, 1, 1, 97, 0]⟩ from by kernel_rfl, show putE 1 1 f1 noneL 0 = 0 from by kernel_rfl] at S2
  have S6 := isR_s (some ⟨(X3 1).b, 0, none⟩) 1 1 f1 (by decide) 1 noneL 0 (show U64 noneL.bits from ⟨by decide, by decide⟩)
  rw [show isRF 1 1 f1 noneL 0 = true from by kernel_rfl] at S6
  have S7 := isR_s none 0 0 f0 (by decide) 0 ⟨0, 0⟩ 0 (show U64 0 from ⟨by decide, by decide⟩)
  rw [show isRF 0 0 f0 ⟨0, 0⟩ 0 = false from by kernel_rfl] at S7
  refine wp_seq ?_
  apply region_okB hB T14_ok [1, 2, 3, 4, 5, 6] [1, 4] [(1, .r fun _ => .tup [.str ⟨#[1, 1, 1, 1, 1, 5, 1, 1, 97, 0]⟩, .int .i64 0])] hF
  case hex => intro A X; conv => lhs; cbv
  case hob =>
    intro X
    subst hB
    repeat (first | exact trivial | refine ⟨rfl, ?_⟩ | refine ⟨fun _ => rfl, ?_⟩ | refine ⟨ob_lab _ _ _ _, ?_⟩ | refine ⟨fun _ => ob_lab _ _ _ _, ?_⟩ | refine ⟨⟨enters10, S2.sim ⟨Sim.agg ⟨Sim.refl _, Sim.resl rfl one_row, Sim.refl _, Sim.refl _, Sim.refl _, trivial⟩, trivial⟩⟩, ?_⟩ | refine ⟨fun _ => ⟨enters10, S2.sim ⟨Sim.agg ⟨Sim.refl _, Sim.resl rfl one_row, Sim.refl _, Sim.refl _, Sim.refl _, trivial⟩, trivial⟩⟩, ?_⟩)
  case hQ =>
  intro X4 a0 w1 hF
  refine wp_seq ?_
  apply region_okB hB T14_ok [1, 2, 3, 4, 5, 6, 7, 8] [1, 4, 7] [(0, .r fun x => .tup [.agg [.int .i64 1, .sl none (x.A 0) 1 (x.c 0) 2 (fun i => itC (g i)), .int .i64 (-1), .int .u64 0, .int .u64 0], .int .i64 0])] hF
  case hex => intro A X; conv => lhs; cbv
  case hob =>
    intro X
    subst hB
    repeat (first | exact trivial | refine ⟨rfl, ?_⟩ | refine ⟨fun _ => rfl, ?_⟩ | refine ⟨ob_lab _ _ _ _, ?_⟩ | refine ⟨fun _ => ob_lab _ _ _ _, ?_⟩ | refine ⟨⟨enters12, S3⟩, ?_⟩ | refine ⟨fun _ => ⟨enters12, S3⟩, ?_⟩)
  case hQ =>
  intro X5 a0 w1 hF
  have S5 := same_s ((X5 0).A 0) 1 ((X5 0).c 0) g (by decide) 1 noneL 0 (some ⟨(X3 1).b, 0, none⟩) 1 1 f1 1 noneL 0
  rw [show sameRF 1 1 g noneL 0 1 1 f1 noneL 0 = true from by rw [hg]; kernel_rfl] at S5
  refine wp_seq ?_
  apply region_okB hB T14_ok [1, 2, 3, 4, 5, 6, 7, 8, 10] [1, 4, 7] [(2, .r fun _ => .tup [.agg [.int .i64 0, .sl none none 0 0 2 (fun i => itC (z i)), .int .i64 0, .int .u64 0, .int .u64 0], .int .i64 13])] hF
  case hex => intro A X; conv => lhs; cbv
  case hob =>
    intro X
    subst hB
    repeat (first | exact trivial | refine ⟨rfl, ?_⟩ | refine ⟨fun _ => rfl, ?_⟩ | refine ⟨ob_lab _ _ _ _, ?_⟩ | refine ⟨fun _ => ob_lab _ _ _ _, ?_⟩ | refine ⟨⟨enters19, S4.sim ⟨Sim.agg ⟨Sim.refl _, Sim.recell (fun i hi => absurd hi (Nat.not_lt_zero _)), Sim.refl _, Sim.refl _, Sim.refl _, trivial⟩, Sim.refl _, Sim.refl _, trivial⟩⟩, ?_⟩ | refine ⟨fun _ => ⟨enters19, S4.sim ⟨Sim.agg ⟨Sim.refl _, Sim.recell (fun i hi => absurd hi (Nat.not_lt_zero _)), Sim.refl _, Sim.refl _, Sim.refl _, trivial⟩, Sim.refl _, Sim.refl _, trivial⟩⟩, ?_⟩)
  case hQ =>
  intro X6 a0 w1 hF
  refine wp_seq ?_
  apply drawn_okB hB (by kernel_rfl) T14_ok [0] [] [(0, .r fun _ => .agg [.int .i64 (-1), .int .u64 0]), (28, .r fun _ => .bool (.v true)), (36, .r fun _ => .bool (.v true)), (40, .r fun _ => .bool (.v false))] hF rfl
  case hex => intro A X; conv => lhs; cbv
  case hD => kernel_rfl
  case hlen => rfl
  case hob =>
    intro X
    subst hB
    repeat (first | exact trivial | refine ⟨rfl, ?_⟩ | refine ⟨fun _ => rfl, ?_⟩ | refine ⟨ob_lab _ _ _ _, ?_⟩ | refine ⟨fun _ => ob_lab _ _ _ _, ?_⟩ | refine ⟨⟨enters36, SM⟩, ?_⟩ | refine ⟨fun _ => ⟨enters36, SM⟩, ?_⟩ | refine ⟨⟨enters17, S5.sim ⟨Sim.refl _, Sim.agg ⟨Sim.refl _, Sim.resl rfl one_row, Sim.refl _, Sim.refl _, Sim.refl _, trivial⟩, trivial⟩⟩, ?_⟩ | refine ⟨fun _ => ⟨enters17, S5.sim ⟨Sim.refl _, Sim.agg ⟨Sim.refl _, Sim.resl rfl one_row, Sim.refl _, Sim.refl _, Sim.refl _, trivial⟩, trivial⟩⟩, ?_⟩ | refine ⟨⟨enters15, S6.sim ⟨Sim.agg ⟨Sim.refl _, Sim.resl rfl one_row, Sim.refl _, Sim.refl _, Sim.refl _, trivial⟩, trivial⟩⟩, ?_⟩ | refine ⟨fun _ => ⟨enters15, S6.sim ⟨Sim.agg ⟨Sim.refl _, Sim.resl rfl one_row, Sim.refl _, Sim.refl _, Sim.refl _, trivial⟩, trivial⟩⟩, ?_⟩ | refine ⟨⟨enters15, S7.sim ⟨Sim.agg ⟨Sim.refl _, Sim.recell (fun i hi => absurd hi (Nat.not_lt_zero _)), Sim.refl _, Sim.refl _, Sim.refl _, trivial⟩, trivial⟩⟩, ?_⟩ | refine ⟨fun _ => ⟨enters15, S7.sim ⟨Sim.agg ⟨Sim.refl _, Sim.recell (fun i hi => absurd hi (Nat.not_lt_zero _)), Sim.refl _, Sim.refl _, Sim.refl _, trivial⟩, trivial⟩⟩, ?_⟩)
  case hQ =>
  intro X7 a0 w1 hF
  refine wp_ret ?_
  refine ret_sim (fn := Try.f14) T14_ok hF (rs := [.tmp 0]) rfl (rfl) ?_ noAtom ?_
  · simp [AllOb, Ob.holds]
  · subst hB
    exact Sim.bool (by kernel_rfl)
def T3 : List (Nat × TI) := [(3, ti3), (4, ti4), (9, ti9), (27, ti27), (29, ti29)]
theorem T3_ok : TabOK Try.prog T3 := .cons t3 (.cons t4 (.cons t9 (.cons t27 (.cons t29 (.nil)))))
theorem enters3 : Enters Try.prog 3 := fun _ _ => by kernel_rfl
theorem lawBytes_s (A : Option Addr) (n c : Nat) (f : Nat → Itm) (hn : n ≤ maxLen) (kd : Int) (nx : Lab) (mk : Int) (hv : U64 nx.bits) (hmk : U64 mk) (hki : ∀ i, i < n → U64 (f i).key) (s : ByteArray) : Spec Try.prog 3 [recI A n c f kd nx mk, .str s] (fun _ => .bool .tt) := by
  intro m w hm hargs
  have hmx : maxLen = 9223372036854775807 := rfl
  have SB := big_s A n c f hn kd nx mk
  have SI := isR_s A n c f hn kd nx mk hv
  have SP := put_s A n c f hn kd nx mk hv hmk hki
  have SR := recorded_s
  have SJ := risR_s A n c f hn kd nx mk hv
  have SQ := rput_s A n c f hn kd nx mk hv hmk hki
  have SG := get_s s
  obtain ⟨r, hr⟩ : ∃ r, r = gotR s := ⟨_, rfl⟩
  have hr16 : r.items.length ≤ 16 := by rw [hr]; exact (got_in s).2
  have hss := sameF_refl r.items.length (itF r.items)
  rw [← hr] at SG
  simp only [recAV] at SG
  obtain ⟨n2, hn2⟩ : ∃ n, n = r.items.length := ⟨_, rfl⟩
  obtain ⟨f2, hf2⟩ : ∃ f, f = itF r.items := ⟨_, rfl⟩
  rw [← hn2] at hr16
  rw [← hn2, ← hf2] at SG hss
  have SS := fun A c A2 c2 => same_s A n2 c f2 (by omega) r.kind r.next r.mark A2 n2 c2 f2 r.kind r.next r.mark
  rw [show sameRF r.kind n2 f2 r.next r.mark r.kind n2 f2 r.next r.mark = true by simp [sameRF, hss]] at SS
  unfold recI rowI at SI SJ SB SP SQ SG SS hargs
  generalize bigF n f = bg at SB
  generalize isRF kd n f nx mk = ir at SI SJ
  generalize putS kd n f nx mk = ps at SP SQ
  generalize putE kd n f nx mk = pe at SP SQ
  obtain ⟨ge, hge0⟩ : ∃ g, g = gotE s := ⟨_, rfl⟩
  have hge := hge0.symm
  rw [hge] at SG
  refine enter hm hargs Try.func3 rfl (by simp [Try.ntmps3]) fun a0 hF => ?_
  simp only [Try.ntmps3, startT] at hF
  obtain ⟨B, hB⟩ : ∃ B, B = std := ⟨_, rfl⟩
  refine wp_seq ?_
  apply region_okB hB T3_ok [1, 2] [2] [] hF
  case hex => intro A X; conv => lhs; cbv
  case hob =>
    intro X
    subst hB
    simp [AllOb, Ob.holds, BE.den, std, stdCmp, stdArith] <;> omega
  case hQ =>
  intro X0 a0 w1 hF
  refine wp_seq ?_
  refine wp_seq ?_
  apply region_okB hB T3_ok [19, 1, 2] [2] [(1, .r fun _ => .bool (.v bg))] hF
  case hex => intro A X; conv => lhs; cbv
  case hob =>
    intro X
    subst hB
    repeat (first | exact trivial | refine ⟨rfl, ?_⟩ | refine ⟨fun _ => rfl, ?_⟩ | refine ⟨ob_lab _ _ _ _, ?_⟩ | refine ⟨fun _ => ob_lab _ _ _ _, ?_⟩ | refine ⟨⟨enters9, SB⟩, ?_⟩ | refine ⟨fun _ => ⟨enters9, SB⟩, ?_⟩)
  case hQ =>
  intro X1 a0 w1 hF
  refine test_ok hF rfl (fun hb hF => ?_) (fun hb hF => ?_)
  · skip
    refine wp_seq ?_
    apply region_okB hB T3_ok [4] [] [] hF
    case hex => intro A X; conv => lhs; cbv
    case hob =>
      intro X
      subst hB
      simp [AllOb, Ob.holds, BE.den, std, stdCmp, stdArith] <;> omega
    case hQ =>
    intro X2 a0 w1 hF
    refine wp_ret ?_
    refine ret_spec (fn := Try.f3) T3_ok hF (rs := [.tmp 4]) rfl (rfl) ?_ noAtom ?_
    · subst hB; simp [AllOb, Ob.holds]
    · rfl
  · skip
    have hs5 : s.size ≤ 5000 := by
      have h9 : (if bg = true then true else decide ((s.size : Int) > 5000)) = false := by subst hB; exact hb
      rw [ite_or, Bool.or_eq_false_iff] at h9
      have := of_decide_eq_false h9.2
      omega
    have SH := rgot_s s (by omega)
    rw [← hr, hge] at SH
    simp only [recAV, ← hn2, ← hf2] at SH
    unfold recI rowI at SH
    refine wp_skip ?_
    refine wp_seq ?_
    apply region_okB hB T3_ok [1, 2, 5, 6] [2] [(1, .r fun _ => .tup [.str ps, .int .i64 pe])] hF
    case hex => intro A X; conv => lhs; cbv
    case hob =>
      intro X
      subst hB
      repeat (first | exact trivial | refine ⟨rfl, ?_⟩ | refine ⟨fun _ => rfl, ?_⟩ | refine ⟨ob_lab _ _ _ _, ?_⟩ | refine ⟨fun _ => ob_lab _ _ _ _, ?_⟩ | refine ⟨⟨enters10, SP⟩, ?_⟩ | refine ⟨fun _ => ⟨enters10, SP⟩, ?_⟩)
    case hQ =>
    intro X3 a0 w1 hF
    refine wp_seq ?_
    apply region_okB hB T3_ok [1, 2, 5, 6, 7, 8] [2] [(1, .r fun _ => .tup [.str ps, .int .i64 pe])] hF
    case hex => intro A X; conv => lhs; cbv
    case hob =>
      intro X
      subst hB
      repeat (first | exact trivial | refine ⟨rfl, ?_⟩ | refine ⟨fun _ => rfl, ?_⟩ | refine ⟨ob_lab _ _ _ _, ?_⟩ | refine ⟨fun _ => ob_lab _ _ _ _, ?_⟩ | refine ⟨⟨enters11, SQ⟩, ?_⟩ | refine ⟨fun _ => ⟨enters11, SQ⟩, ?_⟩)
    case hQ =>
    intro X4 a0 w1 hF
    refine wp_seq ?_
    apply region_okB hB T3_ok [1, 2, 5, 6, 7, 8, 9, 10] [2, 9] [(1, .r fun x => .tup [.agg [.int .i64 r.kind, .sl none (x.A 0) n2 (x.c 0) 2 (fun i => itC (f2 i)), .int .i64 r.next.len, .int .u64 r.next.bits, .int .u64 r.mark], .int .i64 ge])] hF
    case hex => intro A X; conv => lhs; cbv
    case hob =>
      intro X
      subst hB
      repeat (first | exact trivial | refine ⟨rfl, ?_⟩ | refine ⟨fun _ => rfl, ?_⟩ | refine ⟨ob_lab _ _ _ _, ?_⟩ | refine ⟨fun _ => ob_lab _ _ _ _, ?_⟩ | refine ⟨⟨enters12, SG⟩, ?_⟩ | refine ⟨fun _ => ⟨enters12, SG⟩, ?_⟩)
    case hQ =>
    intro X5 a0 w1 hF
    refine wp_seq ?_
    apply region_okB hB T3_ok [2, 5, 6, 7, 8, 9, 10, 11, 12] [2, 9, 11] [(1, .r fun x => .tup [.agg [.int .i64 r.kind, .sl none (x.A 0) n2 (x.c 0) 2 (fun i => itC (f2 i)), .int .i64 r.next.len, .int .u64 r.next.bits, .int .u64 r.mark], .int .i64 ge])] hF
    case hex => intro A X; conv => lhs; cbv
    case hob =>
      intro X
      subst hB
      repeat (first | exact trivial | refine ⟨rfl, ?_⟩ | refine ⟨fun _ => rfl, ?_⟩ | refine ⟨ob_lab _ _ _ _, ?_⟩ | refine ⟨fun _ => ob_lab _ _ _ _, ?_⟩ | refine ⟨⟨enters13, SH⟩, ?_⟩ | refine ⟨fun _ => ⟨enters13, SH⟩, ?_⟩)
    case hQ =>
    intro X6 a0 w1 hF
    have SGd := SG
    refine wp_seq ?_
    apply drawn_okB hB (by kernel_rfl) T3_ok [4] [] [(0, .r fun _ => .bool .tt), (3, .r fun _ => .bool (.v ir)), (5, .r fun _ => .bool (.v ir)), (21, .r fun _ => .bool (.v true))] hF rfl
    case hex => intro A X; conv => lhs; cbv
    case hD => kernel_rfl
    case hlen => rfl
    case hob =>
      intro X
      subst hB
      repeat (first | exact trivial | refine ⟨rfl, ?_⟩ | refine ⟨fun _ => rfl, ?_⟩ | refine ⟨ob_lab _ _ _ _, ?_⟩ | refine ⟨fun _ => ob_lab _ _ _ _, ?_⟩ | refine ⟨⟨enters14, SR⟩, ?_⟩ | refine ⟨fun _ => ⟨enters14, SR⟩, ?_⟩ | refine ⟨⟨enters15, SI⟩, ?_⟩ | refine ⟨fun _ => ⟨enters15, SI⟩, ?_⟩ | refine ⟨⟨enters16, SJ⟩, ?_⟩ | refine ⟨fun _ => ⟨enters16, SJ⟩, ?_⟩ | refine ⟨⟨enters17, SS _ _ _ _⟩, ?_⟩ | refine ⟨fun _ => ⟨enters17, SS _ _ _ _⟩, ?_⟩)
    case hQ =>
    intro X7 a0 w1 hF
    refine wp_ret ?_
    refine ret_sim (fn := Try.f3) T3_ok hF (rs := [.tmp 4]) rfl (rfl) ?_ noAtom ?_
    · simp [AllOb, Ob.holds]
    · subst hB
      exact Sim.bool (by simp [BE.den, std, stdCmp, stdScmp]; rfl)
def T4 : List (Nat × TI) := [(3, ti3), (4, ti4), (9, ti9), (22, ti22), (27, ti27), (29, ti29)]
theorem T4_ok : TabOK Try.prog T4 := .cons t3 (.cons t4 (.cons t9 (.cons t22 (.cons t27 (.cons t29 (.nil))))))
theorem enters4 : Enters Try.prog 4 := fun _ _ => by kernel_rfl
theorem lawBack_s (A : Option Addr) (n c : Nat) (f : Nat → Itm) (hn : n ≤ maxLen) (kd : Int) (nx : Lab) (mk : Int) (hv : U64 nx.bits) (hmk : U64 mk) (hki : ∀ i, i < n → U64 (f i).key) (s : ByteArray) : Spec Try.prog 4 [recI A n c f kd nx mk, .str s] (fun _ => .bool .tt) := by
  intro m w hm hargs
  have hmx : maxLen = 9223372036854775807 := rfl
  have SB := big_s A n c f hn kd nx mk
  have SI := isR_s A n c f hn kd nx mk hv
  have SP := put_s A n c f hn kd nx mk hv hmk hki
  have SR := recorded_s
  have hF1 := back_put (A := A) (c := c) hv hmk hki (kd := kd)
  have hF2 := back_got s
  obtain ⟨ps, hps⟩ : ∃ p, p = putS kd n f nx mk := ⟨_, rfl⟩
  have SG := get_s ps
  have SY := get_s s
  rw [← hps] at SP hF1
  obtain ⟨x, hx⟩ : ∃ r, r = gotR ps := ⟨_, rfl⟩
  have hx16 : x.items.length ≤ 16 := by rw [hx]; exact (got_in ps).2
  rw [← hx] at SG hF1
  obtain ⟨y, hy⟩ : ∃ r, r = gotR s := ⟨_, rfl⟩
  obtain ⟨⟨hyb, hym, hyk⟩, hy16⟩ : InR y ∧ y.items.length ≤ 16 := by rw [hy]; exact got_in s
  rw [← hy] at SY hF2
  simp only [recAV] at SG SY
  obtain ⟨n1, hn1⟩ : ∃ n, n = x.items.length := ⟨_, rfl⟩
  obtain ⟨f1, hf1⟩ : ∃ f, f = itF x.items := ⟨_, rfl⟩
  obtain ⟨n2, hn2⟩ : ∃ n, n = y.items.length := ⟨_, rfl⟩
  obtain ⟨f2, hf2⟩ : ∃ f, f = itF y.items := ⟨_, rfl⟩
  rw [← hn1] at hx16
  rw [← hn2] at hy16 hyk
  rw [← hf2] at hyk
  rw [← hn1, ← hf1] at SG hF1
  rw [← hn2, ← hf2] at SY hF2
  have SP2 := fun A c => put_s A n2 c f2 (by omega) y.kind y.next y.mark hyb hym hyk
  have SI2 := fun A c => isR_s A n2 c f2 (by omega) y.kind y.next y.mark hyb
  have SS := fun A1 c1 => same_s A1 n1 c1 f1 (by omega) x.kind x.next x.mark A n c f kd nx mk
  unfold recI rowI at SI SB SP SP2 SI2 SG SY SS hargs
  generalize bigF n f = bg at SB
  generalize isRF kd n f nx mk = ir at SI hF1
  generalize putE kd n f nx mk = pe at SP hF1
  generalize gotE ps = xe at SG hF1
  generalize gotE s = ye at SY hF2
  generalize sameRF x.kind n1 f1 x.next x.mark kd n f nx mk = sm at SS hF1
  generalize putS y.kind n2 f2 y.next y.mark = t at SP2 hF2
  generalize putE y.kind n2 f2 y.next y.mark = te at SP2 hF2
  generalize isRF y.kind n2 f2 y.next y.mark = iy at SI2 hF2
  refine enter hm hargs Try.func4 rfl (by simp [Try.ntmps4]) fun a0 hF => ?_
  simp only [Try.ntmps4, startT] at hF
  obtain ⟨B, hB⟩ : ∃ B, B = std := ⟨_, rfl⟩
  refine wp_seq ?_
  apply region_okB hB T4_ok [1, 2] [2] [] hF
  case hex => intro A X; conv => lhs; cbv
  case hob =>
    intro X
    subst hB
    simp [AllOb, Ob.holds, BE.den, std, stdCmp, stdArith] <;> omega
  case hQ =>
  intro X0 a0 w1 hF
  refine wp_seq ?_
  refine wp_seq ?_
  apply region_okB hB T4_ok [19, 1, 2] [2] [(1, .r fun _ => .bool (.v bg))] hF
  case hex => intro A X; conv => lhs; cbv
  case hob =>
    intro X
    subst hB
    repeat (first | exact trivial | refine ⟨rfl, ?_⟩ | refine ⟨fun _ => rfl, ?_⟩ | refine ⟨ob_lab _ _ _ _, ?_⟩ | refine ⟨fun _ => ob_lab _ _ _ _, ?_⟩ | refine ⟨⟨enters9, SB⟩, ?_⟩ | refine ⟨fun _ => ⟨enters9, SB⟩, ?_⟩)
  case hQ =>
  intro X1 a0 w1 hF
  refine test_ok hF rfl (fun hb hF => ?_) (fun hb hF => ?_)
  · skip
    refine wp_seq ?_
    apply region_okB hB T4_ok [4] [] [] hF
    case hex => intro A X; conv => lhs; cbv
    case hob =>
      intro X
      subst hB
      simp [AllOb, Ob.holds, BE.den, std, stdCmp, stdArith] <;> omega
    case hQ =>
    intro X2 a0 w1 hF
    refine wp_ret ?_
    refine ret_spec (fn := Try.f4) T4_ok hF (rs := [.tmp 4]) rfl (rfl) ?_ noAtom ?_
    · subst hB; simp [AllOb, Ob.holds]
    · rfl
  · skip
    skip
    refine wp_skip ?_
    refine wp_seq ?_
    apply region_okB hB T4_ok [1, 2, 5, 6] [2] [(1, .r fun _ => .tup [.str ps, .int .i64 pe])] hF
    case hex => intro A X; conv => lhs; cbv
    case hob =>
      intro X
      subst hB
      repeat (first | exact trivial | refine ⟨rfl, ?_⟩ | refine ⟨fun _ => rfl, ?_⟩ | refine ⟨ob_lab _ _ _ _, ?_⟩ | refine ⟨fun _ => ob_lab _ _ _ _, ?_⟩ | refine ⟨⟨enters10, SP⟩, ?_⟩ | refine ⟨fun _ => ⟨enters10, SP⟩, ?_⟩)
    case hQ =>
    intro X3 a0 w1 hF
    refine wp_seq ?_
    apply region_okB hB T4_ok [1, 2, 6, 7, 8] [2, 7] [(1, .r fun x0 => .tup [.agg [.int .i64 x.kind, .sl none (x0.A 0) n1 (x0.c 0) 2 (fun i => itC (f1 i)), .int .i64 x.next.len, .int .u64 x.next.bits, .int .u64 x.mark], .int .i64 xe])] hF
    case hex => intro A X; conv => lhs; cbv
    case hob =>
      intro X
      subst hB
      repeat (first | exact trivial | refine ⟨rfl, ?_⟩ | refine ⟨fun _ => rfl, ?_⟩ | refine ⟨ob_lab _ _ _ _, ?_⟩ | refine ⟨fun _ => ob_lab _ _ _ _, ?_⟩ | refine ⟨⟨enters12, SG⟩, ?_⟩ | refine ⟨fun _ => ⟨enters12, SG⟩, ?_⟩)
    case hQ =>
    intro X4 a0 w1 hF
    refine wp_seq ?_
    apply region_okB hB T4_ok [1, 2, 6, 7, 8, 9, 10] [2, 7, 9] [(1, .r fun x0 => .tup [.agg [.int .i64 y.kind, .sl none (x0.A 0) n2 (x0.c 0) 2 (fun i => itC (f2 i)), .int .i64 y.next.len, .int .u64 y.next.bits, .int .u64 y.mark], .int .i64 ye])] hF
    case hex => intro A X; conv => lhs; cbv
    case hob =>
      intro X
      subst hB
      repeat (first | exact trivial | refine ⟨rfl, ?_⟩ | refine ⟨fun _ => rfl, ?_⟩ | refine ⟨ob_lab _ _ _ _, ?_⟩ | refine ⟨fun _ => ob_lab _ _ _ _, ?_⟩ | refine ⟨⟨enters12, SY⟩, ?_⟩ | refine ⟨fun _ => ⟨enters12, SY⟩, ?_⟩)
    case hQ =>
    intro X5 a0 w1 hF
    refine wp_seq ?_
    apply region_okB hB T4_ok [1, 2, 6, 7, 8, 9, 10, 11, 12] [2, 7, 9] [(1, .r fun _ => .tup [.str t, .int .i64 te])] hF
    case hex => intro A X; conv => lhs; cbv
    case hob =>
      intro X
      subst hB
      repeat (first | exact trivial | refine ⟨rfl, ?_⟩ | refine ⟨fun _ => rfl, ?_⟩ | refine ⟨ob_lab _ _ _ _, ?_⟩ | refine ⟨fun _ => ob_lab _ _ _ _, ?_⟩ | refine ⟨⟨enters10, SP2 _ _⟩, ?_⟩ | refine ⟨fun _ => ⟨enters10, SP2 _ _⟩, ?_⟩)
    case hQ =>
    intro X6 a0 w1 hF
    refine wp_seq ?_
    refine wp_seq ?_
    apply region_okB hB T4_ok [58, 1, 9, 10, 11, 12] [9] [(3, .r fun _ => .bool (.v ir)), (14, .r fun _ => .bool (.v sm))] hF
    case hex => intro A X; conv => lhs; cbv
    case hob =>
      intro X
      subst hB
      repeat (first | exact trivial | refine ⟨rfl, ?_⟩ | refine ⟨fun _ => rfl, ?_⟩ | refine ⟨ob_lab _ _ _ _, ?_⟩ | refine ⟨fun _ => ob_lab _ _ _ _, ?_⟩ | refine ⟨⟨enters15, SI⟩, ?_⟩ | refine ⟨fun _ => ⟨enters15, SI⟩, ?_⟩ | refine ⟨⟨enters17, SS _ _⟩, ?_⟩ | refine ⟨fun _ => ⟨enters17, SS _ _⟩, ?_⟩)
    case hQ =>
    intro X7 a0 w1 hF
    refine test_ok hF rfl (fun hb hF => ?_) (fun hb hF => ?_)
    · exfalso
      rcases hF1 with ⟨rfl, rfl⟩ | ⟨rfl, rfl, rfl, rfl⟩
      · subst hB
        simp [std, stdCmp] at hb
      · subst hB
        simp [std, stdCmp] at hb
    · skip
      skip
      refine wp_skip ?_
      refine wp_seq ?_
      apply region_okB hB T4_ok [4] [] [(0, .r fun _ => .bool .tt), (15, .r fun _ => .bool (.v iy))] hF
      case hex => intro A X; conv => lhs; cbv
      case hob =>
        intro X
        subst hB
        repeat (first | exact trivial | refine ⟨rfl, ?_⟩ | refine ⟨fun _ => rfl, ?_⟩ | refine ⟨ob_lab _ _ _ _, ?_⟩ | refine ⟨fun _ => ob_lab _ _ _ _, ?_⟩ | refine ⟨⟨enters14, SR⟩, ?_⟩ | refine ⟨fun _ => ⟨enters14, SR⟩, ?_⟩ | refine ⟨⟨enters15, SI2 _ _⟩, ?_⟩ | refine ⟨fun _ => ⟨enters15, SI2 _ _⟩, ?_⟩)
      case hQ =>
      intro X9 a0 w1 hF
      refine wp_ret ?_
      refine ret_sim (fn := Try.f4) T4_ok hF (rs := [.tmp 4]) rfl (rfl) ?_ noAtom ?_
      · simp [AllOb, Ob.holds]
      · subst hB
        refine Sim.bool ?_
        rcases hF2 with ⟨rfl, rfl, rfl, rfl⟩ | ⟨h1, h2, h3⟩
        · simp [BE.den, std, stdCmp, stdScmp]; rfl
        · rcases h1 with rfl | rfl <;> subst h3 <;> simp [BE.den, std, stdCmp, stdScmp, h2] <;> rfl
end Go.Proofs.Ytkamdppnnhjajaa.Sym
