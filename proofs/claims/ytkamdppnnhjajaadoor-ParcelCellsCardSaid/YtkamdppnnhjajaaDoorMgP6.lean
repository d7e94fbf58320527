/-
  SymPut, SymCelA, SymRIsP, SymPk, SymRPut, SymLPuts, WalkParcelPuts: put together by a program of mine (a claim may have 60 files at most). Conditions: none.
-/
import Derived.Test.YtkamdppnnhjajaaDoorMgP1
import Derived.Test.YtkamdppnnhjajaaDoorMgP2
import Derived.Test.YtkamdppnnhjajaaDoorMgP3
import Derived.Test.YtkamdppnnhjajaaDoorMgP4
import Derived.Test.YtkamdppnnhjajaaDoorMgP5
namespace Go.Proofs.YtkamdppnnhjajaaDoor.Sym
open Go Go.RowKit
set_option maxRecDepth 100000
set_option maxHeartbeats 1600000
set_option linter.unusedVariables false
set_option linter.unusedSimpArgs false
def T9 : List (Nat × TI) := [(3, ti3), (4, ti4), (9, ti9), (22, ti22), (24, ti24), (26, ti26), (27, ti27), (29, ti29), (32, ti32), (34, ti34), (49, ti49), (51, ti51), (97, ti97)]
theorem T9_ok : TabOK Tryd.prog T9 := .cons t3 (.cons t4 (.cons t9 (.cons t22 (.cons t24 (.cons t26 (.cons t27 (.cons t29 (.cons t32 (.cons t34 (.cons t49 (.cons t51 (.cons t97 (.nil)))))))))))))
theorem enters9 : Enters Tryd.prog 9 := fun _ _ => by kernel_rfl
theorem put_s (A : Option Addr) (k : Nat) (p : Par) (hu : ParU p) (hs : p.cell.marks.length ≤ 1000000) : Spec Tryd.prog 9 [parAV A k p] (fun _ => .tup [.str (putR p).1, .int .i64 (putR p).2]) := by
  intro m w hm hargs
  have hk := hu.key
  have S0 := isP_s A k p hk (by omega)
  have hm1 := ok_agg (hargs (parAV A k p) (by simp)) (marksAV A k p.cell.marks) (by simp [parC])
  obtain ⟨hl1, hc1⟩ := ok_len hm1
  obtain ⟨n1, f1, ho1, hn1, hf1⟩ := marks_open p.cell.marks
  obtain ⟨K1, hK1⟩ : ∃ K, K = kI p.key := ⟨_, rfl⟩
  have e1 : parAV A k p = .agg (parC K1 (rowM none A n1 k f1) p) := by simp only [parAV, ho1, hK1]
  have ec1 : celAV A k p.cell = .agg [.int .u64 p.cell.version, .bool (.v p.cell.has), .str p.cell.val, rowM none A n1 k f1] := by simp only [celAV, celC, ho1]
  rw [e1] at S0
  obtain ⟨q, hq⟩ : ∃ q, q = isP p := ⟨_, rfl⟩
  rw [← hq] at S0
  rw [e1] at hargs ⊢
  refine enter hm hargs Tryd.func9 rfl (by simp [Tryd.ntmps9]) fun a0 hF => ?_
  simp only [Tryd.ntmps9, startT] at hF
  obtain ⟨B, hB⟩ : ∃ B, B = std := ⟨_, rfl⟩
  refine wp_seq ?_
  apply region_okB hB T9_ok [1] [1] [] hF
  case hex => intro A X; conv => lhs; cbv
  case hob =>
    intro X
    subst hB
    simp [AllOb, Ob.holds, BE.den, std, stdCmp, stdArith] <;> omega
  case hQ =>
  intro X0 a0 w1 hF
  refine wp_seq ?_
  refine wp_seq ?_
  apply region_okB hB T9_ok [7, 1] [1] [(1, .r fun _ => .bool (.v q))] hF
  case hex => intro A X; conv => lhs; cbv
  case hob =>
    intro X
    subst hB; exact ⟨rfl, ⟨enters12, S0⟩, trivial⟩
  case hQ =>
  intro X1 a0 w1 hF
  refine test_ok hF rfl (fun hb hF => ?_) (fun hb hF => ?_)
  · skip
    have hqf : isP p = false := by
      rw [← hq]; cases q with
      | false => rfl
      | true => subst hB; cases hb
    have hr : putR p = (⟨#[]⟩, 1) := by simp [putR, hqf]
    refine wp_seq ?_
    apply region_okB hB T9_ok [2, 3] [] [] hF
    case hex => intro A X; conv => lhs; cbv
    case hob =>
      intro X
      subst hB
      simp [AllOb, Ob.holds, BE.den, std, stdCmp, stdArith] <;> omega
    case hQ =>
    intro X2 a0 w1 hF
    refine wp_ret ?_
    refine ret_spec (fn := Tryd.f9) T9_ok hF (rs := [.tmp 2, .tmp 3]) rfl (rfl) ?_ noAtom ?_
    · subst hB; simp [AllOb, Ob.holds]
    · subst hB; rw [hr]; rfl
  · skip
    have hqt : isP p = true := by
      rw [← hq]; cases q with
      | true => rfl
      | false => subst hB; cases hb
    have hr : putR p = (mkB (putP p), 0) := by simp [putR, hqt]
    have hkU : U64 p.kind := by rcases isP_kind hqt with h | h | h | h <;> rw [h] <;> exact ⟨by decide, by decide⟩
    have hl1 := nB_len hkU
    have hl2 := nB_len hu.epoch
    have ewk := wrap_u64 _ hkU
    obtain ⟨t1, ht1⟩ : ∃ t, t = mkB (nB p.kind ++ nB p.epoch) := ⟨_, rfl⟩
    have hz1 : t1.size ≤ 50000000 := by rw [ht1, mk_size]; simp only [List.length_append]; omega
    have S1 : ∀ b A k, SpecX Tryd.prog 19 [.ptr 9 b 0, rowU A k [p.kind, p.epoch]] [(9, ⟨b, 51, [.str (⟨#[]⟩ : ByteArray)]⟩)] (fun _ => ⟨.tup [], [(9, [.str t1])], []⟩) := fun b A k => by
      have := numbers_m 9 b (⟨#[]⟩ : ByteArray) A k [p.kind, p.epoch] (Nat.le_of_ble_eq_true rfl) (by intro v hv2; simp only [List.mem_cons, List.not_mem_nil, or_false] at hv2; rcases hv2 with rfl | rfl; exact hkU; exact hu.epoch) (by decide)
      rwa [show (⟨#[]⟩ : ByteArray) ++ mkB (List.flatMap nB [p.kind, p.epoch]) = t1 from (by rw [ht1]; apply un_inj; rw [un_append]; show [] ++ unB _ = _; simp [un_mk])] at this
    refine wp_skip ?_
    refine wp_seq ?_
    apply region_okB hB T9_ok [1, 4] [1, 9] [] hF
    case hex => intro A X; conv => lhs; cbv
    case hob =>
      intro X
      subst hB
      simp [AllOb, Ob.holds, BE.den, std, stdCmp, stdArith] <;> omega
    case hQ =>
    intro X3 a0 w1 hF
    refine wp_seq ?_
    apply region_okB hB T9_ok [1, 4] [1, 9] [(7, .x fun _ => ⟨.tup [], [(9, [.str t1])], []⟩)] hF
    case hex => intro A X; conv => lhs; cbv
    case hob =>
      intro X
      subst hB; exact ⟨rfl, rfl, ⟨enters19, (S1 _ _ _).re ⟨Sim.ptr, row_sim (l := [IntKind.u64.wrap p.kind, p.epoch]) (l' := [p.kind, p.epoch]) (by rw [ewk]) _ _ _, trivial⟩ rfl (fun _ => ⟨rfl, rfl, Sim.refl _, rfl⟩)⟩, trivial⟩
    case hQ =>
    intro X4 a0 w1 hF
    refine wp_seq ?_
    refine wp_seq ?_
    apply region_okB hB T9_ok [1, 4, 19] [1, 9] [] hF
    case hex => intro A X; conv => lhs; cbv
    case hob =>
      intro X
      subst hB
      simp [AllOb, Ob.holds, BE.den, std, stdCmp, stdArith] <;> omega
    case hQ =>
    intro X5 a0 w1 hF
    refine wp_block ?_
    refine wp_seq ?_
    apply region_okB hB T9_ok [20, 1, 4, 19] [1, 9] [] hF
    case hex => intro A X; conv => lhs; cbv
    case hob =>
      intro X
      subst hB
      simp [AllOb, Ob.holds, BE.den, std, stdCmp, stdArith] <;> omega
    case hQ =>
    intro X6 a0 w1 hF
    refine test_ok hF rfl (fun hb hF => ?_) (fun hb hF => ?_)
    · skip
      have hk1 : p.kind = 1 := by subst hB; simp only [std, stdCmp, stdScmp, BE.den, tolB, emptyB, Int.ofNat_eq_natCast, Int.toNat_natCast] at hb; clear hF hargs hm; grind
      obtain ⟨⟨i1, i2, i3, i4, i5, _, _⟩, _⟩ := isP_one hqt hk1
      have hl3 : p.key.length = 20 := hk
      have cU : U64 p.op.client := u64_small i1 (by omega)
      have oU : U64 p.op.kind := u64_small (by omega) (by omega)
      have hl4 := nB_len cU
      have hl5 := nB_len hu.req
      have hl6 := nB_len oU
      have hl7 := nB_len hu.over
      have ewc := wrap_u64 _ cU
      have ewo := wrap_u64 _ oU
      obtain ⟨t2, ht2⟩ : ∃ t, t = mkB (nB p.kind ++ nB p.epoch ++ p.key) := ⟨_, rfl⟩
      have hz2 : t2.size ≤ 50000000 := by rw [ht2, mk_size]; simp only [List.length_append]; omega
      obtain ⟨t3, ht3⟩ : ∃ t, t = mkB (nB p.kind ++ nB p.epoch ++ p.key ++ (nB p.op.client ++ nB p.op.req ++ nB p.op.kind ++ nB p.op.version)) := ⟨_, rfl⟩
      have hz3 : t3.size ≤ 50000000 := by rw [ht3, mk_size]; simp only [List.length_append]; omega
      obtain ⟨t4, ht4⟩ : ∃ t, t = mkB (putP p) := ⟨_, rfl⟩
      have hfin : putP p = nB p.kind ++ nB p.epoch ++ p.key ++ (nB p.op.client ++ nB p.op.req ++ nB p.op.kind ++ nB p.op.version) ++ textL (unB p.op.val) := by simp only [putP, bodyB, hk1]; simp [List.append_assoc, whoB]
      have S2 : ∀ b, SpecX Tryd.prog 20 [.ptr 9 b 0, .agg (keyC K1)] [(9, ⟨b, 51, [.str t1]⟩)] (fun _ => ⟨.tup [], [(9, [.str t2])], []⟩) := fun b => by
        have := wplace_m 9 b t1 p.key hk (by omega)
        rwa [← hK1, show t1 ++ mkB p.key = t2 from (by rw [ht1, ht2]; apply un_inj; simp [un_append, un_mk, nB, List.append_assoc])] at this
      have S3 : ∀ b A k, SpecX Tryd.prog 19 [.ptr 9 b 0, rowU A k [p.op.client, p.op.req, p.op.kind, p.op.version]] [(9, ⟨b, 51, [.str t2]⟩)] (fun _ => ⟨.tup [], [(9, [.str t3])], []⟩) := fun b A k => by
        have := numbers_m 9 b t2 A k [p.op.client, p.op.req, p.op.kind, p.op.version] (Nat.le_of_ble_eq_true rfl) (by intro v hv2; simp only [List.mem_cons, List.not_mem_nil, or_false] at hv2; rcases hv2 with rfl | rfl | rfl | rfl; exact cU; exact hu.req; exact oU; exact hu.over) (by omega)
        rwa [show t2 ++ mkB (List.flatMap nB [p.op.client, p.op.req, p.op.kind, p.op.version]) = t3 from (by rw [ht2, ht3]; apply un_inj; simp [un_append, un_mk, nB, List.append_assoc])] at this
      have S4 : ∀ b, SpecX Tryd.prog 21 [.ptr 9 b 0, .str p.op.val] [(9, ⟨b, 51, [.str t3]⟩)] (fun _ => ⟨.tup [], [(9, [.str t4])], []⟩) := fun b => by
        have := wtext_m 9 b t3 p.op.val (by omega) (by omega)
        rwa [show t3 ++ mkB (textL (unB p.op.val)) = t4 from (by rw [ht3, ht4, hfin]; apply un_inj; simp [un_append, un_mk])] at this
      refine wp_seq ?_
      apply region_okB hB T9_ok [1, 4] [1, 9] [(3, .x fun _ => ⟨.tup [], [(9, [.str t2])], []⟩)] hF
      case hex => intro A X; conv => lhs; cbv
      case hob =>
        intro X
        subst hB; exact ⟨rfl, ⟨enters20, S2 _⟩, trivial⟩
      case hQ =>
      intro X7 a0 w1 hF
      refine wp_seq ?_
      apply region_okB hB T9_ok [1, 4] [1, 9] [(16, .x fun _ => ⟨.tup [], [(9, [.str t3])], []⟩)] hF
      case hex => intro A X; conv => lhs; cbv
      case hob =>
        intro X
        subst hB; exact ⟨rfl, rfl, rfl, rfl, ⟨enters19, (S3 _ _ _).re ⟨Sim.ptr, row_sim (l := [IntKind.u64.wrap p.op.client, p.op.req, IntKind.u64.wrap p.op.kind, p.op.version]) (l' := [p.op.client, p.op.req, p.op.kind, p.op.version]) (by rw [ewc, ewo]) _ _ _, trivial⟩ rfl (fun _ => ⟨rfl, rfl, Sim.refl _, rfl⟩)⟩, trivial⟩
      case hQ =>
      intro X8 a0 w1 hF
      apply region_okB hB T9_ok [4] [9] [(4, .x fun _ => ⟨.tup [], [(9, [.str t4])], []⟩)] hF
      case hex => intro A X; conv => lhs; cbv
      case hob =>
        intro X
        subst hB; exact ⟨rfl, ⟨enters21, S4 _⟩, trivial⟩
      case hQ =>
      intro X9 a0 w1 hF
      refine wp_seq ?_
      apply region_okB hB T9_ok [2, 3] [] [] hF
      case hex => intro A X; conv => lhs; cbv
      case hob =>
        intro X
        subst hB
        simp [AllOb, Ob.holds, BE.den, std, stdCmp, stdArith] <;> omega
      case hQ =>
      intro X20 a0 w1 hF
      refine wp_ret ?_
      refine ret_spec (fn := Tryd.f9) T9_ok hF (rs := [.tmp 2, .tmp 3]) rfl (rfl) ?_ noAtom ?_
      · subst hB; simp [AllOb, Ob.holds]
      · subst hB; rw [hr, ← ht4]; rfl
    · skip
      have hk1 : ¬ p.kind = 1 := by subst hB; simp only [std, stdCmp, stdScmp, BE.den, tolB, emptyB, Int.ofNat_eq_natCast, Int.toNat_natCast] at hb; clear hF hargs hm; grind
      refine wp_seq ?_
      apply region_okB hB T9_ok [48, 1, 4, 19] [1, 9] [] hF
      case hex => intro A X; conv => lhs; cbv
      case hob =>
        intro X
        subst hB
        simp [AllOb, Ob.holds, BE.den, std, stdCmp, stdArith] <;> omega
      case hQ =>
      intro X10 a0 w1 hF
      refine test_ok hF rfl (fun hb hF => ?_) (fun hb hF => ?_)
      · skip
        have hk2 : p.kind = 2 := by subst hB; simp only [std, stdCmp, stdScmp, BE.den, tolB, emptyB, Int.ofNat_eq_natCast, Int.toNat_natCast] at hb; clear hF hargs hm; grind
        obtain ⟨_, _, i1, i2, ⟨i3, i4, _⟩, _⟩ := isP_two hqt hk2
        have cU : U64 p.op.client := u64_small i1 (by omega)
        have aU : U64 p.ans.code := u64_small (by omega) (by omega)
        have hl4 := nB_len cU
        have hl5 := nB_len hu.req
        have hl6 := ansB_len aU hu.aver
        have ewc := wrap_u64 _ cU
        obtain ⟨t2, ht2⟩ : ∃ t, t = mkB (nB p.kind ++ nB p.epoch ++ (nB p.op.client ++ nB p.op.req)) := ⟨_, rfl⟩
        have hz2 : t2.size ≤ 50000000 := by rw [ht2, mk_size]; simp only [List.length_append]; omega
        obtain ⟨t3, ht3⟩ : ∃ t, t = mkB (nB p.kind ++ nB p.epoch ++ (nB p.op.client ++ nB p.op.req) ++ ansB p.ans) := ⟨_, rfl⟩
        have hz3 : t3.size ≤ 50000000 := by rw [ht3, mk_size]; simp only [List.length_append]; omega
        obtain ⟨t4, ht4⟩ : ∃ t, t = mkB (putP p) := ⟨_, rfl⟩
        have hfin : putP p = nB p.kind ++ nB p.epoch ++ (nB p.op.client ++ nB p.op.req) ++ ansB p.ans ++ textL (unB p.ans.val) := by simp only [putP, bodyB, hk2]; simp [List.append_assoc, whoB]
        have S2 : ∀ b A k, SpecX Tryd.prog 19 [.ptr 9 b 0, rowU A k [p.op.client, p.op.req]] [(9, ⟨b, 51, [.str t1]⟩)] (fun _ => ⟨.tup [], [(9, [.str t2])], []⟩) := fun b A k => by
          have := numbers_m 9 b t1 A k [p.op.client, p.op.req] (Nat.le_of_ble_eq_true rfl) (by intro v hv2; simp only [List.mem_cons, List.not_mem_nil, or_false] at hv2; rcases hv2 with rfl | rfl; exact cU; exact hu.req) (by omega)
          rwa [show t1 ++ mkB (List.flatMap nB [p.op.client, p.op.req]) = t2 from (by rw [ht1, ht2]; apply un_inj; simp [un_append, un_mk, nB, List.append_assoc])] at this
        have S3 : ∀ b, SpecX Tryd.prog 22 [.ptr 9 b 0, ansAV p.ans] [(9, ⟨b, 51, [.str t2]⟩)] (fun _ => ⟨.tup [], [(9, [.str t3])], []⟩) := fun b => by
          have := wtold_m 9 b t2 p.ans aU hu.aver (by omega)
          rwa [show t2 ++ mkB (ansB p.ans) = t3 from (by rw [ht2, ht3]; apply un_inj; simp [un_append, un_mk, nB, List.append_assoc])] at this
        simp only [ansAV, ansC] at S3
        have S4 : ∀ b, SpecX Tryd.prog 21 [.ptr 9 b 0, .str p.ans.val] [(9, ⟨b, 51, [.str t3]⟩)] (fun _ => ⟨.tup [], [(9, [.str t4])], []⟩) := fun b => by
          have := wtext_m 9 b t3 p.ans.val (by omega) (by omega)
          rwa [show t3 ++ mkB (textL (unB p.ans.val)) = t4 from (by rw [ht3, ht4, hfin]; apply un_inj; simp [un_append, un_mk])] at this
        refine wp_seq ?_
        apply region_okB hB T9_ok [1, 4] [1, 9] [(9, .x fun _ => ⟨.tup [], [(9, [.str t2])], []⟩)] hF
        case hex => intro A X; conv => lhs; cbv
        case hob =>
          intro X
          subst hB; exact ⟨rfl, rfl, ⟨enters19, (S2 _ _ _).re ⟨Sim.ptr, row_sim (l := [IntKind.u64.wrap p.op.client, p.op.req]) (l' := [p.op.client, p.op.req]) (by rw [ewc]) _ _ _, trivial⟩ rfl (fun _ => ⟨rfl, rfl, Sim.refl _, rfl⟩)⟩, trivial⟩
        case hQ =>
        intro X11 a0 w1 hF
        refine wp_seq ?_
        apply region_okB hB T9_ok [1, 4] [1, 9] [(3, .x fun _ => ⟨.tup [], [(9, [.str t3])], []⟩)] hF
        case hex => intro A X; conv => lhs; cbv
        case hob =>
          intro X
          subst hB; exact ⟨rfl, ⟨enters22, S3 _⟩, trivial⟩
        case hQ =>
        intro X12 a0 w1 hF
        apply region_okB hB T9_ok [4] [9] [(4, .x fun _ => ⟨.tup [], [(9, [.str t4])], []⟩)] hF
        case hex => intro A X; conv => lhs; cbv
        case hob =>
          intro X
          subst hB; exact ⟨rfl, ⟨enters21, S4 _⟩, trivial⟩
        case hQ =>
        intro X13 a0 w1 hF
        refine wp_seq ?_
        apply region_okB hB T9_ok [2, 3] [] [] hF
        case hex => intro A X; conv => lhs; cbv
        case hob =>
          intro X
          subst hB
          simp [AllOb, Ob.holds, BE.den, std, stdCmp, stdArith] <;> omega
        case hQ =>
        intro X20 a0 w1 hF
        refine wp_ret ?_
        refine ret_spec (fn := Tryd.f9) T9_ok hF (rs := [.tmp 2, .tmp 3]) rfl (rfl) ?_ noAtom ?_
        · subst hB; simp [AllOb, Ob.holds]
        · subst hB; rw [hr, ← ht4]; rfl
      · skip
        have hk2 : ¬ p.kind = 2 := by subst hB; simp only [std, stdCmp, stdScmp, BE.den, tolB, emptyB, Int.ofNat_eq_natCast, Int.toNat_natCast] at hb; clear hF hargs hm; grind
        refine wp_seq ?_
        apply region_okB hB T9_ok [69, 1, 4, 19] [1, 9] [] hF
        case hex => intro A X; conv => lhs; cbv
        case hob =>
          intro X
          subst hB
          simp [AllOb, Ob.holds, BE.den, std, stdCmp, stdArith] <;> omega
        case hQ =>
        intro X14 a0 w1 hF
        refine test_ok hF rfl (fun hb hF => ?_) (fun hb hF => ?_)
        · skip
          have hk3 : p.kind = 3 := by subst hB; simp only [std, stdCmp, stdScmp, BE.den, tolB, emptyB, Int.ofNat_eq_natCast, Int.toNat_natCast] at hb; clear hF hargs hm; grind
          obtain ⟨_, _, i1⟩ := isP_three hqt hk3
          have hC := okC_of hu.cver hu.marks (by omega) i1
          have hl3 : p.key.length = 20 := hk
          have hl4 := nB_len hu.serial
          obtain ⟨t2, ht2⟩ : ∃ t, t = mkB (nB p.kind ++ nB p.epoch ++ p.key) := ⟨_, rfl⟩
          have hz2 : t2.size ≤ 50000000 := by rw [ht2, mk_size]; simp only [List.length_append]; omega
          obtain ⟨t3, ht3⟩ : ∃ t, t = mkB (nB p.kind ++ nB p.epoch ++ p.key ++ nB p.serial) := ⟨_, rfl⟩
          have hz3 : t3.size ≤ 50000000 := by rw [ht3, mk_size]; simp only [List.length_append]; omega
          obtain ⟨t4, ht4⟩ : ∃ t, t = mkB (putP p) := ⟨_, rfl⟩
          have hfin : putP p = nB p.kind ++ nB p.epoch ++ p.key ++ nB p.serial ++ cellB p.cell := by simp only [putP, bodyB, hk3]; simp [List.append_assoc, whoB]
          have S2 : ∀ b, SpecX Tryd.prog 20 [.ptr 9 b 0, .agg (keyC K1)] [(9, ⟨b, 51, [.str t1]⟩)] (fun _ => ⟨.tup [], [(9, [.str t2])], []⟩) := fun b => by
            have := wplace_m 9 b t1 p.key hk (by omega)
            rwa [← hK1, show t1 ++ mkB p.key = t2 from (by rw [ht1, ht2]; apply un_inj; simp [un_append, un_mk, nB, List.append_assoc])] at this
          have S3 : ∀ b A k, SpecX Tryd.prog 19 [.ptr 9 b 0, rowU A k [p.serial]] [(9, ⟨b, 51, [.str t2]⟩)] (fun _ => ⟨.tup [], [(9, [.str t3])], []⟩) := fun b A k => by
            have := numbers_m 9 b t2 A k [p.serial] (Nat.le_of_ble_eq_true rfl) (by intro v hv2; rw [List.mem_singleton] at hv2; subst hv2; exact hu.serial) (by omega)
            rwa [show t2 ++ mkB (List.flatMap nB [p.serial]) = t3 from (by rw [ht2, ht3]; apply un_inj; simp [un_append, un_mk, nB, List.append_assoc])] at this
          have S4 : ∀ b, SpecX Tryd.prog 23 [.ptr 9 b 0, celAV A k p.cell] [(9, ⟨b, 51, [.str t3]⟩)] (fun _ => ⟨.tup [], [(9, [.str t4])], []⟩) := fun b => by
            have := wcell_m 9 b t3 A k p.cell hC (by omega)
            rwa [show t3 ++ mkB (cellB p.cell) = t4 from (by rw [ht3, ht4, hfin]; apply un_inj; simp [un_append, un_mk])] at this
          rw [ec1] at S4
          refine wp_seq ?_
          apply region_okB hB T9_ok [1, 4] [1, 9] [(3, .x fun _ => ⟨.tup [], [(9, [.str t2])], []⟩)] hF
          case hex => intro A X; conv => lhs; cbv
          case hob =>
            intro X
            subst hB; exact ⟨rfl, ⟨enters20, S2 _⟩, trivial⟩
          case hQ =>
          intro X15 a0 w1 hF
          refine wp_seq ?_
          apply region_okB hB T9_ok [1, 4] [1, 9] [(4, .x fun _ => ⟨.tup [], [(9, [.str t3])], []⟩)] hF
          case hex => intro A X; conv => lhs; cbv
          case hob =>
            intro X
            subst hB; exact ⟨rfl, ⟨enters19, (S3 _ _ _).re ⟨Sim.ptr, row_sim (l := [p.serial]) (l' := [p.serial]) rfl _ _ _, trivial⟩ rfl (fun _ => ⟨rfl, rfl, Sim.refl _, rfl⟩)⟩, trivial⟩
          case hQ =>
          intro X16 a0 w1 hF
          apply region_okB hB T9_ok [4] [9] [(3, .x fun _ => ⟨.tup [], [(9, [.str t4])], []⟩)] hF
          case hex => intro A X; conv => lhs; cbv
          case hob =>
            intro X
            subst hB; exact ⟨rfl, ⟨enters23, S4 _⟩, trivial⟩
          case hQ =>
          intro X17 a0 w1 hF
          refine wp_seq ?_
          apply region_okB hB T9_ok [2, 3] [] [] hF
          case hex => intro A X; conv => lhs; cbv
          case hob =>
            intro X
            subst hB
            simp [AllOb, Ob.holds, BE.den, std, stdCmp, stdArith] <;> omega
          case hQ =>
          intro X20 a0 w1 hF
          refine wp_ret ?_
          refine ret_spec (fn := Tryd.f9) T9_ok hF (rs := [.tmp 2, .tmp 3]) rfl (rfl) ?_ noAtom ?_
          · subst hB; simp [AllOb, Ob.holds]
          · subst hB; rw [hr, ← ht4]; rfl
        · skip
          have hk3 : ¬ p.kind = 3 := by subst hB; simp only [std, stdCmp, stdScmp, BE.den, tolB, emptyB, Int.ofNat_eq_natCast, Int.toNat_natCast] at hb; clear hF hargs hm; grind
          refine wp_seq ?_
          apply region_okB hB T9_ok [84, 1, 4] [1, 9] [] hF
          case hex => intro A X; conv => lhs; cbv
          case hob =>
            intro X
            subst hB
            simp [AllOb, Ob.holds, BE.den, std, stdCmp, stdArith] <;> omega
          case hQ =>
          intro X18 a0 w1 hF
          refine test_ok hF rfl (fun hb hF => ?_) (fun hb hF => ?_)
          · skip
            have hk4 : p.kind = 4 := by subst hB; simp only [std, stdCmp, stdScmp, BE.den, tolB, emptyB, Int.ofNat_eq_natCast, Int.toNat_natCast] at hb; clear hF hargs hm; grind
            obtain ⟨t4, ht4⟩ : ∃ t, t = mkB (putP p) := ⟨_, rfl⟩
            have hfin : putP p = nB p.kind ++ nB p.epoch ++ nB p.serial := by simp only [putP, bodyB, hk4]; simp [List.append_assoc, whoB]
            have S2 : ∀ b A k, SpecX Tryd.prog 19 [.ptr 9 b 0, rowU A k [p.serial]] [(9, ⟨b, 51, [.str t1]⟩)] (fun _ => ⟨.tup [], [(9, [.str t4])], []⟩) := fun b A k => by
              have := numbers_m 9 b t1 A k [p.serial] (Nat.le_of_ble_eq_true rfl) (by intro v hv2; rw [List.mem_singleton] at hv2; subst hv2; exact hu.serial) (by omega)
              rwa [show t1 ++ mkB (List.flatMap nB [p.serial]) = t4 from (by rw [ht1, ht4, hfin]; apply un_inj; simp [un_append, un_mk])] at this
            apply region_okB hB T9_ok [4] [9] [(4, .x fun _ => ⟨.tup [], [(9, [.str t4])], []⟩)] hF
            case hex => intro A X; conv => lhs; cbv
            case hob =>
              intro X
              subst hB; exact ⟨rfl, ⟨enters19, (S2 _ _ _).re ⟨Sim.ptr, row_sim (l := [p.serial]) (l' := [p.serial]) rfl _ _ _, trivial⟩ rfl (fun _ => ⟨rfl, rfl, Sim.refl _, rfl⟩)⟩, trivial⟩
            case hQ =>
            intro X19 a0 w1 hF
            refine wp_seq ?_
            apply region_okB hB T9_ok [2, 3] [] [] hF
            case hex => intro A X; conv => lhs; cbv
            case hob =>
              intro X
              subst hB
              simp [AllOb, Ob.holds, BE.den, std, stdCmp, stdArith] <;> omega
            case hQ =>
            intro X20 a0 w1 hF
            refine wp_ret ?_
            refine ret_spec (fn := Tryd.f9) T9_ok hF (rs := [.tmp 2, .tmp 3]) rfl (rfl) ?_ noAtom ?_
            · subst hB; simp [AllOb, Ob.holds]
            · subst hB; rw [hr, ← ht4]; rfl
          · exfalso
            have hk4 : ¬ p.kind = 4 := by subst hB; simp only [std, stdCmp, stdScmp, BE.den, tolB, emptyB, Int.ofNat_eq_natCast, Int.toNat_natCast] at hb; clear hF hargs hm; grind
            rcases isP_kind hqt with h | h | h | h <;> contradiction
end Go.Proofs.YtkamdppnnhjajaaDoor.Sym

namespace Go.Proofs.YtkamdppnnhjajaaDoor.Sym
open Go Go.RowKit
set_option maxRecDepth 100000
set_option maxHeartbeats 1600000
set_option linter.unusedVariables false
set_option linter.unusedSimpArgs false
def T54 : List (Nat × TI) := [(3, ti3), (4, ti4), (9, ti9), (22, ti22), (30, ti30), (32, ti32), (62, ti62)]
theorem T54_ok : TabOK Tryd.prog T54 := .cons t3 (.cons t4 (.cons t9 (.cons t22 (.cons t30 (.cons t32 (.cons t62 (.nil)))))))
theorem enters54 : Enters Tryd.prog 54 := fun _ _ => by kernel_rfl
theorem same17_s (A1 : Option Addr) (k1 : Nat) (c1 : Cel) (A2 : Option Addr) (k2 : Nat) (c2 : Cel) (hs : c1.marks.length ≤ 1000000000) : Spec Tryd.prog 54 [celAV A1 k1 c1, celAV A2 k2 c2] (fun _ => .bool (.v (decide (c1 = c2)))) := by
  intro m w hm hargs
  have ho1 := hargs (celAV A1 k1 c1) (by simp)
  have hm1 := ok_agg ho1 (marksAV A1 k1 c1.marks) (by simp [celC])
  obtain ⟨hl1, hc1⟩ := ok_len hm1
  obtain ⟨n1, f1, ho1, hn1, hf1⟩ := marks_open c1.marks
  have e1 : celAV A1 k1 c1 = .agg [.int .u64 c1.version, .bool (.v c1.has), .str c1.val, rowM none A1 n1 k1 f1] := by simp only [celAV, celC, ho1]
  have ho2 := hargs (celAV A2 k2 c2) (by simp)
  have hm2 := ok_agg ho2 (marksAV A2 k2 c2.marks) (by simp [celC])
  obtain ⟨hl2, hc2⟩ := ok_len hm2
  obtain ⟨n2, f2, ho2, hn2, hf2⟩ := marks_open c2.marks
  have e2 : celAV A2 k2 c2 = .agg [.int .u64 c2.version, .bool (.v c2.has), .str c2.val, rowM none A2 n2 k2 f2] := by simp only [celAV, celC, ho2]
  rw [e1, e2] at hargs ⊢
  refine enter hm hargs Tryd.func54 rfl (by simp [Tryd.ntmps54]) fun a0 hF => ?_
  simp only [Tryd.ntmps54, startT] at hF
  obtain ⟨B, hB⟩ : ∃ B, B = std := ⟨_, rfl⟩
  refine wp_seq ?_
  apply region_okB hB T54_ok [2, 3] [2, 3] [] hF
  case hex => intro A X; conv => lhs; cbv
  case hob =>
    intro X
    subst hB
    simp [AllOb, Ob.holds, BE.den, std, stdCmp, stdArith] <;> omega
  case hQ =>
  intro X0 a0 w1 hF
  refine wp_seq ?_
  refine wp_seq ?_
  apply region_okB hB T54_ok [33, 2, 3] [2, 3] [] hF
  case hex => intro A X; conv => lhs; cbv
  case hob =>
    intro X
    subst hB
    simp only [AllOb, Ob.holds, BE.den, List.mem_cons, List.not_mem_nil, or_false, forall_eq_or_imp, forall_eq] <;> (and_intros <;> first | trivial | (intro h; trivial) | exact ob_mark _ _ | (intro h; exact ob_mark _ _))
  case hQ =>
  intro X1 a0 w1 hF
  refine test_ok hF rfl (fun hb hF => ?_) (fun hb hF => ?_)
  · skip
    have hd : ¬ (c1.version = c2.version ∧ c1.has = c2.has ∧ c1.val = c2.val ∧ n1 = n2) := by subst hB; simp only [std, stdCmp, stdScmp, BE.den, tolB, emptyB, Int.ofNat_eq_natCast, Int.toNat_natCast] at hb; clear hF hargs hm; grind
    refine wp_seq ?_
    apply region_okB hB T54_ok [4] [] [] hF
    case hex => intro A X; conv => lhs; cbv
    case hob =>
      intro X
      subst hB
      simp [AllOb, Ob.holds, BE.den, std, stdCmp, stdArith] <;> omega
    case hQ =>
    intro X2 a0 w1 hF
    refine wp_ret ?_
    refine ret_spec (fn := Tryd.f54) T54_ok hF (rs := [.tmp 4]) rfl (rfl) ?_ noAtom ?_
    · subst hB; simp [AllOb, Ob.holds]
    · subst hB
      refine congrArg (fun b => AV.bool (.v b)) ?_
      rw [decide_eq_false (by rintro rfl; exact hd ⟨rfl, rfl, rfl, by omega⟩)]
  · skip
    have hd : c1.version = c2.version ∧ c1.has = c2.has ∧ c1.val = c2.val ∧ n1 = n2 := by subst hB; simp only [std, stdCmp, stdScmp, BE.den, tolB, emptyB, Int.ofNat_eq_natCast, Int.toNat_natCast] at hb; clear hF hargs hm; grind
    obtain ⟨d1, d2, d3, d4⟩ := hd
    refine wp_skip ?_
    refine wp_seq ?_
    refine wp_seq ?_
    apply region_okB hB T54_ok [5, 2, 3] [2, 3] [] hF
    case hex => intro A X; conv => lhs; cbv
    case hob =>
      intro X
      subst hB
      simp [AllOb, Ob.holds, BE.den, std, stdCmp, stdArith] <;> omega
    case hQ =>
    intro X3 a0 w1 hF
    refine wp_block ?_
    refine loop_pre (ι := Nat) (fun p => [(5, .int .i64 (p : Int))]) (fun p => []) (fun p => []) (fun p => p ≤ n1 ∧ ∀ j, j < p → f1 j = f2 j) (fun p => n1 - p) 0 ⟨Nat.zero_le _, fun i hi => absurd hi (Nat.not_lt_zero _)⟩ hF ?_
    rintro i ⟨hi, hall⟩ a0 w1 hF
    try dsimp only at hi
    try dsimp only at hall
    refine wp_seq ?_
    refine wp_seq ?_
    apply region_okB hB T54_ok [38, 2, 3, 5] [2, 3] [] hF
    case hex => intro A X; conv => lhs; cbv
    case hob =>
      intro X
      subst hB
      simp [AllOb, Ob.holds, BE.den, std, stdCmp, stdArith] <;> omega
    case hQ =>
    intro X4 a0 w1 hF
    refine test_ok hF rfl (fun hb hF => ?_) (fun hb hF => ?_)
    · skip
      have hin : i < n1 := by
        have : (i : Int) < (n1 : Int) := by subst hB; simpa [std, stdCmp] using hb
        omega
      refine wp_skip ?_
      refine wp_seq ?_
      refine wp_block ?_
      refine wp_seq ?_
      apply drawn_okB hB (by kernel_rfl) T54_ok [51, 2, 3, 5] [2, 3] [] hF rfl
      case hex => intro A X; conv => lhs; cbv
      case hD => kernel_rfl
      case hlen => rfl
      case hob =>
        intro X
        subst hB; exact ⟨rfl, ⟨show (0 : Int) ≤ (i : Int) by omega, show (i : Int) < (n1 : Int) by omega⟩, rfl, ⟨show (0 : Int) ≤ (i : Int) by omega, show (i : Int) < (n2 : Int) by omega⟩, ob_mark _ _, trivial⟩
      case hQ =>
      intro X6 a0 w1 hF
      refine test_ok hF rfl (fun hb hF => ?_) (fun hb hF => ?_)
      · skip
        have hne : ¬ f1 i = f2 i := by
          have h9 : (!eqL (markC (f1 i)) (markC (f2 i))) = true := by subst hB; exact hb
          rw [eqL_mark] at h9; simpa using h9
        have hmm := marks_not hn1 (d4 ▸ hn2) hf1 hf2 hne
        refine wp_seq ?_
        apply region_okB hB T54_ok [4] [] [] hF
        case hex => intro A X; conv => lhs; cbv
        case hob =>
          intro X
          subst hB
          simp [AllOb, Ob.holds, BE.den, std, stdCmp, stdArith] <;> omega
        case hQ =>
        intro X7 a0 w1 hF
        refine wp_ret ?_
        refine ret_spec (fn := Tryd.f54) T54_ok hF (rs := [.tmp 4]) rfl (rfl) ?_ noAtom ?_
        · subst hB; simp [AllOb, Ob.holds]
        · subst hB
          refine congrArg (fun b => AV.bool (.v b)) ?_
          rw [decide_eq_false (fun h => hmm (congrArg Cel.marks h))]
      · skip
        have heq : f1 i = f2 i := by
          have h9 : (!eqL (markC (f1 i)) (markC (f2 i))) = false := by subst hB; exact hb
          rw [eqL_mark] at h9; simpa using h9
        refine wp_skip ?_
        apply region_okB hB T54_ok [5, 2, 3] [2, 3] [] hF
        case hex => intro A X; conv => lhs; cbv
        case hob =>
          intro X
          subst hB
          simp [AllOb, Ob.holds, BE.den, std, stdCmp, stdArith] <;> omega
        case hQ =>
        intro X5 a0 w1 hF
        have e : B.arith .add .i64 (i : Int) 1 = ((i + 1 : Nat) : Int) := by subst hB; exact wrap_succ (n := n1) hin (by omega)
        refine ⟨i + 1, ⟨by omega, fun j hj => ?_⟩, by omega, by rw [← e]; exact hF⟩
        by_cases hij : j = i
        · rw [hij]; exact heq
        · exact hall j (by omega)
    · skip
      have hout : i = n1 := by
        have : ¬ (i : Int) < (n1 : Int) := by subst hB; simpa [std, stdCmp] using hb
        omega
      rw [hout] at hall
      have hmm := marks_all hn1 (d4 ▸ hn2) hf1 hf2 hall
      refine wp_exit ?_
      refine wp_seq ?_
      apply region_okB hB T54_ok [4] [] [] hF
      case hex => intro A X; conv => lhs; cbv
      case hob =>
        intro X
        subst hB
        simp [AllOb, Ob.holds, BE.den, std, stdCmp, stdArith] <;> omega
      case hQ =>
      intro X8 a0 w1 hF
      refine wp_ret ?_
      refine ret_spec (fn := Tryd.f54) T54_ok hF (rs := [.tmp 4]) rfl (rfl) ?_ noAtom ?_
      · subst hB; simp [AllOb, Ob.holds]
      · subst hB
        refine congrArg (fun b => AV.bool (.v b)) ?_
        rw [sameC, d1, d2, d3, hmm]; simp
def T18 : List (Nat × TI) := [(3, ti3), (4, ti4), (9, ti9), (29, ti29), (30, ti30), (32, ti32), (62, ti62)]
theorem T18_ok : TabOK Tryd.prog T18 := .cons t3 (.cons t4 (.cons t9 (.cons t29 (.cons t30 (.cons t32 (.cons t62 (.nil)))))))
theorem enters18 : Enters Tryd.prog 18 := fun _ _ => by kernel_rfl
theorem big17_s (A1 : Option Addr) (k1 : Nat) (a : Cel) : Spec Tryd.prog 18 [celAV A1 k1 a] (fun _ => .bool (.v (bigF a))) := by
  intro m w hm hargs
  have ho1 := hargs (celAV A1 k1 a) (by simp)
  have hm1 := ok_agg ho1 (marksAV A1 k1 a.marks) (by simp [celC])
  obtain ⟨hl1, hc1⟩ := ok_len hm1
  obtain ⟨n1, f1, ho1, hn1, hf1⟩ := marks_open a.marks
  have e1 : celAV A1 k1 a = .agg [.int .u64 a.version, .bool (.v a.has), .str a.val, rowM none A1 n1 k1 f1] := by simp only [celAV, celC, ho1]
  rw [e1] at hargs ⊢
  have hmx : maxLen = 9223372036854775807 := rfl
  refine enter hm hargs Tryd.func18 rfl (by simp [Tryd.ntmps18]) fun a0 hF => ?_
  simp only [Tryd.ntmps18, startT] at hF
  obtain ⟨B, hB⟩ : ∃ B, B = std := ⟨_, rfl⟩
  refine wp_seq ?_
  apply region_okB hB T18_ok [1] [1] [] hF
  case hex => intro A X; conv => lhs; cbv
  case hob =>
    intro X
    subst hB
    simp [AllOb, Ob.holds, BE.den, std, stdCmp, stdArith] <;> omega
  case hQ =>
  intro X0 a0 w1 hF
  refine wp_seq ?_
  apply region_okB hB T18_ok [3, 1] [1] [] hF
  case hex => intro A X; conv => lhs; cbv
  case hob =>
    intro X
    subst hB
    simp [AllOb, Ob.holds, BE.den, std, stdCmp, stdArith] <;> omega
  case hQ =>
  intro X1 a0 w1 hF
  refine wp_seq ?_
  refine wp_seq ?_
  apply region_okB hB T18_ok [3, 4, 1] [1] [] hF
  case hex => intro A X; conv => lhs; cbv
  case hob =>
    intro X
    subst hB
    simp [AllOb, Ob.holds, BE.den, std, stdCmp, stdArith] <;> omega
  case hQ =>
  intro X2 a0 w1 hF
  refine wp_block ?_
  refine loop_pre (ι := Nat × Int) (fun p => [(3, .int .i64 p.2), (4, .int .i64 (p.1 : Int))]) (fun p => []) (fun p => []) (fun p => p.1 ≤ n1 ∧ (n1 ≤ 80 → p.2 = sumW a p.1)) (fun p => n1 - p.1) (0, (a.val.size : Int)) ⟨Nat.zero_le _, fun _ => by simp [sumW]⟩ (by subst hB; exact hF) ?_
  rintro ⟨i, s⟩ ⟨hi, hs⟩ a0 w1 hF
  try dsimp only at hi
  try dsimp only at hs
  refine wp_seq ?_
  refine wp_seq ?_
  apply region_okB hB T18_ok [18, 1, 3, 4] [1] [] hF
  case hex => intro A X; conv => lhs; cbv
  case hob =>
    intro X
    subst hB
    simp only [AllOb, Ob.holds, BE.den, List.mem_cons, List.not_mem_nil, or_false, forall_eq_or_imp, forall_eq] <;> (and_intros <;> first | trivial | (intro h; trivial) | exact ob_mark _ _ | (intro h; exact ob_mark _ _))
  case hQ =>
  intro X3 a0 w1 hF
  refine test_ok hF rfl (fun hb hF => ?_) (fun hb hF => ?_)
  · skip
    have hin : i < n1 ∧ n1 ≤ 80 := by subst hB; simp only [std, stdCmp, stdScmp, BE.den, tolB, emptyB, Int.ofNat_eq_natCast, Int.toNat_natCast] at hb; clear hF hargs hm; grind
    have e : B.arith .add .i64 (i : Int) 1 = ((i + 1 : Nat) : Int) := by subst hB; exact wrap_succ (n := n1) hin.1 (by omega)
    refine wp_skip ?_
    refine wp_seq ?_
    refine wp_block ?_
    apply region_okB hB T18_ok [3, 4, 1] [1] [] hF
    case hex => intro A X; conv => lhs; cbv
    case hob =>
      intro X
      subst hB; exact ⟨rfl, ⟨show (0 : Int) ≤ (i : Int) by omega, show (i : Int) < (n1 : Int) by omega⟩, trivial⟩
    case hQ =>
    intro X5 a0 w1 hF
    apply region_okB hB T18_ok [3, 4, 1] [1] [] hF
    case hex => intro A X; conv => lhs; cbv
    case hob =>
      intro X
      subst hB
      simp [AllOb, Ob.holds, BE.den, std, stdCmp, stdArith] <;> omega
    case hQ =>
    intro X4 a0 w1 hF
    refine ⟨(i + 1, B.arith .add .i64 s (B.ofNat (B.slen (f1 (B.toNat (i : Int))).ans.val))), ⟨by simp only; omega, fun h8 => ?_⟩, by simp only; omega, by rw [← e]; exact hF⟩
    rw [sumW_succ a i (by omega), ← hs h8]
    subst hB
    show IntKind.i64.wrap (s + ((f1 i).ans.val.size : Int)) = _
    simp [hf1, List.getD, show i < a.marks.length by omega]
  · skip
    have hout : n1 ≤ 80 → n1 ≤ i := by subst hB; simp only [std, stdCmp, stdScmp, BE.den, tolB, emptyB, Int.ofNat_eq_natCast, Int.toNat_natCast] at hb; clear hF hargs hm; grind
    refine wp_exit ?_
    refine wp_seq ?_
    apply region_okB hB T18_ok [2] [] [] hF
    case hex => intro A X; conv => lhs; cbv
    case hob =>
      intro X
      subst hB
      simp only [AllOb, Ob.holds, BE.den, List.mem_cons, List.not_mem_nil, or_false, forall_eq_or_imp, forall_eq] <;> (and_intros <;> first | trivial | (intro h; trivial) | exact ob_mark _ _ | (intro h; exact ob_mark _ _))
    case hQ =>
    intro X6 a0 w1 hF
    refine wp_ret ?_
    refine ret_spec (fn := Tryd.f18) T18_ok hF (rs := [.tmp 2]) rfl (rfl) ?_ noAtom ?_
    · subst hB; simp [AllOb, Ob.holds]
    · subst hB
      refine congrArg (fun b => AV.bool (.v b)) ?_
      have hx : bigF a = (decide ((80 : Int) < (n1 : Int)) || decide (20000 < s)) := by
        unfold bigF
        rw [← hn1]
        by_cases h8 : n1 ≤ 80
        · have hi2 : i = n1 := by have := hout h8; omega
          rw [show s = sumW a i from hs h8, hi2, decide_eq_false (show ¬ 80 < n1 by omega), decide_eq_false (show ¬ (80 : Int) < (n1 : Int) by omega)]
        · have h9 : 80 < n1 := by omega
          simp [h9, show (80 : Int) < (n1 : Int) by omega]
      rw [hx]
      show (if decide ((80 : Int) < (n1 : Int)) = true then true else decide ((20000 : Int) < s)) = _
      cases decide ((80 : Int) < (n1 : Int)) <;> rfl
end Go.Proofs.YtkamdppnnhjajaaDoor.Sym

namespace Go.Proofs.YtkamdppnnhjajaaDoor.Sym
open Go Go.RowKit
set_option maxRecDepth 100000
set_option maxHeartbeats 1600000
set_option linter.unusedVariables false
set_option linter.unusedSimpArgs false
def bigP (p : Par) : Bool := bigF p.cell || decide (5000 < p.op.val.size) || decide (5000 < p.ans.val.size)
def T34 : List (Nat × TI) := [(3, ti3), (4, ti4), (9, ti9), (27, ti27), (29, ti29)]
theorem T34_ok : TabOK Tryd.prog T34 := .cons t3 (.cons t4 (.cons t9 (.cons t27 (.cons t29 (.nil)))))
theorem enters34 : Enters Tryd.prog 34 := fun _ _ => by kernel_rfl
theorem risAns_s (a : Ans) : Spec Tryd.prog 34 [ansAV a] (fun _ => .bool (.v (decide (isAns a)))) := by
  intro m w hm hargs
  simp only [ansAV, ansC] at hargs
  refine enter hm hargs Tryd.func34 rfl (by simp [Tryd.ntmps34]) fun a0 hF => ?_
  simp only [Tryd.ntmps34, startT] at hF
  obtain ⟨B, hB⟩ : ∃ B, B = std := ⟨_, rfl⟩
  refine wp_seq ?_
  apply region_okB hB T34_ok [1] [1] [] hF
  case hex => intro A X; conv => lhs; cbv
  case hob =>
    intro X
    subst hB
    simp [AllOb, Ob.holds, BE.den, std, stdCmp, stdArith] <;> omega
  case hQ =>
  intro X0 a0 w1 hF
  refine wp_seq ?_
  apply region_okB hB T34_ok [1, 3] [1] [] hF
  case hex => intro A X; conv => lhs; cbv
  case hob =>
    intro X
    subst hB
    simp only [AllOb, Ob.holds, BE.den, List.mem_cons, List.not_mem_nil, or_false, forall_eq_or_imp, forall_eq] <;> (and_intros <;> first | trivial | (intro h; trivial) | exact ob_mark _ _ | (intro h; exact ob_mark _ _))
  case hQ =>
  intro X1 a0 w1 hF
  refine wp_seq ?_
  apply region_okB hB T34_ok [2] [] [] hF
  case hex => intro A X; conv => lhs; cbv
  case hob =>
    intro X
    subst hB
    simp only [AllOb, Ob.holds, BE.den, List.mem_cons, List.not_mem_nil, or_false, forall_eq_or_imp, forall_eq] <;> (and_intros <;> first | trivial | (intro h; trivial) | exact ob_mark _ _ | (intro h; exact ob_mark _ _))
  case hQ =>
  intro X2 a0 w1 hF
  refine wp_ret ?_
  refine ret_spec (fn := Tryd.f34) T34_ok hF (rs := [.tmp 2]) rfl (rfl) ?_ noAtom ?_
  · subst hB; simp [AllOb, Ob.holds]
  · subst hB
    refine congrArg (fun b => AV.bool (.v b)) ?_
    unfold isAns valOk
    rw [Bool.eq_iff_iff]
    try simp only [std, stdCmp, stdScmp, BE.den, tolB, emptyB, Int.ofNat_eq_natCast, Int.toNat_natCast]
    try simp only [decide_eq_true_eq]
    clear hF hargs hm
    grind
def T33 : List (Nat × TI) := [(4, ti4), (32, ti32)]
theorem T33_ok : TabOK Tryd.prog T33 := .cons t4 (.cons t32 (.nil))
theorem enters33 : Enters Tryd.prog 33 := fun _ _ => by kernel_rfl
theorem rbare_s (A : Option Addr) (k : Nat) (c : Cel) (hs : c.marks.length ≤ 1000000000) : Spec Tryd.prog 33 [celAV A k c] (fun _ => .bool (.v (bareC c))) := by
  intro m w hm hargs
  have ho1 := hargs (celAV A k c) (by simp)
  have hm1 := ok_agg ho1 (marksAV A k c.marks) (by simp [celC])
  obtain ⟨hl1, hc1⟩ := ok_len hm1
  obtain ⟨n1, f1, ho1, hn1, hf1⟩ := marks_open c.marks
  have e1 : celAV A k c = .agg [.int .u64 c.version, .bool (.v c.has), .str c.val, rowM none A n1 k f1] := by simp only [celAV, celC, ho1]
  have S := same17_s A k c none 0 zeroCel hs
  have ez : celAV none 0 zeroCel = .agg [.int .u64 0, .bool (.v false), .str ByteArray.empty, .sl none none 0 0 6 (fun i => markC (([] : List Mark).getD i zeroMark))] := rfl
  rw [e1, ez] at S
  rw [e1] at hargs ⊢
  obtain ⟨q, hq⟩ : ∃ q, q = bareC c := ⟨_, rfl⟩
  have hq2 : q = decide (c = zeroCel) := hq
  rw [← hq2] at S
  rw [← hq]
  refine enter hm hargs Tryd.func33 rfl (by simp [Tryd.ntmps33]) fun a0 hF => ?_
  simp only [Tryd.ntmps33, startT] at hF
  obtain ⟨B, hB⟩ : ∃ B, B = std := ⟨_, rfl⟩
  refine wp_seq ?_
  apply region_okB hB T33_ok [1] [1] [] hF
  case hex => intro A X; conv => lhs; cbv
  case hob =>
    intro X
    subst hB
    simp [AllOb, Ob.holds, BE.den, std, stdCmp, stdArith] <;> omega
  case hQ =>
  intro X0 a0 w1 hF
  refine wp_seq ?_
  apply region_okB hB T33_ok [2] [] [(2, .r fun _ => .bool (.v q))] hF
  case hex => intro A X; conv => lhs; cbv
  case hob =>
    intro X
    subst hB; exact ⟨rfl, ⟨enters54, S.re ⟨Sim.refl _, Sim.agg ⟨Sim.refl _, Sim.ff, Sim.refl _, Sim.recell (fun i hi => absurd hi (Nat.not_lt_zero _)), trivial⟩, trivial⟩⟩, trivial⟩
  case hQ =>
  intro X1 a0 w1 hF
  refine wp_ret ?_
  refine ret_spec (fn := Tryd.f33) T33_ok hF (rs := [.tmp 2]) rfl (rfl) ?_ noAtom ?_
  · subst hB; simp [AllOb, Ob.holds]
  · subst hB; rfl
def T13 : List (Nat × TI) := [(3, ti3), (4, ti4), (22, ti22), (24, ti24), (26, ti26), (29, ti29), (32, ti32), (34, ti34)]
theorem T13_ok : TabOK Tryd.prog T13 := .cons t3 (.cons t4 (.cons t22 (.cons t24 (.cons t26 (.cons t29 (.cons t32 (.cons t34 (.nil))))))))
theorem enters13 : Enters Tryd.prog 13 := fun _ _ => by kernel_rfl
theorem risP_s (A : Option Addr) (k : Nat) (p : Par) (hk : p.key.length = 20) (hs : p.cell.marks.length ≤ 1000000000) : Spec Tryd.prog 13 [parAV A k p] (fun _ => .bool (.v (isP p))) := by
  intro m w hm hargs
  have hm1 := ok_agg (hargs (parAV A k p) (by simp)) (marksAV A k p.cell.marks) (by simp [parC])
  obtain ⟨hl1, hc1⟩ := ok_len hm1
  obtain ⟨n1, f1, ho1, hn1, hf1⟩ := marks_open p.cell.marks
  obtain ⟨K1, hK1⟩ : ∃ K, K = kI p.key := ⟨_, rfl⟩
  have e1 : parAV A k p = .agg (parC K1 (rowM none A n1 k f1) p) := by simp only [parAV, ho1, hK1]
  have ec1 : celAV A k p.cell = .agg [.int .u64 p.cell.version, .bool (.v p.cell.has), .str p.cell.val, rowM none A n1 k f1] := by simp only [celAV, celC, ho1]
  have S1 := risO_s p.op
  have S2 := rbare_s A k p.cell hs
  have S3 := risC_s A k p.cell hs
  have S4 := risAns_s p.ans
  rw [ec1] at S2 S3
  simp only [opAV, opC] at S1
  simp only [ansAV, ansC] at S4
  obtain ⟨q1, hq1⟩ : ∃ q, q = decide (IsO p.op) := ⟨_, rfl⟩
  obtain ⟨q2, hq2⟩ : ∃ q, q = bareC p.cell := ⟨_, rfl⟩
  obtain ⟨q3, hq3⟩ : ∃ q, q = decide (IsC p.cell) := ⟨_, rfl⟩
  obtain ⟨q4, hq4⟩ : ∃ q, q = decide (isAns p.ans) := ⟨_, rfl⟩
  rw [← hq1] at S1
  rw [← hq2] at S2
  rw [← hq3] at S3
  rw [← hq4] at S4
  have hkey := eqL_key0 hk
  rw [← hK1] at hkey
  rw [e1] at hargs ⊢
  refine enter hm hargs Tryd.func13 rfl (by simp [Tryd.ntmps13]) fun a0 hF => ?_
  simp only [Tryd.ntmps13, startT] at hF
  obtain ⟨B, hB⟩ : ∃ B, B = std := ⟨_, rfl⟩
  refine wp_seq ?_
  apply region_okB hB T13_ok [1] [1] [] hF
  case hex => intro A X; conv => lhs; cbv
  case hob =>
    intro X
    subst hB
    simp [AllOb, Ob.holds, BE.den, std, stdCmp, stdArith] <;> omega
  case hQ =>
  intro X0 a0 w1 hF
  refine wp_seq ?_
  apply region_okB hB T13_ok [1, 3] [1] [] hF
  case hex => intro A X; conv => lhs; cbv
  case hob =>
    intro X
    subst hB; exact ⟨rfl, ob_key K1 (fun _ => 0), trivial⟩
  case hQ =>
  intro X1 a0 w1 hF
  refine wp_seq ?_
  apply region_okB hB T13_ok [1, 3, 4] [1] [] hF
  case hex => intro A X; conv => lhs; cbv
  case hob =>
    intro X
    subst hB; exact ⟨rfl, ob_op p.op zeroOp, trivial⟩
  case hQ =>
  intro X2 a0 w1 hF
  refine wp_seq ?_
  apply region_okB hB T13_ok [1, 3, 4, 5] [1] [] hF
  case hex => intro A X; conv => lhs; cbv
  case hob =>
    intro X
    subst hB; exact ⟨rfl, ob_ans0 p.ans, trivial⟩
  case hQ =>
  intro X3 a0 w1 hF
  refine wp_seq ?_
  refine wp_seq ?_
  apply region_okB hB T13_ok [1, 3, 4, 5, 19] [1] [] hF
  case hex => intro A X; conv => lhs; cbv
  case hob =>
    intro X
    subst hB
    simp [AllOb, Ob.holds, BE.den, std, stdCmp, stdArith] <;> omega
  case hQ =>
  intro X4 a0 w1 hF
  refine wp_block ?_
  refine wp_seq ?_
  apply region_okB hB T13_ok [20, 1, 3, 4, 5, 19] [1] [] hF
  case hex => intro A X; conv => lhs; cbv
  case hob =>
    intro X
    subst hB
    simp [AllOb, Ob.holds, BE.den, std, stdCmp, stdArith] <;> omega
  case hQ =>
  intro X5 a0 w1 hF
  refine test_ok hF rfl (fun hb hF => ?_) (fun hb hF => ?_)
  · skip
    have hk1 : p.kind = 1 := by subst hB; simp only [std, stdCmp, stdScmp, BE.den, tolB, emptyB, Int.ofNat_eq_natCast, Int.toNat_natCast] at hb; clear hF hargs hm; grind
    refine wp_seq ?_
    apply region_okB hB T13_ok [2] [] [(2, .r fun _ => .bool (.v q1)), (14, .r fun _ => .bool (.v q2))] hF
    case hex => intro A X; conv => lhs; cbv
    case hob =>
      intro X
      subst hB
      simp only [AllOb, Ob.holds, BE.den, List.mem_cons, List.not_mem_nil, or_false, forall_eq_or_imp, forall_eq] <;> (and_intros <;> first | trivial | (intro h; trivial) | exact enters32 | exact S1 | exact ⟨enters32, S1⟩ | (intro h; exact ⟨enters32, S1⟩) | exact enters33 | exact S2 | exact ⟨enters33, S2⟩ | (intro h; exact ⟨enters33, S2⟩) | exact enters35 | exact S3 | exact ⟨enters35, S3⟩ | (intro h; exact ⟨enters35, S3⟩) | exact enters34 | exact S4 | exact ⟨enters34, S4⟩ | (intro h; exact ⟨enters34, S4⟩) | exact ob_op p.op ⟨p.op.client, p.op.req, 0, 0, ByteArray.empty⟩ | (intro h; exact ob_op p.op ⟨p.op.client, p.op.req, 0, 0, ByteArray.empty⟩))
    case hQ =>
    intro X6 a0 w1 hF
    refine wp_ret ?_
    refine ret_spec (fn := Tryd.f13) T13_ok hF (rs := [.tmp 2]) rfl (rfl) ?_ noAtom ?_
    · subst hB; simp [AllOb, Ob.holds]
    · subst hB
      refine congrArg (fun b => AV.bool (.v b)) ?_
      show (if (if (if q1 = true then eqL (ansC p.ans) (ansC zeroAns) else false) = true then (p.serial == 0) else false) = true then q2 else false) = _
      simp only [hkey, eqL_op, eqL_ans, ite_and]
      unfold isP
      rw [← hq1, ← hq2, ← hq3, ← hq4]
      simp only [hk1, if_true, if_false, ite_true, ite_false]
      try grind
  · skip
    have hk1 : ¬ p.kind = 1 := by subst hB; simp only [std, stdCmp, stdScmp, BE.den, tolB, emptyB, Int.ofNat_eq_natCast, Int.toNat_natCast] at hb; clear hF hargs hm; grind
    refine wp_seq ?_
    apply region_okB hB T13_ok [38, 1, 3, 4, 5, 19] [1] [] hF
    case hex => intro A X; conv => lhs; cbv
    case hob =>
      intro X
      subst hB
      simp [AllOb, Ob.holds, BE.den, std, stdCmp, stdArith] <;> omega
    case hQ =>
    intro X7 a0 w1 hF
    refine test_ok hF rfl (fun hb hF => ?_) (fun hb hF => ?_)
    · skip
      have hk2 : p.kind = 2 := by subst hB; simp only [std, stdCmp, stdScmp, BE.den, tolB, emptyB, Int.ofNat_eq_natCast, Int.toNat_natCast] at hb; clear hF hargs hm; grind
      refine wp_seq ?_
      apply region_okB hB T13_ok [1, 3, 4] [1] [] hF
      case hex => intro A X; conv => lhs; cbv
      case hob =>
        intro X
        subst hB; exact ⟨rfl, rfl, rfl, ob_op p.op ⟨p.op.client, p.op.req, 0, 0, ByteArray.empty⟩, trivial⟩
      case hQ =>
      intro X8 a0 w1 hF
      refine wp_seq ?_
      apply region_okB hB T13_ok [2] [] [(19, .r fun _ => .bool (.v q4)), (29, .r fun _ => .bool (.v q2))] hF
      case hex => intro A X; conv => lhs; cbv
      case hob =>
        intro X
        subst hB
        simp only [AllOb, Ob.holds, BE.den, List.mem_cons, List.not_mem_nil, or_false, forall_eq_or_imp, forall_eq] <;> (and_intros <;> first | trivial | (intro h; trivial) | exact enters32 | exact S1 | exact ⟨enters32, S1⟩ | (intro h; exact ⟨enters32, S1⟩) | exact enters33 | exact S2 | exact ⟨enters33, S2⟩ | (intro h; exact ⟨enters33, S2⟩) | exact enters35 | exact S3 | exact ⟨enters35, S3⟩ | (intro h; exact ⟨enters35, S3⟩) | exact enters34 | exact S4 | exact ⟨enters34, S4⟩ | (intro h; exact ⟨enters34, S4⟩) | exact ob_op p.op ⟨p.op.client, p.op.req, 0, 0, ByteArray.empty⟩ | (intro h; exact ob_op p.op ⟨p.op.client, p.op.req, 0, 0, ByteArray.empty⟩))
      case hQ =>
      intro X9 a0 w1 hF
      refine wp_ret ?_
      refine ret_spec (fn := Tryd.f13) T13_ok hF (rs := [.tmp 2]) rfl (rfl) ?_ noAtom ?_
      · subst hB; simp [AllOb, Ob.holds]
      · subst hB
        refine congrArg (fun b => AV.bool (.v b)) ?_
        show (if (if (if (if (if (if eqL (keyC K1) (keyC fun _ => 0) = true then eqL (opC p.op) (opC ⟨p.op.client, p.op.req, 0, 0, ByteArray.empty⟩) else false) = true then decide (p.op.client ≥ 0) else false) = true then decide (p.op.client ≤ 63) else false) = true then q4 else false) = true then (p.serial == 0) else false) = true then q2 else false) = _
        simp only [hkey, eqL_op, eqL_ans, ite_and]
        unfold isP
        rw [← hq1, ← hq2, ← hq3, ← hq4]
        simp only [hk1, hk2, if_true, if_false, ite_true, ite_false]
        try grind
    · skip
      have hk2 : ¬ p.kind = 2 := by subst hB; simp only [std, stdCmp, stdScmp, BE.den, tolB, emptyB, Int.ofNat_eq_natCast, Int.toNat_natCast] at hb; clear hF hargs hm; grind
      refine wp_seq ?_
      apply region_okB hB T13_ok [81, 1, 3, 4, 5, 19] [1] [] hF
      case hex => intro A X; conv => lhs; cbv
      case hob =>
        intro X
        subst hB
        simp [AllOb, Ob.holds, BE.den, std, stdCmp, stdArith] <;> omega
      case hQ =>
      intro X10 a0 w1 hF
      refine test_ok hF rfl (fun hb hF => ?_) (fun hb hF => ?_)
      · skip
        have hk3 : p.kind = 3 := by subst hB; simp only [std, stdCmp, stdScmp, BE.den, tolB, emptyB, Int.ofNat_eq_natCast, Int.toNat_natCast] at hb; clear hF hargs hm; grind
        refine wp_seq ?_
        apply region_okB hB T13_ok [2] [] [(7, .r fun _ => .bool (.v q3))] hF
        case hex => intro A X; conv => lhs; cbv
        case hob =>
          intro X
          subst hB
          simp only [AllOb, Ob.holds, BE.den, List.mem_cons, List.not_mem_nil, or_false, forall_eq_or_imp, forall_eq] <;> (and_intros <;> first | trivial | (intro h; trivial) | exact enters32 | exact S1 | exact ⟨enters32, S1⟩ | (intro h; exact ⟨enters32, S1⟩) | exact enters33 | exact S2 | exact ⟨enters33, S2⟩ | (intro h; exact ⟨enters33, S2⟩) | exact enters35 | exact S3 | exact ⟨enters35, S3⟩ | (intro h; exact ⟨enters35, S3⟩) | exact enters34 | exact S4 | exact ⟨enters34, S4⟩ | (intro h; exact ⟨enters34, S4⟩) | exact ob_op p.op ⟨p.op.client, p.op.req, 0, 0, ByteArray.empty⟩ | (intro h; exact ob_op p.op ⟨p.op.client, p.op.req, 0, 0, ByteArray.empty⟩))
        case hQ =>
        intro X11 a0 w1 hF
        refine wp_ret ?_
        refine ret_spec (fn := Tryd.f13) T13_ok hF (rs := [.tmp 2]) rfl (rfl) ?_ noAtom ?_
        · subst hB; simp [AllOb, Ob.holds]
        · subst hB
          refine congrArg (fun b => AV.bool (.v b)) ?_
          show (if (if eqL (opC p.op) (opC zeroOp) = true then eqL (ansC p.ans) (ansC zeroAns) else false) = true then q3 else false) = _
          simp only [hkey, eqL_op, eqL_ans, ite_and]
          unfold isP
          rw [← hq1, ← hq2, ← hq3, ← hq4]
          simp only [hk1, hk2, hk3, if_true, if_false, ite_true, ite_false]
          try grind
      · skip
        have hk3 : ¬ p.kind = 3 := by subst hB; simp only [std, stdCmp, stdScmp, BE.den, tolB, emptyB, Int.ofNat_eq_natCast, Int.toNat_natCast] at hb; clear hF hargs hm; grind
        refine wp_seq ?_
        apply region_okB hB T13_ok [92, 1, 3, 4, 5] [1] [] hF
        case hex => intro A X; conv => lhs; cbv
        case hob =>
          intro X
          subst hB
          simp [AllOb, Ob.holds, BE.den, std, stdCmp, stdArith] <;> omega
        case hQ =>
        intro X12 a0 w1 hF
        refine test_ok hF rfl (fun hb hF => ?_) (fun hb hF => ?_)
        · skip
          have hk4 : p.kind = 4 := by subst hB; simp only [std, stdCmp, stdScmp, BE.den, tolB, emptyB, Int.ofNat_eq_natCast, Int.toNat_natCast] at hb; clear hF hargs hm; grind
          refine wp_seq ?_
          apply region_okB hB T13_ok [2] [] [(10, .r fun _ => .bool (.v q2))] hF
          case hex => intro A X; conv => lhs; cbv
          case hob =>
            intro X
            subst hB
            simp only [AllOb, Ob.holds, BE.den, List.mem_cons, List.not_mem_nil, or_false, forall_eq_or_imp, forall_eq] <;> (and_intros <;> first | trivial | (intro h; trivial) | exact enters32 | exact S1 | exact ⟨enters32, S1⟩ | (intro h; exact ⟨enters32, S1⟩) | exact enters33 | exact S2 | exact ⟨enters33, S2⟩ | (intro h; exact ⟨enters33, S2⟩) | exact enters35 | exact S3 | exact ⟨enters35, S3⟩ | (intro h; exact ⟨enters35, S3⟩) | exact enters34 | exact S4 | exact ⟨enters34, S4⟩ | (intro h; exact ⟨enters34, S4⟩) | exact ob_op p.op ⟨p.op.client, p.op.req, 0, 0, ByteArray.empty⟩ | (intro h; exact ob_op p.op ⟨p.op.client, p.op.req, 0, 0, ByteArray.empty⟩))
          case hQ =>
          intro X13 a0 w1 hF
          refine wp_ret ?_
          refine ret_spec (fn := Tryd.f13) T13_ok hF (rs := [.tmp 2]) rfl (rfl) ?_ noAtom ?_
          · subst hB; simp [AllOb, Ob.holds]
          · subst hB
            refine congrArg (fun b => AV.bool (.v b)) ?_
            show (if (if (if eqL (keyC K1) (keyC fun _ => 0) = true then eqL (opC p.op) (opC zeroOp) else false) = true then eqL (ansC p.ans) (ansC zeroAns) else false) = true then q2 else false) = _
            simp only [hkey, eqL_op, eqL_ans, ite_and]
            unfold isP
            rw [← hq1, ← hq2, ← hq3, ← hq4]
            simp only [hk1, hk2, hk3, hk4, if_true, if_false, ite_true, ite_false]
            try grind
        · skip
          have hk4 : ¬ p.kind = 4 := by subst hB; simp only [std, stdCmp, stdScmp, BE.den, tolB, emptyB, Int.ofNat_eq_natCast, Int.toNat_natCast] at hb; clear hF hargs hm; grind
          refine wp_skip ?_
          refine wp_seq ?_
          apply region_okB hB T13_ok [2] [] [] hF
          case hex => intro A X; conv => lhs; cbv
          case hob =>
            intro X
            subst hB
            simp [AllOb, Ob.holds, BE.den, std, stdCmp, stdArith] <;> omega
          case hQ =>
          intro X14 a0 w1 hF
          refine wp_ret ?_
          refine ret_spec (fn := Tryd.f13) T13_ok hF (rs := [.tmp 2]) rfl (rfl) ?_ noAtom ?_
          · subst hB; simp [AllOb, Ob.holds]
          · subst hB
            refine congrArg (fun b => AV.bool (.v b)) ?_
            unfold isP
            simp only [hk1, hk2, hk3, hk4, if_false]
def T16 : List (Nat × TI) := [(3, ti3), (4, ti4), (22, ti22), (24, ti24), (26, ti26), (29, ti29), (32, ti32), (34, ti34)]
theorem T16_ok : TabOK Tryd.prog T16 := .cons t3 (.cons t4 (.cons t22 (.cons t24 (.cons t26 (.cons t29 (.cons t32 (.cons t34 (.nil))))))))
theorem enters16 : Enters Tryd.prog 16 := fun _ _ => by kernel_rfl
theorem sameP_s (A : Option Addr) (k : Nat) (p : Par) (hk : p.key.length = 20) (hs : p.cell.marks.length ≤ 1000000000) (A2 : Option Addr) (k2 : Nat) (r : Par) (hk2 : r.key.length = 20) : Spec Tryd.prog 16 [parAV A k p, parAV A2 k2 r] (fun _ => .bool (.v (decide (p = r)))) := by
  intro m w hm hargs
  have hm1 := ok_agg (hargs (parAV A k p) (by simp)) (marksAV A k p.cell.marks) (by simp [parC])
  obtain ⟨hl1, hc1⟩ := ok_len hm1
  obtain ⟨n1, f1, ho1, hn1, hf1⟩ := marks_open p.cell.marks
  obtain ⟨K1, hK1⟩ : ∃ K, K = kI p.key := ⟨_, rfl⟩
  have e1 : parAV A k p = .agg (parC K1 (rowM none A n1 k f1) p) := by simp only [parAV, ho1, hK1]
  have ec1 : celAV A k p.cell = .agg [.int .u64 p.cell.version, .bool (.v p.cell.has), .str p.cell.val, rowM none A n1 k f1] := by simp only [celAV, celC, ho1]
  have hm2 := ok_agg (hargs (parAV A2 k2 r) (by simp)) (marksAV A2 k2 r.cell.marks) (by simp [parC])
  obtain ⟨hl2, hc2⟩ := ok_len hm2
  obtain ⟨n2, f2, ho2, hn2, hf2⟩ := marks_open r.cell.marks
  obtain ⟨K2, hK2⟩ : ∃ K, K = kI r.key := ⟨_, rfl⟩
  have e2 : parAV A2 k2 r = .agg (parC K2 (rowM none A2 n2 k2 f2) r) := by simp only [parAV, ho2, hK2]
  have ec2 : celAV A2 k2 r.cell = .agg [.int .u64 r.cell.version, .bool (.v r.cell.has), .str r.cell.val, rowM none A2 n2 k2 f2] := by simp only [celAV, celC, ho2]
  have S := same17_s A k p.cell A2 k2 r.cell hs
  rw [ec1, ec2] at S
  have hkey := eqL_key hk hk2
  rw [← hK1, ← hK2] at hkey
  obtain ⟨q, hq⟩ : ∃ q, q = decide (p.cell = r.cell) := ⟨_, rfl⟩
  rw [← hq] at S
  rw [e1, e2] at hargs ⊢
  refine enter hm hargs Tryd.func16 rfl (by simp [Tryd.ntmps16]) fun a0 hF => ?_
  simp only [Tryd.ntmps16, startT] at hF
  obtain ⟨B, hB⟩ : ∃ B, B = std := ⟨_, rfl⟩
  refine wp_seq ?_
  apply region_okB hB T16_ok [2, 3] [2, 3] [] hF
  case hex => intro A X; conv => lhs; cbv
  case hob =>
    intro X
    subst hB
    simp [AllOb, Ob.holds, BE.den, std, stdCmp, stdArith] <;> omega
  case hQ =>
  intro X0 a0 w1 hF
  refine wp_seq ?_
  apply region_okB hB T16_ok [4] [] [(45, .r fun _ => .bool (.v q))] hF
  case hex => intro A X; conv => lhs; cbv
  case hob =>
    intro X
    subst hB
    simp only [AllOb, Ob.holds, BE.den, List.mem_cons, List.not_mem_nil, or_false, forall_eq_or_imp, forall_eq] <;> (and_intros <;> first | trivial | (intro h; trivial) | exact ob_key _ _ | (intro h; exact ob_key _ _) | exact ob_op p.op r.op | (intro h; exact ob_op p.op r.op) | exact ob_ans p.ans r.ans | (intro h; exact ob_ans p.ans r.ans) | exact enters54 | exact S | exact ⟨enters54, S⟩ | (intro h; exact ⟨enters54, S⟩))
  case hQ =>
  intro X1 a0 w1 hF
  refine wp_ret ?_
  refine ret_spec (fn := Tryd.f16) T16_ok hF (rs := [.tmp 4]) rfl (rfl) ?_ noAtom ?_
  · subst hB; simp [AllOb, Ob.holds]
  · subst hB
    refine congrArg (fun b => AV.bool (.v b)) ?_
    show (if (if (if (if (if (if (p.kind == r.kind) = true then (p.epoch == r.epoch) else false) = true then eqL (keyC K1) (keyC K2) else false) = true then eqL (opC p.op) (opC r.op) else false) = true then eqL (ansC p.ans) (ansC r.ans) else false) = true then (p.serial == r.serial) else false) = true then q else false) = _
    simp only [hkey, eqL_op, eqL_ans, ite_and, hq]
    obtain ⟨a1, a2, a3, a4, a5, a6, a7⟩ := p
    obtain ⟨b1, b2, b3, b4, b5, b6, b7⟩ := r
    rw [Bool.eq_iff_iff]
    simp [and_assoc]
def T8 : List (Nat × TI) := [(3, ti3), (4, ti4), (9, ti9), (26, ti26), (29, ti29), (32, ti32), (34, ti34)]
theorem T8_ok : TabOK Tryd.prog T8 := .cons t3 (.cons t4 (.cons t9 (.cons t26 (.cons t29 (.cons t32 (.cons t34 (.nil)))))))
theorem enters8 : Enters Tryd.prog 8 := fun _ _ => by kernel_rfl
theorem bigP_s (A : Option Addr) (k : Nat) (p : Par) : Spec Tryd.prog 8 [parAV A k p] (fun _ => .bool (.v (bigP p))) := by
  intro m w hm hargs
  have hm1 := ok_agg (hargs (parAV A k p) (by simp)) (marksAV A k p.cell.marks) (by simp [parC])
  obtain ⟨hl1, hc1⟩ := ok_len hm1
  obtain ⟨n1, f1, ho1, hn1, hf1⟩ := marks_open p.cell.marks
  obtain ⟨K1, hK1⟩ : ∃ K, K = kI p.key := ⟨_, rfl⟩
  have e1 : parAV A k p = .agg (parC K1 (rowM none A n1 k f1) p) := by simp only [parAV, ho1, hK1]
  have ec1 : celAV A k p.cell = .agg [.int .u64 p.cell.version, .bool (.v p.cell.has), .str p.cell.val, rowM none A n1 k f1] := by simp only [celAV, celC, ho1]
  have S := big17_s A k p.cell
  rw [ec1] at S
  obtain ⟨q, hq⟩ : ∃ q, q = bigF p.cell := ⟨_, rfl⟩
  rw [← hq] at S
  rw [e1] at hargs ⊢
  refine enter hm hargs Tryd.func8 rfl (by simp [Tryd.ntmps8]) fun a0 hF => ?_
  simp only [Tryd.ntmps8, startT] at hF
  obtain ⟨B, hB⟩ : ∃ B, B = std := ⟨_, rfl⟩
  refine wp_seq ?_
  apply region_okB hB T8_ok [1] [1] [] hF
  case hex => intro A X; conv => lhs; cbv
  case hob =>
    intro X
    subst hB
    simp [AllOb, Ob.holds, BE.den, std, stdCmp, stdArith] <;> omega
  case hQ =>
  intro X0 a0 w1 hF
  refine wp_seq ?_
  apply region_okB hB T8_ok [2] [] [(2, .r fun _ => .bool (.v q))] hF
  case hex => intro A X; conv => lhs; cbv
  case hob =>
    intro X
    subst hB
    simp only [AllOb, Ob.holds, BE.den, List.mem_cons, List.not_mem_nil, or_false, forall_eq_or_imp, forall_eq] <;> (and_intros <;> first | trivial | (intro h; trivial) | exact enters18 | exact S | exact ⟨enters18, S⟩ | (intro h; exact ⟨enters18, S⟩))
  case hQ =>
  intro X1 a0 w1 hF
  refine wp_ret ?_
  refine ret_spec (fn := Tryd.f8) T8_ok hF (rs := [.tmp 2]) rfl (rfl) ?_ noAtom ?_
  · subst hB; simp [AllOb, Ob.holds]
  · subst hB
    refine congrArg (fun b => AV.bool (.v b)) ?_
    show (if (if q = true then true else decide ((p.op.val.size : Int) > 5000)) = true then true else decide ((p.ans.val.size : Int) > 5000)) = _
    unfold bigP
    rw [hq]
    cases bigF p.cell <;> (rw [Bool.eq_iff_iff]; simp; try omega)
end Go.Proofs.YtkamdppnnhjajaaDoor.Sym

namespace Go.Proofs.YtkamdppnnhjajaaDoor.Sym
open Go Go.RowKit
set_option maxRecDepth 100000
set_option maxHeartbeats 1600000
set_option linter.unusedVariables false
set_option linter.unusedSimpArgs false
def T11 : List (Nat × TI) := [(4, ti4), (9, ti9), (24, ti24), (26, ti26), (27, ti27), (29, ti29), (32, ti32), (34, ti34)]
theorem T11_ok : TabOK Tryd.prog T11 := .cons t4 (.cons t9 (.cons t24 (.cons t26 (.cons t27 (.cons t29 (.cons t32 (.cons t34 (.nil))))))))
theorem enters11 : Enters Tryd.prog 11 := fun _ _ => by kernel_rfl
theorem packed_s : Spec Tryd.prog 11 [] (fun _ => .bool .tt) := by
  intro m w hm hargs
  obtain ⟨P9, hP9⟩ : ∃ p, p = p9 := ⟨_, rfl⟩
  have S1 := put_s none 0 p9 p9_ok.2 (by decide)
  rw [p9_put] at S1
  have S2 := getp_good ⟨#[1, 4, 1, 3, 1, 9]⟩ (by rw [p9_get])
  rw [p9_get] at S2
  simp only [← hP9] at S2
  obtain ⟨n1, f1, hm1, hn1, hf1⟩ := marks_open P9.cell.marks
  obtain ⟨K1, hK1⟩ : ∃ K, K = kI P9.key := ⟨_, rfl⟩
  have eP1 : ∀ A k, parAV A k P9 = .agg (parC K1 (rowM none A n1 k f1) P9) := fun A k => by simp only [parAV, hm1, hK1]
  simp only [eP1] at S2
  have S3 := put_s none 0 zeroPar zeroU (by decide)
  rw [zero_put] at S3
  have S4 := fun A2 k2 => sameP_s none 0 p9 (by decide) (by decide) A2 k2 p9 (by decide)
  rw [show decide (p9 = p9) = true from by simp] at S4
  have S5 := isP_s none 0 p9 (by decide) (by decide)
  rw [p9_is] at S5
  have S4b : ∀ A2 k2, Spec _ _ [parAV none 0 p9, .agg (parC K1 (rowM none A2 n1 k2 f1) P9)] _ := fun A2 k2 => by have := S4 A2 k2; rw [← eP1, hP9]; exact this
  refine enter hm hargs Tryd.func11 rfl (by simp [Tryd.ntmps11]) fun a0 hF => ?_
  simp only [Tryd.ntmps11, startT] at hF
  obtain ⟨B, hB⟩ : ∃ B, B = std := ⟨_, rfl⟩
  refine wp_seq ?_
  apply region_okB hB T11_ok [] [] [] hF
  case hex => intro A X; conv => lhs; cbv
  case hob =>
    intro X
    subst hB
    simp [AllOb, Ob.holds, BE.den, std, stdCmp, stdArith] <;> omega
  case hQ =>
  intro X0 a0 w1 hF
  refine wp_seq ?_
  apply region_okB hB T11_ok [1] [1] [] hF
  case hex => intro A X; conv => lhs; cbv
  case hob =>
    intro X
    subst hB
    simp [AllOb, Ob.holds, BE.den, std, stdCmp, stdArith] <;> omega
  case hQ =>
  intro X1 a0 w1 hF
  refine wp_seq ?_
  apply region_okB hB T11_ok [1, 2, 3] [1] [(1, .r fun _ => .tup [.str ⟨#[1, 4, 1, 3, 1, 9]⟩, .int .i64 0])] hF
  case hex => intro A X; conv => lhs; cbv
  case hob =>
    intro X
    subst hB
    simp only [AllOb, Ob.holds, BE.den, List.mem_cons, List.not_mem_nil, or_false, forall_eq_or_imp, forall_eq] <;> (and_intros <;> first | trivial | (intro h; trivial) | exact enters9 | exact S1.sim ⟨(by show Sim _ (.agg (parC (kI (List.replicate 20 0)) (marksAV none 0 (p9).cell.marks) p9)); rw [kI_zero]; exact Sim.agg (by repeat (first | exact trivial | refine ⟨Sim.refl _, ?_⟩ | refine ⟨Sim.ff, ?_⟩ | refine ⟨Sim.tt, ?_⟩ | refine ⟨Sim.recell (fun i hi => absurd hi (Nat.not_lt_zero _)), ?_⟩))), trivial⟩ | exact ⟨enters9, S1.sim ⟨(by show Sim _ (.agg (parC (kI (List.replicate 20 0)) (marksAV none 0 (p9).cell.marks) p9)); rw [kI_zero]; exact Sim.agg (by repeat (first | exact trivial | refine ⟨Sim.refl _, ?_⟩ | refine ⟨Sim.ff, ?_⟩ | refine ⟨Sim.tt, ?_⟩ | refine ⟨Sim.recell (fun i hi => absurd hi (Nat.not_lt_zero _)), ?_⟩))), trivial⟩⟩ | (intro h; exact ⟨enters9, S1.sim ⟨(by show Sim _ (.agg (parC (kI (List.replicate 20 0)) (marksAV none 0 (p9).cell.marks) p9)); rw [kI_zero]; exact Sim.agg (by repeat (first | exact trivial | refine ⟨Sim.refl _, ?_⟩ | refine ⟨Sim.ff, ?_⟩ | refine ⟨Sim.tt, ?_⟩ | refine ⟨Sim.recell (fun i hi => absurd hi (Nat.not_lt_zero _)), ?_⟩))), trivial⟩⟩) | rfl | (intro h; rfl))
  case hQ =>
  intro X2 a0 w1 hF
  refine wp_seq ?_
  apply region_okB hB T11_ok [1, 2, 3, 4, 5] [1, 4] [(0, .r fun x => .tup [.agg (parC K1 (rowM none (x.A 0) n1 (x.c 0) f1) P9), .int .i64 0])] hF
  case hex => intro A X; conv => lhs; cbv
  case hob =>
    intro X
    subst hB
    simp only [AllOb, Ob.holds, BE.den, List.mem_cons, List.not_mem_nil, or_false, forall_eq_or_imp, forall_eq] <;> (and_intros <;> first | trivial | (intro h; trivial) | exact enters14 | exact S2 | exact ⟨enters14, S2⟩ | (intro h; exact ⟨enters14, S2⟩) | rfl | (intro h; rfl))
  case hQ =>
  intro X3 a0 w1 hF
  refine wp_seq ?_
  apply region_okB hB T11_ok [1, 2, 3, 4, 5, 7] [1, 4] [(1, .r fun _ => .tup [.str ⟨#[]⟩, .int .i64 1])] hF
  case hex => intro A X; conv => lhs; cbv
  case hob =>
    intro X
    subst hB
    simp only [AllOb, Ob.holds, BE.den, List.mem_cons, List.not_mem_nil, or_false, forall_eq_or_imp, forall_eq] <;> (and_intros <;> first | trivial | (intro h; trivial) | exact enters9 | exact S3.sim ⟨(by show Sim _ (.agg (parC (kI (List.replicate 20 0)) (marksAV none 0 (zeroPar).cell.marks) zeroPar)); rw [kI_zero]; exact Sim.agg (by repeat (first | exact trivial | refine ⟨Sim.refl _, ?_⟩ | refine ⟨Sim.ff, ?_⟩ | refine ⟨Sim.tt, ?_⟩ | refine ⟨Sim.recell (fun i hi => absurd hi (Nat.not_lt_zero _)), ?_⟩))), trivial⟩ | exact ⟨enters9, S3.sim ⟨(by show Sim _ (.agg (parC (kI (List.replicate 20 0)) (marksAV none 0 (zeroPar).cell.marks) zeroPar)); rw [kI_zero]; exact Sim.agg (by repeat (first | exact trivial | refine ⟨Sim.refl _, ?_⟩ | refine ⟨Sim.ff, ?_⟩ | refine ⟨Sim.tt, ?_⟩ | refine ⟨Sim.recell (fun i hi => absurd hi (Nat.not_lt_zero _)), ?_⟩))), trivial⟩⟩ | (intro h; exact ⟨enters9, S3.sim ⟨(by show Sim _ (.agg (parC (kI (List.replicate 20 0)) (marksAV none 0 (zeroPar).cell.marks) zeroPar)); rw [kI_zero]; exact Sim.agg (by repeat (first | exact trivial | refine ⟨Sim.refl _, ?_⟩ | refine ⟨Sim.ff, ?_⟩ | refine ⟨Sim.tt, ?_⟩ | refine ⟨Sim.recell (fun i hi => absurd hi (Nat.not_lt_zero _)), ?_⟩))), trivial⟩⟩) | rfl | (intro h; rfl))
  case hQ =>
  intro X4 a0 w1 hF
  refine wp_seq ?_
  apply region_okB hB T11_ok [0] [] [(14, .r fun _ => .bool (.v true)), (22, .r fun _ => .bool (.v true))] hF
  case hex => intro A X; conv => lhs; cbv
  case hob =>
    intro X
    subst hB
    simp only [AllOb, Ob.holds, BE.den, List.mem_cons, List.not_mem_nil, or_false, forall_eq_or_imp, forall_eq] <;> (and_intros <;> first | trivial | (intro h; trivial) | exact enters16 | exact (S4b _ _).sim ⟨(by show Sim _ (.agg (parC (kI (List.replicate 20 0)) (marksAV none 0 (p9).cell.marks) p9)); rw [kI_zero]; exact Sim.agg (by repeat (first | exact trivial | refine ⟨Sim.refl _, ?_⟩ | refine ⟨Sim.ff, ?_⟩ | refine ⟨Sim.tt, ?_⟩ | refine ⟨Sim.recell (fun i hi => absurd hi (Nat.not_lt_zero _)), ?_⟩))), Sim.refl _, trivial⟩ | exact ⟨enters16, (S4b _ _).sim ⟨(by show Sim _ (.agg (parC (kI (List.replicate 20 0)) (marksAV none 0 (p9).cell.marks) p9)); rw [kI_zero]; exact Sim.agg (by repeat (first | exact trivial | refine ⟨Sim.refl _, ?_⟩ | refine ⟨Sim.ff, ?_⟩ | refine ⟨Sim.tt, ?_⟩ | refine ⟨Sim.recell (fun i hi => absurd hi (Nat.not_lt_zero _)), ?_⟩))), Sim.refl _, trivial⟩⟩ | (intro h; exact ⟨enters16, (S4b _ _).sim ⟨(by show Sim _ (.agg (parC (kI (List.replicate 20 0)) (marksAV none 0 (p9).cell.marks) p9)); rw [kI_zero]; exact Sim.agg (by repeat (first | exact trivial | refine ⟨Sim.refl _, ?_⟩ | refine ⟨Sim.ff, ?_⟩ | refine ⟨Sim.tt, ?_⟩ | refine ⟨Sim.recell (fun i hi => absurd hi (Nat.not_lt_zero _)), ?_⟩))), Sim.refl _, trivial⟩⟩) | exact enters12 | exact S5.sim ⟨(by show Sim _ (.agg (parC (kI (List.replicate 20 0)) (marksAV none 0 (p9).cell.marks) p9)); rw [kI_zero]; exact Sim.agg (by repeat (first | exact trivial | refine ⟨Sim.refl _, ?_⟩ | refine ⟨Sim.ff, ?_⟩ | refine ⟨Sim.tt, ?_⟩ | refine ⟨Sim.recell (fun i hi => absurd hi (Nat.not_lt_zero _)), ?_⟩))), trivial⟩ | exact ⟨enters12, S5.sim ⟨(by show Sim _ (.agg (parC (kI (List.replicate 20 0)) (marksAV none 0 (p9).cell.marks) p9)); rw [kI_zero]; exact Sim.agg (by repeat (first | exact trivial | refine ⟨Sim.refl _, ?_⟩ | refine ⟨Sim.ff, ?_⟩ | refine ⟨Sim.tt, ?_⟩ | refine ⟨Sim.recell (fun i hi => absurd hi (Nat.not_lt_zero _)), ?_⟩))), trivial⟩⟩ | (intro h; exact ⟨enters12, S5.sim ⟨(by show Sim _ (.agg (parC (kI (List.replicate 20 0)) (marksAV none 0 (p9).cell.marks) p9)); rw [kI_zero]; exact Sim.agg (by repeat (first | exact trivial | refine ⟨Sim.refl _, ?_⟩ | refine ⟨Sim.ff, ?_⟩ | refine ⟨Sim.tt, ?_⟩ | refine ⟨Sim.recell (fun i hi => absurd hi (Nat.not_lt_zero _)), ?_⟩))), trivial⟩⟩) | rfl | (intro h; rfl))
  case hQ =>
  intro X5 a0 w1 hF
  refine wp_ret ?_
  refine ret_sim (fn := Tryd.f11) T11_ok hF (rs := [.tmp 0]) rfl (rfl) ?_ noAtom ?_
  · simp [AllOb, Ob.holds]
  · subst hB
    exact Sim.bool (by kernel_rfl)
end Go.Proofs.YtkamdppnnhjajaaDoor.Sym

namespace Go.Proofs.YtkamdppnnhjajaaDoor.Sym
open Go Go.RowKit
set_option maxRecDepth 100000
set_option maxHeartbeats 1600000
set_option linter.unusedVariables false
set_option linter.unusedSimpArgs false
def T27 : List (Nat × TI) := [(9, ti9), (22, ti22)]
theorem T27_ok : TabOK Tryd.prog T27 := .cons t9 (.cons t22 (.nil))
theorem enters27 : Enters Tryd.prog 27 := fun _ _ => by kernel_rfl
theorem rflag_s (h : Bool) : Spec Tryd.prog 27 [.bool (.v h)] (fun _ => .str (mkB (flagB h))) := by
  intro m w hm hargs
  have S1 := rnum_s 1 ⟨by decide, by decide⟩
  have S0 := rnum_s 0 ⟨by decide, by decide⟩
  obtain ⟨a1, h1⟩ : ∃ t, t = mkB (numL (1 : Int).toNat) := ⟨_, rfl⟩
  obtain ⟨c0, h0⟩ : ∃ t, t = mkB (numL (0 : Int).toNat) := ⟨_, rfl⟩
  rw [← h1] at S1
  rw [← h0] at S0
  refine enter hm hargs Tryd.func27 rfl (by simp [Tryd.ntmps27]) fun a0 hF => ?_
  simp only [Tryd.ntmps27, startT] at hF
  obtain ⟨B, hB⟩ : ∃ B, B = std := ⟨_, rfl⟩
  refine wp_seq ?_
  apply region_okB hB T27_ok [0] [] [] hF
  case hex => intro A X; conv => lhs; cbv
  case hob =>
    intro X
    subst hB
    simp [AllOb, Ob.holds, BE.den, std, stdCmp, stdArith] <;> omega
  case hQ =>
  intro X0 a0 w1 hF
  refine wp_seq ?_
  refine wp_seq ?_
  apply region_okB hB T27_ok [3] [] [] hF
  case hex => intro A X; conv => lhs; cbv
  case hob =>
    intro X
    subst hB
    simp [AllOb, Ob.holds, BE.den, std, stdCmp, stdArith] <;> omega
  case hQ =>
  intro X1 a0 w1 hF
  refine test_ok hF rfl (fun hb hF => ?_) (fun hb hF => ?_)
  · skip
    have hh : h = true := by subst hB; exact hb
    refine wp_seq ?_
    apply region_okB hB T27_ok [2] [] [(0, .r fun _ => .str a1)] hF
    case hex => intro A X; conv => lhs; cbv
    case hob =>
      intro X
      subst hB; exact ⟨⟨enters24, S1⟩, trivial⟩
    case hQ =>
    intro X2 a0 w1 hF
    refine wp_ret ?_
    refine ret_spec (fn := Tryd.f27) T27_ok hF (rs := [.tmp 2]) rfl (rfl) ?_ noAtom ?_
    · subst hB; simp [AllOb, Ob.holds]
    · subst hB; rw [h1, hh]; rfl
  · skip
    have hh : h = false := by subst hB; exact hb
    refine wp_skip ?_
    refine wp_seq ?_
    apply region_okB hB T27_ok [2] [] [(0, .r fun _ => .str c0)] hF
    case hex => intro A X; conv => lhs; cbv
    case hob =>
      intro X
      subst hB; exact ⟨⟨enters24, S0⟩, trivial⟩
    case hQ =>
    intro X3 a0 w1 hF
    refine wp_ret ?_
    refine ret_spec (fn := Tryd.f27) T27_ok hF (rs := [.tmp 2]) rfl (rfl) ?_ noAtom ?_
    · subst hB; simp [AllOb, Ob.holds]
    · subst hB; rw [h0, hh]; rfl
def T10 : List (Nat × TI) := [(3, ti3), (4, ti4), (9, ti9), (22, ti22), (24, ti24), (26, ti26), (27, ti27), (29, ti29), (30, ti30), (32, ti32), (34, ti34), (62, ti62)]
theorem T10_ok : TabOK Tryd.prog T10 := .cons t3 (.cons t4 (.cons t9 (.cons t22 (.cons t24 (.cons t26 (.cons t27 (.cons t29 (.cons t30 (.cons t32 (.cons t34 (.cons t62 (.nil))))))))))))
theorem enters10 : Enters Tryd.prog 10 := fun _ _ => by kernel_rfl
theorem rput_s (A : Option Addr) (k : Nat) (P0 : Par) (hu : ParU P0) (hs : P0.cell.marks.length ≤ 1000000) : Spec Tryd.prog 10 [parAV A k P0] (fun _ => .tup [.str (putR P0).1, .int .i64 (putR P0).2]) := by
  intro m w hm hargs
  have hk := hu.key
  have S0 := risP_s A k P0 hk (by omega)
  have hm1 := ok_agg (hargs (parAV A k P0) (by simp)) (marksAV A k P0.cell.marks) (by simp [parC])
  obtain ⟨hl1, hc1⟩ := ok_len hm1
  obtain ⟨n1, f1, ho1, hn1, hf1⟩ := marks_open P0.cell.marks
  obtain ⟨K1, hK1⟩ : ∃ K, K = kI P0.key := ⟨_, rfl⟩
  have e1 : parAV A k P0 = .agg (parC K1 (rowM none A n1 k f1) P0) := by simp only [parAV, ho1, hK1]
  have ec1 : celAV A k P0.cell = .agg [.int .u64 P0.cell.version, .bool (.v P0.cell.has), .str P0.cell.val, rowM none A n1 k f1] := by simp only [celAV, celC, ho1]
  rw [e1] at S0
  obtain ⟨q, hq⟩ : ∃ q, q = isP P0 := ⟨_, rfl⟩
  rw [← hq] at S0
  rw [e1] at hargs ⊢
  refine enter hm hargs Tryd.func10 rfl (by simp [Tryd.ntmps10]) fun a0 hF => ?_
  simp only [Tryd.ntmps10, startT] at hF
  obtain ⟨B, hB⟩ : ∃ B, B = std := ⟨_, rfl⟩
  refine wp_seq ?_
  apply region_okB hB T10_ok [1] [1] [] hF
  case hex => intro A X; conv => lhs; cbv
  case hob =>
    intro X
    subst hB
    simp [AllOb, Ob.holds, BE.den, std, stdCmp, stdArith] <;> omega
  case hQ =>
  intro X0 a0 w1 hF
  refine wp_seq ?_
  refine wp_seq ?_
  apply region_okB hB T10_ok [13, 1] [1] [(1, .r fun _ => .bool (.v q))] hF
  case hex => intro A X; conv => lhs; cbv
  case hob =>
    intro X
    subst hB; exact ⟨rfl, ⟨enters13, S0⟩, trivial⟩
  case hQ =>
  intro X1 a0 w1 hF
  refine test_ok hF rfl (fun hb hF => ?_) (fun hb hF => ?_)
  · skip
    have hqf : isP P0 = false := by
      rw [← hq]; cases q with
      | false => rfl
      | true => subst hB; cases hb
    have hr : putR P0 = (⟨#[]⟩, 1) := by simp [putR, hqf]
    refine wp_seq ?_
    apply region_okB hB T10_ok [2, 3] [] [] hF
    case hex => intro A X; conv => lhs; cbv
    case hob =>
      intro X
      subst hB
      simp [AllOb, Ob.holds, BE.den, std, stdCmp, stdArith] <;> omega
    case hQ =>
    intro X2 a0 w1 hF
    refine wp_ret ?_
    refine ret_spec (fn := Tryd.f10) T10_ok hF (rs := [.tmp 2, .tmp 3]) rfl (rfl) ?_ noAtom ?_
    · subst hB; simp [AllOb, Ob.holds]
    · subst hB; rw [hr]; rfl
  · skip
    have hqt : isP P0 = true := by
      rw [← hq]; cases q with
      | true => rfl
      | false => subst hB; cases hb
    have hr : putR P0 = (mkB (putP P0), 0) := by simp [putR, hqt]
    have hkU : U64 P0.kind := by rcases isP_kind hqt with h | h | h | h <;> rw [h] <;> exact ⟨by decide, by decide⟩
    have ewk := wrap_u64 _ hkU
    have hcl : 0 ≤ P0.op.client ∧ P0.op.client ≤ 63 := by
      rcases isP_kind hqt with h | h | h | h
      · have := (isP_one hqt h).1; exact ⟨this.1, this.2.1⟩
      · have := isP_two hqt h; exact ⟨this.2.2.1, this.2.2.2.1⟩
      · rw [(isP_three hqt h).1]; decide
      · rw [(isP_four hqt h).2.1]; decide
    have cU : U64 P0.op.client := u64_small hcl.1 (by omega)
    have ewcl := wrap_u64 _ cU
    have S1 := rnum_s (P0.kind) hkU
    obtain ⟨a1, ha1⟩ : ∃ t, t = mkB (numL (P0.kind).toNat) := ⟨_, rfl⟩
    rw [← ha1] at S1
    have za1 : a1.size ≤ 9 := by rw [ha1, mk_size]; exact nB_len hkU
    have S2 := rnum_s (P0.epoch) hu.epoch
    obtain ⟨a2, ha2⟩ : ∃ t, t = mkB (numL (P0.epoch).toNat) := ⟨_, rfl⟩
    rw [← ha2] at S2
    have za2 : a2.size ≤ 9 := by rw [ha2, mk_size]; exact nB_len hu.epoch
    have S3 := rnum_s (P0.op.client) cU
    obtain ⟨a3, ha3⟩ : ∃ t, t = mkB (numL (P0.op.client).toNat) := ⟨_, rfl⟩
    rw [← ha3] at S3
    have za3 : a3.size ≤ 9 := by rw [ha3, mk_size]; exact nB_len cU
    have S4 := rnum_s (P0.op.req) hu.req
    obtain ⟨a4, ha4⟩ : ∃ t, t = mkB (numL (P0.op.req).toNat) := ⟨_, rfl⟩
    rw [← ha4] at S4
    have za4 : a4.size ≤ 9 := by rw [ha4, mk_size]; exact nB_len hu.req
    refine wp_skip ?_
    refine wp_seq ?_
    apply drawn_okB hB (by kernel_rfl) T10_ok [1, 4] [1] [(3, .r fun _ => .str a1), (6, .r fun _ => .str a2)] hF rfl
    case hex => intro A X; conv => lhs; cbv
    case hD => kernel_rfl
    case hlen => rfl
    case hob =>
      intro X
      subst hB
      simp only [AllOb, Ob.holds, BE.den, List.mem_cons, List.not_mem_nil, or_false, forall_eq_or_imp, forall_eq] <;> (and_intros <;> first | trivial | (intro h; trivial) | exact enters24 | exact S2 | exact ⟨enters24, S2⟩ | (intro h; exact ⟨enters24, S2⟩) | exact enters24 | (show Spec _ _ [.int .u64 (IntKind.u64.wrap P0.kind)] _; rw [ewk]; exact S1) | (show ByteArray.size _ + ByteArray.size _ ≤ maxLen; simp only [std, ByteArray.size_append, maxLen]; omega) | rfl)
    case hQ =>
    intro X3 a0 w1 hF
    refine wp_seq ?_
    apply region_okB hB T10_ok [1, 4, 5] [1, 5] [] hF
    case hex => intro A X; conv => lhs; cbv
    case hob =>
      intro X
      subst hB
      simp [AllOb, Ob.holds, BE.den, std, stdCmp, stdArith] <;> omega
    case hQ =>
    intro X4 a0 w1 hF
    refine wp_seq ?_
    apply drawn_okB hB (by kernel_rfl) T10_ok [1, 4, 5, 6] [1, 5] [(3, .r fun _ => .str a3), (6, .r fun _ => .str a4)] hF rfl
    case hex => intro A X; conv => lhs; cbv
    case hD => kernel_rfl
    case hlen => rfl
    case hob =>
      intro X
      subst hB
      simp only [AllOb, Ob.holds, BE.den, List.mem_cons, List.not_mem_nil, or_false, forall_eq_or_imp, forall_eq] <;> (and_intros <;> first | trivial | (intro h; trivial) | exact enters24 | exact S4 | exact ⟨enters24, S4⟩ | (intro h; exact ⟨enters24, S4⟩) | exact enters24 | (show Spec _ _ [.int .u64 (IntKind.u64.wrap P0.op.client)] _; rw [ewcl]; exact S3) | (show ByteArray.size _ + ByteArray.size _ ≤ maxLen; simp only [std, ByteArray.size_append, maxLen]; omega) | rfl)
    case hQ =>
    intro X5 a0 w1 hF
    refine wp_seq ?_
    refine wp_seq ?_
    apply region_okB hB T10_ok [1, 4, 5, 6, 33] [1, 5] [] hF
    case hex => intro A X; conv => lhs; cbv
    case hob =>
      intro X
      subst hB
      simp [AllOb, Ob.holds, BE.den, std, stdCmp, stdArith] <;> omega
    case hQ =>
    intro X6 a0 w1 hF
    refine wp_block ?_
    refine wp_seq ?_
    apply region_okB hB T10_ok [34, 1, 4, 5, 6, 33] [1, 5] [] hF
    case hex => intro A X; conv => lhs; cbv
    case hob =>
      intro X
      subst hB
      simp [AllOb, Ob.holds, BE.den, std, stdCmp, stdArith] <;> omega
    case hQ =>
    intro X7 a0 w1 hF
    refine test_ok hF rfl (fun hb hF => ?_) (fun hb hF => ?_)
    · skip
      have hk1 : P0.kind = 1 := by subst hB; simp only [std, stdCmp, stdScmp, BE.den, tolB, emptyB, Int.ofNat_eq_natCast, Int.toNat_natCast] at hb; clear hF hargs hm; grind
      obtain ⟨⟨i1, i2, i3, i4, i5, _, _⟩, _⟩ := isP_one hqt hk1
      have oU : U64 P0.op.kind := u64_small (by omega) (by omega)
      have ewo := wrap_u64 _ oU
      have S5 := rplace_s P0.key hk
      rw [← hK1] at S5
      obtain ⟨a5, ha5⟩ : ∃ t, t = mkB P0.key := ⟨_, rfl⟩
      rw [← ha5] at S5
      have za5 : a5.size ≤ 20 := by rw [ha5, mk_size]; omega
      have S6 := rnum_s (P0.op.kind) oU
      obtain ⟨a6, ha6⟩ : ∃ t, t = mkB (numL (P0.op.kind).toNat) := ⟨_, rfl⟩
      rw [← ha6] at S6
      have za6 : a6.size ≤ 9 := by rw [ha6, mk_size]; exact nB_len oU
      have S7 := rnum_s (P0.op.version) hu.over
      obtain ⟨a7, ha7⟩ : ∃ t, t = mkB (numL (P0.op.version).toNat) := ⟨_, rfl⟩
      rw [← ha7] at S7
      have za7 : a7.size ≤ 9 := by rw [ha7, mk_size]; exact nB_len hu.over
      have S8 := rtext_s P0.op.val (by omega)
      obtain ⟨a8, ha8⟩ : ∃ t, t = mkB (textL (unB P0.op.val)) := ⟨_, rfl⟩
      rw [← ha8] at S8
      have za8 : a8.size ≤ 5000 := by rw [ha8, mk_size]; have := textL_len (s := P0.op.val) (by omega); omega
      have hfin : mkB (putP P0) = a1 ++ a2 ++ a5 ++ (a3 ++ a4) ++ a6 ++ a7 ++ a8 := by
        simp only [putP, bodyB, hk1, if_true, whoB]
        rw [ha1, ha2, ha3, ha4, ha5, ha6, ha7, ha8, ← hk1]
        apply un_inj; simp [un_append, un_mk, nB, List.append_assoc, hk1]
      refine wp_seq ?_
      apply drawn_okB hB (by kernel_rfl) T10_ok [2, 3] [] [(3, .r fun _ => .str a5), (10, .r fun _ => .str a6), (14, .r fun _ => .str a7), (18, .r fun _ => .str a8)] hF rfl
      case hex => intro A X; conv => lhs; cbv
      case hD => kernel_rfl
      case hlen => rfl
      case hob =>
        intro X
        subst hB
        simp only [AllOb, Ob.holds, BE.den, List.mem_cons, List.not_mem_nil, or_false, forall_eq_or_imp, forall_eq] <;> (and_intros <;> first | trivial | (intro h; trivial) | exact enters25 | exact S5 | exact ⟨enters25, S5⟩ | (intro h; exact ⟨enters25, S5⟩) | exact enters24 | exact S7 | exact ⟨enters24, S7⟩ | (intro h; exact ⟨enters24, S7⟩) | exact enters26 | exact S8 | exact ⟨enters26, S8⟩ | (intro h; exact ⟨enters26, S8⟩) | exact enters24 | (show Spec _ _ [.int .u64 (IntKind.u64.wrap P0.op.kind)] _; rw [ewo]; exact S6) | (show ByteArray.size _ + ByteArray.size _ ≤ maxLen; simp only [std, ByteArray.size_append, maxLen]; omega) | rfl)
      case hQ =>
      intro X8 a0 w1 hF
      refine wp_ret ?_
      refine ret_spec (fn := Tryd.f10) T10_ok hF (rs := [.tmp 2, .tmp 3]) rfl (rfl) ?_ noAtom ?_
      · subst hB; simp [AllOb, Ob.holds]
      · subst hB; rw [hr, hfin]; rfl
    · skip
      have hk1 : ¬ P0.kind = 1 := by subst hB; simp only [std, stdCmp, stdScmp, BE.den, tolB, emptyB, Int.ofNat_eq_natCast, Int.toNat_natCast] at hb; clear hF hargs hm; grind
      refine wp_seq ?_
      apply region_okB hB T10_ok [56, 1, 4, 6, 33] [1] [] hF
      case hex => intro A X; conv => lhs; cbv
      case hob =>
        intro X
        subst hB
        simp [AllOb, Ob.holds, BE.den, std, stdCmp, stdArith] <;> omega
      case hQ =>
      intro X9 a0 w1 hF
      refine test_ok hF rfl (fun hb hF => ?_) (fun hb hF => ?_)
      · skip
        have hk2 : P0.kind = 2 := by subst hB; simp only [std, stdCmp, stdScmp, BE.den, tolB, emptyB, Int.ofNat_eq_natCast, Int.toNat_natCast] at hb; clear hF hargs hm; grind
        obtain ⟨_, _, i1, i2, ⟨i3, i4, _⟩, _⟩ := isP_two hqt hk2
        have aU : U64 P0.ans.code := u64_small (by omega) (by omega)
        have ewa := wrap_u64 _ aU
        have S5 := rnum_s (P0.ans.code) aU
        obtain ⟨a5, ha5⟩ : ∃ t, t = mkB (numL (P0.ans.code).toNat) := ⟨_, rfl⟩
        rw [← ha5] at S5
        have za5 : a5.size ≤ 9 := by rw [ha5, mk_size]; exact nB_len aU
        have S6 := rnum_s (P0.ans.version) hu.aver
        obtain ⟨a6, ha6⟩ : ∃ t, t = mkB (numL (P0.ans.version).toNat) := ⟨_, rfl⟩
        rw [← ha6] at S6
        have za6 : a6.size ≤ 9 := by rw [ha6, mk_size]; exact nB_len hu.aver
        have S7 := rflag_s P0.ans.has
        obtain ⟨a7, ha7⟩ : ∃ t, t = mkB (flagB P0.ans.has) := ⟨_, rfl⟩
        rw [← ha7] at S7
        have za7 : a7.size ≤ 9 := by rw [ha7, mk_size]; exact flagB_len _
        have S8 := rtext_s P0.ans.val (by omega)
        obtain ⟨a8, ha8⟩ : ∃ t, t = mkB (textL (unB P0.ans.val)) := ⟨_, rfl⟩
        rw [← ha8] at S8
        have za8 : a8.size ≤ 5000 := by rw [ha8, mk_size]; have := textL_len (s := P0.ans.val) (by omega); omega
        have hfin : mkB (putP P0) = a1 ++ a2 ++ (a3 ++ a4) ++ a5 ++ a6 ++ a7 ++ a8 := by
          simp only [putP, bodyB, hk2, whoB, ansB]
          rw [ha1, ha2, ha3, ha4, ha5, ha6, ha7, ha8]
          apply un_inj; simp [un_append, un_mk, nB, List.append_assoc, hk2]
        refine wp_seq ?_
        apply region_okB hB T10_ok [4, 6, 7] [7] [] hF
        case hex => intro A X; conv => lhs; cbv
        case hob =>
          intro X
          subst hB
          simp [AllOb, Ob.holds, BE.den, std, stdCmp, stdArith] <;> omega
        case hQ =>
        intro X10 a0 w1 hF
        refine wp_seq ?_
        apply drawn_okB hB (by kernel_rfl) T10_ok [2, 3] [] [(6, .r fun _ => .str a5), (10, .r fun _ => .str a6), (14, .r fun _ => .str a7), (18, .r fun _ => .str a8)] hF rfl
        case hex => intro A X; conv => lhs; cbv
        case hD => kernel_rfl
        case hlen => rfl
        case hob =>
          intro X
          subst hB
          simp only [AllOb, Ob.holds, BE.den, List.mem_cons, List.not_mem_nil, or_false, forall_eq_or_imp, forall_eq] <;> (and_intros <;> first | trivial | (intro h; trivial) | exact enters24 | exact S6 | exact ⟨enters24, S6⟩ | (intro h; exact ⟨enters24, S6⟩) | exact enters27 | exact S7 | exact ⟨enters27, S7⟩ | (intro h; exact ⟨enters27, S7⟩) | exact enters26 | exact S8 | exact ⟨enters26, S8⟩ | (intro h; exact ⟨enters26, S8⟩) | exact enters24 | (show Spec _ _ [.int .u64 (IntKind.u64.wrap P0.ans.code)] _; rw [ewa]; exact S5) | (show ByteArray.size _ + ByteArray.size _ ≤ maxLen; simp only [std, ByteArray.size_append, maxLen]; omega) | rfl)
        case hQ =>
        intro X11 a0 w1 hF
        refine wp_ret ?_
        refine ret_spec (fn := Tryd.f10) T10_ok hF (rs := [.tmp 2, .tmp 3]) rfl (rfl) ?_ noAtom ?_
        · subst hB; simp [AllOb, Ob.holds]
        · subst hB; rw [hr, hfin]; rfl
      · skip
        have hk2 : ¬ P0.kind = 2 := by subst hB; simp only [std, stdCmp, stdScmp, BE.den, tolB, emptyB, Int.ofNat_eq_natCast, Int.toNat_natCast] at hb; clear hF hargs hm; grind
        refine wp_seq ?_
        apply region_okB hB T10_ok [80, 1, 4] [1] [] hF
        case hex => intro A X; conv => lhs; cbv
        case hob =>
          intro X
          subst hB
          simp [AllOb, Ob.holds, BE.den, std, stdCmp, stdArith] <;> omega
        case hQ =>
        intro X12 a0 w1 hF
        refine test_ok hF rfl (fun hb hF => ?_) (fun hb hF => ?_)
        · skip
          have hk4 : P0.kind = 4 := by subst hB; simp only [std, stdCmp, stdScmp, BE.den, tolB, emptyB, Int.ofNat_eq_natCast, Int.toNat_natCast] at hb; clear hF hargs hm; grind
          have S5 := rnum_s (P0.serial) hu.serial
          obtain ⟨a5, ha5⟩ : ∃ t, t = mkB (numL (P0.serial).toNat) := ⟨_, rfl⟩
          rw [← ha5] at S5
          have za5 : a5.size ≤ 9 := by rw [ha5, mk_size]; exact nB_len hu.serial
          have hfin : mkB (putP P0) = a1 ++ a2 ++ a5 := by
            simp only [putP, bodyB, hk4]
            rw [ha1, ha2, ha5]
            apply un_inj; simp [un_append, un_mk, nB, List.append_assoc, hk4]
          refine wp_seq ?_
          apply region_okB hB T10_ok [2, 3] [] [(3, .r fun _ => .str a5)] hF
          case hex => intro A X; conv => lhs; cbv
          case hob =>
            intro X
            subst hB
            simp only [AllOb, Ob.holds, BE.den, List.mem_cons, List.not_mem_nil, or_false, forall_eq_or_imp, forall_eq] <;> (and_intros <;> first | trivial | (intro h; trivial) | exact enters24 | exact S5 | exact ⟨enters24, S5⟩ | (intro h; exact ⟨enters24, S5⟩) | (show ByteArray.size _ + ByteArray.size _ ≤ maxLen; simp only [std, ByteArray.size_append, maxLen]; omega) | rfl)
          case hQ =>
          intro X13 a0 w1 hF
          refine wp_ret ?_
          refine ret_spec (fn := Tryd.f10) T10_ok hF (rs := [.tmp 2, .tmp 3]) rfl (rfl) ?_ noAtom ?_
          · subst hB; simp [AllOb, Ob.holds]
          · subst hB; rw [hr, hfin]; rfl
        · skip
          have hk4 : ¬ P0.kind = 4 := by subst hB; simp only [std, stdCmp, stdScmp, BE.den, tolB, emptyB, Int.ofNat_eq_natCast, Int.toNat_natCast] at hb; clear hF hargs hm; grind
          have hk3 : P0.kind = 3 := by rcases isP_kind hqt with h | h | h | h <;> first | exact h | contradiction
          obtain ⟨_, _, i1⟩ := isP_three hqt hk3
          obtain ⟨hcv, hcs, hcl2, hcm⟩ := okC_of hu.cver hu.marks (by omega) i1
          have nU : U64 (n1 : Int) := ⟨by omega, by omega⟩
          have ewn := wrap_u64 _ nU
          have S5 := rplace_s P0.key hk
          rw [← hK1] at S5
          obtain ⟨a5, ha5⟩ : ∃ t, t = mkB P0.key := ⟨_, rfl⟩
          rw [← ha5] at S5
          have za5 : a5.size ≤ 20 := by rw [ha5, mk_size]; omega
          have S6 := rnum_s (P0.serial) hu.serial
          obtain ⟨a6, ha6⟩ : ∃ t, t = mkB (numL (P0.serial).toNat) := ⟨_, rfl⟩
          rw [← ha6] at S6
          have za6 : a6.size ≤ 9 := by rw [ha6, mk_size]; exact nB_len hu.serial
          have S7 := rnum_s (P0.cell.version) hcv
          obtain ⟨a7, ha7⟩ : ∃ t, t = mkB (numL (P0.cell.version).toNat) := ⟨_, rfl⟩
          rw [← ha7] at S7
          have za7 : a7.size ≤ 9 := by rw [ha7, mk_size]; exact nB_len hcv
          have S8 := rflag_s P0.cell.has
          obtain ⟨a8, ha8⟩ : ∃ t, t = mkB (flagB P0.cell.has) := ⟨_, rfl⟩
          rw [← ha8] at S8
          have za8 : a8.size ≤ 9 := by rw [ha8, mk_size]; exact flagB_len _
          have S9 := rtext_s P0.cell.val hcs
          obtain ⟨a9, ha9⟩ : ∃ t, t = mkB (textL (unB P0.cell.val)) := ⟨_, rfl⟩
          rw [← ha9] at S9
          have za9 : a9.size ≤ 5000 := by rw [ha9, mk_size]; have := textL_len (s := P0.cell.val) hcs; omega
          have Sa := rnum_s ((n1 : Int)) nU
          obtain ⟨aa, haa⟩ : ∃ t, t = mkB (numL ((n1 : Int)).toNat) := ⟨_, rfl⟩
          rw [← haa] at Sa
          have zaa : aa.size ≤ 9 := by rw [haa, mk_size]; exact nB_len nU
          obtain ⟨t0, ht0⟩ : ∃ t, t = a1 ++ a2 ++ a5 ++ a6 ++ a7 ++ a8 ++ a9 ++ aa := ⟨_, rfl⟩
          have zt0 : t0.size ≤ 10000 := by rw [ht0]; simp only [ByteArray.size_append]; omega
          have hfin : mkB (putP P0) = t0 ++ mkB (P0.cell.marks.flatMap markB) := by
            simp only [putP, bodyB, hk3, cellB]
            rw [ht0, ha1, ha2, ha5, ha6, ha7, ha8, ha9, haa, hn1]
            apply un_inj; simp [un_append, un_mk, nB, List.append_assoc, hk3]
          refine wp_skip ?_
          refine wp_seq ?_
          apply region_okB hB T10_ok [1, 4, 8] [1, 8] [] hF
          case hex => intro A X; conv => lhs; cbv
          case hob =>
            intro X
            subst hB
            simp [AllOb, Ob.holds, BE.den, std, stdCmp, stdArith] <;> omega
          case hQ =>
          intro X14 a0 w1 hF
          refine wp_seq ?_
          apply drawn_okB hB (by kernel_rfl) T10_ok [4, 8] [8] [(3, .r fun _ => .str a5), (7, .r fun _ => .str a6), (11, .r fun _ => .str a7), (15, .r fun _ => .str a8), (19, .r fun _ => .str a9), (25, .r fun _ => .str aa)] hF rfl
          case hex => intro A X; conv => lhs; cbv
          case hD => kernel_rfl
          case hlen => rfl
          case hob =>
            intro X
            subst hB
            simp only [AllOb, Ob.holds, BE.den, List.mem_cons, List.not_mem_nil, or_false, forall_eq_or_imp, forall_eq] <;> (and_intros <;> first | trivial | (intro h; trivial) | exact enters25 | exact S5 | exact ⟨enters25, S5⟩ | (intro h; exact ⟨enters25, S5⟩) | exact enters24 | exact S6 | exact ⟨enters24, S6⟩ | (intro h; exact ⟨enters24, S6⟩) | exact enters24 | exact S7 | exact ⟨enters24, S7⟩ | (intro h; exact ⟨enters24, S7⟩) | exact enters27 | exact S8 | exact ⟨enters27, S8⟩ | (intro h; exact ⟨enters27, S8⟩) | exact enters26 | exact S9 | exact ⟨enters26, S9⟩ | (intro h; exact ⟨enters26, S9⟩) | exact enters24 | (show Spec _ _ [.int .u64 (IntKind.u64.wrap (n1 : Int))] _; rw [ewn]; exact Sa) | (show ByteArray.size _ + ByteArray.size _ ≤ maxLen; simp only [std, ByteArray.size_append, maxLen]; omega) | rfl)
          case hQ =>
          intro X15 a0 w1 hF
          replace hF := hF.head (v' := .str t0) (by subst hB; rw [ht0]; rfl)
          refine wp_seq ?_
          refine wp_seq ?_
          apply region_okB hB T10_ok [4, 9, 8] [8] [] hF
          case hex => intro A X; conv => lhs; cbv
          case hob =>
            intro X
            subst hB
            simp [AllOb, Ob.holds, BE.den, std, stdCmp, stdArith] <;> omega
          case hQ =>
          intro X16 a0 w1 hF
          refine wp_block ?_
          refine loop_pre (ι := Nat × ByteArray) (fun p => [(4, .str p.2), (9, .int .i64 (p.1 : Int))]) (fun p => []) (fun p => []) (fun p => p.1 ≤ n1 ∧ p.2 = t0 ++ mkB ((P0.cell.marks.take p.1).flatMap markB)) (fun p => n1 - p.1) (0, t0) ⟨Nat.zero_le _, by apply un_inj; rw [un_append, un_mk]; simp⟩ hF ?_
          rintro ⟨i, o⟩ ⟨hi, ho⟩ a0 w1 hF
          try dsimp only at hi
          try dsimp only at ho
          refine wp_seq ?_
          refine wp_seq ?_
          apply region_okB hB T10_ok [120, 4, 8, 9] [8] [] hF
          case hex => intro A X; conv => lhs; cbv
          case hob =>
            intro X
            subst hB
            simp [AllOb, Ob.holds, BE.den, std, stdCmp, stdArith] <;> omega
          case hQ =>
          intro X17 a0 w1 hF
          refine test_ok hF rfl (fun hb hF => ?_) (fun hb hF => ?_)
          · skip
            have hin : i < n1 := by
              have : (i : Int) < (n1 : Int) := by subst hB; simpa [std, stdCmp] using hb
              omega
            have hin2 : i < P0.cell.marks.length := by omega
            have hfi : P0.cell.marks[i] = f1 i := by rw [hf1]; simp [List.getD, hin2]
            have hok := hcm _ (List.getElem_mem hin2)
            rw [hfi] at hok
            obtain ⟨g1, g2, g3, g4⟩ := hok
            have ew1 := wrap_u64 _ g1
            have ew3 := wrap_u64 _ g3
            have hsz : o.size ≤ 350000000 := by
              have h1 := marksB_len (l := P0.cell.marks.take i) fun x hx => hcm x (List.mem_of_mem_take hx)
              rw [List.length_take] at h1
              rw [ho, ← un_size, un_append, un_mk, List.length_append, un_size]; omega
            have U1 := rnum_s ((f1 i).client) g1
            obtain ⟨b1, hb1⟩ : ∃ t, t = mkB (numL ((f1 i).client).toNat) := ⟨_, rfl⟩
            rw [← hb1] at U1
            have zb1 : b1.size ≤ 9 := by rw [hb1, mk_size]; exact nB_len g1
            have U2 := rnum_s ((f1 i).req) g2
            obtain ⟨b2, hb2⟩ : ∃ t, t = mkB (numL ((f1 i).req).toNat) := ⟨_, rfl⟩
            rw [← hb2] at U2
            have zb2 : b2.size ≤ 9 := by rw [hb2, mk_size]; exact nB_len g2
            have U3 := rnum_s ((f1 i).ans.code) g3
            obtain ⟨b3, hb3⟩ : ∃ t, t = mkB (numL ((f1 i).ans.code).toNat) := ⟨_, rfl⟩
            rw [← hb3] at U3
            have zb3 : b3.size ≤ 9 := by rw [hb3, mk_size]; exact nB_len g3
            have U4 := rnum_s ((f1 i).ans.version) g4
            obtain ⟨b4, hb4⟩ : ∃ t, t = mkB (numL ((f1 i).ans.version).toNat) := ⟨_, rfl⟩
            rw [← hb4] at U4
            have zb4 : b4.size ≤ 9 := by rw [hb4, mk_size]; exact nB_len g4
            have U5 := rflag_s (f1 i).ans.has
            obtain ⟨b5, hb5⟩ : ∃ t, t = mkB (flagB (f1 i).ans.has) := ⟨_, rfl⟩
            rw [← hb5] at U5
            have zb5 : b5.size ≤ 9 := by rw [hb5, mk_size]; exact flagB_len _
            refine wp_skip ?_
            refine wp_seq ?_
            refine wp_block ?_
            refine wp_seq ?_
            apply region_okB hB T10_ok [4, 8, 9, 10] [8, 10] [] hF
            case hex => intro A X; conv => lhs; cbv
            case hob =>
              intro X
              subst hB; exact ⟨rfl, ⟨show (0 : Int) ≤ (i : Int) by omega, show (i : Int) < (n1 : Int) by omega⟩, rfl, trivial⟩
            case hQ =>
            intro X19 a0 w1 hF
            apply drawn_okB hB (by kernel_rfl) T10_ok [4, 8, 9] [8] [(4, .r fun _ => .str b1), (8, .r fun _ => .str b2), (14, .r fun _ => .str b3), (19, .r fun _ => .str b4), (24, .r fun _ => .str b5)] hF rfl
            case hex => intro A X; conv => lhs; cbv
            case hD => kernel_rfl
            case hlen => rfl
            case hob =>
              intro X
              subst hB
              simp only [AllOb, Ob.holds, BE.den, List.mem_cons, List.not_mem_nil, or_false, forall_eq_or_imp, forall_eq] <;> (and_intros <;> first | trivial | (intro h; trivial) | exact enters24 | exact U2 | exact ⟨enters24, U2⟩ | (intro h; exact ⟨enters24, U2⟩) | exact enters24 | exact U4 | exact ⟨enters24, U4⟩ | (intro h; exact ⟨enters24, U4⟩) | exact enters27 | exact U5 | exact ⟨enters27, U5⟩ | (intro h; exact ⟨enters27, U5⟩) | exact enters24 | (show Spec _ _ [.int .u64 (IntKind.u64.wrap (f1 i).client)] _; rw [ew1]; exact U1) | exact enters24 | (show Spec _ _ [.int .u64 (IntKind.u64.wrap (f1 i).ans.code)] _; rw [ew3]; exact U3) | (show ByteArray.size _ + ByteArray.size _ ≤ maxLen; simp only [std, ByteArray.size_append, maxLen]; omega) | rfl)
            case hQ =>
            intro X20 a0 w1 hF
            apply region_okB hB T10_ok [4, 9, 8] [8] [] hF
            case hex => intro A X; conv => lhs; cbv
            case hob =>
              intro X
              subst hB
              simp [AllOb, Ob.holds, BE.den, std, stdCmp, stdArith] <;> omega
            case hQ =>
            intro X18 a0 w1 hF
            have e : B.arith .add .i64 (i : Int) 1 = ((i + 1 : Nat) : Int) := by subst hB; exact wrap_succ (n := n1) hin (by omega)
            refine ⟨(i + 1, B.cat (B.cat (B.cat (B.cat (B.cat o b1) b2) b3) b4) b5), ⟨by simp only; omega, ?_⟩, by simp only; omega, by rw [← e]; exact hF⟩
            subst hB
            show o ++ b1 ++ b2 ++ b3 ++ b4 ++ b5 = _
            rw [List.take_succ_eq_append_getElem hin2, hfi, ho, hb1, hb2, hb3, hb4, hb5]
            apply un_inj; simp [un_append, un_mk, nB, markB, ansB, List.append_assoc]
          · skip
            have hout : i = n1 := by
              have : ¬ (i : Int) < (n1 : Int) := by subst hB; simpa [std, stdCmp] using hb
              omega
            rw [hout, hn1, List.take_length] at ho
            refine wp_exit ?_
            refine wp_seq ?_
            apply region_okB hB T10_ok [2, 3] [] [] hF
            case hex => intro A X; conv => lhs; cbv
            case hob =>
              intro X
              subst hB
              simp [AllOb, Ob.holds, BE.den, std, stdCmp, stdArith] <;> omega
            case hQ =>
            intro X21 a0 w1 hF
            refine wp_ret ?_
            refine ret_spec (fn := Tryd.f10) T10_ok hF (rs := [.tmp 2, .tmp 3]) rfl (rfl) ?_ noAtom ?_
            · subst hB; simp [AllOb, Ob.holds]
            · subst hB; rw [hr, hfin, ← ho]; rfl
end Go.Proofs.YtkamdppnnhjajaaDoor.Sym

namespace Go.Proofs.YtkamdppnnhjajaaDoor.Sym
open Go Go.RowKit
set_option maxRecDepth 100000
set_option maxHeartbeats 1600000
set_option linter.unusedVariables false
set_option linter.unusedSimpArgs false
def T3 : List (Nat × TI) := [(4, ti4), (9, ti9), (24, ti24), (26, ti26), (27, ti27), (29, ti29), (32, ti32), (34, ti34)]
theorem T3_ok : TabOK Tryd.prog T3 := .cons t4 (.cons t9 (.cons t24 (.cons t26 (.cons t27 (.cons t29 (.cons t32 (.cons t34 (.nil))))))))
theorem enters3 : Enters Tryd.prog 3 := fun _ _ => by kernel_rfl
theorem lawPuts_s (A : Option Addr) (k : Nat) (p : Par) (hu : ParU p) : Spec Tryd.prog 3 [parAV A k p] (fun _ => .bool .tt) := by
  intro m w hm hargs
  have hk := hu.key
  have SB := bigP_s A k p
  have SK := packed_s
  have hm1 := ok_agg (hargs (parAV A k p) (by simp)) (marksAV A k p.cell.marks) (by simp [parC])
  obtain ⟨hl1, hc1⟩ := ok_len hm1
  obtain ⟨n1, f1, ho1, hn1, hf1⟩ := marks_open p.cell.marks
  obtain ⟨K1, hK1⟩ : ∃ K, K = kI p.key := ⟨_, rfl⟩
  have e1 : parAV A k p = .agg (parC K1 (rowM none A n1 k f1) p) := by simp only [parAV, ho1, hK1]
  have ec1 : celAV A k p.cell = .agg [.int .u64 p.cell.version, .bool (.v p.cell.has), .str p.cell.val, rowM none A n1 k f1] := by simp only [celAV, celC, ho1]
  obtain ⟨bg, hbg⟩ : ∃ b, b = bigP p := ⟨_, rfl⟩
  rw [← hbg, e1] at SB
  rw [e1] at hargs ⊢
  obtain ⟨q, hq⟩ : ∃ q, q = isP p := ⟨_, rfl⟩
  obtain ⟨ps, hps⟩ : ∃ q, q = (putR p).1 := ⟨_, rfl⟩
  obtain ⟨pe, hpe⟩ : ∃ q, q = (putR p).2 := ⟨_, rfl⟩
  refine enter hm hargs Tryd.func3 rfl (by simp [Tryd.ntmps3]) fun a0 hF => ?_
  simp only [Tryd.ntmps3, startT] at hF
  obtain ⟨B, hB⟩ : ∃ B, B = std := ⟨_, rfl⟩
  refine wp_seq ?_
  apply region_okB hB T3_ok [1] [1] [] hF
  case hex => intro A X; conv => lhs; cbv
  case hob =>
    intro X
    subst hB
    simp [AllOb, Ob.holds, BE.den, std, stdCmp, stdArith] <;> omega
  case hQ =>
  intro X0 a0 w1 hF
  refine wp_seq ?_
  refine wp_seq ?_
  apply region_okB hB T3_ok [8, 1] [1] [(1, .r fun _ => .bool (.v bg))] hF
  case hex => intro A X; conv => lhs; cbv
  case hob =>
    intro X
    subst hB
    simp only [AllOb, Ob.holds, BE.den, List.mem_cons, List.not_mem_nil, or_false, forall_eq_or_imp, forall_eq] <;> (and_intros <;> first | trivial | (intro h; trivial) | exact enters8 | exact SB | exact ⟨enters8, SB⟩ | (intro h; exact ⟨enters8, SB⟩) | rfl | (intro h; rfl))
  case hQ =>
  intro X1 a0 w1 hF
  refine test_ok hF rfl (fun hb hF => ?_) (fun hb hF => ?_)
  · skip
    refine wp_seq ?_
    apply region_okB hB T3_ok [2] [] [] hF
    case hex => intro A X; conv => lhs; cbv
    case hob =>
      intro X
      subst hB
      simp [AllOb, Ob.holds, BE.den, std, stdCmp, stdArith] <;> omega
    case hQ =>
    intro X2 a0 w1 hF
    refine wp_ret ?_
    refine ret_spec (fn := Tryd.f3) T3_ok hF (rs := [.tmp 2]) rfl (rfl) ?_ noAtom ?_
    · subst hB; simp [AllOb, Ob.holds]
    · rfl
  · skip
    have hbf : bigP p = false := by rw [← hbg]; subst hB; exact hb
    have hml : p.cell.marks.length ≤ 80 := big_le (by
      unfold bigP at hbf
      simp only [Bool.or_eq_false_iff] at hbf
      exact hbf.1.1)
    have SP := put_s A k p hu (by omega)
    rw [e1, ← hps, ← hpe] at SP
    have SQ := rput_s A k p hu (by omega)
    rw [e1, ← hps, ← hpe] at SQ
    have SI := isP_s A k p hk (by omega)
    rw [e1, ← hq] at SI
    have SJ := risP_s A k p hk (by omega)
    rw [e1, ← hq] at SJ
    refine wp_skip ?_
    refine wp_seq ?_
    apply region_okB hB T3_ok [1, 3, 4] [1] [(1, .r fun _ => .tup [.str ps, .int .i64 pe])] hF
    case hex => intro A X; conv => lhs; cbv
    case hob =>
      intro X
      subst hB
      simp only [AllOb, Ob.holds, BE.den, List.mem_cons, List.not_mem_nil, or_false, forall_eq_or_imp, forall_eq] <;> (and_intros <;> first | trivial | (intro h; trivial) | exact enters9 | exact SP | exact ⟨enters9, SP⟩ | (intro h; exact ⟨enters9, SP⟩) | rfl | (intro h; rfl))
    case hQ =>
    intro X3 a0 w1 hF
    refine wp_seq ?_
    apply region_okB hB T3_ok [1, 3, 4, 5, 6] [1] [(1, .r fun _ => .tup [.str ps, .int .i64 pe])] hF
    case hex => intro A X; conv => lhs; cbv
    case hob =>
      intro X
      subst hB
      simp only [AllOb, Ob.holds, BE.den, List.mem_cons, List.not_mem_nil, or_false, forall_eq_or_imp, forall_eq] <;> (and_intros <;> first | trivial | (intro h; trivial) | exact enters10 | exact SQ | exact ⟨enters10, SQ⟩ | (intro h; exact ⟨enters10, SQ⟩) | rfl | (intro h; rfl))
    case hQ =>
    intro X4 a0 w1 hF
    refine wp_seq ?_
    apply drawn_okB hB (by kernel_rfl) T3_ok [2] [] [(0, .r fun _ => .bool .tt), (3, .r fun _ => .bool (.v q)), (5, .r fun _ => .bool (.v q))] hF rfl
    case hex => intro A X; conv => lhs; cbv
    case hD => kernel_rfl
    case hlen => rfl
    case hob =>
      intro X
      subst hB
      simp only [AllOb, Ob.holds, BE.den, List.mem_cons, List.not_mem_nil, or_false, forall_eq_or_imp, forall_eq] <;> (and_intros <;> first | trivial | (intro h; trivial) | exact enters11 | exact SK | exact ⟨enters11, SK⟩ | (intro h; exact ⟨enters11, SK⟩) | exact enters12 | exact SI | exact ⟨enters12, SI⟩ | (intro h; exact ⟨enters12, SI⟩) | exact enters13 | exact SJ | exact ⟨enters13, SJ⟩ | (intro h; exact ⟨enters13, SJ⟩) | rfl | (intro h; rfl))
    case hQ =>
    intro X5 a0 w1 hF
    refine wp_ret ?_
    refine ret_sim (fn := Tryd.f3) T3_ok hF (rs := [.tmp 2]) rfl (rfl) ?_ noAtom ?_
    · simp [AllOb, Ob.holds]
    · subst hB
      exact Sim.bool (by simp [BE.den, std, stdCmp, stdScmp]; rfl)
end Go.Proofs.YtkamdppnnhjajaaDoor.Sym

namespace Go.Proofs.YtkamdppnnhjajaaDoor
open Go Go.RowKit
set_option linter.unusedVariables false

theorem walkParcelPuts (W : World) (v0 : Value) (i0 : Sym.InPar W v0) (hg : Sym.Glob W) : Calls Tryd.prog 3 #[v0] W fun e w' => e = .returned (.bool true) ∧ Below W.heap.size W w' := by
  obtain ⟨A, k, p, rfl, h0, hu⟩ := i0
  refine (Sym.lawPuts_s A k p hu (fun _ _ => False) W (fun _ _ h => h.elim) (fun v hv => ?_)).mono ?_
  · simp only [List.mem_cons, List.not_mem_nil, or_false] at hv
    subst hv
    exact h0
  · rintro e w' ⟨x, rfl, _, hb⟩
    exact ⟨rfl, hb⟩
end Go.Proofs.YtkamdppnnhjajaaDoor
