/-
  record.Get (printed by a program of mine). Conditions: none.
-/
import Derived.Test.YtkamdppnnhjajaaSymGet1
namespace Go.Proofs.Ytkamdppnnhjajaa.Sym
open Go Go.RowKit
set_option maxRecDepth 100000
set_option linter.unusedVariables false
set_option linter.unusedSimpArgs false
theorem enters12 : Enters Try.prog 12 := fun _ _ => by kernel_rfl
theorem get_d (s : ByteArray) : SpecO Try.prog 12 [.str s] [] (gOut s) := by
  intro m w hm hargs hpre
  have SN := none_s
  simp only [labAV, noneL] at SN
  refine enterD hm hpre hargs Try.func12 rfl (by simp [Try.ntmps12]) fun a0 hF => ?_
  simp only [Try.ntmps12, startT] at hF
  obtain ⟨B, hB⟩ : ∃ B, B = std := ⟨_, rfl⟩
  refine wp_seq ?_
  apply region_okB hB T12_ok [2, 3, 0] [2, 3] [] hF
  case hex => intro A X; conv => lhs; cbv
  case hob =>
    intro X
    subst hB
    simp [AllOb, Ob.holds, BE.den, std, stdCmp, stdArith] <;> omega
  case hQ =>
  intro X0 a0 w1 hF
  refine wp_seq ?_
  refine wp_region_lit ?_
  apply list_preB 0 1 hB T12_ok [6, 2, 3, 0] [2, 3] [] hF
  case hex => intro A X; conv => lhs; cbv
  case hob =>
    intro X
    subst hB
    simp [AllOb, Ob.holds, BE.den, std, stdCmp, stdArith] <;> omega
  case hQ =>
  intro X1_0 a0 w1 hF
  refine man_defer rfl rfl rfl rfl rfl hF rfl rfl ?_
  intro a0 hF
  replace hF : Fits ⟨m, w, ats [], [dG (X0 0).b (X0 1).b]⟩ _ _ _ := hF
  refine wpList_nil ?_
  refine wp_seq ?_
  refine wp_region_lit ?_
  refine man_defer rfl rfl rfl rfl rfl hF rfl rfl ?_
  intro a0 hF
  replace hF : Fits ⟨m, w, ats [], [dC (X0 1).b, dG (X0 0).b (X0 1).b]⟩ _ _ _ := hF
  refine wpList_nil ?_
  refine wp_seq ?_
  apply region_okB hB T12_ok [4, 2, 3] [2, 3, 5] [(1, .x fun x => ⟨.ptr 5 x.b 0, [], [(5, ⟨x.b, 105, [.str s]⟩)]⟩)] hF
  case hex => intro A X; conv => lhs; cbv
  case hob =>
    intro X
    subst hB; exact ⟨⟨enters44, new_s s⟩, trivial⟩
  case hQ =>
  intro X3 a0 w1 hF
  refine wp_seq ?_
  have S1 := Number_m 5 (X3 1).b s
  have D1 := num_dec s
  generalize numV s = v1 at S1 D1
  generalize numE s = e1 at S1 D1
  generalize numR s = q1 at S1 D1
  by_cases hc1 : e1 ≠ 0
  · refine wp_region_lit ?_
    apply list_preB 0 4 hB T12_ok [11, 12, 2, 3] [2, 3, 5] [(1, .x fun _ => ⟨.tup [.int .u64 v1, .int .i64 e1], [(5, [.str q1])], []⟩)] hF
    case hex => intro A X; conv => lhs; cbv
    case hob =>
      intro X
      subst hB; exact ⟨⟨enters46, S1⟩, trivial⟩
    case hQ =>
    intro X4_t a0 w1 hF
    refine man_out rfl rfl rfl rfl hF rfl rfl enters45 (mustno_u64 v1 e1 hc1) (SimL.refl _) (by intro e he; cases he) rfl rfl ?_
    intro x w' hF
    have hd1 := D1.1 hc1
    exact get_throw (hF.keep [2, 3] [2, 3]) hc1 (by unfold decRec decM; rw [hd1])
  have he1 : e1 = 0 := Decidable.not_not.1 hc1
  subst he1
  obtain ⟨k1, r1, hd1, hv1, hq1, hk1⟩ := D1.2 rfl
  apply region_okB hB T12_ok [5, 4, 2, 3] [2, 3, 5] [(1, .x fun _ => ⟨.tup [.int .u64 v1, .int .i64 0], [(5, [.str q1])], []⟩), (4, .r fun _ => .int .u64 v1)] hF
  case hex => intro A X; conv => lhs; cbv
  case hob =>
    intro X
    subst hB; first | exact ⟨⟨enters46, S1⟩, ⟨enters45, must_u64 _⟩, trivial⟩ | exact ⟨⟨enters46, S1⟩, ⟨enters45, must_u64 _⟩, rfl, trivial⟩
  case hQ =>
  intro X4 a0 w1 hF
  refine wp_seq ?_
  by_cases hc2 : k1 < 1 ∨ 5 < k1
  · refine wp_region_lit ?_
    apply list_preB 0 6 hB T12_ok [19, 2, 3] [2, 3] [] hF
    case hex => intro A X; conv => lhs; cbv
    case hob =>
      intro X
      subst hB; exact trivial
    case hQ =>
    intro X5_t a0 w1 hF
    refine man_out rfl rfl rfl rfl hF rfl rfl enters47 (need_no (.v (B.ite (B.cmp .geq v1 1) (B.cmp .leq v1 5) false)) 3 (by rw [hv1]; subst hB; simp [BE.den, std, stdCmp]; omega)) (SimL.refl _) (by intro e he; cases he) rfl rfl ?_
    intro x w' hF
    exact get_throw (hF.keep [2, 3] [2, 3]) (by decide) (by unfold decRec decM; rw [hd1]; simp only [hc2, if_true])
  apply region_okB hB T12_ok [5, 4, 2, 3] [2, 3, 5] [(6, .r fun _ => .tup [])] hF
  case hex => intro A X; conv => lhs; cbv
  case hob =>
    intro X
    subst hB; exact ⟨⟨enters47, need_ok _ _ (by rw [hv1]; simp [BE.den, std, stdCmp]; omega)⟩, trivial⟩
  case hQ =>
  intro X5 a0 w1 hF
  refine wp_seq ?_
  apply region_okB hB T12_ok [2, 3, 4] [2, 5, 3] [(2, .r fun _ => .agg [.int .i64 (-1), .int .u64 0])] hF
  case hex => intro A X; conv => lhs; cbv
  case hob =>
    intro X
    subst hB; exact ⟨⟨enters36, SN⟩, rfl, trivial⟩
  case hQ =>
  intro X6 a0 w1 hF
  obtain ⟨kd, hkd⟩ : ∃ kd : Int, kd = B.conv .i64 v1 := ⟨_, rfl⟩
  replace hF : Fits ⟨m, w, ats [], [dC (X0 1).b, dG (X0 0).b (X0 1).b]⟩ ⟨53, [(2, .ptr 2 (X0 0).b 0), (3, .ptr 3 (X0 1).b 0), (4, .ptr 5 (X3 1).b 0)], [], [(2, ⟨(X0 0).b, 27, [.int .i64 kd, .sl none none 0 0 2 fun x => [], .int .i64 (-1), .int .u64 0, .int .u64 0]⟩), (5, ⟨(X3 1).b, 105, [.str q1]⟩), (3, ⟨(X0 1).b, 29, [.int .i64 0]⟩)], []⟩ a0 w1 := by rw [hkd]; exact hF
  have hkd2 : kd = (k1 : Int) := by
    rw [hkd]; subst hB; show IntKind.i64.wrap v1 = _; rw [hv1, wrap_in (by omega) (by omega)]
  have hq1u : unB q1 = r1 := by rw [hq1, un_mk]
  refine wp_seq ?_
  refine wp_seq ?_
  apply region_okB hB T12_ok [32, 2, 3, 4] [2, 5, 3] [] hF
  case hex => intro A X; conv => lhs; cbv
  case hob =>
    intro X
    subst hB
    simp [AllOb, Ob.holds, BE.den, std, stdCmp, stdArith] <;> omega
  case hQ =>
  intro X7 a0 w1 hF
  refine cut_one (ι := Option Addr × Nat × Nat × (Nat → List AV) × Int × Int × List Itm × ByteArray) (S0 := [(32, _)]) (M0 := [(2, _), (5, _)]) (G0 := []) (fun p => []) (fun p => [(2, ⟨(X0 0).b, 27, [.int .i64 kd, .sl none p.1 p.2.1 p.2.2.1 2 p.2.2.2.1, .int .i64 p.2.2.2.2.1, .int .u64 p.2.2.2.2.2.1, .int .u64 0]⟩), (5, ⟨(X3 1).b, 105, [.str p.2.2.2.2.2.2.2]⟩)]) (fun p => []) (fun p => p.2.1 = p.2.2.2.2.2.2.1.length ∧ (∀ i, i < p.2.2.2.2.2.2.1.length → p.2.2.2.1 i = itC (itF p.2.2.2.2.2.2.1 i)) ∧ decM (unB s) = decMark k1 p.2.2.2.2.2.2.1 ⟨p.2.2.2.2.1, p.2.2.2.2.2.1⟩ (unB p.2.2.2.2.2.2.2)) hF ?_ ?_
  · skip
    refine test_ok hF rfl (fun hb hF => ?_) (fun hb hF => ?_)
    · skip
      have hbf : ¬ bareK k1 = true := by
        have h9 : (if (!(decide (kd = 2))) = true then !(decide (kd = 4)) else false) = true := by subst hB; exact hb
        rw [hkd2] at h9
        unfold bareK
        intro h
        simp at h h9
        omega
      have hdb : decM (unB s) = decBody k1 (unB q1) := by unfold decM; rw [hd1, hq1u]; simp only [hc2, hbf, if_false]; rfl
      refine wp_seq ?_
      by_cases hc3 : ∃ e, decItems (unB q1) = .error e
      · refine wp_region_lit ?_
        obtain ⟨e2, hd2⟩ := hc3
        apply list_preB 0 1 hB T12_ok [33, 2, 3] [2, 3, 5] [] hF
        case hex => intro A X; conv => lhs; cbv
        case hob =>
          intro X
          subst hB; repeat (first | exact trivial | refine ⟨rfl, ?_⟩)
        case hQ =>
        intro X8_t a0 w1 hF
        refine man_out rfl rfl rfl rfl hF rfl rfl enters48 ((items_o 5 (X3 1).b q1).res (out' := fun x => .thr (.iface 29 (.int .i64 e2)) [(5, [.str (x.s 0)])]) (fun x => by simp only [hd2])) (SimL.refl _) (by intro e he; have := List.mem_singleton.1 he; subst this; rfl) rfl rfl ?_
        intro x w' hF
        exact get_throw (hF.keep [2, 3] [2, 3]) (by rcases decItems_err hd2 with h | h <;> rw [h] <;> decide) (by unfold decRec; rw [hdb]; unfold decBody; rw [hd2])
      obtain ⟨l2, r2, hd2⟩ : ∃ l r, decItems (unB q1) = .ok (l, r) := by
        cases h : decItems (unB q1) with
        | error e => exact absurd ⟨e, h⟩ hc3
        | ok x => exact ⟨x.1, x.2, rfl⟩
      have S2 := (items_o 5 (X3 1).b q1).x (res := fun x => ⟨rowI (x.A 0) l2.length (x.c 0) (itF l2), [(5, [.str (mkB r2)])], []⟩) (fun x => by simp only [hd2])
      simp only [rowI] at S2
      obtain ⟨n2, hn2⟩ : ∃ n, n = l2.length := ⟨_, rfl⟩
      obtain ⟨f2, hf2⟩ : ∃ f, f = itF l2 := ⟨_, rfl⟩
      obtain ⟨q2, hq2⟩ : ∃ q, q = mkB r2 := ⟨_, rfl⟩
      rw [← hn2, ← hf2, ← hq2] at S2
      have hq2u : unB q2 = r2 := by rw [hq2, un_mk]
      apply region_okB hB T12_ok [2, 3, 4] [2, 5, 3] [(1, .x fun x => ⟨.sl none (x.A 0) n2 (x.c 0) 2 (fun i => itC (f2 i)), [(5, [.str q2])], []⟩)] hF
      case hex => intro A X; conv => lhs; cbv
      case hob =>
        intro X
        subst hB; exact ⟨⟨enters48, S2⟩, rfl, trivial⟩
      case hQ =>
      intro X8 a0 w1 hF
      by_cases hc4 : ∃ e, decNext (unB q2) = .error e
      · refine wp_region_lit ?_
        obtain ⟨e3, hd3⟩ := hc4
        apply list_preB 0 1 hB T12_ok [36, 2, 3] [2, 3, 5] [] hF
        case hex => intro A X; conv => lhs; cbv
        case hob =>
          intro X
          subst hB; repeat (first | exact trivial | refine ⟨rfl, ?_⟩)
        case hQ =>
        intro X9_t a0 w1 hF
        refine man_out rfl rfl rfl rfl hF rfl rfl enters49 ((next_o 5 (X3 1).b q2).res (out' := fun x => .thr (.iface 29 (.int .i64 e3)) [(5, [.str (x.s 0)])]) (fun x => by simp only [hd3])) (SimL.refl _) (by intro e he; have := List.mem_singleton.1 he; subst this; rfl) rfl rfl ?_
        intro x w' hF
        exact get_throw (hF.keep [2, 3] [2, 3]) (by rcases decNext_err hd3 with h | h <;> rw [h] <;> decide) (by unfold decRec; rw [hdb]; unfold decBody; rw [hd2]; simp only; rw [← hq2u, hd3])
      obtain ⟨v3, r3, hd3⟩ : ∃ l r, decNext (unB q2) = .ok (l, r) := by
        cases h : decNext (unB q2) with
        | error e => exact absurd ⟨e, h⟩ hc4
        | ok x => exact ⟨x.1, x.2, rfl⟩
      have S3 := (next_o 5 (X3 1).b q2).x (res := fun x => ⟨labAV v3, [(5, [.str (mkB r3)])], []⟩) (fun x => by simp only [hd3])
      simp only [labAV] at S3
      obtain ⟨q3, hq3⟩ : ∃ q, q = mkB r3 := ⟨_, rfl⟩
      rw [← hq3] at S3
      have hq3u : unB q3 = r3 := by rw [hq3, un_mk]
      have hdm : decM (unB s) = decMark k1 l2 v3 r3 := by rw [hdb]; unfold decBody; rw [hd2]; simp only; rw [← hq2u, hd3]
      apply region_okB hB T12_ok [2, 3, 4] [2, 5, 3] [(1, .x fun x => ⟨.agg [.int .i64 v3.len, .int .u64 v3.bits], [(5, [.str q3])], []⟩)] hF
      case hex => intro A X; conv => lhs; cbv
      case hob =>
        intro X
        subst hB; exact ⟨⟨enters49, S3⟩, rfl, trivial⟩
      case hQ =>
      intro X9 a0 w1 hF
      exact ⟨(_, _, _, _, v3.len, v3.bits, l2, q3), ⟨hn2, fun i hi => by rw [← hf2]; rfl, by rw [hdm, ← hq3u]⟩, hF⟩
    · skip
      have hbt : bareK k1 = true := by
        have h9 : (if (!(decide (kd = 2))) = true then !(decide (kd = 4)) else false) = false := by subst hB; exact hb
        rw [hkd2] at h9
        unfold bareK
        simp at h9
        simp
        omega
      have hk5 : ¬ k1 = 5 := by intro h; subst h; exact absurd hbt (by decide)
      have hdm : decM (unB s) = decMark k1 [] noneL (unB q1) := by
        unfold decM decMark; rw [hd1, hq1u]; simp only [hc2, hbt, hk5, if_true, if_false]
      refine wp_skip ?_
      exact ⟨(none, 0, 0, fun x => [], -1, 0, [], q1), ⟨rfl, fun i hi => absurd hi (Nat.not_lt_zero _), hdm⟩, hF⟩
  · rintro ⟨A, n, c, f, ln, bt, l, q⟩ ⟨hn, hf, hdm⟩ a0 w1 hF
    try dsimp only at hn
    try dsimp only at hf
    try dsimp only at hdm
    refine wp_seq ?_
    refine wp_seq ?_
    apply region_okB hB T12_ok [41, 2, 3, 4] [2, 5, 3] [] hF
    case hex => intro A X; conv => lhs; cbv
    case hob =>
      intro X
      subst hB; repeat (first | exact trivial | refine ⟨rfl, ?_⟩)
    case hQ =>
    intro X10 a0 w1 hF
    refine cut_one (ι := Int × ByteArray) (S0 := [(41, _)]) (M0 := [(2, _), (5, _)]) (G0 := []) (fun p => []) (fun p => [(2, ⟨(X0 0).b, 27, [.int .i64 kd, .sl none A n c 2 f, .int .i64 ln, .int .u64 bt, .int .u64 p.1]⟩), (5, ⟨(X3 1).b, 105, [.str p.2]⟩)]) (fun p => []) (fun p => decM (unB s) = .ok (⟨k1, l, ⟨ln, bt⟩, p.1⟩, unB p.2)) hF ?_ ?_
    · skip
      refine test_ok hF rfl (fun hb hF => ?_) (fun hb hF => ?_)
      · skip
        have h5 : k1 = 5 := by
          have : kd = 5 := by subst hB; simpa [std, stdCmp] using hb
          omega
        have S4 := Number_m 5 (X3 1).b q
        have D4 := num_dec q
        generalize numV q = v4 at S4 D4
        generalize numE q = e4 at S4 D4
        generalize numR q = q4 at S4 D4
        by_cases hc4 : e4 ≠ 0
        · refine wp_region_lit ?_
          apply list_preB 0 4 hB T12_ok [44, 45, 2, 3] [2, 3, 5] [(1, .x fun _ => ⟨.tup [.int .u64 v4, .int .i64 e4], [(5, [.str q4])], []⟩)] hF
          case hex => intro A X; conv => lhs; cbv
          case hob =>
            intro X
            subst hB; exact ⟨⟨enters46, S4⟩, trivial⟩
          case hQ =>
          intro X11_t a0 w1 hF
          refine man_out rfl rfl rfl rfl hF rfl rfl enters45 (mustno_u64 v4 e4 hc4) (SimL.refl _) (by intro e he; cases he) rfl rfl ?_
          intro x w' hF
          have hd4 := D4.1 hc4
          exact get_throw (hF.keep [2, 3] [2, 3]) hc4 (by unfold decRec; rw [hdm]; unfold decMark; simp only [h5, if_true]; rw [hd4])
        have he4 : e4 = 0 := Decidable.not_not.1 hc4
        subst he4
        obtain ⟨k4, r4, hd4, hv4, hq4, hk4⟩ := D4.2 rfl
        have hdo : decM (unB s) = .ok (⟨k1, l, ⟨ln, bt⟩, v4⟩, unB q4) := by rw [hdm, hv4, hq4, un_mk]; unfold decMark; simp only [h5, if_true]; rw [hd4]
        apply region_okB hB T12_ok [2, 3, 4] [2, 5, 3] [(1, .x fun _ => ⟨.tup [.int .u64 v4, .int .i64 0], [(5, [.str q4])], []⟩), (4, .r fun _ => .int .u64 v4)] hF
        case hex => intro A X; conv => lhs; cbv
        case hob =>
          intro X
          subst hB; first | exact ⟨⟨enters46, S4⟩, ⟨enters45, must_u64 _⟩, trivial⟩ | exact ⟨⟨enters46, S4⟩, ⟨enters45, must_u64 _⟩, rfl, trivial⟩
        case hQ =>
        intro X11 a0 w1 hF
        exact ⟨(v4, q4), hdo, hF⟩
      · skip
        have h5 : ¬ k1 = 5 := by
          have : ¬ kd = 5 := by subst hB; simpa [std, stdCmp] using hb
          omega
        have hdo : decM (unB s) = .ok (⟨k1, l, ⟨ln, bt⟩, 0⟩, unB q) := by rw [hdm]; unfold decMark; simp only [h5, if_false]
        refine wp_skip ?_
        exact ⟨(0, q), hdo, hF⟩
    · rintro ⟨mk, qe⟩ hdo a0 w1 hF
      try dsimp only at hdo
      refine wp_seq ?_
      have SL := left_m 5 (X3 1).b qe
      obtain ⟨sz, hsz⟩ : ∃ z : Int, z = (qe.size : Int) := ⟨_, rfl⟩
      rw [← hsz] at SL
      by_cases hc5 : sz ≠ 0
      · refine wp_region_lit ?_
        apply list_preB 0 3 hB T12_ok [50, 2, 3] [2, 3] [(1, .x fun _ => ⟨.int .i64 sz, [(5, [.str qe])], []⟩)] hF
        case hex => intro A X; conv => lhs; cbv
        case hob =>
          intro X
          subst hB; exact ⟨⟨enters50, SL⟩, trivial⟩
        case hQ =>
        intro X12_t a0 w1 hF
        refine man_out rfl rfl rfl rfl hF rfl rfl enters47 (need_no (.v (B.cmp .eql sz 0)) 3 (by subst hB; simpa [BE.den, std, stdCmp] using hc5)) (SimL.refl _) (by intro e he; cases he) rfl rfl ?_
        intro x w' hF
        have hne : ¬ unB qe = [] := by
          intro h
          have := un_size qe
          rw [h] at this
          simp at this
          omega
        exact get_throw (hF.keep [2, 3] [2, 3]) (by decide) (by unfold decRec; rw [hdo]; simp only [fin, hne, if_false])
      have hsz0 : sz = 0 := Decidable.not_not.1 hc5
      have hnil : unB qe = [] := List.eq_nil_of_length_eq_zero (by rw [un_size]; omega)
      have hfin : decRec (unB s) = .ok ⟨k1, l, ⟨ln, bt⟩, mk⟩ := by unfold decRec; rw [hdo]; simp only [fin, hnil, if_true]
      rw [← hkd2] at hfin
      apply region_okB hB T12_ok [2, 3] [2, 5, 3] [(1, .x fun _ => ⟨.int .i64 sz, [(5, [.str qe])], []⟩), (3, .r fun _ => .tup [])] hF
      case hex => intro A X; conv => lhs; cbv
      case hob =>
        intro X
        subst hB; exact ⟨⟨enters50, SL⟩, ⟨enters47, need_ok _ _ (by simpa [BE.den, std, stdCmp] using hsz0)⟩, trivial⟩
      case hQ =>
      intro X12 a0 w1 hF
      refine wp_seq ?_
      apply region_okB hB T12_ok [2, 3] [2, 3] [] hF
      case hex => intro A X; conv => lhs; cbv
      case hob =>
        intro X
        subst hB; repeat (first | exact trivial | refine ⟨rfl, ?_⟩)
      case hQ =>
      intro X13 a0 w1 hF
      refine wp_ret ?_
      exact get_ret (hF.keep [2, 3] [2, 3]) hn hf hfin
theorem get_s (s : ByteArray) : Spec Try.prog 12 [.str s] (fun x => .tup [recAV (x.A 0) (x.c 0) (gotR s), .int .i64 (gotE s)]) :=
  ((get_d s).x (res := fun x => ⟨.tup [recAV (x.A 0) (x.c 0) (gotR s), .int .i64 (gotE s)], [], []⟩) (fun _ => rfl)).pure (fun _ => rfl)
end Go.Proofs.Ytkamdppnnhjajaa.Sym
