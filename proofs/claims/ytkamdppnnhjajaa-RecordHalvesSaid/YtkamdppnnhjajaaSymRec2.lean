/-
  must, need and records put (printed by a program of mine). Conditions: none.
-/
import Derived.Test.YtkamdppnnhjajaaSymRec1
import Derived.Test.YtkamdppnnhjajaaSymCau
namespace Go.Proofs.Ytkamdppnnhjajaa.Sym
open Go Go.RowKit
set_option maxRecDepth 100000
set_option linter.unusedVariables false
set_option linter.unusedSimpArgs false
theorem okAt_val {f : Nat → Itm} {i : Nat} (h : okAt f i = true) : (f i).val.size ≤ 64 := by
  unfold okAt at h
  simp only [Bool.and_eq_true, decide_eq_true_eq] at h
  exact h.1
theorem isRF_kind {kd : Int} {n : Nat} {f : Nat → Itm} {nx : Lab} {mk : Int} (h : isRF kd n f nx mk = true) : 1 ≤ kd ∧ kd ≤ 5 ∧ n ≤ 16 ∧ (nx = noneL ∨ isL nx = true) ∧ okF f n = true := by
  rw [isRF_ref] at h
  simp only [Bool.and_eq_true, Bool.not_eq_true', Bool.or_eq_false_iff, decide_eq_false_iff_not] at h
  obtain ⟨⟨⟨⟨⟨h1, h2⟩, h3⟩, h4⟩, _⟩, h5⟩ := h
  refine ⟨by omega, by omega, by omega, ?_, h5⟩
  by_cases hd : nx = noneL
  · exact .inl hd
  · right
    cases hl : isL nx with
    | true => rfl
    | false => simp [hd, hl] at h4
def putS (kd : Int) (n : Nat) (f : Nat → Itm) (nx : Lab) (mk : Int) : ByteArray := if isRF kd n f nx mk then mkB (putF kd n f nx mk) else ⟨#[]⟩
def putE (kd : Int) (n : Nat) (f : Nat → Itm) (nx : Lab) (mk : Int) : Int := if isRF kd n f nx mk then 0 else 1
section
variable {kd : Int} {n : Nat} {f : Nat → Itm} {nx : Lab} {mk : Int}
theorem putS_no (h : isRF kd n f nx mk = false) : putS kd n f nx mk = ⟨#[]⟩ := by simp [putS, h]
theorem putE_no (h : isRF kd n f nx mk = false) : putE kd n f nx mk = 1 := by simp [putE, h]
theorem putS_yes (h : isRF kd n f nx mk = true) : putS kd n f nx mk = mkB (putF kd n f nx mk) := by simp [putS, h]
theorem putE_yes (h : isRF kd n f nx mk = true) : putE kd n f nx mk = 0 := by simp [putE, h]
end
theorem enters32 : Enters Try.prog 32 := fun _ _ => by kernel_rfl
def T47 : List (Nat × TI) := [(29, ti29)]
theorem T47_ok : TabOK Try.prog T47 := .cons t29 (.nil)
theorem enters47 : Enters Try.prog 47 := fun _ _ => by kernel_rfl
theorem need_s (b : Bool) (e : Int) : SpecO Try.prog 47 [.bool (.v b), .int .i64 e] [] (fun _ => if b then .ret ⟨.tup [], [], []⟩ else .thr (.iface 29 (.int .i64 e)) []) := by
  intro m w hm hargs hpre
  refine enterX hm hpre hargs Try.func47 rfl (by simp [Try.ntmps47]) fun a0 hF => ?_
  simp only [Try.ntmps47, startT] at hF
  obtain ⟨B, hB⟩ : ∃ B, B = std := ⟨_, rfl⟩
  refine wp_seq ?_
  apply region_okB hB T47_ok [5, 1] [] [] hF
  case hex => intro A X; conv => lhs; cbv
  case hob =>
    intro X
    subst hB
    simp [AllOb, Ob.holds, BE.den, std, stdCmp, stdArith] <;> omega
  case hQ =>
  intro X0 a0 w1 hF
  refine test_ok hF rfl (fun hb hF => ?_) (fun hb hF => ?_)
  · skip
    have hbf : b = false := by subst hB; cases b <;> first | rfl | (simp [std] at hb)
    refine wp_region_lit ?_
    apply list_preB 0 2 hB T47_ok [7] [] [] hF
    case hex => intro A X; conv => lhs; cbv
    case hob =>
      intro X
      subst hB
      simp [AllOb, Ob.holds, BE.den, std, stdCmp, stdArith] <;> omega
    case hQ =>
    intro X1_0 a0 w1 hF
    refine man_panic rfl rfl rfl hF rfl ?_
    exact thr_out (P := Try.prog) (fn := Try.f47) hF noAtom (sets := []) (by rw [hbf]; rfl) trivial
  · skip
    have hbt : b = true := by subst hB; cases b <;> first | rfl | (simp [std] at hb)
    refine wp_skip ?_
    refine (ret_out (fn := Try.f47) T47_ok hF (rs := []) rfl (rfl) ?_ noAtom (by rw [hbt]; rfl) [] ?_ ?_ ?_).2
    · subst hB; simp [AllOb, Ob.holds]
    · subst hB; exact Sim.refl _
    · subst hB; first | exact trivial | exact ⟨rfl, ⟨_, rfl, SimL.refl _⟩, trivial⟩
    · exact trivial
theorem need_ok (b : BE) (e : Int) (h : b.den = true) : Spec Try.prog 47 [.bool b, .int .i64 e] (fun _ => .tup []) :=
  (((need_s true e).x (res := fun _ => ⟨.tup [], [], []⟩) (fun _ => rfl)).pure (fun _ => rfl)).sim ⟨Sim.bool h, Sim.refl _, trivial⟩
theorem need_no (b : BE) (e : Int) (h : b.den = false) : SpecO Try.prog 47 [.bool b, .int .i64 e] [] (fun _ => .thr (.iface 29 (.int .i64 e)) []) :=
  (need_s false e).re ⟨Sim.bool h, Sim.refl _, trivial⟩ rfl (fun _ => ⟨rfl, rfl, rfl⟩)
def T34 : List (Nat × TI) := [(4, ti4), (9, ti9), (29, ti29)]
theorem T34_ok : TabOK Try.prog T34 := .cons t4 (.cons t9 (.cons t29 (.nil)))
theorem enters34 : Enters Try.prog 34 := fun _ _ => by kernel_rfl
theorem must_str (v : ByteArray) : Spec Try.prog 34 [.str v, .int .i64 0] (fun _ => .str v) := by
  intro m w hm hargs
  refine enter hm hargs Try.func34 rfl (by simp [Try.ntmps34]) fun a0 hF => ?_
  simp only [Try.ntmps34, startT] at hF
  obtain ⟨B, hB⟩ : ∃ B, B = std := ⟨_, rfl⟩
  refine wp_seq ?_
  apply region_okB hB T34_ok [0, 1] [] [] hF
  case hex => intro A X; conv => lhs; cbv
  case hob =>
    intro X
    subst hB
    simp [AllOb, Ob.holds, BE.den, std, stdCmp, stdArith] <;> omega
  case hQ =>
  intro X0 a0 w1 hF
  refine wp_seq ?_
  apply region_okB hB T34_ok [0] [] [(3, .r fun _ => .tup [])] hF
  case hex => intro A X; conv => lhs; cbv
  case hob =>
    intro X
    subst hB; exact ⟨⟨enters47, need_ok _ _ rfl⟩, trivial⟩
  case hQ =>
  intro X1 a0 w1 hF
  refine wp_seq ?_
  apply region_okB hB T34_ok [4] [] [] hF
  case hex => intro A X; conv => lhs; cbv
  case hob =>
    intro X
    subst hB
    simp [AllOb, Ob.holds, BE.den, std, stdCmp, stdArith] <;> omega
  case hQ =>
  intro X2 a0 w1 hF
  refine wp_ret ?_
  refine ret_spec (fn := Try.f34) T34_ok hF (rs := [.tmp 4]) rfl (rfl) ?_ noAtom ?_
  · subst hB; simp [AllOb, Ob.holds]
  · subst hB; rfl
theorem mustno_str (v : ByteArray) (e : Int) (he : e ≠ 0) : SpecO Try.prog 34 [.str v, .int .i64 e] [] (fun _ => .thr (.iface 29 (.int .i64 e)) []) := by
  intro m w hm hargs hpre
  refine enterX hm hpre hargs Try.func34 rfl (by simp [Try.ntmps34]) fun a0 hF => ?_
  simp only [Try.ntmps34, startT] at hF
  obtain ⟨B, hB⟩ : ∃ B, B = std := ⟨_, rfl⟩
  refine wp_seq ?_
  apply region_okB hB T34_ok [0, 1] [] [] hF
  case hex => intro A X; conv => lhs; cbv
  case hob =>
    intro X
    subst hB
    simp [AllOb, Ob.holds, BE.den, std, stdCmp, stdArith] <;> omega
  case hQ =>
  intro X0 a0 w1 hF
  refine wp_seq ?_
  refine wp_region_lit ?_
  apply list_preB 0 3 hB T34_ok [6, 7] [] [] hF
  case hex => intro A X; conv => lhs; cbv
  case hob =>
    intro X
    subst hB
    simp [AllOb, Ob.holds, BE.den, std, stdCmp, stdArith] <;> omega
  case hQ =>
  intro X1_0 a0 w1 hF
  refine man_out rfl rfl rfl rfl hF rfl rfl enters47 (need_no (.v (B.cmp .eql e 0)) e (by subst hB; simpa [BE.den, std, stdCmp] using he)) (SimL.refl _) (by intro e he; cases he) rfl rfl ?_
  intro x w' hF
  exact thr_out (P := Try.prog) (fn := Try.f34) hF noAtom rfl trivial
def T45 : List (Nat × TI) := [(4, ti4), (23, ti23), (29, ti29)]
theorem T45_ok : TabOK Try.prog T45 := .cons t4 (.cons t23 (.cons t29 (.nil)))
theorem enters45 : Enters Try.prog 45 := fun _ _ => by kernel_rfl
theorem must_u64 (v : Int) : Spec Try.prog 45 [.int .u64 v, .int .i64 0] (fun _ => .int .u64 v) := by
  intro m w hm hargs
  refine enter hm hargs Try.func45 rfl (by simp [Try.ntmps45]) fun a0 hF => ?_
  simp only [Try.ntmps45, startT] at hF
  obtain ⟨B, hB⟩ : ∃ B, B = std := ⟨_, rfl⟩
  refine wp_seq ?_
  apply region_okB hB T45_ok [0, 1] [] [] hF
  case hex => intro A X; conv => lhs; cbv
  case hob =>
    intro X
    subst hB
    simp [AllOb, Ob.holds, BE.den, std, stdCmp, stdArith] <;> omega
  case hQ =>
  intro X0 a0 w1 hF
  refine wp_seq ?_
  apply region_okB hB T45_ok [0] [] [(3, .r fun _ => .tup [])] hF
  case hex => intro A X; conv => lhs; cbv
  case hob =>
    intro X
    subst hB; exact ⟨⟨enters47, need_ok _ _ rfl⟩, trivial⟩
  case hQ =>
  intro X1 a0 w1 hF
  refine wp_seq ?_
  apply region_okB hB T45_ok [4] [] [] hF
  case hex => intro A X; conv => lhs; cbv
  case hob =>
    intro X
    subst hB
    simp [AllOb, Ob.holds, BE.den, std, stdCmp, stdArith] <;> omega
  case hQ =>
  intro X2 a0 w1 hF
  refine wp_ret ?_
  refine ret_spec (fn := Try.f45) T45_ok hF (rs := [.tmp 4]) rfl (rfl) ?_ noAtom ?_
  · subst hB; simp [AllOb, Ob.holds]
  · subst hB; rfl
theorem mustno_u64 (v : Int) (e : Int) (he : e ≠ 0) : SpecO Try.prog 45 [.int .u64 v, .int .i64 e] [] (fun _ => .thr (.iface 29 (.int .i64 e)) []) := by
  intro m w hm hargs hpre
  refine enterX hm hpre hargs Try.func45 rfl (by simp [Try.ntmps45]) fun a0 hF => ?_
  simp only [Try.ntmps45, startT] at hF
  obtain ⟨B, hB⟩ : ∃ B, B = std := ⟨_, rfl⟩
  refine wp_seq ?_
  apply region_okB hB T45_ok [0, 1] [] [] hF
  case hex => intro A X; conv => lhs; cbv
  case hob =>
    intro X
    subst hB
    simp [AllOb, Ob.holds, BE.den, std, stdCmp, stdArith] <;> omega
  case hQ =>
  intro X0 a0 w1 hF
  refine wp_seq ?_
  refine wp_region_lit ?_
  apply list_preB 0 3 hB T45_ok [6, 7] [] [] hF
  case hex => intro A X; conv => lhs; cbv
  case hob =>
    intro X
    subst hB
    simp [AllOb, Ob.holds, BE.den, std, stdCmp, stdArith] <;> omega
  case hQ =>
  intro X1_0 a0 w1 hF
  refine man_out rfl rfl rfl rfl hF rfl rfl enters47 (need_no (.v (B.cmp .eql e 0)) e (by subst hB; simpa [BE.den, std, stdCmp] using he)) (SimL.refl _) (by intro e he; cases he) rfl rfl ?_
  intro x w' hF
  exact thr_out (P := Try.prog) (fn := Try.f45) hF noAtom rfl trivial
def T77 : List (Nat × TI) := [(4, ti4), (25, ti25), (29, ti29)]
theorem T77_ok : TabOK Try.prog T77 := .cons t4 (.cons t25 (.cons t29 (.nil)))
theorem enters77 : Enters Try.prog 77 := fun _ _ => by kernel_rfl
theorem must_lab (v : Lab) : Spec Try.prog 77 [.agg [.int .i64 v.len, .int .u64 v.bits], .int .i64 0] (fun _ => .agg [.int .i64 v.len, .int .u64 v.bits]) := by
  intro m w hm hargs
  refine enter hm hargs Try.func77 rfl (by simp [Try.ntmps77]) fun a0 hF => ?_
  simp only [Try.ntmps77, startT] at hF
  obtain ⟨B, hB⟩ : ∃ B, B = std := ⟨_, rfl⟩
  refine wp_seq ?_
  apply region_okB hB T77_ok [1, 2, 4] [2, 4] [] hF
  case hex => intro A X; conv => lhs; cbv
  case hob =>
    intro X
    subst hB; exact trivial
  case hQ =>
  intro X0 a0 w1 hF
  refine wp_seq ?_
  apply region_okB hB T77_ok [2, 4] [2, 4] [(3, .r fun _ => .tup [])] hF
  case hex => intro A X; conv => lhs; cbv
  case hob =>
    intro X
    subst hB; exact ⟨⟨enters47, need_ok _ _ rfl⟩, trivial⟩
  case hQ =>
  intro X1 a0 w1 hF
  refine wp_seq ?_
  apply region_okB hB T77_ok [4] [4] [] hF
  case hex => intro A X; conv => lhs; cbv
  case hob =>
    intro X
    subst hB; exact ⟨rfl, rfl, trivial⟩
  case hQ =>
  intro X2 a0 w1 hF
  refine wp_ret ?_
  refine ret_spec (fn := Try.f77) T77_ok hF (rs := [.cell 4 25]) rfl (by conv => lhs; cbv) ?_ noAtom ?_
  · subst hB; simp [AllOb, Ob.holds]
  · subst hB; rfl
theorem mustno_lab (v : Lab) (e : Int) (he : e ≠ 0) : SpecO Try.prog 77 [.agg [.int .i64 v.len, .int .u64 v.bits], .int .i64 e] [] (fun _ => .thr (.iface 29 (.int .i64 e)) []) := by
  intro m w hm hargs hpre
  refine enterX hm hpre hargs Try.func77 rfl (by simp [Try.ntmps77]) fun a0 hF => ?_
  simp only [Try.ntmps77, startT] at hF
  obtain ⟨B, hB⟩ : ∃ B, B = std := ⟨_, rfl⟩
  refine wp_seq ?_
  apply region_okB hB T77_ok [1, 2, 4] [2, 4] [] hF
  case hex => intro A X; conv => lhs; cbv
  case hob =>
    intro X
    subst hB
    simp [AllOb, Ob.holds, BE.den, std, stdCmp, stdArith] <;> omega
  case hQ =>
  intro X0 a0 w1 hF
  refine wp_seq ?_
  refine wp_region_lit ?_
  apply list_preB 0 3 hB T77_ok [6, 7] [] [] hF
  case hex => intro A X; conv => lhs; cbv
  case hob =>
    intro X
    subst hB
    simp [AllOb, Ob.holds, BE.den, std, stdCmp, stdArith] <;> omega
  case hQ =>
  intro X1_0 a0 w1 hF
  refine man_out rfl rfl rfl rfl hF rfl rfl enters47 (need_no (.v (B.cmp .eql e 0)) e (by subst hB; simpa [BE.den, std, stdCmp] using he)) (SimL.refl _) (by intro e he; cases he) rfl rfl ?_
  intro x w' hF
  exact thr_out (P := Try.prog) (fn := Try.f77) hF noAtom rfl trivial
def T10 : List (Nat × TI) := [(3, ti3), (4, ti4), (9, ti9), (22, ti22), (23, ti23), (25, ti25), (27, ti27), (29, ti29), (53, ti53)]
theorem T10_ok : TabOK Try.prog T10 := .cons t3 (.cons t4 (.cons t9 (.cons t22 (.cons t23 (.cons t25 (.cons t27 (.cons t29 (.cons t53 (.nil)))))))))
theorem enters10 : Enters Try.prog 10 := fun _ _ => by kernel_rfl
theorem put_d (A : Option Addr) (n c : Nat) (f : Nat → Itm) (hn : n ≤ maxLen) (kd : Int) (nx : Lab) (mk : Int) (hv : U64 nx.bits) (hmk : U64 mk) (hk : ∀ i, i < n → U64 (f i).key) : SpecO Try.prog 10 [recI A n c f kd nx mk] [] (fun _ => .ret ⟨.tup [.str (putS kd n f nx mk), .int .i64 (putE kd n f nx mk)], [], []⟩) := by
  intro m w hm hargs hpre
  have SI := isR_s A n c f hn kd nx mk hv
  have SN := none_s
  simp only [labAV] at SN
  have hnx := eqL_lab nx noneL
  have hmx : maxLen = 9223372036854775807 := rfl
  generalize hir : isRF kd n f nx mk = ir at SI
  refine enterD hm hpre hargs Try.func10 rfl (by simp [Try.ntmps10]) fun a0 hF => ?_
  simp only [Try.ntmps10, startT] at hF
  obtain ⟨B, hB⟩ : ∃ B, B = std := ⟨_, rfl⟩
  refine wp_seq ?_
  apply region_okB hB T10_ok [1, 3] [1, 3] [] hF
  case hex => intro A X; conv => lhs; cbv
  case hob =>
    intro X
    subst hB
    simp [AllOb, Ob.holds, BE.den, std, stdCmp, stdArith] <;> omega
  case hQ =>
  intro X0 a0 w1 hF
  refine wp_seq ?_
  refine wp_seq ?_
  apply region_okB hB T10_ok [8, 1, 3] [1, 3] [(1, .r fun _ => .bool (.v ir))] hF
  case hex => intro A X; conv => lhs; cbv
  case hob =>
    intro X
    subst hB; exact ⟨rfl, ⟨enters15, SI⟩, trivial⟩
  case hQ =>
  intro X1 a0 w1 hF
  refine test_ok hF rfl (fun hb hF => ?_) (fun hb hF => ?_)
  · skip
    have hb2 : B.not ir = true := hb
    have hirf : ir = false := by subst hB; cases ir <;> first | rfl | (simp [std] at hb2)
    rw [hirf] at hir
    refine wp_seq ?_
    apply region_okB hB T10_ok [2, 3] [3] [] hF
    case hex => intro A X; conv => lhs; cbv
    case hob =>
      intro X
      subst hB; exact ⟨rfl, trivial⟩
    case hQ =>
    intro X2 a0 w1 hF
    refine wp_ret ?_
    refine ret_d (fn := Try.f10) T10_ok hF (rs := [.tmp 2, .cell 3 29]) rfl (by conv => lhs; cbv) ?_ noAtom rfl [] ?_ trivial trivial
    · subst hB; simp [AllOb, Ob.holds]
    · subst hB; rw [putS_no hir, putE_no hir]; exact Sim.refl _
  · skip
    have hb2 : B.not ir = false := hb
    have hirt : ir = true := by subst hB; cases ir <;> first | rfl | (simp [std] at hb2)
    rw [hirt] at hir
    obtain ⟨hkd1, hkd5, hn16, hnl, hok⟩ := isRF_kind hir
    have S1 := putNum_s ⟨#[]⟩ kd ⟨by omega, by omega⟩ (by decide)
    have hs1 : (ByteArray.mk #[]) ++ mkB (numL kd.toNat) = mkB (numL kd.toNat) := by apply un_inj; rw [un_append]; rfl
    rw [hs1] at S1
    generalize hs1g : mkB (numL kd.toNat) = s1 at S1
    refine wp_skip ?_
    refine wp_seq ?_
    refine wp_region_lit ?_
    refine man_defer rfl rfl rfl rfl rfl hF rfl rfl ?_
    intro a0 hF
    replace hF : Fits ⟨m, w, ats [], [{ target := .fn (.func 32) (AV.denL []).toArray, args := (AV.denL [.ptr 3 (X0 2).b 0]).toArray }]⟩ _ _ _ := hF
    refine wpList_nil ?_
    refine wp_seq ?_
    apply region_okB hB T10_ok [1, 2, 3] [1, 3] [(3, .r fun _ => .str s1)] hF
    case hex => intro A X; conv => lhs; cbv
    case hob =>
      intro X
      subst hB
      refine ⟨rfl, ⟨enters33, ?_⟩, trivial⟩
      show Spec _ _ [.str ⟨#[]⟩, .int .u64 (IntKind.u64.wrap kd)] _
      rw [wrap_u64 _ ⟨by omega, by omega⟩]; exact S1
    case hQ =>
    intro X4 a0 w1 hF
    refine wp_seq ?_
    refine wp_seq ?_
    apply region_okB hB T10_ok [1, 2, 3, 14] [1, 3] [] hF
    case hex => intro A X; conv => lhs; cbv
    case hob =>
      intro X
      subst hB; exact ⟨rfl, trivial⟩
    case hQ =>
    intro X5 a0 w1 hF
    refine wp_block ?_
    refine wp_seq ?_
    refine wp_seq ?_
    apply region_okB hB T10_ok [15, 1, 2, 3, 14] [1, 3] [] hF
    case hex => intro A X; conv => lhs; cbv
    case hob =>
      intro X
      subst hB
      simp [AllOb, Ob.holds, BE.den, std, stdCmp, stdArith] <;> omega
    case hQ =>
    intro X6 a0 w1 hF
    refine test_keep hF (fun hb hF => ?_) (fun hb hF => ?_)
    · skip
      have hk2 : kd = 2 := by subst hB; simpa [std, stdCmp] using hb
      have hbare : bareK kd = true := by rw [hk2]; rfl
      refine wp_skip ?_
      refine test_tt hF rfl (fun hF => ?_)
      refine wp_seq ?_
      apply region_okB hB T10_ok [2, 3] [3] [] hF
      case hex => intro A X; conv => lhs; cbv
      case hob =>
        intro X
        subst hB; exact ⟨rfl, trivial⟩
      case hQ =>
      intro X8 a0 w1 hF
      refine wp_ret ?_
      refine ret_d1 (fn := Try.f10) (l := [.ptr 3 (X0 2).b 0]) (r0 := []) T10_ok hF enters32 (fun w => caught_idle _ w) (rs := [.tmp 2, .cell 3 29]) rfl (by conv => lhs; cbv) ?_ noAtom rfl [] ?_ trivial trivial
      · subst hB; simp [AllOb, Ob.holds]
      · subst hB; rw [putS_yes hir, putE_yes hir, putF, if_pos hbare, hs1g]; exact Sim.refl _
    · skip
      have hk2 : ¬ kd = 2 := by subst hB; simpa [std, stdCmp] using hb
      apply region_okB hB T10_ok [15, 1, 2, 3] [1, 3] [] hF
      case hex => intro A X; conv => lhs; cbv
      case hob =>
        intro X
        subst hB
        simp [AllOb, Ob.holds, BE.den, std, stdCmp, stdArith] <;> omega
      case hQ =>
      intro X7 a0 w1 hF
      refine test_ok hF rfl (fun hb hF => ?_) (fun hb hF => ?_)
      · skip
        have hk4 : kd = 4 := by subst hB; simpa [std, stdCmp] using hb
        have hbare : bareK kd = true := by rw [hk4]; rfl
        refine wp_seq ?_
        apply region_okB hB T10_ok [2, 3] [3] [] hF
        case hex => intro A X; conv => lhs; cbv
        case hob =>
          intro X
          subst hB; exact ⟨rfl, trivial⟩
        case hQ =>
        intro X8 a0 w1 hF
        refine wp_ret ?_
        refine ret_d1 (fn := Try.f10) (l := [.ptr 3 (X0 2).b 0]) (r0 := []) T10_ok hF enters32 (fun w => caught_idle _ w) (rs := [.tmp 2, .cell 3 29]) rfl (by conv => lhs; cbv) ?_ noAtom rfl [] ?_ trivial trivial
        · subst hB; simp [AllOb, Ob.holds]
        · subst hB; rw [putS_yes hir, putE_yes hir, putF, if_pos hbare, hs1g]; exact Sim.refl _
      · skip
        have hk4 : ¬ kd = 4 := by subst hB; simpa [std, stdCmp] using hb
        have hbare : bareK kd = false := by simp [bareK, hk2, hk4]
        obtain ⟨hok2⟩ : PLift (okF f n = true) := ⟨hok⟩
        have hs1l : s1.size ≤ 10 := by rw [← hs1g, mk_size]; exact num_short _
        have S2 := putNum_s s1 (n : Int) ⟨by omega, by omega⟩ (by omega)
        rw [← hs1g, mk_append, Int.toNat_natCast, hs1g] at S2
        generalize hs2g : mkB (numL kd.toNat ++ numL n) = s2 at S2
        have hs2l : s2.size ≤ 20 := by rw [← hs2g, mk_size, List.length_append]; have := num_short kd.toNat; have := num_short n; omega
        refine wp_skip ?_
        refine wp_seq ?_
        apply region_okB hB T10_ok [1, 2, 3] [1, 3] [(5, .r fun _ => .str s2)] hF
        case hex => intro A X; conv => lhs; cbv
        case hob =>
          intro X
          subst hB
          refine ⟨rfl, ⟨enters33, ?_⟩, trivial⟩
          show Spec _ _ [.str s1, .int .u64 (IntKind.u64.wrap (n : Int))] _
          rw [wrap_u64 _ ⟨by omega, by omega⟩]; exact S2
        case hQ =>
        intro X9 a0 w1 hF
        refine wp_seq ?_
        refine wp_seq ?_
        apply region_okB hB T10_ok [2, 28, 1, 3, 26, 27] [1, 3] [] hF
        case hex => intro A X; conv => lhs; cbv
        case hob =>
          intro X
          subst hB; exact ⟨rfl, trivial⟩
        case hQ =>
        intro X10 a0 w1 hF
        refine wp_block ?_
        refine loop_pre (ι := Nat × ByteArray) (fun p => [(2, .str p.2), (28, .int .i64 (p.1 : Int))]) (fun p => []) (fun p => []) (fun p => p.1 ≤ n ∧ p.2 = mkB (numL kd.toNat ++ numL n ++ itsL f p.1)) (fun p => n - p.1) (0, s2) ⟨Nat.zero_le _, by rw [← hs2g]; simp [itsL]⟩ hF ?_
        rintro ⟨i, o⟩ ⟨hi, ho⟩ a0 w1 hF
        try dsimp only at hi
        try dsimp only at ho
        refine wp_seq ?_
        apply region_okB hB T10_ok [29, 2, 28, 1, 3, 26, 27] [1, 3] [] hF
        case hex => intro A X; conv => lhs; cbv
        case hob =>
          intro X
          subst hB
          simp [AllOb, Ob.holds, BE.den, std, stdCmp, stdArith] <;> omega
        case hQ =>
        intro X11 a0 w1 hF
        refine wp_seq ?_
        refine test_ok hF rfl (fun hb hF => ?_) (fun hb hF => ?_)
        · skip
          have hin : i < n := by
            have : (i : Int) < (n : Int) := by subst hB; simpa [std, stdCmp] using hb
            omega
          have hvl : (f i).val.size ≤ 64 := okAt_val (okF_at hin hok)
          have hol : o.size ≤ 20 + 100 * i := by
            rw [ho, mk_size, List.length_append, List.length_append]
            have := num_short kd.toNat; have := num_short n; have := itsL_short hok i (by omega)
            omega
          have Q1 := putNum_s o (f i).key (hk i hin) (by omega)
          generalize hq1 : o ++ mkB (numL (f i).key.toNat) = q1 at Q1
          have hq1l : q1.size ≤ 1000000000 := by rw [← hq1, ByteArray.size_append, mk_size]; have := num_short (f i).key.toNat; omega
          have Q2 := putText_s q1 (f i).val hq1l (by omega)
          generalize hq2 : q1 ++ mkB (textL (unB (f i).val)) = q2 at Q2
          refine wp_skip ?_
          refine wp_seq ?_
          refine wp_block ?_
          refine wp_seq ?_
          apply region_okB hB T10_ok [2, 28, 5, 1, 3, 26, 27] [1, 3, 5] [] hF
          case hex => intro A X; conv => lhs; cbv
          case hob =>
            intro X
            subst hB; exact ⟨⟨show (0 : Int) ≤ (i : Int) by omega, show (i : Int) < (n : Int) by omega⟩, rfl, trivial⟩
          case hQ =>
          intro X12 a0 w1 hF
          apply drawn_okB hB (by kernel_rfl) T10_ok [2, 28, 1, 3, 26, 27] [1, 3] [(3, .r fun _ => .str q1), (6, .r fun _ => .tup [.str q2, .int .i64 0]), (9, .r fun _ => .str q2)] hF rfl
          case hex => intro A X; conv => lhs; cbv
          case hD => kernel_rfl
          case hlen => rfl
          case hob =>
            intro X
            subst hB
            exact ⟨rfl, ⟨enters33, Q1⟩, rfl, ⟨enters35, Q2⟩, ⟨enters34, must_str _⟩, trivial⟩
          case hQ =>
          intro X13 a0 w1 hF
          apply region_okB hB T10_ok [2, 28, 1, 3, 26, 27] [1, 3] [] hF
          case hex => intro A X; conv => lhs; cbv
          case hob =>
            intro X
            subst hB
            simp [AllOb, Ob.holds, BE.den, std, stdCmp, stdArith] <;> omega
          case hQ =>
          intro X14 a0 w1 hF
          have e : B.arith .add .i64 (i : Int) 1 = ((i + 1 : Nat) : Int) := by subst hB; exact wrap_succ (n := n) hin hn
          refine ⟨(i + 1, q2), ⟨by simp only; omega, ?_⟩, by simp only; omega, by rw [← e]; exact hF⟩
          rw [← hq2, ← hq1, ho]
          apply un_inj
          simp only [un_append, un_mk, itsL_succ, itL, List.append_assoc]
        · skip
          have hout : i = n := by
            have : ¬ (i : Int) < (n : Int) := by subst hB; simpa [std, stdCmp] using hb
            omega
          have hol : o.size ≤ 20 + 100 * 16 := by
            rw [ho, mk_size, List.length_append, List.length_append]
            have := num_short kd.toNat; have := num_short n; have := itsL_short hok i (by omega)
            omega
          refine wp_exit ?_
          refine wp_seq ?_
          refine wp_seq ?_
          apply drawn_okB hB (by kernel_rfl) T10_ok [46, 2, 1, 3] [1, 3] [(2, .r fun _ => .agg [.int .i64 (-1), .int .u64 0])] hF rfl
          case hex => intro A X; conv => lhs; cbv
          case hD => kernel_rfl
          case hlen => rfl
          case hob =>
            intro X
            subst hB
            exact ⟨rfl, ⟨enters36, SN⟩, ob_lab _ _ _ _, trivial⟩
          case hQ =>
          intro X15 a0 w1 hF
          refine cut_one (ι := ByteArray) (S0 := [(46, _), (2, _)]) (M0 := []) (G0 := []) (fun q => [(2, .str q)]) (fun q => []) (fun q => []) (fun q => q = o ++ mkB (nextL nx) ∧ q.size ≤ 1700) hF ?_ ?_
          · skip
            refine test_ok hF rfl (fun hb hF => ?_) (fun hb hF => ?_)
            · skip
              have hd : nx = noneL := by
                have h9 : eqL [.int .i64 nx.len, .int .u64 nx.bits] [.int .i64 (-1), .int .u64 0] = true := by subst hB; exact hb
                exact of_decide_eq_true (hnx.symm.trans h9)
              have S4 := putNum_s o 0 ⟨by decide, by decide⟩ (by omega)
              generalize hs4 : o ++ mkB (numL ((0 : Int)).toNat) = s4 at S4
              have hs4n : s4 = o ++ mkB (nextL nx) := by rw [← hs4, nextL, if_pos hd]; rfl
              have hs4l : s4.size ≤ 1700 := by rw [← hs4, ByteArray.size_append, mk_size]; have := num_short ((0 : Int)).toNat; omega
              apply region_okB hB T10_ok [2, 1, 3] [1, 3] [(1, .r fun _ => .str s4)] hF
              case hex => intro A X; conv => lhs; cbv
              case hob =>
                intro X
                subst hB
                exact ⟨⟨enters33, S4⟩, trivial⟩
              case hQ =>
              intro X16 a0 w1 hF
              exact ⟨_, ⟨hs4n, hs4l⟩, hF⟩
            · skip
              have hd : ¬ nx = noneL := by
                have h9 : eqL [.int .i64 nx.len, .int .u64 nx.bits] [.int .i64 (-1), .int .u64 0] = false := by subst hB; exact hb
                exact of_decide_eq_false (hnx.symm.trans h9)
              have hil : isL nx = true := by rcases hnl with h | h; exact absurd h hd; exact h
              have Q1 := putNum_s o 1 ⟨by decide, by decide⟩ (by omega)
              generalize hq1 : o ++ mkB (numL ((1 : Int)).toNat) = q1 at Q1
              have hq1l : q1.size ≤ 1640 := by rw [← hq1, ByteArray.size_append, mk_size]; have := num_short ((1 : Int)).toNat; omega
              have Q2 := putLab_s q1 nx hv hil (by omega)
              simp only [labAV] at Q2
              generalize hs4 : q1 ++ mkB (labL nx) = s4 at Q2
              have hs4n : s4 = o ++ mkB (nextL nx) := by rw [← hs4, ← hq1, nextL, if_neg hd]; apply un_inj; simp only [un_append, un_mk, List.append_assoc]; rfl
              have hs4l : s4.size ≤ 1700 := by rw [← hs4, ByteArray.size_append, mk_size, labL_len hil]; obtain ⟨h1, h2⟩ := isL_len hil; omega
              apply drawn_okB hB (by kernel_rfl) T10_ok [2, 1, 3] [1, 3] [(1, .r fun _ => .str q1), (4, .r fun _ => .tup [.str s4, .int .i64 0]), (7, .r fun _ => .str s4)] hF rfl
              case hex => intro A X; conv => lhs; cbv
              case hD => kernel_rfl
              case hlen => rfl
              case hob =>
                intro X
                subst hB
                exact ⟨⟨enters33, Q1⟩, rfl, ⟨enters37, Q2⟩, ⟨enters34, must_str _⟩, trivial⟩
              case hQ =>
              intro X17 a0 w1 hF
              exact ⟨_, ⟨hs4n, hs4l⟩, hF⟩
          · rintro s4 ⟨hs4n, hs4l⟩ a0 w1 hF
            try dsimp only at hs4n
            try dsimp only at hs4l
            refine wp_seq ?_
            refine wp_seq ?_
            apply region_okB hB T10_ok [59, 2, 1, 3] [1, 3] [] hF
            case hex => intro A X; conv => lhs; cbv
            case hob =>
              intro X
              subst hB; exact ⟨rfl, trivial⟩
            case hQ =>
            intro X18 a0 w1 hF
            refine cut_one (ι := ByteArray) (S0 := [(59, _), (2, _)]) (M0 := []) (G0 := []) (fun q => [(2, .str q)]) (fun q => []) (fun q => []) (fun q => q = mkB (putF kd n f nx mk)) hF ?_ ?_
            · skip
              refine test_ok hF rfl (fun hb hF => ?_) (fun hb hF => ?_)
              · skip
                have hk5 : kd = 5 := by subst hB; simpa [std, stdCmp] using hb
                have S5 := putNum_s s4 mk hmk (by omega)
                generalize hs5 : s4 ++ mkB (numL mk.toNat) = s5 at S5
                have hs6 : s5 = mkB (putF kd n f nx mk) := by
                  unfold putF
                  rw [if_neg (by rw [hbare]; decide), if_pos hk5]
                  rw [← hs5, hs4n, ho, hout]
                  apply un_inj
                  simp only [un_append, un_mk, List.append_assoc, List.append_nil]
                apply region_okB hB T10_ok [2, 1, 3] [1, 3] [(3, .r fun _ => .str s5)] hF
                case hex => intro A X; conv => lhs; cbv
                case hob =>
                  intro X
                  subst hB
                  exact ⟨rfl, ⟨enters33, S5⟩, trivial⟩
                case hQ =>
                intro X19 a0 w1 hF
                exact ⟨_, hs6, hF⟩
              · skip
                have hk5 : ¬ kd = 5 := by subst hB; simpa [std, stdCmp] using hb
                have hs6 : s4 = mkB (putF kd n f nx mk) := by
                  unfold putF
                  rw [if_neg (by rw [hbare]; decide), if_neg hk5]
                  rw [hs4n, ho, hout]
                  apply un_inj
                  simp only [un_append, un_mk, List.append_assoc, List.append_nil]
                refine wp_skip ?_
                exact ⟨_, hs6, hF⟩
            · rintro s6 hs6 a0 w1 hF
              try dsimp only at hs6
              refine wp_seq ?_
              apply region_okB hB T10_ok [2, 3] [3] [] hF
              case hex => intro A X; conv => lhs; cbv
              case hob =>
                intro X
                subst hB; exact ⟨rfl, trivial⟩
              case hQ =>
              intro X20 a0 w1 hF
              refine wp_ret ?_
              refine ret_d1 (fn := Try.f10) (l := [.ptr 3 (X0 2).b 0]) (r0 := []) T10_ok hF enters32 (fun w => caught_idle _ w) (rs := [.tmp 2, .cell 3 29]) rfl (by conv => lhs; cbv) ?_ noAtom rfl [] ?_ trivial trivial
              · subst hB; simp [AllOb, Ob.holds]
              · subst hB; rw [putS_yes hir, putE_yes hir, ← hs6]; exact Sim.refl _
theorem put_s (A : Option Addr) (n c : Nat) (f : Nat → Itm) (hn : n ≤ maxLen) (kd : Int) (nx : Lab) (mk : Int) (hv : U64 nx.bits) (hmk : U64 mk) (hk : ∀ i, i < n → U64 (f i).key) : Spec Try.prog 10 [recI A n c f kd nx mk] (fun _ => .tup [.str (putS kd n f nx mk), .int .i64 (putE kd n f nx mk)]) :=
  ((put_d A n c f hn kd nx mk hv hmk hk).x (res := fun _ => ⟨.tup [.str (putS kd n f nx mk), .int .i64 (putE kd n f nx mk)], [], []⟩) (fun _ => rfl)).pure (fun _ => rfl)
def T11 : List (Nat × TI) := [(3, ti3), (9, ti9), (22, ti22), (23, ti23), (25, ti25), (27, ti27), (29, ti29), (53, ti53)]
theorem T11_ok : TabOK Try.prog T11 := .cons t3 (.cons t9 (.cons t22 (.cons t23 (.cons t25 (.cons t27 (.cons t29 (.cons t53 (.nil))))))))
theorem enters11 : Enters Try.prog 11 := fun _ _ => by kernel_rfl
theorem rput_s (A : Option Addr) (n c : Nat) (f : Nat → Itm) (hn : n ≤ maxLen) (kd : Int) (nx : Lab) (mk : Int) (hv : U64 nx.bits) (hmk : U64 mk) (hk : ∀ i, i < n → U64 (f i).key) : Spec Try.prog 11 [recI A n c f kd nx mk] (fun _ => .tup [.str (putS kd n f nx mk), .int .i64 (putE kd n f nx mk)]) := by
  intro m w hm hargs
  have SI := risR_s A n c f hn kd nx mk hv
  have SN := rnone_s
  simp only [labAV] at SN
  have hnx := eqL_lab nx noneL
  have SB := bare_s kd
  have hmx : maxLen = 9223372036854775807 := rfl
  generalize hir : isRF kd n f nx mk = ir at SI
  generalize hbk : bareK kd = bk at SB
  refine enter hm hargs Try.func11 rfl (by simp [Try.ntmps11]) fun a0 hF => ?_
  simp only [Try.ntmps11, startT] at hF
  obtain ⟨B, hB⟩ : ∃ B, B = std := ⟨_, rfl⟩
  refine wp_seq ?_
  apply region_okB hB T11_ok [1] [1] [] hF
  case hex => intro A X; conv => lhs; cbv
  case hob =>
    intro X
    subst hB
    simp [AllOb, Ob.holds, BE.den, std, stdCmp, stdArith] <;> omega
  case hQ =>
  intro X0 a0 w1 hF
  refine wp_seq ?_
  refine wp_seq ?_
  apply region_okB hB T11_ok [8, 1] [1] [(1, .r fun _ => .bool (.v ir))] hF
  case hex => intro A X; conv => lhs; cbv
  case hob =>
    intro X
    subst hB; exact ⟨rfl, ⟨enters16, SI⟩, trivial⟩
  case hQ =>
  intro X1 a0 w1 hF
  refine test_ok hF rfl (fun hb hF => ?_) (fun hb hF => ?_)
  · skip
    have hb2 : B.not ir = true := hb
    have hirf : ir = false := by subst hB; cases ir <;> first | rfl | (simp [std] at hb2)
    rw [hirf] at hir
    refine wp_seq ?_
    apply region_okB hB T11_ok [2, 3] [] [] hF
    case hex => intro A X; conv => lhs; cbv
    case hob =>
      intro X
      subst hB
      simp [AllOb, Ob.holds, BE.den, std, stdCmp, stdArith] <;> omega
    case hQ =>
    intro X2 a0 w1 hF
    refine wp_ret ?_
    refine ret_spec (fn := Try.f11) T11_ok hF (rs := [.tmp 2, .tmp 3]) rfl (rfl) ?_ noAtom ?_
    · subst hB; simp [AllOb, Ob.holds]
    · rw [putS_no hir, putE_no hir]; rfl
  · skip
    have hb2 : B.not ir = false := hb
    have hirt : ir = true := by subst hB; cases ir <;> first | rfl | (simp [std] at hb2)
    rw [hirt] at hir
    obtain ⟨hkd1, hkd5, hn16, hnl, hok⟩ := isRF_kind hir
    have S1 := rnum_s kd ⟨by omega, by omega⟩
    generalize hs1g : mkB (numL kd.toNat) = s1 at S1
    have hs1l : s1.size ≤ 10 := by rw [← hs1g, mk_size]; exact num_short _
    refine wp_skip ?_
    refine wp_seq ?_
    apply region_okB hB T11_ok [1, 4] [1] [(3, .r fun _ => .str s1)] hF
    case hex => intro A X; conv => lhs; cbv
    case hob =>
      intro X
      subst hB
      refine ⟨rfl, ⟨enters38, ?_⟩, trivial⟩
      show Spec _ _ [.int .u64 (IntKind.u64.wrap kd)] _
      rw [wrap_u64 _ ⟨by omega, by omega⟩]; exact S1
    case hQ =>
    intro X3 a0 w1 hF
    refine wp_seq ?_
    refine wp_seq ?_
    apply region_okB hB T11_ok [15, 1, 4] [1] [(2, .r fun _ => .bool (.v bk))] hF
    case hex => intro A X; conv => lhs; cbv
    case hob =>
      intro X
      subst hB; exact ⟨rfl, ⟨enters39, SB⟩, trivial⟩
    case hQ =>
    intro X4 a0 w1 hF
    refine test_ok hF rfl (fun hb hF => ?_) (fun hb hF => ?_)
    · skip
      have hbare : bareK kd = true := by rw [hbk]; exact hb
      refine wp_seq ?_
      apply region_okB hB T11_ok [2, 3] [] [] hF
      case hex => intro A X; conv => lhs; cbv
      case hob =>
        intro X
        subst hB
        simp [AllOb, Ob.holds, BE.den, std, stdCmp, stdArith] <;> omega
      case hQ =>
      intro X5 a0 w1 hF
      refine wp_ret ?_
      refine ret_spec (fn := Try.f11) T11_ok hF (rs := [.tmp 2, .tmp 3]) rfl (rfl) ?_ noAtom ?_
      · subst hB; simp [AllOb, Ob.holds]
      · rw [putS_yes hir, putE_yes hir, putF, if_pos hbare, hs1g]; rfl
    · skip
      have hbare : bareK kd = false := by rw [hbk]; exact hb
      have S2 := rnum_s (n : Int) ⟨by omega, by omega⟩
      rw [Int.toNat_natCast] at S2
      generalize hg2 : mkB (numL n) = g2 at S2
      have hg2l : g2.size ≤ 10 := by rw [← hg2, mk_size]; exact num_short _
      refine wp_skip ?_
      refine wp_seq ?_
      apply region_okB hB T11_ok [1, 4] [1] [(5, .r fun _ => .str g2)] hF
      case hex => intro A X; conv => lhs; cbv
      case hob =>
        intro X
        subst hB
        refine ⟨rfl, ⟨enters38, ?_⟩, ?_, trivial⟩
        · show Spec _ _ [.int .u64 (IntKind.u64.wrap (n : Int))] _
          rw [wrap_u64 _ ⟨by omega, by omega⟩]; exact S2
        · show s1.size + g2.size ≤ maxLen
          omega
      case hQ =>
      intro X6 a0 w1 hF
      refine wp_seq ?_
      refine wp_seq ?_
      apply region_okB hB T11_ok [4, 5, 1] [1] [] hF
      case hex => intro A X; conv => lhs; cbv
      case hob =>
        intro X
        subst hB
        simp [AllOb, Ob.holds, BE.den, std, stdCmp, stdArith] <;> omega
      case hQ =>
      intro X7 a0 w1 hF
      refine wp_block ?_
      refine loop_pre (ι := Nat × ByteArray) (fun p => [(4, .str p.2), (5, .int .i64 (p.1 : Int))]) (fun p => []) (fun p => []) (fun p => p.1 ≤ n ∧ p.2 = mkB (numL kd.toNat ++ numL n ++ itsL f p.1)) (fun p => n - p.1) (0, B.cat s1 g2) ⟨Nat.zero_le _, by rw [← hs1g, ← hg2]; subst hB; show mkB _ ++ mkB _ = _; rw [mk_append]; simp [itsL]⟩ hF ?_
      rintro ⟨i, o⟩ ⟨hi, ho⟩ a0 w1 hF
      try dsimp only at hi
      try dsimp only at ho
      refine wp_seq ?_
      refine wp_seq ?_
      apply region_okB hB T11_ok [28, 4, 5, 1] [1] [] hF
      case hex => intro A X; conv => lhs; cbv
      case hob =>
        intro X
        subst hB; exact ⟨rfl, trivial⟩
      case hQ =>
      intro X8 a0 w1 hF
      refine test_ok hF rfl (fun hb hF => ?_) (fun hb hF => ?_)
      · skip
        have hin : i < n := by
          have : (i : Int) < (n : Int) := by subst hB; simpa [std, stdCmp] using hb
          omega
        have hvl : (f i).val.size ≤ 64 := okAt_val (okF_at hin hok)
        have hol : o.size ≤ 20 + 100 * i := by
          rw [ho, mk_size, List.length_append, List.length_append]
          have := num_short kd.toNat; have := num_short n; have := itsL_short hok i (by omega)
          omega
        have Q1 := rnum_s (f i).key (hk i hin)
        generalize hq1 : mkB (numL (f i).key.toNat) = q1 at Q1
        have hq1l : q1.size ≤ 10 := by rw [← hq1, mk_size]; exact num_short _
        have Q2 := rtext_s (f i).val (by omega)
        have hq2l : (mkB (textL (unB (f i).val))).size ≤ 80 := by rw [mk_size, textL, List.length_append, un_size]; have := num_short (f i).val.size; omega
        generalize hq2 : mkB (textL (unB (f i).val)) = q2 at Q2 hq2l
        refine wp_skip ?_
        refine wp_seq ?_
        refine wp_block ?_
        apply drawn_okB hB (by kernel_rfl) T11_ok [4, 5, 1] [1] [(7, .r fun _ => .str q1), (15, .r fun _ => .str q2)] hF rfl
        case hex => intro A X; conv => lhs; cbv
        case hD => kernel_rfl
        case hlen => rfl
        case hob =>
          intro X
          subst hB
          refine ⟨rfl, ⟨show (0 : Int) ≤ (i : Int) by omega, show (i : Int) < (n : Int) by omega⟩, ⟨enters38, Q1⟩, ?_, rfl, ⟨show (0 : Int) ≤ (i : Int) by omega, show (i : Int) < (n : Int) by omega⟩, ⟨enters40, Q2⟩, ?_, trivial⟩
          · show o.size + q1.size ≤ maxLen; omega
          · show (o ++ q1).size + q2.size ≤ maxLen; rw [ByteArray.size_append]; omega
        case hQ =>
        intro X10 a0 w1 hF
        apply region_okB hB T11_ok [4, 5, 1] [1] [] hF
        case hex => intro A X; conv => lhs; cbv
        case hob =>
          intro X
          subst hB
          simp [AllOb, Ob.holds, BE.den, std, stdCmp, stdArith] <;> omega
        case hQ =>
        intro X9 a0 w1 hF
        have e : B.arith .add .i64 (i : Int) 1 = ((i + 1 : Nat) : Int) := by subst hB; exact wrap_succ (n := n) hin hn
        refine ⟨(i + 1, B.cat (B.cat o q1) q2), ⟨by simp only; omega, ?_⟩, by simp only; omega, by rw [← e]; exact hF⟩
        rw [← hq2, ← hq1, ho]
        subst hB
        apply un_inj
        show unB (_ ++ _ ++ _) = _
        simp only [un_append, un_mk, itsL_succ, itL, List.append_assoc]
      · skip
        have hout : i = n := by
          have : ¬ (i : Int) < (n : Int) := by subst hB; simpa [std, stdCmp] using hb
          omega
        have hol : o.size ≤ 20 + 100 * 16 := by
          rw [ho, mk_size, List.length_append, List.length_append]
          have := num_short kd.toNat; have := num_short n; have := itsL_short hok i (by omega)
          omega
        refine wp_exit ?_
        refine wp_seq ?_
        refine wp_seq ?_
        apply drawn_okB hB (by kernel_rfl) T11_ok [51, 4, 1] [1] [(2, .r fun _ => .agg [.int .i64 (-1), .int .u64 0])] hF rfl
        case hex => intro A X; conv => lhs; cbv
        case hD => kernel_rfl
        case hlen => rfl
        case hob =>
          intro X
          subst hB
          exact ⟨rfl, ⟨enters41, SN⟩, ob_lab _ _ _ _, trivial⟩
        case hQ =>
        intro X11 a0 w1 hF
        refine cut_one (ι := ByteArray) (S0 := [(51, _), (4, _)]) (M0 := []) (G0 := []) (fun q => [(4, .str q)]) (fun q => []) (fun q => []) (fun q => q = o ++ mkB (nextL nx) ∧ q.size ≤ 1700) hF ?_ ?_
        · skip
          refine test_ok hF rfl (fun hb hF => ?_) (fun hb hF => ?_)
          · skip
            have hd : nx = noneL := by
              have h9 : eqL [.int .i64 nx.len, .int .u64 nx.bits] [.int .i64 (-1), .int .u64 0] = true := by subst hB; exact hb
              exact of_decide_eq_true (hnx.symm.trans h9)
            have S4 := rnum_s 0 ⟨by decide, by decide⟩
            generalize hg4 : mkB (numL ((0 : Int)).toNat) = g4 at S4
            have hg4l : g4.size ≤ 10 := by rw [← hg4, mk_size]; exact num_short _
            have hs4n : B.cat o g4 = o ++ mkB (nextL nx) := by rw [← hg4, nextL, if_pos hd]; subst hB; rfl
            have hs4l : (B.cat o g4).size ≤ 1700 := by
              have : (o ++ g4).size ≤ 1700 := by rw [ByteArray.size_append]; omega
              subst hB; exact this
            apply region_okB hB T11_ok [4, 1] [1] [(1, .r fun _ => .str g4)] hF
            case hex => intro A X; conv => lhs; cbv
            case hob =>
              intro X
              subst hB
              refine ⟨⟨enters38, S4⟩, ?_, trivial⟩
              show o.size + g4.size ≤ maxLen
              omega
            case hQ =>
            intro X12 a0 w1 hF
            exact ⟨_, ⟨hs4n, hs4l⟩, hF⟩
          · skip
            have hd : ¬ nx = noneL := by
              have h9 : eqL [.int .i64 nx.len, .int .u64 nx.bits] [.int .i64 (-1), .int .u64 0] = false := by subst hB; exact hb
              exact of_decide_eq_false (hnx.symm.trans h9)
            have hil : isL nx = true := by rcases hnl with h | h; exact absurd h hd; exact h
            have S4 := rnum_s 1 ⟨by decide, by decide⟩
            generalize hg4 : mkB (numL ((1 : Int)).toNat) = g4 at S4
            have hg4l : g4.size ≤ 10 := by rw [← hg4, mk_size]; exact num_short _
            have S5 := rlab_s nx hv hil
            simp only [labAV] at S5
            have hg5l : (mkB (labL nx)).size ≤ 20 := by rw [mk_size, labL_len hil]; obtain ⟨h1, h2⟩ := isL_len hil; omega
            generalize hg5 : mkB (labL nx) = g5 at S5 hg5l
            have hs4n : B.cat (B.cat o g4) g5 = o ++ mkB (nextL nx) := by rw [← hg4, ← hg5, nextL, if_neg hd]; subst hB; apply un_inj; show unB (_ ++ _ ++ _) = _; simp only [un_append, un_mk, List.append_assoc]; rfl
            have hs4l : (B.cat (B.cat o g4) g5).size ≤ 1700 := by
              have : (o ++ g4 ++ g5).size ≤ 1700 := by rw [ByteArray.size_append, ByteArray.size_append]; omega
              subst hB; exact this
            apply drawn_okB hB (by kernel_rfl) T11_ok [4, 1] [1] [(1, .r fun _ => .str g4), (5, .r fun _ => .str g5)] hF rfl
            case hex => intro A X; conv => lhs; cbv
            case hD => kernel_rfl
            case hlen => rfl
            case hob =>
              intro X
              subst hB
              refine ⟨⟨enters38, S4⟩, ?_, rfl, ⟨enters42, S5⟩, ?_, trivial⟩
              · show o.size + g4.size ≤ maxLen; omega
              · show (o ++ g4).size + g5.size ≤ maxLen; rw [ByteArray.size_append]; omega
            case hQ =>
            intro X13 a0 w1 hF
            exact ⟨_, ⟨hs4n, hs4l⟩, hF⟩
        · rintro s4 ⟨hs4n, hs4l⟩ a0 w1 hF
          try dsimp only at hs4n
          try dsimp only at hs4l
          refine wp_seq ?_
          refine wp_seq ?_
          apply region_okB hB T11_ok [64, 4, 1] [1] [] hF
          case hex => intro A X; conv => lhs; cbv
          case hob =>
            intro X
            subst hB; exact ⟨rfl, trivial⟩
          case hQ =>
          intro X14 a0 w1 hF
          refine cut_one (ι := ByteArray) (S0 := [(64, _), (4, _)]) (M0 := []) (G0 := []) (fun q => [(4, .str q)]) (fun q => []) (fun q => []) (fun q => q = mkB (putF kd n f nx mk)) hF ?_ ?_
          · skip
            refine test_ok hF rfl (fun hb hF => ?_) (fun hb hF => ?_)
            · skip
              have hk5 : kd = 5 := by subst hB; simpa [std, stdCmp] using hb
              have S6 := rnum_s mk hmk
              generalize hg6 : mkB (numL mk.toNat) = g6 at S6
              have hg6l : g6.size ≤ 10 := by rw [← hg6, mk_size]; exact num_short _
              have hs5 : s4 ++ mkB (numL mk.toNat) = B.cat s4 g6 := by rw [hg6]; subst hB; rfl
              have hs6 : B.cat s4 g6 = mkB (putF kd n f nx mk) := by
                unfold putF
                rw [if_neg (by rw [hbare]; decide), if_pos hk5]
                rw [← hs5, hs4n, ho, hout]
                apply un_inj
                simp only [un_append, un_mk, List.append_assoc, List.append_nil]
              apply region_okB hB T11_ok [4, 1] [1] [(3, .r fun _ => .str g6)] hF
              case hex => intro A X; conv => lhs; cbv
              case hob =>
                intro X
                subst hB
                refine ⟨rfl, ⟨enters38, S6⟩, ?_, trivial⟩
                show s4.size + g6.size ≤ maxLen
                omega
              case hQ =>
              intro X15 a0 w1 hF
              exact ⟨_, hs6, hF⟩
            · skip
              have hk5 : ¬ kd = 5 := by subst hB; simpa [std, stdCmp] using hb
              have hs6 : s4 = mkB (putF kd n f nx mk) := by
                unfold putF
                rw [if_neg (by rw [hbare]; decide), if_neg hk5]
                rw [hs4n, ho, hout]
                apply un_inj
                simp only [un_append, un_mk, List.append_assoc, List.append_nil]
              refine wp_skip ?_
              exact ⟨_, hs6, hF⟩
          · rintro s6 hs6 a0 w1 hF
            try dsimp only at hs6
            refine wp_seq ?_
            apply region_okB hB T11_ok [2, 3] [] [] hF
            case hex => intro A X; conv => lhs; cbv
            case hob =>
              intro X
              subst hB
              simp [AllOb, Ob.holds, BE.den, std, stdCmp, stdArith] <;> omega
            case hQ =>
            intro X16 a0 w1 hF
            refine wp_ret ?_
            refine ret_spec (fn := Try.f11) T11_ok hF (rs := [.tmp 2, .tmp 3]) rfl (rfl) ?_ noAtom ?_
            · subst hB; simp [AllOb, Ob.holds]
            · rw [putS_yes hir, putE_yes hir, ← hs6]; rfl
end Go.Proofs.Ytkamdppnnhjajaa.Sym
