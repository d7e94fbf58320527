/-
  SymEnd18, SymLCut, WalkParcelCut, ClaimParcelCut: put together by a program of mine (a claim may have 60 files at most). Conditions: none.
-/
import Derived.Test.YtkamdppnnhjajaaDoorRows
import Derived.Test.YtkamdppnnhjajaaDoorCards
import Derived.Test.YtkamdppnnhjajaaDoorTie
import Derived.Test.YtkamdppnnhjajaaDoorMgP1
import Derived.Test.YtkamdppnnhjajaaDoorMgP2
import Derived.Test.YtkamdppnnhjajaaDoorMgP3
import Derived.Test.YtkamdppnnhjajaaDoorMgP4
import Derived.Test.YtkamdppnnhjajaaDoorMgP5
import Derived.Test.YtkamdppnnhjajaaDoorMgP6
namespace Go.Proofs.YtkamdppnnhjajaaDoor.Sym
open Go Go.RowKit
set_option linter.unusedVariables false

theorem preNil {m : Nat → Nat → Prop} {w : World} : PreOk m w [] := ⟨fun e he => (by cases he), fun e he => (by cases he), fun e he => (by cases he), .nil⟩
theorem below_left {m : Nat → Nat → Prop} {w w' : World} (h : Left m w w' [] [] []) : Below w.heap.size w w' :=
  ⟨h.chg.os, h.chg.tape, h.chg.output, h.chg.size, fun k hk => h.chg.block k hk (fun ⟨e, he, _⟩ => by cases he)⟩
end Go.Proofs.YtkamdppnnhjajaaDoor.Sym

namespace Go.Proofs.YtkamdppnnhjajaaDoor.Sym
open Go Go.RowKit
set_option maxRecDepth 100000
set_option maxHeartbeats 1600000
set_option linter.unusedVariables false
set_option linter.unusedSimpArgs false
def T6 : List (Nat × TI) := [(3, ti3), (4, ti4), (9, ti9), (24, ti24), (26, ti26), (27, ti27), (29, ti29), (32, ti32), (34, ti34)]
theorem T6_ok : TabOK Tryd.prog T6 := .cons t3 (.cons t4 (.cons t9 (.cons t24 (.cons t26 (.cons t27 (.cons t29 (.cons t32 (.cons t34 (.nil)))))))))
theorem enters6 : Enters Tryd.prog 6 := fun _ _ => by kernel_rfl
theorem lawCut_s (A : Option Addr) (k : Nat) (p : Par) (hu : ParU p) (at_ : Int) (s : ByteArray) : SpecG Tryd.prog 6 [parAV A k p, .int .i64 at_, .str s] [] (fun _ => ⟨.bool .tt, [], []⟩) := by
  intro m w hm hargs hpre
  intro hg
  have hk := hu.key
  have SB := bigP_s A k p
  have SK := packed_s
  have hm1 := ok_agg (hargs (parAV A k p) (by simp)) (marksAV A k p.cell.marks) (by simp [parC])
  obtain ⟨hl1, hc1⟩ := ok_len hm1
  obtain ⟨n1, f1, ho1, hn1, hf1⟩ := marks_open p.cell.marks
  obtain ⟨K1, hK1⟩ : ∃ K, K = kI p.key := ⟨_, rfl⟩
  have e1 : parAV A k p = .agg (parC K1 (rowM none A n1 k f1) p) := by simp only [parAV, ho1, hK1]
  have ec1 : celAV A k p.cell = .agg [.int .u64 p.cell.version, .bool (.v p.cell.has), .str p.cell.val, rowM none A n1 k f1] := by simp only [celAV, celC, ho1]
  obtain ⟨bg, hbg⟩ : ∃ b, b = bigP p := ⟨_, rfl⟩
  rw [← hbg, e1] at SB
  rw [e1] at hargs ⊢
  have F1 := back_put hu
  obtain ⟨ps, hps⟩ : ∃ q, q = (putR p).1 := ⟨_, rfl⟩
  obtain ⟨pe, hpe⟩ : ∃ q, q = (putR p).2 := ⟨_, rfl⟩
  have hsz : ps.size ≤ 4096 := by
    rcases F1 with ⟨_, g⟩ | ⟨_, _, _, g⟩
    · rw [hps, g]; decide
    · rw [hps]; exact g
  obtain ⟨cut, hcut⟩ : ∃ c, c = ps.extract 0 at_.toNat := ⟨_, rfl⟩
  obtain ⟨mor, hmor⟩ : ∃ c, c = ps ++ s := ⟨_, rfl⟩
  have SG2 := getp_g cut
  have hu2 := getU cut
  have hmk2 := get_marks cut
  obtain ⟨X, hX⟩ : ∃ x, x = (getP cut).1 := ⟨_, rfl⟩
  obtain ⟨xe, hxe⟩ : ∃ x, x = (getP cut).2 := ⟨_, rfl⟩
  simp only [← hX, ← hxe] at SG2 hu2 hmk2
  obtain ⟨n2, f2, hm2, hn2, hf2⟩ := marks_open X.cell.marks
  obtain ⟨K2, hK2⟩ : ∃ K, K = kI X.key := ⟨_, rfl⟩
  have eP2 : ∀ A k, parAV A k X = .agg (parC K2 (rowM none A n2 k f2) X) := fun A k => by simp only [parAV, hm2, hK2]
  simp only [eP2] at SG2
  have SG3 := getp_g mor
  have hu3 := getU mor
  have hmk3 := get_marks mor
  obtain ⟨Y, hY⟩ : ∃ x, x = (getP mor).1 := ⟨_, rfl⟩
  obtain ⟨ye, hye⟩ : ∃ x, x = (getP mor).2 := ⟨_, rfl⟩
  simp only [← hY, ← hye] at SG3 hu3 hmk3
  obtain ⟨n3, f3, hm3, hn3, hf3⟩ := marks_open Y.cell.marks
  obtain ⟨K3, hK3⟩ : ∃ K, K = kI Y.key := ⟨_, rfl⟩
  have eP3 : ∀ A k, parAV A k Y = .agg (parC K3 (rowM none A n3 k f3) Y) := fun A k => by simp only [parAV, hm3, hK3]
  simp only [eP3] at SG3
  obtain ⟨nz, hnz⟩ : ∃ q, q = s.size := ⟨_, rfl⟩
  refine enterX hm hpre hargs Tryd.func6 rfl (by simp [Tryd.ntmps6]) fun a0 hF => ?_
  simp only [Tryd.ntmps6, startT] at hF
  obtain ⟨B, hB⟩ : ∃ B, B = std := ⟨_, rfl⟩
  refine wp_seq ?_
  apply region_okB hB T6_ok [1, 2, 3] [3] [] hF
  case hex => intro A X; conv => lhs; cbv
  case hob =>
    intro X
    subst hB
    simp [AllOb, Ob.holds, BE.den, std, stdCmp, stdArith] <;> omega
  case hQ =>
  intro X0 a0 w1 hF
  refine wp_seq ?_
  refine wp_seq ?_
  apply region_okB hB T6_ok [19, 1, 2, 3] [3] [(1, .r fun _ => .bool (.v bg))] hF
  case hex => intro A X; conv => lhs; cbv
  case hob =>
    intro X
    subst hB
    simp only [AllOb, Ob.holds, BE.den, List.mem_cons, List.not_mem_nil, or_false, forall_eq_or_imp, forall_eq] <;> (and_intros <;> first | trivial | (intro h; trivial) | exact enters8 | exact SB | exact ⟨enters8, SB⟩ | (intro h; exact ⟨enters8, SB⟩) | rfl | (intro h; rfl))
  case hQ =>
  intro X1 a0 w1 hF
  refine test_ok hF rfl (fun hb hF => ?_) (fun hb hF => ?_)
  · skip
    refine wp_seq ?_
    apply region_okB hB T6_ok [6] [] [] hF
    case hex => intro A X; conv => lhs; cbv
    case hob =>
      intro X
      subst hB
      simp [AllOb, Ob.holds, BE.den, std, stdCmp, stdArith] <;> omega
    case hQ =>
    intro X2 a0 w1 hF
    refine wp_ret ?_
    refine (ret_x (fn := Tryd.f6) T6_ok hF (rs := [.tmp 6]) rfl (rfl) ?_ noAtom [] ?_ ?_ ?_).1
    · subst hB; simp [AllOb, Ob.holds]
    · subst hB; first | exact Sim.refl _ | exact Sim.bool rfl
    · exact trivial
    · exact trivial
  · skip
    have hbg2 : bg = false ∧ s.size ≤ 100 := by
      subst hB
      simp only [std, stdCmp, BE.den] at hb
      cases bg
      · refine ⟨rfl, ?_⟩
        have : ¬ (100 : Int) < (s.size : Int) := by simpa using hb
        omega
      · simp at hb
    obtain ⟨hbg2, hs6⟩ := hbg2
    have hbf : bigP p = false := by rw [← hbg, hbg2]
    have hml : p.cell.marks.length ≤ 80 := big_le (by
      unfold bigP at hbf
      simp only [Bool.or_eq_false_iff] at hbf
      exact hbf.1.1)
    have SP := put_s A k p hu (by omega)
    rw [e1, ← hps, ← hpe] at SP
    refine wp_skip ?_
    refine wp_seq ?_
    apply region_okB hB T6_ok [1, 2, 7, 8] [] [(1, .r fun _ => .tup [.str ps, .int .i64 pe])] hF
    case hex => intro A X; conv => lhs; cbv
    case hob =>
      intro X
      subst hB
      simp only [AllOb, Ob.holds, BE.den, List.mem_cons, List.not_mem_nil, or_false, forall_eq_or_imp, forall_eq] <;> (and_intros <;> first | trivial | (intro h; trivial) | exact enters9 | exact SP | exact ⟨enters9, SP⟩ | (intro h; exact ⟨enters9, SP⟩) | rfl | (intro h; rfl))
    case hQ =>
    intro X3 a0 w1 hF
    refine wp_seq ?_
    refine wp_seq ?_
    apply region_okB hB T6_ok [36, 1, 2, 7] [] [] hF
    case hex => intro A X; conv => lhs; cbv
    case hob =>
      intro X
      subst hB
      simp [AllOb, Ob.holds, BE.den, std, stdCmp, stdArith] <;> omega
    case hQ =>
    intro X4 a0 w1 hF
    refine test_ok hF rfl (fun hb hF => ?_) (fun hb hF => ?_)
    · skip
      refine wp_seq ?_
      apply region_okB hB T6_ok [6] [] [(0, .r fun _ => .bool .tt)] hF
      case hex => intro A X; conv => lhs; cbv
      case hob =>
        intro X
        subst hB
        simp only [AllOb, Ob.holds, BE.den, List.mem_cons, List.not_mem_nil, or_false, forall_eq_or_imp, forall_eq] <;> (and_intros <;> first | trivial | (intro h; trivial) | exact enters11 | exact SK | exact ⟨enters11, SK⟩ | (intro h; exact ⟨enters11, SK⟩) | rfl | (intro h; rfl))
      case hQ =>
      intro X5 a0 w1 hF
      refine wp_ret ?_
      refine (ret_x (fn := Tryd.f6) T6_ok hF (rs := [.tmp 6]) rfl (rfl) ?_ noAtom [] ?_ ?_ ?_).1
      · subst hB; simp [AllOb, Ob.holds]
      · subst hB; exact Sim.bool (by simp [BE.den, std, stdCmp, stdScmp, canB])
      · exact trivial
      · exact trivial
    · skip
      have G : pe = 0 ∧ 0 ≤ at_ ∧ at_ < (ps.size : Int) := by
        clear hF hargs hm SB SK SG2 SG3 SP
        subst hB
        simp only [std, stdCmp, BE.den] at hb
        by_cases g1 : pe = 0 <;> by_cases g2 : at_ < 0 <;> by_cases g3 : (ps.size : Int) ≤ at_ <;> simp_all <;> omega
      obtain ⟨g1, g2, g3⟩ := G
      have G2 : xe = 4 := by
        rw [hxe, hcut, hps]
        exact cut_get hu (by rw [← hpe]; exact g1) (by rw [← hps]; omega)
      have G3 : ye = if nz = 0 then 0 else 3 := by
        rw [hye, hmor, hps, hnz]
        exact more_get hu (by rw [← hpe]; exact g1) s
      refine wp_skip ?_
      refine wp_seq ?_
      refine wp_region_lit ?_
      apply list_preB 0 3 hB T6_ok [41, 1, 2, 7] [] [] hF
      case hex => intro A X; conv => lhs; cbv
      case hob =>
        intro X
        subst hB
        refine ⟨⟨by decide, g2, ?_⟩, trivial⟩
        show at_ ≤ (ps.size : Int)
        omega
      case hQ =>
      intro X6_0 a0 w1 hF
      refine man_outG rfl rfl rfl rfl hF rfl rfl enters14 SG2 (glob_of hF hg (by rintro ⟨e, he, _⟩; cases he)) ⟨(by subst hB; show Sim (.str (ps.extract 0 at_.toNat)) _; rw [← hcut]; exact Sim.refl _), trivial⟩ (by intro e he; cases he) rfl rfl ?_
      intro x6 a0 w1 hF
      apply list_endB 4 hB T6_ok [2, 7, 10] [] [] hF
      case hex => intro A X; conv => lhs; cbv
      case hob =>
        intro X
        subst hB
        simp [AllOb, Ob.holds, BE.den, std, stdCmp, stdArith] <;> omega
      case hQ =>
      intro X6 a0 w1 hF
      refine wp_seq ?_
      refine wp_region_lit ?_
      apply list_preB 0 3 hB T6_ok [48, 2, 10] [] [] hF
      case hex => intro A X; conv => lhs; cbv
      case hob =>
        intro X
        subst hB
        refine ⟨?_, trivial⟩
        show ps.size + s.size ≤ maxLen
        simp only [maxLen]; omega
      case hQ =>
      intro X7_0 a0 w1 hF
      refine man_outG rfl rfl rfl rfl hF rfl rfl enters14 SG3 (glob_of hF hg (by rintro ⟨e, he, _⟩; cases he)) ⟨(by subst hB; show Sim (.str (ps ++ s)) _; rw [← hmor]; exact Sim.refl _), trivial⟩ (by intro e he; cases he) rfl rfl ?_
      intro x7 a0 w1 hF
      apply list_endB 4 hB T6_ok [2, 10, 12] [] [] hF
      case hex => intro A X; conv => lhs; cbv
      case hob =>
        intro X
        subst hB
        simp [AllOb, Ob.holds, BE.den, std, stdCmp, stdArith] <;> omega
      case hQ =>
      intro X7 a0 w1 hF
      refine wp_seq ?_
      apply region_okB hB T6_ok [6] [] [(0, .r fun _ => .bool .tt)] hF
      case hex => intro A X; conv => lhs; cbv
      case hob =>
        intro X
        subst hB
        simp only [AllOb, Ob.holds, BE.den, List.mem_cons, List.not_mem_nil, or_false, forall_eq_or_imp, forall_eq] <;> (and_intros <;> first | trivial | (intro h; trivial) | exact enters11 | exact SK | exact ⟨enters11, SK⟩ | (intro h; exact ⟨enters11, SK⟩) | rfl | (intro h; rfl))
      case hQ =>
      intro X8 a0 w1 hF
      refine wp_ret ?_
      refine (ret_x (fn := Tryd.f6) T6_ok hF (rs := [.tmp 6]) rfl (rfl) ?_ noAtom [] ?_ ?_ ?_).1
      · subst hB; simp [AllOb, Ob.holds]
      · clear hF hargs hm SB SK SG2 SG3 SP
        subst hB
        refine Sim.bool ?_
        rw [G2, G3]
        by_cases h0 : s.size = 0
        · simp [BE.den, std, stdCmp, stdScmp, canB, hnz, h0]
        · have : 0 < s.size := by omega
          simp [BE.den, std, stdCmp, stdScmp, canB, hnz, h0, this]
      · exact trivial
      · exact trivial
end Go.Proofs.YtkamdppnnhjajaaDoor.Sym

namespace Go.Proofs.YtkamdppnnhjajaaDoor
open Go Go.RowKit
set_option linter.unusedVariables false

theorem walkParcelCut (W : World) (v0 v1 v2 : Value) (i0 : Sym.InPar W v0) (i1 : Sym.InI W v1) (i2 : Sym.InS W v2) (hg : Sym.Glob W) : Calls Tryd.prog 6 #[v0, v1, v2] W fun e w' => e = .returned (.bool true) ∧ Below W.heap.size W w' := by
  obtain ⟨A, k, p, rfl, h0, hu⟩ := i0
  obtain ⟨n, rfl⟩ := i1
  obtain ⟨s, rfl, hs⟩ := i2
  refine (Sym.lawCut_s A k p hu n s (fun _ _ => False) W (fun _ _ h => h.elim) (fun v hv => ?_) Sym.preNil hg).mono ?_
  · simp only [List.mem_cons, List.not_mem_nil, or_false] at hv
    rcases hv with rfl | rfl | rfl
    · exact h0
    · exact .int _ _
    · exact .str _ hs
  · rintro e w' ⟨x, rfl, _, hl⟩
    exact ⟨rfl, Sym.below_left hl⟩
end Go.Proofs.YtkamdppnnhjajaaDoor

namespace Go.Proofs.YtkamdppnnhjajaaDoor.parcelCut
open Go Go.ChangeShapes Go.WideShapes Go.ChangeAt Go.RowKit
set_option linter.unusedVariables false

theorem own : ownKnob Tryd.prog.godebug = none := by kernel_rfl
theorem laidOut : laidOutB Tryd.prog = true := by kernel_rfl

set_option maxRecDepth 100000 in
theorem lifted (os : Os) (started : os.Started) (H : Type) (enc : TypeId × Value → H) :
    ReturnsInHanded {} Tryd.checked os 6 .any (fun w args => (Rows.parcelCutSpec.pre enc Tryd.prog Tryd.f6 [] false w args ∧ laidMetH Tryd.prog Sym.laidL w) ∧ sizedMet enc Tryd.prog Tryd.f6 (OpenSpec.ofChange Rows.parcelCutSpec) false w args) (Rows.parcelCutSpec.post enc Tryd.prog Tryd.f6 false true false false) := by
  refine returnsInHanded_of_change_and (C := Tryd.checked) (X := fun w _ => laidMetH Tryd.prog Sym.laidL w) (fun _ _ _ hh h => h.of_heap hh) own started (by kernel_rfl) Tryd.func6
    (ChangeSpec.witness_at (enc := enc) (C := Tryd.checked) (os := os) (X := fun w _ => laidMetH Tryd.prog Sym.laidL w) false (Sym.laidWorld os) #[.agg #[.int .i64 0, .int .u64 0, .int .u8 0, .int .u8 0, .int .u8 0, .int .u8 0, .int .u8 0, .int .u8 0, .int .u8 0, .int .u8 0, .int .u8 0, .int .u8 0, .int .u8 0, .int .u8 0, .int .u8 0, .int .u8 0, .int .u8 0, .int .u8 0, .int .u8 0, .int .u8 0, .int .u8 0, .int .u8 0, .int .i64 0, .int .u64 0, .int .i64 0, .int .u64 0, .string ⟨#[]⟩, .int .i64 0, .int .u64 0, .bool false, .string ⟨#[]⟩, .int .u64 0, .int .u64 0, .bool false, .string ⟨#[]⟩, .slice none 0 0], .int .i64 0, .string ⟨#[]⟩] 8 rfl (by kernel_rfl) (by kernel_rfl) (by kernel_rfl) (by kernel_rfl) (by kernel_rfl) (Sym.laidWorld_met os _)) ?_
  intro W base args ds gs before hval0 hW _ _ hL _
  have hval : ∀ (j : Nat) t v, Tryd.f6.params[j]? = some t → args[j]? = some v → Value.okWide Tryd.prog W .any base t v := hval0
  have hW' := hW
  obtain ⟨p, q, hA0, hV, rfl, hfz, hnd⟩ := hW
  have hA : DataW.TrodAll enc Tryd.prog W 0 (fun _ => true) true Tryd.f6.params.toList args.toList ds p := hA0
  rw [Tryd.params6] at hA hval
  obtain ⟨v0, vs0, d0, ds0, p0, q0, hargs, rfl, rfl, h0, r0⟩ := trodAll_cons hA
  obtain ⟨v1, vs1, d1, ds1, p1, q1, rfl, rfl, rfl, h1, r1⟩ := trodAll_cons r0
  obtain ⟨v2, vs2, d2, ds2, p2, q2, rfl, rfl, rfl, h2, r2⟩ := trodAll_cons r1
  obtain ⟨rfl, rfl, rfl⟩ := trodAll_nil r2
  obtain rfl : args = #[v0, v1, v2] := by cases args; simp_all
  obtain ⟨rfl, rfl⟩ := trodVars_none hV
  have lt0 : ∀ x ∈ p0, x.block < W.heap.size := by obtain ⟨m, hm⟩ := h0; exact DataW.trod_lt m _ _ _ hm
  have lt1 : ∀ x ∈ p1, x.block < W.heap.size := by obtain ⟨m, hm⟩ := h1; exact DataW.trod_lt m _ _ _ hm
  have lt2 : ∀ x ∈ p2, x.block < W.heap.size := by obtain ⟨m, hm⟩ := h2; exact DataW.trod_lt m _ _ _ hm
  have i0 := Sym.in_par (hval 0 34 v0 rfl rfl) h0
  have i1 := Sym.in_i (hval 1 3 v1 rfl rfl) h1
  have i2 := Sym.in_s (hval 2 9 v2 rfl rfl) h2
  have hg := Sym.glob_laid hL
  clear hA0 hval0
  refine (walkParcelCut W v0 v1 v2 i0 i1 i2 hg).mono fun e W' ⟨he, bel⟩ => ?_
  subst he
  exact ⟨_, rfl, _, _, _, [], _, [], hW', trodAll_mk1 (shut_bool Tryd.underlying4 _), (trodAll_cons_mk (Below.trod laidOut (by kernel_rfl) (of_decide_eq_true (by kernel_rfl)) h0 bel lt0) (trodAll_cons_mk (Below.trod laidOut (by kernel_rfl) (of_decide_eq_true (by kernel_rfl)) h1 bel lt1) (trodAll_cons_mk (Below.trod laidOut (by kernel_rfl) (of_decide_eq_true (by kernel_rfl)) h2 bel lt2) trodAll_mk0))), rfl, bel.frame _, fun h => by cases h⟩

theorem over : Rows.parcelCutRow.holds Tryd.pinned (OpenSpec.ofChange Rows.parcelCutSpec) :=
  OpenClaim.holds_of_wide 6 Tryd.f6 rfl rfl rfl rfl rfl rfl rfl ⟨rfl, rfl, rfl, rfl, rfl⟩ rfl rfl rfl rfl rfl (by kernel_rfl) Tryd.func6 (by kernel_rfl)
    (of_decide_eq_true (by kernel_rfl)) (by unfold Func.isWrapper; first | (rw [if_pos (by decide +kernel)]; kernel_rfl) | (rw [if_neg (by decide +kernel)]; exact ⟨rfl, rfl⟩))
    (fun os started H enc _ => lifted os started H enc)

theorem bare : Rows.ParcelCutSaid := over
theorem proved : Rows.ParcelCutCardSaid :=
  Claim7.holds_tied_plain_at .later [] [.handle] true (true, "215a79e1c2181f5a0fa0ecf131c11775ab0787699e8333f9d6891e50c1eb2ea0") true
    bare (fun _ h => by cases h) (by kernel_rfl) (fun _ h => by cases h) parcelCut_row_tie rfl ⟨rfl, rfl⟩ (by kernel_rfl) rfl
    (fun f fn hf hfn => by
      obtain rfl : f = 6 := Option.some.inj ((show Tryd.prog.funcNamed "espalier/espalierlaw18.ParcelCut" = some 6 by kernel_rfl).symm.trans hf) |>.symm
      obtain rfl : fn = Tryd.f6 := (Option.some.inj (Tryd.func6.symm.trans hfn)).symm
      exact ⟨by kernel_rfl, fun j t ht => by
        rw [Tryd.params6] at ht
        rcases j with _ | j
        · have h3 : t = 34 := by simpa using ht.symm
          subst h3
          exact (show Tryd.prog.wantsStandIn 34 = false by kernel_rfl)
        rcases j with _ | j
        · have h3 : t = 3 := by simpa using ht.symm
          subst h3
          exact (show Tryd.prog.wantsStandIn 3 = false by kernel_rfl)
        rcases j with _ | j
        · have h3 : t = 9 := by simpa using ht.symm
          subst h3
          exact (show Tryd.prog.wantsStandIn 9 = false by kernel_rfl)
        simp at ht⟩)
    (by kernel_rfl)
#print axioms proved
end Go.Proofs.YtkamdppnnhjajaaDoor.parcelCut
