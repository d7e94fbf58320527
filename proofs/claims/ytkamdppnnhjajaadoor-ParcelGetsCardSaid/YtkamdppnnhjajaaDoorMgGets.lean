/-
  SymEnd18, SymLGets, WalkParcelGets, ClaimParcelGets: put together by a program of mine (a claim may have 60 files at most). Conditions: none.
-/
import Derived.Test.YtkamdppnnhjajaaDoorRows
import Derived.Test.YtkamdppnnhjajaaDoorCards
import Derived.Test.YtkamdppnnhjajaaDoorTie
import Derived.Test.YtkamdppnnhjajaaDoorMgP1
import Derived.Test.YtkamdppnnhjajaaDoorMgP2
import Derived.Test.YtkamdppnnhjajaaDoorMgP3
import Derived.Test.YtkamdppnnhjajaaDoorMgP4
import Derived.Test.YtkamdppnnhjajaaDoorMgP5
import Derived.Test.YtkamdppnnhjajaaDoorMgP6
namespace Go.Proofs.YtkamdppnnhjajaaDoor.Sym
open Go Go.RowKit
set_option linter.unusedVariables false

theorem preNil {m : Nat → Nat → Prop} {w : World} : PreOk m w [] := ⟨fun e he => (by cases he), fun e he => (by cases he), fun e he => (by cases he), .nil⟩
theorem below_left {m : Nat → Nat → Prop} {w w' : World} (h : Left m w w' [] [] []) : Below w.heap.size w w' :=
  ⟨h.chg.os, h.chg.tape, h.chg.output, h.chg.size, fun k hk => h.chg.block k hk (fun ⟨e, he, _⟩ => by cases he)⟩
end Go.Proofs.YtkamdppnnhjajaaDoor.Sym

namespace Go.Proofs.YtkamdppnnhjajaaDoor.Sym
open Go Go.RowKit
set_option maxRecDepth 100000
set_option maxHeartbeats 1600000
set_option linter.unusedVariables false
set_option linter.unusedSimpArgs false
def T4 : List (Nat × TI) := [(3, ti3), (4, ti4), (9, ti9), (24, ti24), (26, ti26), (27, ti27), (29, ti29), (32, ti32), (34, ti34)]
theorem T4_ok : TabOK Tryd.prog T4 := .cons t3 (.cons t4 (.cons t9 (.cons t24 (.cons t26 (.cons t27 (.cons t29 (.cons t32 (.cons t34 (.nil)))))))))
theorem enters4 : Enters Tryd.prog 4 := fun _ _ => by kernel_rfl
theorem lawGets_s (s : ByteArray) : SpecG Tryd.prog 4 [.str s] [] (fun _ => ⟨.bool .tt, [], []⟩) := by
  intro m w hm hargs hpre
  intro hg
  have SK := packed_s
  have SG1 := getp_g s
  have hu1 := getU s
  have hmk1 := get_marks s
  obtain ⟨X, hX⟩ : ∃ x, x = (getP s).1 := ⟨_, rfl⟩
  obtain ⟨ge, hge⟩ : ∃ x, x = (getP s).2 := ⟨_, rfl⟩
  simp only [← hX, ← hge] at SG1 hu1 hmk1
  obtain ⟨n1, f1, hm1, hn1, hf1⟩ := marks_open X.cell.marks
  obtain ⟨K1, hK1⟩ : ∃ K, K = kI X.key := ⟨_, rfl⟩
  have eP1 : ∀ A k, parAV A k X = .agg (parC K1 (rowM none A n1 k f1) X) := fun A k => by simp only [parAV, hm1, hK1]
  simp only [eP1] at SG1
  have SS := fun A k A2 k2 => sameP_s A k X hu1.key (by omega) A2 k2 X hu1.key
  rw [show decide (X = X) = true from by simp] at SS
  simp only [eP1] at SS
  refine enterX hm hpre hargs Tryd.func4 rfl (by simp [Tryd.ntmps4]) fun a0 hF => ?_
  simp only [Tryd.ntmps4, startT] at hF
  obtain ⟨B, hB⟩ : ∃ B, B = std := ⟨_, rfl⟩
  refine wp_seq ?_
  apply region_okB hB T4_ok [0] [] [] hF
  case hex => intro A X; conv => lhs; cbv
  case hob =>
    intro X
    subst hB
    simp [AllOb, Ob.holds, BE.den, std, stdCmp, stdArith] <;> omega
  case hQ =>
  intro X0 a0 w1 hF
  refine wp_seq ?_
  refine wp_seq ?_
  apply region_okB hB T4_ok [9, 0] [] [] hF
  case hex => intro A X; conv => lhs; cbv
  case hob =>
    intro X
    subst hB
    simp only [AllOb, Ob.holds, BE.den, List.mem_cons, List.not_mem_nil, or_false, forall_eq_or_imp, forall_eq] <;> (and_intros <;> first | trivial | (intro h; trivial) | rfl | (intro h; rfl))
  case hQ =>
  intro X1 a0 w1 hF
  refine test_ok hF rfl (fun hb hF => ?_) (fun hb hF => ?_)
  · skip
    refine wp_seq ?_
    apply region_okB hB T4_ok [2] [] [] hF
    case hex => intro A X; conv => lhs; cbv
    case hob =>
      intro X
      subst hB
      simp [AllOb, Ob.holds, BE.den, std, stdCmp, stdArith] <;> omega
    case hQ =>
    intro X2 a0 w1 hF
    refine wp_ret ?_
    refine (ret_x (fn := Tryd.f4) T4_ok hF (rs := [.tmp 2]) rfl (rfl) ?_ noAtom [] ?_ ?_ ?_).1
    · subst hB; simp [AllOb, Ob.holds]
    · subst hB; first | exact Sim.refl _ | exact Sim.bool rfl
    · exact trivial
    · exact trivial
  · skip
    have hs : s.size ≤ 6000 := by
      have : ¬ (6000 : Int) < (s.size : Int) := by subst hB; simpa [std, stdCmp] using hb
      omega
    have SH := rgetp_s s (by omega)
    rw [← get_eq, ← hX, ← hge] at SH
    simp only [eP1] at SH
    refine wp_skip ?_
    refine wp_seq ?_
    refine wp_region_lit ?_
    apply list_preB 0 1 hB T4_ok [11, 0] [] [] hF
    case hex => intro A X; conv => lhs; cbv
    case hob =>
      intro X
      subst hB
      simp [AllOb, Ob.holds, BE.den, std, stdCmp, stdArith] <;> omega
    case hQ =>
    intro X3_0 a0 w1 hF
    refine man_outG rfl rfl rfl rfl hF rfl rfl enters14 SG1 (glob_of hF hg (by rintro ⟨e, he, _⟩; cases he)) (SimL.refl _) (by intro e he; cases he) rfl rfl ?_
    intro x3 a0 w1 hF
    apply list_endB 2 hB T4_ok [0, 3, 4] [3] [] hF
    case hex => intro A X; conv => lhs; cbv
    case hob =>
      intro X
      subst hB
      simp [AllOb, Ob.holds, BE.den, std, stdCmp, stdArith] <;> omega
    case hQ =>
    intro X3 a0 w1 hF
    refine wp_seq ?_
    apply region_okB hB T4_ok [3, 4, 5, 6] [3, 5] [(1, .r fun x => .tup [.agg (parC K1 (rowM none (x.A 0) n1 (x.c 0) f1) X), .int .i64 ge])] hF
    case hex => intro A X; conv => lhs; cbv
    case hob =>
      intro X
      subst hB
      simp only [AllOb, Ob.holds, BE.den, List.mem_cons, List.not_mem_nil, or_false, forall_eq_or_imp, forall_eq] <;> (and_intros <;> first | trivial | (intro h; trivial) | exact enters15 | exact SH | exact ⟨enters15, SH⟩ | (intro h; exact ⟨enters15, SH⟩) | rfl | (intro h; rfl))
    case hQ =>
    intro X4 a0 w1 hF
    refine wp_seq ?_
    apply region_okB hB T4_ok [2] [] [(0, .r fun _ => .bool .tt), (4, .r fun _ => .bool (.v true))] hF
    case hex => intro A X; conv => lhs; cbv
    case hob =>
      intro X
      subst hB
      simp only [AllOb, Ob.holds, BE.den, List.mem_cons, List.not_mem_nil, or_false, forall_eq_or_imp, forall_eq] <;> (and_intros <;> first | trivial | (intro h; trivial) | exact enters11 | exact SK | exact ⟨enters11, SK⟩ | (intro h; exact ⟨enters11, SK⟩) | exact enters16 | exact SS _ _ _ _ | exact ⟨enters16, SS _ _ _ _⟩ | (intro h; exact ⟨enters16, SS _ _ _ _⟩) | rfl | (intro h; rfl))
    case hQ =>
    intro X5 a0 w1 hF
    refine wp_ret ?_
    refine (ret_x (fn := Tryd.f4) T4_ok hF (rs := [.tmp 2]) rfl (rfl) ?_ noAtom [] ?_ ?_ ?_).1
    · subst hB; simp [AllOb, Ob.holds]
    · subst hB; exact Sim.bool (by simp [BE.den, std, stdCmp, stdScmp, canB])
    · exact trivial
    · exact trivial
end Go.Proofs.YtkamdppnnhjajaaDoor.Sym

namespace Go.Proofs.YtkamdppnnhjajaaDoor
open Go Go.RowKit
set_option linter.unusedVariables false

theorem walkParcelGets (W : World) (v0 : Value) (i0 : Sym.InS W v0) (hg : Sym.Glob W) : Calls Tryd.prog 4 #[v0] W fun e w' => e = .returned (.bool true) ∧ Below W.heap.size W w' := by
  obtain ⟨s, rfl, hs⟩ := i0
  refine (Sym.lawGets_s s (fun _ _ => False) W (fun _ _ h => h.elim) (fun v hv => ?_) Sym.preNil hg).mono ?_
  · simp only [List.mem_cons, List.not_mem_nil, or_false] at hv
    rcases hv with rfl
    · exact .str _ hs
  · rintro e w' ⟨x, rfl, _, hl⟩
    exact ⟨rfl, Sym.below_left hl⟩
end Go.Proofs.YtkamdppnnhjajaaDoor

namespace Go.Proofs.YtkamdppnnhjajaaDoor.parcelGets
open Go Go.ChangeShapes Go.WideShapes Go.ChangeAt Go.RowKit
set_option linter.unusedVariables false

theorem own : ownKnob Tryd.prog.godebug = none := by kernel_rfl
theorem laidOut : laidOutB Tryd.prog = true := by kernel_rfl

set_option maxRecDepth 100000 in
theorem lifted (os : Os) (started : os.Started) (H : Type) (enc : TypeId × Value → H) :
    ReturnsInHanded {} Tryd.checked os 4 .any (fun w args => (Rows.parcelGetsSpec.pre enc Tryd.prog Tryd.f4 [] false w args ∧ laidMetH Tryd.prog Sym.laidL w) ∧ sizedMet enc Tryd.prog Tryd.f4 (OpenSpec.ofChange Rows.parcelGetsSpec) false w args) (Rows.parcelGetsSpec.post enc Tryd.prog Tryd.f4 false true false false) := by
  refine returnsInHanded_of_change_and (C := Tryd.checked) (X := fun w _ => laidMetH Tryd.prog Sym.laidL w) (fun _ _ _ hh h => h.of_heap hh) own started (by kernel_rfl) Tryd.func4
    (ChangeSpec.witness_at (enc := enc) (C := Tryd.checked) (os := os) (X := fun w _ => laidMetH Tryd.prog Sym.laidL w) false (Sym.laidWorld os) #[.string ⟨#[]⟩] 8 rfl (by kernel_rfl) (by kernel_rfl) (by kernel_rfl) (by kernel_rfl) (by kernel_rfl) (Sym.laidWorld_met os _)) ?_
  intro W base args ds gs before hval0 hW _ _ hL _
  have hval : ∀ (j : Nat) t v, Tryd.f4.params[j]? = some t → args[j]? = some v → Value.okWide Tryd.prog W .any base t v := hval0
  have hW' := hW
  obtain ⟨p, q, hA0, hV, rfl, hfz, hnd⟩ := hW
  have hA : DataW.TrodAll enc Tryd.prog W 0 (fun _ => true) true Tryd.f4.params.toList args.toList ds p := hA0
  rw [Tryd.params4] at hA hval
  obtain ⟨v0, vs0, d0, ds0, p0, q0, hargs, rfl, rfl, h0, r0⟩ := trodAll_cons hA
  obtain ⟨rfl, rfl, rfl⟩ := trodAll_nil r0
  obtain rfl : args = #[v0] := by cases args; simp_all
  obtain ⟨rfl, rfl⟩ := trodVars_none hV
  have lt0 : ∀ x ∈ p0, x.block < W.heap.size := by obtain ⟨m, hm⟩ := h0; exact DataW.trod_lt m _ _ _ hm
  have i0 := Sym.in_s (hval 0 9 v0 rfl rfl) h0
  have hg := Sym.glob_laid hL
  clear hA0 hval0
  refine (walkParcelGets W v0 i0 hg).mono fun e W' ⟨he, bel⟩ => ?_
  subst he
  exact ⟨_, rfl, _, _, _, [], _, [], hW', trodAll_mk1 (shut_bool Tryd.underlying4 _), (trodAll_cons_mk (Below.trod laidOut (by kernel_rfl) (of_decide_eq_true (by kernel_rfl)) h0 bel lt0) trodAll_mk0), rfl, bel.frame _, fun h => by cases h⟩

theorem over : Rows.parcelGetsRow.holds Tryd.pinned (OpenSpec.ofChange Rows.parcelGetsSpec) :=
  OpenClaim.holds_of_wide 4 Tryd.f4 rfl rfl rfl rfl rfl rfl rfl ⟨rfl, rfl, rfl, rfl, rfl⟩ rfl rfl rfl rfl rfl (by kernel_rfl) Tryd.func4 (by kernel_rfl)
    (of_decide_eq_true (by kernel_rfl)) (by unfold Func.isWrapper; first | (rw [if_pos (by decide +kernel)]; kernel_rfl) | (rw [if_neg (by decide +kernel)]; exact ⟨rfl, rfl⟩))
    (fun os started H enc _ => lifted os started H enc)

theorem bare : Rows.ParcelGetsSaid := over
theorem proved : Rows.ParcelGetsCardSaid :=
  Claim7.holds_tied_plain_at .later [] [.handle] true (true, "215a79e1c2181f5a0fa0ecf131c11775ab0787699e8333f9d6891e50c1eb2ea0") true
    bare (fun _ h => by cases h) (by kernel_rfl) (fun _ h => by cases h) parcelGets_row_tie rfl ⟨rfl, rfl⟩ (by kernel_rfl) rfl
    (fun f fn hf hfn => by
      obtain rfl : f = 4 := Option.some.inj ((show Tryd.prog.funcNamed "espalier/espalierlaw18.ParcelGets" = some 4 by kernel_rfl).symm.trans hf) |>.symm
      obtain rfl : fn = Tryd.f4 := (Option.some.inj (Tryd.func4.symm.trans hfn)).symm
      exact ⟨by kernel_rfl, fun j t ht => by
        rw [Tryd.params4] at ht
        rcases j with _ | j
        · have h3 : t = 9 := by simpa using ht.symm
          subst h3
          exact (show Tryd.prog.wantsStandIn 9 = false by kernel_rfl)
        simp at ht⟩)
    (by kernel_rfl)
#print axioms proved
end Go.Proofs.YtkamdppnnhjajaaDoor.parcelGets
