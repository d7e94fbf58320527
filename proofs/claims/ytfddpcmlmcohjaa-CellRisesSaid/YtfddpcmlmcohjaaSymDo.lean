/-
  The program's Do (printed by a program of mine). Conditions: fewer marks than a thousand million.
-/
import Derived.Test.YtfddpcmlmcohjaaSymCel2
namespace Go.Proofs.Ytfddpcmlmcohjaa.Sym
open Go Go.RowKit
set_option maxRecDepth 100000
set_option linter.unusedVariables false
set_option linter.unusedSimpArgs false
theorem enters26 : Enters Try.prog 26 := fun _ _ => by kernel_rfl
theorem enters28 : Enters Try.prog 28 := fun _ _ => by kernel_rfl
theorem enters42 : Enters Try.prog 42 := fun _ _ => by kernel_rfl
theorem enters43 : Enters Try.prog 43 := fun _ _ => by kernel_rfl
theorem enters41 : Enters Try.prog 41 := fun _ _ => by kernel_rfl
theorem low_get {l : List Mark} {c : Int} (hg : SrtM l) (h : (ofM l c).isSome = true) : ofM l c = some (l.getD (lowM l c) zeroMark) := by
  obtain ⟨x, hx⟩ := Option.isSome_iff_exists.1 h
  have := low_is hg hx
  simp [List.getD, this, hx]
theorem low_lt {a : List Mark} {c : Int} {n : Nat} (hg : SrtM a) (hn : n = a.length) (h : (ofM a c).isSome = true) : lowM a c < n := by
  obtain ⟨x, hx⟩ := Option.isSome_iff_exists.1 h
  rw [hn]
  exact (List.getElem?_eq_some_iff.1 (low_is hg hx)).1
def T23 : List (Nat × TI) := [(3, ti3), (4, ti4), (9, ti9), (23, ti23), (26, ti26), (39, ti39), (41, ti41), (43, ti43), (47, ti47), (55, ti55)]
theorem T23_ok : TabOK Try.prog T23 := .cons t3 (.cons t4 (.cons t9 (.cons t23 (.cons t26 (.cons t39 (.cons t41 (.cons t43 (.cons t47 (.cons t55 (.nil))))))))))
theorem enters23 : Enters Try.prog 23 := fun _ _ => by kernel_rfl
theorem do_s (A1 : Option Addr) (k1 : Nat) (a : Cel) (o : Opr) (hsa : a.marks.length < 1000000000) : Spec Try.prog 23 [celAV A1 k1 a, opAV o] (fun x => .tup [celAV (x.A 0) (x.c 0) (doC a o).1, .agg (ansC (doC a o).2.1), .bool (.v (doC a o).2.2.1), .int .i64 (doC a o).2.2.2]) := by
  intro m w hm hargs
  have hoa := hargs (celAV A1 k1 a) (by simp)
  have hma := ok_agg hoa (marksAV A1 k1 a.marks) (by simp)
  obtain ⟨hl1, hc1⟩ := ok_len hma
  have S1 := isC_s A1 k1 a (by omega)
  have S2 := isO_s o
  have S3 := find_s A1 k1 a.marks o.client (by omega)
  have S4 := now_s A1 k1 a 0
  have S6 := fun v h s code => now_s A1 k1 ⟨v, h, s, a.marks⟩ code
  have S5 := fun code v h => put_s A1 k1 a.marks ⟨o.client, o.req, ⟨code, v, h, ByteArray.empty⟩⟩ (by omega)
  obtain ⟨n1, f1, ho1, hn1, hf1⟩ := marks_open a.marks
  simp only [celAV, opAV, ho1] at hargs S1 S2 S3 S4 S5 S6 ⊢
  generalize hia : decide (IsC a) = ia at S1
  generalize hib : decide (IsO o) = ib at S2
  refine enter hm hargs Try.func23 rfl (by simp [Try.ntmps23]) fun a0 hF => ?_
  simp only [Try.ntmps23, startT] at hF
  refine wp_seq ?_
  apply region_ok T23_ok [2, 3, 4, 5] [2, 3, 4, 5] [] hF
  case hex => intro A X; conv => lhs; cbv
  case hob =>
    intro X
    refine ob_split ?_
    simp [AllOb, Ob.holds, BE.den, std, stdCmp, stdArith] <;> omega
  case hQ =>
  intro X0 a0 w1 hF
  refine wp_seq ?_
  refine wp_seq ?_
  apply region_ok T23_ok [21, 2, 3, 4, 5] [2, 3, 4, 5] [(1, fun _ => .bool (.v ia)), (5, fun _ => .bool (.v ib))] hF
  case hex => intro A X; conv => lhs; cbv
  case hob =>
    intro X
    exact ⟨rfl, ⟨enters26, S1⟩, fun _ => rfl, fun _ => ⟨enters28, S2⟩, trivial⟩
  case hQ =>
  intro X1 a0 w1 hF
  refine test_ok hF rfl (fun hb hF => ?_) (fun hb hF => ?_)
  · skip
    have hr : doC a o = (zeroCel, zeroAns, false, 1) := by
      unfold doC
      rw [if_pos]
      intro h
      have h1 : ia = true := by rw [← hia]; exact decide_eq_true h.1
      have h2 : ib = true := by rw [← hib]; exact decide_eq_true h.2
      simp [std, h1, h2] at hb
    refine wp_seq ?_
    apply region_ok T23_ok [4, 5, 6, 7] [2, 3, 4, 5] [] hF
    case hex => intro A X; conv => lhs; cbv
    case hob =>
      intro X
      refine ob_split ?_
      simp [AllOb, Ob.holds, BE.den, std, stdCmp, stdArith] <;> omega
    case hQ =>
    intro X2 a0 w1 hF
    refine wp_ret ?_
    refine ret_sim (fn := Try.f23) T23_ok hF (rs := [.cell 4 41, .cell 5 47, .tmp 6, .tmp 7]) rfl (by conv => lhs; cbv) ?_ noAtom ?_
    · simp [AllOb, Ob.holds]
    · simp only [hr]; exact Sim.tup ⟨Sim.agg ⟨Sim.refl _, Sim.refl _, Sim.refl _, Sim.recell (fun i hi => absurd hi (Nat.not_lt_zero _)), trivial⟩, Sim.refl _, Sim.refl _, Sim.refl _, trivial⟩
  · skip
    have hab : IsC a ∧ IsO o := by
      have h1 : ia = true := by cases ia <;> simp [std] at hb ⊢
      have h2 : ib = true := by cases ib <;> simp [std, h1] at hb ⊢
      exact ⟨of_decide_eq_true (hia.trans h1), of_decide_eq_true (hib.trans h2)⟩
    have hga := hab.1.1
    have hcl : 0 ≤ o.client ∧ o.client ≤ 63 := ⟨hab.2.1, hab.2.2.1⟩
    have hms : ∀ m ∈ a.marks, 0 ≤ m.client ∧ m.client ≤ 63 := fun m hm => ⟨(hga.2 m hm).1, (hga.2 m hm).2.1⟩
    replace S3 := S3 hga.1 hms hcl
    replace S5 := fun code v h => S5 code v h hga.1 hms hcl
    have hlo : (ofM a.marks o.client).isSome = true → lowM a.marks o.client < n1 := low_lt hga.1 hn1
    have hget : (ofM a.marks o.client).isSome = true → ofM a.marks o.client = some (f1 (lowM a.marks o.client)) := fun h => by rw [hf1]; exact low_get hga.1 h
    have hno : (ofM a.marks o.client).isSome = false → ofM a.marks o.client = none := fun h => by simpa using h
    generalize lowM a.marks o.client = ia2 at S3 hlo hget
    generalize hob : (ofM a.marks o.client).isSome = ob at S3 hlo hget hno
    refine wp_skip ?_
    refine wp_seq ?_
    refine wp_seq ?_
    apply region_ok T23_ok [26, 2, 3, 4, 5] [2, 3, 4, 5] [] hF
    case hex => intro A X; conv => lhs; cbv
    case hob =>
      intro X
      refine ob_split ?_
      simp [AllOb, Ob.holds, BE.den, std, stdCmp, stdArith] <;> omega
    case hQ =>
    intro X3 a0 w1 hF
    refine test_ok hF rfl (fun hb hF => ?_) (fun hb hF => ?_)
    · skip
      have hk : o.kind = 1 := by simpa [std, stdCmp] using hb
      have hr : doC a o = (a, ⟨0, a.version, a.has, a.val⟩, false, 0) := by simp [doC, hab.1, hab.2, hk]
      refine wp_seq ?_
      apply region_ok T23_ok [2, 4, 5, 8] [2, 3, 4, 5, 8] [(1, fun _ => .agg [.int .i64 0, .int .u64 a.version, .bool (.v a.has), .str ByteArray.empty])] hF
      case hex => intro A X; conv => lhs; cbv
      case hob =>
        intro X
        exact ⟨rfl, ⟨enters41, S4⟩, rfl, trivial⟩
      case hQ =>
      intro X4 a0 w1 hF
      refine wp_seq ?_
      apply region_ok T23_ok [2, 4, 5, 8] [2, 3, 4, 5, 8] [] hF
      case hex => intro A X; conv => lhs; cbv
      case hob =>
        intro X
        refine ob_split ?_
        simp [AllOb, Ob.holds, BE.den, std, stdCmp, stdArith] <;> omega
      case hQ =>
      intro X5 a0 w1 hF
      refine wp_seq ?_
      apply drawn_ok (by kernel_rfl) T23_ok [4, 5, 6, 7] [2, 3, 4, 5] [] hF rfl
      case hex => intro A X; conv => lhs; cbv
      case hD => kernel_rfl
      case hlen => rfl
      case hob =>
        intro X
        refine ob_split ?_
        simp [AllOb, Ob.holds, BE.den, std, stdCmp, stdArith] <;> omega
      case hQ =>
      intro X6 a0 w1 hF
      refine wp_ret ?_
      refine ret_sim (fn := Try.f23) T23_ok hF (rs := [.cell 4 41, .cell 5 47, .tmp 6, .tmp 7]) rfl (by conv => lhs; cbv) ?_ (⟨0, fun _ => A1, fun _ => k1⟩) ?_
      · simp [AllOb, Ob.holds]
      · simp only [hr, ho1]; exact Sim.refl _
    · skip
      have hk : o.kind ≠ 1 := by simpa [std, stdCmp] using hb
      refine wp_skip ?_
      refine wp_seq ?_
      refine wp_seq ?_
      apply region_ok T23_ok [2, 3, 4, 5, 9, 10] [2, 3, 4, 5] [(4, fun _ => .tup [.int .i64 (ia2 : Int), .bool (.v ob)])] hF
      case hex => intro A X; conv => lhs; cbv
      case hob =>
        intro X
        exact ⟨rfl, rfl, ⟨enters42, S3⟩, trivial⟩
      case hQ =>
      intro X7 a0 w1 hF
      refine wp_seq ?_
      apply drawn_ok (by kernel_rfl) T23_ok [53, 2, 3, 4, 5, 9] [2, 3, 4, 5] [] hF rfl
      case hex => intro A X; conv => lhs; cbv
      case hD => kernel_rfl
      case hlen => rfl
      case hob =>
        intro X
        have hidx : ob = true → 0 ≤ Int.ofNat ia2 ∧ Int.ofNat ia2 < (n1 : Int) := fun h => ⟨Int.natCast_nonneg _, Int.ofNat_lt.2 (hlo h)⟩
        simp only [AllOb, Ob.holds, std, BE.den, List.mem_cons, List.not_mem_nil, or_false, forall_eq_or_imp, forall_eq]
        and_intros <;> first | trivial | (intro hg; first | trivial | exact hidx hg | exact hidx hg.1)
      case hQ =>
      intro X8 a0 w1 hF
      refine test_ok hF rfl (fun hb hF => ?_) (fun hb hF => ?_)
      · skip
        have hob1 : ob = true := by cases ob <;> simp [std] at hb ⊢
        have hge : o.req ≤ (f1 ia2).req := by rw [hob1] at hb; simpa [std, stdCmp] using hb
        have hm := hget hob1
        have hin := hlo hob1
        refine wp_seq ?_
        refine wp_seq ?_
        apply drawn_ok (by kernel_rfl) T23_ok [62, 2, 4, 5, 9] [2, 3, 4, 5] [] hF rfl
        case hex => intro A X; conv => lhs; cbv
        case hD => kernel_rfl
        case hlen => rfl
        case hob =>
          intro X
          refine ob_split ?_
          simp [AllOb, Ob.holds, BE.den, std, stdCmp, stdArith] <;> omega
        case hQ =>
        intro X9 a0 w1 hF
        refine test_ok hF rfl (fun hb hF => ?_) (fun hb hF => ?_)
        · skip
          have hgt : o.req < (f1 ia2).req := by simpa [std, stdCmp] using hb
          have h1 : ¬ (f1 ia2).req = o.req := by omega
          have hr : doC a o = (a, ⟨9, 0, false, ByteArray.empty⟩, false, 0) := by simp [doC, hab.1, hab.2, hk, hm, h1, hgt]
          refine wp_seq ?_
          apply region_ok T23_ok [4, 5, 6, 7] [2, 3, 4, 5] [] hF
          case hex => intro A X; conv => lhs; cbv
          case hob =>
            intro X
            refine ob_split ?_
            simp [AllOb, Ob.holds, BE.den, std, stdCmp, stdArith] <;> omega
          case hQ =>
          intro X10 a0 w1 hF
          refine wp_ret ?_
          refine ret_sim (fn := Try.f23) T23_ok hF (rs := [.cell 4 41, .cell 5 47, .tmp 6, .tmp 7]) rfl (by conv => lhs; cbv) ?_ (⟨0, fun _ => A1, fun _ => k1⟩) ?_
          · simp [AllOb, Ob.holds]
          · simp only [hr, ho1]; exact Sim.refl _
        · skip
          have hle : ¬ o.req < (f1 ia2).req := by simpa [std, stdCmp] using hb
          have h1 : (f1 ia2).req = o.req := by omega
          have hr : doC a o = (a, (f1 ia2).ans, false, 0) := by simp [doC, hab.1, hab.2, hk, hm, h1]
          refine wp_skip ?_
          refine wp_seq ?_
          apply drawn_ok (by kernel_rfl) T23_ok [4, 5, 6, 7] [2, 3, 4, 5] [] hF rfl
          case hex => intro A X; conv => lhs; cbv
          case hD => kernel_rfl
          case hlen => rfl
          case hob =>
            intro X
            refine ob_split ?_
            simp [AllOb, Ob.holds, BE.den, std, stdCmp, stdArith] <;> omega
          case hQ =>
          intro X11 a0 w1 hF
          refine wp_ret ?_
          refine ret_sim (fn := Try.f23) T23_ok hF (rs := [.cell 4 41, .cell 5 47, .tmp 6, .tmp 7]) rfl (by conv => lhs; cbv) ?_ (⟨0, fun _ => A1, fun _ => k1⟩) ?_
          · simp [AllOb, Ob.holds]
          · simp only [hr, ho1]; exact Sim.refl _
      · skip
        have hwr : doC a o = writeC a o := by
          cases hob2 : ob
          · simp [doC, hab.1, hab.2, hk, hno hob2]
          · have hm := hget hob2
            have hlt : ¬ o.req ≤ (f1 ia2).req := by rw [hob2] at hb; simpa [std, stdCmp] using hb
            have h1 : ¬ (f1 ia2).req = o.req := by omega
            have h2 : ¬ o.req < (f1 ia2).req := by omega
            simp [doC, hab.1, hab.2, hk, hm, h1, h2]
        refine wp_skip ?_
        refine wp_seq ?_
        apply region_ok T23_ok [11, 12, 2, 3, 4, 5] [2, 3, 4, 5] [] hF
        case hex => intro A X; conv => lhs; cbv
        case hob =>
          intro X
          refine ob_split ?_
          simp [AllOb, Ob.holds, BE.den, std, stdCmp, stdArith] <;> omega
        case hQ =>
        intro X12 a0 w1 hF
        replace hF := hF.headS Sim.tt rfl
        refine wp_seq ?_
        refine wp_seq ?_
        apply region_ok T23_ok [73, 11, 12, 2, 3, 4, 5] [2, 3, 4, 5] [] hF
        case hex => intro A X; conv => lhs; cbv
        case hob =>
          intro X
          refine ob_split ?_
          simp [AllOb, Ob.holds, BE.den, std, stdCmp, stdArith] <;> omega
        case hQ =>
        intro X13 a0 w1 hF
        refine cut_one (ι := Bool × Int × Int × Bool × ByteArray) (S0 := [(73, _), (11, _), (12, _)]) (M0 := [(2, _)]) (G0 := []) (fun p => [(11, .bool (.v p.1)), (12, .int .i64 p.2.1)]) (fun p => [(2, ⟨(X0 0).b, 41, [.int .u64 p.2.2.1, .bool (.v p.2.2.2.1), .str p.2.2.2.2, rowM none A1 n1 k1 f1]⟩)]) (fun p => []) (fun p => p = if o.kind ≠ 2 ∧ o.version ≠ a.version then (false, 8, a.version, a.has, a.val) else (true, 0, up a.version, decide (o.kind ≠ 4), o.val)) hF ?_ ?_
        · skip
          refine wp_block ?_
          refine wp_seq ?_
          refine wp_block ?_
          refine wp_seq ?_
          refine wp_block ?_
          refine wp_seq ?_
          refine wp_seq ?_
          refine wp_seq ?_
          apply region_ok T23_ok [74, 2, 3, 4, 5, 11, 12, 73] [2, 3, 4, 5] [] hF
          case hex => intro A X; conv => lhs; cbv
          case hob =>
            intro X
            refine ob_split ?_
            simp [AllOb, Ob.holds, BE.den, std, stdCmp, stdArith] <;> omega
          case hQ =>
          intro X14 a0 w1 hF
          refine test_keep hF (fun hb hF => ?_) (fun hb hF => ?_)
          · skip
            have hk2 : o.kind ≠ 2 := by
              have : o.kind = 3 := by simpa [std, stdCmp] using hb
              omega
            refine wp_skip ?_
            refine test_tt hF rfl (fun hF => ?_)
            refine wp_exit ?_
            refine wp_seq ?_
            apply region_ok T23_ok [81, 2, 3, 4, 5, 11, 12] [2, 3, 4, 5] [] hF
            case hex => intro A X; conv => lhs; cbv
            case hob =>
              intro X
              refine ob_split ?_
              simp [AllOb, Ob.holds, BE.den, std, stdCmp, stdArith] <;> omega
            case hQ =>
            intro X16 a0 w1 hF
            refine test_ok hF rfl (fun hb hF => ?_) (fun hb hF => ?_)
            · skip
              have hne : o.version ≠ a.version := by simpa [std, stdCmp] using hb
              refine wp_seq ?_
              apply region_ok T23_ok [11, 12, 2, 3, 4, 5] [2, 3, 4, 5] [] hF
              case hex => intro A X; conv => lhs; cbv
              case hob =>
                intro X
                refine ob_split ?_
                simp [AllOb, Ob.holds, BE.den, std, stdCmp, stdArith] <;> omega
              case hQ =>
              intro X17 a0 w1 hF
              replace hF := hF.headS Sim.ff rfl
              refine wp_exit ?_
              refine ⟨(false, 8, a.version, a.has, a.val), ?_, hF⟩
              simp [hk2, hne]
            · skip
              have hn2 : o.kind ≠ 2 → o.version ≠ a.version → False := by
                have he : o.version = a.version := by simpa [std, stdCmp] using hb
                exact fun _ h => h he
              refine wp_skip ?_
              refine wp_seq ?_
              apply drawn_ok (by kernel_rfl) T23_ok [11, 12, 2, 3, 4, 5] [2, 3, 4, 5] [] hF rfl
              case hex => intro A X; conv => lhs; cbv
              case hD => kernel_rfl
              case hlen => rfl
              case hob =>
                intro X
                refine ob_split ?_
                simp [AllOb, Ob.holds, BE.den, std, stdCmp, stdArith] <;> omega
              case hQ =>
              intro X18 a0 w1 hF
              refine wp_exit ?_
              refine ⟨(true, 0, up a.version, o.kind != 4, o.val), ?_, hF⟩
              have hd4 : (o.kind != 4) = decide (o.kind ≠ 4) := by rw [Bool.eq_iff_iff]; simp
              rw [hd4]
              have : ¬ (o.kind ≠ 2 ∧ o.version ≠ a.version) := fun hx => hn2 hx.1 hx.2
              simp [this]
          · skip
            have hk3 : o.kind ≠ 3 := by simpa [std, stdCmp] using hb
            apply region_ok T23_ok [74, 2, 3, 4, 5, 11, 12] [2, 3, 4, 5] [] hF
            case hex => intro A X; conv => lhs; cbv
            case hob =>
              intro X
              refine ob_split ?_
              simp [AllOb, Ob.holds, BE.den, std, stdCmp, stdArith] <;> omega
            case hQ =>
            intro X15 a0 w1 hF
            refine test_ok hF rfl (fun hb hF => ?_) (fun hb hF => ?_)
            · skip
              have hk2 : o.kind ≠ 2 := by
                have : o.kind = 4 := by simpa [std, stdCmp] using hb
                omega
              refine wp_exit ?_
              refine wp_seq ?_
              apply region_ok T23_ok [81, 2, 3, 4, 5, 11, 12] [2, 3, 4, 5] [] hF
              case hex => intro A X; conv => lhs; cbv
              case hob =>
                intro X
                refine ob_split ?_
                simp [AllOb, Ob.holds, BE.den, std, stdCmp, stdArith] <;> omega
              case hQ =>
              intro X16 a0 w1 hF
              refine test_ok hF rfl (fun hb hF => ?_) (fun hb hF => ?_)
              · skip
                have hne : o.version ≠ a.version := by simpa [std, stdCmp] using hb
                refine wp_seq ?_
                apply region_ok T23_ok [11, 12, 2, 3, 4, 5] [2, 3, 4, 5] [] hF
                case hex => intro A X; conv => lhs; cbv
                case hob =>
                  intro X
                  refine ob_split ?_
                  simp [AllOb, Ob.holds, BE.den, std, stdCmp, stdArith] <;> omega
                case hQ =>
                intro X17 a0 w1 hF
                replace hF := hF.headS Sim.ff rfl
                refine wp_exit ?_
                refine ⟨(false, 8, a.version, a.has, a.val), ?_, hF⟩
                simp [hk2, hne]
              · skip
                have hn2 : o.kind ≠ 2 → o.version ≠ a.version → False := by
                  have he : o.version = a.version := by simpa [std, stdCmp] using hb
                  exact fun _ h => h he
                refine wp_skip ?_
                refine wp_seq ?_
                apply drawn_ok (by kernel_rfl) T23_ok [11, 12, 2, 3, 4, 5] [2, 3, 4, 5] [] hF rfl
                case hex => intro A X; conv => lhs; cbv
                case hD => kernel_rfl
                case hlen => rfl
                case hob =>
                  intro X
                  refine ob_split ?_
                  simp [AllOb, Ob.holds, BE.den, std, stdCmp, stdArith] <;> omega
                case hQ =>
                intro X18 a0 w1 hF
                refine wp_exit ?_
                refine ⟨(true, 0, up a.version, o.kind != 4, o.val), ?_, hF⟩
                have hd4 : (o.kind != 4) = decide (o.kind ≠ 4) := by rw [Bool.eq_iff_iff]; simp
                rw [hd4]
                have : ¬ (o.kind ≠ 2 ∧ o.version ≠ a.version) := fun hx => hn2 hx.1 hx.2
                simp [this]
            · skip
              have hn2 : o.kind ≠ 2 → o.version ≠ a.version → False := by
                have h4 : o.kind ≠ 4 := by simpa [std, stdCmp] using hb
                have h5 := hab.2.2.2.1
                have h6 := hab.2.2.2.2.1
                omega
              refine wp_skip ?_
              refine wp_exit ?_
              refine wp_seq ?_
              apply drawn_ok (by kernel_rfl) T23_ok [11, 12, 2, 3, 4, 5] [2, 3, 4, 5] [] hF rfl
              case hex => intro A X; conv => lhs; cbv
              case hD => kernel_rfl
              case hlen => rfl
              case hob =>
                intro X
                refine ob_split ?_
                simp [AllOb, Ob.holds, BE.den, std, stdCmp, stdArith] <;> omega
              case hQ =>
              intro X18 a0 w1 hF
              refine wp_exit ?_
              refine ⟨(true, 0, up a.version, o.kind != 4, o.val), ?_, hF⟩
              have hd4 : (o.kind != 4) = decide (o.kind ≠ 4) := by rw [Bool.eq_iff_iff]; simp
              rw [hd4]
              have : ¬ (o.kind ≠ 2 ∧ o.version ≠ a.version) := fun hx => hn2 hx.1 hx.2
              simp [this]
        · rintro ⟨does, code, v, h, s⟩ hp a0 w1 hF
          have hr : doC a o = (⟨v, h, s, putM a.marks ⟨o.client, o.req, ⟨code, v, h, ByteArray.empty⟩⟩⟩, ⟨code, v, h, ByteArray.empty⟩, does, 0) := by
            rw [hwr]; unfold writeC
            by_cases hx : o.kind ≠ 2 ∧ o.version ≠ a.version
            · rw [if_pos hx] at hp ⊢; cases hp; rfl
            · rw [if_neg hx] at hp ⊢; cases hp; rfl
          have S7 := S5 code v h
          obtain ⟨n', f', ho', hn', hf'⟩ := marks_open (putM a.marks ⟨o.client, o.req, ⟨code, v, h, ByteArray.empty⟩⟩)
          simp only [ho'] at S7
          refine wp_seq ?_
          apply region_ok T23_ok [2, 3, 4, 5, 11, 13] [2, 3, 4, 5, 13] [(2, fun _ => .agg [.int .i64 code, .int .u64 v, .bool (.v h), .str ByteArray.empty])] hF
          case hex => intro A X; conv => lhs; cbv
          case hob =>
            intro X
            exact ⟨rfl, ⟨enters41, S6 v h s code⟩, rfl, trivial⟩
          case hQ =>
          intro X19 a0 w1 hF
          refine wp_seq ?_
          apply region_ok T23_ok [2, 4, 5, 11, 13] [2, 3, 4, 5, 13] [(8, fun x => rowM none (x.A 0) n' (x.c 0) f')] hF
          case hex => intro A X; conv => lhs; cbv
          case hob =>
            intro X
            exact ⟨rfl, rfl, rfl, rfl, ⟨enters43, S7⟩, rfl, trivial⟩
          case hQ =>
          intro X20 a0 w1 hF
          refine wp_seq ?_
          apply drawn_ok (by kernel_rfl) T23_ok [4, 5, 6, 7] [2, 3, 4, 5] [] hF rfl
          case hex => intro A X; conv => lhs; cbv
          case hD => kernel_rfl
          case hlen => rfl
          case hob =>
            intro X
            refine ob_split ?_
            simp [AllOb, Ob.holds, BE.den, std, stdCmp, stdArith] <;> omega
          case hQ =>
          intro X21 a0 w1 hF
          refine wp_ret ?_
          refine ret_sim (fn := Try.f23) T23_ok hF (rs := [.cell 4 41, .cell 5 47, .tmp 6, .tmp 7]) rfl (by conv => lhs; cbv) ?_ (⟨0, fun _ => (X20 8).A 0, fun _ => (X20 8).c 0⟩) ?_
          · simp [AllOb, Ob.holds]
          · simp only [hr, ho']; exact Sim.refl _
end Go.Proofs.Ytfddpcmlmcohjaa.Sym
