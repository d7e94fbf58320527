/-
  The deferred functions of record.Get (printed by a program of mine). Conditions: none.
-/
import Derived.Test.YtkamdppnnhjajaaSymDf
import Derived.Test.YtkamdppnnhjajaaSymRGet
namespace Go.Proofs.Ytkamdppnnhjajaa.Sym
open Go Go.RowKit
set_option maxRecDepth 100000
set_option linter.unusedVariables false
set_option linter.unusedSimpArgs false
def T43 : List (Nat × TI) := [(27, ti27), (29, ti29)]
theorem T43_ok : TabOK Try.prog T43 := .cons t27 (.cons t29 (.nil))
theorem enters43 : Enters Try.prog 43 := fun _ _ => by kernel_rfl
theorem get1_z (e : Int) (he : e ≠ 0) (b2 b3 : Nat) (c0 c1 c2 c3 c4 : AV) : SpecD Try.prog 43 [.ptr 3 b3 0, .ptr 2 b2 0] [(3, ⟨b3, 29, [.int .i64 e]⟩), (2, ⟨b2, 27, [c0, c1, c2, c3, c4]⟩)] (fun _ => ⟨.tup [], [(3, [.int .i64 e]), (2, [.int .i64 0, .sl none none 0 0 2 (fun _ => []), .int .i64 0, .int .u64 0, .int .u64 0])], []⟩) := by
  intro u m w hm hargs hpre
  refine enterXD hm hpre hargs Try.func43 rfl (by simp [Try.ntmps43]) fun a0 hF => ?_
  simp only [Try.ntmps43, startT] at hF
  obtain ⟨B, hB⟩ : ∃ B, B = std := ⟨_, rfl⟩
  refine wp_seq ?_
  apply region_okB hB T43_ok [3, 1] [3, 2] [] hF
  case hex => intro A X; conv => lhs; cbv
  case hob =>
    intro X
    subst hB
    simp [AllOb, Ob.holds, BE.den, std, stdCmp, stdArith] <;> omega
  case hQ =>
  intro X0 a0 w1 hF
  refine test_ok hF rfl (fun hb hF => ?_) (fun hb hF => ?_)
  · skip
    skip
    apply region_okB hB T43_ok [] [3, 2] [] hF
    case hex => intro A X; conv => lhs; cbv
    case hob =>
      intro X
      subst hB; repeat (first | exact trivial | refine ⟨rfl, ?_⟩)
    case hQ =>
    intro X1 a0 w1 hF
    refine (ret_x (fn := Try.f43) T43_ok hF (rs := []) rfl (rfl) ?_ noAtom [] ?_ ?_ ?_).2
    · subst hB; simp [AllOb, Ob.holds]
    · subst hB; exact Sim.refl _
    · subst hB; exact ⟨rfl, ⟨_, rfl, SimL.refl _⟩, rfl, ⟨_, rfl, SimL.refl _⟩, trivial⟩
    · exact trivial
  · exfalso
    have : ¬ e ≠ 0 := by subst hB; simpa [std, stdCmp] using hb
    exact this he
theorem get1_n (e : Int) (he : e = 0) (b2 b3 : Nat) (c0 c1 c2 c3 c4 : AV) : SpecD Try.prog 43 [.ptr 3 b3 0, .ptr 2 b2 0] [(3, ⟨b3, 29, [.int .i64 e]⟩), (2, ⟨b2, 27, [c0, c1, c2, c3, c4]⟩)] (fun _ => ⟨.tup [], [(3, [.int .i64 e]), (2, [c0, c1, c2, c3, c4])], []⟩) := by
  intro u m w hm hargs hpre
  refine enterXD hm hpre hargs Try.func43 rfl (by simp [Try.ntmps43]) fun a0 hF => ?_
  simp only [Try.ntmps43, startT] at hF
  obtain ⟨B, hB⟩ : ∃ B, B = std := ⟨_, rfl⟩
  refine wp_seq ?_
  apply region_okB hB T43_ok [3, 1] [3, 2] [] hF
  case hex => intro A X; conv => lhs; cbv
  case hob =>
    intro X
    subst hB
    simp [AllOb, Ob.holds, BE.den, std, stdCmp, stdArith] <;> omega
  case hQ =>
  intro X0 a0 w1 hF
  refine test_ok hF rfl (fun hb hF => ?_) (fun hb hF => ?_)
  · exfalso
    have : e ≠ 0 := by subst hB; simpa [std, stdCmp] using hb
    exact this he
  · skip
    skip
    refine wp_skip ?_
    refine (ret_x (fn := Try.f43) T43_ok hF (rs := []) rfl (rfl) ?_ noAtom [] ?_ ?_ ?_).2
    · subst hB; simp [AllOb, Ob.holds]
    · subst hB; exact Sim.refl _
    · subst hB; exact ⟨rfl, ⟨_, rfl, SimL.refl _⟩, rfl, ⟨_, rfl, SimL.refl _⟩, trivial⟩
    · exact trivial
def T12 : List (Nat × TI) := [(3, ti3), (4, ti4), (9, ti9), (22, ti22), (23, ti23), (25, ti25), (27, ti27), (29, ti29), (53, ti53), (67, ti67)]
theorem T12_ok : TabOK Try.prog T12 := .cons t3 (.cons t4 (.cons t9 (.cons t22 (.cons t23 (.cons t25 (.cons t27 (.cons t29 (.cons t53 (.cons t67 (.nil))))))))))
def dG (b2 b3 : Nat) : Deferred := { target := .fn (.func 43) (AV.denL [.ptr 3 b3 0, .ptr 2 b2 0]).toArray, args := (AV.denL []).toArray }
def dC (b3 : Nat) : Deferred := { target := .fn (.func 32) (AV.denL []).toArray, args := (AV.denL [.ptr 3 b3 0]).toArray }
def gOut (s : ByteArray) : Atom → Out := fun x => .ret ⟨.tup [recAV (x.A 0) (x.c 0) (gotR s), .int .i64 (gotE s)], [], []⟩
theorem ptrs_ok {m : Nat → Nat → Prop} {b2 b3 : Nat} : ∀ w, ∀ v ∈ ([] : List AV) ++ [.ptr 3 b3 0, .ptr 2 b2 0], Ok m w v := by
  intro w v hv
  simp only [List.nil_append, List.mem_cons, List.not_mem_nil, or_false] at hv
  rcases hv with rfl | rfl <;> exact .ptr _ _ _
section
variable {m : Nat → Nat → Prop} {w0 w : World} {a : Act} {s : ByteArray} {b2 b3 : Nat}
theorem get_throw {e : Int} {c0 c1 c2 c3 c4 : AV} (h : Fits ⟨m, w0, ats [], [dC b3, dG b2 b3]⟩ ⟨53, [(2, .ptr 2 b2 0), (3, .ptr 3 b3 0)], [], [(2, ⟨b2, 27, [c0, c1, c2, c3, c4]⟩), (3, ⟨b3, 29, [.int .i64 0]⟩)], []⟩ a w) (hne : e ≠ 0) (hfin : decRec (unB s) = .error e) :
    bodyPostD Try.prog Try.f12 (OPost m w0 [] (gOut s)) (.panic [{ v := .iface 29 (.int .i64 e), recovered := false }]) a w := by
  have hR : gotR s = zeroRec := by simp only [gotR, hfin]
  have hE : gotE s = e := by simp only [gotE, hfin]; rfl
  show Leaves _ _ a.tmps _ a.defers (.panicking _) w
  refine leave_step (C := ⟨m, w0, ats [], []⟩) (l := [.ptr 3 b3 0]) (r := []) (ds := [dG b2 b3]) (pre := [(3, ⟨b3, 29, [.int .i64 0]⟩)]) (sets := [(3, [.int .i64 e])]) (u1 := .panicking [{ v := .iface 29 (.int .i64 e), recovered := true }]) h (by simp) enters32 ?_ rfl (fun hp => (caught_pan b3 0 e w (hp.heap _ (List.mem_singleton.2 rfl))).mono ?_) fun w1 h1 => ?_
  · intro e he
    have := List.mem_singleton.1 he
    subst this
    rfl
  · rintro e' u' w' ⟨rfl, rfl, rfl⟩
    exact ⟨⟨_, rfl⟩, rfl, left_set hp rfl (fun w => .int _ _)⟩
  · show Leaves _ _ a.tmps _ [dG b2 b3] .returning w1
    refine leave_d (C := ⟨m, w0, ats [], []⟩) (a := { tmps := a.tmps, defers := [dG b2 b3] }) (l := []) (r := [.ptr 3 b3 0, .ptr 2 b2 0]) (ds := []) h1 (by simp) enters43 (get1_z e hne b2 b3 c0 c1 c2 c3 c4) ptrs_ok ?_ rfl fun w2 h2 => ?_
    · intro e he
      simp only [List.mem_cons, List.not_mem_nil, or_false] at he
      rcases he with rfl | rfl <;> rfl
    · show Leaves _ _ a.tmps _ [] .returning w2
      refine leave_end (a := { tmps := a.tmps, defers := [] }) T12_ok h2 (rs := [.cell 2 27, .cell 3 29]) rfl (by conv => lhs; cbv) ?_ noAtom rfl [] ?_ trivial trivial
      · simp [AllOb, Ob.holds]
      · rw [hR, hE]
        exact Sim.tup ⟨Sim.agg ⟨Sim.refl _, Sim.recell (fun i hi => absurd hi (Nat.not_lt_zero _)), Sim.refl _, Sim.refl _, Sim.refl _, trivial⟩, Sim.refl _, trivial⟩
theorem get_ret {A : Option Addr} {n c : Nat} {f : Nat → List AV} {kd ln bt mk : Int} {l : List Itm} (h : Fits ⟨m, w0, ats [], [dC b3, dG b2 b3]⟩ ⟨53, [(2, .ptr 2 b2 0), (3, .ptr 3 b3 0)], [], [(2, ⟨b2, 27, [.int .i64 kd, .sl none A n c 2 f, .int .i64 ln, .int .u64 bt, .int .u64 mk]⟩), (3, ⟨b3, 29, [.int .i64 0]⟩)], []⟩ a w) (hn : n = l.length) (hf : ∀ i, i < l.length → f i = itC (itF l i)) (hfin : decRec (unB s) = .ok ⟨kd, l, ⟨ln, bt⟩, mk⟩) :
    bodyPostD Try.prog Try.f12 (OPost m w0 [] (gOut s)) .ret a w := by
  have hR : gotR s = ⟨kd, l, ⟨ln, bt⟩, mk⟩ := by simp only [gotR, hfin]
  have hE : gotE s = 0 := by simp only [gotE, hfin]; rfl
  show Leaves _ _ a.tmps _ a.defers .returning w
  refine leave_step (C := ⟨m, w0, ats [], []⟩) (l := [.ptr 3 b3 0]) (r := []) (ds := [dG b2 b3]) (pre := []) (sets := []) (u1 := .returning) h (by simp) enters32 (by intro e he; cases he) rfl (fun hp => (caught_idle _ w).mono ?_) fun w1 h1 => ?_
  · rintro e' u' w' ⟨rfl, rfl, rfl⟩
    exact ⟨⟨_, rfl⟩, rfl, left_id⟩
  · show Leaves _ _ a.tmps _ [dG b2 b3] .returning w1
    refine leave_d (C := ⟨m, w0, ats [], []⟩) (a := { tmps := a.tmps, defers := [dG b2 b3] }) (l := []) (r := [.ptr 3 b3 0, .ptr 2 b2 0]) (ds := []) h1 (by simp) enters43 (get1_n 0 rfl b2 b3 (.int .i64 kd) (.sl none A n c 2 f) (.int .i64 ln) (.int .u64 bt) (.int .u64 mk)) ptrs_ok ?_ rfl fun w2 h2 => ?_
    · intro e he
      simp only [List.mem_cons, List.not_mem_nil, or_false] at he
      rcases he with rfl | rfl <;> rfl
    · show Leaves _ _ a.tmps _ [] .returning w2
      refine leave_end (a := { tmps := a.tmps, defers := [] }) T12_ok h2 (rs := [.cell 2 27, .cell 3 29]) rfl (by conv => lhs; cbv) ?_ ⟨0, fun _ => A, fun _ => c, fun _ => ⟨#[]⟩⟩ rfl [] ?_ trivial trivial
      · simp [AllOb, Ob.holds]
      · rw [hR, hE]
        exact Sim.tup ⟨Sim.agg ⟨Sim.refl _, Sim.resl hn hf, Sim.refl _, Sim.refl _, Sim.refl _, trivial⟩, Sim.refl _, trivial⟩
end
end Go.Proofs.Ytkamdppnnhjajaa.Sym
