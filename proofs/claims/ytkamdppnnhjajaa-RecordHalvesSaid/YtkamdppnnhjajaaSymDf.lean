/-
  Deferred calls that change blocks of their caller's. Over any program. Conditions: none.
-/
import Derived.Test.YtkamdppnnhjajaaSymMan
namespace Go.Proofs.Ytkamdppnnhjajaa.Sym
open Go.RowKit
set_option linter.unusedVariables false
set_option linter.unusedSimpArgs false

/-- a contract of a function that is deferred -/
def SpecD (P : Program) (f : FuncId) (args : List AV) (pre : List (Nat × Blk)) (res : Atom → CR) : Prop :=
  ∀ (u : FrameMode) (m : Nat → Nat → Prop) (w : World), (∀ b o, m b o → b < w.heap.size) → (∀ v ∈ args, Ok m w v) → PreOk m w pre → CallsD P f (args.map AV.den).toArray u w fun e u' w' => u' = u ∧ XPost m w pre res e w'
section
variable {P : Program}
theorem enterXD {u : FrameMode} {m : Nat → Nat → Prop} {w : World} {pre : List (Nat × Blk)} (hm : ∀ b o, m b o → b < w.heap.size) (hp : PreOk m w pre) {args : List AV} (hargs : ∀ v ∈ args, Ok m w v) {f : FuncId} {fn : Func} {c : Code} {R : Ending → World → Prop} (hf : P.funcs[f]? = some fn) (hbd : fn.body = some c) (hn : args.length ≤ fn.ntmps)
    (h : ∀ a, Fits ⟨m, w, ats pre, []⟩ ⟨fn.ntmps, startT 0 args, [], pre, []⟩ a w → c.wp P (bodyPost P fn R) a w) : CallsD P f (args.map AV.den).toArray u w fun e u' w' => u' = u ∧ R e w' := by
  refine callsD_of_wp hf hbd ?_
  have := h _ (enterFits hm hp hargs hn)
  simpa using this
variable {C : Cx}
/-- a deferred call is carried out: its contract is known -/
theorem leave_d {s : St} {a : Act} {w : World} {fn : Func} {R : Ending → World → Prop} {u : FrameMode} {f : FuncId} {l r : List AV} {ds : List Deferred} (h : Fits ⟨C.m0, C.w0, C.S, { target := .fn (.func f) (AV.denL r).toArray, args := (AV.denL l).toArray } :: ds⟩ s a w) (hu : u ≠ .run) (hen : Enters P f)
    {pre : List (Nat × Blk)} {sets : List (Nat × List AV)} {v : AV} (hsp : SpecD P f (l ++ r) pre (fun _ => ⟨v, sets, []⟩)) (hok : ∀ w, ∀ v ∈ l ++ r, Ok (s.m C) w v) (hpre : ∀ e ∈ pre, lookM s.mem e.1 = some e.2) (hnd : nodupB pre = true)
    (K : ∀ w', Fits ⟨C.m0, C.w0, C.S, ds⟩ (s.eff (.sets (upd pre sets))) { tmps := a.tmps, defers := ds } w' → Leaves P fn a.tmps R ds (settle u) w') : Leaves P fn a.tmps R a.defers u w := by
  have hlt : ∀ b o, s.m C b o → b < w.heap.size := m_lt (C := ⟨C.m0, C.w0, C.S, { target := .fn (.func f) (AV.denL r).toArray, args := (AV.denL l).toArray } :: ds⟩) h
  refine leave_step h hu hen hpre hnd (fun hp => (hsp u (s.m C) w hlt (hok w) hp).mono ?_) K
  rintro e u' w' ⟨rfl, x, rfl, _, hl⟩
  exact ⟨⟨_, rfl⟩, rfl, hl⟩
/-- a block of one cell is set -/
theorem left_set {m : Nat → Nat → Prop} {w : World} {k b ty : Nat} {v v' : AV} (hp : PreOk m w [(k, ⟨b, ty, [v]⟩)]) (h1 : v'.one = true) (hok : ∀ w, Ok m w v') : Left m w (w.setRow b #[v'.den]) [(k, ⟨b, ty, [v]⟩)] [(k, [v'])] [] := by
  have hh := hp.heap _ (List.mem_singleton.2 rfl)
  refine ⟨rfl, fun e he => ?_, fun e he u hu => ?_, fun e he => (by cases he), .nil, ?_⟩
  · simp only [upd, List.append_nil, List.mem_singleton] at he
    subst he
    exact setRow_heap w b _ #[v'.den] ty (0, 0) hh
  · simp only [upd, List.append_nil, List.mem_singleton] at he
    subst he
    simp only [List.mem_singleton] at hu
    subst hu
    exact ⟨h1, (hok _).mono fun b' o u h1 h2 => ⟨h1, fun h => h2 (h.resolve_right fun ⟨e, he, _⟩ => by cases he)⟩⟩
  · exact ⟨rfl, rfl, rfl, by simp [World.setRow], fun k' _ hn => setRow_other w b k' _ (fun e => hn ⟨_, List.mem_singleton.2 rfl, e.symm⟩)⟩
end
theorem left_id {m : Nat → Nat → Prop} {w : World} : Left m w w [] [] [] := ⟨rfl, fun e he => (by cases he), fun e he => (by cases he), fun e he => (by cases he), .nil, Chg.refl _ _⟩
end Go.Proofs.Ytkamdppnnhjajaa.Sym
