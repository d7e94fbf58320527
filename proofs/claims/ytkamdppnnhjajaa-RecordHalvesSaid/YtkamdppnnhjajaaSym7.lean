/-
  The symbolic executor: how a call begins, and how it ends. Over any program. Conditions: none.
-/
import Derived.Test.YtkamdppnnhjajaaSymTy
namespace Go.Proofs.Ytkamdppnnhjajaa.Sym
open Go.RowKit
set_option linter.unusedVariables false
set_option linter.unusedSimpArgs false

def startT : Nat → List AV → List (Nat × AV)
  | _, [] => []
  | i, v :: l => (i, v) :: startT (i + 1) l
theorem startT_look : ∀ (l : List AV) (i t : Nat), (look (startT i l) t).known = true → i ≤ t ∧ l[t - i]? = some (look (startT i l) t)
  | [], i, t, h => by cases h
  | v :: l, i, t, h => by
    simp only [startT, look_cons] at h ⊢
    by_cases he : i = t
    · subst he; simp
    · rw [if_neg he] at h ⊢
      obtain ⟨h1, h2⟩ := startT_look l (i + 1) t h
      refine ⟨by omega, ?_⟩
      rw [show t - i = (t - (i + 1)) + 1 by omega, List.getElem?_cons_succ]
      exact h2
theorem start_ok {m : Nat → Nat → Prop} {w : World} (hm : ∀ b o, m b o → b < w.heap.size) {args : List AV} (hargs : ∀ v ∈ args, Ok m w v) {n : Nat} (hn : args.length ≤ n) :
    Fits ⟨m, w, fun _ => False, []⟩ ⟨n, startT 0 args, [], [], []⟩ { tmps := (args.map AV.den).toArray ++ Array.replicate (n - args.length) Go.undef, defers := [] } w := by
  have mono : ∀ v, Ok m w v → Ok (St.m ⟨n, startT 0 args, [], [], []⟩ ⟨m, w, fun _ => False, []⟩) w v := fun v hv => hv.mono fun b o u h1 h2 => ⟨h1, fun h => by
    rcases h with h | h
    · exact h2 h
    · rcases h with ⟨k, e, he, _⟩ | ⟨k, e, he, _⟩ <;> cases he⟩
  refine ⟨by simp; omega, rfl, fun t ht => ?_, fun t p v he => (by cases he), fun k e he => (by cases he), fun k k' e e' he => (by cases he), (fun k t ht => by cases ht), (fun k t k' e ht => by cases ht), (fun k t k' t' b ht => by cases ht), Chg.refl _ _, hm⟩
  obtain ⟨_, h1⟩ := startT_look args 0 t ht
  rw [Nat.sub_zero] at h1
  have hlt := (List.getElem?_eq_some_iff.1 h1).1
  refine ⟨?_, mono _ (hargs _ (List.mem_of_getElem? h1))⟩
  rw [Array.getElem?_append_left (by simpa using hlt)]
  simp [h1]
section
variable {P : Program} {T : List (Nat × TI)} {C : Cx} {s : St} {a : Act} {w : World}
theorem enter {m : Nat → Nat → Prop} (hm : ∀ b o, m b o → b < w.heap.size) {args : List AV} (hargs : ∀ v ∈ args, Ok m w v) {f : FuncId} {fn : Func} {c : Code} {R : Ending → World → Prop} (hf : P.funcs[f]? = some fn) (hb : fn.body = some c)
    (hn : args.length ≤ fn.ntmps) (h : ∀ a, Fits ⟨m, w, fun _ => False, []⟩ ⟨fn.ntmps, startT 0 args, [], [], []⟩ a w → c.wp P (bodyPost P fn R) a w) : Calls P f (args.map AV.den).toArray w R := by
  refine calls_of_wp hf hb ?_
  have := h _ (start_ok hm hargs hn)
  simpa using this
def resV (T : List (Nat × TI)) (s : St) : ResultVar → Option (AV × List Ob)
  | .tmp t => if (look s.tmps t).known then some (look s.tmps t, []) else none
  | .cell t ty => match look s.tmps t, lookT T ty with
    | .ptr key b off, some ti => match lookM s.mem key with
      | some blk => (cut blk.cells off ti.size ti.agg).map fun v => (v, [.eqN blk.at_ b])
      | none => none
    | _, _ => none
def resL (T : List (Nat × TI)) (s : St) : List ResultVar → Option (List AV × List Ob)
  | [] => some ([], [])
  | r :: l => match resV T s r, resL T s l with
    | some (v, o), some (vs, os) => some (v :: vs, o ++ os)
    | _, _ => none
def resA : List AV → AV
  | [v] => v
  | l => .tup l
def resS (a : Act) : ResultVar → Sem Value
  | .tmp t => pure (a.tmps.getD t Go.undef)
  | .cell a' t => do loadVar t (← asAddr (a.tmps.getD a' Go.undef))
theorem resV_ok (hT : TabOK P T) (h : Fits C s a w) {r : ResultVar} {v : AV} {o : List Ob} (hr : resV T s r = some (v, o)) (ho : AllOb P o) :
    (resS a r).run P w = .ok v.den w ∧ Ok (s.m C) w v := by
  cases r with
  | tmp t =>
    simp only [resV] at hr
    split at hr
    · rename_i hk
      injection hr with hr; injection hr with h1 h2; subst h1; subst h2
      have := h.slot t hk
      refine ⟨?_, this.2⟩
      simp [resS, this.1]
    · cases hr
  | cell t ty =>
    simp only [resV] at hr
    split at hr
    · rename_i key b off ti hp hti
      split at hr
      · rename_i blk hb
        obtain ⟨x, hx, he⟩ := Option.map_eq_some_iff.1 hr
        injection he with h1 h2; subst h1; subst h2
        have hat : blk.at_ = b := ho.1
        obtain ⟨h1, h2, _⟩ := h.mem _ _ hb
        obtain ⟨hok, hv⟩ := cut_ok hx h2
        have hsl := (h.slot t (by rw [hp]; rfl)).1
        rw [hp] at hsl
        have hl := run_load (P := P) (w := w) (b := blk.at_) (base := 0) (lookT_ok hT hti) (fun j u hu => by
          rw [cell_of_row w _ _ _ _ _ h1]; simpa using hu) hv
        rw [hat, Nat.zero_add] at hl
        refine ⟨?_, hok⟩
        have hl' : (loadVar ty ⟨b, off, none⟩).run P w = .ok x.den w := by simpa [Instr.loadAt, Instr.sureAddr] using hl
        simp [resS, hsl, AV.den, asAddr, hl']
      · cases hr
    · cases hr
theorem resL_ok (hT : TabOK P T) (h : Fits C s a w) : ∀ {l : List ResultVar} {vs : List AV} {o : List Ob}, resL T s l = some (vs, o) → AllOb P o →
    (l.mapM (resS a)).run P w = .ok (vs.map AV.den) w ∧ ∀ v ∈ vs, Ok (s.m C) w v
  | [], vs, o, hr, _ => by simp [resL] at hr; obtain ⟨rfl, rfl⟩ := hr; simp
  | r :: l, vs, o, hr, ho => by
    simp only [resL] at hr
    split at hr
    · rename_i v o1 vs' os h1 h2
      injection hr with hr; injection hr with e1 e2; subst e1; subst e2
      obtain ⟨g1, g2⟩ := AllOb.app.1 ho
      obtain ⟨r1, k1⟩ := resV_ok hT h h1 g1
      obtain ⟨r2, k2⟩ := resL_ok hT h h2 g2
      refine ⟨?_, fun x hx => ?_⟩
      · rw [List.mapM_cons, Sem.run_bind, r1]
        simp only [Result.andThen_ok, Sem.run_bind, r2, Sem.run_pure, List.map_cons]
      · rcases List.mem_cons.1 hx with rfl | hx
        · exact k1
        · exact k2 x hx
    · cases hr
/-- the end of a call -/
theorem results_ok (hT : TabOK P T) (h : Fits C s a w) {fn : Func} {rs : List ResultVar} (hfn : fn.results = rs.toArray) {r : List AV × List Ob} (hr : resL T s rs = some r) (ho : AllOb P r.2) :
    (results fn a.tmps).run P w = .ok (resA r.1).den w ∧ Ok (s.m C) w (resA r.1) := by
  obtain ⟨vs, o⟩ := r
  obtain ⟨h1, h2⟩ := resL_ok hT h hr ho
  constructor
  · have h1' : (fn.results.mapM (resS a)).run P w = .ok (vs.map AV.den).toArray w := by
      rw [hfn, List.mapM_toArray]
      simp [h1]
    have e : results fn a.tmps = (do let vs ← fn.results.mapM (resS a); pure (if h : vs.size = 1 then vs[0] else .tuple vs)) := by
      unfold results
      congr 2
    rw [e, Sem.run_bind, h1']
    cases vs with
    | nil => rfl
    | cons v vs => cases vs with
      | nil => rfl
      | cons u us => simp [resA, AV.den, denL_map, AV.denL]
  · cases vs with
    | nil => exact .tup _ (fun v hv => by cases hv)
    | cons v vs => cases vs with
      | nil => exact h2 v (by simp)
      | cons u us => exact .tup _ h2
theorem ret_ok (hT : TabOK P T) (h : Fits C s a w) (hds : C.ds = []) {fn : Func} {R : Ending → World → Prop} {rs : List ResultVar} (hfn : fn.results = rs.toArray) {r : List AV × List Ob} (hr : resL T s rs = some r) (ho : AllOb P r.2)
    (hR : Ok (s.m C) w (resA r.1) → R (.returned (resA r.1).den) w) : bodyPost P fn R .ret a w ∧ bodyPost P fn R .normal a w := by
  obtain ⟨h1, h2⟩ := results_ok hT h hfn hr ho
  exact ⟨⟨h.defers.trans hds, _, h1, hR h2⟩, ⟨h.defers.trans hds, _, h1, hR h2⟩⟩
/-- what a call's end says, to those who called: only new memory -/
theorem done_ok {m : Nat → Nat → Prop} {w0 : World} (h : Fits ⟨m, w0, fun _ => False, []⟩ s a w) {v : AV} (hv : Ok (s.m ⟨m, w0, fun _ => False, []⟩) w v) : Ok m w v ∧ Below w0.heap.size w0 w :=
  ⟨hv.mono fun b o u h1 h2 => ⟨h1, fun hm => h2 (.inl hm)⟩, h.chg.below (Nat.le_refl _) fun k hk => hk.elim⟩
end
end Go.Proofs.Ytkamdppnnhjajaa.Sym
