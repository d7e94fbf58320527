/-
  Sym7, Sym8, Sym9, SymKit, SymMan, PlB, SymEq, SymDf, SymFr, PlNum, PlWire, SymArr, SymTab, M17, SymPar, PlDec: put together by a program of mine (a claim may have 60 files at most). Conditions: none.
-/
import Derived.Orders
import Derived.OrdersHeld
import Derived.Defers
import Derived.Recover
import Derived.ChangeKeysEq
import Derived.Lib.BitFns
import Derived.Lib.BufferWrite
import Derived.Test.YtkamdppnnhjajaaDoorProg
import Derived.Test.YtkamdppnnhjajaaDoorMgP1
namespace Go.Proofs.YtkamdppnnhjajaaDoor.Sym
open Go.RowKit
set_option linter.unusedVariables false
set_option linter.unusedSimpArgs false

def startT : Nat → List AV → List (Nat × AV)
  | _, [] => []
  | i, v :: l => (i, v) :: startT (i + 1) l
theorem startT_look : ∀ (l : List AV) (i t : Nat), (look (startT i l) t).known = true → i ≤ t ∧ l[t - i]? = some (look (startT i l) t)
  | [], i, t, h => by cases h
  | v :: l, i, t, h => by
    simp only [startT, look_cons] at h ⊢
    by_cases he : i = t
    · subst he; simp
    · rw [if_neg he] at h ⊢
      obtain ⟨h1, h2⟩ := startT_look l (i + 1) t h
      refine ⟨by omega, ?_⟩
      rw [show t - i = (t - (i + 1)) + 1 by omega, List.getElem?_cons_succ]
      exact h2
theorem start_ok {m : Nat → Nat → Prop} {w : World} (hm : ∀ b o, m b o → b < w.heap.size) {args : List AV} (hargs : ∀ v ∈ args, Ok m w v) {n : Nat} (hn : args.length ≤ n) :
    Fits ⟨m, w, fun _ => False, []⟩ ⟨n, startT 0 args, [], [], []⟩ { tmps := (args.map AV.den).toArray ++ Array.replicate (n - args.length) Go.undef, defers := [] } w := by
  have mono : ∀ v, Ok m w v → Ok (St.m ⟨n, startT 0 args, [], [], []⟩ ⟨m, w, fun _ => False, []⟩) w v := fun v hv => hv.mono fun b o u h1 h2 => ⟨h1, fun h => by
    rcases h with h | h
    · exact h2 h
    · rcases h with ⟨k, e, he, _⟩ | ⟨k, e, he, _⟩ <;> cases he⟩
  refine ⟨by simp; omega, rfl, fun t ht => ?_, fun t p v he => (by cases he), fun k e he => (by cases he), fun k k' e e' he => (by cases he), (fun k t ht => by cases ht), (fun k t k' e ht => by cases ht), (fun k t k' t' b ht => by cases ht), Chg.refl _ _, hm⟩
  obtain ⟨_, h1⟩ := startT_look args 0 t ht
  rw [Nat.sub_zero] at h1
  have hlt := (List.getElem?_eq_some_iff.1 h1).1
  refine ⟨?_, mono _ (hargs _ (List.mem_of_getElem? h1))⟩
  rw [Array.getElem?_append_left (by simpa using hlt)]
  simp [h1]
section
variable {P : Program} {T : List (Nat × TI)} {C : Cx} {s : St} {a : Act} {w : World}
theorem enter {m : Nat → Nat → Prop} (hm : ∀ b o, m b o → b < w.heap.size) {args : List AV} (hargs : ∀ v ∈ args, Ok m w v) {f : FuncId} {fn : Func} {c : Code} {R : Ending → World → Prop} (hf : P.funcs[f]? = some fn) (hb : fn.body = some c)
    (hn : args.length ≤ fn.ntmps) (h : ∀ a, Fits ⟨m, w, fun _ => False, []⟩ ⟨fn.ntmps, startT 0 args, [], [], []⟩ a w → c.wp P (bodyPost P fn R) a w) : Calls P f (args.map AV.den).toArray w R := by
  refine calls_of_wp hf hb ?_
  have := h _ (start_ok hm hargs hn)
  simpa using this
def resV (T : List (Nat × TI)) (s : St) : ResultVar → Option (AV × List Ob)
  | .tmp t => if (look s.tmps t).known then some (look s.tmps t, []) else none
  | .cell t ty => match look s.tmps t, lookT T ty with
    | .ptr key b off, some ti => match lookM s.mem key with
      | some blk => (cut blk.cells off ti.size ti.agg).map fun v => (v, [.eqN blk.at_ b])
      | none => none
    | _, _ => none
def resL (T : List (Nat × TI)) (s : St) : List ResultVar → Option (List AV × List Ob)
  | [] => some ([], [])
  | r :: l => match resV T s r, resL T s l with
    | some (v, o), some (vs, os) => some (v :: vs, o ++ os)
    | _, _ => none
def resA : List AV → AV
  | [v] => v
  | l => .tup l
def resS (a : Act) : ResultVar → Sem Value
  | .tmp t => pure (a.tmps.getD t Go.undef)
  | .cell a' t => do loadVar t (← asAddr (a.tmps.getD a' Go.undef))
theorem resV_ok (hT : TabOK P T) (h : Fits C s a w) {r : ResultVar} {v : AV} {o : List Ob} (hr : resV T s r = some (v, o)) (ho : AllOb P o) :
    (resS a r).run P w = .ok v.den w ∧ Ok (s.m C) w v := by
  cases r with
  | tmp t =>
    simp only [resV] at hr
    split at hr
    · rename_i hk
      injection hr with hr; injection hr with h1 h2; subst h1; subst h2
      have := h.slot t hk
      refine ⟨?_, this.2⟩
      simp [resS, this.1]
    · cases hr
  | cell t ty =>
    simp only [resV] at hr
    split at hr
    · rename_i key b off ti hp hti
      split at hr
      · rename_i blk hb
        obtain ⟨x, hx, he⟩ := Option.map_eq_some_iff.1 hr
        injection he with h1 h2; subst h1; subst h2
        have hat : blk.at_ = b := ho.1
        obtain ⟨h1, h2, _⟩ := h.mem _ _ hb
        obtain ⟨hok, hv⟩ := cut_ok hx h2
        have hsl := (h.slot t (by rw [hp]; rfl)).1
        rw [hp] at hsl
        have hl := run_load (P := P) (w := w) (b := blk.at_) (base := 0) (lookT_ok hT hti) (fun j u hu => by
          rw [cell_of_row w _ _ _ _ _ h1]; simpa using hu) hv
        rw [hat, Nat.zero_add] at hl
        refine ⟨?_, hok⟩
        have hl' : (loadVar ty ⟨b, off, none⟩).run P w = .ok x.den w := by simpa [Instr.loadAt, Instr.sureAddr] using hl
        simp [resS, hsl, AV.den, asAddr, hl']
      · cases hr
    · cases hr
theorem resL_ok (hT : TabOK P T) (h : Fits C s a w) : ∀ {l : List ResultVar} {vs : List AV} {o : List Ob}, resL T s l = some (vs, o) → AllOb P o →
    (l.mapM (resS a)).run P w = .ok (vs.map AV.den) w ∧ ∀ v ∈ vs, Ok (s.m C) w v
  | [], vs, o, hr, _ => by simp [resL] at hr; obtain ⟨rfl, rfl⟩ := hr; simp
  | r :: l, vs, o, hr, ho => by
    simp only [resL] at hr
    split at hr
    · rename_i v o1 vs' os h1 h2
      injection hr with hr; injection hr with e1 e2; subst e1; subst e2
      obtain ⟨g1, g2⟩ := AllOb.app.1 ho
      obtain ⟨r1, k1⟩ := resV_ok hT h h1 g1
      obtain ⟨r2, k2⟩ := resL_ok hT h h2 g2
      refine ⟨?_, fun x hx => ?_⟩
      · rw [List.mapM_cons, Sem.run_bind, r1]
        simp only [Result.andThen_ok, Sem.run_bind, r2, Sem.run_pure, List.map_cons]
      · rcases List.mem_cons.1 hx with rfl | hx
        · exact k1
        · exact k2 x hx
    · cases hr
/-- the end of a call -/
theorem results_ok (hT : TabOK P T) (h : Fits C s a w) {fn : Func} {rs : List ResultVar} (hfn : fn.results = rs.toArray) {r : List AV × List Ob} (hr : resL T s rs = some r) (ho : AllOb P r.2) :
    (results fn a.tmps).run P w = .ok (resA r.1).den w ∧ Ok (s.m C) w (resA r.1) := by
  obtain ⟨vs, o⟩ := r
  obtain ⟨h1, h2⟩ := resL_ok hT h hr ho
  constructor
  · have h1' : (fn.results.mapM (resS a)).run P w = .ok (vs.map AV.den).toArray w := by
      rw [hfn, List.mapM_toArray]
      simp [h1]
    have e : results fn a.tmps = (do let vs ← fn.results.mapM (resS a); pure (if h : vs.size = 1 then vs[0] else .tuple vs)) := by
      unfold results
      congr 2
    rw [e, Sem.run_bind, h1']
    cases vs with
    | nil => rfl
    | cons v vs => cases vs with
      | nil => rfl
      | cons u us => simp [resA, AV.den, denL_map, AV.denL]
  · cases vs with
    | nil => exact .tup _ (fun v hv => by cases hv)
    | cons v vs => cases vs with
      | nil => exact h2 v (by simp)
      | cons u us => exact .tup _ h2
theorem ret_ok (hT : TabOK P T) (h : Fits C s a w) (hds : C.ds = []) {fn : Func} {R : Ending → World → Prop} {rs : List ResultVar} (hfn : fn.results = rs.toArray) {r : List AV × List Ob} (hr : resL T s rs = some r) (ho : AllOb P r.2)
    (hR : Ok (s.m C) w (resA r.1) → R (.returned (resA r.1).den) w) : bodyPost P fn R .ret a w ∧ bodyPost P fn R .normal a w := by
  obtain ⟨h1, h2⟩ := results_ok hT h hfn hr ho
  exact ⟨⟨h.defers.trans hds, _, h1, hR h2⟩, ⟨h.defers.trans hds, _, h1, hR h2⟩⟩
/-- what a call's end says, to those who called: only new memory -/
theorem done_ok {m : Nat → Nat → Prop} {w0 : World} (h : Fits ⟨m, w0, fun _ => False, []⟩ s a w) {v : AV} (hv : Ok (s.m ⟨m, w0, fun _ => False, []⟩) w v) : Ok m w v ∧ Below w0.heap.size w0 w :=
  ⟨hv.mono fun b o u h1 h2 => ⟨h1, fun hm => h2 (.inl hm)⟩, h.chg.below (Nat.le_refl _) fun k hk => hk.elim⟩
end
end Go.Proofs.YtkamdppnnhjajaaDoor.Sym

namespace Go.Proofs.YtkamdppnnhjajaaDoor.Sym
open Go.RowKit
set_option linter.unusedVariables false
set_option linter.unusedSimpArgs false

/-! ### what an operation gives hangs on what it looks at alone -/
def AgT (s s' : St) (U : List Nat) : Prop := ∀ t ∈ U, look s.tmps t = look s'.tmps t ∧ lookG s.gs t = lookG s'.gs t
def AgM (s s' : St) (R : List Nat) : Prop := ∀ k ∈ R, lookM s.mem k = lookM s'.mem k
def AgR (s s' : St) (R : List Nat) : Prop := ∀ k ∈ R, lookM s.gr k = lookM s'.gr k
theorem AgT.sub {s s' : St} {U V : List Nat} (h : AgT s s' U) (hs : ∀ t ∈ V, t ∈ U) : AgT s s' V := fun t ht => h t (hs t ht)
theorem tl_mem {l : List Operand} {t : Nat} (h : Operand.tmp t ∈ l) : t ∈ tl l := by
  induction l with
  | nil => cases h
  | cons x l ih =>
    rcases List.mem_cons.1 h with h | h
    · subst h; simp [tl]
    · have := ih h
      cases x <;> simp [tl, this]
section
variable {s s' : St} {q : List (Nat × Bool)} {A : Alg} {T : List (Nat × TI)} {cs : List (Nat × CS)} {x : Atom} {i d ty : Nat}
theorem val_local {U : List Nat} (h : AgT s s' U) (q : List (Nat × Bool)) {y : Operand} (hy : ∀ t, y = .tmp t → t ∈ U) : val s q y = val s' q y := by
  cases y with
  | tmp t =>
    obtain ⟨h1, h2⟩ := h t (hy t rfl)
    simp only [val, h1, h2]
  | _ => rfl
theorem vals_local {U : List Nat} (h : AgT s s' U) (q : List (Nat × Bool)) : ∀ {l : List Operand}, (∀ t ∈ tl l, t ∈ U) → vals s q l = vals s' q l
  | [], _ => rfl
  | y :: l, hl => by
    have h1 : val s q y = val s' q y := val_local h q fun t ht => hl t (tl_mem (by simp [ht]))
    have h2 := vals_local h q (l := l) (fun t ht => hl t (by cases y <;> simp [tl, ht]))
    simp only [vals, h1, h2]
theorem tl_appL {t : Nat} : ∀ {l r : List Operand}, t ∈ tl l → t ∈ tl (l ++ r)
  | y :: l, r, h => by
    have ih := tl_appL (t := t) (l := l) (r := r)
    cases y <;> simp [tl] at h ⊢ <;> first | exact ih h | (rcases h with h | h; exact .inl h; exact .inr (ih h))
theorem tl_appR {t : Nat} : ∀ {l r : List Operand}, t ∈ tl r → t ∈ tl (l ++ r)
  | [], r, h => h
  | y :: l, r, h => by
    have ih := tl_appR (t := t) (l := l) (r := r) h
    cases y <;> simp [tl] <;> first | exact ih | exact .inr ih
theorem valsP_local {U : List Nat} (h : AgT s s' U) (q : List (Nat × Bool)) : ∀ {l : List (Nat × Operand)}, (∀ t ∈ tl (l.map (·.2)), t ∈ U) → valsP s q l = valsP s' q l
  | [], _ => rfl
  | (k, y) :: l, hl => by
    have h1 : val s q y = val s' q y := val_local h q fun t ht => hl t (tl_mem (by simp [ht]))
    have h2 := valsP_local h q (l := l) (fun t ht => hl t (by cases y <;> simp [tl, ht]))
    simp only [valsP, h1, h2]
theorem bound_local {U : List Nat} (h : AgT s s' U) (q : List (Nat × Bool)) (dd : Int) {o : Option Operand} (ho : ∀ t ∈ tl o.toList, t ∈ U) : bound A s q dd o = bound A s' q dd o := by
  cases o with
  | none => rfl
  | some y =>
    have h1 : val s q y = val s' q y := val_local h q fun t ht => ho t (tl_mem (by simp [ht]))
    simp only [bound, h1]
theorem stepAppend_local {v1 v2 : AV} {t1 : Nat} (hR : AgR s s' (growKey v1)) : stepAppend A T x s d t1 v1 v2 = stepAppend A T x s' d t1 v1 v2 := by
  unfold stepAppend
  cases v1 with
  | sl g A1 n c k cells =>
    cases v2 with
    | sl g2 A2 n2 c2 k2 cells2 =>
      cases lookT T t1 with
      | none => rfl
      | some ti =>
        cases g with
        | none => rfl
        | some key =>
          have e : lookM s.gr key = lookM s'.gr key := hR key (by simp [growKey])
          simp only [e]
    | _ => rfl
  | _ => rfl
theorem preOf_local {l : List (Nat × List AV)} {K : List Nat} (hK : AgM s s' K) (hl : ∀ e ∈ l, e.1 ∈ K) : preOf s l = preOf s' l := by
  induction l with
  | nil => rfl
  | cons y l ih =>
    obtain ⟨k, c⟩ := y
    have h1 : lookM s.mem k = lookM s'.mem k := hK k (hl (k, c) (by simp))
    simp only [preOf, h1, ih fun e he => hl e (List.mem_cons_of_mem _ he)]
theorem preOf_map {l : List (Nat × List AV)} {pre : List (Nat × Blk)} (h : preOf s l = some pre) : l.map (·.1) = pre.map (·.1) := by
  induction l generalizing pre with
  | nil => simp [preOf] at h; subst h; rfl
  | cons y l ih =>
    obtain ⟨k, c⟩ := y
    simp only [preOf] at h
    split at h
    · rename_i b r hb hr
      injection h with h; subst h
      simp [ih hr]
    · cases h
theorem stepCall_local {v : AV} {o : Option CS} {l : Option (List AV)} {r : AV × Eff × List Ob} (h : stepCall s x v o l = some r) (hR : AgM s s' (wkOf r.2.1)) : stepCall s' x v o l = some r := by
  unfold stepCall at h ⊢
  split at h
  · exact h
  · rename_i res a
    split at h
    · rename_i pre hp
      split at h
      · rename_i hn
        injection h with h; subst h
        have hk := preOf_map hp
        have := preOf_local (l := (res x).sets) hR (fun e he => by
          have : e.1 ∈ (res x).sets.map (·.1) := List.mem_map.2 ⟨e, he, rfl⟩
          rw [hk, ← upd_keys hk] at this
          simp only [wkOf, List.map_append]
          exact List.mem_append_left _ this)
        rw [← this, hp]
        simp only [hn, if_true]
      · cases h
    · cases h
  · cases h
theorem step_local {op : Op} {r : AV × Eff × List Ob} (hr : step A T cs x i s q d ty op = some r) (hU : AgT s s' (tmpsOf op)) (hR' : AgM s s' (rkOf s q op ++ wkOf r.2.1)) (hG : AgR s s' (rgOf s q op)) : step A T cs x i s' q d ty op = some r ∧ rkOf s q op = rkOf s' q op ∧ rgOf s q op = rgOf s' q op := by
  have hR : AgM s s' (rkOf s q op) := fun k hk => hR' k (List.mem_append_left _ hk)
  have hW : AgM s s' (wkOf r.2.1) := fun k hk => hR' k (List.mem_append_right _ hk)
  suffices hh : (step A T cs x i s q d ty op = step A T cs x i s' q d ty op ∨ step A T cs x i s' q d ty op = some r) ∧ rkOf s q op = rkOf s' q op ∧ rgOf s q op = rgOf s' q op by
    refine ⟨?_, hh.2⟩
    rcases hh.1 with h | h
    · rw [← h]; exact hr
    · exact h
  have V : ∀ q {y : Operand}, (∀ t, y = .tmp t → t ∈ tmpsOf op) → val s q y = val s' q y := fun q y hy => val_local hU q hy
  cases op with
  | move y => simp only [step, rkOf, rgOf, V q (y := y) (fun t ht => by subst ht; simp [tmpsOf, tl])]; exact ⟨.inl trivial, trivial, trivial⟩
  | makeFunc fn first cap =>
    have h1 := vals_local hU q (l := first.toList) (fun t ht => by simp only [tmpsOf]; exact tl_appL ht)
    have h2 := vals_local hU q (l := cap.toList) (fun t ht => by simp only [tmpsOf]; exact tl_appR ht)
    simp only [step, rkOf, rgOf, h1, h2]; exact ⟨.inl trivial, trivial, trivial⟩
  | makeInterface t y => simp only [step, rkOf, rgOf, V q (y := y) (fun t ht => by subst ht; simp [tmpsOf, tl])]; exact ⟨.inl trivial, trivial, trivial⟩
  | nilCheck y => simp only [step, rkOf, rgOf, V q (y := y) (fun t ht => by subst ht; simp [tmpsOf, tl])]; exact ⟨.inl trivial, trivial, trivial⟩
  | assign y => simp only [step, rkOf, rgOf, V q (y := y) (fun t ht => by subst ht; simp [tmpsOf, tl])]; exact ⟨.inl trivial, trivial, trivial⟩
  | box t y => simp only [step, rkOf, rgOf, V q (y := y) (fun t ht => by subst ht; simp [tmpsOf, tl])]; exact ⟨.inl trivial, trivial, trivial⟩
  | extract y n => simp only [step, rkOf, rgOf, V q (y := y) (fun t ht => by subst ht; simp [tmpsOf, tl])]; exact ⟨.inl trivial, trivial, trivial⟩
  | unOp o t y => simp only [step, rkOf, rgOf, V q (y := y) (fun t ht => by subst ht; simp [tmpsOf, tl])]; exact ⟨.inl trivial, trivial, trivial⟩
  | fieldAddr t y f => simp only [step, rkOf, rgOf, V q (y := y) (fun t ht => by subst ht; simp [tmpsOf, tl])]; exact ⟨.inl trivial, trivial, trivial⟩
  | field t y f => simp only [step, rkOf, rgOf, V q (y := y) (fun t ht => by subst ht; simp [tmpsOf, tl])]; exact ⟨.inl trivial, trivial, trivial⟩
  | convert t t' y => simp only [step, rkOf, rgOf, V q (y := y) (fun t ht => by subst ht; simp [tmpsOf, tl])]; exact ⟨.inl trivial, trivial, trivial⟩
  | binOp o t y z t' =>
    simp only [step, rkOf, rgOf, V q (y := y) (fun t ht => by subst ht; simp [tmpsOf, tl]), V q (y := z) (fun t ht => by subst ht; cases y <;> simp [tmpsOf, tl])]; exact ⟨.inl trivial, trivial, trivial⟩
  | indexAddr t y z =>
    simp only [step, rkOf, rgOf, V q (y := y) (fun t ht => by subst ht; simp [tmpsOf, tl]), V q (y := z) (fun t ht => by subst ht; cases y <;> simp [tmpsOf, tl])]; exact ⟨.inl trivial, trivial, trivial⟩
  | index t y z =>
    simp only [step, rkOf, rgOf, V q (y := y) (fun t ht => by subst ht; simp [tmpsOf, tl]), V q (y := z) (fun t ht => by subst ht; cases y <;> simp [tmpsOf, tl])]; exact ⟨.inl trivial, trivial, trivial⟩
  | load t p =>
    have hp := V q (y := p) (fun t ht => by subst ht; simp [tmpsOf, tl])
    simp only [rkOf, hp] at hR ⊢
    refine ⟨.inl ?_, trivial, rfl⟩
    simp only [step, hp]
    cases hv : val s' q p with
    | ptr key b off =>
      have this : lookM s.mem key = lookM s'.mem key := hR key (by rw [hv]; simp [keyOf])
      cases lookT T t with
      | none => rfl
      | some ti => simp only [this]
    | _ => cases lookT T t <;> rfl
  | store t p y =>
    have hp := V q (y := p) (fun t ht => by subst ht; simp [tmpsOf, tl])
    have hy := V q (y := y) (fun t ht => by subst ht; cases p <;> simp [tmpsOf, tl])
    simp only [rkOf, hp] at hR ⊢
    refine ⟨.inl ?_, trivial, rfl⟩
    simp only [step, hp, hy]
    cases hv : val s' q p with
    | ptr key b off =>
      have this : lookM s.mem key = lookM s'.mem key := hR key (by rw [hv]; simp [keyOf])
      cases lookT T t with
      | none => rfl
      | some ti => simp only [this]
    | _ => cases lookT T t <;> rfl
  | pick c y z =>
    refine ⟨.inl ?_, rfl, rfl⟩
    cases c with
    | tmp c =>
      have h1 := V q (y := .tmp c) (fun t ht => by injection ht with ht; subst ht; simp [tmpsOf, tl])
      have h2 := fun q => V q (y := y) (fun t ht => by subst ht; simp [tmpsOf, tl])
      have h3 := fun q => V q (y := z) (fun t ht => by subst ht; cases y <;> simp [tmpsOf, tl])
      simp only [step, h1, h2, h3]
    | _ => rfl
  | build t ps =>
    refine ⟨.inl ?_, rfl, rfl⟩
    have := valsP_local hU q (l := ps.toList) (fun t ht => ht)
    simp only [step, this]
  | buildSlice t n ps =>
    refine ⟨.inl ?_, rfl, rfl⟩
    have := valsP_local hU q (l := ps.toList) (fun t ht => ht)
    simp only [step, this]
  | slice t y lo hi mx =>
    refine ⟨.inl ?_, rfl, rfl⟩
    cases mx with
    | some m =>
      have h1 := V q (y := y) (fun t ht => by subst ht; simp [tmpsOf, tl])
      have h2 : ∀ dd, bound A s q dd lo = bound A s' q dd lo := fun dd => bound_local hU q dd (fun t ht => tl_appR (l := [y]) (tl_appL ht))
      have h3 : ∀ dd, bound A s q dd hi = bound A s' q dd hi := fun dd => bound_local hU q dd (fun t ht => tl_appR (l := [y]) (tl_appR (tl_appL ht)))
      have h4 : ∀ dd, bound A s q dd (some m) = bound A s' q dd (some m) := fun dd => bound_local hU q dd (fun t ht => tl_appR (l := [y]) (tl_appR (tl_appR ht)))
      simp only [step, h1, h2, h3, h4]
    | none =>
      have h1 := V q (y := y) (fun t ht => by subst ht; simp [tmpsOf, tl])
      have h2 : ∀ dd, bound A s q dd lo = bound A s' q dd lo := fun dd => bound_local hU q dd (fun t ht => tl_appR (l := [y]) (tl_appL ht))
      have h3 : ∀ dd, bound A s q dd hi = bound A s' q dd hi := fun dd => bound_local hU q dd (fun t ht => tl_appR (l := [y]) (tl_appR (tl_appL ht)))
      simp only [step, h1, h2, h3]
  | call c =>
    have h1 := vals_local hU q (l := c.args.toList) (fun t ht => by simp only [tmpsOf]; exact tl_appR ht)
    have hv : ∀ y, y ∈ c.args.toList → val s q y = val s' q y := fun y hy => V q (fun t ht => by subst ht; simp only [tmpsOf]; exact tl_appR (tl_mem hy))
    have hrg : rgOf s q (.call c) = rgOf s' q (.call c) := by
      simp only [rgOf]
      cases ha : c.args.toList with
      | nil => rfl
      | cons o r => exact congrArg growKey (hv o (by rw [ha]; simp))
    refine ⟨?_, rfl, hrg⟩
    cases hc : c.callee with
    | builtin b =>
      refine .inl ?_
      simp only [step, h1, hc]
      cases b with
      | len =>
        simp only
        split
        · rename_i y t hy _
          rw [hv y (by rw [hy]; simp)]
        · rfl
      | append =>
        simp only
        split
        · rename_i y z t1 t2 hy _
          have e1 := hv y (by rw [hy]; simp)
          have e2 := hv z (by rw [hy]; simp)
          rw [e1, e2]
          have hG' : AgR s s' (growKey (val s' q y)) := by
            have : rgOf s q (.call c) = growKey (val s q y) := by simp only [rgOf, hy]
            rw [this, e1] at hG
            exact hG
          rw [stepAppend_local hG']
        · rfl
      | _ => rfl
    | value g =>
      have hg := V q (y := g) (fun t ht => by subst ht; simp only [tmpsOf, hc, calleeOps]; exact tl_appL (by simp [tl]))
      refine .inr ?_
      simp only [step, hc] at hr ⊢
      rw [hg, h1] at hr
      exact stepCall_local hr hW
    | invoke y m =>
      refine .inl ?_
      simp only [step, hc]
  | _ => exact ⟨.inl rfl, rfl, rfl⟩
theorem conds_local : ∀ {p : List (Nat × Bool)}, AgT s s' (p.map (·.1)) → conds s p = conds s' p
  | [], _ => rfl
  | (t, b) :: p, h => by
    obtain ⟨h1, h2⟩ := h t (by simp)
    have ih := conds_local (p := p) (h.sub fun k hk => by simp only [List.map_cons, List.mem_cons]; exact .inr hk)
    have hv : slotV s t = slotV s' t := by simp only [slotV, h1, h2]
    simp only [conds, hv, ih]
theorem inNt_local (hn : s.nt = s'.nt) (d : Option Nat) : inNt s d = inNt s' d := by cases d <;> simp [inNt, hn]
theorem runU_local {o : Oper} {ex : List Nat} {r : Delta × List Ob × Foot} (h : runU A T cs x i o s ex = some r) (hU : AgT s s' r.2.2.cons) (hR : AgM s s' r.2.2.rk) (hG : AgR s s' r.2.2.rg) (hn : s.nt = s'.nt) : runU A T cs x i o s' ex = some r := by
  unfold runU at h ⊢
  split at h
  · rename_i v e obs hst hnt
    injection h with h; subst h
    obtain ⟨h1, h2, h3⟩ := step_local hst (hU.sub fun t ht => List.mem_append_left _ ht) hR hG
    rw [h1, ← inNt_local hn, hnt, ← h2, ← h3]
  · cases h
theorem skipU_local {o : Oper} {ex : List Nat} (hn : s.nt = s'.nt) : skipU o s ex = skipU o s' ex := by
  unfold skipU; rw [inNt_local hn]
theorem runG_local {o : Oper} {ex : List Nat} {r : Delta × List Ob × Foot} (h : runG A T cs x i o s ex q = some r) (hU : AgT s s' r.2.2.cons) (hR : AgM s s' r.2.2.rk) (hG : AgR s s' r.2.2.rg) (hn : s.nt = s'.nt) : runG A T cs x i o s' ex q = some r := by
  unfold runG at h ⊢
  split at h
  · cases h
  · rename_i d hd
    split at h
    · rename_i v obs c hst hc
      split at h
      · rename_i hb
        injection h with h; subst h
        obtain ⟨h1, h2, h4⟩ := step_local hst (hU.sub fun t ht => List.mem_append_left _ ht) (by simpa [wkOf] using hR) hG
        have h3 := conds_local (p := q) (hU.sub fun t ht => List.mem_append_right _ (List.mem_append_right _ ht))
        simp only [h1, ← h3, hc, ← hn, ← h2, ← h4]
        rw [if_pos hb]
      · cases h
    · cases h
theorem delta_g {o : Oper} {all : List Oper} {r : Delta × List Ob × Foot} (h : delta A T cs x all i o s = some r) {j : Nat} {want : Bool} (hg : o.guard = some (j, want)) {g : Nat} (hb : (all[j]?).bind (·.dst) = some g) : g ∈ r.2.2.cons := by
  have hu : ∀ {r}, runU A T cs x i o s [g] = some r → g ∈ r.2.2.cons := by
    intro r h
    unfold runU at h
    split at h
    · injection h with h; subst h; simp
    · cases h
  have hsk : ∀ {r}, skipU o s [g] = some r → g ∈ r.2.2.cons := by
    intro r h
    unfold skipU at h
    split at h
    · injection h with h; subst h; simp
    · cases h
  have hr : ∀ {q r}, runG A T cs x i o s [g] q = some r → g ∈ r.2.2.cons := by
    intro q r h
    unfold runG at h
    split at h
    · cases h
    · split at h
      · split at h
        · injection h with h; subst h; simp
        · cases h
      · cases h
  simp only [delta, hg, hb] at h
  split at h
  · split at h
    · exact hr h
    · exact hsk h
  · split at h
    · exact hsk h
    · exact hr h
  · exact hr h
  · cases h
  · split at h
    · split at h
      · exact hu h
      · exact hsk h
    · split at h
      · exact hsk h
      · exact hu h
    · exact hr h
    · cases h
theorem delta_local {o : Oper} {all : List Oper} {r : Delta × List Ob × Foot} (h : delta A T cs x all i o s = some r) (hU : AgT s s' r.2.2.cons) (hR : AgM s s' r.2.2.rk) (hG : AgR s s' r.2.2.rg) (hn : s.nt = s'.nt) : delta A T cs x all i o s' = some r := by
  cases hg : o.guard with
  | none =>
    simp only [delta, hg] at h ⊢
    exact runU_local h hU hR hG hn
  | some jw =>
    obtain ⟨j, want⟩ := jw
    cases hb : (all[j]?).bind (·.dst) with
    | none => simp only [delta, hg, hb] at h; cases h
    | some g =>
      obtain ⟨e1, e2⟩ := hU g (delta_g h hg hb)
      simp only [delta, hg, hb, ← e1, ← e2] at h ⊢
      split at h
      · split at h
        · rename_i hw; rw [if_pos hw]; exact runG_local h hU hR hG hn
        · rename_i hw; rw [if_neg hw, ← skipU_local hn]; exact h
      · split at h
        · rename_i hw; rw [if_pos hw, ← skipU_local hn]; exact h
        · rename_i hw; rw [if_neg hw]; exact runG_local h hU hR hG hn
      · exact runG_local h hU hR hG hn
      · cases h
      · split at h
        · split at h
          · rename_i hw; rw [if_pos hw]; exact runU_local h hU hR hG hn
          · rename_i hw; rw [if_neg hw, ← skipU_local hn]; exact h
        · split at h
          · rename_i hw; rw [if_pos hw, ← skipU_local hn]; exact h
          · rename_i hw; rw [if_neg hw]; exact runU_local h hU hR hG hn
        · exact runG_local h hU hR hG hn
        · cases h
end

/-! ### what an operation leaves, looked up -/
def newT : Put → AV
  | .plain v => v
  | .guarded _ _ => .undef
def newG : Put → Option (List (Nat × Bool) × AV)
  | .plain _ => none
  | .guarded q v => some (q, v)
def newM : Eff → List (Nat × Blk)
  | .new k b => [(k, b)]
  | .set k b => [(k, b)]
  | .sets l => l
  | _ => []
def newR : Eff → Option (Nat × Gr)
  | .grow k t => some (k, t)
  | _ => none
/-- no slot of Ds is mentioned -/
def NM (s : St) (Ds : List Nat) : Prop := ∀ t p v, lookG s.gs t = some (p, v) → ∀ d ∈ Ds, ∀ x ∈ p, x.1 ≠ d
def Wf (δ : Delta) : Prop := ∀ q v, δ.p = .guarded q v → δ.d ≠ none
def dl : Option Nat → List Nat
  | none => []
  | some d => [d]
theorem mentions_of {p : List (Nat × Bool)} {d : Nat} (h : ∀ x ∈ p, x.1 ≠ d) : mentions p d = false := by
  induction p with
  | nil => rfl
  | cons y p ih =>
    obtain ⟨k, b⟩ := y
    simp only [mentions, Bool.or_eq_false_iff, beq_eq_false_iff_ne]
    exact ⟨h (k, b) (by simp), ih fun x hx => h x (by simp [hx])⟩
section
variable {s : St} {δ : Delta}
theorem eff_tmps (e : Eff) : (s.eff e).tmps = s.tmps := by cases e <;> rfl
theorem eff_gs (e : Eff) : (s.eff e).gs = s.gs := by cases e <;> rfl
theorem app_nt : (s.app δ).nt = s.nt := by
  obtain ⟨e, d, p⟩ := δ
  cases p <;> cases d <;> simp [St.app, St.put, St.putG, eff_nt]
theorem app_tmps (hw : Wf δ) (t : Nat) : look (s.app δ).tmps t = if δ.d = some t then newT δ.p else look s.tmps t := by
  obtain ⟨e, d, p⟩ := δ
  cases p with
  | plain v => cases d <;> simp [St.app, St.put, eff_tmps, look_cons, newT]
  | guarded q v => cases d with
    | none => exact absurd rfl (hw q v rfl)
    | some d => simp [St.app, St.putG, eff_tmps, look_cons, newT]
theorem app_gs (hw : Wf δ) (hn : NM s (dl δ.d)) (t : Nat) : lookG (s.app δ).gs t = if δ.d = some t then newG δ.p else lookG s.gs t := by
  obtain ⟨e, d, p⟩ := δ
  have hk : ∀ d', d = some d' → (lookG s.gs t).map (kill d') = lookG s.gs t := by
    intro d' hd
    cases hl : lookG s.gs t with
    | none => rfl
    | some x =>
      obtain ⟨p', v'⟩ := x
      have := mentions_of (hn t p' v' hl d' (by simp [hd, dl]))
      simp [kill, this]
  cases p with
  | plain v => cases d with
    | none => simp [St.app, St.put, eff_gs]
    | some d => simp [St.app, St.put, eff_gs, lookG_drop, newG, hk d rfl]
  | guarded q v => cases d with
    | none => exact absurd rfl (hw q v rfl)
    | some d =>
      simp only [St.app, St.putG, eff_gs, lookG_cons, lookG_drop, newG, hk d rfl, Option.some.injEq]
      split <;> rfl
theorem app_mem (hw : Wf δ) (k : Nat) : lookM (s.app δ).mem k = (lookM (newM δ.e) k).or (lookM s.mem k) := by
  obtain ⟨e, d, p⟩ := δ
  have he : (s.app ⟨e, d, p⟩).mem = (s.eff e).mem := by
    cases p with
    | plain v => cases d <;> rfl
    | guarded q v => cases d with
      | none => exact absurd rfl (hw q v rfl)
      | some d => rfl
  rw [he]
  cases e with
  | sets l => simp only [St.eff, newM, lookM_setsM]
  | new k' b => simp only [St.eff, newM, lookM_cons, lookM_del]; by_cases h : k' = k <;> simp [h, lookM]
  | set k' b => simp only [St.eff, newM, lookM_cons, lookM_del]; by_cases h : k' = k <;> simp [h, lookM]
  | _ => simp [St.eff, newM, lookM]
theorem app_gr (hw : Wf δ) (k : Nat) : lookM (s.app δ).gr k = match newR δ.e with | some (k', b) => if k' = k then some b else lookM s.gr k | none => lookM s.gr k := by
  obtain ⟨e, d, p⟩ := δ
  have he : (s.app ⟨e, d, p⟩).gr = (s.eff e).gr := by
    cases p with
    | plain v => cases d <;> rfl
    | guarded q v => cases d with
      | none => exact absurd rfl (hw q v rfl)
      | some d => rfl
  rw [he]
  cases e <;> simp only [St.eff, newR, lookM_cons, lookM_del] <;> (repeat (first | rfl | split)) <;> simp_all
theorem app_alike {s' : St} (hw : Wf δ) (h : Alike s s') (hn : NM s (dl δ.d)) : Alike (s.app δ) (s'.app δ) := by
  have hn' : NM s' (dl δ.d) := fun t p v hl => hn t p v (by rw [h.gs]; exact hl)
  refine ⟨by rw [app_nt, app_nt]; exact h.nt, fun t => ?_, fun t => ?_, fun k => ?_, fun k => ?_⟩
  · rw [app_tmps hw, app_tmps hw, h.tmps]
  · rw [app_gs hw hn, app_gs hw hn', h.gs]
  · rw [app_mem hw, app_mem hw, h.mem]
  · rw [app_gr hw, app_gr hw, h.gr]
end
theorem NM.sub {s : St} {D E : List Nat} (h : NM s D) (hs : ∀ d ∈ E, d ∈ D) : NM s E := fun t p v hl d hd => h t p v hl d (hs d hd)
theorem NM.app {s : St} {δ : Delta} {D : List Nat} (h : NM s D) (hw : Wf δ) (hd : NM s (dl δ.d)) (hq : ∀ q v, δ.p = .guarded q v → ∀ d ∈ D, ∀ x ∈ q, x.1 ≠ d) : NM (s.app δ) D := by
  intro t p v hl
  rw [app_gs hw hd] at hl
  split at hl
  · cases hp : δ.p with
    | plain v' => rw [hp] at hl; cases hl
    | guarded q v' => rw [hp] at hl; injection hl with hl; injection hl with h1 h2; subst h1; exact hq q v' hp
  · exact h t p v hl
/-- of two that do not touch each other it plays no part which one is first -/
theorem app_swap {s : St} {δ ε : Delta} (hδ : Wf δ) (hε : Wf ε) (h1 : NM s (dl δ.d)) (h2 : NM s (dl ε.d)) (h3 : NM (s.app δ) (dl ε.d)) (h4 : NM (s.app ε) (dl δ.d)) (hd : ∀ t, δ.d = some t → ε.d ≠ some t)
    (hm : ∀ k b b', lookM (newM δ.e) k = some b → lookM (newM ε.e) k = some b' → False) (hg : ∀ k b k' b', newR δ.e = some (k, b) → newR ε.e = some (k', b') → k ≠ k') : Alike ((s.app δ).app ε) ((s.app ε).app δ) := by
  refine ⟨by simp only [app_nt], fun t => ?_, fun t => ?_, fun k => ?_, fun k => ?_⟩
  · rw [app_tmps hε, app_tmps hδ, app_tmps hδ, app_tmps hε]
    by_cases e1 : δ.d = some t
    · rw [if_neg (hd t e1), if_pos e1, if_pos e1]
    · by_cases e2 : ε.d = some t <;> simp [e1, e2]
  · rw [app_gs hε h3, app_gs hδ h1, app_gs hδ h4, app_gs hε h2]
    by_cases e1 : δ.d = some t
    · rw [if_neg (hd t e1), if_pos e1, if_pos e1]
    · by_cases e2 : ε.d = some t <;> simp [e1, e2]
  · rw [app_mem hε, app_mem hδ, app_mem hδ, app_mem hε]
    cases hx : lookM (newM δ.e) k with
    | none => cases lookM (newM ε.e) k <;> rfl
    | some b =>
      cases hy : lookM (newM ε.e) k with
      | none => rfl
      | some b' => exact (hm k b b' hx hy).elim
  · rw [app_gr hε, app_gr hδ, app_gr hδ, app_gr hε]
    cases hx : newR δ.e with
    | none => cases newR ε.e <;> rfl
    | some kb =>
      obtain ⟨k1, b1⟩ := kb
      cases hy : newR ε.e with
      | none => rfl
      | some kb' =>
        obtain ⟨k2, b2⟩ := kb'
        have := hg k1 b1 k2 b2 hx hy
        simp only
        by_cases e1 : k1 = k
        · subst e1; simp [fun h : k2 = k1 => this h.symm]
          intro h; exact absurd h.symm this
        · simp [e1]

/-! ### what a footprint tells -/
theorem newM_wk {e : Eff} {k : Nat} {b : Blk} (h : lookM (newM e) k = some b) : k ∈ wkOf e := by
  cases e with
  | sets l => exact List.mem_map.2 ⟨_, lookM_mem h, rfl⟩
  | new k' b' => have := lookM_mem h; simp [newM] at this; simp [wkOf, this]
  | set k' b' => have := lookM_mem h; simp [newM] at this; simp [wkOf, this]
  | _ => cases h
structure FootOK (r : Delta × List Ob × Foot) : Prop where
  wf : Wf r.1
  d : r.2.2.d = r.1.d
  wk : ∀ k b, lookM (newM r.1.e) k = some b → k ∈ r.2.2.wk
  wg : ∀ k b, newR r.1.e = some (k, b) → k ∈ r.2.2.wg
  qs : ∀ q v, r.1.p = .guarded q v → ∀ x ∈ q, x.1 ∈ r.2.2.qs
theorem delta_foot {A : Alg} {T : List (Nat × TI)} {cs : List (Nat × CS)} {x : Atom} {all : List Oper} {i : Nat} {o : Oper} {s : St} {r : Delta × List Ob × Foot} (h : delta A T cs x all i o s = some r) : FootOK r := by
  have hu : ∀ {ex r}, runU A T cs x i o s ex = some r → FootOK r := by
    intro ex r h
    unfold runU at h
    split at h
    · rename_i v e obs _ _
      injection h with h; subst h
      refine ⟨(fun q v h => by cases h), rfl, fun k b h => ?_, fun k b h => ?_, (fun q v h => by cases h)⟩
      · exact newM_wk h
      · cases e <;> simp [newR] at h <;> simp [wgOf, h]
    · cases h
  have hsk : ∀ {ex r}, skipU o s ex = some r → FootOK r := by
    intro ex r h
    unfold skipU at h
    split at h
    · injection h with h; subst h
      exact ⟨(fun q v h => by cases h), rfl, (fun k b h => by cases h), (fun k b h => by cases h), (fun q v h => by cases h)⟩
    · cases h
  have hr : ∀ {ex q r}, runG A T cs x i o s ex q = some r → FootOK r := by
    intro ex q r h
    unfold runG at h
    split at h
    · cases h
    · rename_i d hd
      split at h
      · split at h
        · injection h with h; subst h
          refine ⟨(fun q v h => by rw [hd]; simp), rfl, (fun k b h => by cases h), (fun k b h => by cases h), (fun q' v' h y hy => ?_)⟩
          injection h with h1 h2; subst h1
          exact List.mem_map.2 ⟨y, hy, rfl⟩
        · cases h
      · cases h
  cases hg : o.guard with
  | none => simp only [delta, hg] at h; exact hu h
  | some jw =>
    obtain ⟨j, want⟩ := jw
    simp only [delta, hg] at h
    split at h
    · cases h
    · split at h
      · split at h
        · exact hr h
        · exact hsk h
      · split at h
        · exact hsk h
        · exact hr h
      · exact hr h
      · cases h
      · split at h
        · split at h
          · exact hu h
          · exact hsk h
        · split at h
          · exact hsk h
          · exact hu h
        · exact hr h
        · cases h
end Go.Proofs.YtkamdppnnhjajaaDoor.Sym

namespace Go.Proofs.YtkamdppnnhjajaaDoor.Sym
open Go.RowKit
set_option linter.unusedVariables false
set_option linter.unusedSimpArgs false

def disj (l r : List Nat) : Bool := l.all fun x => !(r.contains x)
theorem disj_ok {l r : List Nat} (h : disj l r = true) : ∀ x ∈ l, x ∉ r := by
  intro x hx hr
  have := List.all_eq_true.1 h x hx
  simp [hr] at this
/-- may two operations change places? -/
def comm (f g : Foot) : Bool := disj (dl f.d) g.qs && disj (dl f.d) g.cons && disj (dl g.d) f.cons && disj (dl f.d) (dl g.d) && disj f.wk g.rk && disj g.wk f.rk && disj f.wk g.wk && disj f.wg g.rg && disj g.wg f.rg && disj f.wg g.wg
section
variable {A : Alg} {T : List (Nat × TI)} {cs : List (Nat × CS)} {X : Nat → Atom} {all : List Oper}
/-- the slots that are still to be written -/
def ds (fs : List Foot) : List Nat := fs.flatMap fun f => dl f.d
theorem ds_mem {fs : List Foot} {g : Foot} (hg : g ∈ fs) {d : Nat} (hd : d ∈ dl g.d) : d ∈ ds fs := List.mem_flatMap.2 ⟨g, hg, hd⟩
theorem ds_of {fs : List Foot} {d : Nat} (hd : d ∈ ds fs) : ∃ g ∈ fs, d ∈ dl g.d := List.mem_flatMap.1 hd
/-- no operation is guarded by a slot that a later one writes -/
def Ord (fs : List Foot) : Prop := fs.Pairwise fun f g => disj (dl g.d) f.qs = true
theorem nm_of {r : Delta × List Ob × Foot} (hf : FootOK r) {s : St} {fs gs : List Foot} (hn : NM s (ds fs)) (hm : r.2.2 ∈ fs) (hs : ∀ g ∈ gs, g ∈ fs) (hq : ∀ g ∈ gs, disj (dl g.d) r.2.2.qs = true) : NM s (dl r.1.d) ∧ NM (s.app r.1) (ds gs) := by
  have h1 : NM s (dl r.1.d) := hn.sub fun d hd => ds_mem hm (by rw [hf.d]; exact hd)
  refine ⟨h1, NM.app (hn.sub fun d hd => ?_) hf.wf h1 fun q v hp d hd x hx e => ?_⟩
  · obtain ⟨g, hg, hgd⟩ := ds_of hd
    exact ds_mem (hs g hg) hgd
  · obtain ⟨g, hg, hgd⟩ := ds_of hd
    exact disj_ok (hq g hg) d hgd (e ▸ hf.qs q v hp x hx)
theorem exec_alike : ∀ {l : List (Nat × Oper)} {s s' τ : St} {obs : List Ob} {fs : List Foot}, exec A T cs X all l s = some (τ, obs, fs) → Alike s s' → NM s (ds fs) → Ord fs → ∃ τ', exec A T cs X all l s' = some (τ', obs, fs) ∧ Alike τ τ'
  | [], s, s', τ, obs, fs, h, ha, hn, hf => by
    simp only [exec, Option.some.injEq, Prod.mk.injEq] at h
    obtain ⟨rfl, rfl, rfl⟩ := h
    exact ⟨s', rfl, ha⟩
  | (i, o) :: l, s, s', τ, obs, fs, h, ha, hn, hf => by
    obtain ⟨δ, ob, f, r', h1, h2, h3⟩ := exec_cons h
    obtain ⟨τ1, obs1, fs1⟩ := r'
    simp only [Prod.mk.injEq] at h3
    obtain ⟨rfl, rfl, rfl⟩ := h3
    have hfo := delta_foot h1
    have hd' := delta_local h1 (s' := s') (fun t _ => ⟨ha.tmps t, ha.gs t⟩) (fun k _ => ha.mem k) (fun k _ => ha.gr k) ha.nt
    have hf' := List.pairwise_cons.1 hf
    obtain ⟨n1, n2⟩ := nm_of hfo (gs := fs1) hn (by simp) (fun g hg => by simp [hg]) hf'.1
    obtain ⟨τ', e1, e2⟩ := exec_alike h2 (app_alike hfo.wf ha n1) n2 hf'.2
    exact ⟨τ', by simp only [exec, hd', e1], e2⟩
theorem ag_app {s : St} {r : Delta × List Ob × Foot} (hf : FootOK r) (hn : NM s (dl r.1.d)) {g : Foot} (h1 : ∀ x ∈ dl r.2.2.d, x ∉ g.cons) (h2 : ∀ x ∈ r.2.2.wk, x ∉ g.rk) (h3 : ∀ x ∈ r.2.2.wg, x ∉ g.rg) : AgT s (s.app r.1) g.cons ∧ AgM s (s.app r.1) g.rk ∧ AgR s (s.app r.1) g.rg := by
  refine ⟨?_, ?_, ?_⟩
  · intro t ht
    have hne : r.1.d ≠ some t := fun e => h1 t (by rw [hf.d, e]; simp [dl]) ht
    exact ⟨by rw [app_tmps hf.wf, if_neg hne], by rw [app_gs hf.wf hn, if_neg hne]⟩
  · intro k hk
    rw [app_mem hf.wf]
    cases hx : lookM (newM r.1.e) k with
    | none => rfl
    | some b => exact absurd hk (h2 k (hf.wk k b hx))
  · intro k hk
    rw [app_gr hf.wf]
    cases hx : newR r.1.e with
    | none => rfl
    | some kb =>
      obtain ⟨k', b⟩ := kb
      have hne : k' ≠ k := fun e => h3 k' (hf.wg k' b hx) (e ▸ hk)
      simp [hne]
theorem Alike.symm {s t : St} (h : Alike s t) : Alike t s := ⟨h.nt.symm, fun k => (h.tmps k).symm, fun k => (h.gs k).symm, fun k => (h.mem k).symm, fun k => (h.gr k).symm⟩
theorem Alike.trans {s t u : St} (h : Alike s t) (h' : Alike t u) : Alike s u := ⟨h.nt.trans h'.nt, fun k => (h.tmps k).trans (h'.tmps k), fun k => (h.gs k).trans (h'.gs k), fun k => (h.mem k).trans (h'.mem k), fun k => (h.gr k).trans (h'.gr k)⟩
theorem moveFront {P : Program} {i : Nat} {o : Oper} {L2 : List (Nat × Oper)} : ∀ {L1 : List (Nat × Oper)} {s τ : St} {obs : List Ob} {fs1 : List Foot} {f : Foot} {fs2 : List Foot},
    exec A T cs X all (L1 ++ (i, o) :: L2) s = some (τ, obs, fs1 ++ f :: fs2) → fs1.length = L1.length → NM s (ds (fs1 ++ f :: fs2)) → Ord (fs1 ++ f :: fs2) → (∀ g ∈ fs1, comm g f = true) →
    ∃ δ ob, delta A T cs (X i) all i o s = some (δ, ob, f) ∧ ∃ τ' obs', exec A T cs X all (L1 ++ L2) (s.app δ) = some (τ', obs', fs1 ++ fs2) ∧ Alike τ' τ ∧ (AllOb P obs → AllOb P ob ∧ AllOb P obs')
  | [], s, τ, obs, fs1, f, fs2, h, hl, hn, hF, hc => by
    have : fs1 = [] := List.eq_nil_of_length_eq_zero hl
    subst this
    obtain ⟨δ, ob, f', r', h1, h2, h3⟩ := exec_cons h
    obtain ⟨τ1, obs1, fs1⟩ := r'
    simp only [List.nil_append, Prod.mk.injEq, List.cons.injEq] at h3
    obtain ⟨rfl, rfl, rfl, rfl⟩ := h3
    exact ⟨δ, ob, h1, τ, obs1, h2, ⟨rfl, fun _ => rfl, fun _ => rfl, fun _ => rfl, fun _ => rfl⟩, fun ha => AllOb.app.1 ha⟩
  | (j, oj) :: L1, s, τ, obs, fs1, f, fs2, h, hl, hn, hF, hc => by
    cases fs1 with
    | nil => cases hl
    | cons fj fs1 =>
      obtain ⟨δj, obj, fj', r', h1, h2, h3⟩ := exec_cons h
      obtain ⟨τ1, obs1, fsr⟩ := r'
      simp only [List.cons_append, Prod.mk.injEq, List.cons.injEq] at h3
      obtain ⟨rfl, rfl, rfl, rfl⟩ := h3
      have hfj := delta_foot h1
      have hF' := List.pairwise_cons.1 hF
      obtain ⟨n1, n2⟩ := nm_of hfj (gs := fs1 ++ f :: fs2) hn (by simp) (fun g hg => by simp only [List.cons_append, List.mem_cons]; exact .inr hg) hF'.1
      obtain ⟨δ, ob, g1, τ', obs', g2, g3, g4⟩ := moveFront (P := P) (L1 := L1) h2 (by simpa using hl) n2 hF'.2 (fun g hg => hc g (by simp [hg]))
      have hcm := hc fj (by simp)
      simp only [comm, Bool.and_eq_true] at hcm
      obtain ⟨⟨⟨⟨⟨⟨⟨⟨⟨c0, c1⟩, c2⟩, c3⟩, c4⟩, c5⟩, c6⟩, c7⟩, c8⟩, c9⟩ := hcm
      have hf := delta_foot g1
      have hFf := List.pairwise_append.1 hF'.2
      have hin : ∀ g ∈ fs1 ++ fs2, g ∈ fs1 ++ f :: fs2 := fun g hg => by
        rcases List.mem_append.1 hg with hg | hg
        · exact List.mem_append_left _ hg
        · exact List.mem_append_right _ (List.mem_cons_of_mem _ hg)
      have hq : ∀ g ∈ fj :: (fs1 ++ fs2), disj (dl g.d) f.qs = true := by
        intro g hg
        rcases List.mem_cons.1 hg with rfl | hg
        · exact c0
        · rcases List.mem_append.1 hg with hg | hg
          · have := hc g (by simp [hg])
            simp only [comm, Bool.and_eq_true] at this
            exact this.1.1.1.1.1.1.1.1.1
          · exact (List.pairwise_cons.1 hFf.2.1).1 g hg
      -- i at s
      obtain ⟨a1, a2, a3⟩ := ag_app hfj n1 (g := f) (disj_ok c1) (disj_ok c4) (disj_ok c7)
      have d1 : delta A T cs (X i) all i o s = some (δ, ob, f) := delta_local g1 (fun t ht => ⟨(a1 t ht).1.symm, (a1 t ht).2.symm⟩) (fun k hk => (a2 k hk).symm) (fun k hk => (a3 k hk).symm) app_nt
      obtain ⟨m1, m2⟩ := nm_of hf (gs := fj :: (fs1 ++ fs2)) hn (by simp) (fun g hg => by
        rcases List.mem_cons.1 hg with rfl | hg
        · simp
        · simp only [List.cons_append, List.mem_cons]; exact .inr (hin g hg)) hq
      -- j behind i
      obtain ⟨b1, b2, b3⟩ := ag_app hf m1 (g := fj) (disj_ok c2) (disj_ok c5) (disj_ok c8)
      have d2 : delta A T cs (X j) all j oj (s.app δ) = some (δj, obj, fj) := delta_local h1 b1 b2 b3 app_nt.symm
      -- the two orders come to the same
      have sw : Alike ((s.app δj).app δ) ((s.app δ).app δj) := by
        refine app_swap hfj.wf hf.wf n1 m1 (n2.sub fun d hd => ds_mem (g := f) (by simp) (by rw [hf.d]; exact hd)) (m2.sub fun d hd => ds_mem (g := fj) (by simp) (by rw [hfj.d]; exact hd)) (fun t ht ht' => ?_) (fun k b b' e1 e2 => ?_) (fun k b k' b' e1 e2 he => ?_)
        · exact disj_ok c3 t (by rw [hfj.d]; simp only; rw [ht]; simp [dl]) (by rw [hf.d]; simp only; rw [ht']; simp [dl])
        · exact disj_ok c6 k (hfj.wk k b e1) (hf.wk k b' e2)
        · subst he; exact disj_ok c9 k (hfj.wg k b e1) (hf.wg k b' e2)
      obtain ⟨nn1, nn2⟩ := nm_of hf (gs := fs1 ++ fs2) n2 (by simp) hin (fun g hg => hq g (List.mem_cons_of_mem _ hg))
      obtain ⟨τ'', e1, e2⟩ := exec_alike g2 sw nn2 (hF'.2.sublist (List.Sublist.append_left (List.sublist_cons_self _ _) _))
      refine ⟨δ, ob, d1, τ'', obj ++ obs', ?_, e2.symm.trans g3, fun ha => ?_⟩
      · simp only [List.cons_append, exec, d2, e1]
      · obtain ⟨p1, p2⟩ := AllOb.app.1 ha
        obtain ⟨p3, p4⟩ := g4 p2
        exact ⟨p3, AllOb.app.2 ⟨p1, p4⟩⟩
end

/-! ### whatever order is drawn -/
/-- whom does an operation wait for, in the end? (bits) -/
def waits (tb : List Nat) (m : Nat) : List Edge → Nat
  | [] => m
  | e :: l => waits tb (if Region.binds .any e then (m ||| 1 <<< e.on) ||| tb.getD e.on 0 else m) l
def masks : List Oper → List Nat → List Nat
  | [], tb => tb
  | o :: l, tb => masks l (tb ++ [waits tb 0 o.after.toList])
/-- it waits for it, or for one that waits for it -/
inductive WaitsFor (all : List Oper) : Nat → Nat → Prop
  | one {i j : Nat} {o : Oper} {e : Edge} : all[i]? = some o → e ∈ o.after.toList → Region.binds .any e = true → e.on = j → WaitsFor all i j
  | more {i j : Nat} {o : Oper} {e : Edge} : all[i]? = some o → e ∈ o.after.toList → Region.binds .any e = true → WaitsFor all e.on j → WaitsFor all i j
theorem waits_ok {tb : List Nat} : ∀ {l : List Edge} {m j : Nat}, (waits tb m l).testBit j = true → m.testBit j = true ∨ ∃ e ∈ l, Region.binds .any e = true ∧ (e.on = j ∨ (tb.getD e.on 0).testBit j = true)
  | [], m, j, h => .inl h
  | e :: l, m, j, h => by
    rcases waits_ok (l := l) h with h | ⟨e', h1, h2⟩
    · split at h
      · rename_i hb
        rw [Nat.testBit_or, Nat.testBit_or, Nat.one_shiftLeft, Nat.testBit_two_pow] at h
        simp only [Bool.or_eq_true, decide_eq_true_eq] at h
        rcases h with (h | h) | h
        · exact .inl h
        · exact .inr ⟨e, by simp, hb, .inl h⟩
        · exact .inr ⟨e, by simp, hb, .inr h⟩
      · exact .inl h
    · exact .inr ⟨e', by simp [h1], h2⟩
theorem masks_ok {all : List Oper} : ∀ {l : List Oper} {tb : List Nat}, all.drop tb.length = l → (∀ i j, (tb.getD i 0).testBit j = true → WaitsFor all i j) → ∀ i j, ((masks l tb).getD i 0).testBit j = true → WaitsFor all i j
  | [], tb, _, h => h
  | o :: l, tb, hl, h => by
    have ho : all[tb.length]? = some o := by
      have := congrArg (fun r => r[0]?) hl
      simpa using this
    refine masks_ok (l := l) (tb := tb ++ [waits tb 0 o.after.toList]) ?_ fun i j hij => ?_
    · have := congrArg List.tail hl
      simpa [List.tail_drop] using this
    · rcases Nat.lt_trichotomy i tb.length with hlt | he | hgt
      · refine h i j ?_
        simpa [List.getD, List.getElem?_append_left hlt] using hij
      · subst he
        have : (waits tb 0 o.after.toList).testBit j = true := by simpa [List.getD] using hij
        rcases waits_ok this with h0 | ⟨e, h1, h2, h3⟩
        · simp at h0
        · rcases h3 with h3 | h3
          · exact .one ho h1 h2 h3
          · exact .more ho h1 h2 (h _ _ h3)
      · exfalso
        have : (tb ++ [waits tb 0 o.after.toList])[i]? = none := by rw [List.getElem?_eq_none_iff]; simp; omega
        simp [List.getD, this] at hij
def edge (tb : List Nat) (i j : Nat) : Bool := (tb.getD i 0).testBit j
/-- of each two, that do not wait for each other, may they change places? and nobody waits for a later one -/
def pairsB (tb : List Nat) : List (Nat × Oper) → List Foot → Bool
  | (j, _) :: l, f :: fs => (l.zip fs).all (fun x => edge tb x.1.1 j || comm f x.2) && pairsB tb l fs
  | _, _ => true
def edgesB : List (Nat × Oper) → Bool
  | [] => true
  | (i, o) :: l => o.after.toList.all (fun e => !(Region.binds .any e) || Nat.blt e.on i) && edgesB l
def ordB : List Foot → Bool
  | [] => true
  | f :: fs => fs.all (fun g => disj (dl g.d) f.qs) && ordB fs
theorem ordB_ok : ∀ {fs : List Foot}, ordB fs = true → Ord fs
  | [], _ => .nil
  | f :: fs, h => by
    simp only [ordB, Bool.and_eq_true] at h
    exact .cons (fun g hg => List.all_eq_true.1 h.1 g hg) (ordB_ok h.2)
def drawB (l : List Oper) (fs : List Foot) : Bool := pairsB (masks l []) (number 0 l) fs && edgesB (number 0 l) && ordB fs
theorem number_get : ∀ {l : List Oper} {i : Nat} {x : Nat × Oper}, x ∈ number i l → i ≤ x.1 ∧ l[x.1 - i]? = some x.2
  | [], i, x, h => by cases h
  | o :: l, i, x, h => by
    rcases List.mem_cons.1 h with rfl | h
    · simp
    · obtain ⟨h1, h2⟩ := number_get h
      refine ⟨by omega, ?_⟩
      rw [show x.1 - i = (x.1 - (i + 1)) + 1 by omega, List.getElem?_cons_succ]
      exact h2
theorem number_mem : ∀ {l : List Oper} {i k : Nat} {o : Oper}, l[k]? = some o → (i + k, o) ∈ number i l
  | [], i, k, o, h => by simp at h
  | o' :: l, i, 0, o, h => by simp at h; subst h; simp [number]
  | o' :: l, i, k + 1, o, h => by
    have := number_mem (l := l) (i := i + 1) (k := k) (o := o) (by simpa using h)
    rw [show i + (k + 1) = i + 1 + k by omega]
    exact List.mem_cons_of_mem _ this
theorem number_sorted : ∀ (l : List Oper) (i : Nat), (number i l).Pairwise (fun x y => x.1 < y.1)
  | [], _ => .nil
  | o :: l, i => List.pairwise_cons.2 ⟨fun x hx => by have := number_lt x hx; simp only; omega, number_sorted l (i + 1)⟩
/-- the foots of the operations that are left -/
def Paired (tb : List Nat) (L : List (Nat × Oper)) (fs : List Foot) : Prop := L.length = fs.length ∧ pairsB tb L fs = true
theorem pairsB_del {tb : List Nat} {i : Nat} {o : Oper} : ∀ {L1 L2 : List (Nat × Oper)} {fs1 : List Foot} {f : Foot} {fs2 : List Foot}, fs1.length = L1.length → pairsB tb (L1 ++ (i, o) :: L2) (fs1 ++ f :: fs2) = true →
    pairsB tb (L1 ++ L2) (fs1 ++ fs2) = true ∧ ∀ (k : Nat) (x : Nat × Oper) (g : Foot), L1[k]? = some x → fs1[k]? = some g → edge tb i x.1 = true ∨ comm g f = true
  | [], L2, fs1, f, fs2, hl, h => by
    have : fs1 = [] := List.eq_nil_of_length_eq_zero hl
    subst this
    simp only [List.nil_append, pairsB, Bool.and_eq_true] at h
    exact ⟨h.2, fun k x g hx => by simp at hx⟩
  | (j, oj) :: L1, L2, fs1, f, fs2, hl, h => by
    cases fs1 with
    | nil => cases hl
    | cons fj fs1 =>
      have hl' : fs1.length = L1.length := by simpa using hl
      simp only [List.cons_append, pairsB, Bool.and_eq_true] at h ⊢
      obtain ⟨h1, h2⟩ := h
      obtain ⟨g1, g2⟩ := pairsB_del hl' h2
      have hz := List.all_eq_true.1 h1
      refine ⟨⟨List.all_eq_true.2 fun x hx => hz x ?_, g1⟩, fun k x g hx hg => ?_⟩
      · rw [List.zip_append hl'.symm] at hx ⊢
        rcases List.mem_append.1 hx with hx | hx
        · exact List.mem_append_left _ hx
        · exact List.mem_append_right _ (by simp only [List.zip_cons_cons, List.mem_cons]; exact .inr hx)
      · cases k with
        | zero =>
          simp at hx hg
          subst hx; subst hg
          have := hz ((i, o), f) (by rw [List.zip_append hl'.symm]; exact List.mem_append_right _ (by simp))
          simpa using this
        | succ k => exact g2 k x g (by simpa using hx) (by simpa using hg)
section
variable {C : Cx} {P : Program} {Q : Exit → Act → World → Prop} {T : List (Nat × TI)} {cs : List (Nat × CS)} {ops : Array Oper} {all : List Oper}
theorem getD_tf {listed : Array Bool} {k : Nat} (h : listed.getD k true = false) : listed.getD k false = false := by
  simp only [Array.getD_eq_getD_getElem?] at h ⊢
  cases hk : listed[k]? with
  | none => rfl
  | some b => rw [hk] at h; simpa using h
theorem getD_ft {listed : Array Bool} {k : Nat} (hk : k < listed.size) (h : listed.getD k false ≠ true) : listed.getD k true = false := by
  simp only [Array.getD_eq_getD_getElem?, Array.getElem?_eq_getElem hk] at h ⊢
  simpa using h
theorem any_ok {tb : List Nat} (hT : TabOK P T) (hops : ops = all.toArray) (htb : ∀ i j, edge tb i j = true → WaitsFor all i j) : ∀ (n : Nat) (L : List (Nat × Oper)) (fs : List Foot) (listed : Array Bool) (s : St) (a : Act) (w : World), L.length = n → Fits C s a w → NM s (ds fs) → Ord fs → Paired tb L fs → (∀ k o, all[k]? = some o → listed.getD k false = true → ∀ e ∈ o.after.toList, Region.binds .any e = true → listed.getD e.on false = true) →
    L.Pairwise (fun x y => x.1 < y.1) → (∀ x ∈ L, ops[x.1]? = some x.2 ∧ listed.getD x.1 true = false) → (∀ k o, ops[k]? = some o → listed.getD k true = false → (k, o) ∈ L) → listed.size = ops.size →
    (∀ x ∈ L, ∀ e ∈ x.2.after.toList, Region.binds .any e = true → e.on < x.1) →
    (∀ X, ∃ τ obs, exec std T cs X all L s = some (τ, obs, fs) ∧ AllOb P obs ∧ ∀ a' w', Fits C τ a' w' → Q .normal a' w') → wpAny P .any ops Q n listed a w
  | 0, L, fs, listed, s, a, w, hn, h, hNM, hF, hP, hDC, hsr, hL, hA, hsz, hE, hs => by
    have : L = [] := List.eq_nil_of_length_eq_zero hn
    subst this
    refine ⟨?_, ?_⟩
    · cases hr : Region.ready .any ops listed with
      | nil => rfl
      | cons i r =>
        obtain ⟨h1, o, h2, _⟩ := mem_ready.1 (hr ▸ List.mem_cons_self : i ∈ Region.ready .any ops listed)
        cases hA i o h2 h1
    · obtain ⟨τ, obs, h1, _, h2⟩ := hs (fun _ => ⟨0, fun _ => none, fun _ => 0, fun _ => .empty⟩)
      simp only [exec, Option.some.injEq, Prod.mk.injEq] at h1
      obtain ⟨rfl, _⟩ := h1
      exact h2 a w h
  | n + 1, L, fs, listed, s, a, w, hn, h, hNM, hF, hP, hDC, hsr, hL, hA, hsz, hE, hs => by
    refine ⟨fun hr => ?_, fun i hi => ?_⟩
    · -- the first one that is left may come up
      exfalso
      cases L with
      | nil => cases hn
      | cons x L =>
        obtain ⟨i0, o0⟩ := x
        obtain ⟨h1, h2⟩ := hL (i0, o0) (by simp)
        have : i0 ∈ Region.ready .any ops listed := mem_ready.2 ⟨h2, o0, h1, fun e he hb => by
          have hlt := hE (i0, o0) (by simp) e (by simpa using he) hb
          simp only at hlt
          have hi0 : i0 < ops.size := (Array.getElem?_eq_some_iff.1 h1).1
          have hon : e.on < listed.size := by rw [hsz]; omega
          by_cases hl : listed.getD e.on false = true
          · exact hl
          · exfalso
            have hm := hA e.on _ (Array.getElem?_eq_getElem (by omega)) (getD_ft hon hl)
            rcases List.mem_cons.1 hm with he' | hm
            · injection he' with he'; omega
            · have := (List.pairwise_cons.1 hsr).1 _ hm
              simp only at this; omega⟩
        rw [hr] at this
        cases this
    · obtain ⟨h1, o, h2, h3⟩ := mem_ready.1 hi
      have hin := hA i o h2 h1
      obtain ⟨L1, L2, rfl⟩ := List.append_of_mem hin
      obtain ⟨fs1, f, fs2, hlen, rfl⟩ : ∃ fs1 f fs2, fs1.length = L1.length ∧ fs = fs1 ++ f :: fs2 := by
        have hl := hP.1
        simp only [List.length_append, List.length_cons] at hl
        have hlt : L1.length < fs.length := by omega
        refine ⟨fs.take L1.length, fs[L1.length], fs.drop (L1.length + 1), by simp; omega, ?_⟩
        rw [← List.drop_eq_getElem_cons hlt, List.take_append_drop]
      obtain ⟨hP1, hcm⟩ := pairsB_del hlen hP.2
      have hcomm : ∀ g ∈ fs1, comm g f = true := by
        intro g hg
        obtain ⟨k, hk⟩ := List.getElem?_of_mem hg
        have hkl : k < L1.length := by rw [← hlen]; exact (List.getElem?_eq_some_iff.1 hk).1
        rcases hcm k _ g (List.getElem?_eq_getElem hkl) hk with he | he
        · exfalso
          have h5 := (hL L1[k] (List.mem_append_left _ (List.getElem_mem hkl))).2
          have hr := htb _ _ he
          have dc : ∀ {i j : Nat}, WaitsFor all i j → (∀ o e, all[i]? = some o → e ∈ o.after.toList → Region.binds .any e = true → listed.getD e.on false = true) → listed.getD j false = true := by
            intro i j hr
            induction hr with
            | one h1 h2 h3 h4 => intro hi; rw [← h4]; exact hi _ _ h1 h2 h3
            | more h1 h2 h3 h4 ih => intro hi; exact ih fun o e g1 g2 g3 => hDC _ o g1 (hi _ _ h1 h2 h3) e g2 g3
          have h4 := dc hr fun o' e g1 g2 g3 => by
            have : o' = o := by
              have e1 : ops[i]? = some o' := by rw [hops]; simpa using g1
              rw [h2] at e1; injection e1 with e1; exact e1.symm
            subst this
            exact h3 e (by simpa using g2) g3
          rw [getD_tf h5] at h4
          cases h4
        · exact he
      have mf : ∀ X, ∃ δ ob, delta std T cs (X i) all i o s = some (δ, ob, f) ∧ AllOb P ob ∧ ∃ τ' obs', exec std T cs X all (L1 ++ L2) (s.app δ) = some (τ', obs', fs1 ++ fs2) ∧ AllOb P obs' ∧ ∀ a' w', Fits C τ' a' w' → Q .normal a' w' := by
        intro X
        obtain ⟨τ, obs, e1, e2, e3⟩ := hs X
        obtain ⟨δ, ob, g1, τ', obs', g2, g3, g4⟩ := moveFront (P := P) e1 hlen hNM hF hcomm
        exact ⟨δ, ob, g1, (g4 e2).1, τ', obs', g2, (g4 e2).2, fun a' w' hf => e3 a' w' (hf.alike g3)⟩
      have hsrt : (L1 ++ L2).Pairwise (fun x y => x.1 < y.1) := hsr.sublist (List.Sublist.append_left (List.sublist_cons_self _ _) _)
      have hnot : ∀ x ∈ L1 ++ L2, x.1 ≠ i := by
        intro x hx
        rw [List.pairwise_append] at hsr
        obtain ⟨p1, p2, p3⟩ := hsr
        rcases List.mem_append.1 hx with hx | hx
        · have := p3 x hx (i, o) (by simp); simp only at this; omega
        · have := (List.pairwise_cons.1 p2).1 x hx; simp only at this; omega
      have key := delta_ok (C := C) (K := fun a' w' => wpAny P .any ops Q n (listed.setIfInBounds i true) a' w') (Q := Q) (cs := cs) (i := i) (o := o) hT hops h (fun x => by
        obtain ⟨δ, ob, g1, g2, _⟩ := mf (fun _ => x)
        exact ⟨_, g1, g2⟩) (fun x r a' w' hr hf => by
        have hfo := delta_foot hr
        obtain ⟨δ, ob, f'⟩ := r
        obtain ⟨δ0, ob0, g0, _⟩ := mf (fun _ => x)
        rw [hr] at g0
        injection g0 with g0; injection g0 with q1 q2; injection q2 with q2 q3
        subst q1; subst q2; subst q3
        have hinF : ∀ g ∈ fs1 ++ fs2, g ∈ fs1 ++ f' :: fs2 := fun g hg => by
          rcases List.mem_append.1 hg with hg | hg
          · exact List.mem_append_left _ hg
          · exact List.mem_append_right _ (List.mem_cons_of_mem _ hg)
        obtain ⟨n1, n2⟩ := nm_of hfo (gs := fs1 ++ fs2) hNM (by simp) hinF (fun g hg => by
          rcases List.mem_append.1 hg with hg | hg
          · have := hcomm g hg
            simp only [comm, Bool.and_eq_true] at this
            exact this.1.1.1.1.1.1.1.1.1
          · exact (List.pairwise_cons.1 (List.pairwise_append.1 hF).2.1).1 g hg)
        refine any_ok hT hops htb n (L1 ++ L2) (fs1 ++ fs2) (listed.setIfInBounds i true) (s.app δ) a' w' ?_ hf n2 ?_ ?_ ?_ hsrt ?_ ?_ (by simpa using hsz) ?_ ?_
        · simp at hn ⊢; omega
        · exact hF.sublist (List.Sublist.append_left (List.sublist_cons_self _ _) _)
        · refine ⟨?_, hP1⟩
          have := hP.1
          simp at this ⊢; omega
        · intro k ok hk hu e he hb
          by_cases hki : k = i
          · subst hki
            have : ok = o := by
              have e1 : ops[k]? = some ok := by rw [hops]; simpa using hk
              rw [h2] at e1; injection e1 with e1; exact e1.symm
            subst this
            have hl := h3 e (by simpa using he) hb
            by_cases hei : e.on = k
            · have := hE (k, ok) hin e he hb
              simp only at this; omega
            · rw [getD_set_ne false (fun e' => hei e'.symm)]; exact hl
          · rw [getD_set_ne false (fun e' => hki e'.symm)] at hu
            have hl := hDC k ok hk hu e he hb
            by_cases hei : e.on = i
            · rw [hei] at hl
              have h5 := (hL (i, o) hin).2
              simp only at h5
              rw [getD_tf h5] at hl; cases hl
            · rw [getD_set_ne false (fun e' => hei e'.symm)]; exact hl
        · intro x' hx
          have hx' : x' ∈ L1 ++ (i, o) :: L2 := by
            rcases List.mem_append.1 hx with hx | hx
            · exact List.mem_append_left _ hx
            · exact List.mem_append_right _ (List.mem_cons_of_mem _ hx)
          obtain ⟨e1, e2⟩ := hL x' hx'
          refine ⟨e1, ?_⟩
          rw [getD_set_ne true (fun e => hnot x' hx e.symm)]
          exact e2
        · intro k ok hk hu
          by_cases hki : k = i
          · subst hki
            have hlt : k < listed.size := by rw [hsz]; exact (Array.getElem?_eq_some_iff.1 h2).1
            simp [Array.getD_eq_getD_getElem?, hlt] at hu
          · rw [getD_set_ne true (fun e => hki e.symm)] at hu
            have := hA k ok hk hu
            rcases List.mem_append.1 this with hx | hx
            · exact List.mem_append_left _ hx
            · rcases List.mem_cons.1 hx with hx | hx
              · injection hx with hx; exact absurd hx hki
              · exact List.mem_append_right _ hx
        · intro x' hx
          refine hE x' ?_
          rcases List.mem_append.1 hx with hx | hx
          · exact List.mem_append_left _ hx
          · exact List.mem_append_right _ (List.mem_cons_of_mem _ hx)
        · intro X
          obtain ⟨Y, hY, hYX⟩ : ∃ Y : Nat → Atom, Y i = x ∧ ∀ j, j ≠ i → Y j = X j := ⟨fun j => if j = i then x else X j, by simp, fun j hj => by simp [hj]⟩
          obtain ⟨δ1, ob1, g1, _, τ', obs', g2, g3, g4⟩ := mf Y
          rw [hY, hr] at g1
          injection g1 with g1; injection g1 with q1 _
          subst q1
          rw [exec_congr _ _ (fun x' hx => hYX x'.1 (hnot x' hx))] at g2
          exact ⟨τ', obs', g2, g3, g4⟩)
      unfold wpOp
      simp only [h2]
      by_cases hw : Region.wanted o (yielded ops a.tmps) = true
      · rw [if_pos hw] at key ⊢
        exact .inl key
      · rw [if_neg hw] at key ⊢
        exact key
/-- a region that draws its order -/
theorem drawn_ok {s : St} {a : Act} {w : World} {id : Nat} {l : List Oper} (hm : P.follows .mixedOrders = true) (hT : TabOK P T) (kp km : List Nat) (cs : List (Nat × CS)) (h : Fits C s a w) (hgs : s.gs = []) (fs : List Foot) (hD : drawB l fs = true) (hlen : l.length = fs.length)
    {R : Alg → (Nat → Atom) → St × List Ob}
    (hex : ∀ A X, (exec A T cs X l (number 0 l) s).map (fun r => ((r.1.keep kp km, r.2.1), r.2.2)) = some (R A X, fs)) (hob : ∀ X, AllOb P (R std X).2) (hQ : ∀ X a' w', Fits C (R std X).1 a' w' → Q .normal a' w') : (Code.region id l.toArray true).wp P Q a w := by
  simp only [drawB, Bool.and_eq_true] at hD
  obtain ⟨⟨d1, d2⟩, d3⟩ := hD
  refine wp_region_any hm ?_
  have hf : Fits C s a { w with drawn := w.drawn + 1 } := h.world (fun _ _ _ => rfl) (fun _ _ _ _ _ => rfl) ⟨h.chg.os, h.chg.tape, h.chg.output, h.chg.size, h.chg.block⟩ (fun _ _ _ hc _ => hc)
  have hnl : ∀ (l : List Oper) (i : Nat), (number i l).length = l.length := by
    intro l
    induction l with
    | nil => intro i; rfl
    | cons o l ih => intro i; simp [number, ih]
  have hsz : l.toArray.size = (number 0 l).length := by simp [hnl]
  rw [hsz]
  refine any_ok (cs := cs) (all := l) (tb := masks l []) hT rfl (masks_ok (l := l) (tb := []) rfl (fun i j h => by simp at h)) _ (number 0 l) fs _ s a _ rfl hf (fun t p v hl => by rw [hgs] at hl; cases hl) ?_ ⟨by rw [hnl]; exact hlen, d1⟩ ?_ (number_sorted l 0) ?_ ?_ (by simp [hnl]) ?_ ?_
  · exact ordB_ok d3
  · intro k o hk hu
    exfalso
    by_cases hk' : k < (number 0 l).length
    · simp [Array.getD_eq_getD_getElem?, hk'] at hu
    · simp [Array.getD_eq_getD_getElem?, hk'] at hu
  · intro x hx
    obtain ⟨h1, h2⟩ := number_get hx
    rw [Nat.sub_zero] at h2
    refine ⟨by simpa using h2, ?_⟩
    have hlt := (List.getElem?_eq_some_iff.1 h2).1
    simp [Array.getD_eq_getD_getElem?, hnl, hlt]
  · intro k o hk _
    have := number_mem (i := 0) (l := l) (k := k) (o := o) (by simpa using hk)
    rwa [Nat.zero_add] at this
  · have ed : ∀ (L : List (Nat × Oper)), edgesB L = true → ∀ x ∈ L, ∀ e ∈ x.2.after.toList, Region.binds .any e = true → e.on < x.1 := by
      intro L
      induction L with
      | nil => intro _ x hx; cases hx
      | cons y L ih =>
        obtain ⟨i, o⟩ := y
        intro hL x hx e he hb
        simp only [edgesB, Bool.and_eq_true] at hL
        rcases List.mem_cons.1 hx with rfl | hx
        · have := List.all_eq_true.1 hL.1 e he
          simpa [hb] using this
        · exact ih hL.2 x hx e he hb
    exact ed _ d2
  · intro X
    obtain ⟨r, hr, e⟩ := Option.map_eq_some_iff.1 (hex std X)
    obtain ⟨τ, obs, fs'⟩ := r
    simp only [Prod.mk.injEq] at e
    obtain ⟨e1, rfl⟩ := e
    refine ⟨τ, obs, hr, ?_, fun a' w' hf' => hQ X a' w' ?_⟩
    · have := hob X; rw [← e1] at this; exact this
    · rw [← e1]; exact hf'.keep kp km
end
end Go.Proofs.YtkamdppnnhjajaaDoor.Sym

namespace Go.Proofs.YtkamdppnnhjajaaDoor.Sym
open Go.RowKit
set_option linter.unusedVariables false
set_option linter.unusedSimpArgs false

theorem wrap_succ {k : Nat} {n : Nat} (h : k < n) (hn : n ≤ maxLen) : IntKind.i64.wrap ((k : Int) + 1) = ((k + 1 : Nat) : Int) := by
  have : (n : Int) ≤ 9223372036854775807 := by simp only [maxLen] at hn; omega
  rw [IntKind.wrap_i64]; omega
theorem wrap_in {x : Int} (h : -9223372036854775808 ≤ x) (h' : x ≤ 9223372036854775807) : IntKind.i64.wrap x = x := by rw [IntKind.wrap_i64]; omega
/-- an elder contract of a function, said for the executor -/
theorem mem_one {m : Nat → Nat → Prop} {w : World} {v : AV} (h : ∀ x ∈ [v], Ok m w x) : Ok m w v := h v (by simp)
theorem ok_tup {m : Nat → Nat → Prop} {w : World} {l : List AV} (h : Ok m w (.tup l)) : ∀ v ∈ l, Ok m w v := by cases h with | tup _ h => exact h
theorem ok_agg {m : Nat → Nat → Prop} {w : World} {l : List AV} (h : Ok m w (.agg l)) : ∀ v ∈ l, Ok m w v := by cases h with | agg _ _ h => exact h
/-- rows of one thing and another that read alike -/
theorem ok_len {m : Nat → Nat → Prop} {w : World} {g : Option Nat} {A : Option Addr} {n c k : Nat} {cells : Nat → List AV} (h : Ok m w (.sl g A n c k cells)) : n ≤ c ∧ c ≤ maxLen := by
  cases h with | sl _ _ _ _ _ _ h1 h2 => exact ⟨h1, h2⟩
theorem ok_recell {m : Nat → Nat → Prop} {w : World} {g g' : Option Nat} {A : Option Addr} {n c k : Nat} {f f' : Nat → List AV} (h : Ok m w (.sl g A n c k f)) (he : ∀ i, i < n → f i = f' i) : Ok m w (.sl g' A n c k f') := by
  cases h with
  | sl _ _ _ _ _ _ h1 h2 h3 h4 h5 h6 h7 =>
    exact .sl _ _ _ _ _ _ h1 h2 (fun i hi => by rw [← he i hi]; exact h3 i hi) h4 (fun i hi => by rw [← he i hi]; exact h5 i hi) (fun i hi => by rw [← he i hi]; exact h6 i hi) (fun i hi => by rw [← he i hi]; exact h7 i hi)

/-- a value that says no more than another one -/
def Sim (v v' : AV) : Prop := v.den = v'.den ∧ (v.one = true → v'.one = true) ∧ ∀ m w, Ok m w v → Ok m w v'
theorem Sim.refl (v : AV) : Sim v v := ⟨rfl, id, fun _ _ h => h⟩
theorem Sim.recell {g g' : Option Nat} {A : Option Addr} {n c k : Nat} {f f' : Nat → List AV} (he : ∀ i, i < n → f i = f' i) : Sim (.sl g A n c k f) (.sl g' A n c k f') := ⟨rfl, fun _ => rfl, fun _ _ h => ok_recell h he⟩
theorem Sim.resl {g g' : Option Nat} {A : Option Addr} {n n' c k : Nat} {f f' : Nat → List AV} (hn : n = n') (he : ∀ i, i < n' → f i = f' i) : Sim (.sl g A n c k f) (.sl g' A n' c k f') := by
  subst hn; exact Sim.recell he
theorem Sim.tt : Sim (.bool .tt) (.bool (.v true)) := ⟨rfl, id, fun _ _ _ => .bool _⟩
theorem Sim.ff : Sim (.bool .ff) (.bool (.v false)) := ⟨rfl, id, fun _ _ _ => .bool _⟩
def simT (tmps : List (Nat × AV)) : List (Nat × AV) → Prop
  | [] => True
  | (t, v) :: l => ((look tmps t).known = true ∧ Sim (look tmps t) v) ∧ simT tmps l
theorem simT_ok {tmps : List (Nat × AV)} : ∀ {l : List (Nat × AV)}, simT tmps l → ∀ t, (look l t).known = true → (look tmps t).known = true ∧ Sim (look tmps t) (look l t)
  | [], _, t, h => by cases h
  | (k, v) :: l, hs, t, h => by
    rw [look_cons] at h ⊢
    by_cases he : k = t
    · subst he; rw [if_pos rfl] at h ⊢; exact hs.1
    · rw [if_neg he] at h ⊢; exact simT_ok hs.2 t h
/-- other words for the slots -/
theorem Fits.slots {C : Cx} {s : St} {a : Act} {w : World} (h : Fits C s a w) {l : List (Nat × AV)} (hl : simT s.tmps l) : Fits C { s with tmps := l, gs := [] } a w :=
  ⟨h.size, h.defers, fun t ht => by
    obtain ⟨h1, h2, _, h3⟩ := simT_ok hl t ht
    have := h.slot t h1
    exact ⟨by show a.tmps[t]? = some (look l t).den; rw [← h2]; exact this.1, h3 _ _ this.2⟩, (fun t p v hg => by cases hg), h.mem, h.nodup, h.gr, h.sepm, h.sepg, h.chg, h.m0⟩
/-- other words for the first slot -/
theorem Fits.head {C : Cx} {nt d : Nat} {v v' : AV} {l : List (Nat × AV)} {mem : List (Nat × Blk)} {gr : List (Nat × Gr)} {a : Act} {w : World} (h : Fits C ⟨nt, (d, v) :: l, [], mem, gr⟩ a w) (e : v = v') : Fits C ⟨nt, (d, v') :: l, [], mem, gr⟩ a w := e ▸ h
theorem Fits.headS {C : Cx} {nt d : Nat} {v v' : AV} {l : List (Nat × AV)} {mem : List (Nat × Blk)} {gr : List (Nat × Gr)} {a : Act} {w : World} (h : Fits C ⟨nt, (d, v) :: l, [], mem, gr⟩ a w) (e : Sim v v') (hk : v.known = true) : Fits C ⟨nt, (d, v') :: l, [], mem, gr⟩ a w :=
  ⟨h.size, h.defers, fun t ht => by
    by_cases he : d = t
    · subst he
      have e0 : ∀ v : AV, look ((d, v) :: l) d = v := fun v => by rw [look_cons, if_pos rfl]
      have := h.slot d (by show (look ((d, v) :: l) d).known = true; rw [e0]; exact hk)
      have this' : a.tmps[d]? = some (look ((d, v) :: l) d).den ∧ Ok (St.m ⟨nt, (d, v) :: l, [], mem, gr⟩ C) w (look ((d, v) :: l) d) := this
      rw [e0] at this'
      show a.tmps[d]? = some (look ((d, v') :: l) d).den ∧ Ok _ w (look ((d, v') :: l) d)
      rw [e0, ← e.1]
      exact ⟨this'.1, e.2.2 _ _ this'.2⟩
    · have e1 : ∀ v : AV, look ((d, v) :: l) t = look l t := fun v => by rw [look_cons, if_neg he]
      have hk' : (look ((d, v') :: l) t).known = true := ht
      rw [e1] at hk'
      have := h.slot t (by show (look ((d, v) :: l) t).known = true; rw [e1]; exact hk')
      have this' : a.tmps[t]? = some (look ((d, v) :: l) t).den ∧ Ok (St.m ⟨nt, (d, v) :: l, [], mem, gr⟩ C) w (look ((d, v) :: l) t) := this
      rw [e1] at this'
      show a.tmps[t]? = some (look ((d, v') :: l) t).den ∧ Ok _ w (look ((d, v') :: l) t)
      rw [e1]
      exact this', (fun t p v hg => by cases hg), h.mem, h.nodup, h.gr, h.sepm, h.sepg, h.chg, h.m0⟩
/-- a slot that is used no more -/
theorem Fits.tail {C : Cx} {nt : Nat} {d : Nat} {v : AV} {l : List (Nat × AV)} {mem : List (Nat × Blk)} {gr : List (Nat × Gr)} {a : Act} {w : World} (h : Fits C ⟨nt, (d, v) :: l, [], mem, gr⟩ a w) (hd : (look l d).known = false) : Fits C ⟨nt, l, [], mem, gr⟩ a w :=
  ⟨h.size, h.defers, fun t ht => by
    have hne : d ≠ t := fun e => by subst e; rw [hd] at ht; cases ht
    have := h.slot t (by show (look ((d, v) :: l) t).known = true; rw [look_cons, if_neg hne]; exact ht)
    have e : look ((d, v) :: l) t = look l t := by rw [look_cons, if_neg hne]
    have this' : a.tmps[t]? = some (look ((d, v) :: l) t).den ∧ Ok (St.m ⟨nt, (d, v) :: l, [], mem, gr⟩ C) w (look ((d, v) :: l) t) := this
    rw [e] at this'
    exact this', (fun t p v hg => by cases hg), h.mem, h.nodup, h.gr, h.sepm, h.sepg, h.chg, h.m0⟩
section
variable {P : Program} {Q : Exit → Act → World → Prop} {C : Cx} {nt t : Nat} {b : Bool} {l : List (Nat × AV)} {mem : List (Nat × Blk)} {gr : List (Nat × Gr)} {a : Act} {w : World} {x y : Code}
/-- the same, and the slot is tested again -/
theorem test_keep (h : Fits C ⟨nt, (t, .bool (.v b)) :: l, [], mem, gr⟩ a w) (h1 : b = true → Fits C ⟨nt, (t, .bool .tt) :: l, [], mem, gr⟩ a w → x.wp P Q a w) (h2 : b = false → Fits C ⟨nt, (t, .bool .ff) :: l, [], mem, gr⟩ a w → y.wp P Q a w) : (Code.cond (.tmp t) x y).wp P Q a w :=
  cond_ok h (by show look ((t, _) :: l) t = _; rw [look_cons, if_pos rfl]) (fun hb => h1 hb (h.headS (by subst hb; exact ⟨rfl, id, fun _ _ _ => .bool _⟩) rfl)) (fun hb => h2 hb (h.headS (by subst hb; exact ⟨rfl, id, fun _ _ _ => .bool _⟩) rfl))
/-- a test of the first slot that is known -/
theorem test_ok (h : Fits C ⟨nt, (t, .bool (.v b)) :: l, [], mem, gr⟩ a w) (hd : (look l t).known = false) (h1 : b = true → Fits C ⟨nt, l, [], mem, gr⟩ a w → x.wp P Q a w) (h2 : b = false → Fits C ⟨nt, l, [], mem, gr⟩ a w → y.wp P Q a w) : (Code.cond (.tmp t) x y).wp P Q a w :=
  cond_ok h (by show look ((t, _) :: l) t = _; rw [look_cons, if_pos rfl]) (fun hb => h1 hb (h.tail hd)) (fun hb => h2 hb (h.tail hd))
theorem test_tt (h : Fits C ⟨nt, (t, .bool .tt) :: l, [], mem, gr⟩ a w) (hd : (look l t).known = false) (h1 : Fits C ⟨nt, l, [], mem, gr⟩ a w → x.wp P Q a w) : (Code.cond (.tmp t) x y).wp P Q a w :=
  cond_tt h (by show look ((t, _) :: l) t = _; rw [look_cons, if_pos rfl]) (h1 (h.tail hd))
theorem test_ff (h : Fits C ⟨nt, (t, .bool .ff) :: l, [], mem, gr⟩ a w) (hd : (look l t).known = false) (h1 : Fits C ⟨nt, l, [], mem, gr⟩ a w → y.wp P Q a w) : (Code.cond (.tmp t) x y).wp P Q a w :=
  cond_ff h (by show look ((t, _) :: l) t = _; rw [look_cons, if_pos rfl]) (h1 (h.tail hd))
end
def canB : BE → BE
  | .tt => .v true
  | .ff => .v false
  | b => b
mutual
/-- one form for all bools -/
def can : AV → AV
  | .bool b => .bool (canB b)
  | .agg l => .agg (canL l)
  | .tup l => .tup (canL l)
  | v => v
def canL : List AV → List AV
  | [] => []
  | v :: l => can v :: canL l
end
theorem canL_map (l : List AV) : canL l = l.map can := by
  induction l with
  | nil => rfl
  | cons v l ih => simp [canL, ih]
theorem canB_den (b : BE) : (canB b).den = b.den := by cases b <;> rfl
mutual
theorem can_den : ∀ v : AV, (can v).den = v.den
  | .bool b => by simp only [can, AV.den, canB_den]
  | .agg l => by simp only [can, AV.den, can_denL l]
  | .tup l => by simp only [can, AV.den, can_denL l]
  | .undef | .int .. | .str .. | .nilp | .ptr .. | .sl .. | .ep .. | .fn .. | .ifc .. | .nili | .opt .. | .raw .. => rfl
theorem can_denL : ∀ l : List AV, AV.denL (canL l) = AV.denL l
  | [] => rfl
  | v :: l => by simp only [canL, AV.denL, can_den v, can_denL l]
end
theorem can_one (v : AV) : (can v).one = v.one := by cases v <;> rfl
mutual
theorem can_ok {m : Nat → Nat → Prop} {w : World} : ∀ v : AV, Ok m w v ↔ Ok m w (can v)
  | .bool b => ⟨fun _ => .bool _, fun _ => .bool _⟩
  | .agg l => by
    have ih := can_okL (m := m) (w := w) l
    constructor
    · intro h
      cases h with
      | agg _ h1 h2 =>
        refine .agg _ (fun v hv => ?_) (ih.1 h2)
        rw [canL_map] at hv
        obtain ⟨y, hy, rfl⟩ := List.mem_map.1 hv
        rw [can_one]; exact h1 y hy
    · intro h
      have h' : Ok m w (.agg (canL l)) := h
      cases h' with
      | agg _ h1 h2 =>
        refine .agg _ (fun v hv => ?_) (ih.2 h2)
        rw [← can_one]; exact h1 _ (by rw [canL_map]; exact List.mem_map.2 ⟨v, hv, rfl⟩)
  | .tup l => by
    have ih := can_okL (m := m) (w := w) l
    constructor
    · intro h
      cases h with | tup _ h1 => exact .tup _ (ih.1 h1)
    · intro h
      have h' : Ok m w (.tup (canL l)) := h
      cases h' with | tup _ h1 => exact .tup _ (ih.2 h1)
  | .undef | .int .. | .str .. | .nilp | .ptr .. | .sl .. | .ep .. | .fn .. | .ifc .. | .nili | .opt .. | .raw .. => Iff.rfl
theorem can_okL {m : Nat → Nat → Prop} {w : World} : ∀ l : List AV, (∀ v ∈ l, Ok m w v) ↔ ∀ v ∈ canL l, Ok m w v
  | [] => by simp [canL]
  | v :: l => by
    have h1 := can_ok (m := m) (w := w) v
    have h2 := can_okL (m := m) (w := w) l
    simp only [canL, List.mem_cons, forall_eq_or_imp]
    exact and_congr h1 h2
end
theorem can_eq {m : Nat → Nat → Prop} {w : World} {v v' : AV} (h : Ok m w v) (e : can v = can v') : v.den = v'.den ∧ Ok m w v' :=
  ⟨by rw [← can_den v, ← can_den v', e], (can_ok v').2 (e ▸ (can_ok v).1 h)⟩
section
variable {P : Program} {T : List (Nat × TI)} {s : St} {a : Act} {w : World}
/-- a call ends by return, with this result and only new memory -/
theorem ret_spec (hT : TabOK P T) {m : Nat → Nat → Prop} {w0 : World} (h : Fits ⟨m, w0, fun _ => False, []⟩ s a w) {fn : Func} {res : Atom → AV} {rs : List ResultVar} (hfn : fn.results = rs.toArray) {r : List AV × List Ob} (hr : resL T s rs = some r) (ho : AllOb P r.2)
    (x : Atom) (he : can (resA r.1) = can (res x)) : bodyPost P fn (fun e w' => ∃ x, e = .returned (res x).den ∧ Ok m w' (res x) ∧ Below w0.heap.size w0 w') .ret a w := by
  refine (ret_ok hT h rfl hfn hr ho fun hv => ?_).1
  obtain ⟨h1, h2⟩ := done_ok h hv
  obtain ⟨h3, h4⟩ := can_eq h1 he
  exact ⟨x, by rw [h3], h4, h2⟩
end
section
variable {P : Program} {T : List (Nat × TI)} {s : St} {a : Act} {w : World}
theorem ret_spec' (hT : TabOK P T) {m : Nat → Nat → Prop} {w0 : World} (h : Fits ⟨m, w0, fun _ => False, []⟩ s a w) {fn : Func} {res : Atom → AV} {rs : List ResultVar} (hfn : fn.results = rs.toArray) {r : List AV × List Ob} (hr : resL T s rs = some r) (ho : AllOb P r.2)
    (x : Atom) (he : can (resA r.1) = can (res x)) : bodyPost P fn (fun e w' => ∃ x, e = .returned (res x).den ∧ Ok m w' (res x) ∧ Below w0.heap.size w0 w') .normal a w := by
  refine (ret_ok hT h rfl hfn hr ho fun hv => ?_).2
  obtain ⟨h1, h2⟩ := done_ok h hv
  obtain ⟨h3, h4⟩ := can_eq h1 he
  exact ⟨x, by rw [h3], h4, h2⟩
end
theorem ob_split {p : Prop} (h : p) : p := h
def pre {α : Type} : List α → List α → List α
  | [], r => r
  | x :: l, r => x :: pre l r
/-- a loop: the slots, blocks and rows that a round changes are in front -/
theorem loop_pre {P : Program} {Q : Exit → Act → World → Prop} {C : Cx} {ι : Type} (S : ι → List (Nat × AV)) (M : ι → List (Nat × Blk)) (G : ι → List (Nat × Gr)) (J : ι → Prop) (μ : ι → Nat) {nt : Nat} {rest : List (Nat × AV)} {restm : List (Nat × Blk)} {restg : List (Nat × Gr)} {c : Code} {a : Act} {w : World} (p₀ : ι) (h₀ : J p₀)
    (hf : Fits C ⟨nt, pre (S p₀) rest, [], pre (M p₀) restm, pre (G p₀) restg⟩ a w)
    (round : ∀ p, J p → ∀ a w, Fits C ⟨nt, pre (S p) rest, [], pre (M p) restm, pre (G p) restg⟩ a w → c.wp P (Exit.then (fun a' w' => ∃ p', J p' ∧ μ p' < μ p ∧ Fits C ⟨nt, pre (S p') rest, [], pre (M p') restm, pre (G p') restg⟩ a' w') Q) a w) : (Code.loop c).wp P Q a w :=
  loop_ok (fun p => ⟨nt, pre (S p) rest, [], pre (M p) restm, pre (G p) restg⟩) J μ p₀ h₀ hf round
/-- values of a row that say no more than others -/
def SimL : List AV → List AV → Prop
  | [], [] => True
  | v :: l, v' :: l' => Sim v v' ∧ SimL l l'
  | _, _ => False
theorem SimL.den : ∀ {l l' : List AV}, SimL l l' → AV.denL l = AV.denL l'
  | [], [], _ => rfl
  | v :: l, v' :: l', h => by simp only [AV.denL, h.1.1, SimL.den h.2]
theorem SimL.one : ∀ {l l' : List AV}, SimL l l' → (∀ v ∈ l, v.one = true) → ∀ v ∈ l', v.one = true
  | [], [], _, _ => by simp
  | v :: l, v' :: l', h, h1 => by
    simp only [List.mem_cons, forall_eq_or_imp] at h1 ⊢
    exact ⟨h.1.2.1 h1.1, SimL.one h.2 h1.2⟩
theorem SimL.ok {m : Nat → Nat → Prop} {w : World} : ∀ {l l' : List AV}, SimL l l' → (∀ v ∈ l, Ok m w v) → ∀ v ∈ l', Ok m w v
  | [], [], _, _ => by simp
  | v :: l, v' :: l', h, h1 => by
    simp only [List.mem_cons, forall_eq_or_imp] at h1 ⊢
    exact ⟨h.1.2.2 _ _ h1.1, SimL.ok h.2 h1.2⟩
theorem Sim.agg {l l' : List AV} (h : SimL l l') : Sim (.agg l) (.agg l') :=
  ⟨by simp only [AV.den, h.den], id, fun m w ho => by cases ho with | agg _ h1 h2 => exact .agg _ (h.one h1) (h.ok h2)⟩
theorem Sim.tup {l l' : List AV} (h : SimL l l') : Sim (.tup l) (.tup l') :=
  ⟨by simp only [AV.den, h.den], id, fun m w ho => by cases ho with | tup _ h1 => exact .tup _ (h.ok h1)⟩
theorem Spec.res {P : Program} {f : Nat} {args : List AV} {res res' : Atom → AV} (h : Spec P f args res) (hs : ∀ x, Sim (res x) (res' x)) : Spec P f args res' := by
  intro m w hm ha
  refine (h m w hm ha).mono ?_
  rintro e w' ⟨x, rfl, ho, hb⟩
  exact ⟨x, by rw [(hs x).1], (hs x).2.2 _ _ ho, hb⟩
theorem Sim.bool {b b' : BE} (h : b.den = b'.den) : Sim (.bool b) (.bool b') := ⟨by simp only [AV.den, h], id, fun _ _ _ => .bool _⟩
theorem Spec.sim {P : Program} {f : Nat} {args args' : List AV} {res : Atom → AV} (h : Spec P f args res) (hs : SimL args' args) : Spec P f args' res := by
  intro m w hm ha
  have := h m w hm (hs.ok ha)
  have e : args'.map AV.den = args.map AV.den := by
    clear this ha h
    induction args' generalizing args with
    | nil => cases args with
      | nil => rfl
      | cons => exact hs.elim
    | cons v l ih => cases args with
      | nil => exact hs.elim
      | cons v' l' => simp only [List.map_cons, hs.1.1, ih hs.2]
  rw [e]
  exact this
/-- where ways meet again -/
theorem seq_cut {P : Program} {Q : Exit → Act → World → Prop} {C : Cx} {ι : Type} (S : ι → List (Nat × AV)) (M : ι → List (Nat × Blk)) (G : ι → List (Nat × Gr)) (J : ι → Prop) {nt : Nat} {S0 rest : List (Nat × AV)} {M0 restm : List (Nat × Blk)} {G0 restg : List (Nat × Gr)} {x y : Code} {a : Act} {w : World}
    (hf : Fits C ⟨nt, pre S0 rest, [], pre M0 restm, pre G0 restg⟩ a w)
    (hx : x.wp P (Exit.then (fun a' w' => ∃ p, J p ∧ Fits C ⟨nt, pre (S p) rest, [], pre (M p) restm, pre (G p) restg⟩ a' w') Q) a w)
    (hy : ∀ p, J p → ∀ a' w', Fits C ⟨nt, pre (S p) rest, [], pre (M p) restm, pre (G p) restg⟩ a' w' → y.wp P Q a' w') : (Code.seq x y).wp P Q a w := by
  refine wp_seq (Code.wp_mono (fun e a' w' h => ?_) hx)
  cases e with
  | normal => obtain ⟨p, hp, hf'⟩ := h; exact hy p hp a' w' hf'
  | _ => exact h
/-- where the ways of one code meet again -/
theorem cut_one {P : Program} {Q : Exit → Act → World → Prop} {C : Cx} {ι : Type} (S : ι → List (Nat × AV)) (M : ι → List (Nat × Blk)) (G : ι → List (Nat × Gr)) (J : ι → Prop) {nt : Nat} {S0 rest : List (Nat × AV)} {M0 restm : List (Nat × Blk)} {G0 restg : List (Nat × Gr)} {x : Code} {a : Act} {w : World}
    (hf : Fits C ⟨nt, pre S0 rest, [], pre M0 restm, pre G0 restg⟩ a w)
    (hx : x.wp P (Exit.then (fun a' w' => ∃ p, J p ∧ Fits C ⟨nt, pre (S p) rest, [], pre (M p) restm, pre (G p) restg⟩ a' w') Q) a w)
    (hy : ∀ p, J p → ∀ a' w', Fits C ⟨nt, pre (S p) rest, [], pre (M p) restm, pre (G p) restg⟩ a' w' → Q .normal a' w') : x.wp P Q a w := by
  refine Code.wp_mono (fun e a' w' h => ?_) hx
  cases e with
  | normal => obtain ⟨p, hp, hf'⟩ := h; exact hy p hp a' w' hf'
  | _ => exact h
/-- the same where the result reads like the one named -/
theorem ret_sim {P : Program} {T : List (Nat × TI)} {s : St} {a : Act} {w : World} (hT : TabOK P T) {m : Nat → Nat → Prop} {w0 : World} (h : Fits ⟨m, w0, fun _ => False, []⟩ s a w) {fn : Func} {res : Atom → AV} {rs : List ResultVar} (hfn : fn.results = rs.toArray) {r : List AV × List Ob} (hr : resL T s rs = some r) (ho : AllOb P r.2)
    (x : Atom) (he : Sim (can (resA r.1)) (can (res x))) : bodyPost P fn (fun e w' => ∃ x, e = .returned (res x).den ∧ Ok m w' (res x) ∧ Below w0.heap.size w0 w') .ret a w := by
  refine (ret_ok hT h rfl hfn hr ho fun hv => ?_).1
  obtain ⟨h1, h2⟩ := done_ok h hv
  exact ⟨x, by rw [← can_den (resA r.1), he.1, can_den], (can_ok _).2 (he.2.2 _ _ ((can_ok _).1 h1)), h2⟩
def noAtom : Atom := ⟨0, fun _ => none, fun _ => 0, fun _ => .empty⟩
end Go.Proofs.YtkamdppnnhjajaaDoor.Sym

namespace Go.Proofs.YtkamdppnnhjajaaDoor.Sym
open Go.RowKit
set_option linter.unusedVariables false
set_option linter.unusedSimpArgs false

section
variable {C : Cx} {P : Program} {Q : Exit → Act → World → Prop} {T : List (Nat × TI)} {ops : Array Oper} {all : List Oper}
/-- the first operations of a list -/
theorem exec_pre {cs : List (Nat × CS)} {l2 : List Oper} (hT : TabOK P T) (hall : ops = all.toArray) : ∀ (l : List Oper) (i : Nat) (s : St) (a : Act) (w : World), Fits C s a w → (∀ X, ∃ r, exec std T cs X all (number i l) s = some r ∧ AllOb P r.2.1) →
    (∀ X r a' w', exec std T cs X all (number i l) s = some r → Fits C r.1 a' w' → wpList P ops Q l2 a' w') → wpList P ops Q (l ++ l2) a w
  | [], i, s, a, w, h, hs, hQ => hQ (fun _ => ⟨0, fun _ => none, fun _ => 0, fun _ => .empty⟩) _ a w rfl h
  | o :: l, i, s, a, w, h, hs, hQ => by
    refine wpList_step fun K hK => ?_
    refine delta_ok (cs := cs) (i := i) hT hall h (fun x => ?_) fun x r a' w' hr hf => hK _ _ ?_
    · obtain ⟨r, hr, hob⟩ := hs (fun _ => x)
      obtain ⟨δ, ob, f, r', h1, h2, rfl⟩ := exec_cons hr
      exact ⟨_, h1, (AllOb.app.1 hob).1⟩
    · have put : ∀ X : Nat → Atom, ∃ Y : Nat → Atom, Y i = x ∧ ∀ j, i + 1 ≤ j → Y j = X j := fun X => ⟨fun j => if j = i then x else X j, by simp, fun j hj => by simp only; rw [if_neg (by omega)]⟩
      refine exec_pre (cs := cs) hT hall l (i + 1) (s.app r.1) a' w' hf (fun X => ?_) fun X r' a'' w'' hr' hf' => ?_
      · obtain ⟨Y, hY, hYX⟩ := put X
        obtain ⟨r1, h1, hob⟩ := hs Y
        obtain ⟨δ, ob, f, r2, h2, h3, rfl⟩ := exec_cons h1
        rw [hY, hr] at h2; injection h2 with h2; subst h2
        rw [exec_congr _ _ (fun x hx => hYX x.1 (number_lt x hx))] at h3
        exact ⟨r2, h3, (AllOb.app.1 hob).2⟩
      · obtain ⟨Y, hY, hYX⟩ := put X
        obtain ⟨r1, h1, hob⟩ := hs Y
        have h1' := h1
        obtain ⟨δ, ob, f, r2, h2, h3, rfl⟩ := exec_cons h1
        rw [hY, hr] at h2; injection h2 with h2; subst h2
        rw [exec_congr _ _ (fun x hx => hYX x.1 (number_lt x hx)), hr'] at h3; injection h3 with h3; subst h3
        exact hQ Y _ a'' w'' h1' hf'
/-- the first n operations of what is left of a region (from operation i on) -/
theorem list_pre {s : St} {a : Act} {w : World} {L : List Oper} (i n : Nat) (hT : TabOK P T) (kp km : List Nat) (cs : List (Nat × CS)) (h : Fits C s a w) {R : Alg → (Nat → Atom) → St × List Ob}
    (hex : ∀ A X, (exec A T cs X all (number i (L.take n)) s).map (fun r => (r.1.keep kp km, r.2.1)) = some (R A X)) (hob : ∀ X, AllOb P (R std X).2) (hQ : ∀ X a' w', Fits C (R std X).1 a' w' → wpList P all.toArray Q (L.drop n) a' w') : wpList P all.toArray Q L a w := by
  have e : L = L.take n ++ L.drop n := (List.take_append_drop n L).symm
  rw [e]
  refine exec_pre (cs := cs) hT rfl (L.take n) i s a w h (fun X => ?_) fun X r a' w' hr hf => ?_
  · obtain ⟨r, hr, e⟩ := Option.map_eq_some_iff.1 (hex std X)
    refine ⟨r, hr, ?_⟩
    have := hob X
    rw [← e] at this
    exact this
  · have e := hex std X
    rw [hr] at e
    injection e with e
    refine hQ X a' w' ?_
    rw [← e]
    exact hf.keep kp km
/-- the rest of a region (from operation i on) -/
theorem list_end {s : St} {a : Act} {w : World} {L : List Oper} (i : Nat) (hT : TabOK P T) (kp km : List Nat) (cs : List (Nat × CS)) (h : Fits C s a w) {R : Alg → (Nat → Atom) → St × List Ob}
    (hex : ∀ A X, (exec A T cs X all (number i L) s).map (fun r => (r.1.keep kp km, r.2.1)) = some (R A X)) (hob : ∀ X, AllOb P (R std X).2) (hQ : ∀ X a' w', Fits C (R std X).1 a' w' → Q .normal a' w') : wpList P all.toArray Q L a w := by
  refine exec_ok (cs := cs) hT rfl L i s a w h (fun X => ?_) fun X r a' w' hr hf => ?_
  · obtain ⟨r, hr, e⟩ := Option.map_eq_some_iff.1 (hex std X)
    refine ⟨r, hr, ?_⟩
    have := hob X
    rw [← e] at this
    exact this
  · have e := hex std X
    rw [hr] at e
    injection e with e
    refine hQ X a' w' ?_
    rw [← e]
    exact hf.keep kp km
/-- an operation by hand -/
theorem man_op {a : Act} {w : World} {L rest : List Oper} {o : Oper} (hL : L = o :: rest) (hg : o.guard = none) (h : o.wp P a w (wpList P ops Q rest) Q) : wpList P ops Q L a w := by
  subst hL
  unfold wpList
  have : Region.wanted o (yielded ops a.tmps) = true := by simp [Region.wanted, hg]
  rw [if_pos this]
  exact .inl h
end
/-! ### contracts: what a function gives, or throws, and what it does to its caller's blocks -/
inductive Out where
  | ret (r : CR)
  | thr (v : Value) (sets : List (Nat × List AV))
def OPost1 (m : Nat → Nat → Prop) (w : World) (pre : List (Nat × Blk)) (e : Ending) (w' : World) : Out → Prop
  | .ret r => e = .returned r.v.den ∧ Ok (mN m r.news) w' r.v ∧ Left m w w' pre r.sets r.news
  | .thr v sets => e = .panicked [{ v, recovered := false }] ∧ Left m w w' pre sets []
def OPost (m : Nat → Nat → Prop) (w : World) (pre : List (Nat × Blk)) (out : Atom → Out) (e : Ending) (w' : World) : Prop := ∃ x, OPost1 m w pre e w' (out x)
def SpecO (P : Program) (f : FuncId) (args : List AV) (pre : List (Nat × Blk)) (out : Atom → Out) : Prop :=
  ∀ (m : Nat → Nat → Prop) (w : World), (∀ b o, m b o → b < w.heap.size) → (∀ v ∈ args, Ok m w v) → PreOk m w pre → Calls P f (args.map AV.den).toArray w (OPost m w pre out)
theorem SpecO.x {P : Program} {f : FuncId} {args : List AV} {pre : List (Nat × Blk)} {out : Atom → Out} {res : Atom → CR} (h : SpecO P f args pre out) (e : ∀ x, out x = .ret (res x)) : SpecX P f args pre res := by
  intro m w h1 h2 h3
  refine (h m w h1 h2 h3).mono ?_
  rintro e' w' ⟨x, hx⟩
  rw [e x] at hx
  exact ⟨x, hx⟩
theorem SpecX.o {P : Program} {f : FuncId} {args : List AV} {pre : List (Nat × Blk)} {out : Atom → Out} {res : Atom → CR} (h : SpecX P f args pre res) (e : ∀ x, out x = .ret (res x)) : SpecO P f args pre out := by
  intro m w h1 h2 h3
  refine (h m w h1 h2 h3).mono ?_
  rintro e' w' ⟨x, hx⟩
  exact ⟨x, by rw [e x]; exact hx⟩
theorem SpecO.res {P : Program} {f : FuncId} {args : List AV} {pre : List (Nat × Blk)} {out out' : Atom → Out} (h : SpecO P f args pre out) (e : ∀ x, out x = out' x) : SpecO P f args pre out' := by
  have : out = out' := funext e
  exact this ▸ h
def pureR (f : Atom → AV) : Atom → CR := fun x => ⟨f x, [], []⟩
theorem Spec.x {P : Program} {f : FuncId} {args : List AV} {res : Atom → AV} (h : Spec P f args res) : SpecX P f args [] (pureR res) := by
  intro m w h1 h2 _
  refine (h m w h1 h2).mono ?_
  rintro e' w' ⟨x, rfl, hok, hb⟩
  refine ⟨x, rfl, hok.mono fun b o u h1 h2 => ⟨h1, fun h => ?_⟩, ⟨rfl, fun e he => (by cases he), fun e he => (by cases he), fun e he => (by cases he), .nil, Chg.of_new hb⟩⟩
  rcases h with h | ⟨e, he, _⟩
  · exact h2 h
  · cases he
theorem SpecX.pure {P : Program} {f : FuncId} {args : List AV} {res : Atom → CR} {res' : Atom → AV} (h : SpecX P f args [] res) (e : ∀ x, res x = ⟨res' x, [], []⟩) : Spec P f args res' := by
  intro m w h1 h2
  refine (h m w h1 h2 ⟨fun e he => (by cases he), fun e he => (by cases he), fun e he => (by cases he), .nil⟩).mono ?_
  rintro e' w' ⟨x, rfl, hok, hl⟩
  rw [e x] at hok hl ⊢
  refine ⟨x, rfl, hok.mono fun b o u h1 h2 => ⟨h1, fun h => h2 (.inl h)⟩, hl.chg.below (Nat.le_refl _) fun k ⟨e, he, _⟩ => (by cases he)⟩
section
variable {P : Program}
theorem enterFits {m : Nat → Nat → Prop} {w : World} {pre : List (Nat × Blk)} (hm : ∀ b o, m b o → b < w.heap.size) (hp : PreOk m w pre) {args : List AV} (hargs : ∀ v ∈ args, Ok m w v) {n : Nat} (hn : args.length ≤ n) :
    Fits ⟨m, w, ats pre, []⟩ ⟨n, startT 0 args, [], pre, []⟩ { tmps := (args.map AV.den).toArray ++ Array.replicate (n - args.length) Go.undef, defers := [] } w := by
  have mono : ∀ v, Ok m w v → Ok (St.m ⟨n, startT 0 args, [], pre, []⟩ ⟨m, w, ats pre, []⟩) w v := fun v hv => hv.mono fun b' o u h1 h2 => ⟨h1, fun h => by
    rcases h with h | ⟨k, e, he, hat⟩ | ⟨k, e, he, _⟩
    · exact h2 h
    · exact h2 (hat ▸ hp.free _ (lookM_mem he) o)
    · cases he⟩
  have h0 := start_ok hm hargs hn
  refine ⟨h0.size, rfl, fun t ht => ?_, (fun t p v he => by cases he), fun k e he => ?_, fun k k' e e' he he' hne => pairwise_ne hp.dist (lookM_mem he) (lookM_mem he') hne, (fun k t ht => by cases ht), (fun k t k' e ht => by cases ht), (fun k t k' t' b ht => by cases ht), Chg.refl _ _, hm⟩
  · obtain ⟨h1, h2⟩ := h0.slot t ht
    exact ⟨h1, mono _ (h2.mono fun b' o u g1 g2 => ⟨g1, fun hm' => g2 (.inl hm')⟩)⟩
  · have hin := lookM_mem he
    exact ⟨hp.heap _ hin, fun v hv => ⟨(hp.ok _ hin v hv).1, mono _ (hp.ok _ hin v hv).2⟩, .inr ⟨_, hin, rfl⟩⟩
theorem enterX {m : Nat → Nat → Prop} {w : World} {pre : List (Nat × Blk)} (hm : ∀ b o, m b o → b < w.heap.size) (hp : PreOk m w pre) {args : List AV} (hargs : ∀ v ∈ args, Ok m w v) {f : FuncId} {fn : Func} {c : Code} {R : Ending → World → Prop} (hf : P.funcs[f]? = some fn) (hbd : fn.body = some c) (hn : args.length ≤ fn.ntmps)
    (h : ∀ a, Fits ⟨m, w, ats pre, []⟩ ⟨fn.ntmps, startT 0 args, [], pre, []⟩ a w → c.wp P (bodyPost P fn R) a w) : Calls P f (args.map AV.den).toArray w R := by
  refine calls_of_wp hf hbd ?_
  have := h _ (enterFits hm hp hargs hn)
  simpa using this
theorem enterD {m : Nat → Nat → Prop} {w : World} {pre : List (Nat × Blk)} (hm : ∀ b o, m b o → b < w.heap.size) (hp : PreOk m w pre) {args : List AV} (hargs : ∀ v ∈ args, Ok m w v) {f : FuncId} {fn : Func} {c : Code} {R : Ending → World → Prop} (hf : P.funcs[f]? = some fn) (hbd : fn.body = some c) (hn : args.length ≤ fn.ntmps)
    (h : ∀ a, Fits ⟨m, w, ats pre, []⟩ ⟨fn.ntmps, startT 0 args, [], pre, []⟩ a w → c.wp P (bodyPostD P fn R) a w) : Calls P f (args.map AV.den).toArray w R := by
  refine calls_of_wp_defers hf hbd ?_
  have := h _ (enterFits hm hp hargs hn)
  simpa using this
/-- the blocks that a caller lent hold this now -/
def SetsOk (s : St) : List (Nat × Blk) → List (Nat × List AV) → Prop
  | [], [] => True
  | (k, b) :: l, (k', c) :: r => k' = k ∧ (∃ cells, lookM s.mem k = some ⟨b.at_, b.ty, cells⟩ ∧ SimL cells c) ∧ SetsOk s l r
  | _, _ => False
/-- new blocks hold this -/
def NewsOk (s : St) (pre : List (Nat × Blk)) : List Nat → List (Nat × Blk) → Prop
  | [], [] => True
  | k :: ks, (_, b) :: l => (∃ cells, lookM s.mem k = some ⟨b.at_, b.ty, cells⟩ ∧ SimL cells b.cells) ∧ (∀ e ∈ pre, e.1 ≠ k) ∧ k ∉ ks ∧ NewsOk s pre ks l
  | _, _ => False
theorem SetsOk.keys {s : St} : ∀ {pre : List (Nat × Blk)} {sets : List (Nat × List AV)}, SetsOk s pre sets → sets.map (·.1) = pre.map (·.1)
  | [], [], _ => rfl
  | (k, b) :: l, (k', c) :: r, h => by simp only [List.map_cons, h.1, SetsOk.keys h.2.2]
  | [], _ :: _, h => h.elim
  | _ :: _, [], h => h.elim
theorem SetsOk.mem {s : St} : ∀ {pre : List (Nat × Blk)} {sets : List (Nat × List AV)}, SetsOk s pre sets → ∀ e ∈ upd pre sets, ∃ cells, lookM s.mem e.1 = some ⟨e.2.at_, e.2.ty, cells⟩ ∧ SimL cells e.2.cells
  | [], [], _, e, he => by cases he
  | (k, b) :: l, (k', c) :: r, h, e, he => by
    simp only [upd, List.mem_cons] at he
    rcases he with rfl | he
    · exact h.2.1
    · exact SetsOk.mem h.2.2 e he
  | [], _ :: _, h, _, _ => h.elim
  | _ :: _, [], h, _, _ => h.elim
theorem SetsOk.all {s : St} : ∀ {pre : List (Nat × Blk)} {sets : List (Nat × List AV)}, SetsOk s pre sets → ∀ e ∈ pre, ∃ cells, lookM s.mem e.1 = some ⟨e.2.at_, e.2.ty, cells⟩
  | [], [], _, e, he => by cases he
  | (k, b) :: l, (k', c) :: r, h, e, he => by
    rcases List.mem_cons.1 he with rfl | he
    · obtain ⟨cells, h1, _⟩ := h.2.1; exact ⟨cells, h1⟩
    · exact SetsOk.all h.2.2 e he
  | [], _ :: _, h, _, _ => h.elim
  | _ :: _, [], h, _, _ => h.elim
theorem NewsOk.mem {s : St} {pre : List (Nat × Blk)} : ∀ {ks : List Nat} {news : List (Nat × Blk)}, NewsOk s pre ks news → ∀ e ∈ news, ∃ k cells, k ∈ ks ∧ lookM s.mem k = some ⟨e.2.at_, e.2.ty, cells⟩ ∧ SimL cells e.2.cells ∧ ∀ e ∈ pre, e.1 ≠ k
  | [], [], _, e, he => by cases he
  | k :: ks, (_, b) :: l, h, e, he => by
    rcases List.mem_cons.1 he with rfl | he
    · obtain ⟨cells, h1, h2⟩ := h.1; exact ⟨k, cells, by simp, h1, h2, h.2.1⟩
    · obtain ⟨k', cells, h0, h1⟩ := NewsOk.mem h.2.2.2 e he
      exact ⟨k', cells, List.mem_cons_of_mem _ h0, h1⟩
  | [], _ :: _, h, _, _ => h.elim
  | _ :: _, [], h, _, _ => h.elim
theorem NewsOk.dist {s : St} {C : Cx} {a : Act} {w : World} (hF : Fits C s a w) {pre : List (Nat × Blk)} : ∀ {ks : List Nat} {news : List (Nat × Blk)}, NewsOk s pre ks news → news.Pairwise fun e f => e.2.at_ ≠ f.2.at_
  | [], [], _ => .nil
  | k :: ks, (_, b) :: l, h => by
    refine .cons (fun e he => ?_) (NewsOk.dist hF h.2.2.2)
    obtain ⟨k', cells, h0, h1, _⟩ := NewsOk.mem h.2.2.2 e he
    obtain ⟨cells', h2, _⟩ := h.1
    have := hF.nodup k k' _ _ h2 h1 fun e => h.2.2.1 (e ▸ h0)
    exact this
  | [], _ :: _, h => h.elim
  | _ :: _, [], h => h.elim
theorem SimL.map : ∀ {l l' : List AV}, SimL l l' → l.map AV.den = l'.map AV.den
  | [], [], _ => rfl
  | v :: l, v' :: l', h => by simp only [List.map_cons, h.1.1, SimL.map h.2]
  | [], _ :: _, h => h.elim
  | _ :: _, [], h => h.elim
theorem left_ok {m : Nat → Nat → Prop} {w0 w : World} {pre : List (Nat × Blk)} {d : List Deferred} {s : St} {a : Act} (h : Fits ⟨m, w0, ats pre, d⟩ s a w) {sets : List (Nat × List AV)} {news : List (Nat × Blk)} {ks : List Nat} (hs : SetsOk s pre sets) (hn : NewsOk s pre ks news) :
    Left m w0 w pre sets news ∧ ∀ v, Ok (s.m ⟨m, w0, ats pre, d⟩) w v → Ok (mN m news) w v := by
  have sub : ∀ v, Ok (s.m ⟨m, w0, ats pre, d⟩) w v → Ok (mN m news) w v := fun v hv => hv.mono fun b' o u h1 h2 => ⟨h1, fun hm => by
    rcases hm with hm | ⟨e, he, hat⟩
    · exact h2 (.inl hm)
    · obtain ⟨k, cells, _, hk, _⟩ := hn.mem e he
      exact h2 (.inr (.inl ⟨k, _, hk, hat⟩))⟩
  have key : ∀ e ∈ upd pre sets ++ news, ∃ k cells, lookM s.mem k = some ⟨e.2.at_, e.2.ty, cells⟩ ∧ SimL cells e.2.cells := by
    intro e he
    rcases List.mem_append.1 he with he | he
    · obtain ⟨cells, h1, h2⟩ := hs.mem e he; exact ⟨_, cells, h1, h2⟩
    · obtain ⟨k, cells, _, h1, h2, _⟩ := hn.mem e he; exact ⟨k, cells, h1, h2⟩
  refine ⟨⟨hs.keys, fun e he => ?_, fun e he v hv => ?_, fun e he => ?_, hn.dist h, h.chg⟩, sub⟩
  · obtain ⟨k, cells, h1, h2⟩ := key e he
    have := (h.mem _ _ h1).1
    simp only at this
    rw [h2.map] at this
    exact this
  · obtain ⟨k, cells, h1, h2⟩ := key e he
    have h3 := (h.mem _ _ h1).2.1
    exact ⟨h2.one (fun v hv => (h3 v hv).1) v hv, h2.ok (fun v hv => sub v (h3 v hv).2) v hv⟩
  · obtain ⟨k, cells, _, h1, _, h2⟩ := hn.mem e he
    rcases (h.mem _ _ h1).2.2 with h3 | ⟨e', he', hat⟩
    · exact h3
    · obtain ⟨cells', h4⟩ := hs.all e' he'
      have := h.nodup _ _ _ _ h4 h1 (h2 e' he')
      exact absurd hat this
variable {T : List (Nat × TI)} {s : St} {a : Act} {w : World}
theorem ret_out (hT : TabOK P T) {m : Nat → Nat → Prop} {w0 : World} {pre : List (Nat × Blk)} (h : Fits ⟨m, w0, ats pre, []⟩ s a w) {fn : Func} {out : Atom → Out} {rs : List ResultVar} (hfn : fn.results = rs.toArray) {r : List AV × List Ob} (hr : resL T s rs = some r) (ho : AllOb P r.2)
    (x : Atom) {cr : CR} (hout : out x = .ret cr) (ks : List Nat) (he : Sim (can (resA r.1)) (can cr.v)) (hs : SetsOk s pre cr.sets) (hn : NewsOk s pre ks cr.news) : bodyPost P fn (OPost m w0 pre out) .ret a w ∧ bodyPost P fn (OPost m w0 pre out) .normal a w := by
  obtain ⟨h1, h2⟩ := left_ok h hs hn
  refine ret_ok hT h rfl hfn hr ho fun hv => ⟨x, ?_⟩
  rw [hout]
  exact ⟨by rw [← can_den (resA r.1), he.1, can_den], (can_ok _).2 (he.2.2 _ _ ((can_ok _).1 (h2 _ hv))), h1⟩
theorem thr_out {m : Nat → Nat → Prop} {w0 : World} {pre : List (Nat × Blk)} (h : Fits ⟨m, w0, ats pre, []⟩ s a w) {fn : Func} {out : Atom → Out} {v : Value} (x : Atom) {sets : List (Nat × List AV)} (hout : out x = .thr v sets) (hs : SetsOk s pre sets) :
    bodyPost P fn (OPost m w0 pre out) (.panic [{ v, recovered := false }]) a w := by
  obtain ⟨h1, h2⟩ := left_ok h hs (ks := []) (news := []) trivial
  refine ⟨h.defers, x, ?_⟩
  rw [hout]
  exact ⟨rfl, h1⟩
theorem ret_x (hT : TabOK P T) {m : Nat → Nat → Prop} {w0 : World} {pre : List (Nat × Blk)} (h : Fits ⟨m, w0, ats pre, []⟩ s a w) {fn : Func} {res : Atom → CR} {rs : List ResultVar} (hfn : fn.results = rs.toArray) {r : List AV × List Ob} (hr : resL T s rs = some r) (ho : AllOb P r.2)
    (x : Atom) (ks : List Nat) (he : Sim (can (resA r.1)) (can (res x).v)) (hs : SetsOk s pre (res x).sets) (hn : NewsOk s pre ks (res x).news) : bodyPost P fn (XPost m w0 pre res) .ret a w ∧ bodyPost P fn (XPost m w0 pre res) .normal a w :=
  ret_out (out := fun x => .ret (res x)) hT h hfn hr ho x rfl ks he hs hn
end
section
variable {C : Cx} {P : Program} {Q : Exit → Act → World → Prop} {T : List (Nat × TI)} {ops : Array Oper} {all : List Oper}
theorem call_run {s : St} {a : Act} {w : World} {o : Oper} {c : Call} {g : Operand} {f : FuncId} {l r args : List AV} (hop : o.op = .call c) (hcal : c.callee = .value g) (h : Fits C s a w) (hgv : val s [] g = .fn f l r) (hl : vals s [] c.args.toList = some args) (hen : Enters P f) :
    (execOp a.eval o).run P w = .ok (.enter f ((l ++ args ++ r).map AV.den).toArray) w ∧ ∀ v ∈ l ++ args ++ r, Ok (s.m C) w v := by
  obtain ⟨h1, h2⟩ := vals_ok h (fun _ h => by cases h) hl
  have hg := val_ok h (q := []) (fun _ h => by cases h) (x := g) (by rw [hgv]; rfl)
  rw [hgv] at hg
  have hargs : c.args.map a.eval = (args.map AV.den).toArray := by
    apply Array.ext'
    simpa using h1
  have e1 : a.eval g = .func (.func f) (l.map AV.den).toArray (r.map AV.den).toArray := by
    have := hg.1
    simpa [AV.den, denL_map] using this
  have hent' := hen ((l ++ args ++ r).map AV.den).toArray w
  refine ⟨?_, fun v hv => ?_⟩
  · simp only [List.map_append] at hent'
    simp [execOp, hop, resolve, hcal, e1, Deferred.ofValue, invoke, hargs, List.append_assoc]
    simpa [List.append_assoc] using hent'
  · cases hg.2 with
    | fn _ _ _ k1 k2 =>
      rcases List.mem_append.1 hv with hv | hv
      · rcases List.mem_append.1 hv with hv | hv
        · exact k1 v hv
        · exact h2 v hv
      · exact k2 v hv
/-- a call by hand, whatever comes of it -/
theorem man_out {s : St} {a : Act} {w : World} {L rest : List Oper} {o : Oper} {c : Call} {g : Operand} {f : FuncId} {l r args args' : List AV} (hL : L = o :: rest) (hg : o.guard = none) (hop : o.op = .call c) (hcal : c.callee = .value g) (h : Fits C s a w) (hgv : val s [] g = .fn f l r) (hl : vals s [] c.args.toList = some args) (hen : Enters P f)
    {pre : List (Nat × Blk)} {out : Atom → Out} (hsp : SpecO P f args' pre out) (hsim : SimL (l ++ args ++ r) args') (hpre : ∀ e ∈ pre, lookM s.mem e.1 = some e.2) (hnd : nodupB pre = true) (hd : inNt s o.dst = true)
    (K : ∀ x w', match out x with
      | .ret cr => ∀ a', Fits C ((s.eff (.sets (upd pre cr.sets ++ cr.news))).put o.dst cr.v) a' w' → wpList P ops Q rest a' w'
      | .thr v sets => Fits C (s.eff (.sets (upd pre sets))) a w' → Q (.panic [{ v, recovered := false }]) a w') : wpList P ops Q L a w := by
  refine man_op hL hg ?_
  obtain ⟨hrun, hok⟩ := call_run hop hcal h hgv hl hen
  have hdist := nodup_dist h hnd hpre
  unfold Oper.wp
  rw [hrun]
  simp only [Oper.upon]
  have := hsp (s.m C) w (m_lt h) (hsim.ok hok) ⟨fun e he => (h.mem _ _ (hpre e he)).1, fun e he => (h.mem _ _ (hpre e he)).2.1, fun e he o => .inr (.inl ⟨e.1, e.2, hpre e he, rfl⟩), hdist⟩
  rw [← hsim.map] at this
  refine this.mono ?_
  rintro e w' ⟨x, hx⟩
  have hK := K x w'
  cases ho : out x with
  | ret cr =>
    rw [ho] at hx hK
    obtain ⟨rfl, g1, g2⟩ := hx
    obtain ⟨f1, f2⟩ := h.called hdist hpre g2
    refine hK _ (f1.put o.dst (fun t ht => ?_) cr.v (fun _ => f2 _ g1) _ fun _ => rfl)
    rw [eff_nt]; exact inNt_lt hd t ht
  | thr v sets =>
    rw [ho] at hx hK
    obtain ⟨rfl, g2⟩ := hx
    have f1 := (h.called hdist hpre g2).1
    rw [List.append_nil] at f1
    exact hK f1
/-- panic(x) -/
theorem man_panic {s : St} {a : Act} {w : World} {L rest : List Oper} {o : Oper} {x : Operand} {t : Nat} {v : AV} (hL : L = o :: rest) (hg : o.guard = none) (hop : o.op = .panic x) (h : Fits C s a w) (hx : val s [] x = .ifc t v) (hQ : Q (.panic [{ v := .iface t v.den, recovered := false }]) a w) : wpList P ops Q L a w := by
  refine man_op hL hg ?_
  have hxv := (val_ok h (q := []) (fun _ h => by cases h) (x := x) (by rw [hx]; rfl)).1
  rw [hx] at hxv
  have e1 : a.eval x = .iface t v.den := hxv
  have hrun : (execOp a.eval o).run P w = .halt (.panic (.iface t v.den)) w := by
    simp only [execOp, hop, e1, Instr.panic, Sem.run_bind]
    rfl
  unfold Oper.wp
  rw [hrun]
  exact hQ
/-- defer f(..) -/
theorem man_defer {s : St} {a : Act} {w : World} {L rest : List Oper} {o : Oper} {c : Call} {g : Operand} {f : FuncId} {l r args : List AV} (hL : L = o :: rest) (hg : o.guard = none) (hd : o.dst = none) (hop : o.op = .defer c) (hcal : c.callee = .value g) (h : Fits C s a w) (hgv : val s [] g = .fn f l r) (hl : vals s [] c.args.toList = some args)
    (K : ∀ a', Fits ⟨C.m0, C.w0, C.S, { target := .fn (.func f) (AV.denL r).toArray, args := (AV.denL (l ++ args)).toArray } :: C.ds⟩ s a' w → wpList P ops Q rest a' w) : wpList P ops Q L a w := by
  refine man_op hL hg ?_
  obtain ⟨h1, h2⟩ := vals_ok h (fun _ h => by cases h) hl
  have hgo := val_ok h (q := []) (fun _ h => by cases h) (x := g) (by rw [hgv]; rfl)
  rw [hgv] at hgo
  have hargs : c.args.map a.eval = (args.map AV.den).toArray := by
    apply Array.ext'
    simpa using h1
  have e1 : a.eval g = .func (.func f) (l.map AV.den).toArray (r.map AV.den).toArray := by
    have := hgo.1
    simpa [AV.den, denL_map] using this
  have hrun : (execOp a.eval o).run P w = .ok (.defer { target := .fn (.func f) (AV.denL r).toArray, args := (AV.denL (l ++ args)).toArray }) w := by
    simp [execOp, hop, resolve, hcal, e1, Deferred.ofValue, hargs, denL_map]
  unfold Oper.wp
  rw [hrun]
  simp only [Oper.upon, hd, Act.put]
  refine K _ ⟨h.size, ?_, h.slot, h.gs, h.mem, h.nodup, h.gr, h.sepm, h.sepg, h.chg, h.m0⟩
  simp only [h.defers]
/-- a deferred call is carried out -/
theorem leave_step {s : St} {a : Act} {w : World} {fn : Func} {R : Ending → World → Prop} {u u1 : FrameMode} {f : FuncId} {l r : List AV} {ds : List Deferred} (h : Fits ⟨C.m0, C.w0, C.S, { target := .fn (.func f) (AV.denL r).toArray, args := (AV.denL l).toArray } :: ds⟩ s a w) (hu : u ≠ .run) (hen : Enters P f)
    {pre : List (Nat × Blk)} {sets : List (Nat × List AV)} (hpre : ∀ e ∈ pre, lookM s.mem e.1 = some e.2) (hnd : nodupB pre = true)
    (hc : PreOk (s.m C) w pre → CallsD P f ((l ++ r).map AV.den).toArray u w fun e u' w' => (∃ v, e = .returned v) ∧ u' = u1 ∧ Left (s.m C) w w' pre sets [])
    (K : ∀ w', Fits ⟨C.m0, C.w0, C.S, ds⟩ (s.eff (.sets (upd pre sets))) { tmps := a.tmps, defers := ds } w' → Leaves P fn a.tmps R ds (settle u1) w') : Leaves P fn a.tmps R a.defers u w := by
  rw [h.defers]
  have h0 : Fits ⟨C.m0, C.w0, C.S, ds⟩ s { tmps := a.tmps, defers := ds } w := ⟨h.size, rfl, h.slot, h.gs, h.mem, h.nodup, h.gr, h.sepm, h.sepg, h.chg, h.m0⟩
  have hdist := nodup_dist h hnd hpre
  have hent := hen ((l ++ r).map AV.den).toArray w
  refine leaves_cons hu (f := f) (args := ((l ++ r).map AV.den).toArray) (by simpa [invoke, denL_map] using hent) ?_
  refine (hc ⟨fun e he => (h.mem _ _ (hpre e he)).1, fun e he => (h.mem _ _ (hpre e he)).2.1, fun e he o => .inr (.inl ⟨e.1, e.2, hpre e he, rfl⟩), hdist⟩).mono ?_
  rintro e u' w' ⟨⟨v, rfl⟩, rfl, hl⟩
  have f1 := (h0.called hdist hpre hl).1
  rw [List.append_nil] at f1
  exact K w' f1
/-- the end of a call that had deferred ones -/
theorem leave_end {s : St} {a : Act} {w : World} {m : Nat → Nat → Prop} {w0 : World} {pre : List (Nat × Blk)} (hT : TabOK P T) (h : Fits ⟨m, w0, ats pre, []⟩ s a w) {fn : Func} {out : Atom → Out} {rs : List ResultVar} (hfn : fn.results = rs.toArray) {r : List AV × List Ob} (hr : resL T s rs = some r) (ho : AllOb P r.2)
    (x : Atom) {cr : CR} (hout : out x = .ret cr) (ks : List Nat) (he : Sim (can (resA r.1)) (can cr.v)) (hs : SetsOk s pre cr.sets) (hn : NewsOk s pre ks cr.news) : Leaves P fn a.tmps (OPost m w0 pre out) [] .returning w := by
  obtain ⟨h1, h2⟩ := left_ok h hs hn
  obtain ⟨g1, g2⟩ := results_ok hT h hfn hr ho
  refine ⟨_, g1, x, ?_⟩
  rw [hout]
  exact ⟨by rw [← can_den (resA r.1), he.1, can_den], (can_ok _).2 (he.2.2 _ _ ((can_ok _).1 (h2 _ g2))), h1⟩
/-- a return ahead of all defers -/
theorem ret_d {s : St} {a : Act} {w : World} {m : Nat → Nat → Prop} {w0 : World} {pre : List (Nat × Blk)} (hT : TabOK P T) (h : Fits ⟨m, w0, ats pre, []⟩ s a w) {fn : Func} {out : Atom → Out} {rs : List ResultVar} (hfn : fn.results = rs.toArray) {r : List AV × List Ob} (hr : resL T s rs = some r) (ho : AllOb P r.2)
    (x : Atom) {cr : CR} (hout : out x = .ret cr) (ks : List Nat) (he : Sim (can (resA r.1)) (can cr.v)) (hs : SetsOk s pre cr.sets) (hn : NewsOk s pre ks cr.news) : bodyPostD P fn (OPost m w0 pre out) .ret a w := by
  show Leaves P fn a.tmps (OPost m w0 pre out) a.defers .returning w
  rw [h.defers]
  exact leave_end hT h hfn hr ho x hout ks he hs hn
/-- a return, with one deferred call that does nothing -/
theorem ret_d1 {s : St} {a : Act} {w : World} {m : Nat → Nat → Prop} {w0 : World} {pre : List (Nat × Blk)} {f : FuncId} {l r0 : List AV} (hT : TabOK P T) (h : Fits ⟨m, w0, ats pre, [{ target := .fn (.func f) (AV.denL r0).toArray, args := (AV.denL l).toArray }]⟩ s a w) (hen : Enters P f)
    (hc : ∀ w, CallsD P f ((l ++ r0).map AV.den).toArray .returning w fun e u' w' => e = .returned (.tuple #[]) ∧ u' = .returning ∧ w' = w)
    {fn : Func} {out : Atom → Out} {rs : List ResultVar} (hfn : fn.results = rs.toArray) {r : List AV × List Ob} (hr : resL T s rs = some r) (ho : AllOb P r.2)
    (x : Atom) {cr : CR} (hout : out x = .ret cr) (ks : List Nat) (he : Sim (can (resA r.1)) (can cr.v)) (hs : SetsOk s pre cr.sets) (hn : NewsOk s pre ks cr.news) : bodyPostD P fn (OPost m w0 pre out) .ret a w := by
  show Leaves P fn a.tmps (OPost m w0 pre out) a.defers .returning w
  refine leave_step (C := ⟨m, w0, ats pre, []⟩) (u1 := .returning) (pre := []) (sets := []) h (by simp) hen (by intro e he; cases he) rfl (fun _ => (hc w).mono ?_) fun w' hF => ?_
  · rintro e u' w' ⟨rfl, rfl, rfl⟩
    exact ⟨⟨_, rfl⟩, rfl, ⟨rfl, fun e he => (by cases he), fun e he => (by cases he), fun e he => (by cases he), .nil, Chg.refl _ _⟩⟩
  · have hF' : Fits ⟨m, w0, ats pre, []⟩ s { tmps := a.tmps, defers := [] } w' := hF
    exact leave_end hT hF' hfn hr ho x hout ks he hs hn
end
theorem Sim.ptr {k k' b off : Nat} : Sim (.ptr k b off) (.ptr k' b off) := ⟨rfl, fun _ => rfl, fun _ _ _ => .ptr _ _ _⟩
theorem Sim.fn {f : Nat} {l l' r r' : List AV} (h : SimL l l') (h' : SimL r r') : Sim (.fn f l r) (.fn f l' r') :=
  ⟨by simp only [AV.den, h.den, h'.den], fun _ => rfl, fun m w ho => by cases ho with | fn _ _ _ h1 h2 => exact .fn _ _ _ (h.ok h1) (h'.ok h2)⟩
theorem SimL.refl : ∀ l : List AV, SimL l l
  | [] => trivial
  | v :: l => ⟨Sim.refl v, SimL.refl l⟩
/-- other keys for the same blocks -/
theorem upd_snd : ∀ {pre pre' : List (Nat × Blk)} {r r' : List (Nat × List AV)}, pre'.map (·.2) = pre.map (·.2) → r'.map (·.2) = r.map (·.2) → (upd pre' r').map (·.2) = (upd pre r).map (·.2)
  | [], [], r, r', _, _ => by cases r <;> cases r' <;> rfl
  | [], _ :: _, _, _, h, _ => by cases h
  | _ :: _, [], _, _, h, _ => by cases h
  | _ :: _, _ :: _, [], [], _, _ => rfl
  | _ :: _, _ :: _, [], _ :: _, _, h => by cases h
  | _ :: _, _ :: _, _ :: _, [], _, h => by cases h
  | (k, b) :: l, (k', b') :: l', (q, c) :: r, (q', c') :: r', h, h' => by
    simp only [List.map_cons, List.cons.injEq] at h h'
    obtain ⟨rfl, h⟩ := h
    obtain ⟨rfl, h'⟩ := h'
    simp only [upd, List.map_cons, upd_snd h h']
theorem all_snd {l l' : List (Nat × Blk)} {p : Blk → Prop} (h : l'.map (·.2) = l.map (·.2)) (hp : ∀ e ∈ l, p e.2) : ∀ e ∈ l', p e.2 := by
  intro e he
  have : e.2 ∈ l.map (·.2) := by rw [← h]; exact List.mem_map.2 ⟨e, he, rfl⟩
  obtain ⟨e', h1, h2⟩ := List.mem_map.1 this
  rw [← h2]; exact hp e' h1
theorem pair_snd {l l' : List (Nat × Blk)} (h : l'.map (·.2) = l.map (·.2)) (hp : l.Pairwise fun e f => e.2.at_ ≠ f.2.at_) : l'.Pairwise fun e f => e.2.at_ ≠ f.2.at_ := by
  have e : ∀ l : List (Nat × Blk), (l.Pairwise fun e f => e.2.at_ ≠ f.2.at_) ↔ (l.map (·.2)).Pairwise fun b c => b.at_ ≠ c.at_ := fun l => by rw [List.pairwise_map]
  rw [e, h, ← e]; exact hp
theorem ats_snd {l l' : List (Nat × Blk)} (h : l'.map (·.2) = l.map (·.2)) (b : Nat) : ats l' b ↔ ats l b := by
  have e : ∀ l : List (Nat × Blk), ats l b ↔ ∃ x ∈ l.map (·.2), x.at_ = b := fun l => ⟨fun ⟨e, he, h⟩ => ⟨e.2, List.mem_map.2 ⟨e, he, rfl⟩, h⟩, fun ⟨x, hx, h⟩ => by obtain ⟨e, he, rfl⟩ := List.mem_map.1 hx; exact ⟨e, he, h⟩⟩
  rw [e, e, h]
theorem Left.re {m : Nat → Nat → Prop} {w w' : World} {pre pre' : List (Nat × Blk)} {sets sets' : List (Nat × List AV)} {news news' : List (Nat × Blk)} (h : Left m w w' pre sets news) (hp : pre'.map (·.2) = pre.map (·.2)) (hs : sets'.map (·.2) = sets.map (·.2)) (hk : sets'.map (·.1) = pre'.map (·.1)) (hn : news'.map (·.2) = news.map (·.2)) : Left m w w' pre' sets' news' := by
  have hm : mN m news' = mN m news := by funext b o; simp only [mN, ats_snd hn]
  have hu : (upd pre' sets' ++ news').map (·.2) = (upd pre sets ++ news).map (·.2) := by rw [List.map_append, List.map_append, upd_snd hp hs, hn]
  refine ⟨hk, all_snd (p := fun b => w'.heap[b.at_]? = some (.cells (b.cells.map AV.den).toArray b.ty (0, 0))) hu h.heap, all_snd (p := fun b => ∀ v ∈ b.cells, v.one = true ∧ Ok (mN m news') w' v) hu (hm ▸ h.ok), all_snd (p := fun b => w.heap.size ≤ b.at_) hn h.fresh, pair_snd hn h.dist, h.chg.mono fun k hk => (ats_snd hp k).2 hk⟩
theorem PreOk.re {m : Nat → Nat → Prop} {w : World} {pre pre' : List (Nat × Blk)} (h : PreOk m w pre) (hp : pre'.map (·.2) = pre.map (·.2)) : PreOk m w pre' :=
  ⟨all_snd (p := fun b => w.heap[b.at_]? = some (.cells (b.cells.map AV.den).toArray b.ty (0, 0))) hp h.heap, all_snd (p := fun b => ∀ v ∈ b.cells, v.one = true ∧ Ok m w v) hp h.ok, all_snd (p := fun b => ∀ o, m b.at_ o) hp h.free, pair_snd hp h.dist⟩
theorem SpecX.re {P : Program} {f : FuncId} {args args' : List AV} {pre pre' : List (Nat × Blk)} {res res' : Atom → CR} (h : SpecX P f args pre res) (ha : SimL args' args) (hp : pre'.map (·.2) = pre.map (·.2))
    (hr : ∀ x, (res' x).sets.map (·.2) = (res x).sets.map (·.2) ∧ (res' x).sets.map (·.1) = pre'.map (·.1) ∧ Sim (res x).v (res' x).v ∧ (res' x).news.map (·.2) = (res x).news.map (·.2)) : SpecX P f args' pre' res' := by
  intro m w h1 h2 h3
  rw [ha.map]
  refine (h m w h1 (ha.ok h2) (h3.re hp.symm)).mono ?_
  rintro e w' ⟨x, rfl, hok, hl⟩
  obtain ⟨r1, r2, r3, r4⟩ := hr x
  have hm : mN m (res' x).news = mN m (res x).news := by funext b o; simp only [mN, ats_snd r4]
  exact ⟨x, by rw [r3.1], by rw [hm]; exact r3.2.2 _ _ hok, hl.re hp r1 r2 r4⟩
def ReOut (pre' : List (Nat × Blk)) : Out → Out → Prop
  | .ret r, .ret r' => r'.sets.map (·.2) = r.sets.map (·.2) ∧ r'.sets.map (·.1) = pre'.map (·.1) ∧ Sim r.v r'.v ∧ r'.news.map (·.2) = r.news.map (·.2)
  | .thr v sets, .thr v' sets' => v' = v ∧ sets'.map (·.2) = sets.map (·.2) ∧ sets'.map (·.1) = pre'.map (·.1)
  | _, _ => False
theorem SpecO.re {P : Program} {f : FuncId} {args args' : List AV} {pre pre' : List (Nat × Blk)} {out out' : Atom → Out} (h : SpecO P f args pre out) (ha : SimL args' args) (hp : pre'.map (·.2) = pre.map (·.2)) (hr : ∀ x, ReOut pre' (out x) (out' x)) : SpecO P f args' pre' out' := by
  intro m w h1 h2 h3
  rw [ha.map]
  refine (h m w h1 (ha.ok h2) (h3.re hp.symm)).mono ?_
  rintro e w' ⟨x, hx⟩
  refine ⟨x, ?_⟩
  have hrx := hr x
  cases ho : out x with
  | ret r =>
    cases ho' : out' x with
    | ret r' =>
      rw [ho] at hx hrx
      rw [ho'] at hrx
      obtain ⟨r1, r2, r3, r4⟩ := hrx
      obtain ⟨rfl, hok, hl⟩ := hx
      have hm : mN m r'.news = mN m r.news := by funext b o; simp only [mN, ats_snd r4]
      exact ⟨by rw [r3.1], by rw [hm]; exact r3.2.2 _ _ hok, hl.re hp r1 r2 r4⟩
    | thr v sets => rw [ho, ho'] at hrx; exact hrx.elim
  | thr v sets =>
    cases ho' : out' x with
    | ret r' => rw [ho, ho'] at hrx; exact hrx.elim
    | thr v' sets' =>
      rw [ho] at hx hrx
      rw [ho'] at hrx
      obtain ⟨rfl, r1, r2⟩ := hrx
      obtain ⟨rfl, hl⟩ := hx
      exact ⟨rfl, hl.re hp r1 r2 rfl⟩
/-! ### the same with a free algebra, that cbv cannot lay open -/
section
variable {C : Cx} {P : Program} {Q : Exit → Act → World → Prop} {T : List (Nat × TI)} {s : St} {a : Act} {w : World}
theorem region_okB {id : Nat} {l : List Oper} {B : Alg} (hB : B = std) (hT : TabOK P T) (kp km : List Nat) (cs : List (Nat × CS)) (h : Fits C s a w) {R : Alg → (Nat → Atom) → St × List Ob}
    (hex : ∀ A X, (exec A T cs X l (number 0 l) s).map (fun r => (r.1.keep kp km, r.2.1)) = some (R A X)) (hob : ∀ X, AllOb P (R B X).2) (hQ : ∀ X a' w', Fits C (R B X).1 a' w' → Q .normal a' w') : (Code.region id l.toArray false).wp P Q a w := by
  subst hB
  exact region_ok hT kp km cs h hex hob hQ
theorem drawn_okB {id : Nat} {l : List Oper} {B : Alg} (hB : B = std) (hm : P.follows .mixedOrders = true) (hT : TabOK P T) (kp km : List Nat) (cs : List (Nat × CS)) (h : Fits C s a w) (hgs : s.gs = []) (fs : List Foot) (hD : drawB l fs = true) (hlen : l.length = fs.length)
    {R : Alg → (Nat → Atom) → St × List Ob}
    (hex : ∀ A X, (exec A T cs X l (number 0 l) s).map (fun r => ((r.1.keep kp km, r.2.1), r.2.2)) = some (R A X, fs)) (hob : ∀ X, AllOb P (R B X).2) (hQ : ∀ X a' w', Fits C (R B X).1 a' w' → Q .normal a' w') : (Code.region id l.toArray true).wp P Q a w := by
  subst hB
  exact drawn_ok hm hT kp km cs h hgs fs hD hlen hex hob hQ
theorem list_preB {all L : List Oper} (i n : Nat) {B : Alg} (hB : B = std) (hT : TabOK P T) (kp km : List Nat) (cs : List (Nat × CS)) (h : Fits C s a w) {R : Alg → (Nat → Atom) → St × List Ob}
    (hex : ∀ A X, (exec A T cs X all (number i (L.take n)) s).map (fun r => (r.1.keep kp km, r.2.1)) = some (R A X)) (hob : ∀ X, AllOb P (R B X).2) (hQ : ∀ X a' w', Fits C (R B X).1 a' w' → wpList P all.toArray Q (L.drop n) a' w') : wpList P all.toArray Q L a w := by
  subst hB
  exact list_pre i n hT kp km cs h hex hob hQ
theorem list_endB {all L : List Oper} (i : Nat) {B : Alg} (hB : B = std) (hT : TabOK P T) (kp km : List Nat) (cs : List (Nat × CS)) (h : Fits C s a w) {R : Alg → (Nat → Atom) → St × List Ob}
    (hex : ∀ A X, (exec A T cs X all (number i L) s).map (fun r => (r.1.keep kp km, r.2.1)) = some (R A X)) (hob : ∀ X, AllOb P (R B X).2) (hQ : ∀ X a' w', Fits C (R B X).1 a' w' → Q .normal a' w') : wpList P all.toArray Q L a w := by
  subst hB
  exact list_end i hT kp km cs h hex hob hQ
end
end Go.Proofs.YtkamdppnnhjajaaDoor.Sym

namespace Go.Proofs.YtkamdppnnhjajaaDoor
open Go.RowKit
set_option linter.unusedVariables false
set_option linter.unusedSimpArgs false

def mkB (l : List UInt8) : ByteArray := ⟨l.toArray⟩
def unB (s : ByteArray) : List UInt8 := s.data.toList
theorem mk_un (s : ByteArray) : mkB (unB s) = s := by simp [mkB, unB]
theorem un_mk (l : List UInt8) : unB (mkB l) = l := by simp [mkB, unB]
theorem un_inj {s t : ByteArray} (h : unB s = unB t) : s = t := by rw [← mk_un s, ← mk_un t, h]
theorem un_append (s t : ByteArray) : unB (s ++ t) = unB s ++ unB t := by
  show (s ++ t).data.toList = _
  rw [ByteArray.data_append, Array.toList_append]
  rfl
theorem mk_append (a b : List UInt8) : mkB a ++ mkB b = mkB (a ++ b) := by apply un_inj; rw [un_append, un_mk, un_mk, un_mk]
theorem un_size (s : ByteArray) : (unB s).length = s.size := Array.length_toList
theorem mk_size (l : List UInt8) : (mkB l).size = l.length := by rw [← un_size, un_mk]
theorem un_extract (s : ByteArray) (i j : Nat) : unB (s.extract i j) = ((unB s).take j).drop i := by
  unfold unB
  rw [ByteArray.data_extract, Array.toList_extract]
  simp [List.extract, List.drop_take]
theorem mk_extract (l : List UInt8) (i j : Nat) : (mkB l).extract i j = mkB ((l.take j).drop i) := by apply un_inj; rw [un_extract, un_mk, un_mk]
theorem un_get (s : ByteArray) (i : Nat) : s[i]? = (unB s)[i]? := by
  unfold unB
  rw [Array.getElem?_toList]
  by_cases h : i < s.size
  · rw [getElem?_pos s i h, getElem?_pos s.data i h]; rfl
  · rw [getElem?_neg s i h, getElem?_neg s.data i h]
theorem mk_get (l : List UInt8) (i : Nat) : (mkB l)[i]? = l[i]? := by rw [un_get, un_mk]
theorem un_push (s : ByteArray) (c : UInt8) : unB (s.push c) = unB s ++ [c] := by simp [unB, ByteArray.data_push]
theorem mk_push (l : List UInt8) (c : UInt8) : (mkB l).push c = mkB (l ++ [c]) := by apply un_inj; rw [un_push, un_mk, un_mk]
theorem un_empty : unB ByteArray.empty = [] := rfl
theorem toList_un (s : ByteArray) : s.toList = unB s := by simp [unB, ByteArray.toList_eq]
theorem eqB (s t : ByteArray) : (s.toList == t.toList) = decide (unB s = unB t) := by
  rw [toList_un, toList_un]
  by_cases h : unB s = unB t
  · simp [h]
  · simp [h]
theorem beqB (s t : ByteArray) : (s == t) = true ↔ s = t := by
  cases s with | mk a => cases t with | mk b =>
  have : (ByteArray.mk a == ByteArray.mk b) = (a == b) := rfl
  rw [this]
  simp
theorem mk_inj {a b : List UInt8} : mkB a = mkB b ↔ a = b := ⟨fun h => by rw [← un_mk a, ← un_mk b, h], fun h => by rw [h]⟩
theorem mk_nil : mkB [] = ByteArray.empty := rfl
end Go.Proofs.YtkamdppnnhjajaaDoor

namespace Go.Proofs.YtkamdppnnhjajaaDoor.Sym
open Go.RowKit
set_option linter.unusedVariables false
set_option linter.unusedSimpArgs false

inductive Sh where
  | int (k : IntKind)
  | bool
  | str
def Sh.fits : Sh → AV → Prop
  | .int k, .int k' _ => k = k'
  | .bool, .bool _ => True
  | .str, .str _ => True
  | _, _ => False
def fitsL : List Sh → List AV → Prop
  | [], [] => True
  | h :: l, v :: r => h.fits v ∧ fitsL l r
  | _, _ => False
def shFields (P : Program) (g : TypeId → Option (List Sh)) : List Field → Nat → Option (List Sh)
  | [], _ => some []
  | f :: fs, off => if f.name == "_" || f.offset != off then none else match g f.type with
    | some sh => if sizeB P f.type == some sh.length && (aggB P f.type).isSome && (aggB P f.type != some false || sh.length == 1) then (shFields P g fs (off + sh.length)).map (sh ++ ·) else none
    | none => none
def eqShape (P : Program) : Nat → TypeId → Option (List Sh)
  | 0, _ => none
  | d + 1, t => match P.underlying t with
    | some .bool => some [.bool]
    | some (.int k) => some [.int k]
    | some .string => some [.str]
    | some (.struct fs) => if P.stoodInHeld t then none else shFields P (eqShape P d) fs.toList 0
    | some (.array n e) => match eqShape P d e with
      | some sh => if P.cellsOf e == sh.length && (P.info? e).isSome && sizeB P e == some sh.length && (aggB P e).isSome && (aggB P e != some false || sh.length == 1) then some (List.replicate n sh).flatten else none
      | none => none
    | _ => none
def mkV (g : Bool) (l : List AV) : Value := if g then .agg (l.map AV.den).toArray else (l.map AV.den).headD Go.undef
theorem fitsL_len : ∀ {sh : List Sh} {l : List AV}, fitsL sh l → l.length = sh.length
  | [], [], _ => rfl
  | _ :: _, _ :: _, h => by simp [fitsL_len h.2]
  | [], _ :: _, h => h.elim
  | _ :: _, [], h => h.elim
theorem fitsL_split : ∀ {s1 s2 : List Sh} {l : List AV}, fitsL (s1 ++ s2) l → ∃ a b, l = a ++ b ∧ fitsL s1 a ∧ fitsL s2 b
  | [], s2, l, h => ⟨[], l, rfl, trivial, h⟩
  | _ :: _, _, [], h => h.elim
  | s :: s1, s2, v :: l, h => by
    obtain ⟨a, b, rfl, h1, h2⟩ := fitsL_split h.2
    exact ⟨v :: a, b, rfl, ⟨h.1, h1⟩, h2⟩
theorem eqL_append : ∀ {a b a' b' : List AV}, a.length = a'.length → eqL (a ++ b) (a' ++ b') = (eqL a a' && eqL b b')
  | [], b, [], b', _ => by cases b <;> cases b' <;> simp [eqL]
  | [], _, _ :: _, _, h => by cases h
  | _ :: _, _, [], _, h => by cases h
  | v :: a, b, v' :: a', b', h => by
    have := eqL_append (a := a) (b := b) (a' := a') (b' := b') (by simpa using h)
    simp only [List.cons_append, eqL, this, Bool.and_assoc]
section
variable {P : Program} {w : World}
theorem run_part {e : TypeId} {g : Bool} {sh : List Sh} {px x sx : List AV} (hg : aggB P e = some g) (hs : sizeB P e = some sh.length) (h1 : g = false → sh.length = 1) (hx : fitsL sh x) :
    (part e ((px ++ x ++ sx).map AV.den).toArray px.length).run P w = .ok (mkV g x) w := by
  have hl := fitsL_len hx
  unfold part
  simp only [Sem.run_bind, aggB_ok hg w, Result.andThen_ok]
  cases g with
  | true =>
    simp only [if_true, Sem.run_bind, sizeB_ok hs w, Result.andThen_ok, Sem.run_pure, mkV]
    congr 2
    apply Array.ext'
    rw [Array.toList_extract]
    simp only [List.extract, Nat.add_sub_cancel_left, List.map_append, ← hl]
    rw [List.append_assoc, List.drop_append_of_le_length (by simp), List.drop_eq_nil_of_le (by simp), List.nil_append, List.take_append_of_le_length (by simp), List.take_of_length_le (by simp)]
  | false =>
    obtain ⟨v, rfl⟩ : ∃ v, x = [v] := by
      rw [h1 rfl] at hl
      exact List.length_eq_one_iff.1 hl
    have : ((px ++ [v] ++ sx).map AV.den).toArray[px.length]? = some v.den := by simp
    rw [this]
    simp [mkV]
theorem eq_fields {d D : Nat} (IH : ∀ t sh, eqShape P d t = some sh → ∀ x y g, aggB P t = some g → fitsL sh x → fitsL sh y → (Op.equalIn (D + d) t (mkV g x) (mkV g y)).run P w = .ok (eqL x y) w) :
    ∀ (fs : List Field) (off : Nat) (sh : List Sh), shFields P (eqShape P d) fs off = some sh → ∀ (px py x y : List AV), px.length = off → py.length = off → fitsL sh x → fitsL sh y →
      (Op.eqFields (D + d) ((px ++ x).map AV.den).toArray ((py ++ y).map AV.den).toArray fs).run P w = .ok (eqL x y) w
  | [], off, sh, h, px, py, x, y, hp, hq, hx, hy => by
    simp only [shFields, Option.some.injEq] at h
    subst h
    cases x with
    | cons => exact hx.elim
    | nil => cases y with
      | cons => exact hy.elim
      | nil => simp [Op.eqFields, eqL]
  | f :: fs, off, sh, h, px, py, x, y, hp, hq, hx, hy => by
    simp only [shFields] at h
    split at h
    · cases h
    · rename_i hn
      simp only [Bool.or_eq_true, beq_iff_eq, bne_iff_ne, not_or, ne_eq, Decidable.not_not] at hn
      obtain ⟨hn1, hn2⟩ := hn
      split at h
      · rename_i s1 hs1
        split at h
        · rename_i hc
          simp only [Bool.and_eq_true, beq_iff_eq, Bool.or_eq_true, bne_iff_ne, ne_eq] at hc
          obtain ⟨⟨hc1, hc2⟩, hc3⟩ := hc
          obtain ⟨s2, hs2, rfl⟩ := Option.map_eq_some_iff.1 h
          obtain ⟨a, b, rfl, ha, hb⟩ := fitsL_split hx
          obtain ⟨a', b', rfl, ha', hb'⟩ := fitsL_split hy
          obtain ⟨g, hg⟩ := Option.isSome_iff_exists.1 hc2
          have h1 : g = false → s1.length = 1 := by
            intro hgf
            rcases hc3 with h | h
            · rw [hg, hgf] at h; exact absurd rfl h
            · exact h
          have p1 := run_part (P := P) (w := w) (px := px) (sx := b) hg hc1 h1 ha
          have p2 := run_part (P := P) (w := w) (px := py) (sx := b') hg hc1 h1 ha'
          rw [hp] at p1
          rw [hq] at p2
          have la := fitsL_len ha
          have la' := fitsL_len ha'
          have e1 := IH _ _ hs1 a a' g hg ha ha'
          have e2 := eq_fields IH fs (off + s1.length) s2 hs2 (px ++ a) (py ++ a') b b' (by simp [hp, la]) (by simp [hq, la']) hb hb'
          rw [eqL_append (la.trans la'.symm)]
          simp only [← List.append_assoc]
          unfold Op.eqFields
          simp only [hn1, ne_eq, not_false_eq_true, if_true, Sem.run_bind, hn2, p1, p2, e1, Result.andThen_ok]
          cases hE : eqL a a' with
          | true => simpa using e2
          | false => simp
        · cases h
      · cases h
theorem eq_items {d D : Nat} {e : TypeId} {g : Bool} {sh : List Sh} (hg : aggB P e = some g) (hs : sizeB P e = some sh.length) (h1 : g = false → sh.length = 1)
    (IH : ∀ x y, fitsL sh x → fitsL sh y → (Op.equalIn (D + d) e (mkV g x) (mkV g y)).run P w = .ok (eqL x y) w) :
    ∀ (n i : Nat) (px py x y : List AV), px.length = i * sh.length → py.length = i * sh.length → fitsL (List.replicate n sh).flatten x → fitsL (List.replicate n sh).flatten y →
      (Op.eqItems (D + d) e sh.length ((px ++ x).map AV.den).toArray ((py ++ y).map AV.den).toArray (List.range' i n)).run P w = .ok (eqL x y) w
  | 0, i, px, py, x, y, hp, hq, hx, hy => by
    cases x with
    | cons => exact hx.elim
    | nil => cases y with
      | cons => exact hy.elim
      | nil => simp [Op.eqItems, eqL]
  | n + 1, i, px, py, x, y, hp, hq, hx, hy => by
    rw [List.replicate_succ, List.flatten_cons] at hx hy
    obtain ⟨a, b, rfl, ha, hb⟩ := fitsL_split hx
    obtain ⟨a', b', rfl, ha', hb'⟩ := fitsL_split hy
    have p1 := run_part (P := P) (w := w) (px := px) (sx := b) hg hs h1 ha
    have p2 := run_part (P := P) (w := w) (px := py) (sx := b') hg hs h1 ha'
    rw [hp] at p1
    rw [hq] at p2
    have la := fitsL_len ha
    have la' := fitsL_len ha'
    have e1 := IH a a' ha ha'
    have e2 := eq_items hg hs h1 IH n (i + 1) (px ++ a) (py ++ a') b b' (by rw [List.length_append, hp, la, Nat.add_mul, Nat.one_mul]) (by rw [List.length_append, hq, la', Nat.add_mul, Nat.one_mul]) hb hb'
    rw [eqL_append (la.trans la'.symm)]
    simp only [← List.append_assoc]
    rw [List.range'_succ]
    unfold Op.eqItems
    simp only [Sem.run_bind, p1, p2, e1, Result.andThen_ok]
    cases hE : eqL a a' with
    | true => simpa using e2
    | false => simp
theorem eq_shape (w : World) : ∀ (d : Nat) (t : TypeId) (sh : List Sh), eqShape P d t = some sh → ∀ (D : Nat) (x y : List AV) (g : Bool), aggB P t = some g → fitsL sh x → fitsL sh y → (Op.equalIn (D + d) t (mkV g x) (mkV g y)).run P w = .ok (eqL x y) w
  | 0, t, sh, h, _, _, _, _, _, _, _ => by cases h
  | d + 1, t, sh, h, D, x, y, g, hg, hx, hy => by
    have one : ∀ {s : Sh} {z : List AV}, fitsL [s] z → ∃ v, z = [v] ∧ s.fits v := by
      intro s z hz
      match z, hz with
      | [v], hz => exact ⟨v, rfl, hz.1⟩
    simp only [eqShape] at h
    split at h
    · rename_i hu
      injection h with h; subst h
      obtain ⟨v, rfl, hv⟩ := one hx
      obtain ⟨u, rfl, hu'⟩ := one hy
      have : g = false := by simpa [aggB, hu] using hg
      subst this
      cases v <;> simp only [Sh.fits] at hv
      cases u <;> simp only [Sh.fits] at hu'
      simp only [mkV, List.map_cons, List.headD_cons, Bool.false_eq_true, if_false, AV.den, ← Nat.add_assoc]
      rw [run_equalIn_bool w _ _ _ _ hu]
      simp [eqL, eqC]
    · rename_i k hu
      injection h with h; subst h
      obtain ⟨v, rfl, hv⟩ := one hx
      obtain ⟨u, rfl, hu'⟩ := one hy
      have : g = false := by simpa [aggB, hu] using hg
      subst this
      cases v <;> simp only [Sh.fits] at hv
      cases u <;> simp only [Sh.fits] at hu'
      subst hv; subst hu'
      simp only [mkV, List.map_cons, List.headD_cons, Bool.false_eq_true, if_false, AV.den, ← Nat.add_assoc]
      rw [run_equalIn_int w _ _ _ _ _ _ hu]
      simp [eqL, eqC]
    · rename_i hu
      injection h with h; subst h
      obtain ⟨v, rfl, hv⟩ := one hx
      obtain ⟨u, rfl, hu'⟩ := one hy
      have : g = false := by simpa [aggB, hu] using hg
      subst this
      cases v <;> simp only [Sh.fits] at hv
      cases u <;> simp only [Sh.fits] at hu'
      rename_i s1 s2
      simp only [mkV, List.map_cons, List.headD_cons, Bool.false_eq_true, if_false, AV.den, ← Nat.add_assoc]
      rw [run_equalIn_string w _ _ _ _ hu]
      have e : (s1.toList == s2.toList) = (s1 == s2) := by
        rw [Bool.eq_iff_iff, beq_iff_eq, toList_un, toList_un]
        constructor
        · intro h; rw [un_inj h]; exact (beqB _ _).2 rfl
        · intro h; rw [(beqB _ _).1 h]
      simp [eqL, eqC, e]
    · rename_i fs hu
      split at h
      · cases h
      · rename_i hst
        have : g = true := by simpa [aggB, hu] using hg
        subst this
        have hfs : P.fieldsOf t = fs := by simp [Program.fieldsOf, hu]
        have := eq_fields (w := w) (D := D) (fun t sh h x y g hg hx hy => eq_shape w d t sh h D x y g hg hx hy) fs.toList 0 sh h [] [] x y rfl rfl hx hy
        simp only [mkV, if_true, ← Nat.add_assoc]
        rw [run_equalIn_struct w _ t _ _ (by rw [hfs]; exact hu) (by simpa using hst), hfs]
        exact this
    · rename_i n e hu
      split at h
      · rename_i s1 hs1
        split at h
        · rename_i hc
          simp only [Bool.and_eq_true, beq_iff_eq, Bool.or_eq_true, bne_iff_ne, ne_eq] at hc
          obtain ⟨⟨⟨⟨c1, c2⟩, c3⟩, c4⟩, c5⟩ := hc
          injection h with h; subst h
          have : g = true := by simpa [aggB, hu] using hg
          subst this
          obtain ⟨i, hi⟩ := Option.isSome_iff_exists.1 c2
          obtain ⟨g', hg'⟩ := Option.isSome_iff_exists.1 c4
          have h1 : g' = false → s1.length = 1 := by
            intro hgf
            rcases c5 with h | h
            · rw [hg', hgf] at h; exact absurd rfl h
            · exact h
          have := eq_items (w := w) (D := D) (d := d) hg' c3 h1 (fun x y hx hy => eq_shape w d e s1 hs1 D x y g' hg' hx hy) n 0 [] [] x y (by simp) (by simp) hx hy
          simp only [mkV, if_true, ← Nat.add_assoc]
          rw [run_equalIn_array w _ _ _ hu hi, c1, List.range_eq_range']
          exact this
        · cases h
      · cases h
    · cases h
theorem ob_eql {t : Nat} {d : Nat} {sh : List Sh} (hsh : eqShape P d t = some sh) (hd : d ≤ 10000) (hg : P.eqGuardType P.depth t = false) (ha : aggB P t = some true) {x y : List AV} (hx : fitsL sh x) (hy : fitsL sh y) : Ob.holds P (.eql t x y) := by
  intro w o1 o2
  have h := eq_shape w d t sh hsh (10000 - d) x y true ha hx hy
  rw [show 10000 - d + d = 10000 by omega] at h
  have hgd : ∀ op, (eqGuard op t o1 o2 (.agg (x.map AV.den).toArray) (.agg (y.map AV.den).toArray)).run P w = .ok () w := by
    intro op
    unfold eqGuard
    cases op <;> simp [hg] <;> rfl
  simp only [mkV, if_true] at h
  constructor
  · simp only [Sem.run_bind, hgd, Result.andThen_ok]
    rw [run_eql_struct, h]
    rfl
  · simp only [Sem.run_bind, hgd, Result.andThen_ok]
    rw [run_neq_struct, h]
    rfl
end
end Go.Proofs.YtkamdppnnhjajaaDoor.Sym

namespace Go.Proofs.YtkamdppnnhjajaaDoor.Sym
open Go.RowKit
set_option linter.unusedVariables false
set_option linter.unusedSimpArgs false

/-- a contract of a function that is deferred -/
def SpecD (P : Program) (f : FuncId) (args : List AV) (pre : List (Nat × Blk)) (res : Atom → CR) : Prop :=
  ∀ (u : FrameMode) (m : Nat → Nat → Prop) (w : World), (∀ b o, m b o → b < w.heap.size) → (∀ v ∈ args, Ok m w v) → PreOk m w pre → CallsD P f (args.map AV.den).toArray u w fun e u' w' => u' = u ∧ XPost m w pre res e w'
section
variable {P : Program}
theorem enterXD {u : FrameMode} {m : Nat → Nat → Prop} {w : World} {pre : List (Nat × Blk)} (hm : ∀ b o, m b o → b < w.heap.size) (hp : PreOk m w pre) {args : List AV} (hargs : ∀ v ∈ args, Ok m w v) {f : FuncId} {fn : Func} {c : Code} {R : Ending → World → Prop} (hf : P.funcs[f]? = some fn) (hbd : fn.body = some c) (hn : args.length ≤ fn.ntmps)
    (h : ∀ a, Fits ⟨m, w, ats pre, []⟩ ⟨fn.ntmps, startT 0 args, [], pre, []⟩ a w → c.wp P (bodyPost P fn R) a w) : CallsD P f (args.map AV.den).toArray u w fun e u' w' => u' = u ∧ R e w' := by
  refine callsD_of_wp hf hbd ?_
  have := h _ (enterFits hm hp hargs hn)
  simpa using this
variable {C : Cx}
/-- a deferred call is carried out: its contract is known -/
theorem leave_d {s : St} {a : Act} {w : World} {fn : Func} {R : Ending → World → Prop} {u : FrameMode} {f : FuncId} {l r : List AV} {ds : List Deferred} (h : Fits ⟨C.m0, C.w0, C.S, { target := .fn (.func f) (AV.denL r).toArray, args := (AV.denL l).toArray } :: ds⟩ s a w) (hu : u ≠ .run) (hen : Enters P f)
    {pre : List (Nat × Blk)} {sets : List (Nat × List AV)} {v : AV} (hsp : SpecD P f (l ++ r) pre (fun _ => ⟨v, sets, []⟩)) (hok : ∀ w, ∀ v ∈ l ++ r, Ok (s.m C) w v) (hpre : ∀ e ∈ pre, lookM s.mem e.1 = some e.2) (hnd : nodupB pre = true)
    (K : ∀ w', Fits ⟨C.m0, C.w0, C.S, ds⟩ (s.eff (.sets (upd pre sets))) { tmps := a.tmps, defers := ds } w' → Leaves P fn a.tmps R ds (settle u) w') : Leaves P fn a.tmps R a.defers u w := by
  have hlt : ∀ b o, s.m C b o → b < w.heap.size := m_lt (C := ⟨C.m0, C.w0, C.S, { target := .fn (.func f) (AV.denL r).toArray, args := (AV.denL l).toArray } :: ds⟩) h
  refine leave_step h hu hen hpre hnd (fun hp => (hsp u (s.m C) w hlt (hok w) hp).mono ?_) K
  rintro e u' w' ⟨rfl, x, rfl, _, hl⟩
  exact ⟨⟨_, rfl⟩, rfl, hl⟩
/-- a block of one cell is set -/
theorem left_set {m : Nat → Nat → Prop} {w : World} {k b ty : Nat} {v v' : AV} (hp : PreOk m w [(k, ⟨b, ty, [v]⟩)]) (h1 : v'.one = true) (hok : ∀ w, Ok m w v') : Left m w (w.setRow b #[v'.den]) [(k, ⟨b, ty, [v]⟩)] [(k, [v'])] [] := by
  have hh := hp.heap _ (List.mem_singleton.2 rfl)
  refine ⟨rfl, fun e he => ?_, fun e he u hu => ?_, fun e he => (by cases he), .nil, ?_⟩
  · simp only [upd, List.append_nil, List.mem_singleton] at he
    subst he
    exact setRow_heap w b _ #[v'.den] ty (0, 0) hh
  · simp only [upd, List.append_nil, List.mem_singleton] at he
    subst he
    simp only [List.mem_singleton] at hu
    subst hu
    exact ⟨h1, (hok _).mono fun b' o u h1 h2 => ⟨h1, fun h => h2 (h.resolve_right fun ⟨e, he, _⟩ => by cases he)⟩⟩
  · exact ⟨rfl, rfl, rfl, by simp [World.setRow], fun k' _ hn => setRow_other w b k' _ (fun e => hn ⟨_, List.mem_singleton.2 rfl, e.symm⟩)⟩
end
theorem left_id {m : Nat → Nat → Prop} {w : World} : Left m w w [] [] [] := ⟨rfl, fun e he => (by cases he), fun e he => (by cases he), fun e he => (by cases he), .nil, Chg.refl _ _⟩
end Go.Proofs.YtkamdppnnhjajaaDoor.Sym

namespace Go.Proofs.YtkamdppnnhjajaaDoor.Sym
open Go.RowKit
set_option linter.unusedVariables false
set_option linter.unusedSimpArgs false

theorem Fits.fresh {C : Cx} {s : St} {a : Act} {w w' : World} (h : Fits C s a w) (hb : Below w.heap.size w w') (key : Nat) {t : Gr} (hk : 0 < t.k) {xs : List Value} (hO : Own w' w.heap.size t.e t.k t.v t.n xs) :
    Fits C (s.eff (.grow key t)) a w' := by
  have hcell : ∀ b o u, w.cell? ⟨b, o, none⟩ = some u → w'.cell? ⟨b, o, none⟩ = some u := fun b o u hc => by
    rw [hb.cell (World.block_lt_of_cell? w _ hc)]; exact hc
  have hlt : ∀ b, ownB t.v = some b → w.heap.size ≤ b := fun b hv => (hO.lt b hv).1
  have hm : ∀ b o, b < w.heap.size → ¬ s.m C b o → ¬ (s.eff (.grow key t)).m C b o := by
    intro b o hbl hn hm
    rcases hm with hm | hm | ⟨k', t', ht', hv, hm⟩
    · exact hn (.inl hm)
    · exact hn (.inr (.inl hm))
    · rcases lookM_eff ht' with ⟨_, rfl⟩ | ⟨_, ht'⟩
      · have := hlt b hv; omega
      · exact hn (.inr (.inr ⟨k', t', ht', hv, hm⟩))
  have mono : ∀ v, Ok (s.m C) w v → Ok ((s.eff (.grow key t)).m C) w' v := fun v hv => hv.mono fun b o u h1 h2 => ⟨hcell b o u h1, hm b o (World.block_lt_of_cell? w _ h1) h2⟩
  have hsz := h.chg.size
  refine ⟨h.size, h.defers, fun t ht => ⟨(h.slot t ht).1, mono _ (h.slot t ht).2⟩, fun t p v he hk => ⟨fun hp => ⟨((h.gs t p v he hk).1 hp).1, mono _ ((h.gs t p v he hk).1 hp).2⟩, (h.gs t p v he hk).2⟩, ?_, h.nodup, ?_, ?_, ?_, ?_, h.m0⟩
  · intro k e he
    obtain ⟨h1, h2, h3⟩ := h.mem k e he
    exact ⟨(hb.block _ (lt_of_heap h1)).trans h1, fun v hv => ⟨(h2 v hv).1, mono _ (h2 v hv).2⟩, h3⟩
  · intro k t' ht'
    rcases lookM_eff ht' with ⟨_, rfl⟩ | ⟨hne, ht'⟩
    · exact ⟨hk, _, hO.mono hsz⟩
    · obtain ⟨h1, xs', h2⟩ := h.gr k t' ht'
      exact ⟨h1, xs', h2.keep fun b hv => hb.block b (h2.lt b hv).2⟩
  · intro k t' k' e ht' he
    rcases lookM_eff ht' with ⟨_, rfl⟩ | ⟨_, ht'⟩
    · intro hv
      have := hlt _ hv
      have := lt_of_heap (h.mem k' e he).1
      omega
    · exact h.sepm k t' k' e ht' he
  · intro k1 t1 k2 t2 b h1 h2 hne hv hv'
    rcases lookM_eff h1 with ⟨e1, r1⟩ | ⟨e1, g1⟩
    · rcases lookM_eff h2 with ⟨e2, _⟩ | ⟨e2, g2⟩
      · exact hne (e1.trans e2.symm)
      · obtain ⟨_, xs', ho'⟩ := h.gr k2 t2 g2
        have := (ho'.lt _ hv').2
        have := hlt _ (r1 ▸ hv)
        omega
    · rcases lookM_eff h2 with ⟨e2, r2⟩ | ⟨e2, g2⟩
      · obtain ⟨_, xs', ho'⟩ := h.gr k1 t1 g1
        have := (ho'.lt _ hv).2
        have := hlt _ (r2 ▸ hv')
        omega
      · exact h.sepg k1 t1 k2 t2 b g1 g2 hne hv hv'
  · exact h.chg.trans (Chg.of_new (S := fun _ => False) hb) fun k hk e => e.elim
/-- an owned row that is empty is known -/
theorem own_empty {m : Nat → Nat → Prop} {w : World} {B e k : Nat} {A : Option Addr} {c : Nat} {xs : List Value} (h : Own w B e k (.slice A 0 c) 0 xs) (g : Option Nat) (f : Nat → List AV) : Ok m w (.sl g A 0 c k f) := by
  obtain ⟨A', c', he, h1, h2⟩ := h.isSlice
  injection he with _ _ e3; subst e3
  exact .sl _ _ _ _ _ _ (Nat.zero_le _) h2 (fun i hi => absurd hi (Nat.not_lt_zero _)) (fun i hi => absurd hi (Nat.not_lt_zero _)) (fun i hi => absurd hi (Nat.not_lt_zero _)) (fun i hi => absurd hi (Nat.not_lt_zero _)) (fun i hi => absurd hi (Nat.not_lt_zero _))
section
variable {C : Cx} {P : Program} {Q : Exit → Act → World → Prop} {ops : Array Oper}
/-- a call by hand that yields an empty row of the caller's own -/
theorem man_fresh {s : St} {a : Act} {w : World} {L rest : List Oper} {o : Oper} {c : Call} {g : Operand} {f : FuncId} {l r args : List AV} {d : Nat} (hL : L = o :: rest) (hg : o.guard = none) (hop : o.op = .call c) (hcal : c.callee = .value g) (hdst : o.dst = some d) (h : Fits C s a w) (hgv : val s [] g = .fn f l r) (hl : vals s [] c.args.toList = some args) (hen : Enters P f) (hd : d < s.nt)
    {e k : Nat} (hk : 0 < k) (fc : Nat → List AV) (hc : Calls P f ((l ++ args ++ r).map AV.den).toArray w fun en w' => ∃ A' c', en = .returned (.slice A' 0 c') ∧ Own w' w.heap.size e k (.slice A' 0 c') 0 [] ∧ Below w.heap.size w w')
    (K : ∀ A' c' a' w', Fits C ((s.eff (.grow d ⟨A', 0, c', k, e⟩)).put (some d) (.sl (some d) A' 0 c' k fc)) a' w' → wpList P ops Q rest a' w') : wpList P ops Q L a w := by
  refine man_op hL hg ?_
  obtain ⟨hrun, hok⟩ := call_run hop hcal h hgv hl hen
  unfold Oper.wp
  rw [hrun]
  simp only [Oper.upon]
  refine hc.mono ?_
  rintro en w' ⟨A', c', rfl, hO, hb⟩
  have hf := h.fresh hb d (t := ⟨A', 0, c', k, e⟩) hk hO
  rw [hdst]
  refine K A' c' _ w' (hf.put (some d) (fun t ht => ?_) (.sl (some d) A' 0 c' k fc) (fun _ => own_empty hO _ _) _ fun _ => rfl)
  injection ht with ht
  subst ht
  rw [eff_nt]
  exact hd
/-- the same, where the arguments are told as they lie -/
theorem man_fresh2 {s : St} {a : Act} {w : World} {L rest : List Oper} {o : Oper} {c : Call} {f : FuncId} {argv : Array Value} {d : Nat} (hL : L = o :: rest) (hg : o.guard = none) (hop : o.op = .call c) (hcal : c.callee = .value (.func f)) (hdst : o.dst = some d) (h : Fits C s a w) (hav : c.args.map a.eval = argv) (hen : Enters P f) (hd : d < s.nt)
    {e k : Nat} (hk : 0 < k) (fc : Nat → List AV) (hc : Calls P f argv w fun en w' => ∃ A' c', en = .returned (.slice A' 0 c') ∧ Own w' w.heap.size e k (.slice A' 0 c') 0 [] ∧ Below w.heap.size w w')
    (K : ∀ A' c' a' w', Fits C ((s.eff (.grow d ⟨A', 0, c', k, e⟩)).put (some d) (.sl (some d) A' 0 c' k fc)) a' w' → wpList P ops Q rest a' w') : wpList P ops Q L a w := by
  refine man_op hL hg ?_
  have hrun : (execOp a.eval o).run P w = .ok (.enter f argv) w := by
    have hent := hen argv w
    have e1 := (val_ok h (q := []) (fun _ h => by cases h) (x := .func f) rfl).1
    have e2 : a.eval (.func f) = .func (.func f) #[] #[] := by simpa [val, AV.den, AV.denL] using e1
    simp [execOp, hop, resolve, hcal, e2, Deferred.ofValue, invoke, hav]
    simpa using hent
  unfold Oper.wp
  rw [hrun]
  simp only [Oper.upon]
  refine hc.mono ?_
  rintro en w' ⟨A', c', rfl, hO, hb⟩
  have hf := h.fresh hb d (t := ⟨A', 0, c', k, e⟩) hk hO
  rw [hdst]
  refine K A' c' _ w' (hf.put (some d) (fun t ht => ?_) (.sl (some d) A' 0 c' k fc) (fun _ => own_empty hO _ _) _ fun _ => rfl)
  injection ht with ht
  subst ht
  rw [eff_nt]
  exact hd
/-- an integer slot, evaluated -/
theorem eval_int {s : St} {a : Act} {w : World} (h : Fits C s a w) {t : Nat} {k : IntKind} {n : Int} (hv : val s [] (.tmp t) = .int k n) : a.eval (.tmp t) = .int k n := by
  have e1 := (val_ok h (q := []) (fun _ h => by cases h) (x := .tmp t) (by rw [hv]; rfl)).1
  rw [hv] at e1
  exact e1
end
end Go.Proofs.YtkamdppnnhjajaaDoor.Sym

namespace Go.Proofs.YtkamdppnnhjajaaDoor
open Go.RowKit Sym
set_option linter.unusedVariables false
set_option linter.unusedSimpArgs false

def U64 (v : Int) : Prop := 0 ≤ v ∧ v < 18446744073709551616
/-- the n highest bits of v, the others 0 -/
def headN (v n : Nat) : Nat := v / 2 ^ (64 - n) * 2 ^ (64 - n)
theorem headN_le (v n : Nat) : headN v n ≤ v := Nat.div_mul_le_self _ _
theorem testBit_head (v n i : Nat) : (headN v n).testBit i = (decide (64 - n ≤ i) && v.testBit i) := by
  unfold headN
  rw [← Nat.shiftRight_eq_div_pow, ← Nat.shiftLeft_eq, Nat.testBit_shiftLeft, Nat.testBit_shiftRight]
  by_cases h : 64 - n ≤ i
  · rw [show 64 - n + (i - (64 - n)) = i by omega]
  · simp [h]
theorem wrap_u64 (x : Int) (h : U64 x) : IntKind.u64.wrap x = x := by
  unfold U64 at h
  simp [IntKind.wrap, IntKind.signed, IntKind.bits]
  omega
theorem shr_all {n : Int} (h0 : 0 ≤ n) (h1 : n ≤ 64) : stdShift .shr .u64 18446744073709551615 n = ((2 ^ (64 - n.toNat) - 1 : Nat) : Int) := by
  obtain ⟨k, rfl⟩ := Int.eq_ofNat_of_zero_le h0
  have hk : k ≤ 64 := by omega
  simp only [stdShift, Int.toNat_natCast, IntKind.bits]
  rw [Nat.min_eq_left hk]
  have hp : (18446744073709551615 : Int) = ((2 ^ 64 - 1 : Nat) : Int) := by decide
  have hq : (2 : Int) ^ k = ((2 ^ k : Nat) : Int) := by simp
  rw [hp, hq, Int.fdiv_eq_ediv_of_nonneg _ (Int.natCast_nonneg _), ← Int.natCast_ediv]
  have e : (2 : Nat) ^ 64 - 1 = (2 ^ (64 - k) - 1) * 2 ^ k + (2 ^ k - 1) := by
    have h2 : (2 : Nat) ^ 64 = 2 ^ (64 - k) * 2 ^ k := by rw [← Nat.pow_add]; congr 1; omega
    have h3 := Nat.one_le_two_pow (n := 64 - k)
    have h4 := Nat.one_le_two_pow (n := k)
    rw [h2, Nat.sub_mul, Nat.one_mul]
    have h5 : 2 ^ k ≤ 2 ^ (64 - k) * 2 ^ k := Nat.le_mul_of_pos_left _ h3
    omega
  have hd : ((2 : Nat) ^ 64 - 1) / 2 ^ k = 2 ^ (64 - k) - 1 := by
    rw [e, Nat.mul_comm, Nat.mul_add_div (Nat.two_pow_pos k), Nat.div_eq_of_lt (by have := Nat.two_pow_pos k; omega), Nat.add_zero]
  rw [← hd]
theorem andNot_low {v : Int} (hv : U64 v) (k : Nat) (hk : k ≤ 64) : stdArith .andNot .u64 v ((2 ^ k - 1 : Nat) : Int) = ((v.toNat / 2 ^ k * 2 ^ k : Nat) : Int) := by
  obtain ⟨x, rfl⟩ := Int.eq_ofNat_of_zero_le hv.1
  have hx : x < 2 ^ 64 := by have := hv.2; omega
  have hle : x / 2 ^ k * 2 ^ k ≤ x := Nat.div_mul_le_self _ _
  simp only [Int.toNat_natCast]
  show IntKind.u64.wrap ((BitVec.ofInt 64 (x : Int) &&& ~~~BitVec.ofInt 64 ((2 ^ k - 1 : Nat) : Int)).toNat : Int) = _
  have hp : 2 ^ k ≤ 2 ^ 64 := Nat.pow_le_pow_right (by decide) hk
  have key : (BitVec.ofInt 64 (x : Int) &&& ~~~BitVec.ofInt 64 ((2 ^ k - 1 : Nat) : Int)).toNat = x / 2 ^ k * 2 ^ k := by
    apply Nat.eq_of_testBit_eq
    intro i
    have e1 : BitVec.ofInt 64 (x : Int) = BitVec.ofNat 64 x := rfl
    have e2 : BitVec.ofInt 64 ((2 ^ k - 1 : Nat) : Int) = BitVec.ofNat 64 (2 ^ k - 1) := rfl
    rw [e1, e2, BitVec.testBit_toNat, BitVec.getLsbD_and, BitVec.getLsbD_not, BitVec.getLsbD_ofNat, BitVec.getLsbD_ofNat, Nat.testBit_two_pow_sub_one]
    rw [← Nat.shiftRight_eq_div_pow, ← Nat.shiftLeft_eq, Nat.testBit_shiftLeft, Nat.testBit_shiftRight]
    by_cases hi : i < 64
    · by_cases hik : k ≤ i
      · rw [show k + (i - k) = i by omega]; simp [hi, hik, show ¬ i < k by omega]
      · simp [hi, hik, show i < k by omega]
    · have : x.testBit i = false := Nat.testBit_lt_two_pow (Nat.lt_of_lt_of_le hx (Nat.pow_le_pow_right (by decide) (by omega)))
      by_cases hik : k ≤ i
      · rw [show k + (i - k) = i by omega]; simp [hi, this]
      · simp [hi, hik]
  rw [key]
  exact wrap_u64 _ ⟨by omega, by omega⟩
theorem head_std {v n : Int} (hv : U64 v) (h0 : 0 ≤ n) (h1 : n ≤ 64) : stdArith .andNot .u64 v (stdShift .shr .u64 18446744073709551615 n) = (headN v.toNat n.toNat : Int) := by
  rw [shr_all h0 h1, andNot_low hv _ (by omega)]
  rfl

/-! ### labels -/
structure Lab where
  len : Int
  bits : Int
deriving DecidableEq
/-- is it right? -/
def isL (l : Lab) : Bool := decide (0 ≤ l.len) && decide (l.len ≤ 64) && decide ((headN l.bits.toNat l.len.toNat : Int) = l.bits)
def noneL : Lab := ⟨-1, 0⟩

/-! ### bits as texts -/
def dig (v k : Nat) : UInt8 := if v / 2 ^ k % 2 = 1 then 49 else 48
/-- the k lowest bits of v, the highest one first -/
def lowB : Nat → Nat → List UInt8
  | 0, _ => []
  | k + 1, v => dig v k :: lowB k v
theorem lowB_len (k v : Nat) : (lowB k v).length = k := by induction k with | zero => rfl | succ k ih => simp [lowB, ih]
def numB : List UInt8 → Nat := List.foldl (fun a c => 2 * a + (c.toNat - 48)) 0
theorem numB_foldl (l : List UInt8) (a : Nat) : l.foldl (fun a c => 2 * a + (c.toNat - 48)) a = a * 2 ^ l.length + numB l := by
  induction l generalizing a with
  | nil => simp [numB]
  | cons c l ih =>
    unfold numB
    rw [List.foldl_cons, ih, List.foldl_cons, ih (2 * 0 + (c.toNat - 48)), List.length_cons, Nat.pow_succ, Nat.add_mul, Nat.mul_zero, Nat.zero_add, Nat.add_assoc]
    congr 1
    rw [Nat.mul_comm 2 a, Nat.mul_assoc, Nat.mul_comm 2]
theorem numB_append (l r : List UInt8) : numB (l ++ r) = numB l * 2 ^ r.length + numB r := by
  unfold numB
  rw [List.foldl_append, numB_foldl]
  rfl
theorem dig_val (v k : Nat) : (dig v k).toNat - 48 = v / 2 ^ k % 2 := by
  unfold dig
  rcases Nat.mod_two_eq_zero_or_one (v / 2 ^ k) with h | h
  · simp [h]
  · simp [h]
theorem numB_cons (c : UInt8) (l : List UInt8) : numB (c :: l) = (c.toNat - 48) * 2 ^ l.length + numB l := by
  have : numB (c :: l) = l.foldl (fun a c => 2 * a + (c.toNat - 48)) (2 * 0 + (c.toNat - 48)) := rfl
  rw [this, numB_foldl, Nat.mul_zero, Nat.zero_add]
theorem numB_low (k v : Nat) : numB (lowB k v) = v % 2 ^ k := by
  induction k with
  | zero => simp [lowB, numB, Nat.mod_one]
  | succ k ih =>
    have : numB (lowB (k + 1) v) = ((dig v k).toNat - 48) * 2 ^ k + numB (lowB k v) := by
      rw [lowB, numB_cons, lowB_len]
    rw [this, dig_val, ih, Nat.pow_succ, Nat.mod_mul]
    rw [Nat.add_comm, Nat.mul_comm (2 ^ k)]
theorem numB_zeros (n : Nat) : numB (List.replicate n 48) = 0 := by
  induction n with
  | zero => rfl
  | succ n ih => rw [List.replicate_succ', numB_append, ih]; rfl
theorem low_take (n v : Nat) (hn : n ≤ 64) : (lowB 64 v).take n = lowB n (v / 2 ^ (64 - n)) := by
  have key : ∀ k m, m ≤ k → (lowB k v).take m = lowB m (v / 2 ^ (k - m)) := by
    intro k
    induction k with
    | zero => intro m hm; have : m = 0 := by omega
              subst this; rfl
    | succ k ih =>
      intro m hm
      cases m with
      | zero => rfl
      | succ m =>
        simp only [lowB, List.take_succ_cons]
        rw [ih m (by omega)]
        rw [show k + 1 - (m + 1) = k - m by omega]
        congr 1
        unfold dig
        rw [Nat.div_div_eq_div_mul, ← Nat.pow_add, show k - m + m = k by omega]
  exact key 64 n hn
theorem of_head {v n : Nat} (hv : v < 2 ^ 64) (hn : n ≤ 64) : numB ((lowB 64 v).take n ++ List.replicate (64 - n) 48) = headN v n := by
  rw [numB_append, numB_zeros, List.length_replicate, low_take n v hn, numB_low, Nat.add_zero]
  unfold headN
  congr 1
  apply Nat.mod_eq_of_lt
  rw [Nat.div_lt_iff_lt_mul (Nat.two_pow_pos _), ← Nat.pow_add, show n + (64 - n) = 64 by omega]
  exact hv
theorem numB_lt (l : List UInt8) (h : ∀ c ∈ l, c = 48 ∨ c = 49) : numB l < 2 ^ l.length := by
  induction l with
  | nil => decide
  | cons c l ih =>
    have e := numB_cons c l
    have := ih fun x hx => h x (List.mem_cons_of_mem _ hx)
    rw [e, List.length_cons, Nat.pow_succ]
    rcases h c (by simp) with rfl | rfl
    · simp; omega
    · simp; omega
theorem lowB_mem {k v : Nat} : ∀ c ∈ lowB k v, c = 48 ∨ c = 49 := by
  induction k with
  | zero => intro c h; cases h
  | succ k ih =>
    intro c h
    rcases List.mem_cons.1 h with rfl | h
    · unfold dig; split
      · exact .inr rfl
      · exact .inl rfl
    · exact ih c h
end Go.Proofs.YtkamdppnnhjajaaDoor

namespace Go.Proofs.YtkamdppnnhjajaaDoor
open Go.RowKit Sym
set_option linter.unusedVariables false
set_option linter.unusedSimpArgs false

def byN (v k : Nat) : UInt8 := UInt8.ofNat (v / 256 ^ k % 256)
/-- the k lowest bytes of v, the highest one first -/
def bytesN : Nat → Nat → List UInt8
  | 0, _ => []
  | k + 1, v => byN v k :: bytesN k v
theorem bytesN_len (k v : Nat) : (bytesN k v).length = k := by induction k with | zero => rfl | succ k ih => simp [bytesN, ih]
theorem bytesN_get (v : Nat) : ∀ (k t : Nat), t < k → (bytesN k v)[t]? = some (byN v (k - 1 - t))
  | 0, t, h => by omega
  | k + 1, 0, h => by simp [bytesN]
  | k + 1, t + 1, h => by
    rw [bytesN, List.getElem?_cons_succ, bytesN_get v k t (by omega)]
    rw [show k - 1 - t = k + 1 - 1 - (t + 1) by omega]
theorem byN_toNat (v k : Nat) : (byN v k).toNat = v / 256 ^ k % 256 := by
  unfold byN
  rw [UInt8.toNat_ofNat']
  omega
/-- how many bytes a number has -/
def len8 (v : Nat) : Nat := (Lib.bitLen v + 7) / 8
theorem bitLen_lt : ∀ (k v : Nat), v < 2 ^ 64 → Lib.bitLen v ≤ k → v < 2 ^ k
  | 0, v, hv, h => by
    rcases Nat.eq_zero_or_pos v with h0 | h0
    · subst h0; simp
    · rw [Lib.bitLen_half v (by omega) hv] at h; omega
  | k + 1, v, hv, h => by
    rcases Nat.eq_zero_or_pos v with h0 | h0
    · subst h0; exact Nat.two_pow_pos _
    · rw [Lib.bitLen_half v (by omega) hv] at h
      have := bitLen_lt k (v / 2) (by omega) (by omega)
      rw [Nat.pow_succ]; omega
theorem len8_iff {v : Nat} (hv : v < 2 ^ 64) (j : Nat) : len8 v ≤ j ↔ v < 256 ^ j := by
  have e : (256 : Nat) ^ j = 2 ^ (8 * j) := by rw [Nat.pow_mul]
  rw [e]
  unfold len8
  constructor
  · intro h
    exact bitLen_lt _ v hv (by omega)
  · intro h
    by_cases hj : 8 * j ≤ 64
    · have := Lib.bitLen_le v (8 * j) hj h; omega
    · have := Lib.bitLen_le v 64 (by omega) hv; omega
theorem len8_le {v : Nat} (hv : v < 2 ^ 64) : len8 v ≤ 8 := (len8_iff hv 8).2 (by simpa using hv)
def numL (v : Nat) : List UInt8 := UInt8.ofNat (len8 v) :: bytesN (len8 v) v
theorem numL_len (v : Nat) : (numL v).length = len8 v + 1 := by simp [numL, bytesN_len]
def textL (s : List UInt8) : List UInt8 := numL s.length ++ s
def labL (l : Lab) : List UInt8 := UInt8.ofNat l.len.toNat :: (bytesN 8 l.bits.toNat).take ((l.len.toNat + 7) / 8)
/-- the cells of bytes -/
def bytesC (l : List UInt8) : Nat → List AV := fun i => [.int .u8 ((l[i]?.getD 0).toNat : Int)]
theorem byteAt_C (l : List UInt8) (i : Nat) : byteAt (bytesC l i) = l[i]?.getD 0 := by
  simp [byteAt, bytesC]
theorem rowStr_C (l : List UInt8) : ∀ n, n ≤ l.length → rowStr n (bytesC l) = mkB (l.take n)
  | 0, _ => rfl
  | n + 1, h => by
    rw [rowStr_succ, rowStr_C l n (by omega), byteAt_C, mk_push, List.take_succ_eq_append_getElem (by omega)]
    simp [List.getElem?_eq_getElem (show n < l.length by omega)]
theorem rowStr_congr {n : Nat} {f g : Nat → List AV} (h : ∀ i, i < n → f i = g i) : rowStr n f = rowStr n g := by
  induction n with
  | zero => rfl
  | succ n ih => rw [rowStr_succ, rowStr_succ, ih fun i hi => h i (by omega), h n (by omega)]
theorem shr_u64 {v : Int} (hv : U64 v) (n : Nat) (hn : n ≤ 64) : stdShift .shr .u64 v (n : Int) = ((v.toNat / 2 ^ n : Nat) : Int) := by
  obtain ⟨x, rfl⟩ := Int.eq_ofNat_of_zero_le hv.1
  simp only [stdShift, Int.toNat_natCast, IntKind.bits, Nat.min_eq_left hn]
  have hq : (2 : Int) ^ n = ((2 ^ n : Nat) : Int) := by simp
  rw [hq, Int.fdiv_eq_ediv_of_nonneg _ (Int.natCast_nonneg _), ← Int.natCast_ediv]
theorem wrap_u8 (x : Nat) : IntKind.u8.wrap (x : Int) = ((x % 256 : Nat) : Int) := by
  simp [IntKind.wrap, IntKind.signed, IntKind.bits]
theorem wrap_u64n (x : Nat) : IntKind.u64.wrap (x : Int) = ((x % 2 ^ 64 : Nat) : Int) := by
  simp [IntKind.wrap, IntKind.signed, IntKind.bits]
theorem pow256 (k : Nat) : (2 : Nat) ^ (8 * k) = 256 ^ k := by rw [Nat.pow_mul]
/-- the byte k of a number, as the code says it -/
theorem byte_of {v : Int} (hv : U64 v) (k : Nat) (hk : k ≤ 8) : IntKind.u8.wrap (stdShift .shr .u64 v ((8 * k : Nat) : Int)) = ((byN v.toNat k).toNat : Int) := by
  rw [shr_u64 hv _ (by omega), wrap_u8, byN_toNat, pow256]
theorem len8_byte {v : Nat} (hv : v < 2 ^ 64) : IntKind.u8.wrap (len8 v : Int) = ((UInt8.ofNat (len8 v)).toNat : Int) := by
  rw [wrap_u8]
  have := len8_le hv
  rw [UInt8.toNat_ofNat', Nat.mod_eq_of_lt (by omega)]
theorem wrap_i64n (x : Nat) (h : x < 2 ^ 63) : IntKind.i64.wrap (x : Int) = (x : Int) := by rw [IntKind.wrap_i64]; omega
/-- the table of bits.Len64 -/
def lenTab : ByteArray := ⟨#[0, 1, 2, 2, 3, 3, 3, 3, 4, 4, 4, 4, 4, 4, 4, 4, 5, 5, 5, 5, 5, 5, 5, 5, 5, 5, 5, 5, 5, 5, 5, 5, 6, 6, 6, 6, 6, 6, 6, 6, 6, 6, 6, 6, 6, 6, 6, 6, 6, 6, 6, 6, 6, 6, 6, 6, 6, 6, 6, 6, 6, 6, 6, 6, 7, 7, 7, 7, 7, 7, 7, 7, 7, 7, 7, 7, 7, 7, 7, 7, 7, 7, 7, 7, 7, 7, 7, 7, 7, 7, 7, 7, 7, 7, 7, 7, 7, 7, 7, 7, 7, 7, 7, 7, 7, 7, 7, 7, 7, 7, 7, 7, 7, 7, 7, 7, 7, 7, 7, 7, 7, 7, 7, 7, 7, 7, 7, 7, 8, 8, 8, 8, 8, 8, 8, 8, 8, 8, 8, 8, 8, 8, 8, 8, 8, 8, 8, 8, 8, 8, 8, 8, 8, 8, 8, 8, 8, 8, 8, 8, 8, 8, 8, 8, 8, 8, 8, 8, 8, 8, 8, 8, 8, 8, 8, 8, 8, 8, 8, 8, 8, 8, 8, 8, 8, 8, 8, 8, 8, 8, 8, 8, 8, 8, 8, 8, 8, 8, 8, 8, 8, 8, 8, 8, 8, 8, 8, 8, 8, 8, 8, 8, 8, 8, 8, 8, 8, 8, 8, 8, 8, 8, 8, 8, 8, 8, 8, 8, 8, 8, 8, 8, 8, 8, 8, 8, 8, 8, 8, 8, 8, 8, 8, 8, 8, 8, 8, 8, 8, 8, 8, 8, 8, 8, 8, 8]⟩
theorem lenTab_ok : ∀ n : Fin 256, ((lenTab[n.val]?.getD 0).toNat : Nat) = Lib.bitLen n.val := by decide +kernel
theorem lenTab_size : lenTab.size = 256 := by decide +kernel
end Go.Proofs.YtkamdppnnhjajaaDoor

namespace Go.Proofs.YtkamdppnnhjajaaDoor.Sym
open Go.RowKit
set_option linter.unusedVariables false
set_option linter.unusedSimpArgs false

section
variable {C : Cx} {P : Program} {Q : Exit → Act → World → Prop} {ops : Array Oper} {s : St} {a : Act} {w : World} {L rest : List Oper} {o : Oper}
theorem man_val {d : Nat} {v : AV} (hL : L = o :: rest) (hg : o.guard = none) (hdst : o.dst = some d) (h : Fits C s a w) (hd : d < s.nt) (hrun : (execOp a.eval o).run P w = .ok (.value v.den) w) (hv : Ok (s.m C) w v)
    (K : ∀ a', Fits C (s.put (some d) v) a' w → wpList P ops Q rest a' w) : wpList P ops Q L a w := by
  refine man_op hL hg ?_
  unfold Oper.wp
  rw [hrun]
  simp only [Oper.upon]
  rw [hdst]
  exact K _ (h.put (some d) (fun t ht => by injection ht with ht; subst ht; exact hd) v (fun _ => hv) _ fun _ => rfl)
/-- &p[i] -/
theorem man_iaddr {t e : TypeId} {p ix : Operand} {n d key b off : Nat} {kk : IntKind} {j : Int} (hL : L = o :: rest) (hg : o.guard = none) (hop : o.op = .indexAddr t p ix) (hdst : o.dst = some d) (h : Fits C s a w) (hd : d < s.nt)
    (hp : val s [] p = .ptr key b off) (hix : val s [] ix = .int kk j) (hu : P.underlying t = some (.array n e)) (hsz : ∀ w, (sizeOf e).run P w = .ok 1 w) (hj : 0 ≤ j ∧ j < (n : Int))
    (K : ∀ a', Fits C (s.put (some d) (.ptr key b (off + j.toNat))) a' w → wpList P ops Q rest a' w) : wpList P ops Q L a w := by
  have hpv := (val_ok h (q := []) (fun _ h => by cases h) (x := p) (by rw [hp]; rfl)).1
  have hiv := (val_ok h (q := []) (fun _ h => by cases h) (x := ix) (by rw [hix]; rfl)).1
  rw [hp] at hpv
  rw [hix] at hiv
  refine man_val hL hg hdst h hd (v := .ptr key b (off + j.toNat)) ?_ (.ptr _ _ _) K
  simp [execOp, hop, hpv, hiv, AV.den, Instr.indexAt, asIntOf, run_underlying hu, hj.1, hj.2, hsz w, Instr.sureAddr, Addr.add_lit]
/-- p[i], read -/
theorem man_aload {T : List (Nat × TI)} {t : TypeId} {p : Operand} {d key b off : Nat} {ti : TI} {blk : Blk} {v : AV} (hL : L = o :: rest) (hg : o.guard = none) (hop : o.op = .load t p) (hdst : o.dst = some d) (h : Fits C s a w) (hd : d < s.nt)
    (hp : val s [] p = .ptr key b off) (hT : TyOK P t ti) (hag : ti.agg = false) (hb : lookM s.mem key = some blk) (hat : blk.at_ = b) (hv : blk.cells[off]? = some v)
    (K : ∀ a', Fits C (s.put (some d) v) a' w → wpList P ops Q rest a' w) : wpList P ops Q L a w := by
  obtain ⟨h1, h2, _⟩ := h.mem _ _ hb
  have hpv := (val_ok h (q := []) (fun _ h => by cases h) (x := p) (by rw [hp]; rfl)).1
  rw [hp] at hpv
  have hr := run_load (P := P) (w := w) (b := blk.at_) (base := 0) (off := off) (cells := blk.cells) (v := v) hT (fun j u hu => by
    rw [cell_of_row w _ _ _ _ _ h1]; simpa using hu) (by rw [hag]; simpa using hv)
  rw [hat, Nat.zero_add] at hr
  refine man_val hL hg hdst h hd (v := v) ?_ (h2 v (List.mem_of_getElem? hv)).2 K
  simp [execOp, hop, hpv, AV.den, hr]
/-- p[i] = x -/
theorem man_astore {T : List (Nat × TI)} {t : TypeId} {p x : Operand} {key b off : Nat} {ti : TI} {blk : Blk} {v : AV} (hL : L = o :: rest) (hg : o.guard = none) (hop : o.op = .store t p x) (hdst : o.dst = none) (h : Fits C s a w)
    (hp : val s [] p = .ptr key b off) (hx : val s [] x = v) (hT : TyOK P t ti) (hsz : ti.size = 1) (hb : lookM s.mem key = some blk) (hat : blk.at_ = b) (ho : off < blk.cells.length) (hv : v.one = true) (hk : v.known = true) {cells' : List AV} (hc' : blk.cells.set off v = cells')
    (K : ∀ a' w', Fits C (s.eff (.set key ⟨blk.at_, blk.ty, cells'⟩)) a' w' → wpList P ops Q rest a' w') : wpList P ops Q L a w := by
  obtain ⟨h1, h2, _⟩ := h.mem _ _ hb
  have hpv := (val_ok h (q := []) (fun _ h => by cases h) (x := p) (by rw [hp]; rfl)).1
  rw [hp] at hpv
  have hxv := val_ok h (q := []) (fun _ h => by cases h) (x := x) (by rw [hx]; exact hk)
  rw [hx] at hxv
  have hset := h.set hb (blk.cells.set off v) (fun y hy => by
    rcases List.mem_or_eq_of_mem_set hy with hy | rfl
    · exact h2 y hy
    · exact ⟨hv, hxv.2⟩)
  have hst := run_storeCells_at P blk.at_ off blk.ty [v.den] 0 (blk.cells.map AV.den).toArray w h1 (by simp; omega) (by
    intro y hy
    rw [List.mem_singleton] at hy
    subst hy
    exact one_of hv)
  have hdc : v.den.cells = #[v.den] := by
    have := den_cells (.inl hv)
    rw [this]
    cases v <;> first | rfl | cases hv
  have e1 : (blk.cells.set off v).map AV.den = (blk.cells.map AV.den).take off ++ [v.den] ++ (blk.cells.map AV.den).drop (off + 1) := by
    rw [List.set_eq_take_append_cons_drop, if_pos ho]
    simp [List.map_take, List.map_drop]
  refine man_op hL hg ?_
  have hsw := hT.size w
  rw [hsz] at hsw
  have hst' : (storeCells ⟨b, off, none⟩ [v.den]).run P w = .ok () (w.setRow blk.at_ ((blk.cells.set off v).map AV.den).toArray) := by
    rw [e1, ← hat]
    simpa using hst
  have hrun : (execOp a.eval o).run P w = .ok .skip (w.setRow blk.at_ ((blk.cells.set off v).map AV.den).toArray) := by
    simp [execOp, hop, hpv, hxv.1, AV.den, Instr.storeAt, Instr.sureAddr, storeVar, hdc, hsw, hst']
  unfold Oper.wp
  rw [hrun]
  simp only [Oper.upon]
  rw [hdst]
  exact K _ _ (hc' ▸ hset)
/-- p[:], of an array that is not written any more: it leaves the tracked blocks, and is read -/
theorem man_aslice {t e : TypeId} {p : Operand} {n d key b : Nat} {blk : Blk} (hL : L = o :: rest) (hg : o.guard = none) (hop : o.op = .slice t p none none none) (hdst : o.dst = some d) (h : Fits C s a w) (hd : d < s.nt) (hgs : s.gs = []) (kp km : List Nat)
    (hp : val s [] p = .ptr key b 0) (hu : P.underlying t = some (.array n e)) (hsz : ∀ w, (sizeOf e).run P w = .ok 1 w) (hb : lookM s.mem key = some blk) (hat : blk.at_ = b) (hn : blk.cells.length = n) (hmx : n ≤ maxLen) (hkm : ∀ k bk, lookM (keepM s.mem km) k = some bk → bk.at_ ≠ b) (hm0 : ∀ o, ¬ C.m0 b o) (hgr : s.gr = []) (f : Nat → List AV) (hf : ∀ i, i < n → f i = [blk.cells.getD i .undef])
    (K : ∀ a', Fits C ((s.keep kp km).put (some d) (.sl none (some ⟨b, 0, none⟩) n n 1 f)) a' w → wpList P ops Q rest a' w) : wpList P ops Q L a w := by
  obtain ⟨h1, h2, _⟩ := h.mem _ _ hb
  have hpv := (val_ok h (q := []) (fun _ h => by cases h) (x := p) (by rw [hp]; rfl)).1
  rw [hp] at hpv
  have h' := h.keep kp km
  have hnm : ∀ o, ¬ (s.keep kp km).m C b o := by
    intro o hm
    rcases hm with hm | ⟨k, bk, hk, rfl⟩ | ⟨k, tt, hk, _⟩
    · exact hm0 o hm
    · exact hkm k bk hk rfl
    · simp only [St.keep, hgr] at hk
      have := keepM_look _ _ hk
      cases this
  have hle : ∀ b o, (s.keep kp km).m C b o → s.m C b o := by
    intro b o hm
    rcases hm with hm | ⟨k, bk, hk, rfl⟩ | ⟨k, tt, hk, h3⟩
    · exact .inl hm
    · exact .inr (.inl ⟨k, bk, keepM_look _ _ hk, rfl⟩)
    · exact .inr (.inr ⟨k, tt, keepM_look _ _ hk, h3⟩)
  have hget : ∀ i, i < n → blk.cells[i]? = some (blk.cells.getD i .undef) := fun i hi => by
    rw [List.getD_eq_getElem?_getD, List.getElem?_eq_getElem (by omega)]; rfl
  have hin : ∀ i, i < n → (blk.cells.getD i .undef) ∈ blk.cells := fun i hi => List.mem_of_getElem? (hget i hi)
  refine man_val hL hg hdst h' hd (v := .sl none (some ⟨b, 0, none⟩) n n 1 f) ?_ ?_ K
  · simp [execOp, hop, hpv, AV.den, Instr.sliceAt, run_underlying hu, Instr.sureAddr, Instr.sliceBounds, sliced, hsz w, Addr.add_lit]
  · refine .sl _ _ _ _ _ _ (Nat.le_refl _) hmx (fun i hi => by rw [hf i hi]; rfl) (fun _ _ => ⟨_, _, rfl⟩) (fun i hi => ?_) (fun i hi v hv => ?_) (fun i hi v hv => ?_)
    · rw [hf i hi]
      intro j u hj
      cases j with
      | succ j => simp at hj
      | zero =>
        simp only [List.map_cons, List.map_nil, List.getElem?_cons_zero, Option.some.injEq] at hj
        subst hj
        refine ⟨b, 0, rfl, ?_, hnm _⟩
        rw [← hat, cell_of_row w _ _ _ _ _ h1, List.getElem?_toArray, List.getElem?_map, show 0 + (i * 1 + 0) = i by omega, hget i hi]
        rfl
    · rw [hf i hi, List.mem_singleton] at hv; subst hv; exact (h2 _ (hin i hi)).1
    · rw [hf i hi, List.mem_singleton] at hv; subst hv
      exact ((h2 _ (hin i hi)).2).mono fun b o u g1 g2 => ⟨g1, fun hm => g2 (hle b o hm)⟩
/-- p[:], of an array that is written next -/
theorem man_aview {t e : TypeId} {p : Operand} {n d key b : Nat} (hL : L = o :: rest) (hg : o.guard = none) (hop : o.op = .slice t p none none none) (hdst : o.dst = some d) (h : Fits C s a w) (hd : d < s.nt)
    (hp : val s [] p = .ptr key b 0) (hu : P.underlying t = some (.array n e)) (hsz : ∀ w, (sizeOf e).run P w = .ok 1 w)
    (K : ∀ a', Fits C (s.put (some d) (.raw (.slice (some ⟨b, 0, none⟩) n n))) a' w → wpList P ops Q rest a' w) : wpList P ops Q L a w := by
  have hpv := (val_ok h (q := []) (fun _ h => by cases h) (x := p) (by rw [hp]; rfl)).1
  rw [hp] at hpv
  refine man_val hL hg hdst h hd (v := .raw (.slice (some ⟨b, 0, none⟩) n n)) ?_ (.raw _) K
  simp [execOp, hop, hpv, AV.den, Instr.sliceAt, run_underlying hu, Instr.sureAddr, Instr.sliceBounds, sliced, hsz w, Addr.add_lit]
def bytesAV (l : List UInt8) : List AV := l.map fun c => .int .u8 (c.toNat : Int)
theorem bytesAV_den (l : List UInt8) : (bytesAV l).map AV.den = Lib.byteCells l := by simp [bytesAV, Lib.byteCells, AV.den]
/-- copy(p[:], s) -/
theorem man_acopy {t sT e : TypeId} {x y : Operand} {n d key b : Nat} {blk : Blk} {str : ByteArray} {c : Call} (hL : L = o :: rest) (hg : o.guard = none) (hop : o.op = .call c) (hc1 : c.callee = .builtin .copy) (hc2 : c.args = #[x, y]) (hc3 : c.argTypes = #[t, sT]) (hdst : o.dst = some d) (h : Fits C s a w) (hd : d < s.nt)
    (hx : val s [] x = .raw (.slice (some ⟨b, 0, none⟩) n n)) (hy : val s [] y = .str str) (hu : P.underlying t = some (.slice e)) (hi : (P.info? e).map (·.size) = some 1) (hb : lookM s.mem key = some blk) (hat : blk.at_ = b) (hn : blk.cells.length = n) (hle : str.size ≤ n) {cells' : List AV} (hc' : bytesAV str.data.toList ++ blk.cells.drop str.size = cells')
    (K : ∀ a' w', Fits C ((s.eff (.set key ⟨blk.at_, blk.ty, cells'⟩)).put (some d) (.int .i64 str.size)) a' w' → wpList P ops Q rest a' w') : wpList P ops Q L a w := by
  obtain ⟨h1, h2, _⟩ := h.mem _ _ hb
  have hxv := (val_ok h (q := []) (fun _ h => by cases h) (x := x) (by rw [hx]; rfl)).1
  rw [hx] at hxv
  have hyv := (val_ok h (q := []) (fun _ h => by cases h) (x := y) (by rw [hy]; rfl)).1
  rw [hy] at hyv
  have hset := h.set hb (bytesAV str.data.toList ++ blk.cells.drop str.size) (fun v hv => by
    rcases List.mem_append.1 hv with hv | hv
    · obtain ⟨c, _, rfl⟩ := List.mem_map.1 hv
      exact ⟨rfl, .int _ _⟩
    · exact h2 v (List.mem_of_mem_drop hv))
  have hcp := Lib.run_copy_row_string (P := P) w t sT o.type e b 0 n n str _ _ hu hi (hat ▸ h1) hle (by simp; omega)
  have e1 : ((blk.cells.map AV.den).toArray.toList.take 0 ++ Lib.byteCells str.data.toList ++ (blk.cells.map AV.den).toArray.toList.drop (0 + str.size)) = (bytesAV str.data.toList ++ blk.cells.drop str.size).map AV.den := by
    simp [bytesAV_den, List.map_drop]
  rw [e1] at hcp
  refine man_op hL hg ?_
  have hrun : (execOp a.eval o).run P w = .ok (.value (.int .i64 str.size)) (w.setRow blk.at_ ((bytesAV str.data.toList ++ blk.cells.drop str.size).map AV.den).toArray) := by
    rw [← hat] at hcp hxv
    simp [execOp, hop, resolve, invoke, builtin, hc1, hc2, hc3, hxv, hyv, AV.den, hcp, goInt]
  unfold Oper.wp
  rw [hrun]
  simp only [Oper.upon]
  rw [hdst]
  subst hc'
  refine K _ _ (hset.put (some d) (fun t ht => ?_) (.int .i64 str.size) (fun _ => .int _ _) _ fun _ => rfl)
  injection ht with ht
  subst ht
  rw [eff_nt]
  exact hd
end
/-! ### places: twenty bytes -/
def keyC (K : Nat → Int) : List AV := [.int .u8 (K 0), .int .u8 (K 1), .int .u8 (K 2), .int .u8 (K 3), .int .u8 (K 4), .int .u8 (K 5), .int .u8 (K 6), .int .u8 (K 7), .int .u8 (K 8), .int .u8 (K 9), .int .u8 (K 10), .int .u8 (K 11), .int .u8 (K 12), .int .u8 (K 13), .int .u8 (K 14), .int .u8 (K 15), .int .u8 (K 16), .int .u8 (K 17), .int .u8 (K 18), .int .u8 (K 19)]
def kI (l : List UInt8) : Nat → Int := fun i => ((l[i]?.getD 0).toNat : Int)
theorem keyC_eq (K : Nat → Int) : keyC K = (List.range 20).map fun i => .int .u8 (K i) := rfl
theorem keyC_get (K : Nat → Int) {i : Nat} (hi : i < 20) : (keyC K)[i]? = some (.int .u8 (K i)) := by
  rw [keyC_eq, List.getElem?_map, List.getElem?_range hi]; rfl
theorem keyC_getD (K : Nat → Int) {i : Nat} (hi : i < 20) : (keyC K).getD i .undef = .int .u8 (K i) := by
  rw [List.getD_eq_getElem?_getD, keyC_get K hi]; rfl
theorem keyC_set (K : Nat → Int) (i : Nat) (x : Int) : (keyC K).set i (.int .u8 x) = keyC (fun j => if j = i then x else K j) := by
  rw [keyC_eq, keyC_eq]
  apply List.ext_getElem?
  intro j
  rw [List.getElem?_set, List.getElem?_map, List.getElem?_map]
  by_cases hj : j < 20
  · rw [List.getElem?_range hj]
    by_cases h : i = j
    · subst h; simp [hj]
    · rw [if_neg h]; simp [Ne.symm h]
  · have h0 : (List.range 20)[j]? = none := List.getElem?_eq_none (by simp; omega)
    rw [h0]
    by_cases h : i = j
    · subst h; simp; omega
    · rw [if_neg h]; rfl
theorem bytes_key {l : List UInt8} (hl : l.length = 20) : bytesAV l = keyC (kI l) := by
  rw [keyC_eq]
  apply List.ext_getElem?
  intro j
  simp only [bytesAV, List.getElem?_map]
  by_cases hj : j < 20
  · rw [List.getElem?_range hj, List.getElem?_eq_getElem (by omega)]
    simp only [Option.map_some, kI]
    rw [List.getElem?_eq_getElem (by omega)]; rfl
  · have h0 : (List.range 20)[j]? = none := List.getElem?_eq_none (by rw [List.length_range]; omega)
    rw [h0, List.getElem?_eq_none (by omega)]
    rfl
theorem kI_zero : kI (List.replicate 20 0) = fun _ => 0 := by
  funext i
  unfold kI
  rw [List.getElem?_replicate]
  split <;> rfl
/-- what Place gives -/
def plcV (s : ByteArray) : List UInt8 := if 20 ≤ s.size then (unB s).take 20 else List.replicate 20 0
def plcE (s : ByteArray) : Int := if 20 ≤ s.size then 0 else 4
def plcR (s : ByteArray) : ByteArray := if 20 ≤ s.size then mkB ((unB s).drop 20) else s
theorem plcV_len (s : ByteArray) : (plcV s).length = 20 := by
  unfold plcV
  split
  · rw [List.length_take, un_size]; omega
  · simp
end Go.Proofs.YtkamdppnnhjajaaDoor.Sym

namespace Go.Proofs.YtkamdppnnhjajaaDoor.Sym
open Go.RowKit
set_option maxRecDepth 100000
theorem TabOK.nil {P : Program} : TabOK P [] := fun e he => by cases he
theorem TabOK.cons {P : Program} {t : Nat} {i : TI} {T : List (Nat × TI)} (h : TyOK P t i) (h' : TabOK P T) : TabOK P ((t, i) :: T) := fun e he => by
  rcases List.mem_cons.1 he with rfl | he
  · exact h
  · exact h' e he

def ti1 : TI := ⟨1, false, [.raw .nilFunc], [], none, false, false, 0, none, false, false, false, false⟩
theorem t1 : TyOK Tryd.prog 1 ti1 := tyB_ok (by kernel_rfl) (by kernel_rfl)
def ti2 : TI := ⟨1, false, [.int .i64 0], [], none, false, false, 0, some .i64, false, false, false, false⟩
theorem t2 : TyOK Tryd.prog 2 ti2 := tyB_ok (by kernel_rfl) (by kernel_rfl)
def ti3 : TI := ⟨1, false, [.int .i64 0], [], none, false, false, 0, some .i64, false, false, false, false⟩
theorem t3 : TyOK Tryd.prog 3 ti3 := tyB_ok (by kernel_rfl) (by kernel_rfl)
def ti4 : TI := ⟨1, false, [.bool .ff], [], none, false, true, 0, none, false, false, false, false⟩
theorem t4 : TyOK Tryd.prog 4 ti4 := tyB_ok (by kernel_rfl) (by kernel_rfl)
def ti5 : TI := ⟨1, false, [.int .u8 0], [], none, false, false, 0, some .u8, false, false, false, false⟩
theorem t5 : TyOK Tryd.prog 5 ti5 := tyB_ok (by kernel_rfl) (by kernel_rfl)
def ti6 : TI := ⟨1, false, [.int .u8 0], [], none, false, false, 0, some .u8, false, false, false, false⟩
theorem t6 : TyOK Tryd.prog 6 ti6 := tyB_ok (by kernel_rfl) (by kernel_rfl)
def ti7 : TI := ⟨4, true, [.int .i64 0, .int .i64 0, .bool .ff, .int .u8 0], [(0, 1, false), (1, 1, false), (2, 1, false), (3, 1, false)], none, false, false, 0, none, false, false, false, false⟩
theorem t7 : TyOK Tryd.prog 7 ti7 := tyB_ok (by kernel_rfl) (by kernel_rfl)
def ti8 : TI := ⟨4, true, [.int .i64 0, .int .i64 0, .bool .ff, .int .u8 0], [(0, 1, false), (1, 1, false), (2, 1, false), (3, 1, false)], none, false, false, 0, none, false, false, false, false⟩
theorem t8 : TyOK Tryd.prog 8 ti8 := tyB_ok (by kernel_rfl) (by kernel_rfl)
def ti9 : TI := ⟨1, false, [.str ⟨#[]⟩], [], none, true, false, 0, none, false, false, false, false⟩
theorem t9 : TyOK Tryd.prog 9 ti9 := tyB_ok (by kernel_rfl) (by kernel_rfl)
def ti10 : TI := ⟨1, false, [.str ⟨#[]⟩], [], none, true, false, 0, none, false, false, false, false⟩
theorem t10 : TyOK Tryd.prog 10 ti10 := tyB_ok (by kernel_rfl) (by kernel_rfl)
def ti11 : TI := ⟨1, false, [.str ⟨#[]⟩], [], none, true, false, 0, none, false, false, false, false⟩
theorem t11 : TyOK Tryd.prog 11 ti11 := tyB_ok (by kernel_rfl) (by kernel_rfl)
def ti12 : TI := ⟨1, false, [.int .u64 0], [], none, false, false, 0, some .u64, false, false, false, false⟩
theorem t12 : TyOK Tryd.prog 12 ti12 := tyB_ok (by kernel_rfl) (by kernel_rfl)
def ti13 : TI := ⟨2, true, [.str ⟨#[]⟩, .int .u64 0], [(0, 1, false), (1, 1, false)], none, false, false, 0, none, false, false, false, false⟩
theorem t13 : TyOK Tryd.prog 13 ti13 := tyB_ok (by kernel_rfl) (by kernel_rfl)
def ti14 : TI := ⟨2, true, [.str ⟨#[]⟩, .int .u64 0], [(0, 1, false), (1, 1, false)], none, false, false, 0, none, false, false, false, false⟩
theorem t14 : TyOK Tryd.prog 14 ti14 := tyB_ok (by kernel_rfl) (by kernel_rfl)
def ti15 : TI := ⟨1, false, [.nilp], [], none, false, false, 0, none, true, false, false, false⟩
theorem t15 : TyOK Tryd.prog 15 ti15 := tyB_ok (by kernel_rfl) (by kernel_rfl)
def ti16 : TI := ⟨1, false, [.nilp], [], none, false, false, 0, none, true, false, false, false⟩
theorem t16 : TyOK Tryd.prog 16 ti16 := tyB_ok (by kernel_rfl) (by kernel_rfl)
def ti17 : TI := ⟨1, false, [.nilp], [], none, false, false, 0, none, true, false, false, false⟩
theorem t17 : TyOK Tryd.prog 17 ti17 := tyB_ok (by kernel_rfl) (by kernel_rfl)
def ti18 : TI := ⟨1, true, [.nilp], [(0, 1, false)], none, false, false, 0, none, false, false, false, false⟩
theorem t18 : TyOK Tryd.prog 18 ti18 := tyB_ok (by kernel_rfl) (by kernel_rfl)
def ti19 : TI := ⟨1, true, [.nilp], [(0, 1, false)], none, false, false, 0, none, false, false, false, false⟩
theorem t19 : TyOK Tryd.prog 19 ti19 := tyB_ok (by kernel_rfl) (by kernel_rfl)
def ti20 : TI := ⟨1, false, [.nili], [], none, false, false, 0, none, false, true, false, false⟩
theorem t20 : TyOK Tryd.prog 20 ti20 := tyB_ok (by kernel_rfl) (by kernel_rfl)
def ti21 : TI := ⟨1, false, [.int .i32 0], [], none, false, false, 0, some .i32, false, false, false, false⟩
theorem t21 : TyOK Tryd.prog 21 ti21 := tyB_ok (by kernel_rfl) (by kernel_rfl)
def ti22 : TI := ⟨1, false, [.int .u64 0], [], none, false, false, 0, some .u64, false, false, false, false⟩
theorem t22 : TyOK Tryd.prog 22 ti22 := tyB_ok (by kernel_rfl) (by kernel_rfl)
def ti23 : TI := ⟨20, true, [.int .u8 0, .int .u8 0, .int .u8 0, .int .u8 0, .int .u8 0, .int .u8 0, .int .u8 0, .int .u8 0, .int .u8 0, .int .u8 0, .int .u8 0, .int .u8 0, .int .u8 0, .int .u8 0, .int .u8 0, .int .u8 0, .int .u8 0, .int .u8 0, .int .u8 0, .int .u8 0], [], none, false, false, 0, none, false, false, false, true⟩
theorem t23 : TyOK Tryd.prog 23 ti23 := tyB_ok (by kernel_rfl) (by kernel_rfl)
def ti24 : TI := ⟨20, true, [.int .u8 0, .int .u8 0, .int .u8 0, .int .u8 0, .int .u8 0, .int .u8 0, .int .u8 0, .int .u8 0, .int .u8 0, .int .u8 0, .int .u8 0, .int .u8 0, .int .u8 0, .int .u8 0, .int .u8 0, .int .u8 0, .int .u8 0, .int .u8 0, .int .u8 0, .int .u8 0], [], none, false, false, 0, none, false, false, false, true⟩
theorem t24 : TyOK Tryd.prog 24 ti24 := tyB_ok (by kernel_rfl) (by kernel_rfl)
def ti25 : TI := ⟨5, true, [.int .i64 0, .int .u64 0, .int .i64 0, .int .u64 0, .str ⟨#[]⟩], [(0, 1, false), (1, 1, false), (2, 1, false), (3, 1, false), (4, 1, false)], none, false, false, 0, none, false, false, false, false⟩
theorem t25 : TyOK Tryd.prog 25 ti25 := tyB_ok (by kernel_rfl) (by kernel_rfl)
def ti26 : TI := ⟨5, true, [.int .i64 0, .int .u64 0, .int .i64 0, .int .u64 0, .str ⟨#[]⟩], [(0, 1, false), (1, 1, false), (2, 1, false), (3, 1, false), (4, 1, false)], none, false, false, 0, none, false, false, false, false⟩
theorem t26 : TyOK Tryd.prog 26 ti26 := tyB_ok (by kernel_rfl) (by kernel_rfl)
def ti27 : TI := ⟨1, false, [.int .i64 0], [], none, false, false, 0, some .i64, false, false, false, false⟩
theorem t27 : TyOK Tryd.prog 27 ti27 := tyB_ok (by kernel_rfl) (by kernel_rfl)
def ti28 : TI := ⟨4, true, [.int .i64 0, .int .u64 0, .bool .ff, .str ⟨#[]⟩], [(0, 1, false), (1, 1, false), (2, 1, false), (3, 1, false)], none, false, false, 0, none, false, false, false, false⟩
theorem t28 : TyOK Tryd.prog 28 ti28 := tyB_ok (by kernel_rfl) (by kernel_rfl)
def ti29 : TI := ⟨4, true, [.int .i64 0, .int .u64 0, .bool .ff, .str ⟨#[]⟩], [(0, 1, false), (1, 1, false), (2, 1, false), (3, 1, false)], none, false, false, 0, none, false, false, false, false⟩
theorem t29 : TyOK Tryd.prog 29 ti29 := tyB_ok (by kernel_rfl) (by kernel_rfl)
def ti30 : TI := ⟨1, false, [.sl none none 0 0 6 (fun _ => [])], [], some (62, 6), false, false, 56, none, false, false, false, false⟩
theorem t30 : TyOK Tryd.prog 30 ti30 := tyB_ok (by kernel_rfl) (by kernel_rfl)
def ti31 : TI := ⟨4, true, [.int .u64 0, .bool .ff, .str ⟨#[]⟩, .sl none none 0 0 6 (fun _ => [])], [(0, 1, false), (1, 1, false), (2, 1, false), (3, 1, false)], none, false, false, 0, none, false, false, false, false⟩
theorem t31 : TyOK Tryd.prog 31 ti31 := tyB_ok (by kernel_rfl) (by kernel_rfl)
def ti32 : TI := ⟨4, true, [.int .u64 0, .bool .ff, .str ⟨#[]⟩, .sl none none 0 0 6 (fun _ => [])], [(0, 1, false), (1, 1, false), (2, 1, false), (3, 1, false)], none, false, false, 0, none, false, false, false, false⟩
theorem t32 : TyOK Tryd.prog 32 ti32 := tyB_ok (by kernel_rfl) (by kernel_rfl)
def ti33 : TI := ⟨36, true, [.int .i64 0, .int .u64 0, .int .u8 0, .int .u8 0, .int .u8 0, .int .u8 0, .int .u8 0, .int .u8 0, .int .u8 0, .int .u8 0, .int .u8 0, .int .u8 0, .int .u8 0, .int .u8 0, .int .u8 0, .int .u8 0, .int .u8 0, .int .u8 0, .int .u8 0, .int .u8 0, .int .u8 0, .int .u8 0, .int .i64 0, .int .u64 0, .int .i64 0, .int .u64 0, .str ⟨#[]⟩, .int .i64 0, .int .u64 0, .bool .ff, .str ⟨#[]⟩, .int .u64 0, .int .u64 0, .bool .ff, .str ⟨#[]⟩, .sl none none 0 0 6 (fun _ => [])], [(0, 1, false), (1, 1, false), (2, 20, true), (22, 5, true), (27, 4, true), (31, 1, false), (32, 4, true)], none, false, false, 0, none, false, false, false, false⟩
theorem t33 : TyOK Tryd.prog 33 ti33 := tyB_ok (by kernel_rfl) (by kernel_rfl)
def ti34 : TI := ⟨36, true, [.int .i64 0, .int .u64 0, .int .u8 0, .int .u8 0, .int .u8 0, .int .u8 0, .int .u8 0, .int .u8 0, .int .u8 0, .int .u8 0, .int .u8 0, .int .u8 0, .int .u8 0, .int .u8 0, .int .u8 0, .int .u8 0, .int .u8 0, .int .u8 0, .int .u8 0, .int .u8 0, .int .u8 0, .int .u8 0, .int .i64 0, .int .u64 0, .int .i64 0, .int .u64 0, .str ⟨#[]⟩, .int .i64 0, .int .u64 0, .bool .ff, .str ⟨#[]⟩, .int .u64 0, .int .u64 0, .bool .ff, .str ⟨#[]⟩, .sl none none 0 0 6 (fun _ => [])], [(0, 1, false), (1, 1, false), (2, 20, true), (22, 5, true), (27, 4, true), (31, 1, false), (32, 4, true)], none, false, false, 0, none, false, false, false, false⟩
theorem t34 : TyOK Tryd.prog 34 ti34 := tyB_ok (by kernel_rfl) (by kernel_rfl)
def ti35 : TI := ⟨1, false, [.raw .nilFunc], [], none, false, false, 0, none, false, false, false, false⟩
theorem t35 : TyOK Tryd.prog 35 ti35 := tyB_ok (by kernel_rfl) (by kernel_rfl)
def ti37 : TI := ⟨1, false, [.raw .nilFunc], [], none, false, false, 0, none, false, false, false, false⟩
theorem t37 : TyOK Tryd.prog 37 ti37 := tyB_ok (by kernel_rfl) (by kernel_rfl)
def ti38 : TI := ⟨1, false, [.raw .nilFunc], [], none, false, false, 0, none, false, false, false, false⟩
theorem t38 : TyOK Tryd.prog 38 ti38 := tyB_ok (by kernel_rfl) (by kernel_rfl)
def ti40 : TI := ⟨1, false, [.raw .nilFunc], [], none, false, false, 0, none, false, false, false, false⟩
theorem t40 : TyOK Tryd.prog 40 ti40 := tyB_ok (by kernel_rfl) (by kernel_rfl)
def ti41 : TI := ⟨1, false, [.raw .nilFunc], [], none, false, false, 0, none, false, false, false, false⟩
theorem t41 : TyOK Tryd.prog 41 ti41 := tyB_ok (by kernel_rfl) (by kernel_rfl)
def ti42 : TI := ⟨1, false, [.raw .nilFunc], [], none, false, false, 0, none, false, false, false, false⟩
theorem t42 : TyOK Tryd.prog 42 ti42 := tyB_ok (by kernel_rfl) (by kernel_rfl)
def ti43 : TI := ⟨1, false, [.raw .nilFunc], [], none, false, false, 0, none, false, false, false, false⟩
theorem t43 : TyOK Tryd.prog 43 ti43 := tyB_ok (by kernel_rfl) (by kernel_rfl)
def ti44 : TI := ⟨1, false, [.raw .nilFunc], [], none, false, false, 0, none, false, false, false, false⟩
theorem t44 : TyOK Tryd.prog 44 ti44 := tyB_ok (by kernel_rfl) (by kernel_rfl)
def ti46 : TI := ⟨1, false, [.raw .nilFunc], [], none, false, false, 0, none, false, false, false, false⟩
theorem t46 : TyOK Tryd.prog 46 ti46 := tyB_ok (by kernel_rfl) (by kernel_rfl)
def ti47 : TI := ⟨1, false, [.raw .nilFunc], [], none, false, false, 0, none, false, false, false, false⟩
theorem t47 : TyOK Tryd.prog 47 ti47 := tyB_ok (by kernel_rfl) (by kernel_rfl)
def ti48 : TI := ⟨1, false, [.raw .nilFunc], [], none, false, false, 0, none, false, false, false, false⟩
theorem t48 : TyOK Tryd.prog 48 ti48 := tyB_ok (by kernel_rfl) (by kernel_rfl)
def ti49 : TI := ⟨1, false, [.nilp], [], none, false, false, 0, none, true, false, false, false⟩
theorem t49 : TyOK Tryd.prog 49 ti49 := tyB_ok (by kernel_rfl) (by kernel_rfl)
def ti50 : TI := ⟨1, true, [.str ⟨#[]⟩], [(0, 1, false)], none, false, false, 0, none, false, false, false, false⟩
theorem t50 : TyOK Tryd.prog 50 ti50 := tyB_ok (by kernel_rfl) (by kernel_rfl)
def ti51 : TI := ⟨1, true, [.str ⟨#[]⟩], [(0, 1, false)], none, false, false, 0, none, false, false, false, false⟩
theorem t51 : TyOK Tryd.prog 51 ti51 := tyB_ok (by kernel_rfl) (by kernel_rfl)
def ti52 : TI := ⟨1, false, [.raw .nilFunc], [], none, false, false, 0, none, false, false, false, false⟩
theorem t52 : TyOK Tryd.prog 52 ti52 := tyB_ok (by kernel_rfl) (by kernel_rfl)
def ti53 : TI := ⟨1, false, [.raw .nilFunc], [], none, false, false, 0, none, false, false, false, false⟩
theorem t53 : TyOK Tryd.prog 53 ti53 := tyB_ok (by kernel_rfl) (by kernel_rfl)
def ti54 : TI := ⟨1, false, [.raw .nilFunc], [], none, false, false, 0, none, false, false, false, false⟩
theorem t54 : TyOK Tryd.prog 54 ti54 := tyB_ok (by kernel_rfl) (by kernel_rfl)
def ti55 : TI := ⟨1, false, [.raw .nilFunc], [], none, false, false, 0, none, false, false, false, false⟩
theorem t55 : TyOK Tryd.prog 55 ti55 := tyB_ok (by kernel_rfl) (by kernel_rfl)
def ti56 : TI := ⟨1, false, [.raw .nilFunc], [], none, false, false, 0, none, false, false, false, false⟩
theorem t56 : TyOK Tryd.prog 56 ti56 := tyB_ok (by kernel_rfl) (by kernel_rfl)
def ti57 : TI := ⟨1, false, [.raw .nilFunc], [], none, false, false, 0, none, false, false, false, false⟩
theorem t57 : TyOK Tryd.prog 57 ti57 := tyB_ok (by kernel_rfl) (by kernel_rfl)
def ti58 : TI := ⟨1, false, [.raw .nilFunc], [], none, false, false, 0, none, false, false, false, false⟩
theorem t58 : TyOK Tryd.prog 58 ti58 := tyB_ok (by kernel_rfl) (by kernel_rfl)
def ti59 : TI := ⟨1, false, [.raw .nilFunc], [], none, false, false, 0, none, false, false, false, false⟩
theorem t59 : TyOK Tryd.prog 59 ti59 := tyB_ok (by kernel_rfl) (by kernel_rfl)
def ti60 : TI := ⟨1, false, [.raw .nilFunc], [], none, false, false, 0, none, false, false, false, false⟩
theorem t60 : TyOK Tryd.prog 60 ti60 := tyB_ok (by kernel_rfl) (by kernel_rfl)
def ti61 : TI := ⟨6, true, [.int .i64 0, .int .u64 0, .int .i64 0, .int .u64 0, .bool .ff, .str ⟨#[]⟩], [(0, 1, false), (1, 1, false), (2, 4, true)], none, false, false, 0, none, false, false, false, false⟩
theorem t61 : TyOK Tryd.prog 61 ti61 := tyB_ok (by kernel_rfl) (by kernel_rfl)
def ti62 : TI := ⟨6, true, [.int .i64 0, .int .u64 0, .int .i64 0, .int .u64 0, .bool .ff, .str ⟨#[]⟩], [(0, 1, false), (1, 1, false), (2, 4, true)], none, false, false, 0, none, false, false, false, false⟩
theorem t62 : TyOK Tryd.prog 62 ti62 := tyB_ok (by kernel_rfl) (by kernel_rfl)
def ti63 : TI := ⟨1, false, [.raw .nilFunc], [], none, false, false, 0, none, false, false, false, false⟩
theorem t63 : TyOK Tryd.prog 63 ti63 := tyB_ok (by kernel_rfl) (by kernel_rfl)
def ti64 : TI := ⟨1, false, [.raw .nilFunc], [], none, false, false, 0, none, false, false, false, false⟩
theorem t64 : TyOK Tryd.prog 64 ti64 := tyB_ok (by kernel_rfl) (by kernel_rfl)
def ti65 : TI := ⟨1, false, [.nilp], [], none, false, false, 0, none, true, false, false, false⟩
theorem t65 : TyOK Tryd.prog 65 ti65 := tyB_ok (by kernel_rfl) (by kernel_rfl)
def ti66 : TI := ⟨1, false, [.nilp], [], none, false, false, 0, none, true, false, false, false⟩
theorem t66 : TyOK Tryd.prog 66 ti66 := tyB_ok (by kernel_rfl) (by kernel_rfl)
def ti67 : TI := ⟨1, false, [.raw .nilFunc], [], none, false, false, 0, none, false, false, false, false⟩
theorem t67 : TyOK Tryd.prog 67 ti67 := tyB_ok (by kernel_rfl) (by kernel_rfl)
def ti68 : TI := ⟨1, false, [.nili], [], none, false, false, 0, none, false, true, false, false⟩
theorem t68 : TyOK Tryd.prog 68 ti68 := tyB_ok (by kernel_rfl) (by kernel_rfl)
def ti69 : TI := ⟨1, false, [.nili], [], none, false, false, 0, none, false, true, false, false⟩
theorem t69 : TyOK Tryd.prog 69 ti69 := tyB_ok (by kernel_rfl) (by kernel_rfl)
def ti70 : TI := ⟨2, true, [.nilp, .nili], [(0, 1, false), (1, 1, false)], none, false, false, 0, none, false, false, false, false⟩
theorem t70 : TyOK Tryd.prog 70 ti70 := tyB_ok (by kernel_rfl) (by kernel_rfl)
def ti71 : TI := ⟨2, true, [.nilp, .nili], [(0, 1, false), (1, 1, false)], none, false, false, 0, none, false, false, false, false⟩
theorem t71 : TyOK Tryd.prog 71 ti71 := tyB_ok (by kernel_rfl) (by kernel_rfl)
def ti72 : TI := ⟨1, false, [.raw .nilFunc], [], none, false, false, 0, none, false, false, false, false⟩
theorem t72 : TyOK Tryd.prog 72 ti72 := tyB_ok (by kernel_rfl) (by kernel_rfl)
def ti73 : TI := ⟨1, false, [.raw .nilFunc], [], none, false, false, 0, none, false, false, false, false⟩
theorem t73 : TyOK Tryd.prog 73 ti73 := tyB_ok (by kernel_rfl) (by kernel_rfl)
def ti74 : TI := ⟨1, false, [.raw .nilFunc], [], none, false, false, 0, none, false, false, false, false⟩
theorem t74 : TyOK Tryd.prog 74 ti74 := tyB_ok (by kernel_rfl) (by kernel_rfl)
def ti75 : TI := ⟨1, false, [.raw .nilFunc], [], none, false, false, 0, none, false, false, false, false⟩
theorem t75 : TyOK Tryd.prog 75 ti75 := tyB_ok (by kernel_rfl) (by kernel_rfl)
def ti76 : TI := ⟨1, false, [.raw .nilFunc], [], none, false, false, 0, none, false, false, false, false⟩
theorem t76 : TyOK Tryd.prog 76 ti76 := tyB_ok (by kernel_rfl) (by kernel_rfl)
def ti77 : TI := ⟨1, false, [.sl none none 0 0 1 (fun _ => [])], [], some (27, 1), false, false, 8, none, false, false, false, false⟩
theorem t77 : TyOK Tryd.prog 77 ti77 := tyB_ok (by kernel_rfl) (by kernel_rfl)
def ti78 : TI := ⟨1, false, [.raw .nilFunc], [], none, false, false, 0, none, false, false, false, false⟩
theorem t78 : TyOK Tryd.prog 78 ti78 := tyB_ok (by kernel_rfl) (by kernel_rfl)
def ti79 : TI := ⟨1, false, [.raw .nilFunc], [], none, false, false, 0, none, false, false, false, false⟩
theorem t79 : TyOK Tryd.prog 79 ti79 := tyB_ok (by kernel_rfl) (by kernel_rfl)
def ti80 : TI := ⟨1, false, [.raw .nilFunc], [], none, false, false, 0, none, false, false, false, false⟩
theorem t80 : TyOK Tryd.prog 80 ti80 := tyB_ok (by kernel_rfl) (by kernel_rfl)
def ti81 : TI := ⟨1, false, [.nilp], [], none, false, false, 0, none, true, false, false, false⟩
theorem t81 : TyOK Tryd.prog 81 ti81 := tyB_ok (by kernel_rfl) (by kernel_rfl)
def ti82 : TI := ⟨1, true, [.int .i64 0], [(0, 1, false)], none, false, false, 0, none, false, false, false, false⟩
theorem t82 : TyOK Tryd.prog 82 ti82 := tyB_ok (by kernel_rfl) (by kernel_rfl)
def ti83 : TI := ⟨1, true, [.int .i64 0], [(0, 1, false)], none, false, false, 0, none, false, false, false, false⟩
theorem t83 : TyOK Tryd.prog 83 ti83 := tyB_ok (by kernel_rfl) (by kernel_rfl)
def ti84 : TI := ⟨1, false, [.raw .nilFunc], [], none, false, false, 0, none, false, false, false, false⟩
theorem t84 : TyOK Tryd.prog 84 ti84 := tyB_ok (by kernel_rfl) (by kernel_rfl)
def ti85 : TI := ⟨1, false, [.nilp], [], none, false, false, 0, none, true, false, false, false⟩
theorem t85 : TyOK Tryd.prog 85 ti85 := tyB_ok (by kernel_rfl) (by kernel_rfl)
def ti86 : TI := ⟨1, false, [.nilp], [], none, false, false, 0, none, true, false, false, false⟩
theorem t86 : TyOK Tryd.prog 86 ti86 := tyB_ok (by kernel_rfl) (by kernel_rfl)
def ti87 : TI := ⟨1, true, [.str ⟨#[]⟩], [(0, 1, false)], none, false, false, 0, none, false, false, false, false⟩
theorem t87 : TyOK Tryd.prog 87 ti87 := tyB_ok (by kernel_rfl) (by kernel_rfl)
def ti88 : TI := ⟨1, true, [.str ⟨#[]⟩], [(0, 1, false)], none, false, false, 0, none, false, false, false, false⟩
theorem t88 : TyOK Tryd.prog 88 ti88 := tyB_ok (by kernel_rfl) (by kernel_rfl)
def ti89 : TI := ⟨2, true, [.str ⟨#[]⟩, .int .i64 0], [(0, 1, true), (1, 1, false)], none, false, false, 0, none, false, false, false, false⟩
theorem t89 : TyOK Tryd.prog 89 ti89 := tyB_ok (by kernel_rfl) (by kernel_rfl)
def ti90 : TI := ⟨2, true, [.str ⟨#[]⟩, .int .i64 0], [(0, 1, true), (1, 1, false)], none, false, false, 0, none, false, false, false, false⟩
theorem t90 : TyOK Tryd.prog 90 ti90 := tyB_ok (by kernel_rfl) (by kernel_rfl)
def ti91 : TI := ⟨1, false, [.raw .nilFunc], [], none, false, false, 0, none, false, false, false, false⟩
theorem t91 : TyOK Tryd.prog 91 ti91 := tyB_ok (by kernel_rfl) (by kernel_rfl)
def ti92 : TI := ⟨1, false, [.raw .nilFunc], [], none, false, false, 0, none, false, false, false, false⟩
theorem t92 : TyOK Tryd.prog 92 ti92 := tyB_ok (by kernel_rfl) (by kernel_rfl)
def ti93 : TI := ⟨1, false, [.raw .nilFunc], [], none, false, false, 0, none, false, false, false, false⟩
theorem t93 : TyOK Tryd.prog 93 ti93 := tyB_ok (by kernel_rfl) (by kernel_rfl)
def ti95 : TI := ⟨1, false, [.raw .nilFunc], [], none, false, false, 0, none, false, false, false, false⟩
theorem t95 : TyOK Tryd.prog 95 ti95 := tyB_ok (by kernel_rfl) (by kernel_rfl)
def ti96 : TI := ⟨1, false, [.raw .nilFunc], [], none, false, false, 0, none, false, false, false, false⟩
theorem t96 : TyOK Tryd.prog 96 ti96 := tyB_ok (by kernel_rfl) (by kernel_rfl)
def ti97 : TI := ⟨1, false, [.sl none none 0 0 1 (fun _ => [])], [], some (22, 1), false, false, 8, none, false, false, false, false⟩
theorem t97 : TyOK Tryd.prog 97 ti97 := tyB_ok (by kernel_rfl) (by kernel_rfl)
def ti98 : TI := ⟨1, false, [.raw .nilFunc], [], none, false, false, 0, none, false, false, false, false⟩
theorem t98 : TyOK Tryd.prog 98 ti98 := tyB_ok (by kernel_rfl) (by kernel_rfl)
def ti99 : TI := ⟨1, false, [.raw .nilFunc], [], none, false, false, 0, none, false, false, false, false⟩
theorem t99 : TyOK Tryd.prog 99 ti99 := tyB_ok (by kernel_rfl) (by kernel_rfl)
def ti100 : TI := ⟨1, false, [.raw .nilFunc], [], none, false, false, 0, none, false, false, false, false⟩
theorem t100 : TyOK Tryd.prog 100 ti100 := tyB_ok (by kernel_rfl) (by kernel_rfl)
def ti101 : TI := ⟨1, false, [.raw .nilFunc], [], none, false, false, 0, none, false, false, false, false⟩
theorem t101 : TyOK Tryd.prog 101 ti101 := tyB_ok (by kernel_rfl) (by kernel_rfl)
def ti102 : TI := ⟨1, false, [.raw .nilFunc], [], none, false, false, 0, none, false, false, false, false⟩
theorem t102 : TyOK Tryd.prog 102 ti102 := tyB_ok (by kernel_rfl) (by kernel_rfl)
def ti103 : TI := ⟨1, false, [.raw .nilFunc], [], none, false, false, 0, none, false, false, false, false⟩
theorem t103 : TyOK Tryd.prog 103 ti103 := tyB_ok (by kernel_rfl) (by kernel_rfl)
def ti104 : TI := ⟨1, true, [.str ⟨#[]⟩], [(0, 1, false)], none, false, false, 0, none, false, false, false, false⟩
theorem t104 : TyOK Tryd.prog 104 ti104 := tyB_ok (by kernel_rfl) (by kernel_rfl)
def ti105 : TI := ⟨1, true, [.str ⟨#[]⟩], [(0, 1, false)], none, false, false, 0, none, false, false, false, false⟩
theorem t105 : TyOK Tryd.prog 105 ti105 := tyB_ok (by kernel_rfl) (by kernel_rfl)
def ti106 : TI := ⟨1, false, [.raw .nilFunc], [], none, false, false, 0, none, false, false, false, false⟩
theorem t106 : TyOK Tryd.prog 106 ti106 := tyB_ok (by kernel_rfl) (by kernel_rfl)
def ti107 : TI := ⟨1, false, [.raw .nilFunc], [], none, false, false, 0, none, false, false, false, false⟩
theorem t107 : TyOK Tryd.prog 107 ti107 := tyB_ok (by kernel_rfl) (by kernel_rfl)
def ti108 : TI := ⟨1, false, [.raw .nilFunc], [], none, false, false, 0, none, false, false, false, false⟩
theorem t108 : TyOK Tryd.prog 108 ti108 := tyB_ok (by kernel_rfl) (by kernel_rfl)
def ti109 : TI := ⟨1, false, [.raw .nilFunc], [], none, false, false, 0, none, false, false, false, false⟩
theorem t109 : TyOK Tryd.prog 109 ti109 := tyB_ok (by kernel_rfl) (by kernel_rfl)
def ti110 : TI := ⟨1, false, [.raw .nilFunc], [], none, false, false, 0, none, false, false, false, false⟩
theorem t110 : TyOK Tryd.prog 110 ti110 := tyB_ok (by kernel_rfl) (by kernel_rfl)
def ti111 : TI := ⟨1, false, [.raw .nilFunc], [], none, false, false, 0, none, false, false, false, false⟩
theorem t111 : TyOK Tryd.prog 111 ti111 := tyB_ok (by kernel_rfl) (by kernel_rfl)
def ti112 : TI := ⟨1, false, [.raw .nilFunc], [], none, false, false, 0, none, false, false, false, false⟩
theorem t112 : TyOK Tryd.prog 112 ti112 := tyB_ok (by kernel_rfl) (by kernel_rfl)
def ti113 : TI := ⟨1, false, [.raw .nilFunc], [], none, false, false, 0, none, false, false, false, false⟩
theorem t113 : TyOK Tryd.prog 113 ti113 := tyB_ok (by kernel_rfl) (by kernel_rfl)
def ti115 : TI := ⟨1, false, [.int .u64 0], [], none, false, false, 0, some .u64, false, false, false, false⟩
theorem t115 : TyOK Tryd.prog 115 ti115 := tyB_ok (by kernel_rfl) (by kernel_rfl)
def ti118 : TI := ⟨1, false, [.raw .nilFunc], [], none, false, false, 0, none, false, false, false, false⟩
theorem t118 : TyOK Tryd.prog 118 ti118 := tyB_ok (by kernel_rfl) (by kernel_rfl)
def ti119 : TI := ⟨1, false, [.nili], [], none, false, false, 0, none, false, true, false, false⟩
theorem t119 : TyOK Tryd.prog 119 ti119 := tyB_ok (by kernel_rfl) (by kernel_rfl)
def ti120 : TI := ⟨1, false, [.nili], [], none, false, false, 0, none, false, true, false, false⟩
theorem t120 : TyOK Tryd.prog 120 ti120 := tyB_ok (by kernel_rfl) (by kernel_rfl)
def ti121 : TI := ⟨1, false, [.raw .nilFunc], [], none, false, false, 0, none, false, false, false, false⟩
theorem t121 : TyOK Tryd.prog 121 ti121 := tyB_ok (by kernel_rfl) (by kernel_rfl)
def ti122 : TI := ⟨1, false, [.int .u8 0], [], none, false, false, 0, some .u8, false, false, false, false⟩
theorem t122 : TyOK Tryd.prog 122 ti122 := tyB_ok (by kernel_rfl) (by kernel_rfl)
def ti123 : TI := ⟨1, false, [.raw .nilFunc], [], none, false, false, 0, none, false, false, false, false⟩
theorem t123 : TyOK Tryd.prog 123 ti123 := tyB_ok (by kernel_rfl) (by kernel_rfl)
def ti124 : TI := ⟨1, false, [.raw .nilFunc], [], none, false, false, 0, none, false, false, false, false⟩
theorem t124 : TyOK Tryd.prog 124 ti124 := tyB_ok (by kernel_rfl) (by kernel_rfl)
def ti125 : TI := ⟨1, false, [.raw .nilFunc], [], none, false, false, 0, none, false, false, false, false⟩
theorem t125 : TyOK Tryd.prog 125 ti125 := tyB_ok (by kernel_rfl) (by kernel_rfl)
def ti128 : TI := ⟨1, false, [.raw .nilFunc], [], none, false, false, 0, none, false, false, false, false⟩
theorem t128 : TyOK Tryd.prog 128 ti128 := tyB_ok (by kernel_rfl) (by kernel_rfl)
def ti129 : TI := ⟨1, false, [.raw .nilFunc], [], none, false, false, 0, none, false, false, false, false⟩
theorem t129 : TyOK Tryd.prog 129 ti129 := tyB_ok (by kernel_rfl) (by kernel_rfl)
def ti130 : TI := ⟨1, false, [.raw .nilFunc], [], none, false, false, 0, none, false, false, false, false⟩
theorem t130 : TyOK Tryd.prog 130 ti130 := tyB_ok (by kernel_rfl) (by kernel_rfl)
def ti131 : TI := ⟨1, false, [.raw .nilFunc], [], none, false, false, 0, none, false, false, false, false⟩
theorem t131 : TyOK Tryd.prog 131 ti131 := tyB_ok (by kernel_rfl) (by kernel_rfl)
def ti132 : TI := ⟨1, false, [.raw .nilFunc], [], none, false, false, 0, none, false, false, false, false⟩
theorem t132 : TyOK Tryd.prog 132 ti132 := tyB_ok (by kernel_rfl) (by kernel_rfl)
def ti133 : TI := ⟨1, false, [.sl none none 0 0 1 (fun _ => [])], [], some (5, 1), false, false, 1, none, false, false, true, false⟩
theorem t133 : TyOK Tryd.prog 133 ti133 := tyB_ok (by kernel_rfl) (by kernel_rfl)
def ti134 : TI := ⟨1, false, [.raw .nilFunc], [], none, false, false, 0, none, false, false, false, false⟩
theorem t134 : TyOK Tryd.prog 134 ti134 := tyB_ok (by kernel_rfl) (by kernel_rfl)
def ti135 : TI := ⟨1, false, [.raw .nilFunc], [], none, false, false, 0, none, false, false, false, false⟩
theorem t135 : TyOK Tryd.prog 135 ti135 := tyB_ok (by kernel_rfl) (by kernel_rfl)
def ti136 : TI := ⟨1, false, [.raw .nilFunc], [], none, false, false, 0, none, false, false, false, false⟩
theorem t136 : TyOK Tryd.prog 136 ti136 := tyB_ok (by kernel_rfl) (by kernel_rfl)
def ti137 : TI := ⟨1, false, [.raw .nilFunc], [], none, false, false, 0, none, false, false, false, false⟩
theorem t137 : TyOK Tryd.prog 137 ti137 := tyB_ok (by kernel_rfl) (by kernel_rfl)
def ti138 : TI := ⟨1, false, [.raw .nilFunc], [], none, false, false, 0, none, false, false, false, false⟩
theorem t138 : TyOK Tryd.prog 138 ti138 := tyB_ok (by kernel_rfl) (by kernel_rfl)
def ti139 : TI := ⟨1, true, [.nilp], [(0, 1, false)], none, false, false, 0, none, false, false, false, false⟩
theorem t139 : TyOK Tryd.prog 139 ti139 := tyB_ok (by kernel_rfl) (by kernel_rfl)
def ti140 : TI := ⟨1, true, [.nilp], [(0, 1, false)], none, false, false, 0, none, false, false, false, false⟩
theorem t140 : TyOK Tryd.prog 140 ti140 := tyB_ok (by kernel_rfl) (by kernel_rfl)
def ti141 : TI := ⟨1, false, [.nilp], [], none, false, false, 0, none, true, false, false, false⟩
theorem t141 : TyOK Tryd.prog 141 ti141 := tyB_ok (by kernel_rfl) (by kernel_rfl)
def ti142 : TI := ⟨1, false, [.raw .nilFunc], [], none, false, false, 0, none, false, false, false, false⟩
theorem t142 : TyOK Tryd.prog 142 ti142 := tyB_ok (by kernel_rfl) (by kernel_rfl)
def ti143 : TI := ⟨1, false, [.raw .nilFunc], [], none, false, false, 0, none, false, false, false, false⟩
theorem t143 : TyOK Tryd.prog 143 ti143 := tyB_ok (by kernel_rfl) (by kernel_rfl)
def ti144 : TI := ⟨1, false, [.raw .nilFunc], [], none, false, false, 0, none, false, false, false, false⟩
theorem t144 : TyOK Tryd.prog 144 ti144 := tyB_ok (by kernel_rfl) (by kernel_rfl)
def ti145 : TI := ⟨1, false, [.nili], [], none, false, false, 0, none, false, true, false, false⟩
theorem t145 : TyOK Tryd.prog 145 ti145 := tyB_ok (by kernel_rfl) (by kernel_rfl)
def ti147 : TI := ⟨1, false, [.raw .nilFunc], [], none, false, false, 0, none, false, false, false, false⟩
theorem t147 : TyOK Tryd.prog 147 ti147 := tyB_ok (by kernel_rfl) (by kernel_rfl)
def ti148 : TI := ⟨1, false, [.nili], [], none, false, false, 0, none, false, true, false, false⟩
theorem t148 : TyOK Tryd.prog 148 ti148 := tyB_ok (by kernel_rfl) (by kernel_rfl)
def ti149 : TI := ⟨1, false, [.raw .nilFunc], [], none, false, false, 0, none, false, false, false, false⟩
theorem t149 : TyOK Tryd.prog 149 ti149 := tyB_ok (by kernel_rfl) (by kernel_rfl)
def ti150 : TI := ⟨1, false, [.nili], [], none, false, false, 0, none, false, true, false, false⟩
theorem t150 : TyOK Tryd.prog 150 ti150 := tyB_ok (by kernel_rfl) (by kernel_rfl)
def ti151 : TI := ⟨1, false, [.sl none none 0 0 1 (fun _ => [])], [], some (69, 1), false, false, 16, none, false, false, false, false⟩
theorem t151 : TyOK Tryd.prog 151 ti151 := tyB_ok (by kernel_rfl) (by kernel_rfl)
def ti152 : TI := ⟨1, false, [.raw .nilFunc], [], none, false, false, 0, none, false, false, false, false⟩
theorem t152 : TyOK Tryd.prog 152 ti152 := tyB_ok (by kernel_rfl) (by kernel_rfl)
def ti153 : TI := ⟨1, false, [.nilp], [], none, false, false, 0, none, true, false, false, false⟩
theorem t153 : TyOK Tryd.prog 153 ti153 := tyB_ok (by kernel_rfl) (by kernel_rfl)
def ti155 : TI := ⟨1, false, [.raw .nilFunc], [], none, false, false, 0, none, false, false, false, false⟩
theorem t155 : TyOK Tryd.prog 155 ti155 := tyB_ok (by kernel_rfl) (by kernel_rfl)
def ti156 : TI := ⟨1, false, [.raw .nilFunc], [], none, false, false, 0, none, false, false, false, false⟩
theorem t156 : TyOK Tryd.prog 156 ti156 := tyB_ok (by kernel_rfl) (by kernel_rfl)
def ti157 : TI := ⟨1, false, [.int .u64 0], [], none, false, false, 0, some .u64, false, false, false, false⟩
theorem t157 : TyOK Tryd.prog 157 ti157 := tyB_ok (by kernel_rfl) (by kernel_rfl)
def ti158 : TI := ⟨1, false, [.raw .nilFunc], [], none, false, false, 0, none, false, false, false, false⟩
theorem t158 : TyOK Tryd.prog 158 ti158 := tyB_ok (by kernel_rfl) (by kernel_rfl)
def ti159 : TI := ⟨1, false, [.raw .nilFunc], [], none, false, false, 0, none, false, false, false, false⟩
theorem t159 : TyOK Tryd.prog 159 ti159 := tyB_ok (by kernel_rfl) (by kernel_rfl)
def ti160 : TI := ⟨1, false, [.raw .nilFunc], [], none, false, false, 0, none, false, false, false, false⟩
theorem t160 : TyOK Tryd.prog 160 ti160 := tyB_ok (by kernel_rfl) (by kernel_rfl)
def ti161 : TI := ⟨1, false, [.raw .nilFunc], [], none, false, false, 0, none, false, false, false, false⟩
theorem t161 : TyOK Tryd.prog 161 ti161 := tyB_ok (by kernel_rfl) (by kernel_rfl)
def ti162 : TI := ⟨1, false, [.raw .nilFunc], [], none, false, false, 0, none, false, false, false, false⟩
theorem t162 : TyOK Tryd.prog 162 ti162 := tyB_ok (by kernel_rfl) (by kernel_rfl)
def ti163 : TI := ⟨1, false, [.raw .nilFunc], [], none, false, false, 0, none, false, false, false, false⟩
theorem t163 : TyOK Tryd.prog 163 ti163 := tyB_ok (by kernel_rfl) (by kernel_rfl)
def ti164 : TI := ⟨4, true, [.nilp, .nilp, .nilp, .str ⟨#[]⟩], [(0, 1, false), (1, 1, false), (2, 1, false), (3, 1, false)], none, false, false, 0, none, false, false, false, false⟩
theorem t164 : TyOK Tryd.prog 164 ti164 := tyB_ok (by kernel_rfl) (by kernel_rfl)
def ti165 : TI := ⟨4, true, [.nilp, .nilp, .nilp, .str ⟨#[]⟩], [(0, 1, false), (1, 1, false), (2, 1, false), (3, 1, false)], none, false, false, 0, none, false, false, false, false⟩
theorem t165 : TyOK Tryd.prog 165 ti165 := tyB_ok (by kernel_rfl) (by kernel_rfl)
def ti166 : TI := ⟨0, true, [], [], none, false, false, 0, none, false, false, false, true⟩
theorem t166 : TyOK Tryd.prog 166 ti166 := tyB_ok (by kernel_rfl) (by kernel_rfl)
def ti169 : TI := ⟨1, false, [.raw .nilFunc], [], none, false, false, 0, none, false, false, false, false⟩
theorem t169 : TyOK Tryd.prog 169 ti169 := tyB_ok (by kernel_rfl) (by kernel_rfl)
def ti170 : TI := ⟨1, false, [.int .u32 0], [], none, false, false, 0, some .u32, false, false, false, false⟩
theorem t170 : TyOK Tryd.prog 170 ti170 := tyB_ok (by kernel_rfl) (by kernel_rfl)
def ti171 : TI := ⟨1, false, [.int .u8 0], [], none, false, false, 0, some .u8, false, false, false, false⟩
theorem t171 : TyOK Tryd.prog 171 ti171 := tyB_ok (by kernel_rfl) (by kernel_rfl)
def ti172 : TI := ⟨1, false, [.raw .nilFunc], [], none, false, false, 0, none, false, false, false, false⟩
theorem t172 : TyOK Tryd.prog 172 ti172 := tyB_ok (by kernel_rfl) (by kernel_rfl)
def ti173 : TI := ⟨1, false, [.nilp], [], none, false, false, 0, none, true, false, false, false⟩
theorem t173 : TyOK Tryd.prog 173 ti173 := tyB_ok (by kernel_rfl) (by kernel_rfl)
def ti174 : TI := ⟨1, false, [.int .i32 0], [], none, false, false, 0, some .i32, false, false, false, false⟩
theorem t174 : TyOK Tryd.prog 174 ti174 := tyB_ok (by kernel_rfl) (by kernel_rfl)
def ti175 : TI := ⟨1, false, [.int .i32 0], [], none, false, false, 0, some .i32, false, false, false, false⟩
theorem t175 : TyOK Tryd.prog 175 ti175 := tyB_ok (by kernel_rfl) (by kernel_rfl)
def ti176 : TI := ⟨11, true, [.int .u64 0, .int .u64 0, .int .u32 0, .int .u8 0, .int .u8 0, .int .u8 0, .int .u8 0, .raw .nilFunc, .nilp, .int .i32 0, .int .i32 0], [(0, 1, false), (1, 1, false), (2, 1, false), (3, 1, false), (4, 1, false), (5, 1, false), (6, 1, false), (7, 1, false), (8, 1, false), (9, 1, false), (10, 1, false)], none, false, false, 0, none, false, false, false, false⟩
theorem t176 : TyOK Tryd.prog 176 ti176 := tyB_ok (by kernel_rfl) (by kernel_rfl)
def ti177 : TI := ⟨11, true, [.int .u64 0, .int .u64 0, .int .u32 0, .int .u8 0, .int .u8 0, .int .u8 0, .int .u8 0, .raw .nilFunc, .nilp, .int .i32 0, .int .i32 0], [(0, 1, false), (1, 1, false), (2, 1, false), (3, 1, false), (4, 1, false), (5, 1, false), (6, 1, false), (7, 1, false), (8, 1, false), (9, 1, false), (10, 1, false)], none, false, false, 0, none, false, false, false, false⟩
theorem t177 : TyOK Tryd.prog 177 ti177 := tyB_ok (by kernel_rfl) (by kernel_rfl)
def ti178 : TI := ⟨1, false, [.raw .nilFunc], [], none, false, false, 0, none, false, false, false, false⟩
theorem t178 : TyOK Tryd.prog 178 ti178 := tyB_ok (by kernel_rfl) (by kernel_rfl)
def ti179 : TI := ⟨1, false, [.raw .nilFunc], [], none, false, false, 0, none, false, false, false, false⟩
theorem t179 : TyOK Tryd.prog 179 ti179 := tyB_ok (by kernel_rfl) (by kernel_rfl)
def ti180 : TI := ⟨2, true, [.str ⟨#[]⟩, .int .u8 0], [(0, 1, false), (1, 1, false)], none, false, false, 0, none, false, false, false, false⟩
theorem t180 : TyOK Tryd.prog 180 ti180 := tyB_ok (by kernel_rfl) (by kernel_rfl)
def ti181 : TI := ⟨2, true, [.str ⟨#[]⟩, .int .u8 0], [(0, 1, false), (1, 1, false)], none, false, false, 0, none, false, false, false, false⟩
theorem t181 : TyOK Tryd.prog 181 ti181 := tyB_ok (by kernel_rfl) (by kernel_rfl)
def ti182 : TI := ⟨1, false, [.nilp], [], none, false, false, 0, none, true, false, false, false⟩
theorem t182 : TyOK Tryd.prog 182 ti182 := tyB_ok (by kernel_rfl) (by kernel_rfl)
def ti183 : TI := ⟨1, false, [.raw .nilFunc], [], none, false, false, 0, none, false, false, false, false⟩
theorem t183 : TyOK Tryd.prog 183 ti183 := tyB_ok (by kernel_rfl) (by kernel_rfl)
def ti184 : TI := ⟨1, false, [.int .u16 0], [], none, false, false, 0, some .u16, false, false, false, false⟩
theorem t184 : TyOK Tryd.prog 184 ti184 := tyB_ok (by kernel_rfl) (by kernel_rfl)
def ti185 : TI := ⟨5, true, [.int .i32 0, .int .u16 0, .int .u16 0, .int .u32 0, .int .u32 0], [(0, 1, false), (1, 1, false), (2, 1, false), (3, 1, false), (4, 1, false)], none, false, false, 0, none, false, false, false, false⟩
theorem t185 : TyOK Tryd.prog 185 ti185 := tyB_ok (by kernel_rfl) (by kernel_rfl)
def ti186 : TI := ⟨5, true, [.int .i32 0, .int .u16 0, .int .u16 0, .int .u32 0, .int .u32 0], [(0, 1, false), (1, 1, false), (2, 1, false), (3, 1, false), (4, 1, false)], none, false, false, 0, none, false, false, false, false⟩
theorem t186 : TyOK Tryd.prog 186 ti186 := tyB_ok (by kernel_rfl) (by kernel_rfl)
def ti187 : TI := ⟨1, false, [.sl none none 0 0 4 (fun _ => [])], [], some (190, 4), false, false, 16, none, false, false, false, false⟩
theorem t187 : TyOK Tryd.prog 187 ti187 := tyB_ok (by kernel_rfl) (by kernel_rfl)
def ti188 : TI := ⟨1, false, [.int .i32 0], [], none, false, false, 0, some .i32, false, false, false, false⟩
theorem t188 : TyOK Tryd.prog 188 ti188 := tyB_ok (by kernel_rfl) (by kernel_rfl)
def ti189 : TI := ⟨4, true, [.int .i32 0, .int .i32 0, .int .i32 0, .int .i32 0], [(0, 1, false), (1, 1, false), (2, 1, false), (3, 1, false)], none, false, false, 0, none, false, false, false, false⟩
theorem t189 : TyOK Tryd.prog 189 ti189 := tyB_ok (by kernel_rfl) (by kernel_rfl)
def ti190 : TI := ⟨4, true, [.int .i32 0, .int .i32 0, .int .i32 0, .int .i32 0], [(0, 1, false), (1, 1, false), (2, 1, false), (3, 1, false)], none, false, false, 0, none, false, false, false, false⟩
theorem t190 : TyOK Tryd.prog 190 ti190 := tyB_ok (by kernel_rfl) (by kernel_rfl)
def ti191 : TI := ⟨1, false, [.nilp], [], none, false, false, 0, none, true, false, false, false⟩
theorem t191 : TyOK Tryd.prog 191 ti191 := tyB_ok (by kernel_rfl) (by kernel_rfl)
end Go.Proofs.YtkamdppnnhjajaaDoor.Sym

namespace Go.Proofs.YtkamdppnnhjajaaDoor
open Go.RowKit
set_option linter.unusedVariables false
set_option linter.unusedSimpArgs false

structure Ans where
  code : Int
  version : Int
  has : Bool
  val : ByteArray
deriving DecidableEq
structure Mark where
  client : Int
  req : Int
  ans : Ans
deriving DecidableEq
structure Cel where
  version : Int
  has : Bool
  val : ByteArray
  marks : List Mark
deriving DecidableEq
structure Opr where
  client : Int
  req : Int
  kind : Int
  version : Int
  val : ByteArray
deriving DecidableEq
def Mark.enc (x : Mark) : List Value := [.int .i64 x.client, .int .u64 x.req, .int .i64 x.ans.code, .int .u64 x.ans.version, .bool x.ans.has, .string x.ans.val]
theorem Mark.enc_len (x : Mark) : x.enc.length = 6 := rfl
theorem Mark.enc_one (x : Mark) : ∀ v ∈ x.enc, v.oneCell' = true := by
  intro v hv
  simp [Mark.enc] at hv
  rcases hv with rfl | rfl | rfl | rfl | rfl | rfl <;> rfl

def SrtM (l : List Mark) : Prop := l.Pairwise (fun x y => x.client < y.client)
def ansOk (a : Ans) : Prop := a.val = ByteArray.empty ∧ (a.code = 0 ∨ a.code = 8)
instance (a : Ans) : Decidable (ansOk a) := by unfold ansOk; infer_instance
def markOk (m : Mark) : Prop := 0 ≤ m.client ∧ m.client ≤ 63 ∧ ansOk m.ans
instance (m : Mark) : Decidable (markOk m) := by unfold markOk; infer_instance
instance (l : List Mark) : Decidable (SrtM l) := by unfold SrtM; infer_instance
def valOk (s : ByteArray) (has : Bool) : Prop := s.size ≤ 2048 ∧ (has = true ∨ s = ByteArray.empty)
instance (s : ByteArray) (b : Bool) : Decidable (valOk s b) := by unfold valOk; infer_instance
def Good (l : List Mark) : Prop := SrtM l ∧ ∀ m ∈ l, markOk m
instance (l : List Mark) : Decidable (Good l) := by unfold Good; infer_instance
def IsC (c : Cel) : Prop := Good c.marks ∧ valOk c.val c.has
instance (c : Cel) : Decidable (IsC c) := by unfold IsC; infer_instance
def IsO (o : Opr) : Prop := 0 ≤ o.client ∧ o.client ≤ 63 ∧ 1 ≤ o.kind ∧ o.kind ≤ 4 ∧ o.val.size ≤ 2048 ∧ (o.kind = 1 ∨ o.kind = 4 → o.val = ByteArray.empty) ∧ (o.kind = 1 ∨ o.kind = 2 → o.version = 0)
instance (o : Opr) : Decidable (IsO o) := by unfold IsO; infer_instance

/-- the client of the last one of the first k marks -/
def lastC (l : List Mark) (k : Nat) : Int := match (l.take k).getLast? with | none => -1 | some m => m.client
theorem lastC_zero (l : List Mark) : lastC l 0 = -1 := by simp [lastC]
theorem lastC_succ {l : List Mark} {k : Nat} (h : k < l.length) : lastC l (k + 1) = l[k].client := by
  unfold lastC
  rw [List.take_succ_eq_append_getElem h, List.getLast?_concat]
theorem good_zero (l : List Mark) : Good (l.take 0) := ⟨by simp [SrtM], by simp⟩
theorem lastC_ge {l : List Mark} {k : Nat} (hg : Good (l.take k)) : -1 ≤ lastC l k := by
  unfold lastC
  cases h : (l.take k).getLast? with
  | none => simp
  | some m =>
    have := (hg.2 m (List.mem_of_getLast? h)).1
    show -1 ≤ m.client
    omega
theorem lastC_max {l : List Mark} {k : Nat} (hg : Good (l.take k)) : ∀ x ∈ l.take k, x.client ≤ lastC l k := by
  intro x hx
  unfold lastC
  cases h : (l.take k).getLast? with
  | none => rw [List.getLast?_eq_none_iff] at h; rw [h] at hx; cases hx
  | some m =>
    obtain ⟨a, ha⟩ := List.getLast?_eq_some_iff.1 h
    show x.client ≤ m.client
    rw [ha] at hx
    rcases List.mem_append.1 hx with hx | hx
    · have hs := hg.1
      unfold SrtM at hs
      rw [ha, List.pairwise_append] at hs
      have := hs.2.2 x hx m (by simp)
      omega
    · simp at hx; subst hx; exact Int.le_refl _
theorem good_succ {l : List Mark} {k : Nat} (h : k < l.length) (hg : Good (l.take k)) : Good (l.take (k + 1)) ↔ lastC l k < l[k].client ∧ l[k].client ≤ 63 ∧ ansOk l[k].ans := by
  rw [List.take_succ_eq_append_getElem h]
  constructor
  · rintro ⟨hs, hm⟩
    have h1 := hm l[k] (List.mem_append_right _ (List.mem_singleton.2 rfl))
    refine ⟨?_, h1.2.1, h1.2.2⟩
    unfold lastC
    cases hq : (l.take k).getLast? with
    | none => show -1 < _; have := h1.1; omega
    | some m =>
      unfold SrtM at hs
      rw [List.pairwise_append] at hs
      exact hs.2.2 m (List.mem_of_getLast? hq) l[k] (List.mem_singleton.2 rfl)
  · rintro ⟨h1, h2, h3⟩
    have h0 := lastC_ge hg
    refine ⟨?_, ?_⟩
    · unfold SrtM
      rw [List.pairwise_append]
      refine ⟨hg.1, by simp, fun x hx y hy => ?_⟩
      simp at hy; subst hy
      have := lastC_max hg x hx
      omega
    · intro m hm
      rcases List.mem_append.1 hm with hm | hm
      · exact hg.2 m hm
      · simp at hm; subst hm; exact ⟨by omega, h2, h3⟩
theorem good_take {l : List Mark} (k : Nat) (hg : Good l) : Good (l.take k) := ⟨hg.1.sublist (List.take_sublist _ _), fun m hm => hg.2 m (List.mem_of_mem_take hm)⟩

def putM : List Mark → Mark → List Mark
  | [], m => [m]
  | x :: l, m => if x.client < m.client then x :: putM l m else if x.client = m.client then m :: l else m :: x :: l
def ofM (l : List Mark) (c : Int) : Option Mark := l.find? (fun x => decide (x.client = c))

/-- place i of a row at which a client's mark stands, or would stand -/
def AtM (l : List Mark) (c : Int) (i : Nat) : Prop := i ≤ l.length ∧ (∀ x ∈ l.take i, x.client < c) ∧ ∀ x, l[i]? = some x → ¬ x.client < c
theorem AtM.zero {l : List Mark} {c : Int} (h : AtM l c 0) : ∀ x, l[0]? = some x → ¬ x.client < c := h.2.2
theorem AtM.cons {x : Mark} {l : List Mark} {c : Int} {i : Nat} (h : AtM (x :: l) c (i + 1)) : x.client < c ∧ AtM l c i :=
  ⟨h.2.1 x (by simp), by have := h.1; simp at this; omega, fun y hy => h.2.1 y (by simp [hy]), fun y hy => h.2.2 y (by simpa using hy)⟩
theorem putM_miss : ∀ {l : List Mark} {m : Mark} {i : Nat}, AtM l m.client i → (∀ x, l[i]? = some x → x.client ≠ m.client) → putM l m = l.take i ++ [m] ++ l.drop i
  | [], m, i, h, _ => by simp [putM]
  | x :: l, m, 0, h, hn => by
    have h1 := h.2.2 x rfl
    have h2 := hn x rfl
    simp [putM, h1, h2]
  | x :: l, m, i + 1, h, hn => by
    obtain ⟨h1, h2⟩ := h.cons
    simp [putM, h1, putM_miss h2 (fun y hy => hn y (by simpa using hy))]
theorem putM_hit : ∀ {l : List Mark} {m : Mark} {i : Nat}, AtM l m.client i → (∃ x, l[i]? = some x ∧ x.client = m.client) → putM l m = l.take i ++ [m] ++ l.drop (i + 1)
  | [], m, i, h, hx => by obtain ⟨x, hx, _⟩ := hx; simp at hx
  | x :: l, m, 0, h, hn => by
    obtain ⟨y, hy, hc⟩ := hn
    simp at hy; subst hy
    simp [putM, hc]
  | x :: l, m, i + 1, h, hn => by
    obtain ⟨h1, h2⟩ := h.cons
    have hn' : ∃ y, l[i]? = some y ∧ y.client = m.client := by obtain ⟨y, hy, hc⟩ := hn; exact ⟨y, by simpa using hy, hc⟩
    simp [putM, h1, putM_hit h2 hn']
theorem ofM_hit : ∀ {l : List Mark} {c : Int} {i : Nat}, AtM l c i → ∀ x, l[i]? = some x → x.client = c → ofM l c = some x
  | [], c, i, h, x, hx, _ => by simp at hx
  | y :: l, c, 0, h, x, hx, hc => by simp at hx; subst hx; simp [ofM, hc]
  | y :: l, c, i + 1, h, x, hx, hc => by
    obtain ⟨h1, h2⟩ := h.cons
    have : ofM l c = some x := ofM_hit h2 x (by simpa using hx) hc
    unfold ofM at this ⊢
    rw [List.find?_cons_of_neg (by simp; omega), this]
theorem ofM_miss {l : List Mark} {c : Int} {i : Nat} (hs : SrtM l) (h : AtM l c i) (hn : ∀ x, l[i]? = some x → x.client ≠ c) : ofM l c = none := by
  unfold ofM
  rw [List.find?_eq_none]
  intro x hx
  obtain ⟨j, hj, rfl⟩ := List.mem_iff_getElem.1 hx
  have : l[j].client ≠ c := by
    by_cases h1 : j < i
    · have := h.2.1 l[j] (List.mem_take_iff_getElem.2 ⟨j, by omega, rfl⟩)
      omega
    · have hi : i < l.length := by omega
      have ha := hn l[i] (List.getElem?_eq_getElem hi)
      have hb := h.2.2 l[i] (List.getElem?_eq_getElem hi)
      by_cases h2 : j = i
      · subst h2; exact ha
      · have := List.pairwise_iff_getElem.1 hs i j hi hj (by omega)
        omega
  simpa using this
theorem putM_length (l : List Mark) (m : Mark) : (putM l m).length ≤ l.length + 1 := by
  induction l with
  | nil => simp [putM]
  | cons x l ih =>
    simp only [putM]
    split
    · simp; omega
    · split <;> simp

def zeroAns : Ans := ⟨0, 0, false, ByteArray.empty⟩
def zeroMark : Mark := ⟨0, 0, zeroAns⟩
def zeroCel : Cel := ⟨0, false, ByteArray.empty, []⟩
def up (v : Int) : Int := IntKind.u64.wrap (v + 1)
/-- an operation that writes -/
def writeC (c : Cel) (o : Opr) : Cel × Ans × Bool × Int :=
  if o.kind ≠ 2 ∧ o.version ≠ c.version then
    (⟨c.version, c.has, c.val, putM c.marks ⟨o.client, o.req, ⟨8, c.version, c.has, ByteArray.empty⟩⟩⟩, ⟨8, c.version, c.has, ByteArray.empty⟩, false, 0)
  else (⟨up c.version, decide (o.kind ≠ 4), o.val, putM c.marks ⟨o.client, o.req, ⟨0, up c.version, decide (o.kind ≠ 4), ByteArray.empty⟩⟩⟩, ⟨0, up c.version, decide (o.kind ≠ 4), ByteArray.empty⟩, true, 0)
/-- what Do answers -/
def doC (c : Cel) (o : Opr) : Cel × Ans × Bool × Int :=
  if ¬ (IsC c ∧ IsO o) then (zeroCel, zeroAns, false, 1)
  else if o.kind = 1 then (c, ⟨0, c.version, c.has, c.val⟩, false, 0)
  else match ofM c.marks o.client with
    | none => writeC c o
    | some m => if m.req = o.req then (c, m.ans, false, 0) else if m.req > o.req then (c, ⟨9, 0, false, ByteArray.empty⟩, false, 0) else writeC c o
/-- the marks that Merge makes, of the first k marks of b -/
def stepM (a : List Mark) (out : List Mark) (m : Mark) : List Mark :=
  match ofM a m.client with
  | none => putM out m
  | some x => if x.req < m.req then putM out m else out
def mergeM (a b : List Mark) : List Mark := b.foldl (stepM a) a
def mergeC (a b : Cel) : Cel × Int :=
  if ¬ (IsC a ∧ IsC b) then (zeroCel, 1)
  else ((if a.version < b.version then ⟨b.version, b.has, b.val, mergeM a.marks b.marks⟩ else ⟨a.version, a.has, a.val, mergeM a.marks b.marks⟩), 0)
end Go.Proofs.YtkamdppnnhjajaaDoor

namespace Go.Proofs.YtkamdppnnhjajaaDoor.Sym
open Go Go.RowKit
set_option maxRecDepth 100000
set_option linter.unusedVariables false
set_option linter.unusedSimpArgs false

def markC (x : Mark) : List AV := [.int .i64 x.client, .int .u64 x.req, .int .i64 x.ans.code, .int .u64 x.ans.version, .bool (.v x.ans.has), .str x.ans.val]
def rowM (g : Option Nat) (A : Option Addr) (n k : Nat) (f : Nat → Mark) : AV := .sl g A n k 6 (fun i => markC (f i))
def marksAV (A : Option Addr) (k : Nat) (l : List Mark) : AV := rowM none A l.length k (fun i => l.getD i zeroMark)
def celC (A : Option Addr) (k : Nat) (c : Cel) : List AV := [.int .u64 c.version, .bool (.v c.has), .str c.val, marksAV A k c.marks]
def celAV (A : Option Addr) (k : Nat) (c : Cel) : AV := .agg (celC A k c)
def opC (o : Opr) : List AV := [.int .i64 o.client, .int .u64 o.req, .int .i64 o.kind, .int .u64 o.version, .str o.val]
def opAV (o : Opr) : AV := .agg (opC o)
def ansC (x : Ans) : List AV := [.int .i64 x.code, .int .u64 x.version, .bool (.v x.has), .str x.val]
def ansAV (x : Ans) : AV := .agg (ansC x)
structure Par where
  kind : Int
  epoch : Int
  key : List UInt8
  op : Opr
  ans : Ans
  serial : Int
  cell : Cel
deriving DecidableEq
/-- a parcel's cells, with its key's bytes and its marks told -/
def parC (K : Nat → Int) (mk : AV) (p : Par) : List AV := [.int .i64 p.kind, .int .u64 p.epoch] ++ keyC K ++ opC p.op ++ ansC p.ans ++ [.int .u64 p.serial, .int .u64 p.cell.version, .bool (.v p.cell.has), .str p.cell.val, mk]
def parAV (A : Option Addr) (k : Nat) (p : Par) : AV := .agg (parC (kI p.key) (marksAV A k p.cell.marks) p)
theorem marks_open (l : List Mark) : ∃ n f, (∀ A k, marksAV A k l = rowM none A n k f) ∧ n = l.length ∧ f = (fun i => l.getD i zeroMark) := ⟨_, _, fun _ _ => rfl, rfl, rfl⟩
theorem tolB (s t : ByteArray) : (s.toList == t.toList) = decide (s = t) := by
  rw [eqB, Bool.eq_iff_iff]
  simp only [decide_eq_true_eq]
  exact ⟨un_inj, congrArg unB⟩
theorem emptyB : (⟨#[]⟩ : ByteArray) = ByteArray.empty := rfl
theorem ba_beq (f g : ByteArray) : (f == g) = decide (f = g) := by
  rw [Bool.eq_iff_iff, beqB]; simp
theorem eqL_mark (x y : Mark) : eqL (markC x) (markC y) = decide (x = y) := by
  obtain ⟨a, b, ⟨c, d, e, f⟩⟩ := x
  obtain ⟨a', b', ⟨c', d', e', f'⟩⟩ := y
  rw [Bool.eq_iff_iff]
  simp [markC, eqL, eqC, BE.den, ba_beq]
theorem eqL_ans (x y : Ans) : eqL (ansC x) (ansC y) = decide (x = y) := by
  obtain ⟨c, d, e, f⟩ := x
  obtain ⟨c', d', e', f'⟩ := y
  rw [Bool.eq_iff_iff]
  simp [ansC, eqL, eqC, BE.den, ba_beq]
theorem eqL_op (x y : Opr) : eqL (opC x) (opC y) = decide (x = y) := by
  obtain ⟨a, b, c, d, e⟩ := x
  obtain ⟨a', b', c', d', e'⟩ := y
  rw [Bool.eq_iff_iff]
  simp [opC, eqL, eqC, BE.den, ba_beq]
theorem eqL_map (f g : Nat → Int) : ∀ l : List Nat, eqL (l.map fun i => .int .u8 (f i)) (l.map fun i => .int .u8 (g i)) = decide (∀ i ∈ l, f i = g i)
  | [] => by simp [eqL]
  | i :: l => by
    simp only [List.map_cons, eqL, eqC, eqL_map f g l]
    rw [Bool.eq_iff_iff]
    simp
theorem eqL_key {a b : List UInt8} (ha : a.length = 20) (hb : b.length = 20) : eqL (keyC (kI a)) (keyC (kI b)) = decide (a = b) := by
  rw [keyC_eq, keyC_eq, eqL_map, Bool.eq_iff_iff]
  simp only [decide_eq_true_eq]
  constructor
  · intro h
    apply List.ext_getElem (by omega)
    intro i h1 h2
    have := h i (List.mem_range.2 (by omega))
    simp only [kI, List.getElem?_eq_getElem h1, List.getElem?_eq_getElem h2, Option.getD_some] at this
    exact UInt8.toNat_inj.1 (by omega)
  · rintro rfl i _; rfl
def zeroKey : List UInt8 := List.replicate 20 0
theorem eqL_key0 {a : List UInt8} (ha : a.length = 20) : eqL (keyC (kI a)) (keyC fun _ => 0) = decide (a = zeroKey) := by
  rw [show (fun _ : Nat => (0 : Int)) = kI zeroKey from kI_zero.symm]
  exact eqL_key ha (by simp [zeroKey])
theorem mark_guard : Tryd.prog.eqGuardType Tryd.prog.depth 62 = false := by kernel_rfl
theorem mark_shape : eqShape Tryd.prog 3 62 = some [.int .i64, .int .u64, .int .i64, .int .u64, .bool, .str] := by kernel_rfl
theorem mark_agg : aggB Tryd.prog 62 = some true := by kernel_rfl
theorem ob_mark (x y : Mark) : Ob.holds Tryd.prog (.eql 62 (markC x) (markC y)) := ob_eql mark_shape (by decide) mark_guard mark_agg ⟨rfl, rfl, rfl, rfl, trivial, trivial, trivial⟩ ⟨rfl, rfl, rfl, rfl, trivial, trivial, trivial⟩
theorem op_guard : Tryd.prog.eqGuardType Tryd.prog.depth 26 = false := by kernel_rfl
theorem op_shape : eqShape Tryd.prog 2 26 = some [.int .i64, .int .u64, .int .i64, .int .u64, .str] := by kernel_rfl
theorem op_agg : aggB Tryd.prog 26 = some true := by kernel_rfl
theorem ob_op (x y : Opr) : Ob.holds Tryd.prog (.eql 26 (opC x) (opC y)) := ob_eql op_shape (by decide) op_guard op_agg ⟨rfl, rfl, rfl, rfl, trivial, trivial⟩ ⟨rfl, rfl, rfl, rfl, trivial, trivial⟩
theorem ans_guard : Tryd.prog.eqGuardType Tryd.prog.depth 29 = false := by kernel_rfl
theorem ans_shape : eqShape Tryd.prog 2 29 = some [.int .i64, .int .u64, .bool, .str] := by kernel_rfl
theorem ans_agg : aggB Tryd.prog 29 = some true := by kernel_rfl
theorem fits_ans (x : Ans) : fitsL [.int .i64, .int .u64, .bool, .str] (ansC x) := ⟨rfl, rfl, trivial, trivial, trivial⟩
theorem ob_ans (x y : Ans) : Ob.holds Tryd.prog (.eql 29 (ansC x) (ansC y)) := ob_eql ans_shape (by decide) ans_guard ans_agg (fits_ans x) (fits_ans y)
theorem key_guard : Tryd.prog.eqGuardType Tryd.prog.depth 24 = false := by kernel_rfl
theorem key_shape : eqShape Tryd.prog 2 24 = some (List.replicate 20 (.int .u8)) := by kernel_rfl
theorem key_agg : aggB Tryd.prog 24 = some true := by kernel_rfl
theorem fits_key (K : Nat → Int) : fitsL (List.replicate 20 (.int .u8)) (keyC K) := by
  simp only [List.replicate, keyC]
  exact ⟨rfl, rfl, rfl, rfl, rfl, rfl, rfl, rfl, rfl, rfl, rfl, rfl, rfl, rfl, rfl, rfl, rfl, rfl, rfl, rfl, trivial⟩
theorem ob_key (K L : Nat → Int) : Ob.holds Tryd.prog (.eql 24 (keyC K) (keyC L)) := ob_eql key_shape (by decide) key_guard key_agg (fits_key K) (fits_key L)
/-! ### what is right -/
def zeroOp : Opr := ⟨0, 0, 0, 0, ByteArray.empty⟩
def bareC (c : Cel) : Bool := decide (c = zeroCel)
def isAns (a : Ans) : Prop := (a.code = 0 ∨ a.code = 7 ∨ a.code = 8 ∨ a.code = 9) ∧ valOk a.val a.has
instance (a : Ans) : Decidable (isAns a) := by unfold isAns; infer_instance
def isP (p : Par) : Bool :=
  if p.kind = 1 then decide (IsO p.op) && decide (p.ans = zeroAns) && decide (p.serial = 0) && bareC p.cell
  else if p.kind = 2 then decide (p.key = zeroKey) && decide (p.op = ⟨p.op.client, p.op.req, 0, 0, ByteArray.empty⟩) && decide (0 ≤ p.op.client) && decide (p.op.client ≤ 63) && decide (isAns p.ans) && decide (p.serial = 0) && bareC p.cell
  else if p.kind = 3 then decide (p.op = zeroOp) && decide (p.ans = zeroAns) && decide (IsC p.cell)
  else if p.kind = 4 then decide (p.key = zeroKey) && decide (p.op = zeroOp) && decide (p.ans = zeroAns) && bareC p.cell
  else false
theorem sameC (a b : Cel) : decide (a = b) = (decide (a.version = b.version) && (decide (a.has = b.has) && (decide (a.val = b.val) && decide (a.marks = b.marks)))) := by
  obtain ⟨x, y, z, u⟩ := a
  obtain ⟨x', y', z', u'⟩ := b
  rw [Bool.eq_iff_iff]
  simp
theorem marks_all {l r : List Mark} {n : Nat} {f g : Nat → Mark} (hn : n = l.length) (hn2 : n = r.length) (hf : f = fun i => l.getD i zeroMark) (hg : g = fun i => r.getD i zeroMark) (h : ∀ j, j < n → f j = g j) : l = r := by
  apply List.ext_getElem (by omega)
  intro i h1 h2
  have := h i (by omega)
  rw [hf, hg] at this
  simpa [List.getD, h1, h2] using this
theorem marks_not {l r : List Mark} {n : Nat} {f g : Nat → Mark} {i : Nat} (hn : n = l.length) (hn2 : n = r.length) (hf : f = fun i => l.getD i zeroMark) (hg : g = fun i => r.getD i zeroMark) (h : ¬ f i = g i) : l ≠ r := by
  rintro rfl
  exact h (by rw [hf, hg])
/-! ### how much is looked at -/
def sumW (c : Cel) (k : Nat) : Int := (c.marks.take k).foldl (fun s m => IntKind.i64.wrap (s + m.ans.val.size)) (c.val.size : Int)
theorem sumW_succ (c : Cel) (k : Nat) (h : k < c.marks.length) : sumW c (k + 1) = IntKind.i64.wrap (sumW c k + c.marks[k].ans.val.size) := by
  unfold sumW
  rw [List.take_succ_eq_append_getElem h, List.foldl_append]
  rfl
def bigF (c : Cel) : Bool := decide (80 < c.marks.length) || decide (20000 < sumW c c.marks.length)
theorem big_le {c : Cel} (h : bigF c = false) : c.marks.length ≤ 80 := by simp [bigF] at h; omega
end Go.Proofs.YtkamdppnnhjajaaDoor.Sym

namespace Go.Proofs.YtkamdppnnhjajaaDoor
open Go.RowKit Sym
set_option linter.unusedVariables false
set_option linter.unusedSimpArgs false

def valB : List UInt8 → Nat := List.foldl (fun a c => a * 256 + c.toNat) 0
theorem valB_foldl (l : List UInt8) (a : Nat) : l.foldl (fun a c => a * 256 + c.toNat) a = a * 256 ^ l.length + valB l := by
  induction l generalizing a with
  | nil => simp [valB]
  | cons c l ih =>
    unfold valB
    rw [List.foldl_cons, ih, List.foldl_cons, ih (0 * 256 + c.toNat), List.length_cons, Nat.pow_succ, Nat.zero_mul, Nat.zero_add, Nat.add_mul, Nat.add_assoc]
    congr 1
    rw [Nat.mul_assoc, Nat.mul_comm 256]
theorem valB_cons (c : UInt8) (l : List UInt8) : valB (c :: l) = c.toNat * 256 ^ l.length + valB l := by
  have : valB (c :: l) = l.foldl (fun a c => a * 256 + c.toNat) (0 * 256 + c.toNat) := rfl
  rw [this, valB_foldl, Nat.zero_mul, Nat.zero_add]
theorem valB_snoc (l : List UInt8) (c : UInt8) : valB (l ++ [c]) = valB l * 256 + c.toNat := by
  unfold valB; rw [List.foldl_append]; rfl
theorem valB_lt (l : List UInt8) : valB l < 256 ^ l.length := by
  induction l with
  | nil => decide
  | cons c l ih =>
    rw [valB_cons, List.length_cons, Nat.pow_succ]
    have := c.toNat_lt
    have h2 : c.toNat * 256 ^ l.length ≤ 255 * 256 ^ l.length := Nat.mul_le_mul_right _ (by omega)
    omega
theorem bytesN_val (l : List UInt8) : bytesN l.length (valB l) = l := by
  have low : ∀ (k v w : Nat), bytesN k (w * 256 ^ k + v) = bytesN k v := by
    intro k
    induction k with
    | zero => intro v w; rfl
    | succ k ih =>
      intro v w
      simp only [bytesN]
      have e : w * 256 ^ (k + 1) + v = (w * 256) * 256 ^ k + v := by rw [Nat.pow_succ, Nat.mul_assoc, Nat.mul_comm 256]
      rw [e, ih]
      congr 1
      apply UInt8.toNat_inj.1
      rw [byN_toNat, byN_toNat, Nat.mul_comm (w * 256), Nat.mul_add_div (Nat.pow_pos (by decide)), Nat.add_comm, Nat.mul_comm w, Nat.add_mul_mod_self_left]
  induction l with
  | nil => rfl
  | cons c l ih =>
    rw [List.length_cons, bytesN, valB_cons, low, ih]
    congr 1
    apply UInt8.toNat_inj.1
    rw [byN_toNat, Nat.mul_comm, Nat.mul_add_div (Nat.pow_pos (by decide)), Nat.div_eq_of_lt (valB_lt l), Nat.add_zero, Nat.mod_eq_of_lt c.toNat_lt]
theorem valB_bytes {k v : Nat} (h : v < 256 ^ k) : valB (bytesN k v) = v := by
  induction k generalizing v with
  | zero => simp at h; subst h; rfl
  | succ k ih =>
    have e : bytesN k v = bytesN k (v % 256 ^ k) := by
      have low : ∀ (j v w : Nat), j ≤ k → bytesN j (w * 256 ^ k + v) = bytesN j v := by
        intro j
        induction j with
        | zero => intro v w _; rfl
        | succ j ihj =>
          intro v w hj
          simp only [bytesN]
          rw [ihj _ _ (by omega)]
          congr 1
          apply UInt8.toNat_inj.1
          rw [byN_toNat, byN_toNat]
          have e : w * 256 ^ k = 256 ^ j * (w * 256 ^ (k - j - 1) * 256) := by
            rw [Nat.mul_assoc, ← Nat.pow_succ, Nat.mul_left_comm, ← Nat.pow_add, show j + (k - j - 1).succ = k by omega]
          rw [e, Nat.mul_add_div (Nat.pow_pos (by decide)), Nat.add_comm, Nat.mul_comm _ 256, Nat.add_mul_mod_self_left]
      have := low k (v % 256 ^ k) (v / 256 ^ k) (Nat.le_refl _)
      rw [Nat.mul_comm, Nat.div_add_mod] at this
      exact this
    rw [bytesN, valB_cons, bytesN_len, e, ih (Nat.mod_lt _ (Nat.pow_pos (by decide))), byN_toNat, Nat.mod_eq_of_lt (a := v / 256 ^ k) ((Nat.div_lt_iff_lt_mul (Nat.pow_pos (by decide))).2 (by rw [Nat.mul_comm, ← Nat.pow_succ]; exact h)), Nat.mul_comm, Nat.div_add_mod]
theorem len8_val {l : List UInt8} (h8 : l.length ≤ 8) : len8 (valB l) = l.length ↔ l.head? ≠ some 0 := by
  have hlt := valB_lt l
  have h64 : valB l < 2 ^ 64 := Nat.lt_of_lt_of_le hlt (by rw [show (2 : Nat) ^ 64 = 256 ^ 8 from rfl]; exact Nat.pow_le_pow_right (by decide) h8)
  cases l with
  | nil => simp [valB, len8, Lib.bitLen, Lib.bitLenAux]
  | cons c r =>
    simp only [List.head?_cons, ne_eq, Option.some.injEq]
    have hle := (len8_iff h64 (c :: r).length).2 hlt
    constructor
    · intro h hc
      subst hc
      have : valB (0 :: r) < 256 ^ r.length := by rw [valB_cons]; simpa using valB_lt r
      have := (len8_iff h64 r.length).2 this
      rw [h, List.length_cons] at this; omega
    · intro hc
      refine Nat.le_antisymm hle (Nat.le_of_not_lt fun hn => ?_)
      have h1 := (len8_iff h64 r.length).1 (by simp only [List.length_cons] at hn; omega)
      rw [valB_cons] at h1
      have : 1 ≤ c.toNat := by
        rcases Nat.eq_zero_or_pos c.toNat with h | h
        · exact absurd (UInt8.toNat_inj.1 (by simpa using h)) hc
        · exact h
      have := Nat.mul_le_mul_right (256 ^ r.length) this
      omega
/-- the bytes of a number are these, if the first one is not 0 -/
theorem numL_val {l : List UInt8} (h8 : l.length ≤ 8) : numL (valB l) = UInt8.ofNat l.length :: l ↔ l.head? ≠ some 0 := by
  rw [← len8_val h8]
  constructor
  · intro h
    have := congrArg List.length h
    rw [numL_len] at this
    simpa using this
  · intro h
    unfold numL
    rw [h, bytesN_val]

/-! ### reading -/
abbrev Dec (α : Type) := Except Int (α × List UInt8)
def decN : List UInt8 → Dec Nat
  | [] => .error 4
  | n :: r => if 8 < n.toNat then .error 3 else if r.length < n.toNat then .error 4 else if (r.take n.toNat).head? = some 0 then .error 3 else .ok (valB (r.take n.toNat), r.drop n.toNat)
def decT (s : List UInt8) : Dec (List UInt8) := match decN s with
  | .error e => .error e
  | .ok (n, r) => if 4096 < n then .error 3 else if r.length < n then .error 4 else .ok (r.take n, r.drop n)
def labOf (n : UInt8) (d : List UInt8) : Lab := ⟨n.toNat, (valB d * 256 ^ (8 - d.length) : Nat)⟩
def decL : List UInt8 → Dec Lab
  | [] => .error 4
  | n :: r => if 64 < n.toNat then .error 3 else if r.length < (n.toNat + 7) / 8 then .error 4 else if isL (labOf n (r.take ((n.toNat + 7) / 8))) then .ok (labOf n (r.take ((n.toNat + 7) / 8)), r.drop ((n.toNat + 7) / 8)) else .error 3
def Dec.err {α : Type} : Dec α → Int
  | .error e => e
  | .ok _ => 0
def Dec.val {α : Type} (d : α) : Dec α → α
  | .error _ => d
  | .ok (v, _) => v
def Dec.rest {α : Type} (s : List UInt8) : Dec α → List UInt8
  | .error _ => s
  | .ok (_, r) => r
theorem decN_err {s : List UInt8} {e : Int} (h : decN s = .error e) : e = 3 ∨ e = 4 := by
  unfold decN at h
  split at h
  · injection h with h; exact .inr h.symm
  · split at h
    · injection h with h; exact .inl h.symm
    · split at h
      · injection h with h; exact .inr h.symm
      · split at h
        · injection h with h; exact .inl h.symm
        · cases h
theorem decT_err {s : List UInt8} {e : Int} (h : decT s = .error e) : e = 3 ∨ e = 4 := by
  unfold decT at h
  split at h
  · rename_i h1; injection h with h; subst h; exact decN_err h1
  · split at h
    · injection h with h; exact .inl h.symm
    · split at h
      · injection h with h; exact .inr h.symm
      · cases h
theorem decL_err {s : List UInt8} {e : Int} (h : decL s = .error e) : e = 3 ∨ e = 4 := by
  unfold decL at h
  split at h
  · injection h with h; exact .inr h.symm
  · split at h
    · injection h with h; exact .inl h.symm
    · split at h
      · injection h with h; exact .inr h.symm
      · split at h
        · cases h
        · injection h with h; exact .inl h.symm
theorem decN_put {v : Nat} (hv : v < 2 ^ 64) (r : List UInt8) : decN (numL v ++ r) = .ok (v, r) := by
  have h8 := len8_le hv
  have hn : (UInt8.ofNat (len8 v)).toNat = len8 v := by rw [UInt8.toNat_ofNat', Nat.mod_eq_of_lt (by omega)]
  have hb := bytesN_len (len8 v) v
  have hval := valB_bytes ((len8_iff hv _).1 (Nat.le_refl _))
  have hh : (bytesN (len8 v) v).head? ≠ some 0 := by
    rw [← len8_val (by omega), hval, hb]
  simp only [numL, List.cons_append, decN, hn]
  rw [if_neg (by omega), if_neg (by rw [List.length_append]; omega), List.take_left' hb, List.drop_left' hb, if_neg hh, hval]
theorem decN_ok {s : List UInt8} {v : Nat} {r : List UInt8} (h : decN s = .ok (v, r)) : s = numL v ++ r ∧ v < 2 ^ 64 := by
  unfold decN at h
  split at h
  · cases h
  · rename_i n t
    split at h
    · cases h
    · rename_i h8
      split at h
      · cases h
      · rename_i hl
        split at h
        · cases h
        · rename_i hh
          injection h with h; injection h with h1 h2; subst h1; subst h2
          have hlen : (t.take n.toNat).length = n.toNat := by rw [List.length_take]; omega
          have := (numL_val (l := t.take n.toNat) (by omega)).2 hh
          refine ⟨?_, ?_⟩
          · rw [this, hlen]
            simp
          · refine Nat.lt_of_lt_of_le (valB_lt _) ?_
            rw [hlen, show (2 : Nat) ^ 64 = 256 ^ 8 from rfl]
            exact Nat.pow_le_pow_right (by decide) (by omega)
theorem decT_put {t : List UInt8} (ht : t.length ≤ 4096) (r : List UInt8) : decT (textL t ++ r) = .ok (t, r) := by
  unfold decT textL
  rw [List.append_assoc, decN_put (by omega)]
  simp only
  rw [if_neg (by omega), if_neg (by rw [List.length_append]; omega), List.take_left, List.drop_left]
theorem decT_ok {s t r : List UInt8} (h : decT s = .ok (t, r)) : s = textL t ++ r ∧ t.length ≤ 4096 := by
  unfold decT at h
  split at h
  · cases h
  · rename_i n q hq
    obtain ⟨h1, _⟩ := decN_ok hq
    split at h
    · cases h
    · split at h
      · cases h
      · injection h with h; injection h with e1 e2; subst e1; subst e2
        have hlen : (q.take n).length = n := by rw [List.length_take]; omega
        refine ⟨?_, by omega⟩
        rw [textL, hlen, List.append_assoc, List.take_append_drop]
        exact h1
theorem bytes_zero {v k j : Nat} (h : v % 256 ^ k = 0) (hj : j < k) : byN v j = 0 := by
  apply UInt8.toNat_inj.1
  rw [byN_toNat]
  obtain ⟨q, rfl⟩ := Nat.dvd_of_mod_eq_zero h
  have e : 256 ^ k * q = 256 ^ j * (256 ^ (k - j - 1) * q * 256) := by
    rw [Nat.mul_assoc, Nat.mul_comm q, ← Nat.mul_assoc (256 ^ (k - j - 1)), ← Nat.pow_succ, ← Nat.mul_assoc, ← Nat.pow_add, show j + (k - j - 1).succ = k by omega]
  rw [e, Nat.mul_div_cancel_left _ (Nat.pow_pos (by decide))]
  simp
/-- the first bytes of a right label, and nothing behind them -/
theorem lab_split {b n k : Nat} (hb : b < 2 ^ 64) (hn : n ≤ 64) (hk : k = (n + 7) / 8) (hh : headN b n = b) : valB ((bytesN 8 b).take k) * 256 ^ (8 - k) = b := by
  have hk8 : k ≤ 8 := by omega
  have hsp : bytesN 8 b = (bytesN 8 b).take k ++ (bytesN 8 b).drop k := (List.take_append_drop _ _).symm
  have hv := valB_bytes (k := 8) (v := b) hb
  have hlen : ((bytesN 8 b).drop k).length = 8 - k := by rw [List.length_drop, bytesN_len]
  have happ : ∀ l r : List UInt8, valB (l ++ r) = valB l * 256 ^ r.length + valB r := by
    intro l r
    unfold valB
    rw [List.foldl_append, valB_foldl]
    rfl
  rw [hsp, happ, hlen] at hv
  have hz : valB ((bytesN 8 b).drop k) = 0 := by
    have hmod : b % 256 ^ (8 - k) = 0 := by
      unfold headN at hh
      rw [← pow256]
      have hd : 2 ^ (8 * (8 - k)) ∣ 2 ^ (64 - n) := Nat.pow_dvd_pow 2 (by omega)
      have : 2 ^ (64 - n) ∣ b := ⟨b / 2 ^ (64 - n), by rw [Nat.mul_comm]; exact hh.symm⟩
      exact Nat.mod_eq_zero_of_dvd (Nat.dvd_trans hd this)
    have hall : ∀ c ∈ (bytesN 8 b).drop k, c = 0 := by
      intro c hc
      obtain ⟨i, hi⟩ := List.getElem?_of_mem hc
      rw [List.getElem?_drop] at hi
      have hlt : k + i < 8 := by
        have := (List.getElem?_eq_some_iff.1 hi).1
        rwa [bytesN_len] at this
      rw [bytesN_get _ _ _ hlt] at hi
      injection hi with hi
      rw [← hi]
      exact bytes_zero hmod (by omega)
    have zero : ∀ l : List UInt8, (∀ c ∈ l, c = 0) → valB l = 0 := by
      intro l
      induction l with
      | nil => intro _; rfl
      | cons c l ih =>
        intro h
        rw [valB_cons, h c (by simp), ih fun x hx => h x (List.mem_cons_of_mem _ hx)]
        simp
    exact zero _ hall
  rw [hz, Nat.add_zero] at hv
  exact hv
theorem isL_iff (l : Lab) : isL l = true ↔ (0 ≤ l.len ∧ l.len ≤ 64) ∧ (headN l.bits.toNat l.len.toNat : Int) = l.bits := by
  simp [isL, Bool.and_eq_true]
theorem decL_put {l : Lab} (hl : isL l = true) (hb : U64 l.bits) (r : List UInt8) : decL (labL l ++ r) = .ok (l, r) := by
  obtain ⟨⟨h0, h1⟩, h2⟩ := (isL_iff l).1 hl
  have hn : (UInt8.ofNat l.len.toNat).toNat = l.len.toNat := by rw [UInt8.toNat_ofNat', Nat.mod_eq_of_lt (by omega)]
  have hk : ((bytesN 8 l.bits.toNat).take ((l.len.toNat + 7) / 8)).length = (l.len.toNat + 7) / 8 := by rw [List.length_take, bytesN_len]; omega
  have hsp := lab_split (b := l.bits.toNat) (n := l.len.toNat) (by have := hb.1; have := hb.2; omega) (by omega) rfl (by omega)
  have hlab : labOf (UInt8.ofNat l.len.toNat) ((bytesN 8 l.bits.toNat).take ((l.len.toNat + 7) / 8)) = l := by
    obtain ⟨a, b⟩ := l
    unfold labOf
    simp only at *
    rw [hk, hn, hsp]
    congr 1
    · omega
    · have := hb.1; omega
  simp only [labL, List.cons_append, decL, hn]
  rw [if_neg (by omega), if_neg (by rw [List.length_append]; omega), List.take_left' hk, List.drop_left' hk, hlab, hl]
  rfl
theorem bytesN_shift (d : List UInt8) (j : Nat) : (bytesN (d.length + j) (valB d * 256 ^ j)).take d.length = d := by
  have : bytesN (d.length + j) (valB d * 256 ^ j) = d ++ List.replicate j 0 := by
    have e : valB (d ++ List.replicate j 0) = valB d * 256 ^ j := by
      have hz : ∀ j, valB (List.replicate j (0 : UInt8)) = 0 := by
        intro j
        induction j with
        | zero => rfl
        | succ j ih => rw [List.replicate_succ, valB_cons, ih]; simp
      unfold valB
      rw [List.foldl_append, valB_foldl, hz, List.length_replicate]
      rfl
    rw [← e]
    have := bytesN_val (d ++ List.replicate j 0)
    simpa using this
  rw [this, List.take_left]
theorem decL_ok {s : List UInt8} {l : Lab} {r : List UInt8} (h : decL s = .ok (l, r)) : s = labL l ++ r ∧ isL l = true ∧ U64 l.bits := by
  unfold decL at h
  split at h
  · cases h
  · rename_i n t
    split at h
    · cases h
    · rename_i hn
      split at h
      · cases h
      · rename_i hl
        split at h
        · rename_i hi
          injection h with h; injection h with h1 h2; subst h1; subst h2
          have hlen : (t.take ((n.toNat + 7) / 8)).length = (n.toNat + 7) / 8 := by rw [List.length_take]; omega
          refine ⟨?_, hi, ?_⟩
          · have := bytesN_shift (t.take ((n.toNat + 7) / 8)) (8 - (n.toNat + 7) / 8)
            rw [hlen, show (n.toNat + 7) / 8 + (8 - (n.toNat + 7) / 8) = 8 by omega] at this
            unfold labL labOf
            simp only [Int.toNat_natCast, hlen]
            rw [this, List.cons_append, List.take_append_drop]
            simp
          · unfold labOf U64
            simp only [hlen]
            have h1 := valB_lt (t.take ((n.toNat + 7) / 8))
            rw [hlen] at h1
            have h2 := Nat.mul_lt_mul_of_pos_right h1 (Nat.pow_pos (n := 8 - (n.toNat + 7) / 8) (by decide : 0 < 256))
            rw [← Nat.pow_add, show (n.toNat + 7) / 8 + (8 - (n.toNat + 7) / 8) = 8 by omega] at h2
            constructor
            · omega
            · have : (256 : Nat) ^ 8 = 18446744073709551616 := by decide
              omega
        · cases h
end Go.Proofs.YtkamdppnnhjajaaDoor
